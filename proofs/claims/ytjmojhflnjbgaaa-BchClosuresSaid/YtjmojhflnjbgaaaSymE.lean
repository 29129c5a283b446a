/-
  THE RULES, GO ON. One sentence: arithmetic, reads, new memory, stores, calls.
  Conditions: none. Plain theorems on the model's own words; no program is named here.
-/
import Derived.Test.YtjmojhflnjbgaaaSymD
import Derived.OwnWalk
namespace Go.Proofs.Ytjmojhflnjbgaaa
open Go.RowKit

section
variable {P : Program} {N : NB} {M : Nat → Prop} {w0 : World} {L : Fr} {F : List Chunk} {o : Oper} {v : Value} {x y : Operand} {t t' : TypeId}

theorem rAdd {m n : Int} (ho : o.op = .binOp .add t x y t') (hx : ev L x = some (.int .i64 m)) (hy : ev L y = some (.int .i64 n)) (h1 : -9223372036854775808 ≤ m + n) (h2 : m + n ≤ 9223372036854775807) : Stl P N M w0 o L F (.int .i64 (m + n)) :=
  stl_pure fun a hl => by simp [execOp, ho, hl.eval hx, hl.eval hy, eqGuard, binOp, Op.intArith, IntWalk.i64_in _ ⟨h1, h2⟩]
theorem rSub {m n : Int} (ho : o.op = .binOp .sub t x y t') (hx : ev L x = some (.int .i64 m)) (hy : ev L y = some (.int .i64 n)) (h1 : -9223372036854775808 ≤ m - n) (h2 : m - n ≤ 9223372036854775807) : Stl P N M w0 o L F (.int .i64 (m - n)) :=
  stl_pure fun a hl => by simp [execOp, ho, hl.eval hx, hl.eval hy, eqGuard, binOp, Op.intArith, IntWalk.i64_in _ ⟨h1, h2⟩]
theorem rMul {m n : Int} (ho : o.op = .binOp .mul t x y t') (hx : ev L x = some (.int .i64 m)) (hy : ev L y = some (.int .i64 n)) (h1 : -9223372036854775808 ≤ m * n) (h2 : m * n ≤ 9223372036854775807) : Stl P N M w0 o L F (.int .i64 (m * n)) :=
  stl_pure fun a hl => by simp [execOp, ho, hl.eval hx, hl.eval hy, eqGuard, binOp, Op.intArith, IntWalk.i64_in _ ⟨h1, h2⟩]
theorem rQuo {m n : Int} (ho : o.op = .binOp .quo t x y t') (hx : ev L x = some (.int .i64 m)) (hy : ev L y = some (.int .i64 n)) (h1 : 0 ≤ m ∧ m ≤ 9223372036854775807) (h2 : 1 ≤ n) : Stl P N M w0 o L F (.int .i64 (m / n)) :=
  stl_pure fun a hl => by
    have hn : n ≠ 0 := by omega
    simp [execOp, ho, hl.eval hx, hl.eval hy, eqGuard, binOp, Op.intDiv, hn, IntWalk.i64_quo m n ⟨h1.1, h1.2, h2⟩]
theorem rRem {m n : Int} (ho : o.op = .binOp .rem t x y t') (hx : ev L x = some (.int .i64 m)) (hy : ev L y = some (.int .i64 n)) (h1 : 0 ≤ m) (h2 : 1 ≤ n) : Stl P N M w0 o L F (.int .i64 (m % n)) :=
  stl_pure fun a hl => by
    have hn : n ≠ 0 := by omega
    simp [execOp, ho, hl.eval hx, hl.eval hy, eqGuard, binOp, Op.intDiv, hn, IntWalk.rem_in m n h1]
/-- The remainder of whatever number: its sign is the number's. -/
theorem rRemT {m n : Int} (ho : o.op = .binOp .rem t x y t') (hx : ev L x = some (.int .i64 m)) (hy : ev L y = some (.int .i64 n)) (h2 : n ≠ 0) : Stl P N M w0 o L F (.int .i64 (m.tmod n)) :=
  stl_pure fun a hl => by simp [execOp, ho, hl.eval hx, hl.eval hy, eqGuard, binOp, Op.intDiv, h2]
theorem rNeg {n : Int} (ho : o.op = .unOp .neg t x) (hx : ev L x = some (.int .i64 n)) (h1 : -9223372036854775808 ≤ -n) (h2 : -n ≤ 9223372036854775807) : Stl P N M w0 o L F (.int .i64 (-n)) :=
  stl_pure fun a hl => by
    have h3 : IntKind.i64.wrap (0 - n) = -n := by rw [IntWalk.i64_in _ ⟨by omega, by omega⟩]; omega
    simp only [execOp, ho, hl.eval hx, Op.unary, Op.intArith, h3]
    rfl
theorem rNot {p : Prop} [Decidable p] (ho : o.op = .unOp .not t x) (hx : ev L x = some (.bool (decide p))) : Stl P N M w0 o L F (.bool (decide (¬ p))) :=
  stl_pure fun a hl => by simp [execOp, ho, hl.eval hx, Op.unary]
theorem rNotB {b : Bool} (ho : o.op = .unOp .not t x) (hx : ev L x = some (.bool b)) : Stl P N M w0 o L F (.bool (!b)) :=
  stl_pure fun a hl => by simp [execOp, ho, hl.eval hx, Op.unary]

theorem rMove (ho : o.op = .move x) (hx : ev L x = some v) : Stl P N M w0 o L F v := stl_pure fun a hl => by simp only [execOp, ho, hl.eval hx]
theorem rAsg (ho : o.op = .assign x) (hx : ev L x = some v) : Stl P N M w0 o L F v := stl_pure fun a hl => by simp only [execOp, ho, hl.eval hx]
theorem cmpv {c : BinOp} {m n : Int} {b : Bool} (hc : binOp c t (.int .i64 m) (.int .i64 n) = pure (.bool b)) (hg : ∀ z z' : Operand, eqGuard c t z z' (.int .i64 m) (.int .i64 n) = pure ()) (ho : o.op = .binOp c t x y t') (hx : ev L x = some (.int .i64 m)) (hy : ev L y = some (.int .i64 n)) : Stl P N M w0 o L F (.bool b) :=
  stl_pure fun a hl => by simp only [execOp, ho, hl.eval hx, hl.eval hy, hg, hc]; rfl
theorem rLss {m n : Int} (ho : o.op = .binOp .lss t x y t') (hx : ev L x = some (.int .i64 m)) (hy : ev L y = some (.int .i64 n)) : Stl P N M w0 o L F (.bool (decide (m < n))) := cmpv rfl (fun _ _ => rfl) ho hx hy
theorem rLeq {m n : Int} (ho : o.op = .binOp .leq t x y t') (hx : ev L x = some (.int .i64 m)) (hy : ev L y = some (.int .i64 n)) : Stl P N M w0 o L F (.bool (decide (m ≤ n))) := cmpv rfl (fun _ _ => rfl) ho hx hy
theorem rGtr {m n : Int} (ho : o.op = .binOp .gtr t x y t') (hx : ev L x = some (.int .i64 m)) (hy : ev L y = some (.int .i64 n)) : Stl P N M w0 o L F (.bool (decide (m > n))) := cmpv rfl (fun _ _ => rfl) ho hx hy
theorem rGeq {m n : Int} (ho : o.op = .binOp .geq t x y t') (hx : ev L x = some (.int .i64 m)) (hy : ev L y = some (.int .i64 n)) : Stl P N M w0 o L F (.bool (decide (m ≥ n))) := cmpv rfl (fun _ _ => rfl) ho hx hy
theorem rEql {m n : Int} (ho : o.op = .binOp .eql t x y t') (hx : ev L x = some (.int .i64 m)) (hy : ev L y = some (.int .i64 n)) : Stl P N M w0 o L F (.bool (decide (m = n))) := cmpv (by simp [binOp, Op.intCmp, BEq.beq]) (fun _ _ => rfl) ho hx hy
theorem rNeq {m n : Int} (ho : o.op = .binOp .neq t x y t') (hx : ev L x = some (.int .i64 m)) (hy : ev L y = some (.int .i64 n)) : Stl P N M w0 o L F (.bool (decide (¬ m = n))) := cmpv (by simp [binOp, Op.intCmp, bne, BEq.beq]) (fun _ _ => rfl) ho hx hy
theorem rExt {vs : List Value} {i : Nat} (ho : o.op = .extract x i) (hx : ev L x = some (.tuple vs.toArray)) (hv : vs[i]? = some v) : Stl P N M w0 o L F v := stl_pure fun a hl => by
  simp [execOp, ho, hl.eval hx, Instr.extract, hv]
theorem rFun {fn : Fn} {xs ys : List Operand} {us vs : List Value} (ho : o.op = .makeFunc fn xs.toArray ys.toArray) (hx : evs L xs = some us) (hy : evs L ys = some vs) : Stl P N M w0 o L F (.func fn us.toArray vs.toArray) := stl_pure fun a hl => by
  have h1 : xs.toArray.map a.eval = us.toArray := by simp [hl.evals hx]
  have h2 : ys.toArray.map a.eval = vs.toArray := by simp [hl.evals hy]
  simp only [execOp, ho, h1, h2, Instr.makeFunc]
  rfl

/-- '||': the second limb was reckoned where the first said no. -/
theorem rOr {z : Operand} {p q : Prop} [Decidable p] [Decidable q] (ho : o.op = .pick x y z) (hx : ev L x = some (.bool (decide p))) (hy : ev L y = some (.bool true)) (hz : ev L z = some (gif (decide p == false) (.bool (decide q)))) : Stl P N M w0 o L F (.bool (decide (p ∨ q))) :=
  stl_pure fun a hl => by
    simp only [execOp, ho, hl.eval hx, hl.eval hy, hl.eval hz, asBool]
    by_cases hp : p <;> simp [hp, gif]
/-- '&&'. -/
theorem rAnd {z : Operand} {p q : Prop} [Decidable p] [Decidable q] (ho : o.op = .pick x y z) (hx : ev L x = some (.bool (decide p))) (hy : ev L y = some (gif (decide p == true) (.bool (decide q)))) (hz : ev L z = some (.bool false)) : Stl P N M w0 o L F (.bool (decide (p ∧ q))) :=
  stl_pure fun a hl => by
    simp only [execOp, ho, hl.eval hx, hl.eval hy, hl.eval hz, asBool]
    by_cases hp : p <;> simp [hp, gif]

/-- '||' and '&&' on whatever Bools. -/
theorem rOrB {z : Operand} {p q : Bool} (ho : o.op = .pick x y z) (hx : ev L x = some (.bool p)) (hy : ev L y = some (.bool true)) (hz : ev L z = some (gif (p == false) (.bool q))) : Stl P N M w0 o L F (.bool (p || q)) :=
  stl_pure fun a hl => by
    simp only [execOp, ho, hl.eval hx, hl.eval hy, hl.eval hz, asBool]
    cases p <;> simp [gif]
theorem rAndB {z : Operand} {p q : Bool} (ho : o.op = .pick x y z) (hx : ev L x = some (.bool p)) (hy : ev L y = some (gif (p == true) (.bool q))) (hz : ev L z = some (.bool false)) : Stl P N M w0 o L F (.bool (p && q)) :=
  stl_pure fun a hl => by
    simp only [execOp, ho, hl.eval hx, hl.eval hy, hl.eval hz, asBool]
    cases p <;> simp [gif]
theorem evg {g : Bool} (h : ev L x = some (gif g v)) (hg : g = true) : ev L x = some v := by rw [h, gif, if_pos hg]
theorem gl {a b : Bool} (h : (a && b) = true) : a = true := by simp at h; exact h.1
theorem gr {a b : Bool} (h : (a && b) = true) : b = true := by simp at h; exact h.2

theorem evgp {g h : Bool} (hx : ev L x = some (gif (g && h) v)) (hg : g = true) : ev L x = some (gif h v) := by rw [hx, hg]; rfl

/-! ### Reads -/
theorem run_und {d : TypeDesc} (h : P.underlying t = some d) (w : World) : (underlying t).run P w = .ok d w := run_underlying h w
theorem run_size1 {n : Nat} (h : (P.info? t).map (·.size) = some n) (w : World) : (sizeOf t).run P w = .ok n w := by
  cases hi : P.info? t with
  | none => simp [hi] at h
  | some i =>
    simp only [hi, Option.map_some, Option.some.injEq] at h
    simp [sizeOf, typeInfo, hi, h]
theorem SlTy.size {e : TypeId} {z : Value} {bytes : Nat} (h : SlTy P t e z bytes) : (P.info? e).map (·.size) = some 1 := by
  obtain ⟨i, h1, h2, h3, h4⟩ := info_parts h.inf
  simp [h1, h3]

theorem rLen {e : TypeId} {z : Value} {by_ : Nat} {A : Option Addr} {n c : Nat} (ho : o.op = .call { callee := .builtin .len, args := #[x], argTypes := #[t] }) [h : SlTy P t e z by_] (hx : ev L x = some (.slice A n c)) : Stl P N M w0 o L F (.int .i64 n) := fun a w hl _ => by
  simp [execOp, ho, resolve, invoke, builtin, Builtin.len_, hl.eval hx, run_und h.und, goInt]

def a0 : Addr := ⟨0, 0, none⟩
theorem rIdx {e : TypeId} {z : Value} {by_ : Nat} {A : Option Addr} {n c : Nat} {i : Int} {vs : List Value} (ho : o.op = .indexAddr t x y) [h : SlTy P t e z by_] (hx : ev L x = some (.slice A n c)) (hy : ev L y = some (.int .i64 i)) [hr : Rd F A vs] (h0 : 0 ≤ i) (h1 : i < n) (h2 : i < vs.length) :
    Stl P N M w0 o L F (.pointer (some ((A.getD a0).add i.toNat))) := fun a w hl hm => by
  obtain ⟨ad, rfl, _⟩ := hr.rd M w0 w hm i.toNat (by omega)
  simp [execOp, ho, hl.eval hx, hl.eval hy, Instr.indexAt, asIntOf, run_und h.und, h0, h1, run_size1 h.size]
theorem rIdxI {e : TypeId} {z : Value} {by_ : Nat} {A : Option Addr} {n c : Nat} {i : Int} {xs : List Int} (ho : o.op = .indexAddr t x y) [h : SlTy P t e z by_] (hx : ev L x = some (.slice A n c)) (hy : ev L y = some (.int .i64 i)) [hr : Rd F A (ints xs)] (h0 : 0 ≤ i) (h1 : i < n) (h2 : i < xs.length) :
    Stl P N M w0 o L F (.pointer (some ((A.getD a0).add i.toNat))) := rIdx ho (h := h) hx hy (hr := hr) h0 h1 (by simpa using h2)
theorem rIdxB {e : TypeId} {z : Value} {by_ : Nat} {A : Option Addr} {n c : Nat} {i : Int} {xs : List Bool} (ho : o.op = .indexAddr t x y) [h : SlTy P t e z by_] (hx : ev L x = some (.slice A n c)) (hy : ev L y = some (.int .i64 i)) [hr : Rd F A (bools xs)] (h0 : 0 ≤ i) (h1 : i < n) (h2 : i < xs.length) :
    Stl P N M w0 o L F (.pointer (some ((A.getD a0).add i.toNat))) := rIdx ho (h := h) hx hy (hr := hr) h0 h1 (by simpa using h2)

theorem load_cell {w : World} {ad : Addr} (h : ScTy P t) (hc : w.cell? ad = some v) : (Instr.loadAt t (.pointer (some ad))).run P w = .ok v w := by
  obtain ⟨d, hd, hn⟩ := h.und
  have hag : (isAgg t).run P w = .ok false w := by
    simp only [isAgg, Sem.run_bind, run_und hd, Result.andThen_ok]
    cases d <;> first | exact hn.elim | rfl
  simp [Instr.loadAt, Instr.sureAddr, loadVar, hag, hc]

theorem rLdI {A : Option Addr} {j : Nat} {xs : List Int} (ho : o.op = .load t x) [h : ScTy P t] (hx : ev L x = some (.pointer (some ((A.getD a0).add j)))) [hr : Rd F A (ints xs)] (hj : j < xs.length) : Stl P N M w0 o L F (.int .i64 (xs.getD j 0)) := fun a w hl hm => by
  obtain ⟨ad, rfl, hc⟩ := hr.rd M w0 w hm j (by simpa using hj)
  have hc' : w.cell? (ad.add j) = some (.int .i64 (xs.getD j 0)) := by rw [hc]; simp [ints, hj]
  have := load_cell (P := P) (t := t) h hc'
  simp only [execOp, ho, hl.eval hx, Option.getD_some, Sem.run_bind, this, Result.andThen_ok, Sem.run_pure]
theorem rLdB {A : Option Addr} {j : Nat} {xs : List Bool} (ho : o.op = .load t x) [h : ScTy P t] (hx : ev L x = some (.pointer (some ((A.getD a0).add j)))) [hr : Rd F A (bools xs)] (hj : j < xs.length) : Stl P N M w0 o L F (.bool (xs.getD j false)) := fun a w hl hm => by
  obtain ⟨ad, rfl, hc⟩ := hr.rd M w0 w hm j (by simpa using hj)
  have hc' : w.cell? (ad.add j) = some (.bool (xs.getD j false)) := by rw [hc]; simp [bools, hj]
  have := load_cell (P := P) (t := t) h hc'
  simp only [execOp, ho, hl.eval hx, Option.getD_some, Sem.run_bind, this, Result.andThen_ok, Sem.run_pure]
theorem rLdV {A : Option Addr} {j : Nat} {vs : List Value} (ho : o.op = .load t x) [h : ScTy P t] (hx : ev L x = some (.pointer (some ((A.getD a0).add j)))) [hr : Rd F A vs] (hj : vs[j]? = some v) : Stl P N M w0 o L F v := fun a w hl hm => by
  obtain ⟨hj1, hj2⟩ := List.getElem?_eq_some_iff.1 hj
  obtain ⟨ad, rfl, hc⟩ := hr.rd M w0 w hm j hj1
  rw [hj2] at hc
  have := load_cell (P := P) (t := t) h hc
  simp only [execOp, ho, hl.eval hx, Option.getD_some, Sem.run_bind, this, Result.andThen_ok, Sem.run_pure]
/-- A field behind a pointer. -/
theorem rFld {p : Addr} {f off : Nat} (ho : o.op = .fieldAddr t x f) [h : FdTy P t f off] (hx : ev L x = some (.pointer (some p))) : Stl P N M w0 o L F (.pointer (some (p.add off))) := fun a w hl _ => by
  obtain ⟨fs, fd, h1, h2, rfl, i, h3, h4⟩ := h.fd
  simp [execOp, ho, hl.eval hx, Instr.fieldAt, run_und h1, h2, Instr.sureAddr, fieldPlace, sizeOf, typeInfo, h3, h4]
theorem rLdF {p : Addr} {j : Nat} {vs : List Value} (ho : o.op = .load t x) [h : ScTy P t] (hx : ev L x = some (.pointer (some (p.add j)))) [hr : Rd F (some p) vs] (hj : vs[j]? = some v) : Stl P N M w0 o L F v :=
  rLdV (A := some p) ho (h := h) hx (hr := hr) hj
theorem rLd0 {p : Addr} {vs : List Value} (ho : o.op = .load t x) [h : ScTy P t] (hx : ev L x = some (.pointer (some p))) [hr : Rd F (some p) (v :: vs)] : Stl P N M w0 o L F v := fun a w hl hm => by
  obtain ⟨ad, h1, hc⟩ := hr.rd M w0 w hm 0 (by simp)
  simp only [Option.some.injEq] at h1
  subst h1
  have hc' : w.cell? p = some v := by simpa [Addr.add] using hc
  have := load_cell (P := P) (t := t) h hc'
  simp only [execOp, ho, hl.eval hx, Sem.run_bind, this, Result.andThen_ok, Sem.run_pure]
theorem loadCellsFrom_ok {w : World} {ad : Addr} : ∀ (vs : List Value) (i : Nat) (acc : Array Value), (∀ (j : Nat) (hj : j < vs.length), w.cell? (ad.add (i + j)) = some vs[j]) → (loadCellsFrom ad i vs.length acc).run P w = .ok (acc ++ vs.toArray) w
  | [], i, acc, _ => by simp [loadCellsFrom]
  | v :: vs, i, acc, h => by
    have h0 := h 0 (by simp)
    simp only [Nat.add_zero, List.getElem_cons_zero] at h0
    simp only [List.length_cons, loadCellsFrom, Sem.run_bind, run_load, h0, Result.andThen_ok]
    rw [loadCellsFrom_ok vs (i + 1) (acc.push v) (fun j hj => by have := h (j + 1) (by simpa using hj); simpa [Nat.add_assoc, Nat.add_comm 1 j] using this)]
    simp
/-- A struct read whole. -/
theorem rLdS {p : Addr} {n : Nat} {vs : List Value} (ho : o.op = .load t x) [h : AgTy P t n] (hx : ev L x = some (.pointer (some p))) [hr : Rd F (some p) vs] (hn : vs.length = n) : Stl P N M w0 o L F (.agg vs.toArray) := fun a w hl hm => by
  obtain ⟨fs, hu⟩ := h.und
  have hs := hr.rd M w0 w hm
  have hag : (isAgg t).run P w = .ok true w := by simp [isAgg, run_und hu]
  have hld : (loadCells p n).run P w = .ok vs.toArray w := by
    subst hn
    have := loadCellsFrom_ok (P := P) (w := w) (ad := p) vs 0 #[] (fun j hj => by
      obtain ⟨ad, h1, hc⟩ := hs j hj
      simp only [Option.some.injEq] at h1
      subst h1
      simpa using hc)
    simpa [loadCells] using this
  simp [execOp, ho, hl.eval hx, Instr.loadAt, Instr.sureAddr, loadVar, hag, run_size1 h.inf, hld]
theorem rMin {m n : Int} {tys : Array TypeId} (ho : o.op = .call { callee := .builtin .min, args := #[x, y], argTypes := tys }) (hx : ev L x = some (.int .i64 m)) (hy : ev L y = some (.int .i64 n)) : Stl P N M w0 o L F (.int .i64 (min m n)) := stl_pure fun a hl => by
  have : (if n < m then n else m) = min m n := by omega
  simp [execOp, ho, resolve, invoke, builtin, Builtin.min_, Builtin.min2, hl.eval hx, hl.eval hy, this]
theorem rMax {m n : Int} {tys : Array TypeId} (ho : o.op = .call { callee := .builtin .max, args := #[x, y], argTypes := tys }) (hx : ev L x = some (.int .i64 m)) (hy : ev L y = some (.int .i64 n)) : Stl P N M w0 o L F (.int .i64 (max m n)) := stl_pure fun a hl => by
  have : (if n > m then n else m) = max m n := by omega
  simp [execOp, ho, resolve, invoke, builtin, Builtin.max_, Builtin.max2, hl.eval hx, hl.eval hy, this]
theorem rNil {p : Addr} (ho : o.op = .nilCheck x) (hx : ev L x = some (.pointer (some p))) : Stl P N M w0 o L F (.pointer (some p)) := stl_pure fun a hl => by
  simp [execOp, ho, hl.eval hx]
end
end Go.Proofs.Ytjmojhflnjbgaaa

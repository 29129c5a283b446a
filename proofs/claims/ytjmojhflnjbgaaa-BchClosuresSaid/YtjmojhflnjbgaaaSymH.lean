/-
  STRUCTS. One sentence: a struct built, stored whole, compared; numbers converted; results that stand in variables.
  Conditions: none. Plain theorems on the model's own words; no program is named here.
-/
import Derived.Test.YtjmojhflnjbgaaaSymG
import Derived.Laws.Tables
import Derived.Laws.StructEq
set_option linter.unusedSimpArgs false
set_option linter.unusedVariables false
namespace Go.Proofs.Ytjmojhflnjbgaaa
open Go.RowKit

class LenIs (vs : List Value) (n : outParam Nat) : Prop where
  len : vs.length = n
instance : LenIs [] 0 := ⟨rfl⟩
instance (v : Value) (vs : List Value) (n : Nat) [h : LenIs vs n] : LenIs (v :: vs) (n + 1) := ⟨by simp [h.len]⟩
section
variable {P : Program} {N : NB} {M : Nat → Prop} {w0 : World} {L : Fr} {F F' : List Chunk} {K : Fr → List Chunk → Prop} {b : Bool} {o : Oper} {v z : Value} {x y : Operand} {t t' e : TypeId} {bytes : Nat}

def evp (L : Fr) : List (Nat × Operand) → Option (List (Nat × Value))
  | [] => some []
  | (i, x) :: r => match ev L x, evp L r with
    | some v, some vs => some ((i, v) :: vs)
    | _, _ => none
theorem evp_ok {a : Act} (hl : Holds N a L) : ∀ (ps : List (Nat × Operand)) (vs : List (Nat × Value)), evp L ps = some vs → ps.map (fun p => (p.1, a.eval p.2)) = vs
  | [], vs, h => by simp [evp] at h; subst h; rfl
  | (i, x) :: r, vs, h => by
    simp only [evp] at h
    split at h
    · rename_i v us h1 h2
      simp only [Option.some.injEq] at h
      subst h
      simp [hl.eval h1, evp_ok hl r us h2]
    · cases h
/-! the places of a struct type's fields, its zero value's cells, and parts put into them: reckoned by instances, so that what comes out stands written out -/
class BdTy (P : Program) (t : TypeId) (z : outParam (List Value)) (pl : outParam (List (Nat × Nat))) : Prop where
  blt : ∀ parts, P.built t parts = Instr.fill (pl.toArray[·]?) z.toArray parts
def places (P : Program) (t : TypeId) : Option (List (Nat × Nat)) := (P.fieldsOf t).toList.mapM (fun f => (P.info? f.type).map fun i => (f.offset, i.size))
theorem bdTy_of {z : Value} {zs : List Value} {pl : List (Nat × Nat)} (h1 : (P.info? t).bind (·.zero) = some z) (h2 : P.underlying t = some (.struct (P.fieldsOf t))) (h3 : places P t = some pl) (h4 : z.cells = zs.toArray) : BdTy P t zs pl := ⟨fun parts => by
  unfold places at h3
  cases hi : P.info? t with
  | none => simp [hi] at h1
  | some it =>
    simp only [hi, Option.bind_some] at h1
    simp only [Program.built, hi, h2, h1, h3, h4]⟩
class OneV (v : Value) : Prop where
  one : v.cells = #[v]
instance (k : IntKind) (n : Int) : OneV (.int k n) := ⟨rfl⟩
instance (a : Bool) : OneV (.bool a) := ⟨rfl⟩
instance (a : Option Addr) (n c : Nat) : OneV (.slice a n c) := ⟨rfl⟩
instance (a : Option Addr) : OneV (.pointer a) := ⟨rfl⟩
class GetP (pl : List (Nat × Nat)) (i : Nat) (off size : outParam Nat) : Prop where
  get : pl[i]? = some (off, size)
instance GetP.head (o s : Nat) (r : List (Nat × Nat)) : GetP ((o, s) :: r) 0 o s := ⟨rfl⟩
instance GetP.tail (q : Nat × Nat) (r : List (Nat × Nat)) (i o s : Nat) [h : GetP r i o s] : GetP (q :: r) (i + 1) o s := ⟨by simpa using h.get⟩
class Put (cs : List Value) (off : Nat) (vs : List Value) (out : outParam (List Value)) : Prop where
  le : off + vs.length ≤ cs.length
  put : ∀ k, out[k]? = if off ≤ k ∧ k < off + vs.length then vs[k - off]? else cs[k]?
instance Put.nil (cs : List Value) : Put cs 0 [] cs := ⟨by simp, fun k => by rw [if_neg (by simp)]⟩
instance Put.cons (c : Value) (cs : List Value) (v : Value) (vs out : List Value) [h : Put cs 0 vs out] : Put (c :: cs) 0 (v :: vs) (v :: out) := ⟨by have := h.le; simp at this ⊢; omega, fun k => by
  cases k with
  | zero => simp
  | succ k => have := h.put k; simp at this ⊢; rw [this]⟩
instance Put.skip (c : Value) (cs : List Value) (off : Nat) (v : Value) (vs out : List Value) [h : Put cs off (v :: vs) out] : Put (c :: cs) (off + 1) (v :: vs) (c :: out) := ⟨by have := h.le; simp at this ⊢; omega, fun k => by
  cases k with
  | zero => simp
  | succ k =>
    have := h.put k
    simp only [List.getElem?_cons_succ, this, List.length_cons]
    by_cases hk : off ≤ k ∧ k < off + (vs.length + 1)
    · rw [if_pos hk, if_pos (by omega)]
      congr 1
      omega
    · rw [if_neg hk, if_neg (by omega)]⟩
theorem put_get : ∀ (vs : List Value) (n off : Nat) (cs : Array Value), off + n + vs.length ≤ cs.size → ((vs.zipIdx n).foldl (fun cs q => cs.setIfInBounds (off + q.2) q.1) cs).size = cs.size ∧ ∀ k, ((vs.zipIdx n).foldl (fun cs q => cs.setIfInBounds (off + q.2) q.1) cs)[k]? = if off + n ≤ k ∧ k < off + n + vs.length then vs[k - (off + n)]? else cs[k]?
  | [], n, off, cs, _ => ⟨rfl, fun k => by rw [if_neg (by simp)]; rfl⟩
  | v :: vs, n, off, cs, h => by
    simp only [List.length_cons] at h
    obtain ⟨h1, h2⟩ := put_get vs (n + 1) off (cs.setIfInBounds (off + n) v) (by simp; omega)
    refine ⟨by simpa [List.zipIdx_cons] using h1, fun k => ?_⟩
    simp only [List.zipIdx_cons, List.foldl_cons, h2 k, List.length_cons]
    by_cases hk : off + n ≤ k ∧ k < off + n + (vs.length + 1)
    · rw [if_pos hk]
      by_cases hk2 : k = off + n
      · subst hk2
        rw [if_neg (by omega), Array.getElem?_setIfInBounds_self_of_lt (by omega)]
        simp
      · rw [if_pos (by omega), show k - (off + n) = (k - (off + (n + 1))) + 1 by omega, List.getElem?_cons_succ]
    · rw [if_neg hk, if_neg (by omega), Array.getElem?_setIfInBounds_ne (by omega)]
class Fill (pl : List (Nat × Nat)) (cs : List Value) (ps : List (Nat × Value)) (out : outParam (List Value)) : Prop where
  fill : Instr.fill (pl.toArray[·]?) cs.toArray ps = some out.toArray
instance Fill.nil (pl : List (Nat × Nat)) (cs : List Value) : Fill pl cs [] cs := ⟨rfl⟩
theorem fill_step {pl : List (Nat × Nat)} {cs vs cs' out : List Value} {i off size : Nat} {ps : List (Nat × Value)} (g : pl[i]? = some (off, size)) (hv : v.cells = vs.toArray) (hs : vs.length = size) (h : Put cs off vs cs') (k : Instr.fill (pl.toArray[·]?) cs'.toArray ps = some out.toArray) :
    Instr.fill (pl.toArray[·]?) cs.toArray ((i, v) :: ps) = some out.toArray := by
  have h1 := h.le
  have h2 := put_get vs 0 off cs.toArray (by simpa using h1)
  have h3 : Array.foldl (fun cs x => cs.setIfInBounds (off + x.snd) x.fst) cs.toArray vs.toArray.zipIdx = cs'.toArray := by
    apply Array.ext_getElem?
    intro k
    have h4 := h2.2 k
    rw [← Array.foldl_toList, Array.toList_zipIdx, h4]
    have h5 := h.put k
    simp only [Nat.add_zero, List.getElem?_toArray]
    rw [h5]
  have hg : pl.toArray[i]? = some (off, size) := by simpa using g
  unfold Instr.fill
  simp only [hg, hv, h3, k]
  rw [if_neg (by simp; omega)]
instance Fill.one (pl : List (Nat × Nat)) (cs cs' out : List Value) (i off : Nat) (v : Value) (ps : List (Nat × Value)) [g : GetP pl i off 1] [o : OneV v] [h : Put cs off [v] cs'] [k : Fill pl cs' ps out] : Fill pl cs ((i, v) :: ps) out := ⟨fill_step g.get o.one rfl h k.fill⟩
instance Fill.agg (pl : List (Nat × Nat)) (cs cs' out : List Value) (i off size : Nat) (vs : List Value) (ps : List (Nat × Value)) [g : GetP pl i off size] [h : Put cs off vs cs'] [k : Fill pl cs' ps out] [l : LenIs vs size] : Fill pl cs ((i, .agg vs.toArray) :: ps) out := ⟨fill_step g.get rfl l.len h k.fill⟩
/-- A struct built out of parts. -/
theorem rBuild {ps : List (Nat × Operand)} {us : List (Nat × Value)} {zs cells : List Value} {pl : List (Nat × Nat)} (ho : o.op = .build t ps.toArray) (hx : evp L ps = some us) [hb : BdTy P t zs pl] [hf : Fill pl zs us cells] : Stl P N M w0 o L F (.agg cells.toArray) := fun a w hl _ => by
  have h1 : (ps.toArray.map fun p => (p.1, a.eval p.2)) = us.toArray := by simp [evp_ok hl ps us hx]
  have h2 := run_build (P := P) w t us.toArray cells.toArray (by rw [hb.blt]; exact hf.fill)
  have h3 : execOp a.eval o = (do pure (.value (← Instr.build t us.toArray))) := by
    rw [← h1]
    simp only [execOp, ho]
  rw [h3]
  simp only [Sem.run_bind, h2, Result.andThen_ok, Sem.run_pure]

/-! a struct whose cells are ints alone -/
def isI64 : Option TypeDesc → Bool
  | some (.int .i64) => true
  | _ => false
theorem isI64_ok {d : Option TypeDesc} (h : isI64 d = true) : d = some (.int .i64) := by
  unfold isI64 at h
  split at h
  · rfl
  · cases h
def intsAt (P : Program) : List Field → Nat → Bool
  | [], _ => true
  | f :: r, k => f.name != "_" && f.offset == k && isI64 (P.underlying f.type) && intsAt P r (k + 1)
class EqTy (P : Program) (t : TypeId) (n : outParam Nat) : Prop where
  und : P.underlying t = some (.struct (P.fieldsOf t))
  fds : intsAt P (P.fieldsOf t).toList 0 = true
  len : (P.fieldsOf t).toList.length = n
  stood : P.stoodInHeld t = false
  guard : P.eqGuardType P.depth t = false
theorem eqFields_ints (d : Nat) (w : World) : ∀ (fs : List Field) (k : Nat) (xs ys : List Int), intsAt P fs k = true → k + fs.length = xs.length → k + fs.length = ys.length →
    (Op.eqFields (d + 1) (ints xs).toArray (ints ys).toArray fs).run P w = .ok (decide (xs.drop k = ys.drop k)) w
  | [], k, xs, ys, _, h1, h2 => by
    simp only [List.length_nil, Nat.add_zero] at h1 h2
    have e1 : xs.drop k = [] := by rw [h1]; exact List.drop_length
    have e2 : ys.drop k = [] := by rw [h2]; exact List.drop_length
    rw [e1, e2]
    rfl
  | f :: fs, k, xs, ys, hf, h1, h2 => by
    simp only [intsAt, Bool.and_eq_true, bne_iff_ne, beq_iff_eq] at hf
    obtain ⟨⟨⟨hn, ho⟩, hu0⟩, hr⟩ := hf
    have hu := isI64_ok hu0
    simp only [List.length_cons] at h1 h2
    have hk1 : k < xs.length := by omega
    have hk2 : k < ys.length := by omega
    have hag : (isAgg f.type).run P w = .ok false w := by simp [isAgg, run_und hu]
    have p1 : (part f.type (ints xs).toArray f.offset).run P w = .ok (.int .i64 xs[k]) w := by simp [part, hag, ho, ints, hk1]
    have p2 : (part f.type (ints ys).toArray f.offset).run P w = .ok (.int .i64 ys[k]) w := by simp [part, hag, ho, ints, hk2]
    have p3 := run_equalIn_int (P := P) w d f.type .i64 .i64 xs[k] ys[k] hu
    have p4 := eqFields_ints d w fs (k + 1) xs ys hr (by omega) (by omega)
    simp only [Op.eqFields, if_pos hn, Sem.run_bind, p1, p2, p3, Result.andThen_ok]
    have e1 := List.drop_eq_getElem_cons hk1
    have e2 := List.drop_eq_getElem_cons hk2
    have key : (xs.drop k = ys.drop k) = (xs[k] = ys[k] ∧ xs.drop (k + 1) = ys.drop (k + 1)) := by rw [e1, e2]; exact propext List.cons_eq_cons
    by_cases he : xs[k] = ys[k]
    · simp [key, he, p4]
    · simp [key, he]
/-- '==' on structs of ints. -/
theorem rEqS {n : Nat} {xs ys : List Int} (ho : o.op = .binOp .eql t x y t') [h : EqTy P t n] (hx : ev L x = some (.agg (ints xs).toArray)) (hy : ev L y = some (.agg (ints ys).toArray)) (h1 : xs.length = n) (h2 : ys.length = n) : Stl P N M w0 o L F (.bool (decide (xs = ys))) := fun a w hl _ => by
  have hlen := h.len
  have h3 : (Op.equalIn 10000 t (.agg (ints xs).toArray) (.agg (ints ys).toArray)).run P w = .ok (decide (xs = ys)) w := by
    rw [run_equalIn_struct w 9999 t _ _ h.und h.stood]
    have := eqFields_ints (P := P) 9998 w (P.fieldsOf t).toList 0 xs ys h.fds (by omega) (by omega)
    simpa using this
  have h4 := run_eqGuard_agg (P := P) w .eql t x y (ints xs).toArray (ints ys).toArray h.guard
  have h5 := run_eql_struct (P := P) w t (ints xs).toArray (ints ys).toArray
  rw [h3] at h5
  simp only [execOp, ho, hl.eval hx, hl.eval hy, Sem.run_bind, h4, Result.andThen_ok, h5, Sem.run_pure]

/-- A conversion between kinds of numbers, where the number fits. -/
theorem rConv {k k' : IntKind} {n : Int} (ho : o.op = .convert t t' x) {d : TypeDesc} (hd : P.underlying t = some d) (hu : P.underlying t' = some (.int k')) (hx : ev L x = some (.int k n)) (hw : k'.wrap n = n) : Stl P N M w0 o L F (.int k' n) := fun a w hl _ => by
  simp only [execOp, ho, hl.eval hx, Sem.run_bind]
  have : (convert t t' (.int k n)).run P w = .ok (.int k' n) w := by
    simp only [convert, Sem.run_bind, run_und hd, run_und hu, Result.andThen_ok]
    cases d <;> simp [Conv.intToInt, hw]
  rw [this]
  simp

/-- A struct stored whole. -/
theorem eStS {p : Addr} {vs us : List Value} {n : Nat} (ho : o.op = .store t x y) (hd : o.dst = none) [h : AgTy P t n] (hx : ev L x = some (.pointer (some p))) (hy : ev L y = some (.agg us.toArray)) [hp : PkBlk F p e vs F'] (h12 : (Nat.beq vs.length n && Nat.beq us.length n) = true) (hv : us.all (·.oneCell') = true)
    (hK : K L (blk p e us :: F')) : Eff P N M w0 false o L F K := eff_skip hd fun a w hl hm => by
  have h1 : vs.length = n := Nat.eq_of_beq_eq_true (by simp only [Bool.and_eq_true] at h12; exact h12.1)
  have h2 : us.length = n := Nat.eq_of_beq_eq_true (by simp only [Bool.and_eq_true] at h12; exact h12.2)
  have hmp := hm.perm hp.perm
  have hb : (blk p e vs).sat w := hmp.sat _ (List.mem_cons_self ..)
  have hrun := run_storeCells_from (P := P) p.block e us 0 vs.toArray w hb.2 (by simp; omega) (fun u hu => List.all_eq_true.1 hv u hu)
  simp only [List.take_zero, List.nil_append] at hrun
  refine ⟨w.setRow p.block us.toArray, ?_, _, hmp.change (by exact trivial) (d := blk p e us) ⟨rfl, rfl, rfl, by simp [World.setRow], fun k hk hc => setRow_other w p.block k us.toArray (fun e => hc e.symm)⟩ ⟨hb.1, setRow_heap w p.block _ _ _ _ hb.2⟩ (fun b' hb' => .inl hb'), hK⟩
  have hpe : (⟨p.block, 0, none⟩ : Addr) = p := hb.1.symm
  rw [hpe] at hrun
  have hsz : (sizeOf t).run P w = .ok n w := run_size1 h.inf w
  have hst : (Instr.storeAt t (.pointer (some p)) (.agg us.toArray)).run P w = .ok () (w.setRow p.block us.toArray) := by
    simp only [Instr.storeAt, Instr.sureAddr, Sem.run_bind, Sem.run_pure, Result.andThen_ok, storeVar, hsz, Value.cells]
    simp [h2, hrun]
  simp only [execOp, ho, hl.eval hx, hl.eval hy, Sem.run_bind, hst, Result.andThen_ok, Sem.run_pure]

/-! ### Results that stand in variables -/
class CellV (P : Program) (F : List Chunk) (p : Addr) (t : TypeId) (v : outParam Value) : Prop where
  ld : ∀ (M : Nat → Prop) (w0 w : World), Mem M w0 w F → (loadVar t p).run P w = .ok v w
theorem cellS {p : Addr} {n : Nat} {vs : List Value} [h : AgTy P t n] [hr : Rd F (some p) vs] (hn : vs.length = n) : CellV P F p t (.agg vs.toArray) := ⟨fun M w0 w hm => by
  obtain ⟨fs, hu⟩ := h.und
  have hs := hr.rd M w0 w hm
  have hag : (isAgg t).run P w = .ok true w := by simp [isAgg, run_und hu]
  have hld : (loadCells p n).run P w = .ok vs.toArray w := by
    subst hn
    have := loadCellsFrom_ok (P := P) (w := w) (ad := p) vs 0 #[] (fun j hj => by
      obtain ⟨ad, h1, hc⟩ := hs j hj
      simp only [Option.some.injEq] at h1
      subst h1
      simpa using hc)
    simpa [loadCells] using this
  simp [loadVar, hag, run_size1 h.inf, hld]⟩
theorem cell1 {p : Addr} {v : Value} {vs : List Value} [h : ScTy P t] [hr : Rd F (some p) (v :: vs)] : CellV P F p t v := ⟨fun M w0 w hm => by
  obtain ⟨d, hd, hn⟩ := h.und
  have hag : (isAgg t).run P w = .ok false w := by
    simp only [isAgg, Sem.run_bind, run_und hd, Result.andThen_ok]
    cases d <;> first | exact hn.elim | rfl
  obtain ⟨ad, h1, hc⟩ := hr.rd M w0 w hm 0 (by simp)
  simp only [Option.some.injEq] at h1
  subst h1
  have hc' : w.cell? p = some v := by simpa [Addr.add] using hc
  simp [loadVar, hag, hc']⟩

inductive ResC (P : Program) (L : Fr) (F : List Chunk) : List ResultVar → List Value → Prop
  | nil : ResC P L F [] []
  | tmp {t : Tmp} {r : List ResultVar} {v : Value} {vs : List Value} : Fr.get L t = some v → ResC P L F r vs → ResC P L F (.tmp t :: r) (v :: vs)
  | cell {b : Tmp} {t : TypeId} {r : List ResultVar} {v : Value} {vs : List Value} {p : Addr} : Fr.get L b = some (.pointer (some p)) → CellV P F p t v → ResC P L F r vs → ResC P L F (.cell b t :: r) (v :: vs)
theorem resC_ok {M : Nat → Prop} {a : Act} {w0 w : World} (hl : Holds N a L) (hm : Mem M w0 w F) : ∀ (rs : List ResultVar) (vs : List Value), ResC P L F rs vs →
    (rs.mapM (fun r => match r with | .tmp t => pure (a.tmps.getD t undef) | .cell b t => do loadVar t (← asAddr (a.tmps.getD b undef)) : ResultVar → Sem Value)).run P w = .ok vs w
  | _, _, .nil => rfl
  | _, _, .tmp (t := t) (v := v) h1 h2 => by
    have := resC_ok hl hm _ _ h2
    simp only [List.mapM_cons, Sem.run_bind, Sem.run_pure, Result.andThen_ok, this, (hl.get t v h1).1]
  | _, _, .cell (b := b) (p := p) h1 h2 h3 => by
    have := resC_ok hl hm _ _ h3
    have ha : (asAddr (a.tmps.getD b undef)).run P w = .ok p w := by rw [(hl.get b _ h1).1]; rfl
    simp only [List.mapM_cons, Sem.run_bind, Sem.run_pure, Result.andThen_ok, this, ha, h2.ld _ _ _ hm]
def tup : List Value → Value
  | [v] => v
  | vs => .tuple vs.toArray
theorem results_okC {M : Nat → Prop} {fn : Func} {a : Act} {w0 w : World} {vs : List Value} (hl : Holds N a L) (hm : Mem M w0 w F) (hv : ResC P L F fn.results.toList vs) : (results fn a.tmps).run P w = .ok (tup vs) w := by
  have h3 := resC_ok (P := P) hl hm _ vs hv
  have h4 : (fn.results.mapM (fun r => match r with | .tmp t => pure (a.tmps.getD t undef) | .cell b t => do loadVar t (← asAddr (a.tmps.getD b undef)) : ResultVar → Sem Value)).run P w = .ok vs.toArray w := by
    rw [Array.mapM_eq_mapM_toList]
    simp only [Sem.run_map, h3, Result.andThen_ok]
  unfold results
  simp only [Sem.run_bind]
  erw [h4]
  clear hv h3 h4
  match vs with
  | [] => rfl
  | [u] => rfl
  | u :: u' :: r => rfl
/-- What stands at the end of a body some of whose results are variables. -/
def retC (P : Program) (rs : Array ResultVar) (R : Value → List Chunk → Prop) (e : Exit) (L : Fr) (F : List Chunk) : Prop :=
  (match e with | .normal => True | .ret => True | _ => False) ∧ ∃ vs Fo, ResC P L F rs.toList vs ∧ R (tup vs) Fo ∧ CSub F Fo ∧ AllEx Fo

theorem pure_ofC {f : FuncId} {fn : Func} {c : Code} {args : List Value} {G : List Chunk} {R : Value → List Chunk → Prop} (N : Nat) (hf : P.funcs[f]? = some fn) (hb : fn.body = some c) (hn : fn.ntmps = N) (hle : Nat.ble args.length N = true) (he : Enters P f) (hG : NoEx G)
    (h : ∀ w0, Tr P ⟨N, none⟩ (fun _ => False) w0 c (numb 0 args) G (retC P fn.results R)) : Pure P f args.toArray G R := ⟨he, fun w hs => by
  refine (callsIn_WR (rd := none) (n := 2)).1 (callsIn_of_wp_marks hf hb trivial ?_)
  refine wpIn_mono (h w [] (fun _ => False) w (Bs.refl _ _) _ w (enter_holds hn (Nat.le_of_ble_eq_true hle)) (enter_mem hG hs)) fun e a' w' ⟨ds, M1, w1, hb, L', F', h1, h2, hq⟩ => ?_
  obtain ⟨hq1, vs, Fo, hv, hR, hsub, hall⟩ := hq
  have hend := leave (fn := fn) (P := P) (R := R) hb h1 h2 (fun w2 _ hm2 => by
    have h3 := resC_ok (P := P) h1 hm2 _ vs hv
    have h4 : (fn.results.mapM (fun r => match r with | .tmp t => pure (a'.tmps.getD t undef) | .cell b t => do loadVar t (← asAddr (a'.tmps.getD b undef)) : ResultVar → Sem Value)).run P w2 = .ok vs.toArray w2 := by
      rw [Array.mapM_eq_mapM_toList]
      simp only [Sem.run_map, h3, Result.andThen_ok]
    unfold results
    simp only [Sem.run_bind]
    erw [h4]
    match vs with
    | [] => rfl
    | [u] => rfl
    | u :: u' :: r => rfl : ∀ w2 : World, (∀ c ∈ F', c.sat w2) → Mem (fun _ => False) w w2 F' → (results fn a'.tmps).run P w2 = .ok (tup vs) w2) hR hsub hall
  cases e with
  | normal => exact hend
  | ret => exact hend
  | _ => exact hq1.elim⟩
end
end Go.Proofs.Ytjmojhflnjbgaaa

/-
  FACTORPERIODS, PART 4 OF 7. One sentence: the texts behind the law FactorPeriods, put together.
  Conditions: each theorem's own, written out in it.
-/
import Derived.Scope
import Derived.Test.YtbhoeaijpnjgdaaK3
set_option linter.unusedSimpArgs false
set_option linter.unusedVariables false
set_option linter.unusedSectionVars false
namespace Go.Proofs.Ytbhoeaijpnjgdaa
open Go.RowKit
section
variable {P : Program} {b : Frame} {a : Act} {k : List Item} {cs : List Frame} {w : World} {Q : Exit → Act → World → Prop} {Fc : Fence} {nn : Nat}
theorem stepR_scope {c : Code} : step P (lone (b.atR a (.code (.scope c) :: k)) cs w) = .next (lone (b.atR a (.code c :: .inScope c :: k)) cs w) :=
 step_lone_go (by simp [stepG, stepG.exec, Frame.atR, Frame.at])
theorem stepR_inScope {c : Code} : step P (lone (b.atR a (.inScope c :: k)) cs w) = .next (lone (b.atR a k) cs w) :=
 step_lone_go (by simp [stepG, stepG.exec, Frame.atR, Frame.at])
theorem wpIn_scope {c : Code} (h : c.wpIn Fc nn P (Exit.noGoto Q) a w) : (Code.scope c).wpIn Fc nn P Q a w := by
 intro b k cs hro hb hr
 have h0 : (lone (b.atR a (.code (.scope c) :: k)) cs w).fenced P Fc := fenced_calm hb hr rfl
 obtain ⟨e, a₁, w₁, hq, harr⟩ := h b (.inScope c :: k) cs hro hb hr
 cases e with
 | normal => exact ⟨.normal, a₁, w₁, hq, .head h0 stepR_scope (StepsIn.trans harr (.one (fenced_calm hb hr rfl) stepR_inScope))⟩
 | exit id =>
  have hx : exitTo id (.inScope c :: k) = exitTo id k := by simp [exitTo]
  exact ⟨.exit id, a₁, w₁, hq, fun k' hk => .head h0 stepR_scope (harr.1 k' (by rw [hx]; exact hk)),
   fun hr' hk => let ⟨k₁, h1, h2⟩ := harr.2 hr' (by rw [hx]; exact hk); ⟨k₁, h1, .head h0 stepR_scope h2⟩⟩
 | goto l => exact hq.elim
 | ret => exact ⟨_, a₁, w₁, hq, .of_steps (.one h0 stepR_scope) harr⟩
 | panic ch => exact ⟨_, a₁, w₁, hq, .of_steps (.one h0 stepR_scope) harr⟩
 | outgrown => exact ⟨_, a₁, w₁, hq, .of_steps (.one h0 stepR_scope) harr⟩
end
def noGo (Q : Exit → Fr → List Chunk → Prop) : Exit → Fr → List Chunk → Prop
 | .goto _ => fun _ _ => False
 | e => Q e
theorem tr_scope {P : Program} {N : NR} {M : Nat → Prop} {w0 : World} {L : Fr} {F : List Chunk} {c : Code} {Q : Exit → Fr → List Chunk → Prop} (h : Tr P N M w0 c L F (noGo Q)) : Tr P N M w0 (.scope c) L F Q := fun ds M1 w1 hb a w hl hm => by
 refine wpIn_scope (wpIn_mono (h ds M1 w1 hb a w hl hm) fun e a' w' hq => ?_)
 obtain ⟨ds', M2, w2, hb', L', F', h1, h2, h3⟩ := hq
 cases e with
 | goto l => exact h3.elim
 | _ => exact ⟨ds', M2, w2, hb', L', F', h1, h2, h3⟩
def prs (ps : List (Value × Value)) : List Value := ps.flatMap fun p => [p.1, p.2]
@[simp] theorem prs_length : ∀ ps, (prs ps).length = ps.length * 2
 | [] => rfl
 | p :: ps => by
  have := prs_length ps
  unfold prs at this ⊢
  rw [List.flatMap_cons, List.length_append, this, List.length_cons]; simp; omega
theorem prs_app (ps qs : List (Value × Value)) : prs (ps ++ qs) = prs ps ++ prs qs := by unfold prs; rw [List.flatMap_append]
def prD : Value × Value := (.int .i64 0, .int .i64 0)
theorem prs_get : ∀ (ps : List (Value × Value)) (j : Nat), j < ps.length → (prs ps)[j * 2]? = some (ps.getD j prD).1 ∧ (prs ps)[j * 2 + 1]? = some (ps.getD j prD).2
 | [], j, h => by simp at h
 | p :: ps, 0, _ => ⟨rfl, rfl⟩
 | p :: ps, j + 1, h => by
  have := prs_get ps j (by simpa using h)
  unfold prs at this ⊢
  rw [List.flatMap_cons, List.getD_cons_succ, show (j + 1) * 2 = j * 2 + 2 by omega, show j * 2 + 2 + 1 = j * 2 + 1 + 2 by omega]
  simpa using this
def ow2 (A : Option Addr) (e : TypeId) (cap : Nat) (ps : List (Value × Value)) : Chunk where
 foot b := ∃ ad, A = some ad ∧ ad.block = b
 excl := True
 sat w := w.ownsRow 0 e 2 (.slice A ps.length cap) ps.length (prs ps)
 loc w w' h hs := by
  obtain ⟨h0, h1⟩ := hs
  refine ⟨h0, ?_⟩
  rcases h1 with h1 | ⟨g, c, cur, hv, hb, hh, hr⟩
  ·exact .inl h1
  ·refine .inr ⟨g, c, cur, hv, hb, ?_, hr⟩
   simp only [Value.slice.injEq] at hv
   rw [h g ⟨_, hv.1, rfl⟩]
   exact hh
 cel w b hs hb := by
  obtain ⟨ad, rfl, rfl⟩ := hb
  rcases hs.2 with ⟨h1, _⟩ | ⟨g, c, cur, hv, hb, hh, _⟩
  ·cases h1
  ·simp only [Value.slice.injEq, Option.some.injEq] at hv
   rw [hv.1]
   exact ⟨_, hh, rfl⟩
theorem ow2_reads {A : Option Addr} {e : TypeId} {cap : Nat} {ps : List (Value × Value)} {w : World} (h : (ow2 A e cap ps).sat w) : (ro A (prs ps)).sat w := by
 intro j hj
 rcases h.2 with ⟨_, h0⟩ | ⟨g, c, cur, hv, _⟩
 ·rw [prs_length] at hj; omega
 ·simp only [Value.slice.injEq] at hv
  obtain ⟨rfl, _⟩ := hv
  exact ⟨_, rfl, World.ownsRow.cells h (g := g) rfl j _ (List.getElem?_eq_getElem hj)⟩
instance Rd.ofOw2 (F : List Chunk) (A : Option Addr) (e : TypeId) (cap : Nat) (ps : List (Value × Value)) : Rd (ow2 A e cap ps :: F) A (prs ps) := ⟨fun _ _ _ hm => ow2_reads (hm.sat _ (List.mem_cons_self ..)), fun b hb => ⟨_, List.mem_cons_self .., hb.2⟩⟩
class PkO2 (F : List Chunk) (A : Option Addr) (e : outParam TypeId) (cap : outParam Nat) (ps : outParam (List (Value × Value))) (F' : outParam (List Chunk)) : Prop where
 perm : F.Perm (ow2 A e cap ps :: F')
instance PkO2.head (F : List Chunk) (A : Option Addr) (e : TypeId) (cap : Nat) (ps : List (Value × Value)) : PkO2 (ow2 A e cap ps :: F) A e cap ps F := ⟨List.Perm.refl _⟩
instance PkO2.tail (c : Chunk) (F F' : List Chunk) (A : Option Addr) (e : TypeId) (cap : Nat) (ps : List (Value × Value)) [h : PkO2 F A e cap ps F'] : PkO2 (c :: F) A e cap ps (c :: F') := ⟨(h.perm.cons c).trans (List.Perm.swap ..)⟩
class S2Ty (P : Program) (t : TypeId) (e : outParam TypeId) (bytes : outParam Nat) : Prop where
 und : P.underlying t = some (.slice e)
 inf : ∃ z, (P.info? e).map (fun i => (i.zero, i.size, i.bytes)) = some (some z, 2, bytes) ∧ z.cells.size = 2
section
variable {P : Program} {N : NB} {M : Nat → Prop} {w0 : World} {L : Fr} {F F' : List Chunk} {K : Fr → List Chunk → Prop} {b : Bool} {o : Oper} {v : Value} {x y : Operand} {t t' e : TypeId} {k bytes : Nat}
theorem nil_mem2 (e : TypeId) {w : World} (hm : Mem M w0 w F) : Mem M w0 w (ow2 none e 0 [] :: F) := by
 refine ⟨hm.upd, fun c hc => ?_, List.pairwise_cons.2 ⟨fun c _ _ b' hb' => ?_, hm.sep⟩, fun c hc hex b' hb' => ?_⟩
 ·rcases List.mem_cons.1 hc with rfl | hc
  ·exact World.ownsRow_nil _ _ _ _
  ·exact hm.sat c hc
 ·obtain ⟨ad, h1, _⟩ := hb'; cases h1
 ·rcases List.mem_cons.1 hc with rfl | hc
  ·obtain ⟨ad, h1, _⟩ := hb'; cases h1
  ·exact hm.own c hc hex b' hb'
theorem tr_nil2 {N : NR} (e : TypeId) {c : Code} {Q : Exit → Fr → List Chunk → Prop} (h : Tr P N M w0 c L (ow2 none e 0 [] :: F) Q) : Tr P N M w0 c L F Q := fun ds M1 w1 hb a w hl hm => h ds M1 w1 hb a w hl (nil_mem2 e hm)
theorem rIdxT {A : Option Addr} {n c : Nat} {i : Int} {vs : List Value} (ho : o.op = .indexAddr t x y) [h : SsTy P t e 2] (hx : ev L x = some (.slice A n c)) (hy : ev L y = some (.int .i64 i)) [hr : Rd F A vs] (h0 : 0 ≤ i) (h1 : i < n) (h2 : i.toNat * 2 < vs.length) : Stl P N M w0 o L F (.pointer (some ((A.getD a0).add (i.toNat * 2)))) := fun a w hl hm => by
 obtain ⟨ad, rfl, _⟩ := hr.rd M w0 w hm _ h2
 simp [execOp, ho, hl.eval hx, hl.eval hy, Instr.indexAt, asIntOf, run_und h.und, h0, h1, run_size1 h.size]
theorem rLdT {A : Option Addr} {j : Nat} {ps : List (Value × Value)} (ho : o.op = .load t x) [h : AgTy P t 2] (hx : ev L x = some (.pointer (some ((A.getD a0).add (j * 2))))) [hr : Rd F A (prs ps)] (hj : j < ps.length) : Stl P N M w0 o L F (.agg #[(ps.getD j prD).1, (ps.getD j prD).2]) := fun a w hl hm => by
 obtain ⟨fs, hu⟩ := h.und
 have hrd := hr.rd M w0 w hm
 have hg := prs_get ps j hj
 obtain ⟨ad, rfl, _⟩ := hrd (j * 2) (by rw [prs_length]; omega)
 have hag : (isAgg t).run P w = .ok true w := by simp [isAgg, run_und hu]
 have hld : (loadCells (ad.add (j * 2)) 2).run P w = .ok #[(ps.getD j prD).1, (ps.getD j prD).2] w := by
  have h0 := loadCellsFrom_ok (P := P) (w := w) (ad := ad.add (j * 2)) [(ps.getD j prD).1, (ps.getD j prD).2] 0 #[] (fun i hi => by
   have hi2 : i < 2 := by simpa using hi
   obtain ⟨ad', h1, hc⟩ := hrd (j * 2 + i) (by rw [prs_length]; omega)
   simp only [Option.some.injEq] at h1
   subst h1
   rw [Nat.zero_add, add_add, hc]
   have h3 : (prs ps)[j * 2 + i]? = some ([(ps.getD j prD).1, (ps.getD j prD).2][i]) := by
    rcases Nat.lt_or_ge i 1 with h4 | h4
    ·have : i = 0 := by omega
     subst this; exact hg.1
    ·have : i = 1 := by omega
     subst this; exact hg.2
   rw [← h3, List.getElem?_eq_getElem])
  simpa [loadCells] using h0
 have hsz := run_size1 h.inf w
 simp [execOp, ho, hl.eval hx, Instr.loadAt, Instr.sureAddr, loadVar, hag, hsz, hld]
theorem eApp2 {A : Option Addr} {B : Addr} {n c cap : Nat} {ps : List (Value × Value)} {u0 u1 : Value} (ho : o.op = .call { callee := .builtin .append, args := #[x, y], argTypes := #[t, t] }) {d : Nat} (hdd : o.dst = some d) (hd : Nat.ble (d + 1) N.n = true) [h : S2Ty P t e bytes]
  (hx : ev L x = some (.slice A n cap)) (hy : ev L y = some (.slice (some B) 1 c)) [hp : PkO2 F A e cap ps F'] [hr : Rd F (some B) [u0, u1]] (hn : n = ps.length) (hone : [u0, u1].all (·.oneCell') = true) (hb : (ps.length + 1) * bytes ≤ 140737488355328) (hlen : ps.length + 1 ≤ 1000000000)
  (hK : ∀ (A' : Option Addr) (cap' : Nat), K (addL d (.slice A' (ps ++ [(u0, u1)]).length cap') L) (ow2 A' e cap' (ps ++ [(u0, u1)]) :: F')) : Eff P N M w0 false o L F K := fun a w hl hm => by
 subst hn
 obtain ⟨z, hzi, hzs⟩ := h.inf
 obtain ⟨i, hi, hz, hs, hby⟩ : ∃ i, P.info? e = some i ∧ i.zero = some z ∧ i.size = 2 ∧ i.bytes = bytes := by
  cases hi : P.info? e with
  | none => simp [hi] at hzi
  | some i =>
   simp only [hi, Option.map_some, Option.some.injEq, Prod.mk.injEq] at hzi
   exact ⟨i, rfl, hzi.1, hzi.2.1, hzi.2.2⟩
 have hmp := hm.perm hp.perm
 have hown : w.ownsRow 0 e 2 (.slice A ps.length cap) ps.length (prs ps) := hmp.sat _ (List.mem_cons_self ..)
 have hcells := hr.rd M w0 w hm
 obtain ⟨v', w', h1, h2, h3, _, h5⟩ := run_append_own_at (P := P) w 0 t o.type e i z 2 bytes h.und hi hz hs hby hzs (by omega) (.slice A ps.length cap) ps.length (prs ps) hown B 1 c [u0, u1] rfl
  (fun j u hu => by
   obtain ⟨hj, rfl⟩ := List.getElem?_eq_some_iff.1 hu
   obtain ⟨ad', h1, h2⟩ := hcells j hj
   simp only [Option.some.injEq] at h1
   subst h1
   exact h2) (fun u hu => List.all_eq_true.1 hone u hu) (by simp only [maxLen]; omega) hb (Nat.zero_le _)
 obtain ⟨A', cap', rfl, h6⟩ : ∃ A' cap', v' = .slice A' (ps.length + 1) cap' ∧ (∀ ad, A' = some ad → A = some ad ∨ ad.block = w.heap.size) := by
  rcases h2.2 with ⟨rfl, h0⟩ | ⟨g, cp, cur, rfl, _⟩
  ·omega
  ·refine ⟨_, _, rfl, fun ad had => ?_⟩
   simp only [Option.some.injEq] at had
   subst had
   rcases h5 with h5 | h5
   ·left
    rcases hown.2 with ⟨h3, _⟩ | ⟨g', cp', cur', h3, _⟩
    ·rw [h3] at h5; simp [Value.ownBlock] at h5
    ·simp only [Value.slice.injEq] at h3
     obtain ⟨rfl, _⟩ := h3
     simp only [Value.ownBlock, Option.some.injEq] at h5
     rw [h5]
   ·right
    simpa [Value.ownBlock] using h5
 have hrun : (execOp a.eval o).run P w = .ok (.value (.slice A' (ps.length + 1) cap')) w' := by
  simp only [execOp, ho, resolve, invoke, builtin, Sem.run_bind, Sem.run_pure, Result.andThen_ok, List.map_toArray, List.map_cons, List.map_nil, hl.eval hx, hl.eval hy, h1]
 simp only [Oper.wp, hrun, Oper.upon_value]
 have hK' := hK A' cap'
 rw [List.length_append] at hK'
 refine ⟨fun hc => absurd hc (by simp), _, _, hl.add hdd hd _, ?_, hK'⟩
 have hlen' : (ps ++ [(u0, u1)]).length = ps.length + 1 := by simp
 refine hmp.change (by exact trivial) ⟨h3.os, h3.tape, h3.output, h3.size, fun k hk hc => h3.block k hk (fun hkb => hc ?_)⟩ (by
  show w'.ownsRow 0 e 2 (.slice A' (ps ++ [(u0, u1)]).length cap') (ps ++ [(u0, u1)]).length (prs (ps ++ [(u0, u1)]))
  rw [hlen', prs_app]; exact h2) (fun b' hb' => ?_)
 ·cases A with
  | none => simp [Value.ownBlock] at hkb
  | some ad => exact ⟨ad, rfl, by simpa [Value.ownBlock] using hkb.symm⟩
 ·obtain ⟨ad, rfl, rfl⟩ := hb'
  rcases h6 ad rfl with h7 | h7
  ·exact .inl ⟨ad, h7, rfl⟩
  ·exact .inr (by omega)
theorem eLit3I {n0 n1 n2 : Int} {x2 : Operand} {z : Value} (ho : o.op = .buildSlice t 3 #[(0, x), (1, y), (2, x2)]) {d : Nat} (hdd : o.dst = some d) (hd : Nat.ble (d + 1) N.n = true) [h : SlTy P t e z bytes] (hx : ev L x = some (.int .i64 n0)) (hy : ev L y = some (.int .i64 n1)) (hx2 : ev L x2 = some (.int .i64 n2)) (hK : ∀ A : Option Addr, K (addL d (.slice A 3 3) L) (ow A e 3 (ints [n0, n1, n2]) :: F)) : Eff P N M w0 b o L F K :=
 eLit_of (e := e) (vs := [.int .i64 n0, .int .i64 n1, .int .i64 n2]) ho hdd hd rfl (by omega) (fun a w hl => by
  refine run_lit w h (by omega) (by omega) ?_
  simp [hl.eval hx, hl.eval hy, hl.eval hx2, Instr.fill, int_cells, Array.range_succ, range0]) hK
end
end Go.Proofs.Ytbhoeaijpnjgdaa

set_option maxRecDepth 100000
namespace Go.Proofs.Ytbhoeaijpnjgdaa
open Go.RowKit
instance tyPw : AgTy Try.prog 124 2 := agTy_of (by kernel_rfl)
instance tyPw0 : FdTy Try.prog 124 0 0 := ⟨by kernel_rfl⟩
instance tyPw1 : FdTy Try.prog 124 1 1 := ⟨by kernel_rfl⟩
instance zrPw : ZrTy Try.prog 124 [.int .i64 0, .int .i64 0] := ⟨.agg #[.int .i64 0, .int .i64 0], by kernel_rfl, rfl⟩
instance bdPw : BdTy Try.prog 124 [.int .i64 0, .int .i64 0] [(0, 1), (1, 1)] := bdTy_of (z := .agg #[.int .i64 0, .int .i64 0]) (by kernel_rfl) (by kernel_rfl) (by kernel_rfl) rfl
instance ssPw : SsTy Try.prog 118 124 2 := ⟨by kernel_rfl, by kernel_rfl⟩
instance s2Pw : S2Ty Try.prog 118 124 16 := ⟨by kernel_rfl, .agg #[.int .i64 0, .int .i64 0], by kernel_rfl, rfl⟩
instance tySPw : ScTy Try.prog 118 := scTy_of (by kernel_rfl)
def pws (ps : List (Int × Int)) : List (Value × Value) := ps.map fun q => (.int .i64 q.1, .int .i64 q.2)
@[simp] theorem pws_length (ps : List (Int × Int)) : (pws ps).length = ps.length := by simp [pws]
theorem pws_get (ps : List (Int × Int)) (j : Nat) (h : j < ps.length) : (pws ps).getD j prD = (.int .i64 (ps.getD j (0, 0)).1, .int .i64 (ps.getD j (0, 0)).2) := by
 unfold pws
 rw [List.getD_eq_getElem?_getD, List.getElem?_map, List.getD_eq_getElem?_getD, List.getElem?_eq_getElem h]; rfl
def PrL (n : Nat) (ps : List (Int × Int)) : Prop := (∀ q ∈ ps, 2 ≤ q.1) ∧ ∀ r : Nat, (∃ q ∈ ps, q.1 = (r : Int)) ↔ (2 ≤ r ∧ (∀ u, 2 ≤ u → u ∣ r → u = r) ∧ r ∣ n)
theorem prL_one : PrL 1 [] := ⟨fun q h => by simp at h, fun r => ⟨fun ⟨q, h, _⟩ => by simp at h, fun ⟨h, _, h1⟩ => by have := Nat.dvd_one.1 h1; omega⟩⟩
theorem prL_two : PrL 2 [(2, 1)] := ⟨fun q h => by simp at h; subst h; exact Int.le_refl _, fun r => by
 constructor
 ·rintro ⟨q, h, h1⟩
  simp at h; subst h
  have hr : r = 2 := by simp at h1; omega
  subst hr
  refine ⟨Nat.le_refl _, fun u h2 hu => ?_, Nat.dvd_refl _⟩
  have := Nat.le_of_dvd (by omega) hu
  omega
 ·rintro ⟨h, _, h1⟩
  have := Nat.le_of_dvd (by omega) h1
  exact ⟨(2, 1), by simp, by simp; omega⟩⟩
theorem num_least2_ent : Enters Try.prog 145 := enters_of Try.func145 (by kernel_rfl) (by kernel_rfl)
theorem num_least2  :
  Pure Try.prog 145 #[.int .i64 2] [] (isV (.int .i64 2)) := by
 refine pure_of (args := [.int .i64 2]) 46 Try.func145 rfl rfl rfl num_least2_ent trivial (fun w0 => ?_)
 refine tS ?_
 refine tR fun _ _ _ => ?_
 refine pV ?_
 refine tr_scope ?_
 refine tS ?_
 refine tS ?_
 refine tR fun _ _ _ => ?_
 refine eV (eLit3I rfl rfl rfl rfl rfl rfl (fun A1 => ?_))
 refine sV (rLen rfl rfl) ?_
 refine pV ?_
 refine tB ?_
 refine tr_loop1 (fun (k : Int) => [(12, .int .i64 k), (10, .slice A1 3 3), (11, .int .i64 3), (0, .int .i64 2)]) (fun (k : Int) => [ow A1 3 3 (ints [2, 3, 5])]) (fun (k : Int) => k = 0) (fun (k : Int) => 0) (0) ⟨rfl, rfl, rfl, rfl, trivial⟩ (by first | exact cs _ _ | exact CSub.refl _) (rfl) (fun k hI => ?_)
 subst hI
 refine tS ?_
 refine tR fun _ _ _ => ?_
 refine pV ?_
 refine tS ?_
 refine tC rfl (fun h2 => ?_) (fun h2 => ?_)
 ·try simp only [zbA] at h2
  refine tK ?_
  refine tS ?_
  refine tB ?_
  refine tS ?_
  refine tR fun _ _ _ => ?_
  refine sV (rIdxI rfl rfl rfl (by omega) (by omega) (by simp)) ?_
  refine sV (rLdI rfl rfl (by simp)) ?_
  refine pV ?_
  refine tS ?_
  rw [show ([2, 3, 5] : List Int).getD (Int.toNat 0) 0 = 2 from rfl]
  refine tR fun _ _ _ => ?_
  iterate 2 refine pV ?_
  refine sV (rRem rfl rfl rfl (by omega) (by omega)) ?_
  refine pV ?_
  refine tC rfl (fun h4 => ?_) (fun h4 => ?_)
  ·try simp only [zbA] at h4
   refine tS ?_
   refine tR fun _ _ _ => ?_
   iterate 2 refine pV ?_
   exact tr_ret ⟨trivial, _, _, rfl, ⟨rfl, rfl⟩, CSub.nil _, trivial⟩
  ·try simp only [zbA] at h4
   exact absurd (by decide) h4 --done
 ·try simp only [zbA] at h2
  omega --done
theorem num_Factor1_ent : Enters Try.prog 101 := enters_of Try.func101 (by kernel_rfl) (by kernel_rfl)
theorem num_Factor1  :
  Pure Try.prog 101 #[.int .i64 1] [] (one (fun v ch => ∃ B c, v = .tuple #[.slice B ([] : List (Int × Int)).length c, .int .i64 0] ∧ ch = ow2 B 124 c (pws []))) := by
 refine pure_of (args := [.int .i64 1]) 32 Try.func101 rfl rfl rfl num_Factor1_ent trivial (fun w0 => ?_)
 refine tS ?_
 refine tR fun _ _ _ => ?_
 iterate 2 refine pV ?_
 refine tS ?_
 refine tS ?_
 refine tR fun _ _ _ => ?_
 refine pV ?_
 refine eV (eCallV rfl rfl rfl (num_in 1 1) ⟨rfl, rfl, trivial⟩ ?_)
 refine sV (rNotB rfl rfl) ?_
 refine tC rfl (fun h1 => ?_) (fun h1 => ?_)
 ·try simp only [zbA] at h1
  simp at h1 --done
 ·try simp only [zbA] at h1
  refine tK ?_
  refine tS ?_
  refine tR fun _ _ _ => ?_
  refine pV ?_
  refine tS ?_
  refine tB ?_
  refine tr_nil2 124 ?_
  refine tr_loop1 (fun (n : Int) => [(0, .int .i64 n), (4, .slice none 0 0), (2, .slice none 0 0), (3, .int .i64 0)]) (fun (n : Int) => [ow2 none 124 0 []]) (fun (n : Int) => n = 1) (fun (n : Int) => 0) (1) ⟨rfl, rfl, rfl, rfl, trivial⟩ (by first | exact cs _ _ | exact CSub.refl _) (rfl) (fun n hI => ?_)
  subst hI
  refine tS ?_
  refine tS ?_
  refine tR fun _ _ _ => ?_
  iterate 2 refine pV ?_
  refine tC rfl (fun h4 => ?_) (fun h4 => ?_)
  ·try simp only [zbA] at h4
   simp at h4 --done
  ·try simp only [zbA] at h4
   refine tE ?_
   refine tS ?_
   refine tr_chunks [ow2 none 124 0 (pws [])] (CSub.refl _) ?_
   refine tR fun _ _ _ => ?_
   iterate 3 refine pV ?_
   exact tr_ret ⟨trivial, _, _, rfl, ⟨_, rfl, none, 0, rfl, rfl⟩, cs _ _, trivial, trivial⟩
theorem num_Factor2_ent : Enters Try.prog 101 := enters_of Try.func101 (by kernel_rfl) (by kernel_rfl)
theorem num_Factor2  :
  Pure Try.prog 101 #[.int .i64 2] [] (one (fun v ch => ∃ B c, v = .tuple #[.slice B ([(2, 1)] : List (Int × Int)).length c, .int .i64 0] ∧ ch = ow2 B 124 c (pws [(2, 1)]))) := by
 refine pure_of (args := [.int .i64 2]) 32 Try.func101 rfl rfl rfl num_Factor2_ent trivial (fun w0 => ?_)
 refine tS ?_
 refine tR fun _ _ _ => ?_
 iterate 2 refine pV ?_
 refine tS ?_
 refine tS ?_
 refine tR fun _ _ _ => ?_
 refine pV ?_
 refine eV (eCallV rfl rfl rfl (num_in 2 1) ⟨rfl, rfl, trivial⟩ ?_)
 refine sV (rNotB rfl rfl) ?_
 refine tC rfl (fun h1 => ?_) (fun h1 => ?_)
 ·try simp only [zbA] at h1
  simp at h1 --done
 ·try simp only [zbA] at h1
  refine tK ?_
  refine tS ?_
  refine tR fun _ _ _ => ?_
  refine pV ?_
  refine tS ?_
  refine tB ?_
  refine tr_nil2 124 ?_
  refine tr_loop4 (fun (n : Int) (B : Option Addr) (cb : Nat) (ps : List (Int × Int)) => [(0, .int .i64 n), (4, .slice B ps.length cb), (2, .slice none 0 0), (3, .int .i64 0)]) (fun (n : Int) (B : Option Addr) (cb : Nat) (ps : List (Int × Int)) => [ow2 B 124 cb (pws ps)]) (fun (n : Int) (B : Option Addr) (cb : Nat) (ps : List (Int × Int)) => (n = 2 ∧ ps = []) ∨ (n = 1 ∧ ps = [(2, 1)])) (fun (n : Int) (B : Option Addr) (cb : Nat) (ps : List (Int × Int)) => n.toNat) (2) (none) (0) ([]) ⟨rfl, rfl, rfl, rfl, trivial⟩ (by first | exact cs _ _ | exact CSub.refl _) (.inl ⟨rfl, rfl⟩) (fun n B cb ps hI => ?_)
  refine tS ?_
  refine tS ?_
  refine tR fun _ _ _ => ?_
  iterate 2 refine pV ?_
  refine tC rfl (fun h4 => ?_) (fun h4 => ?_)
  ·try simp only [zbA] at h4
   refine tK ?_
   refine tB ?_
   refine tS ?_
   obtain ⟨rfl, rfl⟩ : n = 2 ∧ ps = [] := hI.resolve_right (fun h => by omega)
   refine tR fun _ _ _ => ?_
   refine pV ?_
   refine eV (eCallV rfl rfl rfl (num_least2) ⟨rfl, trivial⟩ ?_)
   refine pV ?_
   refine tS ?_
   refine tR fun _ _ _ => ?_
   refine pV ?_
   refine sV (rBuild rfl rfl) ?_
   refine eV (eAlloc rfl rfl rfl (fun p6 => ?_))
   refine eV (eStS rfl rfl rfl rfl rfl rfl ?_)
   refine tS ?_
   refine tB ?_
   refine tr_loop2 (fun (t : Int) (e : Int) => [(0, .int .i64 t), (4, .slice B ([] : List (Int × Int)).length cb), (5, .int .i64 2), (2, .slice none 0 0), (3, .int .i64 0), (6, .pointer (some p6))]) (fun (t : Int) (e : Int) => [blk p6 124 [.int .i64 2, .int .i64 e], ow2 B 124 cb (pws [])]) (fun (t : Int) (e : Int) => (t = 2 ∧ e = 0) ∨ (t = 1 ∧ e = 1)) (fun (t : Int) (e : Int) => t.toNat) (2) (0) ⟨rfl, rfl, rfl, rfl, rfl, rfl, trivial⟩ (by first | exact cs _ _ | exact CSub.refl _) (.inl ⟨rfl, rfl⟩) (fun t e hI => ?_)
   refine tS ?_
   refine tS ?_
   refine tR fun _ _ _ => ?_
   iterate 2 refine pV ?_
   refine sV (rRem rfl rfl rfl (by omega) (by omega)) ?_
   refine pV ?_
   refine tC rfl (fun h7 => ?_) (fun h7 => ?_)
   ·try simp only [zbA] at h7
    refine tK ?_
    refine tB ?_
    refine tS ?_
    obtain ⟨rfl, rfl⟩ : t = 2 ∧ e = 0 := by omega
    refine tR fun _ _ _ => ?_
    refine sV (rFld rfl rfl) ?_
    refine sV (rLdF rfl rfl rfl) ?_
    refine sV (rAdd rfl rfl rfl (by omega) (by omega)) ?_
    refine sV (rFld rfl rfl) ?_
    refine eV (eStF rfl rfl rfl rfl rfl (by simp) rfl rfl ?_)
    refine tR fun _ _ _ => ?_
    iterate 2 refine pV ?_
    refine sV (rQuo rfl rfl rfl (by omega) (by omega)) ?_
    refine pV ?_
    refine ⟨1, 1, ⟨rfl, rfl, rfl, rfl, rfl, rfl, trivial⟩, by first | exact cs _ _ | exact CSub.refl _, ?_⟩
    exact ⟨.inr ⟨rfl, rfl⟩, by omega⟩
   ·try simp only [zbA] at h7
    refine tE ?_
    obtain ⟨rfl, rfl⟩ : t = 1 ∧ e = 1 := hI.resolve_left (fun h => h7 (by rw [h.1]; rfl))
    refine tR fun _ _ _ => ?_
    refine pV ?_
    refine sV (rLdS rfl rfl rfl) ?_
    refine eV (eLitS rfl rfl rfl rfl (fun p10 => ?_))
    refine eV (eApp2 rfl rfl rfl rfl rfl (by first | rfl | simp | omega) rfl (by first | (simp; done) | (simp; omega)) (by first | (simp; done) | (simp; omega)) (fun A10a c10a => ?_))
    refine pV ?_
    rw [show pws [] ++ [((Value.int .i64 2 : Value), (Value.int .i64 1 : Value))] = pws [(2, 1)] from rfl]
    refine ⟨1, A10a, c10a, [(2, 1)], ⟨rfl, rfl, rfl, rfl, trivial⟩, by first | exact cs _ _ | exact CSub.refl _, ?_⟩
    exact ⟨.inr ⟨rfl, rfl⟩, by omega⟩
  ·try simp only [zbA] at h4
   refine tE ?_
   refine tS ?_
   refine tR fun _ _ _ => ?_
   iterate 3 refine pV ?_
   obtain ⟨rfl, rfl⟩ : n = 1 ∧ ps = [(2, 1)] := hI.resolve_left (fun h => h4 (by rw [h.1]; decide))
   exact tr_ret ⟨trivial, _, _, rfl, ⟨_, rfl, B, cb, rfl, rfl⟩, cs _ _, trivial, trivial⟩
def facE (l : Nat) : Int := if l = 0 then 7 else if l > 257 then 8 else 0
theorem facE_ok {l : Nat} (h : facE l = 0) : 1 ≤ l ∧ l ≤ 257 := by
 unfold facE at h
 split at h
 ·omega
 ·split at h <;> omega
theorem ne_of_len {p m : Int} {mod : List Int} [hF : IsF p m mod] {f : Po (El p m mod)} (h : 1 ≤ Po.len f) : f ≠ 0 := Po.len_pos_iff.1 (by omega)
theorem fac_enterE_ent : Enters Try.prog 48 := enters_of Try.func48 (by kernel_rfl) (by kernel_rfl)
theorem fac_enterE (g : GfM) {p m : Int} {mod : List Int} [hF : IsF p m mod] (hg : GOk g p m mod) (A : Option Addr) (n c : Nat) (a : List Int) (hn : n = a.length) (ha9 : a.length ≤ 17592186044415) (he : facE (Po.len (pol a : Po (El p m mod))) ≠ 0) :
  Pure Try.prog 48 #[.pointer (some g.p), .slice A n c] [gfR g, ro A (ints a)] (isV (.tuple #[.slice none 0 0, .int .i64 (facE (Po.len (pol a : Po (El p m mod))))])) := by
 have hil := il_length (pol a : Po (El p m mod))
 have hile := il_le (p := p) (m := m) (mod := mod) a
 refine pure_of (args := [.pointer (some g.p), .slice A n c]) 20 Try.func48 rfl rfl rfl fac_enterE_ent ⟨id, id, trivial⟩ (fun w0 => ?_)
 refine tS ?_
 refine tR fun _ _ _ => ?_
 iterate 2 refine pV ?_
 refine tS ?_
 refine tR fun _ _ _ => ?_
 iterate 2 refine pV ?_
 refine eV (eCall1 rfl rfl rfl (poly_CanonE g hg A n c a hn (by omega)) ⟨rfl, rfl, trivial⟩ ?_)
 rintro _ _ ⟨B1, c1, rfl, hc1, rfl⟩
 refine pV ?_
 refine tS ?_
 refine tB ?_
 refine tS ?_
 refine tR fun _ _ _ => ?_
 refine pV ?_
 refine sV (rLen rfl rfl) ?_
 iterate 2 refine pV ?_
 refine tC rfl (fun h2 => ?_) (fun h2 => ?_)
 ·try simp only [zbA] at h2
  refine tS ?_
  refine tR fun _ _ _ => ?_
  iterate 2 refine pV ?_
  exact tr_ret ⟨trivial, _, _, rfl, ⟨by rw [facE, if_pos (by omega)], rfl⟩, CSub.nil _, trivial⟩
 ·try simp only [zbA] at h2
  refine tS ?_
  refine tR fun _ _ _ => ?_
  refine pV ?_
  refine sV (rLen rfl rfl) ?_
  refine sV (rSub rfl rfl rfl (by omega) (by omega)) ?_
  iterate 2 refine pV ?_
  refine tC rfl (fun h4 => ?_) (fun h4 => ?_)
  ·try simp only [zbA] at h4
   refine tS ?_
   refine tR fun _ _ _ => ?_
   iterate 2 refine pV ?_
   exact tr_ret ⟨trivial, _, _, rfl, ⟨by rw [facE, if_neg (by omega), if_pos (by omega)], rfl⟩, CSub.nil _, trivial⟩
  ·try simp only [zbA] at h4
   refine tK ?_
   refine tS ?_
   refine tR fun _ _ _ => ?_
   iterate 3 refine pV ?_
   exact absurd (by rw [facE, if_neg (by omega), if_neg (by omega)]) he
theorem fac_enter_ent : Enters Try.prog 48 := enters_of Try.func48 (by kernel_rfl) (by kernel_rfl)
theorem fac_enter (g : GfM) {p m : Int} {mod : List Int} [hF : IsF p m mod] (hg : GOk g p m mod) (A : Option Addr) (n c : Nat) (a : List Int) (hn : n = a.length) (ha9 : a.length ≤ 17592186044415) (he : facE (Po.len (pol a : Po (El p m mod))) = 0) :
  Pure Try.prog 48 #[.pointer (some g.p), .slice A n c] [gfR g, ro A (ints a)] (one (fun v ch => ∃ B cap, v = .tuple #[.slice B (il (pol a : Po (El p m mod))).length cap, .int .i64 0] ∧ (il (pol a : Po (El p m mod))).length ≤ cap ∧ ch = ow B 3 cap (ints (il (pol a : Po (El p m mod)))))) := by
 have hil := il_length (pol a : Po (El p m mod))
 have hle := facE_ok he
 refine pure_of (args := [.pointer (some g.p), .slice A n c]) 20 Try.func48 rfl rfl rfl fac_enter_ent ⟨id, id, trivial⟩ (fun w0 => ?_)
 refine tS ?_
 refine tR fun _ _ _ => ?_
 iterate 2 refine pV ?_
 refine tS ?_
 refine tR fun _ _ _ => ?_
 iterate 2 refine pV ?_
 refine eV (eCall1 rfl rfl rfl (poly_CanonE g hg A n c a hn (by omega)) ⟨rfl, rfl, trivial⟩ ?_)
 rintro _ _ ⟨B1, c1, rfl, hc1, rfl⟩
 refine pV ?_
 refine tS ?_
 refine tB ?_
 refine tS ?_
 refine tR fun _ _ _ => ?_
 refine pV ?_
 refine sV (rLen rfl rfl) ?_
 iterate 2 refine pV ?_
 refine tC rfl (fun h2 => ?_) (fun h2 => ?_)
 ·try simp only [zbA] at h2
  omega --done
 ·try simp only [zbA] at h2
  refine tS ?_
  refine tR fun _ _ _ => ?_
  refine pV ?_
  refine sV (rLen rfl rfl) ?_
  refine sV (rSub rfl rfl rfl (by omega) (by omega)) ?_
  iterate 2 refine pV ?_
  refine tC rfl (fun h4 => ?_) (fun h4 => ?_)
  ·try simp only [zbA] at h4
   omega --done
  ·try simp only [zbA] at h4
   refine tK ?_
   refine tS ?_
   refine tR fun _ _ _ => ?_
   iterate 3 refine pV ?_
   exact tr_ret ⟨trivial, _, _, rfl, ⟨_, rfl, B1, c1, rfl, hc1, rfl⟩, cs _ _, trivial, trivial⟩
theorem poly_Degree_ent : Enters Try.prog 49 := enters_of Try.func49 (by kernel_rfl) (by kernel_rfl)
theorem poly_Degree (g : GfM) {p m : Int} {mod : List Int} [hF : IsF p m mod] (hg : GOk g p m mod) (A : Option Addr) (n c : Nat) (a : List Int) (hn : n = a.length) (ha9 : a.length ≤ 17592186044415) :
  Pure Try.prog 49 #[.pointer (some g.p), .slice A n c] [gfR g, ro A (ints a)] (isV (.int .i64 ((Po.len (pol a : Po (El p m mod)) : Int) - 1))) := by
 have hil := il_length (pol a : Po (El p m mod))
 have hle := il_le (p := p) (m := m) (mod := mod) a
 refine pure_of (args := [.pointer (some g.p), .slice A n c]) 10 Try.func49 rfl rfl rfl poly_Degree_ent ⟨id, id, trivial⟩ (fun w0 => ?_)
 refine tS ?_
 refine tR fun _ _ _ => ?_
 refine pV ?_
 refine tS ?_
 refine tR fun _ _ _ => ?_
 iterate 2 refine pV ?_
 refine eV (eCall1 rfl rfl rfl (poly_CanonE g hg A n c a hn (by omega)) ⟨rfl, rfl, trivial⟩ ?_)
 rintro _ _ ⟨B1, c1, rfl, hc1, rfl⟩
 refine sV (rLen rfl rfl) ?_
 refine sV (rSub rfl rfl rfl (by omega) (by omega)) ?_
 refine pV ?_
 exact tr_ret ⟨trivial, _, _, rfl, ⟨by rw [hil], rfl⟩, CSub.nil _, trivial⟩
section
variable {p m : Int} {mod : List Int} [hF : IsF p m mod]
theorem pol_one1 : (pol [1] : Po (El p m mod)) = 1 := Po.ext fun j => by
 have hq := hF.q2
 rw [cf_pol, Po.cf_one]
 match j with
 | 0 => rw [List.getD_cons_zero, if_pos rfl]; exact el_one
 | j + 1 => rw [List.getD_cons_succ, List.getD_nil, if_neg (by omega), el_zero]
theorem fpow_congr {M x y : Po (El p m mod)} (h : M ∣ x - y) : ∀ n, M ∣ Rg.pow x n - Rg.pow y n
 | 0 => ⟨0, by show (1 : Po (El p m mod)) - 1 = M * 0; grind⟩
 | n + 1 => by
  obtain ⟨a, ha⟩ := h
  obtain ⟨c, hc⟩ := fpow_congr ⟨a, ha⟩ n
  rw [Rg.pow_succ, Rg.pow_succ]
  generalize Rg.pow x n = X1 at *
  generalize Rg.pow y n = Y1 at *
  exact ⟨c * x + Y1 * a, by grind⟩
theorem fpow_dbl (b : Po (El p m mod)) (n : Nat) : Rg.pow (b * b) n = Rg.pow b (2 * n) := by rw [Rg.mul_pow, ← Rg.pow_add, Nat.two_mul]
theorem rem_pow_step {M f b : Po (El p m mod)} {k : Nat} {W : Po (El p m mod)} (hM : M ≠ 0) (h : M ∣ f * Rg.pow b k - W) : (k % 2 = 1 → M ∣ Po.rem (f * b) M * Rg.pow (Po.rem (b * b) M) (k / 2) - W) ∧ (k % 2 ≠ 1 → M ∣ f * Rg.pow (Po.rem (b * b) M) (k / 2) - W) := by
 have h1 := Po.rem_sub_dvd (f * b) hM
 have h2 := Po.rem_sub_dvd (b * b) hM
 have h3 : ∀ n, M ∣ Rg.pow (b * b) n - Rg.pow (Po.rem (b * b) M) n := fun n => fpow_congr h2 n
 have h4 : ∀ n, Rg.pow (b * b) n = Rg.pow b (2 * n) := fun n => fpow_dbl b n
 constructor
 ·intro hk
  obtain ⟨x1, e1⟩ := h1
  obtain ⟨x3, e3⟩ := h3 (k / 2)
  obtain ⟨x, e⟩ := h
  have hk2 : k = 2 * (k / 2) + 1 := by omega
  rw [h4] at e3
  rw [hk2, Rg.pow_succ] at e
  generalize Po.rem (f * b) M = r1 at *
  generalize Rg.pow (Po.rem (b * b) M) (k / 2) = r3 at *
  generalize Rg.pow b (2 * (k / 2)) = P3 at *
  exact ⟨x - x1 * P3 - r1 * x3, by grind⟩
 ·intro hk
  obtain ⟨x3, e3⟩ := h3 (k / 2)
  obtain ⟨x, e⟩ := h
  have hk2 : k = 2 * (k / 2) := by omega
  rw [h4] at e3
  rw [hk2] at e
  generalize Rg.pow (Po.rem (b * b) M) (k / 2) = r3 at *
  generalize Rg.pow b (2 * (k / 2)) = P3 at *
  exact ⟨x - f * x3, by grind⟩
theorem rem_uniq {M f W : Po (El p m mod)} (hM : M ≠ 0) (hl : Po.len f < Po.len M) (h : M ∣ f - W) : f = Po.rem W M := by
 rw [← Po.rem_small hl]; exact (Po.rem_eq_iff hM).2 h
end
section
variable {p m : Int} {mod : List Int} [hF : IsF p m mod]
theorem len_mul_le (f g : Po (El p m mod)) : Po.len (f * g) ≤ Po.len f + Po.len g := by
 by_cases hf : f = 0
 ·rw [hf, Rg.zero_mul, Po.len_zero]; omega
 ·by_cases hg : g = 0
  ·rw [hg, Rg.mul_zero, Po.len_zero]; omega
  ·rw [Po.len_mul hf hg]; omega
theorem rem_pow_start {M W : Po (El p m mod)} (hM : M ≠ 0) (n : Nat) : M ∣ Po.rem 1 M * Rg.pow (Po.rem W M) n - Rg.pow W n := by
 obtain ⟨a, ha⟩ := Po.rem_sub_dvd (1 : Po (El p m mod)) hM
 obtain ⟨c, hc⟩ := fpow_congr (Po.rem_sub_dvd W hM) n
 generalize Po.rem 1 M = r at *
 generalize Rg.pow (Po.rem W M) n = X1 at *
 generalize Rg.pow W n = Y1 at *
 exact ⟨-(c + a * X1), by grind⟩
end
theorem poly_PowMod_ent : Enters Try.prog 112 := enters_of Try.func112 (by kernel_rfl) (by kernel_rfl)
theorem poly_PowMod (g : GfM) {p m : Int} {mod : List Int} [hF : IsF p m mod] (hg : GOk g p m mod) (A : Option Addr) (n c : Nat) (a : List Int) (hn : n = a.length) (ha9 : a.length ≤ 1000000) (k : Int) (hk0 : 0 ≤ k) (hk9 : k ≤ 1000000) (C : Option Addr) (nc d2 : Nat) (ml : List Int) (hnc : nc = ml.length) (hm9 : ml.length ≤ 1000000) (he : facE (Po.len (pol ml : Po (El p m mod))) = 0) :
  Pure Try.prog 112 #[.pointer (some g.p), .slice A n c, .int .i64 k, .slice C nc d2] [gfR g, ro A (ints a), ro C (ints ml)] (one (fun v ch => ∃ B cap, v = .tuple #[.slice B (il (Po.rem (Rg.pow (pol a : Po (El p m mod)) k.toNat) (pol ml : Po (El p m mod)))).length cap, .int .i64 0] ∧ ch = ow B 3 cap (ints (il (Po.rem (Rg.pow (pol a : Po (El p m mod)) k.toNat) (pol ml : Po (El p m mod))))))) := by
 have hil := il_length (pol ml : Po (El p m mod))
 have hml := facE_ok he
 have hm0 := ne_of_len hml.1
 refine pure_of (args := [.pointer (some g.p), .slice A n c, .int .i64 k, .slice C nc d2]) 77 Try.func112 rfl rfl rfl poly_PowMod_ent ⟨id, id, id, trivial⟩ (fun w0 => ?_)
 refine tS ?_
 refine tR fun _ _ _ => ?_
 iterate 2 refine pV ?_
 refine tS ?_
 refine tR fun _ _ _ => ?_
 iterate 2 refine pV ?_
 refine eV (eCall1 rfl rfl rfl (poly_CanonE g hg C nc d2 ml hnc (by omega)) ⟨rfl, rfl, trivial⟩ ?_)
 rintro _ _ ⟨B1, c1, rfl, hc1, rfl⟩
 refine pV ?_
 refine tS ?_
 refine tB ?_
 refine tS ?_
 refine tR fun _ _ _ => ?_
 refine pV ?_
 refine sV (rLen rfl rfl) ?_
 iterate 2 refine pV ?_
 refine tC rfl (fun h2 => ?_) (fun h2 => ?_)
 ·try simp only [zbA] at h2
  omega --done
 ·try simp only [zbA] at h2
  refine tS ?_
  refine tR fun _ _ _ => ?_
  refine pV ?_
  refine sV (rLen rfl rfl) ?_
  refine sV (rSub rfl rfl rfl (by omega) (by omega)) ?_
  iterate 2 refine pV ?_
  refine tC rfl (fun h4 => ?_) (fun h4 => ?_)
  ·try simp only [zbA] at h4
   omega --done
  ·try simp only [zbA] at h4
   refine tS ?_
   refine tR fun _ _ _ => ?_
   iterate 3 refine pV ?_
   refine tC rfl (fun h6 => ?_) (fun h6 => ?_)
   ·try simp only [zbA] at h6
    omega --done
   ·try simp only [zbA] at h6
    refine tK ?_
    refine tS ?_
    refine tR fun _ _ _ => ?_
    refine pV ?_
    refine eV (eLit1I rfl rfl rfl rfl (fun A8 => ?_))
    refine pV ?_
    refine eV (eCall2 rfl rfl rfl (poly_DivMod g hg A8 _ 1 [1] rfl (by simp) B1 _ c1 (il (pol ml : Po (El p m mod))) rfl (by omega) (by rw [pol_il]; exact hm0)) ⟨rfl, rfl, rfl, trivial⟩ ?_)
    rintro _ _ _ ⟨Q8a, q8a, B8a, c8a, rfl, rfl, rfl⟩
    iterate 7 refine pV ?_
    rw [pol_il]
    refine tS ?_
    refine tR fun _ _ _ => ?_
    iterate 3 refine pV ?_
    refine eV (eCall2 rfl rfl rfl (poly_DivMod g hg A n c a hn (by omega) B1 _ c1 (il (pol ml : Po (El p m mod))) rfl (by omega) (by rw [pol_il]; exact hm0)) ⟨rfl, rfl, rfl, trivial⟩ ?_)
    rintro _ _ _ ⟨Q9, q9, B9, c9, rfl, rfl, rfl⟩
    iterate 7 refine pV ?_
    rw [pol_il]
    refine tS ?_
    refine tB ?_
    refine tr_loop7 (fun (t : Int) (Bx : Option Addr) (cx : Nat) (f : Po (El p m mod)) (By : Option Addr) (cy : Nat) (b : Po (El p m mod)) => [(2, .int .i64 t), (11, .slice Bx (il f).length cx), (14, .slice By (il b).length cy), (0, .pointer (some g.p)), (3, .slice B1 (il (pol ml : Po (El p m mod))).length c1), (8, .slice none 0 0), (9, .int .i64 0)]) (fun (t : Int) (Bx : Option Addr) (cx : Nat) (f : Po (El p m mod)) (By : Option Addr) (cy : Nat) (b : Po (El p m mod)) => [ow Bx 3 cx (ints (il f)), ow By 3 cy (ints (il b)), ow B1 3 c1 (ints (il (pol ml : Po (El p m mod)))), gfR g]) (fun (t : Int) (Bx : Option Addr) (cx : Nat) (f : Po (El p m mod)) (By : Option Addr) (cy : Nat) (b : Po (El p m mod)) => (0 ≤ t ∧ t ≤ k) ∧ Po.len f < Po.len (pol ml : Po (El p m mod)) ∧ Po.len b < Po.len (pol ml : Po (El p m mod)) ∧ (pol ml : Po (El p m mod)) ∣ f * Rg.pow b t.toNat - Rg.pow (pol a : Po (El p m mod)) k.toNat) (fun (t : Int) (Bx : Option Addr) (cx : Nat) (f : Po (El p m mod)) (By : Option Addr) (cy : Nat) (b : Po (El p m mod)) => t.toNat) (k) (B8a) (c8a) ((Po.rem (pol [1]) (pol ml : Po (El p m mod)))) (B9) (c9) ((Po.rem (pol a : Po (El p m mod)) (pol ml : Po (El p m mod)))) ⟨rfl, rfl, rfl, rfl, rfl, rfl, rfl, trivial⟩ (by first | exact cs _ _ | exact CSub.refl _) (⟨⟨by omega, by omega⟩, Po.rem_len _ hm0, Po.rem_len _ hm0, by rw [pol_one1]; exact rem_pow_start hm0 _⟩) (fun t Bx cx f By cy b hI => ?_)
    obtain ⟨⟨ht0, ht9⟩, hfl, hbl, hd⟩ := hI
    refine tS ?_
    refine tS ?_
    refine tR fun _ _ _ => ?_
    iterate 2 refine pV ?_
    refine tC rfl (fun h10 => ?_) (fun h10 => ?_)
    ·try simp only [zbA] at h10
     refine tK ?_
     refine tS ?_
     refine tB ?_
     refine tS ?_
     refine tS ?_
     have hilf := il_length f
     have hilb := il_length b
     refine tR fun _ _ _ => ?_
     refine pV ?_
     refine sV (rRem rfl rfl rfl (by omega) (by omega)) ?_
     refine pV ?_
     refine tC rfl (fun h12 => ?_) (fun h12 => ?_)
     ·try simp only [zbA] at h12
      refine tR fun _ _ _ => ?_
      iterate 4 refine pV ?_
      refine eV (eCall1 rfl rfl rfl (poly_product g hg Bx _ cx (il f) rfl (by omega) By _ cy (il b) rfl (by omega)) ⟨rfl, rfl, rfl, trivial⟩ ?_)
      rintro _ _ ⟨B13, c13, rfl, rfl⟩
      refine pV ?_
      have hl13 := il_length (pol (il (f : Po (El p m mod))) * pol (il b) : Po (El p m mod))
      have hl13b := len_mul_le (pol (il (f : Po (El p m mod)))) (pol (il b) : Po (El p m mod))
      have e13 : Po.len (pol (il (f : Po (El p m mod))) : Po (El p m mod)) = (il f).length := by rw [pol_il, il_length]
      have e14 : Po.len (pol (il b) : Po (El p m mod)) = (il b).length := by rw [pol_il, il_length]
      refine eV (eCall2 rfl rfl rfl (poly_DivMod g hg B13 _ c13 (il (pol (il f) * pol (il b))) rfl (by omega) B1 _ c1 (il (pol ml : Po (El p m mod))) rfl (by omega) (by rw [pol_il]; exact hm0)) ⟨rfl, rfl, rfl, trivial⟩ ?_)
      rintro _ _ _ ⟨Q13a, q13a, B13a, c13a, rfl, rfl, rfl⟩
      iterate 5 refine pV ?_
      rw [pol_il, pol_il, pol_il, pol_il]
      refine tR fun _ _ _ => ?_
      iterate 4 refine pV ?_
      refine eV (eCall1 rfl rfl rfl (poly_product g hg By _ cy (il b) rfl (by omega) By _ cy (il b) rfl (by omega)) ⟨rfl, rfl, rfl, trivial⟩ ?_)
      rintro _ _ ⟨B14, c14, rfl, rfl⟩
      refine pV ?_
      have hl14 := il_length (pol (il b) * pol (il b) : Po (El p m mod))
      have hl14b := len_mul_le (pol (il b)) (pol (il b) : Po (El p m mod))
      have e15 : Po.len (pol (il b) : Po (El p m mod)) = (il b).length := by rw [pol_il, il_length]
      refine eV (eCall2 rfl rfl rfl (poly_DivMod g hg B14 _ c14 (il (pol (il b) * pol (il b))) rfl (by omega) B1 _ c1 (il (pol ml : Po (El p m mod))) rfl (by omega) (by rw [pol_il]; exact hm0)) ⟨rfl, rfl, rfl, trivial⟩ ?_)
      rintro _ _ _ ⟨Q14a, q14a, B14a, c14a, rfl, rfl, rfl⟩
      iterate 5 refine pV ?_
      rw [pol_il, pol_il, pol_il]
      refine tR fun _ _ _ => ?_
      refine pV ?_
      refine sV (rQuo rfl rfl rfl (by omega) (by omega)) ?_
      refine pV ?_
      refine ⟨t / 2, B13a, c13a, (Po.rem (f * b) (pol ml : Po (El p m mod))), B14a, c14a, (Po.rem (b * b) (pol ml : Po (El p m mod))), ⟨rfl, rfl, rfl, rfl, rfl, rfl, rfl, trivial⟩, by first | exact cs _ _ | exact CSub.refl _, ?_⟩
      exact ⟨⟨⟨by omega, by omega⟩, Po.rem_len _ hm0, Po.rem_len _ hm0, by rw [show (t / 2).toNat = t.toNat / 2 by omega]; exact (rem_pow_step hm0 hd).1 (by omega)⟩, by omega⟩
     ·try simp only [zbA] at h12
      refine tK ?_
      refine tR fun _ _ _ => ?_
      iterate 4 refine pV ?_
      refine eV (eCall1 rfl rfl rfl (poly_product g hg By _ cy (il b) rfl (by omega) By _ cy (il b) rfl (by omega)) ⟨rfl, rfl, rfl, trivial⟩ ?_)
      rintro _ _ ⟨B14, c14, rfl, rfl⟩
      refine pV ?_
      have hl14 := il_length (pol (il b) * pol (il b) : Po (El p m mod))
      have hl14b := len_mul_le (pol (il b)) (pol (il b) : Po (El p m mod))
      have e15 : Po.len (pol (il b) : Po (El p m mod)) = (il b).length := by rw [pol_il, il_length]
      refine eV (eCall2 rfl rfl rfl (poly_DivMod g hg B14 _ c14 (il (pol (il b) * pol (il b))) rfl (by omega) B1 _ c1 (il (pol ml : Po (El p m mod))) rfl (by omega) (by rw [pol_il]; exact hm0)) ⟨rfl, rfl, rfl, trivial⟩ ?_)
      rintro _ _ _ ⟨Q14a, q14a, B14a, c14a, rfl, rfl, rfl⟩
      iterate 5 refine pV ?_
      rw [pol_il, pol_il, pol_il]
      refine tR fun _ _ _ => ?_
      refine pV ?_
      refine sV (rQuo rfl rfl rfl (by omega) (by omega)) ?_
      refine pV ?_
      refine ⟨t / 2, Bx, cx, f, B14a, c14a, (Po.rem (b * b) (pol ml : Po (El p m mod))), ⟨rfl, rfl, rfl, rfl, rfl, rfl, rfl, trivial⟩, by first | exact cs _ _ | exact CSub.refl _, ?_⟩
      exact ⟨⟨⟨by omega, by omega⟩, hfl, Po.rem_len _ hm0, by rw [show (t / 2).toNat = t.toNat / 2 by omega]; exact (rem_pow_step hm0 hd).2 (by omega)⟩, by omega⟩
    ·try simp only [zbA] at h10
     refine tE ?_
     refine tS ?_
     refine tR fun _ _ _ => ?_
     iterate 3 refine pV ?_
     have htz : t.toNat = 0 := by omega
     rw [htz] at hd
     have hfe := rem_uniq hm0 hfl (show (pol ml : Po (El p m mod)) ∣ f - Rg.pow (pol a : Po (El p m mod)) k.toNat by
      have e : f * Rg.pow b 0 = f := by show f * 1 = f; grind
      rw [e] at hd; exact hd)
     subst hfe
     exact tr_ret ⟨trivial, _, _, rfl, ⟨_, rfl, Bx, cx, rfl, rfl⟩, cs _ _, trivial, trivial⟩
theorem fac_frobenius_ent : Enters Try.prog 53 := enters_of Try.func53 (by kernel_rfl) (by kernel_rfl)
theorem fac_frobenius (g : GfM) {p m : Int} {mod : List Int} [hF : IsF p m mod] (hg : GOk g p m mod) (A : Option Addr) (n c : Nat) (a : List Int) (hn : n = a.length) (ha9 : a.length ≤ 1000000) (C : Option Addr) (nc d2 : Nat) (ml : List Int) (hnc : nc = ml.length) (hm9 : ml.length ≤ 1000000) (he : facE (Po.len (pol ml : Po (El p m mod))) = 0) :
  Pure Try.prog 53 #[.pointer (some g.p), .slice A n c, .slice C nc d2] [gfR g, ro A (ints a), ro C (ints ml)] (one (fun v ch => ∃ B cap, v = .slice B (il (Po.rem (Rg.pow (pol a : Po (El p m mod)) (pw p m).toNat) (pol ml : Po (El p m mod)))).length cap ∧ ch = ow B 3 cap (ints (il (Po.rem (Rg.pow (pol a : Po (El p m mod)) (pw p m).toNat) (pol ml : Po (El p m mod))))))) := by
 have hgq := hg.eq
 have hq2 := hF.q2
 have hq256 := hF.out.1.1.q
 refine pure_of (args := [.pointer (some g.p), .slice A n c, .slice C nc d2]) 19 Try.func53 rfl rfl rfl fac_frobenius_ent ⟨id, id, id, trivial⟩ (fun w0 => ?_)
 refine tS ?_
 refine tR fun _ _ _ => ?_
 refine pV ?_
 refine tS ?_
 refine tR fun _ _ _ => ?_
 iterate 3 refine pV ?_
 refine eV (eCallV rfl rfl rfl (gf_Order g) ⟨rfl, trivial⟩ ?_)
 refine pV ?_
 rw [hgq]
 refine eV (eCall1 rfl rfl rfl (poly_PowMod g hg A n c a hn ha9 (pw p m) (by omega) (by omega) C nc d2 ml hnc hm9 he) ⟨rfl, rfl, rfl, rfl, trivial⟩ ?_)
 rintro _ _ ⟨B1, c1, rfl, rfl⟩
 iterate 5 refine pV ?_
 refine tS ?_
 refine tR fun _ _ _ => ?_
 iterate 2 refine pV ?_
 exact tr_ret ⟨trivial, _, _, rfl, ⟨_, rfl, B1, c1, rfl, rfl⟩, cs _ _, trivial, trivial⟩
end Go.Proofs.Ytbhoeaijpnjgdaa

set_option maxRecDepth 100000
namespace Go.Proofs.Ytbhoeaijpnjgdaa
open Go.RowKit
theorem pws_get1 (ps : List (Int × Int)) (j : Nat) (h : j < ps.length) : ((pws ps).getD j prD).1 = .int .i64 (ps.getD j (0, 0)).1 := by rw [pws_get ps j h]
theorem pws_get2 (ps : List (Int × Int)) (j : Nat) (h : j < ps.length) : ((pws ps).getD j prD).2 = .int .i64 (ps.getD j (0, 0)).2 := by rw [pws_get ps j h]
section
variable {p m : Int} {mod : List Int} [hF : IsF p m mod]
theorem pol_X01 : (pol [0, 1] : Po (El p m mod)) = Po.X := Po.ext fun j => by
 rw [cf_pol, show (Po.X : Po (El p m mod)) = Po.mn 1 1 from rfl, Po.cf_mn]
 match j with
 | 0 => rw [List.getD_cons_zero, if_neg (by omega), el_zero]
 | 1 => rw [List.getD_cons_succ, List.getD_cons_zero, if_pos rfl]; exact el_one
 | j + 2 => rw [List.getD_cons_succ, List.getD_cons_succ, List.getD_nil, if_neg (by omega), el_zero]
noncomputable def irB (P : Po (El p m mod)) : Bool := @decide (Po.Ir P) (Classical.propDecidable _)
theorem irB_iff {P : Po (El p m mod)} : irB P = true ↔ Po.Ir P := by unfold irB; exact @decide_eq_true_iff _ (Classical.propDecidable _)
theorem irB_no {P : Po (El p m mod)} (h : ¬ Po.Ir P) : irB P = false := Bool.eq_false_iff.2 fun e => h (irB_iff.1 e)
theorem xq_rem {P : Po (El p m mod)} (hP : P ≠ 0) (i : Nat) : P ∣ (Po.rem (Rg.pow Po.X ((pw p m).toNat ^ i)) P - Po.X) - xq p m mod i := by
 obtain ⟨a, ha⟩ := Po.rem_sub_dvd (Rg.pow (Po.X : Po (El p m mod)) ((pw p m).toNat ^ i)) hP
 unfold xq
 generalize Rg.pow (Po.X : Po (El p m mod)) ((pw p m).toNat ^ i) = W at *
 generalize Po.rem W P = r at *
 exact ⟨-a, by grind⟩
theorem rem_next {P : Po (El p m mod)} (hP : P ≠ 0) (i : Nat) : Po.rem (Rg.pow (Po.rem (Rg.pow Po.X ((pw p m).toNat ^ i)) P) (pw p m).toNat) P = Po.rem (Rg.pow Po.X ((pw p m).toNat ^ (i + 1))) P := (Po.rem_eq_iff hP).2 (by
 have h := fpow_congr (Po.rem_sub_dvd (Rg.pow (Po.X : Po (El p m mod)) ((pw p m).toNat ^ i)) hP) (pw p m).toNat
 rw [← Rg.pow_mul, ← Nat.pow_succ] at h
 obtain ⟨a, ha⟩ := h
 generalize Rg.pow (Po.rem (Rg.pow Po.X ((pw p m).toNat ^ i)) P) (pw p m).toNat = x at *
 generalize Rg.pow (Po.X : Po (El p m mod)) ((pw p m).toNat ^ (i + 1)) = y at *
 exact ⟨-a, by grind⟩)
theorem prL_at {N : Nat} {ps : List (Int × Int)} (h : PrL N ps) {j : Nat} (hj : j < ps.length) : 2 ≤ (ps.getD j (0, 0)).1 ∧ (∀ u, 2 ≤ u → u ∣ (ps.getD j (0, 0)).1.toNat → u = (ps.getD j (0, 0)).1.toNat) ∧ (ps.getD j (0, 0)).1.toNat ∣ N := by
 have h1 := h.1 _ (getD_mem hj (0, 0))
 have h2 := (h.2 (ps.getD j (0, 0)).1.toNat).1 ⟨_, getD_mem hj (0, 0), by omega⟩
 exact ⟨h1, h2.2⟩
theorem irr_no {P : Po (El p m mod)} {N : Nat} (hN : Po.len P = N + 1) (h1 : 1 ≤ N) {ps : List (Int × Int)} (hps : PrL N ps) {j : Nat} (hj : j < ps.length) (hg : ¬ Po.gcd P (xq p m mod ((N : Int) / (ps.getD j (0, 0)).1).toNat) = 1) : irB P = false := irB_no fun hi => hg (by
 have h2 := prL_at hps hj
 have h3 := ((rabin hN h1).1 hi).2 _ (by omega) h2.2.1 h2.2.2
 rw [show ((N : Int) / (ps.getD j (0, 0)).1).toNat = N / (ps.getD j (0, 0)).1.toNat by
  obtain ⟨r, hr⟩ : ∃ r : Nat, (ps.getD j (0, 0)).1 = (r : Int) := ⟨(ps.getD j (0, 0)).1.toNat, by omega⟩
  rw [hr, ← Int.natCast_ediv]; rfl]
 exact h3)
theorem irr_yes {P : Po (El p m mod)} {N : Nat} (hN : Po.len P = N + 1) (h1 : 1 ≤ N) {ps : List (Int × Int)} (hps : PrL N ps) (hall : ∀ z : Nat, z < ps.length → Po.gcd P (xq p m mod ((N : Int) / (ps.getD z (0, 0)).1).toNat) = 1) :
  decide (il (Po.rem (Rg.pow Po.X ((pw p m).toNat ^ N)) P) = il (Po.rem Po.X P)) = irB P := by
 have hP : P ≠ 0 := Po.len_pos_iff.1 (by omega)
 have h2 : (il (Po.rem (Rg.pow Po.X ((pw p m).toNat ^ N)) P) = il (Po.rem Po.X P)) ↔ P ∣ xq p m mod N := by
  constructor
  ·intro h
   have := congrArg (pol (p := p) (m := m) (mod := mod)) h
   rw [pol_il, pol_il] at this
   exact (Po.rem_eq_iff hP).1 this
  ·intro h; rw [(Po.rem_eq_iff hP).2 h]
 have h3 : Po.Ir P ↔ P ∣ xq p m mod N := by
  rw [rabin hN h1]
  refine ⟨fun h => h.1, fun h => ⟨h, fun r r2 rp rd => ?_⟩⟩
  obtain ⟨q, hq, hqr⟩ := (hps.2 r).2 ⟨r2, rp, rd⟩
  obtain ⟨z, hz, rfl⟩ := List.getElem_of_mem hq
  have h4 := hall z hz
  rw [List.getD_eq_getElem?_getD, List.getElem?_eq_getElem hz] at h4
  simp only [Option.getD_some] at h4
  rw [hqr, ← Int.natCast_ediv] at h4
  exact h4
 rw [Bool.eq_iff_iff, decide_eq_true_iff, irB_iff, h2, h3]
theorem gcd_sub_xq {P : Po (El p m mod)} (hP : P ≠ 0) (i : Nat) : Po.gcd P (Po.rem (Rg.pow Po.X ((pw p m).toNat ^ i)) P - Po.X) = Po.gcd P (xq p m mod i) := gcd_congr hP (xq_rem hP i)
theorem gcd_len {P f : Po (El p m mod)} (hP : P ≠ 0) : Po.len (Po.gcd P f) ≤ Po.len P := Po.dvd_len (Po.gcd_is P f).left hP
end
theorem nq_pos {N : Nat} {ps : List (Int × Int)} (h : PrL N ps) (h1 : 1 ≤ N) {z : Nat} (hz : z < ps.length) : 1 ≤ (N : Int) / (ps.getD z (0, 0)).1 := by
 have h2 := h.1 _ (getD_mem hz (0, 0))
 have h3 := (h.2 (ps.getD z (0, 0)).1.toNat).1 ⟨_, getD_mem hz (0, 0), by omega⟩
 have h4 := Nat.le_of_dvd (by omega) h3.2.2
 exact Int.le_ediv_of_mul_le (by omega) (by omega)
theorem nq_le {N : Nat} {ps : List (Int × Int)} (h : PrL N ps) (h1 : 1 ≤ N) {z : Nat} (hz : z < ps.length) : (N : Int) / (ps.getD z (0, 0)).1 ≤ N := Int.ediv_le_self _ (by omega)
theorem fac_Irr_ent : Enters Try.prog 44 := enters_of Try.func44 (by kernel_rfl) (by kernel_rfl)
theorem fac_Irr (g : GfM) {p m : Int} {mod : List Int} [hF : IsF p m mod] (hg : GOk g p m mod) (A : Option Addr) (n c : Nat) (a : List Int) (hn : n = a.length) (ha9 : a.length ≤ 17592186044415) (he : facE (Po.len (pol a : Po (El p m mod))) = 0) (N : Nat) (hN : Po.len (pol a : Po (El p m mod)) = N + 1) (h1 : 1 ≤ N) (ps : List (Int × Int)) (hpl : ps.length ≤ 1000) (hps : PrL N ps) (hfac : Pure Try.prog 101 #[.int .i64 N] [] (one (fun v ch => ∃ B c, v = .tuple #[.slice B ps.length c, .int .i64 0] ∧ ch = ow2 B 124 c (pws ps)))) :
  Pure Try.prog 44 #[.pointer (some g.p), .slice A n c] [gfR g, ro A (ints a)] (isV (.tuple #[.bool (irB (pol a : Po (El p m mod))), .int .i64 0])) := by
 have h1N := h1
 have hil := il_length (pol a : Po (El p m mod))
 have hle := facE_ok he
 have hm0 := ne_of_len hle.1
 have hil0 := il_length (Po.rem Po.X (pol a : Po (El p m mod)))
 have hlr0 := Po.rem_len (Po.X : Po (El p m mod)) hm0
 refine pure_of (args := [.pointer (some g.p), .slice A n c]) 85 Try.func44 rfl rfl rfl fac_Irr_ent ⟨id, id, trivial⟩ (fun w0 => ?_)
 refine tS ?_
 refine tR fun _ _ _ => ?_
 iterate 2 refine pV ?_
 refine tS ?_
 refine tR fun _ _ _ => ?_
 iterate 2 refine pV ?_
 refine eV (eCall1 rfl rfl rfl (fac_enter g hg A n c a hn ha9 he) ⟨rfl, rfl, trivial⟩ ?_)
 rintro _ _ ⟨B1, c1, rfl, hc1, rfl⟩
 iterate 5 refine pV ?_
 refine tS ?_
 refine tS ?_
 refine tR fun _ _ _ => ?_
 iterate 2 refine pV ?_
 refine tC rfl (fun h2 => ?_) (fun h2 => ?_)
 ·try simp only [zbA] at h2
  first | exact absurd trivial h2 | exact absurd rfl h2 | omega | (exact absurd h2 (by simp)) --done
 ·try simp only [zbA] at h2
  refine tK ?_
  refine tS ?_
  refine tR fun _ _ _ => ?_
  refine pV ?_
  refine sV (rLen rfl rfl) ?_
  refine sV (rSub rfl rfl rfl (by omega) (by omega)) ?_
  refine pV ?_
  rw [show ((il (pol a : Po (El p m mod))).length : Int) - 1 = (N : Int) by omega]
  refine tS ?_
  refine tS ?_
  refine tR fun _ _ _ => ?_
  iterate 2 refine pV ?_
  refine tC rfl (fun h5 => ?_) (fun h5 => ?_)
  ·try simp only [zbA] at h5
   omega --done
  ·try simp only [zbA] at h5
   refine tK ?_
   refine tS ?_
   refine tR fun _ _ _ => ?_
   refine pV ?_
   refine eV (eCall1 rfl rfl rfl (hfac) ⟨rfl, trivial⟩ ?_)
   rintro _ _ ⟨B7, c7, rfl, rfl⟩
   iterate 5 refine pV ?_
   refine tS ?_
   refine tR fun _ _ _ => ?_
   refine eV (eLit2I rfl rfl rfl rfl rfl (fun A8 => ?_))
   refine pV ?_
   refine tS ?_
   refine tR fun _ _ _ => ?_
   iterate 3 refine pV ?_
   refine eV (eCall2 rfl rfl rfl (poly_DivMod g hg A8 _ 2 [0, 1] rfl (by simp) B1 _ c1 (il (pol a : Po (El p m mod))) rfl (by omega) (by rw [pol_il]; exact hm0)) ⟨rfl, rfl, rfl, trivial⟩ ?_)
   rintro _ _ _ ⟨Q9, q9, B9, c9, rfl, rfl, rfl⟩
   iterate 7 refine pV ?_
   rw [pol_il, pol_X01]
   refine tS ?_
   refine tR fun _ _ _ => ?_
   iterate 2 refine pV ?_
   refine tS ?_
   refine tS ?_
   refine tr_chunks [ro B9 (ints (il (Po.rem Po.X (pol a : Po (El p m mod))))), ro B9 (ints (il (Po.rem Po.X (pol a : Po (El p m mod))))), ow A8 3 2 (ints [0, 1]), ow2 B7 124 c7 (pws ps), ow B1 3 c1 (ints (il (pol a : Po (El p m mod)))), gfR g] ((cs _ [ow B9 3 c9 (ints (il (Po.rem Po.X (pol a : Po (El p m mod))))), ow A8 3 2 (ints [0, 1]), ow2 B7 124 c7 (pws ps), ow B1 3 c1 (ints (il (pol a : Po (El p m mod)))), gfR g]).trans ((ow_ro _).trans (ro_dup _))) ?_
   refine tR fun _ _ _ => ?_
   refine pV ?_
   refine tB ?_
   refine tr_loop4 (fun (i : Int) (Bh : Option Addr) (ch : Nat) (f : Po (El p m mod)) => [(13, .slice Bh (il f).length ch), (15, .slice B9 (il (Po.rem Po.X (pol a : Po (El p m mod)))).length c9), (16, .int .i64 i), (8, .int .i64 N), (11, .slice A8 2 2), (0, .pointer (some g.p)), (6, .slice B1 (il (pol a : Po (El p m mod))).length c1), (9, .slice B7 ps.length c7)]) (fun (i : Int) (Bh : Option Addr) (ch : Nat) (f : Po (El p m mod)) => [ro Bh (ints (il f)), ro B9 (ints (il (Po.rem Po.X (pol a : Po (El p m mod))))), ow A8 3 2 (ints [0, 1]), ow2 B7 124 c7 (pws ps), ow B1 3 c1 (ints (il (pol a : Po (El p m mod)))), gfR g]) (fun (i : Int) (Bh : Option Addr) (ch : Nat) (f : Po (El p m mod)) => (1 ≤ i ∧ i ≤ N + 1) ∧ f = (Po.rem (Rg.pow Po.X ((pw p m).toNat ^ (i - 1).toNat)) (pol a : Po (El p m mod))) ∧ ∀ z : Nat, z < ps.length → ((N : Int) / (ps.getD z (0, 0)).1) < i → Po.gcd (pol a : Po (El p m mod)) (xq p m mod ((N : Int) / (ps.getD z (0, 0)).1).toNat) = 1) (fun (i : Int) (Bh : Option Addr) (ch : Nat) (f : Po (El p m mod)) => (N + 1 - i).toNat) (1) (B9) (c9) ((Po.rem Po.X (pol a : Po (El p m mod)))) ⟨rfl, rfl, rfl, rfl, rfl, rfl, rfl, rfl, trivial⟩ (by first | exact cs _ _ | exact CSub.refl _) (⟨⟨by omega, by omega⟩, by rw [show ((1 : Int) - 1).toNat = 0 from rfl, Nat.pow_zero, show Rg.pow (Po.X : Po (El p m mod)) 1 = Po.X from Rg.one_mul _], fun z hz hlt => absurd hlt (by have := nq_pos hps h1N hz; omega)⟩) (fun i Bh ch f hI => ?_)
   obtain ⟨⟨hi0, hi1⟩, rfl, hall⟩ := hI
   refine tS ?_
   refine tS ?_
   refine tR fun _ _ _ => ?_
   iterate 3 refine pV ?_
   refine tC rfl (fun h12 => ?_) (fun h12 => ?_)
   ·try simp only [zbA] at h12
    refine tK ?_
    refine tS ?_
    refine tB ?_
    refine tS ?_
    have hilh := il_length (Po.rem (Rg.pow Po.X ((pw p m).toNat ^ (i - 1).toNat)) (pol a : Po (El p m mod)))
    have hlrh := Po.rem_len (Rg.pow Po.X ((pw p m).toNat ^ (i - 1).toNat)) hm0
    have hiln := il_length (Po.rem (Rg.pow Po.X ((pw p m).toNat ^ i.toNat)) (pol a : Po (El p m mod)))
    have hlrn := Po.rem_len (Rg.pow Po.X ((pw p m).toNat ^ i.toNat)) hm0
    refine tR fun _ _ _ => ?_
    iterate 3 refine pV ?_
    refine eV (eCall1 rfl rfl rfl (fac_frobenius g hg Bh _ ch (il (Po.rem (Rg.pow Po.X ((pw p m).toNat ^ (i - 1).toNat)) (pol a : Po (El p m mod)))) rfl (by omega) B1 _ c1 (il (pol a : Po (El p m mod))) rfl (by omega) (by rw [pol_il]; exact he)) ⟨rfl, rfl, rfl, trivial⟩ ?_)
    rintro _ _ ⟨B14, c14, rfl, rfl⟩
    refine pV ?_
    rw [pol_il, pol_il, rem_next hm0, show (i - 1).toNat + 1 = i.toNat by omega]
    refine tS ?_
    refine tR fun _ _ _ => ?_
    refine pV ?_
    refine sV (rLenS rfl rfl) ?_
    refine pV ?_
    refine tB ?_
    refine tr_loop1 (fun (j : Int) => [(59, .int .i64 j), (57, .slice B7 ps.length c7), (58, .int .i64 ps.length), (0, .pointer (some g.p)), (6, .slice B1 (il (pol a : Po (El p m mod))).length c1), (8, .int .i64 N), (9, .slice B7 ps.length c7), (11, .slice A8 2 2), (13, .slice B14 (il (Po.rem (Rg.pow Po.X ((pw p m).toNat ^ i.toNat)) (pol a : Po (El p m mod)))).length c14), (15, .slice B9 (il (Po.rem Po.X (pol a : Po (El p m mod)))).length c9), (16, .int .i64 i), (48, .int .i64 i), (49, .int .i64 N), (56, .slice B14 (il (Po.rem (Rg.pow Po.X ((pw p m).toNat ^ i.toNat)) (pol a : Po (El p m mod)))).length c14)]) (fun (j : Int) => [ow B14 3 c14 (ints (il (Po.rem (Rg.pow Po.X ((pw p m).toNat ^ i.toNat)) (pol a : Po (El p m mod))))), ro B9 (ints (il (Po.rem Po.X (pol a : Po (El p m mod))))), ow A8 3 2 (ints [0, 1]), ow2 B7 124 c7 (pws ps), ow B1 3 c1 (ints (il (pol a : Po (El p m mod)))), gfR g]) (fun (j : Int) => (0 ≤ j ∧ j ≤ ps.length) ∧ ∀ z : Nat, (z : Int) < j → ((N : Int) / (ps.getD z (0, 0)).1) = i → Po.gcd (pol a : Po (El p m mod)) (xq p m mod i.toNat) = 1) (fun (j : Int) => (ps.length - j).toNat) (0) ⟨rfl, rfl, rfl, rfl, rfl, rfl, rfl, rfl, rfl, rfl, rfl, rfl, rfl, rfl, trivial⟩ (by first | exact cs _ _ | exact CSub.refl _) (⟨⟨by omega, by omega⟩, fun z hz => by omega⟩) (fun j hI => ?_)
    obtain ⟨⟨hj0, hj1⟩, hj⟩ := hI
    refine tS ?_
    refine tR fun _ _ _ => ?_
    refine pV ?_
    refine tS ?_
    refine tC rfl (fun h16 => ?_) (fun h16 => ?_)
    ·try simp only [zbA] at h16
     refine tK ?_
     refine tS ?_
     refine tB ?_
     refine tS ?_
     have hjl : j.toNat < ps.length := by omega
     have hat := prL_at hps hjl
     refine tR fun _ _ _ => ?_
     refine sV (rIdxT rfl rfl rfl (by omega) (by omega) (by simp; omega)) ?_
     refine sV (rLdT rfl rfl (by simp; omega)) ?_
     refine eV (eAlloc rfl rfl rfl (fun p17 => ?_))
     rw [pws_get1 ps j.toNat hjl, pws_get2 ps j.toNat hjl]
     refine eV (eStS rfl rfl rfl rfl rfl rfl ?_)
     refine tS ?_
     by_cases hs : ((N : Int) / (ps.getD j.toNat (0, 0)).1) = i
     ·refine tR fun _ _ _ => ?_
      refine pV ?_
      refine sV (rFld rfl rfl) ?_
      refine sV (rLdF rfl rfl rfl) ?_
      refine sV (rQuo rfl rfl rfl (by omega) (by omega)) ?_
      iterate 3 refine pV ?_
      refine stT rfl rfl rfl (by first | exact decide_eq_true hs | (rw [decide_eq_true hs]; rfl)) rfl rfl (rMove rfl rfl) ?_
      refine stT rfl rfl rfl (by first | exact decide_eq_true hs | (rw [decide_eq_true hs]; rfl)) rfl rfl (rMove rfl rfl) ?_
      refine stT rfl rfl rfl (by first | exact decide_eq_true hs | (rw [decide_eq_true hs]; rfl)) rfl rfl (rMove rfl rfl) ?_
      refine stT rfl rfl rfl (by first | exact decide_eq_true hs | (rw [decide_eq_true hs]; rfl)) rfl rfl (rMove rfl rfl) ?_
      refine stT rfl rfl rfl (by first | exact decide_eq_true hs | (rw [decide_eq_true hs]; rfl)) rfl rfl (rMove rfl rfl) ?_
      refine stT rfl rfl rfl (by first | exact decide_eq_true hs | (rw [decide_eq_true hs]; rfl)) rfl rfl (rMove rfl rfl) ?_
      refine efT rfl rfl rfl (by first | exact decide_eq_true hs | (rw [decide_eq_true hs]; rfl)) (eCall1 rfl rfl rfl (poly_Sub g hg B14 _ c14 (il (Po.rem (Rg.pow Po.X ((pw p m).toNat ^ i.toNat)) (pol a : Po (El p m mod)))) rfl (by omega) A8 _ 2 [0, 1] rfl (by simp)) ⟨rfl, rfl, rfl, trivial⟩ ?_)
      rintro _ _ ⟨B18, c18, rfl, rfl⟩
      have hs1 := il_length (pol (il (Po.rem (Rg.pow Po.X ((pw p m).toNat ^ i.toNat)) (pol a : Po (El p m mod)))) - pol [0, 1] : Po (El p m mod))
      have hs2 := Po.len_sub (pol (il (Po.rem (Rg.pow Po.X ((pw p m).toNat ^ i.toNat)) (pol a : Po (El p m mod))))) (pol [0, 1] : Po (El p m mod))
      have hs3 : Po.len (pol (il (Po.rem (Rg.pow Po.X ((pw p m).toNat ^ i.toNat)) (pol a : Po (El p m mod)))) : Po (El p m mod)) = Po.len (Po.rem (Rg.pow Po.X ((pw p m).toNat ^ i.toNat)) (pol a : Po (El p m mod))) := by rw [pol_il]
      have hs4 : Po.len (pol [0, 1] : Po (El p m mod)) ≤ 2 := Po.len_le (pol_sh [0, 1])
      refine efT rfl rfl rfl (by first | exact decide_eq_true hs | (rw [decide_eq_true hs]; rfl)) (eCall1 rfl rfl rfl (poly_Gcd g hg B1 _ c1 (il (pol a : Po (El p m mod))) rfl (by omega) B18 _ c18 (il (pol (il (Po.rem (Rg.pow Po.X ((pw p m).toNat ^ i.toNat)) (pol a : Po (El p m mod)))) - pol [0, 1])) rfl (by omega) (.inl (by rw [pol_il]; exact hm0))) ⟨rfl, rfl, rfl, trivial⟩ ?_)
      rintro _ _ ⟨B18a, c18a, rfl, rfl⟩
      have hs5 := il_length (Po.gcd (pol (il (pol a : Po (El p m mod)))) (pol (il (pol (il (Po.rem (Rg.pow Po.X ((pw p m).toNat ^ i.toNat)) (pol a : Po (El p m mod)))) - pol [0, 1] : Po (El p m mod)))) : Po (El p m mod))
      have hs6 := gcd_len (p := p) (m := m) (mod := mod) (f := pol (il (pol (il (Po.rem (Rg.pow Po.X ((pw p m).toNat ^ i.toNat)) (pol a : Po (El p m mod)))) - pol [0, 1] : Po (El p m mod)))) (show (pol (il (pol a : Po (El p m mod))) : Po (El p m mod)) ≠ 0 by rw [pol_il]; exact hm0)
      have hs7 : Po.len (pol (il (pol a : Po (El p m mod))) : Po (El p m mod)) = Po.len (pol a : Po (El p m mod)) := by rw [pol_il]
      refine efT rfl rfl rfl (by first | exact decide_eq_true hs | (rw [decide_eq_true hs]; rfl)) (eCallV rfl rfl rfl (poly_Degree g hg B18a _ c18a (il (Po.gcd (pol (il (pol a : Po (El p m mod)))) (pol (il (pol (il (Po.rem (Rg.pow Po.X ((pw p m).toNat ^ i.toNat)) (pol a : Po (El p m mod)))) - pol [0, 1] : Po (El p m mod)))) : Po (El p m mod))) rfl (by omega)) ⟨rfl, rfl, trivial⟩ ?_)
      refine stT rfl rfl rfl (by first | exact decide_eq_true hs | (rw [decide_eq_true hs]; rfl)) rfl rfl (rGtr rfl rfl rfl) ?_
      refine sV (rPick1 rfl rfl (by first | exact decide_eq_true hs | (rw [decide_eq_true hs]; rfl)) rfl) ?_
      refine tC rfl (fun h18 => ?_) (fun h18 => ?_)
      ·try simp only [zbA] at h18
       refine tS ?_
       refine tR fun _ _ _ => ?_
       iterate 2 refine pV ?_
       rcases Classical.em (((N : Int) / (ps.getD j.toNat (0, 0)).1) = i) with hs3 | hs3
       ·first
         | exact absurd hs3 hs
         | (have hno : irB (pol a : Po (El p m mod)) = false := irr_no hN h1N hps hjl (by rw [hs3]; intro h1; rw [pol_il, pol_il, pol_il, pol_il, pol_X01, gcd_sub_xq hm0, h1, Po.len_one] at h18; omega); exact tr_ret ⟨trivial, _, _, rfl, ⟨by rw [hno], rfl⟩, CSub.nil _, trivial⟩)
       ·exfalso; first | exact hs3 hs | (simp at h18; done) | exact absurd h18 (by simp)
      ·try simp only [zbA] at h18
       refine tK ?_
       refine tR fun _ _ _ => ?_
       refine sV (rAdd rfl rfl rfl (by omega) (by omega)) ?_
       refine pV ?_
       refine ⟨j + 1, ⟨rfl, rfl, rfl, rfl, rfl, rfl, rfl, rfl, rfl, rfl, rfl, rfl, rfl, rfl, trivial⟩, by first | exact cs _ _ | exact CSub.refl _, ?_⟩
       refine ⟨⟨⟨by omega, by omega⟩, fun z hz hq => ?_⟩, by omega⟩
       by_cases hzj : (z : Int) < j
       ·exact hj z hzj hq
       ·have hg1 : Po.len (Po.gcd (pol a : Po (El p m mod)) (xq p m mod i.toNat)) ≤ 1 := by
         rw [pol_il, pol_il, pol_il, pol_il, pol_X01, gcd_sub_xq hm0] at h18
         omega
        exact Po.gcd_one_of hm0 hg1
     ·refine tR fun _ _ _ => ?_
      refine pV ?_
      refine sV (rFld rfl rfl) ?_
      refine sV (rLdF rfl rfl rfl) ?_
      refine sV (rQuo rfl rfl rfl (by omega) (by omega)) ?_
      iterate 3 refine pV ?_
      refine skF rfl rfl (by first | exact decide_eq_false hs | (rw [decide_eq_false hs]; rfl)) rfl rfl ?_
      refine skF rfl rfl (by first | exact decide_eq_false hs | (rw [decide_eq_false hs]; rfl)) rfl rfl ?_
      refine skF rfl rfl (by first | exact decide_eq_false hs | (rw [decide_eq_false hs]; rfl)) rfl rfl ?_
      refine skF rfl rfl (by first | exact decide_eq_false hs | (rw [decide_eq_false hs]; rfl)) rfl rfl ?_
      refine skF rfl rfl (by first | exact decide_eq_false hs | (rw [decide_eq_false hs]; rfl)) rfl rfl ?_
      refine skF rfl rfl (by first | exact decide_eq_false hs | (rw [decide_eq_false hs]; rfl)) rfl rfl ?_
      refine skF rfl rfl (by first | exact decide_eq_false hs | (rw [decide_eq_false hs]; rfl)) rfl rfl ?_
      have hs1 := il_length (pol (il (Po.rem (Rg.pow Po.X ((pw p m).toNat ^ i.toNat)) (pol a : Po (El p m mod)))) - pol [0, 1] : Po (El p m mod))
      have hs2 := Po.len_sub (pol (il (Po.rem (Rg.pow Po.X ((pw p m).toNat ^ i.toNat)) (pol a : Po (El p m mod))))) (pol [0, 1] : Po (El p m mod))
      have hs3 : Po.len (pol (il (Po.rem (Rg.pow Po.X ((pw p m).toNat ^ i.toNat)) (pol a : Po (El p m mod)))) : Po (El p m mod)) = Po.len (Po.rem (Rg.pow Po.X ((pw p m).toNat ^ i.toNat)) (pol a : Po (El p m mod))) := by rw [pol_il]
      have hs4 : Po.len (pol [0, 1] : Po (El p m mod)) ≤ 2 := Po.len_le (pol_sh [0, 1])
      refine skF rfl rfl (by first | exact decide_eq_false hs | (rw [decide_eq_false hs]; rfl)) rfl rfl ?_
      have hs5 := il_length (Po.gcd (pol (il (pol a : Po (El p m mod)))) (pol (il (pol (il (Po.rem (Rg.pow Po.X ((pw p m).toNat ^ i.toNat)) (pol a : Po (El p m mod)))) - pol [0, 1] : Po (El p m mod)))) : Po (El p m mod))
      have hs6 := gcd_len (p := p) (m := m) (mod := mod) (f := pol (il (pol (il (Po.rem (Rg.pow Po.X ((pw p m).toNat ^ i.toNat)) (pol a : Po (El p m mod)))) - pol [0, 1] : Po (El p m mod)))) (show (pol (il (pol a : Po (El p m mod))) : Po (El p m mod)) ≠ 0 by rw [pol_il]; exact hm0)
      have hs7 : Po.len (pol (il (pol a : Po (El p m mod))) : Po (El p m mod)) = Po.len (pol a : Po (El p m mod)) := by rw [pol_il]
      refine skF rfl rfl (by first | exact decide_eq_false hs | (rw [decide_eq_false hs]; rfl)) rfl rfl ?_
      refine skF rfl rfl (by first | exact decide_eq_false hs | (rw [decide_eq_false hs]; rfl)) rfl rfl ?_
      refine sV (rPick0 rfl rfl (by first | exact decide_eq_false hs | (rw [decide_eq_false hs]; rfl)) rfl) ?_
      refine tC rfl (fun h18 => ?_) (fun h18 => ?_)
      ·try simp only [zbA] at h18
       refine tS ?_
       refine tR fun _ _ _ => ?_
       iterate 2 refine pV ?_
       rcases Classical.em (((N : Int) / (ps.getD j.toNat (0, 0)).1) = i) with hs3 | hs3
       ·first
         | exact absurd hs3 hs
         | (have hno : irB (pol a : Po (El p m mod)) = false := irr_no hN h1N hps hjl (by rw [hs3]; intro h1; rw [pol_il, pol_il, pol_il, pol_il, pol_X01, gcd_sub_xq hm0, h1, Po.len_one] at h18; omega); exact tr_ret ⟨trivial, _, _, rfl, ⟨by rw [hno], rfl⟩, CSub.nil _, trivial⟩)
       ·exfalso; first | exact hs3 hs | (simp at h18; done) | exact absurd h18 (by simp)
      ·try simp only [zbA] at h18
       refine tK ?_
       refine tR fun _ _ _ => ?_
       refine sV (rAdd rfl rfl rfl (by omega) (by omega)) ?_
       refine pV ?_
       refine ⟨j + 1, ⟨rfl, rfl, rfl, rfl, rfl, rfl, rfl, rfl, rfl, rfl, rfl, rfl, rfl, rfl, trivial⟩, by first | exact cs _ _ | exact CSub.refl _, ?_⟩
       refine ⟨⟨⟨by omega, by omega⟩, fun z hz hq => ?_⟩, by omega⟩
       by_cases hzj : (z : Int) < j
       ·exact hj z hzj hq
       ·rw [show z = j.toNat by omega] at hq; exact absurd hq hs
    ·try simp only [zbA] at h16
     refine tE ?_
     refine tR fun _ _ _ => ?_
     refine pV ?_
     refine sV (rAdd rfl rfl rfl (by omega) (by omega)) ?_
     refine pV ?_
     refine ⟨i + 1, B14, c14, (Po.rem (Rg.pow Po.X ((pw p m).toNat ^ i.toNat)) (pol a : Po (El p m mod))), ⟨rfl, rfl, rfl, rfl, rfl, rfl, rfl, rfl, trivial⟩, by exact (cs _ [ow B14 3 c14 (ints (il (Po.rem (Rg.pow Po.X ((pw p m).toNat ^ i.toNat)) (pol a : Po (El p m mod))))), ro B9 (ints (il (Po.rem Po.X (pol a : Po (El p m mod))))), ow A8 3 2 (ints [0, 1]), ow2 B7 124 c7 (pws ps), ow B1 3 c1 (ints (il (pol a : Po (El p m mod)))), gfR g]).trans (ow_ro _), ?_⟩
     refine ⟨⟨⟨by omega, by omega⟩, by rw [show (i + 1 - 1).toNat = i.toNat by omega], fun z hz hlt => ?_⟩, by omega⟩
     by_cases hq : ((N : Int) / (ps.getD z (0, 0)).1) = i
     ·rw [hq]; exact hj z (by omega) hq
     ·exact hall z hz (by omega)
   ·try simp only [zbA] at h12
    refine tE ?_
    refine tS ?_
    have hiN : i = N + 1 := by omega
    have hilh := il_length (Po.rem (Rg.pow Po.X ((pw p m).toNat ^ (i - 1).toNat)) (pol a : Po (El p m mod)))
    have hlrh := Po.rem_len (Rg.pow Po.X ((pw p m).toNat ^ (i - 1).toNat)) hm0
    refine tR fun _ _ _ => ?_
    iterate 2 refine pV ?_
    refine eV (eCallV rfl rfl rfl (slc_Equal Bh _ ch (il (Po.rem (Rg.pow Po.X ((pw p m).toNat ^ (i - 1).toNat)) (pol a : Po (El p m mod)))) rfl B9 _ c9 (il (Po.rem Po.X (pol a : Po (El p m mod)))) rfl (by omega)) ⟨rfl, rfl, trivial⟩ ?_)
    iterate 2 refine pV ?_
    have hyes := irr_yes hN h1N hps (fun z hz => hall z hz (by have := nq_le hps h1N hz; omega))
    rw [show (i - 1).toNat = N by omega, hyes]
    exact tr_ret ⟨trivial, _, _, rfl, ⟨rfl, rfl⟩, CSub.nil _, trivial⟩
end Go.Proofs.Ytbhoeaijpnjgdaa

set_option maxRecDepth 100000
namespace Go.Proofs.Ytbhoeaijpnjgdaa
open Go.RowKit
section
variable {p m : Int} {mod : List Int} [hF : IsF p m mod]
theorem pol_X001 : (pol [0, 0, 1] : Po (El p m mod)) = Po.X * Po.X := Po.ext fun j => by
 rw [cf_pol, Po.cf_mn_mul]
 match j with
 | 0 => rw [List.getD_cons_zero, if_pos (by omega), el_zero]
 | 1 => rw [List.getD_cons_succ, List.getD_cons_zero, if_neg (by omega), el_zero, Po.cf_mn, if_neg (by omega), Rg.mul_zero]
 | 2 => rw [List.getD_cons_succ, List.getD_cons_succ, List.getD_cons_zero, if_neg (by omega), Po.cf_mn, if_pos rfl, Rg.mul_one]; exact el_one
 | j + 3 => rw [List.getD_cons_succ, List.getD_cons_succ, List.getD_cons_succ, List.getD_nil, if_neg (by omega), Po.cf_mn, if_neg (by omega), Rg.mul_zero, el_zero]
theorem len_X2 : Po.len (Po.X : Po (El p m mod)) = 2 := Po.len_eq (n := 1) (fun j hj => by rw [Po.cf_mn, if_neg (by omega)]) (by rw [Po.cf_mn, if_pos rfl]; exact Fd.one_ne)
theorem X_ne0 : (Po.X : Po (El p m mod)) ≠ 0 := Po.len_pos_iff.1 (by rw [len_X2]; omega)
theorem ir_X : Po.Ir (Po.X : Po (El p m mod)) := Po.ir_of_no (by rw [len_X2]; omega) fun P hP hd => by
 have h1 := Po.dvd_len hd X_ne0
 have h2 := hP.two
 rw [len_X2] at h1 ⊢
 omega
theorem len_XX : Po.len (Po.X * Po.X : Po (El p m mod)) = 3 := by rw [Po.len_mul X_ne0 X_ne0, len_X2]
theorem not_ir_XX : ¬ Po.Ir (Po.X * Po.X : Po (El p m mod)) := fun h => h.sf Po.X ir_X (Po.dvd_refl _)
end
theorem law06_alive_ent : Enters Try.prog 14 := enters_of Try.func14 (by kernel_rfl) (by kernel_rfl)
theorem law06_alive (g : GfM) {p m : Int} {mod : List Int} [hF : IsF p m mod] (hg : GOk g p m mod) :
  Pure Try.prog 14 #[.pointer (some g.p)] [gfR g] (isV (.bool true)) := by
 refine pure_of (args := [.pointer (some g.p)]) 32 Try.func14 rfl rfl rfl law06_alive_ent ⟨id, trivial⟩ (fun w0 => ?_)
 refine tS ?_
 refine tR fun _ _ _ => ?_
 refine pV ?_
 refine tS ?_
 refine tR fun _ _ _ => ?_
 refine pV ?_
 refine eV (eLit3I rfl rfl rfl rfl rfl rfl (fun A1 => ?_))
 refine eV (eCallV rfl rfl rfl (fac_Irr g hg A1 3 3 [0, 0, 1] rfl (by simp) (by rw [pol_X001, len_XX]; rfl) 2 (by rw [pol_X001, len_XX]) (by omega) [(2, 1)] (by simp) prL_two num_Factor2) ⟨rfl, rfl, trivial⟩ ?_)
 iterate 5 refine pV ?_
 rw [pol_X001, irB_no not_ir_XX]
 refine tS ?_
 refine tR fun _ _ _ => ?_
 refine pV ?_
 refine eV (eLit2I rfl rfl rfl rfl rfl (fun A2 => ?_))
 refine eV (eCallV rfl rfl rfl (fac_Irr g hg A2 2 2 [0, 1] rfl (by simp) (by rw [pol_X01, len_X2]; rfl) 1 (by rw [pol_X01, len_X2]) (by omega) [] (by simp) prL_one num_Factor1) ⟨rfl, rfl, trivial⟩ ?_)
 iterate 5 refine pV ?_
 rw [pol_X01, irB_iff.2 ir_X]
 refine tS ?_
 refine tR fun _ _ _ => ?_
 refine pV ?_
 refine sV (rNotB rfl rfl) ?_
 refine pV ?_
 refine stg rfl rfl rfl rfl rfl (fun hb => by (have hq := hb; try simp only [zbA] at hq); exact rMove rfl rfl) ?_
 refine stg rfl rfl rfl rfl rfl (fun hb => by (have hq := hb; try simp only [zbA] at hq); exact rEql rfl (evg rfl hb) rfl) ?_
 refine sV (rAndB rfl rfl rfl rfl) ?_
 refine pV ?_
 refine stg rfl rfl rfl rfl rfl (fun hb => by (have hq := hb; try simp only [zbA] at hq); exact rMove rfl rfl) ?_
 refine sV (rAndB rfl rfl rfl rfl) ?_
 refine pV ?_
 refine stg rfl rfl rfl rfl rfl (fun hb => by (have hq := hb; try simp only [zbA] at hq); exact rMove rfl rfl) ?_
 refine stg rfl rfl rfl rfl rfl (fun hb => by (have hq := hb; try simp only [zbA] at hq); exact rEql rfl (evg rfl hb) rfl) ?_
 refine sV (rAndB rfl rfl rfl rfl) ?_
 refine pV ?_
 exact tr_ret ⟨trivial, _, _, rfl, ⟨by simp, rfl⟩, CSub.nil _, trivial⟩
end Go.Proofs.Ytbhoeaijpnjgdaa

namespace Go.Proofs.Ytbhoeaijpnjgdaa
open Go.RowKit
theorem least_of {φ : Nat → Prop} : ∀ n, φ n → ∃ k, k ≤ n ∧ φ k ∧ ∀ j, j < k → ¬ φ j := fun n => by
 induction n using Nat.strongRecOn with
 | _ n ih =>
  intro h
  by_cases hx : ∃ j, j < n ∧ φ j
  ·obtain ⟨j, hj, hφ⟩ := hx
   obtain ⟨k, hk, h1, h2⟩ := ih j hj hφ
   exact ⟨k, by omega, h1, h2⟩
  ·exact ⟨n, Nat.le_refl _, h, fun j hj hφ => hx ⟨j, hj, hφ⟩⟩
def encN (q : Int) (u : Nat → Int) : Nat → Int
 | 0 => 0
 | n + 1 => encN q u n + u n * q ^ n
theorem encN_bd {q : Int} (hq : 1 ≤ q) {u : Nat → Int} : ∀ n, (∀ j, j < n → 0 ≤ u j ∧ u j < q) → 0 ≤ encN q u n ∧ encN q u n < q ^ n
 | 0, _ => by rw [encN, Int.pow_zero]; omega
 | n + 1, h => by
  have ih := encN_bd hq n fun j hj => h j (by omega)
  have hn := h n (by omega)
  have hp : 0 < q ^ n := Int.pow_pos (by omega)
  have h1 : 0 ≤ u n * q ^ n := Int.mul_nonneg hn.1 (by omega)
  have h2 : (u n + 1) * q ^ n ≤ q * q ^ n := Int.mul_le_mul_of_nonneg_right (by omega) (by omega)
  rw [encN, Int.pow_succ, Int.mul_comm _ q]
  rw [Int.add_mul, Int.one_mul] at h2
  omega
theorem encN_inj {q : Int} (hq : 1 ≤ q) {u v : Nat → Int} : ∀ n, (∀ j, j < n → 0 ≤ u j ∧ u j < q) → (∀ j, j < n → 0 ≤ v j ∧ v j < q) → encN q u n = encN q v n → ∀ j, j < n → u j = v j
 | 0, _, _, _, j, hj => by omega
 | n + 1, hu, hv, e, j, hj => by
  have b1 := encN_bd hq n fun j hj => hu j (by omega)
  have b2 := encN_bd hq n fun j hj => hv j (by omega)
  have hp : 0 < q ^ n := Int.pow_pos (by omega)
  rw [encN, encN] at e
  have h1 : u n = v n := by
   have e1 : (encN q u n + u n * q ^ n) / q ^ n = u n := by rw [Int.add_mul_ediv_right _ _ (by omega), Int.ediv_eq_zero_of_lt b1.1 b1.2, Int.zero_add]
   have e2 : (encN q v n + v n * q ^ n) / q ^ n = v n := by rw [Int.add_mul_ediv_right _ _ (by omega), Int.ediv_eq_zero_of_lt b2.1 b2.2, Int.zero_add]
   rw [← e1, e, e2]
  rw [h1] at e
  rcases Nat.lt_or_ge j n with h2 | h2
  ·exact encN_inj hq n (fun j hj => hu j (by omega)) (fun j hj => hv j (by omega)) (by omega) j h2
  ·have : j = n := by omega
   subst this; exact h1
section
variable {K : Type} [Fd K]
noncomputable def xk (f : Po K) (k : Nat) : Po K := Po.rem (Po.mn 1 k) f
theorem X_ne : (Po.mn 1 1 : Po K) ≠ 0 := fun e => by
 have := congrArg (fun f => Po.cf f 1) e
 simp only [Po.cf_mn, if_true, Po.cf_zero] at this
 exact Fd.one_ne (K := K) this
theorem mul_X_dvd {f g : Po K} (h0 : Po.cf f 0 ≠ 0) (h : f ∣ Po.mn 1 1 * g) : f ∣ g := by
 obtain ⟨h, hh⟩ := h
 have h1 : Po.cf h 0 = 0 := by
  have e := congrArg (fun f => Po.cf f 0) hh
  simp only [Po.cf_mn_mul, Nat.zero_lt_one, if_true] at e
  rw [Po.cf_mul, Rg.sm_succ, Rg.sm_zero, Rg.zero_add] at e
  exact (Fd.mul_eq_zero e.symm).resolve_left h0
 let h' : Po K := ⟨fun j => Po.cf h (j + 1), Po.len h, fun j hj => Po.cf_ge (by omega)⟩
 have e : h = Po.mn 1 1 * h' := Po.ext fun j => by
  rw [Po.cf_mn_mul]
  match j with
  | 0 => exact h1
  | j + 1 => rw [if_neg (by omega), Rg.one_mul]; rfl
 refine ⟨h', Po.mul_cancel X_ne ?_⟩
 rw [hh, e, ← Rg.mul_assoc, Rg.mul_comm f, Rg.mul_assoc]
theorem mul_Xk_dvd {f g : Po K} (h0 : Po.cf f 0 ≠ 0) : ∀ k, f ∣ Po.mn 1 k * g → f ∣ g
 | 0, h => by
  rw [show (Po.mn 1 0 : Po K) = 1 from rfl, Rg.one_mul] at h; exact h
 | k + 1, h => by
  have e : (Po.mn 1 (k + 1) : Po K) * g = Po.mn 1 1 * (Po.mn 1 k * g) := by
   rw [← Rg.mul_assoc, Po.mn_mul, Rg.one_mul, Nat.add_comm]
  rw [e] at h
  exact mul_Xk_dvd h0 k (mul_X_dvd h0 h)
theorem ne_of_cf {f : Po K} (h0 : Po.cf f 0 ≠ 0) : f ≠ 0 := fun e => h0 (by rw [e, Po.cf_zero])
theorem xk_back {f : Po K} (h0 : Po.cf f 0 ≠ 0) {i j : Nat} (hij : i ≤ j) (h : xk f i = xk f j) : xk f (j - i) = xk f 0 := by
 have hf := ne_of_cf h0
 unfold xk at h ⊢
 rw [Po.rem_eq_iff hf] at h ⊢
 refine mul_Xk_dvd h0 i ?_
 have e : (Po.mn 1 i : Po K) * (Po.mn 1 (j - i) - Po.mn 1 0) = -(Po.mn 1 i - Po.mn 1 j) := by
  rw [Rg.mul_sub, Po.mn_mul, Po.mn_mul, Rg.one_mul, Rg.neg_sub, show i + (j - i) = j by omega, Nat.add_zero]
 rw [e]
 obtain ⟨k, hk⟩ := h
 exact ⟨-k, by rw [hk, Rg.mul_neg]⟩
theorem xk_succ {f : Po K} (hf : f ≠ 0) (k : Nat) : Po.rem (Po.mn 1 1 * xk f k) f = xk f (k + 1) := by
 unfold xk
 rw [Po.rem_eq_iff hf]
 obtain ⟨q, hq⟩ := Po.rem_sub_dvd (Po.mn 1 k) hf
 refine ⟨-(Po.mn 1 1 * q), ?_⟩
 have e : (Po.mn 1 (k + 1) : Po K) = Po.mn 1 1 * Po.mn 1 k := by rw [Po.mn_mul, Rg.one_mul, Nat.add_comm]
 rw [e, ← Rg.mul_sub, ← Rg.neg_sub, hq]
 grind
end
section
variable {p m : Int} {mod : List Int} [hF : IsF p m mod]
theorem per_ex {f : Po (El p m mod)} (h0 : Po.cf f 0 ≠ 0) : ∃ k : Nat, 1 ≤ k ∧ (k : Int) ≤ pw p m ^ (Po.len f - 1) ∧ xk f k = xk f 0 ∧ ∀ j, 1 ≤ j → j < k → xk f j ≠ xk f 0 := by
 have hf := ne_of_cf h0
 have hq := hF.q2
 have hsh : ∀ i, Po.len (xk f i) < Po.len f := fun i => Po.rem_len _ hf
 have hbd : ∀ i j, j < Po.len f - 1 → 0 ≤ (Po.cf (xk f i) j).1 ∧ (Po.cf (xk f i) j).1 < pw p m := fun i j _ => by
  have h1 := il_in (xk f i)
  by_cases hj : j < (il (xk f i)).length
  ·have := h1 _ (getD_mem hj 0)
   rwa [il_getD] at this
  ·rw [Po.cf_ge (by rw [il_length] at hj; omega)]
   show 0 ≤ (0 : Int) ∧ (0 : Int) < pw p m
   omega
 let e : Nat → Int := fun i => encN (pw p m) (fun j => (Po.cf (xk f i) j).1) (Po.len f - 1)
 have hinj : ∀ i j, e i = e j → xk f i = xk f j := fun i j h => Po.ext fun u => by
  by_cases hu : u < Po.len f - 1
  ·exact El.ext (encN_inj (by omega) _ (hbd i) (hbd j) h u hu)
  ·rw [Po.cf_ge (by have := hsh i; omega), Po.cf_ge (by have := hsh j; omega)]
 have hN : 0 ≤ pw p m ^ (Po.len f - 1) := Int.pow_nonneg (by omega)
 obtain ⟨N, hNe⟩ := Int.eq_ofNat_of_zero_le hN
 have hrep : ∃ i j, i < j ∧ j ≤ N ∧ e i = e j := Classical.byContradiction fun hno => by
  have := nodup_len N ((List.range (N + 1)).map fun i => e i + 1) ?_ ?_
  ·simp at this; omega
  ·rw [List.Nodup, List.pairwise_map]
   refine List.Pairwise.imp_of_mem ?_ List.pairwise_lt_range
   intro u v hu hv huv he
   exact hno ⟨u, v, huv, by have := List.mem_range.1 hv; omega, by omega⟩
  ·intro y hy
   obtain ⟨i, _, rfl⟩ := List.mem_map.1 hy
   have := encN_bd (show 1 ≤ pw p m by omega) (Po.len f - 1) (hbd i)
   show 0 < e i + 1 ∧ e i + 1 ≤ N
   have h2 : e i < pw p m ^ (Po.len f - 1) := this.2
   have h3 : 0 ≤ e i := this.1
   omega
 obtain ⟨i, j, hij, hj, he⟩ := hrep
 have h1 := xk_back h0 (by omega) (hinj i j he)
 obtain ⟨k, hk, ⟨hk1, hk2⟩, hk3⟩ := least_of (φ := fun k => 1 ≤ k ∧ xk f k = xk f 0) (j - i) ⟨by omega, h1⟩
 exact ⟨k, hk1, by rw [hNe]; omega, hk2, fun j hj1 hj2 e => hk3 j hj2 ⟨hj1, e⟩⟩
theorem xk_step {f : Po (El p m mod)} (hl : Po.lead f = 1) (h2 : 2 ≤ Po.len f) (k : Nat) : xk f (k + 1) = Po.mn 1 1 * xk f k - Po.C (Po.cf (xk f k) (Po.len f - 2)) * f := by
 have hf : f ≠ 0 := fun e => by rw [e, Po.len_zero] at h2; omega
 have hlen := Po.rem_len (Po.mn 1 k) hf
 have hsh : Po.Sh (Po.mn 1 1 * xk f k - Po.C (Po.cf (xk f k) (Po.len f - 2)) * f) (Po.len f - 1) := fun j hj => by
  rw [Po.cf_sub, Po.cf_mn_mul, if_neg (by omega), Rg.one_mul, Po.cf_C_mul]
  by_cases hj2 : j = Po.len f - 1
  ·subst hj2
   have : Po.cf f (Po.len f - 1) = 1 := hl
   rw [this, Rg.mul_one, show Po.len f - 1 - 1 = Po.len f - 2 by omega, Rg.sub_self]
  ·rw [Po.cf_ge (f := f) (by omega), Rg.mul_zero, Po.cf_ge (show Po.len (xk f k) ≤ j - 1 by show Po.len (Po.rem _ _) ≤ _; omega), Rg.sub_self]
 have e : xk f (k + 1) = Po.rem (Po.mn 1 1 * xk f k - Po.C (Po.cf (xk f k) (Po.len f - 2)) * f) f := by
  rw [← xk_succ hf, Po.rem_eq_iff hf]
  exact ⟨Po.C (Po.cf (xk f k) (Po.len f - 2)), by rw [Rg.mul_comm f]; grind⟩
 rw [e]
 exact Po.rem_small (by have := Po.len_le hsh; omega)
end
end Go.Proofs.Ytbhoeaijpnjgdaa

set_option maxRecDepth 100000
namespace Go.Proofs.Ytbhoeaijpnjgdaa
open Go.RowKit
def PerO {K : Type} [Fd K] (f : Po K) (k : Nat) : Prop := 1 ≤ k ∧ f ∣ Po.mn 1 k - Po.mn 1 0 ∧ ∀ j, 1 ≤ j → j < k → ¬ f ∣ Po.mn 1 j - Po.mn 1 0
theorem PerO.uniq {K : Type} [Fd K] {f : Po K} {k l : Nat} (h : PerO f k) (h2 : PerO f l) : k = l := by
 rcases Nat.lt_trichotomy k l with e | e | e
 ·exact absurd h.2.1 (h2.2.2 k h.1 e)
 ·exact e
 ·exact absurd h2.2.1 (h.2.2 l h2.1 e)
theorem PerO.mon {K : Type} [Fd K] {f : Po K} {k : Nat} (h : PerO f k) : PerO (Po.mon f) k := ⟨h.1, Po.dvd_trans (Po.mon_dvd f) h.2.1, fun j h1 h2 h3 => h.2.2 j h1 h2 (Po.dvd_trans (Po.dvd_mon f) h3)⟩
theorem PerO.is {K : Type} [Fd K] {f : Po K} {k j : Nat} (h : PerO f k) (h1 : 1 ≤ j) (h2 : j ≤ k) (h3 : f ∣ Po.mn 1 j - Po.mn 1 0) : j = k := by
 rcases Nat.lt_or_eq_of_le h2 with e | e
 ·exact absurd h3 (h.2.2 j h1 e)
 ·exact e
section
variable {p m : Int} {mod : List Int} [hF : IsF p m mod]
theorem perO_ex {f : Po (El p m mod)} (h0 : Po.cf f 0 ≠ 0) : ∃ k : Nat, PerO f k ∧ (k : Int) ≤ pw p m ^ (Po.len f - 1) := by
 obtain ⟨k, h1, h2, h3, h4⟩ := per_ex h0
 have hf := ne_of_cf h0
 refine ⟨k, ⟨h1, (Po.rem_eq_iff hf).1 h3, fun j j1 j2 hd => h4 j j1 j2 ((Po.rem_eq_iff hf).2 hd)⟩, h2⟩
theorem per_step {M : Po (El p m mod)} {N : Nat} {r o : List Int} (hM : Po.len M = N + 1) (hl : Po.lead M = 1) (hN : 1 ≤ N) (hr : r.length = N) (ho : o.length = N)
  (h0 : (el (o.getD 0 0) : El p m mod) = -(el (r.getD (N - 1) 0) * Po.cf M 0)) (hj : ∀ j, 1 ≤ j → j < N → (el (o.getD j 0) : El p m mod) = el (r.getD (j - 1) 0) - el (r.getD (N - 1) 0) * Po.cf M j) {k : Nat} (hp : (pol r : Po (El p m mod)) = xk M k) : (pol o : Po (El p m mod)) = xk M (k + 1) := by
 rw [xk_step hl (by omega) k, ← hp]
 refine Po.ext fun j => ?_
 rw [cf_pol, Po.cf_sub, Po.cf_mn_mul, Po.cf_C_mul, cf_pol, show Po.len M - 2 = N - 1 by omega]
 by_cases hj0 : j = 0
 ·subst hj0
  rw [h0, if_pos (by omega), Rg.zero_sub, cf_pol]
 ·rw [if_neg (by omega), Rg.one_mul, cf_pol]
  rcases Nat.lt_trichotomy j N with e | e | e
  ·exact hj j (by omega) e
  ·subst e
   have : Po.cf M j = 1 := by
    have h1 := hl
    unfold Po.lead at h1
    rw [hM, Nat.add_sub_cancel] at h1; exact h1
   rw [getD_out (by omega), el_zero, this, Rg.mul_one, Rg.sub_self]
  ·rw [getD_out (l := o) (by omega), getD_out (l := r) (by omega), Po.cf_ge (f := M) (by omega), el_zero, Rg.mul_zero, Rg.sub_self]
theorem per_end {o : List Int} (hi : AllIn (pw p m) o) (hl : 1 ≤ o.length) : (pol o : Po (El p m mod)) = 1 ↔ o.getD 0 0 = 1 ∧ (o.drop 1).any (fun x => decide (¬ x = 0)) = false := by
 have hq := hF.q2
 have hb : ∀ j, 0 ≤ o.getD j 0 ∧ o.getD j 0 < pw p m := fun j => hi.get (by omega) j
 constructor
 ·intro h
  have hc : ∀ j, (el (o.getD j 0) : El p m mod) = if j = 0 then 1 else 0 := fun j => by rw [← cf_pol, h, Po.cf_one]
  refine ⟨?_, ?_⟩
  ·have h1 := hc 0
   rw [if_pos rfl] at h1
   have h2 := congrArg (fun z : El p m mod => z.1) h1
   rw [el_in (hb 0)] at h2; exact h2
  ·rw [List.any_eq_false]
   intro x hx
   obtain ⟨j, hj, rfl⟩ := List.getElem_of_mem hx
   rw [List.getElem_drop]
   have h1 := hc (1 + j)
   rw [if_neg (by omega)] at h1
   have h2 := congrArg (fun z : El p m mod => z.1) h1
   rw [el_in (hb (1 + j))] at h2
   rw [List.getD_eq_getElem?_getD, List.getElem?_eq_getElem (by rw [List.length_drop] at hj; omega)] at h2
   have h3 : o[1 + j]'(by rw [List.length_drop] at hj; omega) = 0 := h2
   simp [h3]
 ·rintro ⟨h1, h2⟩
  refine Po.ext fun j => ?_
  rw [cf_pol, Po.cf_one]
  by_cases hj : j = 0
  ·subst hj; rw [h1, if_pos rfl]; exact el_one
  ·rw [if_neg hj]
   by_cases hjl : j < o.length
   ·rw [List.any_eq_false] at h2
    have h3 := h2 (o.getD j 0) (by
     have : o.getD j 0 = (o.drop 1)[j - 1]'(by rw [List.length_drop]; omega) := by
      rw [List.getElem_drop, List.getD_eq_getElem?_getD, List.getElem?_eq_getElem hjl]
      simp only [Option.getD_some]; congr 1; omega
     rw [this]; exact List.getElem_mem _)
    have h4 : o.getD j 0 = 0 := by simpa using h3
    rw [h4, el_zero]
   ·rw [getD_out (by omega), el_zero]
theorem xk_zero {M : Po (El p m mod)} (h2 : 2 ≤ Po.len M) : xk M 0 = 1 := by
 unfold xk
 exact Po.rem_small (by show Po.len (1 : Po (El p m mod)) < _; rw [Po.len_one]; omega)
theorem pol_first {N : Nat} (hN : 1 ≤ N) : (pol ((List.replicate N (0 : Int)).set 0 1) : Po (El p m mod)) = 1 := Po.ext fun j => by
 rw [cf_pol, Po.cf_one, getD_set]
 by_cases h : j = 0
 ·subst h; rw [if_pos ⟨rfl, by rw [List.length_replicate]; omega⟩, if_pos rfl]; exact el_one
 ·rw [if_neg (fun e => h e.1.symm), if_neg h, rep_get, el_zero]
end
theorem rd_cut1 {F : List Chunk} {A : Option Addr} {o : List Int} {c : Nat} [h : Rd F A (ints o)] (hc : o.length ≤ c) : Rd F (cutA A (Int.toNat 1) c) (ints (o.drop 1)) := ⟨fun M w0 w hm j hj => by
 have e1 : Int.toNat 1 = 1 := rfl
 rw [ints_length, List.length_drop] at hj
 obtain ⟨ad, h1, h2⟩ := h.rd M w0 w hm (1 + j) (by rw [ints_length]; omega)
 subst h1
 refine ⟨ad.add 1, by rw [cutA, e1, if_pos (by omega)]; rfl, ?_⟩
 rw [add_add, h2]
 simp [ints, Nat.add_comm], fun b hb => by
 obtain ⟨hne, ad', h1, h2⟩ := hb
 have hl : 0 < (ints (o.drop 1)).length := List.length_pos_iff.2 hne
 rw [ints_length, List.length_drop] at hl
 have e1 : Int.toNat 1 = 1 := rfl
 rw [cutA, e1, if_pos (by omega)] at h1
 cases A with
 | none => simp [shA] at h1
 | some ad =>
  simp [shA] at h1
  subst h1
  exact h.ft b ⟨fun e => by have := congrArg List.length e; rw [ints_length] at this; simp at this; rw [this] at hl; simp at hl, ad, rfl, by rw [← h2, block_add]⟩⟩
theorem num_ExpB_ent : Enters Try.prog 68 := enters_of Try.func68 (by kernel_rfl) (by kernel_rfl)
theorem num_ExpB (b e : Int) (hb1 : 2 ≤ b) (hb9 : b ≤ 65536) (he0 : 0 ≤ e) (he9 : e ≤ 1000) (hbe : 65536 < b ^ e.toNat) :
  Pure Try.prog 68 #[.int .i64 b, .int .i64 e, .int .i64 65536] [] (isV (.tuple #[.int .i64 0, .int .i64 8])) := by
 refine pure_of (args := [.int .i64 b, .int .i64 e, .int .i64 65536]) 44 Try.func68 rfl rfl rfl num_ExpB_ent trivial (fun w0 => ?_)
 refine tS ?_
 refine tR fun _ _ _ => ?_
 iterate 2 refine pV ?_
 refine tS ?_
 refine tS ?_
 refine tR fun _ _ _ => ?_
 iterate 3 refine pV ?_
 refine stg rfl rfl rfl rfl rfl (fun hb => by (have hq := hb; try simp only [zbA] at hq); exact rMove rfl rfl) ?_
 refine stg rfl rfl rfl rfl rfl (fun hb => by (have hq := hb; try simp only [zbA] at hq); exact rLss rfl (evg rfl hb) rfl) ?_
 refine sV (rOrB rfl rfl rfl rfl) ?_
 refine pV ?_
 refine stg rfl rfl rfl rfl rfl (fun hb => by (have hq := hb; try simp only [zbA] at hq); exact rMove rfl rfl) ?_
 refine stg rfl rfl rfl rfl rfl (fun hb => by (have hq := hb; try simp only [zbA] at hq); exact rLss rfl (evg rfl hb) rfl) ?_
 refine sV (rOrB rfl rfl rfl rfl) ?_
 refine tC rfl (fun h1 => ?_) (fun h1 => ?_)
 ·try simp only [zbA] at h1
  omega --done
 ·try simp only [zbA] at h1
  refine tK ?_
  refine tS ?_
  refine tS ?_
  refine tR fun _ _ _ => ?_
  iterate 3 refine pV ?_
  refine stg rfl rfl rfl rfl rfl (fun hb => by (have hq := hb; try simp only [zbA] at hq); exact rMove rfl rfl) ?_
  refine stg rfl rfl rfl rfl rfl (fun hb => by (have hq := hb; try simp only [zbA] at hq); exact rGtr rfl (evg rfl hb) rfl) ?_
  refine sV (rAndB rfl rfl rfl rfl) ?_
  refine tC rfl (fun h3 => ?_) (fun h3 => ?_)
  ·try simp only [zbA] at h3
   omega --done
  ·try simp only [zbA] at h3
   refine tK ?_
   refine tS ?_
   refine tS ?_
   refine tR fun _ _ _ => ?_
   iterate 2 refine pV ?_
   refine tC rfl (fun h5 => ?_) (fun h5 => ?_)
   ·try simp only [zbA] at h5
    omega --done
   ·try simp only [zbA] at h5
    refine tK ?_
    refine tS ?_
    refine tR fun _ _ _ => ?_
    refine pV ?_
    refine tS ?_
    refine tB ?_
    refine tr_loop2 (fun (t : Int) (o : Int) => [(1, .int .i64 t), (8, .int .i64 o), (0, .int .i64 b), (2, .int .i64 65536)]) (fun (t : Int) (o : Int) => []) (fun (t : Int) (o : Int) => (0 ≤ t ∧ t ≤ e) ∧ (1 ≤ o ∧ o ≤ 65536) ∧ o = b ^ (e - t).toNat) (fun (t : Int) (o : Int) => t.toNat) (e) (1) ⟨rfl, rfl, rfl, rfl, trivial⟩ (by first | exact cs _ _ | exact CSub.refl _) (⟨⟨by omega, by omega⟩, ⟨by omega, by omega⟩, by rw [show (e - e).toNat = 0 by omega, Int.pow_zero]⟩) (fun t o hI => ?_)
    obtain ⟨⟨ht0, ht1⟩, ⟨ho0, ho1⟩, ho⟩ := hI
    refine tS ?_
    refine tS ?_
    refine tR fun _ _ _ => ?_
    iterate 3 refine pV ?_
    refine stg rfl rfl rfl rfl rfl (fun hb => by (have hq := hb; try simp only [zbA] at hq); exact rMove rfl rfl) ?_
    refine stg rfl rfl rfl rfl rfl (fun hb => by (have hq := hb; try simp only [zbA] at hq); exact rGtr rfl (evg rfl hb) rfl) ?_
    refine sV (rAndB rfl rfl rfl rfl) ?_
    refine tC rfl (fun h8 => ?_) (fun h8 => ?_)
    ·try simp only [zbA] at h8
     refine tK ?_
     refine tS ?_
     refine tB ?_
     refine tS ?_
     refine tS ?_
     have hdv0 : 0 ≤ 65536 / b := Int.ediv_nonneg (by omega) (by omega)
     refine tR fun _ _ _ => ?_
     iterate 3 refine pV ?_
     refine sV (rQuo rfl rfl rfl (by omega) (by omega)) ?_
     refine pV ?_
     refine tC rfl (fun h10 => ?_) (fun h10 => ?_)
     ·try simp only [zbA] at h10
      refine tS ?_
      refine tR fun _ _ _ => ?_
      iterate 2 refine pV ?_
      exact tr_ret ⟨trivial, _, _, rfl, ⟨rfl, rfl⟩, CSub.nil _, trivial⟩
     ·try simp only [zbA] at h10
      refine tK ?_
      have hob : o * b ≤ 65536 := Int.mul_le_of_le_ediv (by omega) (by omega)
      have hob0 : 0 < o * b := Int.mul_pos (by omega) (by omega)
      refine tR fun _ _ _ => ?_
      iterate 2 refine pV ?_
      refine sV (rMul rfl rfl rfl (by omega) (by omega)) ?_
      refine pV ?_
      refine tR fun _ _ _ => ?_
      refine pV ?_
      refine sV (rSub rfl rfl rfl (by omega) (by omega)) ?_
      refine pV ?_
      refine ⟨t - 1, o * b, ⟨rfl, rfl, rfl, rfl, trivial⟩, by first | exact cs _ _ | exact CSub.refl _, ?_⟩
      exact ⟨⟨⟨by omega, by omega⟩, ⟨by omega, by omega⟩, by rw [show (e - (t - 1)).toNat = (e - t).toNat + 1 by omega, Int.pow_succ, ho]⟩, by omega⟩
    ·try simp only [zbA] at h8
     have htz : t = 0 := by omega
     rw [htz, Int.sub_zero] at ho
     omega --done
theorem fac_monic_ent : Enters Try.prog 52 := enters_of Try.func52 (by kernel_rfl) (by kernel_rfl)
theorem fac_monic (g : GfM) {p m : Int} {mod : List Int} [hF : IsF p m mod] (hg : GOk g p m mod) (A : Option Addr) (n c : Nat) (a : List Int) (hn : n = a.length) (ha9 : a.length ≤ 1000000) (h0 : (pol a : Po (El p m mod)) ≠ 0) :
  Pure Try.prog 52 #[.pointer (some g.p), .slice A n c] [gfR g, ro A (ints a)] (one (fun v ch => ∃ B cap, v = .slice B (il (Po.mon (pol a : Po (El p m mod)))).length cap ∧ ch = ow B 3 cap (ints (il (Po.mon (pol a : Po (El p m mod))))))) := by
 refine pure_of (args := [.pointer (some g.p), .slice A n c]) 14 Try.func52 rfl rfl rfl fac_monic_ent ⟨id, id, trivial⟩ (fun w0 => ?_)
 refine tS ?_
 refine tR fun _ _ _ => ?_
 refine pV ?_
 refine tS ?_
 refine tR fun _ _ _ => ?_
 iterate 2 refine pV ?_
 refine eV (eCall1 rfl rfl rfl (poly_Monic g hg A n c a hn (by omega) h0) ⟨rfl, rfl, trivial⟩ ?_)
 rintro _ _ ⟨B1, c1, rfl, rfl⟩
 iterate 5 refine pV ?_
 refine tS ?_
 refine tR fun _ _ _ => ?_
 iterate 2 refine pV ?_
 exact tr_ret ⟨trivial, _, _, rfl, ⟨_, rfl, B1, c1, rfl, rfl⟩, cs _ _, trivial, trivial⟩
theorem fac_Period1_ent : Enters Try.prog 74 := enters_of Try.func74 (by kernel_rfl) (by kernel_rfl)
theorem fac_Period1 (x : Int) :
  Pure Try.prog 74 #[.int .i64 x] [] (isV (.bool (decide (¬ x = 0)))) := by
 refine pure_of (args := [.int .i64 x]) 5 Try.func74 rfl rfl rfl fac_Period1_ent trivial (fun w0 => ?_)
 refine tS ?_
 refine tR fun _ _ _ => ?_
 refine pV ?_
 refine tS ?_
 refine tR fun _ _ _ => ?_
 iterate 3 refine pV ?_
 exact tr_ret ⟨trivial, _, _, rfl, ⟨rfl, rfl⟩, CSub.nil _, trivial⟩
theorem fac_Period1F (x : Int) : Pure Try.prog 74 ([Value.int .i64 x] ++ []).toArray [] (isV (.bool (decide (¬ x = 0)))) := fac_Period1 x
theorem fac_PeriodE_ent : Enters Try.prog 26 := enters_of Try.func26 (by kernel_rfl) (by kernel_rfl)
theorem fac_PeriodE (g : GfM) {p m : Int} {mod : List Int} [hF : IsF p m mod] (hg : GOk g p m mod) (A : Option Addr) (n c : Nat) (a : List Int) (hn : n = a.length) (ha9 : a.length ≤ 17592186044415) (he : facE (Po.len (pol a : Po (El p m mod))) ≠ 0) :
  Pure Try.prog 26 #[.pointer (some g.p), .slice A n c] [gfR g, ro A (ints a)] (isV (.tuple #[.int .i64 0, .int .i64 (facE (Po.len (pol a : Po (El p m mod))))])) := by
 refine pure_of (args := [.pointer (some g.p), .slice A n c]) 100 Try.func26 rfl rfl rfl fac_PeriodE_ent ⟨id, id, trivial⟩ (fun w0 => ?_)
 refine tS ?_
 refine tR fun _ _ _ => ?_
 iterate 2 refine pV ?_
 refine tS ?_
 refine tR fun _ _ _ => ?_
 iterate 2 refine pV ?_
 refine eV (eCallV rfl rfl rfl (fac_enterE g hg A n c a hn ha9 he) ⟨rfl, rfl, trivial⟩ ?_)
 iterate 5 refine pV ?_
 refine tS ?_
 refine tS ?_
 refine tR fun _ _ _ => ?_
 iterate 2 refine pV ?_
 refine tC rfl (fun h2 => ?_) (fun h2 => ?_)
 ·try simp only [zbA] at h2
  refine tS ?_
  refine tR fun _ _ _ => ?_
  iterate 3 refine pV ?_
  exact tr_ret ⟨trivial, _, _, rfl, ⟨rfl, rfl⟩, CSub.nil _, trivial⟩
 ·try simp only [zbA] at h2
  omega --done
theorem fac_PeriodB_ent : Enters Try.prog 26 := enters_of Try.func26 (by kernel_rfl) (by kernel_rfl)
theorem fac_PeriodB (g : GfM) {p m : Int} {mod : List Int} [hF : IsF p m mod] (hg : GOk g p m mod) (A : Option Addr) (n c : Nat) (a : List Int) (hn : n = a.length) (ha9 : a.length ≤ 17592186044415) (he : facE (Po.len (pol a : Po (El p m mod))) = 0) (N : Nat) (hN : Po.len (pol a : Po (El p m mod)) = N + 1) (hbig : 65536 < pw p m ^ N) :
  Pure Try.prog 26 #[.pointer (some g.p), .slice A n c] [gfR g, ro A (ints a)] (isV (.tuple #[.int .i64 0, .int .i64 8])) := by
 have hil := il_length (pol a : Po (El p m mod))
 have hle := facE_ok he
 have hm0 := ne_of_len hle.1
 have hgq := hg.eq
 have hq2 := hF.q2
 have hq256 := hF.out.1.1.q
 refine pure_of (args := [.pointer (some g.p), .slice A n c]) 100 Try.func26 rfl rfl rfl fac_PeriodB_ent ⟨id, id, trivial⟩ (fun w0 => ?_)
 refine tS ?_
 refine tR fun _ _ _ => ?_
 iterate 2 refine pV ?_
 refine tS ?_
 refine tR fun _ _ _ => ?_
 iterate 2 refine pV ?_
 refine eV (eCall1 rfl rfl rfl (fac_enter g hg A n c a hn ha9 he) ⟨rfl, rfl, trivial⟩ ?_)
 rintro _ _ ⟨B1, c1, rfl, hc1, rfl⟩
 iterate 5 refine pV ?_
 refine tS ?_
 refine tS ?_
 refine tR fun _ _ _ => ?_
 iterate 2 refine pV ?_
 refine tC rfl (fun h2 => ?_) (fun h2 => ?_)
 ·try simp only [zbA] at h2
  first | exact absurd trivial h2 | exact absurd rfl h2 | omega | (exact absurd h2 (by simp)) --done
 ·try simp only [zbA] at h2
  refine tK ?_
  refine tS ?_
  refine tR fun _ _ _ => ?_
  refine pV ?_
  refine sV (rLen rfl rfl) ?_
  refine sV (rSub rfl rfl rfl (by omega) (by omega)) ?_
  refine pV ?_
  rw [show ((il (pol a : Po (El p m mod))).length : Int) - 1 = (N : Int) by omega]
  refine tS ?_
  refine tS ?_
  refine tR fun _ _ _ => ?_
  refine pV ?_
  refine eV (eCallV rfl rfl rfl (gf_Order g) ⟨rfl, trivial⟩ ?_)
  refine pV ?_
  rw [hgq]
  refine eV (eCallV rfl rfl rfl (num_ExpB (pw p m) N (by omega) (by omega) (by omega) (by omega) (by rw [Int.toNat_natCast]; exact hbig)) ⟨rfl, rfl, rfl, trivial⟩ ?_)
  iterate 5 refine pV ?_
  refine tS ?_
  refine tR fun _ _ _ => ?_
  iterate 2 refine pV ?_
  refine tC rfl (fun h6 => ?_) (fun h6 => ?_)
  ·try simp only [zbA] at h6
   refine tS ?_
   refine tR fun _ _ _ => ?_
   iterate 2 refine pV ?_
   exact tr_ret ⟨trivial, _, _, rfl, ⟨rfl, rfl⟩, CSub.nil _, trivial⟩
  ·try simp only [zbA] at h6
   omega --done
theorem fac_PeriodZ_ent : Enters Try.prog 26 := enters_of Try.func26 (by kernel_rfl) (by kernel_rfl)
theorem fac_PeriodZ (g : GfM) {p m : Int} {mod : List Int} [hF : IsF p m mod] (hg : GOk g p m mod) (A : Option Addr) (n c : Nat) (a : List Int) (hn : n = a.length) (ha9 : a.length ≤ 17592186044415) (he : facE (Po.len (pol a : Po (El p m mod))) = 0) (N : Nat) (hN : Po.len (pol a : Po (El p m mod)) = N + 1) (hsm : pw p m ^ N ≤ 65536) (h0 : (Po.cf (pol a : Po (El p m mod)) 0) = 0) :
  Pure Try.prog 26 #[.pointer (some g.p), .slice A n c] [gfR g, ro A (ints a)] (isV (.tuple #[.int .i64 0, .int .i64 5])) := by
 have hil := il_length (pol a : Po (El p m mod))
 have hle := facE_ok he
 have hm0 := ne_of_len hle.1
 have hgq := hg.eq
 have hq2 := hF.q2
 have hq256 := hF.out.1.1.q
 have hc0 : (il (pol a : Po (El p m mod))).getD (Int.toNat 0) 0 = 0 := by rw [show Int.toNat 0 = 0 from rfl, il_getD, h0]; rfl
 refine pure_of (args := [.pointer (some g.p), .slice A n c]) 100 Try.func26 rfl rfl rfl fac_PeriodZ_ent ⟨id, id, trivial⟩ (fun w0 => ?_)
 refine tS ?_
 refine tR fun _ _ _ => ?_
 iterate 2 refine pV ?_
 refine tS ?_
 refine tR fun _ _ _ => ?_
 iterate 2 refine pV ?_
 refine eV (eCall1 rfl rfl rfl (fac_enter g hg A n c a hn ha9 he) ⟨rfl, rfl, trivial⟩ ?_)
 rintro _ _ ⟨B1, c1, rfl, hc1, rfl⟩
 iterate 5 refine pV ?_
 refine tS ?_
 refine tS ?_
 refine tR fun _ _ _ => ?_
 iterate 2 refine pV ?_
 refine tC rfl (fun h2 => ?_) (fun h2 => ?_)
 ·try simp only [zbA] at h2
  first | exact absurd trivial h2 | exact absurd rfl h2 | omega | (exact absurd h2 (by simp)) --done
 ·try simp only [zbA] at h2
  refine tK ?_
  refine tS ?_
  refine tR fun _ _ _ => ?_
  refine pV ?_
  refine sV (rLen rfl rfl) ?_
  refine sV (rSub rfl rfl rfl (by omega) (by omega)) ?_
  refine pV ?_
  rw [show ((il (pol a : Po (El p m mod))).length : Int) - 1 = (N : Int) by omega]
  refine tS ?_
  refine tS ?_
  refine tR fun _ _ _ => ?_
  refine pV ?_
  refine eV (eCallV rfl rfl rfl (gf_Order g) ⟨rfl, trivial⟩ ?_)
  refine pV ?_
  rw [hgq]
  refine eV (eCallV rfl rfl rfl (num_Exp (pw p m) N (by omega) (by omega) (by omega) (by omega) (by rw [Int.toNat_natCast]; exact hsm)) ⟨rfl, rfl, rfl, trivial⟩ ?_)
  iterate 5 refine pV ?_
  refine tS ?_
  refine tR fun _ _ _ => ?_
  iterate 2 refine pV ?_
  refine tC rfl (fun h6 => ?_) (fun h6 => ?_)
  ·try simp only [zbA] at h6
   first | exact absurd trivial h6 | exact absurd rfl h6 | omega | (exact absurd h6 (by simp)) --done
  ·try simp only [zbA] at h6
   refine tK ?_
   refine tS ?_
   refine tS ?_
   refine tR fun _ _ _ => ?_
   refine pV ?_
   refine sV (rIdxI rfl rfl rfl (by omega) (by omega) (by omega)) ?_
   refine sV (rLdI rfl rfl (by omega)) ?_
   refine pV ?_
   refine tC rfl (fun h8 => ?_) (fun h8 => ?_)
   ·try simp only [zbA] at h8
    refine tS ?_
    refine tR fun _ _ _ => ?_
    iterate 2 refine pV ?_
    exact tr_ret ⟨trivial, _, _, rfl, ⟨rfl, rfl⟩, CSub.nil _, trivial⟩
   ·try simp only [zbA] at h8
    exact absurd hc0 h8 --done
theorem fac_PeriodO_ent : Enters Try.prog 26 := enters_of Try.func26 (by kernel_rfl) (by kernel_rfl)
theorem fac_PeriodO (g : GfM) {p m : Int} {mod : List Int} [hF : IsF p m mod] (hg : GOk g p m mod) (A : Option Addr) (n c : Nat) (a : List Int) (hn : n = a.length) (ha9 : a.length ≤ 17592186044415) (he : facE (Po.len (pol a : Po (El p m mod))) = 0) (N : Nat) (hN : Po.len (pol a : Po (El p m mod)) = N + 1) (hsm : pw p m ^ N ≤ 65536) (h0 : (Po.cf (pol a : Po (El p m mod)) 0) ≠ 0) (hN0 : N = 0) :
  Pure Try.prog 26 #[.pointer (some g.p), .slice A n c] [gfR g, ro A (ints a)] (isV (.tuple #[.int .i64 1, .int .i64 0])) := by
 have hil := il_length (pol a : Po (El p m mod))
 have hle := facE_ok he
 have hm0 := ne_of_len hle.1
 have hgq := hg.eq
 have hq2 := hF.q2
 have hq256 := hF.out.1.1.q
 have hc0 : ¬ (il (pol a : Po (El p m mod))).getD (Int.toNat 0) 0 = 0 := fun e => h0 (El.ext (by rw [show Int.toNat 0 = 0 from rfl, il_getD] at e; exact e))
 refine pure_of (args := [.pointer (some g.p), .slice A n c]) 100 Try.func26 rfl rfl rfl fac_PeriodO_ent ⟨id, id, trivial⟩ (fun w0 => ?_)
 refine tS ?_
 refine tR fun _ _ _ => ?_
 iterate 2 refine pV ?_
 refine tS ?_
 refine tR fun _ _ _ => ?_
 iterate 2 refine pV ?_
 refine eV (eCall1 rfl rfl rfl (fac_enter g hg A n c a hn ha9 he) ⟨rfl, rfl, trivial⟩ ?_)
 rintro _ _ ⟨B1, c1, rfl, hc1, rfl⟩
 iterate 5 refine pV ?_
 refine tS ?_
 refine tS ?_
 refine tR fun _ _ _ => ?_
 iterate 2 refine pV ?_
 refine tC rfl (fun h2 => ?_) (fun h2 => ?_)
 ·try simp only [zbA] at h2
  first | exact absurd trivial h2 | exact absurd rfl h2 | omega | (exact absurd h2 (by simp)) --done
 ·try simp only [zbA] at h2
  refine tK ?_
  refine tS ?_
  refine tR fun _ _ _ => ?_
  refine pV ?_
  refine sV (rLen rfl rfl) ?_
  refine sV (rSub rfl rfl rfl (by omega) (by omega)) ?_
  refine pV ?_
  rw [show ((il (pol a : Po (El p m mod))).length : Int) - 1 = (N : Int) by omega]
  refine tS ?_
  refine tS ?_
  refine tR fun _ _ _ => ?_
  refine pV ?_
  refine eV (eCallV rfl rfl rfl (gf_Order g) ⟨rfl, trivial⟩ ?_)
  refine pV ?_
  rw [hgq]
  refine eV (eCallV rfl rfl rfl (num_Exp (pw p m) N (by omega) (by omega) (by omega) (by omega) (by rw [Int.toNat_natCast]; exact hsm)) ⟨rfl, rfl, rfl, trivial⟩ ?_)
  iterate 5 refine pV ?_
  refine tS ?_
  refine tR fun _ _ _ => ?_
  iterate 2 refine pV ?_
  refine tC rfl (fun h6 => ?_) (fun h6 => ?_)
  ·try simp only [zbA] at h6
   first | exact absurd trivial h6 | exact absurd rfl h6 | omega | (exact absurd h6 (by simp)) --done
  ·try simp only [zbA] at h6
   refine tK ?_
   refine tS ?_
   refine tS ?_
   refine tR fun _ _ _ => ?_
   refine pV ?_
   refine sV (rIdxI rfl rfl rfl (by omega) (by omega) (by omega)) ?_
   refine sV (rLdI rfl rfl (by omega)) ?_
   refine pV ?_
   refine tC rfl (fun h8 => ?_) (fun h8 => ?_)
   ·try simp only [zbA] at h8
    exact absurd h8 hc0 --done
   ·try simp only [zbA] at h8
    refine tK ?_
    refine tS ?_
    refine tS ?_
    refine tR fun _ _ _ => ?_
    iterate 2 refine pV ?_
    refine tC rfl (fun h10 => ?_) (fun h10 => ?_)
    ·try simp only [zbA] at h10
     refine tS ?_
     refine tR fun _ _ _ => ?_
     iterate 2 refine pV ?_
     exact tr_ret ⟨trivial, _, _, rfl, ⟨rfl, rfl⟩, CSub.nil _, trivial⟩
    ·try simp only [zbA] at h10
     omega --done
theorem fac_PeriodG_ent : Enters Try.prog 26 := enters_of Try.func26 (by kernel_rfl) (by kernel_rfl)
theorem fac_PeriodG (g : GfM) {p m : Int} {mod : List Int} [hF : IsF p m mod] (hg : GOk g p m mod) (A : Option Addr) (n c : Nat) (a : List Int) (hn : n = a.length) (ha9 : a.length ≤ 17592186044415) (he : facE (Po.len (pol a : Po (El p m mod))) = 0) (N : Nat) (hN : Po.len (pol a : Po (El p m mod)) = N + 1) (hsm : pw p m ^ N ≤ 65536) (h0 : (Po.cf (pol a : Po (El p m mod)) 0) ≠ 0) (h1 : 1 ≤ N) (K : Nat) (hK : PerO (pol a : Po (El p m mod)) K) (hK9 : K ≤ 65536) :
  Pure Try.prog 26 #[.pointer (some g.p), .slice A n c] [gfR g, ro A (ints a)] (isV (.tuple #[.int .i64 K, .int .i64 0])) := by
 have hil := il_length (pol a : Po (El p m mod))
 have hle := facE_ok he
 have hm0 := ne_of_len hle.1
 have hgq := hg.eq
 have hq2 := hF.q2
 have hq256 := hF.out.1.1.q
 have hc0 : ¬ (il (pol a : Po (El p m mod))).getD (Int.toNat 0) 0 = 0 := fun e => h0 (El.ext (by rw [show Int.toNat 0 = 0 from rfl, il_getD] at e; exact e))
 have hml : Po.len (Po.mon (pol a : Po (El p m mod))) = N + 1 := by rw [Po.mon_len]; exact hN
 have hmd := Po.mon_lead hm0
 have hKM := hK.mon
 have hilm := il_length (Po.mon (pol a : Po (El p m mod)))
 have hK1 := hK.1
 have hmne := Po.mon_ne hm0
 have h1N := h1
 refine pure_of (args := [.pointer (some g.p), .slice A n c]) 100 Try.func26 rfl rfl rfl fac_PeriodG_ent ⟨id, id, trivial⟩ (fun w0 => ?_)
 refine tS ?_
 refine tR fun _ _ _ => ?_
 iterate 2 refine pV ?_
 refine tS ?_
 refine tR fun _ _ _ => ?_
 iterate 2 refine pV ?_
 refine eV (eCall1 rfl rfl rfl (fac_enter g hg A n c a hn ha9 he) ⟨rfl, rfl, trivial⟩ ?_)
 rintro _ _ ⟨B1, c1, rfl, hc1, rfl⟩
 iterate 5 refine pV ?_
 refine tS ?_
 refine tS ?_
 refine tR fun _ _ _ => ?_
 iterate 2 refine pV ?_
 refine tC rfl (fun h2 => ?_) (fun h2 => ?_)
 ·try simp only [zbA] at h2
  first | exact absurd trivial h2 | exact absurd rfl h2 | omega | (exact absurd h2 (by simp)) --done
 ·try simp only [zbA] at h2
  refine tK ?_
  refine tS ?_
  refine tR fun _ _ _ => ?_
  refine pV ?_
  refine sV (rLen rfl rfl) ?_
  refine sV (rSub rfl rfl rfl (by omega) (by omega)) ?_
  refine pV ?_
  rw [show ((il (pol a : Po (El p m mod))).length : Int) - 1 = (N : Int) by omega]
  refine tS ?_
  refine tS ?_
  refine tR fun _ _ _ => ?_
  refine pV ?_
  refine eV (eCallV rfl rfl rfl (gf_Order g) ⟨rfl, trivial⟩ ?_)
  refine pV ?_
  rw [hgq]
  refine eV (eCallV rfl rfl rfl (num_Exp (pw p m) N (by omega) (by omega) (by omega) (by omega) (by rw [Int.toNat_natCast]; exact hsm)) ⟨rfl, rfl, rfl, trivial⟩ ?_)
  iterate 5 refine pV ?_
  refine tS ?_
  refine tR fun _ _ _ => ?_
  iterate 2 refine pV ?_
  refine tC rfl (fun h6 => ?_) (fun h6 => ?_)
  ·try simp only [zbA] at h6
   first | exact absurd trivial h6 | exact absurd rfl h6 | omega | (exact absurd h6 (by simp)) --done
  ·try simp only [zbA] at h6
   refine tK ?_
   refine tS ?_
   refine tS ?_
   refine tR fun _ _ _ => ?_
   refine pV ?_
   refine sV (rIdxI rfl rfl rfl (by omega) (by omega) (by omega)) ?_
   refine sV (rLdI rfl rfl (by omega)) ?_
   refine pV ?_
   refine tC rfl (fun h8 => ?_) (fun h8 => ?_)
   ·try simp only [zbA] at h8
    exact absurd h8 hc0 --done
   ·try simp only [zbA] at h8
    refine tK ?_
    refine tS ?_
    refine tS ?_
    refine tR fun _ _ _ => ?_
    iterate 2 refine pV ?_
    refine tC rfl (fun h10 => ?_) (fun h10 => ?_)
    ·try simp only [zbA] at h10
     omega --done
    ·try simp only [zbA] at h10
     refine tK ?_
     refine tS ?_
     refine tR fun _ _ _ => ?_
     iterate 2 refine pV ?_
     refine eV (eCall1 rfl rfl rfl (fac_monic g hg B1 _ c1 (il (pol a : Po (El p m mod))) rfl (by omega) (by rw [pol_il]; exact hm0)) ⟨rfl, rfl, trivial⟩ ?_)
     rintro _ _ ⟨B12, c12, rfl, rfl⟩
     refine pV ?_
     rw [pol_il]
     refine tS ?_
     refine tR fun _ _ _ => ?_
     refine pV ?_
     refine eV (eMakeI rfl rfl rfl rfl rfl (by omega) (by omega) (by omega) (fun A13 => ?_))
     refine pV ?_
     simp only [Int.toNat_natCast]
     refine tS ?_
     refine tR fun _ _ _ => ?_
     refine pV ?_
     refine sV (rIdxI rfl rfl rfl (by omega) (by omega) (by rw [List.length_replicate]; omega)) ?_
     refine eV (eStI rfl rfl rfl rfl (by rw [List.length_replicate]; omega) ?_)
     refine tS ?_
     refine tR fun _ _ _ => ?_
     refine pV ?_
     refine tB ?_
     refine tr_loop2 (fun (k : Int) (r : List Int) => [(12, .int .i64 k), (11, .slice A13 N N), (8, .int .i64 N), (0, .pointer (some g.p)), (6, .slice B12 (il (Po.mon (pol a : Po (El p m mod)))).length c12)]) (fun (k : Int) (r : List Int) => [ow A13 3 N (ints r), ow B12 3 c12 (ints (il (Po.mon (pol a : Po (El p m mod))))), gfR g]) (fun (k : Int) (r : List Int) => (1 ≤ k ∧ k ≤ K) ∧ r.length = N ∧ AllIn (pw p m) r ∧ (pol r : Po (El p m mod)) = xk (Po.mon (pol a : Po (El p m mod))) (k - 1).toNat) (fun (k : Int) (r : List Int) => (K + 1 - k).toNat) (1) ((List.replicate N (0 : Int)).set (Int.toNat 0) 1) ⟨rfl, rfl, rfl, rfl, rfl, trivial⟩ (by first | exact cs _ _ | exact CSub.refl _) (⟨⟨by omega, by omega⟩, by simp, (allIn_rep (by omega) _).set ⟨by omega, by omega⟩ _, by rw [show Int.toNat 0 = 0 from rfl, pol_first h1N, show ((1 : Int) - 1).toNat = 0 from rfl, xk_zero (by omega)]⟩) (fun k r hI => ?_)
     obtain ⟨⟨hk1, hk2⟩, hrl, hri, hrp⟩ := hI
     refine tS ?_
     refine tB ?_
     refine tS ?_
     refine tR fun _ _ _ => ?_
     iterate 2 refine pV ?_
     refine sV (rSub rfl rfl rfl (by omega) (by omega)) ?_
     refine sV (rIdxI rfl rfl rfl (by omega) (by omega) (by omega)) ?_
     refine sV (rLdI rfl rfl (by omega)) ?_
     refine pV ?_
     refine tS ?_
     refine tS ?_
     refine tR fun _ _ _ => ?_
     refine pV ?_
     refine sV (rSub rfl rfl rfl (by omega) (by omega)) ?_
     refine pV ?_
     refine tB ?_
     refine tr_loop2 (fun (i : Int) (o : List Int) => [(14, .int .i64 i), (13, .int .i64 (r.getD ((N : Int) - 1).toNat 0)), (0, .pointer (some g.p)), (6, .slice B12 (il (Po.mon (pol a : Po (El p m mod)))).length c12), (8, .int .i64 N), (11, .slice A13 N N), (12, .int .i64 k), (51, .slice A13 N N), (52, .int .i64 N), (56, .int .i64 N)]) (fun (i : Int) (o : List Int) => [ow A13 3 N (ints o), ow B12 3 c12 (ints (il (Po.mon (pol a : Po (El p m mod))))), gfR g]) (fun (i : Int) (o : List Int) => (0 ≤ i ∧ i ≤ (N : Int) - 1) ∧ o.length = N ∧ AllIn (pw p m) o ∧ ∀ j : Nat, j < N → o.getD j 0 = if i < j then (el (r.getD (j - 1) 0) - el (el (r.getD ((N : Int) - 1).toNat 0) * el ((il (Po.mon (pol a : Po (El p m mod)))).getD j 0) : El p m mod).1 : El p m mod).1 else r.getD j 0) (fun (i : Int) (o : List Int) => i.toNat) ((N : Int) - 1) (r) ⟨rfl, rfl, rfl, rfl, rfl, rfl, rfl, rfl, rfl, rfl, trivial⟩ (by first | exact cs _ _ | exact CSub.refl _) (⟨⟨by omega, by omega⟩, hrl, hri, fun j hj => by rw [if_neg (by omega)]⟩) (fun i o hI => ?_)
     obtain ⟨⟨hi0, hi1⟩, hol, hoi, ho⟩ := hI
     refine tS ?_
     refine tS ?_
     refine tR fun _ _ _ => ?_
     iterate 2 refine pV ?_
     refine tC rfl (fun h19 => ?_) (fun h19 => ?_)
     ·try simp only [zbA] at h19
      refine tK ?_
      refine tS ?_
      refine tB ?_
      refine tr_draw [0, 1, 2, 3, 4, 5, 6, 7, 8, 9, 10, 11, 12, 13, 14, 15, 16] [17] mixed (by kernel_rfl) fun _ _ _ => ?_
      iterate 5 refine pV ?_
      refine sV (rSub rfl rfl rfl (by omega) (by omega)) ?_
      refine sV (rIdxI rfl rfl rfl (by omega) (by omega) (by omega)) ?_
      refine sV (rLdI rfl rfl (by omega)) ?_
      iterate 4 refine pV ?_
      refine sV (rIdxI rfl rfl rfl (by omega) (by omega) (by omega)) ?_
      refine sV (rLdI rfl rfl (by omega)) ?_
      refine eV (eCallV rfl rfl rfl (gf_MulE g hg _ _) ⟨rfl, rfl, rfl, trivial⟩ ?_)
      refine eV (eCallV rfl rfl rfl (gf_SubE g hg _ _) ⟨rfl, rfl, rfl, trivial⟩ ?_)
      refine sV (rIdxI rfl rfl rfl (by omega) (by omega) (by omega)) ?_
      refine eV (eStI rfl rfl rfl rfl (by omega) ?_)
      refine tR fun _ _ _ => ?_
      refine pV ?_
      refine sV (rSub rfl rfl rfl (by omega) (by omega)) ?_
      refine pV ?_
      refine ⟨i - 1, o.set i.toNat (el (o.getD (i - 1).toNat 0) - el (el (r.getD ((N : Int) - 1).toNat 0) * el ((il (Po.mon (pol a : Po (El p m mod)))).getD i.toNat 0) : El p m mod).1 : El p m mod).1, ⟨rfl, rfl, rfl, rfl, rfl, rfl, rfl, rfl, rfl, rfl, trivial⟩, by first | exact cs _ _ | exact CSub.refl _, ?_⟩
      refine ⟨⟨⟨by omega, by omega⟩, by rw [List.length_set]; exact hol, hoi.set (El.bd _) _, fun j hj => ?_⟩, by omega⟩
      rw [getD_set]
      by_cases he : i.toNat = j
      ·rw [if_pos ⟨he, by omega⟩, if_pos (by omega), ho (i - 1).toNat (by omega), if_neg (by omega), show (i - 1).toNat = j - 1 by omega, he]
      ·rw [if_neg (fun e => he e.1), ho j hj]
       by_cases h : i < (j : Int)
       ·rw [if_pos h, if_pos (by omega)]
       ·rw [if_neg h, if_neg (by omega)]
     ·try simp only [zbA] at h19
      refine tE ?_
      refine tS ?_
      have hil0 : i = 0 := by omega
      refine tR fun _ _ _ => ?_
      iterate 5 refine pV ?_
      refine sV (rIdxI rfl rfl rfl (by omega) (by omega) (by omega)) ?_
      refine sV (rLdI rfl rfl (by omega)) ?_
      refine eV (eCallV rfl rfl rfl (gf_MulE g hg _ _) ⟨rfl, rfl, rfl, trivial⟩ ?_)
      refine eV (eCallV rfl rfl rfl (gf_NegE g hg _) ⟨rfl, rfl, trivial⟩ ?_)
      refine sV (rIdxI rfl rfl rfl (by omega) (by omega) (by omega)) ?_
      refine eV (eStI rfl rfl rfl rfl (by omega) ?_)
      refine tS ?_
      obtain ⟨o2, ho2⟩ : ∃ o2, o2 = o.set (Int.toNat 0) (-el (el (r.getD ((N : Int) - 1).toNat 0) * el ((il (Po.mon (pol a : Po (El p m mod)))).getD (Int.toNat 0) 0) : El p m mod).1 : El p m mod).1 := ⟨_, rfl⟩
      rw [← ho2]
      have ho2l : o2.length = N := by rw [ho2, List.length_set]; exact hol
      have ho2i : AllIn (pw p m) o2 := by rw [ho2]; exact hoi.set (El.bd _) _
      have hp2 : (pol o2 : Po (El p m mod)) = xk (Po.mon (pol a : Po (El p m mod))) ((k - 1).toNat + 1) := per_step hml hmd h1N hrl ho2l (by
       rw [ho2, getD_set, if_pos ⟨rfl, by rw [hol]; exact h1N⟩, el_of, el_of, show Int.toNat 0 = 0 from rfl, il_getD, el_of, show ((N : Int) - 1).toNat = N - 1 by omega]) (fun j hj1 hj2 => by
       rw [ho2, getD_set, if_neg (fun e => by have := e.1; simp at this; omega), ho j hj2, if_pos (by omega), el_of, el_of, il_getD, el_of, show ((N : Int) - 1).toNat = N - 1 by omega]) hrp
      rw [show (k - 1).toNat + 1 = k.toNat by omega] at hp2
      have hend := per_end (mod := mod) ho2i (show 1 ≤ o2.length by omega)
      have hdv : (pol o2 : Po (El p m mod)) = 1 ↔ (Po.mon (pol a : Po (El p m mod))) ∣ Po.mn 1 k.toNat - Po.mn 1 0 := by
       rw [hp2, ← xk_zero (M := (Po.mon (pol a : Po (El p m mod)))) (by omega)]; exact Po.rem_eq_iff hmne
      haveI := rd_cut1 (F := [ow A13 3 N (ints o2), ow B12 3 c12 (ints (il (Po.mon (pol a : Po (El p m mod))))), gfR g]) (A := A13) (o := o2) (c := N) (by omega)
      by_cases hs : o2.getD (Int.toNat 0) 0 = 1
      ·refine tR fun _ _ _ => ?_
       refine pV ?_
       refine sV (rIdxI rfl rfl rfl (by omega) (by omega) (by omega)) ?_
       refine sV (rLdI rfl rfl (by omega)) ?_
       iterate 2 refine pV ?_
       refine stT rfl rfl rfl (by first | exact decide_eq_true hs | (rw [decide_eq_true hs]; rfl)) rfl rfl (rMove rfl rfl) ?_
       refine stT rfl rfl rfl (by first | exact decide_eq_true hs | (rw [decide_eq_true hs]; rfl)) rfl rfl (rCut rfl rfl rfl (by omega) (by omega) (by omega)) ?_
       refine efT rfl rfl rfl (by first | exact decide_eq_true hs | (rw [decide_eq_true hs]; rfl)) (eCallV rfl rfl rfl (slc_ContainsFunc (cutA A13 (Int.toNat 1) N) (N - Int.toNat 1) (N - Int.toNat 1) (o2.drop 1) (by rw [List.length_drop, ho2l]; rfl) (by rw [List.length_drop]; omega) _ [] [] (fun x => decide (¬ x = 0)) (fun x hx => fac_Period1F x)) ⟨rfl, rfl, trivial⟩ ?_)
       refine stT rfl rfl rfl (by first | exact decide_eq_true hs | (rw [decide_eq_true hs]; rfl)) rfl rfl (rNotB rfl rfl) ?_
       refine sV (rPick1 rfl rfl (by first | exact decide_eq_true hs | (rw [decide_eq_true hs]; rfl)) rfl) ?_
       refine tC rfl (fun h23 => ?_) (fun h23 => ?_)
       ·try simp only [zbA] at h23
        refine tS ?_
        refine tR fun _ _ _ => ?_
        iterate 3 refine pV ?_
        have hkK : k = K := by
         rcases Classical.em (o2.getD (Int.toNat 0) 0 = 1) with hs3 | hs3
         ·first | exact absurd hs3 hs | (have h5 : (o2.drop 1).any (fun x => decide (¬ x = 0)) = false := (by simpa using h23); have h6 := hKM.is (by omega) (by omega) (hdv.1 (hend.2 ⟨hs3, h5⟩)); omega)
         ·exfalso; first | exact hs3 hs | (simp at h23; done)
        rw [hkK]
        exact tr_ret ⟨trivial, _, _, rfl, ⟨rfl, rfl⟩, CSub.nil _, trivial⟩
       ·try simp only [zbA] at h23
        refine tK ?_
        refine tR fun _ _ _ => ?_
        refine pV ?_
        refine sV (rAdd rfl rfl rfl (by omega) (by omega)) ?_
        refine pV ?_
        refine ⟨k + 1, o2, ⟨rfl, rfl, rfl, rfl, rfl, trivial⟩, by first | exact cs _ _ | exact CSub.refl _, ?_⟩
        have hnk : ¬ k = K := fun e => by
         have h5 := hend.1 (hdv.2 (by rw [show k.toNat = K by omega]; exact hKM.2.1))
         first
          | exact hs h5.1
          | (rw [h5.2] at h23; simp at h23)
        exact ⟨⟨⟨by omega, by omega⟩, ho2l, ho2i, by rw [show (k + 1 - 1).toNat = k.toNat by omega]; exact hp2⟩, by omega⟩
      ·refine tR fun _ _ _ => ?_
       refine pV ?_
       refine sV (rIdxI rfl rfl rfl (by omega) (by omega) (by omega)) ?_
       refine sV (rLdI rfl rfl (by omega)) ?_
       iterate 2 refine pV ?_
       refine skF rfl rfl (by first | exact decide_eq_false hs | (rw [decide_eq_false hs]; rfl)) rfl rfl ?_
       refine skF rfl rfl (by first | exact decide_eq_false hs | (rw [decide_eq_false hs]; rfl)) rfl rfl ?_
       refine skF rfl rfl (by first | exact decide_eq_false hs | (rw [decide_eq_false hs]; rfl)) rfl rfl ?_
       refine skF rfl rfl (by first | exact decide_eq_false hs | (rw [decide_eq_false hs]; rfl)) rfl rfl ?_
       refine sV (rPick0 rfl rfl (by first | exact decide_eq_false hs | (rw [decide_eq_false hs]; rfl)) rfl) ?_
       refine tC rfl (fun h23 => ?_) (fun h23 => ?_)
       ·try simp only [zbA] at h23
        refine tS ?_
        refine tR fun _ _ _ => ?_
        iterate 3 refine pV ?_
        have hkK : k = K := by
         rcases Classical.em (o2.getD (Int.toNat 0) 0 = 1) with hs3 | hs3
         ·first | exact absurd hs3 hs | (have h5 : (o2.drop 1).any (fun x => decide (¬ x = 0)) = false := (by simpa using h23); have h6 := hKM.is (by omega) (by omega) (hdv.1 (hend.2 ⟨hs3, h5⟩)); omega)
         ·exfalso; first | exact hs3 hs | (simp at h23; done)
        rw [hkK]
        exact tr_ret ⟨trivial, _, _, rfl, ⟨rfl, rfl⟩, CSub.nil _, trivial⟩
       ·try simp only [zbA] at h23
        refine tK ?_
        refine tR fun _ _ _ => ?_
        refine pV ?_
        refine sV (rAdd rfl rfl rfl (by omega) (by omega)) ?_
        refine pV ?_
        refine ⟨k + 1, o2, ⟨rfl, rfl, rfl, rfl, rfl, trivial⟩, by first | exact cs _ _ | exact CSub.refl _, ?_⟩
        have hnk : ¬ k = K := fun e => by
         have h5 := hend.1 (hdv.2 (by rw [show k.toNat = K by omega]; exact hKM.2.1))
         first
          | exact hs h5.1
          | (rw [h5.2] at h23; simp at h23)
        exact ⟨⟨⟨by omega, by omega⟩, ho2l, ho2i, by rw [show (k + 1 - 1).toNat = k.toNat by omega]; exact hp2⟩, by omega⟩
end Go.Proofs.Ytbhoeaijpnjgdaa

set_option maxRecDepth 100000
namespace Go.Proofs.Ytbhoeaijpnjgdaa
open Go.RowKit
theorem ref_PDivModL_ent : Enters Try.prog 93 := enters_of Try.func93 (by kernel_rfl) (by kernel_rfl)
theorem ref_PDivModL (p m : Int) (A : Option Addr) (c : Nat) (mod : List Int) [hF : IsF p m mod] (Xa : Option Addr) (na ca : Nat) (a : List Int) (hna : na = a.length) (ha9 : a.length ≤ 1000000) (Xb : Option Addr) (nb cb : Nat) (b : List Int) (hnb : nb = b.length) (hb9 : b.length ≤ 17592186044415) (hbl : (il (pol b : Po (El p m mod))).length ≤ 1000000) (h0 : (pol b : Po (El p m mod)) ≠ 0) :
  Pure Try.prog 93 #[.agg #[.int .i64 p, .int .i64 m, .slice A mod.length c], .slice Xa na ca, .slice Xb nb cb] [ro A (ints mod), ro Xa (ints a), ro Xb (ints b)] (two (fun v ch c2 => ∃ B cap B2 cap2, v = .tuple #[.slice B (il (Po.quo (pol a : Po (El p m mod)) (pol b : Po (El p m mod)))).length cap, .slice B2 (il (Po.rem (pol a : Po (El p m mod)) (pol b : Po (El p m mod)))).length cap2] ∧ ch = ow B 3 cap (ints (il (Po.quo (pol a : Po (El p m mod)) (pol b : Po (El p m mod))))) ∧ c2 = ow B2 3 cap2 (ints (il (Po.rem (pol a : Po (El p m mod)) (pol b : Po (El p m mod))))))) := by
 have hila := il_le (p := p) (m := m) (mod := mod) a
 have hilb := il_le (p := p) (m := m) (mod := mod) b
 have hlb := Po.len_pos h0
 rw [← il_length] at hlb
 refine pure_of (args := [.agg #[.int .i64 p, .int .i64 m, .slice A mod.length c], .slice Xa na ca, .slice Xb nb cb]) 72 Try.func93 rfl rfl rfl ref_PDivModL_ent ⟨id, id, id, trivial⟩ (fun w0 => ?_)
 refine tS ?_
 refine tR fun _ _ _ => ?_
 refine eV (eBox rfl rfl rfl rfl rfl (fun p0 => ?_))
 iterate 2 refine pV ?_
 refine tS ?_
 refine tR fun _ _ _ => ?_
 refine sV (rLdS rfl rfl rfl) ?_
 refine pV ?_
 refine eV (eCall1 rfl rfl rfl (ref_CanonE _ _ _ _ _ _ _ _ b hnb (by omega)) ⟨rfl, rfl, trivial⟩ ?_)
 rintro _ _ ⟨B1, c1, rfl, rfl⟩
 refine pV ?_
 refine tS ?_
 refine tR fun _ _ _ => ?_
 refine sV (rLdS rfl rfl rfl) ?_
 refine pV ?_
 refine eV (eCall1 rfl rfl rfl (ref_CanonE _ _ _ _ _ _ _ _ a hna (by omega)) ⟨rfl, rfl, trivial⟩ ?_)
 rintro _ _ ⟨B2, c2, rfl, rfl⟩
 refine pV ?_
 refine tS ?_
 refine tR fun _ _ _ => ?_
 refine pV ?_
 refine sV (rLen rfl rfl) ?_
 refine sV (rSub rfl rfl rfl (by omega) (by omega)) ?_
 refine pV ?_
 refine tS ?_
 refine tr_draw [0, 1, 2, 3, 4, 5, 6] [] mixed (by kernel_rfl) fun _ _ _ => ?_
 refine sV (rLdS rfl rfl rfl) ?_
 iterate 2 refine pV ?_
 refine sV (rIdxI rfl rfl rfl (by omega) (by omega) (by omega)) ?_
 refine sV (rLdI rfl rfl (by omega)) ?_
 refine eV (eCallV rfl rfl rfl (ref_InvE _ _ _ _ _ _) ⟨rfl, rfl, trivial⟩ ?_)
 refine pV ?_
 generalize hiv : (Fd.inv (el ((il (pol b : Po (El p m mod))).getD ((il (pol b : Po (El p m mod))).length - 1 : Int).toNat 0) : El p m mod)).1 = iv
 have hiv2 : (el iv : El p m mod) = Fd.inv (Po.lead (pol b : Po (El p m mod))) := by
  rw [← hiv, el_of, il_getD, el_of]
  unfold Po.lead
  rw [il_length, show ((Po.len (pol b : Po (El p m mod)) : Int) - 1).toNat = Po.len (pol b : Po (El p m mod)) - 1 by omega]
 refine tS ?_
 refine tR fun _ _ _ => ?_
 refine pV ?_
 refine sV (rLen rfl rfl) ?_
 refine pV ?_
 refine sV (rSub rfl rfl rfl (by omega) (by omega)) ?_
 refine sV (rMax rfl rfl rfl) ?_
 refine eV (eMakeI rfl rfl rfl rfl rfl (by omega) (by omega) (by omega) (fun A5 => ?_))
 refine pV ?_
 generalize hQ : (max ((il (pol a : Po (El p m mod))).length - ((il (pol b : Po (El p m mod))).length - 1) : Int) 0).toNat = Q
 have hQ2 : (Q : Int) = max ((il (pol a : Po (El p m mod))).length - ((il (pol b : Po (El p m mod))).length - 1) : Int) 0 := by omega
 refine tS ?_
 refine tB ?_
 refine tr_loop4 (fun (r : Po (El p m mod)) (Br : Option Addr) (cr : Nat) (qo : List Int) => [(2, .slice B1 (il (pol b : Po (El p m mod))).length c1), (8, .slice Br (il r).length cr), (9, .int .i64 ((il (pol b : Po (El p m mod))).length - 1)), (10, .int .i64 iv), (11, .slice A5 Q Q), (3, .pointer (some p0)), (6, .slice none 0 0), (7, .slice none 0 0)]) (fun (r : Po (El p m mod)) (Br : Option Addr) (cr : Nat) (qo : List Int) => [ow A5 3 Q (ints qo), ow Br 3 cr (ints (il r)), ow B1 3 c1 (ints (il (pol b : Po (El p m mod)))), blk p0 24 [.int .i64 p, .int .i64 m, .slice A mod.length c], ro A (ints mod), ro Xa (ints a), ro Xb (ints b)]) (fun (r : Po (El p m mod)) (Br : Option Addr) (cr : Nat) (qo : List Int) => (qo.length = Q ∧ (il r).length ≤ (il (pol a : Po (El p m mod))).length) ∧ (pol a : Po (El p m mod)) = pol qo * (pol b : Po (El p m mod)) + r ∧ ∀ j : Nat, j + (il (pol b : Po (El p m mod))).length ≤ (il r).length → qo.getD j 0 = 0) (fun (r : Po (El p m mod)) (Br : Option Addr) (cr : Nat) (qo : List Int) => (il r).length) ((pol a : Po (El p m mod))) (B2) (c2) (List.replicate Q 0) ⟨rfl, rfl, rfl, rfl, rfl, rfl, rfl, rfl, trivial⟩ (by first | exact cs _ _ | exact CSub.refl _) (⟨⟨by simp, Nat.le_refl _⟩, by rw [pol_rep]; grind, fun j _ => rep_get _ _⟩) (fun r Br cr qo hI => ?_)
 obtain ⟨⟨hql, hrl⟩, heq, hz⟩ := hI
 refine tS ?_
 refine tS ?_
 refine tR fun _ _ _ => ?_
 refine pV ?_
 refine sV (rLen rfl rfl) ?_
 iterate 2 refine pV ?_
 refine tC rfl (fun h6 => ?_) (fun h6 => ?_)
 ·try simp only [zbA] at h6
  refine tK ?_
  refine tB ?_
  refine tS ?_
  refine tR fun _ _ _ => ?_
  refine pV ?_
  refine sV (rLen rfl rfl) ?_
  refine sV (rSub rfl rfl rfl (by omega) (by omega)) ?_
  refine pV ?_
  refine sV (rSub rfl rfl rfl (by omega) (by omega)) ?_
  refine pV ?_
  refine tS ?_
  refine tr_draw [0, 1, 2, 3, 4, 5, 6, 7, 8, 9] [] mixed (by kernel_rfl) fun _ _ _ => ?_
  refine sV (rLdS rfl rfl rfl) ?_
  iterate 2 refine pV ?_
  refine sV (rLen rfl rfl) ?_
  refine sV (rSub rfl rfl rfl (by omega) (by omega)) ?_
  refine sV (rIdxI rfl rfl rfl (by omega) (by omega) (by omega)) ?_
  refine sV (rLdI rfl rfl (by omega)) ?_
  refine pV ?_
  refine eV (eCallV rfl rfl rfl (ref_MulE _ _ _ _ _ _ _) ⟨rfl, rfl, rfl, trivial⟩ ?_)
  refine pV ?_
  refine tS ?_
  refine tR fun _ _ _ => ?_
  iterate 3 refine pV ?_
  refine sV (rIdxI rfl rfl rfl (by omega) (by omega) (by omega)) ?_
  refine eV (eStI rfl rfl rfl rfl (by omega) ?_)
  have hls : (il (Po.C (el (el ((il r).getD ((il r).length - 1 : Int).toNat 0) * el iv : El p m mod).1) * (pol (il (pol b : Po (El p m mod))) : Po (El p m mod)))).length ≤ 1000000000 := by
   have := il_C_le (p := p) (m := m) (mod := mod) (el ((il r).getD ((il r).length - 1 : Int).toNat 0) * el iv : El p m mod).1 (il (pol b : Po (El p m mod)))
   omega
  have hlm : (il ((pol (il (Po.C (el (el ((il r).getD ((il r).length - 1 : Int).toNat 0) * el iv : El p m mod).1) * (pol (il (pol b : Po (El p m mod))) : Po (El p m mod)))) : Po (El p m mod)) * pol (powL ((il r).length - 1 - ((il (pol b : Po (El p m mod))).length - 1) : Int).toNat))).length ≤ 1000000 := by
   rw [pol_il, pol_powL, pol_il, il_length]
   refine Po.len_le (fun j hj => ?_)
   rw [Rg.mul_comm, Po.cf_mn_mul]
   split
   ·rfl
   ·rw [Rg.one_mul, Po.cf_C_mul, Po.cf_ge (by rw [← il_length]; omega), Fd.mul_zero]
  refine tr_draw [0, 1, 2, 3, 4, 5, 7, 6, 8, 9, 10, 11] [] mixed (by kernel_rfl) fun _ _ _ => ?_
  refine sV (rLdS rfl rfl rfl) ?_
  refine pV ?_
  refine sV (rLdS rfl rfl rfl) ?_
  refine sV (rLdS rfl rfl rfl) ?_
  iterate 3 refine pV ?_
  refine eV (eCall1 rfl rfl rfl (ref_PScale _ _ _ _ _ _ B1 _ _ (il (pol b : Po (El p m mod))) rfl (by omega)) ⟨rfl, rfl, rfl, trivial⟩ ?_)
  rintro _ _ ⟨Bs, cs_, rfl, rfl⟩
  refine eV (eCall1 rfl rfl rfl (ref_Power _ (by omega) (by omega)) ⟨rfl, trivial⟩ ?_)
  rintro _ _ ⟨Bw, rfl, rfl⟩
  refine eV (eCall1 rfl rfl rfl (ref_PMul _ _ _ _ _ Bs _ _ _ rfl hls Bw _ _ _ rfl (by rw [powL_length]; omega)) ⟨rfl, rfl, rfl, trivial⟩ ?_)
  rintro _ _ ⟨Bm, cm, rfl, rfl⟩
  refine eV (eCall1 rfl rfl rfl (ref_PSub _ _ _ _ _ Br _ _ _ rfl (by omega) Bm _ _ _ rfl hlm) ⟨rfl, rfl, rfl, trivial⟩ ?_)
  rintro _ _ ⟨Bn, cn, rfl, rfl⟩
  refine pV ?_
  have hr' : (pol (il r) : Po (El p m mod)) - pol (il ((pol (il (Po.C (el (el ((il r).getD ((il r).length - 1 : Int).toNat 0) * el iv : El p m mod).1) * (pol (il (pol b : Po (El p m mod))) : Po (El p m mod)))) : Po (El p m mod)) * pol (powL ((il r).length - 1 - ((il (pol b : Po (El p m mod))).length - 1) : Int).toNat))) = r - Po.mn (Po.cf r (Po.len r - 1) * Fd.inv (Po.lead (pol b : Po (El p m mod)))) (Po.len r - Po.len (pol b : Po (El p m mod))) * pol b := by
   rw [pol_il, pol_il, pol_il, pol_il, pol_powL, el_of, hiv2, il_getD, el_of]
   rw [show ((il r).length - 1 : Int).toNat = Po.len r - 1 by rw [il_length]; omega, show ((il r).length - 1 - ((il (pol b : Po (El p m mod))).length - 1) : Int).toNat = Po.len r - Po.len (pol b : Po (El p m mod)) by rw [il_length, il_length]; omega]
   have e := Po.mn_mul (Po.cf r (Po.len r - 1) * Fd.inv (Po.lead (pol b : Po (El p m mod)))) 1 0 (Po.len r - Po.len (pol b : Po (El p m mod)))
   rw [Rg.mul_one, Nat.zero_add] at e
   rw [← e]
   show r - Po.C _ * _ * _ = r - Po.C _ * _ * _
   grind
  rw [hr']
  refine ⟨r - Po.mn (Po.cf r (Po.len r - 1) * Fd.inv (Po.lead (pol b : Po (El p m mod)))) (Po.len r - Po.len (pol b : Po (El p m mod))) * pol b, Bn, cn, qo.set ((il r).length - 1 - ((il (pol b : Po (El p m mod))).length - 1) : Int).toNat (el ((il r).getD ((il r).length - 1 : Int).toNat 0) * el iv : El p m mod).1, ⟨rfl, rfl, rfl, rfl, rfl, rfl, rfl, rfl, trivial⟩, by first | exact cs _ _ | exact CSub.refl _, ?_⟩
  have hnn : ((il r).length - 1 - ((il (pol b : Po (El p m mod))).length - 1) : Int).toNat = Po.len r - Po.len (pol b : Po (El p m mod)) := by rw [il_length, il_length]; omega
  have hlr : (il r).length = Po.len r := il_length r
  have hlB : (il (pol b : Po (El p m mod))).length = Po.len (pol b : Po (El p m mod)) := il_length _
  have hsh := Po.div_step (f := r) h0 (n := Po.len r - Po.len (pol b : Po (El p m mod))) ((Po.len_sh r).mono (by omega))
  rw [show Po.len (pol b : Po (El p m mod)) + (Po.len r - Po.len (pol b : Po (El p m mod))) - 1 = Po.len r - 1 by omega] at hsh
  have hl2 := Po.len_le hsh
  have hl3 : (il (r - Po.mn (Po.cf r (Po.len r - 1) * Fd.inv (Po.lead (pol b : Po (El p m mod)))) (Po.len r - Po.len (pol b : Po (El p m mod))) * pol b)).length ≤ Po.len r - 1 := by rw [il_length]; exact hl2
  refine ⟨⟨⟨by simpa using hql, by omega⟩, ?_, fun j hj => ?_⟩, by omega⟩
  ·rw [pol_set_add (d := Po.cf r (Po.len r - 1) * Fd.inv (Po.lead (pol b : Po (El p m mod)))) qo (by omega) (by
    rw [hz _ (by omega), el_zero, el_of, hiv2, il_getD, el_of, show ((il r).length - 1 : Int).toNat = Po.len r - 1 by omega]; grind), hnn]
   exact div_acc heq
  ·rw [getD_set, if_neg (by omega)]; exact hz j (by omega)
 ·try simp only [zbA] at h6
  refine tE ?_
  refine tS ?_
  refine tR fun _ _ _ => ?_
  refine sV (rLdS rfl rfl rfl) ?_
  refine pV ?_
  refine eV (eCall1 rfl rfl rfl (ref_CanonE _ _ _ _ _ _ _ _ qo (by omega) (by omega)) ⟨rfl, rfl, trivial⟩ ?_)
  rintro _ _ ⟨B11, c11, rfl, rfl⟩
  iterate 3 refine pV ?_
  have hd := Po.div_of heq (by rw [← il_length, ← il_length]; omega)
  rw [hd.1, hd.2]
  exact tr_ret ⟨trivial, _, _, rfl, ⟨_, _, rfl, B11, c11, Br, cr, rfl, rfl, rfl⟩, cs _ _, trivial, trivial, trivial⟩
theorem ref_Right_ent : Enters Try.prog 16 := enters_of Try.func16 (by kernel_rfl) (by kernel_rfl)
theorem ref_Right (p m : Int) (A : Option Addr) (c : Nat) (mod : List Int) [hF : IsF p m mod] (Xa : Option Addr) (na ca : Nat) (a : List Int) (hna : na = a.length) (ha9 : a.length ≤ 17592186044415) :
  Pure Try.prog 16 #[.agg #[.int .i64 p, .int .i64 m, .slice A mod.length c], .slice Xa na ca] [ro A (ints mod), ro Xa (ints a)] (isV (.int .i64 (facE (Po.len (pol a : Po (El p m mod)))))) := by
 refine pure_of (args := [.agg #[.int .i64 p, .int .i64 m, .slice A mod.length c], .slice Xa na ca]) 13 Try.func16 rfl rfl rfl ref_Right_ent ⟨id, id, trivial⟩ (fun w0 => ?_)
 refine tS ?_
 refine tR fun _ _ _ => ?_
 refine eV (eBox rfl rfl rfl rfl rfl (fun p0 => ?_))
 refine pV ?_
 refine tS ?_
 refine tR fun _ _ _ => ?_
 refine sV (rLdS rfl rfl rfl) ?_
 refine pV ?_
 refine eV (eCallV rfl rfl rfl (ref_PDegree p m A c mod Xa na ca a hna ha9) ⟨rfl, rfl, trivial⟩ ?_)
 refine pV ?_
 refine tS ?_
 refine tS ?_
 refine tR fun _ _ _ => ?_
 iterate 2 refine pV ?_
 refine tC rfl (fun h2 => ?_) (fun h2 => ?_)
 ·try simp only [zbA] at h2
  refine tS ?_
  refine tR fun _ _ _ => ?_
  refine pV ?_
  exact tr_ret ⟨trivial, _, _, rfl, ⟨by rw [facE, if_pos (by omega)], rfl⟩, CSub.nil _, trivial⟩
 ·try simp only [zbA] at h2
  refine tK ?_
  refine tS ?_
  refine tS ?_
  refine tR fun _ _ _ => ?_
  iterate 2 refine pV ?_
  refine tC rfl (fun h4 => ?_) (fun h4 => ?_)
  ·try simp only [zbA] at h4
   refine tS ?_
   refine tR fun _ _ _ => ?_
   refine pV ?_
   exact tr_ret ⟨trivial, _, _, rfl, ⟨by rw [facE, if_neg (by omega), if_pos (by omega)], rfl⟩, CSub.nil _, trivial⟩
  ·try simp only [zbA] at h4
   refine tK ?_
   refine tS ?_
   refine tR fun _ _ _ => ?_
   refine pV ?_
   exact tr_ret ⟨trivial, _, _, rfl, ⟨by rw [facE, if_neg (by omega), if_neg (by omega)], rfl⟩, CSub.nil _, trivial⟩
theorem ref_PRem_ent : Enters Try.prog 75 := enters_of Try.func75 (by kernel_rfl) (by kernel_rfl)
theorem ref_PRem (p m : Int) (A : Option Addr) (c : Nat) (mod : List Int) [hF : IsF p m mod] (Xa : Option Addr) (na ca : Nat) (a : List Int) (hna : na = a.length) (ha9 : a.length ≤ 1000000) (Xb : Option Addr) (nb cb : Nat) (b : List Int) (hnb : nb = b.length) (hb9 : b.length ≤ 17592186044415) (hbl : (il (pol b : Po (El p m mod))).length ≤ 1000000) (h0 : (pol b : Po (El p m mod)) ≠ 0) :
  Pure Try.prog 75 #[.agg #[.int .i64 p, .int .i64 m, .slice A mod.length c], .slice Xa na ca, .slice Xb nb cb] [ro A (ints mod), ro Xa (ints a), ro Xb (ints b)] (one (fun v ch => ∃ B cap, v = .slice B (il (Po.rem (pol a : Po (El p m mod)) (pol b : Po (El p m mod)))).length cap ∧ ch = ow B 3 cap (ints (il (Po.rem (pol a : Po (El p m mod)) (pol b : Po (El p m mod))))))) := by
 refine pure_of (args := [.agg #[.int .i64 p, .int .i64 m, .slice A mod.length c], .slice Xa na ca, .slice Xb nb cb]) 17 Try.func75 rfl rfl rfl ref_PRem_ent ⟨id, id, id, trivial⟩ (fun w0 => ?_)
 refine tS ?_
 refine tR fun _ _ _ => ?_
 refine eV (eBox rfl rfl rfl rfl rfl (fun p0 => ?_))
 refine pV ?_
 refine tS ?_
 refine tR fun _ _ _ => ?_
 refine sV (rLdS rfl rfl rfl) ?_
 iterate 2 refine pV ?_
 refine eV (eCall2 rfl rfl rfl (ref_PDivModL p m A c mod Xa na ca a hna ha9 Xb nb cb b hnb hb9 hbl h0) ⟨rfl, rfl, rfl, trivial⟩ ?_)
 rintro _ _ _ ⟨Q1, q1, B1, c1, rfl, rfl, rfl⟩
 iterate 5 refine pV ?_
 refine tS ?_
 refine tR fun _ _ _ => ?_
 iterate 2 refine pV ?_
 exact tr_ret ⟨trivial, _, _, rfl, ⟨_, rfl, B1, c1, rfl, rfl⟩, cs _ _, trivial, trivial⟩
theorem ref_PeriodE_ent : Enters Try.prog 27 := enters_of Try.func27 (by kernel_rfl) (by kernel_rfl)
theorem ref_PeriodE (p m : Int) (A : Option Addr) (c : Nat) (mod : List Int) [hF : IsF p m mod] (Xa : Option Addr) (na ca : Nat) (a : List Int) (hna : na = a.length) (ha9 : a.length ≤ 17592186044415) (he : facE (Po.len (pol a : Po (El p m mod))) ≠ 0) :
  Pure Try.prog 27 #[.agg #[.int .i64 p, .int .i64 m, .slice A mod.length c], .slice Xa na ca] [ro A (ints mod), ro Xa (ints a)] (isV (.tuple #[.int .i64 0, .int .i64 (facE (Po.len (pol a : Po (El p m mod))))])) := by
 refine pure_of (args := [.agg #[.int .i64 p, .int .i64 m, .slice A mod.length c], .slice Xa na ca]) 65 Try.func27 rfl rfl rfl ref_PeriodE_ent ⟨id, id, trivial⟩ (fun w0 => ?_)
 refine tS ?_
 refine tR fun _ _ _ => ?_
 refine eV (eBox rfl rfl rfl rfl rfl (fun p0 => ?_))
 iterate 2 refine pV ?_
 refine tS ?_
 refine tR fun _ _ _ => ?_
 refine sV (rLdS rfl rfl rfl) ?_
 refine pV ?_
 refine eV (eCallV rfl rfl rfl (ref_Right p m A c mod Xa na ca a hna ha9) ⟨rfl, rfl, trivial⟩ ?_)
 refine pV ?_
 refine tS ?_
 refine tS ?_
 refine tR fun _ _ _ => ?_
 iterate 2 refine pV ?_
 refine tC rfl (fun h2 => ?_) (fun h2 => ?_)
 ·try simp only [zbA] at h2
  refine tS ?_
  refine tR fun _ _ _ => ?_
  iterate 3 refine pV ?_
  exact tr_ret ⟨trivial, _, _, rfl, ⟨rfl, rfl⟩, CSub.nil _, trivial⟩
 ·try simp only [zbA] at h2
  omega --done
theorem ref_PeriodB_ent : Enters Try.prog 27 := enters_of Try.func27 (by kernel_rfl) (by kernel_rfl)
theorem ref_PeriodB (p m : Int) (A : Option Addr) (c : Nat) (mod : List Int) [hF : IsF p m mod] (Xa : Option Addr) (na ca : Nat) (a : List Int) (hna : na = a.length) (ha9 : a.length ≤ 17592186044415) (he : facE (Po.len (pol a : Po (El p m mod))) = 0) (N : Nat) (hN : Po.len (pol a : Po (El p m mod)) = N + 1) (hbig : 65536 < pw p m ^ N) :
  Pure Try.prog 27 #[.agg #[.int .i64 p, .int .i64 m, .slice A mod.length c], .slice Xa na ca] [ro A (ints mod), ro Xa (ints a)] (isV (.tuple #[.int .i64 0, .int .i64 (8)])) := by
 have hle := facE_ok he
 have hm0 := ne_of_len hle.1
 have hq2 := hF.q2
 have hq256 := hF.out.1.1.q
 have hord := hF.ord
 have hll := il_length (pol a : Po (El p m mod))
 refine pure_of (args := [.agg #[.int .i64 p, .int .i64 m, .slice A mod.length c], .slice Xa na ca]) 65 Try.func27 rfl rfl rfl ref_PeriodB_ent ⟨id, id, trivial⟩ (fun w0 => ?_)
 refine tS ?_
 refine tR fun _ _ _ => ?_
 refine eV (eBox rfl rfl rfl rfl rfl (fun p0 => ?_))
 iterate 2 refine pV ?_
 refine tS ?_
 refine tR fun _ _ _ => ?_
 refine sV (rLdS rfl rfl rfl) ?_
 refine pV ?_
 refine eV (eCallV rfl rfl rfl (ref_Right p m A c mod Xa na ca a hna ha9) ⟨rfl, rfl, trivial⟩ ?_)
 refine pV ?_
 refine tS ?_
 refine tS ?_
 refine tR fun _ _ _ => ?_
 iterate 2 refine pV ?_
 refine tC rfl (fun h2 => ?_) (fun h2 => ?_)
 ·try simp only [zbA] at h2
  omega --done
 ·try simp only [zbA] at h2
  refine tK ?_
  refine tS ?_
  refine tR fun _ _ _ => ?_
  refine sV (rLdS rfl rfl rfl) ?_
  refine pV ?_
  refine eV (eCallV rfl rfl rfl (ref_PDegree p m A c mod Xa na ca a hna ha9) ⟨rfl, rfl, trivial⟩ ?_)
  refine pV ?_
  rw [show ((Po.len (pol a : Po (El p m mod)) : Nat) : Int) - 1 = (N : Int) by omega]
  refine tS ?_
  refine tR fun _ _ _ => ?_
  refine pV ?_
  refine tS ?_
  refine tS ?_
  refine tR fun _ _ _ => ?_
  refine pV ?_
  refine tB ?_
  refine tr_loop2 (fun (i : Int) (s : Int) => [(8, .int .i64 s), (9, .int .i64 i), (7, .int .i64 N), (1, .slice Xa na ca), (2, .pointer (some p0))]) (fun (i : Int) (s : Int) => [blk p0 24 [.int .i64 p, .int .i64 m, .slice A mod.length c], ro A (ints mod), ro Xa (ints a)]) (fun (i : Int) (s : Int) => (0 ≤ i ∧ i ≤ N) ∧ (1 ≤ s ∧ s ≤ 65536) ∧ s = pw p m ^ i.toNat) (fun (i : Int) (s : Int) => (N - i).toNat) (0) (1) ⟨rfl, rfl, rfl, rfl, rfl, trivial⟩ (by first | exact cs _ _ | exact CSub.refl _) (⟨⟨by omega, by omega⟩, ⟨by omega, by omega⟩, by rw [show ((0 : Int).toNat) = 0 from rfl, Int.pow_zero]⟩) (fun i s hI => ?_)
  obtain ⟨⟨hi0, hi1⟩, ⟨hs0, hs1⟩, hs⟩ := hI
  refine tS ?_
  refine tS ?_
  refine tR fun _ _ _ => ?_
  iterate 3 refine pV ?_
  refine tC rfl (fun h7 => ?_) (fun h7 => ?_)
  ·try simp only [zbA] at h7
   refine tK ?_
   refine tS ?_
   refine tB ?_
   refine tS ?_
   refine tS ?_
   have hqd : 0 ≤ 65536 / pw p m := Int.ediv_nonneg (by omega) (by omega)
   refine tR fun _ _ _ => ?_
   refine pV ?_
   refine sV (rLdS rfl rfl rfl) ?_
   refine eV (eCallV rfl rfl rfl (ref_order p m A c mod) ⟨rfl, trivial⟩ ?_)
   rw [hord]
   refine sV (rQuo rfl rfl rfl (by omega) (by omega)) ?_
   refine pV ?_
   refine tC rfl (fun h9 => ?_) (fun h9 => ?_)
   ·try simp only [zbA] at h9
    refine tS ?_
    refine tR fun _ _ _ => ?_
    iterate 2 refine pV ?_
    exact tr_ret ⟨trivial, _, _, rfl, ⟨rfl, rfl⟩, CSub.nil _, trivial⟩
   ·try simp only [zbA] at h9
    refine tK ?_
    have hsq : s * pw p m ≤ 65536 := Int.mul_le_of_le_ediv (by omega) (by omega)
    have hsq0 : 0 < s * pw p m := Int.mul_pos (by omega) (by omega)
    refine tR fun _ _ _ => ?_
    refine pV ?_
    refine sV (rLdS rfl rfl rfl) ?_
    refine eV (eCallV rfl rfl rfl (ref_order p m A c mod) ⟨rfl, trivial⟩ ?_)
    rw [hord]
    refine sV (rMul rfl rfl rfl (by omega) (by omega)) ?_
    refine pV ?_
    refine tR fun _ _ _ => ?_
    refine pV ?_
    refine sV (rAdd rfl rfl rfl (by omega) (by omega)) ?_
    refine pV ?_
    refine ⟨i + 1, s * pw p m, ⟨rfl, rfl, rfl, rfl, rfl, trivial⟩, by first | exact cs _ _ | exact CSub.refl _, ?_⟩
    exact ⟨⟨⟨by omega, by omega⟩, ⟨by omega, by omega⟩, by rw [show (i + 1).toNat = i.toNat + 1 by omega, Int.pow_succ, hs]⟩, by omega⟩
  ·try simp only [zbA] at h7
   rw [show i.toNat = N by omega] at hs
   omega --done
theorem ref_PeriodZ_ent : Enters Try.prog 27 := enters_of Try.func27 (by kernel_rfl) (by kernel_rfl)
theorem ref_PeriodZ (p m : Int) (A : Option Addr) (c : Nat) (mod : List Int) [hF : IsF p m mod] (Xa : Option Addr) (na ca : Nat) (a : List Int) (hna : na = a.length) (ha9 : a.length ≤ 17592186044415) (he : facE (Po.len (pol a : Po (El p m mod))) = 0) (N : Nat) (hN : Po.len (pol a : Po (El p m mod)) = N + 1) (hsm : pw p m ^ N ≤ 65536) (h0 : (Po.cf (pol a : Po (El p m mod)) 0) = 0) :
  Pure Try.prog 27 #[.agg #[.int .i64 p, .int .i64 m, .slice A mod.length c], .slice Xa na ca] [ro A (ints mod), ro Xa (ints a)] (isV (.tuple #[.int .i64 0, .int .i64 (5)])) := by
 have hle := facE_ok he
 have hm0 := ne_of_len hle.1
 have hq2 := hF.q2
 have hq256 := hF.out.1.1.q
 have hord := hF.ord
 have hll := il_length (pol a : Po (El p m mod))
 have hc0 : (el (a.getD (Int.toNat 0) 0) : El p m mod).1 = 0 := by rw [show Int.toNat 0 = 0 from rfl, ← cf_pol, h0]; rfl
 refine pure_of (args := [.agg #[.int .i64 p, .int .i64 m, .slice A mod.length c], .slice Xa na ca]) 65 Try.func27 rfl rfl rfl ref_PeriodZ_ent ⟨id, id, trivial⟩ (fun w0 => ?_)
 refine tS ?_
 refine tR fun _ _ _ => ?_
 refine eV (eBox rfl rfl rfl rfl rfl (fun p0 => ?_))
 iterate 2 refine pV ?_
 refine tS ?_
 refine tR fun _ _ _ => ?_
 refine sV (rLdS rfl rfl rfl) ?_
 refine pV ?_
 refine eV (eCallV rfl rfl rfl (ref_Right p m A c mod Xa na ca a hna ha9) ⟨rfl, rfl, trivial⟩ ?_)
 refine pV ?_
 refine tS ?_
 refine tS ?_
 refine tR fun _ _ _ => ?_
 iterate 2 refine pV ?_
 refine tC rfl (fun h2 => ?_) (fun h2 => ?_)
 ·try simp only [zbA] at h2
  omega --done
 ·try simp only [zbA] at h2
  refine tK ?_
  refine tS ?_
  refine tR fun _ _ _ => ?_
  refine sV (rLdS rfl rfl rfl) ?_
  refine pV ?_
  refine eV (eCallV rfl rfl rfl (ref_PDegree p m A c mod Xa na ca a hna ha9) ⟨rfl, rfl, trivial⟩ ?_)
  refine pV ?_
  rw [show ((Po.len (pol a : Po (El p m mod)) : Nat) : Int) - 1 = (N : Int) by omega]
  refine tS ?_
  refine tR fun _ _ _ => ?_
  refine pV ?_
  refine tS ?_
  refine tS ?_
  refine tR fun _ _ _ => ?_
  refine pV ?_
  refine tB ?_
  refine tr_loop2 (fun (i : Int) (s : Int) => [(8, .int .i64 s), (9, .int .i64 i), (7, .int .i64 N), (1, .slice Xa na ca), (2, .pointer (some p0))]) (fun (i : Int) (s : Int) => [blk p0 24 [.int .i64 p, .int .i64 m, .slice A mod.length c], ro A (ints mod), ro Xa (ints a)]) (fun (i : Int) (s : Int) => (0 ≤ i ∧ i ≤ N) ∧ (1 ≤ s ∧ s ≤ 65536) ∧ s = pw p m ^ i.toNat) (fun (i : Int) (s : Int) => (N - i).toNat) (0) (1) ⟨rfl, rfl, rfl, rfl, rfl, trivial⟩ (by first | exact cs _ _ | exact CSub.refl _) (⟨⟨by omega, by omega⟩, ⟨by omega, by omega⟩, by rw [show ((0 : Int).toNat) = 0 from rfl, Int.pow_zero]⟩) (fun i s hI => ?_)
  obtain ⟨⟨hi0, hi1⟩, ⟨hs0, hs1⟩, hs⟩ := hI
  refine tS ?_
  refine tS ?_
  refine tR fun _ _ _ => ?_
  iterate 3 refine pV ?_
  refine tC rfl (fun h7 => ?_) (fun h7 => ?_)
  ·try simp only [zbA] at h7
   refine tK ?_
   refine tS ?_
   refine tB ?_
   refine tS ?_
   refine tS ?_
   have hqd : 0 ≤ 65536 / pw p m := Int.ediv_nonneg (by omega) (by omega)
   refine tR fun _ _ _ => ?_
   refine pV ?_
   refine sV (rLdS rfl rfl rfl) ?_
   refine eV (eCallV rfl rfl rfl (ref_order p m A c mod) ⟨rfl, trivial⟩ ?_)
   rw [hord]
   refine sV (rQuo rfl rfl rfl (by omega) (by omega)) ?_
   refine pV ?_
   refine tC rfl (fun h9 => ?_) (fun h9 => ?_)
   ·try simp only [zbA] at h9
    rw [hs] at h9
    have := pow_big (by omega) (show i.toNat < N by omega) h9
    omega --done
   ·try simp only [zbA] at h9
    refine tK ?_
    have hsq : s * pw p m ≤ 65536 := Int.mul_le_of_le_ediv (by omega) (by omega)
    have hsq0 : 0 < s * pw p m := Int.mul_pos (by omega) (by omega)
    refine tR fun _ _ _ => ?_
    refine pV ?_
    refine sV (rLdS rfl rfl rfl) ?_
    refine eV (eCallV rfl rfl rfl (ref_order p m A c mod) ⟨rfl, trivial⟩ ?_)
    rw [hord]
    refine sV (rMul rfl rfl rfl (by omega) (by omega)) ?_
    refine pV ?_
    refine tR fun _ _ _ => ?_
    refine pV ?_
    refine sV (rAdd rfl rfl rfl (by omega) (by omega)) ?_
    refine pV ?_
    refine ⟨i + 1, s * pw p m, ⟨rfl, rfl, rfl, rfl, rfl, trivial⟩, by first | exact cs _ _ | exact CSub.refl _, ?_⟩
    exact ⟨⟨⟨by omega, by omega⟩, ⟨by omega, by omega⟩, by rw [show (i + 1).toNat = i.toNat + 1 by omega, Int.pow_succ, hs]⟩, by omega⟩
  ·try simp only [zbA] at h7
   refine tE ?_
   refine tS ?_
   refine tS ?_
   refine tR fun _ _ _ => ?_
   refine sV (rLdS rfl rfl rfl) ?_
   refine pV ?_
   refine eV (eCallV rfl rfl rfl (ref_PAt p m A c mod Xa na ca a hna ha9 0 (by omega)) ⟨rfl, rfl, rfl, trivial⟩ ?_)
   refine pV ?_
   refine tC rfl (fun h12 => ?_) (fun h12 => ?_)
   ·try simp only [zbA] at h12
    refine tS ?_
    refine tR fun _ _ _ => ?_
    iterate 2 refine pV ?_
    exact tr_ret ⟨trivial, _, _, rfl, ⟨rfl, rfl⟩, CSub.nil _, trivial⟩
   ·try simp only [zbA] at h12
    exact absurd hc0 h12 --done
theorem ref_PeriodG_ent : Enters Try.prog 27 := enters_of Try.func27 (by kernel_rfl) (by kernel_rfl)
theorem ref_PeriodG (p m : Int) (A : Option Addr) (c : Nat) (mod : List Int) [hF : IsF p m mod] (Xa : Option Addr) (na ca : Nat) (a : List Int) (hna : na = a.length) (ha9 : a.length ≤ 17592186044415) (he : facE (Po.len (pol a : Po (El p m mod))) = 0) (N : Nat) (hN : Po.len (pol a : Po (El p m mod)) = N + 1) (hsm : pw p m ^ N ≤ 65536) (h0 : (Po.cf (pol a : Po (El p m mod)) 0) ≠ 0) (K : Nat) (hK : PerO (pol a : Po (El p m mod)) K) (hK9 : K ≤ 65536) :
  Pure Try.prog 27 #[.agg #[.int .i64 p, .int .i64 m, .slice A mod.length c], .slice Xa na ca] [ro A (ints mod), ro Xa (ints a)] (isV (.tuple #[.int .i64 K, .int .i64 (0)])) := by
 have hle := facE_ok he
 have hm0 := ne_of_len hle.1
 have hq2 := hF.q2
 have hq256 := hF.out.1.1.q
 have hord := hF.ord
 have hll := il_length (pol a : Po (El p m mod))
 have hK1 := hK.1
 have hc0 : ¬ (el (a.getD (Int.toNat 0) 0) : El p m mod).1 = 0 := fun e => h0 (El.ext (by rw [show Int.toNat 0 = 0 from rfl, ← cf_pol] at e; exact e))
 have hx0 := Po.rem_len (Po.mn 1 0) hm0
 have hxl0 := il_length (Po.rem (Po.mn 1 0) (pol a : Po (El p m mod)))
 refine pure_of (args := [.agg #[.int .i64 p, .int .i64 m, .slice A mod.length c], .slice Xa na ca]) 65 Try.func27 rfl rfl rfl ref_PeriodG_ent ⟨id, id, trivial⟩ (fun w0 => ?_)
 refine tS ?_
 refine tR fun _ _ _ => ?_
 refine eV (eBox rfl rfl rfl rfl rfl (fun p0 => ?_))
 iterate 2 refine pV ?_
 refine tS ?_
 refine tR fun _ _ _ => ?_
 refine sV (rLdS rfl rfl rfl) ?_
 refine pV ?_
 refine eV (eCallV rfl rfl rfl (ref_Right p m A c mod Xa na ca a hna ha9) ⟨rfl, rfl, trivial⟩ ?_)
 refine pV ?_
 refine tS ?_
 refine tS ?_
 refine tR fun _ _ _ => ?_
 iterate 2 refine pV ?_
 refine tC rfl (fun h2 => ?_) (fun h2 => ?_)
 ·try simp only [zbA] at h2
  omega --done
 ·try simp only [zbA] at h2
  refine tK ?_
  refine tS ?_
  refine tR fun _ _ _ => ?_
  refine sV (rLdS rfl rfl rfl) ?_
  refine pV ?_
  refine eV (eCallV rfl rfl rfl (ref_PDegree p m A c mod Xa na ca a hna ha9) ⟨rfl, rfl, trivial⟩ ?_)
  refine pV ?_
  rw [show ((Po.len (pol a : Po (El p m mod)) : Nat) : Int) - 1 = (N : Int) by omega]
  refine tS ?_
  refine tR fun _ _ _ => ?_
  refine pV ?_
  refine tS ?_
  refine tS ?_
  refine tR fun _ _ _ => ?_
  refine pV ?_
  refine tB ?_
  refine tr_loop2 (fun (i : Int) (s : Int) => [(8, .int .i64 s), (9, .int .i64 i), (7, .int .i64 N), (1, .slice Xa na ca), (2, .pointer (some p0))]) (fun (i : Int) (s : Int) => [blk p0 24 [.int .i64 p, .int .i64 m, .slice A mod.length c], ro A (ints mod), ro Xa (ints a)]) (fun (i : Int) (s : Int) => (0 ≤ i ∧ i ≤ N) ∧ (1 ≤ s ∧ s ≤ 65536) ∧ s = pw p m ^ i.toNat) (fun (i : Int) (s : Int) => (N - i).toNat) (0) (1) ⟨rfl, rfl, rfl, rfl, rfl, trivial⟩ (by first | exact cs _ _ | exact CSub.refl _) (⟨⟨by omega, by omega⟩, ⟨by omega, by omega⟩, by rw [show ((0 : Int).toNat) = 0 from rfl, Int.pow_zero]⟩) (fun i s hI => ?_)
  obtain ⟨⟨hi0, hi1⟩, ⟨hs0, hs1⟩, hs⟩ := hI
  refine tS ?_
  refine tS ?_
  refine tR fun _ _ _ => ?_
  iterate 3 refine pV ?_
  refine tC rfl (fun h7 => ?_) (fun h7 => ?_)
  ·try simp only [zbA] at h7
   refine tK ?_
   refine tS ?_
   refine tB ?_
   refine tS ?_
   refine tS ?_
   have hqd : 0 ≤ 65536 / pw p m := Int.ediv_nonneg (by omega) (by omega)
   refine tR fun _ _ _ => ?_
   refine pV ?_
   refine sV (rLdS rfl rfl rfl) ?_
   refine eV (eCallV rfl rfl rfl (ref_order p m A c mod) ⟨rfl, trivial⟩ ?_)
   rw [hord]
   refine sV (rQuo rfl rfl rfl (by omega) (by omega)) ?_
   refine pV ?_
   refine tC rfl (fun h9 => ?_) (fun h9 => ?_)
   ·try simp only [zbA] at h9
    rw [hs] at h9
    have := pow_big (by omega) (show i.toNat < N by omega) h9
    omega --done
   ·try simp only [zbA] at h9
    refine tK ?_
    have hsq : s * pw p m ≤ 65536 := Int.mul_le_of_le_ediv (by omega) (by omega)
    have hsq0 : 0 < s * pw p m := Int.mul_pos (by omega) (by omega)
    refine tR fun _ _ _ => ?_
    refine pV ?_
    refine sV (rLdS rfl rfl rfl) ?_
    refine eV (eCallV rfl rfl rfl (ref_order p m A c mod) ⟨rfl, trivial⟩ ?_)
    rw [hord]
    refine sV (rMul rfl rfl rfl (by omega) (by omega)) ?_
    refine pV ?_
    refine tR fun _ _ _ => ?_
    refine pV ?_
    refine sV (rAdd rfl rfl rfl (by omega) (by omega)) ?_
    refine pV ?_
    refine ⟨i + 1, s * pw p m, ⟨rfl, rfl, rfl, rfl, rfl, trivial⟩, by first | exact cs _ _ | exact CSub.refl _, ?_⟩
    exact ⟨⟨⟨by omega, by omega⟩, ⟨by omega, by omega⟩, by rw [show (i + 1).toNat = i.toNat + 1 by omega, Int.pow_succ, hs]⟩, by omega⟩
  ·try simp only [zbA] at h7
   refine tE ?_
   refine tS ?_
   refine tS ?_
   refine tR fun _ _ _ => ?_
   refine sV (rLdS rfl rfl rfl) ?_
   refine pV ?_
   refine eV (eCallV rfl rfl rfl (ref_PAt p m A c mod Xa na ca a hna ha9 0 (by omega)) ⟨rfl, rfl, rfl, trivial⟩ ?_)
   refine pV ?_
   refine tC rfl (fun h12 => ?_) (fun h12 => ?_)
   ·try simp only [zbA] at h12
    exact absurd h12 hc0 --done
   ·try simp only [zbA] at h12
    refine tK ?_
    refine tS ?_
    refine tR fun _ _ _ => ?_
    refine sV (rLdS rfl rfl rfl) ?_
    refine eV (eLit1I rfl rfl rfl rfl (fun A14 => ?_))
    refine pV ?_
    refine eV (eCall1 rfl rfl rfl (ref_PRem p m A c mod A14 _ 1 [1] rfl (by simp) Xa na ca a hna ha9 (by omega) hm0) ⟨rfl, rfl, rfl, trivial⟩ ?_)
    rintro _ _ ⟨B14, c14, rfl, rfl⟩
    refine pV ?_
    rw [show (pol [1] : Po (El p m mod)) = Po.mn 1 0 from pol_one1]
    refine tS ?_
    refine tR fun _ _ _ => ?_
    refine sV (rLdS rfl rfl rfl) ?_
    refine eV (eLit2I rfl rfl rfl rfl rfl (fun A15 => ?_))
    refine pV ?_
    refine eV (eCall1 rfl rfl rfl (ref_PRem p m A c mod A15 _ 2 [0, 1] rfl (by simp) Xa na ca a hna ha9 (by omega) hm0) ⟨rfl, rfl, rfl, trivial⟩ ?_)
    rintro _ _ ⟨B15, c15, rfl, rfl⟩
    refine pV ?_
    rw [pol_X01, show (Po.X : Po (El p m mod)) = Po.mn 1 (Int.toNat 1) from rfl]
    refine tS ?_
    refine tR fun _ _ _ => ?_
    refine pV ?_
    refine tS ?_
    refine tB ?_
    refine tr_loop3 (fun (n : Int) (Bx : Option Addr) (cx : Nat) => [(11, .slice Bx (il (Po.rem (Po.mn 1 n.toNat) (pol a : Po (El p m mod)))).length cx), (12, .int .i64 n), (10, .slice B14 (il (Po.rem (Po.mn 1 0) (pol a : Po (El p m mod)))).length c14), (1, .slice Xa na ca), (2, .pointer (some p0))]) (fun (n : Int) (Bx : Option Addr) (cx : Nat) => [ow Bx 3 cx (ints (il (Po.rem (Po.mn 1 n.toNat) (pol a : Po (El p m mod))))), ow B14 3 c14 (ints (il (Po.rem (Po.mn 1 0) (pol a : Po (El p m mod))))), blk p0 24 [.int .i64 p, .int .i64 m, .slice A mod.length c], ro A (ints mod), ro Xa (ints a)]) (fun (n : Int) (Bx : Option Addr) (cx : Nat) => 1 ≤ n ∧ n ≤ K) (fun (n : Int) (Bx : Option Addr) (cx : Nat) => (K + 1 - n).toNat) (1) (B15) (c15) ⟨rfl, rfl, rfl, rfl, rfl, trivial⟩ (by first | exact cs _ _ | exact CSub.refl _) (⟨by omega, by omega⟩) (fun n Bx cx hI => ?_)
    obtain ⟨hn1, hn2⟩ := hI
    refine tS ?_
    refine tS ?_
    have hxn := Po.rem_len (Po.mn 1 n.toNat) hm0
    have hxln := il_length (Po.rem (Po.mn 1 n.toNat) (pol a : Po (El p m mod)))
    refine tr_draw [0, 1, 2, 3, 4, 5, 6] [] mixed (by kernel_rfl) fun _ _ _ => ?_
    refine sV (rLdS rfl rfl rfl) ?_
    refine sV (rLdS rfl rfl rfl) ?_
    iterate 2 refine pV ?_
    refine eV (eCall1 rfl rfl rfl (ref_PSub p m A c mod Bx _ cx (il (Po.rem (Po.mn 1 n.toNat) (pol a : Po (El p m mod)))) rfl (by omega) B14 _ c14 (il (Po.rem (Po.mn 1 0) (pol a : Po (El p m mod)))) rfl (by omega)) ⟨rfl, rfl, rfl, trivial⟩ ?_)
    rintro _ _ ⟨B17, c17, rfl, rfl⟩
    have hs1 := il_length (pol (il (Po.rem (Po.mn 1 n.toNat) (pol a : Po (El p m mod)))) - pol (il (Po.rem (Po.mn 1 0) (pol a : Po (El p m mod)))) : Po (El p m mod))
    have hs2 := Po.len_sub (pol (il (Po.rem (Po.mn 1 n.toNat) (pol a : Po (El p m mod))))) (pol (il (Po.rem (Po.mn 1 0) (pol a : Po (El p m mod)))) : Po (El p m mod))
    have hs3 : Po.len (pol (il (Po.rem (Po.mn 1 n.toNat) (pol a : Po (El p m mod)))) : Po (El p m mod)) = (il (Po.rem (Po.mn 1 n.toNat) (pol a : Po (El p m mod)))).length := by rw [pol_il, il_length]
    have hs4 : Po.len (pol (il (Po.rem (Po.mn 1 0) (pol a : Po (El p m mod)))) : Po (El p m mod)) = (il (Po.rem (Po.mn 1 0) (pol a : Po (El p m mod)))).length := by rw [pol_il, il_length]
    refine eV (eCallV rfl rfl rfl (ref_PDegree p m A c mod B17 _ c17 (il (pol (il (Po.rem (Po.mn 1 n.toNat) (pol a : Po (El p m mod)))) - pol (il (Po.rem (Po.mn 1 0) (pol a : Po (El p m mod)))))) rfl (by omega)) ⟨rfl, rfl, trivial⟩ ?_)
    refine pV ?_
    rw [pol_il, pol_il, pol_il]
    refine tC rfl (fun h17 => ?_) (fun h17 => ?_)
    ·try simp only [zbA] at h17
     refine tK ?_
     refine tB ?_
     refine tS ?_
     refine tr_draw [0, 1, 2, 5, 3, 4, 6, 7] [] mixed (by kernel_rfl) fun _ _ _ => ?_
     refine sV (rLdS rfl rfl rfl) ?_
     refine sV (rLdS rfl rfl rfl) ?_
     iterate 2 refine pV ?_
     refine eV (eLit2I rfl rfl rfl rfl rfl (fun A18 => ?_))
     refine eV (eCall1 rfl rfl rfl (ref_PMul p m A c mod Bx _ cx (il (Po.rem (Po.mn 1 n.toNat) (pol a : Po (El p m mod)))) rfl (by omega) A18 _ 2 [0, 1] rfl (by simp)) ⟨rfl, rfl, rfl, trivial⟩ ?_)
     rintro _ _ ⟨B18a, c18a, rfl, rfl⟩
     have hs5 := il_length (pol (il (Po.rem (Po.mn 1 n.toNat) (pol a : Po (El p m mod)))) * pol [0, 1] : Po (El p m mod))
     have hs6 := len_mul_le (pol (il (Po.rem (Po.mn 1 n.toNat) (pol a : Po (El p m mod))))) (pol [0, 1] : Po (El p m mod))
     have hs3 : Po.len (pol (il (Po.rem (Po.mn 1 n.toNat) (pol a : Po (El p m mod)))) : Po (El p m mod)) = (il (Po.rem (Po.mn 1 n.toNat) (pol a : Po (El p m mod)))).length := by rw [pol_il, il_length]
     have hs7 : Po.len (pol [0, 1] : Po (El p m mod)) ≤ 2 := Po.len_le (pol_sh [0, 1])
     refine eV (eCall1 rfl rfl rfl (ref_PRem p m A c mod B18a _ c18a (il (pol (il (Po.rem (Po.mn 1 n.toNat) (pol a : Po (El p m mod)))) * pol [0, 1])) rfl (by omega) Xa na ca a hna ha9 (by omega) hm0) ⟨rfl, rfl, rfl, trivial⟩ ?_)
     rintro _ _ ⟨B18b, c18b, rfl, rfl⟩
     refine pV ?_
     rw [pol_il, pol_il, pol_X01, show Po.rem (Po.rem (Po.mn 1 n.toNat) (pol a : Po (El p m mod)) * Po.X) (pol a : Po (El p m mod)) = (Po.rem (Po.mn 1 (n + 1).toNat) (pol a : Po (El p m mod))) by rw [Rg.mul_comm]; rw [show (n + 1).toNat = n.toNat + 1 by omega]; exact xk_succ hm0 n.toNat]
     refine tR fun _ _ _ => ?_
     refine pV ?_
     refine sV (rAdd rfl rfl rfl (by omega) (by omega)) ?_
     refine pV ?_
     refine ⟨n + 1, B18b, c18b, ⟨rfl, rfl, rfl, rfl, rfl, trivial⟩, by first | exact cs _ _ | exact CSub.refl _, ?_⟩
     have hnk : ¬ n = K := fun e => by
      have h5 := (Po.rem_eq_iff hm0).2 hK.2.1
      rw [show n.toNat = K by omega, h5, Rg.sub_self, Po.len_zero] at h17
      omega
     exact ⟨⟨by omega, by omega⟩, by omega⟩
    ·try simp only [zbA] at h17
     refine tE ?_
     refine tS ?_
     refine tR fun _ _ _ => ?_
     iterate 3 refine pV ?_
     have hnK : n = K := by
      have h5 : Po.rem (Po.mn 1 n.toNat) (pol a : Po (El p m mod)) - (Po.rem (Po.mn 1 0) (pol a : Po (El p m mod))) = 0 := Po.eq_zero_of_len (by omega)
      have h6 := (Po.rem_eq_iff hm0).1 (Rg.eq_of_sub h5)
      have := hK.is (by omega) (by omega) h6
      omega
     rw [hnK]
     exact tr_ret ⟨trivial, _, _, rfl, ⟨rfl, rfl⟩, CSub.nil _, trivial⟩
end Go.Proofs.Ytbhoeaijpnjgdaa

/-
  A RANGE OVER A FUNCTION. One sentence: the rule for it, over an iterator's contract: what stands between two rounds is told by chunks.
  Conditions: none. Plain theorems on the model's own words; no program is named here.
-/
import Derived.Test.YtjmojhflnjbgaaaSymK
import Derived.RangeFuncFrom
import Derived.RangeFuncLeaves
set_option linter.unusedSimpArgs false
set_option linter.unusedVariables false
namespace Go.Proofs.Ytjmojhflnjbgaaa
open Go.RowKit

def upI (k : Nat) : List Int := (List.range k).map (fun i : Nat => (i : Int))
theorem upI_succ (k : Nat) : upI (k + 1) = upI k ++ [(k : Int)] := by simp [upI, List.range_succ]
theorem upI_length (k : Nat) : (upI k).length = k := by simp [upI]

/-- The blocks that the walk owns. -/
def ownd (F : List Chunk) (b : Nat) : Prop := ∃ c ∈ F, c.excl ∧ c.foot b
theorem Mem.rebase {M : Nat → Prop} {w0 w : World} {F : List Chunk} (h : Mem M w0 w F) : Mem (ownd F) w w F :=
  ⟨⟨rfl, rfl, rfl, Nat.le_refl _, fun _ _ _ => rfl⟩, h.sat, h.sep, fun c hc he b hb => .inr ⟨c, hc, he, hb⟩⟩
theorem Mem.owned {M : Nat → Prop} {w0 w : World} {F : List Chunk} (h : Mem M w0 w F) {b : Nat} (hb : ownd F b) : w0.heap.size ≤ b ∨ M b := by
  obtain ⟨c, hc, he, hf⟩ := hb
  exact h.own c hc he b hf
theorem Mem.cells {M : Nat → Prop} {w0 w : World} {F : List Chunk} (h : Mem M w0 w F) {b : Nat} (hb : ownd F b) : ∃ o : Obj, w.heap[b]? = some o ∧ o.isCells = true := by
  obtain ⟨c, hc, he, hf⟩ := hb
  exact c.cel w b (h.sat c hc) hf
/-- What becomes of objects that hold no cells is nothing to the chunks. -/
theorem mem_grown {M : Nat → Prop} {w W W' : World} {F : List Chunk} {row : Option Nat} (h : Mem M w W F) (hg : W.grownBy W' row) (hr : ∀ r, row = some r → w.heap.size ≤ r ∧ ∃ o : Obj, W.heap[r]? = some o ∧ o.isCells = false) : Mem M w W' F := by
  refine ⟨⟨hg.os.trans h.upd.os, hg.tape.trans h.upd.tape, hg.output.trans h.upd.output, Nat.le_trans h.upd.size hg.size, fun k hk hM => ?_⟩, fun c hc => ?_, h.sep, h.own⟩
  · rw [← h.upd.block k hk hM]
    refine hg.block k (Nat.lt_of_lt_of_le hk h.upd.size) (fun e => ?_)
    have := (hr k e.symm).1
    omega
  · refine c.loc W W' (fun b hb => ?_) (h.sat c hc)
    obtain ⟨o, ho, hoc⟩ := c.cel W b (h.sat c hc) hb
    refine hg.block b (Array.getElem?_eq_some_iff.1 ho).1 (fun e => ?_)
    obtain ⟨_, o', ho', hoc'⟩ := hr b e.symm
    rw [ho] at ho'
    simp only [Option.some.injEq] at ho'
    subst ho'
    rw [hoc] at hoc'
    cases hoc'
/-- A walk within a walk. -/
theorem Mem.within {M M0 : Nat → Prop} {w0 W W' : World} {F F' : List Chunk} (h : Mem M w0 W F) (hM0 : ∀ b, M0 b → ownd F b) (k : Mem M0 W W' F') : Mem M w0 W' F' :=
  ⟨h.upd.trans k.upd (fun x hx hM => (h.owned (hM0 x hM)).resolve_left (by omega)), k.sat, k.sep, fun c hc he b hb => by
    rcases k.own c hc he b hb with h1 | h1
    · exact .inl (Nat.le_trans h.upd.size h1)
    · exact h.owned (hM0 b h1)⟩
theorem Mem.others {M0 : Nat → Prop} {w0 W W' : World} {M : Nat → Prop} {F F' : List Chunk} (h : Mem M w0 W F) (hM0 : ∀ b, M0 b → ownd F b) (k : Mem M0 W W' F') : KeepsOthers W W' :=
  ⟨k.upd.size, fun j o ho hc => (k.upd.block j (Array.getElem?_eq_some_iff.1 ho).1 (fun hM => by
    obtain ⟨o', ho', hc'⟩ := h.cells (hM0 j hM)
    rw [ho] at ho'
    simp only [Option.some.injEq] at ho'
    subst ho'
    rw [hc] at hc'
    cases hc')).trans ho⟩
theorem wpIn_room {P : Program} {rd : Option Nat} {n k : Nat} {c : Code} {Q : Exit → Act → World → Prop} {a : Act} {w : World} (h : c.wpIn (WR rd) n P Q a w) : c.wpIn (WR rd) k P Q a w :=
  fun b ks cs h1 h2 _ => h b ks cs h1 h2 (fun d hd => by simp [WR, Fence.wide] at hd)

/-- What the iterator gf, with what it caught in lb, promises: the numbers below q, one by one. -/
def GivesUp (P : Program) (gf : FuncId) (lb : Array Value) (q : Nat) (w : World) : Prop :=
  SeqStopsK (α := Int) (WR none) 1 P gf lb (fun x => #[.int .i64 x]) (fun _ _ => True) (fun xs => xs = upI q) (fun pre => ∃ k, k ≤ q ∧ pre = upI k) q w
class Gives (P : Program) (F : List Chunk) (gf : FuncId) (lb : Array Value) (q : outParam Nat) : Prop where
  gives : ∀ (M : Nat → Prop) (w0 w : World), Mem M w0 w F → GivesUp P gf lb q w

section
variable {P : Program} {N : Nat} {M : Nat → Prop} {w0 : World} {L : Fr} {F : List Chunk}
theorem wp_asg {P : Program} {rd : Option Nat} {n id p v : Nat} {o : Oper} {a : Act} {x : Value} {W : World} {K : Act → World → Prop} (ho : o.op = .assign (.tmp p)) (hod : o.dst = some v) (hog : o.guard = none)
    (hx : a.tmps.getD p undef = x) (hK : K (a.put (some v) x) W) : (Code.region id #[o] false).wpIn (WR rd) n P (Exit.then K (fun _ _ _ => False)) a W := by
  refine wpIn_region_seq (by
    show noDefer [o] = true
    simp [noDefer, ho]) ?_
  show wpOps P #[o] _ (List.range 1) a W
  rw [show List.range 1 = [0] from rfl, wpOps_cons]
  unfold wpOp
  have h0 : (#[o] : Array Oper)[0]? = some o := rfl
  simp only [h0]
  rw [if_pos (wanted_none hog _)]
  left
  unfold Oper.wp
  have h1 : (execOp a.eval o).run P W = .ok (.value x) W := by
    simp only [execOp, ho, Act.eval, hx]
    rfl
  rw [h1, Oper.upon_value, hod]
  exact ⟨rfl, hK⟩

theorem zip1 (t : Array Value) (p : Nat) (x : Value) : (#[p].zip #[x]).foldl (fun (t : Array Value) (pv : Nat × Value) => t.setIfInBounds pv.1 pv.2) t = t.setIfInBounds p x := by
  have h : #[p].zip #[x] = #[(p, x)] := by
    apply Array.ext'
    simp [Array.toList_zip]
  rw [h]; rfl
/-- THE RULE. -/
theorem tr_range {S : Type} {gf : FuncId} {lb : Array Value} {q : Nat} {g : Operand} {p v id : Nat} {o : Oper} {body : Code} {Q : Exit → Fr → List Chunk → Prop}
    (hg : ev L g = some (.func (.func gf) #[] lb)) (eg : Enters P gf) [hseq : Gives P F gf lb q]
    (ho : o.op = .assign (.tmp p)) (hod : o.dst = some v) (hog : o.guard = none) (hp : Nat.ble (p + 1) N = true) (hv : Nat.ble (v + 1) N = true)
    (Ff : S → List Chunk) (I : List Int → S → Prop) (s0 : S) (hF : CSub F (Ff s0)) (hI : I [] s0)
    (round : ∀ (pre : List Int) (x : Int) (s : S) (l : Nat) (M0 : Nat → Prop) (W0 : World), pre.length < q → I pre s → Tr P ⟨N, some l⟩ M0 W0 body ((v, .int .i64 x) :: (p, .int .i64 x) :: L) (Ff s) (fun e _ F' =>
      match e with
      | .normal => ∃ s', CSub F' (Ff s') ∧ I (pre ++ [x]) s'
      | .exit i => (∃ k, k ≤ q ∧ pre ++ [x] = upI k) → Q (.exit i) L F'
      | .ret => (∃ k, k ≤ q ∧ pre ++ [x] = upI k) → Q .ret L F'
      | _ => False))
    (done : ∀ s, I (upI q) s → Q .normal L (Ff s)) :
    Tr P ⟨N, none⟩ M w0 (.rangeFunc g #[p] (.region id #[o] false) body) L F Q := fun ds M1 w1 hb a w hl hm => by
  have hmF := hF.mem hm
  have hrb := hmF.rebase
  have hp' : p < N := Nat.lt_of_succ_le (Nat.le_of_ble_eq_true hp)
  have hv' : v < N := Nat.lt_of_succ_le (Nat.le_of_ble_eq_true hv)
  -- what a base is after the loop
  have base : ∀ (F2 : List Chunk) (D : Nat) (W : World), Mem (ownd (Ff s0)) w W F2 → w.heap.size ≤ D → W.heap[D]? = some (.deferred (some [])) → Bs M w0 (ownd F2) W (D :: ds) := by
    intro F2 D W hmW hD hWD
    have hbt := hb.total hmF
    refine ⟨hbt.upd.trans hmW.upd (fun x hx hM => (hbt.owned hM).resolve_left (by omega)), fun b hbo => ?_, List.nodup_cons.2 ⟨fun hmem => ?_, hb.nd⟩, fun E hE => ?_⟩
    · rcases hmW.owned hbo with h1 | h1
      · exact .inr (Nat.le_trans hbt.upd.size h1)
      · exact (hbt.owned h1).symm
    · have := (hb.marks hm D hmem).2.1; omega
    · rcases List.mem_cons.1 hE with rfl | hE
      · refine ⟨Nat.le_trans hbt.upd.size hD, (Array.getElem?_eq_some_iff.1 hWD).1, fun ho => ?_, hWD⟩
        obtain ⟨o', ho', hc'⟩ := hmW.cells ho
        rw [hWD] at ho'
        simp only [Option.some.injEq] at ho'
        subst ho'
        cases hc'
      · obtain ⟨h1, h2, h3⟩ := hb.marks hm E hE
        have hWE : W.heap[E]? = some (.deferred (some [])) := (hmW.upd.block E h2 (fun ho => by
          obtain ⟨o', ho', hc'⟩ := hmF.cells ho
          rw [h3] at ho'
          simp only [Option.some.injEq] at ho'
          subst ho'
          cases hc')).trans h3
        refine ⟨h1, Nat.lt_of_lt_of_le h2 hmW.upd.size, fun ho => ?_, hWE⟩
        obtain ⟨o', ho', hc'⟩ := hmW.cells ho
        rw [hWE] at ho'
        simp only [Option.some.injEq] at ho'
        subst ho'
        cases hc'
  have holds : ∀ D, Holds ⟨N, D :: ds⟩ { a with defers := { target := .collected D, args := #[] } :: a.defers } L := fun D =>
    ⟨hl.size, by rw [hl.defers]; rfl, hl.get⟩
  refine wpIn_rangeFunc_ownF (α := Int) (F := WR none) (n := 2) (encs := fun x => #[.int .i64 x]) (Kp := fun _ _ => True) (S := fun xs => xs = upI q) (Sp := fun pre => ∃ k, k ≤ q ∧ pre = upI k) (N := q) (w0 := w)
    rfl (by omega) (gf := gf) (lb := lb) (hl.eval hg) trivial eg (hseq.gives _ _ w hm) (fun _ _ => trivial) (fun _ _ _ _ _ _ _ _ => trivial) (Below.refl _ _) (fun _ => rfl)
    (fun pre W => ∃ s, Mem (ownd (Ff s0)) w W (Ff s) ∧ I pre s)
    (fun c pre W => ∃ F', Mem (ownd (Ff s0)) w W F' ∧ ((c = .ret ∧ ((∃ k, k ≤ q ∧ pre = upI k) → Q .ret L F')) ∨ ∃ i, c = .exit i ∧ ((∃ k, k ≤ q ∧ pre = upI k) → Q (.exit i) L F')))
    (fun pre W W' row h1 hg hr => ?_) (fun c pre W W' row h1 hg hr => ?_) ⟨s0, hrb, hI⟩
    (fun x => ({ tmps := a.tmps.setIfInBounds p (.int .i64 x), defers := [] } : Act).put (some v) (.int .i64 x)) ?_ ?_ ?_ ?_
  · obtain ⟨s, h2, h3⟩ := h1
    exact ⟨s, mem_grown h2 hg hr, h3⟩
  · obtain ⟨F', h2, h3⟩ := h1
    exact ⟨F', mem_grown h2 hg hr, h3⟩
  · intro l x W K hK
    have hz : (#[p].zip #[Value.int .i64 x]).foldl (fun (t : Array Value) (pv : Nat × Value) => t.setIfInBounds pv.1 pv.2) a.tmps = a.tmps.setIfInBounds p (.int .i64 x) := zip1 _ _ _
    show (Code.region id #[o] false).wpIn _ _ P _ { tmps := (#[p].zip #[Value.int .i64 x]).foldl (fun (t : Array Value) (pv : Nat × Value) => t.setIfInBounds pv.1 pv.2) a.tmps, defers := [] } W
    rw [hz]
    refine wp_asg ho hod hog ?_ hK
    show (a.tmps.setIfInBounds p (.int .i64 x)).getD p undef = _
    have := hl.size
    simp only at this
    simp [this, hp']
  · rintro l pre x W ⟨s, hs, hIs⟩ hlen
    have hact : Holds ⟨N, []⟩ (({ tmps := a.tmps.setIfInBounds p (.int .i64 x), defers := [] } : Act).put (some v) (.int .i64 x)) ((v, .int .i64 x) :: (p, .int .i64 x) :: L) := by
      have h0 : Holds ⟨N, []⟩ ({ tmps := a.tmps, defers := [] } : Act) L := ⟨hl.size, rfl, hl.get⟩
      exact (h0.put (d := some p) hp (.int .i64 x)).put (d := some v) hv (.int .i64 x)
    refine wpIn_room (n := 2) (wpIn_mono (round pre x s l (ownd (Ff s)) W hlen hIs [] (ownd (Ff s)) W (Bs.refl _ _) _ W hact hs.rebase) fun e a' W' hq => ?_)
    obtain ⟨ds', M2, w2, hb2, L', F', h1, h2, h3⟩ := hq
    have ht := hb2.total h2
    have hko := hs.others (fun b h => h) ht
    have hmm := hs.within (fun b h => h) ht
    cases e with
    | normal =>
      obtain ⟨s', h4, h5⟩ := h3
      exact ⟨hko, trivial, s', h4.mem hmm, h5⟩
    | ret => exact ⟨hko, F', hmm, .inl ⟨rfl, h3⟩⟩
    | exit i => exact ⟨hko, F', hmm, .inr ⟨i, rfl, h3⟩⟩
    | goto t => exact h3.elim
    | panic ch => exact h3.elim
    | outgrown => exact h3.elim
  · rintro D xs W hD rfl ⟨s, hs, hIs⟩ hWD
    exact ⟨D :: ds, ownd (Ff s), W, base _ D W hs hD hWD, L, Ff s, holds D, hs.rebase, done s hIs⟩
  · rintro D c pre W hD hSp ⟨F', hs, hc⟩ hWD
    rcases hc with ⟨rfl, hc⟩ | ⟨i, rfl, hc⟩
    · exact wpIn_ret ⟨D :: ds, ownd F', W, base _ D W hs hD hWD, L, F', holds D, hs.rebase, hc hSp⟩
    · exact wpIn_exit ⟨D :: ds, ownd F', W, base _ D W hs hD hWD, L, F', holds D, hs.rebase, hc hSp⟩
end
end Go.Proofs.Ytjmojhflnjbgaaa

/-
  CYCLICDIVIDES, PART 1 OF 10. One sentence: the texts behind the law CyclicDivides, put together.
  Conditions: each theorem's own, written out in it.
-/
import Derived.WalkKit
import Derived.Still
import Derived.OrdersIn
import Derived.CallsIn
import Derived.RangeFuncFrom
import Derived.RangeFuncLeaves
import Derived.RangeFuncOwn
import Derived.IntWalk
import Derived.Laws.MakeOwn
import Derived.OwnWalk
import Derived.Maps.AppendAt
import Derived.Laws.OwnMore
import Derived.Laws.Rows
import Derived.Laws.Tables
import Derived.Laws.StructEq
import Derived.Laws.CopyRow
import Derived.Laws.Cover3
import Derived.Laws.IdiomCopy
import Derived.Deep.Upon
import Derived.Laws.Pointers
set_option linter.unusedSimpArgs false
set_option linter.unusedVariables false
set_option linter.unusedSectionVars false
namespace Go.Proofs.YtdkahdehodopoaaGreat
open Go.RowKit
def Ext (w w' : World) : Prop := Below w.heap.size w w'
theorem Ext.refl (w : World) : Ext w w := Below.refl _ _
theorem Ext.trans {a b c : World} (h : Ext a b) (k : Ext b c) : Ext a c := Below.trans h (Below.mono k h.size)
def isEff : Op → Bool
 | .call { callee := .builtin b, .. } => (match b with | .len => false | .cap => false | .min => false | .max => false | _ => true)
 | .alloc _ | .box .. | .store .. | .makeSlice .. | .buildSlice .. | .call _ => true
 | .load .. | .move _ | .assign _ | .pick .. | .build .. | .nilCheck _ | .binOp .. | .unOp .. | .convert .. | .makeFunc .. | .slice .. | .fieldAddr .. | .field .. | .indexAddr .. | .index .. | .extract .. => false
 | _ => true
section
variable {P : Program} {ops : Array Oper} {md : Region.Mode}
def YieldsX (P : Program) (ops : Array Oper) (w : World) (o : Oper) (v : Value) (a : Act) : Prop := ∀ w', Ext w w' → YieldsAt P ops w' o v a
theorem YieldsX.of_same {w : World} {o : Oper} {v : Value} {a a' : Act} (hy : YieldsX P ops w o v a) (he : execOp a'.eval o = execOp a.eval o)
  (hw : Region.wanted o (yielded ops a'.tmps) = Region.wanted o (yielded ops a.tmps)) : YieldsX P ops w o v a' := fun w' h => YieldsAt.of_same (hy w' h) he hw
theorem YieldsX.ext {w w' : World} {o : Oper} {v : Value} {a : Act} (hy : YieldsX P ops w o v a) (h : Ext w w') : YieldsX P ops w' o v a := fun w'' h' => hy w'' (h.trans h')
def noQ : Exit → Act → World → Prop := fun _ _ _ => False
theorem Oper.wp_noQ {o : Oper} {a : Act} {w : World} {K : Act → World → Prop} {Q : Exit → Act → World → Prop} (h : o.wp P a w K noQ) : o.wp P a w K Q := by
 unfold Oper.wp at *
 generalize (execOp a.eval o).run P w = r at *
 cases r with
 | ok n w' =>
  cases n <;> simp only [Oper.upon] at h ⊢ <;>
   first
    | exact h
    | exact h.elim
    | exact Calls.mono h (fun e w'' he => by
      cases e with
      | returned v => exact he
      | panicked c => exact he.elim
      | outgrown => obtain ⟨a, w, h⟩ := he; exact h.elim)
 | halt x w' => cases x <;> simp only [Oper.upon] at h ⊢ <;> exact h.elim
def opH (P : Program) (ops : Array Oper) (i : Nat) (K : Act → World → Prop) (a : Act) (w : World) : Prop :=
 match ops[i]? with
 | none => False
 | some o =>
  if isEff o.op = true then
   (if Region.wanted o (yielded ops a.tmps) then o.wp P a w (fun a' w' => Ext w w' ∧ K a' w') noQ else K (a.put o.dst undef) w)
  else ∃ v, YieldsX P ops w o v a ∧ K (a.put o.dst v) w
theorem opH_mono {i : Nat} {K K' : Act → World → Prop} {a : Act} {w : World} (h : ∀ a w', Ext w w' → K a w' → K' a w') (hh : opH P ops i K a w) : opH P ops i K' a w := by
 unfold opH at *
 split
 ·rename_i ho; simp only [ho] at hh
 ·rename_i o ho
  simp only [ho] at hh
  split
  ·rename_i he
   simp only [he, if_true] at hh
   split
   ·rename_i hw; simp only [hw, if_true] at hh; exact Oper.wp_mono (fun a' w' hx => ⟨hx.1, h _ _ hx.1 hx.2⟩) hh
   ·rename_i hw; simp only [hw] at hh; exact h _ _ (Ext.refl _) hh
  ·rename_i he
   simp only [he] at hh
   obtain ⟨v, h1, h2⟩ := hh
   exact ⟨v, h1, h _ _ (Ext.refl _) h2⟩
theorem wpOp_of_opH {i : Nat} {K K' : Act → World → Prop} {Q : Exit → Act → World → Prop} {a : Act} {w : World} (h : ∀ a w', K a w' → K' a w') (hh : opH P ops i K a w) : wpOp P ops Q i K' a w := by
 unfold opH at hh
 unfold wpOp
 split
 ·rename_i ho; simp only [ho] at hh
 ·rename_i o ho
  simp only [ho] at hh
  by_cases he : isEff o.op = true
  ·simp only [he, if_true] at hh
   split
   ·rename_i hw; simp only [hw, if_true] at hh; exact .inl (Oper.wp_noQ (Oper.wp_mono (fun a' w' hx => h _ _ hx.2) hh))
   ·rename_i hw; simp only [hw] at hh; exact h _ _ hh
  ·simp only [he] at hh
   obtain ⟨v, h1, h2⟩ := hh
   have hy := h1 w (Ext.refl w)
   have := YieldsAt.stOp (K := fun a' => K a' w) ho hy h2
   have h3 := wpOp_of_stOp (Q' := Q) (K' := K') (w := w) (fun a hk => h a w hk) this
   unfold wpOp at h3
   simp only [ho] at h3
   exact h3
def wpH (P : Program) (md : Region.Mode) (ops : Array Oper) (hd : Nat → Bool) (L : Array Bool → Act → World → Prop) : Nat → Array Bool → Act → World → Prop
 | 0, listed, a, w => L listed a w
 | f + 1, listed, a, w => Region.ready md ops listed ≠ [] ∧ ∀ i ∈ Region.ready md ops listed, hd i = true ∧ opH P ops i (wpH P md ops hd L f (listed.setIfInBounds i true)) a w
theorem wpAny_of_wpH {hd : Nat → Bool} {g : Nat} {L : Array Bool → Act → World → Prop} {Q' : Exit → Act → World → Prop} (hL : ∀ listed a w, L listed a w → wpAny P md ops Q' g listed a w) :
  ∀ (f : Nat) (listed : Array Bool) (a : Act) (w : World), wpH P md ops hd L f listed a w → wpAny P md ops Q' (f + g) listed a w
 | 0, listed, a, w, h => by rw [Nat.zero_add]; exact hL _ _ _ h
 | f + 1, listed, a, w, h => by
  rw [show f + 1 + g = (f + g) + 1 by omega]
  exact ⟨fun h0 => absurd h0 h.1, fun i hi => wpOp_of_opH (fun a' w' h' => wpAny_of_wpH hL f _ a' w' h') (h.2 i hi).2⟩
theorem opH_put {j : Nat} {oi oj : Oper} {v : Value} (hj : ops[j]? = some oj) (hap : oi.apart ops oj = true)
  (hsi : ∀ cs b, oi.op ≠ .select cs b) (hsj : ∀ cs b, oj.op ≠ .select cs b) {K : Act → World → Prop} {a : Act} {w : World}
  (hy : YieldsX P ops w oi v a) (h : opH P ops j K (a.put oi.dst v) w) :
  opH P ops j (fun a' w' => YieldsX P ops w' oi v a' ∧ K (a'.put oi.dst v) w') a w := by
 obtain ⟨h1, h2, h3⟩ := Oper.apart_spec hap
 have keep : ∀ (w : World) (a : Act), YieldsX P ops w oi v a → ∀ u, YieldsX P ops w oi v (a.put oj.dst u) := fun w a hy u =>
  hy.of_same (execOp_put oi hsi a oj.dst u h3) (wanted_put oi a oj.dst u h3)
 have keepD : ∀ (w : World) (a : Act) d, YieldsX P ops w oi v a → YieldsX P ops w oi v { a with defers := d :: a.defers } := fun w a d hy => hy.of_same rfl rfl
 unfold opH at *
 simp only [hj] at *
 rw [wanted_put oj a oi.dst v h1] at h
 split
 ·rename_i he
  simp only [he, if_true] at h
  split
  ·rename_i hw
   simp only [hw, if_true] at h
   unfold Oper.wp at *
   rw [execOp_put oj hsj a oi.dst v h1] at h
   generalize (execOp a.eval oj).run P w = r at *
   cases r with
   | ok n w' =>
    cases n <;> simp only [Oper.upon] at h ⊢
    case value u => exact ⟨h.1, keep w' a (hy.ext h.1) u, by rw [← Act.put_comm a v u h2]; exact h.2⟩
    case skip => exact ⟨h.1, keep w' a (hy.ext h.1) _, by rw [← Act.put_comm a v undef h2]; exact h.2⟩
    case defer d =>
     refine ⟨h.1, keep w' _ (keepD w' a d (hy.ext h.1)) _, ?_⟩
     rw [← Act.put_comm _ v undef h2, ← Act.put_defers]
     exact h.2
    case enter f args =>
     refine Calls.mono h fun e w'' he => ?_
     cases e with
     | returned u => exact ⟨he.1, keep w'' a (hy.ext he.1) u, by rw [← Act.put_comm a v u h2]; exact he.2⟩
     | panicked c => exact he
     | outgrown => exact he
    case row row args => exact Rows.mono h fun u w'' he => ⟨he.1, keep w'' a (hy.ext he.1) u, by rw [← Act.put_comm a v u h2]; exact he.2⟩
   | halt x w' =>
    cases x <;> simp only [Oper.upon] at h ⊢
    case panic u => exact h
  ·rename_i hw
   simp only [hw] at h
   exact ⟨keep w a hy _, by rw [← Act.put_comm a v undef h2]; exact h⟩
 ·rename_i he
  simp only [he] at h
  obtain ⟨u, hu, hk⟩ := h
  exact ⟨u, hu.of_same (execOp_put oj hsj a oi.dst v h1).symm (wanted_put oj a oi.dst v h1).symm, keep w a hy u, by rw [← Act.put_comm a v u h2]; exact hk⟩
def needs (md : Region.Mode) (ops : Array Oper) : Nat → Nat → Nat → Bool
 | 0, _, _ => false
 | f + 1, j, i => match ops[j]? with
  | some o => o.after.any fun e => Region.binds md e && (e.on == i || needs md ops f e.on i)
  | none => false
def tailOk (md : Region.Mode) (ops : Array Oper) (hds tls : List Nat) : Bool := tls.all fun t => hds.all fun i => needs md ops 6 t i
def Closed (md : Region.Mode) (ops : Array Oper) (listed : Array Bool) : Prop :=
 ∀ (j : Nat) oj, ops[j]? = some oj → listed.getD j false = true → ∀ e ∈ oj.after, Region.binds md e = true → listed.getD e.on false = true
theorem closed_start (n : Nat) : Closed md ops (Array.replicate n false) := fun j oj _ hl => by
 have : (Array.replicate n false).getD j false = false := by
  rcases Nat.lt_or_ge j n with h | h
  ·simp [h]
  ·simp [h]
 rw [this] at hl
 cases hl
theorem closed_set {i : Nat} {listed : Array Bool} (hc : Closed md ops listed) (hi : i ∈ Region.ready md ops listed) : Closed md ops (listed.setIfInBounds i true) := fun j oj hj hl e he hb => by
 obtain ⟨_, oi, hoi, hall⟩ := mem_ready.1 hi
 by_cases hij : i = j
 ·subst hij
  have : oj = oi := Option.some.inj (hj.symm.trans hoi)
  subst this
  exact getD_set_true (hall e he hb)
 ·rw [getD_set_ne false hij] at hl
  exact getD_set_true (hc j oj hj hl e he hb)
theorem needs_listed {i : Nat} {listed : Array Bool} (hc : Closed md ops listed) : ∀ (f j : Nat) oj, ops[j]? = some oj → (∀ e ∈ oj.after, Region.binds md e = true → listed.getD e.on false = true) → needs md ops f j i = true → listed.getD i false = true
 | 0, _, _, _, _, h => by simp [needs] at h
 | f + 1, j, oj, hj, hd, h => by
  simp only [needs, hj] at h
  obtain ⟨e, he, hb⟩ := Array.any_eq_true'.1 h
  simp only [Bool.and_eq_true, Bool.or_eq_true, beq_iff_eq] at hb
  obtain ⟨hb1, hb2⟩ := hb
  rcases hb2 with hb2 | hb2
  ·rw [← hb2]; exact hd e he hb1
  ·cases ho : ops[e.on]? with
   | none =>
    cases f with
    | zero => simp [needs] at hb2
    | succ f => simp [needs, ho] at hb2
   | some oe => exact needs_listed hc f e.on oe ho (fun e' he' hb' => hc e.on oe ho (hd e he hb1) e' he' hb') hb2
theorem wpH_first {hds tls : List Nat} {i : Nat} {oi : Oper} {v : Value} {L : Array Bool → Act → World → Prop} (hi : ops[i]? = some oi) (hsel : ∀ (j : Nat) (o : Oper) cs b, ops[j]? = some o → o.op ≠ .select cs b)
  (hcov : ∀ j, j < ops.size → hds.contains j = true ∨ j ∈ tls) (ht : tailOk md ops hds tls = true) (hih : hds.contains i = true)
  (hdone : ∀ listed a w, L listed a w → ∀ j ∈ Region.ready md ops listed, hds.contains j = false) :
  ∀ (f : Nat) (listed : Array Bool) (a : Act) (w : World), Closed md ops listed →
   (∀ j oj, ops[j]? = some oj → j ≠ i → listed.getD j true = false → (∀ e ∈ oj.after, Region.binds md e = true → e.on ≠ i) → oi.apart ops oj = true) →
   i ∈ Region.ready md ops listed → YieldsX P ops w oi v a → isEff oi.op = false →
   wpH P md ops (fun j => hds.contains j) L f (listed.setIfInBounds i true) (a.put oi.dst v) w → wpH P md ops (fun j => hds.contains j) L (f + 1) listed a w := by
 have hnotail : ∀ (listed : Array Bool), Closed md ops listed → i ∈ Region.ready md ops listed → ∀ j ∈ Region.ready md ops listed, hds.contains j = true := by
  intro listed hcl hr j hj
  obtain ⟨hun, _⟩ := mem_ready.1 hr
  obtain ⟨_, oj, hoj, hall⟩ := mem_ready.1 hj
  have hlt : j < ops.size := (Array.getElem?_eq_some_iff.1 hoj).1
  rcases hcov j hlt with h | h
  ·exact h
  ·have h1 := List.all_eq_true.1 ht j h
   have h2 := List.all_eq_true.1 h1 i (by simpa using hih)
   have h3 := needs_listed hcl 6 j oj hoj hall h2
   rcases Nat.lt_or_ge i listed.size with h' | h'
   ·simp [h'] at hun h3; rw [hun] at h3; cases h3
   ·simp [Array.getElem?_eq_none h'] at h3
 intro f
 induction f with
 | zero =>
  intro listed a w hcl _ hr hy hne H
  refine ⟨fun h => (by rw [h] at hr; cases hr), fun j hj => ⟨hnotail listed hcl hr j hj, ?_⟩⟩
  by_cases hji : j = i
  ·subst hji
   unfold opH; simp only [hi, hne]; exact ⟨v, hy, H⟩
  ·have h1 := hdone _ _ _ H j (ready_mono hj hji)
   rw [hnotail listed hcl hr j hj] at h1
   cases h1
 | succ f ih =>
  intro listed a w hcl hfree hr hy hne H
  refine ⟨fun h => (by rw [h] at hr; cases hr), fun j hj => ⟨hnotail listed hcl hr j hj, ?_⟩⟩
  by_cases hji : j = i
  ·subst hji
   unfold opH; simp only [hi, hne]; exact ⟨v, hy, H⟩
  ·have h1 := (H.2 j (ready_mono hj hji)).2
   obtain ⟨hjun, oj, hoj, hall⟩ := mem_ready.1 hj
   have hnot : ∀ e ∈ oj.after, Region.binds md e = true → e.on ≠ i := fun e he hb heq => by
    have h1 := hall e he hb
    have h0 := (mem_ready.1 hr).1
    rw [heq] at h1
    rcases Nat.lt_or_ge i listed.size with h' | h'
    ·simp [h'] at h0 h1; rw [h0] at h1; cases h1
    ·simp [Array.getElem?_eq_none h'] at h1
   have h2 := opH_put hoj (hfree j oj hoj hji hjun hnot) (fun cs b => hsel i oi cs b hi) (fun cs b => hsel j oj cs b hoj) hy h1
   have hfree' : ∀ k ok, ops[k]? = some ok → k ≠ i → (listed.setIfInBounds j true).getD k true = false →
     (∀ e ∈ ok.after, Region.binds md e = true → e.on ≠ i) → oi.apart ops ok = true := fun k ok hk hki hun hno => by
    refine hfree k ok hk hki ?_ hno
    by_cases hjk : j = k
    ·subst hjk; exact hjun
    ·rw [getD_set_ne true hjk] at hun; exact hun
   refine opH_mono (fun a' w' _ h3 => ih (listed.setIfInBounds j true) a' w' (closed_set hcl hj) hfree' (ready_mono hr (Ne.symm hji)) h3.1 hne ?_) h2
   rw [Array.setIfInBounds_comm _ _ hji]
   exact h3.2
def headOk (md : Region.Mode) (ops : Array Oper) : List Nat → Array Bool → List Nat → Bool
 | [], listed, tls => (Region.ready md ops listed).all fun j => tls.contains j
 | i :: rest, listed, tls =>
  (match ops[i]? with
   | some o => if isEff o.op = true then Region.ready md ops listed == [i] else (Region.ready md ops listed).contains i && Region.free md ops listed i
   | none => false) && headOk md ops rest (listed.setIfInBounds i true) tls
def seqOk (md : Region.Mode) (ops : Array Oper) : List Nat → Array Bool → Bool
 | [], listed => (Region.ready md ops listed).isEmpty
 | i :: rest, listed => (Region.ready md ops listed == [i]) && seqOk md ops rest (listed.setIfInBounds i true)
def listAll (l : List Nat) (listed : Array Bool) : Array Bool := l.foldl (fun s i => s.setIfInBounds i true) listed
def wpHead (P : Program) (ops : Array Oper) (T : Act → World → Prop) : List Nat → Act → World → Prop
 | [], a, w => T a w
 | i :: rest, a, w => opH P ops i (wpHead P ops T rest) a w
def regionOk (ops : Array Oper) (hds tls : List Nat) : Bool :=
 Region.noSelect ops && (List.range ops.size).all (fun j => hds.contains j || tls.contains j) && tailOk .any ops hds tls && hds.all (fun j => !tls.contains j) &&
 headOk .any ops hds (Array.replicate ops.size false) tls && seqOk .any ops tls (listAll hds (Array.replicate ops.size false)) && (hds.length + tls.length == ops.size)
theorem wpH_of_head {hds0 tls : List Nat} {T : Act → World → Prop} (hsel : Region.noSelect ops = true) (hcov : ∀ j, j < ops.size → hds0.contains j = true ∨ j ∈ tls)
  (ht : tailOk md ops hds0 tls = true) (hdis : ∀ j, tls.contains j = true → hds0.contains j = false) : ∀ (hds : List Nat) (listed : Array Bool) (a : Act) (w : World), Closed md ops listed → (∀ i ∈ hds, hds0.contains i = true) →
  headOk md ops hds listed tls = true → wpHead P ops T hds a w →
  wpH P md ops (fun j => hds0.contains j) (fun l a w => (l = listAll hds listed ∧ ∀ j ∈ Region.ready md ops l, hds0.contains j = false) ∧ T a w) hds.length listed a w
 | [], listed, a, w, _, _, hB, h => by
  simp only [headOk, List.all_eq_true] at hB
  exact ⟨⟨rfl, fun j hj => hdis j (hB j hj)⟩, h⟩
 | i :: rest, listed, a, w, hcl, hsub, hB, h => by
  simp only [headOk, Bool.and_eq_true] at hB
  obtain ⟨hB1, hB2⟩ := hB
  have hrec : i ∈ Region.ready md ops listed → ∀ a' w', wpHead P ops T rest a' w' → wpH P md ops (fun j => hds0.contains j) (fun l a w => (l = listAll (i :: rest) listed ∧ ∀ j ∈ Region.ready md ops l, hds0.contains j = false) ∧ T a w) rest.length (listed.setIfInBounds i true) a' w' := fun hir a' w' h' =>
   wpH_of_head hsel hcov ht hdis rest _ a' w' (closed_set hcl hir) (fun j hj => hsub j (List.mem_cons_of_mem _ hj)) hB2 h'
  cases ho : ops[i]? with
  | none => simp [ho] at hB1
  | some o =>
   simp only [ho] at hB1
   by_cases he : isEff o.op = true
   ·simp only [he, if_true, beq_iff_eq] at hB1
    refine ⟨by rw [hB1]; simp, fun j hj => ?_⟩
    rw [hB1] at hj
    have hji : j = i := by simpa using hj
    subst hji
    exact ⟨hsub j (List.mem_cons_self ..), opH_mono (fun a' w' _ h' => hrec (by rw [hB1]; simp) a' w' h') h⟩
   ·simp only [he, Bool.false_eq_true, if_false, Bool.and_eq_true] at hB1
    have h' := h
    simp only [wpHead] at h'
    unfold opH at h'
    simp only [ho, he] at h'
    obtain ⟨v, hy, hk⟩ := h'
    exact wpH_first ho (Region.noSelect_spec hsel) hcov ht (hsub i (List.mem_cons_self ..)) (fun l a w hL => hL.1.2) rest.length listed a w hcl (Region.free_spec ho hB1.2) (by simpa using hB1.1) hy (by simpa using he) (hrec (by simpa using hB1.1) _ _ hk)
def wpTail (P : Program) (ops : Array Oper) (Q : Exit → Act → World → Prop) : List Nat → Act → World → Prop
 | [], a, w => Q .normal a w
 | i :: rest, a, w => wpOp P ops Q i (wpTail P ops Q rest) a w
theorem wpAny_of_tail {Q : Exit → Act → World → Prop} : ∀ (tls : List Nat) (listed : Array Bool) (a : Act) (w : World), seqOk md ops tls listed = true →
  wpTail P ops Q tls a w → wpAny P md ops Q tls.length listed a w
 | [], listed, a, w, hB, h => ⟨by simpa [seqOk] using hB, h⟩
 | i :: rest, listed, a, w, hB, h => by
  simp only [seqOk, Bool.and_eq_true, beq_iff_eq] at hB
  refine ⟨fun h1 => (by rw [hB.1] at h1; cases h1), fun j hj => ?_⟩
  rw [hB.1] at hj
  have hji : j = i := by simpa using hj
  subst hji
  exact wpOp_mono (fun a' w' h' => wpAny_of_tail rest _ a' w' hB.2 h') h
theorem wpAny_phase {Q : Exit → Act → World → Prop} {a : Act} {w : World} (hds tls : List Nat) (hB : regionOk ops hds tls = true)
  (h : wpHead P ops (wpTail P ops Q tls) hds a w) : wpAny P .any ops Q ops.size (Array.replicate ops.size false) a w := by
 simp only [regionOk, Bool.and_eq_true, beq_iff_eq, List.all_eq_true, Bool.or_eq_true, Bool.not_eq_true', List.mem_range] at hB
 obtain ⟨⟨⟨⟨⟨⟨hsel, hcov⟩, ht⟩, hdis⟩, hh⟩, hs⟩, hlen⟩ := hB
 have H := wpH_of_head (md := .any) (hds0 := hds) (tls := tls) hsel (fun j hj => by
  rcases hcov j hj with h | h
  ·exact .inl h
  ·exact .inr (by simpa using h)) ht (fun j hj => by
  cases hc : hds.contains j with
  | false => rfl
  | true => have := hdis j (by simpa using hc); rw [this] at hj; cases hj) hds (Array.replicate ops.size false) a _ (closed_start _) (fun i hi => by simpa using hi) hh h
 have := wpAny_of_wpH (Q' := Q) (g := tls.length) (fun l a' w' hL => wpAny_of_tail tls l a' w' (by rw [hL.1.1]; exact hs) hL.2) _ _ _ _ H
 rwa [hlen] at this
end
def WR (rd : Option Nat) : Fence := { Fence.wide with round := rd }
def noDefer (ops : List Oper) : Bool := ops.all fun o => match o.op with | .defer _ => false | _ => true
theorem noDefer_spec {ops : List Oper} (h : noDefer ops = true) {i : Nat} {o : Oper} (ho : ops[i]? = some o) : ∀ c, o.op ≠ .defer c := fun c hc => by
 have h1 := List.all_eq_true.1 h o (List.mem_of_getElem? ho)
 rw [hc] at h1
 cases h1
section
variable {P : Program} {ops : Array Oper} {md : Region.Mode} {rd : Option Nat} {n : Nat}
theorem callsIn_WR {f : FuncId} {args : Array Value} {w : World} {R : Ending → World → Prop} : CallsIn (WR rd) n P f args w R ↔ Calls P f args w R := callsIn_wide
theorem rowsIn_WR {row : String} {args : Array Value} {w : World} {R : Value → World → Prop} (h : Rows P row args w R) : RowsIn (WR rd) n P row args w R := by
 intro c cs hr
 obtain ⟨v, w', r, s⟩ := h c cs
 exact ⟨v, w', r, (StepsIn.of_steps s).mono fun m _ => fenced_wide P m⟩
theorem oper_in {o : Oper} {a : Act} {w : World} {K : Act → World → Prop} {Q : Exit → Act → World → Prop} (hd : ∀ c, o.op ≠ .defer c) (h : o.wp P a w K Q) : o.wpIn (WR rd) n P a w K Q := by
 refine ⟨fun f _ => trivial, ?_⟩
 rw [Oper.semAt_eq _ _ _ hd]
 unfold Oper.wp at h
 generalize (execOp a.eval o).run P w = r at *
 cases r with
 | ok n w' =>
  cases n <;> simp only [Oper.upon, Oper.uponIn] at h ⊢ <;>
   first
    | exact h
    | exact h.elim
    | exact ⟨fun h => by simp [WR, Fence.wide] at h, callsIn_WR.2 h⟩
    | exact ⟨fun h => by simp [WR, Fence.wide] at h, rowsIn_WR h⟩
 | halt x w' => cases x <;> simp only [Oper.upon, Oper.uponIn] at h ⊢ <;> exact h
theorem oper_mono_in {i : Nat} {K K' : Act → World → Prop} {Q : Exit → Act → World → Prop} {a : Act} {w : World} (hQ : ¬ LetsOut Q) (hd : ∀ o, ops[i]? = some o → ∀ c, o.op ≠ .defer c) (hk : ∀ a w, K a w → K' a w)
  (h : wpOp P ops Q i K a w) : wpOpIn (WR rd) n P ops Q i K' a w := by
 refine wpOpIn_mono hk ?_
 unfold wpOp at h
 unfold wpOpIn
 cases ho : ops[i]? with
 | none => simpa only [ho] using h
 | some o =>
  simp only [ho] at h ⊢
  by_cases hw : Region.wanted o (yielded ops a.tmps) = true
  ·simp only [hw, if_true] at h ⊢
   exact oper_in (hd o ho) (h.resolve_right (fun h' => hQ h'.2))
  ·simp only [hw, if_false, Bool.false_eq_true] at h ⊢
   exact ⟨fun f _ => trivial, h⟩
theorem wpAny_in {Q : Exit → Act → World → Prop} (hQ : ¬ LetsOut Q) (hd : ∀ (i : Nat) o, ops[i]? = some o → ∀ c, o.op ≠ .defer c) : ∀ (fuel : Nat) (listed : Array Bool) (a : Act) (w : World),
  wpAny P md ops Q fuel listed a w → wpAnyIn (WR rd) n P md ops Q fuel listed a w
 | 0, _, _, _, h => h
 | fuel + 1, listed, a, w, h => ⟨h.1, fun i hi => oper_mono_in hQ (hd i) (fun a w h' => wpAny_in hQ hd fuel _ a w h') (h.2 i hi)⟩
theorem wpOps_in {Q : Exit → Act → World → Prop} (hQ : ¬ LetsOut Q) (hd : ∀ (i : Nat) o, ops[i]? = some o → ∀ c, o.op ≠ .defer c) : ∀ (l : List Nat) (a : Act) (w : World),
  wpOps P ops Q l a w → wpOpsIn (WR rd) n P ops Q l a w
 | [], _, _, h => h
 | i :: rest, a, w, h => by
  rw [wpOps_cons] at h
  rw [wpOpsIn_cons]
  exact oper_mono_in hQ (hd i) (fun a w h' => wpOps_in hQ hd rest a w h') h
def nrm (Q : Exit → Act → World → Prop) : Exit → Act → World → Prop := fun e a w => e = .normal ∧ Q e a w
theorem nrm_out (Q : Exit → Act → World → Prop) : ¬ LetsOut (nrm Q) := fun h => by
 obtain ⟨a, w, h⟩ := h
 exact absurd h.1 (by simp)
theorem wpIn_any_nrm {id : Nat} {Q : Exit → Act → World → Prop} {a : Act} {w : World} (hm : P.follows .mixedOrders = true) (hd : noDefer ops.toList = true)
  (h : wpAny P .any ops (nrm Q) ops.size (Array.replicate ops.size false) a { w with drawn := w.drawn + 1 }) : (Code.region id ops true).wpIn (WR rd) n P Q a w :=
 wpIn_mono (wpIn_region_any hm (wpAny_in (nrm_out Q) (fun i o ho => noDefer_spec hd (by simpa using ho)) _ _ _ _ h)) (fun _ _ _ h => h.2)
theorem wpIn_region_phase {id : Nat} {Q : Exit → Act → World → Prop} {a : Act} {w : World} (hds tls : List Nat) (hm : P.follows .mixedOrders = true) (hB : regionOk ops hds tls = true) (hd : noDefer ops.toList = true)
  (h : wpHead P ops (wpTail P ops (nrm Q) tls) hds a { w with drawn := w.drawn + 1 }) : (Code.region id ops true).wpIn (WR rd) n P Q a w :=
 wpIn_any_nrm hm hd (wpAny_phase hds tls hB h)
theorem wpIn_region_seq {id : Nat} {Q : Exit → Act → World → Prop} {a : Act} {w : World} (hd : noDefer ops.toList = true) (h : wpOps P ops (nrm Q) (List.range ops.size) a w) : (Code.region id ops false).wpIn (WR rd) n P Q a w :=
 wpIn_mono (wpIn_region (wpOps_in (nrm_out Q) (fun i o ho => noDefer_spec hd (by simpa using ho)) _ _ _ h)) (fun _ _ _ h => h.2)
end
end Go.Proofs.YtdkahdehodopoaaGreat

namespace Go.Proofs.YtdkahdehodopoaaGreat
open Go.RowKit
abbrev Fr := List (Nat × Value)
def Fr.get : Fr → Nat → Option Value
 | [], _ => none
 | (k, v) :: r, t => match Nat.beq k t with | true => some v | false => Fr.get r t
structure NB where
 n : Nat
 ds : List Nat
def dfs (ds : List Nat) : List Deferred := ds.map fun D => { target := .collected D, args := #[] }
structure Holds (N : NB) (a : Act) (L : Fr) : Prop where
 size : a.tmps.size = N.n
 defers : a.defers = dfs N.ds
 get : ∀ t v, Fr.get L t = some v → a.tmps.getD t undef = v ∧ t < N.n
def putL : Option Nat → Value → Fr → Fr
 | some d, v, L => (d, v) :: L
 | none, _, L => L
def dstOk (N : Nat) : Option Nat → Bool
 | some d => Nat.ble (d + 1) N
 | none => true
theorem Holds.put {N : NB} {a : Act} {L : Fr} (h : Holds N a L) {d : Option Nat} (hd : dstOk N.n d = true) (v : Value) : Holds N (a.put d v) (putL d v L) := by
 cases d with
 | none => exact h
 | some d =>
  have hlt : d < N.n := by
   have := Nat.le_of_ble_eq_true hd
   omega
  refine ⟨by simp [Act.put, h.size], h.defers, fun t u hg => ?_⟩
  simp only [putL, Fr.get] at hg
  by_cases he : d = t
  ·subst he
   have : Nat.beq d d = true := by simp
   rw [this] at hg
   simp only [Option.some.injEq] at hg
   subst hg
   refine ⟨?_, hlt⟩
   simp [Act.put, h.size, hlt]
  ·have : Nat.beq d t = false := Bool.eq_false_iff.2 (fun h => he (Nat.eq_of_beq_eq_true h))
   rw [this] at hg
   obtain ⟨h1, h2⟩ := h.get t u hg
   refine ⟨?_, h2⟩
   rw [← h1]
   simp [Act.put, Array.getElem?_setIfInBounds_ne he]
def addL (d : Nat) (v : Value) (L : Fr) : Fr := (d, v) :: L
theorem Holds.add {N : NB} {a : Act} {L : Fr} (h : Holds N a L) {o : Option Nat} {d : Nat} (ho : o = some d) (hd : Nat.ble (d + 1) N.n = true) (v : Value) : Holds N (a.put o v) (addL d v L) := by
 subst ho
 exact h.put (d := some d) hd v
def FSub (L : Fr) : Fr → Prop
 | [] => True
 | p :: r => Fr.get L p.1 = some p.2 ∧ FSub L r
theorem FSub.get {L : Fr} : ∀ {M : Fr}, FSub L M → ∀ t v, Fr.get M t = some v → Fr.get L t = some v
 | [], _, t, v, h => by simp [Fr.get] at h
 | p :: r, hs, t, v, h => by
  simp only [Fr.get] at h
  by_cases he : p.1 = t
  ·have : Nat.beq p.1 t = true := by simpa using he
   rw [this] at h
   simp only [Option.some.injEq] at h
   rw [← he, ← h]; exact hs.1
  ·have : Nat.beq p.1 t = false := Bool.eq_false_iff.2 (fun h => he (Nat.eq_of_beq_eq_true h))
   rw [this] at h
   exact FSub.get hs.2 t v h
theorem Holds.sub {N : NB} {a : Act} {L M : Fr} (h : Holds N a L) (hs : FSub L M) : Holds N a M := ⟨h.size, h.defers, fun t v hg => h.get t v (hs.get t v hg)⟩
def ev (L : Fr) : Operand → Option Value
 | .tmp t => Fr.get L t
 | .const v => some v
 | .global g => some (.pointer (some ⟨g, 0, none⟩))
 | .func f => some (.func (.func f) #[] #[])
theorem Holds.eval {N : NB} {a : Act} {L : Fr} (h : Holds N a L) {x : Operand} {v : Value} (hx : ev L x = some v) : a.eval x = v := by
 cases x with
 | tmp t => exact (h.get t v hx).1
 | const u => exact Option.some.inj hx
 | global g => exact Option.some.inj hx
 | func f => exact Option.some.inj hx
def evs (L : Fr) : List Operand → Option (List Value)
 | [] => some []
 | x :: r => match ev L x, evs L r with
  | some v, some vs => some (v :: vs)
  | _, _ => none
theorem Holds.evals {N : NB} {a : Act} {L : Fr} (h : Holds N a L) : ∀ {xs : List Operand} {vs : List Value}, evs L xs = some vs → xs.map a.eval = vs
 | [], vs, hx => by simp [evs] at hx; subst hx; rfl
 | x :: r, vs, hx => by
  simp only [evs] at hx
  split at hx
  ·rename_i v us h1 h2
   simp only [Option.some.injEq] at hx
   subst hx
   simp [h.eval h1, h.evals h2]
  ·cases hx
def EvL (L : Fr) : List Operand → List Value → Prop
 | [], [] => True
 | x :: r, v :: vs => ev L x = some v ∧ EvL L r vs
 | _, _ => False
theorem Holds.evalL {N : NB} {a : Act} {L : Fr} (h : Holds N a L) : ∀ {xs : List Operand} {vs : List Value}, EvL L xs vs → xs.map a.eval = vs
 | [], [], _ => rfl
 | x :: r, v :: vs, hx => by simp [h.eval hx.1, h.evalL hx.2]
 | [], _ :: _, hx => hx.elim
 | _ :: _, [], hx => hx.elim
structure Chunk where
 foot : Nat → Prop
 excl : Prop
 sat : World → Prop
 loc : ∀ w w' : World, (∀ b, foot b → w'.heap[b]? = w.heap[b]?) → sat w → sat w'
 cel : ∀ w b, sat w → foot b → ∃ o : Obj, w.heap[b]? = some o ∧ o.isCells = true
theorem Chunk.lt (c : Chunk) (w : World) (b : Nat) (h : c.sat w) (hf : c.foot b) : b < w.heap.size := by
 obtain ⟨o, ho, _⟩ := c.cel w b h hf
 exact (Array.getElem?_eq_some_iff.1 ho).1
def Chunk.sep (c d : Chunk) : Prop := (c.excl ∨ d.excl) → ∀ b, c.foot b → ¬ d.foot b
theorem Chunk.sep_symm {c d : Chunk} (h : c.sep d) : d.sep c := fun he b hd hc => h (he.symm) b hc hd
structure Upd (M : Nat → Prop) (w w' : World) : Prop where
 os : w'.os = w.os
 tape : w'.tape = w.tape
 output : w'.output = w.output
 size : w.heap.size ≤ w'.heap.size
 block : ∀ k, k < w.heap.size → ¬ M k → w'.heap[k]? = w.heap[k]?
theorem Upd.of_ext {M : Nat → Prop} {w w' : World} (h : Ext w w') : Upd M w w' := ⟨h.os, h.tape, h.output, h.size, fun k hk _ => h.block k hk⟩
theorem Upd.ext {w w' : World} (h : Upd (fun _ => False) w w') : Ext w w' := ⟨h.os, h.tape, h.output, h.size, fun k hk => h.block k hk id⟩
theorem Upd.trans {M M' : Nat → Prop} {a b c : World} (h : Upd M a b) (k : Upd M' b c) (hM : ∀ x, x < a.heap.size → M' x → M x) : Upd M a c :=
 ⟨k.os.trans h.os, k.tape.trans h.tape, k.output.trans h.output, Nat.le_trans h.size k.size, fun x hx hm => (k.block x (Nat.lt_of_lt_of_le hx h.size) (fun h' => hm (hM x hx h'))).trans (h.block x hx hm)⟩
structure Mem (M : Nat → Prop) (w0 w : World) (F : List Chunk) : Prop where
 upd : Upd M w0 w
 sat : ∀ c ∈ F, c.sat w
 sep : F.Pairwise Chunk.sep
 own : ∀ c ∈ F, c.excl → ∀ b, c.foot b → w0.heap.size ≤ b ∨ M b
section
variable {M : Nat → Prop} {w0 w w' : World} {F G : List Chunk} {c : Chunk}
theorem Chunk.ext (hs : c.sat w) (h : Ext w w') : c.sat w' := c.loc w w' (fun b hb => h.block b (c.lt w b hs hb)) hs
theorem Mem.ext (h : Mem M w0 w F) (hx : Ext w w') : Mem M w0 w' F :=
 ⟨h.upd.trans (Upd.of_ext hx (M := M)) (fun _ _ h => h), fun c hc => Chunk.ext (h.sat c hc) hx, h.sep, h.own⟩
theorem Mem.perm (h : Mem M w0 w F) (hp : F.Perm G) : Mem M w0 w G :=
 ⟨h.upd, fun c hc => h.sat c (hp.mem_iff.2 hc), h.sep.perm hp (fun h => Chunk.sep_symm h), fun c hc => h.own c (hp.mem_iff.2 hc)⟩
theorem Mem.tail (h : Mem M w0 w (c :: F)) : Mem M w0 w F :=
 ⟨h.upd, fun d hd => h.sat d (List.mem_cons_of_mem _ hd), (List.pairwise_cons.1 h.sep).2, fun d hd => h.own d (List.mem_cons_of_mem _ hd)⟩
theorem Mem.add (h : Mem M w0 w F) (hx : Ext w w') (hG : ∀ c ∈ G, c.sat w' ∧ ∀ b, c.foot b → w.heap.size ≤ b) (hs : G.Pairwise Chunk.sep) : Mem M w0 w' (G ++ F) := by
 have h' := h.ext hx
 refine ⟨h'.upd, fun c hc => ?_, ?_, fun c hc he b hb => ?_⟩
 ·rcases List.mem_append.1 hc with hc | hc
  ·exact (hG c hc).1
  ·exact h'.sat c hc
 ·refine List.pairwise_append.2 ⟨hs, h'.sep, fun c hc d hd _ b hb hb' => ?_⟩
  have h1 := (hG c hc).2 b hb
  have h2 := d.lt w b (h.sat d hd) hb'
  omega
 ·rcases List.mem_append.1 hc with hc | hc
  ·exact .inl (Nat.le_trans h.upd.size ((hG c hc).2 b hb))
  ·exact h'.own c hc he b hb
theorem Mem.change {d : Chunk} (h : Mem M w0 w (c :: F)) (he : c.excl) (hu : Upd c.foot w w') (hd : d.sat w') (hfoot : ∀ b, d.foot b → c.foot b ∨ w.heap.size ≤ b) : Mem M w0 w' (d :: F) := by
 obtain ⟨hsep, hsepF⟩ := List.pairwise_cons.1 h.sep
 refine ⟨h.upd.trans hu (fun x hx hc => ?_), fun e hm => ?_, List.pairwise_cons.2 ⟨fun e hm hex b hb hb' => ?_, hsepF⟩, fun e hm hex b hb => ?_⟩
 ·rcases h.own c (List.mem_cons_self ..) he x hc with h1 | h1
  ·omega
  ·exact h1
 ·rcases List.mem_cons.1 hm with rfl | hm
  ·exact hd
  ·have hs := h.sat e (List.mem_cons_of_mem _ hm)
   exact e.loc w w' (fun b hb => hu.block b (e.lt w b hs hb) (fun hc => hsep e hm (.inl he) b hc hb)) hs
 ·rcases hfoot b hb with h1 | h1
  ·exact hsep e hm (.inl he) b h1 hb'
  ·have := e.lt w b (h.sat e (List.mem_cons_of_mem _ hm)) hb'
   omega
 ·rcases List.mem_cons.1 hm with rfl | hm
  ·rcases hfoot b hb with h1 | h1
   ·exact h.own c (List.mem_cons_self ..) he b h1
   ·exact .inl (Nat.le_trans h.upd.size h1)
  ·exact h.own e (List.mem_cons_of_mem _ hm) hex b hb
theorem Mem.nil (w : World) : Mem M w w [] := ⟨⟨rfl, rfl, rfl, Nat.le_refl _, fun _ _ _ => rfl⟩, fun _ h => by simp at h, List.Pairwise.nil, fun _ h => by simp at h⟩
def CSub (F G : List Chunk) : Prop := ∀ (M : Nat → Prop) (w0 w : World) (Z : List Chunk), Mem M w0 w (F ++ Z) → Mem M w0 w (G ++ Z)
theorem CSub.mem {F G : List Chunk} (h : CSub F G) (hm : Mem M w0 w F) : Mem M w0 w G := by
 have := h M w0 w [] (by simpa using hm)
 simpa using this
theorem CSub.refl (F : List Chunk) : CSub F F := fun _ _ _ _ h => h
theorem CSub.trans {F G H : List Chunk} (h : CSub F G) (k : CSub G H) : CSub F H := fun M w0 w Z hm => k M w0 w Z (h M w0 w Z hm)
theorem CSub.perm {F G : List Chunk} (h : F.Perm G) : CSub F G := fun _ _ _ Z hm => hm.perm (h.append_right Z)
theorem CSub.cons {F G : List Chunk} (c : Chunk) (h : CSub F G) : CSub (c :: F) (c :: G) := fun M w0 w Z hm =>
 (h M w0 w (c :: Z) (hm.perm (List.perm_middle.symm))).perm List.perm_middle
theorem CSub.drop (c : Chunk) (F : List Chunk) : CSub (c :: F) F := fun _ _ _ _ hm => Mem.tail hm
theorem CSub.nil (F : List Chunk) : CSub F [] := fun M w0 w Z hm => by
 induction F with
 | nil => exact hm
 | cons c F ih => exact ih hm.tail
structure Weak (c d : Chunk) : Prop where
 sat : ∀ w, c.sat w → d.sat w
 foot : ∀ b, d.foot b → c.foot b
 excl : d.excl → c.excl
theorem CSub.weak {c d : Chunk} (h : Weak c d) (F : List Chunk) : CSub (c :: F) (d :: F) := fun M w0 w Z hm => by
 obtain ⟨hsep, hsepF⟩ := List.pairwise_cons.1 hm.sep
 refine ⟨hm.upd, fun e he => ?_, List.pairwise_cons.2 ⟨fun e he hex b hb => hsep e he (hex.elim (fun h' => .inl (h.excl h')) .inr) b (h.foot b hb), hsepF⟩, fun e he hex b hb => ?_⟩
 ·rcases List.mem_cons.1 he with rfl | he
  ·exact h.sat w (hm.sat c (List.mem_cons_self ..))
  ·exact hm.sat e (List.mem_cons_of_mem _ he)
 ·rcases List.mem_cons.1 he with rfl | he
  ·exact hm.own c (List.mem_cons_self ..) (h.excl hex) b (h.foot b hb)
  ·exact hm.own e (List.mem_cons_of_mem _ he) hex b hb
theorem CSub.dup {c d : Chunk} (h : Weak c d) (hc : ¬ c.excl) (F : List Chunk) : CSub (c :: F) (d :: c :: F) := fun M w0 w Z hm => by
 have h1 := CSub.weak h F M w0 w Z hm
 refine ⟨hm.upd, fun e he => ?_, List.pairwise_cons.2 ⟨fun e he => ?_, hm.sep⟩, fun e he => ?_⟩
 ·rcases List.mem_cons.1 he with rfl | he
  ·exact h1.sat _ (List.mem_cons_self ..)
  ·exact hm.sat e he
 ·rcases List.mem_cons.1 he with rfl | he
  ·exact fun hex => (hex.elim (fun h' => hc (h.excl h')) hc).elim
  ·exact (List.pairwise_cons.1 h1.sep).1 e he
 ·rcases List.mem_cons.1 he with rfl | he
  ·exact h1.own _ (List.mem_cons_self ..)
  ·exact hm.own e he
end
structure NR where
 n : Nat
 rd : Option Nat
structure Bs (M : Nat → Prop) (w0 : World) (M1 : Nat → Prop) (w1 : World) (ds : List Nat) : Prop where
 upd : Upd M w0 w1
 old : ∀ b, M1 b → M b ∨ w0.heap.size ≤ b
 nd : ds.Nodup
 mark : ∀ D ∈ ds, w0.heap.size ≤ D ∧ D < w1.heap.size ∧ ¬ M1 D ∧ w1.heap[D]? = some (.deferred (some []))
theorem Bs.refl (M : Nat → Prop) (w : World) : Bs M w M w [] := ⟨⟨rfl, rfl, rfl, Nat.le_refl _, fun _ _ _ => rfl⟩, fun _ h => .inl h, List.nodup_nil, fun _ h => by simp at h⟩
theorem Bs.total {M M1 : Nat → Prop} {w0 w1 w : World} {ds : List Nat} {F : List Chunk} (h : Bs M w0 M1 w1 ds) (hm : Mem M1 w1 w F) : Mem M w0 w F :=
 ⟨h.upd.trans hm.upd (fun x hx hM => (h.old x hM).resolve_right (by omega)), hm.sat, hm.sep, fun c hc he b hb => by
  rcases hm.own c hc he b hb with h1 | h1
  ·exact .inl (Nat.le_trans h.upd.size h1)
  ·exact (h.old b h1).symm⟩
theorem Bs.marks {M M1 : Nat → Prop} {w0 w1 w : World} {ds : List Nat} {F : List Chunk} (h : Bs M w0 M1 w1 ds) (hm : Mem M1 w1 w F) :
  ∀ D ∈ ds, w0.heap.size ≤ D ∧ D < w.heap.size ∧ w.heap[D]? = some (.deferred (some [])) := fun D hD => by
 obtain ⟨h1, h2, h3, h4⟩ := h.mark D hD
 exact ⟨h1, Nat.lt_of_lt_of_le h2 hm.upd.size, (hm.upd.block D h2 h3).trans h4⟩
def Fin' (N : NR) (M : Nat → Prop) (w0 : World) (Q : Exit → Fr → List Chunk → Prop) (e : Exit) (a : Act) (w : World) : Prop :=
 ∃ ds M1 w1, Bs M w0 M1 w1 ds ∧ ∃ L F, Holds ⟨N.n, ds⟩ a L ∧ Mem M1 w1 w F ∧ Q e L F
section
variable (P : Program) (N : NR) (M : Nat → Prop) (w0 : World)
def Tr (c : Code) (L : Fr) (F : List Chunk) (Q : Exit → Fr → List Chunk → Prop) : Prop :=
 ∀ ds M1 w1, Bs M w0 M1 w1 ds → ∀ a w, Holds ⟨N.n, ds⟩ a L → Mem M1 w1 w F → c.wpIn (WR N.rd) 2 P (Fin' N M w0 Q) a w
def thenQ (next : Fr → List Chunk → Prop) (Q : Exit → Fr → List Chunk → Prop) : Exit → Fr → List Chunk → Prop
 | .normal => next
 | e => Q e
def blockQ (id : Nat) (Q : Exit → Fr → List Chunk → Prop) : Exit → Fr → List Chunk → Prop
 | .exit id' => match Nat.beq id' id with | true => Q .normal | false => Q (.exit id')
 | e => Q e
end
section
variable {P : Program} {N : NR} {M : Nat → Prop} {w0 : World} {L : Fr} {F : List Chunk} {Q : Exit → Fr → List Chunk → Prop} {c d : Code}
theorem Fin'.mono {Q' : Exit → Fr → List Chunk → Prop} {e : Exit} {a : Act} {w : World} (h : Fin' N M w0 Q e a w) (hq : ∀ e L F, Q e L F → Q' e L F) : Fin' N M w0 Q' e a w := by
 obtain ⟨ds, M1, w1, hb, L, F, h1, h2, h3⟩ := h
 exact ⟨ds, M1, w1, hb, L, F, h1, h2, hq _ _ _ h3⟩
theorem Tr.mono {Q' : Exit → Fr → List Chunk → Prop} (h : Tr P N M w0 c L F Q) (hq : ∀ e L F, Q e L F → Q' e L F) : Tr P N M w0 c L F Q' :=
 fun ds M1 w1 hb a w hl hm => wpIn_mono (h ds M1 w1 hb a w hl hm) fun _ _ _ h => h.mono hq
theorem tr_keep (L' : Fr) (F' : List Chunk) (hL : FSub L L') (hF : CSub F F') (h : Tr P N M w0 c L' F' Q) : Tr P N M w0 c L F Q :=
 fun ds M1 w1 hb a w hl hm => h ds M1 w1 hb a w (hl.sub hL) (hF.mem hm)
theorem tr_chunks (F' : List Chunk) (hF : CSub F F') (h : Tr P N M w0 c L F' Q) : Tr P N M w0 c L F Q := fun ds M1 w1 hb a w hl hm => h ds M1 w1 hb a w hl (hF.mem hm)
theorem tK (h : Q .normal L F) : Tr P N M w0 .skip L F Q := fun ds M1 w1 hb _ _ hl hm => wpIn_skip ⟨ds, M1, w1, hb, L, F, hl, hm, h⟩
theorem tE {id : Nat} (h : Q (.exit id) L F) : Tr P N M w0 (.exit id) L F Q := fun ds M1 w1 hb _ _ hl hm => wpIn_exit ⟨ds, M1, w1, hb, L, F, hl, hm, h⟩
theorem tr_ret (h : Q .ret L F) : Tr P N M w0 .ret L F Q := fun ds M1 w1 hb _ _ hl hm => wpIn_ret ⟨ds, M1, w1, hb, L, F, hl, hm, h⟩
theorem tS (h : Tr P N M w0 c L F (thenQ (fun L' F' => Tr P N M w0 d L' F' Q) Q)) : Tr P N M w0 (.seq c d) L F Q := fun ds M1 w1 hb a w hl hm => by
 refine wpIn_seq (wpIn_mono (h ds M1 w1 hb a w hl hm) fun e a' w' hq => ?_)
 obtain ⟨ds', M2, w2, hb', L', F', h1, h2, h3⟩ := hq
 cases e with
 | normal => exact h3 ds' M2 w2 hb' a' w' h1 h2
 | _ => exact ⟨ds', M2, w2, hb', L', F', h1, h2, h3⟩
theorem tC {x : Operand} {b : Bool} (hx : ev L x = some (.bool b)) (ht : b = true → Tr P N M w0 c L F Q) (hf : b = false → Tr P N M w0 d L F Q) : Tr P N M w0 (.cond x c d) L F Q := fun ds M1 w1 hb a w hl hm => by
 refine wpIn_cond_split (hl.eval hx) (fun h => ht h ds M1 w1 hb a w hl hm) (fun h => hf h ds M1 w1 hb a w hl hm)
theorem tB {id : Nat} (h : Tr P N M w0 c L F (blockQ id Q)) : Tr P N M w0 (.block id c) L F Q := fun ds M1 w1 hb a w hl hm => by
 refine wpIn_block (wpIn_mono (h ds M1 w1 hb a w hl hm) fun e a' w' hq => ?_)
 obtain ⟨ds', M2, w2, hb', L', F', h1, h2, h3⟩ := hq
 cases e with
 | exit id' =>
  simp only [Exit.inBlock]
  simp only [blockQ] at h3
  by_cases he : id' = id
  ·subst he
   have : Nat.beq id' id' = true := by simp
   rw [this] at h3
   simp only [if_true]
   exact ⟨ds', M2, w2, hb', L', F', h1, h2, h3⟩
  ·have : Nat.beq id' id = false := Bool.eq_false_iff.2 (fun h => he (Nat.eq_of_beq_eq_true h))
   rw [this] at h3
   simp only [he, if_false]
   exact ⟨ds', M2, w2, hb', L', F', h1, h2, h3⟩
 | _ => exact ⟨ds', M2, w2, hb', L', F', h1, h2, h3⟩
theorem tr_loop {S : Type} (Lf : S → Fr) (Ff : S → List Chunk) (I : S → Prop) (m : S → Nat) (s0 : S) (hL : FSub L (Lf s0)) (hF : CSub F (Ff s0)) (hI : I s0)
  (round : ∀ s, I s → Tr P N M w0 c (Lf s) (Ff s) (thenQ (fun L' F' => ∃ s', FSub L' (Lf s') ∧ CSub F' (Ff s') ∧ I s' ∧ m s' < m s) Q)) : Tr P N M w0 (.loop c) L F Q := by
 intro ds M1 w1 hb a w hl hm b k cs hro hbf hroom
 have key : ∀ n s, m s = n → I s → ∀ ds M1 w1, Bs M w0 M1 w1 ds → ∀ a w, Holds ⟨N.n, ds⟩ a (Lf s) → Mem M1 w1 w (Ff s) →
   ∃ e a' w', Fin' N M w0 Q e a' w' ∧ ArrivesIn (Machine.fenced P (WR N.rd)) P (lone (b.atR a (.code c :: .inLoop c :: k)) cs w) b k cs e a' w' := by
  intro n
  induction n using Nat.strongRecOn with
  | _ n ih =>
   intro s hn hs ds M1 w1 hb a w hl hm
   obtain ⟨e, a1, v1, ⟨ds', M2, w2, hb', L', F', h1, h2, h3⟩, harr⟩ := round s hs ds M1 w1 hb a w hl hm b (.inLoop c :: k) cs hro hbf hroom
   cases e with
   | normal =>
    obtain ⟨s', hL', hF', hI', hlt⟩ := h3
    obtain ⟨e2, a2, v2, hq2, harr2⟩ := ih (m s') (hn ▸ hlt) s' rfl hI' ds' M2 w2 hb' a1 v1 (h1.sub hL') (hF'.mem h2)
    exact ⟨e2, a2, v2, hq2, .of_steps (StepsIn.trans harr (.one (fenced_calm hbf hroom rfl) stepR_inLoop)) harr2⟩
   | exit id => exact ⟨_, a1, v1, ⟨ds', M2, w2, hb', L', F', h1, h2, h3⟩, .pass (x := .inLoop c) rfl (fun _ _ => .inl (by simp)) harr⟩
   | goto l => exact ⟨_, a1, v1, ⟨ds', M2, w2, hb', L', F', h1, h2, h3⟩, .pass (x := .inLoop c) rfl (fun _ _ => .inl (by simp)) harr⟩
   | ret => exact ⟨_, a1, v1, ⟨ds', M2, w2, hb', L', F', h1, h2, h3⟩, .pass (x := .inLoop c) rfl (fun _ _ => .inl (by simp)) harr⟩
   | panic ch => exact ⟨_, a1, v1, ⟨ds', M2, w2, hb', L', F', h1, h2, h3⟩, .pass (x := .inLoop c) rfl (fun _ _ => .inl (by simp)) harr⟩
   | outgrown => exact ⟨_, a1, v1, ⟨ds', M2, w2, hb', L', F', h1, h2, h3⟩, .pass (x := .inLoop c) rfl (fun _ _ => .inl (by simp)) harr⟩
 obtain ⟨e, a', w', hq, harr⟩ := key _ s0 rfl hI ds M1 w1 hb a w (hl.sub hL) (hF.mem hm)
 exact ⟨e, a', w', hq, .of_steps (.one (fenced_calm hbf hroom rfl) stepR_loop) harr⟩
theorem tr_loop1 {S1 : Type} (Lf : S1 → Fr) (Ff : S1 → List Chunk) (I : S1 → Prop) (m : S1 → Nat) (s10 : S1) (hL : FSub L (Lf s10)) (hF : CSub F (Ff s10)) (hI : I s10)
  (round : ∀ (s1 : S1), I s1 → Tr P N M w0 c (Lf s1) (Ff s1) (thenQ (fun L' F' => ∃ (s1' : S1), FSub L' (Lf s1') ∧ CSub F' (Ff s1') ∧ I s1' ∧ m s1' < m s1) Q)) : Tr P N M w0 (.loop c) L F Q :=
 tr_loop (S := S1) (fun q => Lf q) (fun q => Ff q) (fun q => I q) (fun q => m q) ((s10)) hL hF hI (fun q hq => (round q hq).mono (fun e L' F' h => by
  cases e with
  | normal => obtain ⟨s1', h⟩ := h; exact ⟨(s1'), h⟩
  | _ => exact h))
theorem tr_loop2 {S1 S2 : Type} (Lf : S1 → S2 → Fr) (Ff : S1 → S2 → List Chunk) (I : S1 → S2 → Prop) (m : S1 → S2 → Nat) (s10 : S1) (s20 : S2) (hL : FSub L (Lf s10 s20)) (hF : CSub F (Ff s10 s20)) (hI : I s10 s20)
  (round : ∀ (s1 : S1) (s2 : S2), I s1 s2 → Tr P N M w0 c (Lf s1 s2) (Ff s1 s2) (thenQ (fun L' F' => ∃ (s1' : S1) (s2' : S2), FSub L' (Lf s1' s2') ∧ CSub F' (Ff s1' s2') ∧ I s1' s2' ∧ m s1' s2' < m s1 s2) Q)) : Tr P N M w0 (.loop c) L F Q :=
 tr_loop (S := S1 × S2) (fun q => Lf q.1 q.2) (fun q => Ff q.1 q.2) (fun q => I q.1 q.2) (fun q => m q.1 q.2) ((s10, s20)) hL hF hI (fun q hq => (round q.1 q.2 hq).mono (fun e L' F' h => by
  cases e with
  | normal => obtain ⟨s1', s2', h⟩ := h; exact ⟨(s1', s2'), h⟩
  | _ => exact h))
theorem tr_loop3 {S1 S2 S3 : Type} (Lf : S1 → S2 → S3 → Fr) (Ff : S1 → S2 → S3 → List Chunk) (I : S1 → S2 → S3 → Prop) (m : S1 → S2 → S3 → Nat) (s10 : S1) (s20 : S2) (s30 : S3) (hL : FSub L (Lf s10 s20 s30)) (hF : CSub F (Ff s10 s20 s30)) (hI : I s10 s20 s30)
  (round : ∀ (s1 : S1) (s2 : S2) (s3 : S3), I s1 s2 s3 → Tr P N M w0 c (Lf s1 s2 s3) (Ff s1 s2 s3) (thenQ (fun L' F' => ∃ (s1' : S1) (s2' : S2) (s3' : S3), FSub L' (Lf s1' s2' s3') ∧ CSub F' (Ff s1' s2' s3') ∧ I s1' s2' s3' ∧ m s1' s2' s3' < m s1 s2 s3) Q)) : Tr P N M w0 (.loop c) L F Q :=
 tr_loop (S := S1 × S2 × S3) (fun q => Lf q.1 q.2.1 q.2.2) (fun q => Ff q.1 q.2.1 q.2.2) (fun q => I q.1 q.2.1 q.2.2) (fun q => m q.1 q.2.1 q.2.2) ((s10, s20, s30)) hL hF hI (fun q hq => (round q.1 q.2.1 q.2.2 hq).mono (fun e L' F' h => by
  cases e with
  | normal => obtain ⟨s1', s2', s3', h⟩ := h; exact ⟨(s1', s2', s3'), h⟩
  | _ => exact h))
theorem tr_loop4 {S1 S2 S3 S4 : Type} (Lf : S1 → S2 → S3 → S4 → Fr) (Ff : S1 → S2 → S3 → S4 → List Chunk) (I : S1 → S2 → S3 → S4 → Prop) (m : S1 → S2 → S3 → S4 → Nat) (s10 : S1) (s20 : S2) (s30 : S3) (s40 : S4) (hL : FSub L (Lf s10 s20 s30 s40)) (hF : CSub F (Ff s10 s20 s30 s40)) (hI : I s10 s20 s30 s40)
  (round : ∀ (s1 : S1) (s2 : S2) (s3 : S3) (s4 : S4), I s1 s2 s3 s4 → Tr P N M w0 c (Lf s1 s2 s3 s4) (Ff s1 s2 s3 s4) (thenQ (fun L' F' => ∃ (s1' : S1) (s2' : S2) (s3' : S3) (s4' : S4), FSub L' (Lf s1' s2' s3' s4') ∧ CSub F' (Ff s1' s2' s3' s4') ∧ I s1' s2' s3' s4' ∧ m s1' s2' s3' s4' < m s1 s2 s3 s4) Q)) : Tr P N M w0 (.loop c) L F Q :=
 tr_loop (S := S1 × S2 × S3 × S4) (fun q => Lf q.1 q.2.1 q.2.2.1 q.2.2.2) (fun q => Ff q.1 q.2.1 q.2.2.1 q.2.2.2) (fun q => I q.1 q.2.1 q.2.2.1 q.2.2.2) (fun q => m q.1 q.2.1 q.2.2.1 q.2.2.2) ((s10, s20, s30, s40)) hL hF hI (fun q hq => (round q.1 q.2.1 q.2.2.1 q.2.2.2 hq).mono (fun e L' F' h => by
  cases e with
  | normal => obtain ⟨s1', s2', s3', s4', h⟩ := h; exact ⟨(s1', s2', s3', s4'), h⟩
  | _ => exact h))
theorem tr_loop5 {S1 S2 S3 S4 S5 : Type} (Lf : S1 → S2 → S3 → S4 → S5 → Fr) (Ff : S1 → S2 → S3 → S4 → S5 → List Chunk) (I : S1 → S2 → S3 → S4 → S5 → Prop) (m : S1 → S2 → S3 → S4 → S5 → Nat) (s10 : S1) (s20 : S2) (s30 : S3) (s40 : S4) (s50 : S5) (hL : FSub L (Lf s10 s20 s30 s40 s50)) (hF : CSub F (Ff s10 s20 s30 s40 s50)) (hI : I s10 s20 s30 s40 s50)
  (round : ∀ (s1 : S1) (s2 : S2) (s3 : S3) (s4 : S4) (s5 : S5), I s1 s2 s3 s4 s5 → Tr P N M w0 c (Lf s1 s2 s3 s4 s5) (Ff s1 s2 s3 s4 s5) (thenQ (fun L' F' => ∃ (s1' : S1) (s2' : S2) (s3' : S3) (s4' : S4) (s5' : S5), FSub L' (Lf s1' s2' s3' s4' s5') ∧ CSub F' (Ff s1' s2' s3' s4' s5') ∧ I s1' s2' s3' s4' s5' ∧ m s1' s2' s3' s4' s5' < m s1 s2 s3 s4 s5) Q)) : Tr P N M w0 (.loop c) L F Q :=
 tr_loop (S := S1 × S2 × S3 × S4 × S5) (fun q => Lf q.1 q.2.1 q.2.2.1 q.2.2.2.1 q.2.2.2.2) (fun q => Ff q.1 q.2.1 q.2.2.1 q.2.2.2.1 q.2.2.2.2) (fun q => I q.1 q.2.1 q.2.2.1 q.2.2.2.1 q.2.2.2.2) (fun q => m q.1 q.2.1 q.2.2.1 q.2.2.2.1 q.2.2.2.2) ((s10, s20, s30, s40, s50)) hL hF hI (fun q hq => (round q.1 q.2.1 q.2.2.1 q.2.2.2.1 q.2.2.2.2 hq).mono (fun e L' F' h => by
  cases e with
  | normal => obtain ⟨s1', s2', s3', s4', s5', h⟩ := h; exact ⟨(s1', s2', s3', s4', s5'), h⟩
  | _ => exact h))
theorem tr_loop6 {S1 S2 S3 S4 S5 S6 : Type} (Lf : S1 → S2 → S3 → S4 → S5 → S6 → Fr) (Ff : S1 → S2 → S3 → S4 → S5 → S6 → List Chunk) (I : S1 → S2 → S3 → S4 → S5 → S6 → Prop) (m : S1 → S2 → S3 → S4 → S5 → S6 → Nat) (s10 : S1) (s20 : S2) (s30 : S3) (s40 : S4) (s50 : S5) (s60 : S6) (hL : FSub L (Lf s10 s20 s30 s40 s50 s60)) (hF : CSub F (Ff s10 s20 s30 s40 s50 s60)) (hI : I s10 s20 s30 s40 s50 s60)
  (round : ∀ (s1 : S1) (s2 : S2) (s3 : S3) (s4 : S4) (s5 : S5) (s6 : S6), I s1 s2 s3 s4 s5 s6 → Tr P N M w0 c (Lf s1 s2 s3 s4 s5 s6) (Ff s1 s2 s3 s4 s5 s6) (thenQ (fun L' F' => ∃ (s1' : S1) (s2' : S2) (s3' : S3) (s4' : S4) (s5' : S5) (s6' : S6), FSub L' (Lf s1' s2' s3' s4' s5' s6') ∧ CSub F' (Ff s1' s2' s3' s4' s5' s6') ∧ I s1' s2' s3' s4' s5' s6' ∧ m s1' s2' s3' s4' s5' s6' < m s1 s2 s3 s4 s5 s6) Q)) : Tr P N M w0 (.loop c) L F Q :=
 tr_loop (S := S1 × S2 × S3 × S4 × S5 × S6) (fun q => Lf q.1 q.2.1 q.2.2.1 q.2.2.2.1 q.2.2.2.2.1 q.2.2.2.2.2) (fun q => Ff q.1 q.2.1 q.2.2.1 q.2.2.2.1 q.2.2.2.2.1 q.2.2.2.2.2) (fun q => I q.1 q.2.1 q.2.2.1 q.2.2.2.1 q.2.2.2.2.1 q.2.2.2.2.2) (fun q => m q.1 q.2.1 q.2.2.1 q.2.2.2.1 q.2.2.2.2.1 q.2.2.2.2.2) ((s10, s20, s30, s40, s50, s60)) hL hF hI (fun q hq => (round q.1 q.2.1 q.2.2.1 q.2.2.2.1 q.2.2.2.2.1 q.2.2.2.2.2 hq).mono (fun e L' F' h => by
  cases e with
  | normal => obtain ⟨s1', s2', s3', s4', s5', s6', h⟩ := h; exact ⟨(s1', s2', s3', s4', s5', s6'), h⟩
  | _ => exact h))
theorem tr_loop7 {S1 S2 S3 S4 S5 S6 S7 : Type} (Lf : S1 → S2 → S3 → S4 → S5 → S6 → S7 → Fr) (Ff : S1 → S2 → S3 → S4 → S5 → S6 → S7 → List Chunk) (I : S1 → S2 → S3 → S4 → S5 → S6 → S7 → Prop) (m : S1 → S2 → S3 → S4 → S5 → S6 → S7 → Nat) (s10 : S1) (s20 : S2) (s30 : S3) (s40 : S4) (s50 : S5) (s60 : S6) (s70 : S7) (hL : FSub L (Lf s10 s20 s30 s40 s50 s60 s70)) (hF : CSub F (Ff s10 s20 s30 s40 s50 s60 s70)) (hI : I s10 s20 s30 s40 s50 s60 s70)
  (round : ∀ (s1 : S1) (s2 : S2) (s3 : S3) (s4 : S4) (s5 : S5) (s6 : S6) (s7 : S7), I s1 s2 s3 s4 s5 s6 s7 → Tr P N M w0 c (Lf s1 s2 s3 s4 s5 s6 s7) (Ff s1 s2 s3 s4 s5 s6 s7) (thenQ (fun L' F' => ∃ (s1' : S1) (s2' : S2) (s3' : S3) (s4' : S4) (s5' : S5) (s6' : S6) (s7' : S7), FSub L' (Lf s1' s2' s3' s4' s5' s6' s7') ∧ CSub F' (Ff s1' s2' s3' s4' s5' s6' s7') ∧ I s1' s2' s3' s4' s5' s6' s7' ∧ m s1' s2' s3' s4' s5' s6' s7' < m s1 s2 s3 s4 s5 s6 s7) Q)) : Tr P N M w0 (.loop c) L F Q :=
 tr_loop (S := S1 × S2 × S3 × S4 × S5 × S6 × S7) (fun q => Lf q.1 q.2.1 q.2.2.1 q.2.2.2.1 q.2.2.2.2.1 q.2.2.2.2.2.1 q.2.2.2.2.2.2) (fun q => Ff q.1 q.2.1 q.2.2.1 q.2.2.2.1 q.2.2.2.2.1 q.2.2.2.2.2.1 q.2.2.2.2.2.2) (fun q => I q.1 q.2.1 q.2.2.1 q.2.2.2.1 q.2.2.2.2.1 q.2.2.2.2.2.1 q.2.2.2.2.2.2) (fun q => m q.1 q.2.1 q.2.2.1 q.2.2.2.1 q.2.2.2.2.1 q.2.2.2.2.2.1 q.2.2.2.2.2.2) ((s10, s20, s30, s40, s50, s60, s70)) hL hF hI (fun q hq => (round q.1 q.2.1 q.2.2.1 q.2.2.2.1 q.2.2.2.2.1 q.2.2.2.2.2.1 q.2.2.2.2.2.2 hq).mono (fun e L' F' h => by
  cases e with
  | normal => obtain ⟨s1', s2', s3', s4', s5', s6', s7', h⟩ := h; exact ⟨(s1', s2', s3', s4', s5', s6', s7'), h⟩
  | _ => exact h))
theorem tr_loop10 {S1 S2 S3 S4 S5 S6 S7 S8 S9 S10 : Type} (Lf : S1 → S2 → S3 → S4 → S5 → S6 → S7 → S8 → S9 → S10 → Fr) (Ff : S1 → S2 → S3 → S4 → S5 → S6 → S7 → S8 → S9 → S10 → List Chunk) (I : S1 → S2 → S3 → S4 → S5 → S6 → S7 → S8 → S9 → S10 → Prop) (m : S1 → S2 → S3 → S4 → S5 → S6 → S7 → S8 → S9 → S10 → Nat) (s10 : S1) (s20 : S2) (s30 : S3) (s40 : S4) (s50 : S5) (s60 : S6) (s70 : S7) (s80 : S8) (s90 : S9) (s100 : S10) (hL : FSub L (Lf s10 s20 s30 s40 s50 s60 s70 s80 s90 s100)) (hF : CSub F (Ff s10 s20 s30 s40 s50 s60 s70 s80 s90 s100)) (hI : I s10 s20 s30 s40 s50 s60 s70 s80 s90 s100)
  (round : ∀ (s1 : S1) (s2 : S2) (s3 : S3) (s4 : S4) (s5 : S5) (s6 : S6) (s7 : S7) (s8 : S8) (s9 : S9) (s10 : S10), I s1 s2 s3 s4 s5 s6 s7 s8 s9 s10 → Tr P N M w0 c (Lf s1 s2 s3 s4 s5 s6 s7 s8 s9 s10) (Ff s1 s2 s3 s4 s5 s6 s7 s8 s9 s10) (thenQ (fun L' F' => ∃ (s1' : S1) (s2' : S2) (s3' : S3) (s4' : S4) (s5' : S5) (s6' : S6) (s7' : S7) (s8' : S8) (s9' : S9) (s10' : S10), FSub L' (Lf s1' s2' s3' s4' s5' s6' s7' s8' s9' s10') ∧ CSub F' (Ff s1' s2' s3' s4' s5' s6' s7' s8' s9' s10') ∧ I s1' s2' s3' s4' s5' s6' s7' s8' s9' s10' ∧ m s1' s2' s3' s4' s5' s6' s7' s8' s9' s10' < m s1 s2 s3 s4 s5 s6 s7 s8 s9 s10) Q)) : Tr P N M w0 (.loop c) L F Q :=
 tr_loop (S := S1 × S2 × S3 × S4 × S5 × S6 × S7 × S8 × S9 × S10) (fun q => Lf q.1 q.2.1 q.2.2.1 q.2.2.2.1 q.2.2.2.2.1 q.2.2.2.2.2.1 q.2.2.2.2.2.2.1 q.2.2.2.2.2.2.2.1 q.2.2.2.2.2.2.2.2.1 q.2.2.2.2.2.2.2.2.2) (fun q => Ff q.1 q.2.1 q.2.2.1 q.2.2.2.1 q.2.2.2.2.1 q.2.2.2.2.2.1 q.2.2.2.2.2.2.1 q.2.2.2.2.2.2.2.1 q.2.2.2.2.2.2.2.2.1 q.2.2.2.2.2.2.2.2.2) (fun q => I q.1 q.2.1 q.2.2.1 q.2.2.2.1 q.2.2.2.2.1 q.2.2.2.2.2.1 q.2.2.2.2.2.2.1 q.2.2.2.2.2.2.2.1 q.2.2.2.2.2.2.2.2.1 q.2.2.2.2.2.2.2.2.2) (fun q => m q.1 q.2.1 q.2.2.1 q.2.2.2.1 q.2.2.2.2.1 q.2.2.2.2.2.1 q.2.2.2.2.2.2.1 q.2.2.2.2.2.2.2.1 q.2.2.2.2.2.2.2.2.1 q.2.2.2.2.2.2.2.2.2) ((s10, s20, s30, s40, s50, s60, s70, s80, s90, s100)) hL hF hI (fun q hq => (round q.1 q.2.1 q.2.2.1 q.2.2.2.1 q.2.2.2.2.1 q.2.2.2.2.2.1 q.2.2.2.2.2.2.1 q.2.2.2.2.2.2.2.1 q.2.2.2.2.2.2.2.2.1 q.2.2.2.2.2.2.2.2.2 hq).mono (fun e L' F' h => by
  cases e with
  | normal => obtain ⟨s1', s2', s3', s4', s5', s6', s7', s8', s9', s10', h⟩ := h; exact ⟨(s1', s2', s3', s4', s5', s6', s7', s8', s9', s10'), h⟩
  | _ => exact h))
end
end Go.Proofs.YtdkahdehodopoaaGreat

namespace Go.Proofs.YtdkahdehodopoaaGreat
open Go.RowKit
def nth : List Oper → Nat → Option Oper
 | [], _ => none
 | o :: _, 0 => some o
 | _ :: r, n + 1 => nth r n
theorem nth_eq : ∀ (l : List Oper) (i : Nat), nth l i = l[i]?
 | [], _ => rfl
 | _ :: _, 0 => rfl
 | _ :: r, n + 1 => by simpa [nth] using nth_eq r n
section
variable (P : Program) (N : NB) (M : Nat → Prop) (w0 : World)
def StepO (x : Bool) (ops : List Oper) (o : Oper) (L : Fr) (F : List Chunk) (K : Fr → List Chunk → Prop) : Prop :=
 ∀ a w, Holds N a L → Mem M w0 w F →
  if isEff o.op = true then
   (if Region.wanted o (yielded ops.toArray a.tmps) then o.wp P a w (fun a' w' => (x = true → Ext w w') ∧ ∃ L' F', Holds N a' L' ∧ Mem M w0 w' F' ∧ K L' F') noQ
    else ∃ L' F', Holds N (a.put o.dst undef) L' ∧ Mem M w0 w F' ∧ K L' F')
  else ∃ v, YieldsX P ops.toArray w o v a ∧ ∃ L' F', Holds N (a.put o.dst v) L' ∧ Mem M w0 w F' ∧ K L' F'
def LstO (x : Bool) (ops : List Oper) (K : Fr → List Chunk → Prop) : List Oper → Fr → List Chunk → Prop
 | [], L, F => K L F
 | o :: rest, L, F => StepO P N M w0 x ops o L F (LstO x ops K rest)
def LstI (x : Bool) (ops : List Oper) (K : Fr → List Chunk → Prop) : List Nat → Fr → List Chunk → Prop
 | [], L, F => K L F
 | i :: rest, L, F => match nth ops i with
  | some o => StepO P N M w0 x ops o L F (LstI x ops K rest)
  | none => False
def Stl (o : Oper) (L : Fr) (F : List Chunk) (v : Value) : Prop := ∀ a w, Holds N a L → Mem M w0 w F → (execOp a.eval o).run P w = .ok (.value v) w
def Eff (x : Bool) (o : Oper) (L : Fr) (F : List Chunk) (K : Fr → List Chunk → Prop) : Prop :=
 ∀ a w, Holds N a L → Mem M w0 w F → o.wp P a w (fun a' w' => (x = true → Ext w w') ∧ ∃ L' F', Holds N a' L' ∧ Mem M w0 w' F' ∧ K L' F') noQ
end
def gif (b : Bool) (v : Value) : Value := if b then v else undef
section
variable {P : Program} {N : NB} {M : Nat → Prop} {w0 : World} {L : Fr} {F : List Chunk} {K : Fr → List Chunk → Prop} {x : Bool} {ops : List Oper} {o : Oper} {v : Value}
theorem wanted_none (hg : o.guard = none) (y : Nat → Option Bool) : Region.wanted o y = true := by simp [Region.wanted, hg]
theorem st (he : isEff o.op = false) (hg : o.guard = none) {d : Nat} (hdd : o.dst = some d) (hd : Nat.ble (d + 1) N.n = true) (h : Stl P N M w0 o L F v) (k : K (addL d v L) F) : StepO P N M w0 x ops o L F K := fun a w hl hm => by
 simp only [he, Bool.false_eq_true, if_false]
 exact ⟨v, fun w' hx => .inl ⟨wanted_none hg _, .inl (h a w' hl (hm.ext hx))⟩, _, F, hl.add hdd hd v, hm, k⟩
theorem ef (he : isEff o.op = true) (hg : o.guard = none) (h : Eff P N M w0 x o L F K) : StepO P N M w0 x ops o L F K := fun a w hl hm => by
 simp only [he, wanted_none hg, if_true]
 exact h a w hl hm
def guardSlot (ops : List Oper) (o : Oper) : Option (Nat × Bool) :=
 match o.guard with
 | none => none
 | some (j, want) => match nth ops j with
  | some g => g.dst.map (·, want)
  | none => none
theorem wanted_slot {t : Nat} {want b : Bool} (hg : guardSlot ops o = some (t, want)) (hb : Fr.get L t = some (.bool b)) {a : Act} (hl : Holds N a L) : Region.wanted o (yielded ops.toArray a.tmps) = (b == want) := by
 unfold guardSlot at hg
 split at hg
 ·cases hg
 ·rename_i j want' hgu
  split at hg
  ·rename_i g hj
   rw [nth_eq] at hj
   cases hd : g.dst with
   | none => simp [hd] at hg
   | some d =>
    simp only [hd, Option.map_some, Option.some.injEq, Prod.mk.injEq] at hg
    obtain ⟨rfl, rfl⟩ := hg
    obtain ⟨h1, h2⟩ := hl.get _ _ hb
    have h3 : a.tmps[d]? = some (.bool b) := by
     have hlt : d < a.tmps.size := by rw [hl.size]; exact h2
     rw [Array.getElem?_eq_getElem hlt]
     simpa [hlt] using h1
    simp [Region.wanted, hgu, yielded, hj, hd, h3]
  ·cases hg
theorem stg {t : Nat} {want b : Bool} (he : isEff o.op = false) (hg : guardSlot ops o = some (t, want)) (hb : Fr.get L t = some (.bool b)) {d : Nat} (hdd : o.dst = some d) (hd : Nat.ble (d + 1) N.n = true)
  (h : (b == want) = true → Stl P N M w0 o L F v) (k : K (addL d (gif (b == want) v) L) F) : StepO P N M w0 x ops o L F K := fun a w hl hm => by
 simp only [he, Bool.false_eq_true, if_false]
 refine ⟨gif (b == want) v, fun w' hx => ?_, _, F, hl.add hdd hd _, hm, k⟩
 cases hbw : (b == want) with
 | true => exact .inl ⟨(wanted_slot hg hb hl).trans hbw, .inl (by rw [gif, if_pos rfl]; exact h hbw a w' hl (hm.ext hx))⟩
 | false => exact .inr ⟨(wanted_slot hg hb hl).trans hbw, by simp [gif]⟩
theorem efg {t : Nat} {want b : Bool} (he : isEff o.op = true) (hg : guardSlot ops o = some (t, want)) (hb : Fr.get L t = some (.bool b)) {d : Nat} (hdd : o.dst = some d) (hd : Nat.ble (d + 1) N.n = true)
  (h : (b == want) = true → Eff P N M w0 x o L F (fun L' F' => L' = addL d v L ∧ F' = F)) (k : K (addL d (gif (b == want) v) L) F) : StepO P N M w0 x ops o L F K := fun a w hl hm => by
 simp only [he, if_true]
 rw [wanted_slot hg hb hl]
 cases hbw : (b == want) with
 | true =>
  simp only [if_true]
  refine Oper.wp_mono (fun a' w' hq => ?_) (h hbw a w hl hm)
  obtain ⟨h1, L', F', h2, h3, rfl, rfl⟩ := hq
  rw [hbw] at k
  exact ⟨h1, _, _, h2, h3, by simpa [gif] using k⟩
 | false =>
  simp only [Bool.false_eq_true, if_false]
  rw [hbw] at k
  exact ⟨_, F, by simpa [gif] using hl.add hdd hd undef, hm, by simpa [gif] using k⟩
theorem wanted_slot2 {t : Nat} {want b g : Bool} (hg : guardSlot ops o = some (t, want)) (hb : Fr.get L t = some (gif g (.bool b))) {a : Act} (hl : Holds N a L) : Region.wanted o (yielded ops.toArray a.tmps) = (g && (b == want)) := by
 cases g with
 | true => simpa using wanted_slot hg (by simpa [gif] using hb) hl
 | false =>
  have hu : Fr.get L t = some undef := by simpa [gif] using hb
  unfold guardSlot at hg
  split at hg
  ·cases hg
  ·rename_i j want' hgu
   split at hg
   ·rename_i gg hj
    rw [nth_eq] at hj
    cases hd : gg.dst with
    | none => simp [hd] at hg
    | some d =>
     simp only [hd, Option.map_some, Option.some.injEq, Prod.mk.injEq] at hg
     obtain ⟨rfl, rfl⟩ := hg
     obtain ⟨h1, h2⟩ := hl.get _ _ hu
     have hlt : d < a.tmps.size := by rw [hl.size]; exact h2
     have h3 : a.tmps[d]? = some undef := by
      rw [Array.getElem?_eq_getElem hlt]
      simpa [hlt] using h1
     simp [Region.wanted, hgu, yielded, hj, hd, h3, undef]
   ·cases hg
theorem StepO.head {i : Nat} {a : Act} {w : World} (h : StepO P N M w0 true ops o L F K) (ho : ops[i]? = some o) (hl : Holds N a L) (hm : Mem M w0 w F)
  {T : Act → World → Prop} (hT : ∀ a w L F, Holds N a L → Mem M w0 w F → K L F → T a w) : opH P ops.toArray i T a w := by
 have h1 := h a w hl hm
 unfold Go.Proofs.YtdkahdehodopoaaGreat.opH
 simp only [List.getElem?_toArray, ho]
 split
 ·rename_i he
  simp only [he, if_true] at h1
  split
  ·rename_i hw
   simp only [hw, if_true] at h1
   exact Oper.wp_mono (fun a' w' hq => ⟨hq.1 trivial, by obtain ⟨_, L', F', h2, h3, h4⟩ := hq; exact hT _ _ _ _ h2 h3 h4⟩) h1
  ·rename_i hw
   simp only [hw] at h1
   obtain ⟨L', F', h2, h3, h4⟩ := h1
   exact hT _ _ _ _ h2 h3 h4
 ·rename_i he
  simp only [he] at h1
  obtain ⟨v, hy, L', F', h2, h3, h4⟩ := h1
  exact ⟨v, hy, hT _ _ _ _ h2 h3 h4⟩
theorem StepO.plain {i : Nat} {a : Act} {w : World} (h : StepO P N M w0 x ops o L F K) (ho : ops[i]? = some o) (hl : Holds N a L) (hm : Mem M w0 w F)
  {T : Act → World → Prop} {Q : Exit → Act → World → Prop} (hT : ∀ a w L F, Holds N a L → Mem M w0 w F → K L F → T a w) : wpOp P ops.toArray Q i T a w := by
 have h1 := h a w hl hm
 by_cases he : isEff o.op = true
 ·unfold Go.wpOp
  simp only [List.getElem?_toArray, ho]
  simp only [he, if_true] at h1
  split
  ·rename_i hw
   simp only [hw, if_true] at h1
   exact .inl (Oper.wp_noQ (Oper.wp_mono (fun a' w' hq => by obtain ⟨_, L', F', h2, h3, h4⟩ := hq; exact hT _ _ _ _ h2 h3 h4) h1))
  ·rename_i hw
   simp only [hw] at h1
   obtain ⟨L', F', h2, h3, h4⟩ := h1
   exact hT _ _ _ _ h2 h3 h4
 ·simp only [he] at h1
  obtain ⟨v, hy, L', F', h2, h3, h4⟩ := h1
  have h5 : opH P ops.toArray i T a w := by
   unfold Go.Proofs.YtdkahdehodopoaaGreat.opH
   simp only [List.getElem?_toArray, ho, he]
   exact ⟨v, hy, hT _ _ _ _ h2 h3 h4⟩
  exact wpOp_of_opH (fun _ _ h => h) h5
theorem LstI.head {T : Act → World → Prop} (hT : ∀ a w L F, Holds N a L → Mem M w0 w F → K L F → T a w) : ∀ (l : List Nat) (L : Fr) (F : List Chunk) (a : Act) (w : World),
  LstI P N M w0 true ops K l L F → Holds N a L → Mem M w0 w F → wpHead P ops.toArray T l a w
 | [], _, _, _, _, h, hl, hm => hT _ _ _ _ hl hm h
 | i :: rest, L, F, a, w, h, hl, hm => by
  simp only [LstI] at h
  cases ho : nth ops i with
  | none => simp [ho] at h
  | some o =>
   simp only [ho] at h
   exact h.head (by rw [← nth_eq]; exact ho) hl hm (fun a w L F hl hm hk => LstI.head hT rest L F a w hk hl hm)
theorem LstI.tail {Q : Exit → Act → World → Prop} (hT : ∀ a w L F, Holds N a L → Mem M w0 w F → K L F → Q .normal a w) : ∀ (l : List Nat) (L : Fr) (F : List Chunk) (a : Act) (w : World),
  LstI P N M w0 false ops K l L F → Holds N a L → Mem M w0 w F → wpTail P ops.toArray Q l a w
 | [], _, _, _, _, h, hl, hm => hT _ _ _ _ hl hm h
 | i :: rest, L, F, a, w, h, hl, hm => by
  simp only [LstI] at h
  cases ho : nth ops i with
  | none => simp [ho] at h
  | some o =>
   simp only [ho] at h
   exact h.plain (by rw [← nth_eq]; exact ho) hl hm (fun a w L F hl hm hk => LstI.tail hT rest L F a w hk hl hm)
theorem LstO.all {Q : Exit → Act → World → Prop} (hT : ∀ a w L F, Holds N a L → Mem M w0 w F → K L F → Q .normal a w) : ∀ (l : List Oper) (k : Nat) (L : Fr) (F : List Chunk) (a : Act) (w : World),
  (∀ j, l[j]? = ops[k + j]?) → LstO P N M w0 false ops K l L F → Holds N a L → Mem M w0 w F → wpOps P ops.toArray Q (List.range' k l.length) a w
 | [], _, _, _, _, _, _, h, hl, hm => by simpa [wpOps] using hT _ _ _ _ hl hm h
 | o :: rest, k, L, F, a, w, hj, h, hl, hm => by
  have ho : ops[k]? = some o := by simpa using (hj 0).symm
  simp only [List.length_cons, List.range'_succ]
  rw [wpOps_cons]
  exact StepO.plain h ho hl hm (fun a w L F hl hm hk => LstO.all hT rest (k + 1) L F a w (fun j => by have := hj (j + 1); simpa [Nat.add_assoc, Nat.add_comm 1 j] using this) hk hl hm)
theorem drew_ext (w : World) : Ext w { w with drawn := w.drawn + 1 } := (Below.refl _ _).drew
end
section
variable {P : Program} {N : NR} {M : Nat → Prop} {w0 : World} {L : Fr} {F : List Chunk} {ops : List Oper}
theorem tR {id : Nat} {Q : Exit → Fr → List Chunk → Prop} (h : ∀ ds M1 w1, LstO P ⟨N.n, ds⟩ M1 w1 false ops (Q .normal) ops L F) (hd : noDefer ops = true := by rfl) : Tr P N M w0 (.region id ops.toArray false) L F Q := fun ds M1 w1 hb a w hl hm => by
 refine wpIn_region_seq (by simpa using hd) ?_
 have := LstO.all (Q := nrm (Fin' N M w0 Q)) (fun a w L F h1 h2 h3 => ⟨rfl, ds, M1, w1, hb, L, F, h1, h2, h3⟩) ops 0 L F a w (fun j => by simp) (h ds M1 w1) hl hm
 rw [List.range_eq_range']
 simpa using this
theorem tr_draw (hds tls : List Nat) {id : Nat} {Q : Exit → Fr → List Chunk → Prop} (hm : P.follows .mixedOrders = true) (hB : regionOk ops.toArray hds tls = true)
  (h : ∀ ds M1 w1, LstI P ⟨N.n, ds⟩ M1 w1 true ops (LstI P ⟨N.n, ds⟩ M1 w1 false ops (Q .normal) tls) hds L F) (hd : noDefer ops = true := by rfl) : Tr P N M w0 (.region id ops.toArray true) L F Q := fun ds M1 w1 hb a w hl hmem => by
 refine wpIn_region_phase hds tls hm hB (by simpa using hd) ?_
 exact LstI.head (fun a w L F hl hm hk => LstI.tail (Q := nrm (Fin' N M w0 Q)) (fun a w L F h1 h2 h3 => ⟨rfl, ds, M1, w1, hb, L, F, h1, h2, h3⟩) tls L F a w hk hl hm) hds L F a _ (h ds M1 w1) hl (hmem.ext (drew_ext w))
end
end Go.Proofs.YtdkahdehodopoaaGreat

namespace Go.Proofs.YtdkahdehodopoaaGreat
open Go.RowKit
def ints (xs : List Int) : List Value := xs.map (Value.int .i64)
def bools (bs : List Bool) : List Value := bs.map Value.bool
@[simp] theorem ints_length (xs : List Int) : (ints xs).length = xs.length := by simp [ints]
@[simp] theorem bools_length (xs : List Bool) : (bools xs).length = xs.length := by simp [bools]
theorem ints_append (xs ys : List Int) : ints (xs ++ ys) = ints xs ++ ints ys := by simp [ints]
theorem ints_set (xs : List Int) (i : Nat) (x : Int) : ints (xs.set i x) = (ints xs).set i (.int .i64 x) := by simp [ints, List.map_set]
theorem bools_set (xs : List Bool) (i : Nat) (x : Bool) : bools (xs.set i x) = (bools xs).set i (.bool x) := by simp [bools, List.map_set]
theorem block_add (a : Addr) (n : Nat) : (a.add n).block = a.block := by unfold Addr.add; split <;> rfl
theorem add_new (b i : Nat) : (⟨b, 0, none⟩ : Addr).add i = ⟨b, i, none⟩ := by
 unfold Addr.add
 split
 ·rename_i h; subst h; rfl
 ·simp
theorem add_add (a : Addr) (i j : Nat) : (a.add i).add j = a.add (i + j) := by
 unfold Addr.add
 by_cases hi : i = 0 <;> by_cases hj : j = 0 <;> simp [hi, hj, Nat.add_assoc]
theorem cell_isCells {w : World} {a : Addr} {v : Value} (h : w.cell? a = some v) : ∃ o : Obj, w.heap[a.block]? = some o ∧ o.isCells = true := by
 unfold World.cell? at h
 cases ho : w.heap[a.block]? with
 | none => simp [ho] at h
 | some o => exact ⟨o, rfl, by cases o <;> simp_all [Obj.isCells]⟩
def ro (A : Option Addr) (vs : List Value) : Chunk where
 foot b := vs ≠ [] ∧ ∃ ad, A = some ad ∧ ad.block = b
 excl := False
 sat w := ∀ (j : Nat) (hj : j < vs.length), ∃ ad, A = some ad ∧ w.cell? (ad.add j) = some vs[j]
 loc w w' h hs j hj := by
  obtain ⟨ad, rfl, hc⟩ := hs j hj
  refine ⟨ad, rfl, ?_⟩
  rw [World.cell?_of_block (w := w) (h _ ⟨fun h0 => by subst h0; simp at hj, ad, rfl, (block_add ad j).symm⟩)]
  exact hc
 cel w b hs hb := by
  obtain ⟨hne, ad, rfl, rfl⟩ := hb
  have hpos : 0 < vs.length := List.length_pos_iff.2 hne
  obtain ⟨ad', h1, h2⟩ := hs 0 hpos
  simp only [Option.some.injEq] at h1
  subst h1
  have := cell_isCells h2
  rwa [block_add] at this
def ow (A : Option Addr) (e : TypeId) (cap : Nat) (vs : List Value) : Chunk where
 foot b := ∃ ad, A = some ad ∧ ad.block = b
 excl := True
 sat w := w.ownsRow 0 e 1 (.slice A vs.length cap) vs.length vs
 loc w w' h hs := by
  obtain ⟨h0, h1⟩ := hs
  refine ⟨h0, ?_⟩
  rcases h1 with h1 | ⟨g, c, cur, hv, hb, hh, hr⟩
  ·exact .inl h1
  ·refine .inr ⟨g, c, cur, hv, hb, ?_, hr⟩
   simp only [Value.slice.injEq] at hv
   rw [h g ⟨_, hv.1, rfl⟩]
   exact hh
 cel w b hs hb := by
  obtain ⟨ad, rfl, rfl⟩ := hb
  rcases hs.2 with ⟨h1, _⟩ | ⟨g, c, cur, hv, hb, hh, _⟩
  ·cases h1
  ·simp only [Value.slice.injEq, Option.some.injEq] at hv
   rw [hv.1]
   exact ⟨_, hh, rfl⟩
def blk (p : Addr) (e : TypeId) (vs : List Value) : Chunk where
 foot b := p.block = b
 excl := True
 sat w := p = ⟨p.block, 0, none⟩ ∧ w.heap[p.block]? = some (.cells vs.toArray e (0, 0))
 loc w w' h hs := ⟨hs.1, (h _ rfl).trans hs.2⟩
 cel w b hs hb := by
  subst hb
  exact ⟨_, hs.2, rfl⟩
class Rd (F : List Chunk) (A : Option Addr) (vs : outParam (List Value)) : Prop where
 rd : ∀ (M : Nat → Prop) (w0 w : World), Mem M w0 w F → (ro A vs).sat w
 ft : ∀ b, (ro A vs).foot b → ∃ c ∈ F, c.foot b
instance Rd.tail (c : Chunk) (F : List Chunk) (A : Option Addr) (vs : List Value) [h : Rd F A vs] : Rd (c :: F) A vs := ⟨fun M w0 w hm => h.rd M w0 w hm.tail, fun b hb => by
 obtain ⟨d, hd, hf⟩ := h.ft b hb
 exact ⟨d, List.mem_cons_of_mem _ hd, hf⟩⟩
instance Rd.ofRo (F : List Chunk) (A : Option Addr) (vs : List Value) : Rd (ro A vs :: F) A vs := ⟨fun _ _ _ hm => hm.sat _ (List.mem_cons_self ..), fun b hb => ⟨_, List.mem_cons_self .., hb⟩⟩
theorem ow_reads {A : Option Addr} {e : TypeId} {cap : Nat} {vs : List Value} {w : World} (h : (ow A e cap vs).sat w) : (ro A vs).sat w := by
 intro j hj
 rcases h.2 with ⟨_, h0⟩ | ⟨g, c, cur, hv, _⟩
 ·omega
 ·simp only [Value.slice.injEq] at hv
  obtain ⟨rfl, _⟩ := hv
  exact ⟨_, rfl, World.ownsRow.cells h (g := g) rfl j _ (List.getElem?_eq_getElem hj)⟩
instance Rd.ofOw (F : List Chunk) (A : Option Addr) (e : TypeId) (cap : Nat) (vs : List Value) : Rd (ow A e cap vs :: F) A vs := ⟨fun _ _ _ hm => ow_reads (hm.sat _ (List.mem_cons_self ..)), fun b hb => ⟨_, List.mem_cons_self .., hb.2⟩⟩
theorem blk_reads {p : Addr} {e : TypeId} {vs : List Value} {w : World} (h : (blk p e vs).sat w) : (ro (some p) vs).sat w := by
 intro j hj
 refine ⟨_, rfl, ?_⟩
 rw [h.1, add_new]
 simp [World.cell?, h.2, hj]
instance Rd.ofBlk (F : List Chunk) (p : Addr) (e : TypeId) (vs : List Value) : Rd (blk p e vs :: F) (some p) vs := ⟨fun _ _ _ hm => blk_reads (hm.sat _ (List.mem_cons_self ..)), fun b hb => ⟨_, List.mem_cons_self .., by
 obtain ⟨_, ad, h1, h2⟩ := hb
 simp only [Option.some.injEq] at h1
 subst h1
 exact h2⟩⟩
class PkOw (F : List Chunk) (A : Option Addr) (e : outParam TypeId) (cap : outParam Nat) (vs : outParam (List Value)) (F' : outParam (List Chunk)) : Prop where
 perm : F.Perm (ow A e cap vs :: F')
instance PkOw.head (F : List Chunk) (A : Option Addr) (e : TypeId) (cap : Nat) (vs : List Value) : PkOw (ow A e cap vs :: F) A e cap vs F := ⟨List.Perm.refl _⟩
instance PkOw.tail (c : Chunk) (F F' : List Chunk) (A : Option Addr) (e : TypeId) (cap : Nat) (vs : List Value) [h : PkOw F A e cap vs F'] : PkOw (c :: F) A e cap vs (c :: F') := ⟨(h.perm.cons c).trans (List.Perm.swap ..)⟩
class PkBlk (F : List Chunk) (p : Addr) (e : outParam TypeId) (vs : outParam (List Value)) (F' : outParam (List Chunk)) : Prop where
 perm : F.Perm (blk p e vs :: F')
instance PkBlk.head (F : List Chunk) (p : Addr) (e : TypeId) (vs : List Value) : PkBlk (blk p e vs :: F) p e vs F := ⟨List.Perm.refl _⟩
instance PkBlk.tail (c : Chunk) (F F' : List Chunk) (p : Addr) (e : TypeId) (vs : List Value) [h : PkBlk F p e vs F'] : PkBlk (c :: F) p e vs (c :: F') := ⟨(h.perm.cons c).trans (List.Perm.swap ..)⟩
class Pk (F : List Chunk) (c : Chunk) (F' : outParam (List Chunk)) : Prop where
 perm : F.Perm (c :: F')
instance Pk.head (F : List Chunk) (c : Chunk) : Pk (c :: F) c F := ⟨List.Perm.refl _⟩
instance Pk.tail (d c : Chunk) (F F' : List Chunk) [h : Pk F c F'] : Pk (d :: F) c (d :: F') := ⟨(h.perm.cons d).trans (List.Perm.swap ..)⟩
class Cs (F G : List Chunk) : Prop where
 sub : CSub F G
instance Cs.nil (F : List Chunk) : Cs F [] := ⟨CSub.nil F⟩
instance Cs.cons (F F' : List Chunk) (c : Chunk) (G : List Chunk) [h : Pk F c F'] [k : Cs F' G] : Cs F (c :: G) := ⟨(CSub.perm h.perm).trans (CSub.cons c k.sub)⟩
theorem cs (F G : List Chunk) [h : Cs F G] : CSub F G := h.sub
class Ent (F G : List Chunk) : Prop where
 ent : ∀ (M : Nat → Prop) (w0 w : World), Mem M w0 w F → ∀ c ∈ G, c.sat w
 ft : ∀ g ∈ G, ∀ b, g.foot b → ∃ c ∈ F, c.foot b
instance Ent.nil (F : List Chunk) : Ent F [] := ⟨fun _ _ _ _ _ h => by simp at h, fun _ h => by simp at h⟩
instance Ent.cons (F : List Chunk) (A : Option Addr) (vs : List Value) (G : List Chunk) [h : Rd F A vs] [k : Ent F G] : Ent F (ro A vs :: G) := ⟨fun M w0 w hm c hc => by
 rcases List.mem_cons.1 hc with rfl | hc
 ·exact h.rd M w0 w hm
 ·exact k.ent M w0 w hm c hc, fun g hg b hb => by
 rcases List.mem_cons.1 hg with rfl | hg
 ·exact h.ft b hb
 ·exact k.ft g hg b hb⟩
class SlTy (P : Program) (t : TypeId) (e : outParam TypeId) (z : outParam Value) (bytes : outParam Nat) : Prop where
 und : P.underlying t = some (.slice e)
 inf : (P.info? e).map (fun i => (i.zero, i.size, i.bytes)) = some (some z, 1, bytes)
 one : z.cells = #[z]
class ScTy (P : Program) (t : TypeId) : Prop where
 und : ∃ d, P.underlying t = some d ∧ (match d with | .struct _ => False | .array _ _ => False | _ => True)
 inf : (P.info? t).map (·.size) = some 1
class AgTy (P : Program) (t : TypeId) (n : outParam Nat) : Prop where
 und : ∃ fs, P.underlying t = some (.struct fs)
 inf : (P.info? t).map (·.size) = some n
def fdOff (P : Program) (t : TypeId) (f : Nat) : Option Nat :=
 match P.underlying t with
 | some (.struct fs) => match fs[f]? with
  | some fd => match P.info? fd.type with
   | some i => if i.size = 0 then none else some fd.offset
   | none => none
  | none => none
 | _ => none
class FdTy (P : Program) (t : TypeId) (f : Nat) (off : outParam Nat) : Prop where
 off : fdOff P t f = some off
theorem FdTy.fd {P : Program} {t : TypeId} {f off : Nat} (h : FdTy P t f off) : ∃ fs fd, P.underlying t = some (.struct fs) ∧ fs[f]? = some fd ∧ fd.offset = off ∧ ∃ i, P.info? fd.type = some i ∧ i.size ≠ 0 := by
 have h0 := h.off
 unfold fdOff at h0
 split at h0
 ·rename_i fs hu
  split at h0
  ·rename_i fd hf
   split at h0
   ·rename_i i hi
    split at h0
    ·cases h0
    ·rename_i hs
     exact ⟨fs, fd, hu, hf, by simpa using h0, i, hi, hs⟩
   ·cases h0
  ·cases h0
 ·cases h0
def isSc (P : Program) (t : TypeId) : Bool :=
 match P.underlying t with
 | some (.struct _) => false
 | some (.array _ _) => false
 | some _ => (P.info? t).map (·.size) == some 1
 | none => false
def isAgN (P : Program) (t : TypeId) : Option Nat :=
 match P.underlying t with
 | some (.struct _) => (P.info? t).map (·.size)
 | _ => none
theorem scTy_of {P : Program} {t : TypeId} (h : isSc P t = true) : ScTy P t := by
 unfold isSc at h
 cases hu : P.underlying t with
 | none => simp [hu] at h
 | some d =>
  rw [hu] at h
  cases d <;> first | (simp at h; done) | exact ⟨⟨_, hu, trivial⟩, by simpa using h⟩
theorem agTy_of {P : Program} {t : TypeId} {n : Nat} (h : isAgN P t = some n) : AgTy P t n := by
 unfold isAgN at h
 split at h
 ·rename_i fs hu
  exact ⟨⟨fs, hu⟩, h⟩
 ·cases h
section
variable {P : Program} {N : NB} {M : Nat → Prop} {w0 : World} {L : Fr} {F : List Chunk} {o : Oper} {v : Value}
theorem stl_pure (h : ∀ a, Holds N a L → execOp a.eval o = pure (.value v)) : Stl P N M w0 o L F v := fun a w hl _ => by rw [h a hl]; rfl
def pev (L : Fr) : Op → Option Value
 | .move x => ev L x
 | .assign x => ev L x
 | .binOp op _ x y _ => match ev L x, ev L y with
  | some (.int .i64 a), some (.int .i64 b) => (match op with
   | .lss => some (.bool (decide (a < b)))
   | .leq => some (.bool (decide (a ≤ b)))
   | .gtr => some (.bool (decide (a > b)))
   | .geq => some (.bool (decide (a ≥ b)))
   | .eql => some (.bool (decide (a = b)))
   | .neq => some (.bool (decide (¬ a = b)))
   | _ => none)
  | _, _ => none
 | .extract x i => match ev L x with
  | some (.tuple ⟨vs⟩) => vs[i]?
  | _ => none
 | _ => none
theorem pev_ok {op : Op} (h : pev L op = some v) (ho : o.op = op) : Stl P N M w0 o L F v := stl_pure fun a hl => by
 cases op <;> simp only [pev] at h <;> first | (cases h; done) | skip
 case move x => simp only [execOp, ho, hl.eval h]
 case assign x => simp only [execOp, ho, hl.eval h]
 case extract x i =>
  split at h
  ·rename_i vs hx
   simp only [execOp, ho, hl.eval hx, Instr.extract]
   simp only [List.getElem?_toArray] at h ⊢
   simp [h]
  ·cases h
 case binOp op t x y t' =>
  split at h
  ·rename_i p q hx hy
   cases op <;> simp only at h <;> first | (cases h; done) | skip
   all_goals (
    simp only [Option.some.injEq] at h
    subst h
    simp only [execOp, ho, hl.eval hx, hl.eval hy, eqGuard, binOp, Op.intCmp, ne_eq, not_true_eq_false, if_false]
    try rfl)
   all_goals simp [BEq.beq, bne]
  ·cases h
theorem pu {x : Bool} {ops : List Oper} {K : Fr → List Chunk → Prop} (he : isEff o.op = false) (hg : o.guard = none) {d : Nat} (hdd : o.dst = some d) (hd : Nat.ble (d + 1) N.n = true) (h : pev L o.op = some v) (k : K (addL d v L) F) : StepO P N M w0 x ops o L F K :=
 st he hg hdd hd (pev_ok h rfl) k
end
section
variable {P : Program} {N : NB} {M : Nat → Prop} {w0 : World} {L : Fr} {F : List Chunk} {o : Oper} {v : Value}
theorem pV {x : Bool} {ops : List Oper} {K : Fr → List Chunk → Prop} {d : Nat} (k : K (addL d v L) F) (he : isEff o.op = false := by exact rfl) (hg : o.guard = none := by exact rfl) (hdd : o.dst = some d := by exact rfl) (hd : Nat.ble (d + 1) N.n = true := by exact rfl) (h : pev L o.op = some v := by exact rfl) : StepO P N M w0 x ops o L F K := pu he hg hdd hd h k
theorem sV {x : Bool} {ops : List Oper} {K : Fr → List Chunk → Prop} {d : Nat} (h : Stl P N M w0 o L F v) (k : K (addL d v L) F) (he : isEff o.op = false := by exact rfl) (hg : o.guard = none := by exact rfl) (hdd : o.dst = some d := by exact rfl) (hd : Nat.ble (d + 1) N.n = true := by exact rfl) : StepO P N M w0 x ops o L F K := st he hg hdd hd h k
theorem eV {x : Bool} {ops : List Oper} {K : Fr → List Chunk → Prop} (h : Eff P N M w0 x o L F K) (he : isEff o.op = true := by exact rfl) (hg : o.guard = none := by exact rfl) : StepO P N M w0 x ops o L F K := ef he hg h
end
end Go.Proofs.YtdkahdehodopoaaGreat

namespace Go.Proofs.YtdkahdehodopoaaGreat
open Go.RowKit
section
variable {P : Program} {N : NB} {M : Nat → Prop} {w0 : World} {L : Fr} {F : List Chunk} {o : Oper} {v : Value} {x y : Operand} {t t' : TypeId}
theorem rAdd {m n : Int} (ho : o.op = .binOp .add t x y t') (hx : ev L x = some (.int .i64 m)) (hy : ev L y = some (.int .i64 n)) (h1 : -9223372036854775808 ≤ m + n) (h2 : m + n ≤ 9223372036854775807) : Stl P N M w0 o L F (.int .i64 (m + n)) :=
 stl_pure fun a hl => by simp [execOp, ho, hl.eval hx, hl.eval hy, eqGuard, binOp, Op.intArith, IntWalk.i64_in _ ⟨h1, h2⟩]
theorem rSub {m n : Int} (ho : o.op = .binOp .sub t x y t') (hx : ev L x = some (.int .i64 m)) (hy : ev L y = some (.int .i64 n)) (h1 : -9223372036854775808 ≤ m - n) (h2 : m - n ≤ 9223372036854775807) : Stl P N M w0 o L F (.int .i64 (m - n)) :=
 stl_pure fun a hl => by simp [execOp, ho, hl.eval hx, hl.eval hy, eqGuard, binOp, Op.intArith, IntWalk.i64_in _ ⟨h1, h2⟩]
theorem rMul {m n : Int} (ho : o.op = .binOp .mul t x y t') (hx : ev L x = some (.int .i64 m)) (hy : ev L y = some (.int .i64 n)) (h1 : -9223372036854775808 ≤ m * n) (h2 : m * n ≤ 9223372036854775807) : Stl P N M w0 o L F (.int .i64 (m * n)) :=
 stl_pure fun a hl => by simp [execOp, ho, hl.eval hx, hl.eval hy, eqGuard, binOp, Op.intArith, IntWalk.i64_in _ ⟨h1, h2⟩]
theorem rQuo {m n : Int} (ho : o.op = .binOp .quo t x y t') (hx : ev L x = some (.int .i64 m)) (hy : ev L y = some (.int .i64 n)) (h1 : 0 ≤ m ∧ m ≤ 9223372036854775807) (h2 : 1 ≤ n) : Stl P N M w0 o L F (.int .i64 (m / n)) :=
 stl_pure fun a hl => by
  have hn : n ≠ 0 := by omega
  simp [execOp, ho, hl.eval hx, hl.eval hy, eqGuard, binOp, Op.intDiv, hn, IntWalk.i64_quo m n ⟨h1.1, h1.2, h2⟩]
theorem rRem {m n : Int} (ho : o.op = .binOp .rem t x y t') (hx : ev L x = some (.int .i64 m)) (hy : ev L y = some (.int .i64 n)) (h1 : 0 ≤ m) (h2 : 1 ≤ n) : Stl P N M w0 o L F (.int .i64 (m % n)) :=
 stl_pure fun a hl => by
  have hn : n ≠ 0 := by omega
  simp [execOp, ho, hl.eval hx, hl.eval hy, eqGuard, binOp, Op.intDiv, hn, IntWalk.rem_in m n h1]
theorem rNotB {b : Bool} (ho : o.op = .unOp .not t x) (hx : ev L x = some (.bool b)) : Stl P N M w0 o L F (.bool (!b)) :=
 stl_pure fun a hl => by simp [execOp, ho, hl.eval hx, Op.unary]
theorem rMove (ho : o.op = .move x) (hx : ev L x = some v) : Stl P N M w0 o L F v := stl_pure fun a hl => by simp only [execOp, ho, hl.eval hx]
theorem cmpv {c : BinOp} {m n : Int} {b : Bool} (hc : binOp c t (.int .i64 m) (.int .i64 n) = pure (.bool b)) (hg : ∀ z z' : Operand, eqGuard c t z z' (.int .i64 m) (.int .i64 n) = pure ()) (ho : o.op = .binOp c t x y t') (hx : ev L x = some (.int .i64 m)) (hy : ev L y = some (.int .i64 n)) : Stl P N M w0 o L F (.bool b) :=
 stl_pure fun a hl => by simp only [execOp, ho, hl.eval hx, hl.eval hy, hg, hc]; rfl
theorem rLss {m n : Int} (ho : o.op = .binOp .lss t x y t') (hx : ev L x = some (.int .i64 m)) (hy : ev L y = some (.int .i64 n)) : Stl P N M w0 o L F (.bool (decide (m < n))) := cmpv rfl (fun _ _ => rfl) ho hx hy
theorem rGtr {m n : Int} (ho : o.op = .binOp .gtr t x y t') (hx : ev L x = some (.int .i64 m)) (hy : ev L y = some (.int .i64 n)) : Stl P N M w0 o L F (.bool (decide (m > n))) := cmpv rfl (fun _ _ => rfl) ho hx hy
theorem rGeq {m n : Int} (ho : o.op = .binOp .geq t x y t') (hx : ev L x = some (.int .i64 m)) (hy : ev L y = some (.int .i64 n)) : Stl P N M w0 o L F (.bool (decide (m ≥ n))) := cmpv rfl (fun _ _ => rfl) ho hx hy
theorem rEql {m n : Int} (ho : o.op = .binOp .eql t x y t') (hx : ev L x = some (.int .i64 m)) (hy : ev L y = some (.int .i64 n)) : Stl P N M w0 o L F (.bool (decide (m = n))) := cmpv (by simp [binOp, Op.intCmp, BEq.beq]) (fun _ _ => rfl) ho hx hy
theorem rNeq {m n : Int} (ho : o.op = .binOp .neq t x y t') (hx : ev L x = some (.int .i64 m)) (hy : ev L y = some (.int .i64 n)) : Stl P N M w0 o L F (.bool (decide (¬ m = n))) := cmpv (by simp [binOp, Op.intCmp, bne, BEq.beq]) (fun _ _ => rfl) ho hx hy
theorem rExt {vs : List Value} {i : Nat} (ho : o.op = .extract x i) (hx : ev L x = some (.tuple vs.toArray)) (hv : vs[i]? = some v) : Stl P N M w0 o L F v := stl_pure fun a hl => by
 simp [execOp, ho, hl.eval hx, Instr.extract, hv]
theorem rFun {fn : Fn} {xs ys : List Operand} {us vs : List Value} (ho : o.op = .makeFunc fn xs.toArray ys.toArray) (hx : evs L xs = some us) (hy : evs L ys = some vs) : Stl P N M w0 o L F (.func fn us.toArray vs.toArray) := stl_pure fun a hl => by
 have h1 : xs.toArray.map a.eval = us.toArray := by simp [hl.evals hx]
 have h2 : ys.toArray.map a.eval = vs.toArray := by simp [hl.evals hy]
 simp only [execOp, ho, h1, h2, Instr.makeFunc]
 rfl
theorem rOrB {z : Operand} {p q : Bool} (ho : o.op = .pick x y z) (hx : ev L x = some (.bool p)) (hy : ev L y = some (.bool true)) (hz : ev L z = some (gif (p == false) (.bool q))) : Stl P N M w0 o L F (.bool (p || q)) :=
 stl_pure fun a hl => by
  simp only [execOp, ho, hl.eval hx, hl.eval hy, hl.eval hz, asBool]
  cases p <;> simp [gif]
theorem rAndB {z : Operand} {p q : Bool} (ho : o.op = .pick x y z) (hx : ev L x = some (.bool p)) (hy : ev L y = some (gif (p == true) (.bool q))) (hz : ev L z = some (.bool false)) : Stl P N M w0 o L F (.bool (p && q)) :=
 stl_pure fun a hl => by
  simp only [execOp, ho, hl.eval hx, hl.eval hy, hl.eval hz, asBool]
  cases p <;> simp [gif]
theorem evg {g : Bool} (h : ev L x = some (gif g v)) (hg : g = true) : ev L x = some v := by rw [h, gif, if_pos hg]
theorem gr {a b : Bool} (h : (a && b) = true) : b = true := by simp at h; exact h.2
theorem run_und {d : TypeDesc} (h : P.underlying t = some d) (w : World) : (underlying t).run P w = .ok d w := run_underlying h w
theorem run_size1 {n : Nat} (h : (P.info? t).map (·.size) = some n) (w : World) : (sizeOf t).run P w = .ok n w := by
 cases hi : P.info? t with
 | none => simp [hi] at h
 | some i =>
  simp only [hi, Option.map_some, Option.some.injEq] at h
  simp [sizeOf, typeInfo, hi, h]
theorem SlTy.size {e : TypeId} {z : Value} {bytes : Nat} (h : SlTy P t e z bytes) : (P.info? e).map (·.size) = some 1 := by
 obtain ⟨i, h1, h2, h3, h4⟩ := info_parts h.inf
 simp [h1, h3]
theorem rLen {e : TypeId} {z : Value} {by_ : Nat} {A : Option Addr} {n c : Nat} (ho : o.op = .call { callee := .builtin .len, args := #[x], argTypes := #[t] }) [h : SlTy P t e z by_] (hx : ev L x = some (.slice A n c)) : Stl P N M w0 o L F (.int .i64 n) := fun a w hl _ => by
 simp [execOp, ho, resolve, invoke, builtin, Builtin.len_, hl.eval hx, run_und h.und, goInt]
def a0 : Addr := ⟨0, 0, none⟩
theorem rIdx {e : TypeId} {z : Value} {by_ : Nat} {A : Option Addr} {n c : Nat} {i : Int} {vs : List Value} (ho : o.op = .indexAddr t x y) [h : SlTy P t e z by_] (hx : ev L x = some (.slice A n c)) (hy : ev L y = some (.int .i64 i)) [hr : Rd F A vs] (h0 : 0 ≤ i) (h1 : i < n) (h2 : i < vs.length) :
  Stl P N M w0 o L F (.pointer (some ((A.getD a0).add i.toNat))) := fun a w hl hm => by
 obtain ⟨ad, rfl, _⟩ := hr.rd M w0 w hm i.toNat (by omega)
 simp [execOp, ho, hl.eval hx, hl.eval hy, Instr.indexAt, asIntOf, run_und h.und, h0, h1, run_size1 h.size]
theorem rIdxI {e : TypeId} {z : Value} {by_ : Nat} {A : Option Addr} {n c : Nat} {i : Int} {xs : List Int} (ho : o.op = .indexAddr t x y) [h : SlTy P t e z by_] (hx : ev L x = some (.slice A n c)) (hy : ev L y = some (.int .i64 i)) [hr : Rd F A (ints xs)] (h0 : 0 ≤ i) (h1 : i < n) (h2 : i < xs.length) :
  Stl P N M w0 o L F (.pointer (some ((A.getD a0).add i.toNat))) := rIdx ho (h := h) hx hy (hr := hr) h0 h1 (by simpa using h2)
theorem rIdxB {e : TypeId} {z : Value} {by_ : Nat} {A : Option Addr} {n c : Nat} {i : Int} {xs : List Bool} (ho : o.op = .indexAddr t x y) [h : SlTy P t e z by_] (hx : ev L x = some (.slice A n c)) (hy : ev L y = some (.int .i64 i)) [hr : Rd F A (bools xs)] (h0 : 0 ≤ i) (h1 : i < n) (h2 : i < xs.length) :
  Stl P N M w0 o L F (.pointer (some ((A.getD a0).add i.toNat))) := rIdx ho (h := h) hx hy (hr := hr) h0 h1 (by simpa using h2)
theorem load_cell {w : World} {ad : Addr} (h : ScTy P t) (hc : w.cell? ad = some v) : (Instr.loadAt t (.pointer (some ad))).run P w = .ok v w := by
 obtain ⟨d, hd, hn⟩ := h.und
 have hag : (isAgg t).run P w = .ok false w := by
  simp only [isAgg, Sem.run_bind, run_und hd, Result.andThen_ok]
  cases d <;> first | exact hn.elim | rfl
 simp [Instr.loadAt, Instr.sureAddr, loadVar, hag, hc]
theorem rLdI {A : Option Addr} {j : Nat} {xs : List Int} (ho : o.op = .load t x) [h : ScTy P t] (hx : ev L x = some (.pointer (some ((A.getD a0).add j)))) [hr : Rd F A (ints xs)] (hj : j < xs.length) : Stl P N M w0 o L F (.int .i64 (xs.getD j 0)) := fun a w hl hm => by
 obtain ⟨ad, rfl, hc⟩ := hr.rd M w0 w hm j (by simpa using hj)
 have hc' : w.cell? (ad.add j) = some (.int .i64 (xs.getD j 0)) := by rw [hc]; simp [ints, hj]
 have := load_cell (P := P) (t := t) h hc'
 simp only [execOp, ho, hl.eval hx, Option.getD_some, Sem.run_bind, this, Result.andThen_ok, Sem.run_pure]
theorem rLdB {A : Option Addr} {j : Nat} {xs : List Bool} (ho : o.op = .load t x) [h : ScTy P t] (hx : ev L x = some (.pointer (some ((A.getD a0).add j)))) [hr : Rd F A (bools xs)] (hj : j < xs.length) : Stl P N M w0 o L F (.bool (xs.getD j false)) := fun a w hl hm => by
 obtain ⟨ad, rfl, hc⟩ := hr.rd M w0 w hm j (by simpa using hj)
 have hc' : w.cell? (ad.add j) = some (.bool (xs.getD j false)) := by rw [hc]; simp [bools, hj]
 have := load_cell (P := P) (t := t) h hc'
 simp only [execOp, ho, hl.eval hx, Option.getD_some, Sem.run_bind, this, Result.andThen_ok, Sem.run_pure]
theorem rLdV {A : Option Addr} {j : Nat} {vs : List Value} (ho : o.op = .load t x) [h : ScTy P t] (hx : ev L x = some (.pointer (some ((A.getD a0).add j)))) [hr : Rd F A vs] (hj : vs[j]? = some v) : Stl P N M w0 o L F v := fun a w hl hm => by
 obtain ⟨hj1, hj2⟩ := List.getElem?_eq_some_iff.1 hj
 obtain ⟨ad, rfl, hc⟩ := hr.rd M w0 w hm j hj1
 rw [hj2] at hc
 have := load_cell (P := P) (t := t) h hc
 simp only [execOp, ho, hl.eval hx, Option.getD_some, Sem.run_bind, this, Result.andThen_ok, Sem.run_pure]
theorem rFld {p : Addr} {f off : Nat} (ho : o.op = .fieldAddr t x f) [h : FdTy P t f off] (hx : ev L x = some (.pointer (some p))) : Stl P N M w0 o L F (.pointer (some (p.add off))) := fun a w hl _ => by
 obtain ⟨fs, fd, h1, h2, rfl, i, h3, h4⟩ := h.fd
 simp [execOp, ho, hl.eval hx, Instr.fieldAt, run_und h1, h2, Instr.sureAddr, fieldPlace, sizeOf, typeInfo, h3, h4]
theorem rLdF {p : Addr} {j : Nat} {vs : List Value} (ho : o.op = .load t x) [h : ScTy P t] (hx : ev L x = some (.pointer (some (p.add j)))) [hr : Rd F (some p) vs] (hj : vs[j]? = some v) : Stl P N M w0 o L F v :=
 rLdV (A := some p) ho (h := h) hx (hr := hr) hj
theorem rLd0 {p : Addr} {vs : List Value} (ho : o.op = .load t x) [h : ScTy P t] (hx : ev L x = some (.pointer (some p))) [hr : Rd F (some p) (v :: vs)] : Stl P N M w0 o L F v := fun a w hl hm => by
 obtain ⟨ad, h1, hc⟩ := hr.rd M w0 w hm 0 (by simp)
 simp only [Option.some.injEq] at h1
 subst h1
 have hc' : w.cell? p = some v := by simpa [Addr.add] using hc
 have := load_cell (P := P) (t := t) h hc'
 simp only [execOp, ho, hl.eval hx, Sem.run_bind, this, Result.andThen_ok, Sem.run_pure]
theorem loadCellsFrom_ok {w : World} {ad : Addr} : ∀ (vs : List Value) (i : Nat) (acc : Array Value), (∀ (j : Nat) (hj : j < vs.length), w.cell? (ad.add (i + j)) = some vs[j]) → (loadCellsFrom ad i vs.length acc).run P w = .ok (acc ++ vs.toArray) w
 | [], i, acc, _ => by simp [loadCellsFrom]
 | v :: vs, i, acc, h => by
  have h0 := h 0 (by simp)
  simp only [Nat.add_zero, List.getElem_cons_zero] at h0
  simp only [List.length_cons, loadCellsFrom, Sem.run_bind, run_load, h0, Result.andThen_ok]
  rw [loadCellsFrom_ok vs (i + 1) (acc.push v) (fun j hj => by have := h (j + 1) (by simpa using hj); simpa [Nat.add_assoc, Nat.add_comm 1 j] using this)]
  simp
theorem rLdS {p : Addr} {n : Nat} {vs : List Value} (ho : o.op = .load t x) [h : AgTy P t n] (hx : ev L x = some (.pointer (some p))) [hr : Rd F (some p) vs] (hn : vs.length = n) : Stl P N M w0 o L F (.agg vs.toArray) := fun a w hl hm => by
 obtain ⟨fs, hu⟩ := h.und
 have hs := hr.rd M w0 w hm
 have hag : (isAgg t).run P w = .ok true w := by simp [isAgg, run_und hu]
 have hld : (loadCells p n).run P w = .ok vs.toArray w := by
  subst hn
  have := loadCellsFrom_ok (P := P) (w := w) (ad := p) vs 0 #[] (fun j hj => by
   obtain ⟨ad, h1, hc⟩ := hs j hj
   simp only [Option.some.injEq] at h1
   subst h1
   simpa using hc)
  simpa [loadCells] using this
 simp [execOp, ho, hl.eval hx, Instr.loadAt, Instr.sureAddr, loadVar, hag, run_size1 h.inf, hld]
theorem rMax {m n : Int} {tys : Array TypeId} (ho : o.op = .call { callee := .builtin .max, args := #[x, y], argTypes := tys }) (hx : ev L x = some (.int .i64 m)) (hy : ev L y = some (.int .i64 n)) : Stl P N M w0 o L F (.int .i64 (max m n)) := stl_pure fun a hl => by
 have : (if n > m then n else m) = max m n := by omega
 simp [execOp, ho, resolve, invoke, builtin, Builtin.max_, Builtin.max2, hl.eval hx, hl.eval hy, this]
theorem rNil {p : Addr} (ho : o.op = .nilCheck x) (hx : ev L x = some (.pointer (some p))) : Stl P N M w0 o L F (.pointer (some p)) := stl_pure fun a hl => by
 simp [execOp, ho, hl.eval hx]
end
end Go.Proofs.YtdkahdehodopoaaGreat

namespace Go.Proofs.YtdkahdehodopoaaGreat
open Go.RowKit
def Enters (P : Program) (f : FuncId) : Prop := ∀ (args : Array Value) (w : World), (callFunc f args).run P w = .ok (.enter f args) w
theorem enters_of {P : Program} {f : FuncId} {fn : Func} (h : P.funcs[f]? = some fn) (hn : (fn.name == "runtime.NumGoroutine") = false) (hb : fn.body.isNone = false) : Enters P f := fun args w => by
 simp only [callFunc, Sem.run_bind, run_program, Result.andThen_ok, h]
 simp [hn, hb]
structure Pure (P : Program) (f : FuncId) (args : Array Value) (G : List Chunk) (R : Value → List Chunk → Prop) : Prop where
 ent : Enters P f
 run : ∀ w, (∀ c ∈ G, c.sat w) → Calls P f args w (fun e w' => ∃ v Fo, e = .returned v ∧ Ext w w' ∧ R v Fo ∧ (∀ c ∈ Fo, c.sat w' ∧ ∀ b, c.foot b → w.heap.size ≤ b) ∧ Fo.Pairwise Chunk.sep)
theorem Pure.mono {P : Program} {f : FuncId} {args : Array Value} {G : List Chunk} {R R' : Value → List Chunk → Prop} (h : Pure P f args G R) (hr : ∀ v Fo, R v Fo → R' v Fo) : Pure P f args G R' :=
 ⟨h.ent, fun w hg => (h.run w hg).mono fun _ _ ⟨v, Fo, h1, h2, h3, h4, h5⟩ => ⟨v, Fo, h1, h2, hr _ _ h3, h4, h5⟩⟩
def isV (v : Value) : Value → List Chunk → Prop := fun u Fo => u = v ∧ Fo = []
def NoEx : List Chunk → Prop
 | [] => True
 | c :: r => ¬ c.excl ∧ NoEx r
theorem NoEx.mem : ∀ {G : List Chunk}, NoEx G → ∀ c ∈ G, ¬ c.excl
 | _ :: _, h, c, hc => by
  rcases List.mem_cons.1 hc with rfl | hc
  ·exact h.1
  ·exact NoEx.mem h.2 c hc
def AllEx : List Chunk → Prop
 | [] => True
 | c :: r => c.excl ∧ AllEx r
theorem AllEx.mem : ∀ {G : List Chunk}, AllEx G → ∀ c ∈ G, c.excl
 | _ :: _, h, c, hc => by
  rcases List.mem_cons.1 hc with rfl | hc
  ·exact h.1
  ·exact AllEx.mem h.2 c hc
def numb : Nat → List Value → Fr
 | _, [] => []
 | k, v :: r => (k, v) :: numb (k + 1) r
theorem numb_get : ∀ (l : List Value) (k t : Nat) (v : Value), Fr.get (numb k l) t = some v → k ≤ t ∧ l[t - k]? = some v
 | [], _, _, _, h => by simp [numb, Fr.get] at h
 | u :: r, k, t, v, h => by
  simp only [numb, Fr.get] at h
  by_cases he : k = t
  ·subst he
   have : Nat.beq k k = true := by simp
   rw [this] at h
   simpa using h
  ·have : Nat.beq k t = false := Bool.eq_false_iff.2 (fun h => he (Nat.eq_of_beq_eq_true h))
   rw [this] at h
   obtain ⟨h1, h2⟩ := numb_get r (k + 1) t v h
   refine ⟨by omega, ?_⟩
   rw [show t - k = (t - (k + 1)) + 1 by omega]
   simpa using h2
def resL (L : Fr) : List ResultVar → Option (List Value)
 | [] => some []
 | .tmp t :: r => match Fr.get L t, resL L r with
  | some v, some vs => some (v :: vs)
  | _, _ => none
 | .cell _ _ :: _ => none
def resV (L : Fr) (rs : Array ResultVar) : Option Value := match resL L rs.toList with
 | some [v] => some v
 | some vs => some (.tuple vs.toArray)
 | none => none
theorem resL_ok {P : Program} {N : NB} {a : Act} {L : Fr} {w : World} (hl : Holds N a L) : ∀ (rs : List ResultVar) (vs : List Value), resL L rs = some vs →
  (rs.mapM (fun r => match r with | .tmp t => pure (a.tmps.getD t undef) | .cell b t => do loadVar t (← asAddr (a.tmps.getD b undef)) : ResultVar → Sem Value)).run P w = .ok vs w
 | [], vs, h => by simp [resL] at h; subst h; rfl
 | .tmp t :: r, vs, h => by
  simp only [resL] at h
  split at h
  ·rename_i v us h1 h2
   simp only [Option.some.injEq] at h
   subst h
   have := resL_ok (P := P) (w := w) hl r us h2
   simp only [List.mapM_cons, Sem.run_bind, Sem.run_pure, Result.andThen_ok, this, (hl.get t v h1).1]
  ·cases h
 | .cell _ _ :: _, vs, h => by simp [resL] at h
theorem resV_ok {P : Program} {N : NB} {fn : Func} {a : Act} {L : Fr} {w : World} {v : Value} (hl : Holds N a L) (h : resV L fn.results = some v) : (results fn a.tmps).run P w = .ok v w := by
 unfold resV at h
 have hm : ∀ vs, resL L fn.results.toList = some vs → (results fn a.tmps).run P w = .ok (if h : vs.toArray.size = 1 then vs.toArray[0] else .tuple vs.toArray) w := fun vs hv => by
  have h1 := resL_ok (P := P) (w := w) hl _ vs hv
  have h2 : (fn.results.mapM (fun r => match r with | .tmp t => pure (a.tmps.getD t undef) | .cell b t => do loadVar t (← asAddr (a.tmps.getD b undef)) : ResultVar → Sem Value)).run P w = .ok vs.toArray w := by
   rw [Array.mapM_eq_mapM_toList]
   simp only [Sem.run_map, h1, Result.andThen_ok]
  unfold results
  simp only [Sem.run_bind]
  erw [h2]
  rfl
 cases hr : resL L fn.results.toList with
 | none => simp [hr] at h
 | some vs =>
  rw [hm vs hr]
  rw [hr] at h
  match vs, h with
  | [], h => simp at h; subst h; rfl
  | [u], h => simp at h; subst h; rfl
  | u :: u' :: r, h => simp at h; subst h; rfl
def retQ (rs : Array ResultVar) (R : Value → List Chunk → Prop) (e : Exit) (L : Fr) (F : List Chunk) : Prop :=
 (match e with | .normal => True | .ret => True | _ => False) ∧ ∃ v Fo, resV L rs = some v ∧ R v Fo ∧ CSub F Fo ∧ AllEx Fo
theorem unmark {P : Program} {fn : Func} {tmps : Array Value} {R : Ending → World → Prop} : ∀ (ds : List Nat) (w : World), ds.Nodup → (∀ D ∈ ds, w.heap[D]? = some (.deferred (some []))) →
  (∀ w' : World, w'.os = w.os → w'.tape = w.tape → w'.output = w.output → w'.heap.size = w.heap.size → (∀ k, k ∉ ds → w'.heap[k]? = w.heap[k]?) → LeavesInM (WR none) 2 P fn tmps R [] .returning w') →
  LeavesInM (WR none) 2 P fn tmps R (dfs ds) .returning w
 | [], w, _, _, h => h w rfl rfl rfl rfl (fun _ _ => rfl)
 | D :: ds, w, hn, hm, h => by
  obtain ⟨hnD, hnd⟩ := List.nodup_cons.1 hn
  refine ⟨by simp, .inl ⟨D, w.putObj D (.deferred none), rfl, run_takeDeferred (hm D (List.mem_cons_self ..)), ?_⟩⟩
  refine unmark ds _ hnd (fun E hE => ?_) (fun w' h1 h2 h3 h4 h5 => h w' h1 h2 h3 (by simpa using h4) (fun k hk => ?_))
  ·have hne : E ≠ D := fun e => by subst e; exact hnD hE
   rw [World.putObj_heap_other hne]
   exact hm E (List.mem_cons_of_mem _ hE)
  ·rw [h5 k (fun hk' => hk (List.mem_cons_of_mem _ hk'))]
   have hne : k ≠ D := fun e => by subst e; exact hk (List.mem_cons_self ..)
   exact World.putObj_heap_other hne
theorem enter_holds {args : List Value} {N n : Nat} (hn : n = N) (hle : args.length ≤ N) : Holds ⟨N, []⟩ { tmps := args.toArray ++ Array.replicate (n - args.toArray.size) undef, defers := [] } (numb 0 args) := by
 subst hn
 refine ⟨by simp; omega, rfl, fun t v hv => ?_⟩
 obtain ⟨_, h2⟩ := numb_get args 0 t v hv
 simp only [Nat.sub_zero] at h2
 have hlt : t < args.length := (List.getElem?_eq_some_iff.1 h2).1
 refine ⟨?_, Nat.lt_of_lt_of_le hlt hle⟩
 rw [Array.getD_eq_getD_getElem?, Array.getElem?_append_left (by simpa using hlt)]
 simp [h2]
theorem enter_mem {G : List Chunk} {w : World} (hG : NoEx G) (hs : ∀ c ∈ G, c.sat w) : Mem (fun _ => False) w w G :=
 ⟨⟨rfl, rfl, rfl, Nat.le_refl _, fun _ _ _ => rfl⟩, hs, by
  refine List.Pairwise.imp_of_mem (R := fun _ _ => True) (fun {c d} hc hd _ => fun hex => (hex.elim (hG.mem c hc) (hG.mem d hd)).elim) ?_
  exact List.pairwise_of_forall (fun _ _ => trivial), fun c hc hex => absurd hex (hG.mem c hc)⟩
theorem leave {P : Program} {fn : Func} {N : Nat} {w w' : World} {ds : List Nat} {M1 : Nat → Prop} {w1 : World} {F' Fo : List Chunk} {a' : Act} {R : Value → List Chunk → Prop} {v : Value} {L' : Fr}
  (hb : Bs (fun _ => False) w M1 w1 ds) (h1 : Holds ⟨N, ds⟩ a' L') (h2 : Mem M1 w1 w' F') (hres : ∀ w2 : World, (∀ c ∈ F', c.sat w2) → Mem (fun _ => False) w w2 F' → (results fn a'.tmps).run P w2 = .ok v w2)
  (hR : R v Fo) (hsub : CSub F' Fo) (hall : AllEx Fo) :
  LeavesInM (WR none) 2 P fn a'.tmps (fun e w' => ∃ v Fo, e = .returned v ∧ Ext w w' ∧ R v Fo ∧ (∀ c ∈ Fo, c.sat w' ∧ ∀ b, c.foot b → w.heap.size ≤ b) ∧ Fo.Pairwise Chunk.sep) a'.defers .returning w' := by
 rw [h1.defers]
 refine unmark ds w' hb.nd (fun D hD => (hb.marks h2 D hD).2.2) (fun w2 e1 e2 e3 e4 e5 => ?_)
 have ht := hb.total h2
 have hsat : ∀ c ∈ F', c.sat w2 := fun c hc => c.loc w' w2 (fun b hbf => e5 b (fun hD => by
  obtain ⟨o, ho, hoc⟩ := c.cel w' b (ht.sat c hc) hbf
  rw [(hb.marks h2 b hD).2.2] at ho
  simp only [Option.some.injEq] at ho
  subst ho
  cases hoc)) (ht.sat c hc)
 have hm2 : Mem (fun _ => False) w w2 F' := ⟨⟨e1.trans ht.upd.os, e2.trans ht.upd.tape, e3.trans ht.upd.output, by rw [e4]; exact ht.upd.size, fun k hk hf => by
  rw [e5 k (fun hD => by have := (hb.marks h2 k hD).1; omega)]
  exact ht.upd.block k hk hf⟩, hsat, ht.sep, ht.own⟩
 have hmo := hsub.mem hm2
 exact ⟨v, hres w2 hsat hm2, v, Fo, rfl, hmo.upd.ext, hR, fun c hc => ⟨hmo.sat c hc, fun b hb => (hmo.own c hc (hall.mem c hc) b hb).resolve_right id⟩, hmo.sep⟩
theorem pure_of {P : Program} {f : FuncId} {fn : Func} {c : Code} {args : List Value} {G : List Chunk} {R : Value → List Chunk → Prop} (N : Nat) (hf : P.funcs[f]? = some fn) (hb : fn.body = some c) (hn : fn.ntmps = N) (hle : Nat.ble args.length N = true) (he : Enters P f) (hG : NoEx G)
  (h : ∀ w0, Tr P ⟨N, none⟩ (fun _ => False) w0 c (numb 0 args) G (retQ fn.results R)) : Pure P f args.toArray G R := ⟨he, fun w hs => by
 refine (callsIn_WR (rd := none) (n := 2)).1 (callsIn_of_wp_marks hf hb trivial ?_)
 refine wpIn_mono (h w [] (fun _ => False) w (Bs.refl _ _) _ w (enter_holds hn (Nat.le_of_ble_eq_true hle)) (enter_mem hG hs)) fun e a' w' ⟨ds, M1, w1, hb, L', F', h1, h2, hq⟩ => ?_
 obtain ⟨hq1, v, Fo, hv, hR, hsub, hall⟩ := hq
 have hend := leave (fn := fn) (P := P) (R := R) hb h1 h2 (fun w2 _ _ => resV_ok h1 hv) hR hsub hall
 cases e with
 | normal => exact hend
 | ret => exact hend
 | _ => exact hq1.elim⟩
section
variable {P : Program} {N : NB} {M : Nat → Prop} {w0 : World} {L : Fr} {F : List Chunk} {K : Fr → List Chunk → Prop} {b : Bool} {o : Oper} {v : Value} {x y : Operand} {t t' : TypeId}
theorem eff_value {d : Nat} (hdd : o.dst = some d) (hd : Nat.ble (d + 1) N.n = true) (h : ∀ a w, Holds N a L → Mem M w0 w F → ∃ v w', (execOp a.eval o).run P w = .ok (.value v) w' ∧ Ext w w' ∧ ∃ F', Mem M w0 w' F' ∧ K (addL d v L) F') : Eff P N M w0 b o L F K := fun a w hl hm => by
 obtain ⟨v, w', h1, h2, F', h3, h4⟩ := h a w hl hm
 simp only [Oper.wp, h1, Oper.upon_value]
 exact ⟨fun _ => h2, _, _, hl.add hdd hd v, h3, h4⟩
theorem eCall {f : FuncId} {xs : List Operand} {tys : Array TypeId} {vals : List Value} {G : List Chunk} {R : Value → List Chunk → Prop} (ho : o.op = .call { callee := .value (.func f), args := xs.toArray, argTypes := tys }) {d : Nat} (hdd : o.dst = some d) (hd : Nat.ble (d + 1) N.n = true)
  (hs : Pure P f vals.toArray G R) (hx : EvL L xs vals) [he : Ent F G] (hK : ∀ v Fo, R v Fo → K (addL d v L) (Fo ++ F)) : Eff P N M w0 b o L F K := fun a w hl hm => by
 have hargs : (xs.toArray.map a.eval) = vals.toArray := by simp [hl.evalL hx]
 have hrun : (execOp a.eval o).run P w = .ok (.enter f vals.toArray) w := by
  simp only [execOp, ho, resolve, hargs, Sem.run_bind, Deferred.ofValue, Act.eval, Sem.run_pure, Result.andThen_ok, invoke, Array.append_empty, Array.empty_append, hs.ent _ _]
 simp only [Oper.wp, hrun, Oper.upon_enter]
 refine (hs.run w (he.ent M w0 w hm)).mono fun e w' ⟨v, Fo, h1, h2, h3, h4, h5⟩ => ?_
 subst h1
 exact ⟨fun _ => h2, _, _, hl.add hdd hd v, hm.add h2 h4 h5, hK v Fo h3⟩
theorem eCallV {f : FuncId} {xs : List Operand} {tys : Array TypeId} {vals : List Value} {G : List Chunk} (ho : o.op = .call { callee := .value (.func f), args := xs.toArray, argTypes := tys }) {d : Nat} (hdd : o.dst = some d) (hd : Nat.ble (d + 1) N.n = true)
  (hs : Pure P f vals.toArray G (isV v)) (hx : EvL L xs vals) [he : Ent F G] (hK : K (addL d v L) F) : Eff P N M w0 b o L F K :=
 eCall ho hdd hd hs hx (he := he) fun u Fo ⟨h1, h2⟩ => by subst h1; subst h2; exact hK
def one (R : Value → Chunk → Prop) : Value → List Chunk → Prop := fun u Fo => ∃ c, Fo = [c] ∧ R u c
theorem eCall1 {f : FuncId} {xs : List Operand} {tys : Array TypeId} {vals : List Value} {G : List Chunk} {R : Value → Chunk → Prop} (ho : o.op = .call { callee := .value (.func f), args := xs.toArray, argTypes := tys }) {d : Nat} (hdd : o.dst = some d) (hd : Nat.ble (d + 1) N.n = true)
  (hs : Pure P f vals.toArray G (one R)) (hx : EvL L xs vals) [he : Ent F G] (hK : ∀ v c, R v c → K (addL d v L) (c :: F)) : Eff P N M w0 b o L F K :=
 eCall ho hdd hd hs hx (he := he) fun u Fo ⟨c, h1, h2⟩ => by subst h1; exact hK u c h2
def val (R : Value → Prop) : Value → List Chunk → Prop := fun u Fo => Fo = [] ∧ R u
theorem eCall0 {f : FuncId} {xs : List Operand} {tys : Array TypeId} {vals : List Value} {G : List Chunk} {R : Value → Prop} (ho : o.op = .call { callee := .value (.func f), args := xs.toArray, argTypes := tys }) {d : Nat} (hdd : o.dst = some d) (hd : Nat.ble (d + 1) N.n = true)
  (hs : Pure P f vals.toArray G (val R)) (hx : EvL L xs vals) [he : Ent F G] (hK : ∀ v, R v → K (addL d v L) F) : Eff P N M w0 b o L F K :=
 eCall ho hdd hd hs hx (he := he) fun u Fo ⟨h1, h2⟩ => by subst h1; exact hK u h2
theorem newBlk (w : World) (t : TypeId) (vs : List Value) : (blk ⟨w.heap.size, 0, none⟩ t vs).sat (w.alloc (.cells vs.toArray t)) := ⟨rfl, heap_alloc_new w _⟩
theorem alloc_ext (w : World) (o : Obj) : Ext w (w.alloc o) := (Below.refl _ _).alloc (Nat.le_refl _) o
theorem eBox {vs : List Value} (ho : o.op = .box t x) {d : Nat} (hdd : o.dst = some d) (hd : Nat.ble (d + 1) N.n = true) (hx : ev L x = some v) (hv : v.cells = vs.toArray) (hK : ∀ p : Addr, K (addL d (.pointer (some p)) L) (blk p t vs :: F)) : Eff P N M w0 b o L F K := eff_value hdd hd fun a w hl hm => by
 refine ⟨_, _, by simp [execOp, ho, hl.eval hx, Instr.box, newVar, newRow, newObj, Sem.run, hv]; rfl, alloc_ext w _, _, hm.add (G := [blk ⟨w.heap.size, 0, none⟩ t vs]) (alloc_ext w _) (fun c hc => ?_) (List.pairwise_singleton _ _), hK _⟩
 simp only [List.mem_singleton] at hc
 subst hc
 exact ⟨newBlk w t vs, fun b hb => by simp only [blk] at hb; omega⟩
class ZrTy (P : Program) (t : TypeId) (vs : outParam (List Value)) : Prop where
 zr : ∃ z, (P.info? t).bind (·.zero) = some z ∧ z.cells = vs.toArray
theorem eAlloc {vs : List Value} (ho : o.op = .alloc t) [h : ZrTy P t vs] {d : Nat} (hdd : o.dst = some d) (hd : Nat.ble (d + 1) N.n = true) (hK : ∀ p : Addr, K (addL d (.pointer (some p)) L) (blk p t vs :: F)) : Eff P N M w0 b o L F K := eff_value hdd hd fun a w hl hm => by
 obtain ⟨z, hz, hv⟩ := h.zr
 have hzr : (zeroValue t).run P w = .ok z w := by
  cases hi : P.info? t with
  | none => simp [hi] at hz
  | some i => simp only [hi, Option.bind_some] at hz; simp [zeroValue, typeInfo, hi, hz]
 refine ⟨_, _, by simp [execOp, ho, Instr.alloc, hzr, newVar, newRow, newObj, Sem.run, hv]; rfl, alloc_ext w _, _, hm.add (G := [blk ⟨w.heap.size, 0, none⟩ t vs]) (alloc_ext w _) (fun c hc => ?_) (List.pairwise_singleton _ _), hK _⟩
 simp only [List.mem_singleton] at hc
 subst hc
 exact ⟨newBlk w t vs, fun b hb => by simp only [blk] at hb; omega⟩
end
end Go.Proofs.YtdkahdehodopoaaGreat

namespace Go.Proofs.YtdkahdehodopoaaGreat
open Go.RowKit
theorem zb1 {p : Prop} [Decidable p] : (decide p = true) = p := decide_eq_true_eq
theorem zb2 {p : Prop} [Decidable p] : (decide p = false) = ¬ p := propext decide_eq_false_iff_not
theorem zb3 {a b : Bool} : ((a || b) = true) = (a = true ∨ b = true) := Bool.or_eq_true a b
theorem zb4 {a b : Bool} : ((a && b) = true) = (a = true ∧ b = true) := Bool.and_eq_true a b
theorem zb5 {a b : Bool} : ((a || b) = false) = (a = false ∧ b = false) := propext (Bool.or_eq_false_iff)
theorem zb6 {a b : Bool} : ((a && b) = false) = (a = false ∨ b = false) := propext (Bool.and_eq_false_iff)
theorem zb7 {a : Bool} : ((!a) = true) = (a = false) := propext (by simp)
theorem zb8 {a : Bool} : ((!a) = false) = (a = true) := propext (by simp)
theorem zb9 {a b : Bool} : ((a == b) = true) = (a = b) := propext (by simp)
theorem zb10 {p : Prop} : (¬ ¬ p) = p := propext Classical.not_not
theorem zbA : (∀ (p : Prop) [Decidable p], (decide p = true) = p) ∧ (∀ (p : Prop) [Decidable p], (decide p = false) = ¬ p) ∧ (∀ a b : Bool, ((a || b) = true) = (a = true ∨ b = true)) ∧ (∀ a b : Bool, ((a && b) = true) = (a = true ∧ b = true)) ∧ (∀ a b : Bool, ((a || b) = false) = (a = false ∧ b = false)) ∧ (∀ a b : Bool, ((a && b) = false) = (a = false ∨ b = false)) ∧ (∀ a : Bool, ((!a) = true) = (a = false)) ∧ (∀ a : Bool, ((!a) = false) = (a = true)) ∧ (∀ a b : Bool, ((a == b) = true) = (a = b)) ∧ (∀ p : Prop, (¬ ¬ p) = p) := ⟨fun _ _ => zb1, fun _ _ => zb2, fun _ _ => zb3, fun _ _ => zb4, fun _ _ => zb5, fun _ _ => zb6, fun _ => zb7, fun _ => zb8, fun _ _ => zb9, fun _ => zb10⟩
section
variable {P : Program} {N : NB} {M : Nat → Prop} {w0 : World} {L : Fr} {F F' : List Chunk} {K : Fr → List Chunk → Prop} {b : Bool} {o : Oper} {v z : Value} {x y : Operand} {t t' e : TypeId} {bytes : Nat}
theorem ext_grown {w w' : World} (h : w.grownBy w' none) : Ext w w' := ⟨h.os, h.tape, h.output, h.size, fun k hk => h.block k hk (by simp)⟩
theorem new_ow {w w' : World} {vs : List Value} {cap : Nat} (hx : Ext w w') (hm : Mem M w0 w F) (h : w'.ownsRow 0 e 1 (.slice (some ⟨w.heap.size, 0, none⟩) vs.length cap) vs.length vs) : Mem M w0 w' (ow (some ⟨w.heap.size, 0, none⟩) e cap vs :: F) :=
 hm.add (G := [ow (some ⟨w.heap.size, 0, none⟩) e cap vs]) hx (fun c hc => by
  simp only [List.mem_singleton] at hc
  subst hc
  refine ⟨h, fun b hb => ?_⟩
  obtain ⟨ad, h1, h2⟩ := hb
  simp only [Option.some.injEq] at h1
  subst h1
  simp only at h2
  omega) (List.pairwise_singleton _ _)
theorem eMake {n : Int} (ho : o.op = .makeSlice t x y) {d : Nat} (hdd : o.dst = some d) (hd : Nat.ble (d + 1) N.n = true) [h : SlTy P t e z bytes] (hx : ev L x = some (.int .i64 n)) (hy : ev L y = some (.int .i64 n)) (h0 : 0 ≤ n) (hb : bytes * n.toNat ≤ 281474976710656) (h63 : n ≤ 9223372036854775807)
  (hK : ∀ A : Option Addr, K (addL d (.slice A n.toNat n.toNat) L) (ow A e n.toNat (List.replicate n.toNat z) :: F)) : Eff P N M w0 b o L F K := eff_value hdd hd fun a w hl hm => by
 obtain ⟨i, hi, hz, hs, hby⟩ := info_parts h.inf
 obtain ⟨k, rfl⟩ := Int.eq_ofNat_of_zero_le h0
 simp only [Int.toNat_natCast] at hb hK
 obtain ⟨w', h1, h2, h3⟩ := run_make_full (P := P) w 0 t e i z 1 h.und hi hz hs .i64 .i64 k (by rw [hby]; exact hb) (by simp only [maxLen]; omega) (Nat.zero_le _)
 have hx' := ext_grown h3
 rw [h.one, Nat.mul_one, toList_madeCells_one] at h2
 have hm' := new_ow (e := e) (vs := List.replicate k z) (cap := k) hx' hm (by simpa using h2)
 refine ⟨_, w', ?_, hx', _, hm', hK _⟩
 simp only [execOp, ho, hl.eval hx, hl.eval hy, Sem.run_bind, h1, Result.andThen_ok, Sem.run_pure]
theorem replicate_ints (n : Nat) : List.replicate n (Value.int .i64 0) = ints (List.replicate n 0) := by simp [ints]
theorem replicate_bools (n : Nat) : List.replicate n (Value.bool false) = bools (List.replicate n false) := by simp [bools]
theorem eMakeI {n : Int} (ho : o.op = .makeSlice t x y) {d : Nat} (hdd : o.dst = some d) (hd : Nat.ble (d + 1) N.n = true) [h : SlTy P t e (.int .i64 0) bytes] (hx : ev L x = some (.int .i64 n)) (hy : ev L y = some (.int .i64 n)) (h0 : 0 ≤ n) (hb : bytes * n.toNat ≤ 281474976710656) (h63 : n ≤ 9223372036854775807)
  (hK : ∀ A : Option Addr, K (addL d (.slice A n.toNat n.toNat) L) (ow A e n.toNat (ints (List.replicate n.toNat 0)) :: F)) : Eff P N M w0 b o L F K := eMake ho hdd hd (h := h) hx hy h0 hb h63 (fun A => by rw [replicate_ints]; exact hK A)
theorem eMakeB {n : Int} (ho : o.op = .makeSlice t x y) {d : Nat} (hdd : o.dst = some d) (hd : Nat.ble (d + 1) N.n = true) [h : SlTy P t e (.bool false) bytes] (hx : ev L x = some (.int .i64 n)) (hy : ev L y = some (.int .i64 n)) (h0 : 0 ≤ n) (hb : bytes * n.toNat ≤ 281474976710656) (h63 : n ≤ 9223372036854775807)
  (hK : ∀ A : Option Addr, K (addL d (.slice A n.toNat n.toNat) L) (ow A e n.toNat (bools (List.replicate n.toNat false)) :: F)) : Eff P N M w0 b o L F K := eMake ho hdd hd (h := h) hx hy h0 hb h63 (fun A => by rw [replicate_bools]; exact hK A)
theorem run_lit (w : World) {k : Nat} {pv : Array (Nat × Value)} {vs : List Value} (h : SlTy P t e z bytes) (hk0 : 0 < k) (hk : k ≤ 1000)
  (hf : Instr.fill (fun i => some (i * 1, 1)) ((Array.range (k * 1)).map (fun j => (#[z] : Array Value)[j % (#[z] : Array Value).size]!)) pv.toList = some vs.toArray) :
  (Instr.buildSlice t k pv).run P w = .ok (.slice (some ⟨w.heap.size, 0, none⟩) k k) (w.alloc (.cells vs.toArray e)) := by
 have hz : (zeroValue e).run P w = .ok z w := by
  obtain ⟨i, hi, hz, _⟩ := info_parts h.inf
  simp [zeroValue, typeInfo, hi, hz]
 have hsz := run_size1 h.size w
 have h1 : ¬ (k * 1 > 2 ^ 24) := by omega
 have h2 : ¬ (k * 1 = 0) := by omega
 unfold Instr.buildSlice
 simp only [Sem.run_bind, run_und h.und, Result.andThen_ok, hsz, h1, if_false, h2, hz, h.one, Sem.run_pure, hf]
 simp [newRow, newObj, Sem.run]
theorem range0 : (Array.range 0) = #[] := rfl
theorem run_lit0 (w : World) (h : SlTy P t e z bytes) : (Instr.buildSlice t 0 #[]).run P w = .ok (.slice (some ⟨w.heap.size, 0, none⟩) 0 0) (w.alloc (.cells #[] e)) := by
 have hsz := run_size1 h.size w
 unfold Instr.buildSlice
 simp only [Sem.run_bind, run_und h.und, Result.andThen_ok, hsz]
 simp [newRow, newObj, Sem.run, Instr.fill, range0]
theorem eLit_of {k : Nat} {parts : Array (Nat × Operand)} {vs : List Value} (ho : o.op = .buildSlice t k parts) {d : Nat} (hdd : o.dst = some d) (hd : Nat.ble (d + 1) N.n = true) (hvs : vs.length = k) (hk : k ≤ 1000)
  (hrun : ∀ a w, Holds N a L → (Instr.buildSlice t k (parts.map fun (i, x) => (i, a.eval x))).run P w = .ok (.slice (some ⟨w.heap.size, 0, none⟩) k k) (w.alloc (.cells vs.toArray e)))
  (hK : ∀ A : Option Addr, K (addL d (.slice A k k) L) (ow A e k vs :: F)) : Eff P N M w0 b o L F K := eff_value hdd hd fun a w hl hm => by
 refine ⟨_, w.alloc (.cells vs.toArray e), ?_, alloc_ext w _, _, new_ow (e := e) (vs := vs) (cap := k) (alloc_ext w _) hm ?_, hK _⟩
 ·have h1 := hrun a w hl
  simp only [execOp, ho, Sem.run_bind, h1, Result.andThen_ok, Sem.run_pure]
 ·have := World.ownsRow_lit (base := 0) (e := e) (size := 1) w vs.toArray k (Nat.zero_le _) (by simp only [maxLen]; omega) (by simpa using hvs)
  rw [hvs]
  simpa using this
theorem eLit0 (ho : o.op = .buildSlice t 0 #[]) {d : Nat} (hdd : o.dst = some d) (hd : Nat.ble (d + 1) N.n = true) [h : SlTy P t e z bytes] (hK : ∀ A : Option Addr, K (addL d (.slice A 0 0) L) (ow A e 0 [] :: F)) : Eff P N M w0 b o L F K :=
 eLit_of (e := e) (vs := []) ho hdd hd rfl (by omega) (fun a w _ => by simpa using run_lit0 (P := P) (t := t) w h) hK
theorem eLit1 {v0 : Value} (ho : o.op = .buildSlice t 1 #[(0, x)]) {d : Nat} (hdd : o.dst = some d) (hd : Nat.ble (d + 1) N.n = true) [h : SlTy P t e z bytes] (hx : ev L x = some v0) (hv : v0.cells = #[v0]) (hK : ∀ A : Option Addr, K (addL d (.slice A 1 1) L) (ow A e 1 [v0] :: F)) : Eff P N M w0 b o L F K :=
 eLit_of (e := e) (vs := [v0]) ho hdd hd rfl (by omega) (fun a w hl => by
  refine run_lit w h (by omega) (by omega) ?_
  simp [hl.eval hx, Instr.fill, hv, Array.range_succ, range0]) hK
theorem eLit2 {v0 v1 : Value} (ho : o.op = .buildSlice t 2 #[(0, x), (1, y)]) {d : Nat} (hdd : o.dst = some d) (hd : Nat.ble (d + 1) N.n = true) [h : SlTy P t e z bytes] (hx : ev L x = some v0) (hv : v0.cells = #[v0]) (hy : ev L y = some v1) (hv1 : v1.cells = #[v1]) (hK : ∀ A : Option Addr, K (addL d (.slice A 2 2) L) (ow A e 2 [v0, v1] :: F)) : Eff P N M w0 b o L F K :=
 eLit_of (e := e) (vs := [v0, v1]) ho hdd hd rfl (by omega) (fun a w hl => by
  refine run_lit w h (by omega) (by omega) ?_
  simp [hl.eval hx, hl.eval hy, Instr.fill, hv, hv1, Array.range_succ, range0]) hK
theorem eLit1I {n0 : Int} (ho : o.op = .buildSlice t 1 #[(0, x)]) {d : Nat} (hdd : o.dst = some d) (hd : Nat.ble (d + 1) N.n = true) [h : SlTy P t e z bytes] (hx : ev L x = some (.int .i64 n0)) (hK : ∀ A : Option Addr, K (addL d (.slice A 1 1) L) (ow A e 1 (ints [n0]) :: F)) : Eff P N M w0 b o L F K :=
 eLit1 ho hdd hd (h := h) hx rfl hK
theorem eLit2I {n0 n1 : Int} (ho : o.op = .buildSlice t 2 #[(0, x), (1, y)]) {d : Nat} (hdd : o.dst = some d) (hd : Nat.ble (d + 1) N.n = true) [h : SlTy P t e z bytes] (hx : ev L x = some (.int .i64 n0)) (hy : ev L y = some (.int .i64 n1)) (hK : ∀ A : Option Addr, K (addL d (.slice A 2 2) L) (ow A e 2 (ints [n0, n1]) :: F)) : Eff P N M w0 b o L F K :=
 eLit2 ho hdd hd (h := h) hx rfl hy rfl hK
theorem eLit0I (ho : o.op = .buildSlice t 0 #[]) {d : Nat} (hdd : o.dst = some d) (hd : Nat.ble (d + 1) N.n = true) [h : SlTy P t e z bytes] (hK : ∀ A : Option Addr, K (addL d (.slice A 0 0) L) (ow A e 0 (ints []) :: F)) : Eff P N M w0 b o L F K := eLit0 ho hdd hd (h := h) hK
theorem nil_mem (e : TypeId) {w : World} (hm : Mem M w0 w F) : Mem M w0 w (ow none e 0 [] :: F) := by
 refine ⟨hm.upd, fun c hc => ?_, List.pairwise_cons.2 ⟨fun c _ _ b' hb' => ?_, hm.sep⟩, fun c hc hex b' hb' => ?_⟩
 ·rcases List.mem_cons.1 hc with rfl | hc
  ·exact World.ownsRow_nil _ _ _ _
  ·exact hm.sat c hc
 ·obtain ⟨ad, h1, _⟩ := hb'; cases h1
 ·rcases List.mem_cons.1 hc with rfl | hc
  ·obtain ⟨ad, h1, _⟩ := hb'; cases h1
  ·exact hm.own c hc hex b' hb'
theorem tr_nil {N : NR} (e : TypeId) {c : Code} {Q : Exit → Fr → List Chunk → Prop} (h : Tr P N M w0 c L (ow none e 0 [] :: F) Q) : Tr P N M w0 c L F Q := fun ds M1 w1 hb a w hl hm => h ds M1 w1 hb a w hl (nil_mem e hm)
theorem tr_nilI {N : NR} (e : TypeId) {c : Code} {Q : Exit → Fr → List Chunk → Prop} (h : Tr P N M w0 c L (ow none e 0 (ints []) :: F) Q) : Tr P N M w0 c L F Q := tr_nil e h
theorem eApp {A B : Option Addr} {n m c cap : Nat} {vs ws : List Value} (ho : o.op = .call { callee := .builtin .append, args := #[x, y], argTypes := #[t, t] }) {d : Nat} (hdd : o.dst = some d) (hd : Nat.ble (d + 1) N.n = true) [h : SlTy P t e z bytes]
  (hx : ev L x = some (.slice A n cap)) (hy : ev L y = some (.slice B m c)) [hp : PkOw F A e cap vs F'] [hr : Rd F B ws] (hn : n = vs.length) (hm' : m = ws.length) (hone : ∀ u ∈ ws, u.oneCell' = true) (hb : (vs.length + ws.length) * bytes ≤ 140737488355328) (hlen : vs.length + ws.length ≤ 9223372036854775807)
  (hK : ∀ (A' : Option Addr) (cap' : Nat), K (addL d (.slice A' (vs.length + ws.length) cap') L) (ow A' e cap' (vs ++ ws) :: F')) : Eff P N M w0 false o L F K := fun a w hl hm => by
 subst hn
 subst hm'
 obtain ⟨i, hi, hz, hs, hby⟩ := info_parts h.inf
 have hmp := hm.perm hp.perm
 have hown : w.ownsRow 0 e 1 (.slice A vs.length cap) vs.length vs := hmp.sat _ (List.mem_cons_self ..)
 have hcells := hr.rd M w0 w hm
 have hlen' : (vs ++ ws).length = vs.length + ws.length := List.length_append
 have key : ∃ (A' : Option Addr) (cap' : Nat) (w' : World), (Builtin.append_ #[t, t] o.type #[.slice A vs.length cap, .slice B ws.length c]).run P w = .ok (.slice A' (vs.length + ws.length) cap') w' ∧
   w'.ownsRow 0 e 1 (.slice A' (vs.length + ws.length) cap') (vs.length + ws.length) (vs ++ ws) ∧ w.grownBy w' (Value.slice A vs.length cap).ownBlock ∧ (∀ ad, A' = some ad → A = some ad ∨ ad.block = w.heap.size) := by
  have shape : ∀ (v' : Value) (w' : World), w'.ownsRow 0 e 1 v' (vs.length + ws.length) (vs ++ ws) → (v'.ownBlock = (Value.slice A vs.length cap).ownBlock ∨ v'.ownBlock = some w.heap.size) →
    ∃ A' cap', v' = .slice A' (vs.length + ws.length) cap' ∧ (∀ ad, A' = some ad → A = some ad ∨ ad.block = w.heap.size) := by
   intro v' w' h1 h2
   rcases h1.2 with ⟨rfl, h0⟩ | ⟨g, cp, cur, rfl, _⟩
   ·exact ⟨none, 0, by rw [h0], fun ad h => by cases h⟩
   ·refine ⟨_, _, rfl, fun ad had => ?_⟩
    simp only [Option.some.injEq] at had
    subst had
    rcases h2 with h2 | h2
    ·left
     rcases hown.2 with ⟨h3, _⟩ | ⟨g', cp', cur', h3, _⟩
     ·rw [h3] at h2; simp [Value.ownBlock] at h2
     ·simp only [Value.slice.injEq] at h3
      obtain ⟨rfl, _⟩ := h3
      simp only [Value.ownBlock, Option.some.injEq] at h2
      rw [h2]
    ·right
     simpa [Value.ownBlock] using h2
  cases B with
  | none =>
   have hws : ws = [] := by
    rcases Nat.eq_zero_or_pos ws.length with h0 | h0
    ·exact List.eq_nil_of_length_eq_zero h0
    ·obtain ⟨ad, h1, _⟩ := hcells 0 h0; cases h1
   subst hws
   have hrun : (Builtin.append_ #[t, t] o.type #[.slice A vs.length cap, .slice none 0 c]).run P w = .ok (.slice A vs.length cap) w := by
    rcases hown.2 with ⟨h1, h2⟩ | ⟨g, cp, cur, h1, _, _, hnc, _⟩
    ·rw [h1]; simp [Builtin.append_, run_underlying h.und, sizeOf, typeInfo, hi, Builtin.lenOf, Builtin.firstCells]
    ·rw [h1]; simp [Builtin.append_, run_underlying h.und, sizeOf, typeInfo, hi, Builtin.lenOf, Builtin.firstCells, hnc, storeCells]
   exact ⟨A, cap, w, hrun, by simpa using hown, World.grownBy.refl w _, fun ad h => .inl h⟩
  | some ad =>
   obtain ⟨v', w', h1, h2, h3, _, h5⟩ := run_append_own_at (P := P) w 0 t o.type e i z 1 bytes h.und hi hz hs hby (by rw [h.one]; rfl) (by omega) (.slice A vs.length cap) vs.length vs hown ad ws.length c ws (by omega)
    (fun j u hu => by
     obtain ⟨hj, rfl⟩ := List.getElem?_eq_some_iff.1 hu
     obtain ⟨ad', h1, h2⟩ := hcells j hj
     simp only [Option.some.injEq] at h1
     subst h1
     exact h2) hone (by simp only [maxLen]; omega) (by simpa using hb) (Nat.zero_le _)
   obtain ⟨A', cap', rfl, h6⟩ := shape v' w' h2 h5
   exact ⟨A', cap', w', h1, h2, h3, h6⟩
 obtain ⟨A', cap', w', h1, h2, h3, h4⟩ := key
 have hrun : (execOp a.eval o).run P w = .ok (.value (.slice A' (vs.length + ws.length) cap')) w' := by
  simp only [execOp, ho, resolve, invoke, builtin, Sem.run_bind, Sem.run_pure, Result.andThen_ok, List.map_toArray, List.map_cons, List.map_nil, hl.eval hx, hl.eval hy, h1]
 simp only [Oper.wp, hrun, Oper.upon_value]
 refine ⟨fun hc => absurd hc (by simp), _, _, hl.add hdd hd _, ?_, hK A' cap'⟩
 refine hmp.change (by exact trivial) ⟨h3.os, h3.tape, h3.output, h3.size, fun k hk hc => h3.block k hk (fun hkb => hc ?_)⟩ (by show w'.ownsRow 0 e 1 (.slice A' (vs ++ ws).length cap') (vs ++ ws).length (vs ++ ws); rw [hlen']; exact h2) (fun b' hb' => ?_)
 ·cases A with
  | none => simp [Value.ownBlock] at hkb
  | some ad => exact ⟨ad, rfl, by simpa [Value.ownBlock] using hkb.symm⟩
 ·obtain ⟨ad, rfl, rfl⟩ := hb'
  rcases h4 ad rfl with h5 | h5
  ·exact .inl ⟨ad, h5, rfl⟩
  ·exact .inr (by omega)
theorem eAppI {A B : Option Addr} {n m c cap : Nat} {xs ys : List Int} (ho : o.op = .call { callee := .builtin .append, args := #[x, y], argTypes := #[t, t] }) {d : Nat} (hdd : o.dst = some d) (hd : Nat.ble (d + 1) N.n = true) [h : SlTy P t e z 8]
  (hx : ev L x = some (.slice A n cap)) (hy : ev L y = some (.slice B m c)) [hp : PkOw F A e cap (ints xs) F'] [hr : Rd F B (ints ys)] (hn : n = xs.length) (hm' : m = ys.length) (hb : xs.length + ys.length ≤ 17592186044416)
  (hK : ∀ (A' : Option Addr) (cap' : Nat), K (addL d (.slice A' (xs ++ ys).length cap') L) (ow A' e cap' (ints (xs ++ ys)) :: F')) : Eff P N M w0 false o L F K :=
 eApp ho hdd hd (h := h) hx hy (hp := hp) (hr := hr) (by simpa using hn) (by simpa using hm') (ints_oneCell .i64 ys) (by simp only [ints_length]; omega) (by simp only [ints_length]; omega) (fun A' cap' => by
  have := hK A' cap'
  rw [ints_append, List.length_append] at this
  simpa using this)
theorem eff_skip (hd : o.dst = none) (h : ∀ a w, Holds N a L → Mem M w0 w F → ∃ w', (execOp a.eval o).run P w = .ok .skip w' ∧ ∃ F', Mem M w0 w' F' ∧ K L F') : Eff P N M w0 false o L F K := fun a w hl hm => by
 obtain ⟨w', h1, F', h3, h4⟩ := h a w hl hm
 simp only [Oper.wp, h1, Oper.upon_skip]
 refine ⟨fun hc => absurd hc (by simp), L, F', ?_, h3, h4⟩
 rw [hd]; exact hl
theorem store_run {w : World} {ad : Addr} {u : Value} (h : ScTy P t) (hc : w.cell? ad = some u) (hf : w.frozen? ad = false) (hv : v.cells = #[v]) (ho : v.oneCell' = true) : (Instr.storeAt t (.pointer (some ad)) v).run P w = .ok () (w.setCell ad v) := by
 have h0 : (ad.add 0) = ad := by simp [Addr.add]
 simp only [Instr.storeAt, Instr.sureAddr, storeVar, Sem.run_bind, Sem.run_pure, Result.andThen_ok, run_size1 h.inf, hv]
 simp only [List.size_toArray, List.length_cons, List.length_nil, ne_eq, not_true_eq_false, if_false, Sem.run_bind, Sem.run_pure, storeCells, h0]
 cases v <;> simp_all [store, Sem.run, Value.oneCell'] <;> rfl
theorem eSt {A : Option Addr} {j cap : Nat} {vs : List Value} (ho : o.op = .store t x y) (hd : o.dst = none) [h : ScTy P t] (hx : ev L x = some (.pointer (some ((A.getD a0).add j)))) (hy : ev L y = some v) [hp : PkOw F A e cap vs F'] (hj : j < vs.length) (hv : v.cells = #[v]) (h1 : v.oneCell' = true)
  (hK : K L (ow A e cap (vs.set j v) :: F')) : Eff P N M w0 false o L F K := eff_skip hd fun a w hl hm => by
 have hmp := hm.perm hp.perm
 have hown : w.ownsRow 0 e 1 (.slice A vs.length cap) vs.length vs := hmp.sat _ (List.mem_cons_self ..)
 rcases hown.2 with ⟨_, h0⟩ | ⟨g, cp, cur, hv2, _⟩
 ·omega
 ·simp only [Value.slice.injEq] at hv2
  obtain ⟨rfl, _⟩ := hv2
  obtain ⟨hst, hgr⟩ := hown.stored j v
  refine ⟨w.setCell ⟨g, j, none⟩ v, ?_, _, hmp.change (by exact trivial) ⟨hgr.os, hgr.tape, hgr.output, hgr.size, fun k hk hc => hgr.block k hk (fun hkb => hc ⟨_, rfl, by simpa using hkb.symm⟩)⟩ (d := ow (some ⟨g, 0, none⟩) e cap (vs.set j v)) ?_ (fun b' hb' => .inl hb'), hK⟩
  ·have hc := hown.cellAt j (by omega)
   rw [List.getElem?_eq_getElem hj] at hc
   have := store_run (P := P) (t := t) (v := v) h hc (hown.frozenAt j) hv h1
   simp only [Option.getD_some, add_new] at hx
   simp only [execOp, ho, hl.eval hx, hl.eval hy, Sem.run_bind, this, Result.andThen_ok, Sem.run_pure]
  ·show World.ownsRow _ 0 e 1 (.slice (some ⟨g, 0, none⟩) (vs.set j v).length cap) (vs.set j v).length (vs.set j v)
   rw [List.length_set]; exact hst
theorem eStI {A : Option Addr} {j cap : Nat} {xs : List Int} {n : Int} (ho : o.op = .store t x y) (hd : o.dst = none) [h : ScTy P t] (hx : ev L x = some (.pointer (some ((A.getD a0).add j)))) (hy : ev L y = some (.int .i64 n)) [hp : PkOw F A e cap (ints xs) F'] (hj : j < xs.length)
  (hK : K L (ow A e cap (ints (xs.set j n)) :: F')) : Eff P N M w0 false o L F K := eSt ho hd (h := h) hx hy (hp := hp) (by simpa using hj) rfl rfl (by rw [← ints_set]; exact hK)
theorem eStB {A : Option Addr} {j cap : Nat} {xs : List Bool} {n : Bool} (ho : o.op = .store t x y) (hd : o.dst = none) [h : ScTy P t] (hx : ev L x = some (.pointer (some ((A.getD a0).add j)))) (hy : ev L y = some (.bool n)) [hp : PkOw F A e cap (bools xs) F'] (hj : j < xs.length)
  (hK : K L (ow A e cap (bools (xs.set j n)) :: F')) : Eff P N M w0 false o L F K := eSt ho hd (h := h) hx hy (hp := hp) (by simpa using hj) rfl rfl (by rw [← bools_set]; exact hK)
theorem blk_stored {w : World} {p : Addr} {vs : List Value} (h : (blk p e vs).sat w) (j : Nat) (u : Value) : (blk p e (vs.set j u)).sat (w.setCell ⟨p.block, j, none⟩ u) ∧ w.grownBy (w.setCell ⟨p.block, j, none⟩ u) (some p.block) :=
 ⟨⟨h.1, by have := heap_setCell_same w p.block j vs.toArray e u h.2; simpa [List.setIfInBounds_toArray] using this⟩, ⟨rfl, rfl, rfl, by simp, fun k _ hk => heap_setCell_other w ⟨p.block, j, none⟩ k u (fun e => hk (by simp [e]))⟩⟩
theorem eStF {p q : Addr} {j : Nat} {vs : List Value} (hq : q = p.add j) (ho : o.op = .store t x y) (hd : o.dst = none) [h : ScTy P t] (hx : ev L x = some (.pointer (some q))) (hy : ev L y = some v) [hp : PkBlk F p e vs F'] (hj : j < vs.length) (hv : v.cells = #[v]) (h1 : v.oneCell' = true)
  (hK : K L (blk p e (vs.set j v) :: F')) : Eff P N M w0 false o L F K := eff_skip hd fun a w hl hm => by
 subst hq
 have hmp := hm.perm hp.perm
 have hb : (blk p e vs).sat w := hmp.sat _ (List.mem_cons_self ..)
 obtain ⟨hst, hgr⟩ := blk_stored hb j v
 have hpj : p.add j = ⟨p.block, j, none⟩ := by rw [hb.1, add_new]
 rw [hpj] at hx
 refine ⟨w.setCell ⟨p.block, j, none⟩ v, ?_, _, hmp.change (by exact trivial) ⟨hgr.os, hgr.tape, hgr.output, hgr.size, fun k hk hc => hgr.block k hk (fun hkb => hc (by simpa [blk] using hkb.symm))⟩ hst (fun b' hb' => .inl hb'), hK⟩
 have hc : w.cell? ⟨p.block, j, none⟩ = some vs[j] := by simp [World.cell?, hb.2, hj]
 have hf : w.frozen? ⟨p.block, j, none⟩ = false := by simp [World.frozen?, hb.2]
 have := store_run (P := P) (t := t) (v := v) h hc hf hv h1
 simp only [execOp, ho, hl.eval hx, hl.eval hy, Sem.run_bind, this, Result.andThen_ok, Sem.run_pure]
theorem eSt0 {p : Addr} {u : Value} {vs : List Value} (ho : o.op = .store t x y) (hd : o.dst = none) [h : ScTy P t] (hx : ev L x = some (.pointer (some p))) (hy : ev L y = some v) [hp : PkBlk F p e (u :: vs) F'] (hv : v.cells = #[v]) (h1 : v.oneCell' = true)
  (hK : K L (blk p e (v :: vs) :: F')) : Eff P N M w0 false o L F K := eStF (j := 0) (by simp [Addr.add]) ho hd (h := h) hx hy (hp := hp) (by simp) hv h1 hK
def shA (A : Option Addr) (l : Nat) : Option Addr := A.map (·.add l)
instance Rd.sh (F : List Chunk) (A : Option Addr) (l : Nat) (vs : List Value) [h : Rd F A vs] : Rd F (shA A l) (vs.drop l) := ⟨fun M w0 w hm j hj => by
 simp only [List.length_drop] at hj
 obtain ⟨ad, rfl, hc⟩ := h.rd M w0 w hm (l + j) (by omega)
 refine ⟨_, rfl, ?_⟩
 rw [add_add, hc]
 simp, fun b hb => by
 obtain ⟨hne, ad, h1, h2⟩ := hb
 cases A with
 | none => cases h1
 | some ad' =>
  simp only [shA, Option.map_some, Option.some.injEq] at h1
  subst h1
  rw [block_add] at h2
  exact h.ft b ⟨fun e => hne (by rw [e, List.drop_nil]), ad', rfl, h2⟩⟩
theorem rCutHi {A : Option Addr} {n c : Nat} {i : Int} (ho : o.op = .slice t x none (some y) none) [h : SlTy P t e z bytes] (hx : ev L x = some (.slice A n c)) (hy : ev L y = some (.int .i64 i)) (h0 : 0 ≤ i) (h1 : i ≤ c) : Stl P N M w0 o L F (.slice A i.toNat c) := fun a w hl _ => by
 simp only [execOp, ho, hl.eval hx, Option.map_none, Option.map_some, hl.eval hy, Instr.sliceAt, Sem.run_bind, run_und h.und, Result.andThen_ok]
 simp only [Instr.slice, Instr.sliceBounds, Instr.sliceBound, asIntOf, Sem.run_bind, Sem.run_pure, Result.andThen_ok, run_und h.und, run_size1 h.size, h0, h1]
 simp [Addr.add]
end
end Go.Proofs.YtdkahdehodopoaaGreat

namespace Go.Proofs.YtdkahdehodopoaaGreat
open Go.RowKit
class LenIs (vs : List Value) (n : outParam Nat) : Prop where
 len : vs.length = n
instance : LenIs [] 0 := ⟨rfl⟩
instance (v : Value) (vs : List Value) (n : Nat) [h : LenIs vs n] : LenIs (v :: vs) (n + 1) := ⟨by simp [h.len]⟩
section
variable {P : Program} {N : NB} {M : Nat → Prop} {w0 : World} {L : Fr} {F F' : List Chunk} {K : Fr → List Chunk → Prop} {b : Bool} {o : Oper} {v z : Value} {x y : Operand} {t t' e : TypeId} {bytes : Nat}
def evp (L : Fr) : List (Nat × Operand) → Option (List (Nat × Value))
 | [] => some []
 | (i, x) :: r => match ev L x, evp L r with
  | some v, some vs => some ((i, v) :: vs)
  | _, _ => none
theorem evp_ok {a : Act} (hl : Holds N a L) : ∀ (ps : List (Nat × Operand)) (vs : List (Nat × Value)), evp L ps = some vs → ps.map (fun p => (p.1, a.eval p.2)) = vs
 | [], vs, h => by simp [evp] at h; subst h; rfl
 | (i, x) :: r, vs, h => by
  simp only [evp] at h
  split at h
  ·rename_i v us h1 h2
   simp only [Option.some.injEq] at h
   subst h
   simp [hl.eval h1, evp_ok hl r us h2]
  ·cases h
class BdTy (P : Program) (t : TypeId) (z : outParam (List Value)) (pl : outParam (List (Nat × Nat))) : Prop where
 blt : ∀ parts, P.built t parts = Instr.fill (pl.toArray[·]?) z.toArray parts
def places (P : Program) (t : TypeId) : Option (List (Nat × Nat)) := (P.fieldsOf t).toList.mapM (fun f => (P.info? f.type).map fun i => (f.offset, i.size))
theorem bdTy_of {z : Value} {zs : List Value} {pl : List (Nat × Nat)} (h1 : (P.info? t).bind (·.zero) = some z) (h2 : P.underlying t = some (.struct (P.fieldsOf t))) (h3 : places P t = some pl) (h4 : z.cells = zs.toArray) : BdTy P t zs pl := ⟨fun parts => by
 unfold places at h3
 cases hi : P.info? t with
 | none => simp [hi] at h1
 | some it =>
  simp only [hi, Option.bind_some] at h1
  simp only [Program.built, hi, h2, h1, h3, h4]⟩
class OneV (v : Value) : Prop where
 one : v.cells = #[v]
instance (k : IntKind) (n : Int) : OneV (.int k n) := ⟨rfl⟩
instance (a : Bool) : OneV (.bool a) := ⟨rfl⟩
instance (a : Option Addr) (n c : Nat) : OneV (.slice a n c) := ⟨rfl⟩
instance (a : Option Addr) : OneV (.pointer a) := ⟨rfl⟩
class GetP (pl : List (Nat × Nat)) (i : Nat) (off size : outParam Nat) : Prop where
 get : pl[i]? = some (off, size)
instance GetP.head (o s : Nat) (r : List (Nat × Nat)) : GetP ((o, s) :: r) 0 o s := ⟨rfl⟩
instance GetP.tail (q : Nat × Nat) (r : List (Nat × Nat)) (i o s : Nat) [h : GetP r i o s] : GetP (q :: r) (i + 1) o s := ⟨by simpa using h.get⟩
class Put (cs : List Value) (off : Nat) (vs : List Value) (out : outParam (List Value)) : Prop where
 le : off + vs.length ≤ cs.length
 put : ∀ k, out[k]? = if off ≤ k ∧ k < off + vs.length then vs[k - off]? else cs[k]?
instance Put.nil (cs : List Value) : Put cs 0 [] cs := ⟨by simp, fun k => by rw [if_neg (by simp)]⟩
instance Put.cons (c : Value) (cs : List Value) (v : Value) (vs out : List Value) [h : Put cs 0 vs out] : Put (c :: cs) 0 (v :: vs) (v :: out) := ⟨by have := h.le; simp at this ⊢; omega, fun k => by
 cases k with
 | zero => simp
 | succ k => have := h.put k; simp at this ⊢; rw [this]⟩
instance Put.skip (c : Value) (cs : List Value) (off : Nat) (v : Value) (vs out : List Value) [h : Put cs off (v :: vs) out] : Put (c :: cs) (off + 1) (v :: vs) (c :: out) := ⟨by have := h.le; simp at this ⊢; omega, fun k => by
 cases k with
 | zero => simp
 | succ k =>
  have := h.put k
  simp only [List.getElem?_cons_succ, this, List.length_cons]
  by_cases hk : off ≤ k ∧ k < off + (vs.length + 1)
  ·rw [if_pos hk, if_pos (by omega)]
   congr 1
   omega
  ·rw [if_neg hk, if_neg (by omega)]⟩
theorem put_get : ∀ (vs : List Value) (n off : Nat) (cs : Array Value), off + n + vs.length ≤ cs.size → ((vs.zipIdx n).foldl (fun cs q => cs.setIfInBounds (off + q.2) q.1) cs).size = cs.size ∧ ∀ k, ((vs.zipIdx n).foldl (fun cs q => cs.setIfInBounds (off + q.2) q.1) cs)[k]? = if off + n ≤ k ∧ k < off + n + vs.length then vs[k - (off + n)]? else cs[k]?
 | [], n, off, cs, _ => ⟨rfl, fun k => by rw [if_neg (by simp)]; rfl⟩
 | v :: vs, n, off, cs, h => by
  simp only [List.length_cons] at h
  obtain ⟨h1, h2⟩ := put_get vs (n + 1) off (cs.setIfInBounds (off + n) v) (by simp; omega)
  refine ⟨by simpa [List.zipIdx_cons] using h1, fun k => ?_⟩
  simp only [List.zipIdx_cons, List.foldl_cons, h2 k, List.length_cons]
  by_cases hk : off + n ≤ k ∧ k < off + n + (vs.length + 1)
  ·rw [if_pos hk]
   by_cases hk2 : k = off + n
   ·subst hk2
    rw [if_neg (by omega), Array.getElem?_setIfInBounds_self_of_lt (by omega)]
    simp
   ·rw [if_pos (by omega), show k - (off + n) = (k - (off + (n + 1))) + 1 by omega, List.getElem?_cons_succ]
  ·rw [if_neg hk, if_neg (by omega), Array.getElem?_setIfInBounds_ne (by omega)]
class Fill (pl : List (Nat × Nat)) (cs : List Value) (ps : List (Nat × Value)) (out : outParam (List Value)) : Prop where
 fill : Instr.fill (pl.toArray[·]?) cs.toArray ps = some out.toArray
instance Fill.nil (pl : List (Nat × Nat)) (cs : List Value) : Fill pl cs [] cs := ⟨rfl⟩
theorem fill_step {pl : List (Nat × Nat)} {cs vs cs' out : List Value} {i off size : Nat} {ps : List (Nat × Value)} (g : pl[i]? = some (off, size)) (hv : v.cells = vs.toArray) (hs : vs.length = size) (h : Put cs off vs cs') (k : Instr.fill (pl.toArray[·]?) cs'.toArray ps = some out.toArray) :
  Instr.fill (pl.toArray[·]?) cs.toArray ((i, v) :: ps) = some out.toArray := by
 have h1 := h.le
 have h2 := put_get vs 0 off cs.toArray (by simpa using h1)
 have h3 : Array.foldl (fun cs x => cs.setIfInBounds (off + x.snd) x.fst) cs.toArray vs.toArray.zipIdx = cs'.toArray := by
  apply Array.ext_getElem?
  intro k
  have h4 := h2.2 k
  rw [← Array.foldl_toList, Array.toList_zipIdx, h4]
  have h5 := h.put k
  simp only [Nat.add_zero, List.getElem?_toArray]
  rw [h5]
 have hg : pl.toArray[i]? = some (off, size) := by simpa using g
 unfold Instr.fill
 simp only [hg, hv, h3, k]
 rw [if_neg (by simp; omega)]
instance Fill.one (pl : List (Nat × Nat)) (cs cs' out : List Value) (i off : Nat) (v : Value) (ps : List (Nat × Value)) [g : GetP pl i off 1] [o : OneV v] [h : Put cs off [v] cs'] [k : Fill pl cs' ps out] : Fill pl cs ((i, v) :: ps) out := ⟨fill_step g.get o.one rfl h k.fill⟩
instance Fill.agg (pl : List (Nat × Nat)) (cs cs' out : List Value) (i off size : Nat) (vs : List Value) (ps : List (Nat × Value)) [g : GetP pl i off size] [h : Put cs off vs cs'] [k : Fill pl cs' ps out] [l : LenIs vs size] : Fill pl cs ((i, .agg vs.toArray) :: ps) out := ⟨fill_step g.get rfl l.len h k.fill⟩
theorem rBuild {ps : List (Nat × Operand)} {us : List (Nat × Value)} {zs cells : List Value} {pl : List (Nat × Nat)} (ho : o.op = .build t ps.toArray) (hx : evp L ps = some us) [hb : BdTy P t zs pl] [hf : Fill pl zs us cells] : Stl P N M w0 o L F (.agg cells.toArray) := fun a w hl _ => by
 have h1 : (ps.toArray.map fun p => (p.1, a.eval p.2)) = us.toArray := by simp [evp_ok hl ps us hx]
 have h2 := run_build (P := P) w t us.toArray cells.toArray (by rw [hb.blt]; exact hf.fill)
 have h3 : execOp a.eval o = (do pure (.value (← Instr.build t us.toArray))) := by
  rw [← h1]
  simp only [execOp, ho]
 rw [h3]
 simp only [Sem.run_bind, h2, Result.andThen_ok, Sem.run_pure]
def isI64 : Option TypeDesc → Bool
 | some (.int .i64) => true
 | _ => false
def intsAt (P : Program) : List Field → Nat → Bool
 | [], _ => true
 | f :: r, k => f.name != "_" && f.offset == k && isI64 (P.underlying f.type) && intsAt P r (k + 1)
class EqTy (P : Program) (t : TypeId) (n : outParam Nat) : Prop where
 und : P.underlying t = some (.struct (P.fieldsOf t))
 fds : intsAt P (P.fieldsOf t).toList 0 = true
 len : (P.fieldsOf t).toList.length = n
 stood : P.stoodInHeld t = false
 guard : P.eqGuardType P.depth t = false
theorem eStS {p : Addr} {vs us : List Value} {n : Nat} (ho : o.op = .store t x y) (hd : o.dst = none) [h : AgTy P t n] (hx : ev L x = some (.pointer (some p))) (hy : ev L y = some (.agg us.toArray)) [hp : PkBlk F p e vs F'] (h12 : (Nat.beq vs.length n && Nat.beq us.length n) = true) (hv : us.all (·.oneCell') = true)
  (hK : K L (blk p e us :: F')) : Eff P N M w0 false o L F K := eff_skip hd fun a w hl hm => by
 have h1 : vs.length = n := Nat.eq_of_beq_eq_true (by simp only [Bool.and_eq_true] at h12; exact h12.1)
 have h2 : us.length = n := Nat.eq_of_beq_eq_true (by simp only [Bool.and_eq_true] at h12; exact h12.2)
 have hmp := hm.perm hp.perm
 have hb : (blk p e vs).sat w := hmp.sat _ (List.mem_cons_self ..)
 have hrun := run_storeCells_from (P := P) p.block e us 0 vs.toArray w hb.2 (by simp; omega) (fun u hu => List.all_eq_true.1 hv u hu)
 simp only [List.take_zero, List.nil_append] at hrun
 refine ⟨w.setRow p.block us.toArray, ?_, _, hmp.change (by exact trivial) (d := blk p e us) ⟨rfl, rfl, rfl, by simp [World.setRow], fun k hk hc => setRow_other w p.block k us.toArray (fun e => hc e.symm)⟩ ⟨hb.1, setRow_heap w p.block _ _ _ _ hb.2⟩ (fun b' hb' => .inl hb'), hK⟩
 have hpe : (⟨p.block, 0, none⟩ : Addr) = p := hb.1.symm
 rw [hpe] at hrun
 have hsz : (sizeOf t).run P w = .ok n w := run_size1 h.inf w
 have hst : (Instr.storeAt t (.pointer (some p)) (.agg us.toArray)).run P w = .ok () (w.setRow p.block us.toArray) := by
  simp only [Instr.storeAt, Instr.sureAddr, Sem.run_bind, Sem.run_pure, Result.andThen_ok, storeVar, hsz, Value.cells]
  simp [h2, hrun]
 simp only [execOp, ho, hl.eval hx, hl.eval hy, Sem.run_bind, hst, Result.andThen_ok, Sem.run_pure]
class CellV (P : Program) (F : List Chunk) (p : Addr) (t : TypeId) (v : outParam Value) : Prop where
 ld : ∀ (M : Nat → Prop) (w0 w : World), Mem M w0 w F → (loadVar t p).run P w = .ok v w
theorem cellS {p : Addr} {n : Nat} {vs : List Value} [h : AgTy P t n] [hr : Rd F (some p) vs] (hn : vs.length = n) : CellV P F p t (.agg vs.toArray) := ⟨fun M w0 w hm => by
 obtain ⟨fs, hu⟩ := h.und
 have hs := hr.rd M w0 w hm
 have hag : (isAgg t).run P w = .ok true w := by simp [isAgg, run_und hu]
 have hld : (loadCells p n).run P w = .ok vs.toArray w := by
  subst hn
  have := loadCellsFrom_ok (P := P) (w := w) (ad := p) vs 0 #[] (fun j hj => by
   obtain ⟨ad, h1, hc⟩ := hs j hj
   simp only [Option.some.injEq] at h1
   subst h1
   simpa using hc)
  simpa [loadCells] using this
 simp [loadVar, hag, run_size1 h.inf, hld]⟩
inductive ResC (P : Program) (L : Fr) (F : List Chunk) : List ResultVar → List Value → Prop
 | nil : ResC P L F [] []
 | tmp {t : Tmp} {r : List ResultVar} {v : Value} {vs : List Value} : Fr.get L t = some v → ResC P L F r vs → ResC P L F (.tmp t :: r) (v :: vs)
 | cell {b : Tmp} {t : TypeId} {r : List ResultVar} {v : Value} {vs : List Value} {p : Addr} : Fr.get L b = some (.pointer (some p)) → CellV P F p t v → ResC P L F r vs → ResC P L F (.cell b t :: r) (v :: vs)
theorem resC_ok {M : Nat → Prop} {a : Act} {w0 w : World} (hl : Holds N a L) (hm : Mem M w0 w F) : ∀ (rs : List ResultVar) (vs : List Value), ResC P L F rs vs →
  (rs.mapM (fun r => match r with | .tmp t => pure (a.tmps.getD t undef) | .cell b t => do loadVar t (← asAddr (a.tmps.getD b undef)) : ResultVar → Sem Value)).run P w = .ok vs w
 | _, _, .nil => rfl
 | _, _, .tmp (t := t) (v := v) h1 h2 => by
  have := resC_ok hl hm _ _ h2
  simp only [List.mapM_cons, Sem.run_bind, Sem.run_pure, Result.andThen_ok, this, (hl.get t v h1).1]
 | _, _, .cell (b := b) (p := p) h1 h2 h3 => by
  have := resC_ok hl hm _ _ h3
  have ha : (asAddr (a.tmps.getD b undef)).run P w = .ok p w := by rw [(hl.get b _ h1).1]; rfl
  simp only [List.mapM_cons, Sem.run_bind, Sem.run_pure, Result.andThen_ok, this, ha, h2.ld _ _ _ hm]
def tup : List Value → Value
 | [v] => v
 | vs => .tuple vs.toArray
theorem results_okC {M : Nat → Prop} {fn : Func} {a : Act} {w0 w : World} {vs : List Value} (hl : Holds N a L) (hm : Mem M w0 w F) (hv : ResC P L F fn.results.toList vs) : (results fn a.tmps).run P w = .ok (tup vs) w := by
 have h3 := resC_ok (P := P) hl hm _ vs hv
 have h4 : (fn.results.mapM (fun r => match r with | .tmp t => pure (a.tmps.getD t undef) | .cell b t => do loadVar t (← asAddr (a.tmps.getD b undef)) : ResultVar → Sem Value)).run P w = .ok vs.toArray w := by
  rw [Array.mapM_eq_mapM_toList]
  simp only [Sem.run_map, h3, Result.andThen_ok]
 unfold results
 simp only [Sem.run_bind]
 erw [h4]
 clear hv h3 h4
 match vs with
 | [] => rfl
 | [u] => rfl
 | u :: u' :: r => rfl
def retC (P : Program) (rs : Array ResultVar) (R : Value → List Chunk → Prop) (e : Exit) (L : Fr) (F : List Chunk) : Prop :=
 (match e with | .normal => True | .ret => True | _ => False) ∧ ∃ vs Fo, ResC P L F rs.toList vs ∧ R (tup vs) Fo ∧ CSub F Fo ∧ AllEx Fo
theorem pure_ofC {f : FuncId} {fn : Func} {c : Code} {args : List Value} {G : List Chunk} {R : Value → List Chunk → Prop} (N : Nat) (hf : P.funcs[f]? = some fn) (hb : fn.body = some c) (hn : fn.ntmps = N) (hle : Nat.ble args.length N = true) (he : Enters P f) (hG : NoEx G)
  (h : ∀ w0, Tr P ⟨N, none⟩ (fun _ => False) w0 c (numb 0 args) G (retC P fn.results R)) : Pure P f args.toArray G R := ⟨he, fun w hs => by
 refine (callsIn_WR (rd := none) (n := 2)).1 (callsIn_of_wp_marks hf hb trivial ?_)
 refine wpIn_mono (h w [] (fun _ => False) w (Bs.refl _ _) _ w (enter_holds hn (Nat.le_of_ble_eq_true hle)) (enter_mem hG hs)) fun e a' w' ⟨ds, M1, w1, hb, L', F', h1, h2, hq⟩ => ?_
 obtain ⟨hq1, vs, Fo, hv, hR, hsub, hall⟩ := hq
 have hend := leave (fn := fn) (P := P) (R := R) hb h1 h2 (fun w2 _ hm2 => by
  have h3 := resC_ok (P := P) h1 hm2 _ vs hv
  have h4 : (fn.results.mapM (fun r => match r with | .tmp t => pure (a'.tmps.getD t undef) | .cell b t => do loadVar t (← asAddr (a'.tmps.getD b undef)) : ResultVar → Sem Value)).run P w2 = .ok vs.toArray w2 := by
   rw [Array.mapM_eq_mapM_toList]
   simp only [Sem.run_map, h3, Result.andThen_ok]
  unfold results
  simp only [Sem.run_bind]
  erw [h4]
  match vs with
  | [] => rfl
  | [u] => rfl
  | u :: u' :: r => rfl : ∀ w2 : World, (∀ c ∈ F', c.sat w2) → Mem (fun _ => False) w w2 F' → (results fn a'.tmps).run P w2 = .ok (tup vs) w2) hR hsub hall
 cases e with
 | normal => exact hend
 | ret => exact hend
 | _ => exact hq1.elim⟩
end
end Go.Proofs.YtdkahdehodopoaaGreat

namespace Go.Proofs.YtdkahdehodopoaaGreat
open Go.RowKit
inductive Pl where
 | nil : Pl
 | one (i : Nat) (r : Pl) : Pl
 | two (i : Nat) (r : Pl) (j : Nat) (s : Pl) : Pl
def Pl.len : Pl → Nat
 | .nil => 0
 | .one _ r => r.len + 1
 | .two _ r _ _ => r.len + 1
def Pl.heads : Pl → List Nat
 | .nil => []
 | .one i r => i :: r.heads
 | .two i r _ _ => i :: r.heads
section
variable {P : Program} {ops : Array Oper} {md : Region.Mode}
def wpHeadT (P : Program) (ops : Array Oper) (T : Act → World → Prop) : Pl → Act → World → Prop
 | .nil, a, w => T a w
 | .one i r, a, w => opH P ops i (wpHeadT P ops T r) a w
 | .two i r j s, a, w => opH P ops i (wpHeadT P ops T r) a w ∧ opH P ops j (wpHeadT P ops T s) a w
def headOkT (md : Region.Mode) (ops : Array Oper) (hds tls : List Nat) : Pl → Array Bool → Bool
 | .nil, listed => (Region.ready md ops listed).all (fun j => tls.contains j) && seqOk md ops tls listed
 | .one i r, listed => hds.contains i && (match ops[i]? with
   | some o => if isEff o.op = true then Region.ready md ops listed == [i] else (Region.ready md ops listed).contains i && Region.free md ops listed i
   | none => false) && headOkT md ops hds tls r (listed.setIfInBounds i true)
 | .two i r j s, listed => hds.contains i && hds.contains j && (Region.ready md ops listed == [i, j]) && (r.len == s.len) && headOkT md ops hds tls r (listed.setIfInBounds i true) && headOkT md ops hds tls s (listed.setIfInBounds j true)
def regionOkT (ops : Array Oper) (p : Pl) (tls : List Nat) : Bool :=
 Region.noSelect ops && (List.range ops.size).all (fun j => p.heads.contains j || tls.contains j) && tailOk .any ops p.heads tls && p.heads.all (fun j => !tls.contains j) &&
 headOkT .any ops p.heads tls p (Array.replicate ops.size false) && (p.len + tls.length == ops.size)
theorem wpH_of_headT {hds tls : List Nat} {T : Act → World → Prop} (hsel : Region.noSelect ops = true) (hcov : ∀ j, j < ops.size → hds.contains j = true ∨ j ∈ tls)
  (ht : tailOk md ops hds tls = true) (hdis : ∀ j, tls.contains j = true → hds.contains j = false) : ∀ (p : Pl) (listed : Array Bool) (a : Act) (w : World), Closed md ops listed →
  headOkT md ops hds tls p listed = true → wpHeadT P ops T p a w →
  wpH P md ops (fun j => hds.contains j) (fun l a w => (seqOk md ops tls l = true ∧ ∀ j ∈ Region.ready md ops l, hds.contains j = false) ∧ T a w) p.len listed a w
 | .nil, listed, a, w, _, hB, h => by
  simp only [headOkT, Bool.and_eq_true, List.all_eq_true] at hB
  exact ⟨⟨hB.2, fun j hj => hdis j (hB.1 j hj)⟩, h⟩
 | .one i r, listed, a, w, hcl, hB, h => by
  simp only [headOkT, Bool.and_eq_true] at hB
  obtain ⟨⟨hin, hB1⟩, hB2⟩ := hB
  have hrec := fun (hir : i ∈ Region.ready md ops listed) (a' : Act) (w' : World) (h' : wpHeadT P ops T r a' w') => wpH_of_headT hsel hcov ht hdis r _ a' w' (closed_set hcl hir) hB2 h'
  cases ho : ops[i]? with
  | none => simp [ho] at hB1
  | some o =>
   simp only [ho] at hB1
   by_cases he : isEff o.op = true
   ·simp only [he, if_true, beq_iff_eq] at hB1
    refine ⟨by rw [hB1]; simp, fun j hj => ?_⟩
    rw [hB1] at hj
    have hji : j = i := by simpa using hj
    subst hji
    exact ⟨hin, opH_mono (fun a' w' _ h' => hrec (by rw [hB1]; simp) a' w' h') h⟩
   ·simp only [he, Bool.false_eq_true, if_false, Bool.and_eq_true] at hB1
    have h' := h
    simp only [wpHeadT] at h'
    unfold opH at h'
    simp only [ho, he] at h'
    obtain ⟨v, hy, hk⟩ := h'
    exact wpH_first ho (Region.noSelect_spec hsel) hcov ht hin (fun l a w hL => hL.1.2) r.len listed a w hcl (Region.free_spec ho hB1.2) (by simpa using hB1.1) hy (by simpa using he) (hrec (by simpa using hB1.1) _ _ hk)
 | .two i r j s, listed, a, w, hcl, hB, h => by
  simp only [headOkT, Bool.and_eq_true, beq_iff_eq] at hB
  obtain ⟨⟨⟨⟨⟨hini, hinj⟩, hready⟩, hlen⟩, hB1⟩, hB2⟩ := hB
  refine ⟨by rw [hready]; simp, fun k hk => ?_⟩
  have hi : i ∈ Region.ready md ops listed := by rw [hready]; simp
  have hj : j ∈ Region.ready md ops listed := by rw [hready]; simp
  rw [hready] at hk
  rcases List.mem_cons.1 hk with rfl | hk
  ·exact ⟨hini, opH_mono (fun a' w' _ h' => wpH_of_headT hsel hcov ht hdis r _ a' w' (closed_set hcl hi) hB1 h') h.1⟩
  ·have hkj : k = j := by simpa using hk
   subst hkj
   exact ⟨hinj, opH_mono (fun a' w' _ h' => by
    have := wpH_of_headT hsel hcov ht hdis s _ a' w' (closed_set hcl hj) hB2 h'
    rwa [← hlen] at this) h.2⟩
theorem wpAny_tree {Q : Exit → Act → World → Prop} {a : Act} {w : World} (p : Pl) (tls : List Nat) (hB : regionOkT ops p tls = true)
  (h : wpHeadT P ops (wpTail P ops Q tls) p a w) : wpAny P .any ops Q ops.size (Array.replicate ops.size false) a w := by
 simp only [regionOkT, Bool.and_eq_true, beq_iff_eq, List.all_eq_true, Bool.or_eq_true, Bool.not_eq_true', List.mem_range] at hB
 obtain ⟨⟨⟨⟨⟨hsel, hcov⟩, ht⟩, hdis⟩, hh⟩, hlen⟩ := hB
 have H := wpH_of_headT (md := .any) (hds := p.heads) (tls := tls) hsel (fun j hj => by
  rcases hcov j hj with h | h
  ·exact .inl h
  ·exact .inr (by simpa using h)) ht (fun j hj => by
  cases hc : p.heads.contains j with
  | false => rfl
  | true => have := hdis j (by simpa using hc); rw [this] at hj; cases hj) p (Array.replicate ops.size false) a _ (closed_start _) hh h
 have := wpAny_of_wpH (Q' := Q) (g := tls.length) (fun l a' w' hL => wpAny_of_tail tls l a' w' hL.1.1 hL.2) _ _ _ _ H
 rwa [hlen] at this
end
section
variable {P : Program} {N : NB} {M : Nat → Prop} {w0 : World} {L : Fr} {F F' : List Chunk} {K : Fr → List Chunk → Prop} {b : Bool} {ops : List Oper} {o : Oper} {v z : Value} {x y : Operand} {t t' e : TypeId} {bytes : Nat}
def LstT (P : Program) (N : NB) (M : Nat → Prop) (w0 : World) (ops : List Oper) (K : Fr → List Chunk → Prop) : Pl → Fr → List Chunk → Prop
 | .nil, L, F => K L F
 | .one i r, L, F => match nth ops i with
  | some o => StepO P N M w0 true ops o L F (LstT P N M w0 ops K r)
  | none => False
 | .two i r j s, L, F => (match nth ops i with
  | some o => StepO P N M w0 true ops o L F (LstT P N M w0 ops K r)
  | none => False) ∧ (match nth ops j with
  | some o => StepO P N M w0 true ops o L F (LstT P N M w0 ops K s)
  | none => False)
theorem LstT.head {T : Act → World → Prop} (hT : ∀ a w L F, Holds N a L → Mem M w0 w F → K L F → T a w) : ∀ (p : Pl) (L : Fr) (F : List Chunk) (a : Act) (w : World),
  LstT P N M w0 ops K p L F → Holds N a L → Mem M w0 w F → wpHeadT P ops.toArray T p a w
 | .nil, _, _, _, _, h, hl, hm => hT _ _ _ _ hl hm h
 | .one i r, L, F, a, w, h, hl, hm => by
  simp only [LstT] at h
  cases ho : nth ops i with
  | none => simp [ho] at h
  | some o =>
   simp only [ho] at h
   exact h.head (by rw [← nth_eq]; exact ho) hl hm (fun a w L F hl hm hk => LstT.head hT r L F a w hk hl hm)
 | .two i r j s, L, F, a, w, h, hl, hm => by
  simp only [LstT] at h
  obtain ⟨h1, h2⟩ := h
  constructor
  ·cases ho : nth ops i with
   | none => simp [ho] at h1
   | some o =>
    simp only [ho] at h1
    exact h1.head (by rw [← nth_eq]; exact ho) hl hm (fun a w L F hl hm hk => LstT.head hT r L F a w hk hl hm)
  ·cases ho : nth ops j with
   | none => simp [ho] at h2
   | some o =>
    simp only [ho] at h2
    exact h2.head (by rw [← nth_eq]; exact ho) hl hm (fun a w L F hl hm hk => LstT.head hT s L F a w hk hl hm)
theorem eAppX {A B : Option Addr} {n m c cap : Nat} {vs ws : List Value} (ho : o.op = .call { callee := .builtin .append, args := #[x, y], argTypes := #[t, t] }) {d : Nat} (hdd : o.dst = some d) (hd : Nat.ble (d + 1) N.n = true) [h : SlTy P t e z bytes]
  (hx : ev L x = some (.slice A n cap)) (hy : ev L y = some (.slice B m c)) [hp : PkOw F A e cap vs F'] [hr : Rd F B ws] (hn : n = vs.length) (hm' : m = ws.length) (hcap : cap = vs.length) (hone : ∀ u ∈ ws, u.oneCell' = true) (hb : (vs.length + ws.length) * bytes ≤ 140737488355328) (hlen : vs.length + ws.length ≤ 9223372036854775807)
  (hK : ∀ (A' : Option Addr) (cap' : Nat), K (addL d (.slice A' (vs.length + ws.length) cap') L) (ow A' e cap' (vs ++ ws) :: F')) : Eff P N M w0 b o L F K := fun a w hl hm => by
 subst hn
 subst hm'
 subst hcap
 obtain ⟨i, hi, hz, hs, hby⟩ := info_parts h.inf
 have hmp := hm.perm hp.perm
 have hown : w.ownsRow 0 e 1 (.slice A vs.length vs.length) vs.length vs := hmp.sat _ (List.mem_cons_self ..)
 have hcells := hr.rd M w0 w hm
 have key : ∃ (A' : Option Addr) (cap' : Nat) (w' : World), (Builtin.append_ #[t, t] o.type #[.slice A vs.length vs.length, .slice B ws.length c]).run P w = .ok (.slice A' (vs.length + ws.length) cap') w' ∧
   w'.ownsRow 0 e 1 (.slice A' (vs.length + ws.length) cap') (vs.length + ws.length) (vs ++ ws) ∧ Ext w w' ∧ (∀ ad, A' = some ad → A = some ad ∨ ad.block = w.heap.size) := by
  by_cases hws : ws = []
  ·subst hws
   refine ⟨A, vs.length, w, ?_, by simpa using hown, Ext.refl w, fun ad h => .inl h⟩
   have hl0 : ∀ ad : Addr, (loadCells ad 0).run P w = .ok #[] w := fun ad => rfl
   cases B <;> cases A <;> simp [Builtin.append_, run_underlying h.und, sizeOf, typeInfo, hi, Builtin.lenOf, Builtin.firstCells, hl0, storeCells]
  ·have hwp : 0 < ws.length := List.length_pos_iff.2 hws
   cases B with
   | none => obtain ⟨ad, h1, _⟩ := hcells 0 hwp; cases h1
   | some bd =>
    have hnews : ∀ (j : Nat) u, ws[j]? = some u → w.cell? (bd.add j) = some u := fun j u hu => by
     obtain ⟨hj, rfl⟩ := List.getElem?_eq_some_iff.1 hu
     obtain ⟨ad', h1, h2⟩ := hcells j hj
     simp only [Option.some.injEq] at h1
     subst h1
     exact h2
    obtain ⟨v', w', h1, h2, h3, h4, h5⟩ := run_append_own_at (P := P) w 0 t o.type e i z 1 bytes h.und hi hz hs hby (by rw [h.one]; rfl) (by omega) (.slice A vs.length vs.length) vs.length vs hown bd ws.length c ws (by omega) hnews hone (by simp only [maxLen]; omega) (by simpa using hb) (Nat.zero_le _)
    -- where it lies
    have hnew : ∃ cap' w'', (Builtin.append_ #[t, t] o.type #[.slice A vs.length vs.length, .slice (some bd) ws.length c]).run P w = .ok (.slice (some ⟨w.heap.size, 0, none⟩) (vs.length + ws.length) cap') w'' ∧ Ext w w'' := by
     cases A with
     | none =>
      have hv : vs = [] := by
       rcases hown.2 with ⟨_, h0⟩ | ⟨g, cp, cur, hv2, _⟩
       ·exact List.eq_nil_of_length_eq_zero h0
       ·cases hv2
      subst hv
      have hr := run_append_nil (P := P) w t o.type e i z h.und hi hz bd ws.length c ws (by rw [hs]; omega) hnews hwp (by omega) (by rw [hby]; simp at hb; omega)
      refine ⟨_, _, by simpa using hr, ?_⟩
      exact ((Below.refl _ _).drew).alloc (Nat.le_refl _) _
     | some ad =>
      have holds : ∀ j u, vs[j]? = some u → w.cell? (ad.add j) = some u := fun j u hu => by
       obtain ⟨hj, rfl⟩ := List.getElem?_eq_some_iff.1 hu
       obtain ⟨ad', h1, h2⟩ := ow_reads hown j hj
       simp only [Option.some.injEq] at h1
       subst h1
       exact h2
      have hr := run_append_grow (P := P) w t o.type e i z h.und hi hz ad vs.length vs.length vs (by rw [hs]; omega) holds bd ws.length c ws (by rw [hs]; omega) hnews (by omega) (by omega) (by rw [hby]; exact growslice_fits (by omega) hb)
      refine ⟨_, _, hr, ?_⟩
      exact ((Below.refl _ _).drew).alloc (Nat.le_refl _) _
    obtain ⟨cap', w'', h6, h7⟩ := hnew
    rw [h1] at h6
    simp only [Result.ok.injEq] at h6
    obtain ⟨rfl, rfl⟩ := h6
    exact ⟨_, _, w', h1, h2, h7, fun ad had => .inr (by simp only [Option.some.injEq] at had; rw [← had])⟩
 obtain ⟨A', cap', w', h1, h2, h3, h4⟩ := key
 have hrun : (execOp a.eval o).run P w = .ok (.value (.slice A' (vs.length + ws.length) cap')) w' := by
  simp only [execOp, ho, resolve, invoke, builtin, Sem.run_bind, Sem.run_pure, Result.andThen_ok, List.map_toArray, List.map_cons, List.map_nil, hl.eval hx, hl.eval hy, h1]
 have hlen' : (vs ++ ws).length = vs.length + ws.length := List.length_append
 simp only [Oper.wp, hrun, Oper.upon_value]
 refine ⟨fun _ => h3, _, _, hl.add hdd hd _, ?_, hK A' cap'⟩
 refine hmp.change (by exact trivial) ⟨h3.os, h3.tape, h3.output, h3.size, fun k hk hc => h3.block k hk⟩ (by show w'.ownsRow 0 e 1 (.slice A' (vs ++ ws).length cap') (vs ++ ws).length (vs ++ ws); rw [hlen']; exact h2) (fun b' hb' => ?_)
 obtain ⟨ad, rfl, rfl⟩ := hb'
 rcases h4 ad rfl with h5 | h5
 ·exact .inl ⟨ad, h5, rfl⟩
 ·exact .inr (by omega)
theorem eAppXI {A B : Option Addr} {n m c cap : Nat} {xs ys : List Int} (ho : o.op = .call { callee := .builtin .append, args := #[x, y], argTypes := #[t, t] }) {d : Nat} (hdd : o.dst = some d) (hd : Nat.ble (d + 1) N.n = true) [h : SlTy P t e z 8]
  (hx : ev L x = some (.slice A n cap)) (hy : ev L y = some (.slice B m c)) [hp : PkOw F A e cap (ints xs) F'] [hr : Rd F B (ints ys)] (hn : n = xs.length) (hm' : m = ys.length) (hcap : cap = xs.length) (hb : xs.length + ys.length ≤ 17592186044416)
  (hK : ∀ (A' : Option Addr) (cap' : Nat), K (addL d (.slice A' (xs ++ ys).length cap') L) (ow A' e cap' (ints (xs ++ ys)) :: F')) : Eff P N M w0 b o L F K :=
 eAppX ho hdd hd (h := h) hx hy (hp := hp) (hr := hr) (by simpa using hn) (by simpa using hm') (by simpa using hcap) (ints_oneCell .i64 ys) (by simp only [ints_length]; omega) (by simp only [ints_length]; omega) (fun A' cap' => by
  have := hK A' cap'
  rw [ints_append, List.length_append] at this
  simpa using this)
theorem all1 (xs : List Int) : (ints xs).all (·.oneCell') = true := List.all_eq_true.2 (fun u hu => ints_oneCell .i64 xs u hu)
def cutA (A : Option Addr) (i c : Nat) : Option Addr := if i < c then shA A i else A
theorem rCut {A : Option Addr} {n c : Nat} {i : Int} (ho : o.op = .slice t x (some y) none none) [h : SlTy P t e z bytes] (hx : ev L x = some (.slice A n c)) (hy : ev L y = some (.int .i64 i)) (h0 : 0 ≤ i) (h1 : i ≤ n) (h2 : n ≤ c) : Stl P N M w0 o L F (.slice (cutA A i.toNat c) (n - i.toNat) (c - i.toNat)) := fun a w hl _ => by
 simp only [execOp, ho, hl.eval hx, Option.map_none, Option.map_some, hl.eval hy, Instr.sliceAt, Sem.run_bind, run_und h.und, Result.andThen_ok]
 simp only [Instr.slice, Instr.sliceBounds, Instr.sliceBound, asIntOf, Sem.run_bind, Sem.run_pure, Result.andThen_ok, run_und h.und, run_size1 h.size, h0, h1]
 by_cases hc : c = i.toNat
 ·have : ¬ i.toNat < c := by omega
  simp [cutA, this, hc]
 ·have h3 : i.toNat < c := by omega
  simp [cutA, h3, hc, shA]
theorem eCopy {A B D : Option Addr} {lo m dl dc sc cap : Nat} {vs ws : List Value} (ho : o.op = .call { callee := .builtin .copy, args := #[x, y], argTypes := #[t, t'] }) {d : Nat} (hdd : o.dst = some d) (hd : Nat.ble (d + 1) N.n = true) [h : SlTy P t e z bytes]
  (hx : ev L x = some (.slice D dl dc)) (hD : D = cutA A lo cap) (hy : ev L y = some (.slice B m sc)) [hp : PkOw F A e cap vs F'] [hr : Rd F B ws] (hlo : lo + dl ≤ vs.length) (hm' : m ≤ ws.length) (hone : ws.all (·.oneCell') = true)
  (hK : K (addL d (.int .i64 (min m dl : Nat)) L) (ow A e cap (vs.take lo ++ ws.take (min m dl) ++ vs.drop (lo + min m dl)) :: F')) : Eff P N M w0 false o L F K := fun a w hl hm => by
 have hmp := hm.perm hp.perm
 have hown : w.ownsRow 0 e 1 (.slice A vs.length cap) vs.length vs := hmp.sat _ (List.mem_cons_self ..)
 have hcells := hr.rd M w0 w hm
 have hsz := h.size
 have hlenc : (vs.take lo ++ ws.take (min m dl) ++ vs.drop (lo + min m dl)).length = vs.length := by
  simp only [List.length_append, List.length_take, List.length_drop]; omega
 by_cases h0 : min m dl = 0
 ·have hrun0 := run_copy_none (P := P) w t t' o.type e D B dl dc m sc h.und hsz (by simpa [Nat.min_def] using h0)
  have hrun : (execOp a.eval o).run P w = .ok (.value (goInt 0)) w := by
   simp only [execOp, ho, resolve, invoke, builtin, Sem.run_bind, Sem.run_pure, Result.andThen_ok, List.map_toArray, List.map_cons, List.map_nil, hl.eval hx, hl.eval hy, hrun0]
  simp only [Oper.wp, hrun, Oper.upon_value]
  rw [h0] at hK
  refine ⟨fun hc => absurd hc (by simp), _, _, hl.add hdd hd _, hmp, ?_⟩
  simpa [goInt] using hK
 ·have hvl : 0 < vs.length := by omega
  rcases hown.2 with ⟨_, h1⟩ | ⟨g, cp, cur, hv2, hbg, hg, hnc, hcm, hcs, htake⟩
  ·omega
  ·simp only [Value.slice.injEq] at hv2
   obtain ⟨rfl, _, rfl⟩ := hv2
   have hcut : D = some ⟨g, lo, none⟩ := by
    rw [hD, cutA, if_pos (by omega)]
    simp [shA, add_new]
   have hB : ∃ bd, B = some bd := by
    obtain ⟨ad, h1, _⟩ := hcells 0 (by omega)
    exact ⟨ad, h1⟩
   obtain ⟨bd, rfl⟩ := hB
   have hcsl : (ws.take (min m dl)).length = min m dl := by rw [List.length_take]; omega
   have hrun0 := run_copy_row (P := P) w t t' o.type e g lo dl dc bd m sc cur e (ws.take (min m dl)) h.und hsz hg (by rw [hcsl]) (fun j u hu => by
    obtain ⟨hj, rfl⟩ := List.getElem?_eq_some_iff.1 hu
    rw [hcsl] at hj
    obtain ⟨ad', h1, h2⟩ := hcells j (by omega)
    simp only [Option.some.injEq] at h1
    subst h1
    rw [h2]
    simp) (by rw [hcsl, hcs]; omega) (fun u hu => List.all_eq_true.1 hone u (List.mem_of_mem_take hu))
   rw [← hcut] at hrun0
   have hrun : (execOp a.eval o).run P w = .ok (.value (goInt (ws.take (min m dl)).length)) (w.setRow g (cur.toList.take lo ++ ws.take (min m dl) ++ cur.toList.drop (lo + (ws.take (min m dl)).length)).toArray) := by
    simp only [execOp, ho, resolve, invoke, builtin, Sem.run_bind, Sem.run_pure, Result.andThen_ok, List.map_toArray, List.map_cons, List.map_nil, hl.eval hx, hl.eval hy, hrun0]
   simp only [Oper.wp, hrun, Oper.upon_value]
   rw [hcsl]
   refine ⟨fun hc => absurd hc (by simp), _, _, hl.add hdd hd _, hmp.change (by exact trivial) (d := ow (some ⟨g, 0, none⟩) e cap (vs.take lo ++ ws.take (min m dl) ++ vs.drop (lo + min m dl))) ⟨rfl, rfl, rfl, by simp [World.setRow], fun k hk hc => setRow_other w g k _ (fun e => hc ⟨_, rfl, e.symm⟩)⟩ ?_ (fun b' hb' => .inl hb'), by simpa [goInt] using hK⟩
   show World.ownsRow _ 0 e 1 (.slice (some ⟨g, 0, none⟩) (vs.take lo ++ ws.take (min m dl) ++ vs.drop (lo + min m dl)).length cap) (vs.take lo ++ ws.take (min m dl) ++ vs.drop (lo + min m dl)).length (vs.take lo ++ ws.take (min m dl) ++ vs.drop (lo + min m dl))
   rw [hlenc]
   have hcurl : cur.toList.length = cap := by rw [Array.length_toList]; omega
   refine ⟨by rw [hlenc]; omega, .inr ⟨g, cap, _, rfl, hbg, setRow_heap w g cur _ e _ hg, hnc, hcm, ?_, ?_⟩⟩
   ·simp only [List.size_toArray, List.length_append, List.length_take, List.length_drop, hcurl]
    omega
   ·have hvs : vs = cur.toList.take vs.length := by rw [show vs.length = vs.length * 1 by omega]; exact htake.symm
    apply List.ext_getElem?
    intro k
    have hk : ∀ k, k < vs.length → vs[k]? = cur.toList[k]? := fun k hk => by
     conv => lhs; rw [hvs]
     rw [List.getElem?_take, if_pos hk]
    by_cases hkl : k < vs.length * 1
    ·simp only [List.getElem?_take, List.getElem?_append, List.length_append, List.length_take, List.length_drop, List.getElem?_drop, hcurl]
     rw [if_pos hkl]
     rw [show min lo cap = lo by omega, show min (min m dl) ws.length = min m dl by omega, show min lo vs.length = lo by omega]
     by_cases h1 : k < lo + min m dl
     ·rw [if_pos h1, if_pos h1]
      by_cases h2 : k < lo
      ·rw [if_pos h2, if_pos h2, if_pos h2, if_pos h2]; exact (hk k (by omega)).symm
      ·rw [if_neg h2, if_neg h2]
     ·rw [if_neg h1, if_neg h1]
      have := hk (lo + min m dl + (k - (lo + min m dl))) (by omega)
      exact this.symm
    ·rw [List.getElem?_eq_none (by rw [List.length_take]; omega), List.getElem?_eq_none (by rw [hlenc]; omega)]
theorem eCopyI {A B D : Option Addr} {lo m dl dc sc cap : Nat} {xs ys : List Int} (ho : o.op = .call { callee := .builtin .copy, args := #[x, y], argTypes := #[t, t'] }) {d : Nat} (hdd : o.dst = some d) (hd : Nat.ble (d + 1) N.n = true) [h : SlTy P t e z bytes]
  (hx : ev L x = some (.slice D dl dc)) (hD : D = cutA A lo cap) (hy : ev L y = some (.slice B m sc)) [hp : PkOw F A e cap (ints xs) F'] [hr : Rd F B (ints ys)] (hlo : lo + dl ≤ xs.length) (hm' : m ≤ ys.length)
  (hK : K (addL d (.int .i64 (min m dl : Nat)) L) (ow A e cap (ints (xs.take lo ++ ys.take (min m dl) ++ xs.drop (lo + min m dl))) :: F')) : Eff P N M w0 false o L F K :=
 eCopy ho hdd hd (h := h) hx hD hy (hp := hp) (hr := hr) (by simpa using hlo) (by simpa using hm') (all1 ys) (by simpa [ints] using hK)
theorem rNilS {A : Option Addr} {n c : Nat} (ho : o.op = .binOp .eql t x y t') [h : SlTy P t e z bytes] (hx : ev L x = some (.slice A n c)) (hy : ev L y = some (.slice none 0 0)) : Stl P N M w0 o L F (.bool A.isNone) := fun a w hl _ => by
 have h1 : (Op.equal t (.slice A n c) (.slice none 0 0)).run P w = .ok A.isNone w := by
  exact run_equal_slice_nil w t e A n c h.und
 simp [execOp, ho, hl.eval hx, hl.eval hy, eqGuard, binOp, h1]
end
section
variable {P : Program} {N : NR} {M : Nat → Prop} {w0 : World} {L : Fr} {F : List Chunk} {ops : List Oper}
theorem tr_tree (p : Pl) (tls : List Nat) {id : Nat} {Q : Exit → Fr → List Chunk → Prop} (hm : P.follows .mixedOrders = true) (hB : regionOkT ops.toArray p tls = true)
  (h : ∀ ds M1 w1, LstT P ⟨N.n, ds⟩ M1 w1 ops (LstI P ⟨N.n, ds⟩ M1 w1 false ops (Q .normal) tls) p L F) (hd : noDefer ops = true := by rfl) : Tr P N M w0 (.region id ops.toArray true) L F Q := fun ds M1 w1 hb a w hl hmem => by
 refine wpIn_any_nrm hm (by simpa using hd) (wpAny_tree p tls hB ?_)
 exact LstT.head (fun a w L F hl hm hk => LstI.tail (Q := nrm (Fin' N M w0 Q)) (fun a w L F h1 h2 h3 => ⟨rfl, ds, M1, w1, hb, L, F, h1, h2, h3⟩) tls L F a w hk hl hm) p L F a _ (h ds M1 w1) hl (hmem.ext (drew_ext w))
theorem tr_mid {S : Type} (Lf : S → Fr) (Ff : S → List Chunk) {c d : Code} {Q : Exit → Fr → List Chunk → Prop} (h : Tr P N M w0 c L F (fun e L' F' => e = .normal ∧ ∃ s, FSub L' (Lf s) ∧ CSub F' (Ff s)))
  (k : ∀ s, Tr P N M w0 d (Lf s) (Ff s) Q) : Tr P N M w0 (.seq c d) L F Q := by
 refine tS (h.mono fun e L' F' hq => ?_)
 obtain ⟨rfl, s, h1, h2⟩ := hq
 show Tr P N M w0 d L' F' Q
 intro ds M1 w1 hb a w hl hm
 exact k s ds M1 w1 hb a w (hl.sub h1) (h2.mem hm)
end
end Go.Proofs.YtdkahdehodopoaaGreat

namespace Go.Proofs.YtdkahdehodopoaaGreat
open Go.RowKit
def both (c d : Chunk) : Chunk where
 foot b := c.foot b ∨ d.foot b
 excl := c.excl ∧ d.excl
 sat w := c.sat w ∧ d.sat w
 loc w w' h hs := ⟨c.loc w w' (fun b hb => h b (.inl hb)) hs.1, d.loc w w' (fun b hb => h b (.inr hb)) hs.2⟩
 cel w b hs hb := by
  rcases hb with hb | hb
  ·exact c.cel w b hs.1 hb
  ·exact d.cel w b hs.2 hb
theorem CSub.join (c d : Chunk) (F : List Chunk) : CSub (c :: d :: F) (both c d :: F) := fun M w0 w Z hm => by
 refine ⟨hm.upd, fun e he => ?_, ?_, fun e he hex b hb => ?_⟩
 ·rcases List.mem_cons.1 he with rfl | he
  ·exact ⟨hm.sat c (by simp), hm.sat d (by simp)⟩
  ·exact hm.sat e (by simp [List.mem_append.1 he])
 ·have h1 := hm.sep
  simp only [List.cons_append, List.pairwise_cons] at h1 ⊢
  refine ⟨fun e he hx b hb => ?_, h1.2.2⟩
  rcases hb with hb | hb
  ·exact h1.1 e (List.mem_cons_of_mem _ he) (hx.imp (fun h => h.1) id) b hb
  ·exact h1.2.1 e he (hx.imp (fun h => h.2) id) b hb
 ·rcases List.mem_cons.1 he with rfl | he
  ·rcases hb with hb | hb
   ·exact hm.own c (by simp) hex.1 b hb
   ·exact hm.own d (by simp) hex.2 b hb
  ·exact hm.own e (by simp [List.mem_append.1 he]) hex b hb
instance Rd.bothL (c d : Chunk) (F : List Chunk) (A : Option Addr) (vs : List Value) [h : Rd [c] A vs] : Rd (both c d :: F) A vs := ⟨fun M w0 w hm => by
 refine h.rd (fun _ => True) w w ⟨⟨rfl, rfl, rfl, Nat.le_refl _, fun _ _ _ => rfl⟩, fun e he => ?_, List.pairwise_singleton _ _, fun _ _ _ _ _ => .inr trivial⟩
 simp only [List.mem_singleton] at he
 subst he
 exact (hm.sat _ (List.mem_cons_self ..)).1, fun b hb => by
 obtain ⟨x, hx, hf⟩ := h.ft b hb
 simp only [List.mem_singleton] at hx
 subst hx
 exact ⟨_, List.mem_cons_self .., .inl hf⟩⟩
instance Rd.bothR (c d : Chunk) (F : List Chunk) (A : Option Addr) (vs : List Value) [h : Rd [d] A vs] : Rd (both c d :: F) A vs := ⟨fun M w0 w hm => by
 refine h.rd (fun _ => True) w w ⟨⟨rfl, rfl, rfl, Nat.le_refl _, fun _ _ _ => rfl⟩, fun e he => ?_, List.pairwise_singleton _ _, fun _ _ _ _ _ => .inr trivial⟩
 simp only [List.mem_singleton] at he
 subst he
 exact (hm.sat _ (List.mem_cons_self ..)).2, fun b hb => by
 obtain ⟨x, hx, hf⟩ := h.ft b hb
 simp only [List.mem_singleton] at hx
 subst hx
 exact ⟨_, List.mem_cons_self .., .inr hf⟩⟩
section
variable {P : Program} {N : NR} {M : Nat → Prop} {w0 : World} {L : Fr} {F : List Chunk}
theorem tr_emptyI {A : Option Addr} {xs : List Int} {c : Code} {Q : Exit → Fr → List Chunk → Prop} [hr : Rd F A (ints xs)] (h : (A.isNone = true → xs = []) → Tr P N M w0 c L F Q) : Tr P N M w0 c L F Q := fun ds M1 w1 hb a w hl hm => by
 refine h (fun hn => ?_) ds M1 w1 hb a w hl hm
 cases xs with
 | nil => rfl
 | cons x xs =>
  obtain ⟨ad, rfl, _⟩ := hr.rd _ _ w hm 0 (by simp)
  cases hn
end
section
variable {P : Program} {N : NB} {M : Nat → Prop} {w0 : World} {L : Fr} {F F' : List Chunk} {K : Fr → List Chunk → Prop} {b : Bool} {o : Oper} {v z : Value} {x y : Operand} {t t' e : TypeId} {bytes : Nat}
theorem rFldN {p : Addr} {f off i : Nat} (ho : o.op = .fieldAddr t x f) [h : FdTy P t f off] (hx : ev L x = some (.pointer (some (p.add i)))) : Stl P N M w0 o L F (.pointer (some (p.add (i + off)))) := by
 rw [← add_add]
 exact rFld ho (h := h) hx
end
structure GfM where
 p : Addr
 P : Int
 M : Int
 A0 : Option Addr
 c0 : Nat
 mod : List Int
 q : Int
 A1 : Option Addr
 c1 : Nat
 exp : List Int
 A2 : Option Addr
 c2 : Nat
 log : List Int
def GfM.cells (g : GfM) : List Value := [.int .i64 g.P, .int .i64 g.M, .slice g.A0 g.mod.length g.c0, .int .i64 g.q, .slice g.A1 g.exp.length g.c1, .slice g.A2 g.log.length g.c2]
def fact (φ : Prop) : Chunk where
 foot _ := False
 excl := False
 sat _ := φ
 loc _ _ _ h := h
 cel _ _ _ h := h.elim
def roB (p : Addr) (vs : List Value) : Chunk := both (fact (p = ⟨p.block, 0, none⟩)) (ro (some p) vs)
def gfR0 (g : GfM) : Chunk := both (roB g.p g.cells) (both (ro g.A0 (ints g.mod)) (both (ro g.A1 (ints g.exp)) (ro g.A2 (ints g.log))))
def gfR (g : GfM) : Chunk := { gfR0 g with excl := False }
def gfO (t e : TypeId) (g : GfM) : Chunk := both (blk g.p t g.cells) (both (ow g.A0 e g.c0 (ints g.mod)) (both (ow g.A1 e g.c1 (ints g.exp)) (ow g.A2 e g.c2 (ints g.log))))
class HasGF (F : List Chunk) (g : GfM) : Prop where
 has : ∀ (M : Nat → Prop) (w0 w : World), Mem M w0 w F → (gfR g).sat w
 ft : ∀ b, (gfR g).foot b → ∃ c ∈ F, c.foot b
instance HasGF.tail (c : Chunk) (F : List Chunk) (g : GfM) [h : HasGF F g] : HasGF (c :: F) g := ⟨fun M w0 w hm => h.has M w0 w hm.tail, fun b hb => by
 obtain ⟨d, hd, hf⟩ := h.ft b hb
 exact ⟨d, List.mem_cons_of_mem _ hd, hf⟩⟩
instance HasGF.ofR (F : List Chunk) (g : GfM) : HasGF (gfR g :: F) g := ⟨fun _ _ _ hm => hm.sat _ (List.mem_cons_self ..), fun b hb => ⟨_, List.mem_cons_self .., hb⟩⟩
instance HasGF.ofO (t e : TypeId) (F : List Chunk) (g : GfM) : HasGF (gfO t e g :: F) g := ⟨fun _ _ _ hm => by
 have h := hm.sat _ (List.mem_cons_self ..)
 exact ⟨⟨h.1.1, blk_reads h.1⟩, ow_reads h.2.1, ow_reads h.2.2.1, ow_reads h.2.2.2⟩, fun b hb => ⟨_, List.mem_cons_self .., by
 rcases hb with (hb | hb) | hb | hb | hb
 ·exact hb.elim
 ·obtain ⟨_, ad, h1, h2⟩ := hb
  simp only [Option.some.injEq] at h1
  subst h1
  exact .inl h2
 ·exact .inr (.inl hb.2)
 ·exact .inr (.inr (.inl hb.2))
 ·exact .inr (.inr (.inr hb.2))⟩⟩
instance Ent.gf (F : List Chunk) (g : GfM) (G : List Chunk) [h : HasGF F g] [k : Ent F G] : Ent F (gfR g :: G) := ⟨fun M w0 w hm c hc => by
 rcases List.mem_cons.1 hc with rfl | hc
 ·exact h.has M w0 w hm
 ·exact k.ent M w0 w hm c hc, fun g hg b hb => by
 rcases List.mem_cons.1 hg with rfl | hg
 ·exact h.ft b hb
 ·exact k.ft g hg b hb⟩
instance Rd.gf (F : List Chunk) (g : GfM) : Rd (gfR g :: F) (some g.p) g.cells := ⟨fun _ _ _ hm => (hm.sat _ (List.mem_cons_self ..)).1.2, fun b hb => ⟨_, List.mem_cons_self .., .inl (.inr hb)⟩⟩
instance Rd.gf0 (F : List Chunk) (g : GfM) : Rd (gfR g :: F) g.A0 (ints g.mod) := ⟨fun _ _ _ hm => (hm.sat _ (List.mem_cons_self ..)).2.1, fun b hb => ⟨_, List.mem_cons_self .., .inr (.inl hb)⟩⟩
instance Rd.gf1 (F : List Chunk) (g : GfM) : Rd (gfR g :: F) g.A1 (ints g.exp) := ⟨fun _ _ _ hm => (hm.sat _ (List.mem_cons_self ..)).2.2.1, fun b hb => ⟨_, List.mem_cons_self .., .inr (.inr (.inl hb))⟩⟩
instance Rd.gf2 (F : List Chunk) (g : GfM) : Rd (gfR g :: F) g.A2 (ints g.log) := ⟨fun _ _ _ hm => (hm.sat _ (List.mem_cons_self ..)).2.2.2, fun b hb => ⟨_, List.mem_cons_self .., .inr (.inr (.inr hb))⟩⟩
instance Rd.gfo (t e : TypeId) (F : List Chunk) (g : GfM) : Rd (gfO t e g :: F) (some g.p) g.cells := ⟨fun _ _ _ hm => blk_reads (hm.sat _ (List.mem_cons_self ..)).1, fun b hb => ⟨_, List.mem_cons_self .., .inl (by
 obtain ⟨_, ad, h1, h2⟩ := hb
 simp only [Option.some.injEq] at h1
 subst h1
 exact h2)⟩⟩
instance Rd.gfo0 (t e : TypeId) (F : List Chunk) (g : GfM) : Rd (gfO t e g :: F) g.A0 (ints g.mod) := ⟨fun _ _ _ hm => ow_reads (hm.sat _ (List.mem_cons_self ..)).2.1, fun b hb => ⟨_, List.mem_cons_self .., .inr (.inl hb.2)⟩⟩
instance Rd.gfo1 (t e : TypeId) (F : List Chunk) (g : GfM) : Rd (gfO t e g :: F) g.A1 (ints g.exp) := ⟨fun _ _ _ hm => ow_reads (hm.sat _ (List.mem_cons_self ..)).2.2.1, fun b hb => ⟨_, List.mem_cons_self .., .inr (.inr (.inl hb.2))⟩⟩
instance Rd.gfo2 (t e : TypeId) (F : List Chunk) (g : GfM) : Rd (gfO t e g :: F) g.A2 (ints g.log) := ⟨fun _ _ _ hm => ow_reads (hm.sat _ (List.mem_cons_self ..)).2.2.2, fun b hb => ⟨_, List.mem_cons_self .., .inr (.inr (.inr hb.2))⟩⟩
theorem gfO_excl (t e : TypeId) (g : GfM) : (gfO t e g).excl := ⟨trivial, trivial, trivial, trivial⟩
theorem csub_gfO (t e : TypeId) (g : GfM) (F : List Chunk) : CSub (blk g.p t g.cells :: ow g.A0 e g.c0 (ints g.mod) :: ow g.A1 e g.c1 (ints g.exp) :: ow g.A2 e g.c2 (ints g.log) :: F) (gfO t e g :: F) :=
 ((CSub.cons _ (CSub.cons _ (CSub.join _ _ F))).trans (CSub.cons _ (CSub.join _ _ F))).trans (CSub.join _ _ F)
end Go.Proofs.YtdkahdehodopoaaGreat

namespace Go.Proofs.YtdkahdehodopoaaGreat
open Go.RowKit
section
variable {P : Program} {N : NB} {M : Nat → Prop} {w0 : World} {L : Fr} {F F' : List Chunk} {K : Fr → List Chunk → Prop} {b x : Bool} {ops : List Oper} {o : Oper} {v : Value} {y z u : Operand} {t t' e : TypeId}
theorem stT {s : Nat} {want b : Bool} (he : isEff o.op = false) (hg : guardSlot ops o = some (s, want)) (hb : Fr.get L s = some (.bool b)) (hbw : (b == want) = true) {d : Nat} (hdd : o.dst = some d) (hd : Nat.ble (d + 1) N.n = true)
  (h : Stl P N M w0 o L F v) (k : K (addL d v L) F) : StepO P N M w0 x ops o L F K := fun a w hl hm => by
 simp only [he, Bool.false_eq_true, if_false]
 exact ⟨v, fun w' hx => .inl ⟨(wanted_slot hg hb hl).trans hbw, .inl (h a w' hl (hm.ext hx))⟩, _, F, hl.add hdd hd v, hm, k⟩
theorem efT {s : Nat} {want b : Bool} (he : isEff o.op = true) (hg : guardSlot ops o = some (s, want)) (hb : Fr.get L s = some (.bool b)) (hbw : (b == want) = true) (h : Eff P N M w0 x o L F K) : StepO P N M w0 x ops o L F K := fun a w hl hm => by
 simp only [he, if_true]
 rw [wanted_slot hg hb hl, hbw]
 simp only [if_true]
 exact h a w hl hm
theorem skF {s : Nat} {want b : Bool} (hg : guardSlot ops o = some (s, want)) (hb : Fr.get L s = some (.bool b)) (hbw : (b == want) = false) {d : Nat} (hdd : o.dst = some d) (hd : Nat.ble (d + 1) N.n = true)
  (k : K (addL d undef L) F) : StepO P N M w0 x ops o L F K := fun a w hl hm => by
 have hw := (wanted_slot hg hb hl).trans hbw
 by_cases he : isEff o.op = true
 ·simp only [he, if_true, hw, Bool.false_eq_true, if_false]
  exact ⟨_, F, hl.add hdd hd undef, hm, k⟩
 ·simp only [he]
  exact ⟨undef, fun w' _ => .inr ⟨hw, rfl⟩, _, F, hl.add hdd hd undef, hm, k⟩
theorem rPick1 {b : Bool} (ho : o.op = .pick y z u) (hy : ev L y = some (.bool b)) (hb : b = true) (hz : ev L z = some v) : Stl P N M w0 o L F v := stl_pure fun a hl => by
 subst hb
 simp only [execOp, ho, hl.eval hy, hl.eval hz, asBool]
 rfl
theorem rPick0 {b : Bool} (ho : o.op = .pick y z u) (hy : ev L y = some (.bool b)) (hb : b = false) (hu : ev L u = some v) : Stl P N M w0 o L F v := stl_pure fun a hl => by
 subst hb
 simp only [execOp, ho, hl.eval hy, hl.eval hu, asBool]
 rfl
class PtTy (P : Program) (t : TypeId) : Prop where
 und : P.underlying t = some (.pointer (P.pointee t))
theorem ow_shrink {A : Option Addr} {cap : Nat} {vs ws : List Value} (F : List Chunk) : CSub (ow A e cap (vs ++ ws) :: F) (ow A e cap vs :: F) :=
 CSub.weak (c := ow A e cap (vs ++ ws)) (d := ow A e cap vs) ⟨fun w h => by
  have h0 : w.ownsRow 0 e 1 (.slice A (vs ++ ws).length cap) (vs ++ ws).length (vs ++ ws) := h
  show w.ownsRow 0 e 1 (.slice A vs.length cap) vs.length vs
  rcases h0 with ⟨h1, h2 | ⟨g, c, cur, hv, hb, hh, hc, hm, hs, ht⟩⟩
  ·obtain ⟨h3, h4⟩ := h2
   simp only [Value.slice.injEq] at h3
   have h5 : vs = [] ∧ ws = [] := by simpa using h4
   obtain ⟨rfl, rfl⟩ := h5
   exact ⟨by simp, .inl ⟨by simp [h3.1, h3.2.2], rfl⟩⟩
  ·simp only [Value.slice.injEq] at hv
   obtain ⟨hA, _, hcap⟩ := hv
   subst hcap
   refine ⟨by omega, .inr ⟨g, cap, cur, by rw [hA], hb, hh, by simp at hc; omega, hm, hs, ?_⟩⟩
   have h6 : vs = (vs ++ ws).take vs.length := by simp
   rw [h6, ← ht, List.take_take]
   simp, fun b h => h, fun h => h⟩ F
end
end Go.Proofs.YtdkahdehodopoaaGreat

namespace Go.Proofs.YtdkahdehodopoaaGreat
open Go.RowKit
structure RowM where
 A : Option Addr
 cap : Nat
 xs : List Int
def RowM.hdr (r : RowM) : Value := .slice r.A r.xs.length r.cap
def RowM.ch (e : TypeId) (r : RowM) : Chunk := ow r.A e r.cap (ints r.xs)
def rowD : RowM := ⟨none, 0, []⟩
def hdrs (rs : List RowM) : List Value := rs.map RowM.hdr
@[simp] theorem hdrs_length (rs : List RowM) : (hdrs rs).length = rs.length := by simp [hdrs]
theorem hdrs_append (rs qs : List RowM) : hdrs (rs ++ qs) = hdrs rs ++ hdrs qs := by simp [hdrs]
def rowsCh (e : TypeId) (rs : List RowM) : Chunk where
 foot b := ∃ r ∈ rs, (r.ch e).foot b
 excl := True
 sat w := (∀ r ∈ rs, (r.ch e).sat w) ∧ rs.Pairwise (fun (r s : RowM) => ∀ b : Nat, (r.ch e).foot b → ¬ (s.ch e).foot b)
 loc w w' h hs := ⟨fun r hr => (r.ch e).loc w w' (fun b hb => h b ⟨r, hr, hb⟩) (hs.1 r hr), hs.2⟩
 cel w b hs hb := by
  obtain ⟨r, hr, hb⟩ := hb
  exact (r.ch e).cel w b (hs.1 r hr) hb
def rowsR (rs : List RowM) : Chunk where
 foot b := ∃ r ∈ rs, (ro r.A (ints r.xs)).foot b
 excl := False
 sat w := ∀ r ∈ rs, (ro r.A (ints r.xs)).sat w
 loc w w' h hs := fun r hr => (ro r.A (ints r.xs)).loc w w' (fun b hb => h b ⟨r, hr, hb⟩) (hs r hr)
 cel w b hs hb := by
  obtain ⟨r, hr, hb⟩ := hb
  exact (ro r.A (ints r.xs)).cel w b (hs r hr) hb
class InB (i n : Nat) : Prop where
 lt : i < n
theorem getD_mem {α : Type} {l : List α} {i : Nat} (h : i < l.length) (d : α) : l.getD i d ∈ l := by
 rw [List.getD_eq_getElem?_getD, List.getElem?_eq_getElem h]
 exact List.getElem_mem h
class RowIn (r : RowM) (rs : List RowM) : Prop where
 mem : r ∈ rs
instance RowIn.get (rs : List RowM) (i : Nat) [h : InB i rs.length] : RowIn (rs.getD i rowD) rs := ⟨getD_mem h.lt _⟩
instance Rd.rowC (F : List Chunk) (e : TypeId) (r : RowM) (rs : List RowM) [h : RowIn r rs] : Rd (rowsCh e rs :: F) r.A (ints r.xs) := ⟨fun _ _ _ hm => ow_reads ((hm.sat _ (List.mem_cons_self ..)).1 _ h.mem), fun b hb => ⟨_, List.mem_cons_self .., _, h.mem, hb.2⟩⟩
instance Rd.rowR (F : List Chunk) (r : RowM) (rs : List RowM) [h : RowIn r rs] : Rd (rowsR rs :: F) r.A (ints r.xs) := ⟨fun _ _ _ hm => hm.sat _ (List.mem_cons_self ..) _ h.mem, fun b hb => ⟨_, List.mem_cons_self .., _, h.mem, hb⟩⟩
class HasRows (F : List Chunk) (rs : List RowM) : Prop where
 has : ∀ (M : Nat → Prop) (w0 w : World), Mem M w0 w F → (rowsR rs).sat w
 ft : ∀ b, (rowsR rs).foot b → ∃ c ∈ F, c.foot b
instance HasRows.tail (c : Chunk) (F : List Chunk) (rs : List RowM) [h : HasRows F rs] : HasRows (c :: F) rs := ⟨fun M w0 w hm => h.has M w0 w hm.tail, fun b hb => by
 obtain ⟨d, hd, hf⟩ := h.ft b hb
 exact ⟨d, List.mem_cons_of_mem _ hd, hf⟩⟩
instance HasRows.ofR (F : List Chunk) (rs : List RowM) : HasRows (rowsR rs :: F) rs := ⟨fun _ _ _ hm => hm.sat _ (List.mem_cons_self ..), fun b hb => ⟨_, List.mem_cons_self .., hb⟩⟩
instance HasRows.ofC (F : List Chunk) (e : TypeId) (rs : List RowM) : HasRows (rowsCh e rs :: F) rs := ⟨fun _ _ _ hm r hr => ow_reads ((hm.sat _ (List.mem_cons_self ..)).1 r hr), fun b hb => ⟨_, List.mem_cons_self .., by
 obtain ⟨r, hr, hf⟩ := hb
 exact ⟨r, hr, hf.2⟩⟩⟩
instance Ent.rows (F : List Chunk) (rs : List RowM) (G : List Chunk) [h : HasRows F rs] [k : Ent F G] : Ent F (rowsR rs :: G) := ⟨fun M w0 w hm c hc => by
 rcases List.mem_cons.1 hc with rfl | hc
 ·exact h.has M w0 w hm
 ·exact k.ent M w0 w hm c hc, fun g hg b hb => by
 rcases List.mem_cons.1 hg with rfl | hg
 ·exact h.ft b hb
 ·exact k.ft g hg b hb⟩
theorem rows_nil (e : TypeId) (F : List Chunk) : CSub F (rowsCh e [] :: F) := fun M w0 w Z hm => by
 refine ⟨hm.upd, fun c hc => ?_, List.pairwise_cons.2 ⟨fun c _ _ b' hb' => ?_, hm.sep⟩, fun c hc hex b' hb' => ?_⟩
 ·rcases List.mem_cons.1 hc with rfl | hc
  ·exact ⟨fun r hr => by simp at hr, List.Pairwise.nil⟩
  ·exact hm.sat c hc
 ·obtain ⟨r, hr, _⟩ := hb'
  simp at hr
 ·rcases List.mem_cons.1 hc with rfl | hc
  ·obtain ⟨r, hr, _⟩ := hb'
   simp at hr
  ·exact hm.own c hc hex b' hb'
theorem rows_snoc {e : TypeId} {rs : List RowM} {r : RowM} (F : List Chunk) : CSub (rowsCh e rs :: r.ch e :: F) (rowsCh e (rs ++ [r]) :: F) := fun M w0 w Z hm => by
 have h1 := hm.sep
 simp only [List.cons_append, List.pairwise_cons] at h1
 obtain ⟨hr, hc, hF⟩ := h1
 have hrr := hr (r.ch e) (by simp) (.inl trivial)
 refine ⟨hm.upd, fun c hcm => ?_, ?_, fun c hcm hex b hb => ?_⟩
 ·rcases List.mem_cons.1 hcm with rfl | hcm
  ·refine ⟨fun s hs => ?_, ?_⟩
   ·rcases List.mem_append.1 hs with hs | hs
    ·exact (hm.sat (rowsCh e rs) (by simp)).1 s hs
    ·simp only [List.mem_singleton] at hs
     subst hs
     exact hm.sat _ (by simp)
   ·rw [List.pairwise_append]
    refine ⟨(hm.sat (rowsCh e rs) (by simp)).2, List.pairwise_singleton _ _, fun s hs s' hs' b hb => ?_⟩
    simp only [List.mem_singleton] at hs'
    subst hs'
    exact hrr b ⟨s, hs, hb⟩
  ·exact hm.sat c (by simp only [List.cons_append, List.mem_cons]; exact .inr (.inr hcm))
 ·simp only [List.cons_append, List.pairwise_cons]
  refine ⟨fun c hcm hex b hb => ?_, hF⟩
  obtain ⟨s, hs, hb⟩ := hb
  rcases List.mem_append.1 hs with hs | hs
  ·exact hr c (List.mem_cons_of_mem _ hcm) (.inl trivial) b ⟨s, hs, hb⟩
  ·simp only [List.mem_singleton] at hs
   subst hs
   exact hc c hcm (.inl trivial) b hb
 ·rcases List.mem_cons.1 hcm with rfl | hcm
  ·obtain ⟨s, hs, hb⟩ := hb
   rcases List.mem_append.1 hs with hs | hs
   ·exact hm.own (rowsCh e rs) (by simp) trivial b ⟨s, hs, hb⟩
   ·simp only [List.mem_singleton] at hs
    subst hs
    exact hm.own (s.ch e) (by simp) trivial b hb
  ·exact hm.own c (by simp only [List.cons_append, List.mem_cons]; exact .inr (.inr hcm)) hex b hb
theorem rows_perm {e : TypeId} {rs qs : List RowM} (h : rs.Perm qs) (F : List Chunk) : CSub (rowsCh e rs :: F) (rowsCh e qs :: F) :=
 CSub.weak (c := rowsCh e rs) (d := rowsCh e qs) ⟨fun w hs => ⟨fun r hr => hs.1 r (h.mem_iff.2 hr), hs.2.perm h (fun h b hb hb' => h b hb' hb)⟩, fun b hb => by
  obtain ⟨r, hr, hf⟩ := hb
  exact ⟨r, h.mem_iff.2 hr, hf⟩, fun h => h⟩ F
theorem rows_uncons {e : TypeId} {r : RowM} {rs : List RowM} (F : List Chunk) : CSub (rowsCh e (r :: rs) :: F) (r.ch e :: rowsCh e rs :: F) := fun M w0 w Z hm => by
 have h0 := hm.sat (rowsCh e (r :: rs)) (by simp)
 have hp := List.pairwise_cons.1 h0.2
 have h1 := hm.sep
 simp only [List.cons_append, List.pairwise_cons] at h1 ⊢
 refine ⟨hm.upd, fun c hc => ?_, ?_, fun c hc hex b hb => ?_⟩
 ·rcases List.mem_cons.1 hc with rfl | hc
  ·exact h0.1 r (by simp)
  ·rcases List.mem_cons.1 hc with rfl | hc
   ·exact ⟨fun s hs => h0.1 s (by simp [hs]), hp.2⟩
   ·exact hm.sat c (by simp only [List.cons_append, List.mem_cons]; exact .inr hc)
 ·simp only [List.cons_append, List.pairwise_cons]
  refine ⟨fun c hc hex b hb hb' => ?_, fun c hc hex b hb => ?_, h1.2⟩
  ·rcases List.mem_cons.1 hc with rfl | hc
   ·obtain ⟨s, hs, hf⟩ := hb'
    exact hp.1 s hs b hb hf
   ·exact h1.1 c hc (.inl trivial) b ⟨r, by simp, hb⟩ hb'
  ·obtain ⟨s, hs, hf⟩ := hb
   exact h1.1 c hc (.inl trivial) b ⟨s, by simp [hs], hf⟩
 ·rcases List.mem_cons.1 hc with rfl | hc
  ·exact hm.own (rowsCh e (r :: rs)) (by simp) trivial b ⟨r, by simp, hb⟩
  ·rcases List.mem_cons.1 hc with rfl | hc
   ·obtain ⟨s, hs, hf⟩ := hb
    exact hm.own (rowsCh e (r :: rs)) (by simp) trivial b ⟨s, by simp [hs], hf⟩
   ·exact hm.own c (by simp only [List.cons_append, List.mem_cons]; exact .inr hc) hex b hb
theorem rows_cons {e : TypeId} {r : RowM} {rs : List RowM} (F : List Chunk) : CSub (r.ch e :: rowsCh e rs :: F) (rowsCh e (r :: rs) :: F) :=
 (CSub.perm (List.Perm.swap ..)).trans ((rows_snoc F).trans (rows_perm (List.perm_append_singleton r rs) F))
theorem perm_at {α : Type} (d : α) : ∀ (l : List α) (i : Nat), i < l.length → l.Perm (l.getD i d :: l.eraseIdx i)
 | a :: l, 0, _ => by simp
 | a :: l, i + 1, h => by
  have ih := perm_at d l i (by simpa using h)
  have h1 : (a :: l).getD (i + 1) d = l.getD i d := by simp
  rw [h1, List.eraseIdx_cons_succ]
  exact (ih.cons a).trans (List.Perm.swap ..)
theorem perm_set {α : Type} : ∀ (l : List α) (i : Nat) (x : α), i < l.length → (l.set i x).Perm (x :: l.eraseIdx i)
 | a :: l, 0, x, _ => by simp
 | a :: l, i + 1, x, h => by
  have ih := perm_set l i x (by simpa using h)
  rw [List.set_cons_succ, List.eraseIdx_cons_succ]
  exact (ih.cons a).trans (List.Perm.swap ..)
theorem rows_out {e : TypeId} {rs : List RowM} {i : Nat} (h : i < rs.length) (F : List Chunk) : CSub (rowsCh e rs :: F) ((rs.getD i rowD).ch e :: rowsCh e (rs.eraseIdx i) :: F) :=
 (rows_perm (perm_at rowD rs i h) F).trans (rows_uncons F)
theorem rows_in {e : TypeId} {rs : List RowM} {r : RowM} {i : Nat} (h : i < rs.length) (F : List Chunk) : CSub (r.ch e :: rowsCh e (rs.eraseIdx i) :: F) (rowsCh e (rs.set i r) :: F) :=
 (rows_cons F).trans (rows_perm (perm_set rs i r h).symm F)
theorem rows_weak {e : TypeId} {rs : List RowM} (F : List Chunk) : CSub (rowsCh e rs :: F) (rowsR rs :: F) :=
 CSub.weak (c := rowsCh e rs) (d := rowsR rs) ⟨fun w h r hr => ow_reads (h.1 r hr), fun b hb => by
  obtain ⟨r, hr, hf⟩ := hb
  exact ⟨r, hr, hf.2⟩, fun h => h.elim⟩ F
theorem hdrs_set (rs : List RowM) (i : Nat) (r : RowM) : hdrs (rs.set i r) = (hdrs rs).set i r.hdr := by simp [hdrs, List.map_set]
theorem tr_nilR {P : Program} {N : NR} {M : Nat → Prop} {w0 : World} {L : Fr} {F : List Chunk} (t e : TypeId) {c : Code} {Q : Exit → Fr → List Chunk → Prop} (h : Tr P N M w0 c L (ow none t 0 (hdrs []) :: rowsCh e [] :: F) Q) : Tr P N M w0 c L F Q :=
 fun ds M1 w1 hb a w hl hm => h ds M1 w1 hb a w hl (nil_mem t ((rows_nil e F).mem hm))
theorem rows_app {c0 : Chunk} {e : TypeId} {rs : List RowM} {r : RowM} {F F0 : List Chunk} [h : Cs F (c0 :: rowsCh e rs :: ow r.A e r.cap (ints r.xs) :: F0)] : CSub F (c0 :: rowsCh e (rs ++ [r]) :: F0) :=
 h.sub.trans (CSub.cons _ (rows_snoc (r := r) F0))
section
variable {P : Program} {N : NB} {M : Nat → Prop} {w0 : World} {L : Fr} {F F' : List Chunk} {K : Fr → List Chunk → Prop} {b : Bool} {o : Oper} {x y : Operand} {t e : TypeId} {z : Value} {bytes : Nat}
theorem eAppR {A B rA : Option Addr} {n c cap rcap : Nat} {rs : List RowM} {xs : List Int} (ho : o.op = .call { callee := .builtin .append, args := #[x, y], argTypes := #[t, t] }) {d : Nat} (hdd : o.dst = some d) (hd : Nat.ble (d + 1) N.n = true) [h : SlTy P t e z 24]
  (hx : ev L x = some (.slice A n cap)) (hy : ev L y = some (.slice B 1 c)) [hp : PkOw F A e cap (hdrs rs) F'] [hr : Rd F B [.slice rA xs.length rcap]] (hn : n = rs.length) (hb : rs.length ≤ 1000000000000)
  (hK : ∀ (A' : Option Addr) (cap' : Nat), K (addL d (.slice A' (rs ++ [(⟨rA, rcap, xs⟩ : RowM)]).length cap') L) (ow A' e cap' (hdrs (rs ++ [(⟨rA, rcap, xs⟩ : RowM)])) :: F')) : Eff P N M w0 false o L F K :=
 eApp ho hdd hd (h := h) hx hy (hp := hp) (hr := hr) (by simpa using hn) rfl (fun u hu => by simp only [List.mem_singleton] at hu; subst hu; rfl) (by simp; omega) (by simp; omega) (fun A' cap' => by
  have := hK A' cap'
  rw [hdrs_append] at this
  simpa [hdrs, RowM.hdr] using this)
theorem rIdxR {A : Option Addr} {n c : Nat} {i : Int} {rs : List RowM} (ho : o.op = .indexAddr t x y) [h : SlTy P t e z bytes] (hx : ev L x = some (.slice A n c)) (hy : ev L y = some (.int .i64 i)) [hr : Rd F A (hdrs rs)] (h0 : 0 ≤ i) (h1 : i < n) (h2 : i < rs.length) :
  Stl P N M w0 o L F (.pointer (some ((A.getD a0).add i.toNat))) := rIdx ho (h := h) hx hy (hr := hr) h0 h1 (by simpa using h2)
theorem rLdR {A : Option Addr} {j : Nat} {rs : List RowM} (ho : o.op = .load t x) [h : ScTy P t] (hx : ev L x = some (.pointer (some ((A.getD a0).add j)))) [hr : Rd F A (hdrs rs)] (hj : j < rs.length) :
  Stl P N M w0 o L F (.slice (rs.getD j rowD).A (rs.getD j rowD).xs.length (rs.getD j rowD).cap) := rLdV ho (h := h) hx (hr := hr) (by
  rw [hdrs, List.getElem?_map, List.getElem?_eq_getElem hj, List.getD_eq_getElem?_getD, List.getElem?_eq_getElem hj]; rfl)
end
end Go.Proofs.YtdkahdehodopoaaGreat

namespace Go.Proofs.YtdkahdehodopoaaGreat
open Go.RowKit
def upI (k : Nat) : List Int := (List.range k).map (fun i : Nat => (i : Int))
theorem upI_succ (k : Nat) : upI (k + 1) = upI k ++ [(k : Int)] := by simp [upI, List.range_succ]
theorem upI_length (k : Nat) : (upI k).length = k := by simp [upI]
def ownd (F : List Chunk) (b : Nat) : Prop := ∃ c ∈ F, c.excl ∧ c.foot b
theorem Mem.rebase {M : Nat → Prop} {w0 w : World} {F : List Chunk} (h : Mem M w0 w F) : Mem (ownd F) w w F :=
 ⟨⟨rfl, rfl, rfl, Nat.le_refl _, fun _ _ _ => rfl⟩, h.sat, h.sep, fun c hc he b hb => .inr ⟨c, hc, he, hb⟩⟩
theorem Mem.owned {M : Nat → Prop} {w0 w : World} {F : List Chunk} (h : Mem M w0 w F) {b : Nat} (hb : ownd F b) : w0.heap.size ≤ b ∨ M b := by
 obtain ⟨c, hc, he, hf⟩ := hb
 exact h.own c hc he b hf
theorem Mem.cells {M : Nat → Prop} {w0 w : World} {F : List Chunk} (h : Mem M w0 w F) {b : Nat} (hb : ownd F b) : ∃ o : Obj, w.heap[b]? = some o ∧ o.isCells = true := by
 obtain ⟨c, hc, he, hf⟩ := hb
 exact c.cel w b (h.sat c hc) hf
theorem mem_grown {M : Nat → Prop} {w W W' : World} {F : List Chunk} {row : Option Nat} (h : Mem M w W F) (hg : W.grownBy W' row) (hr : ∀ r, row = some r → w.heap.size ≤ r ∧ ∃ o : Obj, W.heap[r]? = some o ∧ o.isCells = false) : Mem M w W' F := by
 refine ⟨⟨hg.os.trans h.upd.os, hg.tape.trans h.upd.tape, hg.output.trans h.upd.output, Nat.le_trans h.upd.size hg.size, fun k hk hM => ?_⟩, fun c hc => ?_, h.sep, h.own⟩
 ·rw [← h.upd.block k hk hM]
  refine hg.block k (Nat.lt_of_lt_of_le hk h.upd.size) (fun e => ?_)
  have := (hr k e.symm).1
  omega
 ·refine c.loc W W' (fun b hb => ?_) (h.sat c hc)
  obtain ⟨o, ho, hoc⟩ := c.cel W b (h.sat c hc) hb
  refine hg.block b (Array.getElem?_eq_some_iff.1 ho).1 (fun e => ?_)
  obtain ⟨_, o', ho', hoc'⟩ := hr b e.symm
  rw [ho] at ho'
  simp only [Option.some.injEq] at ho'
  subst ho'
  rw [hoc] at hoc'
  cases hoc'
theorem Mem.within {M M0 : Nat → Prop} {w0 W W' : World} {F F' : List Chunk} (h : Mem M w0 W F) (hM0 : ∀ b, M0 b → ownd F b) (k : Mem M0 W W' F') : Mem M w0 W' F' :=
 ⟨h.upd.trans k.upd (fun x hx hM => (h.owned (hM0 x hM)).resolve_left (by omega)), k.sat, k.sep, fun c hc he b hb => by
  rcases k.own c hc he b hb with h1 | h1
  ·exact .inl (Nat.le_trans h.upd.size h1)
  ·exact h.owned (hM0 b h1)⟩
theorem Mem.others {M0 : Nat → Prop} {w0 W W' : World} {M : Nat → Prop} {F F' : List Chunk} (h : Mem M w0 W F) (hM0 : ∀ b, M0 b → ownd F b) (k : Mem M0 W W' F') : KeepsOthers W W' :=
 ⟨k.upd.size, fun j o ho hc => (k.upd.block j (Array.getElem?_eq_some_iff.1 ho).1 (fun hM => by
  obtain ⟨o', ho', hc'⟩ := h.cells (hM0 j hM)
  rw [ho] at ho'
  simp only [Option.some.injEq] at ho'
  subst ho'
  rw [hc] at hc'
  cases hc')).trans ho⟩
theorem wpIn_room {P : Program} {rd : Option Nat} {n k : Nat} {c : Code} {Q : Exit → Act → World → Prop} {a : Act} {w : World} (h : c.wpIn (WR rd) n P Q a w) : c.wpIn (WR rd) k P Q a w :=
 fun b ks cs h1 h2 _ => h b ks cs h1 h2 (fun d hd => by simp [WR, Fence.wide] at hd)
def GivesUp (P : Program) (gf : FuncId) (lb : Array Value) (q : Nat) (w : World) : Prop :=
 SeqStopsK (α := Int) (WR none) 1 P gf lb (fun x => #[.int .i64 x]) (fun _ _ => True) (fun xs => xs = upI q) (fun pre => ∃ k, k ≤ q ∧ pre = upI k) q w
class Gives (P : Program) (F : List Chunk) (gf : FuncId) (lb : Array Value) (q : outParam Nat) : Prop where
 gives : ∀ (M : Nat → Prop) (w0 w : World), Mem M w0 w F → GivesUp P gf lb q w
section
variable {P : Program} {N : Nat} {M : Nat → Prop} {w0 : World} {L : Fr} {F : List Chunk}
theorem wp_asg {P : Program} {rd : Option Nat} {n id p v : Nat} {o : Oper} {a : Act} {x : Value} {W : World} {K : Act → World → Prop} (ho : o.op = .assign (.tmp p)) (hod : o.dst = some v) (hog : o.guard = none)
  (hx : a.tmps.getD p undef = x) (hK : K (a.put (some v) x) W) : (Code.region id #[o] false).wpIn (WR rd) n P (Exit.then K (fun _ _ _ => False)) a W := by
 refine wpIn_region_seq (by
  show noDefer [o] = true
  simp [noDefer, ho]) ?_
 show wpOps P #[o] _ (List.range 1) a W
 rw [show List.range 1 = [0] from rfl, wpOps_cons]
 unfold wpOp
 have h0 : (#[o] : Array Oper)[0]? = some o := rfl
 simp only [h0]
 rw [if_pos (wanted_none hog _)]
 left
 unfold Oper.wp
 have h1 : (execOp a.eval o).run P W = .ok (.value x) W := by
  simp only [execOp, ho, Act.eval, hx]
  rfl
 rw [h1, Oper.upon_value, hod]
 exact ⟨rfl, hK⟩
theorem zip1 (t : Array Value) (p : Nat) (x : Value) : (#[p].zip #[x]).foldl (fun (t : Array Value) (pv : Nat × Value) => t.setIfInBounds pv.1 pv.2) t = t.setIfInBounds p x := by
 have h : #[p].zip #[x] = #[(p, x)] := by
  apply Array.ext'
  simp [Array.toList_zip]
 rw [h]; rfl
theorem tr_range {S : Type} {gf : FuncId} {lb : Array Value} {q : Nat} {g : Operand} {p v id : Nat} {o : Oper} {body : Code} {Q : Exit → Fr → List Chunk → Prop}
  (hg : ev L g = some (.func (.func gf) #[] lb)) (eg : Enters P gf) [hseq : Gives P F gf lb q]
  (ho : o.op = .assign (.tmp p)) (hod : o.dst = some v) (hog : o.guard = none) (hp : Nat.ble (p + 1) N = true) (hv : Nat.ble (v + 1) N = true)
  (Ff : S → List Chunk) (I : List Int → S → Prop) (s0 : S) (hF : CSub F (Ff s0)) (hI : I [] s0)
  (round : ∀ (pre : List Int) (x : Int) (s : S) (l : Nat) (M0 : Nat → Prop) (W0 : World), pre.length < q → I pre s → Tr P ⟨N, some l⟩ M0 W0 body ((v, .int .i64 x) :: (p, .int .i64 x) :: L) (Ff s) (fun e _ F' =>
   match e with
   | .normal => ∃ s', CSub F' (Ff s') ∧ I (pre ++ [x]) s'
   | .exit i => (∃ k, k ≤ q ∧ pre ++ [x] = upI k) → Q (.exit i) L F'
   | .ret => (∃ k, k ≤ q ∧ pre ++ [x] = upI k) → Q .ret L F'
   | _ => False))
  (done : ∀ s, I (upI q) s → Q .normal L (Ff s)) :
  Tr P ⟨N, none⟩ M w0 (.rangeFunc g #[p] (.region id #[o] false) body) L F Q := fun ds M1 w1 hb a w hl hm => by
 have hmF := hF.mem hm
 have hrb := hmF.rebase
 have hp' : p < N := Nat.lt_of_succ_le (Nat.le_of_ble_eq_true hp)
 have hv' : v < N := Nat.lt_of_succ_le (Nat.le_of_ble_eq_true hv)
 -- what a base is after the loop
 have base : ∀ (F2 : List Chunk) (D : Nat) (W : World), Mem (ownd (Ff s0)) w W F2 → w.heap.size ≤ D → W.heap[D]? = some (.deferred (some [])) → Bs M w0 (ownd F2) W (D :: ds) := by
  intro F2 D W hmW hD hWD
  have hbt := hb.total hmF
  refine ⟨hbt.upd.trans hmW.upd (fun x hx hM => (hbt.owned hM).resolve_left (by omega)), fun b hbo => ?_, List.nodup_cons.2 ⟨fun hmem => ?_, hb.nd⟩, fun E hE => ?_⟩
  ·rcases hmW.owned hbo with h1 | h1
   ·exact .inr (Nat.le_trans hbt.upd.size h1)
   ·exact (hbt.owned h1).symm
  ·have := (hb.marks hm D hmem).2.1; omega
  ·rcases List.mem_cons.1 hE with rfl | hE
   ·refine ⟨Nat.le_trans hbt.upd.size hD, (Array.getElem?_eq_some_iff.1 hWD).1, fun ho => ?_, hWD⟩
    obtain ⟨o', ho', hc'⟩ := hmW.cells ho
    rw [hWD] at ho'
    simp only [Option.some.injEq] at ho'
    subst ho'
    cases hc'
   ·obtain ⟨h1, h2, h3⟩ := hb.marks hm E hE
    have hWE : W.heap[E]? = some (.deferred (some [])) := (hmW.upd.block E h2 (fun ho => by
     obtain ⟨o', ho', hc'⟩ := hmF.cells ho
     rw [h3] at ho'
     simp only [Option.some.injEq] at ho'
     subst ho'
     cases hc')).trans h3
    refine ⟨h1, Nat.lt_of_lt_of_le h2 hmW.upd.size, fun ho => ?_, hWE⟩
    obtain ⟨o', ho', hc'⟩ := hmW.cells ho
    rw [hWE] at ho'
    simp only [Option.some.injEq] at ho'
    subst ho'
    cases hc'
 have holds : ∀ D, Holds ⟨N, D :: ds⟩ { a with defers := { target := .collected D, args := #[] } :: a.defers } L := fun D =>
  ⟨hl.size, by rw [hl.defers]; rfl, hl.get⟩
 refine wpIn_rangeFunc_ownF (α := Int) (F := WR none) (n := 2) (encs := fun x => #[.int .i64 x]) (Kp := fun _ _ => True) (S := fun xs => xs = upI q) (Sp := fun pre => ∃ k, k ≤ q ∧ pre = upI k) (N := q) (w0 := w)
  rfl (by omega) (gf := gf) (lb := lb) (hl.eval hg) trivial eg (hseq.gives _ _ w hm) (fun _ _ => trivial) (fun _ _ _ _ _ _ _ _ => trivial) (Below.refl _ _) (fun _ => rfl)
  (fun pre W => ∃ s, Mem (ownd (Ff s0)) w W (Ff s) ∧ I pre s)
  (fun c pre W => ∃ F', Mem (ownd (Ff s0)) w W F' ∧ ((c = .ret ∧ ((∃ k, k ≤ q ∧ pre = upI k) → Q .ret L F')) ∨ ∃ i, c = .exit i ∧ ((∃ k, k ≤ q ∧ pre = upI k) → Q (.exit i) L F')))
  (fun pre W W' row h1 hg hr => ?_) (fun c pre W W' row h1 hg hr => ?_) ⟨s0, hrb, hI⟩
  (fun x => ({ tmps := a.tmps.setIfInBounds p (.int .i64 x), defers := [] } : Act).put (some v) (.int .i64 x)) ?_ ?_ ?_ ?_
 ·obtain ⟨s, h2, h3⟩ := h1
  exact ⟨s, mem_grown h2 hg hr, h3⟩
 ·obtain ⟨F', h2, h3⟩ := h1
  exact ⟨F', mem_grown h2 hg hr, h3⟩
 ·intro l x W K hK
  have hz : (#[p].zip #[Value.int .i64 x]).foldl (fun (t : Array Value) (pv : Nat × Value) => t.setIfInBounds pv.1 pv.2) a.tmps = a.tmps.setIfInBounds p (.int .i64 x) := zip1 _ _ _
  show (Code.region id #[o] false).wpIn _ _ P _ { tmps := (#[p].zip #[Value.int .i64 x]).foldl (fun (t : Array Value) (pv : Nat × Value) => t.setIfInBounds pv.1 pv.2) a.tmps, defers := [] } W
  rw [hz]
  refine wp_asg ho hod hog ?_ hK
  show (a.tmps.setIfInBounds p (.int .i64 x)).getD p undef = _
  have := hl.size
  simp only at this
  simp [this, hp']
 ·rintro l pre x W ⟨s, hs, hIs⟩ hlen
  have hact : Holds ⟨N, []⟩ (({ tmps := a.tmps.setIfInBounds p (.int .i64 x), defers := [] } : Act).put (some v) (.int .i64 x)) ((v, .int .i64 x) :: (p, .int .i64 x) :: L) := by
   have h0 : Holds ⟨N, []⟩ ({ tmps := a.tmps, defers := [] } : Act) L := ⟨hl.size, rfl, hl.get⟩
   exact (h0.put (d := some p) hp (.int .i64 x)).put (d := some v) hv (.int .i64 x)
  refine wpIn_room (n := 2) (wpIn_mono (round pre x s l (ownd (Ff s)) W hlen hIs [] (ownd (Ff s)) W (Bs.refl _ _) _ W hact hs.rebase) fun e a' W' hq => ?_)
  obtain ⟨ds', M2, w2, hb2, L', F', h1, h2, h3⟩ := hq
  have ht := hb2.total h2
  have hko := hs.others (fun b h => h) ht
  have hmm := hs.within (fun b h => h) ht
  cases e with
  | normal =>
   obtain ⟨s', h4, h5⟩ := h3
   exact ⟨hko, trivial, s', h4.mem hmm, h5⟩
  | ret => exact ⟨hko, F', hmm, .inl ⟨rfl, h3⟩⟩
  | exit i => exact ⟨hko, F', hmm, .inr ⟨i, rfl, h3⟩⟩
  | goto t => exact h3.elim
  | panic ch => exact h3.elim
  | outgrown => exact h3.elim
 ·rintro D xs W hD rfl ⟨s, hs, hIs⟩ hWD
  exact ⟨D :: ds, ownd (Ff s), W, base _ D W hs hD hWD, L, Ff s, holds D, hs.rebase, done s hIs⟩
 ·rintro D c pre W hD hSp ⟨F', hs, hc⟩ hWD
  rcases hc with ⟨rfl, hc⟩ | ⟨i, rfl, hc⟩
  ·exact wpIn_ret ⟨D :: ds, ownd F', W, base _ D W hs hD hWD, L, F', holds D, hs.rebase, hc hSp⟩
  ·exact wpIn_exit ⟨D :: ds, ownd F', W, base _ D W hs hD hWD, L, F', holds D, hs.rebase, hc hSp⟩
end
end Go.Proofs.YtdkahdehodopoaaGreat

namespace Go.Proofs.YtdkahdehodopoaaGreat
open Go.RowKit
structure Mut (P : Program) (f : FuncId) (args : Array Value) (H G : List Chunk) (R : Value → List Chunk → Prop) : Prop where
 ent : Enters P f
 run : ∀ w, Mem (ownd H) w w (H ++ G) → Calls P f args w (fun e w' => ∃ v Fo, e = .returned v ∧ R v Fo ∧ Mem (ownd H) w w' Fo ∧ AllEx Fo)
theorem Mut.mono {P : Program} {f : FuncId} {args : Array Value} {H G : List Chunk} {R R' : Value → List Chunk → Prop} (h : Mut P f args H G R) (hr : ∀ v Fo, R v Fo → R' v Fo) : Mut P f args H G R' :=
 ⟨h.ent, fun w hm => (h.run w hm).mono fun _ _ ⟨v, Fo, h1, h2, h3⟩ => ⟨v, Fo, h1, hr _ _ h2, h3⟩⟩
class PkS (F H : List Chunk) (F' : outParam (List Chunk)) : Prop where
 perm : F.Perm (H ++ F')
instance PkS.nil (F : List Chunk) : PkS F [] F := ⟨List.Perm.refl _⟩
instance PkS.cons (F F1 F2 H : List Chunk) (c : Chunk) [h : Pk F c F1] [k : PkS F1 H F2] : PkS F (c :: H) F2 := ⟨h.perm.trans (k.perm.cons c)⟩
theorem mut_of {P : Program} {f : FuncId} {fn : Func} {c : Code} {args : List Value} {H G F : List Chunk} {R : Value → List Chunk → Prop} (N : Nat) (hF : H ++ G = F) (hf : P.funcs[f]? = some fn) (hb : fn.body = some c) (hn : fn.ntmps = N) (hle : Nat.ble args.length N = true) (he : Enters P f)
  (h : ∀ w0, Tr P ⟨N, none⟩ (ownd H) w0 c (numb 0 args) F (retC P fn.results R)) : Mut P f args.toArray H G R := ⟨he, fun w hs => by
 subst hF
 refine (callsIn_WR (rd := none) (n := 2)).1 (callsIn_of_wp_marks hf hb trivial ?_)
 refine wpIn_mono (h w [] (ownd H) w (Bs.refl _ _) _ w (enter_holds hn (Nat.le_of_ble_eq_true hle)) hs) fun e a' w' ⟨ds, M1, w1, hb, L', F', h1, h2, hq⟩ => ?_
 obtain ⟨hq1, vs, Fo, hv, hR, hsub, hall⟩ := hq
 have hend : LeavesInM (WR none) 2 P fn a'.tmps (fun e w' => ∃ v Fo, e = .returned v ∧ R v Fo ∧ Mem (ownd H) w w' Fo ∧ AllEx Fo) a'.defers .returning w' := by
  rw [h1.defers]
  refine unmark ds w' hb.nd (fun D hD => (hb.marks h2 D hD).2.2) (fun w2 e1 e2 e3 e4 e5 => ?_)
  have ht := hb.total h2
  have hsat : ∀ c ∈ F', c.sat w2 := fun c hc => c.loc w' w2 (fun b hbf => e5 b (fun hD => by
   obtain ⟨o, ho, hoc⟩ := c.cel w' b (ht.sat c hc) hbf
   rw [(hb.marks h2 b hD).2.2] at ho
   simp only [Option.some.injEq] at ho
   subst ho
   cases hoc)) (ht.sat c hc)
  have hm2 : Mem (ownd H) w w2 F' := ⟨⟨e1.trans ht.upd.os, e2.trans ht.upd.tape, e3.trans ht.upd.output, by rw [e4]; exact ht.upd.size, fun k hk hf => by
   rw [e5 k (fun hD => by have := (hb.marks h2 k hD).1; omega)]
   exact ht.upd.block k hk hf⟩, hsat, ht.sep, ht.own⟩
  exact ⟨tup vs, results_okC h1 hm2 hv, _, Fo, rfl, hR, hsub.mem hm2, hall⟩
 cases e with
 | normal => exact hend
 | ret => exact hend
 | _ => exact hq1.elim⟩
def bun (G : List Chunk) : Chunk where
 foot b := ∃ c ∈ G, c.foot b
 excl := False
 sat w := ∀ c ∈ G, c.sat w
 loc w w' h hs := fun c hc => c.loc w w' (fun b hb => h b ⟨c, hc, hb⟩) (hs c hc)
 cel w b hs hb := by
  obtain ⟨c, hc, hf⟩ := hb
  exact c.cel w b (hs c hc) hf
class HasBun (F G : List Chunk) : Prop where
 has : bun G ∈ F
instance HasBun.head (F G : List Chunk) : HasBun (bun G :: F) G := ⟨List.mem_cons_self ..⟩
instance HasBun.tail (c : Chunk) (F G : List Chunk) [h : HasBun F G] : HasBun (c :: F) G := ⟨List.mem_cons_of_mem _ h.has⟩
theorem ent_bun {F G : List Chunk} [h : HasBun F G] : Ent F G := ⟨fun M w0 w hm c hc => hm.sat _ h.has c hc, fun g hg b hb => ⟨_, h.has, g, hg, hb⟩⟩
instance (priority := low) Ent.ofBun (F G : List Chunk) [h : HasBun F G] : Ent F G := ent_bun
instance Ent.bun (F H G : List Chunk) [h : Ent F H] [k : Ent F G] : Ent F (bun H :: G) := ⟨fun M w0 w hm c hc => by
 rcases List.mem_cons.1 hc with rfl | hc
 ·exact fun c hc => h.ent M w0 w hm c hc
 ·exact k.ent M w0 w hm c hc, fun g hg b hb => by
 rcases List.mem_cons.1 hg with rfl | hg
 ·obtain ⟨c, hc, hf⟩ := hb
  exact h.ft c hc b hf
 ·exact k.ft g hg b hb⟩
section
variable {P : Program} {N : NB} {M : Nat → Prop} {w0 : World} {L : Fr} {F F' : List Chunk} {K : Fr → List Chunk → Prop} {b : Bool} {o : Oper} {v : Value} {x y : Operand} {t t' : TypeId}
theorem mut_mem {H G : List Chunk} {w : World} (hm : Mem M w0 w F) (hp : F.Perm (H ++ F')) [he : Ent F' G] (hG : NoEx G) : Mem (ownd H) w w (H ++ G) := by
 have hm' := hm.perm hp
 have h1 := List.pairwise_append.1 hm'.sep
 have hF' : Mem M w0 w F' := ⟨hm'.upd, fun c hc => hm'.sat c (List.mem_append_right _ hc), h1.2.1, fun c hc => hm'.own c (List.mem_append_right _ hc)⟩
 refine ⟨⟨rfl, rfl, rfl, Nat.le_refl _, fun _ _ _ => rfl⟩, fun c hc => ?_, ?_, fun c hc hex b hb => ?_⟩
 ·rcases List.mem_append.1 hc with hc | hc
  ·exact hm'.sat c (List.mem_append_left _ hc)
  ·exact he.ent M w0 w hF' c hc
 ·refine List.pairwise_append.2 ⟨h1.1, ?_, fun c hc g hg hex b hb hb' => ?_⟩
  ·refine List.Pairwise.imp_of_mem (R := fun _ _ => True) (fun {c d} hc hd _ => fun hex => (hex.elim (hG.mem c hc) (hG.mem d hd)).elim) ?_
   exact List.pairwise_of_forall (fun _ _ => trivial)
  ·obtain ⟨d, hd, hf⟩ := he.ft g hg b hb'
   exact h1.2.2 c hc d hd (.inl (hex.resolve_right (hG.mem g hg))) b hb hf
 ·rcases List.mem_append.1 hc with hc | hc
  ·exact .inr ⟨c, hc, hex, hb⟩
  ·exact absurd hex (hG.mem c hc)
theorem mut_back {H Fo : List Chunk} {w w' : World} (hm : Mem M w0 w F) (hp : F.Perm (H ++ F')) (hH : AllEx H) (k : Mem (ownd H) w w' Fo) (hFo : AllEx Fo) : Mem M w0 w' (Fo ++ F') := by
 have hm' := hm.perm hp
 have h1 := List.pairwise_append.1 hm'.sep
 have own : ∀ b, ownd H b → w0.heap.size ≤ b ∨ M b := fun b ⟨c, hc, hex, hf⟩ => hm'.own c (List.mem_append_left _ hc) hex b hf
 refine ⟨hm'.upd.trans k.upd (fun x hx hM => (own x hM).resolve_left (by omega)), fun c hc => ?_, List.pairwise_append.2 ⟨k.sep, h1.2.1, fun c hc d hd hex b hb hb' => ?_⟩, fun c hc hex b hb => ?_⟩
 ·rcases List.mem_append.1 hc with hc | hc
  ·exact k.sat c hc
  ·have hs := hm'.sat c (List.mem_append_right _ hc)
   exact c.loc w w' (fun b hb => k.upd.block b (c.lt w b hs hb) (fun ⟨d, hd, hex, hf⟩ => h1.2.2 d hd c hc (.inl hex) b hf hb)) hs
 ·rcases k.own c hc (hFo.mem c hc) b hb with h2 | ⟨e, he, hex', hf⟩
  ·have := d.lt w b (hm'.sat d (List.mem_append_right _ hd)) hb'
   omega
  ·exact h1.2.2 e he d hd (.inl hex') b hf hb'
 ·rcases List.mem_append.1 hc with hc | hc
  ·rcases k.own c hc hex b hb with h2 | h2
   ·exact .inl (Nat.le_trans hm'.upd.size h2)
   ·exact own b h2
  ·exact hm'.own c (List.mem_append_right _ hc) hex b hb
theorem eCallM {f : FuncId} {xs : List Operand} {tys : Array TypeId} {vals : List Value} {H G : List Chunk} {R : Value → List Chunk → Prop} (ho : o.op = .call { callee := .value (.func f), args := xs.toArray, argTypes := tys }) {d : Nat} (hdd : o.dst = some d) (hd : Nat.ble (d + 1) N.n = true)
  (hs : Mut P f vals.toArray H G R) (hx : EvL L xs vals) [hp : PkS F H F'] [he : Ent F' G] (hK : ∀ v Fo, R v Fo → K (addL d v L) (Fo ++ F')) (hG : NoEx G := by repeat' (first | exact trivial | exact id | refine ⟨?_, ?_⟩)) (hH : AllEx H := by repeat' (first | exact trivial | refine ⟨?_, ?_⟩)) : Eff P N M w0 false o L F K := fun a w hl hm => by
 have hargs : (xs.toArray.map a.eval) = vals.toArray := by simp [hl.evalL hx]
 have hrun : (execOp a.eval o).run P w = .ok (.enter f vals.toArray) w := by
  simp only [execOp, ho, resolve, hargs, Sem.run_bind, Deferred.ofValue, Act.eval, Sem.run_pure, Result.andThen_ok, invoke, Array.append_empty, Array.empty_append, hs.ent _ _]
 simp only [Oper.wp, hrun, Oper.upon_enter]
 refine (hs.run w (mut_mem hm hp.perm hG)).mono fun e w' ⟨v, Fo, h1, h2, h3, h4⟩ => ?_
 subst h1
 exact ⟨fun h => (by cases h), _, _, hl.add hdd hd v, mut_back hm hp.perm hH h3 h4, hK v Fo h2⟩
def two (R : Value → Chunk → Chunk → Prop) : Value → List Chunk → Prop := fun u Fo => ∃ c d, Fo = [c, d] ∧ R u c d
theorem eCall2 {f : FuncId} {xs : List Operand} {tys : Array TypeId} {vals : List Value} {G : List Chunk} {R : Value → Chunk → Chunk → Prop} (ho : o.op = .call { callee := .value (.func f), args := xs.toArray, argTypes := tys }) {d : Nat} (hdd : o.dst = some d) (hd : Nat.ble (d + 1) N.n = true)
  (hs : Pure P f vals.toArray G (two R)) (hx : EvL L xs vals) [he : Ent F G] (hK : ∀ v c e, R v c e → K (addL d v L) (c :: e :: F)) : Eff P N M w0 b o L F K :=
 eCall ho hdd hd hs hx (he := he) fun u Fo ⟨c, e, h1, h2⟩ => by subst h1; exact hK u c e h2
theorem eCallM1 {f : FuncId} {xs : List Operand} {tys : Array TypeId} {vals : List Value} {H G : List Chunk} {R : Value → Chunk → Prop} (ho : o.op = .call { callee := .value (.func f), args := xs.toArray, argTypes := tys }) {d : Nat} (hdd : o.dst = some d) (hd : Nat.ble (d + 1) N.n = true)
  (hs : Mut P f vals.toArray H G (one R)) (hx : EvL L xs vals) [hp : PkS F H F'] [he : Ent F' G] (hK : ∀ v c, R v c → K (addL d v L) (c :: F')) (hG : NoEx G := by repeat' (first | exact trivial | exact id | refine ⟨?_, ?_⟩)) (hH : AllEx H := by repeat' (first | exact trivial | refine ⟨?_, ?_⟩)) : Eff P N M w0 false o L F K :=
 eCallM ho hdd hd hs hx (hp := hp) (he := he) (fun u Fo ⟨c, h1, h2⟩ => by subst h1; exact hK u c h2) hG hH
theorem eCallF {f : FuncId} {z : Operand} {xs : List Operand} {tys : Array TypeId} {vals lb : List Value} {H G : List Chunk} {R : Value → List Chunk → Prop} (ho : o.op = .call { callee := .value z, args := xs.toArray, argTypes := tys }) {d : Nat} (hdd : o.dst = some d) (hd : Nat.ble (d + 1) N.n = true)
  (hz : ev L z = some (.func (.func f) #[] lb.toArray)) (hs : Mut P f (vals ++ lb).toArray H G R) (hx : EvL L xs vals) [hp : PkS F H F'] [he : Ent F' G] (hK : ∀ v Fo, R v Fo → K (addL d v L) (Fo ++ F')) (hG : NoEx G := by repeat' (first | exact trivial | exact id | refine ⟨?_, ?_⟩)) (hH : AllEx H := by repeat' (first | exact trivial | refine ⟨?_, ?_⟩)) : Eff P N M w0 false o L F K := fun a w hl hm => by
 have hargs : (xs.toArray.map a.eval) = vals.toArray := by simp [hl.evalL hx]
 have hrun : (execOp a.eval o).run P w = .ok (.enter f (vals ++ lb).toArray) w := by
  have h1 : vals.toArray ++ lb.toArray = (vals ++ lb).toArray := by simp
  simp only [execOp, ho, resolve, hargs, Sem.run_bind, Deferred.ofValue, hl.eval hz, Sem.run_pure, Result.andThen_ok, invoke, Array.append_empty, Array.empty_append, h1, hs.ent _ _]
 simp only [Oper.wp, hrun, Oper.upon_enter]
 refine (hs.run w (mut_mem hm hp.perm hG)).mono fun e w' ⟨v, Fo, h1, h2, h3, h4⟩ => ?_
 subst h1
 exact ⟨fun h => (by cases h), _, _, hl.add hdd hd v, mut_back hm hp.perm hH h3 h4, hK v Fo h2⟩
theorem eCallFP {f : FuncId} {z : Operand} {xs : List Operand} {tys : Array TypeId} {vals lb : List Value} {G : List Chunk} {R : Value → List Chunk → Prop} (ho : o.op = .call { callee := .value z, args := xs.toArray, argTypes := tys }) {d : Nat} (hdd : o.dst = some d) (hd : Nat.ble (d + 1) N.n = true)
  (hz : ev L z = some (.func (.func f) #[] lb.toArray)) (hs : Pure P f (vals ++ lb).toArray G R) (hx : EvL L xs vals) [he : Ent F G] (hK : ∀ v Fo, R v Fo → K (addL d v L) (Fo ++ F)) : Eff P N M w0 b o L F K := fun a w hl hm => by
 have hargs : (xs.toArray.map a.eval) = vals.toArray := by simp [hl.evalL hx]
 have hrun : (execOp a.eval o).run P w = .ok (.enter f (vals ++ lb).toArray) w := by
  have h1 : vals.toArray ++ lb.toArray = (vals ++ lb).toArray := by simp
  simp only [execOp, ho, resolve, hargs, Sem.run_bind, Deferred.ofValue, hl.eval hz, Sem.run_pure, Result.andThen_ok, invoke, Array.append_empty, Array.empty_append, h1, hs.ent _ _]
 simp only [Oper.wp, hrun, Oper.upon_enter]
 refine (hs.run w (he.ent M w0 w hm)).mono fun e w' ⟨v, Fo, h1, h2, h3, h4, h5⟩ => ?_
 subst h1
 exact ⟨fun _ => h2, _, _, hl.add hdd hd v, hm.add h2 h4 h5, hK v Fo h3⟩
theorem eCallFV {f : FuncId} {z : Operand} {xs : List Operand} {tys : Array TypeId} {vals lb : List Value} {G : List Chunk} (ho : o.op = .call { callee := .value z, args := xs.toArray, argTypes := tys }) {d : Nat} (hdd : o.dst = some d) (hd : Nat.ble (d + 1) N.n = true)
  (hz : ev L z = some (.func (.func f) #[] lb.toArray)) (hs : Pure P f (vals ++ lb).toArray G (isV v)) (hx : EvL L xs vals) (he : Ent F G) (hK : K (addL d v L) F) : Eff P N M w0 b o L F K :=
 eCallFP ho hdd hd hz hs hx (he := he) fun u Fo ⟨h1, h2⟩ => by subst h1; subst h2; exact hK
end
end Go.Proofs.YtdkahdehodopoaaGreat

namespace Go.Proofs.YtdkahdehodopoaaGreat
open Go.RowKit
section
variable {P : Program} {N : NB} {M : Nat → Prop} {w0 : World} {L : Fr} {F : List Chunk} {o : Oper} {v : Value} {x y : Operand} {t t' : TypeId}
theorem rXor {m n : Int} (ho : o.op = .binOp .xor t x y t') (hx : ev L x = some (.int .i64 m)) (hy : ev L y = some (.int .i64 n)) (h1 : 0 ≤ m ∧ m < 4294967296) (h2 : 0 ≤ n ∧ n < 4294967296) : Stl P N M w0 o L F (.int .i64 ((m.toNat ^^^ n.toNat : Nat) : Int)) :=
 stl_pure fun a hl => by
  have hb : m.toNat ^^^ n.toNat < 2 ^ 32 := Nat.xor_lt_two_pow (by omega) (by omega)
  have h3 : (BitVec.ofInt IntKind.i64.bits m ^^^ BitVec.ofInt IntKind.i64.bits n).toNat = m.toNat ^^^ n.toNat := by
   rw [BitVec.toNat_xor, BitVec.toNat_ofInt, BitVec.toNat_ofInt]
   have e1 : (m % ((2 ^ IntKind.i64.bits : Nat) : Int)).toNat = m.toNat := by
    rw [Int.emod_eq_of_lt h1.1 (by simp [IntKind.bits]; omega)]
   have e2 : (n % ((2 ^ IntKind.i64.bits : Nat) : Int)).toNat = n.toNat := by
    rw [Int.emod_eq_of_lt h2.1 (by simp [IntKind.bits]; omega)]
   rw [e1, e2]
  simp only [execOp, ho, hl.eval hx, hl.eval hy, eqGuard, binOp, Op.intBits, h3, IntWalk.i64_in _ (show -9223372036854775808 ≤ ((m.toNat ^^^ n.toNat : Nat) : Int) ∧ ((m.toNat ^^^ n.toNat : Nat) : Int) ≤ 9223372036854775807 by omega)]
  rfl
end
end Go.Proofs.YtdkahdehodopoaaGreat

namespace Go.Proofs.YtdkahdehodopoaaGreat
open Go.RowKit
section
variable {P : Program} {N : NB} {M : Nat → Prop} {w0 : World} {L : Fr} {F F' : List Chunk} {K : Fr → List Chunk → Prop} {b : Bool} {o : Oper} {v : Value} {x y : Operand} {t t' : TypeId}
theorem st_sub {z : Bool} {ops : List Oper} {G : List Chunk} (h : CSub F G) (k : StepO P N M w0 z ops o L G K) : StepO P N M w0 z ops o L F K := fun a w hl hm => k a w hl (h.mem hm)
theorem eCallF2 {f : FuncId} {z : Operand} {xs : List Operand} {tys : Array TypeId} {vals lb : List Value} {H G : List Chunk} {R : Value → Chunk → Chunk → Prop} (ho : o.op = .call { callee := .value z, args := xs.toArray, argTypes := tys }) {d : Nat} (hdd : o.dst = some d) (hd : Nat.ble (d + 1) N.n = true)
  (hz : ev L z = some (.func (.func f) #[] lb.toArray)) (hs : Mut P f (vals ++ lb).toArray H G (two R)) (hx : EvL L xs vals) [hp : PkS F H F'] [he : Ent F' G] (hK : ∀ v c e, R v c e → K (addL d v L) (c :: e :: F')) (hG : NoEx G := by repeat' (first | exact trivial | exact id | refine ⟨?_, ?_⟩)) (hH : AllEx H := by repeat' (first | exact trivial | refine ⟨?_, ?_⟩)) : Eff P N M w0 false o L F K :=
 eCallF ho hdd hd hz hs hx (hp := hp) (he := he) (fun u Fo ⟨c, e, h1, h2⟩ => by subst h1; exact hK u c e h2) hG hH
end
theorem swap_perm {α : Type} (d : α) (l : List α) {i j : Nat} (hi : i < l.length) (hj : j < l.length) : l.Perm ((l.set i (l.getD j d)).set j (l.getD i d)) := by
 by_cases h : i = j
 ·subst h
  have e : l.getD i d = l[i] := by rw [List.getD_eq_getElem?_getD, List.getElem?_eq_getElem hi]; rfl
  rw [e, List.set_getElem_self, List.set_getElem_self]
 ·have h1 := perm_set (l.set i (l.getD j d)) j (l.getD i d) (by simpa using hj)
  have h2 := perm_at d l i hi
  have h3 := perm_at d (l.set i (l.getD j d)) j (by simpa using hj)
  have h4 : (l.set i (l.getD j d)).getD j d = l.getD j d := by
   rw [List.getD_eq_getElem?_getD, List.getElem?_set, if_neg h, ← List.getD_eq_getElem?_getD]
  rw [h4] at h3
  have h5 := perm_set l i (l.getD j d) hi
  have h6 : (l.getD j d :: (l.set i (l.getD j d)).eraseIdx j).Perm (l.getD j d :: l.eraseIdx i) := h3.symm.trans h5
  exact (h2.trans ((List.Perm.cons_inv h6).symm.cons _)).trans h1.symm
end Go.Proofs.YtdkahdehodopoaaGreat

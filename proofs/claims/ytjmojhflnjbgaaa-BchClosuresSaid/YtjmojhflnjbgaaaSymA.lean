/-
  THE ORDER OF A REGION. One sentence: a region that draws its order holds whatever its order is, if one chosen order has been walked in which each operation either reads alone or is the only one that may come up.
  Conditions: none. Plain theorems on the model's own words; no program is named here.
-/
import Derived.WalkKit
import Derived.Still
import Derived.OrdersIn
import Derived.CallsIn
namespace Go.Proofs.Ytjmojhflnjbgaaa
open Go.RowKit

/-- w' is w with new blocks (and draws) alone. -/
def Ext (w w' : World) : Prop := Below w.heap.size w w'
theorem Ext.refl (w : World) : Ext w w := Below.refl _ _
theorem Ext.trans {a b c : World} (h : Ext a b) (k : Ext b c) : Ext a c := Below.trans h (Below.mono k h.size)

/-- Operations that may change the world. -/
def isEff : Op → Bool
  | .call { callee := .builtin b, .. } => (match b with | .len => false | .cap => false | .min => false | .max => false | _ => true)
  | .alloc _ | .box .. | .store .. | .makeSlice .. | .buildSlice .. | .call _ => true
  | .load .. | .move _ | .assign _ | .pick .. | .build .. | .nilCheck _ | .binOp .. | .unOp .. | .convert .. | .makeFunc .. | .slice .. | .fieldAddr .. | .field .. | .indexAddr .. | .index .. | .extract .. => false
  | _ => true

section
variable {P : Program} {ops : Array Oper} {md : Region.Mode}

/-- In whatever world that extends w, operation o leaves v. -/
def YieldsX (P : Program) (ops : Array Oper) (w : World) (o : Oper) (v : Value) (a : Act) : Prop := ∀ w', Ext w w' → YieldsAt P ops w' o v a

theorem YieldsX.of_same {w : World} {o : Oper} {v : Value} {a a' : Act} (hy : YieldsX P ops w o v a) (he : execOp a'.eval o = execOp a.eval o)
    (hw : Region.wanted o (yielded ops a'.tmps) = Region.wanted o (yielded ops a.tmps)) : YieldsX P ops w o v a' := fun w' h => YieldsAt.of_same (hy w' h) he hw
theorem YieldsX.ext {w w' : World} {o : Oper} {v : Value} {a : Act} (hy : YieldsX P ops w o v a) (h : Ext w w') : YieldsX P ops w' o v a := fun w'' h' => hy w'' (h.trans h')

/-- Nothing but the way ahead. -/
def noQ : Exit → Act → World → Prop := fun _ _ _ => False

theorem Oper.wp_noQ {o : Oper} {a : Act} {w : World} {K : Act → World → Prop} {Q : Exit → Act → World → Prop} (h : o.wp P a w K noQ) : o.wp P a w K Q := by
  unfold Oper.wp at *
  generalize (execOp a.eval o).run P w = r at *
  cases r with
  | ok n w' =>
    cases n <;> simp only [Oper.upon] at h ⊢ <;>
      first
        | exact h
        | exact h.elim
        | exact Calls.mono h (fun e w'' he => by
            cases e with
            | returned v => exact he
            | panicked c => exact he.elim
            | outgrown => obtain ⟨a, w, h⟩ := he; exact h.elim)
  | halt x w' => cases x <;> simp only [Oper.upon] at h ⊢ <;> exact h.elim

/-- One operation of the head. -/
def opH (P : Program) (ops : Array Oper) (i : Nat) (K : Act → World → Prop) (a : Act) (w : World) : Prop :=
  match ops[i]? with
  | none => False
  | some o =>
    if isEff o.op = true then
      (if Region.wanted o (yielded ops a.tmps) then o.wp P a w (fun a' w' => Ext w w' ∧ K a' w') noQ else K (a.put o.dst undef) w)
    else ∃ v, YieldsX P ops w o v a ∧ K (a.put o.dst v) w

theorem opH_mono {i : Nat} {K K' : Act → World → Prop} {a : Act} {w : World} (h : ∀ a w', Ext w w' → K a w' → K' a w') (hh : opH P ops i K a w) : opH P ops i K' a w := by
  unfold opH at *
  split
  · rename_i ho; simp only [ho] at hh
  · rename_i o ho
    simp only [ho] at hh
    split
    · rename_i he
      simp only [he, if_true] at hh
      split
      · rename_i hw; simp only [hw, if_true] at hh; exact Oper.wp_mono (fun a' w' hx => ⟨hx.1, h _ _ hx.1 hx.2⟩) hh
      · rename_i hw; simp only [hw] at hh; exact h _ _ (Ext.refl _) hh
    · rename_i he
      simp only [he] at hh
      obtain ⟨v, h1, h2⟩ := hh
      exact ⟨v, h1, h _ _ (Ext.refl _) h2⟩

theorem wpOp_of_opH {i : Nat} {K K' : Act → World → Prop} {Q : Exit → Act → World → Prop} {a : Act} {w : World} (h : ∀ a w', K a w' → K' a w') (hh : opH P ops i K a w) : wpOp P ops Q i K' a w := by
  unfold opH at hh
  unfold wpOp
  split
  · rename_i ho; simp only [ho] at hh
  · rename_i o ho
    simp only [ho] at hh
    by_cases he : isEff o.op = true
    · simp only [he, if_true] at hh
      split
      · rename_i hw; simp only [hw, if_true] at hh; exact .inl (Oper.wp_noQ (Oper.wp_mono (fun a' w' hx => h _ _ hx.2) hh))
      · rename_i hw; simp only [hw] at hh; exact h _ _ hh
    · simp only [he] at hh
      obtain ⟨v, h1, h2⟩ := hh
      have hy := h1 w (Ext.refl w)
      have := YieldsAt.stOp (K := fun a' => K a' w) ho hy h2
      have h3 := wpOp_of_stOp (Q' := Q) (K' := K') (w := w) (fun a hk => h a w hk) this
      unfold wpOp at h3
      simp only [ho] at h3
      exact h3

/-- Whatever order the head's operations come up in. -/
def wpH (P : Program) (md : Region.Mode) (ops : Array Oper) (hd : Nat → Bool) (L : Array Bool → Act → World → Prop) : Nat → Array Bool → Act → World → Prop
  | 0, listed, a, w => L listed a w
  | f + 1, listed, a, w => Region.ready md ops listed ≠ [] ∧ ∀ i ∈ Region.ready md ops listed, hd i = true ∧ opH P ops i (wpH P md ops hd L f (listed.setIfInBounds i true)) a w

theorem wpAny_of_wpH {hd : Nat → Bool} {g : Nat} {L : Array Bool → Act → World → Prop} {Q' : Exit → Act → World → Prop} (hL : ∀ listed a w, L listed a w → wpAny P md ops Q' g listed a w) :
    ∀ (f : Nat) (listed : Array Bool) (a : Act) (w : World), wpH P md ops hd L f listed a w → wpAny P md ops Q' (f + g) listed a w
  | 0, listed, a, w, h => by rw [Nat.zero_add]; exact hL _ _ _ h
  | f + 1, listed, a, w, h => by
    rw [show f + 1 + g = (f + g) + 1 by omega]
    exact ⟨fun h0 => absurd h0 h.1, fun i hi => wpOp_of_opH (fun a' w' h' => wpAny_of_wpH hL f _ a' w' h') (h.2 i hi).2⟩

/-- 'oj' apart from 'oi': it makes no difference to 'oj' whether 'oi' has come up. -/
theorem opH_put {j : Nat} {oi oj : Oper} {v : Value} (hj : ops[j]? = some oj) (hap : oi.apart ops oj = true)
    (hsi : ∀ cs b, oi.op ≠ .select cs b) (hsj : ∀ cs b, oj.op ≠ .select cs b) {K : Act → World → Prop} {a : Act} {w : World}
    (hy : YieldsX P ops w oi v a) (h : opH P ops j K (a.put oi.dst v) w) :
    opH P ops j (fun a' w' => YieldsX P ops w' oi v a' ∧ K (a'.put oi.dst v) w') a w := by
  obtain ⟨h1, h2, h3⟩ := Oper.apart_spec hap
  have keep : ∀ (w : World) (a : Act), YieldsX P ops w oi v a → ∀ u, YieldsX P ops w oi v (a.put oj.dst u) := fun w a hy u =>
    hy.of_same (execOp_put oi hsi a oj.dst u h3) (wanted_put oi a oj.dst u h3)
  have keepD : ∀ (w : World) (a : Act) d, YieldsX P ops w oi v a → YieldsX P ops w oi v { a with defers := d :: a.defers } := fun w a d hy => hy.of_same rfl rfl
  unfold opH at *
  simp only [hj] at *
  rw [wanted_put oj a oi.dst v h1] at h
  split
  · rename_i he
    simp only [he, if_true] at h
    split
    · rename_i hw
      simp only [hw, if_true] at h
      unfold Oper.wp at *
      rw [execOp_put oj hsj a oi.dst v h1] at h
      generalize (execOp a.eval oj).run P w = r at *
      cases r with
      | ok n w' =>
        cases n <;> simp only [Oper.upon] at h ⊢
        case value u => exact ⟨h.1, keep w' a (hy.ext h.1) u, by rw [← Act.put_comm a v u h2]; exact h.2⟩
        case skip => exact ⟨h.1, keep w' a (hy.ext h.1) _, by rw [← Act.put_comm a v undef h2]; exact h.2⟩
        case defer d =>
          refine ⟨h.1, keep w' _ (keepD w' a d (hy.ext h.1)) _, ?_⟩
          rw [← Act.put_comm _ v undef h2, ← Act.put_defers]
          exact h.2
        case enter f args =>
          refine Calls.mono h fun e w'' he => ?_
          cases e with
          | returned u => exact ⟨he.1, keep w'' a (hy.ext he.1) u, by rw [← Act.put_comm a v u h2]; exact he.2⟩
          | panicked c => exact he
          | outgrown => exact he
        case row row args => exact Rows.mono h fun u w'' he => ⟨he.1, keep w'' a (hy.ext he.1) u, by rw [← Act.put_comm a v u h2]; exact he.2⟩
      | halt x w' =>
        cases x <;> simp only [Oper.upon] at h ⊢
        case panic u => exact h
    · rename_i hw
      simp only [hw] at h
      exact ⟨keep w a hy _, by rw [← Act.put_comm a v undef h2]; exact h⟩
  · rename_i he
    simp only [he] at h
    obtain ⟨u, hu, hk⟩ := h
    exact ⟨u, hu.of_same (execOp_put oj hsj a oi.dst v h1).symm (wanted_put oj a oi.dst v h1).symm, keep w a hy u, by rw [← Act.put_comm a v u h2]; exact hk⟩

/-- Operation j waits for operation i, through others. -/
def needs (md : Region.Mode) (ops : Array Oper) : Nat → Nat → Nat → Bool
  | 0, _, _ => false
  | f + 1, j, i => match ops[j]? with
    | some o => o.after.any fun e => Region.binds md e && (e.on == i || needs md ops f e.on i)
    | none => false
/-- The tail waits for the head. -/
def tailOk (md : Region.Mode) (ops : Array Oper) (hds tls : List Nat) : Bool := tls.all fun t => hds.all fun i => needs md ops 6 t i

/-- Whatever is listed, all that it waits for is. -/
def Closed (md : Region.Mode) (ops : Array Oper) (listed : Array Bool) : Prop :=
  ∀ (j : Nat) oj, ops[j]? = some oj → listed.getD j false = true → ∀ e ∈ oj.after, Region.binds md e = true → listed.getD e.on false = true
theorem closed_start (n : Nat) : Closed md ops (Array.replicate n false) := fun j oj _ hl => by
  have : (Array.replicate n false).getD j false = false := by
    rcases Nat.lt_or_ge j n with h | h
    · simp [h]
    · simp [h]
  rw [this] at hl
  cases hl
theorem closed_set {i : Nat} {listed : Array Bool} (hc : Closed md ops listed) (hi : i ∈ Region.ready md ops listed) : Closed md ops (listed.setIfInBounds i true) := fun j oj hj hl e he hb => by
  obtain ⟨_, oi, hoi, hall⟩ := mem_ready.1 hi
  by_cases hij : i = j
  · subst hij
    have : oj = oi := Option.some.inj (hj.symm.trans hoi)
    subst this
    exact getD_set_true (hall e he hb)
  · rw [getD_set_ne false hij] at hl
    exact getD_set_true (hc j oj hj hl e he hb)
theorem needs_listed {i : Nat} {listed : Array Bool} (hc : Closed md ops listed) : ∀ (f j : Nat) oj, ops[j]? = some oj → (∀ e ∈ oj.after, Region.binds md e = true → listed.getD e.on false = true) → needs md ops f j i = true → listed.getD i false = true
  | 0, _, _, _, _, h => by simp [needs] at h
  | f + 1, j, oj, hj, hd, h => by
    simp only [needs, hj] at h
    obtain ⟨e, he, hb⟩ := Array.any_eq_true'.1 h
    simp only [Bool.and_eq_true, Bool.or_eq_true, beq_iff_eq] at hb
    obtain ⟨hb1, hb2⟩ := hb
    rcases hb2 with hb2 | hb2
    · rw [← hb2]; exact hd e he hb1
    · cases ho : ops[e.on]? with
      | none =>
        cases f with
        | zero => simp [needs] at hb2
        | succ f => simp [needs, ho] at hb2
      | some oe => exact needs_listed hc f e.on oe ho (fun e' he' hb' => hc e.on oe ho (hd e he hb1) e' he' hb') hb2

theorem wpH_first {hds tls : List Nat} {i : Nat} {oi : Oper} {v : Value} {L : Array Bool → Act → World → Prop} (hi : ops[i]? = some oi) (hsel : ∀ (j : Nat) (o : Oper) cs b, ops[j]? = some o → o.op ≠ .select cs b)
    (hcov : ∀ j, j < ops.size → hds.contains j = true ∨ j ∈ tls) (ht : tailOk md ops hds tls = true) (hih : hds.contains i = true)
    (hdone : ∀ listed a w, L listed a w → ∀ j ∈ Region.ready md ops listed, hds.contains j = false) :
    ∀ (f : Nat) (listed : Array Bool) (a : Act) (w : World), Closed md ops listed →
      (∀ j oj, ops[j]? = some oj → j ≠ i → listed.getD j true = false → (∀ e ∈ oj.after, Region.binds md e = true → e.on ≠ i) → oi.apart ops oj = true) →
      i ∈ Region.ready md ops listed → YieldsX P ops w oi v a → isEff oi.op = false →
      wpH P md ops (fun j => hds.contains j) L f (listed.setIfInBounds i true) (a.put oi.dst v) w → wpH P md ops (fun j => hds.contains j) L (f + 1) listed a w := by
  have hnotail : ∀ (listed : Array Bool), Closed md ops listed → i ∈ Region.ready md ops listed → ∀ j ∈ Region.ready md ops listed, hds.contains j = true := by
    intro listed hcl hr j hj
    obtain ⟨hun, _⟩ := mem_ready.1 hr
    obtain ⟨_, oj, hoj, hall⟩ := mem_ready.1 hj
    have hlt : j < ops.size := (Array.getElem?_eq_some_iff.1 hoj).1
    rcases hcov j hlt with h | h
    · exact h
    · have h1 := List.all_eq_true.1 ht j h
      have h2 := List.all_eq_true.1 h1 i (by simpa using hih)
      have h3 := needs_listed hcl 6 j oj hoj hall h2
      rcases Nat.lt_or_ge i listed.size with h' | h'
      · simp [h'] at hun h3; rw [hun] at h3; cases h3
      · simp [Array.getElem?_eq_none h'] at h3
  intro f
  induction f with
  | zero =>
    intro listed a w hcl _ hr hy hne H
    refine ⟨fun h => (by rw [h] at hr; cases hr), fun j hj => ⟨hnotail listed hcl hr j hj, ?_⟩⟩
    by_cases hji : j = i
    · subst hji
      unfold opH; simp only [hi, hne]; exact ⟨v, hy, H⟩
    · have h1 := hdone _ _ _ H j (ready_mono hj hji)
      rw [hnotail listed hcl hr j hj] at h1
      cases h1
  | succ f ih =>
    intro listed a w hcl hfree hr hy hne H
    refine ⟨fun h => (by rw [h] at hr; cases hr), fun j hj => ⟨hnotail listed hcl hr j hj, ?_⟩⟩
    by_cases hji : j = i
    · subst hji
      unfold opH; simp only [hi, hne]; exact ⟨v, hy, H⟩
    · have h1 := (H.2 j (ready_mono hj hji)).2
      obtain ⟨hjun, oj, hoj, hall⟩ := mem_ready.1 hj
      have hnot : ∀ e ∈ oj.after, Region.binds md e = true → e.on ≠ i := fun e he hb heq => by
        have h1 := hall e he hb
        have h0 := (mem_ready.1 hr).1
        rw [heq] at h1
        rcases Nat.lt_or_ge i listed.size with h' | h'
        · simp [h'] at h0 h1; rw [h0] at h1; cases h1
        · simp [Array.getElem?_eq_none h'] at h1
      have h2 := opH_put hoj (hfree j oj hoj hji hjun hnot) (fun cs b => hsel i oi cs b hi) (fun cs b => hsel j oj cs b hoj) hy h1
      have hfree' : ∀ k ok, ops[k]? = some ok → k ≠ i → (listed.setIfInBounds j true).getD k true = false →
          (∀ e ∈ ok.after, Region.binds md e = true → e.on ≠ i) → oi.apart ops ok = true := fun k ok hk hki hun hno => by
        refine hfree k ok hk hki ?_ hno
        by_cases hjk : j = k
        · subst hjk; exact hjun
        · rw [getD_set_ne true hjk] at hun; exact hun
      refine opH_mono (fun a' w' _ h3 => ih (listed.setIfInBounds j true) a' w' (closed_set hcl hj) hfree' (ready_mono hr (Ne.symm hji)) h3.1 hne ?_) h2
      rw [Array.setIfInBounds_comm _ _ hji]
      exact h3.2

/-- The chosen order of the head: an operation that reads alone is apart from all that don't wait for it; any other is the only one that may come up. -/
def headOk (md : Region.Mode) (ops : Array Oper) : List Nat → Array Bool → List Nat → Bool
  | [], listed, tls => (Region.ready md ops listed).all fun j => tls.contains j
  | i :: rest, listed, tls =>
    (match ops[i]? with
     | some o => if isEff o.op = true then Region.ready md ops listed == [i] else (Region.ready md ops listed).contains i && Region.free md ops listed i
     | none => false) && headOk md ops rest (listed.setIfInBounds i true) tls

/-- The tail: one after the other. -/
def seqOk (md : Region.Mode) (ops : Array Oper) : List Nat → Array Bool → Bool
  | [], listed => (Region.ready md ops listed).isEmpty
  | i :: rest, listed => (Region.ready md ops listed == [i]) && seqOk md ops rest (listed.setIfInBounds i true)

def listAll (l : List Nat) (listed : Array Bool) : Array Bool := l.foldl (fun s i => s.setIfInBounds i true) listed

/-- The walk of the head, in the chosen order; behind it T. -/
def wpHead (P : Program) (ops : Array Oper) (T : Act → World → Prop) : List Nat → Act → World → Prop
  | [], a, w => T a w
  | i :: rest, a, w => opH P ops i (wpHead P ops T rest) a w

def regionOk (ops : Array Oper) (hds tls : List Nat) : Bool :=
  Region.noSelect ops && (List.range ops.size).all (fun j => hds.contains j || tls.contains j) && tailOk .any ops hds tls && hds.all (fun j => !tls.contains j) &&
  headOk .any ops hds (Array.replicate ops.size false) tls && seqOk .any ops tls (listAll hds (Array.replicate ops.size false)) && (hds.length + tls.length == ops.size)

theorem wpH_of_head {hds0 tls : List Nat} {T : Act → World → Prop} (hsel : Region.noSelect ops = true) (hcov : ∀ j, j < ops.size → hds0.contains j = true ∨ j ∈ tls)
    (ht : tailOk md ops hds0 tls = true) (hdis : ∀ j, tls.contains j = true → hds0.contains j = false) : ∀ (hds : List Nat) (listed : Array Bool) (a : Act) (w : World), Closed md ops listed → (∀ i ∈ hds, hds0.contains i = true) →
    headOk md ops hds listed tls = true → wpHead P ops T hds a w →
    wpH P md ops (fun j => hds0.contains j) (fun l a w => (l = listAll hds listed ∧ ∀ j ∈ Region.ready md ops l, hds0.contains j = false) ∧ T a w) hds.length listed a w
  | [], listed, a, w, _, _, hB, h => by
    simp only [headOk, List.all_eq_true] at hB
    exact ⟨⟨rfl, fun j hj => hdis j (hB j hj)⟩, h⟩
  | i :: rest, listed, a, w, hcl, hsub, hB, h => by
    simp only [headOk, Bool.and_eq_true] at hB
    obtain ⟨hB1, hB2⟩ := hB
    have hrec : i ∈ Region.ready md ops listed → ∀ a' w', wpHead P ops T rest a' w' → wpH P md ops (fun j => hds0.contains j) (fun l a w => (l = listAll (i :: rest) listed ∧ ∀ j ∈ Region.ready md ops l, hds0.contains j = false) ∧ T a w) rest.length (listed.setIfInBounds i true) a' w' := fun hir a' w' h' =>
      wpH_of_head hsel hcov ht hdis rest _ a' w' (closed_set hcl hir) (fun j hj => hsub j (List.mem_cons_of_mem _ hj)) hB2 h'
    cases ho : ops[i]? with
    | none => simp [ho] at hB1
    | some o =>
      simp only [ho] at hB1
      by_cases he : isEff o.op = true
      · simp only [he, if_true, beq_iff_eq] at hB1
        refine ⟨by rw [hB1]; simp, fun j hj => ?_⟩
        rw [hB1] at hj
        have hji : j = i := by simpa using hj
        subst hji
        exact ⟨hsub j (List.mem_cons_self ..), opH_mono (fun a' w' _ h' => hrec (by rw [hB1]; simp) a' w' h') h⟩
      · simp only [he, Bool.false_eq_true, if_false, Bool.and_eq_true] at hB1
        have h' := h
        simp only [wpHead] at h'
        unfold opH at h'
        simp only [ho, he] at h'
        obtain ⟨v, hy, hk⟩ := h'
        exact wpH_first ho (Region.noSelect_spec hsel) hcov ht (hsub i (List.mem_cons_self ..)) (fun l a w hL => hL.1.2) rest.length listed a w hcl (Region.free_spec ho hB1.2) (by simpa using hB1.1) hy (by simpa using he) (hrec (by simpa using hB1.1) _ _ hk)

/-- The walk of the tail. -/
def wpTail (P : Program) (ops : Array Oper) (Q : Exit → Act → World → Prop) : List Nat → Act → World → Prop
  | [], a, w => Q .normal a w
  | i :: rest, a, w => wpOp P ops Q i (wpTail P ops Q rest) a w

theorem wpAny_of_tail {Q : Exit → Act → World → Prop} : ∀ (tls : List Nat) (listed : Array Bool) (a : Act) (w : World), seqOk md ops tls listed = true →
    wpTail P ops Q tls a w → wpAny P md ops Q tls.length listed a w
  | [], listed, a, w, hB, h => ⟨by simpa [seqOk] using hB, h⟩
  | i :: rest, listed, a, w, hB, h => by
    simp only [seqOk, Bool.and_eq_true, beq_iff_eq] at hB
    refine ⟨fun h1 => (by rw [hB.1] at h1; cases h1), fun j hj => ?_⟩
    rw [hB.1] at hj
    have hji : j = i := by simpa using hj
    subst hji
    exact wpOp_mono (fun a' w' h' => wpAny_of_tail rest _ a' w' hB.2 h') h

/-- ONE ORDER FOR ALL. -/
theorem wpAny_phase {Q : Exit → Act → World → Prop} {a : Act} {w : World} (hds tls : List Nat) (hB : regionOk ops hds tls = true)
    (h : wpHead P ops (wpTail P ops Q tls) hds a w) : wpAny P .any ops Q ops.size (Array.replicate ops.size false) a w := by
  simp only [regionOk, Bool.and_eq_true, beq_iff_eq, List.all_eq_true, Bool.or_eq_true, Bool.not_eq_true', List.mem_range] at hB
  obtain ⟨⟨⟨⟨⟨⟨hsel, hcov⟩, ht⟩, hdis⟩, hh⟩, hs⟩, hlen⟩ := hB
  have H := wpH_of_head (md := .any) (hds0 := hds) (tls := tls) hsel (fun j hj => by
    rcases hcov j hj with h | h
    · exact .inl h
    · exact .inr (by simpa using h)) ht (fun j hj => by
    cases hc : hds.contains j with
    | false => rfl
    | true => have := hdis j (by simpa using hc); rw [this] at hj; cases hj) hds (Array.replicate ops.size false) a _ (closed_start _) (fun i hi => by simpa using hi) hh h
  have := wpAny_of_wpH (Q' := Q) (g := tls.length) (fun l a' w' hL => wpAny_of_tail tls l a' w' (by rw [hL.1.1]; exact hs) hL.2) _ _ _ _ H
  rwa [hlen] at this
end

/-! ### The same in a round of a range over a function -/
def WR (rd : Option Nat) : Fence := { Fence.wide with round := rd }
def noDefer (ops : List Oper) : Bool := ops.all fun o => match o.op with | .defer _ => false | _ => true
theorem noDefer_spec {ops : List Oper} (h : noDefer ops = true) {i : Nat} {o : Oper} (ho : ops[i]? = some o) : ∀ c, o.op ≠ .defer c := fun c hc => by
  have h1 := List.all_eq_true.1 h o (List.mem_of_getElem? ho)
  rw [hc] at h1
  cases h1
section
variable {P : Program} {ops : Array Oper} {md : Region.Mode} {rd : Option Nat} {n : Nat}
theorem callsIn_WR {f : FuncId} {args : Array Value} {w : World} {R : Ending → World → Prop} : CallsIn (WR rd) n P f args w R ↔ Calls P f args w R := callsIn_wide
theorem rowsIn_WR {row : String} {args : Array Value} {w : World} {R : Value → World → Prop} (h : Rows P row args w R) : RowsIn (WR rd) n P row args w R := by
  intro c cs hr
  obtain ⟨v, w', r, s⟩ := h c cs
  exact ⟨v, w', r, (StepsIn.of_steps s).mono fun m _ => fenced_wide P m⟩
theorem oper_in {o : Oper} {a : Act} {w : World} {K : Act → World → Prop} {Q : Exit → Act → World → Prop} (hd : ∀ c, o.op ≠ .defer c) (h : o.wp P a w K Q) : o.wpIn (WR rd) n P a w K Q := by
  refine ⟨fun f _ => trivial, ?_⟩
  rw [Oper.semAt_eq _ _ _ hd]
  unfold Oper.wp at h
  generalize (execOp a.eval o).run P w = r at *
  cases r with
  | ok n w' =>
    cases n <;> simp only [Oper.upon, Oper.uponIn] at h ⊢ <;>
      first
        | exact h
        | exact h.elim
        | exact ⟨fun h => by simp [WR, Fence.wide] at h, callsIn_WR.2 h⟩
        | exact ⟨fun h => by simp [WR, Fence.wide] at h, rowsIn_WR h⟩
  | halt x w' => cases x <;> simp only [Oper.upon, Oper.uponIn] at h ⊢ <;> exact h
theorem oper_mono_in {i : Nat} {K K' : Act → World → Prop} {Q : Exit → Act → World → Prop} {a : Act} {w : World} (hQ : ¬ LetsOut Q) (hd : ∀ o, ops[i]? = some o → ∀ c, o.op ≠ .defer c) (hk : ∀ a w, K a w → K' a w)
    (h : wpOp P ops Q i K a w) : wpOpIn (WR rd) n P ops Q i K' a w := by
  refine wpOpIn_mono hk ?_
  unfold wpOp at h
  unfold wpOpIn
  cases ho : ops[i]? with
  | none => simpa only [ho] using h
  | some o =>
    simp only [ho] at h ⊢
    by_cases hw : Region.wanted o (yielded ops a.tmps) = true
    · simp only [hw, if_true] at h ⊢
      exact oper_in (hd o ho) (h.resolve_right (fun h' => hQ h'.2))
    · simp only [hw, if_false, Bool.false_eq_true] at h ⊢
      exact ⟨fun f _ => trivial, h⟩
theorem wpAny_in {Q : Exit → Act → World → Prop} (hQ : ¬ LetsOut Q) (hd : ∀ (i : Nat) o, ops[i]? = some o → ∀ c, o.op ≠ .defer c) : ∀ (fuel : Nat) (listed : Array Bool) (a : Act) (w : World),
    wpAny P md ops Q fuel listed a w → wpAnyIn (WR rd) n P md ops Q fuel listed a w
  | 0, _, _, _, h => h
  | fuel + 1, listed, a, w, h => ⟨h.1, fun i hi => oper_mono_in hQ (hd i) (fun a w h' => wpAny_in hQ hd fuel _ a w h') (h.2 i hi)⟩
theorem wpOps_in {Q : Exit → Act → World → Prop} (hQ : ¬ LetsOut Q) (hd : ∀ (i : Nat) o, ops[i]? = some o → ∀ c, o.op ≠ .defer c) : ∀ (l : List Nat) (a : Act) (w : World),
    wpOps P ops Q l a w → wpOpsIn (WR rd) n P ops Q l a w
  | [], _, _, h => h
  | i :: rest, a, w, h => by
    rw [wpOps_cons] at h
    rw [wpOpsIn_cons]
    exact oper_mono_in hQ (hd i) (fun a w h' => wpOps_in hQ hd rest a w h') h
/-- A region ends in the one way. -/
def nrm (Q : Exit → Act → World → Prop) : Exit → Act → World → Prop := fun e a w => e = .normal ∧ Q e a w
theorem nrm_out (Q : Exit → Act → World → Prop) : ¬ LetsOut (nrm Q) := fun h => by
  obtain ⟨a, w, h⟩ := h
  exact absurd h.1 (by simp)
theorem wpIn_any_nrm {id : Nat} {Q : Exit → Act → World → Prop} {a : Act} {w : World} (hm : P.follows .mixedOrders = true) (hd : noDefer ops.toList = true)
    (h : wpAny P .any ops (nrm Q) ops.size (Array.replicate ops.size false) a { w with drawn := w.drawn + 1 }) : (Code.region id ops true).wpIn (WR rd) n P Q a w :=
  wpIn_mono (wpIn_region_any hm (wpAny_in (nrm_out Q) (fun i o ho => noDefer_spec hd (by simpa using ho)) _ _ _ _ h)) (fun _ _ _ h => h.2)
theorem wpIn_region_phase {id : Nat} {Q : Exit → Act → World → Prop} {a : Act} {w : World} (hds tls : List Nat) (hm : P.follows .mixedOrders = true) (hB : regionOk ops hds tls = true) (hd : noDefer ops.toList = true)
    (h : wpHead P ops (wpTail P ops (nrm Q) tls) hds a { w with drawn := w.drawn + 1 }) : (Code.region id ops true).wpIn (WR rd) n P Q a w :=
  wpIn_any_nrm hm hd (wpAny_phase hds tls hB h)
theorem wpIn_region_seq {id : Nat} {Q : Exit → Act → World → Prop} {a : Act} {w : World} (hd : noDefer ops.toList = true) (h : wpOps P ops (nrm Q) (List.range ops.size) a w) : (Code.region id ops false).wpIn (WR rd) n P Q a w :=
  wpIn_mono (wpIn_region (wpOps_in (nrm_out Q) (fun i o ho => noDefer_spec hd (by simpa using ho)) _ _ _ h)) (fun _ _ _ h => h.2)
end
end Go.Proofs.Ytjmojhflnjbgaaa

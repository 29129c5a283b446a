/-
  CYCLICDIVIDES, PART 2 OF 10. One sentence: the texts behind the law CyclicDivides, put together.
  Conditions: each theorem's own, written out in it.
-/
import Derived.Test.YtdkahdehodopoaaGreatRows
import Derived.Test.YtdkahdehodopoaaGreatK1
set_option linter.unusedSimpArgs false
set_option linter.unusedVariables false
set_option linter.unusedSectionVars false
namespace Go.Proofs.YtdkahdehodopoaaGreat
open Go.RowKit
def RelOf (Rl : World → World → Prop) (b : Bool) (w w' : World) : Prop := (b = true → Rl w w') ∧ (b = false → Ext w w')
structure RlOk (Rl : World → World → Prop) : Prop where
 refl : ∀ w, Rl w w
 trans : ∀ a b c, Rl a b → Rl b c → Rl a c
 ext : ∀ a b, Ext a b → Rl a b
theorem RelOf.refl {Rl : World → World → Prop} (h : RlOk Rl) (b : Bool) (w : World) : RelOf Rl b w w := ⟨fun _ => h.refl w, fun _ => Ext.refl w⟩
theorem RelOf.trans {Rl : World → World → Prop} (h : RlOk Rl) {b : Bool} {u v w : World} (h1 : RelOf Rl b u v) (h2 : RelOf Rl b v w) : RelOf Rl b u w :=
 ⟨fun e => h.trans _ _ _ (h1.1 e) (h2.1 e), fun e => (h1.2 e).trans (h2.2 e)⟩
theorem RelOf.comp {Rl : World → World → Prop} (h : RlOk Rl) {b c : Bool} (hc : c = true ∨ b = false) {u v : World} (h1 : RelOf Rl b u v) : RelOf Rl c u v := by
 cases b with
 | false => exact ⟨fun _ => h.ext _ _ (h1.2 rfl), fun _ => h1.2 rfl⟩
 | true =>
  have : c = true := hc.resolve_right (by simp)
  subst this
  exact h1
section
variable {P : Program} {ops : Array Oper} {md : Region.Mode} {Rl : World → World → Prop}
def YieldsR (Rl : World → World → Prop) (b : Bool) (P : Program) (ops : Array Oper) (w : World) (o : Oper) (v : Value) (a : Act) : Prop := ∀ w', RelOf Rl b w w' → YieldsAt P ops w' o v a
theorem YieldsR.of_same {b : Bool} {w : World} {o : Oper} {v : Value} {a a' : Act} (hy : YieldsR Rl b P ops w o v a) (he : execOp a'.eval o = execOp a.eval o)
  (hw : Region.wanted o (yielded ops a'.tmps) = Region.wanted o (yielded ops a.tmps)) : YieldsR Rl b P ops w o v a' := fun w' h => YieldsAt.of_same (hy w' h) he hw
theorem YieldsR.on (hR : RlOk Rl) {b : Bool} {w w' : World} {o : Oper} {v : Value} {a : Act} (hy : YieldsR Rl b P ops w o v a) (h : RelOf Rl b w w') : YieldsR Rl b P ops w' o v a := fun w'' h' => hy w'' (h.trans hR h')
def opQ (Rl : World → World → Prop) (chg flo : Nat → Bool) (P : Program) (ops : Array Oper) (i : Nat) (K : Act → World → Prop) (a : Act) (w : World) : Prop :=
 match ops[i]? with
 | none => False
 | some o =>
  if isEff o.op = true then
   (if Region.wanted o (yielded ops a.tmps) then o.wp P a w (fun a' w' => RelOf Rl (chg i) w w' ∧ K a' w') noQ else K (a.put o.dst undef) w)
  else ∃ v, YieldsR Rl (flo i) P ops w o v a ∧ K (a.put o.dst v) w
variable {chg flo : Nat → Bool}
theorem opQ_mono {i : Nat} {K K' : Act → World → Prop} {a : Act} {w : World} (h : ∀ a w', K a w' → K' a w') (hh : opQ Rl chg flo P ops i K a w) : opQ Rl chg flo P ops i K' a w := by
 unfold opQ at *
 split
 ·rename_i ho; simp only [ho] at hh
 ·rename_i o ho
  simp only [ho] at hh
  split
  ·rename_i he
   simp only [he, if_true] at hh
   split
   ·rename_i hw; simp only [hw, if_true] at hh; exact Oper.wp_mono (fun a' w' hx => ⟨hx.1, h _ _ hx.2⟩) hh
   ·rename_i hw; simp only [hw] at hh; exact h _ _ hh
  ·rename_i he
   simp only [he] at hh
   obtain ⟨v, h1, h2⟩ := hh
   exact ⟨v, h1, h _ _ h2⟩
theorem wpOp_of_opQ (hR : RlOk Rl) {i : Nat} {K K' : Act → World → Prop} {Q : Exit → Act → World → Prop} {a : Act} {w : World} (h : ∀ a w', K a w' → K' a w') (hh : opQ Rl chg flo P ops i K a w) : wpOp P ops Q i K' a w := by
 unfold opQ at hh
 unfold wpOp
 split
 ·rename_i ho; simp only [ho] at hh
 ·rename_i o ho
  simp only [ho] at hh
  by_cases he : isEff o.op = true
  ·simp only [he, if_true] at hh
   split
   ·rename_i hw; simp only [hw, if_true] at hh; exact .inl (Oper.wp_noQ (Oper.wp_mono (fun a' w' hx => h _ _ hx.2) hh))
   ·rename_i hw; simp only [hw] at hh; exact h _ _ hh
  ·simp only [he] at hh
   obtain ⟨v, h1, h2⟩ := hh
   have hy := h1 w (RelOf.refl hR _ w)
   have := YieldsAt.stOp (K := fun a' => K a' w) ho hy h2
   have h3 := wpOp_of_stOp (Q' := Q) (K' := K') (w := w) (fun a hk => h a w hk) this
   unfold wpOp at h3
   simp only [ho] at h3
   exact h3
def wpQ (Rl : World → World → Prop) (chg flo : Nat → Bool) (P : Program) (md : Region.Mode) (ops : Array Oper) (L : Array Bool → Act → World → Prop) : Nat → Array Bool → Act → World → Prop
 | 0, listed, a, w => L listed a w
 | f + 1, listed, a, w => Region.ready md ops listed ≠ [] ∧ ∀ i ∈ Region.ready md ops listed, opQ Rl chg flo P ops i (wpQ Rl chg flo P md ops L f (listed.setIfInBounds i true)) a w
theorem wpAny_of_wpQ (hR : RlOk Rl) {L : Array Bool → Act → World → Prop} {Q' : Exit → Act → World → Prop} (hL : ∀ listed a w, L listed a w → wpAny P md ops Q' 0 listed a w) :
  ∀ (f : Nat) (listed : Array Bool) (a : Act) (w : World), wpQ Rl chg flo P md ops L f listed a w → wpAny P md ops Q' f listed a w
 | 0, listed, a, w, h => hL _ _ _ h
 | f + 1, listed, a, w, h => ⟨fun h0 => absurd h0 h.1, fun i hi => wpOp_of_opQ hR (fun a' w' h' => wpAny_of_wpQ hR hL f _ a' w' h') (h.2 i hi)⟩
theorem opQ_put (hR : RlOk Rl) {i j : Nat} {oi oj : Oper} {v : Value} (hc : flo i = true ∨ chg j = false) (hj : ops[j]? = some oj) (hap : oi.apart ops oj = true)
  (hsi : ∀ cs b, oi.op ≠ .select cs b) (hsj : ∀ cs b, oj.op ≠ .select cs b) {K : Act → World → Prop} {a : Act} {w : World}
  (hy : YieldsR Rl (flo i) P ops w oi v a) (h : opQ Rl chg flo P ops j K (a.put oi.dst v) w) :
  opQ Rl chg flo P ops j (fun a' w' => YieldsR Rl (flo i) P ops w' oi v a' ∧ K (a'.put oi.dst v) w') a w := by
 obtain ⟨h1, h2, h3⟩ := Oper.apart_spec hap
 have keep : ∀ (w : World) (a : Act), YieldsR Rl (flo i) P ops w oi v a → ∀ u, YieldsR Rl (flo i) P ops w oi v (a.put oj.dst u) := fun w a hy u =>
  hy.of_same (execOp_put oi hsi a oj.dst u h3) (wanted_put oi a oj.dst u h3)
 have keepD : ∀ (w : World) (a : Act) d, YieldsR Rl (flo i) P ops w oi v a → YieldsR Rl (flo i) P ops w oi v { a with defers := d :: a.defers } := fun w a d hy => hy.of_same rfl rfl
 have on : ∀ {w' : World}, RelOf Rl (chg j) w w' → YieldsR Rl (flo i) P ops w' oi v a := fun h => hy.on hR (RelOf.comp hR hc h)
 unfold opQ at *
 simp only [hj] at *
 rw [wanted_put oj a oi.dst v h1] at h
 split
 ·rename_i he
  simp only [he, if_true] at h
  split
  ·rename_i hw
   simp only [hw, if_true] at h
   unfold Oper.wp at *
   rw [execOp_put oj hsj a oi.dst v h1] at h
   generalize (execOp a.eval oj).run P w = r at *
   cases r with
   | ok n w' =>
    cases n <;> simp only [Oper.upon] at h ⊢
    case value u => exact ⟨h.1, keep w' a (on h.1) u, by rw [← Act.put_comm a v u h2]; exact h.2⟩
    case skip => exact ⟨h.1, keep w' a (on h.1) _, by rw [← Act.put_comm a v undef h2]; exact h.2⟩
    case defer d =>
     refine ⟨h.1, keep w' _ (keepD w' a d (on h.1)) _, ?_⟩
     rw [← Act.put_comm _ v undef h2, ← Act.put_defers]
     exact h.2
    case enter f args =>
     refine Calls.mono h fun e w'' he => ?_
     cases e with
     | returned u => exact ⟨he.1, keep w'' a (on he.1) u, by rw [← Act.put_comm a v u h2]; exact he.2⟩
     | panicked c => exact he
     | outgrown => exact he
    case row row args => exact Rows.mono h fun u w'' he => ⟨he.1, keep w'' a (on he.1) u, by rw [← Act.put_comm a v u h2]; exact he.2⟩
   | halt x w' =>
    cases x <;> simp only [Oper.upon] at h ⊢
    case panic u => exact h
  ·rename_i hw
   simp only [hw] at h
   exact ⟨keep w a hy _, by rw [← Act.put_comm a v undef h2]; exact h⟩
 ·rename_i he
  simp only [he] at h
  obtain ⟨u, hu, hk⟩ := h
  exact ⟨u, hu.of_same (execOp_put oj hsj a oi.dst v h1).symm (wanted_put oj a oi.dst v h1).symm, keep w a hy u, by rw [← Act.put_comm a v u h2]; exact hk⟩
theorem wpQ_first (hR : RlOk Rl) {i : Nat} {oi : Oper} {v : Value} {L : Array Bool → Act → World → Prop} (hi : ops[i]? = some oi) (hsel : ∀ (j : Nat) (o : Oper) cs b, ops[j]? = some o → o.op ≠ .select cs b)
  (hneed : flo i = true ∨ ∀ j, j < ops.size → chg j = true → needs md ops 6 j i = true ∨ needs md ops 6 i j = true)
  (hdone : ∀ listed a w, L listed a w → Region.ready md ops listed = []) :
  ∀ (f : Nat) (listed : Array Bool) (a : Act) (w : World), Closed md ops listed →
   (∀ j oj, ops[j]? = some oj → j ≠ i → listed.getD j true = false → (∀ e ∈ oj.after, Region.binds md e = true → e.on ≠ i) → oi.apart ops oj = true) →
   i ∈ Region.ready md ops listed → YieldsR Rl (flo i) P ops w oi v a → isEff oi.op = false →
   wpQ Rl chg flo P md ops L f (listed.setIfInBounds i true) (a.put oi.dst v) w → wpQ Rl chg flo P md ops L (f + 1) listed a w := by
 have hcomp : ∀ (listed : Array Bool), Closed md ops listed → i ∈ Region.ready md ops listed → ∀ j ∈ Region.ready md ops listed, flo i = true ∨ chg j = false := by
  intro listed hcl hr j hj
  rcases hneed with h | h
  ·exact .inl h
  ·right
   cases hcj : chg j with
   | false => rfl
   | true =>
    obtain ⟨hun, oi', hoi', halli⟩ := mem_ready.1 hr
    obtain ⟨hunj, oj, hoj, hall⟩ := mem_ready.1 hj
    have hlt : j < ops.size := (Array.getElem?_eq_some_iff.1 hoj).1
    rcases h j hlt hcj with h | h
    ·have h3 := needs_listed hcl 6 j oj hoj hall h
     rcases Nat.lt_or_ge i listed.size with h' | h'
     ·simp [h'] at hun h3; rw [hun] at h3; cases h3
     ·simp [Array.getElem?_eq_none h'] at h3
    ·have h3 := needs_listed hcl 6 i oi' hoi' halli h
     rcases Nat.lt_or_ge j listed.size with h' | h'
     ·simp [h'] at hunj h3; rw [hunj] at h3; cases h3
     ·simp [Array.getElem?_eq_none h'] at h3
 intro f
 induction f with
 | zero =>
  intro listed a w hcl _ hr hy hne H
  refine ⟨fun h => (by rw [h] at hr; cases hr), fun j hj => ?_⟩
  by_cases hji : j = i
  ·subst hji
   unfold opQ; simp only [hi, hne]; exact ⟨v, hy, H⟩
  ·have h1 := ready_mono hj hji
   rw [hdone _ _ _ H] at h1
   cases h1
 | succ f ih =>
  intro listed a w hcl hfree hr hy hne H
  refine ⟨fun h => (by rw [h] at hr; cases hr), fun j hj => ?_⟩
  by_cases hji : j = i
  ·subst hji
   unfold opQ; simp only [hi, hne]; exact ⟨v, hy, H⟩
  ·have h1 := H.2 j (ready_mono hj hji)
   obtain ⟨hjun, oj, hoj, hall⟩ := mem_ready.1 hj
   have hnot : ∀ e ∈ oj.after, Region.binds md e = true → e.on ≠ i := fun e he hb heq => by
    have h1 := hall e he hb
    have h0 := (mem_ready.1 hr).1
    rw [heq] at h1
    rcases Nat.lt_or_ge i listed.size with h' | h'
    ·simp [h'] at h0 h1; rw [h0] at h1; cases h1
    ·simp [Array.getElem?_eq_none h'] at h1
   have h2 := opQ_put hR (hcomp listed hcl hr j hj) hoj (hfree j oj hoj hji hjun hnot) (fun cs b => hsel i oi cs b hi) (fun cs b => hsel j oj cs b hoj) hy h1
   have hfree' : ∀ k ok, ops[k]? = some ok → k ≠ i → (listed.setIfInBounds j true).getD k true = false →
     (∀ e ∈ ok.after, Region.binds md e = true → e.on ≠ i) → oi.apart ops ok = true := fun k ok hk hki hun hno => by
    refine hfree k ok hk hki ?_ hno
    by_cases hjk : j = k
    ·subst hjk; exact hjun
    ·rw [getD_set_ne true hjk] at hun; exact hun
   refine opQ_mono (fun a' w' h3 => ih (listed.setIfInBounds j true) a' w' (closed_set hcl hj) hfree' (ready_mono hr (Ne.symm hji)) h3.1 hne ?_) h2
   rw [Array.setIfInBounds_comm _ _ hji]
   exact h3.2
def planOk (md : Region.Mode) (ops : Array Oper) (chg flo : List Nat) : List (Nat × Nat) → Array Bool → Bool
 | [], listed => (Region.ready md ops listed).isEmpty
 | (k, i) :: rest, listed =>
  (match ops[i]? with
   | some o => if isEff o.op = true then Region.ready md ops listed == [i] && (chg.contains i == (k == 1)) && k != 2
    else (Region.ready md ops listed).contains i && Region.free md ops listed i && (flo.contains i == (k == 2)) && (k != 1) && (flo.contains i || chg.all fun j => needs md ops 6 j i || needs md ops 6 i j)
   | none => false) && planOk md ops chg flo rest (listed.setIfInBounds i true)
def wpPlan (Rl : World → World → Prop) (chg flo : Nat → Bool) (P : Program) (ops : Array Oper) (T : Act → World → Prop) : List (Nat × Nat) → Act → World → Prop
 | [], a, w => T a w
 | (_, i) :: rest, a, w => opQ Rl chg flo P ops i (wpPlan Rl chg flo P ops T rest) a w
theorem wpQ_of_plan (hR : RlOk Rl) {cl fl : List Nat} {T : Act → World → Prop} (hsel : Region.noSelect ops = true) : ∀ (plan : List (Nat × Nat)) (listed : Array Bool) (a : Act) (w : World), Closed md ops listed →
  planOk md ops cl fl plan listed = true → wpPlan Rl (fun i => cl.contains i) (fun i => fl.contains i) P ops T plan a w →
  wpQ Rl (fun i => cl.contains i) (fun i => fl.contains i) P md ops (fun l a w => Region.ready md ops l = [] ∧ T a w) plan.length listed a w
 | [], listed, a, w, _, hB, h => ⟨by simpa [planOk] using hB, h⟩
 | (k, i) :: rest, listed, a, w, hcl, hB, h => by
  simp only [planOk, Bool.and_eq_true] at hB
  obtain ⟨hB1, hB2⟩ := hB
  have hrec : i ∈ Region.ready md ops listed → ∀ a' w', wpPlan Rl (fun i => cl.contains i) (fun i => fl.contains i) P ops T rest a' w' → wpQ Rl (fun i => cl.contains i) (fun i => fl.contains i) P md ops (fun l a w => Region.ready md ops l = [] ∧ T a w) rest.length (listed.setIfInBounds i true) a' w' := fun hir a' w' h' =>
   wpQ_of_plan hR hsel rest _ a' w' (closed_set hcl hir) hB2 h'
  cases ho : ops[i]? with
  | none => simp [ho] at hB1
  | some o =>
   simp only [ho] at hB1
   by_cases he : isEff o.op = true
   ·simp only [he, if_true, Bool.and_eq_true, beq_iff_eq] at hB1
    have hre := hB1.1.1
    refine ⟨by rw [hre]; simp, fun j hj => ?_⟩
    rw [hre] at hj
    have hji : j = i := by simpa using hj
    subst hji
    exact opQ_mono (fun a' w' h' => hrec (by rw [hre]; simp) a' w' h') h
   ·simp only [he, Bool.false_eq_true, if_false, Bool.and_eq_true, Bool.or_eq_true, List.all_eq_true] at hB1
    obtain ⟨⟨⟨⟨h1, h2⟩, h3⟩, h4⟩, h5⟩ := hB1
    have h' := h
    simp only [wpPlan] at h'
    unfold opQ at h'
    simp only [ho, he] at h'
    obtain ⟨v, hy, hk⟩ := h'
    exact wpQ_first hR (flo := fun i => fl.contains i) ho (Region.noSelect_spec hsel) (h5.imp id (fun h5 j _ hj => by have := h5 j (by simpa using hj); simpa using this)) (fun l a w hL => hL.1) rest.length listed a w hcl (Region.free_spec ho h2) (by simpa using h1) hy (by simpa using he) (hrec (by simpa using h1) _ _ hk)
def chgOf (plan : List (Nat × Nat)) : List Nat := (plan.filter (fun p => p.1 == 1)).map (·.2)
def floOf (plan : List (Nat × Nat)) : List Nat := (plan.filter (fun p => p.1 == 2)).map (·.2)
def planAll (ops : Array Oper) (plan : List (Nat × Nat)) : Bool := Region.noSelect ops && planOk .any ops (chgOf plan) (floOf plan) plan (Array.replicate ops.size false) && plan.length == ops.size
theorem wpAny_plan (hR : RlOk Rl) {Q : Exit → Act → World → Prop} {a : Act} {w : World} (plan : List (Nat × Nat)) (hB : planAll ops plan = true)
  (h : wpPlan Rl (fun i => (chgOf plan).contains i) (fun i => (floOf plan).contains i) P ops (Q .normal) plan a w) : wpAny P .any ops Q ops.size (Array.replicate ops.size false) a w := by
 simp only [planAll, Bool.and_eq_true, beq_iff_eq] at hB
 obtain ⟨⟨hsel, hp⟩, hlen⟩ := hB
 have H := wpQ_of_plan hR (md := .any) hsel plan (Array.replicate ops.size false) a w (closed_start _) hp h
 rw [hlen] at H
 exact wpAny_of_wpQ hR (fun l a w hL => hL) _ _ _ _ H
end
def Kp (M : Nat → Prop) (w0 : World) (G : List Chunk) (w w' : World) : Prop := Mem M w0 w G → Mem M w0 w' G
theorem kp_ok (M : Nat → Prop) (w0 : World) (G : List Chunk) : RlOk (Kp M w0 G) := ⟨fun _ h => h, fun _ _ _ h k x => k (h x), fun _ _ h x => x.ext h⟩
section
variable (P : Program) (N : NB) (M : Nat → Prop) (w0 : World) (G : List Chunk)
def StepG (ops : List Oper) (o : Oper) (L : Fr) (F : List Chunk) (K : Fr → List Chunk → Prop) : Prop :=
 ∀ a w, Holds N a L → Mem M w0 w F → isEff o.op = false ∧ ∃ v, (∀ w', Kp M w0 G w w' → YieldsAt P ops.toArray w' o v a) ∧ ∃ L' F', Holds N (a.put o.dst v) L' ∧ Mem M w0 w F' ∧ K L' F'
def LstQ (ops : List Oper) (K : Fr → List Chunk → Prop) : List (Nat × Nat) → Fr → List Chunk → Prop
 | [], L, F => K L F
 | (k, i) :: rest, L, F => match nth ops i with
  | some o => (match k with
   | 0 => StepO P N M w0 true ops o L F (LstQ ops K rest)
   | 1 => StepO P N M w0 false ops o L F (fun L' F' => CSub F' G ∧ LstQ ops K rest L' F')
   | _ => StepG P N M w0 G ops o L F (LstQ ops K rest))
  | none => False
end
section
variable {P : Program} {N : NB} {M : Nat → Prop} {w0 : World} {L : Fr} {F G : List Chunk} {K : Fr → List Chunk → Prop} {x : Bool} {ops : List Oper} {o : Oper} {v : Value}
theorem stF (he : isEff o.op = false) (hg : o.guard = none) {d : Nat} (hdd : o.dst = some d) (hd : Nat.ble (d + 1) N.n = true) (hs : CSub F G) (h : Stl P N M w0 o L G v) (k : K (addL d v L) F) : StepG P N M w0 G ops o L F K := fun a w hl hm =>
 ⟨he, v, fun w' hx => .inl ⟨wanted_none hg _, .inl (h a w' hl (hx (hs.mem hm)))⟩, _, F, hl.add hdd hd v, hm, k⟩
theorem LstQ.plan {Q : Exit → Act → World → Prop} (hT : ∀ a w L F, Holds N a L → Mem M w0 w F → K L F → Q .normal a w) {chg flo : Nat → Bool} : ∀ (l : List (Nat × Nat)) (L : Fr) (F : List Chunk) (a : Act) (w : World),
  (∀ q ∈ l, (q.1 = 1 ↔ chg q.2 = true) ∧ (2 ≤ q.1 ↔ flo q.2 = true)) → LstQ P N M w0 G ops K l L F → Holds N a L → Mem M w0 w F → wpPlan (Kp M w0 G) chg flo P ops.toArray (Q .normal) l a w
 | [], _, _, _, _, _, h, hl, hm => hT _ _ _ _ hl hm h
 | (k, i) :: rest, L, F, a, w, hq, h, hl, hm => by
  have hk := hq (k, i) (List.mem_cons_self ..)
  have hrest : ∀ q ∈ rest, (q.1 = 1 ↔ chg q.2 = true) ∧ (2 ≤ q.1 ↔ flo q.2 = true) := fun q hqm => hq q (List.mem_cons_of_mem _ hqm)
  have rec' : ∀ a w L F, Holds N a L → Mem M w0 w F → LstQ P N M w0 G ops K rest L F → wpPlan (Kp M w0 G) chg flo P ops.toArray (Q .normal) rest a w := fun a w L F h1 h2 h3 => LstQ.plan hT rest L F a w hrest h3 h1 h2
  simp only [LstQ] at h
  cases ho : nth ops i with
  | none => simp [ho] at h
  | some o =>
   simp only [ho] at h
   have ho' : ops[i]? = some o := by rw [← nth_eq]; exact ho
   simp only [wpPlan]
   unfold opQ
   simp only [List.getElem?_toArray, ho']
   match k, hk, h with
   | 0, hk, h =>
    have hc : chg i = false := by have := hk.1; simp only [] at this; cases hc : chg i with | false => rfl | true => exact absurd (this.2 hc) (by simp)
    have hf : flo i = false := by have := hk.2; simp only [] at this; cases hc : flo i with | false => rfl | true => exact absurd (this.2 hc) (by simp)
    have h1 := h a w hl hm
    split
    ·rename_i he
     simp only [he, if_true] at h1
     split
     ·rename_i hw
      simp only [hw, if_true] at h1
      exact Oper.wp_mono (fun a' w' hq => by
       obtain ⟨he, L', F', h2, h3, h4⟩ := hq
       exact ⟨⟨fun e => (by rw [hc] at e; cases e), fun _ => he trivial⟩, rec' _ _ _ _ h2 h3 h4⟩) h1
     ·rename_i hw
      simp only [hw] at h1
      obtain ⟨L', F', h2, h3, h4⟩ := h1
      exact rec' _ _ _ _ h2 h3 h4
    ·rename_i he
     simp only [he] at h1
     obtain ⟨v, hy, L', F', h2, h3, h4⟩ := h1
     exact ⟨v, fun w' hr => hy w' (hr.2 hf), rec' _ _ _ _ h2 h3 h4⟩
   | 1, hk, h =>
    have hc : chg i = true := hk.1.1 rfl
    have hf : flo i = false := by have := hk.2; simp only [] at this; cases hc : flo i with | false => rfl | true => exact absurd (this.2 hc) (by simp)
    have h1 := h a w hl hm
    split
    ·rename_i he
     simp only [he, if_true] at h1
     split
     ·rename_i hw
      simp only [hw, if_true] at h1
      exact Oper.wp_mono (fun a' w' hq => by
       obtain ⟨_, L', F', h2, h3, h4, h5⟩ := hq
       exact ⟨⟨fun _ _ => h4.mem h3, fun e => (by rw [hc] at e; cases e)⟩, rec' _ _ _ _ h2 h3 h5⟩) h1
     ·rename_i hw
      simp only [hw] at h1
      obtain ⟨L', F', h2, h3, _, h4⟩ := h1
      exact rec' _ _ _ _ h2 h3 h4
    ·rename_i he
     simp only [he] at h1
     obtain ⟨v, hy, L', F', h2, h3, _, h4⟩ := h1
     exact ⟨v, fun w' hr => hy w' (hr.2 hf), rec' _ _ _ _ h2 h3 h4⟩
   | n + 2, hk, h =>
    have hf : flo i = true := hk.2.1 (by simp)
    obtain ⟨he, v, hy, L', F', h2, h3, h4⟩ := h a w hl hm
    simp only [he, Bool.false_eq_true, if_false]
    exact ⟨v, fun w' hr => hy w' (hr.1 hf), rec' _ _ _ _ h2 h3 h4⟩
end
def kindsOk (plan : List (Nat × Nat)) : Bool := plan.all fun q => (decide (q.1 = 1) == (chgOf plan).contains q.2) && (decide (2 ≤ q.1) == (floOf plan).contains q.2)
section
variable {P : Program} {N : NR} {M : Nat → Prop} {w0 : World} {L : Fr} {F : List Chunk} {ops : List Oper}
theorem tr_plan (G : List Chunk) (plan : List (Nat × Nat)) {id : Nat} {Q : Exit → Fr → List Chunk → Prop} (hm : P.follows .mixedOrders = true) (hB : (planAll ops.toArray plan && kindsOk plan) = true)
  (h : ∀ ds M1 w1, LstQ P ⟨N.n, ds⟩ M1 w1 G ops (Q .normal) plan L F) (hd : noDefer ops = true := by rfl) : Tr P N M w0 (.region id ops.toArray true) L F Q := fun ds M1 w1 hb a w hl hmem => by
 rw [Bool.and_eq_true] at hB
 refine wpIn_any_nrm hm (by simpa using hd) (wpAny_plan (kp_ok M1 w1 G) plan hB.1 ?_)
 refine LstQ.plan (Q := nrm (Fin' N M w0 Q)) (fun a w L F h1 h2 h3 => ⟨rfl, ds, M1, w1, hb, L, F, h1, h2, h3⟩) plan L F a _ (fun q hq => ?_) (h ds M1 w1) hl (hmem.ext (drew_ext w))
 have h2 := List.all_eq_true.1 hB.2 q hq
 simp only [Bool.and_eq_true, beq_iff_eq] at h2
 exact ⟨by rw [← h2.1]; simp, by rw [← h2.2]; simp⟩
end
theorem tr_join {P : Program} {N : NR} {M : Nat → Prop} {w0 : World} {L : Fr} {F : List Chunk} {S : Type} (Lf : S → Fr) (Ff : S → List Chunk) (I : S → Prop) {c d : Code} {Q : Exit → Fr → List Chunk → Prop} (h : Tr P N M w0 c L F (thenQ (fun L' F' => ∃ s, FSub L' (Lf s) ∧ CSub F' (Ff s) ∧ I s) Q))
  (k : ∀ s, I s → Tr P N M w0 d (Lf s) (Ff s) Q) : Tr P N M w0 (.seq c d) L F Q := by
 refine tS (h.mono fun e L' F' hq => ?_)
 cases e with
 | normal =>
  obtain ⟨s, h1, h2, h3⟩ := hq
  exact tr_keep _ _ h1 h2 (k s h3)
 | _ => exact hq
theorem rows_put {e : TypeId} {rs : List RowM} {r : RowM} {i : Nat} (h : i < rs.length) (F : List Chunk) : CSub (rowsCh e rs :: r.ch e :: F) (rowsCh e (rs.set i r) :: F) :=
 (rows_out h _).trans ((CSub.drop _ _).trans ((CSub.perm (List.Perm.swap ..)).trans (rows_in h F)))
end Go.Proofs.YtdkahdehodopoaaGreat

namespace Go.Proofs.YtdkahdehodopoaaGreat
open Go.RowKit
inductive PlT where
 | nil
 | one (k i : Nat) (r : PlT)
 | two (i : Nat) (a : PlT) (j : Nat) (b : PlT)
namespace PlT
def size : PlT → Nat
 | nil => 0
 | one _ _ r => r.size + 1
 | two _ a _ _ => a.size + 1
def kind (q : Nat) : PlT → List Nat
 | nil => []
 | one k i r => if k == q then i :: r.kind q else r.kind q
 | two _ a _ b => a.kind q ++ b.kind q
def kinds (chg flo : Nat → Bool) : PlT → Bool
 | nil => true
 | one k i r => (decide (k = 1) == chg i) && (decide (2 ≤ k) == flo i) && r.kinds chg flo
 | two i a j b => !chg i && !flo i && !chg j && !flo j && a.kinds chg flo && b.kinds chg flo
end PlT
section
variable {P : Program} {ops : Array Oper} {md : Region.Mode} {Rl : World → World → Prop} {chg flo : Nat → Bool}
def treeOk (md : Region.Mode) (ops : Array Oper) (chg flo : List Nat) : PlT → Array Bool → Bool
 | .nil, listed => (Region.ready md ops listed).isEmpty
 | .one k i rest, listed =>
  (match ops[i]? with
   | some o => if isEff o.op = true then Region.ready md ops listed == [i]
    else (Region.ready md ops listed).contains i && Region.free md ops listed i && (flo.contains i || chg.all fun j => needs md ops 6 j i || needs md ops 6 i j)
   | none => false) && treeOk md ops chg flo rest (listed.setIfInBounds i true)
 | .two i a j b, listed => Region.ready md ops listed == [i, j] && (a.size == b.size) && treeOk md ops chg flo a (listed.setIfInBounds i true) && treeOk md ops chg flo b (listed.setIfInBounds j true)
def wpTree (Rl : World → World → Prop) (chg flo : Nat → Bool) (P : Program) (ops : Array Oper) (T : Act → World → Prop) : PlT → Act → World → Prop
 | .nil, a, w => T a w
 | .one _ i rest, a, w => opQ Rl chg flo P ops i (wpTree Rl chg flo P ops T rest) a w
 | .two i x j y, a, w => opQ Rl chg flo P ops i (wpTree Rl chg flo P ops T x) a w ∧ opQ Rl chg flo P ops j (wpTree Rl chg flo P ops T y) a w
theorem wpQ_of_tree (hR : RlOk Rl) {cl fl : List Nat} {T : Act → World → Prop} (hsel : Region.noSelect ops = true) : ∀ (plan : PlT) (listed : Array Bool) (a : Act) (w : World), Closed md ops listed →
  treeOk md ops cl fl plan listed = true → wpTree Rl (fun i => cl.contains i) (fun i => fl.contains i) P ops T plan a w →
  wpQ Rl (fun i => cl.contains i) (fun i => fl.contains i) P md ops (fun l a w => Region.ready md ops l = [] ∧ T a w) plan.size listed a w
 | .nil, listed, a, w, _, hB, h => ⟨by simpa [treeOk] using hB, h⟩
 | .two i x j y, listed, a, w, hcl, hB, h => by
  simp only [treeOk, Bool.and_eq_true, beq_iff_eq] at hB
  obtain ⟨⟨⟨hre, hsz⟩, hB1⟩, hB2⟩ := hB
  refine ⟨by rw [hre]; simp, fun t ht => ?_⟩
  have hir : i ∈ Region.ready md ops listed := by rw [hre]; simp
  have hjr : j ∈ Region.ready md ops listed := by rw [hre]; simp
  rw [hre] at ht
  simp only [List.mem_cons, List.not_mem_nil, or_false] at ht
  rcases ht with rfl | rfl
  ·exact opQ_mono (fun a' w' h' => wpQ_of_tree hR hsel x _ a' w' (closed_set hcl hir) hB1 h') h.1
  ·refine opQ_mono (fun a' w' h' => ?_) h.2
   have := wpQ_of_tree hR hsel y _ a' w' (closed_set hcl hjr) hB2 h'
   rw [← hsz] at this
   exact this
 | .one k i rest, listed, a, w, hcl, hB, h => by
  simp only [treeOk, Bool.and_eq_true] at hB
  obtain ⟨hB1, hB2⟩ := hB
  have hrec : i ∈ Region.ready md ops listed → ∀ a' w', wpTree Rl (fun i => cl.contains i) (fun i => fl.contains i) P ops T rest a' w' → wpQ Rl (fun i => cl.contains i) (fun i => fl.contains i) P md ops (fun l a w => Region.ready md ops l = [] ∧ T a w) rest.size (listed.setIfInBounds i true) a' w' := fun hir a' w' h' =>
   wpQ_of_tree hR hsel rest _ a' w' (closed_set hcl hir) hB2 h'
  cases ho : ops[i]? with
  | none => simp [ho] at hB1
  | some o =>
   simp only [ho] at hB1
   by_cases he : isEff o.op = true
   ·simp only [he, if_true, beq_iff_eq] at hB1
    refine ⟨by rw [hB1]; simp, fun j hj => ?_⟩
    rw [hB1] at hj
    have hji : j = i := by simpa using hj
    subst hji
    exact opQ_mono (fun a' w' h' => hrec (by rw [hB1]; simp) a' w' h') h
   ·simp only [he, Bool.false_eq_true, if_false, Bool.and_eq_true, Bool.or_eq_true, List.all_eq_true] at hB1
    obtain ⟨⟨h1, h2⟩, h5⟩ := hB1
    have h' := h
    simp only [wpTree] at h'
    unfold opQ at h'
    simp only [ho, he] at h'
    obtain ⟨v, hy, hk⟩ := h'
    exact wpQ_first hR (flo := fun i => fl.contains i) ho (Region.noSelect_spec hsel) (h5.imp id (fun h5 j _ hj => by have := h5 j (by simpa using hj); simpa using this)) (fun l a w hL => hL.1) rest.size listed a w hcl (Region.free_spec ho h2) (by simpa using h1) hy (by simpa using he) (hrec (by simpa using h1) _ _ hk)
def treeAll (ops : Array Oper) (p : PlT) : Bool := Region.noSelect ops && treeOk .any ops (p.kind 1) (p.kind 2) p (Array.replicate ops.size false) && p.size == ops.size && p.kinds (fun i => (p.kind 1).contains i) (fun i => (p.kind 2).contains i)
theorem wpAny_treeQ (hR : RlOk Rl) {Q : Exit → Act → World → Prop} {a : Act} {w : World} (p : PlT) (hB : treeAll ops p = true)
  (h : wpTree Rl (fun i => (p.kind 1).contains i) (fun i => (p.kind 2).contains i) P ops (Q .normal) p a w) : wpAny P .any ops Q ops.size (Array.replicate ops.size false) a w := by
 simp only [treeAll, Bool.and_eq_true, beq_iff_eq] at hB
 obtain ⟨⟨⟨hsel, hp⟩, hlen⟩, _⟩ := hB
 have H := wpQ_of_tree hR (md := .any) hsel p (Array.replicate ops.size false) a w (closed_start _) hp h
 rw [hlen] at H
 exact wpAny_of_wpQ hR (fun l a w hL => hL) _ _ _ _ H
end
section
variable (P : Program) (N : NB) (M : Nat → Prop) (w0 : World) (G : List Chunk)
def LstQT (ops : List Oper) (K : Fr → List Chunk → Prop) : PlT → Fr → List Chunk → Prop
 | .nil, L, F => K L F
 | .one k i rest, L, F => match nth ops i with
  | some o => (match k with
   | 0 => StepO P N M w0 true ops o L F (LstQT ops K rest)
   | 1 => StepO P N M w0 false ops o L F (fun L' F' => CSub F' G ∧ LstQT ops K rest L' F')
   | _ => StepG P N M w0 G ops o L F (LstQT ops K rest))
  | none => False
 | .two i a j b, L, F => (match nth ops i with
  | some o => StepO P N M w0 true ops o L F (LstQT ops K a)
  | none => False) ∧ (match nth ops j with
  | some o => StepO P N M w0 true ops o L F (LstQT ops K b)
  | none => False)
end
section
variable {P : Program} {N : NB} {M : Nat → Prop} {w0 : World} {L : Fr} {F G : List Chunk} {K : Fr → List Chunk → Prop} {x : Bool} {ops : List Oper} {o : Oper} {v : Value}
theorem step0Q {chg flo : Nat → Bool} {i : Nat} {a : Act} {w : World} {K : Fr → List Chunk → Prop} {T : Act → World → Prop} (hc : chg i = false) (hf : flo i = false) (h : StepO P N M w0 true ops o L F K) (ho : ops[i]? = some o) (hl : Holds N a L) (hm : Mem M w0 w F)
  (hT : ∀ a w L F, Holds N a L → Mem M w0 w F → K L F → T a w) : opQ (Kp M w0 G) chg flo P ops.toArray i T a w := by
 have h1 := h a w hl hm
 unfold opQ
 simp only [List.getElem?_toArray, ho]
 split
 ·rename_i he
  simp only [he, if_true] at h1
  split
  ·rename_i hw
   simp only [hw, if_true] at h1
   exact Oper.wp_mono (fun a' w' hq => by
    obtain ⟨he, L', F', h2, h3, h4⟩ := hq
    exact ⟨⟨fun e => (by rw [hc] at e; cases e), fun _ => he trivial⟩, hT _ _ _ _ h2 h3 h4⟩) h1
  ·rename_i hw
   simp only [hw] at h1
   obtain ⟨L', F', h2, h3, h4⟩ := h1
   exact hT _ _ _ _ h2 h3 h4
 ·rename_i he
  simp only [he] at h1
  obtain ⟨v, hy, L', F', h2, h3, h4⟩ := h1
  exact ⟨v, fun w' hr => hy w' (hr.2 hf), hT _ _ _ _ h2 h3 h4⟩
theorem LstQT.plan {Q : Exit → Act → World → Prop} (hT : ∀ a w L F, Holds N a L → Mem M w0 w F → K L F → Q .normal a w) {chg flo : Nat → Bool} : ∀ (p : PlT) (L : Fr) (F : List Chunk) (a : Act) (w : World),
  p.kinds chg flo = true → LstQT P N M w0 G ops K p L F → Holds N a L → Mem M w0 w F → wpTree (Kp M w0 G) chg flo P ops.toArray (Q .normal) p a w
 | .nil, _, _, _, _, _, h, hl, hm => hT _ _ _ _ hl hm h
 | .two i x j y, L, F, a, w, hq, h, hl, hm => by
  simp only [PlT.kinds, Bool.and_eq_true, Bool.not_eq_true'] at hq
  obtain ⟨⟨⟨⟨⟨hci, hfi⟩, hcj⟩, hfj⟩, hx⟩, hy⟩ := hq
  simp only [LstQT] at h
  obtain ⟨h1, h2⟩ := h
  cases hoi : nth ops i with
  | none => simp [hoi] at h1
  | some oi =>
   cases hoj : nth ops j with
   | none => simp [hoj] at h2
   | some oj =>
    simp only [hoi] at h1
    simp only [hoj] at h2
    exact ⟨step0Q hci hfi h1 (by rw [← nth_eq]; exact hoi) hl hm (fun a w L F h3 h4 h5 => LstQT.plan hT x L F a w hx h5 h3 h4),
     step0Q hcj hfj h2 (by rw [← nth_eq]; exact hoj) hl hm (fun a w L F h3 h4 h5 => LstQT.plan hT y L F a w hy h5 h3 h4)⟩
 | .one k i rest, L, F, a, w, hq, h, hl, hm => by
  simp only [PlT.kinds, Bool.and_eq_true, beq_iff_eq] at hq
  obtain ⟨⟨hk1, hk2⟩, hrest⟩ := hq
  have rec' : ∀ a w L F, Holds N a L → Mem M w0 w F → LstQT P N M w0 G ops K rest L F → wpTree (Kp M w0 G) chg flo P ops.toArray (Q .normal) rest a w := fun a w L F h1 h2 h3 => LstQT.plan hT rest L F a w hrest h3 h1 h2
  simp only [LstQT] at h
  cases ho : nth ops i with
  | none => simp [ho] at h
  | some o =>
   simp only [ho] at h
   have ho' : ops[i]? = some o := by rw [← nth_eq]; exact ho
   simp only [wpTree]
   match k, hk1, hk2, h with
   | 0, hk1, hk2, h => exact step0Q (by simpa using hk1.symm) (by simpa using hk2.symm) h ho' hl hm rec'
   | 1, hk1, hk2, h =>
    have hc : chg i = true := by simpa using hk1.symm
    have hf : flo i = false := by simpa using hk2.symm
    have h1 := h a w hl hm
    unfold opQ
    simp only [List.getElem?_toArray, ho']
    split
    ·rename_i he
     simp only [he, if_true] at h1
     split
     ·rename_i hw
      simp only [hw, if_true] at h1
      exact Oper.wp_mono (fun a' w' hq => by
       obtain ⟨_, L', F', h2, h3, h4, h5⟩ := hq
       exact ⟨⟨fun _ _ => h4.mem h3, fun e => (by rw [hc] at e; cases e)⟩, rec' _ _ _ _ h2 h3 h5⟩) h1
     ·rename_i hw
      simp only [hw] at h1
      obtain ⟨L', F', h2, h3, _, h4⟩ := h1
      exact rec' _ _ _ _ h2 h3 h4
    ·rename_i he
     simp only [he] at h1
     obtain ⟨v, hy, L', F', h2, h3, _, h4⟩ := h1
     exact ⟨v, fun w' hr => hy w' (hr.2 hf), rec' _ _ _ _ h2 h3 h4⟩
   | n + 2, hk1, hk2, h =>
    have hf : flo i = true := by simpa using hk2.symm
    obtain ⟨he, v, hy, L', F', h2, h3, h4⟩ := h a w hl hm
    unfold opQ
    simp only [List.getElem?_toArray, ho', he, Bool.false_eq_true, if_false]
    exact ⟨v, fun w' hr => hy w' (hr.1 hf), rec' _ _ _ _ h2 h3 h4⟩
end
section
variable {P : Program} {N : NR} {M : Nat → Prop} {w0 : World} {L : Fr} {F : List Chunk} {ops : List Oper}
theorem tr_planT (G : List Chunk) (p : PlT) {id : Nat} {Q : Exit → Fr → List Chunk → Prop} (hm : P.follows .mixedOrders = true) (hB : treeAll ops.toArray p = true)
  (h : ∀ ds M1 w1, LstQT P ⟨N.n, ds⟩ M1 w1 G ops (Q .normal) p L F) (hd : noDefer ops = true := by rfl) : Tr P N M w0 (.region id ops.toArray true) L F Q := fun ds M1 w1 hb a w hl hmem => by
 have hB' := hB
 simp only [treeAll, Bool.and_eq_true] at hB'
 refine wpIn_any_nrm hm (by simpa using hd) (wpAny_treeQ (kp_ok M1 w1 G) p hB ?_)
 exact LstQT.plan (Q := nrm (Fin' N M w0 Q)) (fun a w L F h1 h2 h3 => ⟨rfl, ds, M1, w1, hb, L, F, h1, h2, h3⟩) p L F a _ hB'.2 (h ds M1 w1) hl (hmem.ext (drew_ext w))
end
end Go.Proofs.YtdkahdehodopoaaGreat

namespace Go.Proofs.YtdkahdehodopoaaGreat
open Go.RowKit
def rx (A : Option Addr) (vs : List Value) : Chunk := { ro A vs with excl := True }
instance Rd.ofRx (F : List Chunk) (A : Option Addr) (vs : List Value) : Rd (rx A vs :: F) A vs := ⟨fun _ _ _ hm => hm.sat (rx A vs) (List.mem_cons_self ..), fun b hb => ⟨rx A vs, List.mem_cons_self .., hb⟩⟩
theorem ow_rx {e : TypeId} {A : Option Addr} {cap : Nat} {vs : List Value} (F : List Chunk) : CSub (ow A e cap vs :: F) (rx A vs :: F) :=
 CSub.weak (c := ow A e cap vs) (d := rx A vs) ⟨fun w h => ow_reads h, fun b hb => hb.2, fun h => trivial⟩ F
theorem rx_cut {A : Option Addr} {vs ws : List Value} (F : List Chunk) : CSub (rx A (vs ++ ws) :: F) (rx A vs :: F) :=
 CSub.weak (c := rx A (vs ++ ws)) (d := rx A vs) ⟨fun w h j hj => by
  obtain ⟨ad, h1, h2⟩ := h j (by rw [List.length_append]; omega)
  exact ⟨ad, h1, by rw [h2, List.getElem_append_left hj]⟩, fun b hb => ⟨fun e => hb.1 (by simp at e; exact e.1), hb.2⟩, fun h => trivial⟩ F
theorem rx_take {A : Option Addr} {rs : List RowM} (k : Nat) (F : List Chunk) : CSub (rx A (hdrs rs) :: F) (rx A (hdrs (rs.take k)) :: F) := by
 have h := rx_cut (A := A) (vs := hdrs (rs.take k)) (ws := hdrs (rs.drop k)) F
 rwa [← hdrs_append, List.take_append_drop] at h
theorem rows_take {e : TypeId} {rs : List RowM} (k : Nat) (F : List Chunk) : CSub (rowsCh e rs :: F) (rowsCh e (rs.take k) :: F) :=
 CSub.weak (c := rowsCh e rs) (d := rowsCh e (rs.take k)) ⟨fun w hs => ⟨fun r hr => hs.1 r (List.mem_of_mem_take hr), hs.2.sublist (List.take_sublist k rs)⟩, fun b hb => by
  obtain ⟨r, hr, hf⟩ := hb
  exact ⟨r, List.mem_of_mem_take hr, hf⟩, fun h => h⟩ F
theorem rows_rep (e : TypeId) (F : List Chunk) : ∀ n : Nat, CSub F (rowsCh e (List.replicate n rowD) :: F)
 | 0 => rows_nil e F
 | n + 1 => by
  have h1 : CSub (rowsCh e (List.replicate n rowD) :: F) (ow none e 0 (ints []) :: rowsCh e (List.replicate n rowD) :: F) := fun M w0 w Z hm => nil_mem e hm
  have h2 := (rows_rep e F n).trans (h1.trans ((CSub.perm (List.Perm.swap ..)).trans (rows_snoc (e := e) (rs := List.replicate n rowD) (r := rowD) F)))
  rw [List.replicate_succ']
  exact h2
theorem hdrs_rep (n : Nat) : List.replicate n (Value.slice none 0 0) = hdrs (List.replicate n rowD) := by
 simp [hdrs, RowM.hdr, rowD]
section
variable {P : Program} {N : NR} {M : Nat → Prop} {w0 : World} {L : Fr} {F : List Chunk}
theorem tr_nn {A : Option Addr} {l : List Int} {c : Code} {Q : Exit → Fr → List Chunk → Prop} [hr : Rd F A (ints l)] (h : (A = none → l = []) → Tr P N M w0 c L F Q) : Tr P N M w0 c L F Q := fun ds M1 w1 hb a w hl hm => by
 refine h (fun hA => ?_) ds M1 w1 hb a w hl hm
 cases l with
 | nil => rfl
 | cons x l =>
  obtain ⟨ad, h1, _⟩ := hr.rd _ _ w hm 0 (by simp [ints])
  rw [hA] at h1; cases h1
end
def three (R : Value → Chunk → Chunk → Chunk → Prop) : Value → List Chunk → Prop := fun u Fo => ∃ c d e, Fo = [c, d, e] ∧ R u c d e
section
variable {P : Program} {N : NB} {M : Nat → Prop} {w0 : World} {L : Fr} {F F' : List Chunk} {K : Fr → List Chunk → Prop} {b : Bool} {o : Oper} {v : Value} {x y : Operand} {t t' : TypeId}
theorem rCut3 {A : Option Addr} {n c : Nat} {i : Int} {z : Operand} {zz : Value} {e : TypeId} {bytes : Nat} (ho : o.op = .slice t x none (some y) (some z)) [h : SlTy P t e zz bytes] (hx : ev L x = some (.slice A n c)) (hy : ev L y = some (.int .i64 i)) (hz : ev L z = some (.int .i64 i)) (h0 : 0 ≤ i) (h1 : i ≤ c) : Stl P N M w0 o L F (.slice A i.toNat i.toNat) := fun a w hl _ => by
 simp only [execOp, ho, hl.eval hx, Option.map_none, Option.map_some, hl.eval hy, hl.eval hz, Instr.sliceAt, Sem.run_bind, run_und h.und, Result.andThen_ok]
 simp only [Instr.slice, Instr.sliceBounds, Instr.sliceBound, asIntOf, Sem.run_bind, Sem.run_pure, Result.andThen_ok, run_und h.und, run_size1 h.size, h0, h1]
 simp [Addr.add]
 intro hlt
 exact absurd hlt (by omega)
theorem eCallM3 {f : FuncId} {xs : List Operand} {tys : Array TypeId} {vals : List Value} {H G : List Chunk} {R : Value → Chunk → Chunk → Chunk → Prop} (ho : o.op = .call { callee := .value (.func f), args := xs.toArray, argTypes := tys }) {d : Nat} (hdd : o.dst = some d) (hd : Nat.ble (d + 1) N.n = true)
  (hs : Mut P f vals.toArray H G (three R)) (hx : EvL L xs vals) [hp : PkS F H F'] [he : Ent F' G] (hK : ∀ v c e g, R v c e g → K (addL d v L) (c :: e :: g :: F')) (hG : NoEx G := by repeat' (first | exact trivial | exact id | refine ⟨?_, ?_⟩)) (hH : AllEx H := by repeat' (first | exact trivial | refine ⟨?_, ?_⟩)) : Eff P N M w0 false o L F K :=
 eCallM ho hdd hd hs hx (hp := hp) (he := he) (fun u Fo ⟨c, e, g, h1, h2⟩ => by subst h1; exact hK u c e g h2) hG hH
theorem eCall3 {f : FuncId} {xs : List Operand} {tys : Array TypeId} {vals : List Value} {G : List Chunk} {R : Value → Chunk → Chunk → Chunk → Prop} (ho : o.op = .call { callee := .value (.func f), args := xs.toArray, argTypes := tys }) {d : Nat} (hdd : o.dst = some d) (hd : Nat.ble (d + 1) N.n = true)
  (hs : Pure P f vals.toArray G (three R)) (hx : EvL L xs vals) [he : Ent F G] (hK : ∀ v c e g, R v c e g → K (addL d v L) (c :: e :: g :: F)) : Eff P N M w0 b o L F K :=
 eCall ho hdd hd hs hx (he := he) fun u Fo ⟨c, e, g, h1, h2⟩ => by subst h1; exact hK u c e g h2
end
end Go.Proofs.YtdkahdehodopoaaGreat

namespace Go.Proofs.YtdkahdehodopoaaGreat
open Go.RowKit
theorem tr_cap {P : Program} {N : NR} {M : Nat → Prop} {w0 : World} {L : Fr} {F F' : List Chunk} (A : Option Addr) (e : TypeId) (cap : Nat) (vs : List Value) {c : Code} {Q : Exit → Fr → List Chunk → Prop} [hp : Pk F (ow A e cap vs) F'] (h : vs.length ≤ cap → Tr P N M w0 c L F Q) : Tr P N M w0 c L F Q := fun ds M1 w1 hb a w hl hm => by
 refine h ?_ ds M1 w1 hb a w hl hm
 have h1 : w.ownsRow 0 e 1 (.slice A vs.length cap) vs.length vs := (hm.perm hp.perm).sat _ (List.mem_cons_self ..)
 rcases h1 with ⟨h1, h2 | ⟨g, c, cur, hv, hb, hh, hc, hm, hs, ht⟩⟩
 ·omega
 ·simp only [Value.slice.injEq] at hv
  omega
end Go.Proofs.YtdkahdehodopoaaGreat

namespace Go.Proofs.YtdkahdehodopoaaGreat
open Go.RowKit
class SsTy (P : Program) (t : TypeId) (e : outParam TypeId) (k : outParam Nat) : Prop where
 und : P.underlying t = some (.slice e)
 size : (P.info? e).map (·.size) = some k
class BoTy (P : Program) (t : TypeId) : Prop where
 und : P.underlying t = some .bool
class SubL (vs : List Value) (j n : Nat) (out : outParam (List Value)) : Prop where
 eq : out = (vs.drop j).take n
 le : j + n ≤ vs.length
instance SubL.nil (vs : List Value) : SubL vs 0 0 [] := ⟨by simp, by simp⟩
instance SubL.take (v : Value) (vs : List Value) (n : Nat) (out : List Value) [h : SubL vs 0 n out] : SubL (v :: vs) 0 (n + 1) (v :: out) := ⟨by simpa using h.eq, by have := h.le; simp at this ⊢; omega⟩
instance SubL.drop (v : Value) (vs : List Value) (j n : Nat) (out : List Value) [h : SubL vs j n out] : SubL (v :: vs) (j + 1) n out := ⟨by simpa using h.eq, by have := h.le; simp at this ⊢; omega⟩
section
variable {P : Program} {N : NB} {M : Nat → Prop} {w0 : World} {L : Fr} {F F' : List Chunk} {K : Fr → List Chunk → Prop} {b : Bool} {o : Oper} {v : Value} {x y : Operand} {t t' e : TypeId} {k : Nat}
theorem rIdxS0 {p : Addr} {n c : Nat} {i : Int} (ho : o.op = .indexAddr t x y) [h : SsTy P t e k] (hx : ev L x = some (.slice (some p) n c)) (hy : ev L y = some (.int .i64 i)) (h0 : i = 0) (h1 : 0 < n) : Stl P N M w0 o L F (.pointer (some p)) := fun a w hl hm => by
 subst h0
 have h2 : (0 : Int) < n := by omega
 simp [execOp, ho, hl.eval hx, hl.eval hy, Instr.indexAt, asIntOf, run_und h.und, h1, h2, run_size1 h.size, Addr.add]
theorem eAppRn {A B rA : Option Addr} {n c cap rcap m : Nat} {z : Value} {rs : List RowM} (xs : List Int) (hm : m = xs.length) (ho : o.op = .call { callee := .builtin .append, args := #[x, y], argTypes := #[t, t] }) {d : Nat} (hdd : o.dst = some d) (hd : Nat.ble (d + 1) N.n = true) [h : SlTy P t e z 24]
  (hx : ev L x = some (.slice A n cap)) (hy : ev L y = some (.slice B 1 c)) [hp : PkOw F A e cap (hdrs rs) F'] [hr : Rd F B [.slice rA m rcap]] (hn : n = rs.length) (hb : rs.length ≤ 1000000000000)
  (hK : ∀ (A' : Option Addr) (cap' : Nat), K (addL d (.slice A' (rs ++ [(⟨rA, rcap, xs⟩ : RowM)]).length cap') L) (ow A' e cap' (hdrs (rs ++ [(⟨rA, rcap, xs⟩ : RowM)])) :: F')) : Eff P N M w0 false o L F K := by
 subst hm
 exact eAppR ho hdd hd (h := h) hx hy (hp := hp) (hr := hr) hn hb hK
theorem rLdSF {p : Addr} {j n : Nat} {vs out : List Value} (ho : o.op = .load t x) [h : AgTy P t n] (hx : ev L x = some (.pointer (some (p.add j)))) [hr : Rd F (some p) vs] [hs : SubL vs j n out] : Stl P N M w0 o L F (.agg out.toArray) := fun a w hl hm => by
 obtain ⟨fs, hu⟩ := h.und
 have hrd := hr.rd M w0 w hm
 have hle := hs.le
 have hout : out.length = n := by rw [hs.eq, List.length_take, List.length_drop]; omega
 have hag : (isAgg t).run P w = .ok true w := by simp [isAgg, run_und hu]
 have hld : (loadCells (p.add j) n).run P w = .ok out.toArray w := by
  have h0 := loadCellsFrom_ok (P := P) (w := w) (ad := p.add j) out 0 #[] (fun i hi => by
   obtain ⟨ad, h1, hc⟩ := hrd (j + i) (by omega)
   simp only [Option.some.injEq] at h1
   subst h1
   rw [Nat.zero_add, add_add, hc]
   congr 1
   simp [hs.eq])
  rw [hout] at h0
  simpa [loadCells] using h0
 have hsz := run_size1 h.inf w
 simp [execOp, ho, hl.eval hx, Instr.loadAt, Instr.sureAddr, loadVar, hag, hsz, hld]
theorem rLenS {A : Option Addr} {n c : Nat} (ho : o.op = .call { callee := .builtin .len, args := #[x], argTypes := #[t] }) [h : SsTy P t e k] (hx : ev L x = some (.slice A n c)) : Stl P N M w0 o L F (.int .i64 n) := fun a w hl _ => by
 simp [execOp, ho, resolve, invoke, builtin, Builtin.len_, hl.eval hx, run_und h.und, goInt]
theorem run_litS (w : World) {v u0 u1 : Value} {z0 z1 : Value} (h : SsTy P t e 2) (hz : ZrTy P e [z0, z1]) (hv : v.cells = #[u0, u1]) :
  (Instr.buildSlice t 1 #[(0, v)]).run P w = .ok (.slice (some ⟨w.heap.size, 0, none⟩) 1 1) (w.alloc (.cells #[u0, u1] e)) := by
 obtain ⟨z, hz1, hz2⟩ := hz.zr
 have hzz : (zeroValue e).run P w = .ok z w := by
  cases hi : P.info? e with
  | none => simp [hi] at hz1
  | some i =>
   simp [hi] at hz1
   simp [zeroValue, typeInfo, hi, hz1]
 have hsz := run_size1 h.size w
 unfold Instr.buildSlice
 simp only [Sem.run_bind, run_und h.und, Result.andThen_ok, hsz]
 simp [newRow, newObj, Sem.run, Instr.fill, hzz, hz2, hv, Array.range_succ, range0]
theorem eLitS {u0 u1 z0 z1 : Value} (ho : o.op = .buildSlice t 1 #[(0, x)]) {d : Nat} (hdd : o.dst = some d) (hd : Nat.ble (d + 1) N.n = true) [h : SsTy P t e 2] [hz : ZrTy P e [z0, z1]] (hx : ev L x = some (.agg #[u0, u1])) (hK : ∀ p : Addr, K (addL d (.slice (some p) 1 1) L) (blk p e [u0, u1] :: F)) : Eff P N M w0 b o L F K := eff_value hdd hd fun a w hl hm => by
 have h1 := run_litS (P := P) (t := t) (v := .agg #[u0, u1]) (u0 := u0) (u1 := u1) w h hz rfl
 refine ⟨.slice (some ⟨w.heap.size, 0, none⟩) 1 1, w.alloc (.cells #[u0, u1] e), ?_, alloc_ext w _, _, hm.add (G := [blk ⟨w.heap.size, 0, none⟩ e [u0, u1]]) (alloc_ext w _) (fun c hc => ?_) (List.pairwise_singleton _ _), hK _⟩
 ·simp only [execOp, ho, Sem.run_bind]
  simp [hl.eval hx, h1]
 ·simp only [List.mem_singleton] at hc
  subst hc
  exact ⟨newBlk w e [u0, u1], fun b hb => by simp only [blk] at hb; omega⟩
end
end Go.Proofs.YtdkahdehodopoaaGreat

namespace Go.Proofs.YtdkahdehodopoaaGreat
open Go.RowKit
section
end
theorem ro_part {A : Option Addr} {vs : List Value} (lo k c : Nat) (hlo : lo < c) (F : List Chunk) : CSub (ro A vs :: F) (ro (cutA A lo c) ((vs.drop lo).take k) :: ro A vs :: F) :=
 CSub.dup (c := ro A vs) (d := ro (cutA A lo c) ((vs.drop lo).take k)) ⟨fun w h j hj => by
  rw [List.length_take, List.length_drop] at hj
  obtain ⟨ad, h1, h2⟩ := h (lo + j) (by omega)
  subst h1
  refine ⟨ad.add lo, by rw [cutA, if_pos hlo]; rfl, ?_⟩
  rw [add_add, h2]
  congr 1
  simp, fun b hb => by
  obtain ⟨hne, ad, h1, h2⟩ := hb
  rw [cutA, if_pos hlo] at h1
  cases A with
  | none => cases h1
  | some a0 =>
   simp only [shA, Option.map_some, Option.some.injEq] at h1
   refine ⟨fun e => hne (by rw [e]; simp), a0, rfl, ?_⟩
   rw [← h2, ← h1, block_add], fun h => h⟩ (fun h => h) F
theorem ints_part (l : List Int) (lo k : Nat) : ((ints l).drop lo).take k = ints ((l.drop lo).take k) := by simp [ints, List.map_drop, List.map_take]
theorem ro_partI {A : Option Addr} {l : List Int} (lo k c : Nat) (hlo : lo < c) (F : List Chunk) : CSub (ro A (ints l) :: F) (ro (cutA A lo c) (ints ((l.drop lo).take k)) :: ro A (ints l) :: F) := by
 rw [← ints_part]; exact ro_part lo k c hlo F
end Go.Proofs.YtdkahdehodopoaaGreat

namespace Go.Proofs.YtdkahdehodopoaaGreat
open Go.RowKit
instance HasRows.app (F : List Chunk) (rs qs : List RowM) [h : HasRows F rs] [k : HasRows F qs] : HasRows F (rs ++ qs) := ⟨fun M w0 w hm r hr => (List.mem_append.1 hr).elim (h.has M w0 w hm r) (k.has M w0 w hm r), fun b hb => by
 obtain ⟨r, hr, hf⟩ := hb
 exact (List.mem_append.1 hr).elim (fun hr => h.ft b ⟨r, hr, hf⟩) (fun hr => k.ft b ⟨r, hr, hf⟩)⟩
section
end
section
variable {P : Program} {N : NB} {M : Nat → Prop} {w0 : World} {L : Fr} {F : List Chunk} {K : Fr → List Chunk → Prop} {x : Bool} {ops : List Oper} {o : Oper}
theorem skU {s : Nat} {want : Bool} (hg : guardSlot ops o = some (s, want)) (hb : Fr.get L s = some undef) {d : Nat} (hdd : o.dst = some d) (hd : Nat.ble (d + 1) N.n = true)
  (k : K (addL d undef L) F) : StepO P N M w0 x ops o L F K := fun a w hl hm => by
 have hw := wanted_slot2 (g := false) (b := false) hg (by simpa [gif] using hb) hl
 rw [Bool.false_and] at hw
 by_cases he : isEff o.op = true
 ·simp only [he, if_true, hw, Bool.false_eq_true, if_false]
  exact ⟨_, F, hl.add hdd hd undef, hm, k⟩
 ·simp only [he]
  exact ⟨undef, fun w' _ => .inr ⟨hw, rfl⟩, _, F, hl.add hdd hd undef, hm, k⟩
end
instance HasRows.none (F : List Chunk) : HasRows F [] := ⟨fun _ _ _ _ r hr => by simp at hr, fun b hb => by
 obtain ⟨r, hr, _⟩ := hb
 simp at hr⟩
instance HasRows.more (F : List Chunk) (A : Option Addr) (c : Nat) (l : List Int) (rs : List RowM) [h : Rd F A (ints l)] [k : HasRows F rs] : HasRows F (⟨A, c, l⟩ :: rs) := ⟨fun M w0 w hm r hr => by
 rcases List.mem_cons.1 hr with rfl | hr
 ·exact h.rd M w0 w hm
 ·exact k.has M w0 w hm r hr, fun b hb => by
 obtain ⟨r, hr, hf⟩ := hb
 rcases List.mem_cons.1 hr with rfl | hr
 ·exact h.ft b hf
 ·exact k.ft b ⟨r, hr, hf⟩⟩
section
variable {P : Program} {N : NB} {M : Nat → Prop} {w0 : World} {L : Fr} {F F' : List Chunk} {K : Fr → List Chunk → Prop} {b : Bool} {o : Oper} {x y : Operand} {t e : TypeId} {z : Value} {bytes : Nat}
theorem eLit2R {A0 A1 : Option Addr} {c0 c1 : Nat} (l0 l1 : List Int) (ho : o.op = .buildSlice t 2 #[(0, x), (1, y)]) {d : Nat} (hdd : o.dst = some d) (hd : Nat.ble (d + 1) N.n = true) [h : SlTy P t e z bytes] (hx : ev L x = some (.slice A0 l0.length c0)) (hy : ev L y = some (.slice A1 l1.length c1))
  (hK : ∀ A : Option Addr, K (addL d (.slice A 2 2) L) (ow A e 2 (hdrs [(⟨A0, c0, l0⟩ : RowM), ⟨A1, c1, l1⟩]) :: F)) : Eff P N M w0 b o L F K := eLit2 ho hdd hd (h := h) hx rfl hy rfl hK
end
theorem ow_ro {e : TypeId} {A : Option Addr} {cap : Nat} {vs : List Value} (F : List Chunk) : CSub (ow A e cap vs :: F) (ro A vs :: F) :=
 CSub.weak (c := ow A e cap vs) (d := ro A vs) ⟨fun w h => ow_reads h, fun b hb => hb.2, fun h => h.elim⟩ F
theorem ro_dup {A : Option Addr} {vs : List Value} (F : List Chunk) : CSub (ro A vs :: F) (ro A vs :: ro A vs :: F) :=
 CSub.dup (c := ro A vs) (d := ro A vs) ⟨fun w h => h, fun b hb => hb, fun h => h⟩ (fun h => h) F
end Go.Proofs.YtdkahdehodopoaaGreat

namespace Go.Proofs.YtdkahdehodopoaaGreat
theorem mixed : Tryz.prog.follows .mixedOrders = true := by kernel_rfl
instance tySlI : SlTy Tryz.prog 22 3 (.int .i64 0) 8 := ⟨by kernel_rfl, by kernel_rfl, rfl⟩
instance tySlB : SlTy Tryz.prog 140 4 (.bool false) 1 := ⟨by kernel_rfl, by kernel_rfl, rfl⟩
instance tySlSS : SlTy Tryz.prog 25 22 (.slice none 0 0) 24 := ⟨by kernel_rfl, by kernel_rfl, rfl⟩
instance tySS : ScTy Tryz.prog 25 := scTy_of (by kernel_rfl)
instance zrSS : ZrTy Tryz.prog 25 [.slice none 0 0] := ⟨.slice none 0 0, by kernel_rfl, rfl⟩
instance tyI : ScTy Tryz.prog 3 := scTy_of (by kernel_rfl)
instance tyB : ScTy Tryz.prog 4 := scTy_of (by kernel_rfl)
instance tySI : ScTy Tryz.prog 22 := scTy_of (by kernel_rfl)
instance tyE : ScTy Tryz.prog 29 := scTy_of (by kernel_rfl)
instance tyF : AgTy Tryz.prog 24 3 := agTy_of (by kernel_rfl)
instance tyF0 : FdTy Tryz.prog 24 0 0 := ⟨by kernel_rfl⟩
instance tyF1 : FdTy Tryz.prog 24 1 1 := ⟨by kernel_rfl⟩
instance tyF2 : FdTy Tryz.prog 24 2 2 := ⟨by kernel_rfl⟩
instance bdF : BdTy Tryz.prog 24 [.int .i64 0, .int .i64 0, .slice none 0 0] [(0, 1), (1, 1), (2, 1)] := bdTy_of (z := .agg #[.int .i64 0, .int .i64 0, .slice none 0 0]) (by kernel_rfl) (by kernel_rfl) (by kernel_rfl) rfl
instance zrF : ZrTy Tryz.prog 24 [.int .i64 0, .int .i64 0, .slice none 0 0] := ⟨.agg #[.int .i64 0, .int .i64 0, .slice none 0 0], by kernel_rfl, rfl⟩
instance bdG : BdTy Tryz.prog 77 [.int .i64 0, .int .i64 0, .slice none 0 0, .int .i64 0, .slice none 0 0, .slice none 0 0] [(0, 3), (3, 1), (4, 1), (5, 1)] := bdTy_of (z := .agg #[.int .i64 0, .int .i64 0, .slice none 0 0, .int .i64 0, .slice none 0 0, .slice none 0 0]) (by kernel_rfl) (by kernel_rfl) (by kernel_rfl) rfl
instance tyG0 : FdTy Tryz.prog 77 0 0 := ⟨by kernel_rfl⟩
instance tyG1 : FdTy Tryz.prog 77 1 3 := ⟨by kernel_rfl⟩
instance tyG2 : FdTy Tryz.prog 77 2 4 := ⟨by kernel_rfl⟩
instance tyG3 : FdTy Tryz.prog 77 3 5 := ⟨by kernel_rfl⟩
instance zrSB : ZrTy Tryz.prog 140 [.slice none 0 0] := ⟨.slice none 0 0, by kernel_rfl, rfl⟩
instance tySB : ScTy Tryz.prog 140 := scTy_of (by kernel_rfl)
instance zrI : ZrTy Tryz.prog 3 [.int .i64 0] := ⟨.int .i64 0, by kernel_rfl, rfl⟩
instance zrE : ZrTy Tryz.prog 29 [.int .i64 0] := ⟨.int .i64 0, by kernel_rfl, rfl⟩
instance zrSI : ZrTy Tryz.prog 22 [.slice none 0 0] := ⟨.slice none 0 0, by kernel_rfl, rfl⟩
instance zrB : ZrTy Tryz.prog 4 [.bool false] := ⟨.bool false, by kernel_rfl, rfl⟩
instance zrPG : ZrTy Tryz.prog 45 [.pointer none] := ⟨.pointer none, by kernel_rfl, rfl⟩
instance tyPG : ScTy Tryz.prog 45 := scTy_of (by kernel_rfl)
instance ptG : PtTy Tryz.prog 45 := ⟨by kernel_rfl⟩
abbrev gfN (g : GfM) : Chunk := gfO 77 3 g
end Go.Proofs.YtdkahdehodopoaaGreat

namespace Go.Proofs.YtdkahdehodopoaaGreat
instance boB : BoTy Tryz.prog 4 := ⟨by kernel_rfl⟩
instance tyM : AgTy Tryz.prog 43 2 := agTy_of (by kernel_rfl)
instance tyM0 : FdTy Tryz.prog 43 0 0 := ⟨by kernel_rfl⟩
instance tyM1 : FdTy Tryz.prog 43 1 1 := ⟨by kernel_rfl⟩
instance bdM : BdTy Tryz.prog 43 [.int .i64 0, .slice none 0 0] [(0, 1), (1, 1)] := bdTy_of (z := .agg #[.int .i64 0, .slice none 0 0]) (by kernel_rfl) (by kernel_rfl) (by kernel_rfl) rfl
instance zrM : ZrTy Tryz.prog 43 [.int .i64 0, .slice none 0 0] := ⟨.agg #[.int .i64 0, .slice none 0 0], by kernel_rfl, rfl⟩
instance tyC : AgTy Tryz.prog 27 5 := agTy_of (by kernel_rfl)
instance tyC0 : FdTy Tryz.prog 27 0 0 := ⟨by kernel_rfl⟩
instance tyC1 : FdTy Tryz.prog 27 1 3 := ⟨by kernel_rfl⟩
instance tyC2 : FdTy Tryz.prog 27 2 4 := ⟨by kernel_rfl⟩
instance bdC : BdTy Tryz.prog 27 [.int .i64 0, .int .i64 0, .slice none 0 0, .int .i64 0, .slice none 0 0] [(0, 3), (3, 1), (4, 1)] := bdTy_of (z := .agg #[.int .i64 0, .int .i64 0, .slice none 0 0, .int .i64 0, .slice none 0 0]) (by kernel_rfl) (by kernel_rfl) (by kernel_rfl) rfl
instance zrC : ZrTy Tryz.prog 27 [.int .i64 0, .int .i64 0, .slice none 0 0, .int .i64 0, .slice none 0 0] := ⟨.agg #[.int .i64 0, .int .i64 0, .slice none 0 0, .int .i64 0, .slice none 0 0], by kernel_rfl, rfl⟩
instance ssM : SsTy Tryz.prog 156 43 2 := ⟨by kernel_rfl, by kernel_rfl⟩
instance tyV : AgTy Tryz.prog 100 4 := agTy_of (by kernel_rfl)
instance tyV0 : FdTy Tryz.prog 100 0 0 := ⟨by kernel_rfl⟩
instance tyV1 : FdTy Tryz.prog 100 1 1 := ⟨by kernel_rfl⟩
instance tyV2 : FdTy Tryz.prog 100 2 3 := ⟨by kernel_rfl⟩
instance bdV : BdTy Tryz.prog 100 [.pointer none, .int .i64 0, .slice none 0 0, .slice none 0 0] [(0, 1), (1, 2), (3, 1)] := bdTy_of (z := .agg #[.pointer none, .int .i64 0, .slice none 0 0, .slice none 0 0]) (by kernel_rfl) (by kernel_rfl) (by kernel_rfl) rfl
instance zrV : ZrTy Tryz.prog 100 [.pointer none, .int .i64 0, .slice none 0 0, .slice none 0 0] := ⟨.agg #[.pointer none, .int .i64 0, .slice none 0 0, .slice none 0 0], by kernel_rfl, rfl⟩
end Go.Proofs.YtdkahdehodopoaaGreat

namespace Go.Proofs.YtdkahdehodopoaaGreat
theorem take_next {α : Type} (d : α) (xs : List α) (k : Int) (h0 : 0 ≤ k) (h : k < xs.length) : xs.take (k + 1).toNat = xs.take k.toNat ++ [xs.getD k.toNat d] := by
 have e : (k + 1).toNat = k.toNat + 1 := by omega
 have hk : k.toNat < xs.length := by omega
 rw [e, List.take_add_one, List.getElem?_eq_getElem hk]
 simp [hk]
theorem take_len {α : Type} (xs : List α) (k : Int) (h : (xs.length : Int) ≤ k) : xs.take k.toNat = xs := List.take_of_length_le (by omega)
theorem mul_bd (a b A B : Int) (h1 : -A ≤ a) (h2 : a ≤ A) (h3 : -B ≤ b) (h4 : b ≤ B) : -(A * B) ≤ a * b ∧ a * b ≤ A * B := by
 have hA : 0 ≤ A := by omega
 have hB : 0 ≤ B := by omega
 have h5 : (a * b).natAbs ≤ (A * B).natAbs := by
  rw [Int.natAbs_mul, Int.natAbs_mul]
  exact Nat.mul_le_mul (by omega) (by omega)
 have h6 : ((A * B).natAbs : Int) = A * B := Int.natAbs_of_nonneg (Int.mul_nonneg hA hB)
 omega
theorem mul_bd0 (a b A B : Int) (h1 : 0 ≤ a) (h2 : a ≤ A) (h3 : 0 ≤ b) (h4 : b ≤ B) : 0 ≤ a * b ∧ a * b ≤ A * B := by
 have := mul_bd a b A B (by omega) h2 (by omega) h4
 exact ⟨Int.mul_nonneg h1 h3, this.2⟩
end Go.Proofs.YtdkahdehodopoaaGreat

set_option maxRecDepth 100000
namespace Go.Proofs.YtdkahdehodopoaaGreat
open Go.RowKit
end Go.Proofs.YtdkahdehodopoaaGreat

namespace Go.Proofs.YtdkahdehodopoaaGreat
end Go.Proofs.YtdkahdehodopoaaGreat

namespace Go.Proofs.YtdkahdehodopoaaGreat
theorem getD_set {α : Type} (l : List α) (i j : Nat) (v d : α) : (l.set i v).getD j d = if i = j ∧ j < l.length then v else l.getD j d := by
 simp only [List.getD_eq_getElem?_getD, List.getElem?_set]
 by_cases h : i = j
 ·subst h
  by_cases h2 : i < l.length
  ·simp [h2]
  ·simp [h2]
 ·simp [h]
theorem bezout : ∀ (a b : Nat), ∃ u v : Int, u * a + v * b = Nat.gcd a b := by
 intro a
 induction a using Nat.strongRecOn with
 | _ a ih =>
  intro b
  rcases Nat.eq_zero_or_pos a with h | h
  ·subst h; exact ⟨0, 1, by simp⟩
  ·obtain ⟨u, v, huv⟩ := ih (b % a) (Nat.mod_lt _ h) a
   refine ⟨v - u * (b / a : Nat), u, ?_⟩
   rw [Nat.gcd_rec, ← huv]
   have h3 : (b : Int) = a * (b / a : Nat) + (b % a : Nat) := by
    have := Nat.div_add_mod b a
    exact_mod_cast this.symm
   have h4 : u * (b : Int) = u * (a * (b / a : Nat) + (b % a : Nat)) := by rw [← h3]
   rw [h4, Int.sub_mul, Int.mul_add, Int.mul_assoc u]
   have h5 : ((b / a : Nat) : Int) * (a : Int) = a * (b / a : Nat) := Int.mul_comm _ _
   rw [h5]
   omega
theorem inverse {y n : Int} (hn : 1 ≤ n) (h : Int.gcd y n = 1) : ∃ u : Int, (u * y) % n = 1 % n := by
 obtain ⟨u, v, huv⟩ := bezout y.natAbs n.natAbs
 have h1 : (Nat.gcd y.natAbs n.natAbs : Int) = 1 := by exact_mod_cast h
 rw [h1] at huv
 have hn' : (n.natAbs : Int) = n := by omega
 rw [hn'] at huv
 rcases Int.natAbs_eq y with hy | hy
 ·refine ⟨u, ?_⟩
  rw [hy, ← huv]
  simp
 ·refine ⟨-u, ?_⟩
  rw [hy, ← huv, Int.neg_mul_neg]
  simp
end Go.Proofs.YtdkahdehodopoaaGreat

namespace Go.Proofs.YtdkahdehodopoaaGreat
class Rg (R : Type) extends Add R, Mul R, Neg R, Zero R, One R where
 add_assoc : ∀ a b c : R, a + b + c = a + (b + c)
 add_comm : ∀ a b : R, a + b = b + a
 zero_add : ∀ a : R, 0 + a = a
 neg_add : ∀ a : R, -a + a = 0
 mul_assoc : ∀ a b c : R, a * b * c = a * (b * c)
 mul_comm : ∀ a b : R, a * b = b * a
 one_mul : ∀ a : R, 1 * a = a
 add_mul : ∀ a b c : R, (a + b) * c = a * c + b * c
namespace Rg
variable {R : Type} [Rg R]
instance : Sub R := ⟨fun a b => a + -b⟩
theorem sub_def (a b : R) : a - b = a + -b := rfl
instance : Std.Associative (α := R) (· + ·) := ⟨Rg.add_assoc⟩
instance : Std.Commutative (α := R) (· + ·) := ⟨Rg.add_comm⟩
instance : Std.Associative (α := R) (· * ·) := ⟨Rg.mul_assoc⟩
instance : Std.Commutative (α := R) (· * ·) := ⟨Rg.mul_comm⟩
theorem add_zero (a : R) : a + 0 = a := by rw [Rg.add_comm, Rg.zero_add]
theorem add_neg (a : R) : a + -a = 0 := by rw [Rg.add_comm, Rg.neg_add]
theorem mul_one (a : R) : a * 1 = a := by rw [Rg.mul_comm, Rg.one_mul]
theorem mul_add (a b c : R) : a * (b + c) = a * b + a * c := by rw [Rg.mul_comm, Rg.add_mul, Rg.mul_comm b, Rg.mul_comm c]
theorem add_left_cancel {a b c : R} (h : a + b = a + c) : b = c := by
 have h1 : -a + (a + b) = -a + (a + c) := by rw [h]
 rwa [← Rg.add_assoc, ← Rg.add_assoc, Rg.neg_add, Rg.zero_add, Rg.zero_add] at h1
theorem zero_mul (a : R) : 0 * a = 0 := by
 have h : 0 * a + 0 * a = 0 * a + 0 := by rw [← Rg.add_mul, Rg.zero_add, add_zero]
 exact add_left_cancel h
theorem mul_zero (a : R) : a * 0 = 0 := by rw [Rg.mul_comm, zero_mul]
theorem neg_mul (a b : R) : -a * b = -(a * b) := by
 refine add_left_cancel (a := a * b) ?_
 rw [← Rg.add_mul, add_neg, zero_mul, add_neg]
theorem mul_neg (a b : R) : a * -b = -(a * b) := by rw [Rg.mul_comm, neg_mul, Rg.mul_comm]
theorem neg_zero : -(0 : R) = 0 := by have := Rg.neg_add (0 : R); rwa [add_zero] at this
theorem neg_neg (a : R) : - -a = a := by refine add_left_cancel (a := -a) ?_; rw [add_neg, Rg.neg_add]
theorem neg_add_rev (a b : R) : -(a + b) = -a + -b := by
 refine add_left_cancel (a := a + b) ?_
 rw [add_neg]
 have : a + b + (-a + -b) = (a + -a) + (b + -b) := by ac_rfl
 rw [this, add_neg, add_neg, add_zero]
theorem sub_self (a : R) : a - a = 0 := add_neg a
theorem sub_zero (a : R) : a - 0 = a := by rw [sub_def, neg_zero, add_zero]
theorem zero_sub (a : R) : 0 - a = -a := by rw [sub_def, Rg.zero_add]
theorem sub_mul (a b c : R) : (a - b) * c = a * c - b * c := by rw [sub_def, Rg.add_mul, neg_mul]; rfl
theorem mul_sub (a b c : R) : a * (b - c) = a * b - a * c := by rw [sub_def, mul_add, mul_neg]; rfl
theorem sub_add_cancel (a b : R) : a - b + b = a := by rw [sub_def, Rg.add_assoc, Rg.neg_add, add_zero]
theorem add_sub_cancel (a b : R) : a + b - b = a := by rw [sub_def, Rg.add_assoc, add_neg, add_zero]
theorem eq_of_sub {a b : R} (h : a - b = 0) : a = b := by rw [← sub_add_cancel a b, h, Rg.zero_add]
theorem eq_sub_of_add {a b c : R} (h : a + b = c) : a = c - b := by rw [← h, add_sub_cancel]
theorem neg_sub (a b : R) : -(a - b) = b - a := by rw [sub_def, neg_add_rev, neg_neg, Rg.add_comm]; rfl
theorem sub_add_eq (a b c : R) : a - b + c = a + c - b := by simp only [sub_def]; ac_rfl
theorem add_sub_add (a b c d : R) : a + b - (c + d) = (a - c) + (b - d) := by simp only [sub_def, neg_add_rev]; ac_rfl
def pow (a : R) : Nat → R
 | 0 => 1
 | n + 1 => pow a n * a
theorem pow_succ (a : R) (n : Nat) : pow a (n + 1) = pow a n * a := rfl
theorem pow_zero (a : R) : pow a 0 = 1 := rfl
theorem pow_add (a : R) (m : Nat) : ∀ n, pow a (m + n) = pow a m * pow a n
 | 0 => (mul_one _).symm
 | n + 1 => by rw [← Nat.add_assoc, pow, pow_add a m n, pow, Rg.mul_assoc]
theorem one_pow : ∀ n, pow (1 : R) n = 1
 | 0 => rfl
 | n + 1 => by rw [pow, one_pow n, Rg.one_mul]
theorem pow_mul (a : R) (m : Nat) : ∀ n, pow a (m * n) = pow (pow a m) n
 | 0 => rfl
 | n + 1 => by rw [Nat.mul_succ, pow_add, pow_mul a m n, pow]
theorem mul_pow (a b : R) : ∀ n, pow (a * b) n = pow a n * pow b n
 | 0 => (Rg.one_mul _).symm
 | n + 1 => by rw [pow, mul_pow a b n, pow, pow]; ac_rfl
theorem pow_one (a : R) : pow a 1 = a := Rg.one_mul a
theorem zero_pow {n : Nat} (h : 0 < n) : pow (0 : R) n = 0 := by
 obtain ⟨k, rfl⟩ : ∃ k, n = k + 1 := ⟨n - 1, by omega⟩
 exact mul_zero _
def sm (n : Nat) (f : Nat → R) : R := match n with
 | 0 => 0
 | n + 1 => sm n f + f n
theorem sm_zero (f : Nat → R) : sm 0 f = 0 := rfl
theorem sm_succ (n : Nat) (f : Nat → R) : sm (n + 1) f = sm n f + f n := rfl
theorem sm_congr {f g : Nat → R} : ∀ {n : Nat}, (∀ i, i < n → f i = g i) → sm n f = sm n g
 | 0, _ => rfl
 | n + 1, h => by rw [sm_succ, sm_succ, sm_congr (fun i hi => h i (by omega)), h n (by omega)]
theorem sm_add (f g : Nat → R) : ∀ n, sm n (fun i => f i + g i) = sm n f + sm n g
 | 0 => (Rg.zero_add _).symm
 | n + 1 => by rw [sm_succ, sm_add f g n, sm_succ, sm_succ]; ac_rfl
theorem sm_neg (f : Nat → R) : ∀ n, sm n (fun i => -f i) = -sm n f
 | 0 => neg_zero.symm
 | n + 1 => by rw [sm_succ, sm_neg f n, sm_succ, neg_add_rev]
theorem sm_mul (c : R) (f : Nat → R) : ∀ n, sm n (fun i => c * f i) = c * sm n f
 | 0 => (mul_zero _).symm
 | n + 1 => by rw [sm_succ, sm_mul c f n, sm_succ, mul_add]
theorem sm_mulR (c : R) (f : Nat → R) (n : Nat) : sm n (fun i => f i * c) = sm n f * c := by
 rw [Rg.mul_comm, ← sm_mul]
 exact sm_congr fun i _ => Rg.mul_comm _ _
theorem sm_none {f : Nat → R} : ∀ {n : Nat}, (∀ i, i < n → f i = 0) → sm n f = 0
 | 0, _ => rfl
 | n + 1, h => by rw [sm_succ, sm_none (fun i hi => h i (by omega)), h n (by omega), add_zero]
theorem sm_left (f : Nat → R) : ∀ n, sm (n + 1) f = f 0 + sm n (fun i => f (i + 1))
 | 0 => by rw [sm_succ, sm_zero, sm_zero, Rg.zero_add, add_zero]
 | n + 1 => by rw [sm_succ, sm_left f n, sm_succ, Rg.add_assoc]
theorem sm_rev (f : Nat → R) : ∀ n, sm n f = sm n (fun i => f (n - 1 - i))
 | 0 => rfl
 | n + 1 => by
  rw [sm_left (fun i => f (n + 1 - 1 - i)), sm_succ, sm_rev f n, Rg.add_comm]
  refine congr (congrArg _ rfl) (sm_congr fun i hi => ?_)
  congr 1; omega
theorem sm_one {f : Nat → R} {n k : Nat} (hk : k < n) (h : ∀ i, i < n → i ≠ k → f i = 0) : sm n f = f k := by
 induction n with
 | zero => omega
 | succ n ih =>
  rw [sm_succ]
  by_cases hkn : k = n
  ·subst hkn
   rw [sm_none (fun i hi => h i (by omega) (by omega)), Rg.zero_add]
  ·rw [ih (by omega) (fun i hi hne => h i (by omega) hne), h n (by omega) (fun e => hkn e.symm), add_zero]
theorem sm_more {f : Nat → R} {n : Nat} (m : Nat) (h : ∀ i, n ≤ i → f i = 0) : sm (n + m) f = sm n f := by
 induction m with
 | zero => rfl
 | succ m ih => rw [← Nat.add_assoc, sm_succ, ih, h _ (by omega), add_zero]
theorem sm_more' {f : Nat → R} {n m : Nat} (hnm : n ≤ m) (h : ∀ i, n ≤ i → i < m → f i = 0) : sm m f = sm n f := by
 have h1 : sm m f = sm m (fun i => if i < n then f i else 0) := sm_congr fun i hi => by
  split
  ·rfl
  ·exact h i (by omega) hi
 have h2 : sm n f = sm n (fun i => if i < n then f i else 0) := sm_congr fun i hi => by rw [if_pos hi]
 rw [h1, h2, show m = n + (m - n) by omega]
 exact sm_more _ fun i hi => by rw [if_neg (by omega)]
theorem sm_split (f : Nat → R) (n : Nat) : ∀ m, sm (n + m) f = sm n f + sm m (fun i => f (n + i))
 | 0 => (add_zero _).symm
 | m + 1 => by rw [← Nat.add_assoc, sm_succ, sm_split f n m, sm_succ, Rg.add_assoc]
theorem sm_tri (f : Nat → Nat → R) : ∀ n, sm n (fun i => sm (i + 1) (fun j => f j (i - j))) = sm n (fun j => sm (n - j) (fun k => f j k))
 | 0 => rfl
 | n + 1 => by
  rw [sm_succ, sm_tri f n]
  have h1 : sm (n + 1) (fun j => sm (n + 1 - j) (fun k => f j k)) = sm (n + 1) (fun j => sm (n - j) (fun k => f j k) + f j (n - j)) := sm_congr fun j hj => by
   rw [show n + 1 - j = (n - j) + 1 by omega, sm_succ]
  rw [h1, sm_add, sm_succ (f := fun j => sm (n - j) (fun k => f j k)), Nat.sub_self, sm_zero, add_zero]
end Rg
def Ser (R : Type) : Type := Nat → R
namespace Ser
variable {R : Type} [Rg R]
open Rg
def mul (f g : Ser R) : Ser R := fun n => sm (n + 1) (fun i => f i * g (n - i))
instance : Add (Ser R) := ⟨fun f g n => f n + g n⟩
instance : Neg (Ser R) := ⟨fun f n => -f n⟩
instance : Zero (Ser R) := ⟨fun _ => 0⟩
instance : One (Ser R) := ⟨fun n => if n = 0 then 1 else 0⟩
instance : Mul (Ser R) := ⟨mul⟩
theorem ext {f g : Ser R} (h : ∀ n, f n = g n) : f = g := funext h
theorem add_at (f g : Ser R) (n : Nat) : (f + g) n = f n + g n := rfl
theorem neg_at (f : Ser R) (n : Nat) : (-f) n = -f n := rfl
theorem zero_at (n : Nat) : (0 : Ser R) n = 0 := rfl
theorem one_at (n : Nat) : (1 : Ser R) n = if n = 0 then 1 else 0 := rfl
theorem mul_at (f g : Ser R) (n : Nat) : (f * g) n = sm (n + 1) (fun i => f i * g (n - i)) := rfl
theorem mul_comm' (f g : Ser R) : f * g = g * f := ext fun n => by
 rw [mul_at, mul_at, sm_rev]
 refine sm_congr fun i hi => ?_
 rw [Rg.mul_comm]
 congr 2 <;> omega
theorem mul_assoc' (f g h : Ser R) : f * g * h = f * (g * h) := ext fun n => by
 simp only [mul_at]
 have h1 : sm (n + 1) (fun i => sm (i + 1) (fun j => f j * g (i - j)) * h (n - i)) = sm (n + 1) (fun i => sm (i + 1) (fun j => f j * g (i - j) * h (n - j - (i - j)))) := sm_congr fun i hi => by
  rw [← sm_mulR]
  exact sm_congr fun j hj => by rw [show n - j - (i - j) = n - i by omega]
 rw [h1, sm_tri (fun j k => f j * g k * h (n - j - k))]
 refine sm_congr fun j hj => ?_
 rw [← sm_mul, show n - j + 1 = n + 1 - j by omega]
 exact sm_congr fun k hk => Rg.mul_assoc _ _ _
theorem one_mul' (f : Ser R) : 1 * f = f := ext fun n => by
 rw [mul_at, sm_one (k := 0) (by omega) (fun i hi hne => by rw [one_at, if_neg hne, zero_mul])]
 rw [one_at, if_pos rfl, Rg.one_mul, Nat.sub_zero]
theorem add_mul' (f g h : Ser R) : (f + g) * h = f * h + g * h := ext fun n => by
 rw [add_at, mul_at, mul_at, mul_at, ← sm_add]
 exact sm_congr fun i _ => by rw [add_at, Rg.add_mul]
instance : Rg (Ser R) where
 add_assoc f g h := ext fun n => Rg.add_assoc _ _ _
 add_comm f g := ext fun n => Rg.add_comm _ _
 zero_add f := ext fun n => Rg.zero_add _
 neg_add f := ext fun n => Rg.neg_add _
 mul_assoc := mul_assoc'
 mul_comm := mul_comm'
 one_mul := one_mul'
 add_mul := add_mul'
theorem sub_at (f g : Ser R) (n : Nat) : (f - g) n = f n - g n := rfl
def Bd (f : Ser R) (n : Nat) : Prop := ∀ j, n ≤ j → f j = 0
theorem Bd.mono {f : Ser R} {n m : Nat} (h : Bd f n) (hm : n ≤ m) : Bd f m := fun j hj => h j (by omega)
theorem Bd.add {f g : Ser R} {n : Nat} (h : Bd f n) (k : Bd g n) : Bd (f + g) n := fun j hj => by rw [add_at, h j hj, k j hj, Rg.zero_add]
theorem Bd.neg {f : Ser R} {n : Nat} (h : Bd f n) : Bd (-f) n := fun j hj => by rw [neg_at, h j hj, neg_zero]
theorem Bd.mul {f g : Ser R} {n m : Nat} (h : Bd f n) (k : Bd g (m + 1)) : Bd (f * g) (n + m) := fun j hj => by
 rw [mul_at]
 refine sm_none fun i hi => ?_
 by_cases hin : n ≤ i
 ·rw [h i hin, zero_mul]
 ·rw [k (j - i) (by omega), mul_zero]
theorem Bd.zero (n : Nat) : Bd (0 : Ser R) n := fun _ _ => rfl
theorem Bd.one : Bd (1 : Ser R) 1 := fun j hj => by rw [one_at, if_neg (by omega)]
theorem top_mul {f g : Ser R} {n m : Nat} (h : Bd f (n + 1)) (k : Bd g (m + 1)) : (f * g) (n + m) = f n * g m := by
 rw [mul_at, sm_one (k := n) (by omega) (fun i hi hne => ?_)]
 ·rw [show n + m - n = m by omega]
 ·by_cases hin : n < i
  ·rw [h i (by omega), zero_mul]
  ·rw [k (n + m - i) (by omega), mul_zero]
end Ser
end Go.Proofs.YtdkahdehodopoaaGreat

namespace Go.Proofs.YtdkahdehodopoaaGreat
class Fd (K : Type) extends Rg K where
 inv : K → K
 inv_mul : ∀ a : K, a ≠ 0 → inv a * a = 1
 one_ne : (1 : K) ≠ 0
namespace Fd
variable {K : Type} [Fd K]
theorem sub_def (a b : K) : a - b = a + -b := rfl
theorem add_zero (a : K) : a + 0 = a := Rg.add_zero a
theorem add_neg (a : K) : a + -a = 0 := Rg.add_neg a
theorem mul_one (a : K) : a * 1 = a := Rg.mul_one a
theorem mul_add (a b c : K) : a * (b + c) = a * b + a * c := Rg.mul_add a b c
theorem add_left_cancel {a b c : K} (h : a + b = a + c) : b = c := Rg.add_left_cancel h
theorem zero_mul (a : K) : 0 * a = 0 := Rg.zero_mul a
theorem mul_zero (a : K) : a * 0 = 0 := Rg.mul_zero a
theorem neg_mul (a b : K) : -a * b = -(a * b) := Rg.neg_mul a b
theorem mul_neg (a b : K) : a * -b = -(a * b) := Rg.mul_neg a b
theorem neg_zero : -(0 : K) = 0 := Rg.neg_zero
theorem neg_neg (a : K) : - -a = a := Rg.neg_neg a
theorem neg_add_rev (a b : K) : -(a + b) = -a + -b := Rg.neg_add_rev a b
theorem sub_self (a : K) : a - a = 0 := Rg.sub_self a
theorem sub_mul (a b c : K) : (a - b) * c = a * c - b * c := Rg.sub_mul a b c
theorem mul_sub (a b c : K) : a * (b - c) = a * b - a * c := Rg.mul_sub a b c
theorem sub_add_cancel (a b : K) : a - b + b = a := Rg.sub_add_cancel a b
theorem add_sub_cancel (a b : K) : a + b - b = a := Rg.add_sub_cancel a b
theorem eq_of_sub {a b : K} (h : a - b = 0) : a = b := Rg.eq_of_sub h
theorem mul_inv (a : K) (h : a ≠ 0) : a * inv a = 1 := by rw [Rg.mul_comm, Fd.inv_mul a h]
theorem mul_eq_zero {a b : K} (h : a * b = 0) : a = 0 ∨ b = 0 := by
 by_cases ha : a = 0
 ·exact .inl ha
 ·right
  have h1 : inv a * (a * b) = 0 := by rw [h, mul_zero]
  rwa [← Rg.mul_assoc, Fd.inv_mul a ha, Rg.one_mul] at h1
theorem mul_ne {a b : K} (ha : a ≠ 0) (hb : b ≠ 0) : a * b ≠ 0 := fun h => (mul_eq_zero h).elim ha hb
theorem mul_left_cancel {a b c : K} (ha : a ≠ 0) (h : a * b = a * c) : b = c := by
 have h1 : inv a * (a * b) = inv a * (a * c) := by rw [h]
 rwa [← Rg.mul_assoc, ← Rg.mul_assoc, Fd.inv_mul a ha, Rg.one_mul, Rg.one_mul] at h1
theorem inv_ne {a : K} (h : a ≠ 0) : inv a ≠ 0 := fun h1 => Fd.one_ne (K := K) (by rw [← Fd.inv_mul a h, h1, zero_mul])
def pow (a : K) : Nat → K
 | 0 => 1
 | n + 1 => pow a n * a
theorem pow_add (a : K) (m : Nat) : ∀ n, pow a (m + n) = pow a m * pow a n
 | 0 => (mul_one _).symm
 | n + 1 => by rw [← Nat.add_assoc, pow, pow_add a m n, pow, Rg.mul_assoc]
theorem one_pow : ∀ n, pow (1 : K) n = 1
 | 0 => rfl
 | n + 1 => by rw [pow, one_pow n, Rg.one_mul]
theorem pow_mul (a : K) (m : Nat) : ∀ n, pow a (m * n) = pow (pow a m) n
 | 0 => rfl
 | n + 1 => by rw [Nat.mul_succ, pow_add, pow_mul a m n, pow]
theorem mul_pow (a b : K) : ∀ n, pow (a * b) n = pow a n * pow b n
 | 0 => (Rg.one_mul _).symm
 | n + 1 => by rw [pow, mul_pow a b n, pow, pow]; ac_rfl
theorem pow_ne {a : K} (h : a ≠ 0) : ∀ n, pow a n ≠ 0
 | 0 => Fd.one_ne
 | n + 1 => mul_ne (pow_ne h n) h
theorem pow_one (a : K) : pow a 1 = a := Rg.one_mul a
theorem zero_pow {n : Nat} (h : 0 < n) : pow (0 : K) n = 0 := by
 obtain ⟨k, rfl⟩ : ∃ k, n = k + 1 := ⟨n - 1, by omega⟩
 exact mul_zero _
theorem pow_eq (a : K) : ∀ n, pow a n = Rg.pow a n
 | 0 => rfl
 | n + 1 => by rw [pow, pow_eq a n]; rfl
def ev : List K → K → K
 | [], _ => 0
 | c :: cs, x => c + x * ev cs x
def dv (a : K) : List K → List K
 | [] => []
 | [_] => []
 | _ :: d :: ds => ev (d :: ds) a :: dv a (d :: ds)
theorem dv_length (a : K) : ∀ cs : List K, (dv a cs).length = cs.length - 1
 | [] => rfl
 | [_] => rfl
 | _ :: d :: ds => by simp [dv, dv_length a (d :: ds)]
theorem ev_dv (a x : K) : ∀ cs : List K, ev cs x = (x - a) * ev (dv a cs) x + ev cs a
 | [] => by simp only [ev, dv]; rw [mul_zero, Rg.zero_add]
 | [c] => by simp only [ev, dv, mul_zero, Rg.zero_add, add_zero]
 | c :: d :: ds => by
  have ih := ev_dv a x (d :: ds)
  rw [dv, ev, ih]
  show c + x * ((x - a) * ev (dv a (d :: ds)) x + ev (d :: ds) a) = (x - a) * (ev (d :: ds) a + x * ev (dv a (d :: ds)) x) + (c + a * ev (d :: ds) a)
  generalize ev (dv a (d :: ds)) x = q
  generalize ev (d :: ds) a = r
  rw [mul_add, mul_add (x - a), sub_mul x a r, sub_def (x * r) (a * r)]
  have h1 : x * ((x - a) * q) = (x - a) * (x * q) := by ac_rfl
  rw [h1]
  have h2 : x * r + -(a * r) + (x - a) * (x * q) + (c + a * r) = c + ((x - a) * (x * q) + x * r) + (-(a * r) + a * r) := by ac_rfl
  rw [h2, Rg.neg_add, add_zero]
theorem dv_last (a l : K) : ∀ cs : List K, 2 ≤ cs.length → cs.getLast? = some l → (dv a cs).getLast? = some l
 | [], h, _ => by simp at h
 | [_], h, _ => by simp at h
 | [c, d], _, h => by
  simp at h
  simp [dv, ev, h, mul_zero, add_zero]
 | c :: d :: e :: es, _, h => by
  have ih := dv_last a l (d :: e :: es) (by simp) (by simpa using h)
  rw [dv]
  have h1 : dv a (d :: e :: es) ≠ [] := fun h2 => by rw [h2] at ih; cases ih
  cases hq : dv a (d :: e :: es) with
  | nil => exact absurd hq h1
  | cons q qs => rw [hq] at ih; simpa using ih
theorem roots_le {l : K} (hl : l ≠ 0) : ∀ (n : Nat) (cs : List K), cs.length = n + 1 → cs.getLast? = some l → ∀ rs : List K, rs.Nodup → (∀ r ∈ rs, ev cs r = 0) → rs.length ≤ n
 | 0, cs, hlen, hlast, rs, hnd, hr => by
  match cs, hlen with
  | [c], _ =>
   simp at hlast
   subst hlast
   cases rs with
   | nil => simp
   | cons r rs =>
    have := hr r (by simp)
    simp only [ev, mul_zero, add_zero] at this
    exact absurd this hl
 | n + 1, cs, hlen, hlast, rs, hnd, hr => by
  cases rs with
  | nil => simp
  | cons a rs =>
   have ha := hr a (by simp)
   have hnd' := List.nodup_cons.1 hnd
   have ih := roots_le hl n (dv a cs) (by rw [dv_length, hlen]; rfl) (dv_last a l cs (by omega) hlast) rs hnd'.2 (fun r hrm => by
    have h1 := hr r (List.mem_cons_of_mem _ hrm)
    rw [ev_dv a r cs, ha, add_zero] at h1
    rcases mul_eq_zero h1 with h2 | h2
    ·have : r = a := eq_of_sub h2
     subst this
     exact absurd hrm hnd'.1
    ·exact h2)
   simp only [List.length_cons]
   omega
theorem perm_of_sub {α : Type} [DecidableEq α] : ∀ (l1 l2 : List α), l1.Nodup → (∀ a ∈ l1, a ∈ l2) → l2.length ≤ l1.length → l1.Perm l2
 | [], l2, _, _, h => by
  have : l2 = [] := List.eq_nil_of_length_eq_zero (by simpa using h)
  subst this; exact List.Perm.refl _
 | a :: t, l2, hnd, hs, h => by
  have ha := hs a (by simp)
  have h1 := List.nodup_cons.1 hnd
  have h2 := perm_of_sub t (l2.erase a) h1.2 (fun b hb => by
   have hne : b ≠ a := fun e => h1.1 (e ▸ hb)
   exact (List.mem_erase_of_ne hne).2 (hs b (List.mem_cons_of_mem _ hb))) (by
   rw [List.length_erase_of_mem ha]
   simp only [List.length_cons] at h
   omega)
  exact (h2.cons a).trans (List.perm_cons_erase ha).symm
def prod : List K → K
 | [] => 1
 | a :: l => a * prod l
theorem prod_perm {l l' : List K} (h : l.Perm l') : prod l = prod l' := by
 induction h with
 | nil => rfl
 | cons a _ ih => simp only [prod, ih]
 | swap a b l => simp only [prod]; ac_rfl
 | trans _ _ h1 h2 => rw [h1, h2]
theorem prod_map (a : K) : ∀ l : List K, prod (l.map (a * ·)) = pow a l.length * prod l
 | [] => (Rg.one_mul _).symm
 | b :: l => by
  simp only [List.map_cons, prod, prod_map a l, List.length_cons, pow]
  ac_rfl
theorem prod_ne : ∀ l : List K, (∀ a ∈ l, a ≠ 0) → prod l ≠ 0
 | [], _ => Fd.one_ne
 | a :: l, h => mul_ne (h a (by simp)) (prod_ne l (fun b hb => h b (by simp [hb])))
structure Nz (K : Type) [Fd K] (l : List K) : Prop where
 nd : l.Nodup
 mem : ∀ a : K, a ∈ l ↔ a ≠ 0
variable [DecidableEq K]
theorem Nz.pow {l : List K} (h : Nz K l) {a : K} (ha : a ≠ 0) : Fd.pow a l.length = 1 := by
 have hnd : (l.map (a * ·)).Nodup := by
  refine List.pairwise_map.2 (h.nd.imp ?_)
  intro b c hbc e
  exact hbc (mul_left_cancel ha e)
 have hp : (l.map (a * ·)).Perm l := perm_of_sub _ _ hnd (fun b hb => by
  obtain ⟨c, hc, rfl⟩ := List.mem_map.1 hb
  exact (h.mem _).2 (mul_ne ha ((h.mem c).1 hc))) (by simp)
 have h1 := prod_perm hp
 rw [prod_map] at h1
 have h2 := prod_ne l (fun b hb => (h.mem b).1 hb)
 have h3 : prod l * Fd.pow a l.length = prod l * 1 := by rw [mul_one, Rg.mul_comm, h1]
 exact mul_left_cancel h2 h3
theorem Nz.not_one {l : List K} (h : Nz K l) {k : Nat} (hk : 0 < k) (hkl : k < l.length) : ∃ a : K, a ≠ 0 ∧ Fd.pow a k ≠ 1 := by
 refine Classical.byContradiction fun hno => ?_
 have hall : ∀ a ∈ l, Fd.pow a k = 1 := fun a ha => Classical.byContradiction fun h1 => hno ⟨a, (h.mem a).1 ha, h1⟩
 -- -1 + x^k
 have hev : ∀ (j : Nat) (x : K), ev (List.replicate j 0 ++ [1]) x = Fd.pow x j := by
  intro j x
  induction j with
  | zero => simp [ev, Fd.pow, mul_zero, add_zero]
  | succ j ih =>
   rw [List.replicate_succ, List.cons_append, ev, ih, Rg.zero_add, Fd.pow, Rg.mul_comm]
 obtain ⟨j, rfl⟩ : ∃ j, k = j + 1 := ⟨k - 1, by omega⟩
 have h1 := roots_le (l := (1 : K)) Fd.one_ne (j + 1) ((-1) :: (List.replicate j 0 ++ [1])) (by simp) (by
  cases j <;> simp [List.getLast?_cons, List.getLast?_append]) l h.nd (fun r hr => by
  have h2 : r * Fd.pow r j = 1 := by rw [Rg.mul_comm]; exact hall r hr
  rw [ev, hev, h2, Rg.neg_add])
 omega
def Ord (g : K) (d : Nat) : Prop := g ≠ 0 ∧ pow g d = 1 ∧ ∀ t, pow g t = 1 → d ∣ t
theorem pow_mod {g : K} {d : Nat} (h : pow g d = 1) (t : Nat) : pow g t = pow g (t % d) := by
 have h1 : pow g t = pow g (d * (t / d) + t % d) := by rw [Nat.div_add_mod]
 rw [h1, pow_add, pow_mul, h, one_pow, Rg.one_mul]
theorem pow_gcd {g : K} (hg : g ≠ 0) : ∀ (a b : Nat), pow g a = 1 → pow g b = 1 → pow g (Nat.gcd a b) = 1 := by
 intro a
 induction a using Nat.strongRecOn with
 | _ a ih =>
  intro b ha hb
  rcases Nat.eq_zero_or_pos a with h | h
  ·subst h; simpa using hb
  ·rw [Nat.gcd_rec]
   exact ih (b % a) (Nat.mod_lt _ h) a (by rw [← pow_mod ha]; exact hb) ha
theorem strip {r : Nat} (hr : 2 ≤ r) : ∀ (d : Nat), 0 < d → ∃ e d', d = r ^ e * d' ∧ ¬ r ∣ d' := by
 intro d
 induction d using Nat.strongRecOn with
 | _ d ih =>
  intro hd
  by_cases h : r ∣ d
  ·obtain ⟨k, rfl⟩ := h
   have hk : 0 < k := Nat.pos_of_ne_zero (fun e => by subst e; simp at hd)
   obtain ⟨e, d', h1, h2⟩ := ih k (by
    have : 1 * k < r * k := Nat.mul_lt_mul_of_pos_right (by omega) hk
    omega) hk
   exact ⟨e + 1, d', by rw [h1, Nat.pow_succ]; rw [Nat.mul_comm (r ^ e) r, Nat.mul_assoc], h2⟩
  ·exact ⟨0, d, by simp, h⟩
theorem least_factor {d : Nat} (hd : 2 ≤ d) : ∃ r, 2 ≤ r ∧ r ∣ d ∧ ∀ u, 2 ≤ u → u ∣ d → r ≤ u := by
 have key : ∀ n, (∃ r, 2 ≤ r ∧ r ≤ n ∧ r ∣ d) → ∃ r, 2 ≤ r ∧ r ∣ d ∧ ∀ u, 2 ≤ u → u ∣ d → r ≤ u := by
  intro n
  induction n with
  | zero => rintro ⟨r, h1, h2, _⟩; omega
  | succ n ih =>
   rintro ⟨r, h1, h2, h3⟩
   by_cases h : ∃ r, 2 ≤ r ∧ r ≤ n ∧ r ∣ d
   ·exact ih h
   ·exact ⟨r, h1, h3, fun u hu hud => Nat.le_of_not_lt (fun hlt => h ⟨u, hu, by omega, hud⟩)⟩
 exact key d ⟨d, hd, Nat.le_refl _, Nat.dvd_refl _⟩
theorem dvd_pow_pred {r : Nat} (hr : 2 ≤ r) (hp : ∀ u, 2 ≤ u → u ∣ r → u = r) {e s : Nat} (hs : s ∣ r ^ (e + 1)) (hne : s ≠ r ^ (e + 1)) : s ∣ r ^ e := by
 obtain ⟨u, hu⟩ := hs
 have hru : r ∣ u := by
  refine Classical.byContradiction fun hno => ?_
  have hg : Nat.gcd u r = 1 := by
   have h1 : Nat.gcd u r ∣ r := Nat.gcd_dvd_right u r
   have h0 : Nat.gcd u r ≠ 0 := fun h => by
    have := Nat.eq_zero_of_gcd_eq_zero_right h
    omega
   rcases Nat.lt_or_ge (Nat.gcd u r) 2 with h2 | h2
   ·omega
   ·have h3 := hp _ h2 h1
    exact absurd (by rw [← h3]; exact Nat.gcd_dvd_left u r) hno
  have hc : Nat.Coprime u (r ^ (e + 1)) := Nat.Coprime.pow_right (e + 1) hg
  have hu1 : u = 1 := Nat.Coprime.eq_one_of_dvd hc ⟨s, by rw [hu, Nat.mul_comm]⟩
  rw [hu1, Nat.mul_one] at hu
  exact hne hu.symm
 obtain ⟨k, rfl⟩ := hru
 refine ⟨k, ?_⟩
 have h1 : r * r ^ e = r * (s * k) := by rw [← Nat.pow_succ', hu, Nat.mul_left_comm]
 exact Nat.eq_of_mul_eq_mul_left (by omega) h1
theorem Nz.ord {l : List K} (h : Nz K l) : ∀ d : Nat, 0 < d → d ∣ l.length → ∃ g : K, Ord g d := by
 intro d
 induction d using Nat.strongRecOn with
 | _ d ih =>
  intro hd hdl
  by_cases hd1 : d = 1
  ·subst hd1
   exact ⟨1, Fd.one_ne, one_pow 1, fun t _ => Nat.one_dvd t⟩
  ·obtain ⟨r, hr2, hrd, hrl⟩ := least_factor (d := d) (by omega)
   have hp : ∀ u, 2 ≤ u → u ∣ r → u = r := fun u hu hur => Nat.le_antisymm (Nat.le_of_dvd (by omega) hur) (hrl u hu (Nat.dvd_trans hur hrd))
   obtain ⟨e, d', he, hnd⟩ := strip hr2 d hd
   obtain ⟨e1, rfl⟩ : ∃ e1, e = e1 + 1 := by
    refine ⟨e - 1, ?_⟩
    rcases Nat.eq_zero_or_pos e with h0 | h0
    ·subst h0; rw [Nat.pow_zero, Nat.one_mul] at he; rw [he] at hrd; exact absurd hrd hnd
    ·omega
   have hd'0 : 0 < d' := Nat.pos_of_ne_zero (fun h0 => hnd (h0 ▸ Nat.dvd_zero r))
   have hre2 : 2 ≤ r ^ (e1 + 1) := by
    have h1 : 1 ≤ r ^ e1 := Nat.one_le_pow _ _ (by omega)
    rw [Nat.pow_succ]
    calc 2 = 1 * 2 := rfl
     _ ≤ r ^ e1 * r := Nat.mul_le_mul h1 hr2
   have hd'lt : d' < d := by
    rw [he]
    have : 1 * d' < r ^ (e1 + 1) * d' := Nat.mul_lt_mul_of_pos_right (by omega) hd'0
    omega
   obtain ⟨g', hg0, hg1, hg2⟩ := ih d' hd'lt hd'0 (Nat.dvd_trans ⟨r ^ (e1 + 1), by rw [he, Nat.mul_comm]⟩ hdl)
   obtain ⟨n1, hn1⟩ : r ^ (e1 + 1) ∣ l.length := Nat.dvd_trans ⟨d', he⟩ hdl
   have hn0 : 0 < l.length := by
    have : (1 : K) ∈ l := (h.mem 1).2 Fd.one_ne
    exact List.length_pos_of_mem this
   have hn1p : 0 < n1 := Nat.pos_of_ne_zero (fun h0 => by subst h0; omega)
   have hre1 : 0 < r ^ e1 := Nat.pow_pos (by omega)
   obtain ⟨x, hx0, hx⟩ := h.not_one (k := r ^ e1 * n1) (Nat.mul_pos hre1 hn1p) (by
    rw [hn1, Nat.pow_succ, Nat.mul_assoc]
    refine Nat.mul_lt_mul_of_pos_left ?_ hre1
    have : 1 * n1 < r * n1 := Nat.mul_lt_mul_of_pos_right (by omega) hn1p
    omega)
   -- y has order r^(e1+1)
   have hy0 : Fd.pow x n1 ≠ 0 := pow_ne hx0 n1
   have hy1 : Fd.pow (Fd.pow x n1) (r ^ (e1 + 1)) = 1 := by rw [← pow_mul, Nat.mul_comm, ← hn1]; exact h.pow hx0
   have hy2 : ∀ t, Fd.pow (Fd.pow x n1) t = 1 → r ^ (e1 + 1) ∣ t := fun t ht => by
    have h1 := pow_gcd hy0 t (r ^ (e1 + 1)) ht hy1
    by_cases h2 : Nat.gcd t (r ^ (e1 + 1)) = r ^ (e1 + 1)
    ·rw [← h2]; exact Nat.gcd_dvd_left _ _
    ·exfalso
     obtain ⟨k, hk⟩ := dvd_pow_pred hr2 hp (Nat.gcd_dvd_right t (r ^ (e1 + 1))) h2
     apply hx
     rw [Nat.mul_comm, pow_mul, hk, pow_mul, h1, one_pow]
   have hcop : Nat.Coprime d' (r ^ (e1 + 1)) := by
    refine Nat.Coprime.pow_right _ ?_
    have h1 : Nat.gcd d' r ∣ r := Nat.gcd_dvd_right d' r
    have h0 : Nat.gcd d' r ≠ 0 := fun h => by
     have := Nat.eq_zero_of_gcd_eq_zero_right h
     omega
    show Nat.gcd d' r = 1
    rcases Nat.lt_or_ge (Nat.gcd d' r) 2 with h2 | h2
    ·omega
    ·have h3 := hp _ h2 h1
     exact absurd (by rw [← h3]; exact Nat.gcd_dvd_left d' r) hnd
   refine ⟨g' * Fd.pow x n1, mul_ne hg0 hy0, ?_, fun t ht => ?_⟩
   ·rw [mul_pow, he]
    have h1 : Fd.pow g' (r ^ (e1 + 1) * d') = 1 := by rw [Nat.mul_comm, pow_mul, hg1, one_pow]
    have h2 : Fd.pow (Fd.pow x n1) (r ^ (e1 + 1) * d') = 1 := by rw [pow_mul, hy1, one_pow]
    rw [h1, h2, Rg.one_mul]
   ·rw [mul_pow] at ht
    have h1 : d' ∣ t := by
     have h2 : Fd.pow g' (t * r ^ (e1 + 1)) = 1 := by
      have h3 : Fd.pow (Fd.pow g' t * Fd.pow (Fd.pow x n1) t) (r ^ (e1 + 1)) = 1 := by rw [ht, one_pow]
      rw [mul_pow, ← pow_mul, ← pow_mul, Nat.mul_comm t, pow_mul (Fd.pow x n1), hy1, one_pow, mul_one] at h3
      rw [Nat.mul_comm]; exact h3
     exact hcop.dvd_of_dvd_mul_right (hg2 _ h2)
    have h2 : r ^ (e1 + 1) ∣ t := by
     obtain ⟨k, rfl⟩ := h1
     rw [pow_mul g', hg1, one_pow, Rg.one_mul] at ht
     exact hy2 _ ht
    rw [he]
    exact hcop.symm.mul_dvd_of_dvd_of_dvd h2 h1
theorem Nz.gen {l : List K} (h : Nz K l) : ∃ g : K, Ord g l.length := h.ord _ (by
 have : (1 : K) ∈ l := (h.mem 1).2 Fd.one_ne
 exact List.length_pos_of_mem this) (Nat.dvd_refl _)
end Fd
end Go.Proofs.YtdkahdehodopoaaGreat

namespace Go.Proofs.YtdkahdehodopoaaGreat
open Rg Ser
def Po (K : Type) [Fd K] : Type := { f : Ser K // ∃ n, Bd f n }
theorem nat_least {P : Nat → Prop} (h : ∃ n, P n) : ∃ n, P n ∧ ∀ k, k < n → ¬ P k := by
 obtain ⟨n, hn⟩ := h
 induction n using Nat.strongRecOn with
 | _ n ih =>
  by_cases h1 : ∃ k, k < n ∧ P k
  ·obtain ⟨k, h2, h3⟩ := h1
   exact ih k h2 h3
  ·exact ⟨n, hn, fun k hk hp => h1 ⟨k, hk, hp⟩⟩
namespace Po
variable {K : Type} [Fd K]
def cf (f : Po K) (n : Nat) : K := f.1 n
theorem ext {f g : Po K} (h : ∀ n, cf f n = cf g n) : f = g := Subtype.ext (funext h)
theorem bd_mul' {f g : Ser K} {n m : Nat} (h : Bd f n) (k : Bd g m) : Bd (f * g) (n + m) := h.mul (k.mono (by omega))
instance : Add (Po K) := ⟨fun f g => ⟨f.1 + g.1, by
 obtain ⟨n, hn⟩ := f.2
 obtain ⟨m, hm⟩ := g.2
 exact ⟨n + m, (hn.mono (by omega)).add (hm.mono (by omega))⟩⟩⟩
instance : Neg (Po K) := ⟨fun f => ⟨-f.1, by
 obtain ⟨n, hn⟩ := f.2
 exact ⟨n, hn.neg⟩⟩⟩
instance : Zero (Po K) := ⟨⟨0, 0, Bd.zero 0⟩⟩
instance : One (Po K) := ⟨⟨1, 1, Bd.one⟩⟩
instance : Mul (Po K) := ⟨fun f g => ⟨f.1 * g.1, by
 obtain ⟨n, hn⟩ := f.2
 obtain ⟨m, hm⟩ := g.2
 exact ⟨n + m, bd_mul' hn hm⟩⟩⟩
instance : Rg (Po K) where
 add_assoc f g h := Subtype.ext (Rg.add_assoc _ _ _)
 add_comm f g := Subtype.ext (Rg.add_comm _ _)
 zero_add f := Subtype.ext (Rg.zero_add _)
 neg_add f := Subtype.ext (Rg.neg_add _)
 mul_assoc f g h := Subtype.ext (Rg.mul_assoc _ _ _)
 mul_comm f g := Subtype.ext (Rg.mul_comm _ _)
 one_mul f := Subtype.ext (Rg.one_mul _)
 add_mul f g h := Subtype.ext (Rg.add_mul _ _ _)
theorem cf_add (f g : Po K) (n : Nat) : cf (f + g) n = cf f n + cf g n := rfl
theorem cf_neg (f : Po K) (n : Nat) : cf (-f) n = -cf f n := rfl
theorem cf_sub (f g : Po K) (n : Nat) : cf (f - g) n = cf f n - cf g n := rfl
theorem cf_zero (n : Nat) : cf (0 : Po K) n = 0 := rfl
theorem cf_one (n : Nat) : cf (1 : Po K) n = if n = 0 then 1 else 0 := rfl
theorem cf_mul (f g : Po K) (n : Nat) : cf (f * g) n = sm (n + 1) (fun i => cf f i * cf g (n - i)) := rfl
def Sh (f : Po K) (n : Nat) : Prop := ∀ j, n ≤ j → cf f j = 0
theorem Sh.mono {f : Po K} {n m : Nat} (h : Sh f n) (hm : n ≤ m) : Sh f m := fun j hj => h j (by omega)
theorem Sh.add {f g : Po K} {n : Nat} (h : Sh f n) (k : Sh g n) : Sh (f + g) n := Bd.add h k
theorem Sh.neg {f : Po K} {n : Nat} (h : Sh f n) : Sh (-f) n := Bd.neg h
theorem Sh.sub {f g : Po K} {n : Nat} (h : Sh f n) (k : Sh g n) : Sh (f - g) n := h.add k.neg
theorem Sh.mul {f g : Po K} {n m : Nat} (h : Sh f n) (k : Sh g (m + 1)) : Sh (f * g) (n + m) := Bd.mul h k
theorem top_mul {f g : Po K} {n m : Nat} (h : Sh f (n + 1)) (k : Sh g (m + 1)) : cf (f * g) (n + m) = cf f n * cf g m := Ser.top_mul h k
noncomputable def len (f : Po K) : Nat := Classical.choose (nat_least f.2)
theorem len_sh (f : Po K) : Sh f (len f) := (Classical.choose_spec (nat_least f.2)).1
theorem len_min (f : Po K) {k : Nat} (h : k < len f) : ¬ Sh f k := (Classical.choose_spec (nat_least f.2)).2 k h
theorem len_le {f : Po K} {n : Nat} (h : Sh f n) : len f ≤ n := Nat.le_of_not_lt fun h' => len_min f h' h
theorem cf_ge {f : Po K} {j : Nat} (h : len f ≤ j) : cf f j = 0 := len_sh f j h
theorem lead_ne {f : Po K} {n : Nat} (h : len f = n + 1) : cf f n ≠ 0 := fun h0 => len_min f (k := n) (by omega) fun j hj => by
 by_cases hjn : j = n
 ·rw [hjn]; exact h0
 ·exact cf_ge (by omega)
theorem len_eq {f : Po K} {n : Nat} (h : Sh f (n + 1)) (h0 : cf f n ≠ 0) : len f = n + 1 := by
 have h1 := len_le h
 rcases Nat.lt_or_ge n (len f) with h2 | h2
 ·omega
 ·exact absurd (cf_ge h2) h0
theorem len_zero : len (0 : Po K) = 0 := Nat.le_zero.1 (len_le fun _ _ => rfl)
theorem eq_zero_of_len {f : Po K} (h : len f = 0) : f = 0 := ext fun n => cf_ge (by omega)
theorem len_pos {f : Po K} (h : f ≠ 0) : 0 < len f := Nat.pos_of_ne_zero fun h0 => h (eq_zero_of_len h0)
theorem len_pos_iff {f : Po K} : 0 < len f ↔ f ≠ 0 := ⟨fun h h0 => by rw [h0, len_zero] at h; omega, len_pos⟩
theorem len_one : len (1 : Po K) = 1 := len_eq (n := 0) (fun j hj => by rw [cf_one, if_neg (by omega)]) (by rw [cf_one, if_pos rfl]; exact Fd.one_ne)
theorem one_ne : (1 : Po K) ≠ 0 := len_pos_iff.1 (by rw [len_one]; omega)
theorem len_add (f g : Po K) : len (f + g) ≤ max (len f) (len g) := len_le (((len_sh f).mono (Nat.le_max_left ..)).add ((len_sh g).mono (Nat.le_max_right ..)))
theorem len_neg (f : Po K) : len (-f) = len f := by
 have h1 : ∀ f : Po K, len (-f) ≤ len f := fun f => len_le (len_sh f).neg
 have h2 := h1 f
 have h3 := h1 (-f)
 rw [Rg.neg_neg] at h3
 omega
theorem len_sub (f g : Po K) : len (f - g) ≤ max (len f) (len g) := by
 have := len_add f (-g)
 rw [len_neg] at this
 exact this
noncomputable def lead (f : Po K) : K := cf f (len f - 1)
theorem lead_nz {f : Po K} (h : f ≠ 0) : lead f ≠ 0 := lead_ne (by have := len_pos h; omega)
theorem len_mul {f g : Po K} (hf : f ≠ 0) (hg : g ≠ 0) : len (f * g) = len f + len g - 1 := by
 obtain ⟨n, hn⟩ : ∃ n, len f = n + 1 := ⟨len f - 1, by have := len_pos hf; omega⟩
 obtain ⟨m, hm⟩ : ∃ m, len g = m + 1 := ⟨len g - 1, by have := len_pos hg; omega⟩
 have h1 := hn ▸ len_sh f
 have h2 := hm ▸ len_sh g
 rw [hn, hm, show n + 1 + (m + 1) - 1 = (n + m) + 1 by omega]
 refine len_eq ?_ ?_
 ·rw [show n + m + 1 = (n + 1) + m by omega]; exact h1.mul h2
 ·rw [top_mul h1 h2]
  exact Fd.mul_ne (lead_ne hn) (lead_ne hm)
theorem mul_ne {f g : Po K} (hf : f ≠ 0) (hg : g ≠ 0) : f * g ≠ 0 := len_pos_iff.1 (by rw [len_mul hf hg]; have := len_pos hf; have := len_pos hg; omega)
theorem mul_eq_zero {f g : Po K} (h : f * g = 0) : f = 0 ∨ g = 0 := by
 by_cases hf : f = 0
 ·exact .inl hf
 ·exact .inr (Classical.byContradiction fun hg => mul_ne hf hg h)
theorem mul_cancel {f g h : Po K} (hf : f ≠ 0) (e : f * g = f * h) : g = h := by
 have h1 : f * (g - h) = 0 := by rw [mul_sub, e, sub_self]
 exact eq_of_sub ((mul_eq_zero h1).resolve_left hf)
theorem lead_mul {f g : Po K} (hf : f ≠ 0) (hg : g ≠ 0) : lead (f * g) = lead f * lead g := by
 obtain ⟨n, hn⟩ : ∃ n, len f = n + 1 := ⟨len f - 1, by have := len_pos hf; omega⟩
 obtain ⟨m, hm⟩ : ∃ m, len g = m + 1 := ⟨len g - 1, by have := len_pos hg; omega⟩
 have h1 := hn ▸ len_sh f
 have h2 := hm ▸ len_sh g
 unfold lead
 rw [len_mul hf hg, hn, hm, show n + 1 + (m + 1) - 1 - 1 = n + m by omega]
 exact top_mul h1 h2
def mn (c : K) (n : Nat) : Po K := ⟨fun j => if j = n then c else 0, n + 1, fun j hj => if_neg (by omega)⟩
theorem cf_mn (c : K) (n j : Nat) : cf (mn c n) j = if j = n then c else 0 := rfl
abbrev C (c : K) : Po K := mn c 0
abbrev X : Po K := mn 1 1
theorem cf_mn_mul (c : K) (n : Nat) (f : Po K) (j : Nat) : cf (mn c n * f) j = if j < n then 0 else c * cf f (j - n) := by
 rw [cf_mul]
 by_cases h : j < n
 ·rw [if_pos h]
  exact sm_none fun i hi => by rw [cf_mn, if_neg (by omega), zero_mul]
 ·rw [if_neg h, sm_one (k := n) (by omega) (fun i hi hne => by rw [cf_mn, if_neg hne, zero_mul])]
  rw [cf_mn, if_pos rfl]
theorem cf_C_mul (c : K) (f : Po K) (j : Nat) : cf (C c * f) j = c * cf f j := by rw [cf_mn_mul, if_neg (by omega)]; rfl
theorem mn_mul (c d : K) (n m : Nat) : mn c n * mn d m = mn (c * d) (n + m) := ext fun j => by
 rw [cf_mn_mul, cf_mn, cf_mn]
 by_cases h : j < n
 ·rw [if_pos h, if_neg (by omega)]
 ·rw [if_neg h]
  by_cases h2 : j - n = m
  ·rw [if_pos h2, if_pos (by omega)]
  ·rw [if_neg h2, if_neg (by omega), mul_zero]
theorem C_mul (c d : K) : C c * C d = C (c * d) := mn_mul c d 0 0
theorem mn_add (c d : K) (n : Nat) : mn c n + mn d n = mn (c + d) n := ext fun j => by
 rw [cf_add, cf_mn, cf_mn, cf_mn]
 split
 ·rfl
 ·exact Rg.zero_add _
theorem mn_neg (c : K) (n : Nat) : -mn c n = mn (-c) n := ext fun j => by
 rw [cf_neg, cf_mn, cf_mn]
 split
 ·rfl
 ·exact neg_zero
theorem C_one : C (1 : K) = 1 := ext fun j => rfl
theorem mn_zero (n : Nat) : mn (0 : K) n = 0 := ext fun j => by rw [cf_mn]; split <;> rfl
theorem C_zero : C (0 : K) = 0 := mn_zero 0
theorem mn_sh (c : K) (n : Nat) : Sh (mn c n) (n + 1) := fun j hj => by rw [cf_mn, if_neg (by omega)]
theorem len_mn {c : K} (hc : c ≠ 0) (n : Nat) : len (mn c n) = n + 1 := len_eq (mn_sh c n) (by rw [cf_mn, if_pos rfl]; exact hc)
theorem lead_mn {c : K} (hc : c ≠ 0) (n : Nat) : lead (mn c n) = c := by
 unfold lead
 rw [len_mn hc, Nat.add_sub_cancel, cf_mn, if_pos rfl]
theorem lead_C {c : K} (hc : c ≠ 0) : lead (C c) = c := lead_mn hc 0
theorem mn_ne {c : K} (hc : c ≠ 0) (n : Nat) : mn c n ≠ 0 := len_pos_iff.1 (by rw [len_mn hc]; omega)
theorem C_ne {c : K} (hc : c ≠ 0) : C c ≠ 0 := mn_ne hc 0
theorem len_C_mul {c : K} (hc : c ≠ 0) (f : Po K) : len (C c * f) = len f := by
 by_cases hf : f = 0
 ·rw [hf, mul_zero]
 ·rw [len_mul (C_ne hc) hf, len_mn hc]; omega
theorem len_le_one {f : Po K} (h : len f ≤ 1) : f = C (cf f 0) := ext fun j => by
 rw [cf_mn]
 split
 ·rename_i h0; rw [h0]
 ·exact cf_ge (by omega)
def Dvd' (f g : Po K) : Prop := ∃ h, g = f * h
instance : Dvd (Po K) := ⟨Dvd'⟩
theorem dvd_refl (f : Po K) : f ∣ f := ⟨1, (Rg.mul_one f).symm⟩
theorem dvd_trans {f g h : Po K} (a : f ∣ g) (b : g ∣ h) : f ∣ h := by
 obtain ⟨u, rfl⟩ := a
 obtain ⟨v, rfl⟩ := b
 exact ⟨u * v, Rg.mul_assoc _ _ _⟩
theorem dvd_mul (f g : Po K) : f ∣ f * g := ⟨g, rfl⟩
theorem dvd_mulL (f g : Po K) : f ∣ g * f := ⟨g, Rg.mul_comm _ _⟩
theorem dvd_mul_of {f g : Po K} (h : f ∣ g) (k : Po K) : f ∣ g * k := dvd_trans h (dvd_mul g k)
theorem dvd_mul_ofL {f g : Po K} (h : f ∣ g) (k : Po K) : f ∣ k * g := dvd_trans h (dvd_mulL g k)
theorem dvd_add {f g h : Po K} (a : f ∣ g) (b : f ∣ h) : f ∣ g + h := by
 obtain ⟨u, rfl⟩ := a
 obtain ⟨v, rfl⟩ := b
 exact ⟨u + v, (mul_add _ _ _).symm⟩
theorem dvd_neg {f g : Po K} (a : f ∣ g) : f ∣ -g := by
 obtain ⟨u, rfl⟩ := a
 exact ⟨-u, (mul_neg _ _).symm⟩
theorem dvd_sub {f g h : Po K} (a : f ∣ g) (b : f ∣ h) : f ∣ g - h := dvd_add a (dvd_neg b)
theorem dvd_zero (f : Po K) : f ∣ 0 := ⟨0, (mul_zero f).symm⟩
theorem zero_dvd {f : Po K} (h : (0 : Po K) ∣ f) : f = 0 := by
 obtain ⟨u, rfl⟩ := h
 exact zero_mul u
theorem one_dvd (f : Po K) : 1 ∣ f := ⟨f, (Rg.one_mul f).symm⟩
theorem dvd_len {f g : Po K} (h : f ∣ g) (hg : g ≠ 0) : len f ≤ len g := by
 obtain ⟨u, rfl⟩ := h
 have hf : f ≠ 0 := fun e => hg (by rw [e, zero_mul])
 have hu : u ≠ 0 := fun e => hg (by rw [e, mul_zero])
 rw [len_mul hf hu]
 have := len_pos hu
 omega
theorem dvd_of_sub {f g h : Po K} (a : f ∣ g) (b : f ∣ g - h) : f ∣ h := by
 have h1 : h = g - (g - h) := by rw [sub_def, neg_sub, ← Rg.add_comm, sub_add_cancel]
 rw [h1]
 exact dvd_sub a b
theorem C_dvd {c : K} (hc : c ≠ 0) (f : Po K) : C c ∣ f := ⟨C (Fd.inv c) * f, by rw [← Rg.mul_assoc, C_mul, Fd.mul_inv c hc, C_one, Rg.one_mul]⟩
theorem div_step {f g : Po K} (hg : g ≠ 0) {n : Nat} (hn : Sh f (len g + n)) : Sh (f - mn (cf f (len g + n - 1) * Fd.inv (lead g)) n * g) (len g + n - 1) := fun j hj => by
 have hp := len_pos hg
 rw [cf_sub, cf_mn_mul, if_neg (by omega)]
 by_cases hjn : j = len g + n - 1
 ·subst hjn
  have h1 : cf g (len g + n - 1 - n) = lead g := by unfold lead; congr 1; omega
  rw [h1, Rg.mul_assoc, Fd.inv_mul _ (lead_nz hg), Rg.mul_one, sub_self]
 ·rw [hn j (by omega), cf_ge (f := g) (by omega), mul_zero, sub_self]
theorem div_ex {g : Po K} (hg : g ≠ 0) : ∀ (n : Nat) (f : Po K), Sh f (len g + n) → ∃ q r : Po K, f = q * g + r ∧ len r < len g
 | 0, f, hf => by
  have hp := len_pos hg
  have hs := div_step hg hf
  rw [Nat.add_zero] at hs
  refine ⟨mn (cf f (len g - 1) * Fd.inv (lead g)) 0, f - mn (cf f (len g - 1) * Fd.inv (lead g)) 0 * g, by rw [Rg.add_comm, sub_add_cancel], ?_⟩
  have := len_le hs
  omega
 | n + 1, f, hf => by
  have hp := len_pos hg
  have hs := div_step hg hf
  rw [show len g + (n + 1) - 1 = len g + n by omega] at hs
  obtain ⟨q, r, h1, h2⟩ := div_ex hg n _ hs
  refine ⟨mn (cf f (len g + n) * Fd.inv (lead g)) (n + 1) + q, r, ?_, h2⟩
  rw [Rg.add_mul, Rg.add_assoc, ← h1, Rg.add_comm, sub_add_cancel]
theorem div_uniq {g q q' r r' : Po K} (h : q * g + r = q' * g + r') (hr : len r < len g) (hr' : len r' < len g) : q = q' ∧ r = r' := by
 have hg : g ≠ 0 := len_pos_iff.1 (by omega)
 have h1 : (q - q') * g = r' - r := by
  rw [sub_mul]
  refine (eq_sub_of_add ?_)
  rw [sub_add_eq, h]
  rw [Rg.add_comm, add_sub_cancel]
 have h2 : q - q' = 0 := Classical.byContradiction fun hne => by
  have h3 := len_mul hne hg
  rw [h1] at h3
  have h4 := len_sub r' r
  have := len_pos hne
  omega
 have h3 := eq_of_sub h2
 subst h3
 exact ⟨rfl, add_left_cancel h⟩
theorem divm (f g : Po K) (hg : g ≠ 0) : ∃ q r : Po K, f = q * g + r ∧ len r < len g := div_ex hg (len f) f ((len_sh f).mono (by omega))
open Classical in
noncomputable def quo (f g : Po K) : Po K := if h : g ≠ 0 then Classical.choose (divm f g h) else 0
open Classical in
noncomputable def rem (f g : Po K) : Po K := if h : g ≠ 0 then Classical.choose (Classical.choose_spec (divm f g h)) else f
theorem div_eq (f : Po K) {g : Po K} (hg : g ≠ 0) : f = quo f g * g + rem f g := by
 unfold quo rem
 rw [dif_pos hg, dif_pos hg]
 exact (Classical.choose_spec (Classical.choose_spec (divm f g hg))).1
theorem rem_len (f : Po K) {g : Po K} (hg : g ≠ 0) : len (rem f g) < len g := by
 unfold rem
 rw [dif_pos hg]
 exact (Classical.choose_spec (Classical.choose_spec (divm f g hg))).2
theorem div_of {f g q r : Po K} (h : f = q * g + r) (hr : len r < len g) : quo f g = q ∧ rem f g = r := by
 have hg : g ≠ 0 := len_pos_iff.1 (by omega)
 exact div_uniq ((div_eq f hg).symm.trans h) (rem_len f hg) hr
theorem rem_zero_iff {f g : Po K} (hg : g ≠ 0) : rem f g = 0 ↔ g ∣ f := by
 constructor
 ·intro h
  refine ⟨quo f g, ?_⟩
  have := div_eq f hg
  rw [h, add_zero, Rg.mul_comm] at this
  exact this
 ·rintro ⟨u, rfl⟩
  exact (div_of (q := u) (r := 0) (by rw [add_zero, Rg.mul_comm]) (by rw [len_zero]; exact len_pos hg)).2
theorem quo_of {f g q : Po K} (hg : g ≠ 0) (h : f = q * g) : quo f g = q := (div_of (r := 0) (by rw [add_zero]; exact h) (by rw [len_zero]; exact len_pos hg)).1
theorem quo_mul {f g : Po K} (hg : g ≠ 0) (h : g ∣ f) : quo f g * g = f := by
 obtain ⟨u, rfl⟩ := h
 rw [quo_of hg (Rg.mul_comm g u), Rg.mul_comm]
theorem rem_small {f g : Po K} (h : len f < len g) : rem f g = f := (div_of (q := 0) (r := f) (by rw [zero_mul, Rg.zero_add]) h).2
theorem rem_sub_dvd (f : Po K) {g : Po K} (hg : g ≠ 0) : g ∣ f - rem f g := by
 have h := div_eq f hg
 refine ⟨quo f g, ?_⟩
 rw [Rg.mul_comm]
 exact (eq_sub_of_add h.symm).symm
theorem rem_eq_iff {f f' g : Po K} (hg : g ≠ 0) : rem f g = rem f' g ↔ g ∣ f - f' := by
 constructor
 ·intro h
  have h1 := dvd_sub (rem_sub_dvd f hg) (rem_sub_dvd f' hg)
  rw [h] at h1
  have h2 : f - rem f' g - (f' - rem f' g) = f - f' := by
   simp only [sub_def, neg_add_rev, Rg.neg_neg]
   have : f + -rem f' g + (-f' + rem f' g) = f + -f' + (-rem f' g + rem f' g) := by ac_rfl
   rw [this, Rg.neg_add, add_zero]
  rwa [h2] at h1
 ·rintro ⟨u, hu⟩
  have h1 := div_eq f' hg
  refine (div_of (q := u + quo f' g) (r := rem f' g) ?_ (rem_len f' hg)).2
  rw [Rg.add_mul, Rg.add_assoc, ← h1, Rg.mul_comm, ← hu, sub_add_cancel]
noncomputable def mon (f : Po K) : Po K := C (Fd.inv (lead f)) * f
theorem mon_zero : mon (0 : Po K) = 0 := mul_zero _
theorem mon_len (f : Po K) : len (mon f) = len f := by
 by_cases hf : f = 0
 ·rw [hf, mon_zero]
 ·exact len_C_mul (Fd.inv_ne (lead_nz hf)) f
theorem mon_ne {f : Po K} (hf : f ≠ 0) : mon f ≠ 0 := len_pos_iff.1 (by rw [mon_len]; exact len_pos hf)
theorem mon_lead {f : Po K} (hf : f ≠ 0) : lead (mon f) = 1 := by
 have h1 := C_ne (Fd.inv_ne (lead_nz hf))
 unfold mon
 rw [lead_mul h1 hf]
 rw [lead_C (Fd.inv_ne (lead_nz hf)), Fd.inv_mul _ (lead_nz hf)]
theorem dvd_mon (f : Po K) : f ∣ mon f := dvd_mulL f _
theorem mon_dvd (f : Po K) : mon f ∣ f := by
 by_cases hf : f = 0
 ·rw [hf]; exact dvd_zero _
 ·refine ⟨C (lead f), ?_⟩
  unfold mon
  have : C (Fd.inv (lead f)) * f * C (lead f) = (C (Fd.inv (lead f)) * C (lead f)) * f := by ac_rfl
  rw [this, C_mul, Fd.inv_mul _ (lead_nz hf), C_one, Rg.one_mul]
theorem monic_eq {f g : Po K} (h1 : f ∣ g) (h2 : g ∣ f) (hf : lead f = 1) (hg : lead g = 1) : f = g := by
 by_cases hf0 : f = 0
 ·rw [hf0] at h1 ⊢; exact (zero_dvd h1).symm
 ·have hg0 : g ≠ 0 := fun e => hf0 (by rw [e] at h2; exact zero_dvd h2)
  obtain ⟨u, hu⟩ := h1
  have hu0 : u ≠ 0 := fun e => hg0 (by rw [hu, e, mul_zero])
  have h3 := dvd_len h2 hf0
  have h4 := len_mul hf0 hu0
  rw [← hu] at h4
  have h5 := len_pos hf0
  have h6 := len_pos hu0
  have h7 := len_le_one (f := u) (by omega)
  have h8 := lead_mul hf0 hu0
  rw [← hu, hf, hg, Rg.one_mul] at h8
  have h9 : lead u = cf u 0 := by unfold lead; congr 1; omega
  rw [h9] at h8
  rw [h7, ← h8, C_one, Rg.mul_one] at hu
  exact hu.symm
theorem mon_of_monic {f : Po K} (h : lead f = 1) : mon f = f := by
 have h1 : Fd.inv (1 : K) = 1 := by
  have := Fd.inv_mul (1 : K) Fd.one_ne
  rwa [Rg.mul_one] at this
 unfold mon
 rw [h, h1, C_one, Rg.one_mul]
open Classical in
noncomputable def gcdN : Nat → Po K → Po K → Po K
 | 0, f, _ => mon f
 | n + 1, f, g => if g = 0 then mon f else gcdN n g (rem f g)
noncomputable def gcd (f g : Po K) : Po K := gcdN (len g) f g
open Classical in
theorem gcdN_succ (n : Nat) (f g : Po K) : gcdN (n + 1) f g = if g = 0 then mon f else gcdN n g (rem f g) := rfl
theorem gcdN_0 (f g : Po K) : gcdN 0 f g = mon f := rfl
theorem gcdN_more : ∀ (n : Nat) (f g : Po K), len g ≤ n → gcdN (n + 1) f g = gcdN n f g
 | 0, f, g, h => by
  have := eq_zero_of_len (Nat.le_zero.1 h)
  rw [gcdN_succ, if_pos this, gcdN_0]
 | n + 1, f, g, h => by
  rw [gcdN_succ (n + 1) f g, gcdN_succ n f g]
  split
  ·rfl
  ·rename_i hg
   exact gcdN_more n g (rem f g) (by have := rem_len f hg; omega)
theorem gcdN_eq : ∀ (m n : Nat) (f g : Po K), len g ≤ n → gcdN (n + m) f g = gcdN n f g
 | 0, _, _, _, _ => rfl
 | m + 1, n, f, g, h => by rw [← Nat.add_assoc, gcdN_more _ f g (by omega), gcdN_eq m n f g h]
theorem gcd_zero (f : Po K) : gcd f 0 = mon f := by unfold gcd; rw [len_zero]; rfl
theorem gcd_step (f : Po K) {g : Po K} (hg : g ≠ 0) : gcd f g = gcd g (rem f g) := by
 unfold gcd
 obtain ⟨n, hn⟩ : ∃ n, len g = n + 1 := ⟨len g - 1, by have := len_pos hg; omega⟩
 have hr := rem_len f hg
 rw [hn, gcdN_succ, if_neg hg]
 obtain ⟨m, hm⟩ : ∃ m, n = len (rem f g) + m := ⟨n - len (rem f g), by omega⟩
 rw [hm]
 exact gcdN_eq m _ _ _ (Nat.le_refl _)
structure IsG (f g d : Po K) : Prop where
 left : d ∣ f
 right : d ∣ g
 bez : ∃ u v : Po K, u * f + v * g = d
 mon : d = 0 ∨ lead d = 1
theorem IsG.great {f g d c : Po K} (h : IsG f g d) (h1 : c ∣ f) (h2 : c ∣ g) : c ∣ d := by
 obtain ⟨u, v, rfl⟩ := h.bez
 exact dvd_add (dvd_mul_ofL h1 u) (dvd_mul_ofL h2 v)
theorem gcdN_is : ∀ (n : Nat) (f g : Po K), len g ≤ n → IsG f g (gcdN n f g)
 | 0, f, g, h => by
  have hg := eq_zero_of_len (Nat.le_zero.1 h)
  subst hg
  rw [gcdN_0]
  refine ⟨mon_dvd f, dvd_zero _, ⟨C (Fd.inv (lead f)), 0, by rw [mul_zero, add_zero]; rfl⟩, ?_⟩
  by_cases hf : f = 0
  ·exact .inl (by rw [hf, mon_zero])
  ·exact .inr (mon_lead hf)
 | n + 1, f, g, h => by
  rw [gcdN_succ]
  split
  ·rename_i hg
   subst hg
   refine ⟨mon_dvd f, dvd_zero _, ⟨C (Fd.inv (lead f)), 0, by rw [mul_zero, add_zero]; rfl⟩, ?_⟩
   by_cases hf : f = 0
   ·exact .inl (by rw [hf, mon_zero])
   ·exact .inr (mon_lead hf)
  ·rename_i hg
   obtain ⟨a, b, ⟨u, v, c⟩, d⟩ := gcdN_is n g (rem f g) (by have := rem_len f hg; omega)
   have he := div_eq f hg
   refine ⟨?_, a, ⟨v, u - v * quo f g, ?_⟩, d⟩
   ·have h0 : gcdN n g (rem f g) ∣ quo f g * g + rem f g := dvd_add (dvd_mul_ofL a _) b
    rwa [← he] at h0
   ·rw [← c]
    have h1 : rem f g = f - quo f g * g := by rw [Rg.add_comm] at he; exact eq_sub_of_add he.symm
    have h2 : v * (quo f g * g) = v * quo f g * g := (Rg.mul_assoc _ _ _).symm
    rw [h1, mul_sub, sub_mul, h2]
    generalize v * quo f g * g = a
    generalize v * f = b
    generalize u * g = c
    simp only [sub_def]
    ac_rfl
theorem gcd_is (f g : Po K) : IsG f g (gcd f g) := gcdN_is _ _ _ (Nat.le_refl _)
theorem gcd_ne {f g : Po K} (h : f ≠ 0 ∨ g ≠ 0) : gcd f g ≠ 0 := fun e => by
 have h1 := (gcd_is f g).left
 have h2 := (gcd_is f g).right
 rw [e] at h1 h2
 rcases h with h | h
 ·exact h (zero_dvd h1)
 ·exact h (zero_dvd h2)
theorem gcd_monic {f g : Po K} (h : f ≠ 0 ∨ g ≠ 0) : lead (gcd f g) = 1 := (gcd_is f g).mon.resolve_left (gcd_ne h)
theorem IsG.comm {f g d : Po K} (h : IsG f g d) : IsG g f d := ⟨h.right, h.left, by obtain ⟨u, v, e⟩ := h.bez; exact ⟨v, u, by rw [Rg.add_comm]; exact e⟩, h.mon⟩
noncomputable def val (f : Po K) (x : K) : K := sm (len f) (fun i => cf f i * Rg.pow x i)
theorem val_eq {f : Po K} {n : Nat} (h : Sh f n) (x : K) : val f x = sm n (fun i => cf f i * Rg.pow x i) :=
 (sm_more' (len_le h) fun i hi _ => by rw [cf_ge hi, zero_mul]).symm
theorem val_add (f g : Po K) (x : K) : val (f + g) x = val f x + val g x := by
 have h1 := (len_sh f).mono (Nat.le_max_left (len f) (len g))
 have h2 := (len_sh g).mono (Nat.le_max_right (len f) (len g))
 rw [val_eq h1, val_eq h2, val_eq (h1.add h2), ← sm_add]
 exact sm_congr fun i _ => by rw [cf_add, Rg.add_mul]
theorem val_mn (c : K) (n : Nat) (x : K) : val (mn c n) x = c * Rg.pow x n := by
 rw [val_eq (mn_sh c n), sm_one (k := n) (by omega) (fun i hi hne => by rw [cf_mn, if_neg hne, zero_mul]), cf_mn, if_pos rfl]
theorem val_C (c x : K) : val (C c) x = c := by rw [val_mn]; exact Rg.mul_one c
theorem val_zero (x : K) : val (0 : Po K) x = 0 := by rw [← C_zero, val_C]
theorem val_neg (f : Po K) (x : K) : val (-f) x = -val f x := by
 refine add_left_cancel (a := val f x) ?_
 rw [← val_add, Rg.add_neg, Rg.add_neg, val_zero]
theorem val_sub (f g : Po K) (x : K) : val (f - g) x = val f x - val g x := by
 show val (f + -g) x = _
 rw [val_add, val_neg]; rfl
theorem val_mn_mul (c : K) (n : Nat) (f : Po K) (x : K) : val (mn c n * f) x = c * Rg.pow x n * val f x := by
 have h1 : Sh (mn c n * f) (n + len f) := fun j hj => by
  rw [cf_mn_mul, if_neg (by omega), cf_ge (by omega), mul_zero]
 rw [val_eq h1, sm_split, sm_none (fun i hi => by rw [cf_mn_mul, if_pos hi, zero_mul]), Rg.zero_add]
 unfold val
 rw [← sm_mul]
 refine sm_congr fun i hi => ?_
 rw [cf_mn_mul, if_neg (by omega), show n + i - n = i by omega, pow_add]
 ac_rfl
theorem ind {P : Po K → Prop} (h0 : P 0) (h1 : ∀ (c : K) (n : Nat) (f : Po K), P f → P (f + mn c n)) : ∀ f, P f := by
 have key : ∀ (n : Nat) (f : Po K), Sh f n → P f := by
  intro n
  induction n with
  | zero => exact fun f hf => by rw [ext (f := f) (g := 0) (fun j => hf j (by omega))]; exact h0
  | succ n ih =>
   intro f hf
   have h2 : f = (f - mn (cf f n) n) + mn (cf f n) n := (sub_add_cancel _ _).symm
   rw [h2]
   refine h1 _ _ _ (ih _ fun j hj => ?_)
   rw [cf_sub, cf_mn]
   by_cases hjn : j = n
   ·rw [if_pos hjn, hjn, sub_self]
   ·rw [if_neg hjn, hf j (by omega), sub_self]
 exact fun f => key (len f) f (len_sh f)
theorem val_mul (f g : Po K) (x : K) : val (f * g) x = val f x * val g x := by
 induction f using ind with
 | h0 => rw [zero_mul, val_zero, zero_mul]
 | h1 c n f ih => rw [Rg.add_mul, val_add, ih, val_mn_mul, val_add, val_mn, Rg.add_mul]
theorem val_X (x : K) : val X x = x := by rw [val_mn, Rg.one_mul]; exact Rg.pow_one x
def lin (a : K) : Po K := X - C a
theorem lin_sh (a : K) : Sh (lin a) 2 := ((mn_sh 1 1).sub ((mn_sh a 0).mono (by omega)))
theorem cf_lin (a : K) (j : Nat) : cf (lin a) j = if j = 0 then -a else if j = 1 then 1 else 0 := by
 unfold lin
 rw [cf_sub, cf_mn, cf_mn]
 by_cases h0 : j = 0
 ·subst h0; rw [if_neg (by omega), if_pos rfl, if_pos rfl, zero_sub]
 ·rw [if_neg h0, if_neg h0]
  split
  ·rw [Rg.sub_zero]
  ·rw [Rg.sub_zero]
theorem len_lin (a : K) : len (lin a) = 2 := len_eq (lin_sh a) (by rw [cf_lin, if_neg (by omega), if_pos rfl]; exact Fd.one_ne)
theorem lin_ne (a : K) : lin a ≠ 0 := len_pos_iff.1 (by rw [len_lin]; omega)
theorem val_lin (a x : K) : val (lin a) x = x - a := by unfold lin; rw [val_sub, val_X, val_C]
theorem root_iff (f : Po K) (a : K) : val f a = 0 ↔ lin a ∣ f := by
 constructor
 ·intro h
  have h1 := div_eq f (lin_ne a)
  have h2 := rem_len f (lin_ne a)
  rw [len_lin] at h2
  have h3 := len_le_one (f := rem f (lin a)) (by omega)
  have h4 : val f a = cf (rem f (lin a)) 0 := by
   rw [h1, val_add, val_mul, val_lin, sub_self, mul_zero, Rg.zero_add, h3, val_C]
   rw [← h3, ← h1]
  rw [← rem_zero_iff (lin_ne a), h3, ← h4, h, C_zero]
 ·rintro ⟨u, rfl⟩
  rw [val_mul, val_lin, sub_self, zero_mul]
end Po
end Go.Proofs.YtdkahdehodopoaaGreat

namespace Go.Proofs.YtdkahdehodopoaaGreat
open Rg
def Vc (K : Type) : Type := Nat → K
namespace Vc
variable {K : Type} [Fd K]
instance : Add (Vc K) := ⟨fun u v j => u j + v j⟩
instance : Zero (Vc K) := ⟨fun _ => 0⟩
instance : Neg (Vc K) := ⟨fun u j => -u j⟩
instance : Sub (Vc K) := ⟨fun u v j => u j - v j⟩
def sc (c : K) (v : Vc K) : Vc K := fun j => c * v j
theorem ext {u v : Vc K} (h : ∀ j, u j = v j) : u = v := funext h
theorem add_at (u v : Vc K) (j : Nat) : (u + v) j = u j + v j := rfl
theorem zero_at (j : Nat) : (0 : Vc K) j = 0 := rfl
theorem neg_at (u : Vc K) (j : Nat) : (-u) j = -u j := rfl
theorem sub_at (u v : Vc K) (j : Nat) : (u - v) j = u j - v j := rfl
theorem sc_at (c : K) (v : Vc K) (j : Nat) : sc c v j = c * v j := rfl
theorem add_assoc (u v w : Vc K) : u + v + w = u + (v + w) := ext fun j => Rg.add_assoc _ _ _
theorem add_comm (u v : Vc K) : u + v = v + u := ext fun j => Rg.add_comm _ _
instance : Std.Associative (α := Vc K) (· + ·) := ⟨add_assoc⟩
instance : Std.Commutative (α := Vc K) (· + ·) := ⟨add_comm⟩
theorem add_zero (u : Vc K) : u + 0 = u := ext fun j => Rg.add_zero _
theorem zero_add (u : Vc K) : 0 + u = u := ext fun j => Rg.zero_add _
theorem sc_add (c : K) (u v : Vc K) : sc c (u + v) = sc c u + sc c v := ext fun j => mul_add _ _ _
theorem add_sc (c d : K) (u : Vc K) : sc (c + d) u = sc c u + sc d u := ext fun j => Rg.add_mul _ _ _
theorem sc_sc (c d : K) (u : Vc K) : sc c (sc d u) = sc (c * d) u := ext fun j => (Rg.mul_assoc _ _ _).symm
theorem one_sc (u : Vc K) : sc 1 u = u := ext fun j => Rg.one_mul _
theorem zero_sc (u : Vc K) : sc 0 u = 0 := ext fun j => zero_mul _
theorem sc_zero (c : K) : sc c (0 : Vc K) = 0 := ext fun j => mul_zero _
theorem sub_eq (u v : Vc K) : u - v = u + sc (-1) v := ext fun j => by rw [sub_at, add_at, sc_at, neg_mul, Rg.one_mul]; rfl
inductive Sp (S : Vc K → Prop) : Vc K → Prop
 | zero : Sp S 0
 | add {u r : Vc K} (c : K) : Sp S u → S r → Sp S (u + sc c r)
theorem Sp.of {S : Vc K → Prop} {r : Vc K} (h : S r) : Sp S r := by
 have := Sp.add 1 Sp.zero h
 rwa [one_sc, zero_add] at this
theorem Sp.plus {S : Vc K → Prop} {u v : Vc K} (hu : Sp S u) (hv : Sp S v) : Sp S (u + v) := by
 induction hv with
 | zero => rw [add_zero]; exact hu
 | add c _ hr ih => rw [← add_assoc]; exact .add c ih hr
theorem Sp.scale {S : Vc K → Prop} {u : Vc K} (c : K) (hu : Sp S u) : Sp S (sc c u) := by
 induction hu with
 | zero => rw [sc_zero]; exact .zero
 | add d _ hr ih => rw [sc_add, sc_sc]; exact .add _ ih hr
theorem Sp.minus {S : Vc K → Prop} {u v : Vc K} (hu : Sp S u) (hv : Sp S v) : Sp S (u - v) := by rw [sub_eq]; exact hu.plus (hv.scale _)
theorem Sp.mono {S T : Vc K → Prop} {u : Vc K} (hu : Sp S u) (h : ∀ r, S r → Sp T r) : Sp T u := by
 induction hu with
 | zero => exact .zero
 | add c _ hr ih => exact ih.plus ((h _ hr).scale c)
theorem Sp.lift {S : Vc K → Prop} {u : Vc K} (hu : Sp S u) {Q : Vc K → Prop} (h0 : Q 0) (ha : ∀ u c r, Q u → S r → Q (u + sc c r)) : Q u := by
 induction hu with
 | zero => exact h0
 | add c _ hr ih => exact ha _ c _ ih hr
def SpL (R : List (Vc K)) : Vc K → Prop := Sp (fun r => r ∈ R)
def cmb (c : Nat → K) : List (Vc K) → Vc K
 | [] => 0
 | r :: R => sc (c 0) r + cmb (fun i => c (i + 1)) R
theorem cmb_at (c : Nat → K) (d : Vc K) (R : List (Vc K)) (j : Nat) : cmb c R j = sm R.length (fun i => c i * (R.getD i d) j) := by
 induction R generalizing c with
 | nil => rfl
 | cons r R ih =>
  rw [cmb, add_at, ih, List.length_cons, sm_left]
  rfl
theorem cmb_sp (c : Nat → K) : ∀ (R : List (Vc K)), SpL R (cmb c R)
 | [] => .zero
 | r :: R => by
  rw [cmb, add_comm]
  exact .add _ ((cmb_sp _ R).mono fun x hx => .of (List.mem_cons_of_mem _ hx)) (List.mem_cons_self ..)
theorem cmb_add (c d : Nat → K) : ∀ R : List (Vc K), cmb (fun i => c i + d i) R = cmb c R + cmb d R
 | [] => (add_zero _).symm
 | r :: R => by
  rw [cmb, cmb, cmb, add_sc, cmb_add (fun i => c (i + 1)) (fun i => d (i + 1)) R]
  ac_rfl
theorem cmb_sc (e : K) (c : Nat → K) : ∀ R : List (Vc K), cmb (fun i => e * c i) R = sc e (cmb c R)
 | [] => (sc_zero e).symm
 | r :: R => by rw [cmb, cmb, sc_add, sc_sc, cmb_sc e (fun i => c (i + 1)) R]
theorem cmb_zero : ∀ R : List (Vc K), cmb (fun _ => (0 : K)) R = 0
 | [] => rfl
 | r :: R => by rw [cmb, cmb_zero R, zero_sc, add_zero]
theorem cmb_unit (d : Vc K) : ∀ (R : List (Vc K)) (k : Nat), k < R.length → cmb (fun i => if i = k then (1 : K) else 0) R = R.getD k d
 | r :: R, 0, _ => by
  rw [cmb, if_pos rfl, one_sc]
  have : (fun i => if i + 1 = 0 then (1 : K) else 0) = fun _ => 0 := funext fun i => if_neg (by omega)
  rw [this, cmb_zero, add_zero]; rfl
 | r :: R, k + 1, h => by
  rw [cmb, if_neg (by omega), zero_sc, zero_add]
  have : (fun i => if i + 1 = k + 1 then (1 : K) else 0) = fun i => if i = k then 1 else 0 := funext fun i => by simp
  rw [this, cmb_unit d R k (by simpa using h)]
  rfl
theorem sp_cmb {R : List (Vc K)} {u : Vc K} (h : SpL R u) : ∃ c, u = cmb c R := by
 induction h with
 | zero => exact ⟨fun _ => 0, (cmb_zero R).symm⟩
 | @add u r e _ hr ih =>
  obtain ⟨c, rfl⟩ := ih
  obtain ⟨k, hk, rfl⟩ := List.getElem_of_mem hr
  refine ⟨fun i => c i + e * (if i = k then 1 else 0), ?_⟩
  rw [cmb_add, cmb_sc, cmb_unit 0 R k hk, List.getD_eq_getElem?_getD, List.getElem?_eq_getElem hk]
  rfl
theorem SpL.mono {R T : List (Vc K)} {u : Vc K} (h : SpL R u) (hs : ∀ r ∈ R, SpL T r) : SpL T u := Sp.mono h hs
def Dep (R : List (Vc K)) : Prop := ∃ c : Nat → K, (∃ i, i < R.length ∧ c i ≠ 0) ∧ cmb c R = 0
open Classical in
theorem dep_of_more : ∀ (T R : List (Vc K)), (∀ r ∈ R, SpL T r) → T.length < R.length → Dep R
 | [], R, h, hl => by
  refine ⟨fun _ => 1, ⟨0, hl, Fd.one_ne⟩, ?_⟩
  have h0 : ∀ r ∈ R, r = 0 := fun r hr => by
   obtain ⟨c, hc⟩ := sp_cmb (h r hr)
   exact hc
  clear h hl
  induction R with
  | nil => rfl
  | cons r R ih =>
   rw [cmb, h0 r (List.mem_cons_self ..), sc_zero, zero_add]
   exact ih fun r hr => h0 r (List.mem_cons_of_mem _ hr)
 | t :: T, R, h, hl => by
  -- each row is a t + u with u in the span of T
  have h1 : ∀ r ∈ R, ∃ a u, SpL T u ∧ r = sc a t + u := fun r hr => by
   obtain ⟨c, rfl⟩ := sp_cmb (h r hr)
   exact ⟨c 0, _, cmb_sp _ T, rfl⟩
  by_cases hall : ∀ r ∈ R, SpL T r
  ·exact dep_of_more T R hall (by simp only [List.length_cons] at hl; omega)
  ·have : ∃ r ∈ R, ¬ SpL T r := Classical.byContradiction fun hn => hall fun r hr => Classical.byContradiction fun hn' => hn ⟨r, hr, hn'⟩
   obtain ⟨p, hp, hpT⟩ := this
   obtain ⟨k, hk, rfl⟩ := List.getElem_of_mem hp
   obtain ⟨a, u, hu, he⟩ := h1 _ hp
   have ha : a ≠ 0 := fun e => hpT (by rw [he, e, zero_sc, zero_add]; exact hu)
   -- the other rows, less their part of row k
   have h2 : ∀ i, ∃ b : K, i < R.length → SpL T ((R.getD i 0) - sc b R[k]) := fun i => by
    by_cases hi : i < R.length
    ·obtain ⟨d, v, hv, hd⟩ := h1 (R.getD i 0) (by rw [List.getD_eq_getElem?_getD, List.getElem?_eq_getElem hi]; exact List.getElem_mem hi)
     refine ⟨d * Fd.inv a, fun _ => ?_⟩
     rw [hd, he]
     have : sc d t + v - sc (d * Fd.inv a) (sc a t + u) = v - sc (d * Fd.inv a) u := ext fun j => by
      simp only [sub_at, add_at, sc_at]
      have h3 : d * Fd.inv a * (a * t j + u j) = d * t j + d * Fd.inv a * u j := by
       rw [mul_add, show d * Fd.inv a * (a * t j) = d * (Fd.inv a * a) * t j by ac_rfl, Fd.inv_mul a ha, Rg.mul_one]
      rw [h3, add_sub_add, sub_self, Rg.zero_add]
     rw [this]
     exact Sp.minus hv (Sp.scale _ hu)
    ·exact ⟨0, fun h' => absurd h' hi⟩
   have h2' : ∃ B : Nat → K, ∀ i, i < R.length → SpL T ((R.getD i 0) - sc (B i) R[k]) := ⟨fun i => Classical.choose (h2 i), fun i => Classical.choose_spec (h2 i)⟩
   obtain ⟨B, hB⟩ := h2'
   let ix : Nat → Nat := fun i => if i < k then i else i + 1
   let R' : List (Vc K) := (List.range (R.length - 1)).map fun i => R.getD (ix i) 0 - sc (B (ix i)) R[k]
   have hl' : R'.length = R.length - 1 := by simp [R']
   have hix : ∀ i, i < R.length - 1 → ix i < R.length := fun i hi => by simp only [ix]; split <;> omega
   obtain ⟨c, ⟨i0, hi0, hc0⟩, hc⟩ := dep_of_more T R' (fun r hr => by
    obtain ⟨i, hi, rfl⟩ := List.mem_map.1 hr
    exact hB _ (hix i (List.mem_range.1 hi))) (by rw [hl']; simp only [List.length_cons] at hl; omega)
   -- back to R
   let c' : Nat → K := fun i => if i < k then c i else if i = k then -(sm (R.length - 1) fun m => c m * B (ix m)) else c (i - 1)
   have hR' : ∀ (m j : Nat), m < R.length - 1 → R'.getD m 0 j = R.getD (ix m) 0 j - B (ix m) * R[k] j := fun m j hm => by
    have : R'.getD m 0 = R.getD (ix m) 0 - sc (B (ix m)) R[k] := by
     rw [List.getD_eq_getElem?_getD, List.getElem?_eq_getElem (by omega)]
     simp [R']
    rw [this]; rfl
   refine ⟨c', ⟨ix i0, hix i0 (by omega), ?_⟩, ?_⟩
   ·simp only [c', ix]
    by_cases hik : i0 < k
    ·rw [if_pos hik, if_pos hik]; exact hc0
    ·rw [if_neg hik, if_neg (by omega), if_neg (by omega), Nat.add_sub_cancel]; exact hc0
   ·refine ext fun j => ?_
    have h3 := congrFun hc j
    rw [cmb_at _ 0, hl', zero_at] at h3
    rw [cmb_at _ 0, zero_at]
    rw [sm_congr (g := fun i => c i * R.getD (ix i) 0 j + -(c i * B (ix i)) * R[k] j) (fun i hi => by
     rw [hR' i j hi, mul_sub, neg_mul, Rg.mul_assoc]; rfl), sm_add, sm_mulR, sm_neg] at h3
    -- split at k
    have h4 : sm R.length (fun i => c' i * R.getD i 0 j) = sm (R.length - 1) (fun i => c i * R.getD (ix i) 0 j) + c' k * R[k] j := by
     obtain ⟨m, hm⟩ : ∃ m, R.length = k + (m + 1) := ⟨R.length - k - 1, by omega⟩
     have hRk : R.getD k 0 = R[k] := by rw [List.getD_eq_getElem?_getD, List.getElem?_eq_getElem hk]; rfl
     rw [show R.length - 1 = k + m by omega, hm, sm_split, sm_left, sm_split (n := k) (m := m)]
     have e1 : sm k (fun i => c' i * R.getD i 0 j) = sm k (fun i => c i * R.getD (ix i) 0 j) := sm_congr fun i hi => by simp only [c', ix]; rw [if_pos hi, if_pos hi]
     have e2 : sm m (fun i => c' (k + (i + 1)) * R.getD (k + (i + 1)) 0 j) = sm m (fun i => c (k + i) * R.getD (ix (k + i)) 0 j) := sm_congr fun i hi => by
      simp only [c', ix]
      rw [if_neg (by omega), if_neg (by omega), if_neg (by omega), show k + (i + 1) - 1 = k + i by omega]
      rfl
     rw [e1, e2, Nat.add_zero, hRk]
     ac_rfl
    rw [h4]
    have h5 : c' k = -(sm (R.length - 1) fun m => c m * B (ix m)) := by simp only [c']; rw [if_neg (by omega), if_pos trivial]
    rw [h5]
    exact h3
structure Rr (n : Nat) (R : List (Vc K)) (ps : List Nat) : Prop where
 len : ps.length = R.length
 lt : ∀ i, i < ps.length → ps.getD i 0 < n
 rise : ∀ i k, i < k → k < ps.length → ps.getD i 0 < ps.getD k 0
 one : ∀ i, i < ps.length → R.getD i 0 (ps.getD i 0) = 1
 off : ∀ i k, i < ps.length → k < ps.length → i ≠ k → R.getD i 0 (ps.getD k 0) = 0
 low : ∀ i j, i < ps.length → j < ps.getD i 0 → R.getD i 0 j = 0
 sup : ∀ i j, i < ps.length → n ≤ j → R.getD i 0 j = 0
variable {n : Nat} {R R' : List (Vc K)} {ps ps' : List Nat}
theorem Rr.at_piv (h : Rr n R ps) (c : Nat → K) {k : Nat} (hk : k < ps.length) : cmb c R (ps.getD k 0) = c k := by
 rw [cmb_at _ 0, sm_one (k := k) (by rw [← h.len]; exact hk) (fun i hi hne => by rw [h.off i k (by rw [h.len]; exact hi) hk hne, mul_zero]), h.one k hk, Rg.mul_one]
theorem Rr.eq (h : Rr n R ps) {u : Vc K} (hu : SpL R u) : u = cmb (fun i => u (ps.getD i 0)) R := by
 obtain ⟨c, rfl⟩ := sp_cmb hu
 refine ext fun j => ?_
 rw [cmb_at c 0, cmb_at _ 0]
 exact sm_congr fun i hi => by rw [h.at_piv c (by rw [h.len]; exact hi)]
theorem Rr.eq_of (h : Rr n R ps) {u v : Vc K} (hu : SpL R u) (hv : SpL R v) (he : ∀ i, i < ps.length → u (ps.getD i 0) = v (ps.getD i 0)) : u = v := by
 rw [h.eq hu, h.eq hv]
 refine ext fun j => ?_
 rw [cmb_at _ 0, cmb_at _ 0]
 exact sm_congr fun i hi => by rw [he i (by rw [h.len]; exact hi)]
def Lead (S : Vc K → Prop) (p : Nat) : Prop := ∃ u, S u ∧ u p ≠ 0 ∧ ∀ j, j < p → u j = 0
theorem Rr.lead_iff (h : Rr n R ps) (p : Nat) : Lead (SpL R) p ↔ p ∈ ps := by
 constructor
 ·rintro ⟨u, hu, h1, h2⟩
  have he := h.eq hu
  -- the first place at which u is not zero
  by_cases hall : ∀ i, i < ps.length → u (ps.getD i 0) = 0
  ·exfalso
   apply h1
   rw [he, cmb_at _ 0]
   exact sm_none fun i hi => by rw [hall i (by rw [h.len]; exact hi), zero_mul]
  ·have : ∃ i, i < ps.length ∧ u (ps.getD i 0) ≠ 0 := Classical.byContradiction fun hn => hall fun i hi => Classical.byContradiction fun h' => hn ⟨i, hi, h'⟩
   obtain ⟨i, ⟨hi, hne⟩, hmin⟩ := nat_least this
   have hz : ∀ k, k < i → u (ps.getD k 0) = 0 := fun k hk => Classical.byContradiction fun h' => hmin k hk ⟨by omega, h'⟩
   have hle : p ≤ ps.getD i 0 := Nat.le_of_not_lt fun h' => hne (h2 _ h')
   have hge : ps.getD i 0 ≤ p := Nat.le_of_not_lt fun h' => h1 (by
    rw [he, cmb_at _ 0]
    refine sm_none fun k hk => ?_
    have hk' : k < ps.length := by rw [h.len]; exact hk
    by_cases hki : k < i
    ·rw [hz k hki, zero_mul]
    ·have : ps.getD i 0 ≤ ps.getD k 0 := by
      by_cases e : k = i
      ·rw [e]; exact Nat.le_refl _
      ·exact Nat.le_of_lt (h.rise i k (by omega) hk')
     rw [h.low k p hk' (by omega), mul_zero])
   have : p = ps.getD i 0 := by omega
   rw [this, List.getD_eq_getElem?_getD, List.getElem?_eq_getElem hi]
   exact List.getElem_mem hi
 ·intro hp
  obtain ⟨i, hi, rfl⟩ := List.getElem_of_mem hp
  have hg : ps.getD i 0 = ps[i] := by rw [List.getD_eq_getElem?_getD, List.getElem?_eq_getElem hi]; rfl
  refine ⟨R.getD i 0, .of (by rw [List.getD_eq_getElem?_getD, List.getElem?_eq_getElem (by rw [← h.len]; exact hi)]; exact List.getElem_mem _), ?_, fun j hj => h.low i j hi (by rw [hg]; exact hj)⟩
  rw [← hg, h.one i hi]
  exact Fd.one_ne
theorem rise_eq : ∀ (a b : List Nat), (∀ i k, i < k → k < a.length → a.getD i 0 < a.getD k 0) → (∀ i k, i < k → k < b.length → b.getD i 0 < b.getD k 0) → (∀ p, p ∈ a ↔ p ∈ b) → a = b
 | [], [], _, _, _ => rfl
 | [], y :: b, _, _, h => by have := (h y).2 (List.mem_cons_self ..); simp at this
 | x :: a, [], _, _, h => by have := (h x).1 (List.mem_cons_self ..); simp at this
 | x :: a, y :: b, ha, hb, h => by
  have hxa : ∀ z ∈ a, x < z := fun z hz => by
   obtain ⟨i, hi, rfl⟩ := List.getElem_of_mem hz
   have := ha 0 (i + 1) (by omega) (by simp; omega)
   simpa [List.getD_eq_getElem?_getD, hi] using this
  have hyb : ∀ z ∈ b, y < z := fun z hz => by
   obtain ⟨i, hi, rfl⟩ := List.getElem_of_mem hz
   have := hb 0 (i + 1) (by omega) (by simp; omega)
   simpa [List.getD_eq_getElem?_getD, hi] using this
  have hxy : x = y := by
   have h1 := (h x).1 (List.mem_cons_self ..)
   have h2 := (h y).2 (List.mem_cons_self ..)
   rcases List.mem_cons.1 h1 with h1 | h1
   ·exact h1
   ·rcases List.mem_cons.1 h2 with h2 | h2
    ·exact h2.symm
    ·have := hyb x h1
     have := hxa y h2
     omega
  subst hxy
  congr 1
  refine rise_eq a b (fun i k hik hk => ?_) (fun i k hik hk => ?_) (fun p => ⟨fun hp => ?_, fun hp => ?_⟩)
  ·have := ha (i + 1) (k + 1) (by omega) (by simp; omega); simpa using this
  ·have := hb (i + 1) (k + 1) (by omega) (by simp; omega); simpa using this
  ·have h1 := (h p).1 (List.mem_cons_of_mem _ hp)
   rcases List.mem_cons.1 h1 with h1 | h1
   ·have := hxa p hp; omega
   ·exact h1
  ·have h1 := (h p).2 (List.mem_cons_of_mem _ hp)
   rcases List.mem_cons.1 h1 with h1 | h1
   ·have := hyb p hp; omega
   ·exact h1
theorem getD_eq_mem {α : Type} {l : List α} {i : Nat} (h : i < l.length) (d : α) : l.getD i d ∈ l := by
 rw [List.getD_eq_getElem?_getD, List.getElem?_eq_getElem h]
 exact List.getElem_mem h
theorem Rr.uniq (h : Rr n R ps) (h' : Rr n R' ps') (hs : ∀ u, SpL R u ↔ SpL R' u) : R = R' ∧ ps = ps' := by
 have hps : ps = ps' := rise_eq ps ps' h.rise h'.rise fun p => by
  rw [← h.lead_iff p, ← h'.lead_iff p]
  exact ⟨fun ⟨u, a, b⟩ => ⟨u, (hs u).1 a, b⟩, fun ⟨u, a, b⟩ => ⟨u, (hs u).2 a, b⟩⟩
 refine ⟨?_, hps⟩
 subst hps
 refine List.ext_getElem (by rw [← h.len, h'.len]) fun i h1 h2 => ?_
 have e1 : R.getD i 0 = R[i] := by rw [List.getD_eq_getElem?_getD, List.getElem?_eq_getElem h1]; rfl
 have e2 : R'.getD i 0 = R'[i] := by rw [List.getD_eq_getElem?_getD, List.getElem?_eq_getElem h2]; rfl
 rw [← e1, ← e2]
 have hi : i < ps.length := by rw [h.len]; exact h1
 refine h.eq_of (.of (getD_eq_mem h1 0)) ((hs _).2 (.of (getD_eq_mem h2 0))) fun k hk => ?_
 by_cases hik : i = k
 ·subst hik; rw [h.one i hi, h'.one i hi]
 ·rw [h.off i k hi hk hik, h'.off i k hi hk hik]
end Vc
end Go.Proofs.YtdkahdehodopoaaGreat

namespace Go.Proofs.YtdkahdehodopoaaGreat
def digs (p : Int) : Nat → Int → List Int
 | 0, _ => []
 | m + 1, x => x % p :: digs p m (x / p)
def vl (p : Int) : List Int → Int
 | [] => 0
 | d :: ds => d + p * vl p ds
theorem digs_length (p : Int) : ∀ (m : Nat) (x : Int), (digs p m x).length = m
 | 0, _ => rfl
 | m + 1, x => by simp [digs, digs_length p m]
def AllIn (p : Int) (l : List Int) : Prop := ∀ c ∈ l, 0 ≤ c ∧ c < p
theorem digs_in {p : Int} (hp : 1 ≤ p) : ∀ (m : Nat) (x : Int), AllIn p (digs p m x)
 | 0, _, c, h => by simp [digs] at h
 | m + 1, x, c, h => by
  simp only [digs, List.mem_cons] at h
  rcases h with rfl | h
  ·exact ⟨Int.emod_nonneg _ (by omega), Int.emod_lt_of_pos _ (by omega)⟩
  ·exact digs_in hp m _ c h
theorem AllIn.get {p : Int} {l : List Int} (hp : 1 ≤ p) (h : AllIn p l) (i : Nat) : 0 ≤ l.getD i 0 ∧ l.getD i 0 < p := by
 by_cases hi : i < l.length
 ·rw [List.getD_eq_getElem?_getD, List.getElem?_eq_getElem hi]
  exact h _ (List.getElem_mem hi)
 ·rw [List.getD_eq_getElem?_getD, List.getElem?_eq_none (by omega)]
  simp; omega
theorem AllIn.set {p : Int} {l : List Int} (h : AllIn p l) {v : Int} (hv : 0 ≤ v ∧ v < p) (i : Nat) : AllIn p (l.set i v) := fun c hc => by
 rcases List.mem_or_eq_of_mem_set hc with h1 | h1
 ·exact h c h1
 ·rw [h1]; exact hv
theorem digs_snoc {p : Int} (hp : 0 ≤ p) : ∀ (k : Nat) (x : Int), digs p (k + 1) x = digs p k x ++ [x / p ^ k % p]
 | 0, x => by simp [digs]
 | k + 1, x => by
  have h := digs_snoc hp k (x / p)
  rw [digs, h, digs]
  simp only [List.cons_append, List.cons.injEq, true_and, List.append_cancel_left_eq, and_true]
  rw [Int.pow_succ, Int.mul_comm, Int.ediv_ediv_of_nonneg hp]
def pw (p k : Int) : Int := p ^ k.toNat
theorem pw_zero (p : Int) : pw p 0 = 1 := by simp [pw]
theorem pw_succ (p : Int) {k : Int} (hk : 0 ≤ k) : pw p (k + 1) = pw p k * p := by
 have : (k + 1).toNat = k.toNat + 1 := by omega
 rw [pw, this, Int.pow_succ]; rfl
theorem pw_pos {p : Int} (hp : 1 ≤ p) (k : Int) : 1 ≤ pw p k := by
 have : 0 < p ^ k.toNat := Int.pow_pos (by omega)
 unfold pw; omega
theorem pw_mono {p : Int} (hp : 1 ≤ p) {a : Int} (ha : 0 ≤ a) : ∀ {b : Int}, a ≤ b → pw p a ≤ pw p b := by
 intro b hab
 obtain ⟨n, rfl⟩ : ∃ n : Nat, b = a + n := ⟨(b - a).toNat, by omega⟩
 clear hab
 induction n with
 | zero => simp
 | succ n ih =>
  rw [show a + ((n + 1 : Nat) : Int) = (a + n) + 1 by omega, pw_succ p (by omega)]
  have h1 := pw_pos hp (a + n)
  have h2 : pw p (a + n) * 1 ≤ pw p (a + n) * p := Int.mul_le_mul_of_nonneg_left hp (by omega)
  rw [Int.mul_one] at h2
  exact Int.le_trans ih h2
def ordI (p m : Int) : Int := if p < 2 ∨ p > 256 ∨ m < 1 ∨ m > 8 ∨ pw p m > 256 then 0 else pw p m
theorem ord_bad {p m k : Int} (hp : 2 ≤ p) (hk : 0 ≤ k) (hkm : k ≤ m) (h : pw p k > 256) : ordI p m = 0 := by
 have := pw_mono (p := p) (by omega) hk hkm
 rw [ordI, if_pos (by omega)]
theorem ord_ok {p m : Int} (hp : 2 ≤ p) (hp2 : p ≤ 256) (hm : 1 ≤ m) (hm2 : m ≤ 8) (h : pw p m ≤ 256) : ordI p m = pw p m := by rw [ordI, if_neg (by omega)]
theorem ord_cases {p m : Int} (h : ordI p m ≠ 0) : 2 ≤ p ∧ p ≤ 256 ∧ 1 ≤ m ∧ m ≤ 8 ∧ pw p m ≤ 256 ∧ ordI p m = pw p m := by
 unfold ordI at h ⊢
 split at h
 ·exact absurd rfl h
 ·rename_i h1
  rw [if_neg h1]
  omega
def IsP (n : Int) : Prop := 2 ≤ n ∧ ∀ d, 2 ≤ d → d < n → n % d ≠ 0
theorem isP_of {n d : Int} (hd : 2 ≤ d) (hn : 2 ≤ n) (h : ∀ e, 2 ≤ e → e < d → n % e ≠ 0) (hdd : n < d * d) : IsP n := ⟨hn, fun e he hen h0 => by
 by_cases hed : e < d
 ·exact h e he hed h0
 ·have h1 := Int.mul_ediv_add_emod n e
  rw [h0, Int.add_zero] at h1
  generalize hk : n / e = k at h1
  have hkd : k < d := by
   refine Int.lt_of_not_ge (fun hkd => ?_)
   have h2 : d * d ≤ e * k := Int.mul_le_mul (by omega) hkd (by omega) (by omega)
   omega
  have hk2 : 2 ≤ k := by
   refine Int.le_of_not_gt (fun hk2 => ?_)
   have h3 : e * k ≤ e * 1 := Int.mul_le_mul_of_nonneg_left (by omega) (by omega)
   omega
  exact h k hk2 hkd (by rw [← h1]; exact Int.mul_emod_left e k)⟩
theorem not_isP {n d : Int} (hd : 2 ≤ d) (hdd : d < n) (h : n % d = 0) : ¬ IsP n := fun hp => hp.2 d hd hdd h
noncomputable def bIsP (n : Int) : Bool := @decide (IsP n) (Classical.propDecidable _)
theorem bIsP_iff (n : Int) : bIsP n = true ↔ IsP n := by unfold bIsP; exact @decide_eq_true_iff _ (Classical.propDecidable _)
theorem bIsP_true {n : Int} (h : IsP n) : bIsP n = true := (bIsP_iff n).2 h
theorem bIsP_false {n : Int} (h : ¬ IsP n) : bIsP n = false := Bool.eq_false_iff.2 (fun h2 => h ((bIsP_iff n).1 h2))
theorem vl_in {p : Int} (hp : 1 ≤ p) : ∀ (l : List Int), AllIn p l → 0 ≤ vl p l ∧ vl p l < p ^ l.length
 | [], _ => by simp [vl]
 | d :: ds, h => by
  have h1 := vl_in hp ds (fun c hc => h c (by simp [hc]))
  have h2 := h d (by simp)
  simp only [vl, List.length_cons, Int.pow_succ]
  have h3 : 0 ≤ p * vl p ds := Int.mul_nonneg (by omega) h1.1
  have h4 : p * (vl p ds + 1) ≤ p * p ^ ds.length := Int.mul_le_mul_of_nonneg_left (by omega) (by omega)
  rw [Int.mul_add, Int.mul_one] at h4
  rw [Int.mul_comm (p ^ ds.length)]
  omega
theorem pw_bd {p : Int} (hp : 1 ≤ p) {k m : Nat} (hk : k ≤ m) : p ^ k ≤ p ^ m := by
 have := pw_mono (p := p) hp (a := (k : Int)) (b := (m : Int)) (by omega) (by omega)
 simpa [pw] using this
theorem drop_getD {l : List Int} {i : Nat} (h : i < l.length) : l.drop i = l.getD i 0 :: l.drop (i + 1) := by
 rw [List.drop_eq_getElem_cons h]
 simp [h]
def hprev (out : List Int) (j : Nat) : Int := if j = 0 then 0 else out.getD (j - 1) 0
def hent (p : Int) (low a out : List Int) (b : Int) (j : Nat) : Int := (hprev out j + (p - out.getD (out.length - 1) 0) * low.getD j 0 + b * a.getD j 0) % p
def hstep (p : Int) (low a out : List Int) (b : Int) : List Int := (List.range out.length).map (hent p low a out b)
def hmulL (p : Int) (low a : List Int) (m : Nat) : List Int → List Int
 | [] => List.replicate m 0
 | b :: bs => hstep p low a (hmulL p low a m bs) b
def mulI (p m : Int) (low : List Int) (x y : Int) : Int := vl p (hmulL p low (digs p m.toNat x) m.toNat (digs p m.toNat y))
theorem hstep_length (p : Int) (low a out : List Int) (b : Int) : (hstep p low a out b).length = out.length := by simp [hstep]
theorem hmulL_length (p : Int) (low a : List Int) (m : Nat) : ∀ (bs : List Int), (hmulL p low a m bs).length = m
 | [] => by simp [hmulL]
 | b :: bs => by rw [hmulL, hstep_length, hmulL_length p low a m bs]
theorem hmulL_in {p : Int} (hp : 1 ≤ p) (low a : List Int) (m : Nat) : ∀ (bs : List Int), AllIn p (hmulL p low a m bs)
 | [], c, hc => by
  have := List.eq_of_mem_replicate hc
  omega
 | b :: bs, c, hc => by
  simp only [hmulL, hstep, List.mem_map] at hc
  obtain ⟨j, _, rfl⟩ := hc
  exact ⟨Int.emod_nonneg _ (by omega), Int.emod_lt_of_pos _ (by omega)⟩
theorem hstep_of {p : Int} {low a out l : List Int} {b : Int} (hl : l.length = out.length) (h : ∀ k, k < out.length → l.getD k 0 = hent p low a out b k) : l = hstep p low a out b := by
 apply List.ext_getElem (by rw [hstep_length, hl])
 intro k h1 h2
 have h3 := h k (by omega)
 rw [List.getD_eq_getElem?_getD, List.getElem?_eq_getElem h1] at h3
 simpa [hstep] using h3
structure Shp (p m : Int) (mod : List Int) : Prop where
 p2 : 2 ≤ p
 p9 : p ≤ 256
 m1 : 1 ≤ m
 m8 : m ≤ 8
 q : pw p m ≤ 256
 low : (m = 1 ∧ mod = []) ∨ (2 ≤ m ∧ (mod.length : Int) = m)
 ent : AllIn p mod
def ShpP (p m : Int) (mod : List Int) : Prop := Shp p m mod ∧ IsP p
noncomputable def bShp (p m : Int) (mod : List Int) : Bool := @decide (ShpP p m mod) (Classical.propDecidable _)
theorem bShp_iff (p m : Int) (mod : List Int) : bShp p m mod = true ↔ ShpP p m mod := by unfold bShp; exact @decide_eq_true_iff _ (Classical.propDecidable _)
theorem bShp_true {p m : Int} {mod : List Int} (h : ShpP p m mod) : bShp p m mod = true := (bShp_iff p m mod).2 h
theorem bShp_false {p m : Int} {mod : List Int} (h : ¬ ShpP p m mod) : bShp p m mod = false := Bool.eq_false_iff.2 (fun h2 => h ((bShp_iff p m mod).1 h2))
theorem Shp.ord {p m : Int} {mod : List Int} (h : Shp p m mod) : ordI p m = pw p m := ord_ok h.p2 h.p9 h.m1 h.m8 h.q
theorem Shp.q2 {p m : Int} {mod : List Int} (h : Shp p m mod) : 2 ≤ pw p m := by
 have hp := h.p2
 have h1 := pw_mono (p := p) (by omega) (a := 1) (b := m) (by omega) h.m1
 have h2 := pw_succ p (k := 0) (by omega)
 rw [pw_zero, Int.zero_add, Int.one_mul] at h2
 omega
theorem not_shp_ord {p m : Int} {mod : List Int} (h : ordI p m = 0) : ¬ ShpP p m mod := fun hs => by
 have h1 := hs.1.ord
 have h2 := hs.1.q2
 omega
def pwI (p m : Int) (mod : List Int) (x : Int) : Nat → Int
 | 0 => 1
 | 1 => x
 | n + 2 => mulI p m mod (pwI p m mod x (n + 1)) x
structure PowOk (p m : Int) (mod : List Int) (x : Int) (l : List Int) : Prop where
 one : 1 ≤ l.length
 get : ∀ i, i < l.length → l.getD i 0 = pwI p m mod x i
 nz : ∀ y ∈ l, 0 < y ∧ y < pw p m
 nodup : l.Nodup
 stop : pwI p m mod x l.length = 0 ∨ pwI p m mod x l.length ∈ l
structure IsGen (p m : Int) (mod : List Int) (x : Int) (l : List Int) : Prop where
 x1 : 1 ≤ x
 x2 : x < pw p m
 pow : PowOk p m mod x l
 len : (l.length : Int) = pw p m - 1
 last : mulI p m mod (l.getD (pw p m - 2).toNat 0) x = 1
def GenR (p m : Int) (mod : List Int) (l : List Int) : Prop := (∃ x, IsGen p m mod x l) ∨ (l = [] ∧ ∀ x, 1 ≤ x → x < pw p m → ∃ l', PowOk p m mod x l' ∧ ¬ ((l'.length : Int) = pw p m - 1 ∧ mulI p m mod (l'.getD (pw p m - 2).toNat 0) x = 1))
theorem nodup_len : ∀ (n : Nat) (l : List Int), l.Nodup → (∀ y ∈ l, 0 < y ∧ y ≤ n) → l.length ≤ n
 | 0, l, _, h => by
  cases l with
  | nil => simp
  | cons a l => have := h a (by simp); omega
 | n + 1, l, hd, h => by
  have h1 := nodup_len n (l.erase ((n + 1 : Nat) : Int)) (hd.erase _) (fun y hy => by
   have h2 := hd.mem_erase_iff.1 hy
   have := h y h2.2
   omega)
  have h2 := List.length_erase (l := l) (a := ((n + 1 : Nat) : Int))
  split at h2 <;> omega
theorem nodup_len' {q : Int} (l : List Int) (hd : l.Nodup) (h : ∀ y ∈ l, 0 < y ∧ y < q) (hq : 1 ≤ q) : (l.length : Int) ≤ q - 1 := by
 have := nodup_len (q - 1).toNat l hd (fun y hy => by have := h y hy; omega)
 omega
theorem mulI_bd {p m : Int} {mod : List Int} (h : Shp p m mod) (x y : Int) : 0 ≤ mulI p m mod x y ∧ mulI p m mod x y < pw p m := by
 have h1 := vl_in (p := p) (by have := h.p2; omega) (hmulL p mod (digs p m.toNat x) m.toNat (digs p m.toNat y)) (hmulL_in (by have := h.p2; omega) _ _ _ _)
 rw [hmulL_length] at h1
 exact h1
structure GOk (g : GfM) (p m : Int) (mod : List Int) : Prop where
 eP : g.P = p
 eM : g.M = m
 emod : g.mod = mod
 shp : ShpP p m mod
 eq : g.q = pw p m
 gen : ∃ x, IsGen p m mod x g.exp
 llen : g.log.length = g.q.toNat
 log0 : g.log.getD 0 0 = 0
 log : ∀ i : Nat, i < g.exp.length → g.log.getD (g.exp.getD i 0).toNat 0 = i
def FldN (p m : Int) (mod : List Int) : Prop := ShpP p m mod ∧ ∃ x l, IsGen p m mod x l
theorem PowOk.unique {p m : Int} {mod : List Int} {x : Int} {l l' : List Int} (h : PowOk p m mod x l) (h' : PowOk p m mod x l') : l = l' := by
 have key : ∀ {l l' : List Int}, PowOk p m mod x l → PowOk p m mod x l' → l.length ≤ l'.length := fun {l l'} h h' => by
  refine Nat.le_of_not_lt (fun hlt => ?_)
  have h1 := h.get l'.length hlt
  have hmem : l.getD l'.length 0 ∈ l := by
   rw [List.getD_eq_getElem?_getD, List.getElem?_eq_getElem hlt]
   exact List.getElem_mem hlt
  rcases h'.stop with h2 | h2
  ·have := (h.nz _ hmem).1
   omega
  ·obtain ⟨i, hi, he⟩ := List.getElem_of_mem h2
   have h3 := h'.get i hi
   rw [List.getD_eq_getElem?_getD, List.getElem?_eq_getElem hi] at h3
   have h4 := h.get i (by omega)
   rw [List.getD_eq_getElem?_getD, List.getElem?_eq_getElem hlt] at h1
   rw [List.getD_eq_getElem?_getD, List.getElem?_eq_getElem (show i < l.length by omega)] at h4
   simp only [Option.getD_some] at h1 h3 h4
   have h5 : l[i]'(by omega) = l[l'.length] := by rw [h4, h1, ← h3, he]
   have h6 := (List.pairwise_iff_getElem.1 h.nodup) i l'.length (by omega) hlt hi
   exact h6 h5
 have hl : l.length = l'.length := Nat.le_antisymm (key h h') (key h' h)
 apply List.ext_getElem hl
 intro i h1 h2
 have h3 := h.get i h1
 have h4 := h'.get i h2
 rw [List.getD_eq_getElem?_getD, List.getElem?_eq_getElem h1] at h3
 rw [List.getD_eq_getElem?_getD, List.getElem?_eq_getElem h2] at h4
 simpa using h3.trans h4.symm
theorem GenR.nil {p m : Int} {mod : List Int} (h : GenR p m mod []) : ¬ ∃ x l, IsGen p m mod x l := fun ⟨x, l, hg⟩ => by
 rcases h with ⟨x', h'⟩ | ⟨_, h'⟩
 ·have := h'.pow.one
  simp at this
 ·obtain ⟨l', h1, h2⟩ := h' x hg.x1 hg.x2
  have := hg.pow.unique h1
  subst this
  exact h2 ⟨hg.len, hg.last⟩
def dent (p : Int) (low r : List Int) (i k : Nat) : Int := if k = i then 0 else if i ≤ k + low.length ∧ k < i then (r.getD k 0 + (p - r.getD i 0) * low.getD (k + low.length - i) 0) % p else r.getD k 0
def dstep (p : Int) (low r : List Int) (i : Nat) : List Int := (List.range r.length).map (dent p low r i)
def dloop (p : Int) (low : List Int) : Nat → List Int → List Int
 | 0, r => r
 | n + 1, r => dloop p low n (dstep p low r (low.length + n))
def divL (p : Int) (low mod : List Int) : List Int := dloop p low (mod.length + 1 - low.length) (mod ++ [1])
def bDiv (p : Int) (low mod : List Int) : Bool := (divL p low mod).all (fun c => c == 0)
theorem dstep_length (p : Int) (low r : List Int) (i : Nat) : (dstep p low r i).length = r.length := by simp [dstep]
theorem dstep_of {p : Int} {low r l : List Int} {i : Nat} (hl : l.length = r.length) (h : ∀ k, k < r.length → l.getD k 0 = dent p low r i k) : l = dstep p low r i := by
 apply List.ext_getElem (by rw [dstep_length, hl])
 intro k h1 h2
 have h3 := h k (by omega)
 rw [List.getD_eq_getElem?_getD, List.getElem?_eq_getElem h1] at h3
 simpa [dstep] using h3
theorem dstep_in {p : Int} (hp : 1 ≤ p) {low r : List Int} {i : Nat} (hr : AllIn p r) : AllIn p (dstep p low r i) := fun c hc => by
 simp only [dstep, List.mem_map] at hc
 obtain ⟨k, _, rfl⟩ := hc
 unfold dent
 split
 ·omega
 ·split
  ·exact ⟨Int.emod_nonneg _ (by omega), Int.emod_lt_of_pos _ (by omega)⟩
  ·exact hr.get hp k
theorem bDiv_false {p : Int} {low mod : List Int} {k : Nat} (h : (divL p low mod).getD k 0 ≠ 0) : bDiv p low mod = false := by
 refine Bool.eq_false_iff.2 (fun h2 => h ?_)
 unfold bDiv at h2
 rw [List.all_eq_true] at h2
 by_cases hk : k < (divL p low mod).length
 ·rw [List.getD_eq_getElem?_getD, List.getElem?_eq_getElem hk]
  simpa using h2 _ (List.getElem_mem hk)
 ·rw [List.getD_eq_getElem?_getD, List.getElem?_eq_none (by omega)]; rfl
theorem bDiv_true {p : Int} {low mod : List Int} (h : ∀ k, k < (divL p low mod).length → (divL p low mod).getD k 0 = 0) : bDiv p low mod = true := by
 unfold bDiv
 rw [List.all_eq_true]
 intro c hc
 obtain ⟨k, hk, rfl⟩ := List.getElem_of_mem hc
 have := h k hk
 rw [List.getD_eq_getElem?_getD, List.getElem?_eq_getElem hk] at this
 simpa using this
def Irr (p : Int) (mod : List Int) : Prop := ∀ d : Nat, 1 ≤ d → 2 * d ≤ mod.length → ∀ v : Int, 0 ≤ v → v < p ^ d → bDiv p (digs p d v) mod = false
noncomputable def bIrr (p : Int) (mod : List Int) : Bool := @decide (Irr p mod) (Classical.propDecidable _)
theorem bIrr_iff (p : Int) (mod : List Int) : bIrr p mod = true ↔ Irr p mod := by unfold bIrr; exact @decide_eq_true_iff _ (Classical.propDecidable _)
theorem bIrr_true {p : Int} {mod : List Int} (h : Irr p mod) : bIrr p mod = true := (bIrr_iff p mod).2 h
theorem bIrr_false {p : Int} {mod : List Int} (h : ¬ Irr p mod) : bIrr p mod = false := Bool.eq_false_iff.2 (fun h2 => h ((bIrr_iff p mod).1 h2))
def FldR (p m : Int) (mod : List Int) : Prop := ShpP p m mod ∧ (m = 1 ∨ Irr p mod)
open Classical in
noncomputable def chkF (p m : Int) (mod : List Int) : Int := if FldR p m mod then 0 else 1
theorem chkF_ok {p m : Int} {mod : List Int} (h : FldR p m mod) : chkF p m mod = 0 := by rw [chkF, if_pos h]
theorem chkF_no {p m : Int} {mod : List Int} (h : ¬ FldR p m mod) : chkF p m mod = 1 := by rw [chkF, if_neg h]
end Go.Proofs.YtdkahdehodopoaaGreat

set_option maxRecDepth 100000
namespace Go.Proofs.YtdkahdehodopoaaGreat
open Go.RowKit
theorem fld_digits_ent : Enters Tryz.prog 114 := enters_of Tryz.func114 (by kernel_rfl) (by kernel_rfl)
theorem fld_digits (x : Int) (hx : 0 ≤ x) (hx9 : x ≤ 9223372036854775807) (p : Int) (hp : 2 ≤ p) (hp2 : p ≤ 256) (m : Int) (hm : 0 ≤ m) (hm2 : m ≤ 64) :
  Pure Tryz.prog 114 #[.int .i64 x, .int .i64 p, .int .i64 m] [] (one (fun v ch => ∃ B, v = .slice B m.toNat m.toNat ∧ ch = ow B 3 m.toNat (ints (digs p m.toNat x)))) := by
 have hnn : ((m.toNat : Nat) : Int) = m := by omega
 refine pure_of (args := [.int .i64 x, .int .i64 p, .int .i64 m]) 27 Tryz.func114 rfl rfl rfl fld_digits_ent trivial (fun w0 => ?_)
 refine tS ?_
 refine tR fun _ _ _ => ?_
 refine pV ?_
 refine tS ?_
 refine tR fun _ _ _ => ?_
 refine pV ?_
 refine eV (eMakeI rfl rfl rfl rfl rfl (by omega) (by omega) (by omega) (fun A1 => ?_))
 refine pV ?_
 refine tS ?_
 refine tS ?_
 refine tR fun _ _ _ => ?_
 refine pV ?_
 refine sV (rLen rfl rfl) ?_
 rw [hnn]
 refine pV ?_
 refine tB ?_
 refine tr_loop3 (fun (k : Int) (x2 : Int) (l : List Int) => [(0, .int .i64 x2), (1, .int .i64 p), (2, .int .i64 m), (7, .slice A1 m.toNat m.toNat), (12, .int .i64 m), (13, .int .i64 k)]) (fun (k : Int) (x2 : Int) (l : List Int) => [ow A1 3 m.toNat (ints l)]) (fun (k : Int) (x2 : Int) (l : List Int) => 0 ≤ k ∧ k ≤ m ∧ (0 ≤ x2 ∧ x2 ≤ 9223372036854775807) ∧ l.length = m.toNat ∧ l.take k.toNat = digs p k.toNat x ∧ x2 = x / p ^ k.toNat) (fun (k : Int) (x2 : Int) (l : List Int) => (m - k).toNat) (0) (x) (List.replicate m.toNat 0) ⟨rfl, rfl, rfl, rfl, rfl, rfl, trivial⟩ (by first | exact cs _ _ | exact CSub.refl _) (⟨by omega, by omega, ⟨by omega, by omega⟩, by simp, by simp [digs], by simp⟩) (fun k x2 l hI => ?_)
 obtain ⟨hk0, hk1, ⟨hx2, hx3⟩, hl, htk, hxe⟩ := hI
 have hq0 := Int.ediv_nonneg hx2 (show 0 ≤ p by omega)
 have hq1 := Int.ediv_le_self p hx2
 refine tS ?_
 refine tR fun _ _ _ => ?_
 refine pV ?_
 refine tS ?_
 refine tC rfl (fun h3 => ?_) (fun h3 => ?_)
 ·try simp only [zbA] at h3
  refine tK ?_
  refine tS ?_
  refine tB ?_
  refine tS ?_
  refine tR fun _ _ _ => ?_
  iterate 2 refine pV ?_
  refine tS ?_
  refine tR fun _ _ _ => ?_
  iterate 4 refine pV ?_
  refine sV (rRem rfl rfl rfl (by omega) (by omega)) ?_
  refine sV (rIdxI rfl rfl rfl (by omega) (by omega) (by omega)) ?_
  refine eV (eStI rfl rfl rfl rfl (by omega) ?_)
  refine tR fun _ _ _ => ?_
  iterate 2 refine pV ?_
  refine sV (rQuo rfl rfl rfl (by omega) (by omega)) ?_
  refine pV ?_
  refine tR fun _ _ _ => ?_
  refine sV (rAdd rfl rfl rfl (by omega) (by omega)) ?_
  refine pV ?_
  refine ⟨k + 1, x2 / p, l.set k.toNat (x2 % p), ⟨rfl, rfl, rfl, rfl, rfl, rfl, trivial⟩, by first | exact cs _ _ | exact CSub.refl _, ?_⟩
  have hkk : (k + 1).toNat = k.toNat + 1 := by omega
  refine ⟨⟨by omega, by omega, ⟨hq0, by omega⟩, by simpa using hl, ?_, ?_⟩, by omega⟩
  ·rw [hkk, digs_snoc (by omega), ← htk, ← hxe, List.take_add_one, List.take_set_of_le (Nat.le_refl _), List.getElem?_set_self (by omega)]
   rfl
  ·rw [hkk, Int.pow_succ, hxe, Int.ediv_ediv_of_nonneg (Int.pow_nonneg (by omega))]
 ·try simp only [zbA] at h3
  refine tE ?_
  refine tS ?_
  refine tR fun _ _ _ => ?_
  iterate 2 refine pV ?_
  have hkm : k = m := by omega
  subst hkm
  rw [List.take_of_length_le (by omega)] at htk
  rw [htk]
  exact tr_ret ⟨trivial, _, _, rfl, ⟨_, rfl, _, rfl, rfl⟩, cs _ _, trivial, trivial⟩
theorem ref_digits_ent : Enters Tryz.prog 64 := enters_of Tryz.func64 (by kernel_rfl) (by kernel_rfl)
theorem ref_digits (x : Int) (hx : 0 ≤ x) (hx9 : x ≤ 9223372036854775807) (p : Int) (hp : 2 ≤ p) (hp2 : p ≤ 256) (m : Int) (hm : 0 ≤ m) (hm2 : m ≤ 64) :
  Pure Tryz.prog 64 #[.int .i64 x, .int .i64 p, .int .i64 m] [] (one (fun v ch => ∃ B, v = .slice B m.toNat m.toNat ∧ ch = ow B 3 m.toNat (ints (digs p m.toNat x)))) := by
 have hnn : ((m.toNat : Nat) : Int) = m := by omega
 refine pure_of (args := [.int .i64 x, .int .i64 p, .int .i64 m]) 26 Tryz.func64 rfl rfl rfl ref_digits_ent trivial (fun w0 => ?_)
 refine tS ?_
 refine tR fun _ _ _ => ?_
 refine pV ?_
 refine tS ?_
 refine tR fun _ _ _ => ?_
 refine pV ?_
 refine eV (eMakeI rfl rfl rfl rfl rfl (by omega) (by omega) (by omega) (fun A1 => ?_))
 refine pV ?_
 refine tS ?_
 refine tS ?_
 refine tR fun _ _ _ => ?_
 refine pV ?_
 refine tB ?_
 refine tr_loop3 (fun (k : Int) (x2 : Int) (l : List Int) => [(0, .int .i64 x2), (1, .int .i64 p), (2, .int .i64 m), (7, .slice A1 m.toNat m.toNat), (8, .int .i64 k)]) (fun (k : Int) (x2 : Int) (l : List Int) => [ow A1 3 m.toNat (ints l)]) (fun (k : Int) (x2 : Int) (l : List Int) => 0 ≤ k ∧ k ≤ m ∧ (0 ≤ x2 ∧ x2 ≤ 9223372036854775807) ∧ l.length = m.toNat ∧ l.take k.toNat = digs p k.toNat x ∧ x2 = x / p ^ k.toNat) (fun (k : Int) (x2 : Int) (l : List Int) => (m - k).toNat) (0) (x) (List.replicate m.toNat 0) ⟨rfl, rfl, rfl, rfl, rfl, trivial⟩ (by first | exact cs _ _ | exact CSub.refl _) (⟨by omega, by omega, ⟨by omega, by omega⟩, by simp, by simp [digs], by simp⟩) (fun k x2 l hI => ?_)
 obtain ⟨hk0, hk1, ⟨hx2, hx3⟩, hl, htk, hxe⟩ := hI
 have hq0 := Int.ediv_nonneg hx2 (show 0 ≤ p by omega)
 have hq1 := Int.ediv_le_self p hx2
 refine tS ?_
 refine tS ?_
 refine tR fun _ _ _ => ?_
 iterate 3 refine pV ?_
 refine tC rfl (fun h3 => ?_) (fun h3 => ?_)
 ·try simp only [zbA] at h3
  refine tK ?_
  refine tS ?_
  refine tB ?_
  refine tS ?_
  refine tR fun _ _ _ => ?_
  iterate 4 refine pV ?_
  refine sV (rRem rfl rfl rfl (by omega) (by omega)) ?_
  refine sV (rIdxI rfl rfl rfl (by omega) (by omega) (by omega)) ?_
  refine eV (eStI rfl rfl rfl rfl (by omega) ?_)
  refine tR fun _ _ _ => ?_
  iterate 2 refine pV ?_
  refine sV (rQuo rfl rfl rfl (by omega) (by omega)) ?_
  refine pV ?_
  refine tR fun _ _ _ => ?_
  refine pV ?_
  refine sV (rAdd rfl rfl rfl (by omega) (by omega)) ?_
  refine pV ?_
  refine ⟨k + 1, x2 / p, l.set k.toNat (x2 % p), ⟨rfl, rfl, rfl, rfl, rfl, trivial⟩, by first | exact cs _ _ | exact CSub.refl _, ?_⟩
  have hkk : (k + 1).toNat = k.toNat + 1 := by omega
  refine ⟨⟨by omega, by omega, ⟨hq0, by omega⟩, by simpa using hl, ?_, ?_⟩, by omega⟩
  ·rw [hkk, digs_snoc (by omega), ← htk, ← hxe, List.take_add_one, List.take_set_of_le (Nat.le_refl _), List.getElem?_set_self (by omega)]
   rfl
  ·rw [hkk, Int.pow_succ, hxe, Int.ediv_ediv_of_nonneg (Int.pow_nonneg (by omega))]
 ·try simp only [zbA] at h3
  refine tE ?_
  refine tS ?_
  refine tR fun _ _ _ => ?_
  iterate 2 refine pV ?_
  have hkm : k = m := by omega
  subst hkm
  rw [List.take_of_length_le (by omega)] at htk
  rw [htk]
  exact tr_ret ⟨trivial, _, _, rfl, ⟨_, rfl, _, rfl, rfl⟩, cs _ _, trivial, trivial⟩
theorem fld_value_ent : Enters Tryz.prog 115 := enters_of Tryz.func115 (by kernel_rfl) (by kernel_rfl)
theorem fld_value (A : Option Addr) (n c : Nat) (d : List Int) (p : Int) (hp : 2 ≤ p) (hp2 : p ≤ 256) (hn : n = d.length) (hn2 : n ≤ 64) (hd : AllIn p d) (hq : p ^ d.length ≤ 256) :
  Pure Tryz.prog 115 #[.slice A n c, .int .i64 p] [ro A (ints d)] (isV (.int .i64 (vl p d))) := by
 refine pure_of (args := [.slice A n c, .int .i64 p]) 23 Tryz.func115 rfl rfl rfl fld_value_ent ⟨id, trivial⟩ (fun w0 => ?_)
 refine tS ?_
 refine tR fun _ _ _ => ?_
 refine pV ?_
 refine tS ?_
 refine tR fun _ _ _ => ?_
 refine pV ?_
 refine tS ?_
 refine tS ?_
 refine tR fun _ _ _ => ?_
 refine pV ?_
 refine sV (rLen rfl rfl) ?_
 refine sV (rSub rfl rfl rfl (by omega) (by omega)) ?_
 refine pV ?_
 refine tB ?_
 refine tr_loop2 (fun (i : Int) (s : Int) => [(0, .slice A n c), (1, .int .i64 p), (5, .int .i64 s), (6, .int .i64 i)]) (fun (i : Int) (s : Int) => [ro A (ints d)]) (fun (i : Int) (s : Int) => -1 ≤ i ∧ i < d.length ∧ s = vl p (d.drop (i + 1).toNat)) (fun (i : Int) (s : Int) => (i + 1).toNat) ((n : Int) - 1) (0) ⟨rfl, rfl, rfl, rfl, trivial⟩ (by first | exact cs _ _ | exact CSub.refl _) (⟨by omega, by omega, by rw [List.drop_of_length_le (by omega)]; rfl⟩) (fun i s hI => ?_)
 obtain ⟨hi0, hi1, hs⟩ := hI
 have hv := vl_in (p := p) (by omega) (d.drop (i + 1).toNat) (fun c hc => hd c (List.mem_of_mem_drop hc))
 have hpb := pw_bd (p := p) (by omega) (k := (d.drop (i + 1).toNat).length) (m := d.length) (by simp)
 have hmb := mul_bd0 s p 256 256 (by omega) (by omega) (by omega) (by omega)
 have hgd := hd.get (by omega) i.toNat
 refine tS ?_
 refine tS ?_
 refine tR fun _ _ _ => ?_
 iterate 2 refine pV ?_
 refine tC rfl (fun h3 => ?_) (fun h3 => ?_)
 ·try simp only [zbA] at h3
  refine tK ?_
  refine tS ?_
  refine tB ?_
  refine tR fun _ _ _ => ?_
  iterate 2 refine pV ?_
  refine sV (rMul rfl rfl rfl (by omega) (by omega)) ?_
  iterate 2 refine pV ?_
  refine sV (rIdxI rfl rfl rfl (by omega) (by omega) (by omega)) ?_
  refine sV (rLdI rfl rfl (by omega)) ?_
  refine sV (rAdd rfl rfl rfl (by omega) (by omega)) ?_
  refine pV ?_
  refine tR fun _ _ _ => ?_
  refine pV ?_
  refine sV (rSub rfl rfl rfl (by omega) (by omega)) ?_
  refine pV ?_
  refine ⟨i - 1, s * p + d.getD i.toNat 0, ⟨rfl, rfl, rfl, rfl, trivial⟩, by first | exact cs _ _ | exact CSub.refl _, ?_⟩
  refine ⟨⟨by omega, by omega, ?_⟩, by omega⟩
  rw [show (i - 1 + 1).toNat = i.toNat by omega, drop_getD (show i.toNat < d.length by omega), vl, hs, show (i + 1).toNat = i.toNat + 1 by omega, Int.mul_comm, Int.add_comm]
 ·try simp only [zbA] at h3
  refine tE ?_
  refine tS ?_
  refine tR fun _ _ _ => ?_
  iterate 2 refine pV ?_
  have him : i = -1 := by omega
  subst him
  exact tr_ret ⟨trivial, _, _, rfl, ⟨by rw [hs]; simp, rfl⟩, CSub.nil _, trivial⟩
theorem fld_order_ent : Enters Tryz.prog 42 := enters_of Tryz.func42 (by kernel_rfl) (by kernel_rfl)
theorem fld_order (p m : Int) :
  Pure Tryz.prog 42 #[.int .i64 p, .int .i64 m] [] (isV (.int .i64 (ordI p m))) := by
 refine pure_of (args := [.int .i64 p, .int .i64 m]) 30 Tryz.func42 rfl rfl rfl fld_order_ent trivial (fun w0 => ?_)
 refine tS ?_
 refine tR fun _ _ _ => ?_
 refine pV ?_
 refine tS ?_
 refine tS ?_
 refine tR fun _ _ _ => ?_
 iterate 3 refine pV ?_
 refine stg rfl rfl rfl rfl rfl (fun hb => by (have hq := hb; try simp only [zbA] at hq); exact rMove rfl rfl) ?_
 refine stg rfl rfl rfl rfl rfl (fun hb => by (have hq := hb; try simp only [zbA] at hq); exact rGtr rfl (evg rfl hb) rfl) ?_
 refine sV (rOrB rfl rfl rfl rfl) ?_
 refine pV ?_
 refine stg rfl rfl rfl rfl rfl (fun hb => by (have hq := hb; try simp only [zbA] at hq); exact rMove rfl rfl) ?_
 refine stg rfl rfl rfl rfl rfl (fun hb => by (have hq := hb; try simp only [zbA] at hq); exact rLss rfl (evg rfl hb) rfl) ?_
 refine sV (rOrB rfl rfl rfl rfl) ?_
 refine pV ?_
 refine stg rfl rfl rfl rfl rfl (fun hb => by (have hq := hb; try simp only [zbA] at hq); exact rMove rfl rfl) ?_
 refine stg rfl rfl rfl rfl rfl (fun hb => by (have hq := hb; try simp only [zbA] at hq); exact rGtr rfl (evg rfl hb) rfl) ?_
 refine sV (rOrB rfl rfl rfl rfl) ?_
 refine tC rfl (fun h1 => ?_) (fun h1 => ?_)
 ·try simp only [zbA] at h1
  refine tS ?_
  refine tR fun _ _ _ => ?_
  refine pV ?_
  exact tr_ret ⟨trivial, _, _, rfl, ⟨by rw [ordI, if_pos (by omega)], rfl⟩, CSub.nil _, trivial⟩
 ·try simp only [zbA] at h1
  refine tK ?_
  refine tS ?_
  refine tR fun _ _ _ => ?_
  refine pV ?_
  refine tS ?_
  refine tS ?_
  refine tR fun _ _ _ => ?_
  iterate 2 refine pV ?_
  refine tB ?_
  refine tr_loop2 (fun (k : Int) (q : Int) => [(0, .int .i64 p), (1, .int .i64 m), (5, .int .i64 q), (20, .int .i64 m), (21, .int .i64 k)]) (fun (k : Int) (q : Int) => []) (fun (k : Int) (q : Int) => 0 ≤ k ∧ k ≤ m ∧ q ≤ 256 ∧ q = pw p k) (fun (k : Int) (q : Int) => (m - k).toNat) (0) (1) ⟨rfl, rfl, rfl, rfl, rfl, trivial⟩ (by first | exact cs _ _ | exact CSub.refl _) (⟨by omega, by omega, by omega, (pw_zero p).symm⟩) (fun k q hI => ?_)
  obtain ⟨hk0, hk1, hk2, hqe⟩ := hI
  have hp1 := pw_pos (p := p) (by omega) k
  have hmb := mul_bd0 q p 256 256 (by omega) (by omega) (by omega) (by omega)
  have hps := pw_succ p hk0
  refine tS ?_
  refine tR fun _ _ _ => ?_
  refine pV ?_
  refine tS ?_
  refine tC rfl (fun h5 => ?_) (fun h5 => ?_)
  ·try simp only [zbA] at h5
   refine tK ?_
   refine tS ?_
   refine tB ?_
   refine tS ?_
   refine tR fun _ _ _ => ?_
   iterate 2 refine pV ?_
   refine sV (rMul rfl rfl rfl (by omega) (by omega)) ?_
   refine pV ?_
   refine tS ?_
   refine tR fun _ _ _ => ?_
   iterate 2 refine pV ?_
   refine tC rfl (fun h7 => ?_) (fun h7 => ?_)
   ·try simp only [zbA] at h7
    refine tS ?_
    refine tR fun _ _ _ => ?_
    refine pV ?_
    exact tr_ret ⟨trivial, _, _, rfl, ⟨by rw [ord_bad (k := k + 1) (by omega) (by omega) (by omega) (by rw [hps, ← hqe]; omega)], rfl⟩, CSub.nil _, trivial⟩
   ·try simp only [zbA] at h7
    refine tK ?_
    refine tR fun _ _ _ => ?_
    refine sV (rAdd rfl rfl rfl (by omega) (by omega)) ?_
    refine pV ?_
    refine ⟨k + 1, q * p, ⟨rfl, rfl, rfl, rfl, rfl, trivial⟩, by first | exact cs _ _ | exact CSub.refl _, ?_⟩
    exact ⟨⟨by omega, by omega, by omega, by rw [hqe, hps]⟩, by omega⟩
  ·try simp only [zbA] at h5
   refine tE ?_
   refine tS ?_
   refine tR fun _ _ _ => ?_
   iterate 2 refine pV ?_
   have hkm : k = m := by omega
   subst hkm
   exact tr_ret ⟨trivial, _, _, rfl, ⟨by rw [ord_ok (by omega) (by omega) (by omega) (by omega) (by omega), hqe], rfl⟩, CSub.nil _, trivial⟩
theorem fld_isPrime_ent : Enters Tryz.prog 70 := enters_of Tryz.func70 (by kernel_rfl) (by kernel_rfl)
theorem fld_isPrime (n : Int) (hn : n ≤ 1000000) :
  Pure Tryz.prog 70 #[.int .i64 n] [] (isV (.bool (bIsP n))) := by
 refine pure_of (args := [.int .i64 n]) 17 Tryz.func70 rfl rfl rfl fld_isPrime_ent trivial (fun w0 => ?_)
 refine tS ?_
 refine tR fun _ _ _ => ?_
 refine pV ?_
 refine tS ?_
 refine tS ?_
 refine tR fun _ _ _ => ?_
 refine pV ?_
 refine tB ?_
 refine tr_loop1 (fun (d : Int) => [(0, .int .i64 n), (3, .int .i64 d)]) (fun (d : Int) => []) (fun (d : Int) => 2 ≤ d ∧ d ≤ 1000001 ∧ ∀ e, 2 ≤ e → e < d → n % e ≠ 0) (fun (d : Int) => (n + 1 - d).toNat) (2) ⟨rfl, rfl, trivial⟩ (by first | exact cs _ _ | exact CSub.refl _) (⟨by omega, by omega, fun e _ _ => by omega⟩) (fun d hI => ?_)
 obtain ⟨hd0, hd1, hd2⟩ := hI
 have hmb := mul_bd0 d d 1000001 1000001 (by omega) (by omega) (by omega) (by omega)
 have hdl : d * 2 ≤ d * d := Int.mul_le_mul_of_nonneg_left hd0 (by omega)
 refine tS ?_
 refine tS ?_
 refine tR fun _ _ _ => ?_
 iterate 2 refine pV ?_
 refine sV (rMul rfl rfl rfl (by omega) (by omega)) ?_
 iterate 2 refine pV ?_
 refine tC rfl (fun h2 => ?_) (fun h2 => ?_)
 ·try simp only [zbA] at h2
  refine tK ?_
  refine tS ?_
  refine tB ?_
  refine tS ?_
  refine tR fun _ _ _ => ?_
  iterate 2 refine pV ?_
  refine sV (rRem rfl rfl rfl (by omega) (by omega)) ?_
  refine pV ?_
  refine tC rfl (fun h4 => ?_) (fun h4 => ?_)
  ·try simp only [zbA] at h4
   refine tS ?_
   refine tR fun _ _ _ => ?_
   refine pV ?_
   exact tr_ret ⟨trivial, _, _, rfl, ⟨by rw [bIsP_false (not_isP hd0 (by omega) h4)], rfl⟩, CSub.nil _, trivial⟩
  ·try simp only [zbA] at h4
   refine tK ?_
   refine tR fun _ _ _ => ?_
   refine pV ?_
   refine sV (rAdd rfl rfl rfl (by omega) (by omega)) ?_
   refine pV ?_
   refine ⟨d + 1, ⟨rfl, rfl, trivial⟩, by first | exact cs _ _ | exact CSub.refl _, ?_⟩
   exact ⟨⟨by omega, by omega, fun e e0 e1 => by
    by_cases he : e = d
    ·subst he; exact h4
    ·exact hd2 e e0 (by omega)⟩, by omega⟩
 ·try simp only [zbA] at h2
  refine tE ?_
  refine tS ?_
  refine tR fun _ _ _ => ?_
  iterate 3 refine pV ?_
  have hb : decide (n ≥ 2) = bIsP n := by
   by_cases h : n ≥ 2
   ·rw [bIsP_true (isP_of hd0 h hd2 (by omega)), decide_eq_true h]
   ·rw [bIsP_false (fun h2 => h h2.1), decide_eq_false h]
  exact tr_ret ⟨trivial, _, _, rfl, ⟨by rw [hb], rfl⟩, CSub.nil _, trivial⟩
theorem ref_prime_ent : Enters Tryz.prog 31 := enters_of Tryz.func31 (by kernel_rfl) (by kernel_rfl)
theorem ref_prime (n : Int) (hn0 : 2 ≤ n) (hn : n ≤ 1000000) :
  Pure Tryz.prog 31 #[.int .i64 n] [] (isV (.bool (bIsP n))) := by
 refine pure_of (args := [.int .i64 n]) 13 Tryz.func31 rfl rfl rfl ref_prime_ent trivial (fun w0 => ?_)
 refine tS ?_
 refine tR fun _ _ _ => ?_
 refine pV ?_
 refine tS ?_
 refine tS ?_
 refine tR fun _ _ _ => ?_
 refine pV ?_
 refine tB ?_
 refine tr_loop1 (fun (d : Int) => [(0, .int .i64 n), (3, .int .i64 d)]) (fun (d : Int) => []) (fun (d : Int) => 2 ≤ d ∧ d ≤ n ∧ ∀ e, 2 ≤ e → e < d → n % e ≠ 0) (fun (d : Int) => (n + 1 - d).toNat) (2) ⟨rfl, rfl, trivial⟩ (by first | exact cs _ _ | exact CSub.refl _) (⟨by omega, by omega, fun e _ _ => by omega⟩) (fun d hI => ?_)
 obtain ⟨hd0, hd1, hd2⟩ := hI
 refine tS ?_
 refine tS ?_
 refine tR fun _ _ _ => ?_
 iterate 3 refine pV ?_
 refine tC rfl (fun h2 => ?_) (fun h2 => ?_)
 ·try simp only [zbA] at h2
  refine tK ?_
  refine tS ?_
  refine tB ?_
  refine tS ?_
  refine tR fun _ _ _ => ?_
  iterate 2 refine pV ?_
  refine sV (rRem rfl rfl rfl (by omega) (by omega)) ?_
  refine pV ?_
  refine tC rfl (fun h4 => ?_) (fun h4 => ?_)
  ·try simp only [zbA] at h4
   refine tS ?_
   refine tR fun _ _ _ => ?_
   refine pV ?_
   exact tr_ret ⟨trivial, _, _, rfl, ⟨by rw [bIsP_false (not_isP hd0 (by omega) h4)], rfl⟩, CSub.nil _, trivial⟩
  ·try simp only [zbA] at h4
   refine tK ?_
   refine tR fun _ _ _ => ?_
   refine pV ?_
   refine sV (rAdd rfl rfl rfl (by omega) (by omega)) ?_
   refine pV ?_
   refine ⟨d + 1, ⟨rfl, rfl, trivial⟩, by first | exact cs _ _ | exact CSub.refl _, ?_⟩
   exact ⟨⟨by omega, by omega, fun e e0 e1 => by
    by_cases he : e = d
    ·subst he; exact h4
    ·exact hd2 e e0 (by omega)⟩, by omega⟩
 ·try simp only [zbA] at h2
  refine tE ?_
  refine tS ?_
  refine tR fun _ _ _ => ?_
  refine pV ?_
  exact tr_ret ⟨trivial, _, _, rfl, ⟨by rw [bIsP_true ⟨hn0, fun e e0 e1 => hd2 e e0 (by omega)⟩], rfl⟩, CSub.nil _, trivial⟩
theorem ref_order_ent : Enters Tryz.prog 14 := enters_of Tryz.func14 (by kernel_rfl) (by kernel_rfl)
theorem ref_order (p m : Int) (A : Option Addr) (c : Nat) (mod : List Int) :
  Pure Tryz.prog 14 #[.agg #[.int .i64 p, .int .i64 m, .slice A mod.length c]] [ro A (ints mod)] (isV (.int .i64 (ordI p m))) := by
 refine pure_of (args := [.agg #[.int .i64 p, .int .i64 m, .slice A mod.length c]]) 34 Tryz.func14 rfl rfl rfl ref_order_ent ⟨id, trivial⟩ (fun w0 => ?_)
 refine tS ?_
 refine tR fun _ _ _ => ?_
 refine eV (eBox rfl rfl rfl rfl rfl (fun p0 => ?_))
 refine pV ?_
 refine tS ?_
 refine tS ?_
 refine tR fun _ _ _ => ?_
 refine sV (rFld rfl rfl) ?_
 refine sV (rLdF rfl rfl rfl) ?_
 iterate 2 refine pV ?_
 refine stg rfl rfl rfl rfl rfl (fun hb => by (have hq := hb; try simp only [zbA] at hq); exact rFld rfl rfl) ?_
 refine stg rfl rfl rfl rfl rfl (fun hb => by (have hq := hb; try simp only [zbA] at hq); exact rLdF rfl (evg rfl hb) rfl) ?_
 refine stg rfl rfl rfl rfl rfl (fun hb => by (have hq := hb; try simp only [zbA] at hq); exact rLss rfl (evg rfl hb) rfl) ?_
 refine sV (rOrB rfl rfl rfl rfl) ?_
 refine pV ?_
 refine stg rfl rfl rfl rfl rfl (fun hb => by (have hq := hb; try simp only [zbA] at hq); exact rFld rfl rfl) ?_
 refine stg rfl rfl rfl rfl rfl (fun hb => by (have hq := hb; try simp only [zbA] at hq); exact rLdF rfl (evg rfl hb) rfl) ?_
 refine stg rfl rfl rfl rfl rfl (fun hb => by (have hq := hb; try simp only [zbA] at hq); exact rGtr rfl (evg rfl hb) rfl) ?_
 refine sV (rOrB rfl rfl rfl rfl) ?_
 refine tC rfl (fun h1 => ?_) (fun h1 => ?_)
 ·try simp only [zbA] at h1
  refine tS ?_
  refine tR fun _ _ _ => ?_
  refine pV ?_
  exact tr_ret ⟨trivial, _, _, rfl, ⟨by rw [ordI, if_pos (by omega)], rfl⟩, CSub.nil _, trivial⟩
 ·try simp only [zbA] at h1
  refine tK ?_
  refine tS ?_
  refine tR fun _ _ _ => ?_
  refine pV ?_
  refine tS ?_
  refine tS ?_
  refine tR fun _ _ _ => ?_
  refine pV ?_
  refine tB ?_
  refine tr_loop2 (fun (k : Int) (q : Int) => [(1, .pointer (some p0)), (3, .int .i64 q), (4, .int .i64 k)]) (fun (k : Int) (q : Int) => [blk p0 24 [.int .i64 p, .int .i64 m, .slice A mod.length c]]) (fun (k : Int) (q : Int) => (0 ≤ k ∧ k ≤ m) ∧ q ≤ 256 ∧ q = pw p k ∧ (p > 256 → k = 0)) (fun (k : Int) (q : Int) => (m - k).toNat) (0) (1) ⟨rfl, rfl, rfl, trivial⟩ (by first | exact cs _ _ | exact CSub.refl _) (⟨⟨by omega, by omega⟩, by omega, (pw_zero p).symm, fun _ => rfl⟩) (fun k q hI => ?_)
  obtain ⟨⟨hk0, hk1⟩, hk2, hqe, hpk⟩ := hI
  have hp1 := pw_pos (p := p) (by omega) k
  have hps := pw_succ p hk0
  have hdiv := Int.ediv_lt_iff_lt_mul (a := 256) (b := q) (c := p) (by omega)
  have hqp : q * p = pw p (k + 1) := by rw [hqe, hps]
  rw [hqp] at hdiv
  refine tS ?_
  refine tS ?_
  refine tR fun _ _ _ => ?_
  refine pV ?_
  refine sV (rFld rfl rfl) ?_
  refine sV (rLdF rfl rfl rfl) ?_
  refine pV ?_
  refine tC rfl (fun h5 => ?_) (fun h5 => ?_)
  ·try simp only [zbA] at h5
   refine tK ?_
   refine tS ?_
   refine tB ?_
   refine tS ?_
   refine tS ?_
   refine tR fun _ _ _ => ?_
   refine pV ?_
   refine sV (rFld rfl rfl) ?_
   refine sV (rLdF rfl rfl rfl) ?_
   refine sV (rQuo rfl rfl rfl (by omega) (by omega)) ?_
   refine pV ?_
   refine tC rfl (fun h7 => ?_) (fun h7 => ?_)
   ·try simp only [zbA] at h7
    refine tS ?_
    refine tR fun _ _ _ => ?_
    refine pV ?_
    exact tr_ret ⟨trivial, _, _, rfl, ⟨by rw [ord_bad (k := k + 1) (by omega) (by omega) (by omega) (by omega)], rfl⟩, CSub.nil _, trivial⟩
   ·try simp only [zbA] at h7
    refine tK ?_
    have hqpn : 0 ≤ q * p := Int.mul_nonneg (by omega) (by omega)
    refine tR fun _ _ _ => ?_
    refine pV ?_
    refine sV (rFld rfl rfl) ?_
    refine sV (rLdF rfl rfl rfl) ?_
    refine sV (rMul rfl rfl rfl (by omega) (by omega)) ?_
    refine pV ?_
    refine tR fun _ _ _ => ?_
    refine pV ?_
    refine sV (rAdd rfl rfl rfl (by omega) (by omega)) ?_
    refine pV ?_
    refine ⟨k + 1, q * p, ⟨rfl, rfl, rfl, trivial⟩, by first | exact cs _ _ | exact CSub.refl _, ?_⟩
    exact ⟨⟨⟨by omega, by omega⟩, by rw [hqe, ← hps]; omega, by rw [hqe, hps], fun h => by
     have h1 := pw_mono (p := p) (by omega) (a := 1) (b := k + 1) (by omega) (by omega)
     have h2 := pw_succ p (k := 0) (by omega)
     rw [pw_zero, Int.zero_add, Int.one_mul] at h2
     omega⟩, by omega⟩
  ·try simp only [zbA] at h5
   refine tE ?_
   refine tS ?_
   refine tR fun _ _ _ => ?_
   iterate 2 refine pV ?_
   have hkm : k = m := by omega
   subst hkm
   exact tr_ret ⟨trivial, _, _, rfl, ⟨by rw [ord_ok (by omega) (by omega) (by omega) (by omega) (by omega), hqe], rfl⟩, CSub.nil _, trivial⟩
end Go.Proofs.YtdkahdehodopoaaGreat

set_option maxRecDepth 100000
namespace Go.Proofs.YtdkahdehodopoaaGreat
open Go.RowKit
theorem fld_mul_ent : Enters Tryz.prog 72 := enters_of Tryz.func72 (by kernel_rfl) (by kernel_rfl)
theorem fld_mul (p m : Int) (A : Option Addr) (c : Nat) (mod : List Int) (hs : Shp p m mod) (x y : Int) (hx : 0 ≤ x) (hx9 : x ≤ 256) (hy : 0 ≤ y) (hy9 : y ≤ 256) :
  Pure Tryz.prog 72 #[.agg #[.int .i64 p, .int .i64 m, .slice A mod.length c], .int .i64 x, .int .i64 y] [ro A (ints mod)] (isV (.int .i64 (mulI p m mod x y))) := by
 have hnn : ((m.toNat : Nat) : Int) = m := by have := hs.m1; omega
 have hp2 := hs.p2
 have hp9 := hs.p9
 have hm1 := hs.m1
 have hm8 := hs.m8
 have hqq := hs.q
 have hlow := hs.low
 have hdx := digs_length p m.toNat x
 have hdy := digs_length p m.toNat y
 have hdxi := digs_in (p := p) (by omega) m.toNat x
 have hdyi := digs_in (p := p) (by omega) m.toNat y
 have hmi := hs.ent
 refine pure_of (args := [.agg #[.int .i64 p, .int .i64 m, .slice A mod.length c], .int .i64 x, .int .i64 y]) 97 Tryz.func72 rfl rfl rfl fld_mul_ent ⟨id, trivial⟩ (fun w0 => ?_)
 refine tS ?_
 refine tR fun _ _ _ => ?_
 refine eV (eBox rfl rfl rfl rfl rfl (fun p0 => ?_))
 refine pV ?_
 refine tS ?_
 refine tr_draw [0, 1, 2, 3, 4, 6, 7, 8, 9, 10, 5, 11, 12, 13] [] mixed (by kernel_rfl) fun _ _ _ => ?_
 refine pV ?_
 refine sV (rFld rfl rfl) ?_
 refine sV (rLdF rfl rfl rfl) ?_
 refine sV (rFld rfl rfl) ?_
 refine sV (rLdF rfl rfl rfl) ?_
 refine pV ?_
 refine sV (rFld rfl rfl) ?_
 refine sV (rLdF rfl rfl rfl) ?_
 refine sV (rFld rfl rfl) ?_
 refine sV (rLdF rfl rfl rfl) ?_
 refine eV (eCall1 rfl rfl rfl (fld_digits _ (by omega) (by omega) _ (by omega) (by omega) _ (by omega) (by omega)) ⟨rfl, rfl, rfl, trivial⟩ ?_)
 rintro _ _ ⟨B1, rfl, rfl⟩
 refine eV (eCall1 rfl rfl rfl (fld_digits _ (by omega) (by omega) _ (by omega) (by omega) _ (by omega) (by omega)) ⟨rfl, rfl, rfl, trivial⟩ ?_)
 rintro _ _ ⟨B1a, rfl, rfl⟩
 iterate 2 refine pV ?_
 refine tS ?_
 refine tR fun _ _ _ => ?_
 refine sV (rFld rfl rfl) ?_
 refine sV (rLdF rfl rfl rfl) ?_
 refine eV (eMakeI rfl rfl rfl rfl rfl (by omega) (by omega) (by omega) (fun A2 => ?_))
 refine pV ?_
 refine tS ?_
 refine tS ?_
 refine tR fun _ _ _ => ?_
 refine sV (rFld rfl rfl) ?_
 refine sV (rLdF rfl rfl rfl) ?_
 refine sV (rSub rfl rfl rfl (by omega) (by omega)) ?_
 refine pV ?_
 refine tB ?_
 refine tr_loop2 (fun (i : Int) (o : List Int) => [(3, .pointer (some p0)), (7, .slice B1 m.toNat m.toNat), (8, .slice B1a m.toNat m.toNat), (9, .slice A2 m.toNat m.toNat), (10, .int .i64 i)]) (fun (i : Int) (o : List Int) => [ow A2 3 m.toNat (ints o), ow B1a 3 m.toNat (ints (digs p m.toNat y)), ow B1 3 m.toNat (ints (digs p m.toNat x)), blk p0 24 [.int .i64 p, .int .i64 m, .slice A mod.length c], ro A (ints mod)]) (fun (i : Int) (o : List Int) => -1 ≤ i ∧ i < m ∧ o = hmulL p mod (digs p m.toNat x) m.toNat ((digs p m.toNat y).drop (i + 1).toNat)) (fun (i : Int) (o : List Int) => (i + 1).toNat) (m - 1) (List.replicate m.toNat 0) ⟨rfl, rfl, rfl, rfl, rfl, trivial⟩ (by first | exact cs _ _ | exact CSub.refl _) (⟨by omega, by omega, by rw [List.drop_of_length_le (by omega)]; rfl⟩) (fun i o hI => ?_)
 obtain ⟨hi0, hi1, ho⟩ := hI
 have hol : o.length = m.toNat := by rw [ho, hmulL_length]
 have hoi : AllIn p o := by rw [ho]; exact hmulL_in (by omega) _ _ _ _
 refine tS ?_
 refine tS ?_
 refine tR fun _ _ _ => ?_
 iterate 2 refine pV ?_
 refine tC rfl (fun h4 => ?_) (fun h4 => ?_)
 ·try simp only [zbA] at h4
  refine tK ?_
  refine tS ?_
  refine tB ?_
  refine tS ?_
  refine tR fun _ _ _ => ?_
  refine pV ?_
  refine sV (rFld rfl rfl) ?_
  refine sV (rLdF rfl rfl rfl) ?_
  refine sV (rSub rfl rfl rfl (by omega) (by omega)) ?_
  refine sV (rIdxI rfl rfl rfl (by omega) (by omega) (by omega)) ?_
  refine sV (rLdI rfl rfl (by omega)) ?_
  refine pV ?_
  refine tS ?_
  refine tr_draw [0, 1, 2, 3, 4, 5, 6] [7] mixed (by kernel_rfl) fun _ _ _ => ?_
  refine pV ?_
  refine sV (rCut rfl rfl rfl (by omega) (by omega) (by omega)) ?_
  refine pV ?_
  refine sV (rFld rfl rfl) ?_
  refine sV (rLdF rfl rfl rfl) ?_
  refine sV (rSub rfl rfl rfl (by omega) (by omega)) ?_
  refine sV (rCutHi rfl rfl rfl (by omega) (by omega)) ?_
  refine eV (eCopyI rfl rfl rfl rfl rfl rfl (by first | omega | (simp; omega)) (by first | omega | (simp; omega)) ?_)
  have h1n : ((1 : Int)).toNat = 1 := rfl
  have hcp : o.take ((1 : Int)).toNat ++ o.take (min (m - 1).toNat (m.toNat - ((1 : Int)).toNat)) ++ o.drop (((1 : Int)).toNat + min (m - 1).toNat (m.toNat - ((1 : Int)).toNat)) = o.take 1 ++ o.take (m.toNat - 1) := by
   rw [h1n, show min (m - 1).toNat (m.toNat - 1) = m.toNat - 1 by omega, List.drop_of_length_le (by omega), List.append_nil]
  have hcl : (o.take 1 ++ o.take (m.toNat - 1)).length = m.toNat := by simp; omega
  have hcopy : ∀ k : Nat, k < m.toNat → ((o.take 1 ++ o.take (m.toNat - 1)).set 0 0).getD k 0 = hprev o k := fun k hk => by
   rw [getD_set]
   unfold hprev
   by_cases hk0 : k = 0
   ·subst hk0; rw [if_pos ⟨rfl, by omega⟩, if_pos rfl]
   ·rw [if_neg (by omega), if_neg hk0, List.getD_eq_getElem?_getD, List.getElem?_append_right (by simp; omega), List.getElem?_take, if_pos (by simp; omega), List.getD_eq_getElem?_getD]
    simp
    rw [show k - min 1 o.length = k - 1 by omega]
  rw [hcp]
  refine tS ?_
  refine tR fun _ _ _ => ?_
  refine pV ?_
  refine sV (rIdxI rfl rfl rfl (by omega) (by omega) (by omega)) ?_
  refine eV (eStI rfl rfl rfl rfl (by omega) ?_)
  refine tS ?_
  refine tR fun _ _ _ => ?_
  refine pV ?_
  refine sV (rLen rfl rfl) ?_
  rw [hnn]
  refine pV ?_
  refine tB ?_
  refine tr_loop2 (fun (j : Int) (l : List Int) => [(3, .pointer (some p0)), (7, .slice B1 m.toNat m.toNat), (8, .slice B1a m.toNat m.toNat), (9, .slice A2 m.toNat m.toNat), (10, .int .i64 i), (11, .int .i64 (o.getD (m - 1).toNat 0)), (53, .int .i64 m), (54, .int .i64 j)]) (fun (j : Int) (l : List Int) => [ow A2 3 m.toNat (ints l), ow B1a 3 m.toNat (ints (digs p m.toNat y)), ow B1 3 m.toNat (ints (digs p m.toNat x)), blk p0 24 [.int .i64 p, .int .i64 m, .slice A mod.length c], ro A (ints mod)]) (fun (j : Int) (l : List Int) => 0 ≤ j ∧ j ≤ m ∧ l.length = m.toNat ∧ (∀ k : Nat, (k : Int) < j → k < m.toNat → l.getD k 0 = hent p mod (digs p m.toNat x) o ((digs p m.toNat y).getD i.toNat 0) k) ∧ ∀ k : Nat, j ≤ k → k < m.toNat → l.getD k 0 = hprev o k) (fun (j : Int) (l : List Int) => (m - j).toNat) (0) ((o.take 1 ++ o.take (m.toNat - 1)).set 0 0) ⟨rfl, rfl, rfl, rfl, rfl, rfl, rfl, rfl, trivial⟩ (by first | exact cs _ _ | exact CSub.refl _) (⟨by omega, by omega, by simp; omega, fun k k0 k1 => by omega, fun k k0 k1 => hcopy k k1⟩) (fun j l hI => ?_)
  obtain ⟨hj0, hj1, hl, hdone, htodo⟩ := hI
  have htop := hoi.get (by omega) (m - 1).toNat
  have hg1 := hmi.get (by omega) j.toNat
  have hg2 := hdxi.get (by omega) j.toNat
  have hg3 := hdyi.get (by omega) i.toNat
  have hmb1 := mul_bd0 (p - o.getD (m - 1).toNat 0) (mod.getD j.toNat 0) 256 256 (by omega) (by omega) (by omega) (by omega)
  have hmb2 := mul_bd0 ((digs p m.toNat y).getD i.toNat 0) ((digs p m.toNat x).getD j.toNat 0) 256 256 (by omega) (by omega) (by omega) (by omega)
  have hg4 : j < m → l.getD j.toNat 0 = hprev o j.toNat := fun h => htodo j.toNat (by omega) (by omega)
  have hg5 : 0 ≤ hprev o j.toNat ∧ hprev o j.toNat < p := by
   unfold hprev; split
   ·omega
   ·exact hoi.get (by omega) _
  have hent0 : hent p mod (digs p m.toNat x) o ((digs p m.toNat y).getD i.toNat 0) j.toNat = (hprev o j.toNat + (p - o.getD (m - 1).toNat 0) * mod.getD j.toNat 0 + (digs p m.toNat y).getD i.toNat 0 * (digs p m.toNat x).getD j.toNat 0) % p := by
   unfold hent; rw [hol, show m.toNat - 1 = (m - 1).toNat by omega]
  have hm10 : m = 1 → mod.getD j.toNat 0 = 0 := fun h => by
   rcases hlow with h1 | h1
   ·rw [h1.2]; rfl
   ·omega
  refine tS ?_
  refine tR fun _ _ _ => ?_
  refine pV ?_
  refine tS ?_
  refine tC rfl (fun h10 => ?_) (fun h10 => ?_)
  ·try simp only [zbA] at h10
   refine tK ?_
   refine tS ?_
   refine tB ?_
   refine tS ?_
   refine tR fun _ _ _ => ?_
   iterate 2 refine pV ?_
   refine tS ?_
   refine tR fun _ _ _ => ?_
   refine pV ?_
   refine tS ?_
   refine tS ?_
   refine tR fun _ _ _ => ?_
   refine sV (rFld rfl rfl) ?_
   refine sV (rLdF rfl rfl rfl) ?_
   refine pV ?_
   refine tC rfl (fun h13 => ?_) (fun h13 => ?_)
   ·try simp only [zbA] at h13
    refine tR fun _ _ _ => ?_
    refine sV (rFld rfl rfl) ?_
    refine sV (rLdF rfl rfl rfl) ?_
    refine pV ?_
    refine sV (rIdxI rfl rfl rfl (by omega) (by omega) (by omega)) ?_
    refine sV (rLdI rfl rfl (by omega)) ?_
    refine pV ?_
    refine tr_draw [0, 1, 2, 3, 4, 5, 6, 7, 8, 9, 10, 11, 12, 13, 14, 15, 16, 17, 18, 19, 20, 21, 22, 23, 24, 25, 26] [27] mixed (by kernel_rfl) fun _ _ _ => ?_
    iterate 4 refine pV ?_
    refine sV (rIdxI rfl rfl rfl (by omega) (by omega) (by omega)) ?_
    refine sV (rLdI rfl rfl (by omega)) ?_
    refine sV (rFld rfl rfl) ?_
    refine sV (rLdF rfl rfl rfl) ?_
    refine pV ?_
    refine sV (rSub rfl rfl rfl (by omega) (by omega)) ?_
    refine pV ?_
    refine sV (rMul rfl rfl rfl (by omega) (by omega)) ?_
    refine sV (rAdd rfl rfl rfl (by omega) (by omega)) ?_
    iterate 2 refine pV ?_
    refine sV (rIdxI rfl rfl rfl (by omega) (by omega) (by omega)) ?_
    refine sV (rLdI rfl rfl (by omega)) ?_
    iterate 2 refine pV ?_
    refine sV (rIdxI rfl rfl rfl (by omega) (by omega) (by omega)) ?_
    refine sV (rLdI rfl rfl (by omega)) ?_
    refine sV (rMul rfl rfl rfl (by omega) (by omega)) ?_
    refine sV (rAdd rfl rfl rfl (by omega) (by omega)) ?_
    refine sV (rFld rfl rfl) ?_
    refine sV (rLdF rfl rfl rfl) ?_
    refine sV (rRem rfl rfl rfl (by omega) (by omega)) ?_
    refine sV (rIdxI rfl rfl rfl (by omega) (by omega) (by omega)) ?_
    refine eV (eStI rfl rfl rfl rfl (by omega) ?_)
    refine tR fun _ _ _ => ?_
    refine sV (rAdd rfl rfl rfl (by omega) (by omega)) ?_
    refine pV ?_
    refine ⟨j + 1, l.set j.toNat ((l.getD j.toNat 0 + (p - o.getD (m - 1).toNat 0) * mod.getD j.toNat 0 + (digs p m.toNat y).getD i.toNat 0 * (digs p m.toNat x).getD j.toNat 0) % p), ⟨rfl, rfl, rfl, rfl, rfl, rfl, rfl, rfl, trivial⟩, by first | exact cs _ _ | exact CSub.refl _, ?_⟩
    have hval : (l.getD j.toNat 0 + (p - o.getD (m - 1).toNat 0) * mod.getD j.toNat 0 + (digs p m.toNat y).getD i.toNat 0 * (digs p m.toNat x).getD j.toNat 0) % p = hent p mod (digs p m.toNat x) o ((digs p m.toNat y).getD i.toNat 0) j.toNat := by rw [hent0, hg4 h10]
    rw [hval]
    exact ⟨⟨by omega, by omega, by simpa using hl, fun k k0 k1 => by
     rw [getD_set]
     by_cases hkj : j.toNat = k
     ·subst hkj; rw [if_pos ⟨rfl, by omega⟩]
     ·rw [if_neg (by omega)]; exact hdone k (by omega) k1, fun k k0 k1 => by
     rw [getD_set, if_neg (by omega)]; exact htodo k (by omega) k1⟩, by omega⟩
   ·try simp only [zbA] at h13
    refine tK ?_
    refine tr_draw [0, 1, 2, 3, 4, 5, 6, 7, 8, 9, 10, 11, 12, 13, 14, 15, 16, 17, 18, 19, 20, 21, 22, 23, 24, 25, 26] [27] mixed (by kernel_rfl) fun _ _ _ => ?_
    iterate 4 refine pV ?_
    refine sV (rIdxI rfl rfl rfl (by omega) (by omega) (by omega)) ?_
    refine sV (rLdI rfl rfl (by omega)) ?_
    refine sV (rFld rfl rfl) ?_
    refine sV (rLdF rfl rfl rfl) ?_
    refine pV ?_
    refine sV (rSub rfl rfl rfl (by omega) (by omega)) ?_
    refine pV ?_
    refine sV (rMul rfl rfl rfl (by omega) (by omega)) ?_
    refine sV (rAdd rfl rfl rfl (by omega) (by omega)) ?_
    iterate 2 refine pV ?_
    refine sV (rIdxI rfl rfl rfl (by omega) (by omega) (by omega)) ?_
    refine sV (rLdI rfl rfl (by omega)) ?_
    iterate 2 refine pV ?_
    refine sV (rIdxI rfl rfl rfl (by omega) (by omega) (by omega)) ?_
    refine sV (rLdI rfl rfl (by omega)) ?_
    refine sV (rMul rfl rfl rfl (by omega) (by omega)) ?_
    refine sV (rAdd rfl rfl rfl (by omega) (by omega)) ?_
    refine sV (rFld rfl rfl) ?_
    refine sV (rLdF rfl rfl rfl) ?_
    refine sV (rRem rfl rfl rfl (by omega) (by omega)) ?_
    refine sV (rIdxI rfl rfl rfl (by omega) (by omega) (by omega)) ?_
    refine eV (eStI rfl rfl rfl rfl (by omega) ?_)
    refine tR fun _ _ _ => ?_
    refine sV (rAdd rfl rfl rfl (by omega) (by omega)) ?_
    refine pV ?_
    refine ⟨j + 1, l.set j.toNat ((l.getD j.toNat 0 + (p - o.getD (m - 1).toNat 0) * 0 + (digs p m.toNat y).getD i.toNat 0 * (digs p m.toNat x).getD j.toNat 0) % p), ⟨rfl, rfl, rfl, rfl, rfl, rfl, rfl, rfl, trivial⟩, by first | exact cs _ _ | exact CSub.refl _, ?_⟩
    have hval : (l.getD j.toNat 0 + (p - o.getD (m - 1).toNat 0) * 0 + (digs p m.toNat y).getD i.toNat 0 * (digs p m.toNat x).getD j.toNat 0) % p = hent p mod (digs p m.toNat x) o ((digs p m.toNat y).getD i.toNat 0) j.toNat := by rw [hent0, hg4 h10, hm10 (by omega)]
    rw [hval]
    exact ⟨⟨by omega, by omega, by simpa using hl, fun k k0 k1 => by
     rw [getD_set]
     by_cases hkj : j.toNat = k
     ·subst hkj; rw [if_pos ⟨rfl, by omega⟩]
     ·rw [if_neg (by omega)]; exact hdone k (by omega) k1, fun k k0 k1 => by
     rw [getD_set, if_neg (by omega)]; exact htodo k (by omega) k1⟩, by omega⟩
  ·try simp only [zbA] at h10
   refine tE ?_
   refine tR fun _ _ _ => ?_
   refine pV ?_
   refine sV (rSub rfl rfl rfl (by omega) (by omega)) ?_
   refine pV ?_
   refine ⟨i - 1, l, ⟨rfl, rfl, rfl, rfl, rfl, trivial⟩, by first | exact cs _ _ | exact CSub.refl _, ?_⟩
   refine ⟨⟨by omega, by omega, ?_⟩, by omega⟩
   rw [show (i - 1 + 1).toNat = i.toNat by omega, drop_getD (show i.toNat < (digs p m.toNat y).length by omega), hmulL, show i.toNat + 1 = (i + 1).toNat by omega, ← ho]
   exact hstep_of (by omega) (fun k hk => hdone k (by omega) (by omega))
 ·try simp only [zbA] at h4
  refine tE ?_
  refine tS ?_
  have him : i = -1 := by omega
  have hpm : p ^ o.length ≤ 256 := by rw [hol]; exact hqq
  refine tR fun _ _ _ => ?_
  refine pV ?_
  refine sV (rFld rfl rfl) ?_
  refine sV (rLdF rfl rfl rfl) ?_
  refine eV (eCallV rfl rfl rfl (fld_value _ _ _ o _ (by omega) (by omega) (by omega) (by omega) hoi (by omega)) ⟨rfl, rfl, trivial⟩ ?_)
  refine pV ?_
  have him : i = -1 := by omega
  subst him
  exact tr_ret ⟨trivial, _, _, rfl, ⟨by
   rw [mulI, ho]; rfl, rfl⟩, CSub.nil _, trivial⟩
theorem fld_powers_ent : Enters Tryz.prog 71 := enters_of Tryz.func71 (by kernel_rfl) (by kernel_rfl)
theorem fld_powers (p m : Int) (A : Option Addr) (c : Nat) (mod : List Int) (hs : Shp p m mod) (q : Int) (hq : q = pw p m) (x : Int) (hx : 1 ≤ x) (hx9 : x < q) :
  Pure Tryz.prog 71 #[.agg #[.int .i64 p, .int .i64 m, .slice A mod.length c], .int .i64 q, .int .i64 x] [ro A (ints mod)] (one (fun v ch => ∃ B l cap, v = .slice B l.length cap ∧ PowOk p m mod x l ∧ ch = ow B 3 cap (ints l))) := by
 have hp2 := hs.p2
 have hp9 := hs.p9
 have hm1 := hs.m1
 have hm8 := hs.m8
 have hqq := hs.q
 have hq2 : 2 ≤ pw p m := by
  have h1 := pw_mono (p := p) (by omega) (a := 1) (b := m) (by omega) hm1
  have h2 := pw_succ p (k := 0) (by omega)
  rw [pw_zero, Int.zero_add, Int.one_mul] at h2
  omega
 have hrl : (List.replicate q.toNat false).length = q.toNat := by simp
 refine pure_of (args := [.agg #[.int .i64 p, .int .i64 m, .slice A mod.length c], .int .i64 q, .int .i64 x]) 37 Tryz.func71 rfl rfl rfl fld_powers_ent ⟨id, trivial⟩ (fun w0 => ?_)
 refine tS ?_
 refine tR fun _ _ _ => ?_
 refine eV (eBox rfl rfl rfl rfl rfl (fun p0 => ?_))
 refine pV ?_
 refine tS ?_
 refine tR fun _ _ _ => ?_
 refine eV (eLit1I rfl rfl rfl rfl (fun A1 => ?_))
 refine pV ?_
 refine tS ?_
 refine tR fun _ _ _ => ?_
 refine pV ?_
 refine eV (eMakeB rfl rfl rfl rfl rfl (by omega) (by omega) (by omega) (fun A2 => ?_))
 refine pV ?_
 refine tS ?_
 refine tR fun _ _ _ => ?_
 refine pV ?_
 refine sV (rIdxB rfl rfl rfl (by omega) (by omega) (by omega)) ?_
 refine eV (eStB rfl rfl rfl rfl (by omega) ?_)
 refine tS ?_
 refine tS ?_
 refine tR fun _ _ _ => ?_
 iterate 2 refine pV ?_
 refine tB ?_
 refine tr_loop5 (fun (y : Int) (l : List Int) (sn : List Bool) (B : Option Addr) (cap : Nat) => [(1, .int .i64 q), (2, .int .i64 x), (3, .pointer (some p0)), (7, .slice B l.length cap), (8, .slice A2 q.toNat q.toNat), (9, .int .i64 y)]) (fun (y : Int) (l : List Int) (sn : List Bool) (B : Option Addr) (cap : Nat) => [ow B 3 cap (ints l), ow A2 4 q.toNat (bools sn), blk p0 24 [.int .i64 p, .int .i64 m, .slice A mod.length c], ro A (ints mod)]) (fun (y : Int) (l : List Int) (sn : List Bool) (B : Option Addr) (cap : Nat) => (0 ≤ y ∧ y < q) ∧ (1 ≤ l.length ∧ (l.length : Int) ≤ q - 1) ∧ (∀ i, i < l.length → l.getD i 0 = pwI p m mod x i) ∧ (∀ z ∈ l, 0 < z ∧ z < pw p m) ∧ l.Nodup ∧ y = pwI p m mod x l.length ∧ sn.length = q.toNat ∧ ∀ z, 0 ≤ z → z < q → (sn.getD z.toNat false = true ↔ z ∈ l)) (fun (y : Int) (l : List Int) (sn : List Bool) (B : Option Addr) (cap : Nat) => (q - l.length).toNat) (x) ([1]) ((List.replicate q.toNat false).set ((1 : Int)).toNat true) (A1) (1) ⟨rfl, rfl, rfl, rfl, rfl, rfl, trivial⟩ (by first | exact cs _ _ | exact CSub.refl _) (⟨⟨by omega, by omega⟩, ⟨by simp, by simp; omega⟩, fun i hi => by
      have h0 : i = 0 := by simp at hi; omega
      subst h0; rfl, fun z hz => by simp at hz; omega, by simp, rfl, by simp, fun z z0 z1 => by
      rw [getD_set]
      by_cases hz : z = 1
      ·subst hz; simp; omega
      ·rw [if_neg (by omega), List.getD_eq_getElem?_getD, List.getElem?_replicate, if_pos (by omega)]
       simp [hz]⟩) (fun y l sn B cap hI => ?_)
 obtain ⟨⟨hy0, hy1⟩, ⟨hl0, hl1⟩, hget, hnz, hnd, hye, hsl, hsn⟩ := hI
 have hmb := mulI_bd hs y x
 refine tS ?_
 refine tS ?_
 refine tR fun _ _ _ => ?_
 iterate 3 refine pV ?_
 refine stg rfl rfl rfl rfl rfl (fun hb => by (have hq := hb; try simp only [zbA] at hq); exact rMove rfl rfl) ?_
 refine stg rfl rfl rfl rfl rfl (fun hb => by (have hq := hb; try simp only [zbA] at hq); exact rMove rfl rfl) ?_
 refine stg rfl rfl rfl rfl rfl (fun hb => by (have hq := hb; try simp only [zbA] at hq); exact rIdxB rfl (evg rfl hb) (evg rfl hb) (by omega) (by omega) (by omega)) ?_
 refine stg rfl rfl rfl rfl rfl (fun hb => by (have hq := hb; try simp only [zbA] at hq); exact rLdB rfl (evg rfl hb) (by omega)) ?_
 refine stg rfl rfl rfl rfl rfl (fun hb => by (have hq := hb; try simp only [zbA] at hq); exact rNotB rfl (evg rfl hb)) ?_
 refine sV (rAndB rfl rfl rfl rfl) ?_
 refine tC rfl (fun h5 => ?_) (fun h5 => ?_)
 ·try simp only [zbA] at h5
  refine tK ?_
  refine tS ?_
  refine tB ?_
  refine tS ?_
  refine tR fun _ _ _ => ?_
  iterate 2 refine pV ?_
  refine sV (rIdxB rfl rfl rfl (by omega) (by omega) (by omega)) ?_
  refine eV (eStB rfl rfl rfl rfl (by omega) ?_)
  refine tR fun _ _ _ => ?_
  iterate 2 refine pV ?_
  refine eV (eLit1I rfl rfl rfl rfl (fun A8 => ?_))
  refine eV (eAppI rfl rfl rfl rfl rfl (by first | rfl | simp) (by first | rfl | simp) (by first | omega | (simp; omega)) (fun A8a c8a => ?_))
  refine pV ?_
  refine tR fun _ _ _ => ?_
  refine sV (rLdS rfl rfl rfl) ?_
  iterate 2 refine pV ?_
  refine eV (eCallV rfl rfl rfl (fld_mul _ _ _ _ _ hs _ _ (by omega) (by omega) (by omega) (by omega)) ⟨rfl, rfl, rfl, trivial⟩ ?_)
  refine pV ?_
  refine ⟨mulI p m mod y x, l ++ [y], sn.set y.toNat true, A8a, c8a, ⟨rfl, rfl, rfl, rfl, rfl, rfl, trivial⟩, by first | exact cs _ _ | exact CSub.refl _, ?_⟩
  have hyl : ¬ y ∈ l := fun h => by
   have := (hsn y hy0 hy1).2 h
   rw [h5.2] at this
   cases this
  have hnd2 : (l ++ [y]).Nodup := by
   rw [List.nodup_append]
   exact ⟨hnd, by simp, fun a ha b hb => by simp at hb; subst hb; exact fun e => hyl (e ▸ ha)⟩
  have hnz2 : ∀ z ∈ l ++ [y], 0 < z ∧ z < pw p m := fun z hz => by
   rcases List.mem_append.1 hz with h | h
   ·exact hnz z h
   ·simp at h; omega
  have hlen2 := nodup_len' (q := q) (l ++ [y]) hnd2 (fun z hz => by have := hnz2 z hz; omega) (by omega)
  refine ⟨⟨⟨by omega, by omega⟩, ⟨by simp, hlen2⟩, fun i hi => ?_, hnz2, hnd2, ?_, by simpa using hsl, fun z z0 z1 => ?_⟩, by simp; omega⟩
  ·by_cases hil : i < l.length
   ·rw [← hget i hil, List.getD_eq_getElem?_getD, List.getD_eq_getElem?_getD, List.getElem?_append_left hil]
   ·have hie : i = l.length := by simp at hi; omega
    subst hie
    rw [List.getD_eq_getElem?_getD, List.getElem?_append_right (Nat.le_refl _)]
    simpa using hye
  ·rw [List.length_append, List.length_singleton, hye]
   obtain ⟨n, hn⟩ : ∃ n, l.length = n + 1 := ⟨l.length - 1, by omega⟩
   rw [hn]; rfl
  ·rw [getD_set]
   by_cases hz : y.toNat = z.toNat
   ·have : y = z := by omega
    subst this
    rw [if_pos ⟨rfl, by omega⟩]; simp
   ·rw [if_neg (by omega), hsn z z0 z1]
    have : z ≠ y := by omega
    simp [this]
 ·try simp only [zbA] at h5
  refine tE ?_
  refine tS ?_
  refine tR fun _ _ _ => ?_
  iterate 2 refine pV ?_
  exact tr_ret ⟨trivial, _, _, rfl, ⟨_, rfl, _, _, _, rfl, ⟨hl0, hget, hnz, hnd, by
   rw [← hye]
   rcases h5 with h | h
   ·exact .inl (by omega)
   ·exact .inr ((hsn y hy0 hy1).1 h)⟩, rfl⟩, cs _ _, trivial, trivial⟩
theorem fld_gen_ent : Enters Tryz.prog 43 := enters_of Tryz.func43 (by kernel_rfl) (by kernel_rfl)
theorem fld_gen (p m : Int) (A : Option Addr) (c : Nat) (mod : List Int) (hs : Shp p m mod) (q : Int) (hq : q = pw p m) :
  Pure Tryz.prog 43 #[.agg #[.int .i64 p, .int .i64 m, .slice A mod.length c], .int .i64 q] [ro A (ints mod)] (one (fun v ch => ∃ B l cap, v = .slice B l.length cap ∧ GenR p m mod l ∧ (l = [] → B = none) ∧ ch = ow B 3 cap (ints l))) := by
 have hp2 := hs.p2
 have hp9 := hs.p9
 have hm1 := hs.m1
 have hm8 := hs.m8
 have hqq := hs.q
 have hq2 : 2 ≤ pw p m := by
  have h1 := pw_mono (p := p) (by omega) (a := 1) (b := m) (by omega) hm1
  have h2 := pw_succ p (k := 0) (by omega)
  rw [pw_zero, Int.zero_add, Int.one_mul] at h2
  omega
 refine pure_of (args := [.agg #[.int .i64 p, .int .i64 m, .slice A mod.length c], .int .i64 q]) 33 Tryz.func43 rfl rfl rfl fld_gen_ent ⟨id, trivial⟩ (fun w0 => ?_)
 refine tS ?_
 refine tR fun _ _ _ => ?_
 refine eV (eBox rfl rfl rfl rfl rfl (fun p0 => ?_))
 refine pV ?_
 refine tS ?_
 refine tS ?_
 refine tR fun _ _ _ => ?_
 refine pV ?_
 refine tB ?_
 refine tr_loop1 (fun (x : Int) => [(1, .int .i64 q), (2, .pointer (some p0)), (5, .int .i64 x)]) (fun (x : Int) => [blk p0 24 [.int .i64 p, .int .i64 m, .slice A mod.length c], ro A (ints mod)]) (fun (x : Int) => 1 ≤ x ∧ x ≤ q ∧ ∀ x2, 1 ≤ x2 → x2 < x → ∃ l, PowOk p m mod x2 l ∧ ¬ ((l.length : Int) = pw p m - 1 ∧ mulI p m mod (l.getD (pw p m - 2).toNat 0) x2 = 1)) (fun (x : Int) => (q - x).toNat) (1) ⟨rfl, rfl, rfl, trivial⟩ (by first | exact cs _ _ | exact CSub.refl _) (⟨by omega, by omega, fun x2 h1 h2 => by omega⟩) (fun x hI => ?_)
 obtain ⟨hx0, hx1, hno⟩ := hI
 refine tS ?_
 refine tS ?_
 refine tR fun _ _ _ => ?_
 iterate 3 refine pV ?_
 refine tC rfl (fun h2 => ?_) (fun h2 => ?_)
 ·try simp only [zbA] at h2
  refine tK ?_
  refine tS ?_
  refine tB ?_
  refine tS ?_
  refine tR fun _ _ _ => ?_
  refine sV (rLdS rfl rfl rfl) ?_
  iterate 2 refine pV ?_
  refine eV (eCall1 rfl rfl rfl (fld_powers _ _ _ _ _ hs _ (by assumption) _ (by omega) (by omega)) ⟨rfl, rfl, rfl, trivial⟩ ?_)
  rintro _ _ ⟨B4, l4, c4, rfl, hl4, rfl⟩
  refine pV ?_
  refine tS ?_
  have hge : (l4.length : Int) = q - 1 → 0 < l4.getD (q - 2).toNat 0 ∧ l4.getD (q - 2).toNat 0 < q := fun h => by
   have h1 : (q - 2).toNat < l4.length := by omega
   rw [List.getD_eq_getElem?_getD, List.getElem?_eq_getElem h1]
   have h2 := hl4.nz _ (List.getElem_mem h1)
   rw [← hq] at h2
   exact h2
  refine tr_draw [0, 1, 2, 3, 4, 5, 6, 7, 8, 9, 10, 11, 12, 13, 14, 15] [] mixed (by kernel_rfl) fun _ _ _ => ?_
  refine pV ?_
  refine sV (rLen rfl rfl) ?_
  refine pV ?_
  refine sV (rSub rfl rfl rfl (by omega) (by omega)) ?_
  iterate 2 refine pV ?_
  refine stg rfl rfl rfl rfl rfl (fun hb => by (have hq := hb; try simp only [zbA] at hq); exact rLdS rfl rfl rfl) ?_
  refine stg rfl rfl rfl rfl rfl (fun hb => by (have hq := hb; try simp only [zbA] at hq); exact rMove rfl rfl) ?_
  refine stg rfl rfl rfl rfl rfl (fun hb => by (have hq := hb; try simp only [zbA] at hq); exact rMove rfl rfl) ?_
  refine stg rfl rfl rfl rfl rfl (fun hb => by (have hq := hb; try simp only [zbA] at hq); exact rSub rfl (evg rfl hb) rfl (by omega) (by omega)) ?_
  refine stg rfl rfl rfl rfl rfl (fun hb => by (have hq := hb; try simp only [zbA] at hq); exact rIdxI rfl (evg rfl hb) (evg rfl hb) (by omega) (by omega) (by omega)) ?_
  refine stg rfl rfl rfl rfl rfl (fun hb => by (have hq := hb; try simp only [zbA] at hq); exact rLdI rfl (evg rfl hb) (by omega)) ?_
  refine stg rfl rfl rfl rfl rfl (fun hb => by (have hq := hb; try simp only [zbA] at hq); exact rMove rfl rfl) ?_
  refine efg rfl rfl rfl rfl rfl (fun hb => by (have hq := hb; try simp only [zbA] at hq); exact eCallV rfl rfl rfl (fld_mul _ _ _ _ _ hs _ _ (by omega) (by omega) (by omega) (by omega)) ⟨(evg rfl hb), (evg rfl hb), (evg rfl hb), trivial⟩ ⟨rfl, rfl⟩) ?_
  refine stg rfl rfl rfl rfl rfl (fun hb => by (have hq := hb; try simp only [zbA] at hq); exact rEql rfl (evg rfl hb) rfl) ?_
  refine sV (rAndB rfl rfl rfl rfl) ?_
  refine tC rfl (fun h5 => ?_) (fun h5 => ?_)
  ·try simp only [zbA] at h5
   refine tS ?_
   refine tR fun _ _ _ => ?_
   iterate 2 refine pV ?_
   exact tr_ret ⟨trivial, _, _, rfl, ⟨_, rfl, _, _, _, rfl, .inl ⟨x, by omega, by omega, hl4, by omega, by rw [← hq]; exact h5.2⟩, fun h => by
    have := hl4.one
    rw [h] at this
    simp at this, rfl⟩, cs _ _, trivial, trivial⟩
  ·try simp only [zbA] at h5
   refine tK ?_
   refine tR fun _ _ _ => ?_
   refine pV ?_
   refine sV (rAdd rfl rfl rfl (by omega) (by omega)) ?_
   refine pV ?_
   refine ⟨x + 1, ⟨rfl, rfl, rfl, trivial⟩, by first | exact cs _ _ | exact CSub.refl _, ?_⟩
   exact ⟨⟨by omega, by omega, fun x2 h1 h2 => by
    by_cases hxx : x2 = x
    ·subst hxx
     refine ⟨l4, hl4, fun h => ?_⟩
     rw [← hq] at h
     rcases h5 with h5 | h5
     ·exact h5 h.1
     ·exact h5 h.2
    ·exact hno x2 h1 (by omega)⟩, by omega⟩
 ·try simp only [zbA] at h2
  refine tE ?_
  refine tS ?_
  have hxq : x = q := by omega
  refine tr_nil 3 ?_
  refine tR fun _ _ _ => ?_
  refine pV ?_
  exact tr_ret ⟨trivial, _, _, rfl, ⟨_, rfl, none, [], 0, rfl, .inr ⟨rfl, fun x2 h1 h2 => hno x2 h1 (by omega)⟩, fun _ => rfl, rfl⟩, cs _ [ow none 3 0 []], trivial, trivial⟩
theorem fld_shape_ent : Enters Tryz.prog 41 := enters_of Tryz.func41 (by kernel_rfl) (by kernel_rfl)
theorem fld_shape (p m : Int) (A : Option Addr) (c : Nat) (mod : List Int) (hl9 : mod.length ≤ 17592186044415) :
  Pure Tryz.prog 41 #[.agg #[.int .i64 p, .int .i64 m, .slice A mod.length c]] [ro A (ints mod)] (isV (.bool (bShp p m mod))) := by
 have hord := @ord_cases p m
 refine pure_of (args := [.agg #[.int .i64 p, .int .i64 m, .slice A mod.length c]]) 46 Tryz.func41 rfl rfl rfl fld_shape_ent ⟨id, trivial⟩ (fun w0 => ?_)
 refine tS ?_
 refine tR fun _ _ _ => ?_
 refine eV (eBox rfl rfl rfl rfl rfl (fun p0 => ?_))
 refine pV ?_
 refine tS ?_
 refine tS ?_
 refine tR fun _ _ _ => ?_
 refine sV (rFld rfl rfl) ?_
 refine sV (rLdF rfl rfl rfl) ?_
 refine sV (rFld rfl rfl) ?_
 refine sV (rLdF rfl rfl rfl) ?_
 refine eV (eCallV rfl rfl rfl (fld_order _ _) ⟨rfl, rfl, trivial⟩ ?_)
 iterate 2 refine pV ?_
 refine stg rfl rfl rfl rfl rfl (fun hb => by (have hq := hb; try simp only [zbA] at hq); exact rFld rfl rfl) ?_
 refine stg rfl rfl rfl rfl rfl (fun hb => by (have hq := hb; try simp only [zbA] at hq); exact rLdF rfl (evg rfl hb) rfl) ?_
 skip
 refine efg rfl rfl rfl rfl rfl (fun hb => by (have hq := hb; try simp only [zbA] at hq); exact eCallV rfl rfl rfl (fld_isPrime _ (by omega)) ⟨(evg rfl hb), trivial⟩ ⟨rfl, rfl⟩) ?_
 refine stg rfl rfl rfl rfl rfl (fun hb => by (have hq := hb; try simp only [zbA] at hq); exact rNotB rfl (evg rfl hb)) ?_
 refine sV (rOrB rfl rfl rfl rfl) ?_
 refine tC rfl (fun h1 => ?_) (fun h1 => ?_)
 ·try simp only [zbA] at h1
  refine tS ?_
  refine tR fun _ _ _ => ?_
  refine pV ?_
  have hno : ¬ ShpP p m mod := fun h => by
   rcases h1 with h1 | h1
   ·exact not_shp_ord h1 h
   ·rw [bIsP_true h.2] at h1; cases h1
  exact tr_ret ⟨trivial, _, _, rfl, ⟨by rw [bShp_false hno], rfl⟩, CSub.nil _, trivial⟩
 ·try simp only [zbA] at h1
  have hcc := hord (by omega)
  obtain ⟨hp2, hp9, hm1, hm8, hqq, hoe⟩ := hcc
  have hprime := (bIsP_iff p).1 h1.2
  refine tK ?_
  refine tS ?_
  refine tS ?_
  refine tR fun _ _ _ => ?_
  refine sV (rFld rfl rfl) ?_
  refine sV (rLdF rfl rfl rfl) ?_
  refine pV ?_
  refine tC rfl (fun h3 => ?_) (fun h3 => ?_)
  ·try simp only [zbA] at h3
   refine tS ?_
   refine tR fun _ _ _ => ?_
   refine sV (rFld rfl rfl) ?_
   refine sV (rLdF rfl rfl rfl) ?_
   refine sV (rLen rfl rfl) ?_
   iterate 2 refine pV ?_
   have hb : decide ((mod.length : Int) = 0) = bShp p m mod := by
    by_cases h : (mod.length : Int) = 0
    ·have hm0 : mod = [] := List.eq_nil_of_length_eq_zero (by omega)
     rw [decide_eq_true h, bShp_true ⟨⟨hp2, hp9, hm1, hm8, hqq, .inl ⟨h3, hm0⟩, by rw [hm0]; exact fun c hc => by simp at hc⟩, hprime⟩]
    ·rw [decide_eq_false h, bShp_false (fun hs => by
      rcases hs.1.low with h2 | h2
      ·rw [h2.2] at h; exact h rfl
      ·omega)]
   exact tr_ret ⟨trivial, _, _, rfl, ⟨by rw [hb], rfl⟩, CSub.nil _, trivial⟩
  ·try simp only [zbA] at h3
   refine tK ?_
   refine tS ?_
   refine tS ?_
   refine tR fun _ _ _ => ?_
   refine sV (rFld rfl rfl) ?_
   refine sV (rLdF rfl rfl rfl) ?_
   refine sV (rLen rfl rfl) ?_
   refine sV (rFld rfl rfl) ?_
   refine sV (rLdF rfl rfl rfl) ?_
   refine pV ?_
   refine tC rfl (fun h5 => ?_) (fun h5 => ?_)
   ·try simp only [zbA] at h5
    refine tS ?_
    refine tR fun _ _ _ => ?_
    refine pV ?_
    exact tr_ret ⟨trivial, _, _, rfl, ⟨by rw [bShp_false (fun hs => by
     rcases hs.1.low with h2 | h2
     ·exact h3 h2.1
     ·exact h5 h2.2)], rfl⟩, CSub.nil _, trivial⟩
   ·try simp only [zbA] at h5
    refine tK ?_
    refine tS ?_
    refine tS ?_
    refine tR fun _ _ _ => ?_
    refine sV (rFld rfl rfl) ?_
    refine sV (rLdF rfl rfl rfl) ?_
    refine sV (rLen rfl rfl) ?_
    refine pV ?_
    refine tB ?_
    refine tr_loop1 (fun (k : Int) => [(1, .pointer (some p0)), (31, .slice A mod.length c), (32, .int .i64 mod.length), (33, .int .i64 k)]) (fun (k : Int) => [blk p0 24 [.int .i64 p, .int .i64 m, .slice A mod.length c], ro A (ints mod)]) (fun (k : Int) => 0 ≤ k ∧ k ≤ mod.length ∧ AllIn p (mod.take k.toNat)) (fun (k : Int) => (mod.length - k).toNat) (0) ⟨rfl, rfl, rfl, rfl, trivial⟩ (by first | exact cs _ _ | exact CSub.refl _) (⟨by omega, by omega, fun c hc => by simp at hc⟩) (fun k hI => ?_)
    obtain ⟨hk0, hk1, hkin⟩ := hI
    refine tS ?_
    refine tR fun _ _ _ => ?_
    refine pV ?_
    refine tS ?_
    refine tC rfl (fun h8 => ?_) (fun h8 => ?_)
    ·try simp only [zbA] at h8
     refine tK ?_
     refine tS ?_
     refine tB ?_
     refine tS ?_
     refine tR fun _ _ _ => ?_
     refine sV (rIdxI rfl rfl rfl (by omega) (by omega) (by omega)) ?_
     refine sV (rLdI rfl rfl (by omega)) ?_
     refine pV ?_
     refine tS ?_
     refine tR fun _ _ _ => ?_
     iterate 3 refine pV ?_
     refine stg rfl rfl rfl rfl rfl (fun hb => by (have hq := hb; try simp only [zbA] at hq); exact rMove rfl rfl) ?_
     refine stg rfl rfl rfl rfl rfl (fun hb => by (have hq := hb; try simp only [zbA] at hq); exact rFld rfl rfl) ?_
     refine stg rfl rfl rfl rfl rfl (fun hb => by (have hq := hb; try simp only [zbA] at hq); exact rLdF rfl (evg rfl hb) rfl) ?_
     refine stg rfl rfl rfl rfl rfl (fun hb => by (have hq := hb; try simp only [zbA] at hq); exact rGeq rfl (evg rfl hb) (evg rfl hb)) ?_
     refine sV (rOrB rfl rfl rfl rfl) ?_
     refine tC rfl (fun h10 => ?_) (fun h10 => ?_)
     ·try simp only [zbA] at h10
      refine tS ?_
      refine tR fun _ _ _ => ?_
      refine pV ?_
      exact tr_ret ⟨trivial, _, _, rfl, ⟨by rw [bShp_false (fun hs => by
       have := hs.1.ent.get (by omega) k.toNat
       omega)], rfl⟩, CSub.nil _, trivial⟩
     ·try simp only [zbA] at h10
      refine tK ?_
      refine tR fun _ _ _ => ?_
      refine sV (rAdd rfl rfl rfl (by omega) (by omega)) ?_
      refine pV ?_
      refine ⟨k + 1, ⟨rfl, rfl, rfl, rfl, trivial⟩, by first | exact cs _ _ | exact CSub.refl _, ?_⟩
      refine ⟨⟨by omega, by omega, fun z hz => ?_⟩, by omega⟩
      rw [take_next 0 mod k hk0 (by omega)] at hz
      rcases List.mem_append.1 hz with h | h
      ·exact hkin z h
      ·simp only [List.mem_singleton] at h
       rw [h]
       omega
    ·try simp only [zbA] at h8
     refine tE ?_
     refine tS ?_
     refine tR fun _ _ _ => ?_
     refine pV ?_
     rw [take_len mod k (by omega)] at hkin
     exact tr_ret ⟨trivial, _, _, rfl, ⟨by rw [bShp_true ⟨⟨hp2, hp9, hm1, hm8, hqq, .inr ⟨by omega, by omega⟩, hkin⟩, hprime⟩], rfl⟩, CSub.nil _, trivial⟩
theorem fld_New_ent : Enters Tryz.prog 17 := enters_of Tryz.func17 (by kernel_rfl) (by kernel_rfl)
theorem fld_New (p m : Int) (A : Option Addr) (c : Nat) (mod : List Int) (hl9 : mod.length ≤ 17592186044415) :
  Pure Tryz.prog 17 #[.agg #[.int .i64 p, .int .i64 m, .slice A mod.length c]] [ro A (ints mod)] (fun v Fo => (v = .tuple #[.pointer none, .int .i64 1] ∧ Fo = [] ∧ ¬ FldN p m mod) ∨ ∃ g : GfM, v = .tuple #[.pointer (some g.p), .int .i64 0] ∧ Fo = [gfN g] ∧ GOk g p m mod) := by
 refine pure_of (args := [.agg #[.int .i64 p, .int .i64 m, .slice A mod.length c]]) 53 Tryz.func17 rfl rfl rfl fld_New_ent ⟨id, trivial⟩ (fun w0 => ?_)
 refine tS ?_
 refine tR fun _ _ _ => ?_
 refine eV (eBox rfl rfl rfl rfl rfl (fun p0 => ?_))
 iterate 2 refine pV ?_
 refine tS ?_
 refine tS ?_
 refine tR fun _ _ _ => ?_
 refine sV (rLdS rfl rfl rfl) ?_
 refine eV (eCallV rfl rfl rfl (fld_shape _ _ _ _ _ (by omega)) ⟨rfl, trivial⟩ ?_)
 refine sV (rNotB rfl rfl) ?_
 refine tC rfl (fun h1 => ?_) (fun h1 => ?_)
 ·try simp only [zbA] at h1
  refine tS ?_
  refine tR fun _ _ _ => ?_
  iterate 2 refine pV ?_
  exact tr_ret ⟨trivial, _, _, rfl, .inl ⟨rfl, rfl, fun h => by
   rw [bShp_true h.1] at h1; cases h1⟩, CSub.nil _, trivial⟩
 ·try simp only [zbA] at h1
  have hs := (bShp_iff p m mod).1 h1
  have hord := hs.1.ord
  have hs1 := hs.1
  refine tK ?_
  refine tS ?_
  refine tR fun _ _ _ => ?_
  refine sV (rFld rfl rfl) ?_
  refine sV (rLdF rfl rfl rfl) ?_
  refine sV (rFld rfl rfl) ?_
  refine sV (rLdF rfl rfl rfl) ?_
  refine eV (eCallV rfl rfl rfl (fld_order _ _) ⟨rfl, rfl, trivial⟩ ?_)
  refine pV ?_
  refine tS ?_
  rw [hord]
  refine tR fun _ _ _ => ?_
  refine sV (rLdS rfl rfl rfl) ?_
  refine pV ?_
  refine eV (eCall1 rfl rfl rfl (fld_gen _ _ _ _ _ hs1 _ rfl) ⟨rfl, rfl, trivial⟩ ?_)
  rintro _ _ ⟨B4, l4, c4, rfl, hl4, hn4, rfl⟩
  refine pV ?_
  refine tS ?_
  refine tS ?_
  refine tR fun _ _ _ => ?_
  refine pV ?_
  refine sV (rNilS rfl rfl rfl) ?_
  refine tC rfl (fun h5 => ?_) (fun h5 => ?_)
  ·try simp only [zbA] at h5
   refine tr_emptyI (A := B4) (xs := l4) (fun hemp => ?_)
   have hl0 := hemp h5
   refine tS ?_
   refine tR fun _ _ _ => ?_
   iterate 2 refine pV ?_
   exact tr_ret ⟨trivial, _, _, rfl, .inl ⟨rfl, rfl, fun h => by
    rw [hl0] at hl4
    exact hl4.nil h.2⟩, CSub.nil _, trivial⟩
  ·try simp only [zbA] at h5
   refine tK ?_
   have hgn : l4 ≠ [] := fun h => by
    rw [hn4 h] at h5
    cases h5
   obtain ⟨x, hgen⟩ : ∃ x, IsGen p m mod x l4 := by
    rcases hl4 with h | h
    ·exact h
    ·exact absurd h.1 hgn
   have hqq := hs1.q
   have hq2 := hs1.q2
   have hlen := hgen.len
   refine tr_mid (fun (q : Addr × (Option Addr) × Nat × (Option Addr)) => match q with | (pg, Am, cm, Al) => [(5, .slice B4 l4.length c4), (6, .pointer (some pg))]) (fun (q : Addr × (Option Addr) × Nat × (Option Addr)) => match q with | (pg, Am, cm, Al) => [blk pg 77 [.int .i64 p, .int .i64 m, .slice Am mod.length cm, .int .i64 (pw p m), .slice B4 l4.length c4, .slice Al (pw p m).toNat (pw p m).toNat], ow Am 3 cm (ints mod), ow B4 3 c4 (ints l4), ow Al 3 (pw p m).toNat (ints (List.replicate (pw p m).toNat 0))]) ?_ ?_
   ·refine tr_tree (.one 0 (.one 1 (.one 2 (.one 3 (.one 5 (.one 6 (.one 9 (.one 10 (.one 11 (.two 4 (.two 7 (.one 8 (.one 12 (.one 13 (.one 14 (.one 15 .nil))))) 12 (.one 7 (.one 8 (.one 13 (.one 14 (.one 15 .nil)))))) 12 (.one 4 (.one 7 (.one 8 (.one 13 (.one 14 (.one 15 .nil)))))))))))))))) [] mixed (by kernel_rfl) fun _ _ _ => ?_
    refine sV (rFld rfl rfl) ?_
    refine sV (rLdF rfl rfl rfl) ?_
    refine sV (rFld rfl rfl) ?_
    refine sV (rLdF rfl rfl rfl) ?_
    refine sV (rFld rfl rfl) ?_
    refine sV (rLdF rfl rfl rfl) ?_
    iterate 3 refine pV ?_
    refine ⟨?_, ?_⟩
    ·refine eV (eLit0I rfl rfl rfl  (fun A7 => ?_))
     refine ⟨?_, ?_⟩
     ·refine eV (eAppXI rfl rfl rfl rfl rfl (by first | rfl | simp) (by first | rfl | simp) (by first | rfl | simp) (by first | omega | (simp; omega)) (fun A7a c7a => ?_))
      rw [List.nil_append]
      refine sV (rBuild rfl rfl) ?_
      refine eV (eMakeI rfl rfl rfl rfl rfl (by omega) (by omega) (by omega) (fun A7b => ?_))
      refine sV (rBuild rfl rfl) ?_
      refine eV (eBox rfl rfl rfl rfl rfl (fun p7c => ?_))
      refine pV ?_
      exact ⟨rfl, (p7c, A7a, c7a, A7b), ⟨rfl, rfl, trivial⟩, by first | exact cs _ _ | exact CSub.refl _⟩
     ·refine eV (eMakeI rfl rfl rfl rfl rfl (by omega) (by omega) (by omega) (fun A7b => ?_))
      refine eV (eAppXI rfl rfl rfl rfl rfl (by first | rfl | simp) (by first | rfl | simp) (by first | rfl | simp) (by first | omega | (simp; omega)) (fun A7a c7a => ?_))
      rw [List.nil_append]
      refine sV (rBuild rfl rfl) ?_
      refine sV (rBuild rfl rfl) ?_
      refine eV (eBox rfl rfl rfl rfl rfl (fun p7c => ?_))
      refine pV ?_
      exact ⟨rfl, (p7c, A7a, c7a, A7b), ⟨rfl, rfl, trivial⟩, by first | exact cs _ _ | exact CSub.refl _⟩
    ·refine eV (eMakeI rfl rfl rfl rfl rfl (by omega) (by omega) (by omega) (fun A7b => ?_))
     refine eV (eLit0I rfl rfl rfl  (fun A7 => ?_))
     refine eV (eAppXI rfl rfl rfl rfl rfl (by first | rfl | simp) (by first | rfl | simp) (by first | rfl | simp) (by first | omega | (simp; omega)) (fun A7a c7a => ?_))
     rw [List.nil_append]
     refine sV (rBuild rfl rfl) ?_
     refine sV (rBuild rfl rfl) ?_
     refine eV (eBox rfl rfl rfl rfl rfl (fun p7c => ?_))
     refine pV ?_
     exact ⟨rfl, (p7c, A7a, c7a, A7b), ⟨rfl, rfl, trivial⟩, by first | exact cs _ _ | exact CSub.refl _⟩
   ·rintro ⟨pg, Am, cm, Al⟩
    refine tS ?_
    refine tS ?_
    refine tR fun _ _ _ => ?_
    refine pV ?_
    refine sV (rLen rfl rfl) ?_
    refine pV ?_
    refine tB ?_
    refine tr_loop2 (fun (k : Int) (lg : List Int) => [(6, .pointer (some pg)), (37, .slice B4 l4.length c4), (38, .int .i64 l4.length), (39, .int .i64 k)]) (fun (k : Int) (lg : List Int) => [blk pg 77 [.int .i64 p, .int .i64 m, .slice Am mod.length cm, .int .i64 (pw p m), .slice B4 l4.length c4, .slice Al (pw p m).toNat (pw p m).toNat], ow Am 3 cm (ints mod), ow B4 3 c4 (ints l4), ow Al 3 (pw p m).toNat (ints lg)]) (fun (k : Int) (lg : List Int) => 0 ≤ k ∧ k ≤ l4.length ∧ lg.length = (pw p m).toNat ∧ lg.getD 0 0 = 0 ∧ ∀ i : Nat, (i : Int) < k → lg.getD (l4.getD i 0).toNat 0 = i) (fun (k : Int) (lg : List Int) => (l4.length - k).toNat) (0) (List.replicate (pw p m).toNat 0) ⟨rfl, rfl, rfl, rfl, trivial⟩ (by first | exact cs _ _ | exact CSub.refl _) (⟨by omega, by omega, by simp, by rw [List.getD_eq_getElem?_getD, List.getElem?_replicate]; split <;> rfl, fun i hi => by omega⟩) (fun k lg hI => ?_)
    obtain ⟨hk0, hk1, hll, hlz, hlg⟩ := hI
    have hent : k < l4.length → 0 < l4.getD k.toNat 0 ∧ l4.getD k.toNat 0 < pw p m := fun h => by
     rw [List.getD_eq_getElem?_getD, List.getElem?_eq_getElem (show k.toNat < l4.length by omega)]
     exact hgen.pow.nz _ (List.getElem_mem _)
    refine tS ?_
    refine tR fun _ _ _ => ?_
    refine pV ?_
    refine tS ?_
    refine tC rfl (fun h9 => ?_) (fun h9 => ?_)
    ·try simp only [zbA] at h9
     refine tK ?_
     refine tS ?_
     refine tB ?_
     refine tS ?_
     refine tR fun _ _ _ => ?_
     refine pV ?_
     refine sV (rIdxI rfl rfl rfl (by omega) (by omega) (by omega)) ?_
     refine sV (rLdI rfl rfl (by omega)) ?_
     iterate 2 refine pV ?_
     have hentk := hent h9
     refine tR fun _ _ _ => ?_
     refine pV ?_
     refine sV (rNil rfl rfl) ?_
     refine sV (rFld rfl rfl) ?_
     refine sV (rLdF rfl rfl rfl) ?_
     iterate 2 refine pV ?_
     refine sV (rIdxI rfl rfl rfl (by omega) (by omega) (by omega)) ?_
     refine eV (eStI rfl rfl rfl rfl (by omega) ?_)
     refine tR fun _ _ _ => ?_
     refine sV (rAdd rfl rfl rfl (by omega) (by omega)) ?_
     refine pV ?_
     refine ⟨k + 1, lg.set (l4.getD k.toNat 0).toNat k, ⟨rfl, rfl, rfl, rfl, trivial⟩, by first | exact cs _ _ | exact CSub.refl _, ?_⟩
     have he := hent h9
     refine ⟨⟨by omega, by omega, by simpa using hll, by rw [getD_set, if_neg (by omega)]; exact hlz, fun i hi => ?_⟩, by omega⟩
     rw [getD_set]
     by_cases hik : (i : Int) = k
     ·have : i = k.toNat := by omega
      rw [this, if_pos ⟨rfl, by omega⟩]
      omega
     ·have hne : ¬ l4.getD k.toNat 0 = l4.getD i 0 := fun e => by
       rw [List.getD_eq_getElem?_getD, List.getElem?_eq_getElem (show k.toNat < l4.length by omega), List.getD_eq_getElem?_getD, List.getElem?_eq_getElem (show i < l4.length by omega)] at e
       exact (List.pairwise_iff_getElem.1 hgen.pow.nodup) i k.toNat (by omega) (by omega) (by omega) (by simpa using e.symm)
      have hie : 0 < l4.getD i 0 := by
       rw [List.getD_eq_getElem?_getD, List.getElem?_eq_getElem (show i < l4.length by omega)]
       exact (hgen.pow.nz _ (List.getElem_mem _)).1
      rw [if_neg (by omega)]
      exact hlg i (by omega)
    ·try simp only [zbA] at h9
     refine tE ?_
     refine tS ?_
     refine tR fun _ _ _ => ?_
     iterate 3 refine pV ?_
     have hkk : k = l4.length := by omega
     refine tr_ret ⟨trivial, _, _, rfl, .inr ⟨⟨pg, p, m, Am, cm, mod, pw p m, B4, c4, l4, Al, (pw p m).toNat, lg⟩, rfl, rfl, ⟨rfl, rfl, rfl, hs, rfl, ⟨x, hgen⟩, hll, hlz, fun i hi => hlg i (by have h7 : i < l4.length := hi; omega)⟩⟩, ?_, gfO_excl _ _ _, trivial⟩
     have hc : [.int .i64 p, .int .i64 m, .slice Am mod.length cm, .int .i64 (pw p m), .slice B4 l4.length c4, .slice Al (pw p m).toNat (pw p m).toNat] = GfM.cells ⟨pg, p, m, Am, cm, mod, pw p m, B4, c4, l4, Al, (pw p m).toNat, lg⟩ := by simp [GfM.cells, hll]
     rw [hc]
     exact csub_gfO _ _ ⟨pg, p, m, Am, cm, mod, pw p m, B4, c4, l4, Al, (pw p m).toNat, lg⟩ []
end Go.Proofs.YtdkahdehodopoaaGreat

/-
  FACTORBYDEGREES, PART 6 OF 9. One sentence: the texts behind the law FactorByDegrees, put together.
  Conditions: each theorem's own, written out in it.
-/
import Derived.Test.YtbhoeaijpnjgdaaK5
set_option linter.unusedSimpArgs false
set_option linter.unusedVariables false
set_option linter.unusedSectionVars false
namespace Go.Proofs.Ytbhoeaijpnjgdaa
open Go.RowKit
section
variable {p m : Int} {mod : List Int} [hF : IsF p m mod]
open Po
structure GrI (f : Po (El p m mod)) (κ : Po (El p m mod) → Nat) (b : Nat) (hs : List FacM) : Prop where
 each : ∀ e ∈ hs, (∃ Q, e.r.xs = il Q ∧ lead Q = 1 ∧ 2 ≤ len Q ∧ Sf Q ∧ ∀ P, Ir P → lead P = 1 → (P ∣ Q ↔ P ∣ f ∧ ((κ P : Nat) : Int) = e.k)) ∧ e.k < b
 all : ∀ P, Ir P → lead P = 1 → P ∣ f → κ P < b → ∃ e ∈ hs, e.k = ((κ P : Nat) : Int)
 srt : hs.Pairwise fun x y => x.k < y.k
theorem GrI.uniq {f : Po (El p m mod)} {κ : Po (El p m mod) → Nat} {b c : Nat} {hs gs : List FacM} (h : GrI f κ b hs) (k : GrI f κ c gs) (hb : ∀ P, Ir P → lead P = 1 → P ∣ f → κ P < b ∧ κ P < c) : fpr hs = fpr gs := by
 have hmem : ∀ {hs gs : List FacM} {b c : Nat}, GrI f κ b hs → GrI f κ c gs → (∀ P, Ir P → lead P = 1 → P ∣ f → κ P < c) → ∀ x, x ∈ fpr hs → x ∈ fpr gs := fun {hs gs b c} h k hc x hx => by
  obtain ⟨e, he, rfl⟩ := List.mem_map.1 hx
  obtain ⟨⟨Q, a1, a2, a3, a4, a5⟩, _⟩ := h.each e he
  obtain ⟨P, hP, hPl, hPd⟩ := ir_ex a3
  obtain ⟨hPf, hPk⟩ := (a5 P hP hPl).1 hPd
  obtain ⟨e', he', hk'⟩ := k.all P hP hPl hPf (hc P hP hPl hPf)
  obtain ⟨⟨Q', b1, b2, b3, b4, b5⟩, _⟩ := k.each e' he'
  have hkk : e'.k = e.k := by omega
  have hQ : Q' = Q := b4.eq a4 b2 a2 (lead1_ne b2) (lead1_ne a2) fun R hR hRl => by rw [b5 R hR hRl, a5 R hR hRl, hkk]
  exact List.mem_map.2 ⟨e', he', by rw [b1, a1, hQ, hkk]⟩
 exact rise_eq (lt := fun (x y : List Int × Int) => x.2 < y.2) (fun a => by omega) (fun a b c h1 h2 => by omega) (List.pairwise_map.2 h.srt) (List.pairwise_map.2 k.srt) fun x => ⟨hmem h k (fun P a1 a2 a3 => (hb P a1 a2 a3).2) x, hmem k h (fun P a1 a2 a3 => (hb P a1 a2 a3).1) x⟩
theorem grI_nil (f : Po (El p m mod)) (κ : Po (El p m mod) → Nat) (b : Nat) (hb : ∀ P, Ir P → lead P = 1 → P ∣ f → b ≤ κ P) : GrI f κ b [] := ⟨fun e h => by simp at h, fun P a1 a2 a3 h => by have := hb P a1 a2 a3; omega, .nil⟩
theorem GrI.yes {f Q : Po (El p m mod)} {κ : Po (El p m mod) → Nat} {b : Nat} {hs : List FacM} (h : GrI f κ b hs) (A : Option Addr) (c : Nat) (hl : lead Q = 1) (h2 : 2 ≤ len Q) (hs' : Sf Q) (hQ : ∀ P, Ir P → lead P = 1 → (P ∣ Q ↔ P ∣ f ∧ κ P = b)) : GrI f κ (b + 1) (hs ++ [⟨⟨A, c, il Q⟩, (b : Int)⟩]) := by
 refine ⟨fun e he => ?_, fun P a1 a2 a3 h3 => ?_, ?_⟩
 ·rcases List.mem_append.1 he with he | he
  ·obtain ⟨q, hq⟩ := h.each e he
   exact ⟨q, by omega⟩
  ·rw [List.mem_singleton] at he
   subst he
   exact ⟨⟨Q, rfl, hl, h2, hs', fun P a1 a2 => by rw [hQ P a1 a2]; exact ⟨fun x => ⟨x.1, by show ((κ P : Nat) : Int) = (b : Int); omega⟩, fun x => ⟨x.1, by have : ((κ P : Nat) : Int) = (b : Int) := x.2; omega⟩⟩⟩, by show (b : Int) < _; omega⟩
 ·rcases Nat.lt_or_ge (κ P) b with e | e
  ·obtain ⟨x, hx, hk⟩ := h.all P a1 a2 a3 e
   exact ⟨x, List.mem_append_left _ hx, hk⟩
  ·exact ⟨_, List.mem_append_right _ (List.mem_singleton.2 rfl), by show (b : Int) = _; omega⟩
 ·rw [List.pairwise_append]
  refine ⟨h.srt, List.pairwise_singleton _ _, fun x hx y hy => ?_⟩
  rw [List.mem_singleton] at hy
  subst hy
  exact (h.each x hx).2
theorem GrI.no {f : Po (El p m mod)} {κ : Po (El p m mod) → Nat} {b : Nat} {hs : List FacM} (h : GrI f κ b hs) (hQ : ∀ P, Ir P → lead P = 1 → P ∣ f → κ P ≠ b) : GrI f κ (b + 1) hs :=
 ⟨fun e he => by
  obtain ⟨q, hq⟩ := h.each e he
  exact ⟨q, by omega⟩, fun P a1 a2 a3 h3 => h.all P a1 a2 a3 (by have := hQ P a1 a2 a3; omega), h.srt⟩
theorem GrI.more {f : Po (El p m mod)} {κ : Po (El p m mod) → Nat} {b c : Nat} {hs : List FacM} (h : GrI f κ b hs) (hc : b ≤ c) (hb : ∀ P, Ir P → lead P = 1 → P ∣ f → κ P < b ∨ c ≤ κ P) : GrI f κ c hs :=
 ⟨fun e he => by
  obtain ⟨q, hq⟩ := h.each e he
  exact ⟨q, by omega⟩, fun P a1 a2 a3 h3 => h.all P a1 a2 a3 (by have := hb P a1 a2 a3; omega), h.srt⟩
theorem prd_irs {f : Po (El p m mod)} (hf : f ≠ 0) : ∀ {l : List (Po (El p m mod))}, l.Nodup → (∀ P ∈ l, Ir P ∧ lead P = 1 ∧ P ∣ f) → lead (prd l) = 1 ∧ Sf (prd l) ∧ (∀ P, Ir P → lead P = 1 → (P ∣ prd l ↔ P ∈ l)) ∧ len (prd l) ≤ len f
 | [], _, _ => by
  have h1 : lead (1 : Po (El p m mod)) = 1 := by unfold lead; rw [len_one]; rfl
  refine ⟨h1, fun P hP hd => hP.not_one len_one (dvd_trans (dvd_mul P P) hd), fun P hP _ => ⟨fun hd => absurd hd (hP.not_one len_one), fun h => by simp at h⟩, ?_⟩
  rw [prd, len_one]
  have := len_pos hf
  omega
 | Q :: l, hn, h => by
  obtain ⟨hQl, hn2⟩ := List.nodup_cons.1 hn
  obtain ⟨a, b, c, d⟩ := prd_irs hf hn2 fun P hP => h P (List.mem_cons_of_mem _ hP)
  obtain ⟨q1, q2, q3⟩ := h Q (List.mem_cons_self ..)
  have hmem : ∀ P, Ir P → lead P = 1 → (P ∣ prd (Q :: l) ↔ P ∈ Q :: l) := fun P hP hPl => by
   rw [prd, List.mem_cons]
   constructor
   ·intro hd
    rcases hP.prime hd with hd | hd
    ·exact .inl (hP.one q1 hPl q2 hd)
    ·exact .inr ((c P hP hPl).1 hd)
   ·rintro (rfl | hm)
    ·exact dvd_mul _ _
    ·exact dvd_mul_ofL ((c P hP hPl).2 hm) Q
  have hl : lead (prd (Q :: l)) = 1 := by rw [prd, lead_mul q1.ne (lead1_ne a), q2, a, Rg.mul_one]
  have hs : Sf (prd (Q :: l)) := by
   rw [prd]
   refine q1.sf.mul b fun P hP hd hd2 => hQl ?_
   obtain ⟨hm, hml⟩ := hP.mon
   have h1 := hm.one q1 hml q2 (dvd_trans (mon_dvd P) hd)
   have h2 := (c _ hm hml).1 (dvd_trans (mon_dvd P) hd2)
   rwa [h1] at h2
  refine ⟨hl, hs, hmem, dvd_len (hs.dvd (lead1_ne hl) fun P hP hPl hd => ?_) hf⟩
  exact (h P ((hmem P hP hPl).1 hd)).2.2
noncomputable def grL (p m : Int) (mod : List Int) [hF : IsF p m mod] (gs : List FacM) (key : FacM → Int) (z : Int) : Nat → List (Po (El p m mod))
 | 0 => []
 | n + 1 => if key (gs.getD n facD) = z then grL p m mod gs key z n ++ [fcP p m mod (gs.getD n facD)] else grL p m mod gs key z n
theorem mem_grL {gs : List FacM} {key : FacM → Int} {z : Int} {P : Po (El p m mod)} : ∀ n, P ∈ grL p m mod gs key z n ↔ ∃ j, j < n ∧ key (gs.getD j facD) = z ∧ fcP p m mod (gs.getD j facD) = P
 | 0 => ⟨fun h => by simp [grL] at h, fun ⟨j, h, _⟩ => by omega⟩
 | n + 1 => by
  have ih := mem_grL (gs := gs) (key := key) (z := z) (P := P) n
  rw [grL]
  by_cases h : key (gs.getD n facD) = z
  ·rw [if_pos h, List.mem_append, ih, List.mem_singleton]
   constructor
   ·rintro (⟨j, h1, h2⟩ | rfl)
    ·exact ⟨j, by omega, h2⟩
    ·exact ⟨n, by omega, h, rfl⟩
   ·rintro ⟨j, h1, h2, h3⟩
    rcases Nat.lt_or_eq_of_le (Nat.le_of_lt_succ h1) with e | e
    ·exact .inl ⟨j, e, h2, h3⟩
    ·subst e; exact .inr h3.symm
  ·rw [if_neg h, ih]
   constructor
   ·rintro ⟨j, h1, h2⟩
    exact ⟨j, by omega, h2⟩
   ·rintro ⟨j, h1, h2, h3⟩
    rcases Nat.lt_or_eq_of_le (Nat.le_of_lt_succ h1) with e | e
    ·exact ⟨j, e, h2, h3⟩
    ·subst e; exact absurd h2 h
theorem grL_ok {f : Po (El p m mod)} (hf : f ≠ 0) {gs : List FacM} (h : CmI f gs) (key : FacM → Int) (z : Int) : ∀ n, n ≤ gs.length → (grL p m mod gs key z n).Nodup ∧ ∀ P ∈ grL p m mod gs key z n, Ir P ∧ lead P = 1 ∧ P ∣ f
 | 0, _ => ⟨.nil, fun P h => by simp [grL] at h⟩
 | n + 1, hn => by
  obtain ⟨a, b⟩ := grL_ok hf h key z n (by omega)
  obtain ⟨c1, c2, c3, c4, _⟩ := h.fc hf (getD_mem (show n < gs.length by omega) facD)
  rw [grL]
  split
  ·refine ⟨List.nodup_append.2 ⟨a, List.pairwise_singleton _ _, fun P hP Q hQ e => ?_⟩, fun P hP => ?_⟩
   ·rw [List.mem_singleton] at hQ
    obtain ⟨j, hj, _, hjP⟩ := (mem_grL n).1 hP
    obtain ⟨_, _, _, d4, _⟩ := h.fc hf (getD_mem (show j < gs.length by omega) facD)
    have h5 := List.pairwise_iff_getElem.1 h.nd j n (by simp; omega) (by simp; omega) hj
    rw [List.getElem_map, List.getElem_map] at h5
    refine h5 ?_
    have e1 : gs[j] = gs.getD j facD := by rw [List.getD_eq_getElem?_getD, List.getElem?_eq_getElem (show j < gs.length by omega)]; rfl
    have e2 : gs[n] = gs.getD n facD := by rw [List.getD_eq_getElem?_getD, List.getElem?_eq_getElem (show n < gs.length by omega)]; rfl
    rw [e1, e2, d4, c4, hjP, e, hQ]
   ·rcases List.mem_append.1 hP with hP | hP
    ·exact b P hP
    ·rw [List.mem_singleton] at hP
     rw [hP]; exact ⟨c1, c2, c3⟩
  ·exact ⟨a, b⟩
def KeyI (f : Po (El p m mod)) (κ : Po (El p m mod) → Nat) (gs : List FacM) (key : FacM → Int) : Prop := ∀ e ∈ gs, key e = ((κ (fcP p m mod e) : Nat) : Int)
theorem grL_all {f : Po (El p m mod)} (hf : f ≠ 0) {gs : List FacM} (h : CmI f gs) {key : FacM → Int} {κ : Po (El p m mod) → Nat} (hk : KeyI f κ gs key) (z : Nat) {P : Po (El p m mod)} (a1 : Ir P) (a2 : lead P = 1) : P ∈ grL p m mod gs key z gs.length ↔ P ∣ f ∧ κ P = z := by
 rw [mem_grL]
 constructor
 ·rintro ⟨j, hj, h1, rfl⟩
  have hm := getD_mem hj facD
  obtain ⟨_, _, c3, _⟩ := h.fc hf hm
  have := hk _ hm
  exact ⟨c3, by omega⟩
 ·rintro ⟨h1, h2⟩
  obtain ⟨e, he, hx⟩ := h.all P a1 a2 h1
  obtain ⟨j, hj, rfl⟩ := List.getElem_of_mem he
  have e1 : gs.getD j facD = gs[j] := by rw [List.getD_eq_getElem?_getD, List.getElem?_eq_getElem hj]; rfl
  have e2 : fcP p m mod gs[j] = P := by unfold fcP; rw [hx, pol_il]
  refine ⟨j, hj, ?_, by rw [e1]; exact e2⟩
  rw [e1, hk _ (List.getElem_mem hj), e2]; omega
theorem GrI.step {f : Po (El p m mod)} (hf : f ≠ 0) {gs hs : List FacM} (h : CmI f gs) {key : FacM → Int} {κ : Po (El p m mod) → Nat} (hk : KeyI f κ gs key) {z : Nat} (hG : GrI f κ z hs) : (2 ≤ len (prd (grL p m mod gs key z gs.length)) → ∀ A c, GrI f κ (z + 1) (hs ++ [⟨⟨A, c, il (prd (grL p m mod gs key z gs.length))⟩, (z : Int)⟩])) ∧ (¬ 2 ≤ len (prd (grL p m mod gs key z gs.length)) → GrI f κ (z + 1) hs) := by
 obtain ⟨a, b⟩ := grL_ok hf h key z gs.length (Nat.le_refl _)
 obtain ⟨c1, c2, c3, c4⟩ := prd_irs hf a b
 refine ⟨fun h2 A c => hG.yes A c c1 h2 c2 fun P a1 a2 => by rw [c3 P a1 a2, grL_all hf h hk z a1 a2], fun h2 => hG.no fun P a1 a2 a3 e => h2 ?_⟩
 have hm := (grL_all hf h hk z a1 a2).2 ⟨a3, e⟩
 have h4 := dvd_len ((c3 P a1 a2).2 hm) (lead1_ne c1)
 have := a1.two
 omega
end
end Go.Proofs.Ytbhoeaijpnjgdaa

namespace Go.Proofs.Ytbhoeaijpnjgdaa
open Go.RowKit
section
variable {p m : Int} {mod : List Int} [hF : IsF p m mod]
open Po
theorem rise_nd' {gs : List FacM} (h : RisF gs) : (gs.map fun e => e.r.xs).Nodup := by
 refine List.pairwise_map.2 (h.imp fun {x y} hxy => ?_)
 intro (he : x.r.xs = y.r.xs)
 rw [he] at hxy
 exact cmpL_irr _ hxy
structure SelI (f : Po (El p m mod)) (rs us : List RowM) (gs : List FacM) : Prop where
 perm : (us ++ rws gs).Perm rs
 ris : RisF gs
 mul : ∀ e ∈ gs, e.k = ((mu (fcP p m mod e) f : Nat) : Int)
 lt : ∀ e ∈ gs, ∀ u ∈ us, cmpL e.r.xs u.xs < 0
structure IrR (f : Po (El p m mod)) (rs : List RowM) : Prop where
 each : ∀ u ∈ rs, ∃ P : Po (El p m mod), u.xs = il P ∧ Ir P ∧ lead P = 1 ∧ P ∣ f
 all : ∀ P : Po (El p m mod), Ir P → lead P = 1 → P ∣ f → ∃ u ∈ rs, u.xs = il P
 nd : (rs.map RowM.xs).Nodup
variable {f : Po (El p m mod)} {rs us : List RowM} {gs : List FacM}
theorem irR_of {r : Po (El p m mod)} {ps : List (Po (El p m mod))} (h : Rad f r) (k : IrL r ps) (hx : xss rs = ps.map fun b => il b) : IrR f rs := by
 have hm : ∀ x, x ∈ xss rs ↔ ∃ P ∈ ps, il P = x := fun x => by rw [hx]; exact List.mem_map
 refine ⟨fun u hu => ?_, fun P a b c => ?_, ?_⟩
 ·obtain ⟨P, hP, e⟩ := (hm _).1 (xss_mem hu)
  obtain ⟨a, b, c⟩ := (k.mem P).1 hP
  exact ⟨P, e.symm, a, b, (h.dv P a b).1 c⟩
 ·have h1 := (k.mem P).2 ⟨a, b, (h.dv P a b).2 c⟩
  obtain ⟨u, hu, e⟩ := List.mem_map.1 ((hm (il P)).2 ⟨P, h1, rfl⟩)
  exact ⟨u, hu, e⟩
 ·have e : rs.map RowM.xs = ps.map fun b => il b := hx
  rw [e]
  exact List.pairwise_map.2 (k.nd.imp fun hab e => hab (il_inj e))
theorem IrR.at (h : IrR f rs) {u : RowM} (hu : u ∈ rs) : u.xs = il (pol u.xs : Po (El p m mod)) ∧ Ir (pol u.xs : Po (El p m mod)) ∧ lead (pol u.xs : Po (El p m mod)) = 1 ∧ (pol u.xs : Po (El p m mod)) ∣ f := by
 obtain ⟨P, e, a, b, c⟩ := h.each u hu
 have eP : (pol u.xs : Po (El p m mod)) = P := by rw [e, pol_il]
 rw [eP]; exact ⟨e, a, b, c⟩
theorem SelI.start : SelI f rs rs [] := ⟨by simp [rws], .nil, fun e h => by simp at h, fun e h => by simp at h⟩
theorem SelI.mem (h : SelI f rs us gs) {u : RowM} (hu : u ∈ us) : u ∈ rs := h.perm.mem_iff.1 (List.mem_append_left _ hu)
theorem SelI.cnt (h : SelI f rs us gs) : us.length + gs.length = rs.length := by
 have := h.perm.length_eq
 simpa using this
theorem SelI.step (h : SelI f rs us gs) (hr : IrR f rs) {k : Nat} (hk : k < us.length) (hmin : ∀ j, j < us.length → ¬ cmpL (us.getD j rowD).xs (us.getD k rowD).xs < 0) {z : Int} (hz : z = ((mu (pol (us.getD k rowD).xs : Po (El p m mod)) f : Nat) : Int)) : SelI f rs (takeOut us k) (gs ++ [⟨us.getD k rowD, z⟩]) := by
 have hp := takeOut_perm hk
 have hum := getD_mem hk rowD
 have hsub : ∀ w ∈ takeOut us k, w ∈ us := fun w hw => hp.mem_iff.2 (List.mem_cons_of_mem _ hw)
 have hnu : (us.map RowM.xs).Nodup := by
  have h1 := (h.perm.map RowM.xs).nodup_iff.2 hr.nd
  rw [List.map_append] at h1
  exact (List.nodup_append.1 h1).1
 have hne : ∀ w ∈ takeOut us k, w.xs ≠ (us.getD k rowD).xs := fun w hw e => by
  have h1 := (hp.map RowM.xs).nodup_iff.1 hnu
  rw [List.map_cons] at h1
  exact (List.nodup_cons.1 h1).1 (List.mem_map.2 ⟨w, hw, e⟩)
 refine ⟨?_, ?_, fun e he => ?_, fun e he w hw => ?_⟩
 ·rw [rws_app]
  refine List.Perm.trans ?_ h.perm
  have h1 : (takeOut us k ++ (rws gs ++ rws [(⟨us.getD k rowD, z⟩ : FacM)])).Perm ((us.getD k rowD :: takeOut us k) ++ rws gs) := by
   show (takeOut us k ++ (rws gs ++ [us.getD k rowD])).Perm _
   rw [← List.append_assoc]
   exact List.perm_append_singleton _ _
  exact h1.trans (hp.symm.append_right _)
 ·refine List.pairwise_append.2 ⟨h.ris, List.pairwise_singleton _ _, fun x hx y hy => ?_⟩
  rw [List.mem_singleton] at hy
  subst hy
  exact h.lt x hx _ hum
 ·rcases List.mem_append.1 he with he | he
  ·exact h.mul e he
  ·rw [List.mem_singleton] at he
   subst he; exact hz
 ·rcases List.mem_append.1 he with he | he
  ·exact h.lt e he w (hsub w hw)
  ·rw [List.mem_singleton] at he
   subst he
   obtain ⟨j, hj, hjw⟩ := List.getElem_of_mem (hsub w hw)
   have h1 := hmin j hj
   rw [List.getD_eq_getElem?_getD, List.getElem?_eq_getElem hj] at h1
   simp only [Option.getD_some, hjw] at h1
   exact (cmpL_not.1 h1).resolve_left (hne w hw)
theorem SelI.done (h : SelI f rs [] gs) (hr : IrR f rs) : CmI f gs ∧ RisF gs ∧ (rws gs).Perm rs := by
 have hp : (rws gs).Perm rs := by simpa using h.perm
 have hm : ∀ e ∈ gs, e.r ∈ rs := fun e he => hp.mem_iff.1 (List.mem_map.2 ⟨e, he, rfl⟩)
 refine ⟨⟨fun e he => ?_, fun P a b c => ?_, rise_nd' h.ris⟩, h.ris, hp⟩
 ·obtain ⟨P, e1, a, b, c⟩ := hr.each _ (hm e he)
  have := h.mul e he
  have eP : fcP p m mod e = P := by unfold fcP; rw [e1, pol_il]
  rw [eP] at this
  exact ⟨P, e1, a, b, c, this⟩
 ·obtain ⟨u, hu, e⟩ := hr.all P a b c
  obtain ⟨g, hg, e2⟩ := List.mem_map.1 (hp.mem_iff.2 hu)
  exact ⟨g, hg, by rw [e2]; exact e⟩
theorem mu_of_mul {P rest : Po (El p m mod)} (hf : f ≠ 0) (hP : Ir P) {n : Nat} (h : Rg.pow P n * rest = f) (hn : ¬ P ∣ rest) : mu P f = n := by
 rw [← h]; exact mu_of_split hP hn (by rw [h]; exact hf)
theorem pow_next {P rest : Po (El p m mod)} (hP : P ≠ 0) {n : Nat} (h : Rg.pow P n * rest = f) (hd : P ∣ rest) : Rg.pow P (n + 1) * quo rest P = f := by
 have e := quo_eq hP hd
 rw [Rg.pow_succ, Rg.mul_assoc, Rg.mul_comm P, ← e]; exact h
theorem quo_lt {P rest : Po (El p m mod)} (hP : Ir P) (hr : rest ≠ 0) (hd : P ∣ rest) : len (quo rest P) < len rest ∧ quo rest P ≠ 0 := by
 have e := quo_eq hP.ne hd
 have hq : quo rest P ≠ 0 := fun hz => hr (by rw [e, hz, Rg.zero_mul])
 have := len_mul hq hP.ne
 rw [← e] at this
 have := hP.two
 exact ⟨by omega, hq⟩
theorem rad_two {r : Po (El p m mod)} (h : Rad f r) (h2 : 2 ≤ len f) : 2 ≤ len r := by
 obtain ⟨P, hP, hPl, hd⟩ := ir_ex h2
 have := dvd_len ((h.dv P hP hPl).2 hd) (lead1_ne h.mon)
 have := hP.two
 omega
end
end Go.Proofs.Ytbhoeaijpnjgdaa

set_option maxRecDepth 100000
set_option maxHeartbeats 1000000
namespace Go.Proofs.Ytbhoeaijpnjgdaa
open Go.RowKit
theorem ref_Complete6_ent : Enters Try.prog 18 := enters_of Try.func18 (by kernel_rfl) (by kernel_rfl)
theorem ref_Complete6 (p m : Int) (A : Option Addr) (c : Nat) (mod : List Int) [hF : IsF p m mod] (Xa : Option Addr) (na ca : Nat) (a : List Int) (hna : na = a.length) (ha9 : a.length ≤ 17592186044415) (h1 : 1 ≤ Po.len (pol a : Po (El p m mod))) (h9 : Po.len (pol a : Po (El p m mod)) ≤ 257) :
  Pure Try.prog 18 #[.agg #[.int .i64 p, .int .i64 m, .slice A mod.length c], .slice Xa na ca] [ro A (ints mod), ro Xa (ints a)] (two (fun v ch ch2 => ∃ B cap gs, v = .tuple #[.int .i64 (Po.lead (pol a : Po (El p m mod))).1, .slice B gs.length cap] ∧ ch = ow2 B 64 cap (fcs gs) ∧ ch2 = rowsCh 3 (rws gs) ∧ CmI (pol a : Po (El p m mod)) gs ∧ RisF gs ∧ gs.length ≤ 257)) := by
 have hq2 := hF.q2
 have hord := hF.ord
 have hil := il_length (pol a : Po (El p m mod))
 have h0 : (pol a : Po (El p m mod)) ≠ 0 := Po.len_pos_iff.1 (by omega)
 have hlv : (il (pol a : Po (El p m mod))).getD (((il (pol a : Po (El p m mod))).length : Int) - 1).toNat 0 = (Po.lead (pol a : Po (El p m mod))).1 := by
  rw [il_getD, hil, show ((Po.len (pol a : Po (El p m mod)) : Int) - 1).toNat = Po.len (pol a : Po (El p m mod)) - 1 by omega]; rfl
 refine pure_of (args := [.agg #[.int .i64 p, .int .i64 m, .slice A mod.length c], .slice Xa na ca]) 92 Try.func18 rfl rfl rfl ref_Complete6_ent ⟨id, id, trivial⟩ (fun w0 => ?_)
 refine tS ?_
 refine tR fun _ _ _ => ?_
 refine eV (eBox rfl rfl rfl rfl rfl (fun p0 => ?_))
 iterate 2 refine pV ?_
 refine tS ?_
 refine tR fun _ _ _ => ?_
 refine sV (rLdS rfl rfl rfl) ?_
 refine pV ?_
 refine eV (eCall1 rfl rfl rfl (ref_CanonE p m A c mod Xa na ca a hna ha9) ⟨rfl, rfl, trivial⟩ ?_)
 rintro _ _ ⟨B1, c1, rfl, rfl⟩
 refine pV ?_
 refine tS ?_
 refine tR fun _ _ _ => ?_
 iterate 2 refine pV ?_
 refine sV (rLen rfl rfl) ?_
 refine sV (rSub rfl rfl rfl (by omega) (by omega)) ?_
 refine sV (rIdxI rfl rfl rfl (by omega) (by omega) (by omega)) ?_
 refine sV (rLdI rfl rfl (by omega)) ?_
 refine pV ?_
 rw [hlv]
 refine tS ?_
 refine tR fun _ _ _ => ?_
 refine eV (eLit0S rfl rfl rfl (fun A3 => ?_))
 refine pV ?_
 refine tS ?_
 refine tS ?_
 refine tR fun _ _ _ => ?_
 refine pV ?_
 refine sV (rLen rfl rfl) ?_
 refine pV ?_
 refine tC rfl (fun h4 => ?_) (fun h4 => ?_)
 ·try simp only [zbA] at h4
  refine tS ?_
  refine tR fun _ _ _ => ?_
  iterate 4 refine pV ?_
  have hC0 : CmI (pol a : Po (El p m mod)) [] := ⟨fun e h => by simp at h, fun P a b c => absurd c (a.not_one (by omega)), by simp⟩
  exact tr_ret ⟨trivial, _, _, rfl, ⟨_, _, rfl, A3, 0, [], rfl, rfl, rfl, hC0, .nil, by simp⟩, (show CSub _ [ow2 A3 64 0 (fcs []), rowsCh 3 []] from (cs _ [ow2 A3 64 0 (fcs [])]).trans ((rows_nil 3 _).trans (cs _ _))), trivial, trivial, trivial⟩
 ·try simp only [zbA] at h4
  refine tK ?_
  refine tS ?_
  refine tr_draw [0, 1, 2, 3, 4, 5] [] mixed (by kernel_rfl) fun _ _ _ => ?_
  refine sV (rLdS rfl rfl rfl) ?_
  refine sV (rLdS rfl rfl rfl) ?_
  refine pV ?_
  refine eV (eCall1 rfl rfl rfl (ref_Radical p m A c mod B1 _ c1 (il (pol a : Po (El p m mod))) rfl (by omega) (by rw [pol_il]; omega) (by rw [pol_il]; omega)) ⟨rfl, rfl, trivial⟩ ?_)
  rintro _ _ ⟨B6, c6, r, rfl, rfl, hrad⟩
  rw [pol_il] at hrad
  have hrl := hrad.le h0
  have hr2 := rad_two hrad (show 2 ≤ Po.len (pol a : Po (El p m mod)) by omega)
  refine eV (eCall2 rfl rfl rfl (ref_split p m A c mod B6 c6 r hrad.mon hr2 (by omega) hrad.sf) ⟨rfl, rfl, trivial⟩ ?_)
  rintro _ _ _ ⟨Bp, cp, rs, qs, ps, rfl, rfl, rfl, hal, hxs, hI, hrl2⟩
  refine pV ?_
  have hIR := irR_of hrad hI hxs
  have hxl : ∀ u ∈ rs, u.xs.length ≤ 257 ∧ canL (ordI p m) u.xs = u.xs := fun u hu => by
   obtain ⟨a1, a2, a3, a4⟩ := hIR.at hu
   have h5 := Po.dvd_len a4 h0
   have h6 := il_length (pol u.xs : Po (El p m mod))
   rw [← a1] at h6
   refine ⟨by omega, ?_⟩
   rw [a1, hord, canL_il rfl]
  refine tr_chunks _ ((cs _ [rowsCh 3 qs, ow B6 3 c6 (ints (il r)), ow B1 3 c1 (ints (il (pol a : Po (El p m mod)))), ow Bp 22 cp (hdrs rs), ow2 A3 64 0 (fcs []), blk p0 24 [.int .i64 p, .int .i64 m, .slice A mod.length c], ro A (ints mod)]).trans ((al_own hal 3 _).trans (CSub.cons _ (ow_ro _)))) ?_
  refine tS ?_
  refine tB ?_
  refine tr_loop6 (fun (Bp : Option Addr) (cp : Nat) (us : List RowM) (Bg : Option Addr) (cg : Nat) (gs : List FacM) => [(8, .slice Bp us.length cp), (7, .slice Bg gs.length cg), (1, .slice B1 (il (pol a : Po (El p m mod))).length c1), (6, .int .i64 (Po.lead (pol a : Po (El p m mod))).1), (2, .pointer (some p0)), (4, .int .i64 0), (5, .slice none 0 0)]) (fun (Bp : Option Addr) (cp : Nat) (us : List RowM) (Bg : Option Addr) (cg : Nat) (gs : List FacM) => [ow Bp 22 cp (hdrs us), ow2 Bg 64 cg (fcs gs), rowsCh 3 rs, ro B1 (ints (il (pol a : Po (El p m mod)))), blk p0 24 [.int .i64 p, .int .i64 m, .slice A mod.length c], ro A (ints mod)]) (fun (Bp : Option Addr) (cp : Nat) (us : List RowM) (Bg : Option Addr) (cg : Nat) (gs : List FacM) => SelI (pol a : Po (El p m mod)) rs us gs) (fun (Bp : Option Addr) (cp : Nat) (us : List RowM) (Bg : Option Addr) (cg : Nat) (gs : List FacM) => us.length) (Bp) (cp) (rs) (A3) (0) ([]) ⟨rfl, rfl, rfl, rfl, rfl, rfl, rfl, trivial⟩ (by first | exact cs _ _ | exact CSub.refl _) (SelI.start) (fun Bp cp us Bg cg gs hI => ?_)
  have hS := hI
  have hcn := hS.cnt
  refine tS ?_
  refine tS ?_
  refine tR fun _ _ _ => ?_
  refine pV ?_
  refine sV (rLen rfl rfl) ?_
  refine pV ?_
  refine tC rfl (fun h7 => ?_) (fun h7 => ?_)
  ·try simp only [zbA] at h7
   refine tK ?_
   refine tB ?_
   refine tS ?_
   refine tR fun _ _ _ => ?_
   refine pV ?_
   refine tS ?_
   refine tS ?_
   refine tR fun _ _ _ => ?_
   refine pV ?_
   refine tB ?_
   refine tr_loop2 (fun (k : Int) (i : Int) => [(8, .slice Bp us.length cp), (9, .int .i64 k), (10, .int .i64 i), (1, .slice B1 (il (pol a : Po (El p m mod))).length c1), (2, .pointer (some p0)), (4, .int .i64 0), (5, .slice none 0 0), (6, .int .i64 (Po.lead (pol a : Po (El p m mod))).1), (7, .slice Bg gs.length cg), (34, .slice Bp us.length cp), (35, .int .i64 us.length)]) (fun (k : Int) (i : Int) => [ow Bp 22 cp (hdrs us), ow2 Bg 64 cg (fcs gs), rowsCh 3 rs, ro B1 (ints (il (pol a : Po (El p m mod)))), blk p0 24 [.int .i64 p, .int .i64 m, .slice A mod.length c], ro A (ints mod)]) (fun (k : Int) (i : Int) => (0 ≤ k ∧ k < us.length) ∧ (1 ≤ i ∧ i ≤ us.length) ∧ ∀ j : Nat, (j : Int) < i → ¬ cmpL (us.getD j rowD).xs (us.getD k.toNat rowD).xs < 0) (fun (k : Int) (i : Int) => (us.length - i).toNat) (0) (1) ⟨rfl, rfl, rfl, rfl, rfl, rfl, rfl, rfl, rfl, rfl, rfl, trivial⟩ (by first | exact cs _ _ | exact CSub.refl _) (⟨⟨by omega, by omega⟩, ⟨by omega, by omega⟩, fun j hj => by rw [show j = 0 by omega]; exact cmpL_irr _⟩) (fun k i hI => ?_)
   obtain ⟨⟨hk0, hk1⟩, ⟨hi0, hi1⟩, hmin⟩ := hI
   refine tS ?_
   refine tS ?_
   refine tR fun _ _ _ => ?_
   iterate 2 refine pV ?_
   refine sV (rLen rfl rfl) ?_
   refine pV ?_
   refine tC rfl (fun h10 => ?_) (fun h10 => ?_)
   ·try simp only [zbA] at h10
    refine tK ?_
    refine tS ?_
    refine tB ?_
    refine tS ?_
    haveI : RowIn (us.getD i.toNat rowD) rs := ⟨hS.mem (getD_mem (show i.toNat < us.length by omega) rowD)⟩
    haveI : RowIn (us.getD k.toNat rowD) rs := ⟨hS.mem (getD_mem (show k.toNat < us.length by omega) rowD)⟩
    have hui := hxl _ (hS.mem (getD_mem (show i.toNat < us.length by omega) rowD))
    have huk := hxl _ (hS.mem (getD_mem (show k.toNat < us.length by omega) rowD))
    refine tr_draw [0, 1, 2, 3, 4, 5, 6, 7, 8, 9, 10] [] mixed (by kernel_rfl) fun _ _ _ => ?_
    refine sV (rLdS rfl rfl rfl) ?_
    iterate 2 refine pV ?_
    refine sV (rIdxR rfl rfl rfl (by omega) (by omega) (by omega)) ?_
    refine sV (rLdR rfl rfl (by omega)) ?_
    iterate 2 refine pV ?_
    refine sV (rIdxR rfl rfl rfl (by omega) (by omega) (by omega)) ?_
    refine sV (rLdR rfl rfl (by omega)) ?_
    refine eV (eCallV rfl rfl rfl (ref_Compare p m A c mod (us.getD i.toNat rowD).A _ (us.getD i.toNat rowD).cap (us.getD i.toNat rowD).xs rfl (by omega) (us.getD k.toNat rowD).A _ (us.getD k.toNat rowD).cap (us.getD k.toNat rowD).xs rfl (by omega)) ⟨rfl, rfl, rfl, trivial⟩ ?_)
    rw [hui.2, huk.2]
    refine pV ?_
    refine tC rfl (fun h12 => ?_) (fun h12 => ?_)
    ·try simp only [zbA] at h12
     refine tR fun _ _ _ => ?_
     iterate 2 refine pV ?_
     refine tR fun _ _ _ => ?_
     refine pV ?_
     refine sV (rAdd rfl rfl rfl (by omega) (by omega)) ?_
     refine pV ?_
     refine ⟨i, i + 1, ⟨rfl, rfl, rfl, rfl, rfl, rfl, rfl, rfl, rfl, rfl, rfl, trivial⟩, by first | exact cs _ _ | exact CSub.refl _, ?_⟩
     refine ⟨⟨⟨by omega, by omega⟩, ⟨by omega, by omega⟩, fun j hj hlt => ?_⟩, by omega⟩
     by_cases e : (j : Int) < i
     ·exact hmin j e (cmpL_trans hlt (by simpa using h12))
     ·rw [show j = i.toNat by omega] at hlt; exact cmpL_irr _ hlt
    ·try simp only [zbA] at h12
     refine tK ?_
     refine tR fun _ _ _ => ?_
     refine pV ?_
     refine sV (rAdd rfl rfl rfl (by omega) (by omega)) ?_
     refine pV ?_
     refine ⟨k, i + 1, ⟨rfl, rfl, rfl, rfl, rfl, rfl, rfl, rfl, rfl, rfl, rfl, trivial⟩, by first | exact cs _ _ | exact CSub.refl _, ?_⟩
     refine ⟨⟨⟨by omega, by omega⟩, ⟨by omega, by omega⟩, fun j hj => ?_⟩, by omega⟩
     by_cases e : (j : Int) < i
     ·exact hmin j e
     ·rw [show j = i.toNat by omega]; simpa using h12
   ·try simp only [zbA] at h10
    refine tE ?_
    refine tS ?_
    refine tR fun _ _ _ => ?_
    iterate 2 refine pV ?_
    refine sV (rIdxR rfl rfl rfl (by omega) (by omega) (by omega)) ?_
    refine sV (rLdR rfl rfl (by omega)) ?_
    refine pV ?_
    refine tS ?_
    skip
    refine tR fun _ _ _ => ?_
    iterate 4 refine pV ?_
    refine sV (rLen rfl rfl) ?_
    refine sV (rSub rfl rfl rfl (by omega) (by omega)) ?_
    refine sV (rIdxR rfl rfl rfl (by omega) (by omega) (by omega)) ?_
    refine sV (rLdR rfl rfl (by omega)) ?_
    refine sV (rIdxR rfl rfl rfl (by omega) (by omega) (by omega)) ?_
    refine eV (eSt rfl rfl rfl rfl (by first | omega | (simp; omega)) rfl rfl ?_)
    have hst1 : (hdrs us).set k.toNat (.slice (us.getD ((us.length : Int) - 1).toNat rowD).A (us.getD ((us.length : Int) - 1).toNat rowD).xs.length (us.getD ((us.length : Int) - 1).toNat rowD).cap) = hdrs (us.set k.toNat (us.getD (us.length - 1) rowD)) := by rw [hdrs_set, show ((us.length : Int) - 1).toNat = us.length - 1 by omega]; rfl
    rw [hst1]
    refine tS ?_
    refine tr_cap Bp 22 cp (hdrs (us.set k.toNat (us.getD (us.length - 1) rowD))) fun hcp => ?_
    have hcp2 : us.length ≤ cp := by simpa using hcp
    refine tR fun _ _ _ => ?_
    iterate 2 refine pV ?_
    refine sV (rLen rfl rfl) ?_
    refine sV (rSub rfl rfl rfl (by omega) (by omega)) ?_
    refine sV (rCutHi rfl rfl rfl (by omega) (by omega)) ?_
    refine pV ?_
    have htl : ((us.length : Int) - 1).toNat = (takeOut us k.toNat).length := by rw [takeOut_length]; omega
    rw [htl]
    have hcut : hdrs (us.set k.toNat (us.getD (us.length - 1) rowD)) = hdrs (takeOut us k.toNat) ++ hdrs ((us.set k.toNat (us.getD (us.length - 1) rowD)).drop (us.length - 1)) := by
     rw [← hdrs_append]; unfold takeOut; rw [List.take_append_drop]
    rw [hcut]
    haveI : RowIn (us.getD k.toNat rowD) rs := ⟨hS.mem (getD_mem (show k.toNat < us.length by omega) rowD)⟩
    obtain ⟨hu1, huP, hu3, hu4⟩ := hIR.at (hS.mem (getD_mem (show k.toNat < us.length by omega) rowD))
    have hux := hxl _ (hS.mem (getD_mem (show k.toNat < us.length by omega) rowD))
    have hilu := il_length (pol (us.getD k.toNat rowD).xs : Po (El p m mod))
    have hilu2 := il_length (pol (us.getD k.toNat rowD).xs : Po (El p m mod))
    rw [← hu1] at hilu
    refine tr_chunks [ro B1 (ints (il (pol a : Po (El p m mod)))), ro B1 (ints (il (pol a : Po (El p m mod)))), ow Bp 22 cp (hdrs (takeOut us k.toNat)), ow2 Bg 64 cg (fcs gs), rowsCh 3 rs, blk p0 24 [.int .i64 p, .int .i64 m, .slice A mod.length c], ro A (ints mod)] ((cs _ [ow Bp 22 cp (hdrs (takeOut us k.toNat) ++ hdrs ((us.set k.toNat (us.getD (us.length - 1) rowD)).drop (us.length - 1))), ow2 Bg 64 cg (fcs gs), rowsCh 3 rs, ro B1 (ints (il (pol a : Po (El p m mod)))), blk p0 24 [.int .i64 p, .int .i64 m, .slice A mod.length c], ro A (ints mod)]).trans ((ow_shrink _).trans ((cs _ [ro B1 (ints (il (pol a : Po (El p m mod)))), ow Bp 22 cp (hdrs (takeOut us k.toNat)), ow2 Bg 64 cg (fcs gs), rowsCh 3 rs, blk p0 24 [.int .i64 p, .int .i64 m, .slice A mod.length c], ro A (ints mod)]).trans (ro_dup _)))) ?_
    refine tS ?_
    refine tR fun _ _ _ => ?_
    refine pV ?_
    refine tS ?_
    refine tR fun _ _ _ => ?_
    iterate 2 refine pV ?_
    refine tS ?_
    refine tB ?_
    refine tr_loop4 (fun (mm : Int) (Br : Option Addr) (cr : Nat) (rest : Po (El p m mod)) => [(8, .slice Bp (takeOut us k.toNat).length cp), (11, .slice (us.getD k.toNat rowD).A (us.getD k.toNat rowD).xs.length (us.getD k.toNat rowD).cap), (12, .int .i64 mm), (13, .slice Br (il rest).length cr), (1, .slice B1 (il (pol a : Po (El p m mod))).length c1), (2, .pointer (some p0)), (4, .int .i64 0), (5, .slice none 0 0), (6, .int .i64 (Po.lead (pol a : Po (El p m mod))).1), (7, .slice Bg gs.length cg), (9, .int .i64 k), (10, .int .i64 i), (34, .slice Bp us.length cp), (35, .int .i64 us.length), (37, .int .i64 i), (38, .slice Bp us.length cp), (39, .int .i64 us.length), (55, .slice Bp us.length cp), (56, .int .i64 k), (59, .slice Bp us.length cp), (60, .int .i64 k), (61, .slice Bp us.length cp), (62, .slice Bp us.length cp), (63, .int .i64 us.length), (68, .slice Bp us.length cp), (69, .slice Bp us.length cp), (70, .int .i64 us.length), (73, .slice B1 (il (pol a : Po (El p m mod))).length c1)]) (fun (mm : Int) (Br : Option Addr) (cr : Nat) (rest : Po (El p m mod)) => [ro Br (ints (il rest)), ro B1 (ints (il (pol a : Po (El p m mod)))), ow Bp 22 cp (hdrs (takeOut us k.toNat)), ow2 Bg 64 cg (fcs gs), rowsCh 3 rs, blk p0 24 [.int .i64 p, .int .i64 m, .slice A mod.length c], ro A (ints mod)]) (fun (mm : Int) (Br : Option Addr) (cr : Nat) (rest : Po (El p m mod)) => (0 ≤ mm ∧ mm + Po.len rest ≤ Po.len (pol a : Po (El p m mod))) ∧ Rg.pow (pol (us.getD k.toNat rowD).xs : Po (El p m mod)) mm.toNat * rest = (pol a : Po (El p m mod))) (fun (mm : Int) (Br : Option Addr) (cr : Nat) (rest : Po (El p m mod)) => Po.len rest) (0) (B1) (c1) ((pol a : Po (El p m mod))) ⟨rfl, rfl, rfl, rfl, rfl, rfl, rfl, rfl, rfl, rfl, rfl, rfl, rfl, rfl, rfl, rfl, rfl, rfl, rfl, rfl, rfl, rfl, rfl, rfl, rfl, rfl, rfl, rfl, trivial⟩ (by first | exact cs _ _ | exact CSub.refl _) (⟨⟨by omega, by omega⟩, by rw [show Int.toNat 0 = 0 from rfl]; exact Rg.one_mul _⟩) (fun mm Br cr rest hI => ?_)
    obtain ⟨⟨hm0, hm1⟩, hpw⟩ := hI
    have hrne : rest ≠ 0 := fun e => h0 (by rw [← hpw, e, Rg.mul_zero])
    refine tS ?_
    refine tS ?_
    have hri := il_length rest
    refine tR fun _ _ _ => ?_
    refine sV (rLdS rfl rfl rfl) ?_
    iterate 2 refine pV ?_
    refine eV (eCallV rfl rfl rfl (ref_Divides p m A c mod Br _ cr (il rest) rfl (by omega) (us.getD k.toNat rowD).A _ (us.getD k.toNat rowD).cap (us.getD k.toNat rowD).xs rfl (by omega) (by omega) huP.ne) ⟨rfl, rfl, rfl, trivial⟩ ?_)
    rw [pol_il]
    refine tC rfl (fun h19 => ?_) (fun h19 => ?_)
    ·try simp only [zbA] at h19
     refine tK ?_
     refine tB ?_
     refine tS ?_
     refine tR fun _ _ _ => ?_
     refine sV (rLdS rfl rfl rfl) ?_
     iterate 2 refine pV ?_
     refine eV (eCall1 rfl rfl rfl (ref_div6 p m A c mod Br _ cr (il rest) rfl (by omega) (us.getD k.toNat rowD).A _ (us.getD k.toNat rowD).cap (us.getD k.toNat rowD).xs rfl (by omega) (by omega) huP.ne) ⟨rfl, rfl, rfl, trivial⟩ ?_)
     rintro _ _ ⟨Bq, cq, rfl, rfl⟩
     refine pV ?_
     rw [pol_il]
     have hdv : (pol (us.getD k.toNat rowD).xs : Po (El p m mod)) ∣ rest := (Po.rem_zero_iff huP.ne).1 (Po.eq_zero_of_len (by first | exact h19 | omega))
     have hql := quo_lt huP hrne hdv
     refine tR fun _ _ _ => ?_
     refine pV ?_
     refine sV (rAdd rfl rfl rfl (by omega) (by omega)) ?_
     refine pV ?_
     refine ⟨mm + 1, Bq, cq, Po.quo rest (pol (us.getD k.toNat rowD).xs : Po (El p m mod)), ⟨rfl, rfl, rfl, rfl, rfl, rfl, rfl, rfl, rfl, rfl, rfl, rfl, rfl, rfl, rfl, rfl, rfl, rfl, rfl, rfl, rfl, rfl, rfl, rfl, rfl, rfl, rfl, rfl, trivial⟩, by exact (cs _ [ow Bq 3 cq (ints (il (Po.quo rest (pol (us.getD k.toNat rowD).xs : Po (El p m mod))))), ro B1 (ints (il (pol a : Po (El p m mod)))), ow Bp 22 cp (hdrs (takeOut us k.toNat)), ow2 Bg 64 cg (fcs gs), rowsCh 3 rs, blk p0 24 [.int .i64 p, .int .i64 m, .slice A mod.length c], ro A (ints mod)]).trans (ow_ro _), ?_⟩
     refine ⟨⟨⟨by omega, by omega⟩, ?_⟩, by omega⟩
     rw [show (mm + 1).toNat = mm.toNat + 1 by omega]
     exact pow_next huP.ne hpw hdv
    ·try simp only [zbA] at h19
     refine tE ?_
     refine tR fun _ _ _ => ?_
     iterate 3 refine pV ?_
     refine sV (rBuild rfl rfl) ?_
     refine eV (eLitS rfl rfl rfl rfl (fun p22 => ?_))
     refine eV (eApp2 rfl rfl rfl rfl rfl (by first | rfl | simp) rfl (by first | (simp; done) | (simp; omega)) (by first | (simp; done) | (simp; omega)) (fun A22a c22a => ?_))
     refine pV ?_
     rw [fcs_snoc, fcs_length]
     refine ⟨Bp, cp, (takeOut us k.toNat), A22a, c22a, gs ++ [⟨(us.getD k.toNat rowD), mm⟩], ⟨rfl, rfl, rfl, rfl, rfl, rfl, rfl, trivial⟩, by first | exact cs _ _ | exact CSub.refl _, ?_⟩
     refine ⟨?_, by rw [takeOut_length]; omega⟩
     have hnd : ¬ (pol (us.getD k.toNat rowD).xs : Po (El p m mod)) ∣ rest := fun hd => h19 (by rw [(Po.rem_zero_iff huP.ne).2 hd, Po.len_zero]; first | rfl | omega)
     exact hS.step hIR (by omega) (fun j hj => hmin j (by omega)) (by rw [mu_of_mul h0 huP hpw hnd]; omega)
  ·try simp only [zbA] at h7
   refine tE ?_
   refine tS ?_
   refine tR fun _ _ _ => ?_
   iterate 4 refine pV ?_
   have hu0 : us = [] := List.eq_nil_of_length_eq_zero (by omega)
   subst hu0
   obtain ⟨hC, hR, hp⟩ := hS.done hIR
   exact tr_ret ⟨trivial, _, _, rfl, ⟨_, _, rfl, Bg, cg, gs, rfl, rfl, rfl, hC, hR, by omega⟩, (cs _ [rowsCh 3 rs, ow2 Bg 64 cg (fcs gs)]).trans ((rows_permM (rs := rs) (qs := rws gs) hp.symm _).trans (cs _ _)), trivial, trivial, trivial⟩
end Go.Proofs.Ytbhoeaijpnjgdaa

namespace Go.Proofs.Ytbhoeaijpnjgdaa
open Go.RowKit
section
variable {p m : Int} {mod : List Int} [hF : IsF p m mod]
open Po
theorem sf_mon {f : Po (El p m mod)} : Sf (mon f) ↔ Sf f := ⟨fun h => h.of_dvd (dvd_mon f), fun h => h.of_dvd (mon_dvd f)⟩
theorem sf_iff_der {f : Po (El p m mod)} (hf : f ≠ 0) : Sf f ↔ len (Po.gcd f (dP f)) ≤ 1 := by
 constructor
 ·intro h; exact Nat.le_of_eq (sf_der hf h)
 ·intro h P hP hd
  have h1 : 2 ≤ mu P f := by
   have := (mu_le_iff hP hf 2).1 (by rw [Rg.pow_succ, Rg.pow_one]; exact hd)
   exact this
  have hg := gcd_ne (g := dP f) (.inl hf)
  have h2 := mu_gcd_dP hP hf
  have h3 : 1 ≤ mu P (Po.gcd f (dP f)) := by
   rw [h2]; split <;> omega
  have h4 := dvd_len ((mu_pos hP hg).2 h3) hg
  have := hP.two
  omega
theorem sf_iff_rad {f r : Po (El p m mod)} (hf : f ≠ 0) (h : Rad f r) : Sf f ↔ len r = len f := by
 constructor
 ·intro hs
  have h1 : Rad f (mon f) := ⟨mon_lead hf, sf_mon.2 hs, fun P a b => ⟨fun hd => dvd_trans hd (mon_dvd f), fun hd => dvd_trans hd (dvd_mon f)⟩⟩
  rw [h.uniq h1, mon_len]
 ·intro hl
  have h1 : r ∣ f := h.sf.dvd (lead1_ne h.mon) fun P a b c => (h.dv P a b).1 c
  exact h.sf.of_dvd (dvd_of_len h1 hf (by omega))
noncomputable def dgr (P : Po (El p m mod)) : Nat := len P - 1
structure DgW (F : Po (El p m mod)) (d : Nat) (f h : Po (El p m mod)) (hs : List FacM) : Prop where
 mon : lead f = 1
 sf : Sf f
 dv : ∀ P, Ir P → lead P = 1 → (P ∣ f ↔ P ∣ F ∧ d ≤ dgr P)
 gr : GrI F dgr d hs
 cong : f ∣ h - Rg.pow X ((pw p m).toNat ^ (d - 1))
theorem DgW.start {F : Po (El p m mod)} (hl : lead F = 1) (hs : Sf F) : DgW F 1 F X [] := by
 refine ⟨hl, hs, fun P a b => ⟨fun hd => ⟨hd, ?_⟩, fun hd => hd.1⟩, grI_nil F dgr 1 fun P a b c => ?_, ?_⟩
 ·have := a.two; unfold dgr; omega
 ·have := a.two; unfold dgr; omega
 ·rw [Nat.sub_self, Nat.pow_zero, show Rg.pow (X : Po (El p m mod)) 1 = X from Rg.one_mul _, Rg.sub_self]; exact dvd_zero F
variable {F f h : Po (El p m mod)} {d : Nat} {hs : List FacM}
theorem DgW.part (w : DgW F d f h hs) (hd : 1 ≤ d) : Po.rem (Rg.pow h (pw p m).toNat) f = Po.rem (Rg.pow X ((pw p m).toNat ^ d)) f ∧ (∀ g, g = Po.gcd f (Po.rem (Rg.pow X ((pw p m).toNat ^ d)) f - X) → lead g = 1 ∧ Sf g ∧ g ∣ f ∧ ∀ P, Ir P → lead P = 1 → (P ∣ g ↔ P ∣ F ∧ dgr P = d)) := by
 have hf0 := lead1_ne w.mon
 have h1 := xq_step hf0 w.cong
 rw [show d - 1 + 1 = d by omega] at h1
 refine ⟨h1, fun g hg => ?_⟩
 rw [gcd_half hf0 d] at hg
 subst hg
 have hp := part_gcd hf0 d hd
 refine ⟨hp.mon, hp.sf, (gcd_is f _).left, fun P a b => ?_⟩
 rw [hp.iff P a b, w.dv P a b]
 constructor
 ·rintro ⟨⟨x, y⟩, z⟩
  refine ⟨x, ?_⟩
  have := Nat.le_of_dvd (by omega) z
  unfold dgr at *; omega
 ·rintro ⟨x, y⟩
  refine ⟨⟨x, by omega⟩, ?_⟩
  unfold dgr at y
  rw [y]; exact Nat.dvd_refl d
theorem DgW.yes (w : DgW F d f h hs) (hd : 1 ≤ d) {g : Po (El p m mod)} (hg : g = Po.gcd f (Po.rem (Rg.pow X ((pw p m).toNat ^ d)) f - X)) (h2 : 2 ≤ len g) (A : Option Addr) (c : Nat) : DgW F (d + 1) (quo f g) (Po.rem (Rg.pow X ((pw p m).toNat ^ d)) f) (hs ++ [⟨⟨A, c, il g⟩, (d : Int)⟩]) ∧ len (quo f g) < len f := by
 have hf0 := lead1_ne w.mon
 obtain ⟨g1, g2, g3, g4⟩ := (w.part hd).2 g hg
 have e := quo_eq (lead1_ne g1) g3
 have hq : quo f g ≠ 0 := fun hz => hf0 (by rw [e, hz, Rg.zero_mul])
 have hql := len_mul hq (lead1_ne g1)
 rw [← e] at hql
 have hqd : quo f g ∣ f := ⟨g, e⟩
 refine ⟨⟨quo_mon w.mon g3 g1, w.sf.of_dvd hqd, fun P a b => ?_, w.gr.yes A c g1 h2 g2 fun P a b => g4 P a b, ?_⟩, by omega⟩
 ·have h3 : Sf (g * quo f g) := by rw [Rg.mul_comm, ← e]; exact w.sf
  rw [sf_quo h3 (lead1_ne g1) a, Rg.mul_comm, ← e, w.dv P a b, g4 P a b]
  constructor
  ·rintro ⟨⟨x, y⟩, z⟩
   refine ⟨x, ?_⟩
   rcases Nat.lt_or_eq_of_le y with k | k
   ·omega
   ·exact absurd ⟨x, k.symm⟩ z
  ·rintro ⟨x, y⟩
   exact ⟨⟨x, by omega⟩, fun z => by omega⟩
 ·rw [Nat.add_sub_cancel]
  exact dvd_trans hqd (rem_back hf0)
theorem DgW.no (w : DgW F d f h hs) (hd : 1 ≤ d) {g : Po (El p m mod)} (hg : g = Po.gcd f (Po.rem (Rg.pow X ((pw p m).toNat ^ d)) f - X)) (h2 : ¬ 2 ≤ len g) : DgW F (d + 1) f (Po.rem (Rg.pow X ((pw p m).toNat ^ d)) f) hs := by
 obtain ⟨g1, g2, g3, g4⟩ := (w.part hd).2 g hg
 have hno : ∀ P, Ir P → lead P = 1 → P ∣ F → dgr P ≠ d := fun P a b c e => h2 (by
  have := dvd_len ((g4 P a b).2 ⟨c, e⟩) (lead1_ne g1)
  have := a.two
  omega)
 refine ⟨w.mon, w.sf, fun P a b => ?_, w.gr.no hno, by rw [Nat.add_sub_cancel]; exact rem_back (lead1_ne w.mon)⟩
 rw [w.dv P a b]
 constructor
 ·rintro ⟨x, y⟩
  refine ⟨x, ?_⟩
  have := hno P a b x
  omega
 ·rintro ⟨x, y⟩
  exact ⟨x, by omega⟩
theorem DgW.last (w : DgW F d f h hs) (hd : 1 ≤ d) (hl : len f ≤ 2 * d) (h2 : 2 ≤ len f) (A : Option Addr) (c : Nat) : GrI F dgr (len f) (hs ++ [⟨⟨A, c, il f⟩, ((len f - 1 : Nat) : Int)⟩]) ∧ ∀ P, Ir P → lead P = 1 → P ∣ F → dgr P < len f := by
 have hf0 := lead1_ne w.mon
 have hir : Ir f := ir_of_no h2 fun P hP hPd => by
  obtain ⟨k, hk⟩ := hPd
  have hk0 : k ≠ 0 := fun e => hf0 (by rw [hk, e, Rg.mul_zero])
  have hlk := len_mul hP.ne hk0
  rw [← hk] at hlk
  refine Classical.byContradiction fun hne => ?_
  have hkp := len_pos hk0
  obtain ⟨Q, hQ, hQl, hQd⟩ := ir_ex (f := k) (by omega)
  have h3 := dvd_len hQd hk0
  have h4 := ((w.dv Q hQ hQl).1 (by rw [hk]; exact dvd_mul_ofL hQd P)).2
  obtain ⟨hm, hml⟩ := hP.mon
  have h5 := ((w.dv _ hm hml).1 (dvd_trans (mon_dvd P) (by rw [hk]; exact dvd_mul _ _))).2
  unfold dgr at h4 h5
  rw [mon_len] at h5
  have := hQ.two
  have := hP.two
  omega
 have hdf := (w.dv f hir w.mon).1 ⟨1, (Rg.mul_one f).symm⟩
 have honly : ∀ P, Ir P → lead P = 1 → P ∣ F → d ≤ dgr P → P = f := fun P a b c e => a.one hir b w.mon ((w.dv P a b).2 ⟨c, e⟩)
 have hg2 := w.gr.more (c := len f - 1) hdf.2 fun P a b c => by
  rcases Nat.lt_or_ge (dgr P) d with e | e
  ·exact .inl e
  ·right; rw [honly P a b c e]; exact Nat.le_refl _
 have h3 := hg2.yes A c w.mon h2 hir.sf fun P a b => ⟨fun hPf => ⟨dvd_trans hPf hdf.1, by rw [a.one hir b w.mon hPf]; rfl⟩, fun ⟨x, y⟩ => by
  rw [honly P a b x (by rw [y]; exact hdf.2)]; exact ⟨1, (Rg.mul_one f).symm⟩⟩
 rw [show len f - 1 + 1 = len f by omega] at h3
 refine ⟨h3, fun P a b c => ?_⟩
 rcases Nat.lt_or_ge (dgr P) d with e | e
 ·have h6 : d ≤ len f - 1 := hdf.2
  omega
 ·rw [honly P a b c e]; unfold dgr; omega
theorem DgW.one (w : DgW F d f h hs) (h2 : ¬ 2 ≤ len f) : ∀ P, Ir P → lead P = 1 → P ∣ F → dgr P < d := fun P a b c => Nat.lt_of_not_le fun e => by
 have h1 := dvd_len ((w.dv P a b).2 ⟨c, e⟩) (lead1_ne w.mon)
 have := a.two
 omega
theorem DgW.le (w : DgW F d f h hs) (hF : F ≠ 0) : len f ≤ len F := dvd_len (w.sf.dvd (lead1_ne w.mon) fun P a b c => ((w.dv P a b).1 c).1) hF
end
end Go.Proofs.Ytbhoeaijpnjgdaa

set_option maxRecDepth 100000
set_option maxHeartbeats 1000000
namespace Go.Proofs.Ytbhoeaijpnjgdaa
open Go.RowKit
def keyF (dg : Bool) (e : FacM) : Int := if dg then (e.r.xs.length : Int) - 1 else e.k
theorem ref_Group_ent : Enters Try.prog 20 := enters_of Try.func20 (by kernel_rfl) (by kernel_rfl)
theorem ref_Group (p m : Int) (A : Option Addr) (c : Nat) (mod : List Int) [hF : IsF p m mod] (X : Option Addr) (nx cx : Nat) (gs : List FacM) (hnx : nx = gs.length) (F : Po (El p m mod)) (hF0 : F ≠ 0) (h9 : Po.len F ≤ 257) (hC : CmI F gs) (hl9 : gs.length ≤ 1000) (dg : Bool) (κ : Po (El p m mod) → Nat) (hk : KeyI F κ gs (keyF dg)) (hκ : ∀ P, Po.Ir P → Po.lead P = 1 → P ∣ F → 1 ≤ κ P ∧ κ P ≤ 256) :
  Pure Try.prog 20 #[.agg #[.int .i64 p, .int .i64 m, .slice A mod.length c], .slice X nx cx, .bool dg] [ro A (ints mod), ro X (prs (fcs gs)), rowsR (rws gs)] (two (fun v ch ch2 => ∃ B cap hs, v = .slice B hs.length cap ∧ ch = ow2 B 64 cap (fcs hs) ∧ ch2 = rowsCh 3 (rws hs) ∧ GrI F κ 257 hs ∧ hs.length ≤ 257)) := by
 have hq2 := hF.q2
 have hcl := hC.le hF0
 refine pure_of (args := [.agg #[.int .i64 p, .int .i64 m, .slice A mod.length c], .slice X nx cx, .bool dg]) 58 Try.func20 rfl rfl rfl ref_Group_ent ⟨id, id, id, trivial⟩ (fun w0 => ?_)
 refine tS ?_
 refine tR fun _ _ _ => ?_
 refine eV (eBox rfl rfl rfl rfl rfl (fun p0 => ?_))
 refine pV ?_
 refine tS ?_
 refine tR fun _ _ _ => ?_
 refine eV (eLit0S rfl rfl rfl (fun A1 => ?_))
 refine pV ?_
 refine tS ?_
 refine tS ?_
 refine tR fun _ _ _ => ?_
 refine pV ?_
 refine tB ?_
 refine tr_loop4 (fun (z : Int) (Bg : Option Addr) (cg : Nat) (hs : List FacM) => [(7, .slice Bg hs.length cg), (8, .int .i64 z), (1, .slice X nx cx), (2, .bool dg), (3, .pointer (some p0)), (6, .slice none 0 0)]) (fun (z : Int) (Bg : Option Addr) (cg : Nat) (hs : List FacM) => [ow2 Bg 64 cg (fcs hs), rowsCh 3 (rws hs), blk p0 24 [.int .i64 p, .int .i64 m, .slice A mod.length c], ro A (ints mod), ro X (prs (fcs gs)), rowsR (rws gs)]) (fun (z : Int) (Bg : Option Addr) (cg : Nat) (hs : List FacM) => (1 ≤ z ∧ z ≤ 257) ∧ GrI F κ z.toNat hs ∧ hs.length + 1 ≤ z) (fun (z : Int) (Bg : Option Addr) (cg : Nat) (hs : List FacM) => (257 - z).toNat) (1) (A1) (0) ([]) ⟨rfl, rfl, rfl, rfl, rfl, rfl, trivial⟩ (by exact (rows_nil 3 _).trans (cs _ [ow2 A1 64 0 (fcs []), rowsCh 3 [], blk p0 24 [.int .i64 p, .int .i64 m, .slice A mod.length c], ro A (ints mod), ro X (prs (fcs gs)), rowsR (rws gs)])) (⟨⟨by omega, by omega⟩, grI_nil F κ 1 (fun P a b c => (hκ P a b c).1), by simp⟩) (fun z Bg cg hs hI => ?_)
 obtain ⟨⟨hz0, hz1⟩, hG, hhl⟩ := hI
 refine tS ?_
 refine tS ?_
 refine tR fun _ _ _ => ?_
 iterate 2 refine pV ?_
 refine tC rfl (fun h3 => ?_) (fun h3 => ?_)
 ·try simp only [zbA] at h3
  refine tK ?_
  refine tS ?_
  refine tB ?_
  refine tS ?_
  refine tR fun _ _ _ => ?_
  refine eV (eLit1I rfl rfl rfl rfl (fun A5 => ?_))
  refine pV ?_
  have h10 : ([1] : List Int) = il (prd (grL p m mod gs (keyF dg) z (Int.toNat 0))) := il_one.symm
  refine tS ?_
  refine tS ?_
  refine tR fun _ _ _ => ?_
  refine pV ?_
  refine tB ?_
  refine tr_loop4 (fun (i : Int) (Bl : Option Addr) (cl : Nat) (l : List Int) => [(7, .slice Bg hs.length cg), (8, .int .i64 z), (9, .slice Bl l.length cl), (10, .int .i64 i), (1, .slice X nx cx), (2, .bool dg), (3, .pointer (some p0)), (6, .slice none 0 0), (13, .int .i64 z)]) (fun (i : Int) (Bl : Option Addr) (cl : Nat) (l : List Int) => [ow Bl 3 cl (ints l), ow2 Bg 64 cg (fcs hs), rowsCh 3 (rws hs), blk p0 24 [.int .i64 p, .int .i64 m, .slice A mod.length c], ro A (ints mod), ro X (prs (fcs gs)), rowsR (rws gs)]) (fun (i : Int) (Bl : Option Addr) (cl : Nat) (l : List Int) => (0 ≤ i ∧ i ≤ gs.length) ∧ l = il (prd (grL p m mod gs (keyF dg) z i.toNat))) (fun (i : Int) (Bl : Option Addr) (cl : Nat) (l : List Int) => (gs.length - i).toNat) (0) (A5) (1) ([1]) ⟨rfl, rfl, rfl, rfl, rfl, rfl, rfl, rfl, rfl, trivial⟩ (by first | exact cs _ _ | exact CSub.refl _) (⟨⟨by omega, by omega⟩, h10⟩) (fun i Bl cl l hI => ?_)
  obtain ⟨⟨hi0, hi1⟩, rfl⟩ := hI
  refine tS ?_
  refine tS ?_
  skip
  refine tR fun _ _ _ => ?_
  iterate 2 refine pV ?_
  refine sV (rLenS rfl rfl) ?_
  refine pV ?_
  refine tC rfl (fun h7 => ?_) (fun h7 => ?_)
  ·try simp only [zbA] at h7
   refine tK ?_
   refine tS ?_
   refine tB ?_
   refine tS ?_
   haveI : InB i.toNat gs.length := ⟨by omega⟩
   have hji : i.toNat < gs.length := by omega
   have hfi := hcl _ (getD_mem hji facD)
   have hff := hC.fc hF0 (getD_mem hji facD)
   obtain ⟨g1, g2⟩ := grL_ok hF0 hC (keyF dg) z i.toNat (by omega)
   obtain ⟨g3, g4, g5, g6⟩ := prd_irs hF0 g1 g2
   have hpi := il_length (prd (grL p m mod gs (keyF dg) z i.toNat))
   have hqi := il_length (pol (gs.getD i.toNat facD).r.xs : Po (El p m mod))
   have hqx : il (pol (gs.getD i.toNat facD).r.xs : Po (El p m mod)) = (gs.getD i.toNat facD).r.xs := hff.2.2.2.1.symm
   have hqx2 := congrArg List.length hqx
   have hnx2 : grL p m mod gs (keyF dg) z (i + 1).toNat = if keyF dg (gs.getD i.toNat facD) = z then grL p m mod gs (keyF dg) z i.toNat ++ [fcP p m mod (gs.getD i.toNat facD)] else grL p m mod gs (keyF dg) z i.toNat := by rw [show (i + 1).toNat = i.toNat + 1 by omega]; rfl
   refine tR fun _ _ _ => ?_
   iterate 2 refine pV ?_
   refine sV (rIdxT rfl rfl rfl (by omega) (by omega) (by simp; omega)) ?_
   refine sV (rFld rfl rfl) ?_
   refine sV (rLdG1 rfl rfl (by omega)) ?_
   refine pV ?_
   refine tS ?_
   refine tS ?_
   refine tR fun _ _ _ => ?_
   refine pV ?_
   refine tC rfl (fun h10 => ?_) (fun h10 => ?_)
   ·try simp only [zbA] at h10
    refine tR fun _ _ _ => ?_
    iterate 2 refine pV ?_
    refine sV (rIdxT rfl rfl rfl (by omega) (by omega) (by simp; omega)) ?_
    refine sV (rFld rfl rfl) ?_
    refine sV (rLdG0 rfl rfl (by omega)) ?_
    refine sV (rLen rfl rfl) ?_
    refine sV (rSub rfl rfl rfl (by omega) (by omega)) ?_
    refine pV ?_
    refine tS ?_
    refine tR fun _ _ _ => ?_
    iterate 3 refine pV ?_
    refine tC rfl (fun h12 => ?_) (fun h12 => ?_)
    ·try simp only [zbA] at h12
     have hke : keyF dg (gs.getD i.toNat facD) = z := by unfold keyF; rw [h10]; first | (rw [if_pos rfl]; omega) | (rw [if_neg (by simp)]; omega)
     refine tr_draw [0, 1, 2, 3, 4, 5, 6, 7, 8] [] mixed (by kernel_rfl) fun _ _ _ => ?_
     refine sV (rLdS rfl rfl rfl) ?_
     iterate 3 refine pV ?_
     refine sV (rIdxT rfl rfl rfl (by omega) (by omega) (by simp; omega)) ?_
     refine sV (rFld rfl rfl) ?_
     refine sV (rLdG0 rfl rfl (by omega)) ?_
     refine eV (eCall1 rfl rfl rfl (ref_PMulL p m A c mod Bl _ cl (il (prd (grL p m mod gs (keyF dg) z i.toNat))) rfl (by omega) (gs.getD i.toNat facD).r.A _ (gs.getD i.toNat facD).r.cap (gs.getD i.toNat facD).r.xs rfl (by omega) (by omega)) ⟨rfl, rfl, rfl, trivial⟩ ?_)
     rintro _ _ ⟨B13, c13, rfl, rfl⟩
     refine pV ?_
     rw [pol_il, show (prd (grL p m mod gs (keyF dg) z i.toNat)) * (pol (gs.getD i.toNat facD).r.xs : Po (El p m mod)) = (prd (grL p m mod gs (keyF dg) z (i + 1).toNat)) from (by rw [hnx2, if_pos hke, prd_one]; rfl)]
     refine tR fun _ _ _ => ?_
     refine pV ?_
     refine sV (rAdd rfl rfl rfl (by omega) (by omega)) ?_
     refine pV ?_
     refine ⟨i + 1, B13, c13, il (prd (grL p m mod gs (keyF dg) z (i + 1).toNat)), ⟨rfl, rfl, rfl, rfl, rfl, rfl, rfl, rfl, rfl, trivial⟩, by first | exact cs _ _ | exact CSub.refl _, ?_⟩
     exact ⟨⟨⟨by omega, by omega⟩, rfl⟩, by omega⟩
    ·try simp only [zbA] at h12
     refine tK ?_
     refine tR fun _ _ _ => ?_
     refine pV ?_
     refine sV (rAdd rfl rfl rfl (by omega) (by omega)) ?_
     refine pV ?_
     refine ⟨i + 1, Bl, cl, il (prd (grL p m mod gs (keyF dg) z i.toNat)), ⟨rfl, rfl, rfl, rfl, rfl, rfl, rfl, rfl, rfl, trivial⟩, by first | exact cs _ _ | exact CSub.refl _, ?_⟩
     have hke : ¬ keyF dg (gs.getD i.toNat facD) = z := by unfold keyF; rw [h10]; first | (rw [if_pos rfl]; omega) | (rw [if_neg (by simp)]; omega)
     exact ⟨⟨⟨by omega, by omega⟩, by rw [hnx2, if_neg hke]⟩, by omega⟩
   ·try simp only [zbA] at h10
    refine tK ?_
    refine tS ?_
    refine tR fun _ _ _ => ?_
    iterate 3 refine pV ?_
    refine tC rfl (fun h12 => ?_) (fun h12 => ?_)
    ·try simp only [zbA] at h12
     have hke : keyF dg (gs.getD i.toNat facD) = z := by unfold keyF; rw [h10]; first | (rw [if_pos rfl]; omega) | (rw [if_neg (by simp)]; omega)
     refine tr_draw [0, 1, 2, 3, 4, 5, 6, 7, 8] [] mixed (by kernel_rfl) fun _ _ _ => ?_
     refine sV (rLdS rfl rfl rfl) ?_
     iterate 3 refine pV ?_
     refine sV (rIdxT rfl rfl rfl (by omega) (by omega) (by simp; omega)) ?_
     refine sV (rFld rfl rfl) ?_
     refine sV (rLdG0 rfl rfl (by omega)) ?_
     refine eV (eCall1 rfl rfl rfl (ref_PMulL p m A c mod Bl _ cl (il (prd (grL p m mod gs (keyF dg) z i.toNat))) rfl (by omega) (gs.getD i.toNat facD).r.A _ (gs.getD i.toNat facD).r.cap (gs.getD i.toNat facD).r.xs rfl (by omega) (by omega)) ⟨rfl, rfl, rfl, trivial⟩ ?_)
     rintro _ _ ⟨B13, c13, rfl, rfl⟩
     refine pV ?_
     rw [pol_il, show (prd (grL p m mod gs (keyF dg) z i.toNat)) * (pol (gs.getD i.toNat facD).r.xs : Po (El p m mod)) = (prd (grL p m mod gs (keyF dg) z (i + 1).toNat)) from (by rw [hnx2, if_pos hke, prd_one]; rfl)]
     refine tR fun _ _ _ => ?_
     refine pV ?_
     refine sV (rAdd rfl rfl rfl (by omega) (by omega)) ?_
     refine pV ?_
     refine ⟨i + 1, B13, c13, il (prd (grL p m mod gs (keyF dg) z (i + 1).toNat)), ⟨rfl, rfl, rfl, rfl, rfl, rfl, rfl, rfl, rfl, trivial⟩, by first | exact cs _ _ | exact CSub.refl _, ?_⟩
     exact ⟨⟨⟨by omega, by omega⟩, rfl⟩, by omega⟩
    ·try simp only [zbA] at h12
     refine tK ?_
     refine tR fun _ _ _ => ?_
     refine pV ?_
     refine sV (rAdd rfl rfl rfl (by omega) (by omega)) ?_
     refine pV ?_
     refine ⟨i + 1, Bl, cl, il (prd (grL p m mod gs (keyF dg) z i.toNat)), ⟨rfl, rfl, rfl, rfl, rfl, rfl, rfl, rfl, rfl, trivial⟩, by first | exact cs _ _ | exact CSub.refl _, ?_⟩
     have hke : ¬ keyF dg (gs.getD i.toNat facD) = z := by unfold keyF; rw [h10]; first | (rw [if_pos rfl]; omega) | (rw [if_neg (by simp)]; omega)
     exact ⟨⟨⟨by omega, by omega⟩, by rw [hnx2, if_neg hke]⟩, by omega⟩
  ·try simp only [zbA] at h7
   refine tE ?_
   refine tS ?_
   have hin : i.toNat = gs.length := by omega
   rw [hin]
   obtain ⟨g1, g2⟩ := grL_ok hF0 hC (keyF dg) z gs.length (Nat.le_refl _)
   obtain ⟨g3, g4, g5, g6⟩ := prd_irs hF0 g1 g2
   have hpi := il_length (prd (grL p m mod gs (keyF dg) z gs.length))
   have hzn : ((z.toNat : Nat) : Int) = z := by omega
   have hGs := GrI.step hF0 hC hk hG
   rw [hzn] at hGs
   refine tR fun _ _ _ => ?_
   refine pV ?_
   refine sV (rLen rfl rfl) ?_
   refine pV ?_
   refine tC rfl (fun h14 => ?_) (fun h14 => ?_)
   ·try simp only [zbA] at h14
    refine tR fun _ _ _ => ?_
    iterate 3 refine pV ?_
    refine sV (rBuild rfl rfl) ?_
    refine eV (eLitS rfl rfl rfl rfl (fun p15 => ?_))
    refine eV (eApp2 rfl rfl rfl rfl rfl (by first | rfl | simp) rfl (by first | (simp; done) | (simp; omega)) (by first | (simp; done) | (simp; omega)) (fun A15a c15a => ?_))
    refine pV ?_
    rw [fcs_snoc, fcs_length]
    refine tR fun _ _ _ => ?_
    refine pV ?_
    refine sV (rAdd rfl rfl rfl (by omega) (by omega)) ?_
    refine pV ?_
    refine ⟨z + 1, A15a, c15a, hs ++ [⟨⟨Bl, cl, il (prd (grL p m mod gs (keyF dg) z gs.length))⟩, z⟩], ⟨rfl, rfl, rfl, rfl, rfl, rfl, trivial⟩, by rw [rws_app]; exact rows_app (r := ⟨Bl, cl, il (prd (grL p m mod gs (keyF dg) z gs.length))⟩), ?_⟩
    refine ⟨⟨⟨by omega, by omega⟩, ?_, by simp; omega⟩, by omega⟩
    rw [show (z + 1).toNat = z.toNat + 1 by omega]
    exact hGs.1 (by omega) Bl cl
   ·try simp only [zbA] at h14
    refine tK ?_
    refine tR fun _ _ _ => ?_
    refine pV ?_
    refine sV (rAdd rfl rfl rfl (by omega) (by omega)) ?_
    refine pV ?_
    refine ⟨z + 1, Bg, cg, hs, ⟨rfl, rfl, rfl, rfl, rfl, rfl, trivial⟩, by first | exact cs _ _ | exact CSub.refl _, ?_⟩
    refine ⟨⟨⟨by omega, by omega⟩, ?_, by omega⟩, by omega⟩
    rw [show (z + 1).toNat = z.toNat + 1 by omega]
    exact hGs.2 (by omega)
 ·try simp only [zbA] at h3
  refine tE ?_
  refine tS ?_
  refine tR fun _ _ _ => ?_
  iterate 2 refine pV ?_
  have hz7 : z.toNat = 257 := by omega
  rw [hz7] at hG
  exact tr_ret ⟨trivial, _, _, rfl, ⟨_, _, rfl, Bg, cg, hs, rfl, rfl, rfl, hG, by omega⟩, cs _ _, trivial, trivial, trivial⟩
theorem ref_Squarefree6_ent : Enters Try.prog 17 := enters_of Try.func17 (by kernel_rfl) (by kernel_rfl)
theorem ref_Squarefree6 (p m : Int) (A : Option Addr) (c : Nat) (mod : List Int) [hF : IsF p m mod] (Xa : Option Addr) (na ca : Nat) (a : List Int) (hna : na = a.length) (ha9 : a.length ≤ 17592186044415) (h1 : 1 ≤ Po.len (pol a : Po (El p m mod))) (h9 : Po.len (pol a : Po (El p m mod)) ≤ 257) :
  Pure Try.prog 17 #[.agg #[.int .i64 p, .int .i64 m, .slice A mod.length c], .slice Xa na ca] [ro A (ints mod), ro Xa (ints a)] (isV (.bool (@decide (Po.Sf (pol a : Po (El p m mod))) (Classical.propDecidable _)))) := by
 have hil := il_length (pol a : Po (El p m mod))
 have h0 : (pol a : Po (El p m mod)) ≠ 0 := Po.len_pos_iff.1 (by omega)
 refine pure_of (args := [.agg #[.int .i64 p, .int .i64 m, .slice A mod.length c], .slice Xa na ca]) 14 Try.func17 rfl rfl rfl ref_Squarefree6_ent ⟨id, id, trivial⟩ (fun w0 => ?_)
 refine tS ?_
 refine tR fun _ _ _ => ?_
 refine eV (eBox rfl rfl rfl rfl rfl (fun p0 => ?_))
 refine pV ?_
 refine tS ?_
 refine tr_tree (.one 0 (.one 1 (.one 4 (.one 5 (.one 2 (.one 3 (.one 6 (.one 7 (.one 8 (.one 9 .nil)))))))))) [] mixed (by kernel_rfl) fun _ _ _ => ?_
 refine sV (rLdS rfl rfl rfl) ?_
 refine pV ?_
 refine sV (rLdS rfl rfl rfl) ?_
 refine pV ?_
 refine eV (eCall1 rfl rfl rfl (ref_Radical p m A c mod Xa na ca a hna ha9 h1 h9) ⟨rfl, rfl, trivial⟩ ?_)
 rintro _ _ ⟨B1, c1, r, rfl, rfl, hrad⟩
 refine sV (rLen rfl rfl) ?_
 refine eV (eCall1 rfl rfl rfl (ref_CanonE p m A c mod Xa na ca a hna ha9) ⟨rfl, rfl, trivial⟩ ?_)
 rintro _ _ ⟨B2, c2, rfl, rfl⟩
 refine sV (rLen rfl rfl) ?_
 iterate 2 refine pV ?_
 have hrl := il_length r
 have hsf := sf_iff_rad h0 hrad
 have hb : decide (((il r).length : Int) = ((il (pol a : Po (El p m mod))).length : Int)) = @decide (Po.Sf (pol a : Po (El p m mod))) (Classical.propDecidable _) := by
  by_cases hs : Po.Sf (pol a : Po (El p m mod))
  ·rw [decide_eq_true (by have := hsf.1 hs; omega)]; exact (@decide_eq_true _ (Classical.propDecidable _) hs).symm
  ·rw [decide_eq_false (fun e => hs (hsf.2 (by omega)))]; exact (@decide_eq_false _ (Classical.propDecidable _) hs).symm
 exact tr_ret ⟨trivial, _, _, rfl, ⟨by rw [hb], rfl⟩, CSub.nil _, trivial⟩
 all_goals skip
theorem fac_ByDegreeE_ent : Enters Try.prog 15 := enters_of Try.func15 (by kernel_rfl) (by kernel_rfl)
theorem fac_ByDegreeE (g : GfM) {p m : Int} {mod : List Int} [hF : IsF p m mod] (hg : GOk g p m mod) (A : Option Addr) (n c : Nat) (a : List Int) (hn : n = a.length) (ha9 : a.length ≤ 17592186044415) (he : facE (Po.len (pol a : Po (El p m mod))) ≠ 0) :
  Pure Try.prog 15 #[.pointer (some g.p), .slice A n c] [gfR g, ro A (ints a)] (isV (.tuple #[.slice none 0 0, .int .i64 (facE (Po.len (pol a : Po (El p m mod))))])) := by
 refine pure_of (args := [.pointer (some g.p), .slice A n c]) 80 Try.func15 rfl rfl rfl fac_ByDegreeE_ent ⟨id, id, trivial⟩ (fun w0 => ?_)
 refine tS ?_
 refine tR fun _ _ _ => ?_
 iterate 2 refine pV ?_
 refine tS ?_
 refine tR fun _ _ _ => ?_
 iterate 2 refine pV ?_
 refine eV (eCallV rfl rfl rfl (fac_enterE g hg A n c a hn ha9 he) ⟨rfl, rfl, trivial⟩ ?_)
 iterate 5 refine pV ?_
 refine tS ?_
 refine tS ?_
 refine tR fun _ _ _ => ?_
 iterate 2 refine pV ?_
 refine tC rfl (fun h2 => ?_) (fun h2 => ?_)
 ·try simp only [zbA] at h2
  refine tS ?_
  refine tR fun _ _ _ => ?_
  iterate 3 refine pV ?_
  exact tr_ret ⟨trivial, _, _, rfl, ⟨rfl, rfl⟩, CSub.nil _, trivial⟩
 ·try simp only [zbA] at h2
  omega --done
theorem fac_ByDegreeF_ent : Enters Try.prog 15 := enters_of Try.func15 (by kernel_rfl) (by kernel_rfl)
theorem fac_ByDegreeF (g : GfM) {p m : Int} {mod : List Int} [hF : IsF p m mod] (hg : GOk g p m mod) (A : Option Addr) (n c : Nat) (a : List Int) (hn : n = a.length) (ha9 : a.length ≤ 17592186044415) (he : facE (Po.len (pol a : Po (El p m mod))) = 0) (hs : ¬ Po.Sf (pol a : Po (El p m mod))) :
  Pure Try.prog 15 #[.pointer (some g.p), .slice A n c] [gfR g, ro A (ints a)] (isV (.tuple #[.slice none 0 0, .int .i64 5])) := by
 have hq2 := hF.q2
 have hil := il_length (pol a : Po (El p m mod))
 have hle := facE_ok he
 have h0 : (pol a : Po (El p m mod)) ≠ 0 := Po.len_pos_iff.1 (by omega)
 have hml := Po.mon_len (pol a : Po (El p m mod))
 have hm0 := Po.mon_ne h0
 have hmle := Po.mon_lead h0
 have hmil := il_length (Po.mon (pol a : Po (El p m mod)))
 have hdl := len_dP (pol a : Po (El p m mod))
 have hdi := il_length (dP (pol a : Po (El p m mod)))
 have hgl := Po.dvd_len (Po.gcd_is (pol a) (dP (pol a)) : Po.IsG (pol a : Po (El p m mod)) _ _).left h0
 have hgi := il_length (Po.gcd (pol a) (dP (pol a)) : Po (El p m mod))
 have hsf := sf_iff_der h0
 refine pure_of (args := [.pointer (some g.p), .slice A n c]) 80 Try.func15 rfl rfl rfl fac_ByDegreeF_ent ⟨id, id, trivial⟩ (fun w0 => ?_)
 refine tS ?_
 refine tR fun _ _ _ => ?_
 iterate 2 refine pV ?_
 refine tS ?_
 refine tR fun _ _ _ => ?_
 iterate 2 refine pV ?_
 refine eV (eCall1 rfl rfl rfl (fac_enter g hg A n c a hn ha9 he) ⟨rfl, rfl, trivial⟩ ?_)
 rintro _ _ ⟨B1, c1, rfl, hc1, rfl⟩
 iterate 5 refine pV ?_
 refine tS ?_
 refine tS ?_
 refine tR fun _ _ _ => ?_
 iterate 2 refine pV ?_
 refine tC rfl (fun h2 => ?_) (fun h2 => ?_)
 ·try simp only [zbA] at h2
  first | exact absurd trivial h2 | exact absurd rfl h2 | omega | (exact absurd h2 (by simp)) --done
 ·try simp only [zbA] at h2
  refine tK ?_
  refine tS ?_
  refine tS ?_
  refine tR fun _ _ _ => ?_
  iterate 5 refine pV ?_
  refine eV (eCall1 rfl rfl rfl (poly_Derivative g hg B1 _ c1 (il (pol a : Po (El p m mod))) rfl (by omega)) ⟨rfl, rfl, trivial⟩ ?_)
  rintro _ _ ⟨B4, c4, rfl, rfl⟩
  rw [pol_il]
  refine eV (eCall1 rfl rfl rfl (poly_Gcd g hg B1 _ c1 (il (pol a : Po (El p m mod))) rfl (by omega) B4 _ c4 (il (dP (pol a : Po (El p m mod)))) rfl (by omega) (.inl (by rw [pol_il]; exact h0))) ⟨rfl, rfl, rfl, trivial⟩ ?_)
  rintro _ _ ⟨B5, c5, rfl, rfl⟩
  rw [pol_il, pol_il]
  refine eV (eCallV rfl rfl rfl (poly_Degree g hg B5 _ c5 (il (Po.gcd (pol a : Po (El p m mod)) (dP (pol a : Po (El p m mod))))) rfl (by omega)) ⟨rfl, rfl, trivial⟩ ?_)
  rw [pol_il]
  refine pV ?_
  refine tC rfl (fun h4 => ?_) (fun h4 => ?_)
  ·try simp only [zbA] at h4
   refine tS ?_
   refine tR fun _ _ _ => ?_
   iterate 2 refine pV ?_
   exact tr_ret ⟨trivial, _, _, rfl, ⟨rfl, rfl⟩, CSub.nil _, trivial⟩
  ·try simp only [zbA] at h4
   exact absurd (hsf.2 (by omega)) hs --done
theorem fac_ByDegreeL_ent : Enters Try.prog 15 := enters_of Try.func15 (by kernel_rfl) (by kernel_rfl)
theorem fac_ByDegreeL (g : GfM) {p m : Int} {mod : List Int} [hF : IsF p m mod] (hg : GOk g p m mod) (A : Option Addr) (n c : Nat) (a : List Int) (hn : n = a.length) (ha9 : a.length ≤ 17592186044415) (he : facE (Po.len (pol a : Po (El p m mod))) = 0) (hs0 : Po.Sf (pol a : Po (El p m mod))) :
  Pure Try.prog 15 #[.pointer (some g.p), .slice A n c] [gfR g, ro A (ints a)] (two (fun v ch ch2 => ∃ B cap hs b, v = .tuple #[.slice B hs.length cap, .int .i64 0] ∧ ch = ow2 B 64 cap (fcs hs) ∧ ch2 = rowsCh 3 (rws hs) ∧ GrI (Po.mon (pol a : Po (El p m mod))) dgr b hs ∧ (∀ P, Po.Ir P → Po.lead P = 1 → P ∣ Po.mon (pol a : Po (El p m mod)) → dgr P < b) ∧ hs.length ≤ 300)) := by
 have hq2 := hF.q2
 have hil := il_length (pol a : Po (El p m mod))
 have hle := facE_ok he
 have h0 : (pol a : Po (El p m mod)) ≠ 0 := Po.len_pos_iff.1 (by omega)
 have hml := Po.mon_len (pol a : Po (El p m mod))
 have hm0 := Po.mon_ne h0
 have hmle := Po.mon_lead h0
 have hmil := il_length (Po.mon (pol a : Po (El p m mod)))
 have hdl := len_dP (pol a : Po (El p m mod))
 have hdi := il_length (dP (pol a : Po (El p m mod)))
 have hgl := Po.dvd_len (Po.gcd_is (pol a) (dP (pol a)) : Po.IsG (pol a : Po (El p m mod)) _ _).left h0
 have hgi := il_length (Po.gcd (pol a) (dP (pol a)) : Po (El p m mod))
 have hsf := sf_iff_der h0
 refine pure_of (args := [.pointer (some g.p), .slice A n c]) 80 Try.func15 rfl rfl rfl fac_ByDegreeL_ent ⟨id, id, trivial⟩ (fun w0 => ?_)
 refine tS ?_
 refine tR fun _ _ _ => ?_
 iterate 2 refine pV ?_
 refine tS ?_
 refine tR fun _ _ _ => ?_
 iterate 2 refine pV ?_
 refine eV (eCall1 rfl rfl rfl (fac_enter g hg A n c a hn ha9 he) ⟨rfl, rfl, trivial⟩ ?_)
 rintro _ _ ⟨B1, c1, rfl, hc1, rfl⟩
 iterate 5 refine pV ?_
 refine tS ?_
 refine tS ?_
 refine tR fun _ _ _ => ?_
 iterate 2 refine pV ?_
 refine tC rfl (fun h2 => ?_) (fun h2 => ?_)
 ·try simp only [zbA] at h2
  first | exact absurd trivial h2 | exact absurd rfl h2 | omega | (exact absurd h2 (by simp)) --done
 ·try simp only [zbA] at h2
  refine tK ?_
  refine tS ?_
  refine tS ?_
  refine tR fun _ _ _ => ?_
  iterate 5 refine pV ?_
  refine eV (eCall1 rfl rfl rfl (poly_Derivative g hg B1 _ c1 (il (pol a : Po (El p m mod))) rfl (by omega)) ⟨rfl, rfl, trivial⟩ ?_)
  rintro _ _ ⟨B4, c4, rfl, rfl⟩
  rw [pol_il]
  refine eV (eCall1 rfl rfl rfl (poly_Gcd g hg B1 _ c1 (il (pol a : Po (El p m mod))) rfl (by omega) B4 _ c4 (il (dP (pol a : Po (El p m mod)))) rfl (by omega) (.inl (by rw [pol_il]; exact h0))) ⟨rfl, rfl, rfl, trivial⟩ ?_)
  rintro _ _ ⟨B5, c5, rfl, rfl⟩
  rw [pol_il, pol_il]
  refine eV (eCallV rfl rfl rfl (poly_Degree g hg B5 _ c5 (il (Po.gcd (pol a : Po (El p m mod)) (dP (pol a : Po (El p m mod))))) rfl (by omega)) ⟨rfl, rfl, trivial⟩ ?_)
  rw [pol_il]
  refine pV ?_
  refine tC rfl (fun h4 => ?_) (fun h4 => ?_)
  ·try simp only [zbA] at h4
   exact absurd (hsf.1 hs0) (by omega) --done
  ·try simp only [zbA] at h4
   refine tK ?_
   refine tS ?_
   refine tR fun _ _ _ => ?_
   iterate 2 refine pV ?_
   refine eV (eCall1 rfl rfl rfl (fac_monic g hg B1 _ c1 (il (pol a : Po (El p m mod))) rfl (by omega) (by rw [pol_il]; exact h0)) ⟨rfl, rfl, trivial⟩ ?_)
   rintro _ _ ⟨B6, c6, rfl, rfl⟩
   refine pV ?_
   rw [pol_il]
   refine tS ?_
   refine tR fun _ _ _ => ?_
   refine eV (eLit2I rfl rfl rfl rfl rfl (fun A7 => ?_))
   refine pV ?_
   refine tr_chunks [ro A7 (ints [0, 1]), ro A7 (ints [0, 1]), ow B6 3 c6 (ints (il (Po.mon (pol a : Po (El p m mod))))), gfR g] ((cs _ [ow A7 3 2 (ints [0, 1]), ow B6 3 c6 (ints (il (Po.mon (pol a : Po (El p m mod))))), gfR g]).trans ((ow_ro _).trans (ro_dup _))) ?_
   refine tS ?_
   refine tR fun _ _ _ => ?_
   iterate 2 refine pV ?_
   refine tS ?_
   refine tR fun _ _ _ => ?_
   refine pV ?_
   refine tS ?_
   refine tS ?_
   refine tR fun _ _ _ => ?_
   refine pV ?_
   refine tB ?_
   refine tr_nilQ 64 3 ?_
   refine tr_loop10 (fun (d : Int) (Bf : Option Addr) (cf : Nat) (f : Po (El p m mod)) (Bh : Option Addr) (ch : Nat) (l : List Int) (Bg : Option Addr) (cg : Nat) (hs : List FacM) => [(12, .int .i64 d), (8, .slice Bf (il f).length cf), (10, .slice Bh l.length ch), (9, .slice A7 2 2), (11, .slice Bg hs.length cg), (0, .pointer (some g.p)), (4, .slice none 0 0), (5, .int .i64 0)]) (fun (d : Int) (Bf : Option Addr) (cf : Nat) (f : Po (El p m mod)) (Bh : Option Addr) (ch : Nat) (l : List Int) (Bg : Option Addr) (cg : Nat) (hs : List FacM) => [ow2 Bg 64 cg (fcs hs), rowsCh 3 (rws hs), ow Bf 3 cf (ints (il f)), ro Bh (ints l), ro A7 (ints [0, 1]), gfR g]) (fun (d : Int) (Bf : Option Addr) (cf : Nat) (f : Po (El p m mod)) (Bh : Option Addr) (ch : Nat) (l : List Int) (Bg : Option Addr) (cg : Nat) (hs : List FacM) => (1 ≤ d ∧ d ≤ 257) ∧ l.length ≤ 300 ∧ hs.length + 1 ≤ d ∧ DgW (Po.mon (pol a : Po (El p m mod))) d.toNat f (pol l) hs) (fun (d : Int) (Bf : Option Addr) (cf : Nat) (f : Po (El p m mod)) (Bh : Option Addr) (ch : Nat) (l : List Int) (Bg : Option Addr) (cg : Nat) (hs : List FacM) => (257 - d).toNat) (1) (B6) (c6) (Po.mon (pol a : Po (El p m mod))) (A7) (2) ([0, 1]) (none) (0) ([]) ⟨rfl, rfl, rfl, rfl, rfl, rfl, rfl, rfl, trivial⟩ (by first | exact cs _ _ | exact CSub.refl _) (⟨⟨by omega, by omega⟩, by simp, by simp, by rw [pol_X01]; exact DgW.start hmle (sf_mon.2 hs0)⟩) (fun d Bf cf f Bh ch l Bg cg hs hI => ?_)
   obtain ⟨⟨hd0, hd1⟩, hll, hhl, hW⟩ := hI
   have hfl0 := hW.le hm0
   have hilf0 := il_length f
   refine tS ?_
   refine tS ?_
   refine tR fun _ _ _ => ?_
   refine pV ?_
   refine sV (rMul rfl rfl rfl (by omega) (by omega)) ?_
   refine pV ?_
   refine sV (rLen rfl rfl) ?_
   refine pV ?_
   refine tC rfl (fun h11 => ?_) (fun h11 => ?_)
   ·try simp only [zbA] at h11
    refine tK ?_
    refine tS ?_
    refine tB ?_
    refine tS ?_
    have hfl := hW.le hm0
    have hilf := il_length f
    have hfe : facE (Po.len (pol (il f) : Po (El p m mod))) = 0 := by rw [pol_il, facE, if_neg (by omega), if_neg (by omega)]
    have hpt := hW.part (show 1 ≤ d.toNat by omega)
    refine tR fun _ _ _ => ?_
    iterate 3 refine pV ?_
    refine eV (eCall1 rfl rfl rfl (fac_frobenius g hg Bh _ ch l rfl (by omega) Bf _ cf (il f) rfl (by omega) hfe) ⟨rfl, rfl, rfl, trivial⟩ ?_)
    rintro _ _ ⟨B13, c13, rfl, rfl⟩
    refine pV ?_
    rw [pol_il, hpt.1]
    refine tS ?_
    have hrq := il_length (Po.rem (Rg.pow Po.X ((pw p m).toNat ^ d.toNat)) f)
    have hrl := Po.rem_len (Rg.pow Po.X ((pw p m).toNat ^ d.toNat)) (lead1_ne hW.mon)
    have hs1 := il_length (pol (il (Po.rem (Rg.pow Po.X ((pw p m).toNat ^ d.toNat)) f)) - pol [0, 1] : Po (El p m mod))
    have hs2 := Po.len_sub (pol (il (Po.rem (Rg.pow Po.X ((pw p m).toNat ^ d.toNat)) f))) (pol [0, 1] : Po (El p m mod))
    have hs3 : Po.len (pol (il (Po.rem (Rg.pow Po.X ((pw p m).toNat ^ d.toNat)) f)) : Po (El p m mod)) = Po.len (Po.rem (Rg.pow Po.X ((pw p m).toNat ^ d.toNat)) f) := by rw [pol_il]
    have hs4 : Po.len (pol [0, 1] : Po (El p m mod)) ≤ 2 := Po.len_le (pol_sh [0, 1])
    have hgl2 := Po.dvd_len (Po.gcd_is f ((Po.rem (Rg.pow Po.X ((pw p m).toNat ^ d.toNat)) f) - Po.X)).left (lead1_ne hW.mon)
    have hgi2 := il_length (Po.gcd f ((Po.rem (Rg.pow Po.X ((pw p m).toNat ^ d.toNat)) f) - Po.X))
    refine tR fun _ _ _ => ?_
    iterate 5 refine pV ?_
    refine eV (eCall1 rfl rfl rfl (poly_Sub g hg B13 _ c13 (il (Po.rem (Rg.pow Po.X ((pw p m).toNat ^ d.toNat)) f)) rfl (by omega) A7 _ 2 [0, 1] rfl (by simp)) ⟨rfl, rfl, rfl, trivial⟩ ?_)
    rintro _ _ ⟨Bs, cs_, rfl, rfl⟩
    refine eV (eCall1 rfl rfl rfl (poly_Gcd g hg Bf _ cf (il f) rfl (by omega) Bs _ cs_ (il (pol (il (Po.rem (Rg.pow Po.X ((pw p m).toNat ^ d.toNat)) f)) - pol [0, 1])) rfl (by omega) (.inl (by rw [pol_il]; exact lead1_ne hW.mon))) ⟨rfl, rfl, rfl, trivial⟩ ?_)
    rintro _ _ ⟨B14, c14, rfl, rfl⟩
    refine pV ?_
    rw [pol_il, pol_il, pol_il, pol_X01]
    refine tS ?_
    refine tR fun _ _ _ => ?_
    refine pV ?_
    refine sV (rLen rfl rfl) ?_
    refine pV ?_
    refine tC rfl (fun h15 => ?_) (fun h15 => ?_)
    ·try simp only [zbA] at h15
     refine tS ?_
     refine tR fun _ _ _ => ?_
     iterate 3 refine pV ?_
     refine sV (rBuild rfl rfl) ?_
     refine eV (eLitS rfl rfl rfl rfl (fun p16 => ?_))
     refine eV (eApp2 rfl rfl rfl rfl rfl (by first | rfl | simp) rfl (by first | (simp; done) | (simp; omega)) (by first | (simp; done) | (simp; omega)) (fun A16a c16a => ?_))
     refine pV ?_
     rw [fcs_snoc, fcs_length]
     have hyes := hW.yes (show 1 ≤ d.toNat by omega) (g := (Po.gcd f ((Po.rem (Rg.pow Po.X ((pw p m).toNat ^ d.toNat)) f) - Po.X))) rfl (by omega) B14 c14
     have hdn : ((d.toNat : Nat) : Int) = d := by omega
     rw [hdn] at hyes
     have hqi := il_length (Po.quo f (Po.gcd f ((Po.rem (Rg.pow Po.X ((pw p m).toNat ^ d.toNat)) f) - Po.X)))
     refine tR fun _ _ _ => ?_
     iterate 3 refine pV ?_
     refine eV (eCall1 rfl rfl rfl (fac_quo g hg Bf _ cf (il f) rfl (by omega) B14 _ c14 (il (Po.gcd f ((Po.rem (Rg.pow Po.X ((pw p m).toNat ^ d.toNat)) f) - Po.X))) rfl (by omega) (by rw [pol_il]; exact lead1_ne (hpt.2 _ rfl).1)) ⟨rfl, rfl, rfl, trivial⟩ ?_)
     rintro _ _ ⟨B17, c17, rfl, rfl⟩
     refine pV ?_
     rw [pol_il, pol_il]
     refine tR fun _ _ _ => ?_
     refine pV ?_
     refine sV (rAdd rfl rfl rfl (by omega) (by omega)) ?_
     refine pV ?_
     refine ⟨d + 1, B17, c17, Po.quo f (Po.gcd f ((Po.rem (Rg.pow Po.X ((pw p m).toNat ^ d.toNat)) f) - Po.X)), B13, c13, il (Po.rem (Rg.pow Po.X ((pw p m).toNat ^ d.toNat)) f), A16a, c16a, hs ++ [⟨⟨B14, c14, il (Po.gcd f ((Po.rem (Rg.pow Po.X ((pw p m).toNat ^ d.toNat)) f) - Po.X))⟩, d⟩], ⟨rfl, rfl, rfl, rfl, rfl, rfl, rfl, rfl, trivial⟩, by (rw [rws_app, show rws [(⟨⟨B14, c14, il (Po.gcd f ((Po.rem (Rg.pow Po.X ((pw p m).toNat ^ d.toNat)) f) - Po.X))⟩, d⟩ : FacM)] = [⟨B14, c14, il (Po.gcd f ((Po.rem (Rg.pow Po.X ((pw p m).toNat ^ d.toNat)) f) - Po.X))⟩] from rfl]; exact (cs _ [rowsCh 3 (rws hs), ow B14 3 c14 (ints (il (Po.gcd f ((Po.rem (Rg.pow Po.X ((pw p m).toNat ^ d.toNat)) f) - Po.X)))), ow B13 3 c13 (ints (il (Po.rem (Rg.pow Po.X ((pw p m).toNat ^ d.toNat)) f))), ow B17 3 c17 (ints (il (Po.quo f (Po.gcd f ((Po.rem (Rg.pow Po.X ((pw p m).toNat ^ d.toNat)) f) - Po.X))))), ow2 A16a 64 c16a (fcs (hs ++ [(⟨⟨B14, c14, il (Po.gcd f ((Po.rem (Rg.pow Po.X ((pw p m).toNat ^ d.toNat)) f) - Po.X))⟩, d⟩ : FacM)])), ro A7 (ints [0, 1]), gfR g]).trans ((rows_snoc (r := ⟨B14, c14, il (Po.gcd f ((Po.rem (Rg.pow Po.X ((pw p m).toNat ^ d.toNat)) f) - Po.X))⟩) _).trans ((CSub.cons _ (ow_ro _)).trans (cs _ _)))), ?_⟩
     refine ⟨⟨⟨by omega, by omega⟩, by omega, by simp; omega, ?_⟩, by omega⟩
     rw [show (d + 1).toNat = d.toNat + 1 by omega, pol_il]
     exact hyes.1
    ·try simp only [zbA] at h15
     refine tK ?_
     refine tR fun _ _ _ => ?_
     refine pV ?_
     refine sV (rAdd rfl rfl rfl (by omega) (by omega)) ?_
     refine pV ?_
     refine ⟨d + 1, Bf, cf, f, B13, c13, il (Po.rem (Rg.pow Po.X ((pw p m).toNat ^ d.toNat)) f), Bg, cg, hs, ⟨rfl, rfl, rfl, rfl, rfl, rfl, rfl, rfl, trivial⟩, by exact (cs _ [ow B13 3 c13 (ints (il (Po.rem (Rg.pow Po.X ((pw p m).toNat ^ d.toNat)) f))), ow2 Bg 64 cg (fcs hs), rowsCh 3 (rws hs), ow Bf 3 cf (ints (il f)), ro A7 (ints [0, 1]), gfR g]).trans ((ow_ro _).trans (cs _ _)), ?_⟩
     refine ⟨⟨⟨by omega, by omega⟩, by omega, by omega, ?_⟩, by omega⟩
     rw [show (d + 1).toNat = d.toNat + 1 by omega, pol_il]
     exact hW.no (by omega) rfl (by omega)
   ·try simp only [zbA] at h11
    refine tE ?_
    refine tS ?_
    refine tS ?_
    have hfl := hW.le hm0
    have hilf := il_length f
    refine tR fun _ _ _ => ?_
    refine pV ?_
    refine sV (rLen rfl rfl) ?_
    refine pV ?_
    refine tC rfl (fun h18 => ?_) (fun h18 => ?_)
    ·try simp only [zbA] at h18
     refine tR fun _ _ _ => ?_
     iterate 3 refine pV ?_
     refine sV (rLen rfl rfl) ?_
     refine sV (rSub rfl rfl rfl (by omega) (by omega)) ?_
     rw [show ((il f).length : Int) - 1 = ((Po.len f - 1 : Nat) : Int) by omega]
     refine sV (rBuild rfl rfl) ?_
     refine eV (eLitS rfl rfl rfl rfl (fun p19 => ?_))
     refine eV (eApp2 rfl rfl rfl rfl rfl (by first | rfl | simp) rfl (by first | (simp; done) | (simp; omega)) (by first | (simp; done) | (simp; omega)) (fun A19a c19a => ?_))
     refine pV ?_
     rw [fcs_snoc, fcs_length]
     refine tS ?_
     refine tR fun _ _ _ => ?_
     iterate 3 refine pV ?_
     first
      | exact tr_ret ⟨trivial, _, _, rfl, ⟨_, _, rfl, A19a, c19a, _, Po.len f, rfl, rfl, rfl, (hW.last (by omega) (by omega) (by omega) Bf cf).1, (hW.last (by omega) (by omega) (by omega) Bf cf).2, by simp; omega⟩, (by rw [rws_app, show rws [(⟨⟨Bf, cf, il f⟩, ((Po.len f - 1 : Nat) : Int)⟩ : FacM)] = [⟨Bf, cf, il f⟩] from rfl]; exact (cs _ [rowsCh 3 (rws hs), ow Bf 3 cf (ints (il f)), ow2 A19a 64 c19a (fcs (hs ++ [(⟨⟨Bf, cf, il f⟩, ((Po.len f - 1 : Nat) : Int)⟩ : FacM)]))]).trans ((rows_snoc (r := ⟨Bf, cf, il f⟩) _).trans (cs _ _))), trivial, trivial, trivial⟩
      | exact tr_ret ⟨trivial, _, _, rfl, ⟨_, _, rfl, Bg, cg, hs, d.toNat, rfl, rfl, rfl, hW.gr, hW.one (by omega), by omega⟩, cs _ _, trivial, trivial, trivial⟩
    ·try simp only [zbA] at h18
     refine tK ?_
     refine tS ?_
     refine tR fun _ _ _ => ?_
     iterate 3 refine pV ?_
     first
      | exact tr_ret ⟨trivial, _, _, rfl, ⟨_, _, rfl, A19a, c19a, _, Po.len f, rfl, rfl, rfl, (hW.last (by omega) (by omega) (by omega) Bf cf).1, (hW.last (by omega) (by omega) (by omega) Bf cf).2, by simp; omega⟩, (by rw [rws_app, show rws [(⟨⟨Bf, cf, il f⟩, ((Po.len f - 1 : Nat) : Int)⟩ : FacM)] = [⟨Bf, cf, il f⟩] from rfl]; exact (cs _ [rowsCh 3 (rws hs), ow Bf 3 cf (ints (il f)), ow2 A19a 64 c19a (fcs (hs ++ [(⟨⟨Bf, cf, il f⟩, ((Po.len f - 1 : Nat) : Int)⟩ : FacM)]))]).trans ((rows_snoc (r := ⟨Bf, cf, il f⟩) _).trans (cs _ _))), trivial, trivial, trivial⟩
      | exact tr_ret ⟨trivial, _, _, rfl, ⟨_, _, rfl, Bg, cg, hs, d.toNat, rfl, rfl, rfl, hW.gr, hW.one (by omega), by omega⟩, cs _ _, trivial, trivial, trivial⟩
end Go.Proofs.Ytbhoeaijpnjgdaa

namespace Go.Proofs.Ytbhoeaijpnjgdaa
open Go.RowKit
section
variable {p m : Int} {mod : List Int} [hF : IsF p m mod]
open Po
theorem GrI.cong {f g : Po (El p m mod)} {κ μ : Po (El p m mod) → Nat} {b : Nat} {hs : List FacM} (h : GrI f κ b hs) (hd : ∀ P, Ir P → lead P = 1 → (P ∣ f ↔ P ∣ g)) (hk : ∀ P, Ir P → lead P = 1 → P ∣ f → κ P = μ P) : GrI g μ b hs :=
 ⟨fun e he => by
  obtain ⟨⟨Q, a1, a2, a3, a4, a5⟩, a6⟩ := h.each e he
  refine ⟨⟨Q, a1, a2, a3, a4, fun P b1 b2 => ?_⟩, a6⟩
  rw [a5 P b1 b2]
  constructor
  ·rintro ⟨x, y⟩; exact ⟨(hd P b1 b2).1 x, by rw [← hk P b1 b2 x]; exact y⟩
  ·rintro ⟨x, y⟩
   have x' := (hd P b1 b2).2 x
   exact ⟨x', by rw [hk P b1 b2 x']; exact y⟩, fun P b1 b2 b3 b4 => by
  have x' := (hd P b1 b2).2 b3
  have := h.all P b1 b2 x' (by rw [hk P b1 b2 x']; exact b4)
  rwa [hk P b1 b2 x'] at this, h.srt⟩
theorem mon_iff (f : Po (El p m mod)) : ∀ P : Po (El p m mod), Ir P → lead P = 1 → (P ∣ mon f ↔ P ∣ f) := fun P _ _ => ⟨fun h => dvd_trans h (mon_dvd f), fun h => dvd_trans h (dvd_mon f)⟩
end
end Go.Proofs.Ytbhoeaijpnjgdaa

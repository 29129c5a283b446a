/-
  FACTORFROBENIUS, PART 6 OF 9. One sentence: the texts behind the law FactorFrobenius, put together.
  Conditions: each theorem's own, written out in it.
-/
import Derived.Test.YtbhoeaijpnjgdaaK5
set_option linter.unusedSimpArgs false
set_option linter.unusedVariables false
set_option linter.unusedSectionVars false
namespace Go.Proofs.Ytbhoeaijpnjgdaa
open Go.RowKit
theorem cmpN_lt (a b : List Int) : ∀ n, cmpN a b n < 0 ↔ ∃ i, i < n ∧ a.getD i 0 < b.getD i 0 ∧ ∀ k, i < k → k < n → a.getD k 0 = b.getD k 0
 | 0 => ⟨fun h => by simp [cmpN] at h, fun ⟨i, h, _⟩ => by omega⟩
 | n + 1 => by
  have ih := cmpN_lt a b n
  simp only [cmpN]
  split
  ·rename_i h
   exact ⟨fun _ => ⟨n, by omega, h, fun k h1 h2 => by omega⟩, fun _ => by omega⟩
  ·rename_i h
   split
   ·rename_i h2
    refine ⟨fun h => by omega, fun ⟨i, h3, h4, h5⟩ => ?_⟩
    rcases Nat.lt_or_ge i n with e | e
    ·have := h5 n e (by omega)
     omega
    ·have : i = n := by omega
     subst this; omega
   ·rename_i h2
    rw [ih]
    constructor
    ·rintro ⟨i, h3, h4, h5⟩
     refine ⟨i, by omega, h4, fun k h6 h7 => ?_⟩
     rcases Nat.lt_or_ge k n with e | e
     ·exact h5 k h6 e
     ·have : k = n := by omega
      subst this; omega
    ·rintro ⟨i, h3, h4, h5⟩
     rcases Nat.lt_or_ge i n with e | e
     ·exact ⟨i, e, h4, fun k h6 h7 => h5 k h6 (by omega)⟩
     ·have : i = n := by omega
      subst this; omega
theorem cmpN_eq (a b : List Int) : ∀ n, cmpN a b n = 0 ↔ ∀ i, i < n → a.getD i 0 = b.getD i 0
 | 0 => ⟨fun _ i h => by omega, fun _ => rfl⟩
 | n + 1 => by
  have ih := cmpN_eq a b n
  simp only [cmpN]
  split
  ·rename_i h
   exact ⟨fun e => by omega, fun e => by have := e n (by omega); omega⟩
  ·split
   ·rename_i h
    exact ⟨fun e => by omega, fun e => by have := e n (by omega); omega⟩
   ·rw [ih]
    refine ⟨fun e i hi => ?_, fun e i hi => e i (by omega)⟩
    rcases Nat.lt_or_ge i n with h | h
    ·exact e i h
    ·have : i = n := by omega
     subst this; omega
theorem cmpL_eq (a b : List Int) : cmpL a b = 0 ↔ a = b := by
 constructor
 ·intro h
  unfold cmpL at h
  split at h
  ·omega
  ·split at h
   ·omega
   ·exact ext_getD (by omega) fun j => by
     have := (cmpN_eq a b a.length).1 h
     rcases Nat.lt_or_ge j a.length with e | e
     ·exact this j e
     ·rw [getD_out e, getD_out (by omega)]
 ·rintro rfl
  unfold cmpL
  rw [if_neg (by omega), if_neg (by omega)]
  exact (cmpN_eq a a a.length).2 fun i _ => rfl
theorem cmpL_lt (a b : List Int) : cmpL a b < 0 ↔ a.length < b.length ∨ (a.length = b.length ∧ ∃ i, i < a.length ∧ a.getD i 0 < b.getD i 0 ∧ ∀ k, i < k → k < a.length → a.getD k 0 = b.getD k 0) := by
 unfold cmpL
 split
 ·rename_i h; exact ⟨fun _ => .inl h, fun _ => by omega⟩
 ·split
  ·rename_i h; exact ⟨fun h => by omega, fun h => by omega⟩
  ·rename_i h1 h2
   rw [cmpN_lt]
   exact ⟨fun h => .inr ⟨by omega, h⟩, fun h => h.elim (fun h => absurd h h1) (fun h => h.2)⟩
theorem cmpL_trans {a b c : List Int} (h : cmpL a b < 0) (k : cmpL b c < 0) : cmpL a c < 0 := by
 rw [cmpL_lt] at *
 rcases h with h | ⟨h, i, h1, h2, h3⟩
 ·rcases k with k | ⟨k, _⟩
  ·exact .inl (by omega)
  ·exact .inl (by omega)
 ·rcases k with k | ⟨k, j, k1, k2, k3⟩
  ·exact .inl (by omega)
  ·refine .inr ⟨by omega, ?_⟩
   rcases Nat.lt_trichotomy i j with e | e | e
   ·exact ⟨j, by omega, by rw [h3 j e (by omega)]; exact k2, fun t t1 t2 => by rw [h3 t (by omega) t2]; exact k3 t t1 (by omega)⟩
   ·subst e
    exact ⟨i, h1, by omega, fun t t1 t2 => by rw [h3 t t1 t2]; exact k3 t t1 (by omega)⟩
   ·exact ⟨i, h1, by rw [← k3 i e (by omega)]; exact h2, fun t t1 t2 => by rw [h3 t t1 t2]; exact k3 t (by omega) (by omega)⟩
theorem cmpL_irr (a : List Int) : ¬ cmpL a a < 0 := by rw [(cmpL_eq a a).2 rfl]; omega
theorem cmpL_not {a b : List Int} : ¬ cmpL a b < 0 ↔ a = b ∨ cmpL b a < 0 := by
 have h1 := cmpL_neg a b
 have h2 := cmpL_eq a b
 constructor
 ·intro h
  by_cases e : cmpL a b = 0
  ·exact .inl (h2.1 e)
  ·exact .inr (by omega)
 ·rintro (rfl | h)
  ·exact cmpL_irr a
  ·omega
theorem cmpL_ntr {a b c : List Int} (h : ¬ cmpL a b < 0) (k : ¬ cmpL b c < 0) : ¬ cmpL a c < 0 := by
 rw [cmpL_not] at *
 rcases h with rfl | h
 ·exact k
 ·rcases k with rfl | k
  ·exact .inr h
  ·exact .inr (cmpL_trans k h)
theorem rise_eq {α : Type} {lt : α → α → Prop} (hirr : ∀ a, ¬ lt a a) (htr : ∀ a b c, lt a b → lt b c → lt a c) : ∀ {l k : List α}, l.Pairwise lt → k.Pairwise lt → (∀ x, x ∈ l ↔ x ∈ k) → l = k
 | [], [], _, _, _ => rfl
 | [], b :: k, _, _, h => absurd ((h b).2 (List.mem_cons_self ..)) (by simp)
 | a :: l, [], _, _, h => absurd ((h a).1 (List.mem_cons_self ..)) (by simp)
 | a :: l, b :: k, hl, hk, h => by
  have h1 := List.pairwise_cons.1 hl
  have h2 := List.pairwise_cons.1 hk
  have hab : a = b := by
   rcases List.mem_cons.1 ((h a).1 (List.mem_cons_self ..)) with e | e
   ·exact e
   ·rcases List.mem_cons.1 ((h b).2 (List.mem_cons_self ..)) with e2 | e2
    ·exact e2.symm
    ·exact absurd (htr _ _ _ (h2.1 a e) (h1.1 b e2)) (hirr b)
  subst hab
  have := rise_eq hirr htr h1.2 h2.2 fun x => by
   constructor
   ·intro hx
    rcases List.mem_cons.1 ((h x).1 (List.mem_cons_of_mem _ hx)) with e | e
    ·subst e; exact absurd (h1.1 x hx) (hirr x)
    ·exact e
   ·intro hx
    rcases List.mem_cons.1 ((h x).2 (List.mem_cons_of_mem _ hx)) with e | e
    ·subst e; exact absurd (h2.1 x hx) (hirr x)
    ·exact e
  rw [this]
def fpr (gs : List FacM) : List (List Int × Int) := gs.map fun e => (e.r.xs, e.k)
@[simp] theorem fpr_length (gs : List FacM) : (fpr gs).length = gs.length := by simp [fpr]
theorem fpr_app (gs hs : List FacM) : fpr (gs ++ hs) = fpr gs ++ fpr hs := by simp [fpr]
section
variable {p m : Int} {mod : List Int} [hF : IsF p m mod]
open Po
structure CmI (f : Po (El p m mod)) (gs : List FacM) : Prop where
 each : ∀ e ∈ gs, ∃ P : Po (El p m mod), e.r.xs = il P ∧ Ir P ∧ lead P = 1 ∧ P ∣ f ∧ e.k = ((mu P f : Nat) : Int)
 all : ∀ P : Po (El p m mod), Ir P → lead P = 1 → P ∣ f → ∃ e ∈ gs, e.r.xs = il P
 nd : (gs.map fun e => e.r.xs).Nodup
def RisF (gs : List FacM) : Prop := gs.Pairwise fun x y => cmpL x.r.xs y.r.xs < 0
theorem CmI.perm {f : Po (El p m mod)} {gs hs : List FacM} (h : CmI f gs) (hp : hs.Perm gs) : CmI f hs :=
 ⟨fun e he => h.each e (hp.mem_iff.1 he), fun P a b c => by
  obtain ⟨e, he, hx⟩ := h.all P a b c
  exact ⟨e, hp.mem_iff.2 he, hx⟩, (hp.map fun e => e.r.xs).nodup_iff.2 h.nd⟩
theorem CmI.rise {f : Po (El p m mod)} {gs : List FacM} (h : CmI f gs) (hs : gs.Pairwise fun x y => ¬ cmpL y.r.xs x.r.xs < 0) : RisF gs := by
 have h1 := List.pairwise_map.1 h.nd
 refine (hs.and h1).imp fun {x y} h => ?_
 rcases cmpL_not.1 h.1 with e | e
 ·exact absurd e.symm h.2
 ·exact e
theorem CmI.fc {f : Po (El p m mod)} {gs : List FacM} (h : CmI f gs) (hf : f ≠ 0) {e : FacM} (he : e ∈ gs) : Ir (fcP p m mod e) ∧ lead (fcP p m mod e) = 1 ∧ fcP p m mod e ∣ f ∧ e.r.xs = il (fcP p m mod e) ∧ e.k = ((mu (fcP p m mod e) f : Nat) : Int) ∧ 1 ≤ e.k := by
 obtain ⟨P, h1, h2, h3, h4, h5⟩ := h.each e he
 have eP : fcP p m mod e = P := by unfold fcP; rw [h1, pol_il]
 rw [eP]
 have := (mu_pos h2 hf).1 h4
 exact ⟨h2, h3, h4, h1, h5, by omega⟩
theorem CmI.uniq {f : Po (El p m mod)} (hf : f ≠ 0) {gs hs : List FacM} (h : CmI f gs) (k : CmI f hs) (hg : RisF gs) (hh : RisF hs) : fpr gs = fpr hs := by
 have hmem : ∀ {gs hs : List FacM}, CmI f gs → CmI f hs → ∀ x, x ∈ fpr gs → x ∈ fpr hs := fun {gs hs} h k x hx => by
  obtain ⟨e, he, rfl⟩ := List.mem_map.1 hx
  obtain ⟨h1, h2, h3, h4, h5, _⟩ := h.fc hf he
  obtain ⟨e', he', hx'⟩ := k.all _ h1 h2 h3
  obtain ⟨_, _, _, k4, k5, _⟩ := k.fc hf he'
  have : fcP p m mod e' = fcP p m mod e := by unfold fcP; rw [hx', pol_il]; rfl
  refine List.mem_map.2 ⟨e', he', ?_⟩
  rw [hx', h4, k5, h5, this]
 exact rise_eq (lt := fun (x y : List Int × Int) => cmpL x.1 y.1 < 0) (fun a => cmpL_irr _) (fun a b c => cmpL_trans) (List.pairwise_map.2 hg) (List.pairwise_map.2 hh) fun x => ⟨hmem h k x, hmem k h x⟩
structure CmJ (f : Po (El p m mod)) (fs : List FacM) (j : Nat) (Ls : List (Po (El p m mod) × Int)) : Prop where
 each : ∀ x ∈ Ls, Ir x.1 ∧ lead x.1 = 1 ∧ x.1 ∣ f ∧ x.2 = ((mu x.1 f : Nat) : Int) ∧ ∃ e ∈ fs.take j, e.k = x.2
 all : ∀ e ∈ fs.take j, ∀ P : Po (El p m mod), Ir P → lead P = 1 → mu P f = e.k.toNat → ∃ x ∈ Ls, x.1 = P
 nd : (Ls.map (·.1)).Nodup
variable {f : Po (El p m mod)} {fs : List FacM} {j : Nat} {Ls : List (Po (El p m mod) × Int)}
theorem CmJ.start : CmJ f fs 0 [] := ⟨fun x h => by simp at h, fun e h => by simp at h, .nil⟩
theorem CmJ.next (h : CmJ f fs j Ls) (hf : f ≠ 0) (hq : SqI f 1 (fun _ => True) fs) (hj : j < fs.length) {ps : List (Po (El p m mod))} (hI : IrL (fcP p m mod (fs.getD j facD)) ps) : CmJ f fs (j + 1) (Ls ++ ps.map fun P => (P, (fs.getD j facD).k)) := by
 have hm := getD_mem hj facD
 obtain ⟨_, h0, _, h1, _, h2, _⟩ := hq.fc _ hm
 have htk : fs.take (j + 1) = fs.take j ++ [fs.getD j facD] := take_getD hj facD
 have hne : ∀ e ∈ fs.take j, e.k ≠ (fs.getD j facD).k := fun e he hk => by
  have h3 := hq.nd
  rw [← List.take_append_drop (j + 1) fs, htk, List.map_append, List.map_append] at h3
  have h4 := (List.nodup_append.1 h3).1
  exact (List.nodup_append.1 h4).2.2 _ (List.mem_map.2 ⟨e, he, rfl⟩) _ (by simp) hk
 have hps : ∀ P ∈ ps, Ir P ∧ lead P = 1 ∧ P ∣ f ∧ mu P f = (fs.getD j facD).k.toNat := fun P hP => by
  obtain ⟨a, b, c⟩ := (hI.mem P).1 hP
  have := (h2 P a b).1 c
  exact ⟨a, b, (mu_pos a hf).2 (by omega), this⟩
 refine ⟨fun x hx => ?_, fun e he P a b c => ?_, ?_⟩
 ·rcases List.mem_append.1 hx with hx | hx
  ·obtain ⟨a, b, c, d, e, he, hk⟩ := h.each x hx
   exact ⟨a, b, c, d, e, by rw [htk]; exact List.mem_append_left _ he, hk⟩
  ·obtain ⟨P, hP, rfl⟩ := List.mem_map.1 hx
   obtain ⟨a, b, c, d⟩ := hps P hP
   exact ⟨a, b, c, by show (fs.getD j facD).k = _; rw [d]; omega, _, by rw [htk]; exact List.mem_append_right _ (List.mem_singleton.2 rfl), rfl⟩
 ·rw [htk] at he
  rcases List.mem_append.1 he with he | he
  ·obtain ⟨x, hx, e⟩ := h.all e he P a b c
   exact ⟨x, List.mem_append_left _ hx, e⟩
  ·rw [List.mem_singleton] at he
   subst he
   exact ⟨(P, _), List.mem_append_right _ (List.mem_map.2 ⟨P, (hI.mem P).2 ⟨a, b, (h2 P a b).2 c⟩, rfl⟩), rfl⟩
 ·rw [List.map_append, List.nodup_append]
  refine ⟨h.nd, ?_, fun P hP Q hQ e => ?_⟩
  ·rw [List.map_map]
   have : (ps.map ((fun x : Po (El p m mod) × Int => x.1) ∘ fun P => (P, (fs.getD j facD).k))) = ps := by
    conv => rhs; rw [← List.map_id ps]
    rfl
   rw [this]; exact hI.nd
  ·obtain ⟨x, hx, rfl⟩ := List.mem_map.1 hP
   rw [List.map_map] at hQ
   obtain ⟨R, hR, rfl⟩ := List.mem_map.1 hQ
   obtain ⟨_, _, _, d, e', he', hk⟩ := h.each x hx
   have d2 := (hps R hR).2.2.2
   have e3 : x.1 = R := e
   rw [← e3] at d2
   refine hne e' he' ?_
   rw [hk, d, d2]
   omega
theorem CmJ.done (h : CmJ f fs fs.length Ls) (hf : f ≠ 0) (hq : SqI f 1 (fun _ => True) fs) {gs : List FacM} (hg : fpr gs = Ls.map fun x => (il x.1, x.2)) : CmI f gs := by
 have hmem : ∀ e ∈ gs, ∃ x ∈ Ls, e.r.xs = il x.1 ∧ e.k = x.2 := fun e he => by
  have : (e.r.xs, e.k) ∈ fpr gs := List.mem_map.2 ⟨e, he, rfl⟩
  rw [hg] at this
  obtain ⟨x, hx, hxe⟩ := List.mem_map.1 this
  simp only [Prod.mk.injEq] at hxe
  exact ⟨x, hx, hxe.1.symm, hxe.2.symm⟩
 refine ⟨fun e he => ?_, fun P a b c => ?_, ?_⟩
 ·obtain ⟨x, hx, h1, h2⟩ := hmem e he
  obtain ⟨a, b, c, d, _⟩ := h.each x hx
  exact ⟨x.1, h1, a, b, c, by rw [h2, d]⟩
 ·have h1 := (mu_pos a hf).1 c
  obtain ⟨e, he, hk⟩ := hq.all P a b h1 trivial
  obtain ⟨x, hx, hxP⟩ := h.all e (by rw [List.take_length]; exact he) P a b (by rw [hk]; omega)
  have : (il x.1, x.2) ∈ fpr gs := by rw [hg]; exact List.mem_map.2 ⟨x, hx, rfl⟩
  obtain ⟨g, hgm, hge⟩ := List.mem_map.1 this
  simp only [Prod.mk.injEq] at hge
  exact ⟨g, hgm, by rw [hge.1, hxP]⟩
 ·have e1 : (gs.map fun e => e.r.xs) = (Ls.map (·.1)).map fun P => il P := by
   have := congrArg (fun l => l.map Prod.fst) hg
   simp only [fpr, List.map_map] at this
   rw [List.map_map]; exact this
  rw [e1]
  exact List.pairwise_map.2 (h.nd.imp fun hab e => hab (il_inj e))
open Classical in
theorem mu_ir {P Q : Po (El p m mod)} (hP : Ir P) (hQ : Ir Q) (h1 : lead P = 1) (h2 : lead Q = 1) : mu P Q = if P = Q then 1 else 0 := by
 by_cases e : P = Q
 ·subst e
  rw [if_pos rfl]
  refine mu_eq hP hP.ne (by rw [Rg.pow_one]; exact ⟨1, (Rg.mul_one _).symm⟩) fun hd => ?_
  have h3 := dvd_len hd hP.ne
  rw [len_powN hP.ne] at h3
  have := hP.two
  omega
 ·rw [if_neg e]
  refine mu_eq hP hQ.ne (one_dvd _) fun hd => e ?_
  rw [Nat.zero_add, Rg.pow_one] at hd
  exact hP.one hQ h1 h2 hd
theorem prF_mu3 {gs : List FacM} (h : ∀ e ∈ gs, lead (fcP p m mod e) = 1 ∧ 0 ≤ e.k ∧ Ir (fcP p m mod e) ∧ e.r.xs = il (fcP p m mod e)) (hnd : (gs.map fun e => e.r.xs).Nodup) {P : Po (El p m mod)} (hP : Ir P) (hl : lead P = 1) : ∀ n, n ≤ gs.length →
  (∀ j, j < n → (gs.getD j facD).r.xs = il P → mu P (prF p m mod 1 gs n) = (gs.getD j facD).k.toNat) ∧ ((∀ j, j < n → (gs.getD j facD).r.xs ≠ il P) → mu P (prF p m mod 1 gs n) = 0)
 | 0, _ => by
  have e : prF p m mod 1 gs 0 = (1 : Po (El p m mod)) := by show C (el 1) = 1; rw [el_one]; rfl
  exact ⟨fun j hj => by omega, fun _ => by rw [e, mu_one hP]⟩
 | n + 1, hn => by
  obtain ⟨ih1, ih2⟩ := prF_mu3 h hnd hP hl n (by omega)
  have hm := getD_mem (l := gs) (show n < gs.length by omega) facD
  have h1 := lead1_ne (prF_mu (fun e he => ⟨(h e he).1, (h e he).2.1⟩) n (by omega)).1
  obtain ⟨a, b, c, d⟩ := h _ hm
  have e : prF p m mod 1 gs (n + 1) = prF p m mod 1 gs n * Rg.pow (fcP p m mod (gs.getD n facD)) (gs.getD n facD).k.toNat := rfl
  have hdif : ∀ j, j < n → (gs.getD j facD).r.xs = il P → (gs.getD n facD).r.xs ≠ il P := fun j hj e1 e2 => by
   have h5 := List.pairwise_iff_getElem.1 hnd j n (by simp; omega) (by simp; omega) hj
   rw [List.getElem_map, List.getElem_map] at h5
   refine h5 ?_
   rw [List.getD_eq_getElem?_getD, List.getElem?_eq_getElem (show j < gs.length by omega)] at e1
   rw [List.getD_eq_getElem?_getD, List.getElem?_eq_getElem (show n < gs.length by omega)] at e2
   exact e1.trans e2.symm
  rw [e, mu_mul hP h1 (pow_ne0 c.ne _), mu_pow hP c.ne, mu_ir hP c hl a]
  have hiff : P = fcP p m mod (gs.getD n facD) ↔ (gs.getD n facD).r.xs = il P := ⟨fun e => by rw [d, ← e], fun e => by
   rw [d] at e; exact (il_inj e).symm⟩
  refine ⟨fun j hj hx => ?_, fun hno => ?_⟩
  ·rcases Nat.lt_or_ge j n with e1 | e1
   ·rw [ih1 j e1 hx, if_neg (fun e2 => hdif j e1 hx (hiff.1 e2)), Nat.mul_zero, Nat.add_zero]
   ·have : j = n := by omega
    subst this
    rw [ih2 fun i hi hxi => hdif i hi hxi hx, if_pos (hiff.2 hx), Nat.mul_one, Nat.zero_add]
  ·rw [ih2 fun i hi => hno i (by omega), if_neg (fun e2 => hno n (by omega) (hiff.1 e2)), Nat.mul_zero]
theorem CmI.prod {gs : List FacM} (h : CmI f gs) (hf : lead f = 1) : prF p m mod 1 gs gs.length = f ∧ fcT p m mod gs gs.length = (len f : Int) - 1 := by
 have hf0 := lead1_ne hf
 have hfc : ∀ e ∈ gs, lead (fcP p m mod e) = 1 ∧ 0 ≤ e.k := fun e he => by
  obtain ⟨_, b, _, _, _, d⟩ := h.fc hf0 he
  exact ⟨b, by omega⟩
 have h1 := prF_mu hfc gs.length (Nat.le_refl _)
 have e : prF p m mod 1 gs gs.length = f := eq_mu1 _ _ _ (Nat.le_refl _) h1.1 hf fun P hP hPl => by
  obtain ⟨h2, h3⟩ := prF_mu3 (fun e he => by
   obtain ⟨a, b, c, d, k, t⟩ := h.fc hf0 he
   exact ⟨b, by omega, a, d⟩) h.nd hP hPl gs.length (Nat.le_refl _)
  by_cases hd : P ∣ f
  ·obtain ⟨e, he, hx⟩ := h.all P hP hPl hd
   obtain ⟨j, hj, rfl⟩ := List.getElem_of_mem he
   have hg : gs.getD j facD = gs[j] := by rw [List.getD_eq_getElem?_getD, List.getElem?_eq_getElem hj]; rfl
   obtain ⟨_, _, _, d, k, _⟩ := h.fc hf0 (List.getElem_mem hj)
   rw [h2 j hj (by rw [hg]; exact hx), hg, k]
   have : fcP p m mod gs[j] = P := by unfold fcP; rw [hx, pol_il]
   rw [this]; omega
  ·have hz : mu P f = 0 := by
    have := mu_pos hP hf0
    have h5 : ¬ 1 ≤ mu P f := fun h => hd (this.2 h)
    omega
   rw [hz]
   refine h3 fun j hj hx => hd ?_
   obtain ⟨_, _, c, d, _⟩ := h.fc hf0 (getD_mem hj facD)
   have : fcP p m mod (gs.getD j facD) = P := by unfold fcP; rw [hx, pol_il]
   rw [← this]; exact c
 refine ⟨e, ?_⟩
 rw [e] at h1
 omega
theorem CmI.le {gs : List FacM} (h : CmI f gs) (hf : f ≠ 0) : ∀ e ∈ gs, e.r.xs.length ≤ len f ∧ 2 ≤ e.r.xs.length ∧ 1 ≤ e.k ∧ e.k ≤ len f := fun e he => by
 obtain ⟨a, b, c, d, k, t⟩ := h.fc hf he
 have h1 := dvd_len c hf
 have h2 := a.two
 rw [d, il_length]
 refine ⟨h1, h2, t, ?_⟩
 have h3 := dvd_len (mu_spec a hf).1 hf
 rw [len_powN a.ne] at h3
 have h4 : mu (fcP p m mod e) f * 1 ≤ mu (fcP p m mod e) f * (len (fcP p m mod e) - 1) := Nat.mul_le_mul_left _ (by omega)
 omega
theorem fcT_ge {gs : List FacM} (h : ∀ e ∈ gs, 2 ≤ len (fcP p m mod e) ∧ 1 ≤ e.k) : ∀ n : Nat, n ≤ gs.length → (n : Int) ≤ fcT p m mod gs n
 | 0, _ => Int.le_refl _
 | n + 1, hn => by
  have ih := fcT_ge h n (by omega)
  obtain ⟨a, b⟩ := h _ (getD_mem (show n < gs.length by omega) facD)
  rw [fcT_succ (by omega)]
  have h1 : 1 ≤ fcD p m mod (gs.getD n facD) := by unfold fcD; omega
  have h2 : (1 : Int) * 1 ≤ fcD p m mod (gs.getD n facD) * (gs.getD n facD).k := Int.mul_le_mul h1 b (by omega) (by omega)
  omega
theorem CmI.cnt {gs : List FacM} (h : CmI f gs) (hf : lead f = 1) : gs.length + 1 ≤ len f := by
 have h1 := (h.prod hf).2
 have h2 := fcT_ge (fun e he => by
  obtain ⟨a, _, _, _, _, b⟩ := h.fc (lead1_ne hf) he
  exact ⟨a.two, b⟩) gs.length (Nat.le_refl _)
 omega
theorem canL_il (hq : pw p m = pw p m) (P : Po (El p m mod)) : canL (pw p m) (il P) = il P := by rw [← il_pol (mod := mod), pol_il]
end
end Go.Proofs.Ytbhoeaijpnjgdaa

set_option maxRecDepth 100000
set_option maxHeartbeats 1000000
namespace Go.Proofs.Ytbhoeaijpnjgdaa
open Go.RowKit
theorem Pure.sub {P : Program} {f : FuncId} {args : Array Value} {G G' : List Chunk} {R : Value → List Chunk → Prop} (h : Pure P f args G R) (hs : ∀ w, (∀ c ∈ G', c.sat w) → ∀ c ∈ G, c.sat w) : Pure P f args G' R := ⟨h.ent, fun w hg => h.run w (hs w hg)⟩
theorem fpr_add {p m : Int} {mod : List Int} [hF : IsF p m mod] {gs : List FacM} {Ls : List (Po (El p m mod) × Int)} (h : fpr gs = Ls.map fun x => (il x.1, x.2)) (B : Option Addr) (c : Nat) (P : Po (El p m mod)) (k : Int) : fpr (gs ++ [⟨⟨B, c, il P⟩, k⟩]) = (Ls ++ [(P, k)]).map fun x => (il x.1, x.2) := by
 rw [fpr_app, h, List.map_append]; rfl
theorem take_mapP {p m : Int} {mod : List Int} [hF : IsF p m mod] {ps : List (Po (El p m mod))} {k : Nat} (h : k < ps.length) (c : Int) : (ps.take (k + 1)).map (fun P => (P, c)) = (ps.take k).map (fun P => (P, c)) ++ [(ps.getD k 0, c)] := by
 rw [take_getD h 0, List.map_append]; rfl
theorem cmt_cmp_ent : Enters Try.prog 96 := enters_of Try.func96 (by kernel_rfl) (by kernel_rfl)
theorem cmt_cmp (g : GfM) (pg : Addr) (Ax : Option Addr) (nx cx : Nat) (kx : Int) (a : List Int) (hnx : nx = a.length) (ha : a.length ≤ 1000000) (Ay : Option Addr) (ny cy : Nat) (ky : Int) (b : List Int) (hny : ny = b.length) (hb : b.length ≤ 1000000) :
  Pure Try.prog 96 #[.agg #[.slice Ax nx cx, .int .i64 kx], .agg #[.slice Ay ny cy, .int .i64 ky], .pointer (some pg)] [ro (some pg) [.pointer (some g.p)], gfR g, ro Ax (ints a), ro Ay (ints b)] (isV (.int .i64 (cmpL (canL g.q a) (canL g.q b)))) := by
 refine pure_of (args := [.agg #[.slice Ax nx cx, .int .i64 kx], .agg #[.slice Ay ny cy, .int .i64 ky], .pointer (some pg)]) 12 Try.func96 rfl rfl rfl cmt_cmp_ent ⟨id, id, id, id, trivial⟩ (fun w0 => ?_)
 refine tS ?_
 refine tR fun _ _ _ => ?_
 refine eV (eBox rfl rfl rfl rfl rfl (fun p0 => ?_))
 refine eV (eBox rfl rfl rfl rfl rfl (fun p0a => ?_))
 refine pV ?_
 refine tS ?_
 refine tR fun _ _ _ => ?_
 refine sV (rLd0 rfl rfl) ?_
 refine sV (rFld rfl rfl) ?_
 refine sV (rLdF rfl rfl rfl) ?_
 refine sV (rFld rfl rfl) ?_
 refine sV (rLdF rfl rfl rfl) ?_
 refine eV (eCallV rfl rfl rfl (fac_Compare g Ax nx cx a hnx (by omega) Ay ny cy b hny (by omega)) ⟨rfl, rfl, rfl, trivial⟩ ?_)
 refine pV ?_
 exact tr_ret ⟨trivial, _, _, rfl, ⟨rfl, rfl⟩, CSub.nil _, trivial⟩
theorem fac_CompleteL_ent : Enters Try.prog 39 := enters_of Try.func39 (by kernel_rfl) (by kernel_rfl)
theorem fac_CompleteL (hlib : FacSort) (hnone : FacNone) (g : GfM) {p m : Int} {mod : List Int} [hF : IsF p m mod] (hg : GOk g p m mod) (A : Option Addr) (n c : Nat) (a : List Int) (hn : n = a.length) (ha9 : a.length ≤ 17592186044415) (he : facE (Po.len (pol a : Po (El p m mod))) = 0) :
  Pure Try.prog 39 #[.pointer (some g.p), .slice A n c] [gfR g, ro A (ints a)] (two (fun v ch ch2 => ∃ B cap gs, v = .tuple #[.int .i64 (Po.lead (pol a : Po (El p m mod))).1, .slice B gs.length cap, .int .i64 0] ∧ ch = ow2 B 64 cap (fcs gs) ∧ ch2 = rowsCh 3 (rws gs) ∧ CmI (Po.mon (pol a : Po (El p m mod))) gs ∧ RisF gs ∧ gs.length ≤ 257)) := by
 have hq2 := hF.q2
 have hgq := hg.eq
 have hil := il_length (pol a : Po (El p m mod))
 have hle := facE_ok he
 have h0 : (pol a : Po (El p m mod)) ≠ 0 := Po.len_pos_iff.1 (by omega)
 have hml := Po.mon_len (pol a : Po (El p m mod))
 have hm0 := Po.mon_ne h0
 have hmle := Po.mon_lead h0
 have hmil := il_length (Po.mon (pol a : Po (El p m mod)))
 refine pure_of (args := [.pointer (some g.p), .slice A n c]) 61 Try.func39 rfl rfl rfl fac_CompleteL_ent ⟨id, id, trivial⟩ (fun w0 => ?_)
 refine tS ?_
 refine tR fun _ _ _ => ?_
 refine eV (eBox rfl rfl rfl rfl rfl (fun p0 => ?_))
 iterate 3 refine pV ?_
 refine tS ?_
 refine tR fun _ _ _ => ?_
 refine sV (rLd0 rfl rfl) ?_
 refine pV ?_
 refine eV (eCall1 rfl rfl rfl (fac_enter g hg A n c a hn ha9 he) ⟨rfl, rfl, trivial⟩ ?_)
 rintro _ _ ⟨B1, c1, rfl, hc1, rfl⟩
 iterate 5 refine pV ?_
 refine tS ?_
 refine tS ?_
 refine tR fun _ _ _ => ?_
 iterate 2 refine pV ?_
 refine tC rfl (fun h2 => ?_) (fun h2 => ?_)
 ·try simp only [zbA] at h2
  first | exact absurd trivial h2 | exact absurd rfl h2 | omega | (exact absurd h2 (by simp)) --done
 ·try simp only [zbA] at h2
  refine tK ?_
  refine tS ?_
  refine tS ?_
  refine tr_draw [0, 1, 2, 6, 3, 4, 5] [] mixed (by kernel_rfl) fun _ _ _ => ?_
  refine sV (rLd0 rfl rfl) ?_
  refine sV (rLd0 rfl rfl) ?_
  iterate 2 refine pV ?_
  refine eV (eCall1 rfl rfl rfl (fac_monic g hg B1 _ c1 (il (pol a : Po (El p m mod))) rfl (by omega) (by rw [pol_il]; exact h0)) ⟨rfl, rfl, trivial⟩ ?_)
  rintro _ _ ⟨B4, c4, rfl, rfl⟩
  rw [pol_il]
  refine eV (eCall2 rfl rfl rfl (fac_sqf g hg B4 _ c4 (Po.mon (pol a : Po (El p m mod))) (by rw [il_length]) (Po.mon_lead h0) (by omega)) ⟨rfl, rfl, rfl, trivial⟩ ?_)
  rintro _ _ _ ⟨Bs, cs_, fs, rfl, rfl, rfl, hI0, hfl⟩
  refine sV (rLenS rfl rfl) ?_
  refine tB ?_
  refine tr_nilQ 64 3 ?_
  refine tr_loop5 (fun (j : Int) (Bg : Option Addr) (cg : Nat) (gs : List FacM) (Ls : List (Po (El p m mod) × Int)) => [(2, .pointer (some p0)), (25, .slice Bs fs.length cs_), (26, .int .i64 (fs.length : Nat)), (27, .int .i64 j), (5, .slice Bg gs.length cg), (7, .slice B1 (il (pol a : Po (El p m mod))).length c1), (4, .int .i64 0), (6, .int .i64 0)]) (fun (j : Int) (Bg : Option Addr) (cg : Nat) (gs : List FacM) (Ls : List (Po (El p m mod) × Int)) => [ow2 Bg 64 cg (fcs gs), rowsCh 3 (rws gs), ow2 Bs 64 cs_ (fcs fs), rowsR (rws fs), ow B1 3 c1 (ints (il (pol a : Po (El p m mod)))), blk p0 25 [.pointer (some g.p)], gfR g]) (fun (j : Int) (Bg : Option Addr) (cg : Nat) (gs : List FacM) (Ls : List (Po (El p m mod) × Int)) => (0 ≤ j ∧ j ≤ fs.length) ∧ (fpr gs = Ls.map fun x => (il x.1, x.2)) ∧ CmJ (Po.mon (pol a : Po (El p m mod))) fs j.toNat Ls ∧ gs.length ≤ 256 * j) (fun (j : Int) (Bg : Option Addr) (cg : Nat) (gs : List FacM) (Ls : List (Po (El p m mod) × Int)) => (fs.length - j).toNat) (0) (none) (0) ([]) ([]) ⟨rfl, rfl, rfl, rfl, rfl, rfl, rfl, rfl, trivial⟩ (by exact (cs _ [rowsCh 3 (rws fs), ow2 none 64 0 (fcs []), rowsCh 3 (rws []), ow2 Bs 64 cs_ (fcs fs), ow B1 3 c1 (ints (il (pol a : Po (El p m mod)))), blk p0 25 [.pointer (some g.p)], gfR g]).trans ((rows_weak _).trans (cs _ _))) (⟨⟨by omega, by omega⟩, rfl, CmJ.start, by simp⟩) (fun j Bg cg gs Ls hI => ?_)
  obtain ⟨⟨hj0, hj1⟩, hfp, hJ, hgb⟩ := hI
  refine tS ?_
  refine tR fun _ _ _ => ?_
  refine pV ?_
  refine tS ?_
  refine tC rfl (fun h5 => ?_) (fun h5 => ?_)
  ·try simp only [zbA] at h5
   refine tK ?_
   refine tS ?_
   refine tB ?_
   refine tS ?_
   have hjl : j.toNat < fs.length := by omega
   have hQm := getD_mem hjl facD
   obtain ⟨hQ1, hQ3, hQ2, hQ4, hQ5, hQ6, hQx⟩ := hI0.fc _ hQm
   have hQl := (hI0.le hmle _ hQm).1
   refine tR fun _ _ _ => ?_
   refine sV (rIdxT rfl rfl rfl (by omega) (by omega) (by simp; omega)) ?_
   refine sV (rLdT rfl rfl (by simp; omega)) ?_
   refine eV (eAlloc rfl rfl rfl (fun p6 => ?_))
   rw [fcs_get1 fs j.toNat hjl, fcs_get2 fs j.toNat hjl]
   rw [hQx]
   refine eV (eStS rfl rfl rfl rfl rfl rfl ?_)
   refine tr_chunks [ro (fs.getD j.toNat facD).r.A (ints (il (fcP p m mod (fs.getD j.toNat facD)))), blk p6 64 [.slice (fs.getD j.toNat facD).r.A (il (fcP p m mod (fs.getD j.toNat facD))).length (fs.getD j.toNat facD).r.cap, .int .i64 (fs.getD j.toNat facD).k], ow2 Bg 64 cg (fcs gs), rowsCh 3 (rws gs), ow2 Bs 64 cs_ (fcs fs), rowsR (rws fs), ow B1 3 c1 (ints (il (pol a : Po (El p m mod)))), blk p0 25 [.pointer (some g.p)], gfR g] (hQx ▸ (cs _ [rowsR (rws fs), blk p6 64 [.slice (fs.getD j.toNat facD).r.A (fs.getD j.toNat facD).r.xs.length (fs.getD j.toNat facD).r.cap, .int .i64 (fs.getD j.toNat facD).k], ow2 Bg 64 cg (fcs gs), rowsCh 3 (rws gs), ow2 Bs 64 cs_ (fcs fs), ow B1 3 c1 (ints (il (pol a : Po (El p m mod)))), blk p0 25 [.pointer (some g.p)], gfR g]).trans ((row_ro (rs := rws fs) (List.mem_map.2 ⟨_, getD_mem hjl facD, rfl⟩) _).trans (cs _ _))) ?_
   refine tS ?_
   refine tR fun _ _ _ => ?_
   refine sV (rLd0 rfl rfl) ?_
   refine sV (rFld rfl rfl) ?_
   refine sV (rLdF rfl rfl rfl) ?_
   refine eV (eCall2 rfl rfl rfl (fac_split g hg (fs.getD j.toNat facD).r.A (fs.getD j.toNat facD).r.cap (fcP p m mod (fs.getD j.toNat facD)) hQ1 hQ2 (by omega) hQ5) ⟨rfl, rfl, trivial⟩ ?_)
   rintro _ _ _ ⟨Bp, cp, rs, qs, ps, rfl, rfl, rfl, hal, hxs, hIr, hprd, hrl⟩
   refine sV (rLen rfl rfl) ?_
   refine pV ?_
   have hpsl := xss_len hxs
   refine tr_chunks [rowsR rs, ro (fs.getD j.toNat facD).r.A (ints (il (fcP p m mod (fs.getD j.toNat facD)))), ow Bp 22 cp (hdrs rs), blk p6 64 [.slice (fs.getD j.toNat facD).r.A (il (fcP p m mod (fs.getD j.toNat facD))).length (fs.getD j.toNat facD).r.cap, .int .i64 (fs.getD j.toNat facD).k], ow2 Bg 64 cg (fcs gs), rowsCh 3 (rws gs), ow2 Bs 64 cs_ (fcs fs), rowsR (rws fs), ow B1 3 c1 (ints (il (pol a : Po (El p m mod)))), blk p0 25 [.pointer (some g.p)], gfR g] ((cs _ [rowsCh 3 qs, ro (fs.getD j.toNat facD).r.A (ints (il (fcP p m mod (fs.getD j.toNat facD)))), ow Bp 22 cp (hdrs rs), blk p6 64 [.slice (fs.getD j.toNat facD).r.A (il (fcP p m mod (fs.getD j.toNat facD))).length (fs.getD j.toNat facD).r.cap, .int .i64 (fs.getD j.toNat facD).k], ow2 Bg 64 cg (fcs gs), rowsCh 3 (rws gs), ow2 Bs 64 cs_ (fcs fs), rowsR (rws fs), ow B1 3 c1 (ints (il (pol a : Po (El p m mod)))), blk p0 25 [.pointer (some g.p)], gfR g]).trans (al_sub hal 3 _)) ?_
   refine tB ?_
   refine tr_loop4 (fun (k : Int) (Bg : Option Addr) (cg : Nat) (gs : List FacM) => [(2, .pointer (some p0)), (9, .pointer (some p6)), (34, .slice Bp rs.length cp), (35, .int .i64 (rs.length : Nat)), (36, .int .i64 k), (5, .slice Bg gs.length cg), (4, .int .i64 0), (6, .int .i64 0), (7, .slice B1 (il (pol a : Po (El p m mod))).length c1), (25, .slice Bs fs.length cs_), (26, .int .i64 (fs.length : Nat)), (27, .int .i64 j)]) (fun (k : Int) (Bg : Option Addr) (cg : Nat) (gs : List FacM) => [ow2 Bg 64 cg (fcs gs), rowsCh 3 (rws gs), rowsR rs, ow Bp 22 cp (hdrs rs), blk p6 64 [.slice (fs.getD j.toNat facD).r.A (il (fcP p m mod (fs.getD j.toNat facD))).length (fs.getD j.toNat facD).r.cap, .int .i64 (fs.getD j.toNat facD).k], ow2 Bs 64 cs_ (fcs fs), rowsR (rws fs), ow B1 3 c1 (ints (il (pol a : Po (El p m mod)))), blk p0 25 [.pointer (some g.p)], gfR g]) (fun (k : Int) (Bg : Option Addr) (cg : Nat) (gs : List FacM) => (0 ≤ k ∧ k ≤ rs.length) ∧ (fpr gs = (Ls ++ (ps.take k.toNat).map fun P => (P, (fs.getD j.toNat facD).k)).map fun x => (il x.1, x.2)) ∧ gs.length ≤ 256 * j + k) (fun (k : Int) (Bg : Option Addr) (cg : Nat) (gs : List FacM) => (rs.length - k).toNat) (0) (Bg) (cg) (gs) ⟨rfl, rfl, rfl, rfl, rfl, rfl, rfl, rfl, rfl, rfl, rfl, rfl, trivial⟩ (by first | exact cs _ _ | exact CSub.refl _) (⟨⟨by omega, by omega⟩, by rw [show Int.toNat 0 = 0 from rfl, List.take_zero, List.map_nil, List.append_nil]; exact hfp, by omega⟩) (fun k Bg cg gs hI => ?_)
   obtain ⟨⟨hk0, hk1⟩, hfk, hgb2⟩ := hI
   refine tS ?_
   refine tR fun _ _ _ => ?_
   refine pV ?_
   refine tS ?_
   refine tC rfl (fun h8 => ?_) (fun h8 => ?_)
   ·try simp only [zbA] at h8
    refine tK ?_
    refine tS ?_
    refine tB ?_
    refine tS ?_
    haveI : InB k.toNat rs.length := ⟨by omega⟩
    have hpx := xss_at hxs (show k.toNat < rs.length by omega)
    have hpi := (hIr.mem _).1 (Vc.getD_eq_mem (show k.toNat < ps.length by omega) (0 : Po (El p m mod)))
    have hpl := Po.dvd_len hpi.2.2 (lead1_ne hQ1)
    have hpl2 := il_length (ps.getD k.toNat 0)
    have hpx2 := congrArg List.length hpx
    refine tR fun _ _ _ => ?_
    refine sV (rIdxR rfl rfl rfl (by omega) (by omega) (by omega)) ?_
    refine sV (rLdR rfl rfl (by omega)) ?_
    refine pV ?_
    refine tr_draw [0, 1, 2, 4, 5, 3, 6, 7] [8, 9] mixed (by kernel_rfl) fun _ _ _ => ?_
    refine pV ?_
    refine sV (rLd0 rfl rfl) ?_
    refine pV ?_
    refine sV (rFld rfl rfl) ?_
    refine sV (rLdF rfl rfl rfl) ?_
    refine eV (eCall1 rfl rfl rfl (fac_monic g hg (rs.getD k.toNat rowD).A _ (rs.getD k.toNat rowD).cap (rs.getD k.toNat rowD).xs rfl (by omega) (by rw [hpx, pol_il]; exact lead1_ne hpi.2.1)) ⟨rfl, rfl, trivial⟩ ?_)
    rintro _ _ ⟨Bm, cm, rfl, rfl⟩
    refine sV (rBuild rfl rfl) ?_
    rw [show Po.mon (pol (rs.getD k.toNat rowD).xs : Po (El p m mod)) = ps.getD k.toNat 0 by rw [hpx, pol_il, Po.mon_of_monic hpi.2.1]]
    refine eV (eLitS rfl rfl rfl rfl (fun p10 => ?_))
    refine eV (eApp2 rfl rfl rfl rfl rfl (by first | rfl | simp) rfl (by first | (simp; done) | (simp; omega)) (by first | (simp; done) | (simp; omega)) (fun A10a c10a => ?_))
    refine pV ?_
    rw [fcs_snoc, fcs_length]
    refine tR fun _ _ _ => ?_
    refine sV (rAdd rfl rfl rfl (by omega) (by omega)) ?_
    refine pV ?_
    refine ⟨k + 1, A10a, c10a, gs ++ [⟨⟨Bm, cm, il (ps.getD k.toNat 0)⟩, (fs.getD j.toNat facD).k⟩], ⟨rfl, rfl, rfl, rfl, rfl, rfl, rfl, rfl, rfl, rfl, rfl, rfl, trivial⟩, by rw [rws_app]; exact rows_app (r := ⟨Bm, cm, il (ps.getD k.toNat 0)⟩), ?_⟩
    refine ⟨⟨⟨by omega, by omega⟩, ?_, by simp; omega⟩, by omega⟩
    rw [show (k + 1).toNat = k.toNat + 1 by omega, take_mapP (by omega), ← List.append_assoc]
    exact fpr_add hfk _ _ _ _
   ·try simp only [zbA] at h8
    refine tE ?_
    refine tR fun _ _ _ => ?_
    refine sV (rAdd rfl rfl rfl (by omega) (by omega)) ?_
    refine pV ?_
    refine ⟨j + 1, Bg, cg, gs, Ls ++ ps.map fun P => (P, (fs.getD j.toNat facD).k), ⟨rfl, rfl, rfl, rfl, rfl, rfl, rfl, rfl, trivial⟩, by first | exact cs _ _ | exact CSub.refl _, ?_⟩
    refine ⟨⟨⟨by omega, by omega⟩, ?_, ?_, by omega⟩, by omega⟩
    ·rw [show k.toNat = ps.length by omega, List.take_length] at hfk; exact hfk
    ·rw [show (j + 1).toNat = j.toNat + 1 by omega]
     exact hJ.next hm0 hI0 hjl hIr
  ·try simp only [zbA] at h5
   refine tE ?_
   refine tS ?_
   have hjf : j.toNat = fs.length := by omega
   rw [hjf] at hJ
   have hC := hJ.done hm0 hI0 hfp
   have hgl := hC.cnt hmle
   have hfle := hC.le hm0
   have hcmp : ∀ x ∈ gs, ∀ y ∈ gs, Pure Try.prog 96 ([Value.agg #[x.r.hdr, .int .i64 x.k], Value.agg #[y.r.hdr, .int .i64 y.k]] ++ [(.pointer (some p0) : Value)]).toArray [ro (some p0) [.pointer (some g.p)], gfR g, rowsR (rws gs)] (isV (.int .i64 (cmpL x.r.xs y.r.xs))) := fun x hx y hy => by
    have h1 := hfle x hx
    have h2 := hfle y hy
    have e1 := (hC.fc hm0 hx).2.2.2.1
    have e2 := (hC.fc hm0 hy).2.2.2.1
    have h3 := (cmt_cmp g p0 x.r.A _ x.r.cap x.k x.r.xs rfl (by omega) y.r.A _ y.r.cap y.k y.r.xs rfl (by omega)).sub (G' := [ro (some p0) [.pointer (some g.p)], gfR g, rowsR (rws gs)]) fun w hw ch hch => by
     simp only [List.mem_cons, List.not_mem_nil, or_false] at hch
     rcases hch with rfl | rfl | rfl | rfl
     ·exact hw _ (by simp)
     ·exact hw _ (by simp)
     ·exact hw (rowsR (rws gs)) (by simp) _ (List.mem_map.2 ⟨x, hx, rfl⟩)
     ·exact hw (rowsR (rws gs)) (by simp) _ (List.mem_map.2 ⟨y, hy, rfl⟩)
    rw [e1, e2, hgq, canL_il rfl, canL_il rfl, ← e1, ← e2] at h3
    exact h3
   refine tR fun _ _ _ => ?_
   refine pV ?_
   refine sV (rFun rfl rfl rfl) ?_
   refine eV (eCallM1 rfl rfl rfl (slc_SortFac hlib hnone Bg _ cg gs rfl (by omega) 96 [.pointer (some p0)] [ro (some p0) [.pointer (some g.p)], gfR g, rowsR (rws gs)] ⟨id, id, id, trivial⟩ (fun x y => cmpL x.r.xs y.r.xs) hcmp (fun x _ => cmpL_irr _) (fun x _ y _ z _ h1 h2 => cmpL_trans h1 h2) (fun x _ y _ z _ h1 h2 => cmpL_ntr h1 h2)) ⟨rfl, rfl, trivial⟩ ?_)
   rintro _ _ ⟨hs, rfl, rfl, hperm, hsrt⟩
   refine tS ?_
   have hhl := hperm.length_eq
   refine tR fun _ _ _ => ?_
   iterate 2 refine pV ?_
   refine sV (rLen rfl rfl) ?_
   refine sV (rSub rfl rfl rfl (by omega) (by omega)) ?_
   refine sV (rIdxI rfl rfl rfl (by omega) (by omega) (by omega)) ?_
   refine sV (rLdI rfl rfl (by omega)) ?_
   iterate 4 refine pV ?_
   have hlv : (il (pol a : Po (El p m mod))).getD (((il (pol a : Po (El p m mod))).length : Int) - 1).toNat 0 = (Po.lead (pol a : Po (El p m mod))).1 := by
    rw [il_getD, hil, show ((Po.len (pol a : Po (El p m mod)) : Int) - 1).toNat = Po.len (pol a : Po (El p m mod)) - 1 by omega]; rfl
   rw [hlv, ← hhl]
   exact tr_ret ⟨trivial, _, _, rfl, ⟨_, _, rfl, Bg, cg, hs, rfl, rfl, rfl, hC.perm hperm, (hC.perm hperm).rise hsrt, by omega⟩, (cs _ [rowsCh 3 (rws gs), ow2 Bg 64 cg (fcs hs)]).trans ((rows_permM (rs := rws gs) (qs := rws hs) (hperm.symm.map FacM.r) _).trans (cs _ _)), trivial, trivial, trivial⟩
end Go.Proofs.Ytbhoeaijpnjgdaa

namespace Go.Proofs.Ytbhoeaijpnjgdaa
open Go.RowKit
section
variable {P : Program} {N : NB} {M : Nat → Prop} {w0 : World} {L : Fr} {F : List Chunk} {o : Oper} {x y : Operand} {t t' : TypeId}
theorem rShlU {m s : Int} (ho : o.op = .binOp .shl t x y t') (hx : ev L x = some (.int .u64 m)) (hy : ev L y = some (.int .i64 s)) (h1 : 0 ≤ m) (h2 : m < 4294967296) (h3 : 0 ≤ s) (h4 : s < 32) : Stl P N M w0 o L F (.int .u64 (m * 2 ^ s.toNat)) :=
 stl_pure fun a hl => by
  have hb : IntKind.u64.bits = 64 := rfl
  have h6 : min s.toNat IntKind.u64.bits = s.toNat := by rw [hb]; omega
  have h5 : (2 : Int) ^ s.toNat ≤ 2147483648 := by
   have := Nat.pow_le_pow_right (show 0 < 2 by omega) (show s.toNat ≤ 31 by omega)
   have e : (2 : Int) ^ s.toNat = ((2 ^ s.toNat : Nat) : Int) := by rw [Int.natCast_pow]; rfl
   omega
  have h7 : (0 : Int) ≤ 2 ^ s.toNat := Int.pow_nonneg (by omega)
  have h8 := IntWalk.u64_in (m * 2 ^ s.toNat) ⟨Int.mul_nonneg h1 h7, by
   have := Int.mul_le_mul (show m ≤ 4294967295 by omega) h5 h7 (by omega)
   omega⟩
  have hn : ¬ s < 0 := by omega
  simp only [execOp, ho, hl.eval hx, hl.eval hy, eqGuard, binOp, Op.shift, h6, h8, hn]
  rfl
theorem lst_cap {M : Nat → Prop} {w0 : World} {z : Bool} {ops rest : List Oper} {K : Fr → List Chunk → Prop} {F F' : List Chunk} (A : Option Addr) (e : TypeId) (cap : Nat) (vs : List Value) [hp : Pk F (ow A e cap vs) F'] (h : vs.length ≤ cap → LstO P N M w0 z ops K (o :: rest) L F) : LstO P N M w0 z ops K (o :: rest) L F := fun a w hl hm => by
 refine h ?_ a w hl hm
 have h1 : w.ownsRow 0 e 1 (.slice A vs.length cap) vs.length vs := (hm.perm hp.perm).sat _ (List.mem_cons_self ..)
 rcases h1 with ⟨h1, h2 | ⟨g, c, cur, hv, hb, hh, hc, hm, hs, ht⟩⟩
 ·omega
 ·simp only [Value.slice.injEq] at hv
  omega
end
theorem sub_alg {O K L x y c P : Int} (h : O + K = L + P * c) {k : Nat} (hP : (4294967296 : Int) ^ k = P := by rfl) : (O + P * vN [(x + 4294967296 - y - c) % 4294967296]) + (K + P * y) = (L + P * x) + 4294967296 ^ (k + 1) * (1 - (x + 4294967296 - y - c) / 4294967296) := by
 have h1 := Int.emod_add_mul_ediv (x + 4294967296 - y - c) 4294967296
 generalize (x + 4294967296 - y - c) % 4294967296 = r at *
 generalize (x + 4294967296 - y - c) / 4294967296 = q at *
 rw [Int.pow_succ, hP]
 simp only [vN]
 have : c = x + 4294967296 - y - (r + 4294967296 * q) := by omega
 subst this
 grind
theorem bpow (k : Nat) : (4294967296 : Int) ^ k = ((4294967296 ^ k : Nat) : Int) := by rw [Int.natCast_pow]; rfl
theorem vN_lt_of {l : List Int} (h : Lm l) {k : Nat} (hk : l.length ≤ k) : vN l < 4294967296 ^ k := by
 have h1 := vN_lt h
 have h2 := Nat.pow_le_pow_right (show 0 < 4294967296 by omega) hk
 rw [bpow] at h1 ⊢
 omega
theorem sub_end {o l k : List Int} {c : Int} (ho : Lm o) (hl : Lm l) (hk : Lm k) (hol : o.length = l.length) (hle : vN k ≤ vN l) (hc : 0 ≤ c ∧ c ≤ 1) (h : vN o + vN (k.take l.length) = vN l + 4294967296 ^ l.length * c) : vN o = vN l - vN k := by
 have h1 := vN_lt_of ho (Nat.le_of_eq hol)
 have h2 := vN_lt hl
 have h3 := vN_split k l.length
 have h4 := hN_nn hk l.length
 have h5 : 0 ≤ vN (k.take l.length) := vN_nn fun x hx => hk x (List.mem_of_mem_take hx)
 have hp : (0 : Int) < 4294967296 ^ l.length := Int.pow_pos (by omega)
 generalize (4294967296 : Int) ^ l.length = Q at *
 have h6 : hN k l.length = 0 := by
  rcases Int.lt_or_le 0 (hN k l.length) with g | g
  ·have := Int.mul_le_mul_of_nonneg_left (show 1 ≤ hN k l.length by omega) (Int.le_of_lt hp)
   omega
  ·omega
 rw [h6, Int.mul_zero] at h3
 have hcc : c = 0 ∨ c = 1 := by omega
 rcases hcc with rfl | rfl
 ·omega
 ·omega
theorem sub_nat {l k : List Int} (hl : Lm l) (hk : Lm k) (hle : vN k ≤ vN l) : (vN l - vN k).toNat = (vN l).toNat - (vN k).toNat := by
 have := vN_nn hl
 have := vN_nn hk
 omega
theorem shl_alg {O W D L x c P : Int} (h : O + P * c = W * D * L) {w i : Nat} (hW : (4294967296 : Int) ^ w = W) (hP : (4294967296 : Int) ^ (w + i) = P) : (O + P * vN [(x * D + c) % 4294967296]) + 4294967296 ^ (w + (i + 1)) * ((x * D + c) / 4294967296) = W * D * (L + 4294967296 ^ i * x) := by
 have h1 := Int.emod_add_mul_ediv (x * D + c) 4294967296
 generalize (x * D + c) % 4294967296 = r at *
 generalize (x * D + c) / 4294967296 = q at *
 have e : P = W * 4294967296 ^ i := by rw [← hP, Int.pow_add, hW]
 rw [show w + (i + 1) = (w + i) + 1 by omega, Int.pow_succ, hP]
 simp only [vN]
 have : c = r + 4294967296 * q - x * D := by omega
 subst this
 subst e
 grind
theorem shl_pow (v : Int) (n : Nat) : 4294967296 ^ (n / 32) * 2 ^ (n % 32) * v = v * 2 ^ n := by
 have e : (2 : Int) ^ n = 4294967296 ^ (n / 32) * 2 ^ (n % 32) := by
  conv => lhs; rw [← Nat.div_add_mod n 32]
  rw [Int.pow_add, Int.pow_mul]; rfl
 rw [e]; grind
theorem shl_nat {l : List Int} (hl : Lm l) (n : Nat) : (vN l * 2 ^ n).toNat = (vN l).toNat * 2 ^ n := by
 have h1 := vN_nn hl
 have e : vN l = ((vN l).toNat : Int) := by omega
 conv => lhs; rw [e]
 rw [show (2 : Int) ^ n = ((2 ^ n : Nat) : Int) by rw [Int.natCast_pow]; rfl, ← Int.natCast_mul]; rfl
theorem shl_len {x n k : Nat} (h : (lmb x).length ≤ k) : (lmb (x * 2 ^ n)).length ≤ k + n / 32 + 1 := lmb_len (by
 have h1 := lmb_ge h
 have e : 2 ^ n = 4294967296 ^ (n / 32) * 2 ^ (n % 32) := by
  conv => lhs; rw [← Nat.div_add_mod n 32]
  rw [Nat.pow_add, Nat.pow_mul]
 have h2 : 2 ^ (n % 32) < 4294967296 := Nat.lt_of_lt_of_le (Nat.pow_lt_pow_right (by omega) (show n % 32 < 32 by omega)) (by decide)
 have h3 : 2 ^ n ≤ 4294967296 ^ (n / 32) * 4294967296 := by rw [e]; exact Nat.mul_le_mul_left _ (by omega)
 rw [← Nat.pow_succ] at h3
 have h4 : x * 2 ^ n ≤ x * 4294967296 ^ (n / 32 + 1) := Nat.mul_le_mul_left _ h3
 have h5 : x * 4294967296 ^ (n / 32 + 1) < 4294967296 ^ k * 4294967296 ^ (n / 32 + 1) := Nat.mul_lt_mul_of_pos_right h1 (Nat.pow_pos (by omega))
 rw [← Nat.pow_add] at h5
 rw [Nat.add_assoc]
 omega)
theorem lmb_mono {x y : Nat} (h : x ≤ y) : (lmb x).length ≤ (lmb y).length := lmb_len (Nat.lt_of_le_of_lt h (lmb_ge (Nat.le_refl _)))
structure DivJ (a b : Nat) (i : Int) (r q : Nat) : Prop where
 eq : b * q + r = a
 lt : r < b * 2 ^ (i + 1).toNat
theorem DivJ.start {a b : Nat} (hb : 1 ≤ b) : DivJ a b ((bitl a : Int) - bitl b) a 0 := ⟨by omega, by
 have h1 := bitl_le (n := a)
 have h2 : bitl b ≠ 0 := fun h => by have := bitl_le (n := b); rw [h] at this; omega
 have h3 : 2 ^ (bitl b - 1) ≤ b := by
  rcases Nat.lt_or_ge b (2 ^ (bitl b - 1)) with g | g
  ·have := bitl_lt g; omega
  ·exact g
 have h4 : 2 ^ bitl a ≤ 2 ^ (bitl b - 1) * 2 ^ ((bitl a : Int) - bitl b + 1).toNat := by
  rw [← Nat.pow_add]; exact Nat.pow_le_pow_right (by omega) (by omega)
 have h5 := Nat.mul_le_mul_right (2 ^ ((bitl a : Int) - bitl b + 1).toNat) h3
 omega⟩
theorem DivJ.sub {a b : Nat} {i : Int} {r q : Nat} (h : DivJ a b i r q) (h0 : 0 ≤ i) (hr : b * 2 ^ i.toNat ≤ r) : DivJ a b (i - 1) (r - b * 2 ^ i.toNat) (q + 2 ^ i.toNat) := by
 obtain ⟨h1, h2⟩ := h
 refine ⟨?_, ?_⟩
 ·rw [Nat.mul_add]; omega
 ·rw [show (i - 1 + 1).toNat = i.toNat by omega]
  rw [show (i + 1).toNat = i.toNat + 1 by omega, Nat.pow_succ, ← Nat.mul_assoc] at h2
  omega
theorem DivJ.skip {a b : Nat} {i : Int} {r q : Nat} (h : DivJ a b i r q) (h0 : 0 ≤ i) (hr : ¬ b * 2 ^ i.toNat ≤ r) : DivJ a b (i - 1) r q := ⟨h.eq, by
 rw [show (i - 1 + 1).toNat = i.toNat by omega]; omega⟩
theorem DivJ.done {a b : Nat} {i : Int} {r q : Nat} (h : DivJ a b i r q) (hb : 1 ≤ b) (h0 : i < 0) : q = a / b ∧ r = a % b := by
 obtain ⟨h1, h2⟩ := h
 rw [show (i + 1).toNat = 0 by omega, Nat.pow_zero, Nat.mul_one] at h2
 subst h1
 constructor
 ·rw [Nat.mul_add_div (by omega), Nat.div_eq_of_lt h2]; omega
 ·rw [Nat.mul_add_mod, Nat.mod_eq_of_lt h2]
theorem DivJ.le {a b : Nat} {i : Int} {r q : Nat} (h : DivJ a b i r q) (hb : 1 ≤ b) : r ≤ a ∧ q ≤ a := by
 have h1 := h.eq
 have := Nat.mul_le_mul_right q hb
 omega
theorem bitl_len {n k : Nat} (h : (lmb n).length ≤ k) : bitl n ≤ 32 * k := bitl_lt (by
 have := lmb_ge h
 rwa [Nat.pow_mul])
theorem lmb_two {x : Nat} (h : x < 18446744073709551616) : (lmb x).getD 0 0 + (lmb x).getD 1 0 * 4294967296 = x := by
 have h1 := lmb_len (n := x) (k := 2) (by omega)
 have h2 := hN_step (lmb x) 0
 have h3 := hN_step (lmb x) 1
 rw [hN_zero, vN_lmb] at h2
 rw [hN_out (k := 1 + 1) (by omega)] at h3
 rw [show 0 + 1 = 1 from rfl] at h2
 omega
theorem cmpZ_ge {a b : Int} : 0 ≤ cmpZ a b ↔ b ≤ a := by
 unfold cmpZ
 split
 ·omega
 ·split <;> omega
end Go.Proofs.Ytbhoeaijpnjgdaa

set_option maxRecDepth 100000
namespace Go.Proofs.Ytbhoeaijpnjgdaa
open Go.RowKit
theorem ref_NSub_ent : Enters Try.prog 84 := enters_of Try.func84 (by kernel_rfl) (by kernel_rfl)
theorem ref_NSub (X : Option Addr) (nx cx : Nat) (l : List Int) (hnx : nx = l.length) (hlnx : Lm l) (h9nx : nx ≤ 1000000) (Y : Option Addr) (ny cy : Nat) (k : List Int) (hny : ny = k.length) (hlny : Lm k) (h9ny : ny ≤ 1000000) (hle : vN k ≤ vN l) :
  Pure Try.prog 84 #[.slice X nx cx, .slice Y ny cy] [ro X (w32 l), ro Y (w32 k)] (one (fun v ch => ∃ B c, v = .slice B (lmb ((vN l).toNat - (vN k).toNat)).length c ∧ ch = ow B 105 c (w32 (lmb ((vN l).toNat - (vN k).toNat))) ∧ (lmb ((vN l).toNat - (vN k).toNat)).length ≤ c)) := by
 refine pure_of (args := [.slice X nx cx, .slice Y ny cy]) 36 Try.func84 rfl rfl rfl ref_NSub_ent ⟨id, id, trivial⟩ (fun w0 => ?_)
 refine tS ?_
 refine tR fun _ _ _ => ?_
 refine pV ?_
 refine tS ?_
 refine tR fun _ _ _ => ?_
 refine pV ?_
 refine tS ?_
 refine tR fun _ _ _ => ?_
 refine pV ?_
 refine tS ?_
 refine tS ?_
 refine tR fun _ _ _ => ?_
 refine pV ?_
 refine tB ?_
 refine tr_nilW 105 ?_
 refine tr_loop5 (fun (i : Int) (bw : Int) (B : Option Addr) (cb : Nat) (o : List Int) => [(5, .slice B o.length cb), (6, .int .u64 bw), (7, .int .i64 i), (0, .slice X nx cx), (1, .slice Y ny cy), (4, .slice none 0 0)]) (fun (i : Int) (bw : Int) (B : Option Addr) (cb : Nat) (o : List Int) => [ow B 105 cb (w32 o), ro X (w32 l), ro Y (w32 k)]) (fun (i : Int) (bw : Int) (B : Option Addr) (cb : Nat) (o : List Int) => (0 ≤ i ∧ i ≤ nx) ∧ (0 ≤ bw ∧ bw ≤ 1) ∧ (o.length : Int) = i ∧ Lm o ∧ vN o + vN (k.take i.toNat) = vN (l.take i.toNat) + 4294967296 ^ i.toNat * bw) (fun (i : Int) (bw : Int) (B : Option Addr) (cb : Nat) (o : List Int) => (nx - i).toNat) (0) (0) (none) (0) ([]) ⟨rfl, rfl, rfl, rfl, rfl, rfl, trivial⟩ (by first | exact cs _ _ | exact CSub.refl _) (⟨⟨by omega, by omega⟩, ⟨by omega, by omega⟩, rfl, lm_nil, by simp [vN]⟩) (fun i bw B cb o hI => ?_)
 obtain ⟨⟨hi0, hi1⟩, ⟨hc0, hc1⟩, hol0, hol, hs⟩ := hI
 refine tS ?_
 refine tS ?_
 refine tR fun _ _ _ => ?_
 iterate 2 refine pV ?_
 refine sV (rLen rfl rfl) ?_
 refine pV ?_
 refine tC rfl (fun h4 => ?_) (fun h4 => ?_)
 ·try simp only [zbA] at h4
  refine tK ?_
  refine tS ?_
  refine tB ?_
  refine tS ?_
  have hli := hlnx.get i.toNat
  have hki := hlny.get i.toNat
  refine tR fun _ _ _ => ?_
  iterate 2 refine pV ?_
  refine eV (eCallV rfl rfl rfl (ref_limb X nx cx l hnx hlnx i (by omega)) ⟨rfl, rfl, trivial⟩ ?_)
  refine sV (rAddU rfl rfl rfl (by omega) (by omega)) ?_
  iterate 2 refine pV ?_
  refine eV (eCallV rfl rfl rfl (ref_limb Y ny cy k hny hlny i (by omega)) ⟨rfl, rfl, trivial⟩ ?_)
  refine sV (rSubU rfl rfl rfl (by omega) (by omega)) ?_
  refine pV ?_
  refine sV (rSubU rfl rfl rfl (by omega) (by omega)) ?_
  refine pV ?_
  refine tS ?_
  refine tR fun _ _ _ => ?_
  iterate 2 refine pV ?_
  refine sV (rRemU rfl rfl rfl (by omega) (by omega)) ?_
  refine sV (rConv rfl undU64 undU32 rfl (IntWalk.u32_in _ ⟨by omega, by omega⟩)) ?_
  refine eV (eLit1W rfl rfl rfl rfl (fun A7 => ?_))
  refine eV (eAppW rfl rfl rfl rfl rfl (by first | rfl | simp | omega) (by first | rfl | simp | omega) (by first | omega | (simp; omega)) (fun A7a c7a => ?_))
  refine pV ?_
  refine tR fun _ _ _ => ?_
  refine pV ?_
  refine sV (rQuoU rfl rfl rfl (by omega) (by omega)) ?_
  refine sV (rSubU rfl rfl rfl (by omega) (by omega)) ?_
  refine pV ?_
  refine tR fun _ _ _ => ?_
  refine pV ?_
  refine sV (rAdd rfl rfl rfl (by omega) (by omega)) ?_
  refine pV ?_
  refine ⟨i + 1, 1 - (l.getD i.toNat 0 + 4294967296 - k.getD i.toNat 0 - bw) / 4294967296, A7a, c7a, o ++ [(l.getD i.toNat 0 + 4294967296 - k.getD i.toNat 0 - bw) % 4294967296], ⟨rfl, rfl, rfl, rfl, rfl, rfl, trivial⟩, by first | exact cs _ _ | exact CSub.refl _, ?_⟩
  refine ⟨⟨⟨by omega, by omega⟩, ⟨by omega, by omega⟩, by simp; omega, lm_app hol (lm_one (by omega) (by omega)), ?_⟩, by omega⟩
  rw [show (i + 1).toNat = i.toNat + 1 by omega, vN_tk, vN_tk, vN_app, show o.length = i.toNat by omega]
  exact sub_alg hs
 ·try simp only [zbA] at h4
  refine tE ?_
  refine tS ?_
  refine tr_cap B 105 cb (w32 o) fun hcap => ?_
  rw [w32_length] at hcap
  have hin : i.toNat = l.length := by omega
  have hv : (vN o).toNat = (vN l).toNat - (vN k).toNat := by
   rw [hin, vN_all (l := l) (by omega)] at hs
   rw [sub_end hol hlnx hlny (by omega) hle ⟨hc0, hc1⟩ hs, sub_nat hlnx hlny hle]
  refine tR fun _ _ _ => ?_
  refine pV ?_
  refine eV (eCall1 rfl rfl rfl (ref_Trim B _ cb o rfl hol (by omega) hcap) ⟨rfl, trivial⟩ ?_)
  rintro _ _ ⟨B9, c9, rfl, rfl, hc9⟩
  refine pV ?_
  rw [hv] at hc9 ⊢
  exact tr_ret ⟨trivial, _, _, rfl, ⟨_, rfl, B9, c9, rfl, rfl, hc9⟩, cs _ _, trivial, trivial⟩
theorem ref_Nshl_ent : Enters Try.prog 134 := enters_of Try.func134 (by kernel_rfl) (by kernel_rfl)
theorem ref_Nshl (X : Option Addr) (nx cx : Nat) (l : List Int) (hnx : nx = l.length) (hlnx : Lm l) (h9nx : nx ≤ 1000000) (n : Nat) (hn : n ≤ 10000000) :
  Pure Try.prog 134 #[.slice X nx cx, .int .i64 n] [ro X (w32 l)] (one (fun v ch => ∃ B c, v = .slice B (lmb ((vN l).toNat * 2 ^ n)).length c ∧ ch = ow B 105 c (w32 (lmb ((vN l).toNat * 2 ^ n))) ∧ (lmb ((vN l).toNat * 2 ^ n)).length ≤ c)) := by
 have hD1 : (1 : Int) ≤ 2 ^ (n % 32) := by
  have := Nat.two_pow_pos (n % 32)
  have e : (2 : Int) ^ (n % 32) = ((2 ^ (n % 32) : Nat) : Int) := by rw [Int.natCast_pow]; rfl
  omega
 have hD9 : (2 : Int) ^ (n % 32) ≤ 2147483648 := by
  have := Nat.pow_le_pow_right (show 0 < 2 by omega) (show n % 32 ≤ 31 by omega)
  have e : (2 : Int) ^ (n % 32) = ((2 ^ (n % 32) : Nat) : Int) := by rw [Int.natCast_pow]; rfl
  omega
 have hmn : ((n : Int) % 32).toNat = n % 32 := by omega
 refine pure_of (args := [.slice X nx cx, .int .i64 n]) 42 Try.func134 rfl rfl rfl ref_Nshl_ent ⟨id, trivial⟩ (fun w0 => ?_)
 refine tS ?_
 refine tR fun _ _ _ => ?_
 refine pV ?_
 refine tS ?_
 refine tR fun _ _ _ => ?_
 refine pV ?_
 refine sV (rQuo rfl rfl rfl (by omega) (by omega)) ?_
 refine eV (eMakeW rfl rfl rfl rfl rfl (by omega) (by omega) (by omega) (fun A1 => ?_))
 refine pV ?_
 refine tS ?_
 refine tR fun _ _ _ => ?_
 refine pV ?_
 refine tS ?_
 refine tS ?_
 refine tR fun _ _ _ => ?_
 refine pV ?_
 refine tB ?_
 refine tr_loop6 (fun (i : Int) (cy2 : Int) (B : Option Addr) (cb : Nat) (o : List Int) (on : Nat) => [(5, .slice B on cb), (6, .int .u64 cy2), (7, .int .i64 i), (0, .slice X nx cx), (1, .int .i64 n), (4, .slice none 0 0)]) (fun (i : Int) (cy2 : Int) (B : Option Addr) (cb : Nat) (o : List Int) (on : Nat) => [ow B 105 cb (w32 o), ro X (w32 l)]) (fun (i : Int) (cy2 : Int) (B : Option Addr) (cb : Nat) (o : List Int) (on : Nat) => on = o.length ∧ (0 ≤ i ∧ i ≤ nx) ∧ (0 ≤ cy2 ∧ cy2 < 2 ^ (n % 32)) ∧ (o.length : Int) = (n / 32 : Nat) + i ∧ Lm o ∧ vN o + 4294967296 ^ (n / 32 + i.toNat) * cy2 = 4294967296 ^ (n / 32) * 2 ^ (n % 32) * vN (l.take i.toNat)) (fun (i : Int) (cy2 : Int) (B : Option Addr) (cb : Nat) (o : List Int) (on : Nat) => (nx - i).toNat) (0) (0) (A1) (((n : Int) / 32).toNat) (List.replicate ((n : Int) / 32).toNat 0) (((n : Int) / 32).toNat) ⟨rfl, rfl, rfl, rfl, rfl, rfl, trivial⟩ (by first | exact cs _ _ | exact CSub.refl _) (⟨by rw [List.length_replicate], ⟨by omega, by omega⟩, ⟨by omega, by omega⟩, by rw [List.length_replicate]; omega, lm_rep _, by rw [vN_zeros]; simp [vN]⟩) (fun i cy2 B cb o on hI => ?_)
 obtain ⟨rfl, ⟨hi0, hi1⟩, ⟨hc0, hc1⟩, hol0, hol, hs⟩ := hI
 refine tS ?_
 refine tS ?_
 refine tR fun _ _ _ => ?_
 iterate 2 refine pV ?_
 refine sV (rLen rfl rfl) ?_
 refine pV ?_
 refine tC rfl (fun h4 => ?_) (fun h4 => ?_)
 ·try simp only [zbA] at h4
  refine tK ?_
  refine tS ?_
  refine tB ?_
  refine tS ?_
  have hli := hlnx.get i.toNat
  have hx0 : 0 ≤ l.getD i.toNat 0 * 2 ^ (n % 32) := Int.mul_nonneg hli.1 (by omega)
  have hx9 : l.getD i.toNat 0 * 2 ^ (n % 32) ≤ 4294967295 * 2 ^ (n % 32) := Int.mul_le_mul_of_nonneg_right (by omega) (by omega)
  refine tR fun _ _ _ => ?_
  iterate 2 refine pV ?_
  refine sV (rIdxW rfl rfl rfl (by omega) (by omega) (by omega)) ?_
  refine sV (rLdW rfl rfl (by omega)) ?_
  refine sV (rConv rfl undU32 undU64 rfl (IntWalk.u64_in _ ⟨by omega, by omega⟩)) ?_
  refine pV ?_
  refine sV (rRem rfl rfl rfl (by omega) (by omega)) ?_
  refine sV (rShlU rfl rfl rfl (by omega) (by omega) (by omega) (by omega)) ?_
  rw [hmn]
  refine pV ?_
  refine sV (rAddU rfl rfl rfl (by omega) (by omega)) ?_
  refine pV ?_
  refine tS ?_
  refine tR fun _ _ _ => ?_
  iterate 2 refine pV ?_
  refine sV (rRemU rfl rfl rfl (by omega) (by omega)) ?_
  refine sV (rConv rfl undU64 undU32 rfl (IntWalk.u32_in _ ⟨by omega, by omega⟩)) ?_
  refine eV (eLit1W rfl rfl rfl rfl (fun A7 => ?_))
  refine eV (eAppW rfl rfl rfl rfl rfl (by first | rfl | simp | omega) (by first | rfl | simp | omega) (by first | omega | (simp; omega)) (fun A7a c7a => ?_))
  refine pV ?_
  refine tR fun _ _ _ => ?_
  refine pV ?_
  refine sV (rQuoU rfl rfl rfl (by omega) (by omega)) ?_
  refine pV ?_
  refine tR fun _ _ _ => ?_
  refine pV ?_
  refine sV (rAdd rfl rfl rfl (by omega) (by omega)) ?_
  refine pV ?_
  refine ⟨i + 1, (l.getD i.toNat 0 * 2 ^ (n % 32) + cy2) / 4294967296, A7a, c7a, o ++ [(l.getD i.toNat 0 * 2 ^ (n % 32) + cy2) % 4294967296], _, ⟨rfl, rfl, rfl, rfl, rfl, rfl, trivial⟩, by first | exact cs _ _ | exact CSub.refl _, ?_⟩
  refine ⟨⟨rfl, ⟨by omega, by omega⟩, ⟨by omega, by omega⟩, by simp; omega, lm_app hol (lm_one (by omega) (by omega)), ?_⟩, by omega⟩
  rw [show (i + 1).toNat = i.toNat + 1 by omega, vN_tk, vN_app, show o.length = n / 32 + i.toNat by omega]
  exact shl_alg hs rfl rfl
 ·try simp only [zbA] at h4
  refine tE ?_
  refine tS ?_
  refine tR fun _ _ _ => ?_
  iterate 2 refine pV ?_
  refine sV (rConv rfl undU64 undU32 rfl (IntWalk.u32_in _ ⟨by omega, by omega⟩)) ?_
  refine eV (eLit1W rfl rfl rfl rfl (fun A9 => ?_))
  refine eV (eAppW rfl rfl rfl rfl rfl (by first | rfl | simp | omega) (by first | rfl | simp | omega) (by first | omega | (simp; omega)) (fun A9a c9a => ?_))
  refine lst_cap A9a 105 c9a (w32 (o ++ [cy2])) fun hcap => ?_
  rw [w32_length] at hcap
  have hv : (vN (o ++ [cy2])).toNat = (vN l).toNat * 2 ^ n := by
   rw [vN_app, show o.length = n / 32 + i.toNat by omega, show vN [cy2] = cy2 by simp [vN], hs, vN_all (by omega), shl_pow, shl_nat hlnx]
  refine eV (eCall1 rfl rfl rfl (ref_Trim A9a _ c9a (o ++ [cy2]) (by simp) (lm_app hol (lm_one (by omega) (by omega))) (by simp; omega) (by rw [List.length_append] at hcap; simpa using hcap)) ⟨rfl, trivial⟩ ?_)
  rintro _ _ ⟨B9b, c9b, rfl, rfl, hc9b⟩
  refine pV ?_
  rw [hv] at hc9b ⊢
  exact tr_ret ⟨trivial, _, _, rfl, ⟨_, rfl, B9b, c9b, rfl, rfl, hc9b⟩, cs _ _, trivial, trivial⟩
theorem ref_NshlI (X : Option Addr) (nx cx : Nat) (l : List Int) (hnx : nx = l.length) (hlnx : Lm l) (h9nx : nx ≤ 1000000) (i : Int) (hi0 : 0 ≤ i) (hi9 : i ≤ 10000000) : Pure Try.prog 134 #[.slice X nx cx, .int .i64 i] [ro X (w32 l)] (one (fun v ch => ∃ B c, v = .slice B (lmb ((vN l).toNat * 2 ^ i.toNat)).length c ∧ ch = ow B 105 c (w32 (lmb ((vN l).toNat * 2 ^ i.toNat))) ∧ (lmb ((vN l).toNat * 2 ^ i.toNat)).length ≤ c)) := by
 have h := ref_Nshl X nx cx l hnx hlnx h9nx i.toNat (by omega)
 rwa [Int.toNat_of_nonneg hi0] at h
theorem ref_NDivMod_ent : Enters Try.prog 85 := enters_of Try.func85 (by kernel_rfl) (by kernel_rfl)
theorem ref_NDivMod (X : Option Addr) (nx cx : Nat) (l : List Int) (hnx : nx = l.length) (hlnx : Lm l) (h9nx : nx ≤ 10000) (hcx : nx ≤ cx) (Y : Option Addr) (ny cy : Nat) (k : List Int) (hny : ny = k.length) (hlny : Lm k) (h9ny : ny ≤ 10000) (hcy : ny ≤ cy) (hk1 : 1 ≤ vN k) :
  Pure Try.prog 85 #[.slice X nx cx, .slice Y ny cy] [ro X (w32 l), ro Y (w32 k)] (two (fun v ch dh => ∃ B c D d, v = .tuple #[.slice B (lmb ((vN l).toNat / (vN k).toNat)).length c, .slice D (lmb ((vN l).toNat % (vN k).toNat)).length d] ∧ ch = ow B 105 c (w32 (lmb ((vN l).toNat / (vN k).toNat))) ∧ dh = ow D 105 d (w32 (lmb ((vN l).toNat % (vN k).toNat))) ∧ (lmb ((vN l).toNat / (vN k).toNat)).length ≤ c ∧ (lmb ((vN l).toNat % (vN k).toNat)).length ≤ d)) := by
 have hAl := lmb_short hlnx
 have hBl := lmb_short hlny
 have hA9 := bitl_len hAl
 have hB9 := bitl_len hBl
 have hB1 : 1 ≤ (vN k).toNat := by omega
 have hBn : (((vN k).toNat : Nat) : Int) = vN k := by omega
 refine pure_of (args := [.slice X nx cx, .slice Y ny cy]) 39 Try.func85 rfl rfl rfl ref_NDivMod_ent ⟨id, id, trivial⟩ (fun w0 => ?_)
 refine tS ?_
 refine tR fun _ _ _ => ?_
 iterate 2 refine pV ?_
 refine tS ?_
 refine tR fun _ _ _ => ?_
 refine pV ?_
 refine eV (eCall1 rfl rfl rfl (ref_Trim X nx cx l hnx hlnx (by omega) hcx) ⟨rfl, trivial⟩ ?_)
 rintro _ _ ⟨B1, c1, rfl, rfl, hc1⟩
 refine pV ?_
 refine tS ?_
 refine tR fun _ _ _ => ?_
 refine pV ?_
 refine eV (eCallV rfl rfl rfl (ref_NBits X nx cx l hnx hlnx (by omega) hcx) ⟨rfl, trivial⟩ ?_)
 refine pV ?_
 refine eV (eCallV rfl rfl rfl (ref_NBits Y ny cy k hny hlny (by omega) hcy) ⟨rfl, trivial⟩ ?_)
 refine sV (rSub rfl rfl rfl (by omega) (by omega)) ?_
 refine pV ?_
 refine tS ?_
 refine tS ?_
 refine tR fun _ _ _ => ?_
 iterate 2 refine pV ?_
 refine tB ?_
 refine tr_nilW 105 ?_
 refine tr_loop8 (fun (i : Int) (B : Option Addr) (cb : Nat) (r : Nat) (D : Option Addr) (db : Nat) (q : Nat) (ql : List Int) => [(7, .int .i64 i), (5, .slice B (lmb r).length cb), (4, .slice D ql.length db), (1, .slice Y ny cy)]) (fun (i : Int) (B : Option Addr) (cb : Nat) (r : Nat) (D : Option Addr) (db : Nat) (q : Nat) (ql : List Int) => [ow D 105 db (w32 ql), ow B 105 cb (w32 (lmb r)), ro X (w32 l), ro Y (w32 k)]) (fun (i : Int) (B : Option Addr) (cb : Nat) (r : Nat) (D : Option Addr) (db : Nat) (q : Nat) (ql : List Int) => (-10000000 ≤ i ∧ i ≤ 10000000) ∧ (lmb r).length ≤ cb ∧ (lmb q).length ≤ db ∧ DivJ (vN l).toNat (vN k).toNat i r q ∧ ql = lmb q) (fun (i : Int) (B : Option Addr) (cb : Nat) (r : Nat) (D : Option Addr) (db : Nat) (q : Nat) (ql : List Int) => (i + 1).toNat) ((bitl (vN l).toNat : Int) - bitl (vN k).toNat) (B1) (c1) ((vN l).toNat) (none) (0) (0) ([]) ⟨rfl, rfl, rfl, rfl, trivial⟩ (by first | exact cs _ _ | exact CSub.refl _) (⟨⟨by have := bitl_len hBl; omega, by omega⟩, hc1, by rw [lmb_zero]; exact Nat.le_refl _, DivJ.start hB1, lmb_zero.symm⟩) (fun i B cb r D db q ql hI => ?_)
 obtain ⟨⟨hi0, hi1⟩, hcb, hdb, hJ, rfl⟩ := hI
 refine tS ?_
 refine tS ?_
 refine tR fun _ _ _ => ?_
 iterate 2 refine pV ?_
 refine tC rfl (fun h4 => ?_) (fun h4 => ?_)
 ·try simp only [zbA] at h4
  refine tK ?_
  refine tS ?_
  refine tB ?_
  refine tS ?_
  have hit : ((i.toNat : Nat) : Int) = i := by omega
  have hrl := Nat.le_trans (lmb_mono (hJ.le hB1).1) hAl
  have hql := Nat.le_trans (lmb_mono (hJ.le hB1).2) hAl
  have hsl := shl_len (n := i.toNat) hBl
  have hsl1 := shl_len (x := (vN [1]).toNat) (n := i.toNat) (k := 1) (lmb_len (by decide))
  refine tR fun _ _ _ => ?_
  iterate 2 refine pV ?_
  refine eV (eCall1 rfl rfl rfl (ref_NshlI Y ny cy k hny hlny (by omega) i (by omega) (by omega)) ⟨rfl, rfl, trivial⟩ ?_)
  rintro _ _ ⟨B6, c6, rfl, rfl, hc6⟩
  refine pV ?_
  refine tS ?_
  refine tR fun _ _ _ => ?_
  iterate 2 refine pV ?_
  refine eV (eCallV rfl rfl rfl (ref_NCmp B _ cb (lmb r) rfl (lmb_lm _) (by omega) B6 _ c6 (lmb ((vN k).toNat * 2 ^ i.toNat)) rfl (lmb_lm _) (by omega)) ⟨rfl, rfl, trivial⟩ ?_)
  refine pV ?_
  refine tC rfl (fun h7 => ?_) (fun h7 => ?_)
  ·try simp only [zbA] at h7
   refine tS ?_
   have hge : (vN k).toNat * 2 ^ i.toNat ≤ r := by
    have := cmpZ_ge.1 h7
    rw [vN_lmb, vN_lmb] at this; omega
   refine tR fun _ _ _ => ?_
   iterate 2 refine pV ?_
   refine eV (eCall1 rfl rfl rfl (ref_NSub B _ cb (lmb r) rfl (lmb_lm _) (by omega) B6 _ c6 (lmb ((vN k).toNat * 2 ^ i.toNat)) rfl (lmb_lm _) (by omega) (by rw [vN_lmb, vN_lmb]; omega)) ⟨rfl, rfl, trivial⟩ ?_)
   rintro _ _ ⟨B8, c8, rfl, rfl, hc8⟩
   refine pV ?_
   rw [show (vN (lmb r)).toNat - (vN (lmb ((vN k).toNat * 2 ^ i.toNat))).toNat = r - (vN k).toNat * 2 ^ i.toNat by rw [vN_lmb, vN_lmb]; rfl] at hc8 ⊢
   refine tR fun _ _ _ => ?_
   refine pV ?_
   refine eV (eLit1W rfl rfl rfl rfl (fun A9 => ?_))
   refine pV ?_
   refine eV (eCall1 rfl rfl rfl (ref_NshlI A9 1 1 [1] rfl (lm_one (by omega) (by omega)) (by omega) i (by omega) (by omega)) ⟨rfl, rfl, trivial⟩ ?_)
   rintro _ _ ⟨B9a, c9a, rfl, rfl, hc9a⟩
   refine eV (eCall1 rfl rfl rfl (ref_NAdd D _ db (lmb q) rfl (lmb_lm _) (by omega) B9a _ c9a (lmb ((vN [1]).toNat * 2 ^ i.toNat)) rfl (lmb_lm _) (by omega)) ⟨rfl, rfl, trivial⟩ ?_)
   rintro _ _ ⟨B9b, c9b, rfl, rfl, hc9b⟩
   refine pV ?_
   rw [show (vN (lmb q) + vN (lmb ((vN [1]).toNat * 2 ^ i.toNat))).toNat = q + 2 ^ i.toNat by rw [lmb_add, show (vN [1]).toNat = 1 from rfl, Nat.one_mul]] at hc9b ⊢
   refine tR fun _ _ _ => ?_
   refine pV ?_
   refine sV (rSub rfl rfl rfl (by omega) (by omega)) ?_
   refine pV ?_
   refine ⟨i - 1, B8, c8, r - (vN k).toNat * 2 ^ i.toNat, B9b, c9b, q + 2 ^ i.toNat, lmb (q + 2 ^ i.toNat), ⟨rfl, rfl, rfl, rfl, trivial⟩, by first | exact cs _ _ | exact CSub.refl _, ?_⟩
   exact ⟨⟨⟨by omega, by omega⟩, hc8, hc9b, hJ.sub (by omega) hge, rfl⟩, by omega⟩
  ·try simp only [zbA] at h7
   refine tK ?_
   refine tR fun _ _ _ => ?_
   refine pV ?_
   refine sV (rSub rfl rfl rfl (by omega) (by omega)) ?_
   refine pV ?_
   refine ⟨i - 1, B, cb, r, D, db, q, lmb q, ⟨rfl, rfl, rfl, rfl, trivial⟩, by first | exact cs _ _ | exact CSub.refl _, ?_⟩
   exact ⟨⟨⟨by omega, by omega⟩, hcb, hdb, hJ.skip (by omega) (fun hg => h7 (cmpZ_ge.2 (by rw [vN_lmb, vN_lmb]; omega))), rfl⟩, by omega⟩
 ·try simp only [zbA] at h4
  refine tE ?_
  refine tS ?_
  have hqr := hJ.done hB1 (by omega)
  have hql := Nat.le_trans (lmb_mono (hJ.le hB1).2) hAl
  refine tR fun _ _ _ => ?_
  refine pV ?_
  refine eV (eCall1 rfl rfl rfl (ref_Trim D _ db (lmb q) rfl (lmb_lm _) (by omega) hdb) ⟨rfl, trivial⟩ ?_)
  rintro _ _ ⟨B10, c10, rfl, rfl, hc10⟩
  iterate 3 refine pV ?_
  rw [vN_lmb, Int.toNat_natCast] at hc10 ⊢
  rw [hqr.1] at hc10 ⊢
  rw [hqr.2] at hcb ⊢
  exact tr_ret ⟨trivial, _, _, rfl, ⟨_, _, rfl, B10, c10, B, cb, rfl, rfl, rfl, hc10, hcb⟩, cs _ _, trivial, trivial, trivial⟩
theorem ref_NInt_ent : Enters Try.prog 42 := enters_of Try.func42 (by kernel_rfl) (by kernel_rfl)
theorem ref_NInt (X : Option Addr) (nx cx : Nat) (x : Nat) (hnx : nx = (lmb x).length) (hcx : nx ≤ cx) (hx9 : x < 9223372036854775808) :
  Pure Try.prog 42 #[.slice X nx cx] [ro X (w32 (lmb x))] (isV (.tuple #[.int .i64 x, .bool true])) := by
 have hlx := lmb_len (n := x) (k := 2) (by omega)
 have hbx := bitl_lt (n := x) (k := 63) (by omega)
 have h2x : (lmb x).getD (0 : Int).toNat 0 + (lmb x).getD (1 : Int).toNat 0 * 4294967296 = x := lmb_two (by omega)
 have hg0 := (lmb_lm x).get (0 : Int).toNat
 have hg1 := (lmb_lm x).get (1 : Int).toNat
 have hlnx := lmb_lm x
 refine pure_of (args := [.slice X nx cx]) 14 Try.func42 rfl rfl rfl ref_NInt_ent ⟨id, trivial⟩ (fun w0 => ?_)
 refine tS ?_
 refine tR fun _ _ _ => ?_
 iterate 2 refine pV ?_
 refine tS ?_
 refine tS ?_
 refine tR fun _ _ _ => ?_
 refine pV ?_
 refine eV (eCallV rfl rfl rfl (ref_NBits X nx cx (lmb x) hnx hlnx (by omega) hcx) ⟨rfl, trivial⟩ ?_)
 refine pV ?_
 refine tC rfl (fun h1 => ?_) (fun h1 => ?_)
 ·try simp only [zbA] at h1
  rw [vN_lmb, Int.toNat_natCast] at h1
  omega --done
 ·try simp only [zbA] at h1
  refine tK ?_
  refine tS ?_
  refine tR fun _ _ _ => ?_
  refine pV ?_
  refine eV (eCallV rfl rfl rfl (ref_limb X nx cx (lmb x) hnx hlnx 0 (by omega)) ⟨rfl, rfl, trivial⟩ ?_)
  refine pV ?_
  refine eV (eCallV rfl rfl rfl (ref_limb X nx cx (lmb x) hnx hlnx 1 (by omega)) ⟨rfl, rfl, trivial⟩ ?_)
  refine sV (rMulU rfl rfl rfl (by omega) (by omega)) ?_
  refine sV (rAddU rfl rfl rfl (by omega) (by omega)) ?_
  refine sV (rConv rfl undU64 undI rfl (IntWalk.i64_in _ ⟨by omega, by omega⟩)) ?_
  iterate 2 refine pV ?_
  exact tr_ret ⟨trivial, _, _, rfl, ⟨by rw [h2x], rfl⟩, CSub.nil _, trivial⟩
end Go.Proofs.Ytbhoeaijpnjgdaa

namespace Go.Proofs.Ytbhoeaijpnjgdaa
open Po
def dsm (N : Nat → Nat) (n : Nat) : Nat → Nat
 | 0 => 0
 | j + 1 => dsm N n j + if n % (j + 1) = 0 then (j + 1) * N (j + 1) else 0
def nsm (N : Nat → Nat) (n : Nat) : Nat → Nat
 | 0 => 0
 | j + 1 => nsm N n j + if n % (j + 1) = 0 then N (j + 1) else 0
def IsCnt (q : Nat) (N : Nat → Nat) : Prop := ∀ k, 1 ≤ k → dsm N k k = q ^ k
theorem dsm_mono (N : Nat → Nat) (n : Nat) {i j : Nat} (h : i ≤ j) : dsm N n i ≤ dsm N n j := by
 induction h with
 | refl => exact Nat.le_refl _
 | step _ ih => exact Nat.le_trans ih (by rw [dsm]; omega)
theorem grp_deg (ds : List Nat) (h : ∀ d ∈ ds, 1 ≤ d) : ∀ j, ((ds.filter fun d => decide (d ≤ j)).sum = (((List.range j).map fun i => (i + 1) * (ds.filter fun d => decide (d = i + 1)).length)).sum) ∧ ((ds.filter fun d => decide (d ≤ j)).length = (((List.range j).map fun i => (ds.filter fun d => decide (d = i + 1)).length)).sum)
 | 0 => by
  have e : (ds.filter fun d => decide (d ≤ 0)) = [] := List.filter_eq_nil_iff.2 fun d hd => by have := h d hd; simp; omega
  rw [e]; exact ⟨rfl, rfl⟩
 | j + 1 => by
  obtain ⟨a, b⟩ := grp_deg ds h j
  have key : ∀ l : List Nat, (l.filter fun d => decide (d ≤ j + 1)).sum = (l.filter fun d => decide (d ≤ j)).sum + (j + 1) * (l.filter fun d => decide (d = j + 1)).length ∧ (l.filter fun d => decide (d ≤ j + 1)).length = (l.filter fun d => decide (d ≤ j)).length + (l.filter fun d => decide (d = j + 1)).length := fun l => by
   induction l with
   | nil => exact ⟨rfl, rfl⟩
   | cons x l ih =>
    obtain ⟨i1, i2⟩ := ih
    rcases Nat.lt_trichotomy x (j + 1) with g | g | g
    ·have e1 : decide (x ≤ j + 1) = true := by simp; omega
     have e2 : decide (x ≤ j) = true := by simp; omega
     have e3 : decide (x = j + 1) = false := by simp; omega
     simp only [List.filter_cons, e1, e2, e3, if_true, List.sum_cons, List.length_cons, i1, i2]
     constructor
     ·simp; omega
     ·simp; omega
    ·have e1 : decide (x ≤ j + 1) = true := by simp; omega
     have e2 : decide (x ≤ j) = false := by simp; omega
     have e3 : decide (x = j + 1) = true := by simp; omega
     simp only [List.filter_cons, e1, e2, e3, if_true, List.sum_cons, List.length_cons, i1, i2]
     constructor
     ·simp [Nat.mul_add]; omega
     ·simp; omega
    ·have e1 : decide (x ≤ j + 1) = false := by simp; omega
     have e2 : decide (x ≤ j) = false := by simp; omega
     have e3 : decide (x = j + 1) = false := by simp; omega
     simp only [List.filter_cons, e1, e2, e3, i1, i2]
     constructor
     ·simp; omega
     ·simp; omega
  rw [List.range_succ, List.map_append, List.map_append, List.sum_append_nat, List.sum_append_nat, ← a, ← b]
  have := key ds
  simpa using this
theorem dsm_range (N : Nat → Nat) (n : Nat) (g : Nat → Nat) (h : ∀ i, n % (i + 1) = 0 → g i = N (i + 1)) (h0 : ∀ i, n % (i + 1) ≠ 0 → g i = 0) : ∀ j, ((List.range j).map fun i => (i + 1) * g i).sum = dsm N n j ∧ ((List.range j).map fun i => g i).sum = nsm N n j
 | 0 => ⟨rfl, rfl⟩
 | j + 1 => by
  obtain ⟨a, b⟩ := dsm_range N n g h h0 j
  rw [List.range_succ, List.map_append, List.map_append, List.sum_append_nat, List.sum_append_nat, a, b, dsm, nsm]
  by_cases e : n % (j + 1) = 0
  ·rw [if_pos e, if_pos e]; simp [h j e]
  ·rw [if_neg e, if_neg e]; simp [h0 j e]
section
variable {p m : Int} {mod : List Int} [hF : IsF p m mod]
theorem xq_len {n : Nat} (hn : 1 ≤ n) : len (xq p m mod n) = (pw p m).toNat ^ n + 1 ∧ lead (xq p m mod n) = 1 := by
 have hq : 2 ≤ (pw p m).toNat := by have := hF.q2; omega
 have hk : 2 ≤ (pw p m).toNat ^ n := by
  have := Nat.pow_le_pow_right (show 0 < (pw p m).toNat by omega) hn
  rw [Nat.pow_one] at this; omega
 have h1 : cf (xq p m mod n) ((pw p m).toNat ^ n) = 1 := by
  unfold xq
  rw [cf_sub, pow_X, cf_mn, if_pos rfl]
  show 1 - cf (mn 1 1) _ = 1
  rw [cf_mn, if_neg (by omega), Rg.sub_zero]
 have h2 : len (xq p m mod n) = (pw p m).toNat ^ n + 1 := len_eq (fun j hj => by
  unfold xq
  rw [cf_sub, pow_X, cf_mn, if_neg (by omega)]
  show 0 - cf (mn 1 1) _ = 0
  rw [cf_mn, if_neg (by omega), Rg.sub_zero]) (by rw [h1]; exact Fd.one_ne)
 refine ⟨h2, ?_⟩
 rw [lead, h2]; exact h1
noncomputable def prodP : List (Po (El p m mod)) → Po (El p m mod)
 | [] => 1
 | f :: l => f * prodP l
theorem prodP_spec {l : List (Po (El p m mod))} (h : ∀ f ∈ l, lead f = 1 ∧ 1 ≤ len f) : lead (prodP l) = 1 ∧ len (prodP l) = (l.map fun f => len f - 1).sum + 1 := by
 induction l with
 | nil => exact ⟨by rw [prodP, lead, len_one]; rfl, len_one⟩
 | cons f l ih =>
  obtain ⟨a, b⟩ := ih fun g hg => h g (List.mem_cons_of_mem _ hg)
  obtain ⟨c, d⟩ := h f (List.mem_cons_self ..)
  have n1 := lead_one_ne c
  have n2 := lead_one_ne a
  refine ⟨by rw [prodP, lead_mul n1 n2, a, c, Rg.mul_one], ?_⟩
  rw [prodP, len_mul n1 n2, b, List.map_cons, List.sum_cons]; omega
theorem prodP_mu {l : List (Po (El p m mod))} (h : ∀ f ∈ l, Ir f ∧ lead f = 1) (hnd : l.Nodup) {P : Po (El p m mod)} (hP : Ir P) (hl : lead P = 1) : (P ∈ l → mu P (prodP l) = 1) ∧ (P ∉ l → mu P (prodP l) = 0) := by
 induction l with
 | nil => exact ⟨fun h => by simp at h, fun _ => mu_one hP⟩
 | cons f l ih =>
  obtain ⟨hn1, hn2⟩ := List.nodup_cons.1 hnd
  obtain ⟨a, b⟩ := ih (fun g hg => h g (List.mem_cons_of_mem _ hg)) hn2
  obtain ⟨c, d⟩ := h f (List.mem_cons_self ..)
  have n2 := lead_one_ne (prodP_spec (l := l) fun g hg => ⟨(h g (List.mem_cons_of_mem _ hg)).2, by have := (h g (List.mem_cons_of_mem _ hg)).1.two; omega⟩).1
  rw [prodP, mu_mul hP c.ne n2, mu_ir hP c hl d]
  constructor
  ·intro hm
   by_cases e : P = f
   ·rw [if_pos e, b (by rw [e]; exact hn1)]
   ·rw [if_neg e, a ((List.mem_cons.1 hm).resolve_left e)]
  ·intro hm
   rw [if_neg fun e => hm (by rw [e]; exact List.mem_cons_self ..), b fun g => hm (List.mem_cons_of_mem _ g)]
noncomputable def irD (p m : Int) (mod : List Int) [hF : IsF p m mod] (d : Nat) : List (Po (El p m mod)) := (pols (elA p m mod) (d + 1)).filter fun f => @decide (Ir f ∧ lead f = 1 ∧ len f = d + 1) (Classical.propDecidable _)
noncomputable def irN (p m : Int) (mod : List Int) [hF : IsF p m mod] (d : Nat) : Nat := (irD p m mod d).length
noncomputable def irL (p m : Int) (mod : List Int) [hF : IsF p m mod] (n : Nat) : List (Po (El p m mod)) := (pols (elA p m mod) (n + 1)).filter fun f => @decide (Ir f ∧ lead f = 1 ∧ (len f - 1) ∣ n) (Classical.propDecidable _)
theorem mem_irD {d : Nat} {f : Po (El p m mod)} : f ∈ irD p m mod d ↔ Ir f ∧ lead f = 1 ∧ len f = d + 1 := by
 rw [irD, List.mem_filter, mem_pols elA_fin]
 simp only [decide_eq_true_eq]
 exact ⟨fun h => h.2, fun h => ⟨fun j hj => cf_ge (by omega), h⟩⟩
theorem mem_irL {n : Nat} (hn : 1 ≤ n) {f : Po (El p m mod)} : f ∈ irL p m mod n ↔ Ir f ∧ lead f = 1 ∧ (len f - 1) ∣ n := by
 rw [irL, List.mem_filter, mem_pols elA_fin]
 simp only [decide_eq_true_eq]
 exact ⟨fun h => h.2, fun h => ⟨fun j hj => cf_ge (by have := Nat.le_of_dvd (by omega) h.2.2; omega), h⟩⟩
theorem irL_nodup (n : Nat) : (irL p m mod n).Nodup := (pols_nodup elA_fin _).filter _
theorem irD_nodup (n : Nat) : (irD p m mod n).Nodup := (pols_nodup elA_fin _).filter _
theorem irL_prod {n : Nat} (hn : 1 ≤ n) : prodP (irL p m mod n) = xq p m mod n := by
 have hm : ∀ f ∈ irL p m mod n, Ir f ∧ lead f = 1 := fun f hf => by
  obtain ⟨a, b, _⟩ := (mem_irL hn).1 hf
  exact ⟨a, b⟩
 have h1 := (prodP_spec (l := irL p m mod n) fun f hf => ⟨(hm f hf).2, by have := (hm f hf).1.two; omega⟩).1
 have h2 := (xq_len (p := p) (m := m) (mod := mod) hn).2
 have h0 := lead_one_ne h2
 refine eq_of_mu h1 h2 fun P hP hl => ?_
 obtain ⟨a, b⟩ := prodP_mu hm (irL_nodup n) hP hl
 have h3 := (sf_iff_mu h0).1 (xq_sf hn) P hP
 have h4 := dvd_iff_mu hP h0
 rw [xq_dvd hP] at h4
 by_cases e : P ∈ irL p m mod n
 ·rw [a e]
  have := h4.1 ((mem_irL hn).1 e).2.2
  omega
 ·rw [b e]
  have : ¬ 1 ≤ mu P (xq p m mod n) := fun g => e ((mem_irL hn).2 ⟨hP, hl, h4.2 g⟩)
  omega
theorem irL_deg (n j : Nat) (hn : 1 ≤ n) : ((((irL p m mod n).map fun f => len f - 1)).filter fun d => decide (d = j + 1)).length = if n % (j + 1) = 0 then irN p m mod (j + 1) else 0 := by
 rw [List.filter_map, List.length_map]
 by_cases e : n % (j + 1) = 0
 ·rw [if_pos e]
  refine List.Perm.length_eq ((List.perm_ext_iff_of_nodup ((irL_nodup n).filter _) (irD_nodup _)).2 fun f => ?_)
  rw [List.mem_filter, mem_irL hn, mem_irD]
  constructor
  ·rintro ⟨⟨a, b, c⟩, d⟩
   have d1 : len f - 1 = j + 1 := by simpa using d
   exact ⟨a, b, by omega⟩
  ·rintro ⟨a, b, c⟩
   have c1 : len f - 1 = j + 1 := by omega
   exact ⟨⟨a, b, by rw [c1]; exact Nat.dvd_of_mod_eq_zero e⟩, by simpa using c1⟩
 ·rw [if_neg e, List.length_eq_zero_iff, List.filter_eq_nil_iff]
  intro f hf hd
  have d1 : len f - 1 = j + 1 := by simpa using hd
  have := ((mem_irL hn).1 hf).2.2
  rw [d1] at this
  exact e (Nat.mod_eq_zero_of_dvd this)
theorem irL_sums (n : Nat) (hn : 1 ≤ n) : ((irL p m mod n).map fun f => len f - 1).sum = dsm (irN p m mod) n n ∧ (irL p m mod n).length = nsm (irN p m mod) n n := by
 have hds : ∀ d ∈ (irL p m mod n).map fun f => len f - 1, 1 ≤ d := fun d hd => by
  obtain ⟨f, hf, rfl⟩ := List.mem_map.1 hd
  have := ((mem_irL hn).1 hf).1.two; omega
 obtain ⟨a, b⟩ := grp_deg _ hds n
 have hall : (((irL p m mod n).map fun f => len f - 1).filter fun d => decide (d ≤ n)) = (irL p m mod n).map fun f => len f - 1 := List.filter_eq_self.2 fun d hd => by
  obtain ⟨f, hf, rfl⟩ := List.mem_map.1 hd
  exact decide_eq_true (Nat.le_of_dvd (by omega) ((mem_irL hn).1 hf).2.2)
 obtain ⟨c, d⟩ := dsm_range (irN p m mod) n (fun i => ((((irL p m mod n).map fun f => len f - 1)).filter fun d => decide (d = i + 1)).length) (fun i hi => by rw [irL_deg n i hn, if_pos hi]) (fun i hi => by rw [irL_deg n i hn, if_neg hi]) n
 rw [hall] at a b
 rw [List.length_map] at b
 exact ⟨a.trans c, b.trans d⟩
theorem irN_cnt : IsCnt (pw p m).toNat (irN p m mod) := fun n hn => by
 have h1 := (irL_sums (p := p) (m := m) (mod := mod) n hn).1
 have h2 := (prodP_spec (l := irL p m mod n) fun f hf => ⟨((mem_irL hn).1 hf).2.1, by have := ((mem_irL hn).1 hf).1.two; omega⟩).2
 rw [irL_prod hn, (xq_len hn).1] at h2
 omega
theorem cmI_xq {n : Nat} (hn : 1 ≤ n) {gs : List FacM} (h : CmI (xq p m mod n) gs) : gs.length = nsm (irN p m mod) n n ∧ ∀ e ∈ gs, e.k = 1 ∧ ∃ d, 1 ≤ d ∧ e.r.xs.length = d + 1 ∧ d ∣ n := by
 have h2 := (xq_len (p := p) (m := m) (mod := mod) hn).2
 have h0 := lead_one_ne h2
 constructor
 ·rw [← (irL_sums (p := p) (m := m) (mod := mod) n hn).2]
  have e1 : (gs.map fun e => e.r.xs).Perm ((irL p m mod n).map fun f => il f) := (List.perm_ext_iff_of_nodup h.nd (List.pairwise_map.2 ((irL_nodup n).imp fun h e => h (il_inj e)))).2 fun x => by
   rw [List.mem_map, List.mem_map]
   constructor
   ·rintro ⟨e, he, rfl⟩
    obtain ⟨P, a, b, c, d, _⟩ := h.each e he
    exact ⟨P, (mem_irL hn).2 ⟨b, c, (xq_dvd b n).1 d⟩, a.symm⟩
   ·rintro ⟨P, hP, rfl⟩
    obtain ⟨a, b, c⟩ := (mem_irL hn).1 hP
    exact h.all P a b ((xq_dvd a n).2 c)
  have := e1.length_eq
  rwa [List.length_map, List.length_map] at this
 ·intro e he
  obtain ⟨P, a, b, c, d, k⟩ := h.each e he
  have h3 := (sf_iff_mu h0).1 (xq_sf hn) P b
  have h4 := (dvd_iff_mu b h0).1 d
  have h5 := b.two
  exact ⟨by omega, len P - 1, by omega, by rw [a, il_length]; omega, (xq_dvd b n).1 d⟩
end
theorem cnt_div {q : Nat} {N : Nat → Nat} (h : IsCnt q N) {n : Nat} (hn : 1 ≤ n) : (q ^ n - dsm N n (n - 1)) / n = N n := by
 have h1 := h n hn
 obtain ⟨k, rfl⟩ : ∃ k, n = k + 1 := ⟨n - 1, by omega⟩
 rw [dsm, if_pos (Nat.mod_self _)] at h1
 rw [← h1, Nat.add_sub_cancel, Nat.add_sub_cancel_left, Nat.mul_div_cancel_left _ (by omega)]
theorem cnt_le {q : Nat} {N : Nat → Nat} (h : IsCnt q N) {n j : Nat} (hn : 1 ≤ n) (hj : j ≤ n) : dsm N n j ≤ q ^ n := by
 rw [← h n hn]; exact dsm_mono N n hj
end Go.Proofs.Ytbhoeaijpnjgdaa

set_option maxRecDepth 100000
namespace Go.Proofs.Ytbhoeaijpnjgdaa
open Go.RowKit
theorem dsm_stepZ {N : Nat → Nat} {n d : Int} (hd : 1 ≤ d) (hn : d < n) : dsm N n.toNat d.toNat = dsm N n.toNat (d - 1).toNat + if n % d = 0 then d.toNat * N d.toNat else 0 := by
 obtain ⟨k, hk⟩ : ∃ k : Nat, d = (k : Int) + 1 := ⟨(d - 1).toNat, by omega⟩
 obtain ⟨j, hj⟩ : ∃ j : Nat, n = (j : Int) := ⟨n.toNat, by omega⟩
 subst hk hj
 rw [show ((k : Int) + 1 - 1).toNat = k by omega, show ((k : Int) + 1).toNat = k + 1 by omega, Int.toNat_natCast, dsm]
 have e : ((j : Int) % ((k : Int) + 1) = 0) ↔ (j % (k + 1) = 0) := by
  rw [show ((k : Int) + 1) = ((k + 1 : Nat) : Int) by omega, ← Int.natCast_emod]; omega
 by_cases h : j % (k + 1) = 0
 ·rw [if_pos h, if_pos (e.2 h)]
 ·rw [if_neg h, if_neg fun g => h (e.1 g)]
theorem ref_NPowI (X : Option Addr) (nx cx : Nat) (l : List Int) (hnx : nx = l.length) (hlnx : Lm l) (h9nx : nx ≤ 1000000) (hcx : nx ≤ cx) (n : Int) (hn0 : 0 ≤ n) (hn : n ≤ 256) (ha : vN l ≤ 256) : Pure Try.prog 34 #[.slice X nx cx, .int .i64 n] [ro X (w32 l)] (one (fun v ch => ∃ B c, v = .tuple #[.slice B (lmb ((vN l).toNat ^ n.toNat)).length c, .int .i64 0] ∧ ch = ow B 105 c (w32 (lmb ((vN l).toNat ^ n.toNat))) ∧ (lmb ((vN l).toNat ^ n.toNat)).length ≤ c)) := by
 have h := ref_NPow X nx cx l hnx hlnx h9nx hcx n.toNat (by omega) ha
 rwa [Int.toNat_of_nonneg hn0] at h
theorem ref_Count_step_ent : Enters Try.prog 29 := enters_of Try.func29 (by kernel_rfl) (by kernel_rfl)
theorem ref_Count_step (p m : Int) (A : Option Addr) (c : Nat) (mod : List Int) [hF : IsF p m mod] (N : Nat → Nat) (hN : IsCnt (pw p m).toNat N) (n : Int) (hn1 : 1 ≤ n) (hn9 : n ≤ 256) (ih : ∀ d : Int, 1 ≤ d → d < n → Pure Try.prog 29 #[.agg #[.int .i64 p, .int .i64 m, .slice A mod.length c], .int .i64 d] [ro A (ints mod)] (one (fun v ch => ∃ B c, v = .tuple #[.slice B (lmb (N d.toNat)).length c, .int .i64 0] ∧ ch = ow B 105 c (w32 (lmb (N d.toNat))) ∧ (lmb (N d.toNat)).length ≤ c))) :
  Pure Try.prog 29 #[.agg #[.int .i64 p, .int .i64 m, .slice A mod.length c], .int .i64 n] [ro A (ints mod)] (one (fun v ch => ∃ B c, v = .tuple #[.slice B (lmb (N n.toNat)).length c, .int .i64 0] ∧ ch = ow B 105 c (w32 (lmb (N n.toNat))) ∧ (lmb (N n.toNat)).length ≤ c)) := by
 have hor := hF.ord
 have hq2 := hF.q2
 have hq9 : pw p m ≤ 256 := by have := hF.out.1.1.q; omega
 have hpl := pow_len (a := (pw p m).toNat) (e := n.toNat) (by omega) (by omega)
 have hle : ∀ j, j ≤ n.toNat → dsm N n.toNat j ≤ (pw p m).toNat ^ n.toNat := fun j hj => cnt_le hN (by omega) hj
 have hcd := cnt_div hN (n := n.toNat) (by omega)
 have hnl := lmb_len (n := n.toNat) (k := 1) (by omega)
 have hql := lmb_len (n := (pw p m).toNat) (k := 1) (by omega)
 refine pure_of (args := [.agg #[.int .i64 p, .int .i64 m, .slice A mod.length c], .int .i64 n]) 59 Try.func29 rfl rfl rfl ref_Count_step_ent ⟨id, trivial⟩ (fun w0 => ?_)
 refine tS ?_
 refine tR fun _ _ _ => ?_
 refine eV (eBox rfl rfl rfl rfl rfl (fun p0 => ?_))
 iterate 2 refine pV ?_
 refine tS ?_
 refine tS ?_
 refine tR fun _ _ _ => ?_
 iterate 3 refine pV ?_
 refine stg rfl rfl rfl rfl rfl (fun hb => by (have hq := hb; try simp only [zbA] at hq); exact rMove rfl rfl) ?_
 refine stg rfl rfl rfl rfl rfl (fun hb => by (have hq := hb; try simp only [zbA] at hq); exact rGtr rfl (evg rfl hb) rfl) ?_
 refine sV (rOrB rfl rfl rfl rfl) ?_
 refine tC rfl (fun h1 => ?_) (fun h1 => ?_)
 ·try simp only [zbA] at h1
  first | omega | (simp at h1; omega) --done
 ·try simp only [zbA] at h1
  refine tK ?_
  refine tS ?_
  refine tR fun _ _ _ => ?_
  refine sV (rLdS rfl rfl rfl) ?_
  refine eV (eCallV rfl rfl rfl (ref_order p m A c mod) ⟨rfl, trivial⟩ ?_)
  rw [hor]
  refine sV (rConv rfl undI undU64 rfl (IntWalk.u64_in _ ⟨by omega, by omega⟩)) ?_
  refine eV (eCall1 rfl rfl rfl (ref_NOf (pw p m) (by omega) (by omega)) ⟨rfl, trivial⟩ ?_)
  rintro _ _ ⟨B3a, c3a, rfl, rfl, hc3a⟩
  refine pV ?_
  refine eV (eCall1 rfl rfl rfl (ref_NPowI B3a _ c3a (lmb (pw p m).toNat) rfl (lmb_lm _) (by omega) hc3a n (by omega) (by omega) (by rw [vN_lmb]; omega)) ⟨rfl, rfl, trivial⟩ ?_)
  rintro _ _ ⟨B3b, c3b, rfl, rfl, hc3b⟩
  iterate 5 refine pV ?_
  rw [vN_lmb, Int.toNat_natCast] at hc3b ⊢
  refine tS ?_
  refine tS ?_
  refine tR fun _ _ _ => ?_
  refine pV ?_
  refine tB ?_
  refine tr_loop4 (fun (d : Int) (B : Option Addr) (cb : Nat) (t : Nat) => [(8, .int .i64 d), (6, .slice B (lmb t).length cb), (1, .int .i64 n), (2, .pointer (some p0)), (4, .slice none 0 0), (5, .int .i64 0)]) (fun (d : Int) (B : Option Addr) (cb : Nat) (t : Nat) => [ow B 105 cb (w32 (lmb t)), blk p0 24 [.int .i64 p, .int .i64 m, .slice A mod.length c], ro A (ints mod)]) (fun (d : Int) (B : Option Addr) (cb : Nat) (t : Nat) => (1 ≤ d ∧ d ≤ n) ∧ (lmb t).length ≤ cb ∧ t = ((pw p m).toNat ^ n.toNat - dsm N n.toNat (d - 1).toNat)) (fun (d : Int) (B : Option Addr) (cb : Nat) (t : Nat) => (n - d).toNat) (1) (B3b) (c3b) ((pw p m).toNat ^ n.toNat) ⟨rfl, rfl, rfl, rfl, rfl, rfl, trivial⟩ (by first | exact cs _ _ | exact CSub.refl _) (⟨⟨by omega, by omega⟩, hc3b, by rw [show ((1 : Int) - 1).toNat = 0 from rfl, dsm, Nat.sub_zero]⟩) (fun d B cb t hI => ?_)
  obtain ⟨⟨hd0, hd1⟩, hcb, ht⟩ := hI
  refine tS ?_
  refine tS ?_
  refine tR fun _ _ _ => ?_
  iterate 3 refine pV ?_
  refine tC rfl (fun h5 => ?_) (fun h5 => ?_)
  ·try simp only [zbA] at h5
   refine tK ?_
   refine tS ?_
   refine tB ?_
   refine tS ?_
   refine tR fun _ _ _ => ?_
   iterate 2 refine pV ?_
   refine sV (rRem rfl rfl rfl (by omega) (by omega)) ?_
   refine pV ?_
   refine tC rfl (fun h7 => ?_) (fun h7 => ?_)
   ·try simp only [zbA] at h7
    refine tS ?_
    have hst := dsm_stepZ (N := N) (n := n) hd0 (by omega)
    have hl1 := hle d.toNat (by omega)
    have hdl := lmb_len (n := d.toNat) (k := 1) (by omega)
    refine tR fun _ _ _ => ?_
    refine sV (rLdS rfl rfl rfl) ?_
    refine pV ?_
    refine eV (eCall1 rfl rfl rfl (ih d (by omega) (by omega)) ⟨rfl, rfl, trivial⟩ ?_)
    rintro _ _ ⟨B8, c8, rfl, rfl, hc8⟩
    iterate 5 refine pV ?_
    rw [if_pos h7] at hst
    have htl : (lmb t).length ≤ 65 := Nat.le_trans (lmb_mono (by omega)) hpl
    have hN1 : N d.toNat ≤ d.toNat * N d.toNat := Nat.le_mul_of_pos_left _ (by omega)
    have hNl : (lmb (N d.toNat)).length ≤ 65 := Nat.le_trans (lmb_mono (by omega)) hpl
    have hml : (lmb (vN (lmb d.toNat) * vN (lmb (N d.toNat))).toNat).length ≤ 65 := by rw [lmb_mul]; exact Nat.le_trans (lmb_mono (by omega)) hpl
    refine tR fun _ _ _ => ?_
    iterate 2 refine pV ?_
    refine sV (rConv rfl undI undU64 rfl (IntWalk.u64_in _ ⟨by omega, by omega⟩)) ?_
    refine eV (eCall1 rfl rfl rfl (ref_NOf d (by omega) (by omega)) ⟨rfl, trivial⟩ ?_)
    rintro _ _ ⟨B9, c9, rfl, rfl, hc9⟩
    refine pV ?_
    refine eV (eCall1 rfl rfl rfl (ref_NMul B9 _ c9 (lmb d.toNat) rfl (lmb_lm _) (by omega) B8 _ c8 (lmb (N d.toNat)) rfl (lmb_lm _) (by omega)) ⟨rfl, rfl, trivial⟩ ?_)
    rintro _ _ ⟨B9a, c9a, rfl, rfl, hc9a⟩
    refine eV (eCall1 rfl rfl rfl (ref_NSub B _ cb (lmb t) rfl (lmb_lm _) (by omega) B9a _ c9a (lmb (vN (lmb d.toNat) * vN (lmb (N d.toNat))).toNat) rfl (lmb_lm _) (by omega) (by rw [lmb_mul, vN_lmb, vN_lmb]; omega)) ⟨rfl, rfl, trivial⟩ ?_)
    rintro _ _ ⟨B9b, c9b, rfl, rfl, hc9b⟩
    refine pV ?_
    rw [show (vN (lmb t)).toNat - (vN (lmb (vN (lmb d.toNat) * vN (lmb (N d.toNat))).toNat)).toNat = t - d.toNat * N d.toNat by rw [lmb_mul, vN_lmb, vN_lmb]; rfl] at hc9b ⊢
    refine tR fun _ _ _ => ?_
    refine pV ?_
    refine sV (rAdd rfl rfl rfl (by omega) (by omega)) ?_
    refine pV ?_
    refine ⟨d + 1, B9b, c9b, t - d.toNat * N d.toNat, ⟨rfl, rfl, rfl, rfl, rfl, rfl, trivial⟩, by first | exact cs _ _ | exact CSub.refl _, ?_⟩
    exact ⟨⟨⟨by omega, by omega⟩, hc9b, by rw [show (d + 1 - 1) = d by omega]; omega⟩, by omega⟩
   ·try simp only [zbA] at h7
    refine tK ?_
    refine tR fun _ _ _ => ?_
    refine pV ?_
    refine sV (rAdd rfl rfl rfl (by omega) (by omega)) ?_
    refine pV ?_
    refine ⟨d + 1, B, cb, t, ⟨rfl, rfl, rfl, rfl, rfl, rfl, trivial⟩, by first | exact cs _ _ | exact CSub.refl _, ?_⟩
    have hst := dsm_stepZ (N := N) (n := n) hd0 (by omega)
    rw [if_neg h7] at hst
    exact ⟨⟨⟨by omega, by omega⟩, hcb, by rw [show (d + 1 - 1) = d by omega]; omega⟩, by omega⟩
  ·try simp only [zbA] at h5
   refine tE ?_
   refine tS ?_
   have hdn : (d - 1).toNat = n.toNat - 1 := by omega
   rw [hdn] at ht
   have htl : (lmb t).length ≤ 65 := Nat.le_trans (lmb_mono (by omega)) hpl
   refine tR fun _ _ _ => ?_
   iterate 2 refine pV ?_
   refine sV (rConv rfl undI undU64 rfl (IntWalk.u64_in _ ⟨by omega, by omega⟩)) ?_
   refine eV (eCall1 rfl rfl rfl (ref_NOf n (by omega) (by omega)) ⟨rfl, trivial⟩ ?_)
   rintro _ _ ⟨B10, c10, rfl, rfl, hc10⟩
   refine eV (eCall2 rfl rfl rfl (ref_NDivMod B _ cb (lmb t) rfl (lmb_lm _) (by omega) hcb B10 _ c10 (lmb n.toNat) rfl (lmb_lm _) (by omega) hc10 (by rw [vN_lmb]; omega)) ⟨rfl, rfl, trivial⟩ ?_)
   rintro _ _ _ ⟨Bq, cq, Br, cr, rfl, rfl, rfl, hcq, hcr⟩
   iterate 5 refine pV ?_
   rw [show (vN (lmb t)).toNat / (vN (lmb n.toNat)).toNat = N n.toNat by rw [vN_lmb, vN_lmb, Int.toNat_natCast, Int.toNat_natCast, ht]; exact hcd] at hcq ⊢
   refine tS ?_
   refine tR fun _ _ _ => ?_
   iterate 3 refine pV ?_
   exact tr_ret ⟨trivial, _, _, rfl, ⟨_, rfl, Bq, cq, rfl, rfl, hcq⟩, cs _ _, trivial, trivial⟩
theorem ref_Count (p m : Int) (A : Option Addr) (c : Nat) (mod : List Int) [hF : IsF p m mod] (N : Nat → Nat) (hN : IsCnt (pw p m).toNat N) : ∀ (k : Nat) (n : Int), 1 ≤ n → n ≤ 256 → n ≤ k → Pure Try.prog 29 #[.agg #[.int .i64 p, .int .i64 m, .slice A mod.length c], .int .i64 n] [ro A (ints mod)] (one (fun v ch => ∃ B c, v = .tuple #[.slice B (lmb (N n.toNat)).length c, .int .i64 0] ∧ ch = ow B 105 c (w32 (lmb (N n.toNat))) ∧ (lmb (N n.toNat)).length ≤ c))
 | 0, n, h1, h9, hk => by omega
 | k + 1, n, h1, h9, hk => ref_Count_step p m A c mod N hN n h1 h9 fun d d1 d2 => ref_Count p m A c mod N hN k d d1 (by omega) (by omega)
end Go.Proofs.Ytbhoeaijpnjgdaa

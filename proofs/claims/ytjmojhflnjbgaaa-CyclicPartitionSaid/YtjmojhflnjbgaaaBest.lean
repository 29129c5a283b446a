/-
  THE GREATEST BOUND. One sentence: what runs prove for zeros modulo n, the greatest of these bounds, and what becomes of it when zeros are added or multiplied.
  Conditions: each theorem's own, written out in it. No program is named here.
-/
import Derived.Test.YtjmojhflnjbgaaaRuns
import Derived.Test.YtjmojhflnjbgaaaNum
set_option linter.unusedSimpArgs false
set_option linter.unusedVariables false
namespace Go.Proofs.Ytjmojhflnjbgaaa

theorem getD_set {α : Type} (l : List α) (i j : Nat) (v d : α) : (l.set i v).getD j d = if i = j ∧ j < l.length then v else l.getD j d := by
  simp only [List.getD_eq_getElem?_getD, List.getElem?_set]
  by_cases h : i = j
  · subst h
    by_cases h2 : i < l.length
    · simp [h2]
    · simp [h2]
  · simp [h]

/-- A run, in reduced form, that proves a bound. -/
structure Valid (n : Int) (zs : List Int) (most s t c x m : Int) : Prop where
  s0 : 0 ≤ s
  s1 : s < n
  t0 : 0 ≤ t
  t1 : t < n
  gt : Int.gcd t n = 1
  x0 : 0 ≤ x
  x1 : x < n
  c0 : 1 ≤ c
  c1 : c ≤ n
  m0 : 0 ≤ m
  m1 : m ≤ most
  ok : RunOk n zs s t c x m
  gx : m = 0 ∨ (Int.gcd x n : Int) ≤ c

def Upper (n : Int) (zs : List Int) (most b : Int) : Prop := ∀ s t c x m, Valid n zs most s t c x m → c + 1 + m ≤ b
structure IsBest (n : Int) (zs : List Int) (most b : Int) : Prop where
  up : Upper n zs most b
  att : b = 1 ∨ ∃ s t c x m, Valid n zs most s t c x m ∧ b = c + 1 + m
theorem IsBest.one {n : Int} {zs : List Int} {most b : Int} (h : IsBest n zs most b) : 1 ≤ b := by
  rcases h.att with h1 | ⟨s, t, c, x, m, h1, rfl⟩
  · omega
  · have := h1.c0; have := h1.m0; omega
theorem IsBest.le {n n' : Int} {zs zs' : List Int} {most most' b b' : Int} (h : IsBest n zs most b) (h' : IsBest n' zs' most' b') (hm : ∀ s t c x m, Valid n zs most s t c x m → ∃ s' t' x', Valid n' zs' most' s' t' c x' m) : b ≤ b' := by
  rcases h.att with h1 | ⟨s, t, c, x, m, h1, rfl⟩
  · have := h'.one; omega
  · obtain ⟨s', t', x', h2⟩ := hm _ _ _ _ _ h1
    exact h'.up _ _ _ _ _ h2
theorem IsBest.unique {n : Int} {zs : List Int} {most b b' : Int} (h : IsBest n zs most b) (h' : IsBest n zs most b') : b = b' := by
  have h1 := h.le h' (fun s t c x m hv => ⟨s, t, x, hv⟩)
  have h2 := h'.le h (fun s t c x m hv => ⟨s, t, x, hv⟩)
  omega

open Classical in
noncomputable def bestN (n : Int) (zs : List Int) (most : Int) : Int := if h : ∃ b, IsBest n zs most b then Classical.choose h else 1
theorem IsBest.eq {n : Int} {zs : List Int} {most b : Int} (h : IsBest n zs most b) : bestN n zs most = b := by
  have h1 : ∃ b, IsBest n zs most b := ⟨b, h⟩
  rw [bestN, dif_pos h1]
  exact (Classical.choose_spec h1).unique h

/-- What best has in hand. -/
def Att (n : Int) (zs : List Int) (most b s t c x m : Int) : Prop := (b = 1 ∧ s = 0 ∧ t = 0 ∧ c = 0 ∧ x = 0 ∧ m = 0) ∨ (Valid n zs most s t c x m ∧ b = c + 1 + m)
/-- Which runs have been looked at. -/
def Bd (n : Int) (zs : List Int) (most b T X S J : Int) : Prop := ∀ s t c x m, Valid n zs most s t c x m → (t < T ∨ (t = T ∧ (x < X ∨ (x = X ∧ (s < S ∨ (s = S ∧ m < J)))))) → c + 1 + m ≤ b
/-- The greatest number of steps T from S + j X on, for all j below J. -/
def Cnt (n : Int) (zs : List Int) (T X S J k : Int) : Prop := 0 ≤ k ∧ k ≤ n ∧ ∀ c, 1 ≤ c → c ≤ n → ((∀ i, 0 ≤ i → i < c → ∀ j, 0 ≤ j → j < J → Zer n zs (S + i * T + j * X)) ↔ c ≤ k)
structure LenOk (n : Int) (zs : List Int) (t : Int) (ls : List Int) : Prop where
  len : ls.length = n.toNat
  lo : ∀ s, 0 ≤ s → s < n → 0 ≤ ls.getD s.toNat 0
  hi : ∀ s, 0 ≤ s → s < n → ls.getD s.toNat 0 ≤ n
  ok : ∀ s, 0 ≤ s → s < n → ∀ c, 0 ≤ c → c ≤ n → ((∀ i, 0 ≤ i → i < c → Zer n zs (s + i * t)) ↔ c ≤ ls.getD s.toNat 0)

theorem Zer.mod {n : Int} {zs : List Int} {x y : Int} (h : x % n = y % n) : Zer n zs x ↔ Zer n zs y := by unfold Zer; rw [h]
theorem Zer.emod_add {n : Int} {zs : List Int} {a y : Int} : Zer n zs (a % n + y) ↔ Zer n zs (a + y) := Zer.mod (by simp)

theorem Cnt.start (n : Int) (zs : List Int) (T X S : Int) (hn : 1 ≤ n) : Cnt n zs T X S 0 n := ⟨by omega, by omega, fun c h1 h2 => ⟨fun _ => h2, fun _ i _ _ j h3 h4 => by omega⟩⟩
theorem Cnt.next {n : Int} {zs : List Int} {T X S J k : Int} {ls : List Int} (hn : 1 ≤ n) (hJ : 0 ≤ J) (h : Cnt n zs T X S J k) (hl : LenOk n zs T ls) : Cnt n zs T X S (J + 1) (min k (ls.getD ((S + J * X) % n).toNat 0)) := by
  have e0 := Int.emod_nonneg (S + J * X) (show n ≠ 0 by omega)
  have e1 := Int.emod_lt_of_pos (S + J * X) (show 0 < n by omega)
  have h1 := hl.lo _ e0 e1
  have h2 := hl.hi _ e0 e1
  obtain ⟨k0, k1, hk⟩ := h
  refine ⟨by omega, by omega, fun c hc1 hc2 => ?_⟩
  have h3 := hl.ok _ e0 e1 c (by omega) hc2
  have h4 := hk c hc1 hc2
  have h5 : c ≤ min k (ls.getD ((S + J * X) % n).toNat 0) ↔ c ≤ k ∧ c ≤ ls.getD ((S + J * X) % n).toNat 0 := by omega
  rw [h5, ← h3, ← h4]
  constructor
  · intro hh
    refine ⟨fun i i0 i1 j j0 j1 => hh i i0 i1 j j0 (by omega), fun i i0 i1 => Zer.emod_add.2 ?_⟩
    have := hh i i0 i1 J hJ (by omega)
    rwa [show S + J * X + i * T = S + i * T + J * X by omega]
  · rintro ⟨ha, hb⟩ i i0 i1 j j0 j1
    by_cases hj : j = J
    · subst hj
      have := Zer.emod_add.1 (hb i i0 i1)
      rwa [show S + i * T + j * X = S + j * X + i * T by omega]
    · exact ha i i0 i1 j j0 (by omega)

theorem Bd.start (n : Int) (zs : List Int) (most : Int) : Bd n zs most 1 0 0 0 0 := fun s t c x m h hh => by
  have := h.s0; have := h.t0; have := h.x0; have := h.m0
  omega
theorem Bd.done {n : Int} {zs : List Int} {most b : Int} (h : Bd n zs most b n 0 0 0) : Upper n zs most b := fun s t c x m hv => h _ _ _ _ _ hv (.inl hv.t1)
theorem Bd.nextT {n : Int} {zs : List Int} {most b T : Int} (h : Bd n zs most b T n 0 0) : Bd n zs most b (T + 1) 0 0 0 := fun s t c x m hv hh => by
  have h1 := hv.x0; have h2 := hv.s0; have h3 := hv.m0; have h4 := hv.x1
  exact h _ _ _ _ _ hv (by omega)
theorem Bd.skipT {n : Int} {zs : List Int} {most b T : Int} (h : Bd n zs most b T 0 0 0) (hg : Int.gcd T n ≠ 1) : Bd n zs most b (T + 1) 0 0 0 := fun s t c x m hv hh => by
  have h1 := hv.x0; have h2 := hv.s0; have h3 := hv.m0
  have h4 : t ≠ T := fun e => hg (e ▸ hv.gt)
  exact h _ _ _ _ _ hv (by omega)
theorem Bd.brkT {n : Int} {zs : List Int} {b T X : Int} (hn : 1 ≤ n) (h : Bd n zs 0 b T X 0 0) (hX : 0 < X) : Bd n zs 0 b (T + 1) 0 0 0 := fun s t c x m hv hh => by
  have h1 := hv.x0; have h2 := hv.s0; have h3 := hv.m0; have h5 := hv.m1
  have hm : m = 0 := by omega
  subst hm
  have h4 : Valid n zs 0 s t c 0 0 := ⟨hv.s0, hv.s1, hv.t0, hv.t1, hv.gt, by omega, by omega, hv.c0, hv.c1, by omega, by omega, fun i i0 i1 j j0 j1 => by
    have := hv.ok i i0 i1 0 (by omega) (by omega)
    have hj : j = 0 := by omega
    subst hj
    simpa using this, .inl rfl⟩
  exact h _ _ _ _ _ h4 (by omega)
theorem Bd.nextX {n : Int} {zs : List Int} {most b T X : Int} (h : Bd n zs most b T X n 0) : Bd n zs most b T (X + 1) 0 0 := fun s t c x m hv hh => by
  have h2 := hv.s0; have h3 := hv.m0; have h4 := hv.s1
  exact h _ _ _ _ _ hv (by omega)
theorem Bd.nextS {n : Int} {zs : List Int} {most b T X S : Int} (h : Bd n zs most b T X S (most + 1)) : Bd n zs most b T X (S + 1) 0 := fun s t c x m hv hh => by
  have h3 := hv.m0; have h4 := hv.m1
  exact h _ _ _ _ _ hv (by omega)
theorem Valid.cnt {n : Int} {zs : List Int} {most s t c x m J k : Int} (hv : Valid n zs most s t c x m) (h : Cnt n zs t x s J k) (hJ : J ≤ m + 1) : c ≤ k :=
  (h.2.2 c hv.c0 hv.c1).1 fun i i0 i1 j j0 j1 => hv.ok i i0 i1 j j0 (by omega)
theorem Bd.brkS {n : Int} {zs : List Int} {most b T X S J : Int} (h : Bd n zs most b T X S J) (hc : Cnt n zs T X S (J + 1) 0) : Bd n zs most b T X (S + 1) 0 := fun s t c x m hv hh => by
  have h3 := hv.m0; have h4 := hv.c0
  by_cases hj : t = T ∧ x = X ∧ s = S ∧ J ≤ m
  · obtain ⟨rfl, rfl, rfl, hj⟩ := hj
    have := hv.cnt hc (by omega)
    omega
  · exact h _ _ _ _ _ hv (by omega)
/-- One more look. -/
theorem Bd.nextJ {n : Int} {zs : List Int} {most b b' T X S J k : Int} (h : Bd n zs most b T X S J) (hc : Cnt n zs T X S (J + 1) k) (hb : b ≤ b') (hk : (J = 0 ∨ (Int.gcd X n : Int) ≤ k) → k + 1 + J ≤ b') : Bd n zs most b' T X S (J + 1) := fun s t c x m hv hh => by
  by_cases hj : t = T ∧ x = X ∧ s = S ∧ m = J
  · obtain ⟨rfl, rfl, rfl, rfl⟩ := hj
    have h1 := hv.cnt hc (by omega)
    have h2 : c + 1 + m ≤ k + 1 + m := by omega
    refine Int.le_trans h2 (hk ?_)
    rcases hv.gx with h3 | h3
    · exact .inl h3
    · exact .inr (by omega)
  · have := h _ _ _ _ _ hv (by omega)
    omega
theorem Cnt.valid {n : Int} {zs : List Int} {most T X S J k : Int} (hc : Cnt n zs T X S (J + 1) k) (hk : 1 ≤ k) (hS : 0 ≤ S ∧ S < n) (hT : 0 ≤ T ∧ T < n) (hX : 0 ≤ X ∧ X < n) (hg : Int.gcd T n = 1) (hJ : 0 ≤ J ∧ J ≤ most) (hx : J = 0 ∨ (Int.gcd X n : Int) ≤ k) : Valid n zs most S T k X J :=
  ⟨hS.1, hS.2, hT.1, hT.2, hg, hX.1, hX.2, hk, hc.2.1, hJ.1, hJ.2, fun i i0 i1 j j0 j1 => (hc.2.2 k hk hc.2.1).2 (Int.le_refl k) i i0 i1 j j0 (by omega), hx⟩

/-! ### The lengths, one after the other -/
def LenTo (n : Int) (zs : List Int) (t : Int) (l : List Int) (S : Int) : Prop := ∀ s, 0 ≤ s → s < S → 0 ≤ l.getD s.toNat 0 ∧ l.getD s.toNat 0 ≤ n ∧ ∀ c, 0 ≤ c → c ≤ n → ((∀ i, 0 ≤ i → i < c → Zer n zs (s + i * t)) ↔ c ≤ l.getD s.toNat 0)
def LenAt (n : Int) (zs : List Int) (t : Int) (l l2 : List Int) (S : Int) : Prop := l2.length = n.toNat ∧ (∀ s, 0 ≤ s → s ≠ S → l2.getD s.toNat 0 = l.getD s.toNat 0) ∧ 0 ≤ l2.getD S.toNat 0 ∧ l2.getD S.toNat 0 ≤ n ∧ ∀ i, 0 ≤ i → i < l2.getD S.toNat 0 → Zer n zs (S + i * t)
theorem LenAt.step {n : Int} {zs : List Int} {t : Int} {l l2 : List Int} {S : Int} (hS : 0 ≤ S ∧ S < n) (h : LenAt n zs t l l2 S) (hk : l2.getD S.toNat 0 < n) (hz : Zer n zs (S + l2.getD S.toNat 0 * t)) : LenAt n zs t l (l2.set S.toNat (l2.getD S.toNat 0 + 1)) S ∧ (l2.set S.toNat (l2.getD S.toNat 0 + 1)).getD S.toNat 0 = l2.getD S.toNat 0 + 1 := by
  obtain ⟨h1, h2, h3, h4, h5⟩ := h
  have e : (l2.set S.toNat (l2.getD S.toNat 0 + 1)).getD S.toNat 0 = l2.getD S.toNat 0 + 1 := by rw [getD_set, if_pos ⟨rfl, by omega⟩]
  refine ⟨⟨by simpa using h1, fun s hs hne => ?_, by omega, by omega, fun i i0 i1 => ?_⟩, e⟩
  · rw [getD_set, if_neg (by omega)]; exact h2 s hs hne
  · by_cases hi : i = l2.getD S.toNat 0
    · rw [hi]; exact hz
    · exact h5 i i0 (by omega)
theorem LenAt.done {n : Int} {zs : List Int} {t : Int} {l l2 : List Int} {S : Int} (hS : 0 ≤ S ∧ S < n) (hl : LenTo n zs t l S) (h : LenAt n zs t l l2 S) (hk : ¬ l2.getD S.toNat 0 < n ∨ ¬ Zer n zs (S + l2.getD S.toNat 0 * t)) : LenTo n zs t l2 (S + 1) := fun s hs0 hs1 => by
  obtain ⟨h1, h2, h3, h4, h5⟩ := h
  by_cases hs : s = S
  · subst hs
    refine ⟨h3, h4, fun c c0 c1 => ⟨fun hh => ?_, fun hc i i0 i1 => h5 i i0 (by omega)⟩⟩
    by_cases hlt : c ≤ l2.getD s.toNat 0
    · exact hlt
    · rcases hk with hk | hk
      · omega
      · exact absurd (hh _ h3 (by omega)) hk
  · rw [h2 s hs0 hs]
    exact hl s hs0 (by omega)
theorem LenTo.all {n : Int} {zs : List Int} {t : Int} {l : List Int} (h : LenTo n zs t l n) (hl : l.length = n.toNat) : LenOk n zs t l := ⟨hl, fun s a b => (h s a b).1, fun s a b => (h s a b).2.1, fun s a b => (h s a b).2.2⟩
/-- The greatest j up to most for which at, at + x, .., at + j x are zeros. -/
def ColOk (n : Int) (zs : List Int) (at_ x most j : Int) : Prop := -1 ≤ j ∧ j ≤ most ∧ ∀ m, 0 ≤ m → m ≤ most → ((∀ i, 0 ≤ i → i ≤ m → Zer n zs (at_ + i * x)) ↔ m ≤ j)

/-! ### The reference's way to the greatest bound -/
def Rd2 (n : Int) (zs : List Int) (most b S T X C : Int) : Prop := ∀ s t c x m, Valid n zs most s t c x m → (s < S ∨ (s = S ∧ (t < T ∨ (t = T ∧ (x < X ∨ (x = X ∧ c < C)))))) → c + 1 + m ≤ b
def Att2 (n : Int) (zs : List Int) (most b : Int) : Prop := b = 1 ∨ ∃ s t c x m, Valid n zs most s t c x m ∧ b = c + 1 + m
/-- The greatest number of rows, for all counts below C. -/
def Rows2 (n : Int) (zs : List Int) (most S T X C r : Int) : Prop := -1 ≤ r ∧ r ≤ most ∧ ∀ m, 0 ≤ m → m ≤ most → ((∀ i, 0 ≤ i → i < C → ∀ j, 0 ≤ j → j ≤ m → Zer n zs (S + i * T + j * X)) ↔ m ≤ r)
theorem Rows2.start (n : Int) (zs : List Int) (most S T X : Int) (h : 0 ≤ most) : Rows2 n zs most S T X 0 most := ⟨by omega, by omega, fun m h1 h2 => ⟨fun _ => h2, fun _ i i0 i1 => by omega⟩⟩
theorem Rows2.next {n : Int} {zs : List Int} {most S T X C r j : Int} (hC : 0 ≤ C) (h : Rows2 n zs most S T X C r) (hr : 0 ≤ r) (hj : ColOk n zs (S + C * T) X r j) : Rows2 n zs most S T X (C + 1) (min r j) := by
  obtain ⟨h0, h1, h2⟩ := h
  obtain ⟨j0, j1, j2⟩ := hj
  refine ⟨by omega, by omega, fun m m0 m1 => ?_⟩
  have h3 := h2 m m0 m1
  have h4 : m ≤ min r j ↔ m ≤ r ∧ m ≤ j := by omega
  rw [h4, ← h3]
  constructor
  · intro hh
    have ha : ∀ i, 0 ≤ i → i < C → ∀ j, 0 ≤ j → j ≤ m → Zer n zs (S + i * T + j * X) := fun i i0 i1 => hh i i0 (by omega)
    exact ⟨ha, (j2 m m0 (h3.1 ha)).1 (hh C hC (by omega))⟩
  · rintro ⟨ha, hb⟩ i i0 i1
    by_cases hi : i = C
    · subst hi; exact (j2 m m0 (h3.1 ha)).2 hb
    · exact ha i i0 (by omega)
theorem Rd2.start (n : Int) (zs : List Int) (most : Int) : Rd2 n zs most 1 0 0 0 1 := fun s t c x m h hh => by
  have := h.s0; have := h.t0; have := h.x0; have := h.c0
  omega
theorem Rd2.done {n : Int} {zs : List Int} {most b : Int} (h : Rd2 n zs most b n 0 0 1) (ha : Att2 n zs most b) : IsBest n zs most b := ⟨fun s t c x m hv => h _ _ _ _ _ hv (.inl hv.s1), ha⟩
theorem Rd2.nextS {n : Int} {zs : List Int} {most b S : Int} (h : Rd2 n zs most b S n 0 1) : Rd2 n zs most b (S + 1) 0 0 1 := fun s t c x m hv hh => by
  have := hv.t0; have := hv.t1; have := hv.x0; have := hv.c0
  exact h _ _ _ _ _ hv (by omega)
theorem Rd2.nextT {n : Int} {zs : List Int} {most b S T : Int} (h : Rd2 n zs most b S T n 1) : Rd2 n zs most b S (T + 1) 0 1 := fun s t c x m hv hh => by
  have := hv.x0; have := hv.x1; have := hv.c0
  exact h _ _ _ _ _ hv (by omega)
theorem Rd2.nextX {n : Int} {zs : List Int} {most b S T X : Int} (h : Rd2 n zs most b S T X (n + 1)) : Rd2 n zs most b S T (X + 1) 1 := fun s t c x m hv hh => by
  have := hv.c0; have := hv.c1
  exact h _ _ _ _ _ hv (by omega)
theorem Valid.zero {n : Int} {zs : List Int} {s t c x m : Int} (hn : 1 ≤ n) (hv : Valid n zs 0 s t c x m) : m = 0 ∧ Valid n zs 0 s t c 0 0 := by
  have h3 := hv.m0; have h5 := hv.m1
  have hm : m = 0 := by omega
  subst hm
  exact ⟨rfl, hv.s0, hv.s1, hv.t0, hv.t1, hv.gt, by omega, by omega, hv.c0, hv.c1, by omega, by omega, fun i i0 i1 j j0 j1 => by
    have := hv.ok i i0 i1 0 (by omega) (by omega)
    have hj : j = 0 := by omega
    subst hj
    simpa using this, .inl rfl⟩
theorem Valid.start {n : Int} {zs : List Int} {most s t c x m : Int} (hv : Valid n zs most s t c x m) : Zer n zs s := by
  have := hv.c0
  simpa using hv.ok 0 (by omega) (by omega) 0 (by omega) hv.m0
theorem Rd2.skip {n : Int} {zs : List Int} {most b S T X : Int} (hn : 1 ≤ n) (h : Rd2 n zs most b S T X 1) (hX : 0 ≤ X) (hs : (Int.gcd T n ≠ 1 ∨ ¬ Zer n zs S) ∨ (0 < X ∧ most = 0)) : Rd2 n zs most b S T (X + 1) 1 := fun s t c x m hv hh => by
  have hc := hv.c0
  by_cases he : s = S ∧ t = T ∧ x = X
  · obtain ⟨rfl, rfl, rfl⟩ := he
    rcases hs with (hs | hs) | hs
    · exact absurd hv.gt hs
    · exact absurd hv.start hs
    · obtain ⟨h1, rfl⟩ := hs
      obtain ⟨rfl, hv2⟩ := hv.zero hn
      exact h _ _ _ _ _ hv2 (by omega)
  · exact h _ _ _ _ _ hv (by omega)
theorem Valid.rows {n : Int} {zs : List Int} {most s t c x m C r : Int} (hv : Valid n zs most s t c x m) (h : Rows2 n zs most s t x C r) (hC : C ≤ c) : m ≤ r :=
  (h.2.2 m hv.m0 hv.m1).1 fun i i0 i1 j j0 j1 => hv.ok i i0 (by omega) j j0 j1
theorem Rd2.brk {n : Int} {zs : List Int} {most b S T X C r : Int} (h : Rd2 n zs most b S T X C) (hr : Rows2 n zs most S T X C r) (hneg : r < 0) : Rd2 n zs most b S T (X + 1) 1 := fun s t c x m hv hh => by
  have hc := hv.c0
  have hm := hv.m0
  by_cases he : s = S ∧ t = T ∧ x = X ∧ C ≤ c
  · obtain ⟨rfl, rfl, rfl, he⟩ := he
    have := hv.rows hr he
    omega
  · exact h _ _ _ _ _ hv (by omega)
theorem Rd2.nextC {n : Int} {zs : List Int} {most b b' S T X C r : Int} (h : Rd2 n zs most b S T X C) (hr : Rows2 n zs most S T X C r) (hb : b ≤ b') (hb1 : C + 1 ≤ b') (hb2 : (Int.gcd X n : Int) ≤ C → C + 1 + r ≤ b') : Rd2 n zs most b' S T X (C + 1) := fun s t c x m hv hh => by
  by_cases he : s = S ∧ t = T ∧ x = X ∧ c = C
  · obtain ⟨rfl, rfl, rfl, rfl⟩ := he
    have h1 := hv.rows hr (Int.le_refl _)
    rcases hv.gx with h2 | h2
    · omega
    · have := hb2 h2; omega
  · have := h _ _ _ _ _ hv (by omega)
    omega
theorem Rows2.valid {n : Int} {zs : List Int} {most S T X C r m : Int} (hr : Rows2 n zs most S T X C r) (hC : 1 ≤ C ∧ C ≤ n) (hS : 0 ≤ S ∧ S < n) (hT : 0 ≤ T ∧ T < n) (hX : 0 ≤ X ∧ X < n) (hg : Int.gcd T n = 1) (hm : 0 ≤ m ∧ m ≤ r) (hx : m = 0 ∨ (Int.gcd X n : Int) ≤ C) : Valid n zs most S T C X m :=
  have h1 := hr.2.1
  ⟨hS.1, hS.2, hT.1, hT.2, hg, hX.1, hX.2, hC.1, hC.2, hm.1, by omega, (hr.2.2 m hm.1 (by omega)).2 hm.2, hx⟩

theorem Att2.max {n : Int} {zs : List Int} {most b s t c x m : Int} (h : Att2 n zs most b) (hv : Valid n zs most s t c x m) : Att2 n zs most (max b (c + 1 + m)) := by
  by_cases hb : c + 1 + m ≤ b
  · rw [show Max.max b (c + 1 + m) = b by omega]; exact h
  · rw [show Max.max b (c + 1 + m) = c + 1 + m by omega]; exact .inr ⟨_, _, _, _, _, hv, rfl⟩
theorem Att2.max0 {n : Int} {zs : List Int} {most b s t c x : Int} (h : Att2 n zs most b) (hv : Valid n zs most s t c x 0) : Att2 n zs most (Max.max b (c + 1)) := by
  have := h.max hv
  rwa [Int.add_zero] at this

/-! ### A run in hand -/
theorem Valid.chk {n : Int} {zs : List Int} {most s t c x m : Int} (h : Valid n zs most s t c x m) (hn : 1 ≤ n ∧ n ≤ 64) (hm : most ≤ n) : chk n zs s t c x m = (c + 1 + m, 0) := by
  have := h.s0; have := h.s1; have := h.t0; have := h.t1; have := h.x0; have := h.x1; have := h.c0; have := h.c1; have := h.m0; have := h.m1; have hg := h.gt; have hx := h.gx
  have h1 : ¬ RunArgs n s t c x m := by unfold RunArgs Far; omega
  have h2 : ¬ RunBad n t c x m := by unfold RunBad; omega
  rw [Go.Proofs.Ytjmojhflnjbgaaa.chk, if_neg (by omega), if_neg h1, if_neg h2, if_pos h.ok]

/-- What best returns. -/
def BestR (n : Int) (zs : List Int) (most b s t c x m e : Int) : Prop :=
  ((n < 1 ∨ n > 64) ∧ b = 0 ∧ s = 0 ∧ t = 0 ∧ c = 0 ∧ x = 0 ∧ m = 0 ∧ e = 4) ∨
  ((1 ≤ n ∧ n ≤ 64) ∧ e = 0 ∧ IsBest n zs most b ∧ (m = 0 → x = 0) ∧ m ≤ most ∧ 0 ≤ m ∧ ((b = 1 ∧ s = 0 ∧ t = 0 ∧ c = 0 ∧ x = 0 ∧ m = 0) ∨ (2 ≤ b ∧ chk n zs s t c x m = (b, 0))))
theorem Valid.cross0 {n : Int} {zs : List Int} {most s t c x : Int} (hn : 1 ≤ n) (hv : Valid n zs most s t c x 0) : Valid n zs most s t c 0 0 :=
  ⟨hv.s0, hv.s1, hv.t0, hv.t1, hv.gt, by omega, by omega, hv.c0, hv.c1, by omega, hv.m1, fun i i0 i1 j j0 j1 => by
    have := hv.ok i i0 i1 0 (by omega) (by omega)
    have hj : j = 0 := by omega
    subst hj
    simpa using this, .inl rfl⟩
theorem bestR_0 {n : Int} {zs : List Int} {most b s t c x m : Int} (hn : 1 ≤ n ∧ n ≤ 64) (hmost : most = 0 ∨ most = n) (hb : Bd n zs most b n 0 0 0) (ha : Att n zs most b s t c x m) (hm : m = 0) : BestR n zs most b s t c 0 m 0 := by
  subst hm
  refine .inr ⟨hn, rfl, ⟨hb.done, ?_⟩, fun _ => rfl, by omega, by omega, ?_⟩
  · rcases ha with h | ⟨h, h2⟩
    · exact .inl h.1
    · exact .inr ⟨_, _, _, _, _, h, h2⟩
  · rcases ha with ⟨h1, h2, h3, h4, h5, h6⟩ | ⟨h, h2⟩
    · exact .inl ⟨h1, h2, h3, h4, rfl, h6⟩
    · have := h.c0
      exact .inr ⟨by omega, by rw [h2]; exact (h.cross0 hn.1).chk hn (by omega)⟩
theorem bestR_1 {n : Int} {zs : List Int} {most b s t c x m : Int} (hn : 1 ≤ n ∧ n ≤ 64) (hmost : most = 0 ∨ most = n) (hb : Bd n zs most b n 0 0 0) (ha : Att n zs most b s t c x m) (hm : ¬ m = 0) : BestR n zs most b s t c x m 0 := by
  rcases ha with ⟨_, _, _, _, _, h6⟩ | ⟨h, h2⟩
  · exact absurd h6 hm
  · have h3 := h.c0; have h4 := h.m0; have h5 := h.m1
    exact .inr ⟨hn, rfl, ⟨hb.done, .inr ⟨_, _, _, _, _, h, h2⟩⟩, fun h => absurd h hm, h5, h4, .inr ⟨by omega, by rw [h2]; exact h.chk hn (by omega)⟩⟩
/-! ### More zeros -/
theorem Zer.mono {n : Int} {zs zs' : List Int} {y : Int} (h : ∀ z ∈ zs, z ∈ zs') (hz : Zer n zs y) : Zer n zs' y := by
  obtain ⟨z, h1, h2⟩ := hz
  exact ⟨z, h z h1, h2⟩
theorem Valid.mono {n : Int} {zs zs' : List Int} {most most' s t c x m : Int} (h : ∀ z ∈ zs, z ∈ zs') (hm : most ≤ most') (hv : Valid n zs most s t c x m) : Valid n zs' most' s t c x m :=
  ⟨hv.s0, hv.s1, hv.t0, hv.t1, hv.gt, hv.x0, hv.x1, hv.c0, hv.c1, hv.m0, Int.le_trans hv.m1 hm, fun i i0 i1 j j0 j1 => (hv.ok i i0 i1 j j0 j1).mono h, hv.gx⟩
theorem IsBest.two {n : Int} {zs : List Int} {most b z : Int} (hn : 1 ≤ n) (hm : 0 ≤ most) (h : IsBest n zs most b) (hz : z ∈ zs) : 2 ≤ b := by
  have e0 := Int.emod_nonneg z (show n ≠ 0 by omega)
  have e1 := Int.emod_lt_of_pos z (show 0 < n by omega)
  have f0 := Int.emod_nonneg 1 (show n ≠ 0 by omega)
  have f1 := Int.emod_lt_of_pos 1 (show 0 < n by omega)
  have hg : Int.gcd (1 % n) n = 1 := by
    by_cases h1 : n = 1
    · subst h1; rfl
    · rw [Int.emod_eq_of_lt (by omega) (by omega)]; simp
  have := h.up (z % n) (1 % n) 1 0 0 ⟨e0, e1, f0, f1, hg, by omega, by omega, by omega, by omega, by omega, hm, fun i i0 i1 j j0 j1 => by
    have hi : i = 0 := by omega
    have hj : j = 0 := by omega
    subst hi; subst hj
    exact ⟨z, hz, by simp⟩, .inl rfl⟩
  omega

/-! ### Zeros multiplied -/
theorem bezout : ∀ (a b : Nat), ∃ u v : Int, u * a + v * b = Nat.gcd a b := by
  intro a
  induction a using Nat.strongRecOn with
  | _ a ih =>
    intro b
    rcases Nat.eq_zero_or_pos a with h | h
    · subst h; exact ⟨0, 1, by simp⟩
    · obtain ⟨u, v, huv⟩ := ih (b % a) (Nat.mod_lt _ h) a
      refine ⟨v - u * (b / a : Nat), u, ?_⟩
      rw [Nat.gcd_rec, ← huv]
      have h3 : (b : Int) = a * (b / a : Nat) + (b % a : Nat) := by
        have := Nat.div_add_mod b a
        exact_mod_cast this.symm
      have h4 : u * (b : Int) = u * (a * (b / a : Nat) + (b % a : Nat)) := by rw [← h3]
      rw [h4, Int.sub_mul, Int.mul_add, Int.mul_assoc u]
      have h5 : ((b / a : Nat) : Int) * (a : Int) = a * (b / a : Nat) := Int.mul_comm _ _
      rw [h5]
      omega
theorem inverse {y n : Int} (hn : 1 ≤ n) (h : Int.gcd y n = 1) : ∃ u : Int, (u * y) % n = 1 % n := by
  obtain ⟨u, v, huv⟩ := bezout y.natAbs n.natAbs
  have h1 : (Nat.gcd y.natAbs n.natAbs : Int) = 1 := by exact_mod_cast h
  rw [h1] at huv
  have hn' : (n.natAbs : Int) = n := by omega
  rw [hn'] at huv
  rcases Int.natAbs_eq y with hy | hy
  · refine ⟨u, ?_⟩
    rw [hy, ← huv]
    simp
  · refine ⟨-u, ?_⟩
    rw [hy, ← huv, Int.neg_mul_neg]
    simp
theorem gcd_mul_unit {y x n : Int} (h : Int.gcd y n = 1) : Int.gcd (y * x) n = Int.gcd x n := by
  have h1 : Nat.Coprime y.natAbs n.natAbs := h
  show Nat.gcd (y * x).natAbs n.natAbs = Nat.gcd x.natAbs n.natAbs
  rw [Int.natAbs_mul]
  exact h1.gcd_mul_left_cancel x.natAbs
theorem gcd_emod' {a n : Int} : Int.gcd (a % n) n = Int.gcd a n := by
  exact gcd_emod a n
/-- Runs go along with the zeros. -/
theorem Valid.mul {n y : Int} {zs zs' : List Int} {most s t c x m : Int} (hn : 1 ≤ n) (hy : Int.gcd y n = 1) (hz : ∀ a, Zer n zs a → Zer n zs' (y * a)) (hv : Valid n zs most s t c x m) : Valid n zs' most (y * s % n) (y * t % n) c (y * x % n) m := by
  have e0 := fun a => Int.emod_nonneg a (show n ≠ 0 by omega)
  have e1 := fun a => Int.emod_lt_of_pos a (show 0 < n by omega)
  refine ⟨e0 _, e1 _, e0 _, e1 _, by rw [gcd_emod', gcd_mul_unit hy]; exact hv.gt, e0 _, e1 _, hv.c0, hv.c1, hv.m0, hv.m1, fun i i0 i1 j j0 j1 => ?_, by rw [gcd_emod', gcd_mul_unit hy]; exact hv.gx⟩
  have h1 := hz _ (hv.ok i i0 i1 j j0 j1)
  refine (Zer.mod ?_).2 h1
  have h2 : y * (s + i * t + j * x) = y * s + i * (y * t) + j * (y * x) := by
    rw [Int.mul_add, Int.mul_add, Int.mul_left_comm y i, Int.mul_left_comm y j]
  rw [h2, Int.emod_def (y * s) n, Int.emod_def (y * t) n, Int.emod_def (y * x) n]
  have h3 : y * s - n * (y * s / n) + i * (y * t - n * (y * t / n)) + j * (y * x - n * (y * x / n)) = (y * s + i * (y * t) + j * (y * x)) + n * (-(y * s / n + i * (y * t / n) + j * (y * x / n))) := by
    generalize y * s / n = q1
    generalize y * t / n = q2
    generalize y * x / n = q3
    grind
  rw [h3, Int.add_mul_emod_self_left]
def turned (n y : Int) (zs : List Int) : List Int := zs.map (fun z => z % n * y)
theorem turned_snoc (n y : Int) (zs : List Int) (z : Int) : turned n y (zs ++ [z]) = turned n y zs ++ [z % n * y] := by simp [turned]
theorem IsBest.turned {n y : Int} {zs : List Int} {most b b' : Int} (hn : 1 ≤ n) (hy : Int.gcd y n = 1) (h : IsBest n zs most b) (h' : IsBest n (turned n y zs) most b') : b = b' := by
  obtain ⟨u, hu⟩ := inverse hn hy
  have hug : Int.gcd u n = 1 := by
    have h1 : Int.gcd (u * y) n = 1 := by
      rw [← gcd_emod', hu, gcd_emod']; simp
    rw [Int.mul_comm, gcd_mul_unit hy] at h1
    exact h1
  have h1 := h.le h' (fun s t c x m hv => ⟨_, _, _, hv.mul hn hy (fun a ⟨z, hz, he⟩ => ⟨z % n * y, List.mem_map.2 ⟨z, hz, rfl⟩, by rw [Int.mul_comm y a, Int.mul_emod, Int.emod_emod, he, ← Int.mul_emod]⟩)⟩)
  have h2 := h'.le h (fun s t c x m hv => ⟨_, _, _, hv.mul hn hug (fun a ⟨z, hz, he⟩ => by
    obtain ⟨z', hz', rfl⟩ := List.mem_map.1 hz
    refine ⟨z', hz', ?_⟩
    have h3 : (u * a) % n = (u * (z' % n * y)) % n := by rw [Int.mul_emod u a, ← he, ← Int.mul_emod]
    rw [h3, show u * (z' % n * y) = z' % n * (u * y) by rw [Int.mul_left_comm], Int.mul_emod, hu, Int.emod_emod, ← Int.mul_emod]
    simp)⟩)
  omega
end Go.Proofs.Ytjmojhflnjbgaaa

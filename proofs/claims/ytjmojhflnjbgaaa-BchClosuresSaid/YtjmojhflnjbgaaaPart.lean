/-
  THE ORBITS ARE A PARTITION. One sentence: each residue lies in just one of the orbits, and with it its product with q.
  Conditions: each theorem's own, written out in it. No program is named here.
-/
import Derived.Test.YtjmojhflnjbgaaaCos
set_option linter.unusedSimpArgs false
set_option linter.unusedVariables false
namespace Go.Proofs.Ytjmojhflnjbgaaa

theorem nodup_inj {l : List Int} (h : l.Nodup) {i j : Nat} (hi : i < l.length) (hj : j < l.length) (e : l[i] = l[j]) : i = j := by
  have h1 := List.pairwise_iff_getElem.1 h
  rcases Nat.lt_trichotomy i j with h2 | h2 | h2
  · exact absurd e (h1 i j hi hj h2)
  · exact h2
  · exact absurd e.symm (h1 j i hj hi h2)
noncomputable def reps (q n : Int) : List Int := (upI n.toNat).filter (bMin q n)
theorem reps_nodup (q n : Int) : (reps q n).Nodup := ((upI_lt _).imp fun h => by omega).filter _
theorem mem_reps {q n r : Int} (hn : 1 ≤ n) : r ∈ reps q n ↔ (0 ≤ r ∧ r < n) ∧ bMin q n r = true := by
  unfold reps
  rw [List.mem_filter, mem_upI]
  have : ((n.toNat : Nat) : Int) = n := by omega
  rw [this]
noncomputable def rowK (q n : Int) (k : Nat) : List Int := (cosAll q n n.toNat).getD k []
theorem row_rep {q n : Int} {k : Nat} (h : k < (cosAll q n n.toNat).length) : k < (reps q n).length ∧ rowK q n k = cosL q n ((reps q n).getD k 0) := by
  have h1 : k < (reps q n).length := by simpa [cosAll, reps] using h
  refine ⟨h1, ?_⟩
  unfold rowK
  rw [List.getD_eq_getElem?_getD, List.getElem?_eq_getElem h, List.getD_eq_getElem?_getD, List.getElem?_eq_getElem h1]
  simp [cosAll, reps]
theorem row_in {q n : Int} (hn : 1 ≤ n) {k : Nat} (h : k < (cosAll q n n.toNat).length) {x : Int} (hx : x ∈ rowK q n k) : 0 ≤ x ∧ x < n := by
  rw [(row_rep h).2] at hx
  exact ((mem_cosL (by omega)).1 hx).1
theorem row_nodup {q n : Int} {k : Nat} (h : k < (cosAll q n n.toNat).length) : (rowK q n k).Nodup := by
  rw [(row_rep h).2]
  exact (cosL_lt q n _).imp fun h => by omega
theorem row_mul {q n : Int} (hn : 1 ≤ n) {k : Nat} (h : k < (cosAll q n n.toNat).length) {x : Int} (hx : x ∈ rowK q n k) : x * q % n ∈ rowK q n k := by
  rw [(row_rep h).2] at hx ⊢
  obtain ⟨_, m, rfl⟩ := (mem_cosL (by omega)).1 hx
  exact (mem_cosL (by omega)).2 ⟨⟨Int.emod_nonneg _ (by omega), Int.emod_lt_of_pos _ (by omega)⟩, m + 1, rfl⟩
theorem rep_bd {q n : Int} (hn : 1 ≤ n) {k : Nat} (h : k < (reps q n).length) : (0 ≤ (reps q n).getD k 0 ∧ (reps q n).getD k 0 < n) ∧ bMin q n ((reps q n).getD k 0) = true := by
  refine (mem_reps hn).1 ?_
  rw [List.getD_eq_getElem?_getD, List.getElem?_eq_getElem h]
  exact List.getElem_mem h
theorem row_one {q n : Int} (hg : Int.gcd q n = 1) (hn : 1 ≤ n) {k k' : Nat} (h : k < (cosAll q n n.toNat).length) (h' : k' < (cosAll q n n.toNat).length) {x : Int} (hx : x ∈ rowK q n k) (hx' : x ∈ rowK q n k') : k = k' := by
  obtain ⟨a1, a2⟩ := row_rep h
  obtain ⟨b1, b2⟩ := row_rep h'
  rw [a2] at hx
  rw [b2] at hx'
  obtain ⟨c1, c2⟩ := rep_bd hn a1
  obtain ⟨d1, d2⟩ := rep_bd hn b1
  have h1 := ((mem_cosL (by omega)).1 hx).2
  have h2 := ((mem_cosL (by omega)).1 hx').2
  have h3 := h1.trans (h2.symm hg hn d1)
  have h4 := h3.symm hg hn c1
  have he : (reps q n).getD k 0 = (reps q n).getD k' 0 := by
    rcases Int.lt_trichotomy ((reps q n).getD k 0) ((reps q n).getD k' 0) with h5 | h5 | h5
    · exact absurd h3 (bMin_iff.1 d2 _ c1.1 h5)
    · exact h5
    · exact absurd h4 (bMin_iff.1 c2 _ d1.1 h5)
  rw [List.getD_eq_getElem?_getD, List.getElem?_eq_getElem a1, List.getD_eq_getElem?_getD, List.getElem?_eq_getElem b1] at he
  simp only [Option.getD_some] at he
  exact nodup_inj (reps_nodup q n) a1 b1 he
theorem row_all {q n : Int} (hn : 1 ≤ n) {x : Int} (hx : 0 ≤ x ∧ x < n) : ∃ k, k < (cosAll q n n.toNat).length ∧ x ∈ rowK q n k := by
  -- the least number whose orbit holds x
  have hex : ∃ y : Nat, Orb q n y x := ⟨x.toNat, by rw [Int.toNat_of_nonneg hx.1]; exact Orb.refl _ _ _⟩
  obtain ⟨y, hy, hmin⟩ : ∃ y : Nat, Orb q n y x ∧ ∀ z, z < y → ¬ Orb q n (z : Int) x := by
    obtain ⟨y, hy⟩ := hex
    induction y using Nat.strongRecOn with
    | _ y ih =>
      by_cases h1 : ∃ z, z < y ∧ Orb q n (z : Int) x
      · obtain ⟨z, h2, h3⟩ := h1
        exact ih z h2 h3
      · exact ⟨y, hy, fun z hz ho => h1 ⟨z, hz, ho⟩⟩
  have hyx : (y : Int) ≤ x := by
    rcases Int.lt_or_le x y with h | h
    · exact absurd (by rw [Int.toNat_of_nonneg hx.1]; exact Orb.refl _ _ _) (hmin x.toNat (by omega))
    · exact h
  have hm : (y : Int) ∈ reps q n := (mem_reps hn).2 ⟨⟨by omega, by omega⟩, bMin_iff.2 fun z h1 h2 ho => hmin z.toNat (by omega) (by rw [Int.toNat_of_nonneg h1]; exact ho.trans hy)⟩
  obtain ⟨k, hk, he⟩ := List.getElem_of_mem hm
  have hk' : k < (cosAll q n n.toNat).length := by simpa [cosAll, reps] using hk
  refine ⟨k, hk', ?_⟩
  rw [(row_rep hk').2, List.getD_eq_getElem?_getD, List.getElem?_eq_getElem hk, he]
  exact (mem_cosL (by omega)).2 ⟨hx, hy⟩
/-- How many entries are not zero. -/
def cntN (l : List Int) : Nat := (l.filter (fun x => x != 0)).length
theorem cntN_set : ∀ (l : List Int) (j : Nat) (v : Int), j < l.length → l.getD j 1 = 0 → v ≠ 0 → cntN (l.set j v) = cntN l + 1
  | b :: bs, 0, v, _, h, hv => by
    have : b = 0 := by simpa using h
    subst this
    simp [cntN, hv]
  | b :: bs, j + 1, v, hj, h, hv => by
    have := cntN_set bs j v (by simpa using hj) (by simpa using h) hv
    by_cases hb : b = 0 <;> simp [cntN, hb] at this ⊢ <;> omega
theorem cntN_zero (n : Nat) : cntN (List.replicate n 0) = 0 := by simp [cntN]
theorem cntN_le (l : List Int) : cntN l ≤ l.length := List.length_filter_le ..
theorem cntN_full {l : List Int} (h : ∀ j, j < l.length → l.getD j 0 ≠ 0) : cntN l = l.length := by
  unfold cntN
  rw [List.filter_eq_self.2]
  intro x hx
  obtain ⟨j, hj, rfl⟩ := List.getElem_of_mem hx
  have := h j hj
  rw [List.getD_eq_getElem?_getD, List.getElem?_eq_getElem hj] at this
  simpa using this
end Go.Proofs.Ytjmojhflnjbgaaa

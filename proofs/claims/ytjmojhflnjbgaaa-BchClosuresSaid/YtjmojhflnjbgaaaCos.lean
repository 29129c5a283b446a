/-
  ORBITS OF A MULTIPLICATION. One sentence: the residues i, i q, i q q, .. modulo n, as sets, when q has no common divisor with n.
  Conditions: each theorem's own, written out in it. No program is named here.
-/
import Derived.Test.YtjmojhflnjbgaaaSymN
import Derived.Test.YtjmojhflnjbgaaaDig
set_option linter.unusedSimpArgs false
set_option linter.unusedVariables false
namespace Go.Proofs.Ytjmojhflnjbgaaa

def stp (q n : Int) : Nat → Int → Int
  | 0, i => i
  | k + 1, i => stp q n k i * q % n
def Orb (q n i j : Int) : Prop := ∃ k, j = stp q n k i
theorem stp_bd {q n i : Int} (hn : 1 ≤ n) (hi : 0 ≤ i ∧ i < n) : ∀ k, 0 ≤ stp q n k i ∧ stp q n k i < n
  | 0 => hi
  | k + 1 => ⟨Int.emod_nonneg _ (by omega), Int.emod_lt_of_pos _ (by omega)⟩
theorem stp_add (q n i : Int) (a : Nat) : ∀ b, stp q n b (stp q n a i) = stp q n (a + b) i
  | 0 => rfl
  | b + 1 => by rw [stp, stp_add q n i a b, ← Nat.add_assoc, stp]
theorem Orb.refl (q n i : Int) : Orb q n i i := ⟨0, rfl⟩
theorem Orb.trans {q n i j k : Int} (h : Orb q n i j) (h' : Orb q n j k) : Orb q n i k := by
  obtain ⟨a, rfl⟩ := h
  obtain ⟨b, rfl⟩ := h'
  exact ⟨a + b, stp_add q n i a b⟩
theorem mul_inj_mod {q n a b : Int} (hg : Int.gcd q n = 1) (ha : 0 ≤ a ∧ a < n) (hb : 0 ≤ b ∧ b < n) (h : a * q % n = b * q % n) : a = b := by
  have h1 : n ∣ (a - b) * q := by
    rw [Int.sub_mul]
    exact Int.dvd_of_emod_eq_zero (Int.emod_eq_emod_iff_emod_sub_eq_zero.1 h)
  have h2 : n.natAbs ∣ (a - b).natAbs * q.natAbs := by
    rw [← Int.natAbs_mul]
    exact Int.natAbs_dvd_natAbs.2 h1
  have h3 : n.natAbs ∣ (a - b).natAbs := Nat.Coprime.dvd_of_dvd_mul_right (by
    show Nat.gcd n.natAbs q.natAbs = 1
    rw [Nat.gcd_comm]; exact hg) h2
  rcases Nat.eq_zero_or_pos (a - b).natAbs with h4 | h4
  · omega
  · have := Nat.le_of_dvd h4 h3
    omega
theorem stp_inj {q n i j : Int} (hg : Int.gcd q n = 1) (hn : 1 ≤ n) (hi : 0 ≤ i ∧ i < n) (hj : 0 ≤ j ∧ j < n) : ∀ k, stp q n k i = stp q n k j → i = j
  | 0, h => h
  | k + 1, h => stp_inj hg hn hi hj k (mul_inj_mod hg (stp_bd hn hi k) (stp_bd hn hj k) h)
/-- Some number of steps leads back. -/
theorem stp_back {q n i : Int} (hg : Int.gcd q n = 1) (hn : 1 ≤ n) (hi : 0 ≤ i ∧ i < n) : ∃ d, 1 ≤ d ∧ stp q n d i = i := by
  refine Classical.byContradiction fun hno => ?_
  have hd : ((List.range (n.toNat + 1)).map fun k => stp q n k i + 1).Nodup := by
    refine List.pairwise_map.2 (List.nodup_range.imp_of_mem fun {a b} ha hb hab h => ?_)
    have key : ∀ a b : Nat, a < b → stp q n a i + 1 = stp q n b i + 1 → False := fun a b hlt h => by
      apply hno
      refine ⟨b - a, by omega, ?_⟩
      have h1 : stp q n a (stp q n (b - a) i) = stp q n a i := by
        rw [stp_add, show b - a + a = b by omega]; omega
      exact stp_inj hg hn (stp_bd hn hi _) hi a h1
    rcases Nat.lt_or_gt_of_ne hab with h' | h'
    · exact key a b h' h
    · exact key b a h' h.symm
  have := nodup_len n.toNat _ hd (fun y hy => by
    obtain ⟨k, _, rfl⟩ := List.mem_map.1 hy
    have := stp_bd (q := q) hn hi k
    omega)
  simp at this
  omega
theorem Orb.symm {q n i j : Int} (hg : Int.gcd q n = 1) (hn : 1 ≤ n) (hi : 0 ≤ i ∧ i < n) (h : Orb q n i j) : Orb q n j i := by
  obtain ⟨k, rfl⟩ := h
  obtain ⟨d, hd, hb⟩ := stp_back hg hn hi
  have h1 : ∀ m, stp q n (d * m) i = i := fun m => by
    induction m with
    | zero => rfl
    | succ m ih => rw [Nat.mul_succ, ← stp_add, ih, hb]
  refine ⟨d * k - k, ?_⟩
  have h2 : k ≤ d * k := Nat.le_mul_of_pos_left k (by omega)
  rw [stp_add, show k + (d * k - k) = d * k by omega, h1]
/-- Where a walk meets itself, it has met all. -/
theorem stp_closed {q n i : Int} {k t : Nat} (ht : t < k) (h : stp q n k i = stp q n t i) : ∀ m, ∃ s, s < k ∧ stp q n m i = stp q n s i
  | 0 => ⟨0, by omega, rfl⟩
  | m + 1 => by
    obtain ⟨s, hs, he⟩ := stp_closed ht h m
    by_cases hsk : s + 1 < k
    · exact ⟨s + 1, hsk, by rw [stp, he, stp]⟩
    · have : s + 1 = k := by omega
      refine ⟨t, ht, ?_⟩
      rw [stp, he, ← h, ← this, stp]

noncomputable def bOrb (q n i j : Int) : Bool := @decide (Orb q n i j) (Classical.propDecidable _)
theorem bOrb_iff {q n i j : Int} : bOrb q n i j = true ↔ Orb q n i j := by unfold bOrb; exact @decide_eq_true_iff _ (Classical.propDecidable _)
/-- The orbit of i, in ascending order. -/
noncomputable def cosL (q n i : Int) : List Int := (upI n.toNat).filter (bOrb q n i)
theorem mem_upI {k : Nat} {x : Int} : x ∈ upI k ↔ 0 ≤ x ∧ x < k := by
  unfold upI
  rw [List.mem_map]
  constructor
  · rintro ⟨a, ha, rfl⟩
    have := List.mem_range.1 ha
    omega
  · rintro ⟨h1, h2⟩
    exact ⟨x.toNat, List.mem_range.2 (by omega), by omega⟩
theorem upI_lt (k : Nat) : (upI k).Pairwise (· < ·) := by
  unfold upI
  refine List.pairwise_map.2 (List.pairwise_lt_range.imp fun h => by omega)
theorem mem_cosL {q n i j : Int} (hn : 0 ≤ n) : j ∈ cosL q n i ↔ (0 ≤ j ∧ j < n) ∧ Orb q n i j := by
  unfold cosL
  rw [List.mem_filter, mem_upI, bOrb_iff]
  have : ((n.toNat : Nat) : Int) = n := by omega
  rw [this]
theorem cosL_lt (q n i : Int) : (cosL q n i).Pairwise (· < ·) := (upI_lt _).filter _
/-- Two ascending lists of the same numbers are one. -/
theorem asc_eq : ∀ (a b : List Int), a.Pairwise (· < ·) → b.Pairwise (· < ·) → (∀ x, x ∈ a ↔ x ∈ b) → a = b
  | [], [], _, _, _ => rfl
  | [], y :: b, _, _, h => by have := (h y).2 (List.mem_cons_self ..); simp at this
  | x :: a, [], _, _, h => by have := (h x).1 (List.mem_cons_self ..); simp at this
  | x :: a, y :: b, ha, hb, h => by
    obtain ⟨ha1, ha2⟩ := List.pairwise_cons.1 ha
    obtain ⟨hb1, hb2⟩ := List.pairwise_cons.1 hb
    have hxy : x = y := by
      rcases List.mem_cons.1 ((h x).1 (List.mem_cons_self ..)) with h1 | h1
      · exact h1
      · rcases List.mem_cons.1 ((h y).2 (List.mem_cons_self ..)) with h2 | h2
        · exact h2.symm
        · have := hb1 x h1
          have := ha1 y h2
          omega
    subst hxy
    congr 1
    refine asc_eq a b ha2 hb2 fun z => ⟨fun hz => ?_, fun hz => ?_⟩
    · rcases List.mem_cons.1 ((h z).1 (List.mem_cons_of_mem _ hz)) with h1 | h1
      · have := ha1 z hz; omega
      · exact h1
    · rcases List.mem_cons.1 ((h z).2 (List.mem_cons_of_mem _ hz)) with h1 | h1
      · have := hb1 z hz; omega
      · exact h1
def sortI (xs : List Int) : List Int := xs.mergeSort fun x y => decide (x ≤ y)
theorem sortI_perm (xs : List Int) : (sortI xs).Perm xs := List.mergeSort_perm ..
theorem sortI_le (xs : List Int) : (sortI xs).Pairwise (· ≤ ·) := by
  have h := List.pairwise_mergeSort (le := fun x y : Int => decide (x ≤ y)) (fun a b c h1 h2 => by simp at h1 h2 ⊢; omega) (fun a b => by simp; omega) xs
  exact h.imp fun h => by simpa using h
theorem sortI_lt {xs : List Int} (h : xs.Nodup) : (sortI xs).Pairwise (· < ·) := by
  have h1 : (sortI xs).Nodup := (sortI_perm xs).nodup_iff.2 h
  exact (List.pairwise_and_iff.2 ⟨sortI_le xs, h1⟩).imp fun ⟨a, b⟩ => by omega
theorem sortI_length (xs : List Int) : (sortI xs).length = xs.length := (sortI_perm xs).length_eq
theorem sort_orb {q n i : Int} {xs : List Int} (hn : 1 ≤ n) (hi : 0 ≤ i ∧ i < n) (h : xs.Nodup) (hm : ∀ x, x ∈ xs ↔ Orb q n i x) : sortI xs = cosL q n i :=
  asc_eq _ _ (sortI_lt h) (cosL_lt q n i) fun x => by
    rw [(sortI_perm xs).mem_iff, hm, mem_cosL (by omega)]
    constructor
    · intro ho
      obtain ⟨k, rfl⟩ := ho
      exact ⟨stp_bd hn hi k, ⟨k, rfl⟩⟩
    · exact fun h => h.2
/-- How many are not marked. -/
def cntF (bs : List Bool) : Nat := (bs.filter (!·)).length
theorem cntF_set : ∀ (bs : List Bool) (j : Nat), j < bs.length → bs.getD j true = false → cntF (bs.set j true) < cntF bs
  | b :: bs, 0, _, h => by
    have : b = false := by simpa using h
    subst this
    simp [cntF]
  | b :: bs, j + 1, hj, h => by
    have := cntF_set bs j (by simpa using hj) (by simpa using h)
    cases b <;> simp [cntF] at this ⊢ <;> omega
theorem getDb_set (bs : List Bool) (i k : Nat) (d v : Bool) : (bs.set i v).getD k d = if i = k ∧ i < bs.length then v else bs.getD k d := by
  simp only [List.getD_eq_getElem?_getD, List.getElem?_set]
  by_cases h1 : i = k
  · subst h1
    by_cases h2 : i < bs.length
    · simp [h2]
    · simp [h2]
  · simp [h1]
/-- No smaller number has i in its orbit. -/
noncomputable def bMin (q n i : Int) : Bool := @decide (∀ x, 0 ≤ x → x < i → ¬ Orb q n x i) (Classical.propDecidable _)
theorem bMin_iff {q n i : Int} : bMin q n i = true ↔ ∀ x, 0 ≤ x → x < i → ¬ Orb q n x i := by unfold bMin; exact @decide_eq_true_iff _ (Classical.propDecidable _)
/-- All orbits. -/
noncomputable def cosAll (q n : Int) (k : Nat) : List (List Int) := ((upI k).filter (bMin q n)).map (cosL q n)
theorem cosAll_yes {q n : Int} {k : Nat} (h : bMin q n k = true) : cosAll q n (k + 1) = cosAll q n k ++ [cosL q n k] := by
  unfold cosAll
  rw [upI_succ, List.filter_append, List.map_append]
  simp [h]
theorem cosAll_no {q n : Int} {k : Nat} (h : bMin q n k = false) : cosAll q n (k + 1) = cosAll q n k := by
  unfold cosAll
  rw [upI_succ, List.filter_append, List.map_append]
  simp [h]
end Go.Proofs.Ytjmojhflnjbgaaa

/-
  NUMBERS. One sentence: what the small functions on ints return.
  Conditions: each theorem's own, written out in it.
-/
import Derived.Test.YtjmojhflnjbgaaaTypes
set_option linter.unusedSimpArgs false
set_option linter.unusedVariables false
set_option maxRecDepth 100000
namespace Go.Proofs.Ytjmojhflnjbgaaa
open Go.RowKit

theorem emod_of_tmod (i n : Int) (h : 1 ≤ n) : (i.tmod n + n) % n = i % n := by
  rw [Int.add_emod_right, Int.tmod_eq_emod]
  split
  · simp
  · have : (n.natAbs : Int) = n := by omega
    rw [this]
    simp
theorem gcd_emod (p q : Int) : Int.gcd (p % q) q = Int.gcd p q := by
  have h := Int.gcd_add_mul_left_right q (p % q) (p / q)
  rw [Int.emod_add_mul_ediv] at h
  rw [Int.gcd_comm (p % q), ← h, Int.gcd_comm]
theorem tmod_bd (i n : Int) (h : 1 ≤ n) : -n < i.tmod n ∧ i.tmod n < n := by
  have := Int.tmod_lt_of_pos i (show 0 < n by omega)
  have := Int.lt_tmod_of_pos i (show 0 < n by omega)
  omega

theorem bch_modulo_ent : Enters Try.prog 65 := enters_of Try.func65 (by kernel_rfl) (by kernel_rfl)
theorem bch_modulo (i n : Int) (hn : 1 ≤ n) (hn2 : n ≤ 4611686018427387904) :
    Pure Try.prog 65 #[.int .i64 i, .int .i64 n] [] (isV (.int .i64 (i % n))) := by
  obtain ⟨h1, h2⟩ := tmod_bd i n hn
  refine pure_of (args := [.int .i64 i, .int .i64 n]) 12 Try.func65 rfl rfl rfl bch_modulo_ent trivial (fun w0 => ?_)
  refine tr_seq ?_
  refine tr_region fun _ _ _ => ?_
  refine pu rfl rfl rfl rfl rfl ?_
  refine tr_seq ?_
  refine tr_region fun _ _ _ => ?_
  iterate 2 refine pu rfl rfl rfl rfl rfl ?_
  refine st rfl rfl rfl rfl (rRemT rfl rfl rfl (by omega)) ?_
  refine pu rfl rfl rfl rfl rfl ?_
  refine st rfl rfl rfl rfl (rAdd rfl rfl rfl (by omega) (by omega)) ?_
  refine pu rfl rfl rfl rfl rfl ?_
  refine st rfl rfl rfl rfl (rRem rfl rfl rfl (by omega) (by omega)) ?_
  refine pu rfl rfl rfl rfl rfl ?_
  exact tr_ret ⟨trivial, _, _, rfl, ⟨by rw [emod_of_tmod i n hn], rfl⟩, CSub.nil _, trivial⟩

theorem ref_mod_ent : Enters Try.prog 22 := enters_of Try.func22 (by kernel_rfl) (by kernel_rfl)
theorem ref_mod (i n : Int) (hn : 1 ≤ n) (hn2 : n ≤ 4611686018427387904) :
    Pure Try.prog 22 #[.int .i64 i, .int .i64 n] [] (isV (.int .i64 (i % n))) := by
  obtain ⟨h1, h2⟩ := tmod_bd i n hn
  refine pure_of (args := [.int .i64 i, .int .i64 n]) 12 Try.func22 rfl rfl rfl ref_mod_ent trivial (fun w0 => ?_)
  refine tr_seq ?_
  refine tr_region fun _ _ _ => ?_
  refine pu rfl rfl rfl rfl rfl ?_
  refine tr_seq ?_
  refine tr_region fun _ _ _ => ?_
  iterate 2 refine pu rfl rfl rfl rfl rfl ?_
  refine st rfl rfl rfl rfl (rRemT rfl rfl rfl (by omega)) ?_
  refine pu rfl rfl rfl rfl rfl ?_
  refine st rfl rfl rfl rfl (rAdd rfl rfl rfl (by omega) (by omega)) ?_
  refine pu rfl rfl rfl rfl rfl ?_
  refine st rfl rfl rfl rfl (rRem rfl rfl rfl (by omega) (by omega)) ?_
  refine pu rfl rfl rfl rfl rfl ?_
  exact tr_ret ⟨trivial, _, _, rfl, ⟨by rw [emod_of_tmod i n hn], rfl⟩, CSub.nil _, trivial⟩

theorem num_gcd_ent : Enters Try.prog 146 := enters_of Try.func146 (by kernel_rfl) (by kernel_rfl)
theorem num_gcd (a b : Int) (ha : 0 ≤ a) (hb : 0 ≤ b) :
    Pure Try.prog 146 #[.int .i64 a, .int .i64 b] [] (isV (.int .i64 (Int.gcd a b))) := by
  refine pure_of (args := [.int .i64 a, .int .i64 b]) 12 Try.func146 rfl rfl rfl num_gcd_ent trivial (fun w0 => ?_)
  refine tr_seq ?_
  refine tr_region fun _ _ _ => ?_
  refine pu rfl rfl rfl rfl rfl ?_
  refine tr_seq ?_
  refine tr_block ?_
  refine tr_loop2 (fun (p : Int) (q : Int) => [(0, .int .i64 p), (1, .int .i64 q)]) (fun (p : Int) (q : Int) => []) (fun (p : Int) (q : Int) => 0 ≤ p ∧ 0 ≤ q ∧ Int.gcd p q = Int.gcd a b) (fun (p : Int) (q : Int) => q.toNat) (a) (b) ⟨rfl, rfl, trivial⟩ (by first | exact cs _ _ | exact CSub.refl _) (⟨ha, hb, rfl⟩) (fun p q hI => ?_)
  obtain ⟨hp, hq, hg⟩ := hI
  refine tr_seq ?_
  refine tr_seq ?_
  refine tr_region fun _ _ _ => ?_
  iterate 2 refine pu rfl rfl rfl rfl rfl ?_
  refine tr_cond_bool rfl (fun h1 => ?_) (fun h1 => ?_)
  · try simp only [zb1, zb2, zb3, zb4, zb5, zb6, zb7, zb8, zb9, zb10] at h1
    refine tr_skip ?_
    refine tr_block ?_
    refine tr_draw [0, 1, 2, 3, 4, 5] [] mixed (by kernel_rfl) fun _ _ _ => ?_
    iterate 3 refine pu rfl rfl rfl rfl rfl ?_
    refine st rfl rfl rfl rfl (rRem rfl rfl rfl (by omega) (by omega)) ?_
    iterate 2 refine pu rfl rfl rfl rfl rfl ?_
    refine ⟨q, p % q, ⟨rfl, rfl, trivial⟩, by first | exact cs _ _ | exact CSub.refl _, ?_⟩
    have h0 := Int.emod_nonneg p (show q ≠ 0 by omega)
    have h9 := Int.emod_lt_of_pos p (show 0 < q by omega)
    refine ⟨⟨hq, h0, ?_⟩, by omega⟩
    rw [← hg, Int.gcd_comm q, gcd_emod]
  · try simp only [zb1, zb2, zb3, zb4, zb5, zb6, zb7, zb8, zb9, zb10] at h1
    refine tr_exit ?_
    refine tr_seq ?_
    refine tr_region fun _ _ _ => ?_
    iterate 2 refine pu rfl rfl rfl rfl rfl ?_
    exact tr_ret ⟨trivial, _, _, rfl, ⟨by
      have : q = 0 := by omega
      subst this
      have h7 : (p.natAbs : Int) = p := by omega
      rw [← hg, Int.gcd_zero_right, h7], rfl⟩, CSub.nil _, trivial⟩

theorem ref_common_ent : Enters Try.prog 44 := enters_of Try.func44 (by kernel_rfl) (by kernel_rfl)
theorem ref_common (a b : Int) (ha : 0 ≤ a) (hb : 0 ≤ b) :
    Pure Try.prog 44 #[.int .i64 a, .int .i64 b] [] (isV (.int .i64 (Int.gcd a b))) := by
  refine pure_of (args := [.int .i64 a, .int .i64 b]) 12 Try.func44 rfl rfl rfl ref_common_ent trivial (fun w0 => ?_)
  refine tr_seq ?_
  refine tr_region fun _ _ _ => ?_
  refine pu rfl rfl rfl rfl rfl ?_
  refine tr_seq ?_
  refine tr_block ?_
  refine tr_loop2 (fun (p : Int) (q : Int) => [(0, .int .i64 p), (1, .int .i64 q)]) (fun (p : Int) (q : Int) => []) (fun (p : Int) (q : Int) => 0 ≤ p ∧ 0 ≤ q ∧ Int.gcd p q = Int.gcd a b) (fun (p : Int) (q : Int) => q.toNat) (a) (b) ⟨rfl, rfl, trivial⟩ (by first | exact cs _ _ | exact CSub.refl _) (⟨ha, hb, rfl⟩) (fun p q hI => ?_)
  obtain ⟨hp, hq, hg⟩ := hI
  refine tr_seq ?_
  refine tr_seq ?_
  refine tr_region fun _ _ _ => ?_
  iterate 2 refine pu rfl rfl rfl rfl rfl ?_
  refine tr_cond_bool rfl (fun h1 => ?_) (fun h1 => ?_)
  · try simp only [zb1, zb2, zb3, zb4, zb5, zb6, zb7, zb8, zb9, zb10] at h1
    refine tr_skip ?_
    refine tr_block ?_
    refine tr_draw [0, 1, 2, 3, 4, 5] [] mixed (by kernel_rfl) fun _ _ _ => ?_
    iterate 3 refine pu rfl rfl rfl rfl rfl ?_
    refine st rfl rfl rfl rfl (rRem rfl rfl rfl (by omega) (by omega)) ?_
    iterate 2 refine pu rfl rfl rfl rfl rfl ?_
    refine ⟨q, p % q, ⟨rfl, rfl, trivial⟩, by first | exact cs _ _ | exact CSub.refl _, ?_⟩
    have h0 := Int.emod_nonneg p (show q ≠ 0 by omega)
    have h9 := Int.emod_lt_of_pos p (show 0 < q by omega)
    refine ⟨⟨hq, h0, ?_⟩, by omega⟩
    rw [← hg, Int.gcd_comm q, gcd_emod]
  · try simp only [zb1, zb2, zb3, zb4, zb5, zb6, zb7, zb8, zb9, zb10] at h1
    refine tr_exit ?_
    refine tr_seq ?_
    refine tr_region fun _ _ _ => ?_
    iterate 2 refine pu rfl rfl rfl rfl rfl ?_
    exact tr_ret ⟨trivial, _, _, rfl, ⟨by
      have : q = 0 := by omega
      subst this
      have h7 : (p.natAbs : Int) = p := by omega
      rw [← hg, Int.gcd_zero_right, h7], rfl⟩, CSub.nil _, trivial⟩

theorem num_in_ent : Enters Try.prog 177 := enters_of Try.func177 (by kernel_rfl) (by kernel_rfl)
theorem num_in (a b : Int) :
    Pure Try.prog 177 #[.int .i64 a, .int .i64 b] [] (isV (.bool (decide (a ≥ b) && decide (a ≤ 2147483647)))) := by
  refine pure_of (args := [.int .i64 a, .int .i64 b]) 12 Try.func177 rfl rfl rfl num_in_ent trivial (fun w0 => ?_)
  refine tr_seq ?_
  refine tr_region fun _ _ _ => ?_
  refine pu rfl rfl rfl rfl rfl ?_
  refine tr_seq ?_
  refine tr_region fun _ _ _ => ?_
  iterate 4 refine pu rfl rfl rfl rfl rfl ?_
  refine stg rfl rfl rfl rfl rfl (fun hb => by (have hq := hb; try simp only [zb1, zb2, zb3, zb4, zb5, zb6, zb7, zb8, zb9, zb10] at hq); exact rMove rfl rfl) ?_
  refine stg rfl rfl rfl rfl rfl (fun hb => by (have hq := hb; try simp only [zb1, zb2, zb3, zb4, zb5, zb6, zb7, zb8, zb9, zb10] at hq); exact rLeq rfl (evg rfl hb) rfl) ?_
  refine st rfl rfl rfl rfl (rAndB rfl rfl rfl rfl) ?_
  refine pu rfl rfl rfl rfl rfl ?_
  exact tr_ret ⟨trivial, _, _, rfl, ⟨rfl, rfl⟩, CSub.nil _, trivial⟩

theorem num_both_ent : Enters Try.prog 145 := enters_of Try.func145 (by kernel_rfl) (by kernel_rfl)
theorem num_both (a b : Int) :
    Pure Try.prog 145 #[.int .i64 a, .int .i64 b] [] (isV (.bool ((decide (a ≥ -2147483647) && decide (a ≤ 2147483647)) && (decide (b ≥ -2147483647) && decide (b ≤ 2147483647))))) := by
  refine pure_of (args := [.int .i64 a, .int .i64 b]) 11 Try.func145 rfl rfl rfl num_both_ent trivial (fun w0 => ?_)
  refine tr_seq ?_
  refine tr_region fun _ _ _ => ?_
  refine pu rfl rfl rfl rfl rfl ?_
  refine tr_seq ?_
  refine tr_region fun _ _ _ => ?_
  refine pu rfl rfl rfl rfl rfl ?_
  refine ef rfl rfl (eCallV rfl rfl rfl (num_in _ _) ⟨rfl, rfl, trivial⟩ ?_) 
  refine pu rfl rfl rfl rfl rfl ?_
  refine stg rfl rfl rfl rfl rfl (fun hb => by (have hq := hb; try simp only [zb1, zb2, zb3, zb4, zb5, zb6, zb7, zb8, zb9, zb10] at hq); exact rMove rfl rfl) ?_
  refine efg rfl rfl rfl rfl rfl (fun hb => by (have hq := hb; try simp only [zb1, zb2, zb3, zb4, zb5, zb6, zb7, zb8, zb9, zb10] at hq); exact eCallV rfl rfl rfl (num_in _ _) ⟨(evg rfl hb), rfl, trivial⟩ ⟨rfl, rfl⟩) ?_
  refine st rfl rfl rfl rfl (rAndB rfl rfl rfl rfl) ?_
  refine pu rfl rfl rfl rfl rfl ?_
  exact tr_ret ⟨trivial, _, _, rfl, ⟨rfl, rfl⟩, CSub.nil _, trivial⟩

theorem num_abs_ent : Enters Try.prog 147 := enters_of Try.func147 (by kernel_rfl) (by kernel_rfl)
theorem num_abs (a : Int) (h1 : -9223372036854775807 ≤ a) (h2 : a ≤ 9223372036854775807) :
    Pure Try.prog 147 #[.int .i64 a] [] (isV (.int .i64 (max a (-a)))) := by
  refine pure_of (args := [.int .i64 a]) 7 Try.func147 rfl rfl rfl num_abs_ent trivial (fun w0 => ?_)
  refine tr_seq ?_
  refine tr_region fun _ _ _ => ?_
  refine pu rfl rfl rfl rfl rfl ?_
  refine tr_seq ?_
  refine tr_region fun _ _ _ => ?_
  iterate 2 refine pu rfl rfl rfl rfl rfl ?_
  refine st rfl rfl rfl rfl (rNeg rfl rfl (by omega) (by omega)) ?_
  refine st rfl rfl rfl rfl (rMax rfl rfl rfl) ?_
  refine pu rfl rfl rfl rfl rfl ?_
  exact tr_ret ⟨trivial, _, _, rfl, ⟨rfl, rfl⟩, CSub.nil _, trivial⟩

theorem num_Gcd_ent : Enters Try.prog 99 := enters_of Try.func99 (by kernel_rfl) (by kernel_rfl)
theorem num_Gcd (a b : Int) (h1 : -2147483647 ≤ a) (h2 : a ≤ 2147483647) (h3 : -2147483647 ≤ b) (h4 : b ≤ 2147483647) :
    Pure Try.prog 99 #[.int .i64 a, .int .i64 b] [] (isV (.tuple #[.int .i64 (Int.gcd a b), .int .i64 0])) := by
  refine pure_of (args := [.int .i64 a, .int .i64 b]) 15 Try.func99 rfl rfl rfl num_Gcd_ent trivial (fun w0 => ?_)
  refine tr_seq ?_
  refine tr_region fun _ _ _ => ?_
  iterate 2 refine pu rfl rfl rfl rfl rfl ?_
  refine tr_seq ?_
  refine tr_seq ?_
  refine tr_region fun _ _ _ => ?_
  iterate 2 refine pu rfl rfl rfl rfl rfl ?_
  refine ef rfl rfl (eCallV rfl rfl rfl (num_both _ _) ⟨rfl, rfl, trivial⟩ ?_) 
  refine st rfl rfl rfl rfl (rNotB rfl rfl) ?_
  refine tr_cond_bool rfl (fun h1 => ?_) (fun h1 => ?_)
  · try simp only [zb1, zb2, zb3, zb4, zb5, zb6, zb7, zb8, zb9, zb10] at h1
    exfalso
    omega --done
  · try simp only [zb1, zb2, zb3, zb4, zb5, zb6, zb7, zb8, zb9, zb10] at h1
    refine tr_skip ?_
    refine tr_seq ?_
    refine tr_region fun _ _ _ => ?_
    refine pu rfl rfl rfl rfl rfl ?_
    refine ef rfl rfl (eCallV rfl rfl rfl (num_abs _ (by omega) (by omega)) ⟨rfl, trivial⟩ ?_) 
    refine pu rfl rfl rfl rfl rfl ?_
    refine ef rfl rfl (eCallV rfl rfl rfl (num_abs _ (by omega) (by omega)) ⟨rfl, trivial⟩ ?_) 
    refine ef rfl rfl (eCallV rfl rfl rfl (num_gcd _ _ (by omega) (by omega)) ⟨rfl, rfl, trivial⟩ ?_) 
    iterate 2 refine pu rfl rfl rfl rfl rfl ?_
    exact tr_ret ⟨trivial, _, _, rfl, ⟨by
      have e1 : max a (-a) = (a.natAbs : Int) := by omega
      have e2 : max b (-b) = (b.natAbs : Int) := by omega
      rw [e1, e2]
      simp [Int.gcd], rfl⟩, CSub.nil _, trivial⟩

theorem bch_far_ent : Enters Try.prog 62 := enters_of Try.func62 (by kernel_rfl) (by kernel_rfl)
theorem bch_far (a : Int) :
    Pure Try.prog 62 #[.int .i64 a] [] (isV (.bool (decide (a < -2147483648) || decide (a > 2147483648)))) := by
  refine pure_of (args := [.int .i64 a]) 9 Try.func62 rfl rfl rfl bch_far_ent trivial (fun w0 => ?_)
  refine tr_seq ?_
  refine tr_region fun _ _ _ => ?_
  refine pu rfl rfl rfl rfl rfl ?_
  refine tr_seq ?_
  refine tr_region fun _ _ _ => ?_
  iterate 3 refine pu rfl rfl rfl rfl rfl ?_
  refine stg rfl rfl rfl rfl rfl (fun hb => by (have hq := hb; try simp only [zb1, zb2, zb3, zb4, zb5, zb6, zb7, zb8, zb9, zb10] at hq); exact rMove rfl rfl) ?_
  refine stg rfl rfl rfl rfl rfl (fun hb => by (have hq := hb; try simp only [zb1, zb2, zb3, zb4, zb5, zb6, zb7, zb8, zb9, zb10] at hq); exact rGtr rfl (evg rfl hb) rfl) ?_
  refine st rfl rfl rfl rfl (rOrB rfl rfl rfl rfl) ?_
  refine pu rfl rfl rfl rfl rfl ?_
  exact tr_ret ⟨trivial, _, _, rfl, ⟨rfl, rfl⟩, CSub.nil _, trivial⟩

theorem ref_wide_ent : Enters Try.prog 117 := enters_of Try.func117 (by kernel_rfl) (by kernel_rfl)
theorem ref_wide (a : Int) :
    Pure Try.prog 117 #[.int .i64 a] [] (isV (.bool (decide (a ≥ -2147483648) && decide (a ≤ 2147483648)))) := by
  refine pure_of (args := [.int .i64 a]) 9 Try.func117 rfl rfl rfl ref_wide_ent trivial (fun w0 => ?_)
  refine tr_seq ?_
  refine tr_region fun _ _ _ => ?_
  refine pu rfl rfl rfl rfl rfl ?_
  refine tr_seq ?_
  refine tr_region fun _ _ _ => ?_
  iterate 3 refine pu rfl rfl rfl rfl rfl ?_
  refine stg rfl rfl rfl rfl rfl (fun hb => by (have hq := hb; try simp only [zb1, zb2, zb3, zb4, zb5, zb6, zb7, zb8, zb9, zb10] at hq); exact rMove rfl rfl) ?_
  refine stg rfl rfl rfl rfl rfl (fun hb => by (have hq := hb; try simp only [zb1, zb2, zb3, zb4, zb5, zb6, zb7, zb8, zb9, zb10] at hq); exact rLeq rfl (evg rfl hb) rfl) ?_
  refine st rfl rfl rfl rfl (rAndB rfl rfl rfl rfl) ?_
  refine pu rfl rfl rfl rfl rfl ?_
  exact tr_ret ⟨trivial, _, _, rfl, ⟨rfl, rfl⟩, CSub.nil _, trivial⟩

theorem bch_divisor_ent : Enters Try.prog 63 := enters_of Try.func63 (by kernel_rfl) (by kernel_rfl)
theorem bch_divisor (a n : Int) (hn : 1 ≤ n) (hn2 : n ≤ 100000) :
    Pure Try.prog 63 #[.int .i64 a, .int .i64 n] [] (isV (.int .i64 (Int.gcd a n))) := by
  have h0 := Int.emod_nonneg a (show n ≠ 0 by omega)
  have h9 := Int.emod_lt_of_pos a (show 0 < n by omega)
  refine pure_of (args := [.int .i64 a, .int .i64 n]) 16 Try.func63 rfl rfl rfl bch_divisor_ent trivial (fun w0 => ?_)
  refine tr_seq ?_
  refine tr_region fun _ _ _ => ?_
  refine pu rfl rfl rfl rfl rfl ?_
  refine tr_seq ?_
  refine tr_region fun _ _ _ => ?_
  iterate 2 refine pu rfl rfl rfl rfl rfl ?_
  refine ef rfl rfl (eCallV rfl rfl rfl (bch_modulo _ _ (by omega) (by omega)) ⟨rfl, rfl, trivial⟩ ?_) 
  refine pu rfl rfl rfl rfl rfl ?_
  refine ef rfl rfl (eCallV rfl rfl rfl (num_Gcd _ _ (by omega) (by omega) (by omega) (by omega)) ⟨rfl, rfl, trivial⟩ ?_) 
  iterate 5 refine pu rfl rfl rfl rfl rfl ?_
  refine tr_seq ?_
  refine tr_region fun _ _ _ => ?_
  iterate 2 refine pu rfl rfl rfl rfl rfl ?_
  exact tr_ret ⟨trivial, _, _, rfl, ⟨by rw [gcd_emod], rfl⟩, CSub.nil _, trivial⟩

theorem ref_Gcd_ent : Enters Try.prog 21 := enters_of Try.func21 (by kernel_rfl) (by kernel_rfl)
theorem ref_Gcd (a n : Int) (ha : 0 ≤ a) (hn : 0 ≤ n) :
    Pure Try.prog 21 #[.int .i64 a, .int .i64 n] [] (isV (.int .i64 (Int.gcd a n))) := by
  refine pure_of (args := [.int .i64 a, .int .i64 n]) 11 Try.func21 rfl rfl rfl ref_Gcd_ent trivial (fun w0 => ?_)
  refine tr_seq ?_
  refine tr_region fun _ _ _ => ?_
  refine pu rfl rfl rfl rfl rfl ?_
  refine tr_seq ?_
  refine tr_seq ?_
  refine tr_region fun _ _ _ => ?_
  iterate 2 refine pu rfl rfl rfl rfl rfl ?_
  refine tr_cond_bool rfl (fun h1 => ?_) (fun h1 => ?_)
  · try simp only [zb1, zb2, zb3, zb4, zb5, zb6, zb7, zb8, zb9, zb10] at h1
    refine tr_seq ?_
    refine tr_region fun _ _ _ => ?_
    iterate 2 refine pu rfl rfl rfl rfl rfl ?_
    exact tr_ret ⟨trivial, _, _, rfl, ⟨by
      subst h1
      have h7 : (n.natAbs : Int) = n := by omega
      rw [Int.gcd_zero_left, h7], rfl⟩, CSub.nil _, trivial⟩
  · try simp only [zb1, zb2, zb3, zb4, zb5, zb6, zb7, zb8, zb9, zb10] at h1
    refine tr_skip ?_
    refine tr_seq ?_
    refine tr_region fun _ _ _ => ?_
    iterate 2 refine pu rfl rfl rfl rfl rfl ?_
    refine ef rfl rfl (eCallV rfl rfl rfl (ref_common _ _ (by omega) (by omega)) ⟨rfl, rfl, trivial⟩ ?_) 
    refine pu rfl rfl rfl rfl rfl ?_
    exact tr_ret ⟨trivial, _, _, rfl, ⟨rfl, rfl⟩, CSub.nil _, trivial⟩

end Go.Proofs.Ytjmojhflnjbgaaa

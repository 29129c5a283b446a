/-
  FACTORCOUNTED, PART 7 OF 8. One sentence: the texts behind the law FactorCounted, put together.
  Conditions: each theorem's own, written out in it.
-/
import Derived.Test.YtdkahdehodopoaaK6
set_option linter.unusedSimpArgs false
set_option linter.unusedVariables false
set_option linter.unusedSectionVars false
set_option maxRecDepth 100000
namespace Go.Proofs.Ytdkahdehodopoaa
open Go.RowKit
theorem law06_digits_ent : Enters Try.prog 13 := enters_of Try.func13 (by kernel_rfl) (by kernel_rfl)
theorem law06_digits (q n v : Int) (hq : 2 ≤ q) (hq9 : q ≤ 256) (hn : 1 ≤ n) (hn9 : n ≤ 256) (hv : 0 ≤ v) (hv9 : v ≤ 1000000) :
  Pure Try.prog 13 #[.int .i64 q, .int .i64 n, .int .i64 v] [] (one (fun w ch => ∃ B, w = .slice B (dgm q.toNat n.toNat v.toNat).length (dgm q.toNat n.toNat v.toNat).length ∧ ch = ow B 3 (dgm q.toNat n.toNat v.toNat).length (ints (dgm q.toNat n.toNat v.toNat)))) := by
 have hdl := dgm_len q.toNat n.toNat v.toNat
 refine pure_of (args := [.int .i64 q, .int .i64 n, .int .i64 v]) 30 Try.func13 rfl rfl rfl law06_digits_ent trivial (fun w0 => ?_)
 refine tS ?_
 refine tR fun _ _ _ => ?_
 refine pV ?_
 refine tS ?_
 refine tR fun _ _ _ => ?_
 refine pV ?_
 refine sV (rAdd rfl rfl rfl (by omega) (by omega)) ?_
 refine eV (eMakeI rfl rfl rfl rfl rfl (by omega) (by omega) (by omega) (fun A1 => ?_))
 refine pV ?_
 refine tS ?_
 refine tS ?_
 refine tR fun _ _ _ => ?_
 refine pV ?_
 refine tB ?_
 refine tr_loop3 (fun (i : Int) (u : Int) (o : List Int) => [(8, .int .i64 i), (2, .int .i64 u), (7, .slice A1 (n + 1).toNat (n + 1).toNat), (0, .int .i64 q), (1, .int .i64 n), (6, .slice none 0 0)]) (fun (i : Int) (u : Int) (o : List Int) => [ow A1 3 (n + 1).toNat (ints o)]) (fun (i : Int) (u : Int) (o : List Int) => (0 ≤ i ∧ i ≤ n) ∧ u = ((v.toNat / q.toNat ^ i.toNat : Nat) : Int) ∧ o.length = (n + 1).toNat ∧ (∀ j : Nat, (j : Int) < i → o.getD j 0 = ((v.toNat / q.toNat ^ j % q.toNat : Nat) : Int))) (fun (i : Int) (u : Int) (o : List Int) => (n - i).toNat) (0) (v) (List.replicate (n + 1).toNat 0) ⟨rfl, rfl, rfl, rfl, rfl, rfl, trivial⟩ (by first | exact cs _ _ | exact CSub.refl _) (⟨⟨by omega, by omega⟩, by rw [show ((0 : Int).toNat) = 0 from rfl, Nat.pow_zero, Nat.div_one]; omega, List.length_replicate, fun j hj => by omega⟩) (fun i u o hI => ?_)
 obtain ⟨⟨hi0, hi1⟩, hu, hol, hall⟩ := hI
 refine tS ?_
 refine tS ?_
 refine tR fun _ _ _ => ?_
 iterate 3 refine pV ?_
 refine tC rfl (fun h3 => ?_) (fun h3 => ?_)
 ·try simp only [zbA] at h3
  refine tK ?_
  refine tS ?_
  refine tB ?_
  refine tS ?_
  have hu0 : 0 ≤ u := by rw [hu]; exact Int.natCast_nonneg _
  have hu9 : u ≤ v := by rw [hu]; exact Int.le_trans (Int.ofNat_le.2 (Nat.div_le_self _ _)) (by omega)
  refine tR fun _ _ _ => ?_
  iterate 4 refine pV ?_
  refine sV (rRem rfl rfl rfl (by omega) (by omega)) ?_
  refine sV (rIdxI rfl rfl rfl (by omega) (by omega) (by omega)) ?_
  refine eV (eStI rfl rfl rfl rfl (by omega) ?_)
  refine tR fun _ _ _ => ?_
  iterate 2 refine pV ?_
  refine sV (rQuo rfl rfl rfl (by omega) (by omega)) ?_
  refine pV ?_
  refine tR fun _ _ _ => ?_
  refine pV ?_
  refine sV (rAdd rfl rfl rfl (by omega) (by omega)) ?_
  refine pV ?_
  refine ⟨i + 1, u / q, o.set i.toNat (u % q), ⟨rfl, rfl, rfl, rfl, rfl, rfl, trivial⟩, by first | exact cs _ _ | exact CSub.refl _, ?_⟩
  refine ⟨⟨⟨by omega, by omega⟩, ?_, by rw [List.length_set]; exact hol, fun j hj => ?_⟩, by omega⟩
  ·have e : ((v.toNat / q.toNat ^ i.toNat / q.toNat : Nat) : Int) = ((v.toNat / q.toNat ^ i.toNat : Nat) : Int) / q := by rw [Int.natCast_ediv (v.toNat / q.toNat ^ i.toNat), Int.toNat_of_nonneg (show 0 ≤ q by omega)]
   rw [hu, show (i + 1).toNat = i.toNat + 1 by omega, Nat.pow_succ, ← Nat.div_div_eq_div_mul, e]
  ·rw [getD_set]
   by_cases e : i.toNat = j
   ·rw [if_pos ⟨e, by omega⟩, hu, ← e, Int.natCast_emod, Int.toNat_of_nonneg (by omega)]
   ·rw [if_neg fun g => e g.1]; exact hall j (by omega)
 ·try simp only [zbA] at h3
  refine tE ?_
  refine tS ?_
  have hin : i.toNat = n.toNat := by omega
  refine tR fun _ _ _ => ?_
  iterate 2 refine pV ?_
  refine sV (rIdxI rfl rfl rfl (by omega) (by omega) (by omega)) ?_
  refine eV (eStI rfl rfl rfl rfl (by omega) ?_)
  refine tS ?_
  refine tR fun _ _ _ => ?_
  iterate 2 refine pV ?_
  have hod : o.set n.toNat 1 = (dgm q.toNat n.toNat v.toNat) := ext_getD (by rw [List.length_set]; omega) fun j => by
   rw [getD_set, dgm_get]
   by_cases a : j < n.toNat
   ·rw [if_neg (by omega), if_pos a]; exact hall j (by omega)
   ·rw [if_neg a]
    by_cases b : j = n.toNat
    ·rw [if_pos ⟨b.symm, by omega⟩, if_pos b]
    ·rw [if_neg fun g => b g.1.symm, if_neg b, getD_out (by omega)]
  rw [hod, show (n + 1).toNat = (dgm q.toNat n.toNat v.toNat).length by omega]
  exact tr_ret ⟨trivial, _, _, rfl, ⟨_, rfl, A1, rfl, rfl⟩, cs _ _, trivial, trivial⟩
theorem law_FactorCounted_no_ent : Enters Try.prog 4 := enters_of Try.func4 (by kernel_rfl) (by kernel_rfl)
theorem law_FactorCounted_no (p m : Int) (A : Option Addr) (c : Nat) (mod : List Int) (hl9 : mod.length ≤ 17592186044415) (n : Int) (hF : ¬ FldR p m mod) :
  Pure Try.prog 4 #[.agg #[.int .i64 p, .int .i64 m, .slice A mod.length c], .int .i64 n] [ro A (ints mod)] (isV (.bool true)) := by
 refine pure_of (args := [.agg #[.int .i64 p, .int .i64 m, .slice A mod.length c], .int .i64 n]) 81 Try.func4 rfl rfl rfl law_FactorCounted_no_ent ⟨id, trivial⟩ (fun w0 => ?_)
 refine tS ?_
 refine tR fun _ _ _ => ?_
 refine eV (eBox rfl rfl rfl rfl rfl (fun p0 => ?_))
 refine pV ?_
 refine tS ?_
 refine tR fun _ _ _ => ?_
 refine sV (rLdS rfl rfl rfl) ?_
 refine eV (eCallV rfl rfl rfl (law_open_no _ _ _ _ _ (by omega) hF) ⟨rfl, trivial⟩ ?_)
 iterate 7 refine pV ?_
 refine tS ?_
 refine tS ?_
 refine tR fun _ _ _ => ?_
 refine pV ?_
 refine tC rfl (fun h2 => ?_) (fun h2 => ?_)
 ·try simp only [zbA] at h2
  refine tS ?_
  refine tR fun _ _ _ => ?_
  iterate 2 refine pV ?_
  exact tr_ret ⟨trivial, _, _, rfl, ⟨rfl, rfl⟩, CSub.nil _, trivial⟩
 ·try simp only [zbA] at h2
  cases h2 --done
theorem irB_count {p m : Int} {mod : List Int} [hF : IsF p m mod] (n k : Nat) : ((List.range k).filter fun v => irB (dgP p m mod n v)).length = ((List.range k).filter fun v => @decide (Po.Ir (dgP p m mod n v)) (Classical.propDecidable _)).length := by
 congr 1
theorem irr_all {p m : Int} {mod : List Int} [hF : IsF p m mod] (g : GfM) (hg : GOk g p m mod) (B : Option Addr) (c : Nat) (a : List Int) (ha9 : a.length ≤ 1000000) (k : Nat) (hk : Po.len (pol a : Po (El p m mod)) = k + 1) (h1 : 1 ≤ k) (h9 : k ≤ 256) : Pure Try.prog 12 #[.pointer (some g.p), .slice B a.length c] [gfR g, ro B (ints a)] (isV (.tuple #[.bool (irB (pol a : Po (El p m mod))), .int .i64 0])) :=
 fac_IrrX g hg B _ c a rfl (by omega) (by unfold facE; rw [if_neg (by omega), if_neg (by omega)]) k hk h1 h9
theorem dgm_cnt {p m : Int} {mod : List Int} [hF : IsF p m mod] {n : Nat} {v : Int} (hv : 0 ≤ v) : ((List.range (v + 1).toNat).filter fun v => irB (dgP p m mod n v)).length = ((List.range v.toNat).filter fun v => irB (dgP p m mod n v)).length + if irB (dgP p m mod n v.toNat) then 1 else 0 := by
 rw [show (v + 1).toNat = v.toNat + 1 by omega, List.range_succ, List.filter_append, List.length_append]
 cases h : irB (dgP p m mod n v.toNat) <;> simp [h]
theorem flt_le (k : Nat) (P : Nat → Bool) : ((List.range k).filter P).length ≤ k := by
 have := List.length_filter_le P (List.range k)
 rwa [List.length_range] at this
theorem law_FactorCounted_G_ent : Enters Try.prog 4 := enters_of Try.func4 (by kernel_rfl) (by kernel_rfl)
theorem law_FactorCounted_G (p m : Int) (A : Option Addr) (c : Nat) (mod : List Int) [hF : IsF p m mod] (hl9 : mod.length ≤ 17592186044415) (n : Int) :
  Pure Try.prog 4 #[.agg #[.int .i64 p, .int .i64 m, .slice A mod.length c], .int .i64 n] [ro A (ints mod)] (isV (.bool true)) := by
 have hord := hF.ord
 have hq2 := hF.q2
 have hq9 : pw p m ≤ 256 := by have := hF.out.1.1.q; omega
 refine pure_of (args := [.agg #[.int .i64 p, .int .i64 m, .slice A mod.length c], .int .i64 n]) 81 Try.func4 rfl rfl rfl law_FactorCounted_G_ent ⟨id, trivial⟩ (fun w0 => ?_)
 refine tS ?_
 refine tR fun _ _ _ => ?_
 refine eV (eBox rfl rfl rfl rfl rfl (fun p0 => ?_))
 refine pV ?_
 refine tS ?_
 refine tR fun _ _ _ => ?_
 refine sV (rLdS rfl rfl rfl) ?_
 refine eV (eCall1 rfl rfl rfl (law_open_ok _ _ _ _ _ (by omega) hF.out) ⟨rfl, trivial⟩ ?_)
 rintro _ _ ⟨g, rfl, rfl, hg⟩
 iterate 7 refine pV ?_
 refine tS ?_
 refine tS ?_
 refine tR fun _ _ _ => ?_
 refine pV ?_
 refine tC rfl (fun h2 => ?_) (fun h2 => ?_)
 ·try simp only [zbA] at h2
  cases h2 --done
 ·try simp only [zbA] at h2
  refine tK ?_
  refine tS ?_
  refine tS ?_
  refine tR fun _ _ _ => ?_
  refine pV ?_
  refine eV (eCallV rfl rfl rfl (law06_alive g hg) ⟨rfl, trivial⟩ ?_)
  refine sV (rNotB rfl rfl) ?_
  refine tC rfl (fun h4 => ?_) (fun h4 => ?_)
  ·try simp only [zbA] at h4
   simp at h4 --done
  ·try simp only [zbA] at h4
   refine tK ?_
   refine tS ?_
   refine tR fun _ _ _ => ?_
   refine sV (rLdS rfl rfl rfl) ?_
   refine eV (eCallV rfl rfl rfl (ref_order p m A c mod) ⟨rfl, trivial⟩ ?_)
   rw [hord]
   refine pV ?_
   refine tS ?_
   refine tR fun _ _ _ => ?_
   refine pV ?_
   refine tS ?_
   refine tS ?_
   refine tR fun _ _ _ => ?_
   refine pV ?_
   refine tB ?_
   refine tr_loop2 (fun (i : Int) (s : Int) => [(9, .int .i64 s), (10, .int .i64 i), (5, .pointer (some g.p)), (1, .int .i64 n), (4, .bool false), (8, .int .i64 (pw p m))]) (fun (i : Int) (s : Int) => [gfN g, blk p0 24 [.int .i64 p, .int .i64 m, .slice A mod.length c], ro A (ints mod)]) (fun (i : Int) (s : Int) => (0 ≤ i ∧ (i ≤ n ∨ i = 0)) ∧ (1 ≤ s ∧ s ≤ 1024 * 256) ∧ s = (((pw p m).toNat ^ i.toNat : Nat) : Int)) (fun (i : Int) (s : Int) => (n - i).toNat) (0) (1) ⟨rfl, rfl, rfl, rfl, rfl, rfl, trivial⟩ (by first | exact cs _ _ | exact CSub.refl _) (⟨⟨by omega, by omega⟩, ⟨by omega, by omega⟩, by rw [show ((0 : Int).toNat) = 0 from rfl, Nat.pow_zero]; rfl⟩) (fun i s hI => ?_)
   obtain ⟨⟨hi0, hi1⟩, ⟨hs0, hs1⟩, hs⟩ := hI
   refine tS ?_
   refine tS ?_
   refine tR fun _ _ _ => ?_
   iterate 4 refine pV ?_
   refine stg rfl rfl rfl rfl rfl (fun hb => by (have hq := hb; try simp only [zbA] at hq); exact rMove rfl rfl) ?_
   refine stg rfl rfl rfl rfl rfl (fun hb => by (have hq := hb; try simp only [zbA] at hq); exact rLeq rfl (evg rfl hb) rfl) ?_
   refine sV (rAndB rfl rfl rfl rfl) ?_
   refine tC rfl (fun h9 => ?_) (fun h9 => ?_)
   ·try simp only [zbA] at h9
    refine tK ?_
    refine tS ?_
    refine tB ?_
    have hlt : i < n ∧ s ≤ 1024 := by simpa using h9
    have hm1 : s * pw p m ≤ 1024 * 256 := Int.mul_le_mul (by omega) (by omega) (by omega) (by omega)
    have hm0 : 0 < s * pw p m := Int.mul_pos (by omega) (by omega)
    have hi81 : i ≤ 1024 := by
     have h1 := Nat.lt_pow_self (n := i.toNat) (a := (pw p m).toNat) (by omega)
     omega
    refine tR fun _ _ _ => ?_
    iterate 2 refine pV ?_
    refine sV (rMul rfl rfl rfl (by omega) (by omega)) ?_
    refine pV ?_
    refine tR fun _ _ _ => ?_
    refine pV ?_
    refine sV (rAdd rfl rfl rfl (by omega) (by omega)) ?_
    refine pV ?_
    refine ⟨i + 1, s * pw p m, ⟨rfl, rfl, rfl, rfl, rfl, rfl, trivial⟩, by first | exact cs _ _ | exact CSub.refl _, ?_⟩
    refine ⟨⟨⟨by omega, by omega⟩, ⟨by omega, by omega⟩, ?_⟩, by omega⟩
    rw [show (i + 1).toNat = i.toNat + 1 by omega, Nat.pow_succ, Int.natCast_mul, ← hs]
    congr 1; omega
   ·try simp only [zbA] at h9
    refine tE ?_
    refine tS ?_
    refine tS ?_
    refine tR fun _ _ _ => ?_
    iterate 3 refine pV ?_
    refine stg rfl rfl rfl rfl rfl (fun hb => by (have hq := hb; try simp only [zbA] at hq); exact rMove rfl rfl) ?_
    refine stg rfl rfl rfl rfl rfl (fun hb => by (have hq := hb; try simp only [zbA] at hq); exact rGtr rfl (evg rfl hb) rfl) ?_
    refine sV (rOrB rfl rfl rfl rfl) ?_
    refine tC rfl (fun h12 => ?_) (fun h12 => ?_)
    ·try simp only [zbA] at h12
     refine tS ?_
     refine tR fun _ _ _ => ?_
     refine pV ?_
     exact tr_ret ⟨trivial, _, _, rfl, ⟨rfl, rfl⟩, CSub.nil _, trivial⟩
    ·try simp only [zbA] at h12
     refine tK ?_
     refine tS ?_
     have hn1 : 1 ≤ n := by simp at h12; omega
     have hs81 : s ≤ 1024 := by simp at h12; omega
     have hin : n = i := by simp at h9; omega
     subst hin
     have hi81 : n ≤ 10 := by
      rcases Int.lt_or_le 10 n with h | h
      ·have h1 := Nat.pow_le_pow_left (show 2 ≤ (pw p m).toNat by omega) n.toNat
       have h2 := Nat.pow_le_pow_right (show 0 < 2 by omega) (show 11 ≤ n.toNat by omega)
       omega
      ·exact h
     have hcnt := dgP_count (p := p) (m := m) (mod := mod) n.toNat
     rw [← irB_count] at hcnt
     have hCN : ∀ k : Nat, ((List.range k).filter fun v => irB (dgP p m mod n.toNat v)).length ≤ k := fun k => flt_le k _
     refine tR fun _ _ _ => ?_
     refine pV ?_
     refine tS ?_
     refine tS ?_
     refine tR fun _ _ _ => ?_
     refine pV ?_
     refine tB ?_
     refine tr_loop2 (fun (v : Int) (tt : Int) => [(12, .int .i64 v), (11, .int .u64 tt), (1, .int .i64 n), (5, .pointer (some g.p)), (8, .int .i64 (pw p m)), (9, .int .i64 s)]) (fun (v : Int) (tt : Int) => [gfN g, blk p0 24 [.int .i64 p, .int .i64 m, .slice A mod.length c], ro A (ints mod)]) (fun (v : Int) (tt : Int) => (0 ≤ v ∧ v ≤ s) ∧ tt = ((((List.range v.toNat).filter fun v => irB (dgP p m mod n.toNat v)).length : Nat) : Int)) (fun (v : Int) (tt : Int) => (s - v).toNat) (0) (0) ⟨rfl, rfl, rfl, rfl, rfl, rfl, trivial⟩ (by first | exact cs _ _ | exact CSub.refl _) (⟨⟨by omega, by omega⟩, rfl⟩) (fun v tt hI => ?_)
     obtain ⟨⟨hv0, hv9⟩, htt⟩ := hI
     refine tS ?_
     refine tS ?_
     refine tR fun _ _ _ => ?_
     iterate 3 refine pV ?_
     refine tC rfl (fun h16 => ?_) (fun h16 => ?_)
     ·try simp only [zbA] at h16
      refine tK ?_
      refine tS ?_
      refine tB ?_
      refine tS ?_
      have hvs : v < s := by simpa using h16
      have hdl := dgm_len (pw p m).toNat n.toNat v.toNat
      have hk1 := (dgP_len (p := p) (m := m) (mod := mod) n.toNat v.toNat).1
      have hst := dgm_cnt (p := p) (m := m) (mod := mod) (n := n.toNat) (v := v) (by omega)
      have hc1 := hCN v.toNat
      refine tR fun _ _ _ => ?_
      iterate 4 refine pV ?_
      refine eV (eCall1 rfl rfl rfl (law06_digits (pw p m) n v (by omega) (by omega) (by omega) (by omega) (by omega) (by omega)) ⟨rfl, rfl, rfl, trivial⟩ ?_)
      rintro _ _ ⟨B18, rfl, rfl⟩
      refine eV (eCallV rfl rfl rfl (irr_all g hg B18 (dgm (pw p m).toNat n.toNat v.toNat).length (dgm (pw p m).toNat n.toNat v.toNat) (by omega) n.toNat hk1 (by omega) (by omega)) ⟨rfl, rfl, trivial⟩ ?_)
      iterate 5 refine pV ?_
      refine tS ?_
      refine tS ?_
      refine tR fun _ _ _ => ?_
      iterate 2 refine pV ?_
      refine tC rfl (fun h19 => ?_) (fun h19 => ?_)
      ·try simp only [zbA] at h19
       simp at h19 --done
      ·try simp only [zbA] at h19
       refine tK ?_
       refine tS ?_
       refine tR fun _ _ _ => ?_
       refine pV ?_
       refine tC rfl (fun h21 => ?_) (fun h21 => ?_)
       ·try simp only [zbA] at h21
        refine tR fun _ _ _ => ?_
        refine pV ?_
        refine sV (rAddU rfl rfl rfl (by omega) (by omega)) ?_
        refine pV ?_
        refine tR fun _ _ _ => ?_
        refine pV ?_
        refine sV (rAdd rfl rfl rfl (by omega) (by omega)) ?_
        refine pV ?_
        refine ⟨v + 1, tt + 1, ⟨rfl, rfl, rfl, rfl, rfl, rfl, trivial⟩, by first | exact cs _ _ | exact CSub.refl _, ?_⟩
        rw [show (irB (dgP p m mod n.toNat v.toNat)) = true from h21] at hst
        exact ⟨⟨⟨by omega, by omega⟩, by rw [hst, htt]; rfl⟩, by omega⟩
       ·try simp only [zbA] at h21
        refine tK ?_
        refine tR fun _ _ _ => ?_
        refine pV ?_
        refine sV (rAdd rfl rfl rfl (by omega) (by omega)) ?_
        refine pV ?_
        refine ⟨v + 1, tt, ⟨rfl, rfl, rfl, rfl, rfl, rfl, trivial⟩, by first | exact cs _ _ | exact CSub.refl _, ?_⟩
        rw [if_neg (show ¬ (irB (dgP p m mod n.toNat v.toNat)) = true from Bool.eq_false_iff.1 h21)] at hst
        exact ⟨⟨⟨by omega, by omega⟩, by rw [hst, htt]; rfl⟩, by omega⟩
     ·try simp only [zbA] at h16
      refine tE ?_
      refine tS ?_
      have hvs : v = s := by simp at h16; omega
      subst hvs
      rw [hs, Int.toNat_natCast, hcnt] at htt
      have hc1 := hCN ((pw p m).toNat ^ n.toNat)
      rw [hcnt] at hc1
      have hNl := lmb_len (n := (irN p m mod) n.toNat) (k := 1) (by omega)
      refine tR fun _ _ _ => ?_
      iterate 2 refine pV ?_
      refine eV (eCall1 rfl rfl rfl (fac_Count g hg (irN p m mod) irN_cnt n (by omega) (by omega)) ⟨rfl, rfl, trivial⟩ ?_)
      rintro _ _ ⟨B23, rfl, rfl⟩
      iterate 5 refine pV ?_
      refine tS ?_
      have hte : tt.toNat = (irN p m mod) n.toNat := by omega
      refine tR fun _ _ _ => ?_
      iterate 3 refine pV ?_
      refine stT rfl rfl rfl (by simp) rfl rfl (rMove rfl rfl) ?_
      refine stT rfl rfl rfl (by simp) rfl rfl (rMove rfl rfl) ?_
      refine efT rfl rfl rfl (by simp) (eCall1 rfl rfl rfl (ref_NOf tt (by omega) (by omega)) ⟨rfl, trivial⟩ ?_)
      rintro _ _ ⟨B24, c24, rfl, rfl, hc24⟩
      rw [hte] at *
      refine efT rfl rfl rfl (by simp) (eCallV rfl rfl rfl (ref_NSameT B23 _ _ (lmb ((irN p m mod) n.toNat)) rfl (lmb_lm _) (by omega) B24 c24) ⟨rfl, rfl, trivial⟩ ?_)
      refine sV (rPick1 rfl rfl (by simp) rfl) ?_
      refine pV ?_
      exact tr_ret ⟨trivial, _, _, rfl, ⟨by simp, rfl⟩, CSub.nil _, trivial⟩
theorem law_FactorCounted (p m : Int) (A : Option Addr) (c : Nat) (mod : List Int) (hl9 : mod.length ≤ 17592186044415) (n : Int) : Pure Try.prog 4 #[.agg #[.int .i64 p, .int .i64 m, .slice A mod.length c], .int .i64 n] [ro A (ints mod)] (isV (.bool true)) := by
 by_cases hF0 : FldR p m mod
 ·haveI hF : IsF p m mod := ⟨hF0⟩
  exact law_FactorCounted_G p m A c mod hl9 n
 ·exact law_FactorCounted_no p m A c mod hl9 n hF0
end Go.Proofs.Ytdkahdehodopoaa

/-
  CYCLICDIVIDES, PART 4 OF 10. One sentence: the texts behind the law CyclicDivides, put together.
  Conditions: each theorem's own, written out in it.
-/
import Derived.Test.YtdkahdehodopoaaGreatK3
set_option linter.unusedSimpArgs false
set_option linter.unusedVariables false
set_option linter.unusedSectionVars false
set_option maxRecDepth 100000
namespace Go.Proofs.YtdkahdehodopoaaGreat
open Go.RowKit
theorem negI_in {p m : Int} (hp : 2 ≤ p) (x : Int) : inI (pw p m) (negI p m x) = negI p m x := inI_in (negI_bd hp x).1 (negI_bd hp x).2
theorem pow_pos1 {p : Int} (hp : 2 ≤ p) (k : Nat) : 1 ≤ p ^ k := by
 have : 0 < p ^ k := Int.pow_pos (by omega)
 omega
theorem wp_le {w p z q : Int} (hw : 1 ≤ w) (hp : 1 ≤ p) (hz : 1 ≤ z) (h : w * p * z = q) : 1 ≤ w * p ∧ w * p ≤ q := by
 have h1 : 0 < w * p := Int.mul_pos (by omega) (by omega)
 have h2 : w * p * 1 ≤ w * p * z := Int.mul_le_mul_of_nonneg_left hz (by omega)
 omega
theorem le_wp {w z q : Int} (hw : 1 ≤ w) (hz : 1 ≤ z) (h : w * z = q) : z ≤ q := by
 have h1 : 1 * z ≤ w * z := Int.mul_le_mul_of_nonneg_right hw (by omega)
 omega
theorem ltEq {a b c : Int} (h : a < b) (e : b = c) : a < c := by omega
theorem digit_w {d p w q : Int} (h0 : 0 ≤ d) (h1 : d < p) (hw : 1 ≤ w) (h : w * p ≤ q) : 0 ≤ d * w ∧ d * w ≤ q := by
 have h2 : d * w ≤ p * w := Int.mul_le_mul_of_nonneg_right (by omega) (by omega)
 have h3 : 0 ≤ d * w := Int.mul_nonneg h0 (by omega)
 rw [Int.mul_comm p w] at h2
 omega
theorem gf_Add_ent : Enters Tryz.prog 84 := enters_of Tryz.func84 (by kernel_rfl) (by kernel_rfl)
theorem gf_Add (g : GfM) (p m : Int) (mod : List Int) (hg : GOk g p m mod) (x y : Int) :
  Pure Tryz.prog 84 #[.pointer (some g.p), .int .i64 x, .int .i64 y] [gfR g] (isV (.int .i64 (addI p m (inI g.q x) (inI g.q y)))) := by
 obtain rfl := hg.eP
 have hq := hg.q2
 have hel := hg.elen
 have hll := hg.llen'
 have heq := hg.eq
 have hp2 := hg.shp.1.p2
 have hp9 := hg.shp.1.p9
 have hxb := inI_bd (q := g.q) (by omega) x
 have hyb := inI_bd (q := g.q) (by omega) y
 have htb := addI_bd (m := m) hp2 (inI g.q x) (inI g.q y)
 have hrec := addI_rec g.P m (inI g.q x) (inI g.q y)
 refine pure_of (args := [.pointer (some g.p), .int .i64 x, .int .i64 y]) 77 Tryz.func84 rfl rfl rfl gf_Add_ent ⟨id, trivial⟩ (fun w0 => ?_)
 refine tS ?_
 refine tR fun _ _ _ => ?_
 refine pV ?_
 refine tS ?_
 refine tR fun _ _ _ => ?_
 iterate 2 refine pV ?_
 refine eV (eCallV rfl rfl rfl (gf_in _ _) ⟨rfl, rfl, trivial⟩ ?_)
 iterate 2 refine pV ?_
 refine eV (eCallV rfl rfl rfl (gf_in _ _) ⟨rfl, rfl, trivial⟩ ?_)
 iterate 2 refine pV ?_
 refine tS ?_
 refine tS ?_
 refine tR fun _ _ _ => ?_
 refine pV ?_
 refine sV (rNil rfl rfl) ?_
 refine sV (rFld rfl rfl) ?_
 refine sV (rFldN rfl rfl) ?_
 refine sV (rLdF rfl rfl rfl) ?_
 refine pV ?_
 refine tC rfl (fun h2 => ?_) (fun h2 => ?_)
 ·try simp only [zbA] at h2
  refine tS ?_
  have h2x := addI_two (m := m) (x := inI g.q x) (y := inI g.q y)
  refine tR fun _ _ _ => ?_
  iterate 2 refine pV ?_
  refine sV (rXor rfl rfl rfl (by omega) (by omega)) ?_
  refine pV ?_
  exact tr_ret ⟨trivial, _, _, rfl, ⟨by rw [← h2x (by rw [← h2, ← heq]; exact hxb) (by rw [← h2, ← heq]; exact hyb), h2], rfl⟩, CSub.nil _, trivial⟩
 ·try simp only [zbA] at h2
  refine tK ?_
  refine tS ?_
  refine tR fun _ _ _ => ?_
  iterate 2 refine pV ?_
  refine tS ?_
  refine tB ?_
  refine tr_loop5 (fun (k : Nat) (a : Int) (b : Int) (s : Int) (w : Int) => [(0, .pointer (some g.p)), (1, .int .i64 a), (2, .int .i64 b), (7, .int .i64 s), (8, .int .i64 w)]) (fun (k : Nat) (a : Int) (b : Int) (s : Int) (w : Int) => [gfR g]) (fun (k : Nat) (a : Int) (b : Int) (s : Int) (w : Int) => (0 ≤ a ∧ a < g.P ^ k) ∧ (0 ≤ b ∧ b < g.P ^ k) ∧ 0 ≤ s ∧ 1 ≤ w ∧ w * g.P ^ k = g.q ∧ s + w * addD g.P k a b = addI g.P m (inI g.q x) (inI g.q y)) (fun (k : Nat) (a : Int) (b : Int) (s : Int) (w : Int) => k) (m.toNat) (inI g.q x) (inI g.q y) (0) (1) ⟨rfl, rfl, rfl, rfl, rfl, trivial⟩ (by first | exact cs _ _ | exact CSub.refl _) (⟨⟨hxb.1, ltEq hxb.2 heq⟩, ⟨hyb.1, ltEq hyb.2 heq⟩, by omega, by omega, by rw [Int.one_mul, heq]; rfl, by rw [Int.one_mul, Int.zero_add, hrec]⟩) (fun k a b s w hI => ?_)
  obtain ⟨⟨ha0, ha1⟩, ⟨hb0, hb1⟩, hs0, hw1, hw, hs⟩ := hI
  refine tS ?_
  refine tS ?_
  refine tR fun _ _ _ => ?_
  iterate 3 refine pV ?_
  refine stg rfl rfl rfl rfl rfl (fun hb => by (have hq := hb; try simp only [zbA] at hq); exact rMove rfl rfl) ?_
  refine stg rfl rfl rfl rfl rfl (fun hb => by (have hq := hb; try simp only [zbA] at hq); exact rGtr rfl (evg rfl hb) rfl) ?_
  refine sV (rOrB rfl rfl rfl rfl) ?_
  refine tC rfl (fun h5 => ?_) (fun h5 => ?_)
  ·try simp only [zbA] at h5
   refine tK ?_
   refine tB ?_
   refine tS ?_
   have hk0 : k ≠ 0 := fun e => by
    subst e
    simp only [Int.pow_zero] at ha1 hb1
    omega
   obtain ⟨j, rfl⟩ : ∃ j, k = j + 1 := ⟨k - 1, by omega⟩
   have hpj := pow_pos1 hp2 j
   have hwq : w * g.P * g.P ^ j = g.q := by rw [← hw, Int.pow_succ, Int.mul_assoc, Int.mul_comm g.P]
   have hwp := wp_le hw1 (by omega) hpj hwq
   have hpq := le_wp hw1 (pow_pos1 hp2 (j + 1)) hw
   have e0 := Int.emod_nonneg a (show g.P ≠ 0 by omega)
   have e1 := Int.emod_lt_of_pos a (show 0 < g.P by omega)
   have e2 := Int.emod_nonneg b (show g.P ≠ 0 by omega)
   have e3 := Int.emod_lt_of_pos b (show 0 < g.P by omega)
   have e4 := Int.emod_nonneg (a % g.P + b % g.P) (show g.P ≠ 0 by omega)
   have e5 := Int.emod_lt_of_pos (a % g.P + b % g.P) (show 0 < g.P by omega)
   have hdw := digit_w e4 e5 hw1 hwp.2
   have had := addD_bd hp2 (j + 1) a b
   have hwa := Int.mul_nonneg (show 0 ≤ w by omega) had.1
   refine tr_draw [0, 1, 2, 3, 4, 5, 6, 7, 8, 9, 10, 11, 12, 13, 14, 15, 16, 17, 18, 19, 20, 21, 22, 23, 24, 25] [] mixed (by kernel_rfl) fun _ _ _ => ?_
   iterate 3 refine pV ?_
   refine sV (rNil rfl rfl) ?_
   refine sV (rFld rfl rfl) ?_
   refine sV (rFldN rfl rfl) ?_
   refine sV (rLdF rfl rfl rfl) ?_
   refine sV (rRem rfl rfl rfl (by omega) (by omega)) ?_
   iterate 2 refine pV ?_
   refine sV (rNil rfl rfl) ?_
   refine sV (rFld rfl rfl) ?_
   refine sV (rFldN rfl rfl) ?_
   refine sV (rLdF rfl rfl rfl) ?_
   refine sV (rRem rfl rfl rfl (by omega) (by omega)) ?_
   refine sV (rAdd rfl rfl rfl (by omega) (by omega)) ?_
   refine pV ?_
   refine sV (rNil rfl rfl) ?_
   refine sV (rFld rfl rfl) ?_
   refine sV (rFldN rfl rfl) ?_
   refine sV (rLdF rfl rfl rfl) ?_
   refine sV (rRem rfl rfl rfl (by omega) (by omega)) ?_
   refine pV ?_
   refine sV (rMul rfl rfl rfl (by omega) (by omega)) ?_
   refine sV (rAdd rfl rfl rfl (by omega) (by omega)) ?_
   refine pV ?_
   refine tS ?_
   refine tR fun _ _ _ => ?_
   iterate 2 refine pV ?_
   refine sV (rNil rfl rfl) ?_
   refine sV (rFld rfl rfl) ?_
   refine sV (rFldN rfl rfl) ?_
   refine sV (rLdF rfl rfl rfl) ?_
   refine sV (rMul rfl rfl rfl (by omega) (by omega)) ?_
   refine pV ?_
   refine tS ?_
   refine tR fun _ _ _ => ?_
   iterate 2 refine pV ?_
   refine sV (rNil rfl rfl) ?_
   refine sV (rFld rfl rfl) ?_
   refine sV (rFldN rfl rfl) ?_
   refine sV (rLdF rfl rfl rfl) ?_
   refine sV (rQuo rfl rfl rfl (by omega) (by omega)) ?_
   refine pV ?_
   refine tR fun _ _ _ => ?_
   iterate 2 refine pV ?_
   refine sV (rNil rfl rfl) ?_
   refine sV (rFld rfl rfl) ?_
   refine sV (rFldN rfl rfl) ?_
   refine sV (rLdF rfl rfl rfl) ?_
   refine sV (rQuo rfl rfl rfl (by omega) (by omega)) ?_
   refine pV ?_
   refine ⟨j, a / g.P, b / g.P, s + (a % g.P + b % g.P) % g.P * w, w * g.P, ⟨rfl, rfl, rfl, rfl, rfl, trivial⟩, by first | exact cs _ _ | exact CSub.refl _, ?_⟩
   refine ⟨⟨⟨Int.ediv_nonneg ha0 (by omega), ediv_lt_pow hp2 ha1⟩, ⟨Int.ediv_nonneg hb0 (by omega), ediv_lt_pow hp2 hb1⟩, by omega, by omega, hwq, ?_⟩, by omega⟩
   rw [← hs, addD]
   grind
  ·try simp only [zbA] at h5
   skip
   refine tE ?_
   refine tS ?_
   refine tR fun _ _ _ => ?_
   iterate 2 refine pV ?_
   have ha00 : a = 0 := by omega
   have hb00 : b = 0 := by omega
   subst ha00 hb00
   rw [addD_zero, Int.mul_zero, Int.add_zero] at hs
   exact tr_ret ⟨trivial, _, _, rfl, ⟨by rw [hs], rfl⟩, CSub.nil _, trivial⟩
theorem gf_Neg_ent : Enters Tryz.prog 50 := enters_of Tryz.func50 (by kernel_rfl) (by kernel_rfl)
theorem gf_Neg (g : GfM) (p m : Int) (mod : List Int) (hg : GOk g p m mod) (x : Int) :
  Pure Tryz.prog 50 #[.pointer (some g.p), .int .i64 x] [gfR g] (isV (.int .i64 (negI p m (inI g.q x)))) := by
 obtain rfl := hg.eP
 have hq := hg.q2
 have hel := hg.elen
 have hll := hg.llen'
 have heq := hg.eq
 have hp2 := hg.shp.1.p2
 have hp9 := hg.shp.1.p9
 have hxb := inI_bd (q := g.q) (by omega) x
 have htb := negI_bd (m := m) hp2 (inI g.q x)
 have hrec := negI_rec hp2 m (inI g.q x)
 refine pure_of (args := [.pointer (some g.p), .int .i64 x]) 50 Tryz.func50 rfl rfl rfl gf_Neg_ent ⟨id, trivial⟩ (fun w0 => ?_)
 refine tS ?_
 refine tR fun _ _ _ => ?_
 refine pV ?_
 refine tS ?_
 refine tR fun _ _ _ => ?_
 iterate 2 refine pV ?_
 refine eV (eCallV rfl rfl rfl (gf_in _ _) ⟨rfl, rfl, trivial⟩ ?_)
 refine pV ?_
 refine tS ?_
 refine tR fun _ _ _ => ?_
 iterate 2 refine pV ?_
 refine tS ?_
 refine tB ?_
 refine tr_loop4 (fun (k : Nat) (a : Int) (s : Int) (w : Int) => [(0, .pointer (some g.p)), (1, .int .i64 a), (5, .int .i64 s), (6, .int .i64 w)]) (fun (k : Nat) (a : Int) (s : Int) (w : Int) => [gfR g]) (fun (k : Nat) (a : Int) (s : Int) (w : Int) => (0 ≤ a ∧ a < g.P ^ k) ∧ 0 ≤ s ∧ 1 ≤ w ∧ w * g.P ^ k = g.q ∧ s + w * negD g.P k a = negI g.P m (inI g.q x)) (fun (k : Nat) (a : Int) (s : Int) (w : Int) => k) (m.toNat) (inI g.q x) (0) (1) ⟨rfl, rfl, rfl, rfl, trivial⟩ (by first | exact cs _ _ | exact CSub.refl _) (⟨⟨hxb.1, ltEq hxb.2 heq⟩, by omega, by omega, by rw [Int.one_mul, heq]; rfl, by rw [Int.one_mul, Int.zero_add, hrec]⟩) (fun k a s w hI => ?_)
 obtain ⟨⟨ha0, ha1⟩, hs0, hw1, hw, hs⟩ := hI
 refine tS ?_
 refine tS ?_
 refine tR fun _ _ _ => ?_
 iterate 2 refine pV ?_
 refine tC rfl (fun h3 => ?_) (fun h3 => ?_)
 ·try simp only [zbA] at h3
  refine tK ?_
  refine tB ?_
  refine tS ?_
  have hk0 : k ≠ 0 := fun e => by
   subst e
   simp only [Int.pow_zero] at ha1
   omega
  obtain ⟨j, rfl⟩ : ∃ j, k = j + 1 := ⟨k - 1, by omega⟩
  have hpj := pow_pos1 hp2 j
  have hwq : w * g.P * g.P ^ j = g.q := by rw [← hw, Int.pow_succ, Int.mul_assoc, Int.mul_comm g.P]
  have hwp := wp_le hw1 (by omega) hpj hwq
  have hpq := le_wp hw1 (pow_pos1 hp2 (j + 1)) hw
  have e0 := Int.emod_nonneg a (show g.P ≠ 0 by omega)
  have e1 := Int.emod_lt_of_pos a (show 0 < g.P by omega)
  have e4 := Int.emod_nonneg (g.P - a % g.P) (show g.P ≠ 0 by omega)
  have e5 := Int.emod_lt_of_pos (g.P - a % g.P) (show 0 < g.P by omega)
  have hdw := digit_w e4 e5 hw1 hwp.2
  have had := negD_bd hp2 (j + 1) a
  have hwa := Int.mul_nonneg (show 0 ≤ w by omega) had.1
  refine tr_draw [0, 1, 2, 3, 4, 5, 6, 7, 8, 9, 10, 11, 12, 13, 14, 15, 16, 17, 18, 19, 20, 21, 22, 23] [] mixed (by kernel_rfl) fun _ _ _ => ?_
  iterate 2 refine pV ?_
  refine sV (rNil rfl rfl) ?_
  refine sV (rFld rfl rfl) ?_
  refine sV (rFldN rfl rfl) ?_
  refine sV (rLdF rfl rfl rfl) ?_
  iterate 2 refine pV ?_
  refine sV (rNil rfl rfl) ?_
  refine sV (rFld rfl rfl) ?_
  refine sV (rFldN rfl rfl) ?_
  refine sV (rLdF rfl rfl rfl) ?_
  refine sV (rRem rfl rfl rfl (by omega) (by omega)) ?_
  refine sV (rSub rfl rfl rfl (by omega) (by omega)) ?_
  refine pV ?_
  refine sV (rNil rfl rfl) ?_
  refine sV (rFld rfl rfl) ?_
  refine sV (rFldN rfl rfl) ?_
  refine sV (rLdF rfl rfl rfl) ?_
  refine sV (rRem rfl rfl rfl (by omega) (by omega)) ?_
  refine pV ?_
  refine sV (rMul rfl rfl rfl (by omega) (by omega)) ?_
  refine sV (rAdd rfl rfl rfl (by omega) (by omega)) ?_
  refine pV ?_
  refine tS ?_
  refine tR fun _ _ _ => ?_
  iterate 2 refine pV ?_
  refine sV (rNil rfl rfl) ?_
  refine sV (rFld rfl rfl) ?_
  refine sV (rFldN rfl rfl) ?_
  refine sV (rLdF rfl rfl rfl) ?_
  refine sV (rMul rfl rfl rfl (by omega) (by omega)) ?_
  refine pV ?_
  refine tR fun _ _ _ => ?_
  iterate 2 refine pV ?_
  refine sV (rNil rfl rfl) ?_
  refine sV (rFld rfl rfl) ?_
  refine sV (rFldN rfl rfl) ?_
  refine sV (rLdF rfl rfl rfl) ?_
  refine sV (rQuo rfl rfl rfl (by omega) (by omega)) ?_
  refine pV ?_
  refine ⟨j, a / g.P, s + (g.P - a % g.P) % g.P * w, w * g.P, ⟨rfl, rfl, rfl, rfl, trivial⟩, by first | exact cs _ _ | exact CSub.refl _, ?_⟩
  refine ⟨⟨⟨Int.ediv_nonneg ha0 (by omega), ediv_lt_pow hp2 ha1⟩, by omega, by omega, hwq, ?_⟩, by omega⟩
  rw [← hs, negD]
  grind
 ·try simp only [zbA] at h3
  refine tE ?_
  refine tS ?_
  refine tR fun _ _ _ => ?_
  iterate 2 refine pV ?_
  have ha00 : a = 0 := by omega
  subst ha00
  rw [negD_zero, Int.mul_zero, Int.add_zero] at hs
  exact tr_ret ⟨trivial, _, _, rfl, ⟨by rw [hs], rfl⟩, CSub.nil _, trivial⟩
theorem gf_Sub_ent : Enters Tryz.prog 98 := enters_of Tryz.func98 (by kernel_rfl) (by kernel_rfl)
theorem gf_Sub (g : GfM) (p m : Int) (mod : List Int) (hg : GOk g p m mod) (x y : Int) :
  Pure Tryz.prog 98 #[.pointer (some g.p), .int .i64 x, .int .i64 y] [gfR g] (isV (.int .i64 (addI p m (inI g.q x) (negI p m (inI g.q y))))) := by
 refine pure_of (args := [.pointer (some g.p), .int .i64 x, .int .i64 y]) 13 Tryz.func98 rfl rfl rfl gf_Sub_ent ⟨id, trivial⟩ (fun w0 => ?_)
 refine tS ?_
 refine tR fun _ _ _ => ?_
 refine pV ?_
 refine tS ?_
 refine tR fun _ _ _ => ?_
 iterate 4 refine pV ?_
 refine eV (eCallV rfl rfl rfl (gf_Neg g p m mod hg _) ⟨rfl, rfl, trivial⟩ ?_)
 refine eV (eCallV rfl rfl rfl (gf_Add g p m mod hg _ _) ⟨rfl, rfl, rfl, trivial⟩ ?_)
 refine pV ?_
 exact tr_ret ⟨trivial, _, _, rfl, ⟨by rw [hg.eq, negI_in hg.shp.1.p2], rfl⟩, CSub.nil _, trivial⟩
theorem gf_Mul_ent : Enters Tryz.prog 85 := enters_of Tryz.func85 (by kernel_rfl) (by kernel_rfl)
theorem gf_Mul (g : GfM) (p m : Int) (mod : List Int) (hg : GOk g p m mod) (x y : Int) :
  Pure Tryz.prog 85 #[.pointer (some g.p), .int .i64 x, .int .i64 y] [gfR g] (isV (.int .i64 (mulI p m mod (inI g.q x) (inI g.q y)))) := by
 obtain rfl := hg.eP
 have hq := hg.q2
 have hel := hg.elen
 have hll := hg.llen'
 have heq := hg.eq
 have hp2 := hg.shp.1.p2
 have hp9 := hg.shp.1.p9
 have hxb := inI_bd (q := g.q) (by omega) x
 have hyb := inI_bd (q := g.q) (by omega) y
 refine pure_of (args := [.pointer (some g.p), .int .i64 x, .int .i64 y]) 46 Tryz.func85 rfl rfl rfl gf_Mul_ent ⟨id, trivial⟩ (fun w0 => ?_)
 refine tS ?_
 refine tR fun _ _ _ => ?_
 refine pV ?_
 refine tS ?_
 refine tR fun _ _ _ => ?_
 iterate 2 refine pV ?_
 refine eV (eCallV rfl rfl rfl (gf_in _ _) ⟨rfl, rfl, trivial⟩ ?_)
 iterate 2 refine pV ?_
 refine eV (eCallV rfl rfl rfl (gf_in _ _) ⟨rfl, rfl, trivial⟩ ?_)
 iterate 2 refine pV ?_
 refine tS ?_
 refine tS ?_
 refine tR fun _ _ _ => ?_
 iterate 3 refine pV ?_
 refine stg rfl rfl rfl rfl rfl (fun hb => by (have hq := hb; try simp only [zbA] at hq); exact rMove rfl rfl) ?_
 refine stg rfl rfl rfl rfl rfl (fun hb => by (have hq := hb; try simp only [zbA] at hq); exact rEql rfl (evg rfl hb) rfl) ?_
 refine sV (rOrB rfl rfl rfl rfl) ?_
 refine tC rfl (fun h2 => ?_) (fun h2 => ?_)
 ·try simp only [zbA] at h2
  refine tS ?_
  refine tR fun _ _ _ => ?_
  refine pV ?_
  exact tr_ret ⟨trivial, _, _, rfl, ⟨by
   rcases h2 with h | h
   ·rw [h, mulI_zero hg.shp.1]
   ·rw [h, mulI_comm hg.shp.1, mulI_zero hg.shp.1], rfl⟩, CSub.nil _, trivial⟩
 ·try simp only [zbA] at h2
  refine tK ?_
  refine tS ?_
  have hlx := hg.log_spec (y := inI g.q x) (by omega) (by omega)
  have hly := hg.log_spec (y := inI g.q y) (by omega) (by omega)
  have e0 := Int.emod_nonneg (g.log.getD (inI g.q x).toNat 0 + g.log.getD (inI g.q y).toNat 0) (show g.q - 1 ≠ 0 by omega)
  have e1 := Int.emod_lt_of_pos (g.log.getD (inI g.q x).toNat 0 + g.log.getD (inI g.q y).toNat 0) (show 0 < g.q - 1 by omega)
  refine tr_draw [0, 1, 2, 3, 4, 5, 6, 7, 8, 9, 10, 11, 12, 13, 14, 15, 16, 17, 18, 19, 20, 21, 22, 23, 24, 25, 26, 27] [] mixed (by kernel_rfl) fun _ _ _ => ?_
  refine pV ?_
  refine sV (rNil rfl rfl) ?_
  refine sV (rFld rfl rfl) ?_
  refine sV (rLdF rfl rfl rfl) ?_
  refine pV ?_
  refine sV (rNil rfl rfl) ?_
  refine sV (rFld rfl rfl) ?_
  refine sV (rLdF rfl rfl rfl) ?_
  refine pV ?_
  refine sV (rIdxI rfl rfl rfl (by omega) (by omega) (by omega)) ?_
  refine sV (rLdI rfl rfl (by omega)) ?_
  refine pV ?_
  refine sV (rNil rfl rfl) ?_
  refine sV (rFld rfl rfl) ?_
  refine sV (rLdF rfl rfl rfl) ?_
  refine pV ?_
  refine sV (rIdxI rfl rfl rfl (by omega) (by omega) (by omega)) ?_
  refine sV (rLdI rfl rfl (by omega)) ?_
  refine sV (rAdd rfl rfl rfl (by omega) (by omega)) ?_
  refine pV ?_
  refine sV (rNil rfl rfl) ?_
  refine sV (rFld rfl rfl) ?_
  refine sV (rLdF rfl rfl rfl) ?_
  refine sV (rSub rfl rfl rfl (by omega) (by omega)) ?_
  refine sV (rRem rfl rfl rfl (by omega) (by omega)) ?_
  refine sV (rIdxI rfl rfl rfl (by omega) (by omega) (by omega)) ?_
  refine sV (rLdI rfl rfl (by omega)) ?_
  refine pV ?_
  exact tr_ret ⟨trivial, _, _, rfl, ⟨by rw [hg.mul ⟨by omega, by omega⟩ ⟨by omega, by omega⟩], rfl⟩, CSub.nil _, trivial⟩
theorem gf_Inv_ent : Enters Tryz.prog 97 := enters_of Tryz.func97 (by kernel_rfl) (by kernel_rfl)
theorem gf_Inv (g : GfM) (p m : Int) (mod : List Int) (hg : GOk g p m mod) (x : Int) :
  Pure Tryz.prog 97 #[.pointer (some g.p), .int .i64 x] [gfR g] (isV (if inI g.q x = 0 then .tuple #[.int .i64 0, .int .i64 7] else .tuple #[.int .i64 (invI p m mod (inI g.q x)), .int .i64 0])) := by
 obtain rfl := hg.eP
 have hq := hg.q2
 have hel := hg.elen
 have hll := hg.llen'
 have heq := hg.eq
 have hp2 := hg.shp.1.p2
 have hp9 := hg.shp.1.p9
 have hxb := inI_bd (q := g.q) (by omega) x
 refine pure_of (args := [.pointer (some g.p), .int .i64 x]) 36 Tryz.func97 rfl rfl rfl gf_Inv_ent ⟨id, trivial⟩ (fun w0 => ?_)
 refine tS ?_
 refine tR fun _ _ _ => ?_
 iterate 2 refine pV ?_
 refine tS ?_
 refine tR fun _ _ _ => ?_
 iterate 2 refine pV ?_
 refine eV (eCallV rfl rfl rfl (gf_in _ _) ⟨rfl, rfl, trivial⟩ ?_)
 refine pV ?_
 refine tS ?_
 refine tS ?_
 refine tR fun _ _ _ => ?_
 iterate 2 refine pV ?_
 refine tC rfl (fun h2 => ?_) (fun h2 => ?_)
 ·try simp only [zbA] at h2
  refine tS ?_
  refine tR fun _ _ _ => ?_
  iterate 2 refine pV ?_
  exact tr_ret ⟨trivial, _, _, rfl, ⟨by rw [if_pos h2], rfl⟩, CSub.nil _, trivial⟩
 ·try simp only [zbA] at h2
  refine tK ?_
  refine tS ?_
  have hlx := hg.log_spec (y := inI g.q x) (by omega) (by omega)
  have e0 := Int.emod_nonneg (g.q - 1 - g.log.getD (inI g.q x).toNat 0) (show g.q - 1 ≠ 0 by omega)
  have e1 := Int.emod_lt_of_pos (g.q - 1 - g.log.getD (inI g.q x).toNat 0) (show 0 < g.q - 1 by omega)
  refine tr_draw [0, 1, 2, 3, 4, 5, 6, 7, 8, 9, 10, 11, 12, 13, 14, 15, 16, 17, 18, 19, 20, 21, 22, 23, 24, 25, 26] [] mixed (by kernel_rfl) fun _ _ _ => ?_
  refine pV ?_
  refine sV (rNil rfl rfl) ?_
  refine sV (rFld rfl rfl) ?_
  refine sV (rLdF rfl rfl rfl) ?_
  refine pV ?_
  refine sV (rNil rfl rfl) ?_
  refine sV (rFld rfl rfl) ?_
  refine sV (rLdF rfl rfl rfl) ?_
  refine sV (rSub rfl rfl rfl (by omega) (by omega)) ?_
  refine pV ?_
  refine sV (rNil rfl rfl) ?_
  refine sV (rFld rfl rfl) ?_
  refine sV (rLdF rfl rfl rfl) ?_
  refine pV ?_
  refine sV (rIdxI rfl rfl rfl (by omega) (by omega) (by omega)) ?_
  refine sV (rLdI rfl rfl (by omega)) ?_
  refine sV (rSub rfl rfl rfl (by omega) (by omega)) ?_
  refine pV ?_
  refine sV (rNil rfl rfl) ?_
  refine sV (rFld rfl rfl) ?_
  refine sV (rLdF rfl rfl rfl) ?_
  refine sV (rSub rfl rfl rfl (by omega) (by omega)) ?_
  refine sV (rRem rfl rfl rfl (by omega) (by omega)) ?_
  refine sV (rIdxI rfl rfl rfl (by omega) (by omega) (by omega)) ?_
  refine sV (rLdI rfl rfl (by omega)) ?_
  iterate 2 refine pV ?_
  exact tr_ret ⟨trivial, _, _, rfl, ⟨by rw [if_neg h2, hg.inv ⟨by omega, by omega⟩], rfl⟩, CSub.nil _, trivial⟩
theorem gf_Scale_ent : Enters Tryz.prog 99 := enters_of Tryz.func99 (by kernel_rfl) (by kernel_rfl)
theorem gf_Scale (g : GfM) (p m : Int) (mod : List Int) (hg : GOk g p m mod) (x : Int) (A : Option Addr) (n c : Nat) (l : List Int) (hn : n = l.length) (h9 : l.length ≤ 17592186044415) :
  Pure Tryz.prog 99 #[.pointer (some g.p), .int .i64 x, .slice A n c] [gfR g, ro A (ints l)] (one (fun v ch => ∃ B, v = .slice B l.length l.length ∧ ch = ow B 3 l.length (ints (l.map fun y => mulI p m mod (inI g.q x) (inI g.q y))))) := by
 refine pure_of (args := [.pointer (some g.p), .int .i64 x, .slice A n c]) 29 Tryz.func99 rfl rfl rfl gf_Scale_ent ⟨id, id, trivial⟩ (fun w0 => ?_)
 refine tS ?_
 refine tR fun _ _ _ => ?_
 refine pV ?_
 refine tS ?_
 refine tR fun _ _ _ => ?_
 refine pV ?_
 refine sV (rLen rfl rfl) ?_
 refine eV (eMakeI rfl rfl rfl rfl rfl (by omega) (by omega) (by omega) (fun A1 => ?_))
 refine pV ?_
 refine tS ?_
 refine tS ?_
 refine tR fun _ _ _ => ?_
 refine pV ?_
 refine sV (rLen rfl rfl) ?_
 refine pV ?_
 refine tB ?_
 refine tr_loop2 (fun (k : Int) (o : List Int) => [(0, .pointer (some g.p)), (1, .int .i64 x), (7, .slice A1 n n), (13, .slice A n c), (14, .int .i64 n), (15, .int .i64 k)]) (fun (k : Int) (o : List Int) => [ow A1 3 n (ints o), gfR g, ro A (ints l)]) (fun (k : Int) (o : List Int) => (0 ≤ k ∧ k ≤ n) ∧ o.length = n ∧ ∀ j : Nat, (j : Int) < k → o.getD j 0 = mulI p m mod (inI g.q x) (inI g.q (l.getD j 0))) (fun (k : Int) (o : List Int) => (n - k).toNat) (0) (List.replicate n 0) ⟨rfl, rfl, rfl, rfl, rfl, rfl, trivial⟩ (by first | exact cs _ _ | exact CSub.refl _) (⟨⟨by omega, by omega⟩, by simp, fun j hj => by omega⟩) (fun k o hI => ?_)
 obtain ⟨hk, hol, ho⟩ := hI
 refine tS ?_
 refine tR fun _ _ _ => ?_
 refine pV ?_
 refine tS ?_
 refine tC rfl (fun h3 => ?_) (fun h3 => ?_)
 ·try simp only [zbA] at h3
  refine tK ?_
  refine tS ?_
  refine tB ?_
  refine tS ?_
  refine tR fun _ _ _ => ?_
  refine pV ?_
  refine sV (rIdxI rfl rfl rfl (by omega) (by omega) (by omega)) ?_
  refine sV (rLdI rfl rfl (by omega)) ?_
  iterate 2 refine pV ?_
  refine tR fun _ _ _ => ?_
  iterate 5 refine pV ?_
  refine eV (eCallV rfl rfl rfl (gf_Mul g p m mod hg _ _) ⟨rfl, rfl, rfl, trivial⟩ ?_)
  refine sV (rIdxI rfl rfl rfl (by omega) (by omega) (by omega)) ?_
  refine eV (eStI rfl rfl rfl rfl (by omega) ?_)
  refine tR fun _ _ _ => ?_
  refine sV (rAdd rfl rfl rfl (by omega) (by omega)) ?_
  refine pV ?_
  refine ⟨k + 1, o.set k.toNat (mulI p m mod (inI g.q x) (inI g.q (l.getD k.toNat 0))), ⟨rfl, rfl, rfl, rfl, rfl, rfl, trivial⟩, by first | exact cs _ _ | exact CSub.refl _, ?_⟩
  refine ⟨⟨⟨by omega, by omega⟩, by simpa using hol, fun j hj => ?_⟩, by omega⟩
  rw [getD_set]
  by_cases he : k.toNat = j
  ·subst he; rw [if_pos ⟨rfl, by omega⟩]
  ·rw [if_neg (by omega)]; exact ho j (by omega)
 ·try simp only [zbA] at h3
  refine tE ?_
  refine tS ?_
  refine tR fun _ _ _ => ?_
  iterate 2 refine pV ?_
  have hm : o = l.map fun y => mulI p m mod (inI g.q x) (inI g.q y) := by
   refine List.ext_getElem (by simp; omega) fun j h1 h2 => ?_
   have := ho j (by omega)
   rw [List.getD_eq_getElem?_getD, List.getElem?_eq_getElem h1, List.getD_eq_getElem?_getD, List.getElem?_eq_getElem (show j < l.length by omega)] at this
   simpa using this
  rw [hm]
  subst hn
  exact tr_ret ⟨trivial, _, _, rfl, ⟨_, rfl, _, rfl, rfl⟩, cs _ _, trivial, trivial⟩
theorem ref_Add_ent : Enters Tryz.prog 139 := enters_of Tryz.func139 (by kernel_rfl) (by kernel_rfl)
theorem ref_Add (p m : Int) (A : Option Addr) (c : Nat) (mod : List Int) (hs : Shp p m mod) (x y : Int) :
  Pure Tryz.prog 139 #[.agg #[.int .i64 p, .int .i64 m, .slice A mod.length c], .int .i64 x, .int .i64 y] [ro A (ints mod)] (isV (.int .i64 (addI p m (inI (ordI p m) x) (inI (ordI p m) y)))) := by
 have hp2 := hs.p2
 have hp9 := hs.p9
 have hm1 := hs.m1
 have hm8 := hs.m8
 have hqq := hs.q
 have hoq := hs.ord
 have hpm : p ^ m.toNat ≤ 256 := hqq
 have hal := digs_length p m.toNat (inI (ordI p m) x)
 have hbl := digs_length p m.toNat (inI (ordI p m) y)
 have hai := digs_in (p := p) (by omega) m.toNat (inI (ordI p m) x)
 have hbi := digs_in (p := p) (by omega) m.toNat (inI (ordI p m) y)
 have hvt : ∀ c : List Int, AllIn p c → m.toNat ≤ c.length → vl p (c.take m.toNat) = rv p m.toNat (rl c) := fun c h1 h2 => vl_take hp2 h1 h2
 have hdef : addI p m (inI (ordI p m) x) (inI (ordI p m) y) = rv p m.toNat ((rl (digs p m.toNat (inI (ordI p m) x))).add (rl (digs p m.toNat (inI (ordI p m) y)))) := rfl
 rw [hdef]
 generalize ha : digs p m.toNat (inI (ordI p m) x) = a at hal hai
 generalize hb : digs p m.toNat (inI (ordI p m) y) = b at hbl hbi
 refine pure_of (args := [.agg #[.int .i64 p, .int .i64 m, .slice A mod.length c], .int .i64 x, .int .i64 y]) 40 Tryz.func139 rfl rfl rfl ref_Add_ent ⟨id, trivial⟩ (fun w0 => ?_)
 refine tS ?_
 refine tR fun _ _ _ => ?_
 refine eV (eBox rfl rfl rfl rfl rfl (fun p0 => ?_))
 refine pV ?_
 refine tS ?_
 refine tR fun _ _ _ => ?_
 refine sV (rLdS rfl rfl rfl) ?_
 refine pV ?_
 refine eV (eCall1 rfl rfl rfl (ref_Digits _ _ _ _ _ hs _) ⟨rfl, rfl, trivial⟩ ?_)
 rintro _ _ ⟨B1, rfl, rfl⟩
 refine pV ?_
 rw [ha]
 refine tS ?_
 refine tR fun _ _ _ => ?_
 refine sV (rLdS rfl rfl rfl) ?_
 refine pV ?_
 refine eV (eCall1 rfl rfl rfl (ref_Digits _ _ _ _ _ hs _) ⟨rfl, rfl, trivial⟩ ?_)
 rintro _ _ ⟨B2, rfl, rfl⟩
 refine pV ?_
 rw [hb]
 refine tS ?_
 refine tS ?_
 refine tR fun _ _ _ => ?_
 refine pV ?_
 refine tB ?_
 refine tr_loop2 (fun (k : Int) (o : List Int) => [(3, .pointer (some p0)), (7, .slice B1 m.toNat m.toNat), (8, .slice B2 m.toNat m.toNat), (9, .int .i64 k)]) (fun (k : Int) (o : List Int) => [ow B2 3 m.toNat (ints b), ow B1 3 m.toNat (ints o), blk p0 24 [.int .i64 p, .int .i64 m, .slice A mod.length c], ro A (ints mod)]) (fun (k : Int) (o : List Int) => (0 ≤ k ∧ k ≤ m) ∧ o.length = m.toNat ∧ AllIn p o ∧ (∀ j : Nat, (j : Int) < k → o.getD j 0 = (a.getD j 0 + b.getD j 0) % p) ∧ ∀ j : Nat, k ≤ j → o.getD j 0 = a.getD j 0) (fun (k : Int) (o : List Int) => (m - k).toNat) (0) (a) ⟨rfl, rfl, rfl, rfl, trivial⟩ (by first | exact cs _ _ | exact CSub.refl _) (⟨⟨by omega, by omega⟩, hal, hai, fun j hj => by omega, fun j hj => rfl⟩) (fun k o hI => ?_)
 obtain ⟨⟨hk, hk1⟩, hol, hoi, ho1, ho2⟩ := hI
 have hg1 := hoi.get (by omega) k.toNat
 have hg2 := hbi.get (by omega) k.toNat
 have e0 := Int.emod_nonneg (o.getD k.toNat 0 + b.getD k.toNat 0) (show p ≠ 0 by omega)
 have e1 := Int.emod_lt_of_pos (o.getD k.toNat 0 + b.getD k.toNat 0) (show 0 < p by omega)
 refine tS ?_
 refine tS ?_
 refine tR fun _ _ _ => ?_
 iterate 2 refine pV ?_
 refine sV (rLen rfl rfl) ?_
 refine pV ?_
 refine tC rfl (fun h4 => ?_) (fun h4 => ?_)
 ·try simp only [zbA] at h4
  refine tK ?_
  refine tS ?_
  refine tB ?_
  refine tr_draw [0, 1, 2, 3, 4, 5, 6, 7, 8, 9, 10, 11, 12, 13, 14] [15] mixed (by kernel_rfl) fun _ _ _ => ?_
  iterate 4 refine pV ?_
  refine sV (rIdxI rfl rfl rfl (by omega) (by omega) (by omega)) ?_
  refine sV (rLdI rfl rfl (by omega)) ?_
  iterate 2 refine pV ?_
  refine sV (rIdxI rfl rfl rfl (by omega) (by omega) (by omega)) ?_
  refine sV (rLdI rfl rfl (by omega)) ?_
  refine sV (rAdd rfl rfl rfl (by omega) (by omega)) ?_
  refine sV (rFld rfl rfl) ?_
  refine sV (rLdF rfl rfl rfl) ?_
  refine sV (rRem rfl rfl rfl (by omega) (by omega)) ?_
  refine sV (rIdxI rfl rfl rfl (by omega) (by omega) (by omega)) ?_
  refine eV (eStI rfl rfl rfl rfl (by omega) ?_)
  refine tR fun _ _ _ => ?_
  refine pV ?_
  refine sV (rAdd rfl rfl rfl (by omega) (by omega)) ?_
  refine pV ?_
  refine ⟨k + 1, o.set k.toNat ((o.getD k.toNat 0 + b.getD k.toNat 0) % p), ⟨rfl, rfl, rfl, rfl, trivial⟩, by first | exact cs _ _ | exact CSub.refl _, ?_⟩
  refine ⟨⟨⟨by omega, by omega⟩, by simpa using hol, hoi.set ⟨e0, e1⟩ _, fun j hj => ?_, fun j hj => ?_⟩, by omega⟩
  ·rw [getD_set]
   by_cases he : k.toNat = j
   ·subst he; rw [if_pos ⟨rfl, by omega⟩, ho2 k.toNat (by omega)]
   ·rw [if_neg (by omega)]; exact ho1 j (by omega)
  ·rw [getD_set, if_neg (by omega)]; exact ho2 j (by omega)
 ·try simp only [zbA] at h4
  refine tE ?_
  refine tS ?_
  refine tR fun _ _ _ => ?_
  refine sV (rLdS rfl rfl rfl) ?_
  refine pV ?_
  refine eV (eCallV rfl rfl rfl (ref_Value _ _ _ _ _ (by omega) (by omega) _ _ _ o (by omega) (by omega) hoi (by omega)) ⟨rfl, rfl, trivial⟩ ?_)
  refine pV ?_
  have hkm : k = m := by omega
  exact tr_ret ⟨trivial, _, _, rfl, ⟨by rw [hvt o hoi (by omega)]; exact congrArg _ (rv_cong fun j hj => by rw [show rl o j = (a.getD j 0 + b.getD j 0) % p from ho1 j (by omega), Int.emod_emod]; rfl), rfl⟩, CSub.nil _, trivial⟩
theorem ref_Neg_ent : Enters Tryz.prog 108 := enters_of Tryz.func108 (by kernel_rfl) (by kernel_rfl)
theorem ref_Neg (p m : Int) (A : Option Addr) (c : Nat) (mod : List Int) (hs : Shp p m mod) (x : Int) :
  Pure Tryz.prog 108 #[.agg #[.int .i64 p, .int .i64 m, .slice A mod.length c], .int .i64 x] [ro A (ints mod)] (isV (.int .i64 (negI p m (inI (ordI p m) x)))) := by
 have hp2 := hs.p2
 have hp9 := hs.p9
 have hm1 := hs.m1
 have hm8 := hs.m8
 have hqq := hs.q
 have hoq := hs.ord
 have hpm : p ^ m.toNat ≤ 256 := hqq
 have hal := digs_length p m.toNat (inI (ordI p m) x)
 have hai := digs_in (p := p) (by omega) m.toNat (inI (ordI p m) x)
 have hvt : ∀ c : List Int, AllIn p c → m.toNat ≤ c.length → vl p (c.take m.toNat) = rv p m.toNat (rl c) := fun c h1 h2 => vl_take hp2 h1 h2
 have hdef : negI p m (inI (ordI p m) x) = rv p m.toNat (Row.sm (-1) (rl (digs p m.toNat (inI (ordI p m) x)))) := rfl
 rw [hdef]
 generalize ha : digs p m.toNat (inI (ordI p m) x) = a at hal hai
 refine pure_of (args := [.agg #[.int .i64 p, .int .i64 m, .slice A mod.length c], .int .i64 x]) 32 Tryz.func108 rfl rfl rfl ref_Neg_ent ⟨id, trivial⟩ (fun w0 => ?_)
 refine tS ?_
 refine tR fun _ _ _ => ?_
 refine eV (eBox rfl rfl rfl rfl rfl (fun p0 => ?_))
 refine pV ?_
 refine tS ?_
 refine tR fun _ _ _ => ?_
 refine sV (rLdS rfl rfl rfl) ?_
 refine pV ?_
 refine eV (eCall1 rfl rfl rfl (ref_Digits _ _ _ _ _ hs _) ⟨rfl, rfl, trivial⟩ ?_)
 rintro _ _ ⟨B1, rfl, rfl⟩
 refine pV ?_
 rw [ha]
 refine tS ?_
 refine tS ?_
 refine tR fun _ _ _ => ?_
 refine pV ?_
 refine tB ?_
 refine tr_loop2 (fun (k : Int) (o : List Int) => [(2, .pointer (some p0)), (5, .slice B1 m.toNat m.toNat), (6, .int .i64 k)]) (fun (k : Int) (o : List Int) => [ow B1 3 m.toNat (ints o), blk p0 24 [.int .i64 p, .int .i64 m, .slice A mod.length c], ro A (ints mod)]) (fun (k : Int) (o : List Int) => (0 ≤ k ∧ k ≤ m) ∧ o.length = m.toNat ∧ AllIn p o ∧ (∀ j : Nat, (j : Int) < k → o.getD j 0 = (p - a.getD j 0) % p) ∧ ∀ j : Nat, k ≤ j → o.getD j 0 = a.getD j 0) (fun (k : Int) (o : List Int) => (m - k).toNat) (0) (a) ⟨rfl, rfl, rfl, trivial⟩ (by first | exact cs _ _ | exact CSub.refl _) (⟨⟨by omega, by omega⟩, hal, hai, fun j hj => by omega, fun j hj => rfl⟩) (fun k o hI => ?_)
 obtain ⟨⟨hk, hk1⟩, hol, hoi, ho1, ho2⟩ := hI
 have hg1 := hoi.get (by omega) k.toNat
 have e0 := Int.emod_nonneg (p - o.getD k.toNat 0) (show p ≠ 0 by omega)
 have e1 := Int.emod_lt_of_pos (p - o.getD k.toNat 0) (show 0 < p by omega)
 refine tS ?_
 refine tS ?_
 refine tR fun _ _ _ => ?_
 iterate 2 refine pV ?_
 refine sV (rLen rfl rfl) ?_
 refine pV ?_
 refine tC rfl (fun h3 => ?_) (fun h3 => ?_)
 ·try simp only [zbA] at h3
  refine tK ?_
  refine tS ?_
  refine tB ?_
  refine tr_draw [0, 1, 2, 3, 4, 5, 6, 7, 8, 9, 10, 11, 12] [13] mixed (by kernel_rfl) fun _ _ _ => ?_
  iterate 2 refine pV ?_
  refine sV (rFld rfl rfl) ?_
  refine sV (rLdF rfl rfl rfl) ?_
  iterate 2 refine pV ?_
  refine sV (rIdxI rfl rfl rfl (by omega) (by omega) (by omega)) ?_
  refine sV (rLdI rfl rfl (by omega)) ?_
  refine sV (rSub rfl rfl rfl (by omega) (by omega)) ?_
  refine sV (rFld rfl rfl) ?_
  refine sV (rLdF rfl rfl rfl) ?_
  refine sV (rRem rfl rfl rfl (by omega) (by omega)) ?_
  refine sV (rIdxI rfl rfl rfl (by omega) (by omega) (by omega)) ?_
  refine eV (eStI rfl rfl rfl rfl (by omega) ?_)
  refine tR fun _ _ _ => ?_
  refine pV ?_
  refine sV (rAdd rfl rfl rfl (by omega) (by omega)) ?_
  refine pV ?_
  refine ⟨k + 1, o.set k.toNat ((p - o.getD k.toNat 0) % p), ⟨rfl, rfl, rfl, trivial⟩, by first | exact cs _ _ | exact CSub.refl _, ?_⟩
  refine ⟨⟨⟨by omega, by omega⟩, by simpa using hol, hoi.set ⟨e0, e1⟩ _, fun j hj => ?_, fun j hj => ?_⟩, by omega⟩
  ·rw [getD_set]
   by_cases he : k.toNat = j
   ·subst he; rw [if_pos ⟨rfl, by omega⟩, ho2 k.toNat (by omega)]
   ·rw [if_neg (by omega)]; exact ho1 j (by omega)
  ·rw [getD_set, if_neg (by omega)]; exact ho2 j (by omega)
 ·try simp only [zbA] at h3
  refine tE ?_
  refine tS ?_
  refine tR fun _ _ _ => ?_
  refine sV (rLdS rfl rfl rfl) ?_
  refine pV ?_
  refine eV (eCallV rfl rfl rfl (ref_Value _ _ _ _ _ (by omega) (by omega) _ _ _ o (by omega) (by omega) hoi (by omega)) ⟨rfl, rfl, trivial⟩ ?_)
  refine pV ?_
  have hkm : k = m := by omega
  exact tr_ret ⟨trivial, _, _, rfl, ⟨by rw [hvt o hoi (by omega)]; exact congrArg _ (rv_cong fun j hj => by rw [show rl o j = (p - a.getD j 0) % p from ho1 j (by omega), Int.emod_emod]; show _ = (-1 * a.getD j 0) % p; rw [show p - a.getD j 0 = -1 * a.getD j 0 + p by omega, Int.add_emod_right]), rfl⟩, CSub.nil _, trivial⟩
theorem ref_Inv_ent : Enters Tryz.prog 106 := enters_of Tryz.func106 (by kernel_rfl) (by kernel_rfl)
theorem ref_Inv (p m : Int) (A : Option Addr) (c : Nat) (mod : List Int) (hF : FldR p m mod) (x : Int) :
  Pure Tryz.prog 106 #[.agg #[.int .i64 p, .int .i64 m, .slice A mod.length c], .int .i64 x] [ro A (ints mod)] (isV (.int .i64 (invI p m mod (inI (ordI p m) x)))) := by
 have hs := hF.1.1
 have hq2 := hs.q2
 have hp2 := hs.p2
 have hp9 := hs.p9
 have hm1 := hs.m1
 have hm8 := hs.m8
 have hqq := hs.q
 have hoq := hs.ord
 have hpm : p ^ m.toNat ≤ 256 := hqq
 have hxb := inI_bd (q := ordI p m) (by omega) x
 refine pure_of (args := [.agg #[.int .i64 p, .int .i64 m, .slice A mod.length c], .int .i64 x]) 18 Tryz.func106 rfl rfl rfl ref_Inv_ent ⟨id, trivial⟩ (fun w0 => ?_)
 refine tS ?_
 refine tR fun _ _ _ => ?_
 refine eV (eBox rfl rfl rfl rfl rfl (fun p0 => ?_))
 refine pV ?_
 refine tS ?_
 refine tS ?_
 refine tR fun _ _ _ => ?_
 refine pV ?_
 refine tB ?_
 refine tr_loop1 (fun (i : Int) => [(1, .int .i64 x), (2, .pointer (some p0)), (5, .int .i64 i)]) (fun (i : Int) => [blk p0 24 [.int .i64 p, .int .i64 m, .slice A mod.length c], ro A (ints mod)]) (fun (i : Int) => 1 ≤ i ∧ i ≤ pw p m ∧ ∀ j : Int, 1 ≤ j → j < i → mulI p m mod (inI (ordI p m) x) j ≠ 1) (fun (i : Int) => (pw p m - i).toNat) (1) ⟨rfl, rfl, rfl, trivial⟩ (by first | exact cs _ _ | exact CSub.refl _) (⟨by omega, by omega, fun j h1 h2 => by omega⟩) (fun i hI => ?_)
 obtain ⟨hi0, hi1, hno⟩ := hI
 refine tS ?_
 refine tS ?_
 refine tR fun _ _ _ => ?_
 refine pV ?_
 refine sV (rLdS rfl rfl rfl) ?_
 refine eV (eCallV rfl rfl rfl (ref_order _ _ _ _ _) ⟨rfl, trivial⟩ ?_)
 refine pV ?_
 refine tC rfl (fun h2 => ?_) (fun h2 => ?_)
 ·try simp only [zbA] at h2
  refine tK ?_
  refine tS ?_
  refine tB ?_
  refine tS ?_
  refine tR fun _ _ _ => ?_
  refine sV (rLdS rfl rfl rfl) ?_
  iterate 2 refine pV ?_
  refine eV (eCallV rfl rfl rfl (ref_Mul _ _ _ _ _ hs _ _) ⟨rfl, rfl, rfl, trivial⟩ ?_)
  refine pV ?_
  refine tC rfl (fun h4 => ?_) (fun h4 => ?_)
  ·try simp only [zbA] at h4
   refine tS ?_
   refine tR fun _ _ _ => ?_
   iterate 2 refine pV ?_
   rw [inI_in (q := ordI p m) (x := i) (by omega) (by omega)] at h4
   have hx0 : inI (ordI p m) x ≠ 0 := fun e => by rw [e, mulI_zero hs] at h4; omega
   have hi := invI_spec hF (z := inI (ordI p m) x) ⟨by omega, by omega⟩
   have hin : i = invI p m mod (inI (ordI p m) x) := mul_inj hF (z := inI (ordI p m) x) ⟨by omega, by omega⟩ ⟨hi.1, hi.2.1⟩ ⟨by omega, by omega⟩ (by rw [hi.2.2, mulI_comm hs, h4])
   exact tr_ret ⟨trivial, _, _, rfl, ⟨by rw [← hin], rfl⟩, CSub.nil _, trivial⟩
  ·try simp only [zbA] at h4
   refine tK ?_
   refine tR fun _ _ _ => ?_
   refine pV ?_
   refine sV (rAdd rfl rfl rfl (by omega) (by omega)) ?_
   refine pV ?_
   refine ⟨i + 1, ⟨rfl, rfl, rfl, trivial⟩, by first | exact cs _ _ | exact CSub.refl _, ?_⟩
   refine ⟨⟨by omega, by omega, fun j h1 h2 => ?_⟩, by omega⟩
   by_cases he : j = i
   ·subst he; rw [inI_in (q := ordI p m) (x := j) (by omega) (by omega)] at h4; exact h4
   ·exact hno j h1 (by omega)
 ·try simp only [zbA] at h2
  refine tE ?_
  refine tS ?_
  refine tR fun _ _ _ => ?_
  refine pV ?_
  have hz : invI p m mod (inI (ordI p m) x) = 0 := by
   unfold invI
   rw [dif_neg]
   rintro ⟨y, h1, h2, h3⟩
   have hy0 : y ≠ 0 := fun e => by rw [e, mulI_zero hs] at h3; omega
   exact hno y (by omega) (by omega) (by rw [mulI_comm hs]; exact h3)
  exact tr_ret ⟨trivial, _, _, rfl, ⟨by rw [hz], rfl⟩, CSub.nil _, trivial⟩
end Go.Proofs.YtdkahdehodopoaaGreat

set_option maxRecDepth 100000
namespace Go.Proofs.YtdkahdehodopoaaGreat
open Go.RowKit
theorem gf_AddE (g : GfM) {p m : Int} {mod : List Int} [hF : IsF p m mod] (hg : GOk g p m mod) (x y : Int) : Pure Tryz.prog 84 #[.pointer (some g.p), .int .i64 x, .int .i64 y] [gfR g] (isV (.int .i64 (el x + el y : El p m mod).1)) := by
 have h := gf_Add g p m mod hg x y
 rw [hg.eq] at h
 exact h
theorem gf_SubE (g : GfM) {p m : Int} {mod : List Int} [hF : IsF p m mod] (hg : GOk g p m mod) (x y : Int) : Pure Tryz.prog 98 #[.pointer (some g.p), .int .i64 x, .int .i64 y] [gfR g] (isV (.int .i64 (el x - el y : El p m mod).1)) := by
 have h := gf_Sub g p m mod hg x y
 rw [hg.eq] at h
 exact h
theorem gf_MulE (g : GfM) {p m : Int} {mod : List Int} [hF : IsF p m mod] (hg : GOk g p m mod) (x y : Int) : Pure Tryz.prog 85 #[.pointer (some g.p), .int .i64 x, .int .i64 y] [gfR g] (isV (.int .i64 (el x * el y : El p m mod).1)) := by
 have h := gf_Mul g p m mod hg x y
 rw [hg.eq] at h
 exact h
theorem gf_NegE (g : GfM) {p m : Int} {mod : List Int} [hF : IsF p m mod] (hg : GOk g p m mod) (x : Int) : Pure Tryz.prog 50 #[.pointer (some g.p), .int .i64 x] [gfR g] (isV (.int .i64 (-el x : El p m mod).1)) := by
 have h := gf_Neg g p m mod hg x
 rw [hg.eq] at h
 exact h
theorem gf_InvE (g : GfM) {p m : Int} {mod : List Int} [hF : IsF p m mod] (hg : GOk g p m mod) (x : Int) (hx : (el x : El p m mod) ≠ 0) : Pure Tryz.prog 97 #[.pointer (some g.p), .int .i64 x] [gfR g] (isV (.tuple #[.int .i64 (Fd.inv (el x : El p m mod)).1, .int .i64 0])) := by
 have h := gf_Inv g p m mod hg x
 have e : ¬ inI (pw p m) x = 0 := fun e => hx ((val_zero_iff (el x : El p m mod)).1 e)
 rw [hg.eq, if_neg e] at h
 exact h
theorem gf_ScaleE (g : GfM) {p m : Int} {mod : List Int} [hF : IsF p m mod] (hg : GOk g p m mod) (x : Int) (A : Option Addr) (n c : Nat) (l : List Int) (hn : n = l.length) (h9 : l.length ≤ 17592186044415) : Pure Tryz.prog 99 #[.pointer (some g.p), .int .i64 x, .slice A n c] [gfR g, ro A (ints l)] (one (fun v ch => ∃ B, v = .slice B l.length l.length ∧ ch = ow B 3 l.length (ints (l.map fun y => (el x * el y : El p m mod).1)))) := by
 have h := gf_Scale g p m mod hg x A n c l hn h9
 rw [hg.eq] at h
 exact h
theorem poly_CanonE (g : GfM) {p m : Int} {mod : List Int} [hF : IsF p m mod] (hg : GOk g p m mod) (A : Option Addr) (n c : Nat) (a : List Int) (hn : n = a.length) (ha9 : a.length ≤ 17592186044415) : Pure Tryz.prog 57 #[.pointer (some g.p), .slice A n c] [gfR g, ro A (ints a)] (one (fun v ch => ∃ B cap, v = .slice B (il (pol a : Po (El p m mod))).length cap ∧ (il (pol a : Po (El p m mod))).length ≤ cap ∧ ch = ow B 3 cap (ints (il (pol a : Po (El p m mod)))))) := by
 have h := poly_CanonS g A n c a hn ha9
 rw [hg.eq, ← il_pol (mod := mod)] at h
 exact h
theorem El.bd {p m : Int} {mod : List Int} (a : El p m mod) : 0 ≤ a.1 ∧ a.1 < pw p m := a.2
theorem shrink_trim {A : Option Addr} {e : TypeId} {cap : Nat} (l : List Int) (F : List Chunk) : CSub (ow A e cap (ints l) :: F) (ow A e cap (ints (trimL l)) :: F) := by
 have hsh := ow_shrink (e := e) (A := A) (cap := cap) (vs := ints (trimL l)) (ws := ints (l.drop (trimL l).length)) F
 rw [← ints_append, ← trimL_split l] at hsh
 exact hsh
theorem div_acc {R : Type} [Rg R] {a q b r t : R} (h : a = q * b + r) : a = (q + t) * b + (r - t * b) := by grind
theorem allIn_rep {q : Int} (hq : 0 < q) (n : Nat) : AllIn q (List.replicate n 0) := fun z hz => by have := List.eq_of_mem_replicate hz; omega
theorem rep_get (n j : Nat) : (List.replicate n (0 : Int)).getD j 0 = 0 := by rw [List.getD_eq_getElem?_getD, List.getElem?_replicate]; split <;> rfl
theorem il_le {p m : Int} {mod : List Int} [hF : IsF p m mod] (l : List Int) : (il (pol l : Po (El p m mod))).length ≤ l.length := by
 rw [il_length]
 exact Po.len_le (pol_sh l)
theorem poly_Monic_ent : Enters Tryz.prog 59 := enters_of Tryz.func59 (by kernel_rfl) (by kernel_rfl)
theorem poly_Monic (g : GfM) {p m : Int} {mod : List Int} [hF : IsF p m mod] (hg : GOk g p m mod) (A : Option Addr) (n c : Nat) (a : List Int) (hn : n = a.length) (ha9 : a.length ≤ 17592186044415) (h0 : (pol a : Po (El p m mod)) ≠ 0) :
  Pure Tryz.prog 59 #[.pointer (some g.p), .slice A n c] [gfR g, ro A (ints a)] (one (fun v ch => ∃ B cap, v = .tuple #[.slice B (il (Po.mon (pol a : Po (El p m mod)))).length cap, .int .i64 0] ∧ ch = ow B 3 cap (ints (il (Po.mon (pol a : Po (El p m mod))))))) := by
 have hz : 0 < (il (pol a : Po (El p m mod))).length := by rw [il_length]; exact Po.len_pos h0
 have hcl := il_le (p := p) (m := m) (mod := mod) a
 have hld : (el ((il (pol a : Po (El p m mod))).getD (((il (pol a : Po (El p m mod))).length : Int) - 1).toNat 0) : El p m mod) = Po.lead (pol a : Po (El p m mod)) := by rw [il_getD, el_of, Po.lead, il_length, show ((Po.len (pol a : Po (El p m mod)) : Int) - 1).toNat = Po.len (pol a : Po (El p m mod)) - 1 by omega]
 have hnz : (el ((il (pol a : Po (El p m mod))).getD (((il (pol a : Po (El p m mod))).length : Int) - 1).toNat 0) : El p m mod) ≠ 0 := by rw [hld]; exact Po.lead_nz h0
 have hmap := il_map (f := (pol a : Po (El p m mod))) (c := Fd.inv (Po.lead (pol a : Po (El p m mod)))) (Fd.inv_ne (Po.lead_nz h0))
 have hml : (il (Po.mon (pol a : Po (El p m mod)))).length = (il (pol a : Po (El p m mod))).length := by rw [il_length, il_length, Po.mon_len]
 refine pure_of (args := [.pointer (some g.p), .slice A n c]) 30 Tryz.func59 rfl rfl rfl poly_Monic_ent ⟨id, id, trivial⟩ (fun w0 => ?_)
 refine tS ?_
 refine tR fun _ _ _ => ?_
 iterate 2 refine pV ?_
 refine tS ?_
 refine tR fun _ _ _ => ?_
 iterate 2 refine pV ?_
 refine eV (eCall1 rfl rfl rfl (poly_CanonE g hg _ _ _ _ (by first | omega | rfl | simp) (by omega)) ⟨rfl, rfl, trivial⟩ ?_)
 rintro _ _ ⟨B1, c1, rfl, hcap1, rfl⟩
 refine pV ?_
 refine tS ?_
 refine tS ?_
 refine tR fun _ _ _ => ?_
 refine pV ?_
 refine sV (rLen rfl rfl) ?_
 refine pV ?_
 refine tC rfl (fun h2 => ?_) (fun h2 => ?_)
 ·try simp only [zbA] at h2
  omega --done
 ·try simp only [zbA] at h2
  refine tK ?_
  refine tS ?_
  refine tR fun _ _ _ => ?_
  iterate 3 refine pV ?_
  refine sV (rLen rfl rfl) ?_
  refine sV (rSub rfl rfl rfl (by omega) (by omega)) ?_
  refine sV (rIdxI rfl rfl rfl (by omega) (by omega) (by omega)) ?_
  refine sV (rLdI rfl rfl (by omega)) ?_
  refine eV (eCallV rfl rfl rfl (gf_InvE g hg _ hnz) ⟨rfl, rfl, trivial⟩ ?_)
  iterate 5 refine pV ?_
  refine tS ?_
  rw [hld]
  refine tR fun _ _ _ => ?_
  iterate 3 refine pV ?_
  refine eV (eCall1 rfl rfl rfl (gf_ScaleE g hg _ _ _ _ (il (pol a : Po (El p m mod))) rfl (by omega)) ⟨rfl, rfl, rfl, trivial⟩ ?_)
  rintro _ _ ⟨B5, rfl, rfl⟩
  iterate 2 refine pV ?_
  simp only [el_of]
  rw [hmap, show Po.C (Fd.inv (Po.lead (pol a : Po (El p m mod)))) * (pol a : Po (El p m mod)) = Po.mon (pol a : Po (El p m mod)) from rfl]
  exact tr_ret ⟨trivial, _, _, rfl, ⟨_, rfl, _, _, by rw [hml], rfl⟩, cs _ _, trivial, trivial⟩
theorem poly_DivMod_ent : Enters Tryz.prog 58 := enters_of Tryz.func58 (by kernel_rfl) (by kernel_rfl)
theorem poly_DivMod (g : GfM) {p m : Int} {mod : List Int} [hF : IsF p m mod] (hg : GOk g p m mod) (A : Option Addr) (n c : Nat) (a : List Int) (hn : n = a.length) (ha9 : a.length ≤ 17592186044415) (B : Option Addr) (k d : Nat) (b : List Int) (hk : k = b.length) (hb9 : b.length ≤ 17592186044415) (h0 : (pol b : Po (El p m mod)) ≠ 0) :
  Pure Tryz.prog 58 #[.pointer (some g.p), .slice A n c, .slice B k d] [gfR g, ro A (ints a), ro B (ints b)] (two (fun v ch ch2 => ∃ B1 c1 B2 c2, v = .tuple #[.slice B1 (il (Po.quo (pol a : Po (El p m mod)) (pol b : Po (El p m mod)))).length c1, .slice B2 (il (Po.rem (pol a : Po (El p m mod)) (pol b : Po (El p m mod)))).length c2, .int .i64 0] ∧ ch = ow B1 3 c1 (ints (il (Po.quo (pol a : Po (El p m mod)) (pol b : Po (El p m mod))))) ∧ ch2 = ow B2 3 c2 (ints (il (Po.rem (pol a : Po (El p m mod)) (pol b : Po (El p m mod))))))) := by
 have hq2 := hF.q2
 have hla := il_le (p := p) (m := m) (mod := mod) a
 have hlb := il_le (p := p) (m := m) (mod := mod) b
 have hz : 0 < (il (pol b : Po (El p m mod))).length := by rw [il_length]; exact Po.len_pos h0
 have hld : (el ((il (pol b : Po (El p m mod))).getD (((il (pol b : Po (El p m mod))).length : Int) - 1).toNat 0) : El p m mod) = Po.lead (pol b : Po (El p m mod)) := by rw [il_getD, el_of, Po.lead, il_length, show ((Po.len (pol b : Po (El p m mod)) : Int) - 1).toNat = Po.len (pol b : Po (El p m mod)) - 1 by omega]
 have hnz : (el ((il (pol b : Po (El p m mod))).getD (((il (pol b : Po (El p m mod))).length : Int) - 1).toNat 0) : El p m mod) ≠ 0 := by rw [hld]; exact Po.lead_nz h0
 refine pure_of (args := [.pointer (some g.p), .slice A n c, .slice B k d]) 96 Tryz.func58 rfl rfl rfl poly_DivMod_ent ⟨id, id, id, trivial⟩ (fun w0 => ?_)
 refine tS ?_
 refine tR fun _ _ _ => ?_
 iterate 3 refine pV ?_
 refine tS ?_
 refine tR fun _ _ _ => ?_
 iterate 2 refine pV ?_
 refine eV (eCall1 rfl rfl rfl (poly_CanonE g hg _ _ _ _ (by first | omega | rfl | simp) (by omega)) ⟨rfl, rfl, trivial⟩ ?_)
 rintro _ _ ⟨B1, c1, rfl, hcap1, rfl⟩
 iterate 2 refine pV ?_
 refine eV (eCall1 rfl rfl rfl (poly_CanonE g hg _ _ _ _ (by first | omega | rfl | simp) (by omega)) ⟨rfl, rfl, trivial⟩ ?_)
 rintro _ _ ⟨B1a, c1a, rfl, hcap1a, rfl⟩
 iterate 2 refine pV ?_
 refine tS ?_
 refine tS ?_
 refine tR fun _ _ _ => ?_
 refine pV ?_
 refine sV (rLen rfl rfl) ?_
 refine pV ?_
 refine tC rfl (fun h2 => ?_) (fun h2 => ?_)
 ·try simp only [zbA] at h2
  omega --done
 ·try simp only [zbA] at h2
  refine tK ?_
  refine tS ?_
  refine tR fun _ _ _ => ?_
  iterate 3 refine pV ?_
  refine sV (rLen rfl rfl) ?_
  refine sV (rSub rfl rfl rfl (by omega) (by omega)) ?_
  refine sV (rIdxI rfl rfl rfl (by omega) (by omega) (by omega)) ?_
  refine sV (rLdI rfl rfl (by omega)) ?_
  refine eV (eCallV rfl rfl rfl (gf_InvE g hg _ hnz) ⟨rfl, rfl, trivial⟩ ?_)
  iterate 5 refine pV ?_
  refine tS ?_
  rw [hld]
  refine tR fun _ _ _ => ?_
  refine pV ?_
  refine sV (rLen rfl rfl) ?_
  refine pV ?_
  refine sV (rLen rfl rfl) ?_
  refine sV (rSub rfl rfl rfl (by omega) (by omega)) ?_
  refine sV (rAdd rfl rfl rfl (by omega) (by omega)) ?_
  refine sV (rMax rfl rfl rfl) ?_
  refine eV (eMakeI rfl rfl rfl rfl rfl (by omega) (by omega) (by omega) (fun A5 => ?_))
  refine pV ?_
  generalize hN : (max 0 (((il (pol a : Po (El p m mod))).length : Int) - (il (pol b : Po (El p m mod))).length + 1)).toNat = N
  refine tS ?_
  refine tS ?_
  refine tR fun _ _ _ => ?_
  refine pV ?_
  refine sV (rLen rfl rfl) ?_
  refine pV ?_
  refine sV (rLen rfl rfl) ?_
  refine sV (rSub rfl rfl rfl (by omega) (by omega)) ?_
  refine pV ?_
  refine tB ?_
  refine tr_loop3 (fun (i : Int) (r : List Int) (qs : List Int) => [(0, .pointer (some g.p)), (2, .slice B1a (il (pol b : Po (El p m mod))).length c1a), (6, .slice A5 N N), (7, .slice B1 (il (pol a : Po (El p m mod))).length c1), (9, .int .i64 (Fd.inv (Po.lead (pol b : Po (El p m mod)))).1), (11, .int .i64 i)]) (fun (i : Int) (r : List Int) (qs : List Int) => [ow A5 3 N (ints qs), ow B1a 3 c1a (ints (il (pol b : Po (El p m mod)))), ow B1 3 c1 (ints r), gfR g]) (fun (i : Int) (r : List Int) (qs : List Int) => (i ≤ ((il (pol a : Po (El p m mod))).length : Int) - (il (pol b : Po (El p m mod))).length ∧ 0 ≤ ((il (pol b : Po (El p m mod))).length : Int) + i) ∧ (r.length = (il (pol a : Po (El p m mod))).length ∧ AllIn (pw p m) r) ∧ (qs.length = N ∧ AllIn (pw p m) qs) ∧ (∀ j : Nat, (j : Int) ≤ i → qs.getD j 0 = 0) ∧ Po.Sh (pol r : Po (El p m mod)) (((il (pol b : Po (El p m mod))).length : Int) + i).toNat ∧ (pol a : Po (El p m mod)) = pol qs * (pol b : Po (El p m mod)) + pol r) (fun (i : Int) (r : List Int) (qs : List Int) => (i + 1).toNat) (((il (pol a : Po (El p m mod))).length : Int) - (il (pol b : Po (El p m mod))).length) (il (pol a : Po (El p m mod))) (List.replicate N 0) ⟨rfl, rfl, rfl, rfl, rfl, rfl, trivial⟩ (by first | exact cs _ _ | exact CSub.refl _) (⟨⟨by omega, by omega⟩, ⟨rfl, il_in _⟩, ⟨by simp, allIn_rep (by omega) _⟩, fun j _ => rep_get _ _, fun j hj => by rw [cf_pol, il_getD, el_of]; exact Po.cf_ge (by rw [← il_length]; omega), by rw [pol_rep, pol_il]; grind⟩) (fun i r qs hI => ?_)
  obtain ⟨⟨hi0, hi1⟩, ⟨hrl, hri⟩, ⟨hql, hqi⟩, hq0, hsh, heq⟩ := hI
  refine tS ?_
  refine tS ?_
  refine tR fun _ _ _ => ?_
  iterate 2 refine pV ?_
  refine tC rfl (fun h7 => ?_) (fun h7 => ?_)
  ·try simp only [zbA] at h7
   refine tK ?_
   refine tS ?_
   refine tB ?_
   refine tS ?_
   refine tR fun _ _ _ => ?_
   iterate 4 refine pV ?_
   refine sV (rLen rfl rfl) ?_
   refine sV (rAdd rfl rfl rfl (by omega) (by omega)) ?_
   refine sV (rSub rfl rfl rfl (by omega) (by omega)) ?_
   refine sV (rIdxI rfl rfl rfl (by omega) (by omega) (by omega)) ?_
   refine sV (rLdI rfl rfl (by omega)) ?_
   refine pV ?_
   refine eV (eCallV rfl rfl rfl (gf_MulE g hg _ _) ⟨rfl, rfl, rfl, trivial⟩ ?_)
   refine pV ?_
   rw [el_of]
   generalize hc : (el (r.getD (i + (il (pol b : Po (El p m mod))).length - 1).toNat 0) * Fd.inv (Po.lead (pol b : Po (El p m mod))) : El p m mod) = cc
   have hcb := cc.2
   refine tS ?_
   refine tR fun _ _ _ => ?_
   iterate 3 refine pV ?_
   refine sV (rIdxI rfl rfl rfl (by omega) (by omega) (by omega)) ?_
   refine eV (eStI rfl rfl rfl rfl (by omega) ?_)
   skip
   refine tS ?_
   refine tR fun _ _ _ => ?_
   refine pV ?_
   refine sV (rLen rfl rfl) ?_
   refine pV ?_
   refine tB ?_
   refine tr_loop2 (fun (j : Int) (r2 : List Int) => [(0, .pointer (some g.p)), (2, .slice B1a (il (pol b : Po (El p m mod))).length c1a), (6, .slice A5 N N), (7, .slice B1 (il (pol a : Po (El p m mod))).length c1), (9, .int .i64 (Fd.inv (Po.lead (pol b : Po (El p m mod)))).1), (11, .int .i64 i), (12, .int .i64 cc.1), (67, .slice B1a (il (pol b : Po (El p m mod))).length c1a), (68, .int .i64 (il (pol b : Po (El p m mod))).length), (69, .int .i64 j)]) (fun (j : Int) (r2 : List Int) => [ow A5 3 N (ints (qs.set i.toNat cc.1)), ow B1a 3 c1a (ints (il (pol b : Po (El p m mod)))), ow B1 3 c1 (ints r2), gfR g]) (fun (j : Int) (r2 : List Int) => (0 ≤ j ∧ j ≤ (il (pol b : Po (El p m mod))).length) ∧ (r2.length = (il (pol a : Po (El p m mod))).length ∧ AllIn (pw p m) r2) ∧ (pol r2 : Po (El p m mod)) = pol r - Po.mn cc i.toNat * pol ((il (pol b : Po (El p m mod))).take j.toNat)) (fun (j : Int) (r2 : List Int) => (((il (pol b : Po (El p m mod))).length : Int) - j).toNat) (0) (r) ⟨rfl, rfl, rfl, rfl, rfl, rfl, rfl, rfl, rfl, rfl, trivial⟩ (by first | exact cs _ _ | exact CSub.refl _) (⟨⟨by omega, by omega⟩, ⟨hrl, hri⟩, by rw [Int.toNat_zero, pol_take_zero]; grind⟩) (fun j r2 hI => ?_)
   obtain ⟨⟨hj0, hj1⟩, ⟨hr2l, hr2i⟩, hr2⟩ := hI
   refine tS ?_
   refine tR fun _ _ _ => ?_
   refine pV ?_
   refine tS ?_
   refine tC rfl (fun h12 => ?_) (fun h12 => ?_)
   ·try simp only [zbA] at h12
    refine tK ?_
    refine tS ?_
    refine tB ?_
    refine tS ?_
    refine tR fun _ _ _ => ?_
    refine pV ?_
    refine sV (rIdxI rfl rfl rfl (by omega) (by omega) (by omega)) ?_
    refine sV (rLdI rfl rfl (by omega)) ?_
    iterate 2 refine pV ?_
    refine tr_draw [0, 1, 2, 3, 4, 5, 6, 7, 8, 9, 10, 11, 12, 13, 14, 15, 16] [17] mixed (by kernel_rfl) fun _ _ _ => ?_
    iterate 3 refine pV ?_
    refine sV (rAdd rfl rfl rfl (by omega) (by omega)) ?_
    iterate 4 refine pV ?_
    refine sV (rAdd rfl rfl rfl (by omega) (by omega)) ?_
    refine sV (rIdxI rfl rfl rfl (by omega) (by omega) (by omega)) ?_
    refine sV (rLdI rfl rfl (by omega)) ?_
    iterate 3 refine pV ?_
    refine eV (eCallV rfl rfl rfl (gf_MulE g hg _ _) ⟨rfl, rfl, rfl, trivial⟩ ?_)
    refine eV (eCallV rfl rfl rfl (gf_SubE g hg _ _) ⟨rfl, rfl, rfl, trivial⟩ ?_)
    refine sV (rIdxI rfl rfl rfl (by omega) (by omega) (by omega)) ?_
    refine eV (eStI rfl rfl rfl rfl (by omega) ?_)
    refine tR fun _ _ _ => ?_
    refine sV (rAdd rfl rfl rfl (by omega) (by omega)) ?_
    refine pV ?_
    refine ⟨j + 1, r2.set (i + j).toNat (el (r2.getD (i + j).toNat 0) - el (el cc.1 * el ((il (pol b : Po (El p m mod))).getD j.toNat 0) : El p m mod).1 : El p m mod).1, ⟨rfl, rfl, rfl, rfl, rfl, rfl, rfl, rfl, rfl, rfl, trivial⟩, by first | exact cs _ _ | exact CSub.refl _, ?_⟩
    refine ⟨⟨⟨by omega, by omega⟩, ⟨by simpa using hr2l, hr2i.set (El.bd _) _⟩, ?_⟩, by omega⟩
    rw [pol_set_add (d := -(cc * el ((il (pol b : Po (El p m mod))).getD j.toNat 0))) r2 (by omega) (by rw [el_of, el_of, el_of]; grind), hr2, show (j + 1).toNat = j.toNat + 1 by omega, pol_take_succ, show (i + j).toNat = i.toNat + j.toNat by omega]
    have e1 := Po.mn_mul cc (el ((il (pol b : Po (El p m mod))).getD j.toNat 0)) i.toNat j.toNat
    have e2 := Po.mn_neg (cc * el ((il (pol b : Po (El p m mod))).getD j.toNat 0)) (i.toNat + j.toNat)
    grind
   ·try simp only [zbA] at h12
    refine tE ?_
    refine tR fun _ _ _ => ?_
    refine pV ?_
    refine sV (rSub rfl rfl rfl (by omega) (by omega)) ?_
    refine pV ?_
    refine ⟨i - 1, r2, qs.set i.toNat cc.1, ⟨rfl, rfl, rfl, rfl, rfl, rfl, trivial⟩, by first | exact cs _ _ | exact CSub.refl _, ?_⟩
    have hjn : j = (il (pol b : Po (El p m mod))).length := by omega
    rw [hjn, Int.toNat_natCast, List.take_length, pol_il] at hr2
    have hds := Po.div_step (f := (pol r : Po (El p m mod))) h0 (n := i.toNat) (by rw [← il_length]; exact hsh.mono (by omega))
    have htop : Po.cf (pol r : Po (El p m mod)) (Po.len (pol b : Po (El p m mod)) + i.toNat - 1) = el (r.getD (i + (il (pol b : Po (El p m mod))).length - 1).toNat 0) := by rw [cf_pol, ← il_length, show (il (pol b : Po (El p m mod))).length + i.toNat - 1 = (i + (il (pol b : Po (El p m mod))).length - 1).toNat by omega]
    rw [htop, hc, ← hr2, ← il_length] at hds
    refine ⟨⟨⟨by omega, by omega⟩, ⟨hr2l, hr2i⟩, ⟨by simpa using hql, hqi.set hcb _⟩, fun j hj => ?_, hds.mono (by omega), ?_⟩, by omega⟩
    ·rw [getD_set, if_neg (by omega)]; exact hq0 j (by omega)
    ·rw [hr2, pol_set_add (d := cc) qs (by omega) (by rw [hq0 _ (by omega), el_zero, el_of]; grind)]
     exact div_acc heq
  ·try simp only [zbA] at h7
   refine tE ?_
   refine tS ?_
   refine tR fun _ _ _ => ?_
   refine pV ?_
   refine eV (eCallV rfl rfl rfl (poly_trim _ _ _ qs (by omega) (by omega) (by omega)) ⟨rfl, trivial⟩ ?_)
   refine pV ?_
   refine eV (eCallV rfl rfl rfl (poly_trim _ _ _ r (by omega) (by omega) (by omega)) ⟨rfl, trivial⟩ ?_)
   iterate 3 refine pV ?_
   obtain ⟨hqq, hrr⟩ := Po.div_of heq (by rw [← il_length (f := (pol b : Po (El p m mod)))]; have := Po.len_le hsh; omega)
   rw [hqq, hrr, il_trim hqi, il_trim hri]
   exact tr_ret ⟨trivial, _, _, rfl, ⟨_, _, rfl, A5, N, B1, c1, rfl, rfl, rfl⟩, (cs _ [ow A5 3 N (ints qs), ow B1 3 c1 (ints r)]).trans ((shrink_trim _ _).trans (CSub.cons _ (shrink_trim _ _))), trivial, trivial, trivial⟩
theorem poly_Gcd_ent : Enters Tryz.prog 26 := enters_of Tryz.func26 (by kernel_rfl) (by kernel_rfl)
theorem poly_Gcd (g : GfM) {p m : Int} {mod : List Int} [hF : IsF p m mod] (hg : GOk g p m mod) (A : Option Addr) (n c : Nat) (a : List Int) (hn : n = a.length) (ha9 : a.length ≤ 17592186044415) (B : Option Addr) (k d : Nat) (b : List Int) (hk : k = b.length) (hb9 : b.length ≤ 17592186044415) (h0 : (pol a : Po (El p m mod)) ≠ 0 ∨ (pol b : Po (El p m mod)) ≠ 0) :
  Pure Tryz.prog 26 #[.pointer (some g.p), .slice A n c, .slice B k d] [gfR g, ro A (ints a), ro B (ints b)] (one (fun v ch => ∃ B cap, v = .slice B (il (Po.gcd (pol a : Po (El p m mod)) (pol b : Po (El p m mod)))).length cap ∧ ch = ow B 3 cap (ints (il (Po.gcd (pol a : Po (El p m mod)) (pol b : Po (El p m mod))))))) := by
 have hq2 := hF.q2
 have hla := il_le (p := p) (m := m) (mod := mod) a
 have hlb := il_le (p := p) (m := m) (mod := mod) b
 refine pure_of (args := [.pointer (some g.p), .slice A n c, .slice B k d]) 38 Tryz.func26 rfl rfl rfl poly_Gcd_ent ⟨id, id, id, trivial⟩ (fun w0 => ?_)
 refine tS ?_
 refine tR fun _ _ _ => ?_
 refine pV ?_
 refine tS ?_
 refine tR fun _ _ _ => ?_
 iterate 2 refine pV ?_
 refine eV (eCall1 rfl rfl rfl (poly_CanonE g hg _ _ _ _ (by first | omega | rfl | simp) (by omega)) ⟨rfl, rfl, trivial⟩ ?_)
 rintro _ _ ⟨B1, c1, rfl, hcap1, rfl⟩
 iterate 2 refine pV ?_
 refine eV (eCall1 rfl rfl rfl (poly_CanonE g hg _ _ _ _ (by first | omega | rfl | simp) (by omega)) ⟨rfl, rfl, trivial⟩ ?_)
 rintro _ _ ⟨B1a, c1a, rfl, hcap1a, rfl⟩
 iterate 2 refine pV ?_
 refine tS ?_
 refine tB ?_
 refine tr_loop6 (fun (f : Po (El p m mod)) (h : Po (El p m mod)) (A6 : Option Addr) (c6 : Nat) (A7 : Option Addr) (c7 : Nat) => [(0, .pointer (some g.p)), (1, .slice A6 (il f).length c6), (2, .slice A7 (il h).length c7)]) (fun (f : Po (El p m mod)) (h : Po (El p m mod)) (A6 : Option Addr) (c6 : Nat) (A7 : Option Addr) (c7 : Nat) => [ow A6 3 c6 (ints (il f)), ow A7 3 c7 (ints (il h)), gfR g]) (fun (f : Po (El p m mod)) (h : Po (El p m mod)) (A6 : Option Addr) (c6 : Nat) (A7 : Option Addr) (c7 : Nat) => (f ≠ 0 ∨ h ≠ 0) ∧ (Po.len f ≤ 17592186044415 ∧ Po.len h ≤ 17592186044415) ∧ Po.gcd f h = Po.gcd (pol a : Po (El p m mod)) (pol b : Po (El p m mod))) (fun (f : Po (El p m mod)) (h : Po (El p m mod)) (A6 : Option Addr) (c6 : Nat) (A7 : Option Addr) (c7 : Nat) => Po.len h) ((pol a : Po (El p m mod))) ((pol b : Po (El p m mod))) (B1) (c1) (B1a) (c1a) ⟨rfl, rfl, rfl, trivial⟩ (by first | exact cs _ _ | exact CSub.refl _) (⟨h0, ⟨by rw [← il_length]; omega, by rw [← il_length]; omega⟩, rfl⟩) (fun f h A6 c6 A7 c7 hI => ?_)
 obtain ⟨hnz, ⟨hfl, hhl⟩, hgc⟩ := hI
 refine tS ?_
 refine tS ?_
 refine tR fun _ _ _ => ?_
 refine pV ?_
 refine sV (rLen rfl rfl) ?_
 refine pV ?_
 refine tC rfl (fun h2 => ?_) (fun h2 => ?_)
 ·try simp only [zbA] at h2
  refine tK ?_
  refine tB ?_
  refine tS ?_
  have hh : h ≠ 0 := Po.len_pos_iff.1 (by rw [← il_length]; omega)
  have hrl := Po.rem_len f hh
  have hgs := Po.gcd_step f hh
  refine tR fun _ _ _ => ?_
  iterate 3 refine pV ?_
  refine eV (eCall2 rfl rfl rfl (poly_DivMod g hg _ _ _ (il f) rfl (by rw [il_length]; omega) _ _ _ (il h) rfl (by rw [il_length]; omega) (by rw [pol_il]; exact hh)) ⟨rfl, rfl, rfl, trivial⟩ ?_)
  rintro _ _ _ ⟨A3, c3, B3, d3, rfl, rfl, rfl⟩
  iterate 7 refine pV ?_
  simp only [pol_il]
  refine tR fun _ _ _ => ?_
  iterate 4 refine pV ?_
  refine ⟨h, Po.rem f h, A7, c7, B3, d3, ⟨rfl, rfl, rfl, trivial⟩, by first | exact cs _ _ | exact CSub.refl _, ?_⟩
  exact ⟨⟨.inl hh, ⟨hhl, by omega⟩, by rw [← hgs, hgc]⟩, hrl⟩
 ·try simp only [zbA] at h2
  refine tE ?_
  refine tS ?_
  have hh : h = 0 := Po.eq_zero_of_len (by rw [← il_length]; omega)
  have hf0 : f ≠ 0 := hnz.resolve_right (fun e => e hh)
  rw [hh, Po.gcd_zero] at hgc
  refine tR fun _ _ _ => ?_
  iterate 2 refine pV ?_
  refine eV (eCall1 rfl rfl rfl (poly_Monic g hg _ _ _ (il f) rfl (by rw [il_length]; omega) (by rw [pol_il]; exact hf0)) ⟨rfl, rfl, trivial⟩ ?_)
  rintro _ _ ⟨B5, c5, rfl, rfl⟩
  iterate 5 refine pV ?_
  simp only [pol_il, hgc]
  refine tS ?_
  refine tR fun _ _ _ => ?_
  iterate 2 refine pV ?_
  exact tr_ret ⟨trivial, _, _, rfl, ⟨_, rfl, _, _, rfl, rfl⟩, cs _ _, trivial, trivial⟩
section
variable {p m : Int} {mod : List Int} [hF : IsF p m mod]
noncomputable def xn1 (n : Nat) : Po (El p m mod) := Po.mn 1 n - 1
theorem cf_xn1 {n : Nat} (hn : 1 ≤ n) (j : Nat) : Po.cf (xn1 n : Po (El p m mod)) j = if j = n then 1 else if j = 0 then -1 else 0 := by
 unfold xn1
 rw [Po.cf_sub, Po.cf_mn, Po.cf_one]
 by_cases h : j = n
 ·rw [if_pos h, if_pos h, if_neg (by omega)]; grind
 ·rw [if_neg h, if_neg h]
  by_cases h2 : j = 0
  ·rw [if_pos h2, if_pos h2]; grind
  ·rw [if_neg h2, if_neg h2]; grind
theorem xn1_sh {n : Nat} (hn : 1 ≤ n) : Po.Sh (xn1 n : Po (El p m mod)) (n + 1) := fun j hj => by rw [cf_xn1 hn, if_neg (by omega), if_neg (by omega)]
theorem xn1_len {n : Nat} (hn : 1 ≤ n) : Po.len (xn1 n : Po (El p m mod)) = n + 1 := Po.len_eq (xn1_sh hn) (by rw [cf_xn1 hn, if_pos rfl]; exact Fd.one_ne)
theorem xn1_ne {n : Nat} (hn : 1 ≤ n) : (xn1 n : Po (El p m mod)) ≠ 0 := Po.len_pos_iff.1 (by rw [xn1_len hn]; omega)
noncomputable def aroundL (p m : Int) (mod : List Int) [hF : IsF p m mod] (n : Nat) : List Int := ((List.replicate (n + 1) 0).set 0 (-(el 1 : El p m mod)).1).set n 1
theorem around_length (n : Nat) : (aroundL p m mod n).length = n + 1 := by simp [aroundL]
theorem pol_around {n : Nat} (hn : 1 ≤ n) : (pol (aroundL p m mod n) : Po (El p m mod)) = xn1 n := Po.ext fun j => by
 rw [cf_pol, cf_xn1 hn, aroundL, cf_set _ _ (by simp), cf_set _ _ (by simp), rep_get, el_one, el_zero, el_of]
end
theorem cyc_around_ent : Enters Tryz.prog 19 := enters_of Tryz.func19 (by kernel_rfl) (by kernel_rfl)
theorem cyc_around (g : GfM) {p m : Int} {mod : List Int} [hF : IsF p m mod] (hg : GOk g p m mod) (n : Int) (hn : 1 ≤ n) (hn9 : n ≤ 1000000) :
  Pure Tryz.prog 19 #[.pointer (some g.p), .int .i64 n] [gfR g] (one (fun v ch => ∃ B, v = .slice B (aroundL p m mod n.toNat).length (aroundL p m mod n.toNat).length ∧ ch = ow B 3 (aroundL p m mod n.toNat).length (ints (aroundL p m mod n.toNat)))) := by
 have hal := around_length (p := p) (m := m) (mod := mod) n.toNat
 have hl0 : (List.replicate (n + 1).toNat (0 : Int)).length = (n + 1).toNat := by simp
 have hl1 : ((List.replicate (n + 1).toNat (0 : Int)).set (Int.toNat 0) (-(el 1 : El p m mod)).1).length = (n + 1).toNat := by simp
 refine pure_of (args := [.pointer (some g.p), .int .i64 n]) 17 Tryz.func19 rfl rfl rfl cyc_around_ent ⟨id, trivial⟩ (fun w0 => ?_)
 refine tS ?_
 refine tR fun _ _ _ => ?_
 refine pV ?_
 refine tS ?_
 refine tR fun _ _ _ => ?_
 refine pV ?_
 refine sV (rAdd rfl rfl rfl (by omega) (by omega)) ?_
 refine eV (eMakeI rfl rfl rfl rfl rfl (by omega) (by omega) (by omega) (fun A1 => ?_))
 refine pV ?_
 refine tS ?_
 refine tR fun _ _ _ => ?_
 iterate 4 refine pV ?_
 refine eV (eCallV rfl rfl rfl (gf_NegE g hg _) ⟨rfl, rfl, trivial⟩ ?_)
 refine sV (rIdxI rfl rfl rfl (by omega) (by omega) (by omega)) ?_
 refine eV (eStI rfl rfl rfl rfl (by omega) ?_)
 refine sV (rIdxI rfl rfl rfl (by omega) (by omega) (by omega)) ?_
 refine eV (eStI rfl rfl rfl rfl (by omega) ?_)
 refine tS ?_
 refine tR fun _ _ _ => ?_
 iterate 2 refine pV ?_
 have hnn : (n + 1).toNat = n.toNat + 1 := by omega
 have hdef : ((List.replicate (n.toNat + 1) (0 : Int)).set 0 (-(el 1 : El p m mod)).1).set n.toNat 1 = aroundL p m mod n.toNat := rfl
 simp only [hnn, Int.toNat_zero, hdef]
 exact tr_ret ⟨trivial, _, _, rfl, ⟨_, rfl, _, by rw [hal], rfl⟩, by rw [hal]; exact cs _ _, trivial, trivial⟩
theorem ref_AddE (p m : Int) (A : Option Addr) (c : Nat) (mod : List Int) [hF : IsF p m mod] (x y : Int) : Pure Tryz.prog 139 #[.agg #[.int .i64 p, .int .i64 m, .slice A mod.length c], .int .i64 x, .int .i64 y] [ro A (ints mod)] (isV (.int .i64 (el x + el y : El p m mod).1)) := by
 have h := ref_Add p m A c mod hF.out.1.1 x y
 rw [hF.ord] at h
 exact h
theorem ref_MulE (p m : Int) (A : Option Addr) (c : Nat) (mod : List Int) [hF : IsF p m mod] (x y : Int) : Pure Tryz.prog 138 #[.agg #[.int .i64 p, .int .i64 m, .slice A mod.length c], .int .i64 x, .int .i64 y] [ro A (ints mod)] (isV (.int .i64 (el x * el y : El p m mod).1)) := by
 have h := ref_Mul p m A c mod hF.out.1.1 x y
 rw [hF.ord] at h
 exact h
theorem ref_NegE (p m : Int) (A : Option Addr) (c : Nat) (mod : List Int) [hF : IsF p m mod] (x : Int) : Pure Tryz.prog 108 #[.agg #[.int .i64 p, .int .i64 m, .slice A mod.length c], .int .i64 x] [ro A (ints mod)] (isV (.int .i64 (-el x : El p m mod).1)) := by
 have h := ref_Neg p m A c mod hF.out.1.1 x
 rw [hF.ord] at h
 exact h
theorem ref_InvE (p m : Int) (A : Option Addr) (c : Nat) (mod : List Int) [hF : IsF p m mod] (x : Int) : Pure Tryz.prog 106 #[.agg #[.int .i64 p, .int .i64 m, .slice A mod.length c], .int .i64 x] [ro A (ints mod)] (isV (.int .i64 (Fd.inv (el x) : El p m mod).1)) := by
 have h := ref_Inv p m A c mod hF.out x
 rw [hF.ord] at h
 exact h
end Go.Proofs.YtdkahdehodopoaaGreat

set_option maxRecDepth 100000
namespace Go.Proofs.YtdkahdehodopoaaGreat
open Go.RowKit
section
variable {p m : Int} {mod : List Int} [hF : IsF p m mod]
noncomputable def addR (c : El p m mod) (ds ss : List Int) : List Int := (List.range ds.length).map fun j => (el (ds.getD j 0) + c * el (ss.getD j 0) : El p m mod).1
noncomputable def sclR (c : El p m mod) (xs : List Int) : List Int := xs.map fun y => (c * el y : El p m mod).1
@[simp] theorem addR_length (c : El p m mod) (ds ss : List Int) : (addR c ds ss).length = ds.length := by simp [addR]
@[simp] theorem sclR_length (c : El p m mod) (xs : List Int) : (sclR c xs).length = xs.length := by simp [sclR]
theorem addR_get (c : El p m mod) (ds ss : List Int) {j : Nat} (h : j < ds.length) : (addR c ds ss).getD j 0 = (el (ds.getD j 0) + c * el (ss.getD j 0) : El p m mod).1 := by
 unfold addR
 rw [List.getD_eq_getElem?_getD, List.getElem?_map, List.getElem?_range h]
 rfl
theorem addR_in (c : El p m mod) (ds ss : List Int) : AllIn (pw p m) (addR c ds ss) := fun z hz => by
 obtain ⟨j, _, rfl⟩ := List.mem_map.1 hz
 exact El.bd _
theorem sclR_in (c : El p m mod) (xs : List Int) : AllIn (pw p m) (sclR c xs) := fun z hz => by
 obtain ⟨j, _, rfl⟩ := List.mem_map.1 hz
 exact El.bd _
theorem getD_out {l : List Int} {j : Nat} (h : l.length ≤ j) : l.getD j 0 = 0 := by rw [List.getD_eq_getElem?_getD, List.getElem?_eq_none h]; rfl
theorem rw_addR (c : El p m mod) (ds ss : List Int) (h : ss.length ≤ ds.length) : (rw' (addR c ds ss) : Vc (El p m mod)) = rw' ds + Vc.sc c (rw' ss) := Vc.ext fun j => by
 rw [Vc.add_at, Vc.sc_at, rw_at, rw_at, rw_at]
 by_cases hj : j < ds.length
 ·rw [addR_get c ds ss hj, el_of]
 ·rw [getD_out (by simpa using hj), getD_out (l := ds) (by omega), getD_out (l := ss) (by omega), el_zero]; grind
theorem rw_sclR (c : El p m mod) (xs : List Int) : (rw' (sclR c xs) : Vc (El p m mod)) = Vc.sc c (rw' xs) := Vc.ext fun j => by
 rw [Vc.sc_at, rw_at, rw_at]
 by_cases hj : j < xs.length
 ·unfold sclR
  rw [List.getD_eq_getElem?_getD, List.getElem?_map, List.getElem?_eq_getElem hj, List.getD_eq_getElem?_getD, List.getElem?_eq_getElem hj]
  exact el_of _
 ·rw [getD_out (by simpa using hj), getD_out (l := xs) (by omega), el_zero]; grind
end
theorem mem_erase {rs : List RowM} {i k : Nat} (hk : k < rs.length) (h : k ≠ i) : rs.getD k rowD ∈ rs.eraseIdx i := by
 rw [List.mem_eraseIdx_iff_getElem]
 exact ⟨k, hk, h, by rw [List.getD_eq_getElem?_getD, List.getElem?_eq_getElem hk]; rfl⟩
theorem mat_add_ent : Enters Tryz.prog 155 := enters_of Tryz.func155 (by kernel_rfl) (by kernel_rfl)
theorem mat_add (g : GfM) {p m : Int} {mod : List Int} [hF : IsF p m mod] (hg : GOk g p m mod) (D : Option Addr) (cd : Nat) (ds : List Int) (c : Int) (B : Option Addr) (cb : Nat) (ss : List Int) (hl : ss.length = ds.length) (h9 : ds.length ≤ 17592186044415) (hds : AllIn (pw p m) ds) :
  Mut Tryz.prog 155 #[.pointer (some g.p), .slice D ds.length cd, .int .i64 c, .slice B ss.length cb] [ow D 3 cd (ints ds)] [gfR g, ro B (ints ss)] (one (fun v ch => v = .tuple #[] ∧ ch = ow D 3 cd (ints (addR (el c : El p m mod) ds ss)))) := by
 refine mut_of (args := [.pointer (some g.p), .slice D ds.length cd, .int .i64 c, .slice B ss.length cb]) 33 (F := [ow D 3 cd (ints ds), gfR g, ro B (ints ss)]) rfl Tryz.func155 rfl rfl rfl mat_add_ent (fun w0 => ?_)
 refine tS ?_
 refine tR fun _ _ _ => ?_
 refine pV ?_
 refine sV (rLen rfl rfl) ?_
 refine pV ?_
 refine tB ?_
 refine tr_loop2 (fun (j : Int) (o : List Int) => [(0, .pointer (some g.p)), (1, .slice D ds.length cd), (2, .int .i64 c), (10, .slice B ss.length cb), (11, .int .i64 ss.length), (12, .int .i64 j)]) (fun (j : Int) (o : List Int) => [ow D 3 cd (ints o), gfR g, ro B (ints ss)]) (fun (j : Int) (o : List Int) => (0 ≤ j ∧ j ≤ ss.length) ∧ o.length = ds.length ∧ (∀ t : Nat, (t : Int) < j → o.getD t 0 = (el (ds.getD t 0) + el c * el (ss.getD t 0) : El p m mod).1) ∧ ∀ t : Nat, j ≤ t → o.getD t 0 = ds.getD t 0) (fun (j : Int) (o : List Int) => (ss.length - j).toNat) (0) (ds) ⟨rfl, rfl, rfl, rfl, rfl, rfl, trivial⟩ (by first | exact cs _ _ | exact CSub.refl _) (⟨⟨by omega, by omega⟩, rfl, fun t ht => by omega, fun t ht => rfl⟩) (fun j o hI => ?_)
 obtain ⟨⟨hj0, hj1⟩, hol, ho1, ho2⟩ := hI
 refine tS ?_
 refine tR fun _ _ _ => ?_
 refine pV ?_
 refine tS ?_
 refine tC rfl (fun h1 => ?_) (fun h1 => ?_)
 ·try simp only [zbA] at h1
  refine tK ?_
  refine tS ?_
  refine tB ?_
  refine tS ?_
  refine tR fun _ _ _ => ?_
  refine pV ?_
  refine sV (rIdxI rfl rfl rfl (by omega) (by omega) (by omega)) ?_
  refine sV (rLdI rfl rfl (by omega)) ?_
  iterate 2 refine pV ?_
  refine tS ?_
  refine tR fun _ _ _ => ?_
  iterate 2 refine pV ?_
  refine tC rfl (fun h3 => ?_) (fun h3 => ?_)
  ·try simp only [zbA] at h3
   refine tr_draw [0, 1, 2, 3, 4, 5, 6, 7, 8, 9, 10, 11, 12] [13] mixed (by kernel_rfl) fun _ _ _ => ?_
   iterate 5 refine pV ?_
   refine sV (rIdxI rfl rfl rfl (by omega) (by omega) (by omega)) ?_
   refine sV (rLdI rfl rfl (by omega)) ?_
   iterate 3 refine pV ?_
   refine eV (eCallV rfl rfl rfl (gf_MulE g hg _ _) ⟨rfl, rfl, rfl, trivial⟩ ?_)
   refine eV (eCallV rfl rfl rfl (gf_AddE g hg _ _) ⟨rfl, rfl, rfl, trivial⟩ ?_)
   refine sV (rIdxI rfl rfl rfl (by omega) (by omega) (by omega)) ?_
   refine eV (eStI rfl rfl rfl rfl (by omega) ?_)
   refine tR fun _ _ _ => ?_
   refine sV (rAdd rfl rfl rfl (by omega) (by omega)) ?_
   refine pV ?_
   refine ⟨j + 1, o.set j.toNat (el (o.getD j.toNat 0) + el (el c * el (ss.getD j.toNat 0) : El p m mod).1 : El p m mod).1, ⟨rfl, rfl, rfl, rfl, rfl, rfl, trivial⟩, by first | exact cs _ _ | exact CSub.refl _, ?_⟩
   refine ⟨⟨⟨by omega, by omega⟩, by simpa using hol, fun t ht => ?_, fun t ht => ?_⟩, by omega⟩
   ·rw [getD_set]
    by_cases he : j.toNat = t
    ·subst he; rw [if_pos ⟨rfl, by omega⟩, el_of, ho2 _ (by omega)]
    ·rw [if_neg (by omega)]; exact ho1 t (by omega)
   ·rw [getD_set, if_neg (by omega)]; exact ho2 t (by omega)
  ·try simp only [zbA] at h3
   refine tK ?_
   refine tR fun _ _ _ => ?_
   refine sV (rAdd rfl rfl rfl (by omega) (by omega)) ?_
   refine pV ?_
   refine ⟨j + 1, o, ⟨rfl, rfl, rfl, rfl, rfl, rfl, trivial⟩, by first | exact cs _ _ | exact CSub.refl _, ?_⟩
   refine ⟨⟨⟨by omega, by omega⟩, hol, fun t ht => ?_, fun t ht => ho2 t (by omega)⟩, by omega⟩
   by_cases he : j.toNat = t
   ·subst he
    have hb := hds.get (by have := hF.q2; omega) j.toNat
    rw [ho2 _ (by omega), show ss.getD j.toNat 0 = 0 by omega, el_zero, Rg.mul_zero, Rg.add_zero, el_in hb]
   ·exact ho1 t (by omega)
 ·try simp only [zbA] at h1
  refine tE ?_
  have hfin : o = addR (el c : El p m mod) ds ss := ext_getD (by simpa using hol) fun t => by
   by_cases ht : t < ds.length
   ·rw [addR_get _ _ _ ht, ho1 t (by omega)]
   ·rw [getD_out (by omega), getD_out (by simp; omega)]
  rw [← hfin]
  exact ⟨trivial, _, _, .nil, ⟨_, rfl, rfl, rfl⟩, cs _ _, trivial, trivial⟩
theorem elim_swap_ent : Enters Tryz.prog 152 := enters_of Tryz.func152 (by kernel_rfl) (by kernel_rfl)
theorem elim_swap (A : Option Addr) (n cp : Nat) (rs : List RowM) (hn : n = rs.length) (pi pk : Addr) (i k : Int) (hi : 0 ≤ i ∧ i < rs.length) (hk : 0 ≤ k ∧ k < rs.length) :
  Mut Tryz.prog 152 #[.slice A n cp, .pointer (some pi), .pointer (some pk)] [ow A 22 cp (hdrs rs), rowsCh 3 rs] [ro (some pi) [.int .i64 i], ro (some pk) [.int .i64 k]] (two (fun v ca cb => v = .tuple #[] ∧ ca = ow A 22 cp (hdrs ((rs.set k.toNat (rs.getD i.toNat rowD)).set i.toNat (rs.getD k.toNat rowD))) ∧ cb = rowsCh 3 ((rs.set k.toNat (rs.getD i.toNat rowD)).set i.toNat (rs.getD k.toNat rowD)))) := by
 haveI : InB i.toNat rs.length := ⟨by omega⟩
 haveI : InB k.toNat rs.length := ⟨by omega⟩
 refine mut_of (args := [.slice A n cp, .pointer (some pi), .pointer (some pk)]) 18 (F := [ow A 22 cp (hdrs rs), rowsCh 3 rs, ro (some pi) [.int .i64 i], ro (some pk) [.int .i64 k]]) rfl Tryz.func152 rfl rfl rfl elim_swap_ent (fun w0 => ?_)
 refine tr_plan [ro (some pi) [.int .i64 i], ro (some pk) [.int .i64 k]] [(0, 0), (0, 1), (2, 2), (2, 3), (0, 4), (0, 5), (0, 6), (0, 7), (0, 8), (0, 9), (0, 10), (0, 11), (0, 12), (1, 13), (0, 14), (1, 15)] mixed (by kernel_rfl) fun _ _ _ => ?_
 refine pV ?_
 refine sV (rLd0 rfl rfl) ?_
 refine stF rfl rfl rfl rfl (cs _ _) (rMove rfl rfl) ?_
 refine stF rfl rfl rfl rfl (cs _ _) (rLd0 rfl rfl) ?_
 refine pV ?_
 refine sV (rLd0 rfl rfl) ?_
 refine sV (rIdxR rfl rfl rfl (by omega) (by omega) (by omega)) ?_
 refine sV (rLdR rfl rfl (by omega)) ?_
 refine pV ?_
 refine sV (rLd0 rfl rfl) ?_
 refine sV (rIdxR rfl rfl rfl (by omega) (by omega) (by omega)) ?_
 refine sV (rLdR rfl rfl (by omega)) ?_
 refine sV (rIdxR rfl rfl rfl (by omega) (by omega) (by omega)) ?_
 refine eV (eSt rfl rfl rfl rfl (by first | omega | (simp; omega)) rfl rfl ?_)
 refine ⟨cs _ _, ?_⟩
 refine sV (rIdx rfl rfl rfl (by omega) (by omega) (by simp; omega)) ?_
 refine eV (eSt rfl rfl rfl rfl (by first | omega | (simp; omega)) rfl rfl ?_)
 refine ⟨cs _ _, ?_⟩
 have hh : ((hdrs rs).set k.toNat (RowM.hdr (rs.getD i.toNat rowD))).set i.toNat (RowM.hdr (rs.getD k.toNat rowD)) = hdrs ((rs.set k.toNat (rs.getD i.toNat rowD)).set i.toNat (rs.getD k.toNat rowD)) := by rw [hdrs_set, hdrs_set]
 exact ⟨trivial, _, _, .nil, ⟨_, _, rfl, rfl, rfl, rfl⟩, hh ▸ ((cs _ [rowsCh 3 rs, ow A 22 cp (((hdrs rs).set k.toNat (.slice (rs.getD i.toNat rowD).A (rs.getD i.toNat rowD).xs.length (rs.getD i.toNat rowD).cap)).set i.toNat (.slice (rs.getD k.toNat rowD).A (rs.getD k.toNat rowD).xs.length (rs.getD k.toNat rowD).cap))]).trans ((rows_perm (swap_perm rowD rs (by omega) (by omega)) _).trans (CSub.perm (List.Perm.swap ..)))), trivial, trivial, trivial⟩
theorem elim_scale_ent : Enters Tryz.prog 153 := enters_of Tryz.func153 (by kernel_rfl) (by kernel_rfl)
theorem elim_scale (g : GfM) {p m : Int} {mod : List Int} [hF : IsF p m mod] (hg : GOk g p m mod) (A : Option Addr) (n cp : Nat) (rs : List RowM) (hn : n = rs.length) (pg pf pk : Addr) (f k : Int) (hk : 0 ≤ k ∧ k < rs.length) (hl : (rs.getD k.toNat rowD).xs.length ≤ 17592186044415) :
  Mut Tryz.prog 153 #[.slice A n cp, .pointer (some pg), .pointer (some pf), .pointer (some pk)] [ow A 22 cp (hdrs rs), rowsCh 3 rs] [ro (some pg) [.pointer (some g.p)], ro (some pf) [.int .i64 f], ro (some pk) [.int .i64 k], gfR g] (two (fun v ca cb => ∃ B, v = .tuple #[] ∧ ca = ow A 22 cp (hdrs (rs.set k.toNat (⟨B, (rs.getD k.toNat rowD).xs.length, sclR (el f : El p m mod) (rs.getD k.toNat rowD).xs⟩ : RowM))) ∧ cb = rowsCh 3 (rs.set k.toNat (⟨B, (rs.getD k.toNat rowD).xs.length, sclR (el f : El p m mod) (rs.getD k.toNat rowD).xs⟩ : RowM)))) := by
 haveI : InB k.toNat rs.length := ⟨by omega⟩
 refine mut_of (args := [.slice A n cp, .pointer (some pg), .pointer (some pf), .pointer (some pk)]) 15 (F := [ow A 22 cp (hdrs rs), rowsCh 3 rs, ro (some pg) [.pointer (some g.p)], ro (some pf) [.int .i64 f], ro (some pk) [.int .i64 k], gfR g]) rfl Tryz.func153 rfl rfl rfl elim_scale_ent (fun w0 => ?_)
 refine tr_draw [0, 1, 2, 3, 4, 5, 6, 7, 8, 9] [10] mixed (by kernel_rfl) fun _ _ _ => ?_
 refine pV ?_
 refine sV (rLd0 rfl rfl) ?_
 refine sV (rLd0 rfl rfl) ?_
 refine sV (rLd0 rfl rfl) ?_
 refine pV ?_
 refine sV (rLd0 rfl rfl) ?_
 refine sV (rIdxR rfl rfl rfl (by omega) (by omega) (by omega)) ?_
 refine sV (rLdR rfl rfl (by omega)) ?_
 refine eV (eCall1 rfl rfl rfl (gf_ScaleE g hg _ _ _ _ (rs.getD k.toNat rowD).xs rfl hl) ⟨rfl, rfl, rfl, trivial⟩ ?_)
 rintro _ _ ⟨B, rfl, rfl⟩
 refine sV (rIdxR rfl rfl rfl (by omega) (by omega) (by omega)) ?_
 refine eV (eSt rfl rfl rfl rfl (by first | omega | (simp; omega)) rfl rfl ?_)
 have hh : (hdrs rs).set k.toNat (.slice B (rs.getD k.toNat rowD).xs.length (rs.getD k.toNat rowD).xs.length) = hdrs (rs.set k.toNat (⟨B, (rs.getD k.toNat rowD).xs.length, sclR (el f : El p m mod) (rs.getD k.toNat rowD).xs⟩ : RowM)) := by rw [hdrs_set]; simp [RowM.hdr]
 exact ⟨trivial, _, _, .nil, ⟨_, _, rfl, B, rfl, rfl, rfl⟩, hh ▸ ((cs _ [rowsCh 3 rs, ow B 3 (rs.getD k.toNat rowD).xs.length (ints ((rs.getD k.toNat rowD).xs.map fun y => (el f * el y : El p m mod).1)), ow A 22 cp ((hdrs rs).set k.toNat (.slice B (rs.getD k.toNat rowD).xs.length (rs.getD k.toNat rowD).xs.length))]).trans ((rows_put (r := (⟨B, (rs.getD k.toNat rowD).xs.length, sclR (el f : El p m mod) (rs.getD k.toNat rowD).xs⟩ : RowM)) (show k.toNat < rs.length by omega) _).trans (CSub.perm (List.Perm.swap ..)))), trivial, trivial, trivial⟩
theorem elim_add_ent : Enters Tryz.prog 154 := enters_of Tryz.func154 (by kernel_rfl) (by kernel_rfl)
theorem elim_add (g : GfM) {p m : Int} {mod : List Int} [hF : IsF p m mod] (hg : GOk g p m mod) (A : Option Addr) (n cp : Nat) (rs : List RowM) (hn : n = rs.length) (pg pi pf pk : Addr) (f i k : Int) (hi : 0 ≤ i ∧ i < rs.length) (hk : 0 ≤ k ∧ k < rs.length) (hik : i ≠ k) (hl : (rs.getD k.toNat rowD).xs.length = (rs.getD i.toNat rowD).xs.length) (hl9 : (rs.getD i.toNat rowD).xs.length ≤ 17592186044415) (hin : AllIn (pw p m) (rs.getD i.toNat rowD).xs) :
  Mut Tryz.prog 154 #[.slice A n cp, .pointer (some pg), .pointer (some pi), .pointer (some pf), .pointer (some pk)] [ow A 22 cp (hdrs rs), rowsCh 3 rs] [ro (some pg) [.pointer (some g.p)], ro (some pi) [.int .i64 i], ro (some pf) [.int .i64 f], ro (some pk) [.int .i64 k], gfR g] (two (fun v ca cb => v = .tuple #[] ∧ ca = ow A 22 cp (hdrs (rs.set i.toNat (⟨(rs.getD i.toNat rowD).A, (rs.getD i.toNat rowD).cap, addR (-(el f : El p m mod)) (rs.getD i.toNat rowD).xs (rs.getD k.toNat rowD).xs⟩ : RowM))) ∧ cb = rowsCh 3 (rs.set i.toNat (⟨(rs.getD i.toNat rowD).A, (rs.getD i.toNat rowD).cap, addR (-(el f : El p m mod)) (rs.getD i.toNat rowD).xs (rs.getD k.toNat rowD).xs⟩ : RowM)))) := by
 haveI : InB i.toNat rs.length := ⟨by omega⟩
 haveI : InB k.toNat rs.length := ⟨by omega⟩
 haveI : RowIn (rs.getD k.toNat rowD) (rs.eraseIdx i.toNat) := ⟨mem_erase (by omega) (by omega)⟩
 refine mut_of (args := [.slice A n cp, .pointer (some pg), .pointer (some pi), .pointer (some pf), .pointer (some pk)]) 19 (F := [ow A 22 cp (hdrs rs), rowsCh 3 rs, ro (some pg) [.pointer (some g.p)], ro (some pi) [.int .i64 i], ro (some pf) [.int .i64 f], ro (some pk) [.int .i64 k], gfR g]) rfl Tryz.func154 rfl rfl rfl elim_add_ent (fun w0 => ?_)
 refine tr_draw [0, 1, 2, 3, 4, 5, 6, 8, 9, 10, 11, 7] [12] mixed (by kernel_rfl) fun _ _ _ => ?_
 refine sV (rLd0 rfl rfl) ?_
 refine pV ?_
 refine sV (rLd0 rfl rfl) ?_
 refine sV (rIdxR rfl rfl rfl (by omega) (by omega) (by omega)) ?_
 refine sV (rLdR rfl rfl (by omega)) ?_
 refine sV (rLd0 rfl rfl) ?_
 refine sV (rLd0 rfl rfl) ?_
 refine pV ?_
 refine sV (rLd0 rfl rfl) ?_
 refine sV (rIdxR rfl rfl rfl (by omega) (by omega) (by omega)) ?_
 refine sV (rLdR rfl rfl (by omega)) ?_
 refine eV (eCallV rfl rfl rfl (gf_NegE g hg _) ⟨rfl, rfl, trivial⟩ ?_)
 refine st_sub (((cs _ [rowsCh 3 rs, ow A 22 cp (hdrs rs), ro (some pg) [.pointer (some g.p)], ro (some pi) [.int .i64 i], ro (some pf) [.int .i64 f], ro (some pk) [.int .i64 k], gfR g]).trans (rows_out (show i.toNat < rs.length by omega) _) : CSub _ [ow (rs.getD i.toNat rowD).A 3 (rs.getD i.toNat rowD).cap (ints (rs.getD i.toNat rowD).xs), rowsCh 3 (rs.eraseIdx i.toNat), ow A 22 cp (hdrs rs), ro (some pg) [.pointer (some g.p)], ro (some pi) [.int .i64 i], ro (some pf) [.int .i64 f], ro (some pk) [.int .i64 k], gfR g])) ?_
 refine eV (eCallM1 rfl rfl rfl (mat_add g hg _ _ _ _ _ _ _ hl hl9 hin) ⟨rfl, rfl, rfl, rfl, trivial⟩ ?_)
 rintro _ _ ⟨rfl, rfl⟩
 rw [el_of]
 have hh : (hdrs rs).set i.toNat (RowM.hdr (⟨(rs.getD i.toNat rowD).A, (rs.getD i.toNat rowD).cap, addR (-(el f : El p m mod)) (rs.getD i.toNat rowD).xs (rs.getD k.toNat rowD).xs⟩ : RowM)) = hdrs (rs.set i.toNat (⟨(rs.getD i.toNat rowD).A, (rs.getD i.toNat rowD).cap, addR (-(el f : El p m mod)) (rs.getD i.toNat rowD).xs (rs.getD k.toNat rowD).xs⟩ : RowM)) := (hdrs_set _ _ _).symm
 have hs : (hdrs rs).set i.toNat (RowM.hdr (⟨(rs.getD i.toNat rowD).A, (rs.getD i.toNat rowD).cap, addR (-(el f : El p m mod)) (rs.getD i.toNat rowD).xs (rs.getD k.toNat rowD).xs⟩ : RowM)) = hdrs rs := by
  have e1 : RowM.hdr (⟨(rs.getD i.toNat rowD).A, (rs.getD i.toNat rowD).cap, addR (-(el f : El p m mod)) (rs.getD i.toNat rowD).xs (rs.getD k.toNat rowD).xs⟩ : RowM) = RowM.hdr (rs.getD i.toNat rowD) := by simp [RowM.hdr]
  rw [e1, ← hdrs_set]
  congr 1
  rw [List.getD_eq_getElem?_getD, List.getElem?_eq_getElem (show i.toNat < rs.length by omega)]
  exact List.set_getElem_self _
 exact ⟨trivial, _, _, .nil, ⟨_, _, rfl, rfl, rfl, rfl⟩, (hs.symm.trans hh) ▸ ((cs _ [ow (rs.getD i.toNat rowD).A 3 (rs.getD i.toNat rowD).cap (ints (addR (-(el f : El p m mod)) (rs.getD i.toNat rowD).xs (rs.getD k.toNat rowD).xs)), rowsCh 3 (rs.eraseIdx i.toNat), ow A 22 cp (hdrs rs)]).trans ((rows_in (r := (⟨(rs.getD i.toNat rowD).A, (rs.getD i.toNat rowD).cap, addR (-(el f : El p m mod)) (rs.getD i.toNat rowD).xs (rs.getD k.toNat rowD).xs⟩ : RowM)) (show i.toNat < rs.length by omega) _).trans (CSub.perm (List.Perm.swap ..)))), trivial, trivial, trivial⟩
theorem elim_each_ent : Enters Tryz.prog 151 := enters_of Tryz.func151 (by kernel_rfl) (by kernel_rfl)
theorem elim_each (A : Option Addr) (n cp : Nat) (rs : List RowM) (hn : n = rs.length) (ff : FuncId) (lb : List Value) (p5 p7 : Addr) (Gc : List Chunk) (hGc : NoEx Gc) (Φ : Value → Chunk → Chunk → Prop) (hf : Mut Tryz.prog ff ([(.slice A n cp : Value)] ++ lb).toArray [ow A 22 cp (hdrs rs), rowsCh 3 rs] Gc (two Φ)) (hex : ∀ u c d, Φ u c d → AllEx [c, d]) :
  Mut Tryz.prog 151 #[.func (.func ff) #[] lb.toArray, .pointer (some p5), .pointer (some p7)] [ow A 22 cp (hdrs rs), rowsCh 3 rs] [ro (some p5) [.slice A n cp], ro (some p7) [.slice none 0 0], bun Gc] (two (fun v ca cb => v = .tuple #[] ∧ ∃ u, Φ u ca cb)) := by
 refine mut_of (args := [.func (.func ff) #[] lb.toArray, .pointer (some p5), .pointer (some p7)]) 13 (F := [ow A 22 cp (hdrs rs), rowsCh 3 rs, ro (some p5) [.slice A n cp], ro (some p7) [.slice none 0 0], bun Gc]) rfl Tryz.func151 rfl rfl rfl elim_each_ent (fun w0 => ?_)
 refine tS ?_
 refine tR fun _ _ _ => ?_
 refine pV ?_
 refine sV (rLd0 rfl rfl) ?_
 refine eV (eCallF2 rfl rfl rfl rfl (hf) ⟨rfl, trivial⟩ ?_ hGc)
 rintro _ _ _ hΦ
 refine tS ?_
 refine tR fun _ _ _ => ?_
 refine sV (rLd0 rfl rfl) ?_
 refine sV (rLen rfl rfl) ?_
 refine pV ?_
 refine tC rfl (fun h1 => ?_) (fun h1 => ?_)
 ·try simp only [zbA] at h1
  exact absurd h1 (by simp) --done
 ·try simp only [zbA] at h1
  refine tK ?_
  exact ⟨trivial, _, _, .nil, ⟨_, _, rfl, rfl, _, hΦ⟩, cs _ _, hex _ _ _ hΦ⟩
end Go.Proofs.YtdkahdehodopoaaGreat

namespace Go.Proofs.YtdkahdehodopoaaGreat
namespace Vc
variable {K : Type} [Fd K]
theorem getD_setV {α : Type} (l : List α) (i j : Nat) (v d : α) : (l.set i v).getD j d = if i = j ∧ j < l.length then v else l.getD j d := by
 rw [List.getD_eq_getElem?_getD, List.getElem?_set]
 by_cases h : i = j
 ·subst h
  by_cases h2 : i < l.length
  ·rw [if_pos rfl, if_pos h2, if_pos ⟨rfl, h2⟩]; rfl
  ·rw [if_pos rfl, if_neg h2, if_neg (fun h => h2 h.2), List.getD_eq_getElem?_getD, List.getElem?_eq_none (by omega)]
 ·rw [if_neg h, if_neg (fun e => h e.1), ← List.getD_eq_getElem?_getD]
theorem span_perm {V V' : List (Vc K)} (h : V.Perm V') (u : Vc K) : SpL V u ↔ SpL V' u :=
 ⟨fun hu => hu.mono fun r hr => .of (h.mem_iff.1 hr), fun hu => hu.mono fun r hr => .of (h.mem_iff.2 hr)⟩
theorem span_set {V : List (Vc K)} {i : Nat} {v : Vc K} (hi : i < V.length) (h1 : SpL V v) (h2 : SpL (V.set i v) (V.getD i 0)) (u : Vc K) : SpL V u ↔ SpL (V.set i v) u := by
 constructor
 ·refine fun hu => hu.mono fun r hr => ?_
  obtain ⟨j, hj, rfl⟩ := List.getElem_of_mem hr
  by_cases hij : i = j
  ·subst hij
   have : V.getD i 0 = V[i] := by rw [List.getD_eq_getElem?_getD, List.getElem?_eq_getElem hi]; rfl
   rw [← this]; exact h2
  ·refine .of ?_
   rw [List.mem_iff_getElem]
   exact ⟨j, by simpa using hj, by rw [List.getElem_set_ne hij]⟩
 ·refine fun hu => hu.mono fun r hr => ?_
  rcases List.mem_or_eq_of_mem_set hr with h | h
  ·exact .of h
  ·rw [h]; exact h1
structure Eli (W : Vc K → Prop) (n : Nat) (V : List (Vc K)) (c : Nat) (ps : List Nat) : Prop where
 sp : ∀ u, SpL V u ↔ W u
 len : ps.length ≤ V.length
 lt : ∀ i, i < ps.length → ps.getD i 0 < c
 rise : ∀ i k, i < k → k < ps.length → ps.getD i 0 < ps.getD k 0
 one : ∀ i, i < ps.length → V.getD i 0 (ps.getD i 0) = 1
 off : ∀ i k, i < V.length → k < ps.length → i ≠ k → V.getD i 0 (ps.getD k 0) = 0
 low : ∀ i j, i < ps.length → j < ps.getD i 0 → V.getD i 0 j = 0
 zer : ∀ i j, ps.length ≤ i → i < V.length → j < c → V.getD i 0 j = 0
 sup : ∀ i j, i < V.length → n ≤ j → V.getD i 0 j = 0
variable {W : Vc K → Prop} {n c : Nat} {V : List (Vc K)} {ps : List Nat}
theorem Eli.start (hs : ∀ i j, i < V.length → n ≤ j → V.getD i 0 j = 0) : Eli (SpL V) n V 0 [] where
 sp _ := Iff.rfl
 len := Nat.zero_le _
 lt i h := by simp at h
 rise i k _ h := by simp at h
 one i h := by simp at h
 off i k _ h _ := by simp at h
 low i j h := by simp at h
 zer i j _ _ h := by omega
 sup := hs
theorem Eli.skip (h : Eli W n V c ps) (hz : ∀ i, ps.length ≤ i → i < V.length → V.getD i 0 c = 0) : Eli W n V (c + 1) ps :=
 { h with
  lt := fun i hi => by have := h.lt i hi; omega
  zer := fun i j h1 h2 h3 => by
   by_cases e : j = c
   ·subst e; exact hz i h1 h2
   ·exact h.zer i j h1 h2 (by omega) }
theorem Eli.swap (h : Eli W n V c ps) {a : Nat} (ha : ps.length ≤ a) (ha2 : a < V.length) : Eli W n ((V.set ps.length (V.getD a 0)).set a (V.getD ps.length 0)) c ps := by
 have hp := swap_perm (0 : Vc K) V (i := ps.length) (j := a) (by omega) ha2
 have key : ∀ i, i < V.length → ((V.set ps.length (V.getD a 0)).set a (V.getD ps.length 0)).getD i 0 = V.getD (if i = a then ps.length else if i = ps.length then a else i) 0 := fun i hi => by
  rw [getD_setV]
  by_cases e1 : a = i
  ·rw [if_pos (show a = i ∧ i < (V.set ps.length (V.getD a 0)).length from ⟨e1, by simpa using hi⟩), if_pos (show i = a from e1.symm)]
  ·rw [if_neg (show ¬ (a = i ∧ i < (V.set ps.length (V.getD a 0)).length) from fun e => e1 e.1), if_neg (show ¬ i = a from fun e => e1 e.symm), getD_setV]
   by_cases e2 : ps.length = i
   ·rw [if_pos (show ps.length = i ∧ i < V.length from ⟨e2, hi⟩), if_pos (show i = ps.length from e2.symm)]
   ·rw [if_neg (show ¬ (ps.length = i ∧ i < V.length) from fun e => e2 e.1), if_neg (show ¬ i = ps.length from fun e => e2 e.symm)]
 have lenE : ((V.set ps.length (V.getD a 0)).set a (V.getD ps.length 0)).length = V.length := by simp
 refine ⟨fun u => ((span_perm hp u).symm).trans (h.sp u), by rw [lenE]; exact h.len, h.lt, h.rise, fun i hi => ?_, fun i k hi hk hik => ?_, fun i j hi hj => ?_, fun i j h1 h2 h3 => ?_, fun i j hi hj => ?_⟩
 ·rw [key i (by have := h.len; omega), if_neg (by omega), if_neg (by omega)]; exact h.one i hi
 ·rw [lenE] at hi
  rw [key i hi]
  split
  ·exact h.off _ k (by omega) hk (by omega)
  ·split
   ·exact h.off _ k ha2 hk (by omega)
   ·exact h.off _ k hi hk hik
 ·rw [key i (by have := h.len; omega), if_neg (by omega), if_neg (by omega)]; exact h.low i j hi hj
 ·rw [lenE] at h2
  rw [key i h2]
  split
  ·exact h.zer _ j (by omega) (by omega) h3
  ·split
   ·exact h.zer _ j ha ha2 h3
   ·exact h.zer _ j h1 h2 h3
 ·rw [lenE] at hi
  rw [key i hi]
  split
  ·exact h.sup _ j (by omega) hj
  ·split
   ·exact h.sup _ j ha2 hj
   ·exact h.sup _ j hi hj
theorem Eli.turn (h : Eli W n V c ps) {i : Nat} {v : Vc K} (hi : i < V.length) (hk : ps.length < V.length) (h1 : SpL V v) (h2 : SpL (V.set i v) (V.getD i 0))
  (hv : (∃ f, v = V.getD i 0 + sc f (V.getD ps.length 0) ∧ i ≠ ps.length) ∨ (∃ e, v = sc e (V.getD ps.length 0) ∧ i = ps.length)) : Eli W n (V.set i v) c ps := by
 have key : ∀ t j, t < V.length → (∀ u, u < V.length → u = t ∨ u = ps.length → V.getD u 0 j = 0) → (V.set i v).getD t 0 j = 0 := fun t j ht hz => by
  rw [getD_setV]
  by_cases e : i = t
  ·subst e
   rw [if_pos ⟨rfl, ht⟩]
   rcases hv with ⟨f, rfl, _⟩ | ⟨e, rfl, _⟩
   ·rw [add_at, sc_at, hz i ht (.inl rfl), hz ps.length hk (.inr rfl)]; grind
   ·rw [sc_at, hz ps.length hk (.inr rfl)]; grind
  ·rw [if_neg (fun x => e x.1)]; exact hz t ht (.inl rfl)
 have lenE : (V.set i v).length = V.length := by simp
 refine ⟨fun u => (span_set hi h1 h2 u).symm.trans (h.sp u), by rw [lenE]; exact h.len, h.lt, h.rise, fun t ht => ?_, fun t k ht hk2 htk => ?_, fun t j ht hj => ?_, fun t j h3 h4 h5 => ?_, fun t j ht hj => ?_⟩
 ·rw [getD_setV]
  by_cases e : i = t
  ·subst e
   rw [if_pos ⟨rfl, hi⟩]
   rcases hv with ⟨f, rfl, _⟩ | ⟨e, _, he⟩
   ·rw [add_at, sc_at, h.one i ht, h.off ps.length i hk ht (by omega)]; grind
   ·omega
  ·rw [if_neg (fun x => e x.1)]; exact h.one t ht
 ·rw [lenE] at ht
  exact key t _ ht fun u hu hu2 => h.off u k hu hk2 (by rcases hu2 with rfl | rfl <;> omega)
 ·exact key t j (by have := h.len; omega) fun u hu hu2 => by
   rcases hu2 with rfl | rfl
   ·exact h.low _ j ht hj
   ·exact h.zer _ j (Nat.le_refl _) hk (by have := h.lt t ht; omega)
 ·rw [lenE] at h4
  exact key t j h4 fun u hu hu2 => h.zer u j (by rcases hu2 with rfl | rfl <;> omega) hu h5
 ·rw [lenE] at ht
  exact key t j ht fun u hu _ => h.sup u j hu hj
theorem Eli.scale (h : Eli W n V c ps) (hk : ps.length < V.length) {e : K} (he : e ≠ 0) : Eli W n (V.set ps.length (sc e (V.getD ps.length 0))) c ps := by
 refine h.turn hk hk (Sp.scale _ (.of (getD_eq_mem hk 0))) ?_ (.inr ⟨e, rfl, rfl⟩)
 have h2 : (sc e (V.getD ps.length 0)) ∈ V.set ps.length (sc e (V.getD ps.length 0)) := by
  rw [List.mem_iff_getElem]
  exact ⟨ps.length, by simpa using hk, by rw [List.getElem_set_self]⟩
 have h3 := Sp.scale (Fd.inv e) (Sp.of (S := fun r => r ∈ V.set ps.length (sc e (V.getD ps.length 0))) h2)
 rwa [sc_sc, Fd.inv_mul e he, one_sc] at h3
theorem Eli.plus (h : Eli W n V c ps) (hk : ps.length < V.length) {i : Nat} (hi : i < V.length) (hik : i ≠ ps.length) (f : K) : Eli W n (V.set i (V.getD i 0 + sc f (V.getD ps.length 0))) c ps := by
 refine h.turn hi hk (Sp.plus (.of (getD_eq_mem hi 0)) (Sp.scale _ (.of (getD_eq_mem hk 0)))) ?_ (.inl ⟨f, rfl, hik⟩)
 have h2 : (V.getD i 0 + sc f (V.getD ps.length 0)) ∈ V.set i (V.getD i 0 + sc f (V.getD ps.length 0)) := by
  rw [List.mem_iff_getElem]
  exact ⟨i, by simpa using hi, by rw [List.getElem_set_self]⟩
 have h3 : V.getD ps.length 0 ∈ V.set i (V.getD i 0 + sc f (V.getD ps.length 0)) := by
  rw [List.mem_iff_getElem]
  refine ⟨ps.length, by simpa using hk, ?_⟩
  have e : V.getD ps.length 0 = V[ps.length] := by rw [List.getD_eq_getElem?_getD, List.getElem?_eq_getElem hk]; rfl
  rw [List.getElem_set_ne hik]
  exact e.symm
 have h4 := Sp.plus (Sp.of (S := fun r => r ∈ V.set i (V.getD i 0 + sc f (V.getD ps.length 0))) h2) (Sp.scale (-f) (Sp.of h3))
 have h5 : V.getD i 0 + sc f (V.getD ps.length 0) + sc (-f) (V.getD ps.length 0) = V.getD i 0 := ext fun j => by
  rw [add_at, add_at, sc_at, sc_at]; grind
 rwa [h5] at h4
theorem getD_snoc (ps : List Nat) (c i : Nat) : (ps ++ [c]).getD i 0 = if i < ps.length then ps.getD i 0 else if i = ps.length then c else 0 := by
 rw [List.getD_eq_getElem?_getD, List.getElem?_append]
 split
 ·rw [List.getD_eq_getElem?_getD]
 ·by_cases h : i = ps.length
  ·subst h; rw [if_pos rfl]; simp
  ·rw [if_neg h, List.getElem?_eq_none (by simp; omega)]; rfl
theorem Eli.push (h : Eli W n V c ps) (hk : ps.length < V.length) (h1 : V.getD ps.length 0 c = 1) (h0 : ∀ i, i < V.length → i ≠ ps.length → V.getD i 0 c = 0) : Eli W n V (c + 1) (ps ++ [c]) := by
 have ll : (ps ++ [c]).length = ps.length + 1 := by simp
 refine ⟨h.sp, by omega, fun i hi => ?_, fun i k hik hk2 => ?_, fun i hi => ?_, fun i k hi hk2 hik => ?_, fun i j hi hj => ?_, fun i j h2 h3 h4 => ?_, h.sup⟩
 ·rw [getD_snoc]
  split
  ·rename_i hlt; have := h.lt i hlt; omega
  ·split <;> omega
 ·rw [getD_snoc, getD_snoc, if_pos (by omega)]
  split
  ·rename_i hlt; exact h.rise i k hik hlt
  ·rw [if_pos (by omega)]; exact h.lt i (by omega)
 ·rw [getD_snoc]
  split
  ·rename_i hlt; exact h.one i hlt
  ·rw [if_pos (by omega), show i = ps.length by omega]; exact h1
 ·rw [getD_snoc]
  split
  ·rename_i hlt; exact h.off i k hi hlt hik
  ·rw [if_pos (by omega)]; exact h0 i hi (by omega)
 ·rw [getD_snoc] at hj
  split at hj
  ·rename_i hlt; exact h.low i j hlt hj
  ·rw [if_pos (by omega)] at hj
   exact h.zer i j (by omega) (by omega) hj
 ·by_cases e : j = c
  ·subst e; exact h0 i h3 (by omega)
  ·exact h.zer i j (by omega) h3 (by omega)
theorem getD_takeV (V : List (Vc K)) (k i : Nat) (h : i < k) : (V.take k).getD i 0 = V.getD i 0 := by
 rw [List.getD_eq_getElem?_getD, List.getElem?_take, if_pos h, List.getD_eq_getElem?_getD]
theorem Eli.done (h : Eli W n V c ps) (hc : n ≤ c ∨ V.length ≤ ps.length) (hcn : c ≤ n) : Rr n (V.take ps.length) ps ∧ ∀ u, SpL (V.take ps.length) u ↔ W u := by
 have hl : (V.take ps.length).length = ps.length := by rw [List.length_take]; have := h.len; omega
 refine ⟨⟨hl.symm, fun i hi => by have := h.lt i hi; omega, h.rise, fun i hi => ?_, fun i k hi hk hik => ?_, fun i j hi hj => ?_, fun i j hi hj => ?_⟩, fun u => ?_⟩
 ·rw [getD_takeV _ _ _ hi]; exact h.one i hi
 ·rw [getD_takeV _ _ _ hi]; exact h.off i k (by have := h.len; omega) hk hik
 ·rw [getD_takeV _ _ _ hi]; exact h.low i j hi hj
 ·rw [getD_takeV _ _ _ hi]; exact h.sup i j (by have := h.len; omega) hj
 ·rw [← h.sp u]
  constructor
  ·exact fun hu => hu.mono fun r hr => .of (List.mem_of_mem_take hr)
  ·refine fun hu => hu.mono fun r hr => ?_
   obtain ⟨i, hi, rfl⟩ := List.getElem_of_mem hr
   by_cases hik : i < ps.length
   ·refine .of ?_
    rw [List.mem_iff_getElem]
    exact ⟨i, by omega, by rw [List.getElem_take]⟩
   ·have hz : V[i] = 0 := ext fun j => by
     have e : V[i] = V.getD i 0 := by rw [List.getD_eq_getElem?_getD, List.getElem?_eq_getElem hi]; rfl
     rw [e]
     rcases hc with hc | hc
     ·by_cases hj : j < c
      ·exact h.zer i j (by omega) hi hj
      ·exact h.sup i j hi (by omega)
     ·omega
    rw [hz]; exact .zero
end Vc
end Go.Proofs.YtdkahdehodopoaaGreat

set_option maxRecDepth 100000
namespace Go.Proofs.YtdkahdehodopoaaGreat
open Go.RowKit
section
variable {p m : Int} {mod : List Int} [hF : IsF p m mod]
noncomputable def vsR (rs : List RowM) : List (Vc (El p m mod)) := rs.map fun r => rw' r.xs
@[simp] theorem vsR_length (rs : List RowM) : (vsR rs : List (Vc (El p m mod))).length = rs.length := by simp [vsR]
theorem rw_nil : (rw' [] : Vc (El p m mod)) = 0 := Vc.ext fun j => el_zero
theorem vsR_get (rs : List RowM) (i : Nat) : (vsR rs : List (Vc (El p m mod))).getD i 0 = rw' (rs.getD i rowD).xs := by
 unfold vsR
 rw [List.getD_eq_getElem?_getD, List.getElem?_map, List.getD_eq_getElem?_getD]
 cases rs[i]? with
 | none => exact rw_nil.symm
 | some r => rfl
theorem vsR_set (rs : List RowM) (i : Nat) (r : RowM) : (vsR (rs.set i r) : List (Vc (El p m mod))) = (vsR rs).set i (rw' r.xs) := by
 unfold vsR; rw [List.map_set]
theorem vsR_at (rs : List RowM) (i c : Nat) : (vsR rs : List (Vc (El p m mod))).getD i 0 c = el ((rs.getD i rowD).xs.getD c 0) := by rw [vsR_get]; rfl
end
def Gd (q : Int) (w : Nat) (rs : List RowM) : Prop := ∀ r ∈ rs, r.xs.length = w ∧ AllIn q r.xs
theorem Gd.get {q : Int} {w : Nat} {rs : List RowM} (h : Gd q w rs) {i : Nat} (hi : i < rs.length) : (rs.getD i rowD).xs.length = w ∧ AllIn q (rs.getD i rowD).xs := h _ (getD_mem hi _)
theorem Gd.set {q : Int} {w : Nat} {rs : List RowM} (h : Gd q w rs) (i : Nat) {r : RowM} (h1 : r.xs.length = w) (h2 : AllIn q r.xs) : Gd q w (rs.set i r) := fun s hs => by
 rcases List.mem_or_eq_of_mem_set hs with hs | hs
 ·exact h s hs
 ·subst hs; exact ⟨h1, h2⟩
theorem Gd.perm {q : Int} {w : Nat} {rs qs : List RowM} (h : Gd q w rs) (hp : rs.Perm qs) : Gd q w qs := fun s hs => h s (hp.mem_iff.2 hs)
theorem row_set (rs : List RowM) (i j : Nat) (r : RowM) : (rs.set i r).getD j rowD = if i = j ∧ j < rs.length then r else rs.getD j rowD := by
 rw [List.getD_eq_getElem?_getD, List.getElem?_set]
 by_cases h : i = j
 ·subst h
  by_cases h2 : i < rs.length
  ·rw [if_pos rfl, if_pos h2, if_pos ⟨rfl, h2⟩]; rfl
  ·rw [if_pos rfl, if_neg h2, if_neg (fun h => h2 h.2), List.getD_eq_getElem?_getD, List.getElem?_eq_none (by omega)]
 ·rw [if_neg h, if_neg (fun e => h e.1), ← List.getD_eq_getElem?_getD]
theorem elim_eachV (A : Option Addr) (n cp : Nat) (rs : List RowM) (hn : n = rs.length) (ff : FuncId) (lb : List Value) (p5 p7 : Addr) (Gc : List Chunk) (hGc : NoEx Gc) (Φ : Value → Chunk → Chunk → Prop) (hf : Mut Tryz.prog ff ([(.slice A n cp : Value)] ++ lb).toArray [ow A 22 cp (hdrs rs), rowsCh 3 rs] Gc (two Φ)) (hex : ∀ u c d, Φ u c d → AllEx [c, d]) :
  Mut Tryz.prog 151 ([(.func (.func ff) #[] lb.toArray : Value)] ++ [(.pointer (some p5) : Value), .pointer (some p7)]).toArray [ow A 22 cp (hdrs rs), rowsCh 3 rs] [ro (some p5) [.slice A n cp], ro (some p7) [.slice none 0 0], bun Gc] (two (fun v ca cb => v = .tuple #[] ∧ ∃ u, Φ u ca cb)) :=
 elim_each A n cp rs hn ff lb p5 p7 Gc hGc Φ hf hex
theorem val_of_el {p m : Int} {mod : List Int} [hF : IsF p m mod] {xs : List Int} (h : AllIn (pw p m) xs) (j : Nat) (hj : True) (he : (el (xs.getD j 0) : El p m mod) = 1) : xs.getD j 0 = 1 := by
 have hb := h.get (by have := hF.q2; omega) j
 have := congrArg Subtype.val he
 rwa [el_in hb] at this
theorem mat_eliminate_ent : Enters Tryz.prog 136 := enters_of Tryz.func136 (by kernel_rfl) (by kernel_rfl)
theorem mat_eliminate (g : GfM) {p m : Int} {mod : List Int} [hF : IsF p m mod] (hg : GOk g p m mod) (w : Int) (hw0 : 0 ≤ w) (hw9 : w ≤ 1000000) (A : Option Addr) (n cp : Nat) (rs : List RowM) (hn : n = rs.length) (hr9 : rs.length ≤ 1000000) (hgd0 : Gd (pw p m) w.toNat rs) :
  Mut Tryz.prog 136 #[.pointer (some g.p), .slice A n cp, .int .i64 w, .slice none 0 0] [ow A 22 cp (hdrs rs), rowsCh 3 rs] [gfR g] (three (fun v ca cb cc => ∃ rs2 B cb2 ps qs d, v = .tuple #[.slice B ps.length cb2, .int .i64 d] ∧ ca = ow A 22 cp (hdrs rs2) ∧ cb = rowsCh 3 rs2 ∧ cc = ow B 3 cb2 (ints ps) ∧ ps = qs.map Int.ofNat ∧ rs2.length = rs.length ∧ Gd (pw p m) w.toNat rs2 ∧ qs.length ≤ rs.length ∧ Vc.Rr w.toNat ((vsR rs2 : List (Vc (El p m mod))).take qs.length) qs ∧ ∀ u, Vc.SpL ((vsR rs2 : List (Vc (El p m mod))).take qs.length) u ↔ Vc.SpL (vsR rs) u)) := by
 have hq2 := hF.q2
 refine mut_of (args := [.pointer (some g.p), .slice A n cp, .int .i64 w, .slice none 0 0]) 125 (F := [ow A 22 cp (hdrs rs), rowsCh 3 rs, gfR g]) rfl Tryz.func136 rfl rfl rfl mat_eliminate_ent (fun w0 => ?_)
 refine tS ?_
 refine tR fun _ _ _ => ?_
 refine eV (eBox rfl rfl rfl rfl rfl (fun p0 => ?_))
 refine eV (eBox rfl rfl rfl rfl rfl (fun p0a => ?_))
 refine eV (eBox rfl rfl rfl rfl rfl (fun p0b => ?_))
 iterate 2 refine pV ?_
 refine tS ?_
 refine tR fun _ _ _ => ?_
 refine pV ?_
 refine tS ?_
 refine tR fun _ _ _ => ?_
 refine sV (rFun rfl rfl rfl) ?_
 refine pV ?_
 refine tS ?_
 refine tR fun _ _ _ => ?_
 refine pV ?_
 refine tS ?_
 refine tS ?_
 refine tR fun _ _ _ => ?_
 refine pV ?_
 refine tB ?_
 refine tr_nilI 3 ?_
 refine tr_loop6 (fun (c : Int) (ps : List Int) (AP : Option Addr) (cP : Nat) (r2 : List RowM) (dd : Int) => [(2, .int .i64 w), (4, .pointer (some p0)), (5, .pointer (some p0a)), (10, .int .i64 dd), (11, .func (.func 151) #[] [.pointer (some p0a), .pointer (some p0b)].toArray), (12, .slice AP ps.length cP), (13, .int .i64 c)]) (fun (c : Int) (ps : List Int) (AP : Option Addr) (cP : Nat) (r2 : List RowM) (dd : Int) => [ow AP 3 cP (ints ps), ow A 22 cp (hdrs r2), rowsCh 3 r2, blk p0b 25 [.slice none 0 0], blk p0a 25 [.slice A n cp], blk p0 45 [.pointer (some g.p)], gfR g]) (fun (c : Int) (ps : List Int) (AP : Option Addr) (cP : Nat) (r2 : List RowM) (dd : Int) => (0 ≤ c ∧ c ≤ w) ∧ (r2.length = rs.length ∧ Gd (pw p m) w.toNat r2) ∧ ∃ qs, ps = qs.map Int.ofNat ∧ Vc.Eli (Vc.SpL (vsR rs : List (Vc (El p m mod)))) w.toNat (vsR r2) c.toNat qs) (fun (c : Int) (ps : List Int) (AP : Option Addr) (cP : Nat) (r2 : List RowM) (dd : Int) => (w - c).toNat) (0) ([]) (none) (0) (rs) (1) ⟨rfl, rfl, rfl, rfl, rfl, rfl, rfl, trivial⟩ (by first | exact cs _ _ | exact CSub.refl _) (⟨⟨by omega, by omega⟩, ⟨rfl, hgd0⟩, [], rfl, Vc.Eli.start fun i j hi hj => by rw [vsR_at, getD_out (by rw [(hgd0.get (by simpa using hi)).1]; omega), el_zero]⟩) (fun c ps AP cP r2 dd hI => ?_)
 obtain ⟨⟨hc0, hc1⟩, ⟨hrl, hgd⟩, qs, hps, hE⟩ := hI
 have hpl : ps.length = qs.length := by rw [hps, List.length_map]
 have hEl := hE.len
 rw [vsR_length] at hEl
 refine tS ?_
 refine tS ?_
 refine tR fun _ _ _ => ?_
 iterate 4 refine pV ?_
 refine stg rfl rfl rfl rfl rfl (fun hb => by (have hq := hb; try simp only [zbA] at hq); exact rMove rfl rfl) ?_
 refine stg rfl rfl rfl rfl rfl (fun hb => by (have hq := hb; try simp only [zbA] at hq); exact rLen rfl (evg rfl hb)) ?_
 refine stg rfl rfl rfl rfl rfl (fun hb => by (have hq := hb; try simp only [zbA] at hq); exact rLd0 rfl rfl) ?_
 refine stg rfl rfl rfl rfl rfl (fun hb => by (have hq := hb; try simp only [zbA] at hq); exact rLen rfl (evg rfl hb)) ?_
 refine stg rfl rfl rfl rfl rfl (fun hb => by (have hq := hb; try simp only [zbA] at hq); exact rLss rfl (evg rfl hb) (evg rfl hb)) ?_
 refine sV (rAndB rfl rfl rfl rfl) ?_
 refine tC rfl (fun h5 => ?_) (fun h5 => ?_)
 ·try simp only [zbA] at h5
  refine tK ?_
  refine tS ?_
  refine tB ?_
  refine tS ?_
  refine tR fun _ _ _ => ?_
  refine pV ?_
  refine sV (rLen rfl rfl) ?_
  refine eV (eAlloc rfl rfl rfl (fun p7 => ?_))
  refine eV (eSt0 rfl rfl rfl rfl rfl rfl ?_)
  generalize hk : ((ps.length : Nat) : Int) = k
  refine tS ?_
  refine tR fun _ _ _ => ?_
  refine sV (rLd0 rfl rfl) ?_
  refine eV (eAlloc rfl rfl rfl (fun p8 => ?_))
  refine eV (eSt0 rfl rfl rfl rfl rfl rfl ?_)
  refine tS ?_
  refine tB ?_
  refine tr_loop1 (fun (ta : Int) => [(2, .int .i64 w), (4, .pointer (some p0)), (5, .pointer (some p0a)), (10, .int .i64 dd), (11, .func (.func 151) #[] [.pointer (some p0a), .pointer (some p0b)].toArray), (12, .slice AP ps.length cP), (13, .int .i64 c), (14, .pointer (some p7)), (15, .pointer (some p8))]) (fun (ta : Int) => [blk p8 3 [.int .i64 ta], blk p7 3 [.int .i64 k], ow AP 3 cP (ints ps), ow A 22 cp (hdrs r2), rowsCh 3 r2, blk p0b 25 [.slice none 0 0], blk p0a 25 [.slice A n cp], blk p0 45 [.pointer (some g.p)], gfR g]) (fun (ta : Int) => (k ≤ ta ∧ ta ≤ rs.length) ∧ ∀ i : Nat, k ≤ i → (i : Int) < ta → (r2.getD i rowD).xs.getD c.toNat 0 = 0) (fun (ta : Int) => (rs.length - ta).toNat) (k) ⟨rfl, rfl, rfl, rfl, rfl, rfl, rfl, rfl, rfl, trivial⟩ (by first | exact cs _ _ | exact CSub.refl _) (⟨⟨by omega, by omega⟩, fun i h1 h2 => by omega⟩) (fun ta hI => ?_)
  obtain ⟨⟨ht0, ht1⟩, htz⟩ := hI
  refine tS ?_
  refine tS ?_
  refine tR fun _ _ _ => ?_
  refine sV (rLd0 rfl rfl) ?_
  refine sV (rLd0 rfl rfl) ?_
  refine sV (rLen rfl rfl) ?_
  iterate 2 refine pV ?_
  refine stg rfl rfl rfl rfl rfl (fun hb => by (have hq := hb; try simp only [zbA] at hq); exact rLd0 rfl rfl) ?_
  refine stg rfl rfl rfl rfl rfl (fun hb => by (have hq := hb; try simp only [zbA] at hq); exact rLd0 rfl rfl) ?_
  refine stg rfl rfl rfl rfl rfl (fun hb => by (have hq := hb; try simp only [zbA] at hq); exact rIdxR rfl (evg rfl hb) (evg rfl hb) (by omega) (by omega) (by omega)) ?_
  refine stg rfl rfl rfl rfl rfl (fun hb => by (have hq := hb; try simp only [zbA] at hq); exact rLdR rfl (evg rfl hb) (by omega)) ?_
  refine stg rfl rfl rfl rfl rfl (fun hb => by (have hq := hb; try simp only [zbA] at hq); exact rMove rfl rfl) ?_
  refine stg rfl rfl rfl rfl rfl (fun hb => by (have hq := hb; try simp only [zbA] at hq); exact (haveI : InB ta.toNat r2.length := ⟨by omega⟩; have hw := (hgd.get (show ta.toNat < r2.length by omega)).1; rIdxI rfl (evg rfl hb) (evg rfl hb) (by omega) (by omega) (by omega))) ?_
  refine stg rfl rfl rfl rfl rfl (fun hb => by (have hq := hb; try simp only [zbA] at hq); exact (haveI : InB ta.toNat r2.length := ⟨by omega⟩; have hw := (hgd.get (show ta.toNat < r2.length by omega)).1; rLdI rfl (evg rfl hb) (by omega))) ?_
  refine stg rfl rfl rfl rfl rfl (fun hb => by (have hq := hb; try simp only [zbA] at hq); exact rEql rfl (evg rfl hb) rfl) ?_
  refine sV (rAndB rfl rfl rfl rfl) ?_
  refine tC rfl (fun h9 => ?_) (fun h9 => ?_)
  ·try simp only [zbA] at h9
   refine tK ?_
   refine tB ?_
   refine tR fun _ _ _ => ?_
   refine sV (rLd0 rfl rfl) ?_
   refine sV (rAdd rfl rfl rfl (by omega) (by omega)) ?_
   refine eV (eSt0 rfl rfl rfl rfl rfl rfl ?_)
   refine ⟨ta + 1, ⟨rfl, rfl, rfl, rfl, rfl, rfl, rfl, rfl, rfl, trivial⟩, by first | exact cs _ _ | exact CSub.refl _, ?_⟩
   refine ⟨⟨⟨by omega, by omega⟩, fun i h1 h2 => ?_⟩, by omega⟩
   by_cases he : (i : Int) = ta
   ·have : i = ta.toNat := by omega
    rw [this]; exact h9.2
   ·exact htz i h1 (by omega)
  ·try simp only [zbA] at h9
   refine tE ?_
   refine tS ?_
   refine tS ?_
   refine tR fun _ _ _ => ?_
   refine sV (rLd0 rfl rfl) ?_
   refine sV (rLd0 rfl rfl) ?_
   refine sV (rLen rfl rfl) ?_
   refine pV ?_
   refine tC rfl (fun h11 => ?_) (fun h11 => ?_)
   ·try simp only [zbA] at h11
    refine tE ?_
    refine tR fun _ _ _ => ?_
    refine pV ?_
    refine sV (rAdd rfl rfl rfl (by omega) (by omega)) ?_
    refine pV ?_
    refine ⟨c + 1, ps, AP, cP, r2, dd, ⟨rfl, rfl, rfl, rfl, rfl, rfl, rfl, trivial⟩, by first | exact cs _ _ | exact CSub.refl _, ?_⟩
    refine ⟨⟨⟨by omega, by omega⟩, ⟨hrl, hgd⟩, qs, hps, ?_⟩, by omega⟩
    rw [show (c + 1).toNat = c.toNat + 1 by omega]
    refine hE.skip fun i h1 h2 => ?_
    rw [vsR_length] at h2
    rw [vsR_at, htz i (by omega) (by omega), el_zero]
   ·try simp only [zbA] at h11
    refine tK ?_
    refine tr_join (fun (q : (List RowM) × Int) => match q with | (r3, d2) => [(2, .int .i64 w), (4, .pointer (some p0)), (5, .pointer (some p0a)), (10, .int .i64 d2), (11, .func (.func 151) #[] [.pointer (some p0a), .pointer (some p0b)].toArray), (12, .slice AP ps.length cP), (13, .int .i64 c), (14, .pointer (some p7)), (15, .pointer (some p8))]) (fun (q : (List RowM) × Int) => match q with | (r3, d2) => [blk p8 3 [.int .i64 ta], blk p7 3 [.int .i64 k], ow AP 3 cP (ints ps), ow A 22 cp (hdrs r3), rowsCh 3 r3, blk p0b 25 [.slice none 0 0], blk p0a 25 [.slice A n cp], blk p0 45 [.pointer (some g.p)], gfR g]) (fun (q : (List RowM) × Int) => match q with | (r3, d2) => (r3.length = rs.length ∧ Gd (pw p m) w.toNat r3) ∧ Vc.Eli (Vc.SpL (vsR rs : List (Vc (El p m mod)))) w.toNat (vsR r3) c.toNat qs ∧ (r3.getD k.toNat rowD).xs.getD c.toNat 0 ≠ 0) ?_ ?_
    ·refine tS ?_
     have hne : (r2.getD ta.toNat rowD).xs.getD c.toNat 0 ≠ 0 := h9.resolve_left (fun h => h (by omega))
     have hkq : k.toNat = qs.length := by omega
     refine tR fun _ _ _ => ?_
     refine sV (rLd0 rfl rfl) ?_
     refine sV (rLd0 rfl rfl) ?_
     refine pV ?_
     refine tC rfl (fun h12 => ?_) (fun h12 => ?_)
     ·try simp only [zbA] at h12
      refine tS ?_
      refine tR fun _ _ _ => ?_
      refine pV ?_
      refine sV (rFun rfl rfl rfl) ?_
      refine eV (eCallF2 rfl rfl rfl rfl (elim_eachV A n cp r2 (by omega) 152 [.pointer (some p8), .pointer (some p7)] p0a p0b [ro (some p8) [.int .i64 ta], ro (some p7) [.int .i64 k]] ⟨id, id, trivial⟩ _ (elim_swap A n cp r2 (by omega) p8 p7 ta k (by omega) (by omega)) (fun _ _ _ h => by obtain ⟨_, rfl, rfl⟩ := h; exact ⟨trivial, trivial, trivial⟩)) ⟨rfl, trivial⟩ ?_)
      rintro _ _ _ ⟨rfl, _, _, rfl, rfl⟩
      refine tR fun _ _ _ => ?_
      refine sV (rLd0 rfl rfl) ?_
      refine pV ?_
      refine eV (eCallV rfl rfl rfl (gf_NegE g hg _) ⟨rfl, rfl, trivial⟩ ?_)
      refine pV ?_
      refine ⟨((r2.set k.toNat (r2.getD ta.toNat rowD)).set ta.toNat (r2.getD k.toNat rowD), (-(el dd : El p m mod)).1), ⟨rfl, rfl, rfl, rfl, rfl, rfl, rfl, rfl, rfl, trivial⟩, by first | exact cs _ _ | exact CSub.refl _, ?_⟩
      refine ⟨⟨by simpa using hrl, hgd.perm (swap_perm rowD r2 (by omega) (by omega))⟩, ?_, ?_⟩
      ·have := hE.swap (a := ta.toNat) (by omega) (by rw [vsR_length]; omega)
       rw [← hkq, vsR_get, vsR_get] at this
       rw [vsR_set, vsR_set]; exact this
      ·rw [row_set, if_neg (by omega), row_set, if_pos ⟨rfl, by omega⟩]; exact hne
     ·try simp only [zbA] at h12
      refine tK ?_
      refine ⟨(r2, dd), ⟨rfl, rfl, rfl, rfl, rfl, rfl, rfl, rfl, rfl, trivial⟩, by first | exact cs _ _ | exact CSub.refl _, ?_⟩
      exact ⟨⟨hrl, hgd⟩, hE, by rw [show k = ta by omega]; exact hne⟩
    ·rintro ⟨r3, d2⟩ hI
     obtain ⟨⟨hrl3, hgd3⟩, hE3, hne3⟩ := hI
     have hkq : k.toNat = qs.length := by omega
     refine tS ?_
     haveI : InB k.toNat r3.length := ⟨by omega⟩
     have hw3 := hgd3.get (show k.toNat < r3.length by omega)
     have hen := hw3.2.get (by omega) c.toNat
     have hnz3 : (el ((r3.getD k.toNat rowD).xs.getD c.toNat 0) : El p m mod) ≠ 0 := fun e => hne3 ((el_eq_zero hen).1 e)
     have hw31 := hw3.1
     refine tr_draw [0, 1, 2, 3, 4, 5, 6, 7, 8, 9, 10] [] mixed (by kernel_rfl) fun _ _ _ => ?_
     refine sV (rLd0 rfl rfl) ?_
     refine pV ?_
     refine sV (rLd0 rfl rfl) ?_
     refine sV (rLd0 rfl rfl) ?_
     refine sV (rIdxR rfl rfl rfl (by omega) (by omega) (by omega)) ?_
     refine sV (rLdR rfl rfl (by omega)) ?_
     refine pV ?_
     refine sV (rIdxI rfl rfl rfl (by omega) (by omega) (by omega)) ?_
     refine sV (rLdI rfl rfl (by omega)) ?_
     refine eV (eCallV rfl rfl rfl (gf_MulE g hg _ _) ⟨rfl, rfl, rfl, trivial⟩ ?_)
     refine pV ?_
     generalize (el d2 * el ((r3.getD k.toNat rowD).xs.getD c.toNat 0) : El p m mod).1 = d3
     refine tr_join (fun (q : (List RowM)) => match q with | r4 => [(2, .int .i64 w), (4, .pointer (some p0)), (5, .pointer (some p0a)), (10, .int .i64 d3), (11, .func (.func 151) #[] [.pointer (some p0a), .pointer (some p0b)].toArray), (12, .slice AP ps.length cP), (13, .int .i64 c), (14, .pointer (some p7))]) (fun (q : (List RowM)) => match q with | r4 => [blk p7 3 [.int .i64 k], ow AP 3 cP (ints ps), ow A 22 cp (hdrs r4), rowsCh 3 r4, blk p0b 25 [.slice none 0 0], blk p0a 25 [.slice A n cp], blk p0 45 [.pointer (some g.p)], gfR g]) (fun (q : (List RowM)) => match q with | r4 => (r4.length = rs.length ∧ Gd (pw p m) w.toNat r4) ∧ Vc.Eli (Vc.SpL (vsR rs : List (Vc (El p m mod)))) w.toNat (vsR r4) c.toNat qs ∧ (r4.getD k.toNat rowD).xs.getD c.toNat 0 = 1) ?_ ?_
     ·refine tr_mid (fun (q : Addr) => match q with | pi => [(2, .int .i64 w), (4, .pointer (some p0)), (5, .pointer (some p0a)), (10, .int .i64 d3), (11, .func (.func 151) #[] [.pointer (some p0a), .pointer (some p0b)].toArray), (12, .slice AP ps.length cP), (13, .int .i64 c), (14, .pointer (some p7)), (15, .pointer (some p8)), (16, .pointer (some pi)), (17, .int .i64 0)]) (fun (q : Addr) => match q with | pi => [blk pi 3 [.int .i64 (Fd.inv (el ((r3.getD k.toNat rowD).xs.getD c.toNat 0) : El p m mod)).1], blk p8 3 [.int .i64 ta], blk p7 3 [.int .i64 k], ow AP 3 cP (ints ps), ow A 22 cp (hdrs r3), rowsCh 3 r3, blk p0b 25 [.slice none 0 0], blk p0a 25 [.slice A n cp], blk p0 45 [.pointer (some g.p)], gfR g]) ?_ ?_
      ·refine tr_planT [] (.one 0 0 (.one 0 1 (.one 0 2 (.one 0 3 (.one 0 4 (.one 0 5 (.one 0 6 (.one 0 7 (.two 8 (.one 0 9 (.one 0 10 (.one 2 11 (.one 0 12 (.one 1 13 (.one 0 14 .nil)))))) 12 (.one 0 8 (.one 0 9 (.one 0 10 (.one 2 11 (.one 1 13 (.one 0 14 .nil))))))))))))))) mixed (by kernel_rfl) fun _ _ _ => ?_
       refine sV (rLd0 rfl rfl) ?_
       refine sV (rLd0 rfl rfl) ?_
       refine sV (rLd0 rfl rfl) ?_
       refine sV (rIdxR rfl rfl rfl (by omega) (by omega) (by omega)) ?_
       refine sV (rLdR rfl rfl (by omega)) ?_
       refine pV ?_
       refine sV (rIdxI rfl rfl rfl (by omega) (by omega) (by omega)) ?_
       refine sV (rLdI rfl rfl (by omega)) ?_
       refine ⟨?_, ?_⟩
       ·refine eV (eCallV rfl rfl rfl (gf_InvE g hg _ hnz3) ⟨rfl, rfl, trivial⟩ ?_)
        iterate 2 refine pV ?_
        refine stF rfl rfl rfl rfl (cs _ _) (rExt rfl rfl rfl) ?_
        refine eV (eAlloc rfl rfl rfl (fun p16a => ?_))
        refine eV (eSt0 rfl rfl rfl rfl rfl rfl ?_)
        refine ⟨cs _ _, ?_⟩
        refine pV ?_
        exact ⟨rfl, (p16a), ⟨rfl, rfl, rfl, rfl, rfl, rfl, rfl, rfl, rfl, rfl, rfl, trivial⟩, by first | exact cs _ _ | exact CSub.refl _⟩
       ·refine eV (eAlloc rfl rfl rfl (fun p16a => ?_))
        refine eV (eCallV rfl rfl rfl (gf_InvE g hg _ hnz3) ⟨rfl, rfl, trivial⟩ ?_)
        iterate 2 refine pV ?_
        refine stF rfl rfl rfl rfl (cs _ _) (rExt rfl rfl rfl) ?_
        refine eV (eSt0 rfl rfl rfl rfl rfl rfl ?_)
        refine ⟨cs _ _, ?_⟩
        refine pV ?_
        exact ⟨rfl, (p16a), ⟨rfl, rfl, rfl, rfl, rfl, rfl, rfl, rfl, rfl, rfl, rfl, trivial⟩, by first | exact cs _ _ | exact CSub.refl _⟩
      ·rintro pi
       refine tS ?_
       refine tR fun _ _ _ => ?_
       iterate 3 refine pV ?_
       refine stg rfl rfl rfl rfl rfl (fun hb => by (have hq := hb; try simp only [zbA] at hq); exact rLd0 rfl rfl) ?_
       refine stg rfl rfl rfl rfl rfl (fun hb => by (have hq := hb; try simp only [zbA] at hq); exact rNeq rfl (evg rfl hb) rfl) ?_
       refine sV (rAndB rfl rfl rfl rfl) ?_
       refine tC rfl (fun h17 => ?_) (fun h17 => ?_)
       ·try simp only [zbA] at h17
        refine tR fun _ _ _ => ?_
        refine pV ?_
        refine sV (rFun rfl rfl rfl) ?_
        refine eV (eCallF2 rfl rfl rfl rfl (elim_eachV A n cp r3 (by omega) 153 [.pointer (some p0), .pointer (some pi), .pointer (some p7)] p0a p0b [ro (some p0) [.pointer (some g.p)], ro (some pi) [.int .i64 (Fd.inv (el ((r3.getD k.toNat rowD).xs.getD c.toNat 0) : El p m mod)).1], ro (some p7) [.int .i64 k], gfR g] ⟨id, id, id, id, trivial⟩ _ (elim_scale g hg A n cp r3 (by omega) p0 pi p7 _ k (by omega) (by omega)) (fun _ _ _ h => by obtain ⟨_, _, rfl, rfl⟩ := h; exact ⟨trivial, trivial, trivial⟩)) ⟨rfl, trivial⟩ ?_)
        rintro _ _ _ ⟨rfl, _, B18, _, rfl, rfl⟩
        refine ⟨(r3.set k.toNat (⟨B18, (r3.getD k.toNat rowD).xs.length, sclR (el ((Fd.inv (el ((r3.getD k.toNat rowD).xs.getD c.toNat 0) : El p m mod)).1) : El p m mod) (r3.getD k.toNat rowD).xs⟩ : RowM)), ⟨rfl, rfl, rfl, rfl, rfl, rfl, rfl, rfl, trivial⟩, by first | exact cs _ _ | exact CSub.refl _, ?_⟩
        refine ⟨⟨by simpa using hrl3, hgd3.set _ (by simpa using hw3.1) (sclR_in _ _)⟩, ?_, ?_⟩
        ·have := hE3.scale (by rw [vsR_length]; omega) (Fd.inv_ne hnz3)
         rw [← hkq, vsR_get] at this
         rw [vsR_set, rw_sclR, el_of]; exact this
        ·rw [row_set, if_pos ⟨rfl, by omega⟩]
         refine (val_of_el (mod := mod) (sclR_in _ _) c.toNat trivial ?_)
         have := congrFun (rw_sclR (el ((Fd.inv (el ((r3.getD k.toNat rowD).xs.getD c.toNat 0) : El p m mod)).1) : El p m mod) (r3.getD k.toNat rowD).xs) c.toNat
         rw [rw_at, Vc.sc_at, rw_at, el_of] at this
         rw [el_of, this]; exact Fd.inv_mul _ hnz3
       ·try simp only [zbA] at h17
        refine tK ?_
        refine ⟨(r3), ⟨rfl, rfl, rfl, rfl, rfl, rfl, rfl, rfl, trivial⟩, by first | exact cs _ _ | exact CSub.refl _, ?_⟩
        refine ⟨⟨hrl3, hgd3⟩, hE3, ?_⟩
        have hone : ((Fd.inv (el ((r3.getD k.toNat rowD).xs.getD c.toNat 0) : El p m mod)).1) = 1 := by simpa using h17
        refine val_of_el (mod := mod) hw3.2 c.toNat trivial ?_
        have h1 : (Fd.inv (el ((r3.getD k.toNat rowD).xs.getD c.toNat 0) : El p m mod)) = 1 := El.ext hone
        have h2 := Fd.mul_inv _ hnz3
        rw [h1, Rg.mul_one] at h2
        exact h2
     ·rintro r4 hI
      obtain ⟨⟨hrl4, hgd4⟩, hE4, hone4⟩ := hI
      refine tS ?_
      refine tS ?_
      refine tR fun _ _ _ => ?_
      refine sV (rLd0 rfl rfl) ?_
      refine sV (rLen rfl rfl) ?_
      refine pV ?_
      refine tB ?_
      refine tr_loop2 (fun (i : Int) (r5 : List RowM) => [(2, .int .i64 w), (4, .pointer (some p0)), (5, .pointer (some p0a)), (10, .int .i64 d3), (11, .func (.func 151) #[] [.pointer (some p0a), .pointer (some p0b)].toArray), (12, .slice AP ps.length cP), (13, .int .i64 c), (14, .pointer (some p7)), (97, .int .i64 n), (98, .int .i64 i)]) (fun (i : Int) (r5 : List RowM) => [blk p7 3 [.int .i64 k], ow AP 3 cP (ints ps), ow A 22 cp (hdrs r5), rowsCh 3 r5, blk p0b 25 [.slice none 0 0], blk p0a 25 [.slice A n cp], blk p0 45 [.pointer (some g.p)], gfR g]) (fun (i : Int) (r5 : List RowM) => (0 ≤ i ∧ i ≤ n) ∧ (r5.length = rs.length ∧ Gd (pw p m) w.toNat r5) ∧ Vc.Eli (Vc.SpL (vsR rs : List (Vc (El p m mod)))) w.toNat (vsR r5) c.toNat qs ∧ (r5.getD k.toNat rowD).xs.getD c.toNat 0 = 1 ∧ ∀ t : Nat, (t : Int) < i → t ≠ k.toNat → (r5.getD t rowD).xs.getD c.toNat 0 = 0) (fun (i : Int) (r5 : List RowM) => (n - i).toNat) (0) (r4) ⟨rfl, rfl, rfl, rfl, rfl, rfl, rfl, rfl, rfl, rfl, trivial⟩ (by first | exact cs _ _ | exact CSub.refl _) (⟨⟨by omega, by omega⟩, ⟨hrl4, hgd4⟩, hE4, hone4, fun t h1 h2 => by omega⟩) (fun i r5 hI => ?_)
      obtain ⟨⟨hi0, hi1⟩, ⟨hrl5, hgd5⟩, hE5, hone5, hz5⟩ := hI
      refine tS ?_
      refine tR fun _ _ _ => ?_
      refine pV ?_
      refine tS ?_
      refine tC rfl (fun h20 => ?_) (fun h20 => ?_)
      ·try simp only [zbA] at h20
       refine tK ?_
       refine tS ?_
       refine tB ?_
       refine tS ?_
       refine tR fun _ _ _ => ?_
       refine pV ?_
       refine eV (eAlloc rfl rfl rfl (fun p21 => ?_))
       refine eV (eSt0 rfl rfl rfl rfl rfl rfl ?_)
       refine tS ?_
       haveI : InB i.toNat r5.length := ⟨by omega⟩
       have hwi := hgd5.get (show i.toNat < r5.length by omega)
       have hwk := hgd5.get (show k.toNat < r5.length by omega)
       have hwi1 := hwi.1
       have hwk1 := hwk.1
       refine tR fun _ _ _ => ?_
       refine sV (rLd0 rfl rfl) ?_
       refine sV (rLd0 rfl rfl) ?_
       refine sV (rIdxR rfl rfl rfl (by omega) (by omega) (by omega)) ?_
       refine sV (rLdR rfl rfl (by omega)) ?_
       refine pV ?_
       refine sV (rIdxI rfl rfl rfl (by omega) (by omega) (by omega)) ?_
       refine sV (rLdI rfl rfl (by omega)) ?_
       refine eV (eAlloc rfl rfl rfl (fun p22 => ?_))
       refine eV (eSt0 rfl rfl rfl rfl rfl rfl ?_)
       refine tS ?_
       refine tR fun _ _ _ => ?_
       refine sV (rLd0 rfl rfl) ?_
       refine sV (rLd0 rfl rfl) ?_
       iterate 2 refine pV ?_
       refine stg rfl rfl rfl rfl rfl (fun hb => by (have hq := hb; try simp only [zbA] at hq); exact rLd0 rfl rfl) ?_
       refine stg rfl rfl rfl rfl rfl (fun hb => by (have hq := hb; try simp only [zbA] at hq); exact rNeq rfl (evg rfl hb) rfl) ?_
       refine sV (rAndB rfl rfl rfl rfl) ?_
       refine tC rfl (fun h23 => ?_) (fun h23 => ?_)
       ·try simp only [zbA] at h23
        refine tR fun _ _ _ => ?_
        refine pV ?_
        refine sV (rFun rfl rfl rfl) ?_
        refine eV (eCallF2 rfl rfl rfl rfl (elim_eachV A n cp r5 (by omega) 154 [.pointer (some p0), .pointer (some p21), .pointer (some p22), .pointer (some p7)] p0a p0b [ro (some p0) [.pointer (some g.p)], ro (some p21) [.int .i64 i], ro (some p22) [.int .i64 ((r5.getD i.toNat rowD).xs.getD c.toNat 0)], ro (some p7) [.int .i64 k], gfR g] ⟨id, id, id, id, id, trivial⟩ _ (elim_add g hg A n cp r5 (by omega) p0 p21 p22 p7 _ i k (by omega) (by omega) (by omega) (by omega) (by omega) hwi.2) (fun _ _ _ h => by obtain ⟨_, rfl, rfl⟩ := h; exact ⟨trivial, trivial, trivial⟩)) ⟨rfl, trivial⟩ ?_)
        rintro _ _ _ ⟨rfl, _, _, rfl, rfl⟩
        refine tR fun _ _ _ => ?_
        refine sV (rAdd rfl rfl rfl (by omega) (by omega)) ?_
        refine pV ?_
        refine ⟨i + 1, r5.set i.toNat (⟨(r5.getD i.toNat rowD).A, (r5.getD i.toNat rowD).cap, addR (-(el ((r5.getD i.toNat rowD).xs.getD c.toNat 0) : El p m mod)) (r5.getD i.toNat rowD).xs (r5.getD k.toNat rowD).xs⟩ : RowM), ⟨rfl, rfl, rfl, rfl, rfl, rfl, rfl, rfl, rfl, rfl, trivial⟩, by first | exact cs _ _ | exact CSub.refl _, ?_⟩
        refine ⟨⟨⟨by omega, by omega⟩, ⟨by simpa using hrl5, hgd5.set _ (by simpa using hwi.1) (addR_in _ _ _)⟩, ?_, ?_, fun t h1 h2 => ?_⟩, by omega⟩
        ·have := hE5.plus (by rw [vsR_length]; omega) (i := i.toNat) (by rw [vsR_length]; omega) (by omega) (-(el ((r5.getD i.toNat rowD).xs.getD c.toNat 0) : El p m mod))
         rw [← hkq, vsR_get, vsR_get] at this
         rw [vsR_set, rw_addR _ _ _ (by omega)]; exact this
        ·rw [row_set, if_neg (by omega)]; exact hone5
        ·rw [row_set]
         split
         ·rename_i he
          obtain ⟨rfl, he⟩ := he
          show (addR _ _ _).getD c.toNat 0 = 0
          rw [addR_get _ _ _ (by omega), hone5, el_one]
          exact congrArg Subtype.val (show (el ((r5.getD i.toNat rowD).xs.getD c.toNat 0) + -el ((r5.getD i.toNat rowD).xs.getD c.toNat 0) * 1 : El p m mod) = 0 by grind)
         ·exact hz5 t (by omega) h2
       ·try simp only [zbA] at h23
        refine tK ?_
        refine tR fun _ _ _ => ?_
        refine sV (rAdd rfl rfl rfl (by omega) (by omega)) ?_
        refine pV ?_
        refine ⟨i + 1, r5, ⟨rfl, rfl, rfl, rfl, rfl, rfl, rfl, rfl, rfl, rfl, trivial⟩, by first | exact cs _ _ | exact CSub.refl _, ?_⟩
        refine ⟨⟨⟨by omega, by omega⟩, ⟨hrl5, hgd5⟩, hE5, hone5, fun t h1 h2 => ?_⟩, by omega⟩
        by_cases he : t = i.toNat
        ·subst he
         have h3 : i ≠ k := by omega
         exact h23.resolve_left h3
        ·exact hz5 t (by omega) h2
      ·try simp only [zbA] at h20
       refine tE ?_
       refine tR fun _ _ _ => ?_
       iterate 2 refine pV ?_
       refine eV (eLit1I rfl rfl rfl rfl (fun A26 => ?_))
       refine eV (eAppI rfl rfl rfl rfl rfl (by first | rfl | simp) (by first | rfl | simp) (by first | omega | (simp; omega)) (fun A26a c26a => ?_))
       refine pV ?_
       refine tR fun _ _ _ => ?_
       refine pV ?_
       refine sV (rAdd rfl rfl rfl (by omega) (by omega)) ?_
       refine pV ?_
       refine ⟨c + 1, ps ++ [c], A26a, c26a, r5, d3, ⟨rfl, rfl, rfl, rfl, rfl, rfl, rfl, trivial⟩, by first | exact cs _ _ | exact CSub.refl _, ?_⟩
       refine ⟨⟨⟨by omega, by omega⟩, ⟨hrl5, hgd5⟩, qs ++ [c.toNat], ?_, ?_⟩, by omega⟩
       ·rw [hps, List.map_append]; simp; omega
       ·rw [show (c + 1).toNat = c.toNat + 1 by omega]
        refine hE5.push (by rw [vsR_length]; omega) ?_ (fun t h1 h2 => ?_)
        ·rw [vsR_at, ← hkq, hone5, el_one]
        ·rw [vsR_length] at h1
         rw [vsR_at, hz5 t (by omega) (by omega), el_zero]
 ·try simp only [zbA] at h5
  refine tE ?_
  refine tS ?_
  refine tR fun _ _ _ => ?_
  iterate 4 refine pV ?_
  obtain ⟨hR1, hR2⟩ := hE.done (by rw [vsR_length]; omega) (by omega)
  exact tr_ret ⟨trivial, _, _, (.tmp rfl (.tmp rfl .nil)), ⟨_, _, _, rfl, r2, AP, cP, ps, qs, dd, rfl, rfl, rfl, rfl, hps, hrl, hgd, by omega, hR1, hR2⟩, cs _ _, trivial, trivial, trivial, trivial⟩
end Go.Proofs.YtdkahdehodopoaaGreat

set_option maxRecDepth 100000
namespace Go.Proofs.YtdkahdehodopoaaGreat
open Go.RowKit
theorem slc_Clone_ent : Enters Tryz.prog 137 := enters_of Tryz.func137 (by kernel_rfl) (by kernel_rfl)
theorem slc_Clone (A : Option Addr) (c : Nat) (l : List Int) (h9 : l.length ≤ 1000000) :
  Pure Tryz.prog 137 #[.slice A l.length c] [ro A (ints l)] (one (fun v ch => ∃ B cap, v = .slice B l.length cap ∧ ch = ow B 3 cap (ints l))) := by
 refine pure_of (args := [.slice A l.length c]) 8 Tryz.func137 rfl rfl rfl slc_Clone_ent ⟨id, trivial⟩ (fun w0 => ?_)
 refine tS ?_
 refine tR fun _ _ _ => ?_
 refine pV ?_
 refine tS ?_
 refine tS ?_
 refine tr_nn (A := A) (l := l) fun hnn => ?_
 refine tR fun _ _ _ => ?_
 refine pV ?_
 refine sV (rNilS rfl rfl rfl) ?_
 refine tC rfl (fun h1 => ?_) (fun h1 => ?_)
 ·try simp only [zbA] at h1
  refine tS ?_
  refine tR fun _ _ _ => ?_
  refine pV ?_
  have hl0 := hnn (Option.isNone_iff_eq_none.1 h1)
  subst hl0
  refine tr_nilI 3 ?_
  exact tr_ret ⟨trivial, _, _, rfl, ⟨_, rfl, none, 0, rfl, rfl⟩, cs _ _, trivial, trivial⟩
 ·try simp only [zbA] at h1
  refine tK ?_
  refine tS ?_
  refine tR fun _ _ _ => ?_
  refine eV (eLit0I rfl rfl rfl  (fun A3 => ?_))
  refine pV ?_
  refine eV (eAppI rfl rfl rfl rfl rfl (by first | rfl | simp) (by first | rfl | simp) (by first | omega | (simp; omega)) (fun A3a c3a => ?_))
  refine pV ?_
  simp only [List.nil_append]
  exact tr_ret ⟨trivial, _, _, rfl, ⟨_, rfl, A3a, c3a, rfl, rfl⟩, cs _ _, trivial, trivial⟩
theorem mat_clone_ent : Enters Tryz.prog 135 := enters_of Tryz.func135 (by kernel_rfl) (by kernel_rfl)
theorem mat_clone (A : Option Addr) (n c : Nat) (rs : List RowM) (hn : n = rs.length) (h9 : rs.length ≤ 1000000) (h8 : ∀ r ∈ rs, r.xs.length ≤ 1000000) :
  Pure Tryz.prog 135 #[.slice A n c] [ro A (hdrs rs), rowsR rs] (two (fun v ca cb => ∃ B cap qs, v = .slice B qs.length cap ∧ ca = ow B 22 cap (hdrs qs) ∧ cb = rowsCh 3 qs ∧ qs.map (·.xs) = rs.map (·.xs) ∧ qs.length ≤ cap)) := by
 refine pure_of (args := [.slice A n c]) 23 Tryz.func135 rfl rfl rfl mat_clone_ent ⟨id, id, trivial⟩ (fun w0 => ?_)
 refine tS ?_
 refine tR fun _ _ _ => ?_
 refine pV ?_
 refine tS ?_
 refine tR fun _ _ _ => ?_
 refine pV ?_
 refine sV (rLen rfl rfl) ?_
 refine eV (eMake rfl rfl rfl rfl rfl (by omega) (by omega) (by omega) (fun A1 => ?_))
 refine pV ?_
 rw [Int.toNat_natCast, hdrs_rep]
 refine tS ?_
 refine tS ?_
 refine tR fun _ _ _ => ?_
 refine pV ?_
 refine sV (rLen rfl rfl) ?_
 refine pV ?_
 refine tB ?_
 refine tr_loop2 (fun (k : Int) (qs : List RowM) => [(3, .slice A1 n n), (9, .slice A n c), (10, .int .i64 n), (11, .int .i64 k)]) (fun (k : Int) (qs : List RowM) => [ow A1 22 n (hdrs qs), rowsCh 3 qs, ro A (hdrs rs), rowsR rs]) (fun (k : Int) (qs : List RowM) => (0 ≤ k ∧ k ≤ n) ∧ qs.length = n ∧ ∀ j : Nat, (j : Int) < k → (qs.getD j rowD).xs = (rs.getD j rowD).xs) (fun (k : Int) (qs : List RowM) => (n - k).toNat) (0) (List.replicate n rowD) ⟨rfl, rfl, rfl, rfl, trivial⟩ (by exact (rows_rep 3 _ n).trans (cs _ _)) (⟨⟨by omega, by omega⟩, by simp, fun j hj => by omega⟩) (fun k qs hI => ?_)
 obtain ⟨⟨hk0, hk1⟩, hql, hq⟩ := hI
 refine tS ?_
 refine tR fun _ _ _ => ?_
 refine pV ?_
 refine tS ?_
 refine tC rfl (fun h3 => ?_) (fun h3 => ?_)
 ·try simp only [zbA] at h3
  refine tK ?_
  refine tS ?_
  refine tB ?_
  refine tS ?_
  haveI : InB k.toNat rs.length := ⟨by omega⟩
  refine tR fun _ _ _ => ?_
  refine pV ?_
  refine sV (rIdxR rfl rfl rfl (by omega) (by omega) (by omega)) ?_
  refine sV (rLdR rfl rfl (by omega)) ?_
  iterate 2 refine pV ?_
  refine tR fun _ _ _ => ?_
  iterate 3 refine pV ?_
  refine eV (eCall1 rfl rfl rfl (slc_Clone _ _ (rs.getD k.toNat rowD).xs (h8 _ (getD_mem (by omega) _))) ⟨rfl, trivial⟩ ?_)
  rintro _ _ ⟨B5, c5, rfl, rfl⟩
  refine sV (rIdxR rfl rfl rfl (by omega) (by omega) (by omega)) ?_
  refine eV (eSt rfl rfl rfl rfl (by first | omega | (simp; omega)) rfl rfl ?_)
  refine tR fun _ _ _ => ?_
  refine sV (rAdd rfl rfl rfl (by omega) (by omega)) ?_
  refine pV ?_
  refine ⟨k + 1, qs.set k.toNat ⟨B5, c5, (rs.getD k.toNat rowD).xs⟩, ⟨rfl, rfl, rfl, rfl, trivial⟩, by rw [hdrs_set]; exact (cs _ [rowsCh 3 qs, ow B5 3 c5 (ints (rs.getD k.toNat rowD).xs), ow A1 22 n ((hdrs qs).set k.toNat (.slice B5 (rs.getD k.toNat rowD).xs.length c5)), ro A (hdrs rs), rowsR rs]).trans ((rows_put (r := ⟨B5, c5, (rs.getD k.toNat rowD).xs⟩) (show k.toNat < qs.length by omega) _).trans (CSub.perm (List.Perm.swap ..))), ?_⟩
  refine ⟨⟨⟨by omega, by omega⟩, by simpa using hql, fun j hj => ?_⟩, by omega⟩
  rw [row_set]
  by_cases he : k.toNat = j
  ·subst he; rw [if_pos ⟨rfl, by omega⟩]
  ·rw [if_neg (fun e => he e.1)]; exact hq j (by omega)
 ·try simp only [zbA] at h3
  refine tE ?_
  refine tS ?_
  refine tR fun _ _ _ => ?_
  iterate 2 refine pV ?_
  have hm : qs.map (·.xs) = rs.map (·.xs) := by
   refine List.ext_getElem (by simp; omega) fun j h1 h2 => ?_
   have h3 := hq j (by simp at h1; omega)
   rw [List.getD_eq_getElem?_getD, List.getElem?_eq_getElem (by simpa using h1), List.getD_eq_getElem?_getD, List.getElem?_eq_getElem (by simpa using h2)] at h3
   simpa using h3
  exact tr_ret ⟨trivial, _, _, rfl, ⟨_, _, rfl, A1, n, qs, by rw [hql], rfl, rfl, hm, by omega⟩, cs _ _, trivial, trivial, trivial⟩
theorem vsR_of {p m : Int} {mod : List Int} [hF : IsF p m mod] {rs qs : List RowM} (h : qs.map (·.xs) = rs.map (·.xs)) : (vsR qs : List (Vc (El p m mod))) = vsR rs := by
 have e : ∀ l : List RowM, (vsR l : List (Vc (El p m mod))) = (l.map (·.xs)).map rw' := fun l => by rw [List.map_map]; rfl
 rw [e, e, h]
theorem Gd.of {q : Int} {w : Nat} {rs qs : List RowM} (h : qs.map (·.xs) = rs.map (·.xs)) (hg : Gd q w rs) : Gd q w qs := fun r hr => by
 have h1 : r.xs ∈ rs.map (·.xs) := by rw [← h]; exact List.mem_map.2 ⟨r, hr, rfl⟩
 obtain ⟨s, hs, he⟩ := List.mem_map.1 h1
 rw [← he]; exact hg s hs
theorem Gd.take {q : Int} {w : Nat} {rs : List RowM} (h : Gd q w rs) (k : Nat) : Gd q w (rs.take k) := fun r hr => h r (List.mem_of_mem_take hr)
theorem vsR_take {p m : Int} {mod : List Int} [hF : IsF p m mod] (rs : List RowM) (k : Nat) : (vsR rs : List (Vc (El p m mod))).take k = vsR (rs.take k) := by simp [vsR, List.map_take]
structure RrOf (p m : Int) (mod : List Int) [hF : IsF p m mod] (w : Nat) (rs r3 : List RowM) (ps : List Int) : Prop where
 good : Gd (pw p m) w r3
 len : ps.length = r3.length
 form : ∃ qs, ps = qs.map Int.ofNat ∧ Vc.Rr w (vsR r3 : List (Vc (El p m mod))) qs
 span : ∀ u, Vc.SpL (vsR r3 : List (Vc (El p m mod))) u ↔ Vc.SpL (vsR rs) u
theorem mat_canon_ent : Enters Tryz.prog 101 := enters_of Tryz.func101 (by kernel_rfl) (by kernel_rfl)
theorem mat_canon (g : GfM) {p m : Int} {mod : List Int} [hF : IsF p m mod] (hg : GOk g p m mod) (w : Int) (hw0 : 0 ≤ w) (hw9 : w ≤ 1000000) (A : Option Addr) (n c : Nat) (rs : List RowM) (hn : n = rs.length) (h9 : rs.length ≤ 1000000) (hgd : Gd (pw p m) w.toNat rs) :
  Pure Tryz.prog 101 #[.pointer (some g.p), .slice A n c, .int .i64 w] [gfR g, ro A (hdrs rs), rowsR rs] (three (fun v ca cb cc => ∃ B r3 Bp cp ps, v = .tuple #[.slice B r3.length r3.length, .slice Bp ps.length cp] ∧ ca = rx B (hdrs r3) ∧ cb = rowsCh 3 r3 ∧ cc = ow Bp 3 cp (ints ps) ∧ RrOf p m mod w.toNat rs r3 ps ∧ r3.length ≤ rs.length)) := by
 have h8 : ∀ r ∈ rs, r.xs.length ≤ 1000000 := fun r hr => by have := (hgd r hr).1; omega
 refine pure_of (args := [.pointer (some g.p), .slice A n c, .int .i64 w]) 27 Tryz.func101 rfl rfl rfl mat_canon_ent ⟨id, id, id, trivial⟩ (fun w0 => ?_)
 refine tS ?_
 refine tR fun _ _ _ => ?_
 iterate 2 refine pV ?_
 refine tS ?_
 refine tR fun _ _ _ => ?_
 refine pV ?_
 refine eV (eCall2 rfl rfl rfl (mat_clone A n c rs hn h9 h8) ⟨rfl, trivial⟩ ?_)
 rintro _ _ _ ⟨B1, c1, qs1, rfl, rfl, rfl, hqs1, hcap1⟩
 refine pV ?_
 have hlq : qs1.length = rs.length := by have := congrArg List.length hqs1; simpa using this
 refine tS ?_
 refine tR fun _ _ _ => ?_
 iterate 3 refine pV ?_
 refine eV (eCallM3 rfl rfl rfl (mat_eliminate g hg w hw0 hw9 B1 _ c1 qs1 rfl (by omega) (Gd.of hqs1 hgd)) ⟨rfl, rfl, rfl, rfl, trivial⟩ ?_)
 rintro _ _ _ _ ⟨rs2, Bp, cbp, ps, qs, dd, rfl, rfl, rfl, rfl, hps, hrl2, hgd2, hql, hR1, hR2⟩
 iterate 5 refine pV ?_
 refine tS ?_
 have hpl : ps.length = qs.length := by rw [hps, List.length_map]
 refine tR fun _ _ _ => ?_
 iterate 2 refine pV ?_
 refine sV (rLen rfl rfl) ?_
 refine pV ?_
 refine sV (rLen rfl rfl) ?_
 refine sV (rCut3 rfl rfl rfl rfl (by omega) (by omega)) ?_
 iterate 3 refine pV ?_
 simp only [Int.toNat_natCast]
 have htl : (rs2.take ps.length).length = ps.length := by rw [List.length_take]; omega
 have hRr : RrOf p m mod w.toNat rs (rs2.take ps.length) ps := by
  rw [vsR_take, ← hpl] at hR1 hR2
  refine ⟨hgd2.take _, htl.symm, ⟨qs, hps, hR1⟩, fun u => ?_⟩
  rw [hR2, vsR_of hqs1]
 exact tr_ret ⟨trivial, _, _, rfl, ⟨_, _, _, rfl, B1, rs2.take ps.length, Bp, cbp, ps, by rw [htl], rfl, rfl, rfl, hRr, by omega⟩, (cs _ [ow B1 22 c1 (hdrs rs2), rowsCh 3 rs2, ow Bp 3 cbp (ints ps)]).trans ((ow_rx _).trans ((rx_take _ _).trans (CSub.cons _ (rows_take _ _)))), trivial, trivial, trivial, trivial⟩
end Go.Proofs.YtdkahdehodopoaaGreat

set_option maxRecDepth 100000
namespace Go.Proofs.YtdkahdehodopoaaGreat
open Go.RowKit
noncomputable def entC (q : Int) (l : List Int) : Int := @ite _ (AllIn q l) (Classical.propDecidable _) 0 2
theorem entC_ok {q : Int} {l : List Int} (h : AllIn q l) : entC q l = 0 := by unfold entC; rw [if_pos h]
theorem entC_no {q : Int} {l : List Int} (h : ¬ AllIn q l) : entC q l = 2 := by unfold entC; rw [if_neg h]
theorem allIn_of_get {q : Int} {l : List Int} (h : ∀ j : Nat, j < l.length → 0 ≤ l.getD j 0 ∧ l.getD j 0 < q) : AllIn q l := fun z hz => by
 obtain ⟨j, hj, rfl⟩ := List.getElem_of_mem hz
 have := h j hj
 rw [List.getD_eq_getElem?_getD, List.getElem?_eq_getElem hj] at this
 exact this
theorem ref_Entries_ent : Enters Tryz.prog 65 := enters_of Tryz.func65 (by kernel_rfl) (by kernel_rfl)
theorem ref_Entries (p m : Int) (A : Option Addr) (c : Nat) (mod : List Int) (B : Option Addr) (n d : Nat) (l : List Int) (hn : n = l.length) (h9 : l.length ≤ 17592186044415) :
  Pure Tryz.prog 65 #[.agg #[.int .i64 p, .int .i64 m, .slice A mod.length c], .slice B n d] [ro A (ints mod), ro B (ints l)] (isV (.int .i64 (entC (ordI p m) l))) := by
 refine pure_of (args := [.agg #[.int .i64 p, .int .i64 m, .slice A mod.length c], .slice B n d]) 19 Tryz.func65 rfl rfl rfl ref_Entries_ent ⟨id, id, trivial⟩ (fun w0 => ?_)
 refine tS ?_
 refine tR fun _ _ _ => ?_
 refine eV (eBox rfl rfl rfl rfl rfl (fun p0 => ?_))
 refine pV ?_
 refine tS ?_
 refine tS ?_
 refine tR fun _ _ _ => ?_
 refine pV ?_
 refine tB ?_
 refine tr_loop1 (fun (k : Int) => [(1, .slice B n d), (2, .pointer (some p0)), (5, .int .i64 k)]) (fun (k : Int) => [blk p0 24 [.int .i64 p, .int .i64 m, .slice A mod.length c], ro A (ints mod), ro B (ints l)]) (fun (k : Int) => (0 ≤ k ∧ k ≤ n) ∧ ∀ j : Nat, (j : Int) < k → 0 ≤ l.getD j 0 ∧ l.getD j 0 < ordI p m) (fun (k : Int) => (n - k).toNat) (0) ⟨rfl, rfl, rfl, trivial⟩ (by first | exact cs _ _ | exact CSub.refl _) (⟨⟨by omega, by omega⟩, fun j hj => by omega⟩) (fun k hI => ?_)
 obtain ⟨⟨hk0, hk1⟩, hall⟩ := hI
 refine tS ?_
 refine tS ?_
 refine tR fun _ _ _ => ?_
 iterate 2 refine pV ?_
 refine sV (rLen rfl rfl) ?_
 refine pV ?_
 refine tC rfl (fun h2 => ?_) (fun h2 => ?_)
 ·try simp only [zbA] at h2
  refine tK ?_
  refine tS ?_
  refine tB ?_
  refine tS ?_
  refine tr_draw [0, 1, 2, 3, 4, 5, 6] [] mixed (by kernel_rfl) fun _ _ _ => ?_
  refine sV (rLdS rfl rfl rfl) ?_
  iterate 2 refine pV ?_
  refine sV (rIdxI rfl rfl rfl (by omega) (by omega) (by omega)) ?_
  refine sV (rLdI rfl rfl (by omega)) ?_
  refine eV (eCallV rfl rfl rfl (ref_Is _ _ _ _ _ _) ⟨rfl, rfl, trivial⟩ ?_)
  refine sV (rNotB rfl rfl) ?_
  refine tC rfl (fun h4 => ?_) (fun h4 => ?_)
  ·try simp only [zbA] at h4
   refine tS ?_
   refine tR fun _ _ _ => ?_
   refine pV ?_
   have hno : ¬ AllIn (ordI p m) l := fun h => by
    have hb := h (l.getD k.toNat 0) (getD_mem (by omega) _)
    omega
   exact tr_ret ⟨trivial, _, _, rfl, ⟨by rw [entC_no hno], rfl⟩, CSub.nil _, trivial⟩
  ·try simp only [zbA] at h4
   refine tK ?_
   refine tR fun _ _ _ => ?_
   refine pV ?_
   refine sV (rAdd rfl rfl rfl (by omega) (by omega)) ?_
   refine pV ?_
   refine ⟨k + 1, ⟨rfl, rfl, rfl, trivial⟩, by first | exact cs _ _ | exact CSub.refl _, ?_⟩
   refine ⟨⟨⟨by omega, by omega⟩, fun j hj => ?_⟩, by omega⟩
   by_cases he : (j : Int) = k
   ·have : j = k.toNat := by omega
    subst this; omega
   ·exact hall j (by omega)
 ·try simp only [zbA] at h2
  refine tE ?_
  refine tS ?_
  refine tR fun _ _ _ => ?_
  refine pV ?_
  have hok : AllIn (ordI p m) l := allIn_of_get fun j hj => hall j (by omega)
  exact tr_ret ⟨trivial, _, _, rfl, ⟨by rw [entC_ok hok], rfl⟩, CSub.nil _, trivial⟩
theorem ref_scale_ent : Enters Tryz.prog 105 := enters_of Tryz.func105 (by kernel_rfl) (by kernel_rfl)
theorem ref_scale (p m : Int) (A : Option Addr) (c : Nat) (mod : List Int) [hF : IsF p m mod] (x : Int) (B : Option Addr) (n d : Nat) (l : List Int) (hn : n = l.length) (h9 : l.length ≤ 1000000) :
  Pure Tryz.prog 105 #[.agg #[.int .i64 p, .int .i64 m, .slice A mod.length c], .int .i64 x, .slice B n d] [ro A (ints mod), ro B (ints l)] (one (fun v ch => ∃ C, v = .slice C n n ∧ ch = ow C 3 n (ints (sclR (el x : El p m mod) l)))) := by
 refine pure_of (args := [.agg #[.int .i64 p, .int .i64 m, .slice A mod.length c], .int .i64 x, .slice B n d]) 29 Tryz.func105 rfl rfl rfl ref_scale_ent ⟨id, id, trivial⟩ (fun w0 => ?_)
 refine tS ?_
 refine tR fun _ _ _ => ?_
 refine eV (eBox rfl rfl rfl rfl rfl (fun p0 => ?_))
 refine pV ?_
 refine tS ?_
 refine tR fun _ _ _ => ?_
 refine pV ?_
 refine sV (rLen rfl rfl) ?_
 refine eV (eMakeI rfl rfl rfl rfl rfl (by omega) (by omega) (by omega) (fun A1 => ?_))
 refine pV ?_
 simp only [Int.toNat_natCast]
 refine tS ?_
 refine tS ?_
 refine tR fun _ _ _ => ?_
 refine pV ?_
 refine tB ?_
 refine tr_loop2 (fun (k : Int) (o : List Int) => [(1, .int .i64 x), (2, .slice B n d), (3, .pointer (some p0)), (7, .slice A1 n n), (8, .int .i64 k)]) (fun (k : Int) (o : List Int) => [ow A1 3 n (ints o), blk p0 24 [.int .i64 p, .int .i64 m, .slice A mod.length c], ro A (ints mod), ro B (ints l)]) (fun (k : Int) (o : List Int) => (0 ≤ k ∧ k ≤ n) ∧ o.length = n ∧ ∀ j : Nat, (j : Int) < k → o.getD j 0 = (el x * el (l.getD j 0) : El p m mod).1) (fun (k : Int) (o : List Int) => (n - k).toNat) (0) (List.replicate n 0) ⟨rfl, rfl, rfl, rfl, rfl, trivial⟩ (by first | exact cs _ _ | exact CSub.refl _) (⟨⟨by omega, by omega⟩, by simp, fun j hj => by omega⟩) (fun k o hI => ?_)
 obtain ⟨⟨hk0, hk1⟩, hol, ho⟩ := hI
 refine tS ?_
 refine tS ?_
 refine tR fun _ _ _ => ?_
 iterate 2 refine pV ?_
 refine sV (rLen rfl rfl) ?_
 refine pV ?_
 refine tC rfl (fun h3 => ?_) (fun h3 => ?_)
 ·try simp only [zbA] at h3
  refine tK ?_
  refine tS ?_
  refine tB ?_
  refine tr_draw [0, 1, 2, 3, 4, 5, 6, 7, 8, 9] [10] mixed (by kernel_rfl) fun _ _ _ => ?_
  iterate 2 refine pV ?_
  refine sV (rLdS rfl rfl rfl) ?_
  iterate 3 refine pV ?_
  refine sV (rIdxI rfl rfl rfl (by omega) (by omega) (by omega)) ?_
  refine sV (rLdI rfl rfl (by omega)) ?_
  refine eV (eCallV rfl rfl rfl (ref_MulE _ _ _ _ _ _ _) ⟨rfl, rfl, rfl, trivial⟩ ?_)
  refine sV (rIdxI rfl rfl rfl (by omega) (by omega) (by omega)) ?_
  refine eV (eStI rfl rfl rfl rfl (by omega) ?_)
  refine tR fun _ _ _ => ?_
  refine pV ?_
  refine sV (rAdd rfl rfl rfl (by omega) (by omega)) ?_
  refine pV ?_
  refine ⟨k + 1, o.set k.toNat (el x * el (l.getD k.toNat 0) : El p m mod).1, ⟨rfl, rfl, rfl, rfl, rfl, trivial⟩, by first | exact cs _ _ | exact CSub.refl _, ?_⟩
  refine ⟨⟨⟨by omega, by omega⟩, by simpa using hol, fun j hj => ?_⟩, by omega⟩
  rw [getD_set]
  by_cases he : k.toNat = j
  ·subst he; rw [if_pos ⟨rfl, by omega⟩]
  ·rw [if_neg (fun e => he e.1)]; exact ho j (by omega)
 ·try simp only [zbA] at h3
  refine tE ?_
  refine tS ?_
  refine tR fun _ _ _ => ?_
  iterate 2 refine pV ?_
  have hfin : o = sclR (el x : El p m mod) l := by
   refine List.ext_getElem (by simp; omega) fun j h1 h2 => ?_
   have h3 := ho j (by omega)
   rw [List.getD_eq_getElem?_getD, List.getElem?_eq_getElem h1, List.getD_eq_getElem?_getD, List.getElem?_eq_getElem (show j < l.length by omega)] at h3
   simpa [sclR] using h3
  rw [← hfin]
  exact tr_ret ⟨trivial, _, _, rfl, ⟨_, rfl, _, rfl, rfl⟩, cs _ _, trivial, trivial⟩
theorem ref_AddTo_ent : Enters Tryz.prog 107 := enters_of Tryz.func107 (by kernel_rfl) (by kernel_rfl)
theorem ref_AddTo (p m : Int) (A : Option Addr) (c : Nat) (mod : List Int) [hF : IsF p m mod] (Aa : Option Addr) (na ca : Nat) (a : List Int) (hna : na = a.length) (ha9 : a.length ≤ 1000000) (x : Int) (B : Option Addr) (nb cb : Nat) (b : List Int) (hnb : nb = b.length) (hab : b.length = a.length) (hin : AllIn (pw p m) a) :
  Pure Tryz.prog 107 #[.agg #[.int .i64 p, .int .i64 m, .slice A mod.length c], .slice Aa na ca, .int .i64 x, .slice B nb cb] [ro A (ints mod), ro Aa (ints a), ro B (ints b)] (one (fun v ch => ∃ C, v = .slice C na na ∧ ch = ow C 3 na (ints (addR (el x : El p m mod) a b)))) := by
 refine pure_of (args := [.agg #[.int .i64 p, .int .i64 m, .slice A mod.length c], .slice Aa na ca, .int .i64 x, .slice B nb cb]) 49 Tryz.func107 rfl rfl rfl ref_AddTo_ent ⟨id, id, id, trivial⟩ (fun w0 => ?_)
 refine tS ?_
 refine tR fun _ _ _ => ?_
 refine eV (eBox rfl rfl rfl rfl rfl (fun p0 => ?_))
 refine pV ?_
 refine tS ?_
 refine tR fun _ _ _ => ?_
 refine pV ?_
 refine sV (rLen rfl rfl) ?_
 refine eV (eMakeI rfl rfl rfl rfl rfl (by omega) (by omega) (by omega) (fun A1 => ?_))
 refine pV ?_
 simp only [Int.toNat_natCast]
 refine tS ?_
 refine tS ?_
 refine tR fun _ _ _ => ?_
 refine pV ?_
 refine tB ?_
 refine tr_loop2 (fun (k : Int) (o : List Int) => [(1, .slice Aa na ca), (2, .int .i64 x), (3, .slice B nb cb), (4, .pointer (some p0)), (9, .slice A1 na na), (10, .int .i64 k)]) (fun (k : Int) (o : List Int) => [ow A1 3 na (ints o), blk p0 24 [.int .i64 p, .int .i64 m, .slice A mod.length c], ro A (ints mod), ro Aa (ints a), ro B (ints b)]) (fun (k : Int) (o : List Int) => (0 ≤ k ∧ k ≤ na) ∧ o.length = na ∧ ∀ j : Nat, (j : Int) < k → o.getD j 0 = (el (a.getD j 0) + el x * el (b.getD j 0) : El p m mod).1) (fun (k : Int) (o : List Int) => (na - k).toNat) (0) (List.replicate na 0) ⟨rfl, rfl, rfl, rfl, rfl, rfl, trivial⟩ (by first | exact cs _ _ | exact CSub.refl _) (⟨⟨by omega, by omega⟩, by simp, fun j hj => by omega⟩) (fun k o hI => ?_)
 obtain ⟨⟨hk0, hk1⟩, hol, ho⟩ := hI
 have hsl : (o.set k.toNat (a.getD k.toNat 0)).length = na := by simpa using hol
 refine tS ?_
 refine tS ?_
 refine tR fun _ _ _ => ?_
 iterate 2 refine pV ?_
 refine sV (rLen rfl rfl) ?_
 refine pV ?_
 refine tC rfl (fun h3 => ?_) (fun h3 => ?_)
 ·try simp only [zbA] at h3
  refine tK ?_
  refine tS ?_
  refine tB ?_
  refine tS ?_
  refine tR fun _ _ _ => ?_
  iterate 4 refine pV ?_
  refine sV (rIdxI rfl rfl rfl (by omega) (by omega) (by omega)) ?_
  refine sV (rLdI rfl rfl (by omega)) ?_
  refine sV (rIdxI rfl rfl rfl (by omega) (by omega) (by omega)) ?_
  refine eV (eStI rfl rfl rfl rfl (by omega) ?_)
  refine tS ?_
  refine tR fun _ _ _ => ?_
  iterate 2 refine pV ?_
  refine sV (rIdxI rfl rfl rfl (by omega) (by omega) (by omega)) ?_
  refine sV (rLdI rfl rfl (by omega)) ?_
  refine pV ?_
  refine tC rfl (fun h6 => ?_) (fun h6 => ?_)
  ·try simp only [zbA] at h6
   refine tr_draw [0, 1, 2, 3, 4, 5, 6, 7, 8, 9, 10, 11, 12, 13, 14, 15] [16] mixed (by kernel_rfl) fun _ _ _ => ?_
   iterate 2 refine pV ?_
   refine sV (rLdS rfl rfl rfl) ?_
   iterate 2 refine pV ?_
   refine sV (rIdxI rfl rfl rfl (by omega) (by omega) (by omega)) ?_
   refine sV (rLdI rfl rfl (by omega)) ?_
   refine sV (rLdS rfl rfl rfl) ?_
   iterate 3 refine pV ?_
   refine sV (rIdxI rfl rfl rfl (by omega) (by omega) (by omega)) ?_
   refine sV (rLdI rfl rfl (by omega)) ?_
   refine eV (eCallV rfl rfl rfl (ref_MulE _ _ _ _ _ _ _) ⟨rfl, rfl, rfl, trivial⟩ ?_)
   refine eV (eCallV rfl rfl rfl (ref_AddE _ _ _ _ _ _ _) ⟨rfl, rfl, rfl, trivial⟩ ?_)
   refine sV (rIdxI rfl rfl rfl (by omega) (by omega) (by omega)) ?_
   refine eV (eStI rfl rfl rfl rfl (by omega) ?_)
   refine tR fun _ _ _ => ?_
   refine pV ?_
   refine sV (rAdd rfl rfl rfl (by omega) (by omega)) ?_
   refine pV ?_
   refine ⟨k + 1, (o.set k.toNat (a.getD k.toNat 0)).set k.toNat (el (a.getD k.toNat 0) + el (el x * el (b.getD k.toNat 0) : El p m mod).1 : El p m mod).1, ⟨rfl, rfl, rfl, rfl, rfl, rfl, trivial⟩, by first | exact cs _ _ | exact CSub.refl _, ?_⟩
   refine ⟨⟨⟨by omega, by omega⟩, by simpa using hol, fun j hj => ?_⟩, by omega⟩
   rw [getD_set, getD_set]
   by_cases he : k.toNat = j
   ·subst he; rw [if_pos ⟨rfl, by omega⟩, el_of]
   ·rw [if_neg (fun e => he e.1), if_neg (fun e => he e.1)]; exact ho j (by omega)
  ·try simp only [zbA] at h6
   refine tK ?_
   refine tR fun _ _ _ => ?_
   refine pV ?_
   refine sV (rAdd rfl rfl rfl (by omega) (by omega)) ?_
   refine pV ?_
   refine ⟨k + 1, o.set k.toNat (a.getD k.toNat 0), ⟨rfl, rfl, rfl, rfl, rfl, rfl, trivial⟩, by first | exact cs _ _ | exact CSub.refl _, ?_⟩
   refine ⟨⟨⟨by omega, by omega⟩, by simpa using hol, fun j hj => ?_⟩, by omega⟩
   rw [getD_set]
   by_cases he : k.toNat = j
   ·subst he
    have hb := hin.get (by have := hF.q2; omega) k.toNat
    rw [if_pos ⟨rfl, by omega⟩, show b.getD k.toNat 0 = 0 by omega, el_zero, Rg.mul_zero, Rg.add_zero, el_in hb]
   ·rw [if_neg (fun e => he e.1)]; exact ho j (by omega)
 ·try simp only [zbA] at h3
  refine tE ?_
  refine tS ?_
  refine tR fun _ _ _ => ?_
  iterate 2 refine pV ?_
  have hfin : o = addR (el x : El p m mod) a b := ext_getD (by simp; omega) fun t => by
   by_cases ht : t < a.length
   ·rw [addR_get _ _ _ ht, ho t (by omega)]
   ·rw [getD_out (by omega), getD_out (by simp; omega)]
  rw [← hfin]
  exact tr_ret ⟨trivial, _, _, rfl, ⟨_, rfl, _, rfl, rfl⟩, cs _ _, trivial, trivial⟩
theorem ref_Copy_ent : Enters Tryz.prog 104 := enters_of Tryz.func104 (by kernel_rfl) (by kernel_rfl)
theorem ref_Copy (A : Option Addr) (n c : Nat) (rs : List RowM) (hn : n = rs.length) (h9 : rs.length ≤ 1000000) (h8 : ∀ r ∈ rs, r.xs.length ≤ 1000000) :
  Pure Tryz.prog 104 #[.slice A n c] [ro A (hdrs rs), rowsR rs] (two (fun v ca cb => ∃ B cap qs, v = .slice B qs.length cap ∧ ca = ow B 22 cap (hdrs qs) ∧ cb = rowsCh 3 qs ∧ qs.map (·.xs) = rs.map (·.xs))) := by
 refine pure_of (args := [.slice A n c]) 21 Tryz.func104 rfl rfl rfl ref_Copy_ent ⟨id, id, trivial⟩ (fun w0 => ?_)
 refine tS ?_
 refine tR fun _ _ _ => ?_
 refine pV ?_
 refine tS ?_
 refine tR fun _ _ _ => ?_
 refine pV ?_
 refine tS ?_
 refine tS ?_
 refine tR fun _ _ _ => ?_
 refine pV ?_
 refine tB ?_
 refine tr_nilR 22 3 ?_
 refine tr_loop4 (fun (k : Int) (AQ : Option Addr) (cq : Nat) (qs : List RowM) => [(0, .slice A n c), (3, .slice AQ qs.length cq), (4, .int .i64 k)]) (fun (k : Int) (AQ : Option Addr) (cq : Nat) (qs : List RowM) => [ow AQ 22 cq (hdrs qs), rowsCh 3 qs, ro A (hdrs rs), rowsR rs]) (fun (k : Int) (AQ : Option Addr) (cq : Nat) (qs : List RowM) => (0 ≤ k ∧ k ≤ n) ∧ qs.map (·.xs) = (rs.take k.toNat).map (·.xs)) (fun (k : Int) (AQ : Option Addr) (cq : Nat) (qs : List RowM) => (n - k).toNat) (0) (none) (0) ([]) ⟨rfl, rfl, rfl, trivial⟩ (by first | exact cs _ _ | exact CSub.refl _) (⟨⟨by omega, by omega⟩, rfl⟩) (fun k AQ cq qs hI => ?_)
 obtain ⟨⟨hk0, hk1⟩, hq⟩ := hI
 have hql : qs.length ≤ n := by have := congrArg List.length hq; simp at this; omega
 refine tS ?_
 refine tS ?_
 refine tR fun _ _ _ => ?_
 iterate 2 refine pV ?_
 refine sV (rLen rfl rfl) ?_
 refine pV ?_
 refine tC rfl (fun h3 => ?_) (fun h3 => ?_)
 ·try simp only [zbA] at h3
  refine tK ?_
  refine tS ?_
  refine tB ?_
  haveI : InB k.toNat rs.length := ⟨by omega⟩
  have h8k := h8 _ (getD_mem (show k.toNat < rs.length by omega) rowD)
  have h8q : (rs[k.toNat]?.getD rowD).xs.length ≤ 1000000 := by rw [← List.getD_eq_getElem?_getD]; exact h8k
  refine tR fun _ _ _ => ?_
  refine pV ?_
  refine eV (eLit0I rfl rfl rfl  (fun A5 => ?_))
  iterate 2 refine pV ?_
  refine sV (rIdxR rfl rfl rfl (by omega) (by omega) (by omega)) ?_
  refine sV (rLdR rfl rfl (by omega)) ?_
  refine eV (eAppI rfl rfl rfl rfl rfl (by first | rfl | simp) (by first | rfl | simp) (by first | omega | (simp; omega)) (fun A5a c5a => ?_))
  refine eV (eLit1 rfl rfl rfl rfl rfl (fun A5b => ?_))
  refine eV (eAppR rfl rfl rfl rfl rfl (by first | rfl | simp) (by omega) (fun A5c c5c => ?_))
  refine pV ?_
  refine tR fun _ _ _ => ?_
  refine pV ?_
  refine sV (rAdd rfl rfl rfl (by omega) (by omega)) ?_
  refine pV ?_
  refine ⟨k + 1, A5c, c5c, qs ++ [⟨A5a, c5a, [] ++ (rs.getD k.toNat rowD).xs⟩], ⟨rfl, rfl, rfl, trivial⟩, by exact rows_app, ?_⟩
  refine ⟨⟨⟨by omega, by omega⟩, ?_⟩, by omega⟩
  rw [List.map_append, hq, show (k + 1).toNat = k.toNat + 1 by omega, List.take_add_one, List.getElem?_eq_getElem (show k.toNat < rs.length by omega), List.map_append]
  simp [List.getD_eq_getElem?_getD, show k.toNat < rs.length by omega]
 ·try simp only [zbA] at h3
  refine tE ?_
  refine tS ?_
  refine tR fun _ _ _ => ?_
  iterate 2 refine pV ?_
  have hkn : k.toNat = rs.length := by omega
  rw [hkn, List.take_length] at hq
  exact tr_ret ⟨trivial, _, _, rfl, ⟨_, _, rfl, AQ, cq, qs, rfl, rfl, rfl, hq⟩, cs _ _, trivial, trivial, trivial⟩
end Go.Proofs.YtdkahdehodopoaaGreat

set_option maxRecDepth 100000
namespace Go.Proofs.YtdkahdehodopoaaGreat
open Go.RowKit
theorem ref_Eliminate_ent : Enters Tryz.prog 66 := enters_of Tryz.func66 (by kernel_rfl) (by kernel_rfl)
theorem ref_Eliminate (p m : Int) (A : Option Addr) (c : Nat) (mod : List Int) [hF : IsF p m mod] (w : Int) (hw0 : 0 ≤ w) (hw9 : w ≤ 1000000) (Aa : Option Addr) (n ca : Nat) (rs : List RowM) (hn : n = rs.length) (hr9 : rs.length ≤ 1000000) (hgd0 : Gd (pw p m) w.toNat rs) :
  Pure Tryz.prog 66 #[.agg #[.int .i64 p, .int .i64 m, .slice A mod.length c], .slice Aa n ca, .int .i64 w] [ro A (ints mod), ro Aa (hdrs rs), rowsR rs] (three (fun v ca cb cc => ∃ r2 B cb1 Bp cb2 ps qs, v = .tuple #[.slice B r2.length cb1, .slice Bp ps.length cb2] ∧ ca = ow B 22 cb1 (hdrs r2) ∧ cb = rowsCh 3 r2 ∧ cc = ow Bp 3 cb2 (ints ps) ∧ ps = qs.map Int.ofNat ∧ r2.length = rs.length ∧ Gd (pw p m) w.toNat r2 ∧ qs.length ≤ rs.length ∧ Vc.Rr w.toNat ((vsR r2 : List (Vc (El p m mod))).take qs.length) qs ∧ ∀ u, Vc.SpL ((vsR r2 : List (Vc (El p m mod))).take qs.length) u ↔ Vc.SpL (vsR rs) u)) := by
 have hq2 := hF.q2
 have hr8 : ∀ r ∈ rs, r.xs.length ≤ 1000000 := fun r hr => by have := (hgd0 r hr).1; omega
 refine pure_of (args := [.agg #[.int .i64 p, .int .i64 m, .slice A mod.length c], .slice Aa n ca, .int .i64 w]) 137 Tryz.func66 rfl rfl rfl ref_Eliminate_ent ⟨id, id, id, trivial⟩ (fun w0 => ?_)
 refine tS ?_
 refine tR fun _ _ _ => ?_
 refine eV (eBox rfl rfl rfl rfl rfl (fun p0 => ?_))
 iterate 2 refine pV ?_
 refine tS ?_
 refine tR fun _ _ _ => ?_
 refine pV ?_
 refine eV (eCall2 rfl rfl rfl (ref_Copy Aa n ca rs hn hr9 hr8) ⟨rfl, trivial⟩ ?_)
 rintro _ _ _ ⟨B1, c1, qs1, rfl, rfl, rfl, hqs1⟩
 refine pV ?_
 refine tS ?_
 have hlq : qs1.length = n := by have := congrArg List.length hqs1; simp at this; omega
 rw [hlq]
 refine tR fun _ _ _ => ?_
 refine pV ?_
 refine tS ?_
 refine tR fun _ _ _ => ?_
 refine pV ?_
 refine tS ?_
 refine tS ?_
 refine tR fun _ _ _ => ?_
 refine pV ?_
 refine tB ?_
 refine tr_nilI 3 ?_
 refine tr_loop6 (fun (cc : Int) (k : Int) (ps : List Int) (AP : Option Addr) (cP : Nat) (r2 : List RowM) => [(2, .int .i64 w), (3, .pointer (some p0)), (8, .slice B1 n c1), (9, .slice AP ps.length cP), (10, .int .i64 k), (11, .int .i64 cc)]) (fun (cc : Int) (k : Int) (ps : List Int) (AP : Option Addr) (cP : Nat) (r2 : List RowM) => [ow AP 3 cP (ints ps), ow B1 22 c1 (hdrs r2), rowsCh 3 r2, blk p0 24 [.int .i64 p, .int .i64 m, .slice A mod.length c], ro A (ints mod)]) (fun (cc : Int) (k : Int) (ps : List Int) (AP : Option Addr) (cP : Nat) (r2 : List RowM) => (0 ≤ cc ∧ cc ≤ w) ∧ (r2.length = rs.length ∧ Gd (pw p m) w.toNat r2) ∧ ∃ qs, ps = qs.map Int.ofNat ∧ k = qs.length ∧ Vc.Eli (Vc.SpL (vsR rs : List (Vc (El p m mod)))) w.toNat (vsR r2) cc.toNat qs) (fun (cc : Int) (k : Int) (ps : List Int) (AP : Option Addr) (cP : Nat) (r2 : List RowM) => (w - cc).toNat) (0) (0) ([]) (none) (0) (qs1) ⟨rfl, rfl, rfl, rfl, rfl, rfl, trivial⟩ (by first | exact cs _ _ | exact CSub.refl _) (⟨⟨by omega, by omega⟩, ⟨by omega, Gd.of hqs1 hgd0⟩, [], rfl, rfl, by rw [← vsR_of hqs1]; exact Vc.Eli.start fun i j hi hj => by rw [vsR_at, getD_out (by rw [((Gd.of hqs1 hgd0).get (by simpa using hi)).1]; omega), el_zero]⟩) (fun cc k ps AP cP r2 hI => ?_)
 obtain ⟨⟨hc0, hc1⟩, ⟨hrl, hgd⟩, qs, hps, hkq, hE⟩ := hI
 have hpl : ps.length = qs.length := by rw [hps, List.length_map]
 have hEl := hE.len
 rw [vsR_length] at hEl
 refine tS ?_
 refine tS ?_
 refine tR fun _ _ _ => ?_
 iterate 4 refine pV ?_
 refine stg rfl rfl rfl rfl rfl (fun hb => by (have hq := hb; try simp only [zbA] at hq); exact rMove rfl rfl) ?_
 refine stg rfl rfl rfl rfl rfl (fun hb => by (have hq := hb; try simp only [zbA] at hq); exact rMove rfl rfl) ?_
 refine stg rfl rfl rfl rfl rfl (fun hb => by (have hq := hb; try simp only [zbA] at hq); exact rLen rfl (evg rfl hb)) ?_
 refine stg rfl rfl rfl rfl rfl (fun hb => by (have hq := hb; try simp only [zbA] at hq); exact rLss rfl (evg rfl hb) (evg rfl hb)) ?_
 refine sV (rAndB rfl rfl rfl rfl) ?_
 refine tC rfl (fun h5 => ?_) (fun h5 => ?_)
 ·try simp only [zbA] at h5
  refine tK ?_
  refine tS ?_
  refine tB ?_
  refine tS ?_
  refine tR fun _ _ _ => ?_
  iterate 2 refine pV ?_
  refine tS ?_
  refine tB ?_
  refine tr_loop1 (fun (ta : Int) => [(2, .int .i64 w), (3, .pointer (some p0)), (8, .slice B1 n c1), (9, .slice AP ps.length cP), (10, .int .i64 k), (11, .int .i64 cc), (12, .int .i64 ta)]) (fun (ta : Int) => [ow AP 3 cP (ints ps), ow B1 22 c1 (hdrs r2), rowsCh 3 r2, blk p0 24 [.int .i64 p, .int .i64 m, .slice A mod.length c], ro A (ints mod)]) (fun (ta : Int) => (k ≤ ta ∧ ta ≤ n) ∧ ∀ i : Nat, k ≤ i → (i : Int) < ta → (r2.getD i rowD).xs.getD cc.toNat 0 = 0) (fun (ta : Int) => (n - ta).toNat) (k) ⟨rfl, rfl, rfl, rfl, rfl, rfl, rfl, trivial⟩ (by first | exact cs _ _ | exact CSub.refl _) (⟨⟨by omega, by omega⟩, fun i h1 h2 => by omega⟩) (fun ta hI => ?_)
  obtain ⟨⟨ht0, ht1⟩, htz⟩ := hI
  refine tS ?_
  refine tS ?_
  refine tR fun _ _ _ => ?_
  iterate 2 refine pV ?_
  refine sV (rLen rfl rfl) ?_
  iterate 2 refine pV ?_
  refine stg rfl rfl rfl rfl rfl (fun hb => by (have hq := hb; try simp only [zbA] at hq); exact rMove rfl rfl) ?_
  refine stg rfl rfl rfl rfl rfl (fun hb => by (have hq := hb; try simp only [zbA] at hq); exact rMove rfl rfl) ?_
  refine stg rfl rfl rfl rfl rfl (fun hb => by (have hq := hb; try simp only [zbA] at hq); exact rIdxR rfl (evg rfl hb) (evg rfl hb) (by omega) (by omega) (by omega)) ?_
  refine stg rfl rfl rfl rfl rfl (fun hb => by (have hq := hb; try simp only [zbA] at hq); exact rLdR rfl (evg rfl hb) (by omega)) ?_
  refine stg rfl rfl rfl rfl rfl (fun hb => by (have hq := hb; try simp only [zbA] at hq); exact rMove rfl rfl) ?_
  refine stg rfl rfl rfl rfl rfl (fun hb => by (have hq := hb; try simp only [zbA] at hq); exact (haveI : InB ta.toNat r2.length := ⟨by omega⟩; have hw := (hgd.get (show ta.toNat < r2.length by omega)).1; rIdxI rfl (evg rfl hb) (evg rfl hb) (by omega) (by omega) (by omega))) ?_
  refine stg rfl rfl rfl rfl rfl (fun hb => by (have hq := hb; try simp only [zbA] at hq); exact (haveI : InB ta.toNat r2.length := ⟨by omega⟩; have hw := (hgd.get (show ta.toNat < r2.length by omega)).1; rLdI rfl (evg rfl hb) (by omega))) ?_
  refine stg rfl rfl rfl rfl rfl (fun hb => by (have hq := hb; try simp only [zbA] at hq); exact rEql rfl (evg rfl hb) rfl) ?_
  refine sV (rAndB rfl rfl rfl rfl) ?_
  refine tC rfl (fun h8 => ?_) (fun h8 => ?_)
  ·try simp only [zbA] at h8
   refine tK ?_
   refine tB ?_
   refine tR fun _ _ _ => ?_
   refine pV ?_
   refine sV (rAdd rfl rfl rfl (by omega) (by omega)) ?_
   refine pV ?_
   refine ⟨ta + 1, ⟨rfl, rfl, rfl, rfl, rfl, rfl, rfl, trivial⟩, by first | exact cs _ _ | exact CSub.refl _, ?_⟩
   refine ⟨⟨⟨by omega, by omega⟩, fun i h1 h2 => ?_⟩, by omega⟩
   by_cases he : (i : Int) = ta
   ·have : i = ta.toNat := by omega
    rw [this]; exact h8.2
   ·exact htz i h1 (by omega)
  ·try simp only [zbA] at h8
   refine tE ?_
   refine tS ?_
   refine tS ?_
   refine tR fun _ _ _ => ?_
   iterate 2 refine pV ?_
   refine sV (rLen rfl rfl) ?_
   refine pV ?_
   refine tC rfl (fun h10 => ?_) (fun h10 => ?_)
   ·try simp only [zbA] at h10
    refine tE ?_
    refine tR fun _ _ _ => ?_
    refine pV ?_
    refine sV (rAdd rfl rfl rfl (by omega) (by omega)) ?_
    refine pV ?_
    refine ⟨cc + 1, k, ps, AP, cP, r2, ⟨rfl, rfl, rfl, rfl, rfl, rfl, trivial⟩, by first | exact cs _ _ | exact CSub.refl _, ?_⟩
    refine ⟨⟨⟨by omega, by omega⟩, ⟨hrl, hgd⟩, qs, hps, hkq, ?_⟩, by omega⟩
    rw [show (cc + 1).toNat = cc.toNat + 1 by omega]
    refine hE.skip fun i h1 h2 => ?_
    rw [vsR_length] at h2
    rw [vsR_at, htz i (by omega) (by omega), el_zero]
   ·try simp only [zbA] at h10
    refine tK ?_
    refine tS ?_
    have hne : (r2.getD ta.toNat rowD).xs.getD cc.toNat 0 ≠ 0 := h8.resolve_left (fun h => h (by omega))
    have hkn : k.toNat = qs.length := by omega
    haveI : InB ta.toNat r2.length := ⟨by omega⟩
    haveI : InB k.toNat r2.length := ⟨by omega⟩
    refine tr_plan [] [(0, 0), (0, 1), (2, 2), (2, 3), (0, 4), (0, 5), (0, 6), (0, 7), (0, 8), (0, 9), (0, 10), (0, 11), (0, 12), (1, 13), (0, 14), (1, 15)] mixed (by kernel_rfl) fun _ _ _ => ?_
    iterate 2 refine pV ?_
    refine stF rfl rfl rfl rfl (cs _ _) (rMove rfl rfl) ?_
    refine stF rfl rfl rfl rfl (cs _ _) (rMove rfl rfl) ?_
    iterate 2 refine pV ?_
    refine sV (rIdxR rfl rfl rfl (by omega) (by omega) (by omega)) ?_
    refine sV (rLdR rfl rfl (by omega)) ?_
    iterate 2 refine pV ?_
    refine sV (rIdxR rfl rfl rfl (by omega) (by omega) (by omega)) ?_
    refine sV (rLdR rfl rfl (by omega)) ?_
    refine sV (rIdxR rfl rfl rfl (by omega) (by omega) (by omega)) ?_
    refine eV (eSt rfl rfl rfl rfl (by first | omega | (simp; omega)) rfl rfl ?_)
    refine ⟨cs _ _, ?_⟩
    refine sV (rIdx rfl rfl rfl (by omega) (by omega) (by simp; omega)) ?_
    refine eV (eSt rfl rfl rfl rfl (by first | omega | (simp; omega)) rfl rfl ?_)
    refine ⟨cs _ _, ?_⟩
    have hh : ((hdrs r2).set k.toNat (.slice (r2.getD ta.toNat rowD).A (r2.getD ta.toNat rowD).xs.length (r2.getD ta.toNat rowD).cap)).set ta.toNat (.slice (r2.getD k.toNat rowD).A (r2.getD k.toNat rowD).xs.length (r2.getD k.toNat rowD).cap) = hdrs ((r2.set k.toNat (r2.getD ta.toNat rowD)).set ta.toNat (r2.getD k.toNat rowD)) := by rw [hdrs_set, hdrs_set]; rfl
    rw [hh]
    refine tr_chunks _ ((cs _ [rowsCh 3 r2, ow B1 22 c1 (hdrs ((r2.set k.toNat (r2.getD ta.toNat rowD)).set ta.toNat (r2.getD k.toNat rowD))), ow AP 3 cP (ints ps), blk p0 24 [.int .i64 p, .int .i64 m, .slice A mod.length c], ro A (ints mod)]).trans (rows_perm (swap_perm rowD r2 (i := k.toNat) (j := ta.toNat) (by omega) (by omega)) _)) ?_
    have hrl3 : ((r2.set k.toNat (r2.getD ta.toNat rowD)).set ta.toNat (r2.getD k.toNat rowD)).length = rs.length := by simpa using hrl
    have hgd3 := hgd.perm (swap_perm rowD r2 (i := k.toNat) (j := ta.toNat) (by omega) (by omega))
    have hE3 : Vc.Eli (Vc.SpL (vsR rs : List (Vc (El p m mod)))) w.toNat (vsR ((r2.set k.toNat (r2.getD ta.toNat rowD)).set ta.toNat (r2.getD k.toNat rowD))) cc.toNat qs := by
     have := hE.swap (a := ta.toNat) (by omega) (by rw [vsR_length]; omega)
     rw [← hkn, vsR_get, vsR_get] at this
     rw [vsR_set, vsR_set]; exact this
    have hne3 : (((r2.set k.toNat (r2.getD ta.toNat rowD)).set ta.toNat (r2.getD k.toNat rowD)).getD k.toNat rowD).xs.getD cc.toNat 0 ≠ 0 := by
     rw [row_set, row_set]
     by_cases e : ta.toNat = k.toNat
     ·rw [if_pos ⟨e, by simp; omega⟩, ← e]; exact hne
     ·rw [if_neg (fun x => e x.1), if_pos ⟨rfl, by omega⟩]; exact hne
    generalize (r2.set k.toNat (r2.getD ta.toNat rowD)).set ta.toNat (r2.getD k.toNat rowD) = r3 at hrl3 hgd3 hE3 hne3
    haveI : InB k.toNat r3.length := ⟨by omega⟩
    have hw3 := hgd3.get (show k.toNat < r3.length by omega)
    have hen := hw3.2.get (by omega) cc.toNat
    have hnz3 : (el ((r3.getD k.toNat rowD).xs.getD cc.toNat 0) : El p m mod) ≠ 0 := fun e => hne3 ((el_eq_zero hen).1 e)
    have hw31 := hw3.1
    refine tr_join (fun (q : (List RowM)) => match q with | r4 => [(2, .int .i64 w), (3, .pointer (some p0)), (8, .slice B1 n c1), (9, .slice AP ps.length cP), (10, .int .i64 k), (11, .int .i64 cc)]) (fun (q : (List RowM)) => match q with | r4 => [ow AP 3 cP (ints ps), ow B1 22 c1 (hdrs r4), rowsCh 3 r4, blk p0 24 [.int .i64 p, .int .i64 m, .slice A mod.length c], ro A (ints mod)]) (fun (q : (List RowM)) => match q with | r4 => (r4.length = rs.length ∧ Gd (pw p m) w.toNat r4) ∧ Vc.Eli (Vc.SpL (vsR rs : List (Vc (El p m mod)))) w.toNat (vsR r4) cc.toNat qs ∧ (r4.getD k.toNat rowD).xs.getD cc.toNat 0 = 1) ?_ ?_
    ·refine tS ?_
     refine tR fun _ _ _ => ?_
     iterate 2 refine pV ?_
     refine sV (rIdxR rfl rfl rfl (by omega) (by omega) (by omega)) ?_
     refine sV (rLdR rfl rfl (by omega)) ?_
     refine pV ?_
     refine sV (rIdxI rfl rfl rfl (by omega) (by omega) (by omega)) ?_
     refine sV (rLdI rfl rfl (by omega)) ?_
     refine pV ?_
     refine tC rfl (fun h12 => ?_) (fun h12 => ?_)
     ·try simp only [zbA] at h12
      refine tr_draw [0, 1, 2, 3, 4, 5, 6, 7, 8, 9, 10, 12, 13, 14, 15, 11, 16, 17] [18] mixed (by kernel_rfl) fun _ _ _ => ?_
      iterate 2 refine pV ?_
      refine sV (rLdS rfl rfl rfl) ?_
      refine sV (rLdS rfl rfl rfl) ?_
      iterate 2 refine pV ?_
      refine sV (rIdxR rfl rfl rfl (by omega) (by omega) (by omega)) ?_
      refine sV (rLdR rfl rfl (by omega)) ?_
      refine pV ?_
      refine sV (rIdxI rfl rfl rfl (by omega) (by omega) (by omega)) ?_
      refine sV (rLdI rfl rfl (by omega)) ?_
      iterate 2 refine pV ?_
      refine sV (rIdxR rfl rfl rfl (by omega) (by omega) (by omega)) ?_
      refine sV (rLdR rfl rfl (by omega)) ?_
      refine eV (eCallV rfl rfl rfl (ref_InvE _ _ _ _ _ _) ⟨rfl, rfl, trivial⟩ ?_)
      refine eV (eCall1 rfl rfl rfl (ref_scale p m A c mod _ _ _ _ (r3.getD k.toNat rowD).xs rfl (by omega)) ⟨rfl, rfl, rfl, trivial⟩ ?_)
      rintro _ _ ⟨B13, rfl, rfl⟩
      refine sV (rIdxR rfl rfl rfl (by omega) (by omega) (by omega)) ?_
      refine eV (eSt rfl rfl rfl rfl (by first | omega | (simp; omega)) rfl rfl ?_)
      refine ⟨(r3.set k.toNat (⟨B13, (r3.getD k.toNat rowD).xs.length, sclR (el ((Fd.inv (el ((r3.getD k.toNat rowD).xs.getD cc.toNat 0)) : El p m mod).1) : El p m mod) (r3.getD k.toNat rowD).xs⟩ : RowM)), ⟨rfl, rfl, rfl, rfl, rfl, rfl, trivial⟩, by dsimp only; rw [← (show (hdrs r3).set k.toNat (.slice B13 (r3.getD k.toNat rowD).xs.length (r3.getD k.toNat rowD).xs.length) = hdrs (r3.set k.toNat (⟨B13, (r3.getD k.toNat rowD).xs.length, sclR (el ((Fd.inv (el ((r3.getD k.toNat rowD).xs.getD cc.toNat 0)) : El p m mod).1) : El p m mod) (r3.getD k.toNat rowD).xs⟩ : RowM)) by rw [hdrs_set]; simp [RowM.hdr])]; exact (cs _ [rowsCh 3 r3, ow B13 3 (r3.getD k.toNat rowD).xs.length (ints (RowM.xs (⟨B13, (r3.getD k.toNat rowD).xs.length, sclR (el ((Fd.inv (el ((r3.getD k.toNat rowD).xs.getD cc.toNat 0)) : El p m mod).1) : El p m mod) (r3.getD k.toNat rowD).xs⟩ : RowM))), ow B1 22 c1 ((hdrs r3).set k.toNat (.slice B13 (r3.getD k.toNat rowD).xs.length (r3.getD k.toNat rowD).xs.length)), ow AP 3 cP (ints ps), blk p0 24 [.int .i64 p, .int .i64 m, .slice A mod.length c], ro A (ints mod)]).trans ((rows_put (r := (⟨B13, (r3.getD k.toNat rowD).xs.length, sclR (el ((Fd.inv (el ((r3.getD k.toNat rowD).xs.getD cc.toNat 0)) : El p m mod).1) : El p m mod) (r3.getD k.toNat rowD).xs⟩ : RowM)) (show k.toNat < r3.length by omega) _).trans (cs _ _)), ?_⟩
      refine ⟨⟨by simpa using hrl3, hgd3.set _ (by simpa using hw3.1) (sclR_in _ _)⟩, ?_, ?_⟩
      ·have := hE3.scale (by rw [vsR_length]; omega) (Fd.inv_ne hnz3)
       rw [← hkn, vsR_get] at this
       rw [vsR_set, rw_sclR, el_of]; exact this
      ·rw [row_set, if_pos ⟨rfl, by omega⟩]
       refine (val_of_el (mod := mod) (sclR_in _ _) cc.toNat trivial ?_)
       have := congrFun (rw_sclR (el ((Fd.inv (el ((r3.getD k.toNat rowD).xs.getD cc.toNat 0)) : El p m mod).1) : El p m mod) (r3.getD k.toNat rowD).xs) cc.toNat
       rw [rw_at, Vc.sc_at, rw_at, el_of] at this
       rw [el_of, this]; exact Fd.inv_mul _ hnz3
     ·try simp only [zbA] at h12
      refine tK ?_
      refine ⟨(r3), ⟨rfl, rfl, rfl, rfl, rfl, rfl, trivial⟩, by first | exact cs _ _ | exact CSub.refl _, ?_⟩
      exact ⟨⟨hrl3, hgd3⟩, hE3, by omega⟩
    ·rintro r4 hI
     obtain ⟨⟨hrl4, hgd4⟩, hE4, hone4⟩ := hI
     refine tS ?_
     refine tS ?_
     refine tR fun _ _ _ => ?_
     refine pV ?_
     refine tB ?_
     refine tr_loop2 (fun (i : Int) (r5 : List RowM) => [(2, .int .i64 w), (3, .pointer (some p0)), (8, .slice B1 n c1), (9, .slice AP ps.length cP), (10, .int .i64 k), (11, .int .i64 cc), (13, .int .i64 i)]) (fun (i : Int) (r5 : List RowM) => [ow AP 3 cP (ints ps), ow B1 22 c1 (hdrs r5), rowsCh 3 r5, blk p0 24 [.int .i64 p, .int .i64 m, .slice A mod.length c], ro A (ints mod)]) (fun (i : Int) (r5 : List RowM) => (0 ≤ i ∧ i ≤ n) ∧ (r5.length = rs.length ∧ Gd (pw p m) w.toNat r5) ∧ Vc.Eli (Vc.SpL (vsR rs : List (Vc (El p m mod)))) w.toNat (vsR r5) cc.toNat qs ∧ (r5.getD k.toNat rowD).xs.getD cc.toNat 0 = 1 ∧ ∀ t : Nat, (t : Int) < i → t ≠ k.toNat → (r5.getD t rowD).xs.getD cc.toNat 0 = 0) (fun (i : Int) (r5 : List RowM) => (n - i).toNat) (0) (r4) ⟨rfl, rfl, rfl, rfl, rfl, rfl, rfl, trivial⟩ (by first | exact cs _ _ | exact CSub.refl _) (⟨⟨by omega, by omega⟩, ⟨hrl4, hgd4⟩, hE4, hone4, fun t h1 h2 => by omega⟩) (fun i r5 hI => ?_)
     obtain ⟨⟨hi0, hi1⟩, ⟨hrl5, hgd5⟩, hE5, hone5, hz5⟩ := hI
     refine tS ?_
     refine tS ?_
     refine tR fun _ _ _ => ?_
     iterate 2 refine pV ?_
     refine sV (rLen rfl rfl) ?_
     refine pV ?_
     refine tC rfl (fun h15 => ?_) (fun h15 => ?_)
     ·try simp only [zbA] at h15
      refine tK ?_
      refine tS ?_
      refine tB ?_
      refine tS ?_
      refine tR fun _ _ _ => ?_
      iterate 4 refine pV ?_
      refine stg rfl rfl rfl rfl rfl (fun hb => by (have hq := hb; try simp only [zbA] at hq); exact rMove rfl rfl) ?_
      refine stg rfl rfl rfl rfl rfl (fun hb => by (have hq := hb; try simp only [zbA] at hq); exact rMove rfl rfl) ?_
      refine stg rfl rfl rfl rfl rfl (fun hb => by (have hq := hb; try simp only [zbA] at hq); exact rIdxR rfl (evg rfl hb) (evg rfl hb) (by omega) (by omega) (by omega)) ?_
      refine stg rfl rfl rfl rfl rfl (fun hb => by (have hq := hb; try simp only [zbA] at hq); exact rLdR rfl (evg rfl hb) (by omega)) ?_
      refine stg rfl rfl rfl rfl rfl (fun hb => by (have hq := hb; try simp only [zbA] at hq); exact rMove rfl rfl) ?_
      refine stg rfl rfl rfl rfl rfl (fun hb => by (have hq := hb; try simp only [zbA] at hq); exact (haveI : InB i.toNat r5.length := ⟨by omega⟩; have hw := (hgd5.get (show i.toNat < r5.length by omega)).1; rIdxI rfl (evg rfl hb) (evg rfl hb) (by omega) (by omega) (by omega))) ?_
      refine stg rfl rfl rfl rfl rfl (fun hb => by (have hq := hb; try simp only [zbA] at hq); exact (haveI : InB i.toNat r5.length := ⟨by omega⟩; have hw := (hgd5.get (show i.toNat < r5.length by omega)).1; rLdI rfl (evg rfl hb) (by omega))) ?_
      refine stg rfl rfl rfl rfl rfl (fun hb => by (have hq := hb; try simp only [zbA] at hq); exact rNeq rfl (evg rfl hb) rfl) ?_
      refine sV (rAndB rfl rfl rfl rfl) ?_
      refine tC rfl (fun h17 => ?_) (fun h17 => ?_)
      ·try simp only [zbA] at h17
       haveI : InB i.toNat r5.length := ⟨by omega⟩
       haveI : InB k.toNat r5.length := ⟨by omega⟩
       have hwi := hgd5.get (show i.toNat < r5.length by omega)
       have hwk := hgd5.get (show k.toNat < r5.length by omega)
       have hwi1 := hwi.1
       have hwk1 := hwk.1
       refine tr_draw [0, 1, 2, 3, 4, 5, 6, 7, 8, 9, 10, 11, 12, 13, 14, 16, 17, 18, 19, 15, 20, 21] [22] mixed (by kernel_rfl) fun _ _ _ => ?_
       iterate 2 refine pV ?_
       refine sV (rLdS rfl rfl rfl) ?_
       iterate 2 refine pV ?_
       refine sV (rIdxR rfl rfl rfl (by omega) (by omega) (by omega)) ?_
       refine sV (rLdR rfl rfl (by omega)) ?_
       refine sV (rLdS rfl rfl rfl) ?_
       iterate 2 refine pV ?_
       refine sV (rIdxR rfl rfl rfl (by omega) (by omega) (by omega)) ?_
       refine sV (rLdR rfl rfl (by omega)) ?_
       refine pV ?_
       refine sV (rIdxI rfl rfl rfl (by omega) (by omega) (by omega)) ?_
       refine sV (rLdI rfl rfl (by omega)) ?_
       iterate 2 refine pV ?_
       refine sV (rIdxR rfl rfl rfl (by omega) (by omega) (by omega)) ?_
       refine sV (rLdR rfl rfl (by omega)) ?_
       refine eV (eCallV rfl rfl rfl (ref_NegE _ _ _ _ _ _) ⟨rfl, rfl, trivial⟩ ?_)
       refine eV (eCall1 rfl rfl rfl (ref_AddTo p m A c mod _ _ _ (r5.getD i.toNat rowD).xs rfl (by omega) _ _ _ _ (r5.getD k.toNat rowD).xs rfl (by omega) hwi.2) ⟨rfl, rfl, rfl, rfl, trivial⟩ ?_)
       rintro _ _ ⟨B18, rfl, rfl⟩
       refine sV (rIdxR rfl rfl rfl (by omega) (by omega) (by omega)) ?_
       refine eV (eSt rfl rfl rfl rfl (by first | omega | (simp; omega)) rfl rfl ?_)
       refine tR fun _ _ _ => ?_
       refine pV ?_
       refine sV (rAdd rfl rfl rfl (by omega) (by omega)) ?_
       refine pV ?_
       refine ⟨i + 1, r5.set i.toNat (⟨B18, (r5.getD i.toNat rowD).xs.length, addR (el (-(el ((r5.getD i.toNat rowD).xs.getD cc.toNat 0)) : El p m mod).1 : El p m mod) (r5.getD i.toNat rowD).xs (r5.getD k.toNat rowD).xs⟩ : RowM), ⟨rfl, rfl, rfl, rfl, rfl, rfl, rfl, trivial⟩, by rw [← (show (hdrs r5).set i.toNat (.slice B18 (r5.getD i.toNat rowD).xs.length (r5.getD i.toNat rowD).xs.length) = hdrs (r5.set i.toNat (⟨B18, (r5.getD i.toNat rowD).xs.length, addR (el (-(el ((r5.getD i.toNat rowD).xs.getD cc.toNat 0)) : El p m mod).1 : El p m mod) (r5.getD i.toNat rowD).xs (r5.getD k.toNat rowD).xs⟩ : RowM)) by rw [hdrs_set]; simp [RowM.hdr])]; exact (cs _ [rowsCh 3 r5, ow B18 3 (r5.getD i.toNat rowD).xs.length (ints (RowM.xs (⟨B18, (r5.getD i.toNat rowD).xs.length, addR (el (-(el ((r5.getD i.toNat rowD).xs.getD cc.toNat 0)) : El p m mod).1 : El p m mod) (r5.getD i.toNat rowD).xs (r5.getD k.toNat rowD).xs⟩ : RowM))), ow B1 22 c1 ((hdrs r5).set i.toNat (.slice B18 (r5.getD i.toNat rowD).xs.length (r5.getD i.toNat rowD).xs.length)), ow AP 3 cP (ints ps), blk p0 24 [.int .i64 p, .int .i64 m, .slice A mod.length c], ro A (ints mod)]).trans ((rows_put (r := (⟨B18, (r5.getD i.toNat rowD).xs.length, addR (el (-(el ((r5.getD i.toNat rowD).xs.getD cc.toNat 0)) : El p m mod).1 : El p m mod) (r5.getD i.toNat rowD).xs (r5.getD k.toNat rowD).xs⟩ : RowM)) (show i.toNat < r5.length by omega) _).trans (cs _ _)), ?_⟩
       refine ⟨⟨⟨by omega, by omega⟩, ⟨by simpa using hrl5, hgd5.set _ (by simpa using hwi.1) (addR_in _ _ _)⟩, ?_, ?_, fun t h1 h2 => ?_⟩, by omega⟩
       ·have := hE5.plus (by rw [vsR_length]; omega) (i := i.toNat) (by rw [vsR_length]; omega) (by omega) (-(el ((r5.getD i.toNat rowD).xs.getD cc.toNat 0) : El p m mod))
        rw [← hkn, vsR_get, vsR_get] at this
        rw [vsR_set, rw_addR _ _ _ (by omega), el_of]; exact this
       ·rw [row_set, if_neg (by omega)]; exact hone5
       ·rw [row_set]
        split
        ·rename_i he
         obtain ⟨rfl, he⟩ := he
         show (addR _ _ _).getD cc.toNat 0 = 0
         rw [addR_get _ _ _ (by omega), hone5, el_one, el_of]
         exact congrArg Subtype.val (show (el ((r5.getD i.toNat rowD).xs.getD cc.toNat 0) + -el ((r5.getD i.toNat rowD).xs.getD cc.toNat 0) * 1 : El p m mod) = 0 by grind)
        ·exact hz5 t (by omega) h2
      ·try simp only [zbA] at h17
       refine tK ?_
       refine tR fun _ _ _ => ?_
       refine pV ?_
       refine sV (rAdd rfl rfl rfl (by omega) (by omega)) ?_
       refine pV ?_
       refine ⟨i + 1, r5, ⟨rfl, rfl, rfl, rfl, rfl, rfl, rfl, trivial⟩, by first | exact cs _ _ | exact CSub.refl _, ?_⟩
       refine ⟨⟨⟨by omega, by omega⟩, ⟨hrl5, hgd5⟩, hE5, hone5, fun t h1 h2 => ?_⟩, by omega⟩
       by_cases he : t = i.toNat
       ·subst he
        have h3 : i ≠ k := by omega
        exact h17.resolve_left h3
       ·exact hz5 t (by omega) h2
     ·try simp only [zbA] at h15
      refine tE ?_
      refine tS ?_
      refine tR fun _ _ _ => ?_
      iterate 2 refine pV ?_
      refine eV (eLit1I rfl rfl rfl rfl (fun A19 => ?_))
      refine eV (eAppI rfl rfl rfl rfl rfl (by first | rfl | simp) (by first | rfl | simp) (by first | omega | (simp; omega)) (fun A19a c19a => ?_))
      refine pV ?_
      refine tR fun _ _ _ => ?_
      refine pV ?_
      refine sV (rAdd rfl rfl rfl (by omega) (by omega)) ?_
      refine pV ?_
      refine tR fun _ _ _ => ?_
      refine pV ?_
      refine sV (rAdd rfl rfl rfl (by omega) (by omega)) ?_
      refine pV ?_
      refine ⟨cc + 1, k + 1, ps ++ [cc], A19a, c19a, r5, ⟨rfl, rfl, rfl, rfl, rfl, rfl, trivial⟩, by first | exact cs _ _ | exact CSub.refl _, ?_⟩
      refine ⟨⟨⟨by omega, by omega⟩, ⟨hrl5, hgd5⟩, qs ++ [cc.toNat], ?_, by simp; omega, ?_⟩, by omega⟩
      ·rw [hps, List.map_append]; simp; omega
      ·rw [show (cc + 1).toNat = cc.toNat + 1 by omega]
       refine hE5.push (by rw [vsR_length]; omega) ?_ (fun t h1 h2 => ?_)
       ·rw [vsR_at, ← hkn, hone5, el_one]
       ·rw [vsR_length] at h1
        rw [vsR_at, hz5 t (by omega) (by omega), el_zero]
 ·try simp only [zbA] at h5
  refine tE ?_
  refine tS ?_
  refine tR fun _ _ _ => ?_
  iterate 4 refine pV ?_
  obtain ⟨hR1, hR2⟩ := hE.done (by rw [vsR_length]; omega) (by omega)
  exact tr_ret ⟨trivial, _, _, rfl, ⟨_, _, _, rfl, r2, B1, c1, AP, cP, ps, qs, by rw [show n = r2.length by omega], rfl, rfl, rfl, hps, hrl, hgd, by omega, hR1, hR2⟩, cs _ _, trivial, trivial, trivial, trivial⟩
end Go.Proofs.YtdkahdehodopoaaGreat

set_option maxRecDepth 100000
namespace Go.Proofs.YtdkahdehodopoaaGreat
open Go.RowKit
theorem hdrs_take (A : Option Addr) (e : TypeId) (cap : Nat) (rs : List RowM) (k : Nat) (F : List Chunk) : CSub (ow A e cap (hdrs rs) :: F) (ow A e cap (hdrs (rs.take k)) :: F) := by
 have h := ow_shrink (e := e) (A := A) (cap := cap) (vs := hdrs (rs.take k)) (ws := hdrs (rs.drop k)) F
 rwa [← hdrs_append, List.take_append_drop] at h
theorem ref_RCanon_ent : Enters Tryz.prog 34 := enters_of Tryz.func34 (by kernel_rfl) (by kernel_rfl)
theorem ref_RCanon (p m : Int) (A : Option Addr) (c : Nat) (mod : List Int) [hF : IsF p m mod] (w : Int) (hw0 : 0 ≤ w) (hw9 : w ≤ 1000000) (Aa : Option Addr) (n ca : Nat) (rs : List RowM) (hn : n = rs.length) (hr9 : rs.length ≤ 1000000) (hgd0 : Gd (pw p m) w.toNat rs) :
  Pure Tryz.prog 34 #[.agg #[.int .i64 p, .int .i64 m, .slice A mod.length c], .slice Aa n ca, .int .i64 w] [ro A (ints mod), ro Aa (hdrs rs), rowsR rs] (three (fun v ca cb cc => ∃ r3 B cb1 Bp cb2 ps, v = .tuple #[.slice B r3.length cb1, .slice Bp ps.length cb2] ∧ ca = ow B 22 cb1 (hdrs r3) ∧ cb = rowsCh 3 r3 ∧ cc = ow Bp 3 cb2 (ints ps) ∧ RrOf p m mod w.toNat rs r3 ps ∧ r3.length ≤ rs.length)) := by
 refine pure_of (args := [.agg #[.int .i64 p, .int .i64 m, .slice A mod.length c], .slice Aa n ca, .int .i64 w]) 22 Tryz.func34 rfl rfl rfl ref_RCanon_ent ⟨id, id, id, trivial⟩ (fun w0 => ?_)
 refine tS ?_
 refine tR fun _ _ _ => ?_
 refine eV (eBox rfl rfl rfl rfl rfl (fun p0 => ?_))
 iterate 2 refine pV ?_
 refine tS ?_
 refine tR fun _ _ _ => ?_
 refine sV (rLdS rfl rfl rfl) ?_
 iterate 2 refine pV ?_
 refine eV (eCall3 rfl rfl rfl (ref_Eliminate p m A c mod w hw0 hw9 Aa n ca rs hn hr9 hgd0) ⟨rfl, rfl, rfl, trivial⟩ ?_)
 rintro _ _ _ _ ⟨r2, B1, cb1, Bp, cb2, ps, qs, rfl, rfl, rfl, rfl, hps, hrl, hgd, hql, hR1, hR2⟩
 iterate 5 refine pV ?_
 refine tS ?_
 refine tr_cap B1 22 cb1 (hdrs r2) fun hcap => ?_
 rw [hdrs_length] at hcap
 have hpl : ps.length = qs.length := by rw [hps, List.length_map]
 refine tR fun _ _ _ => ?_
 iterate 2 refine pV ?_
 refine sV (rLen rfl rfl) ?_
 refine sV (rCutHi rfl rfl rfl (by omega) (by omega)) ?_
 iterate 3 refine pV ?_
 simp only [Int.toNat_natCast]
 have htl : (r2.take ps.length).length = ps.length := by rw [List.length_take]; omega
 have hRr : RrOf p m mod w.toNat rs (r2.take ps.length) ps := by
  rw [vsR_take, ← hpl] at hR1 hR2
  exact ⟨hgd.take _, htl.symm, ⟨qs, hps, hR1⟩, hR2⟩
 exact tr_ret ⟨trivial, _, _, rfl, ⟨_, _, _, rfl, r2.take ps.length, B1, cb1, Bp, cb2, ps, by rw [htl], rfl, rfl, rfl, hRr, by omega⟩, (cs _ [ow B1 22 cb1 (hdrs r2), rowsCh 3 r2, ow Bp 3 cb2 (ints ps)]).trans ((hdrs_take _ _ _ _ _ _).trans (CSub.cons _ (rows_take _ _))), trivial, trivial, trivial, trivial⟩
end Go.Proofs.YtdkahdehodopoaaGreat

set_option maxRecDepth 100000
namespace Go.Proofs.YtdkahdehodopoaaGreat
open Go.RowKit
section
end
end Go.Proofs.YtdkahdehodopoaaGreat

set_option maxRecDepth 100000
namespace Go.Proofs.YtdkahdehodopoaaGreat
open Go.RowKit
open Classical in
noncomputable def rowsC (q w : Int) (l : List (List Int)) : Int :=
 if ¬ (0 ≤ w ∧ w ≤ 256 ∧ l.length ≤ 256) then 3 else if ¬ ∀ r ∈ l, (r.length : Int) = w then 3 else if ∀ r ∈ l, AllIn q r then 0 else 2
theorem rowsC_shape {q w : Int} {l : List (List Int)} (h : ¬ (0 ≤ w ∧ w ≤ 256 ∧ l.length ≤ 256)) : rowsC q w l = 3 := by unfold rowsC; rw [if_pos h]
theorem rowsC_len {q w : Int} {l : List (List Int)} (h1 : ¬ ∀ r ∈ l, (r.length : Int) = w) : rowsC q w l = 3 := by
 unfold rowsC; split
 ·rfl
 ·rfl
theorem rowsC_ent {q w : Int} {l : List (List Int)} (h : 0 ≤ w ∧ w ≤ 256 ∧ l.length ≤ 256) (h1 : ∀ r ∈ l, (r.length : Int) = w) (h2 : ¬ ∀ r ∈ l, AllIn q r) : rowsC q w l = 2 := by
 unfold rowsC; rw [if_neg (fun k => k h), if_neg (fun k => k h1), if_neg h2]
theorem rowsC_ok {q w : Int} {l : List (List Int)} (h : 0 ≤ w ∧ w ≤ 256 ∧ l.length ≤ 256) (h1 : ∀ r ∈ l, (r.length : Int) = w) (h2 : ∀ r ∈ l, AllIn q r) : rowsC q w l = 0 := by
 unfold rowsC; rw [if_neg (fun k => k h), if_neg (fun k => k h1), if_pos h2]
theorem rowsC_zero {q w : Int} {l : List (List Int)} (h : rowsC q w l = 0) : (0 ≤ w ∧ w ≤ 256 ∧ l.length ≤ 256) ∧ (∀ r ∈ l, (r.length : Int) = w) ∧ ∀ r ∈ l, AllIn q r := by
 by_cases h1 : 0 ≤ w ∧ w ≤ 256 ∧ l.length ≤ 256
 ·by_cases h2 : ∀ r ∈ l, (r.length : Int) = w
  ·by_cases h3 : ∀ r ∈ l, AllIn q r
   ·exact ⟨h1, h2, h3⟩
   ·rw [rowsC_ent h1 h2 h3] at h; omega
  ·rw [rowsC_len h2] at h; omega
 ·rw [rowsC_shape h1] at h; omega
def xss (rs : List RowM) : List (List Int) := rs.map (·.xs)
@[simp] theorem xss_length (rs : List RowM) : (xss rs).length = rs.length := by simp [xss]
theorem xss_all {rs : List RowM} {φ : List Int → Prop} : (∀ r ∈ xss rs, φ r) ↔ ∀ r ∈ rs, φ r.xs := by simp [xss]
theorem xss_get {rs : List RowM} {φ : List Int → Prop} (h : ∀ j : Nat, j < rs.length → φ (rs.getD j rowD).xs) : ∀ r ∈ xss rs, φ r := xss_all.2 fun r hr => by
 obtain ⟨j, hj, rfl⟩ := List.getElem_of_mem hr
 have := h j hj
 rwa [List.getD_eq_getElem?_getD, List.getElem?_eq_getElem hj] at this
theorem xss_no {rs : List RowM} {φ : List Int → Prop} {j : Nat} (hj : j < rs.length) (h : ¬ φ (rs.getD j rowD).xs) : ¬ ∀ r ∈ xss rs, φ r := fun k => h (xss_all.1 k _ (getD_mem hj _))
theorem Gd_iff {q w : Int} {rs : List RowM} (hw : 0 ≤ w) : Gd q w.toNat rs ↔ (∀ r ∈ xss rs, (r.length : Int) = w) ∧ ∀ r ∈ xss rs, AllIn q r := by
 rw [xss_all, xss_all]
 exact ⟨fun h => ⟨fun r hr => by have := (h r hr).1; omega, fun r hr => (h r hr).2⟩, fun h r hr => ⟨by have := h.1 r hr; omega, h.2 r hr⟩⟩
theorem mat_entriesC_ent : Enters Tryz.prog 150 := enters_of Tryz.func150 (by kernel_rfl) (by kernel_rfl)
theorem mat_entriesC (g : GfM) (q : Int) (hq : g.q = q) (A : Option Addr) (n c : Nat) (l : List Int) (hn : n = l.length) (h9 : l.length ≤ 17592186044415) :
  Pure Tryz.prog 150 #[.pointer (some g.p), .slice A n c] [gfR g, ro A (ints l)] (isV (.int .i64 (entC q l))) := by
 refine pure_of (args := [.pointer (some g.p), .slice A n c]) 18 Tryz.func150 rfl rfl rfl mat_entriesC_ent ⟨id, id, trivial⟩ (fun w0 => ?_)
 refine tS ?_
 refine tR fun _ _ _ => ?_
 refine pV ?_
 refine tS ?_
 refine tS ?_
 refine tR fun _ _ _ => ?_
 refine pV ?_
 refine sV (rLen rfl rfl) ?_
 refine pV ?_
 refine tB ?_
 refine tr_loop1 (fun (k : Int) => [(9, .int .i64 k), (0, .pointer (some g.p)), (7, .slice A n c), (8, .int .i64 n)]) (fun (k : Int) => [gfR g, ro A (ints l)]) (fun (k : Int) => (0 ≤ k ∧ k ≤ n) ∧ ∀ j : Nat, (j : Int) < k → 0 ≤ l.getD j 0 ∧ l.getD j 0 < q) (fun (k : Int) => (n - k).toNat) (0) ⟨rfl, rfl, rfl, rfl, trivial⟩ (by first | exact cs _ _ | exact CSub.refl _) (⟨⟨by omega, by omega⟩, fun j hj => by omega⟩) (fun k hI => ?_)
 obtain ⟨⟨hk0, hk1⟩, hall⟩ := hI
 refine tS ?_
 refine tR fun _ _ _ => ?_
 refine pV ?_
 refine tS ?_
 refine tC rfl (fun h2 => ?_) (fun h2 => ?_)
 ·try simp only [zbA] at h2
  refine tK ?_
  refine tS ?_
  refine tB ?_
  refine tS ?_
  refine tR fun _ _ _ => ?_
  refine sV (rIdxI rfl rfl rfl (by omega) (by omega) (by omega)) ?_
  refine sV (rLdI rfl rfl (by omega)) ?_
  refine pV ?_
  refine tS ?_
  refine tR fun _ _ _ => ?_
  iterate 2 refine pV ?_
  refine eV (eCallV rfl rfl rfl (gf_Is _ _) ⟨rfl, rfl, trivial⟩ ?_)
  refine sV (rNotB rfl rfl) ?_
  refine tC rfl (fun h4 => ?_) (fun h4 => ?_)
  ·try simp only [zbA] at h4
   refine tS ?_
   refine tR fun _ _ _ => ?_
   refine pV ?_
   have hno : ¬ AllIn q l := fun h => by
    have hb := h (l.getD k.toNat 0) (getD_mem (by omega) _)
    omega
   exact tr_ret ⟨trivial, _, _, rfl, ⟨by rw [entC_no hno], rfl⟩, CSub.nil _, trivial⟩
  ·try simp only [zbA] at h4
   refine tK ?_
   refine tR fun _ _ _ => ?_
   refine sV (rAdd rfl rfl rfl (by omega) (by omega)) ?_
   refine pV ?_
   refine ⟨k + 1, ⟨rfl, rfl, rfl, rfl, trivial⟩, by first | exact cs _ _ | exact CSub.refl _, ?_⟩
   refine ⟨⟨⟨by omega, by omega⟩, fun j hj => ?_⟩, by omega⟩
   by_cases he : (j : Int) = k
   ·have : j = k.toNat := by omega
    subst this; omega
   ·exact hall j (by omega)
 ·try simp only [zbA] at h2
  refine tE ?_
  refine tS ?_
  refine tR fun _ _ _ => ?_
  refine pV ?_
  have hok : AllIn q l := allIn_of_get fun j hj => hall j (by omega)
  exact tr_ret ⟨trivial, _, _, rfl, ⟨by rw [entC_ok hok], rfl⟩, CSub.nil _, trivial⟩
theorem entC_cases (q : Int) (l : List Int) : (AllIn q l ∧ entC q l = 0) ∨ (¬ AllIn q l ∧ entC q l = 2) := by
 by_cases h : AllIn q l
 ·exact .inl ⟨h, entC_ok h⟩
 ·exact .inr ⟨h, entC_no h⟩
theorem mat_checkC_ent : Enters Tryz.prog 134 := enters_of Tryz.func134 (by kernel_rfl) (by kernel_rfl)
theorem mat_checkC (g : GfM) (q : Int) (hq : g.q = q) (w : Int) (A : Option Addr) (n c : Nat) (rs : List RowM) (hn : n = rs.length) (h9 : rs.length ≤ 17592186044415) (h8 : ∀ r ∈ rs, r.xs.length ≤ 17592186044415) :
  Pure Tryz.prog 134 #[.pointer (some g.p), .agg #[.int .i64 w, .slice A n c]] [gfR g, ro A (hdrs rs), rowsR rs] (isV (.int .i64 (rowsC q w (xss rs)))) := by
 refine pure_of (args := [.pointer (some g.p), .agg #[.int .i64 w, .slice A n c]]) 51 Tryz.func134 rfl rfl rfl mat_checkC_ent ⟨id, id, id, trivial⟩ (fun w0 => ?_)
 refine tS ?_
 refine tR fun _ _ _ => ?_
 refine eV (eBox rfl rfl rfl rfl rfl (fun p0 => ?_))
 refine pV ?_
 refine tS ?_
 refine tS ?_
 refine tR fun _ _ _ => ?_
 refine sV (rFld rfl rfl) ?_
 refine sV (rLdF rfl rfl rfl) ?_
 iterate 2 refine pV ?_
 refine stg rfl rfl rfl rfl rfl (fun hb => by (have hq := hb; try simp only [zbA] at hq); exact rFld rfl rfl) ?_
 refine stg rfl rfl rfl rfl rfl (fun hb => by (have hq := hb; try simp only [zbA] at hq); exact rLdF rfl (evg rfl hb) rfl) ?_
 refine stg rfl rfl rfl rfl rfl (fun hb => by (have hq := hb; try simp only [zbA] at hq); exact rGtr rfl (evg rfl hb) rfl) ?_
 refine sV (rOrB rfl rfl rfl rfl) ?_
 refine pV ?_
 refine stg rfl rfl rfl rfl rfl (fun hb => by (have hq := hb; try simp only [zbA] at hq); exact rFld rfl rfl) ?_
 refine stg rfl rfl rfl rfl rfl (fun hb => by (have hq := hb; try simp only [zbA] at hq); exact rLdF rfl (evg rfl hb) rfl) ?_
 refine stg rfl rfl rfl rfl rfl (fun hb => by (have hq := hb; try simp only [zbA] at hq); exact rLen rfl (evg rfl hb)) ?_
 refine stg rfl rfl rfl rfl rfl (fun hb => by (have hq := hb; try simp only [zbA] at hq); exact rGtr rfl (evg rfl hb) rfl) ?_
 refine sV (rOrB rfl rfl rfl rfl) ?_
 refine tC rfl (fun h1 => ?_) (fun h1 => ?_)
 ·try simp only [zbA] at h1
  refine tS ?_
  refine tR fun _ _ _ => ?_
  refine pV ?_
  exact tr_ret ⟨trivial, _, _, rfl, ⟨by rw [rowsC_shape (by rw [xss_length]; omega)], rfl⟩, CSub.nil _, trivial⟩
 ·try simp only [zbA] at h1
  refine tK ?_
  refine tS ?_
  refine tS ?_
  refine tR fun _ _ _ => ?_
  refine sV (rFld rfl rfl) ?_
  refine sV (rLdF rfl rfl rfl) ?_
  refine sV (rLen rfl rfl) ?_
  refine pV ?_
  refine tB ?_
  refine tr_loop1 (fun (k : Int) => [(27, .int .i64 k), (0, .pointer (some g.p)), (3, .pointer (some p0)), (25, .slice A n c), (26, .int .i64 n)]) (fun (k : Int) => [blk p0 43 [.int .i64 w, .slice A n c], gfR g, ro A (hdrs rs), rowsR rs]) (fun (k : Int) => (0 ≤ k ∧ k ≤ n) ∧ ∀ j : Nat, (j : Int) < k → ((rs.getD j rowD).xs.length : Int) = w) (fun (k : Int) => (n - k).toNat) (0) ⟨rfl, rfl, rfl, rfl, rfl, trivial⟩ (by first | exact cs _ _ | exact CSub.refl _) (⟨⟨by omega, by omega⟩, fun j hj => by omega⟩) (fun k hI => ?_)
  obtain ⟨⟨hk0, hk1⟩, hall⟩ := hI
  refine tS ?_
  refine tR fun _ _ _ => ?_
  refine pV ?_
  refine tS ?_
  refine tC rfl (fun h4 => ?_) (fun h4 => ?_)
  ·try simp only [zbA] at h4
   refine tK ?_
   refine tS ?_
   refine tB ?_
   refine tS ?_
   haveI : InB k.toNat rs.length := ⟨by omega⟩
   have hk8 := h8 _ (getD_mem (show k.toNat < rs.length by omega) rowD)
   refine tR fun _ _ _ => ?_
   refine sV (rIdxR rfl rfl rfl (by omega) (by omega) (by omega)) ?_
   refine sV (rLdR rfl rfl (by omega)) ?_
   refine pV ?_
   refine tS ?_
   refine tR fun _ _ _ => ?_
   refine pV ?_
   refine sV (rLen rfl rfl) ?_
   refine sV (rFld rfl rfl) ?_
   refine sV (rLdF rfl rfl rfl) ?_
   refine pV ?_
   refine tC rfl (fun h6 => ?_) (fun h6 => ?_)
   ·try simp only [zbA] at h6
    refine tS ?_
    refine tR fun _ _ _ => ?_
    refine pV ?_
    have hno := xss_no (φ := fun r => (r.length : Int) = w) (show k.toNat < rs.length by omega) (by omega)
    exact tr_ret ⟨trivial, _, _, rfl, ⟨by rw [rowsC_len hno], rfl⟩, CSub.nil _, trivial⟩
   ·try simp only [zbA] at h6
    refine tK ?_
    refine tR fun _ _ _ => ?_
    refine sV (rAdd rfl rfl rfl (by omega) (by omega)) ?_
    refine pV ?_
    refine ⟨k + 1, ⟨rfl, rfl, rfl, rfl, rfl, trivial⟩, by first | exact cs _ _ | exact CSub.refl _, ?_⟩
    refine ⟨⟨⟨by omega, by omega⟩, fun j hj => ?_⟩, by omega⟩
    by_cases he : (j : Int) = k
    ·have : j = k.toNat := by omega
     subst this; omega
    ·exact hall j (by omega)
  ·try simp only [zbA] at h4
   refine tE ?_
   refine tS ?_
   refine tS ?_
   refine tR fun _ _ _ => ?_
   refine sV (rFld rfl rfl) ?_
   refine sV (rLdF rfl rfl rfl) ?_
   refine sV (rLen rfl rfl) ?_
   refine pV ?_
   refine tB ?_
   refine tr_loop1 (fun (k : Int) => [(40, .int .i64 k), (0, .pointer (some g.p)), (38, .slice A n c), (39, .int .i64 n)]) (fun (k : Int) => [blk p0 43 [.int .i64 w, .slice A n c], gfR g, ro A (hdrs rs), rowsR rs]) (fun (k : Int) => (0 ≤ k ∧ k ≤ n) ∧ ∀ j : Nat, (j : Int) < k → AllIn q (rs.getD j rowD).xs) (fun (k : Int) => (n - k).toNat) (0) ⟨rfl, rfl, rfl, rfl, trivial⟩ (by first | exact cs _ _ | exact CSub.refl _) (⟨⟨by omega, by omega⟩, fun j hj => by omega⟩) (fun k hI => ?_)
   have hlen : ∀ r ∈ xss rs, (r.length : Int) = w := xss_get fun j hj => hall j (by omega)
   clear hall
   obtain ⟨⟨hk0, hk1⟩, hall⟩ := hI
   refine tS ?_
   refine tR fun _ _ _ => ?_
   refine pV ?_
   refine tS ?_
   refine tC rfl (fun h10 => ?_) (fun h10 => ?_)
   ·try simp only [zbA] at h10
    refine tK ?_
    refine tS ?_
    refine tB ?_
    refine tS ?_
    haveI : InB k.toNat rs.length := ⟨by omega⟩
    have hk8 := h8 _ (getD_mem (show k.toNat < rs.length by omega) rowD)
    refine tR fun _ _ _ => ?_
    refine sV (rIdxR rfl rfl rfl (by omega) (by omega) (by omega)) ?_
    refine sV (rLdR rfl rfl (by omega)) ?_
    refine pV ?_
    refine tS ?_
    refine tR fun _ _ _ => ?_
    iterate 2 refine pV ?_
    refine eV (eCallV rfl rfl rfl (mat_entriesC g q hq _ _ _ (rs.getD k.toNat rowD).xs rfl hk8) ⟨rfl, rfl, trivial⟩ ?_)
    refine pV ?_
    refine tS ?_
    refine tR fun _ _ _ => ?_
    iterate 2 refine pV ?_
    refine tC rfl (fun h13 => ?_) (fun h13 => ?_)
    ·try simp only [zbA] at h13
     have hek : ¬ AllIn q (rs.getD k.toNat rowD).xs := fun h => absurd (entC_ok h) (by omega)
     refine tS ?_
     refine tR fun _ _ _ => ?_
     iterate 2 refine pV ?_
     have hwb : 0 ≤ w ∧ w ≤ 256 ∧ (xss rs).length ≤ 256 := by rw [xss_length]; omega
     have hno := xss_no (φ := fun r => AllIn q r) (show k.toNat < rs.length by omega) hek
     exact tr_ret ⟨trivial, _, _, rfl, ⟨by rw [rowsC_ent hwb hlen hno, entC_no hek], rfl⟩, CSub.nil _, trivial⟩
    ·try simp only [zbA] at h13
     have hek : AllIn q (rs.getD k.toNat rowD).xs := by
      rcases entC_cases q (rs.getD k.toNat rowD).xs with h | h
      ·exact h.1
      ·exact absurd h.2 (by omega)
     refine tK ?_
     refine tR fun _ _ _ => ?_
     refine sV (rAdd rfl rfl rfl (by omega) (by omega)) ?_
     refine pV ?_
     refine ⟨k + 1, ⟨rfl, rfl, rfl, rfl, trivial⟩, by first | exact cs _ _ | exact CSub.refl _, ?_⟩
     refine ⟨⟨⟨by omega, by omega⟩, fun j hj => ?_⟩, by omega⟩
     by_cases he : (j : Int) = k
     ·have : j = k.toNat := by omega
      subst this; exact hek
     ·exact hall j (by omega)
   ·try simp only [zbA] at h10
    refine tE ?_
    refine tS ?_
    refine tR fun _ _ _ => ?_
    refine pV ?_
    have hwb : 0 ≤ w ∧ w ≤ 256 ∧ (xss rs).length ≤ 256 := by rw [xss_length]; omega
    have hall2 : ∀ r ∈ xss rs, AllIn q r := xss_get fun j hj => hall j (by omega)
    exact tr_ret ⟨trivial, _, _, rfl, ⟨by rw [rowsC_ok hwb hlen hall2], rfl⟩, CSub.nil _, trivial⟩
theorem ref_RCheckOk_ent : Enters Tryz.prog 33 := enters_of Tryz.func33 (by kernel_rfl) (by kernel_rfl)
theorem ref_RCheckOk (p m : Int) (A : Option Addr) (c : Nat) (mod : List Int) (hl9 : mod.length ≤ 17592186044415) (hF : FldR p m mod) (q : Int) (hq : ordI p m = q) (w : Int) (Aa : Option Addr) (n ca : Nat) (rs : List RowM) (hn : n = rs.length) (h9 : rs.length ≤ 17592186044415) (h8 : ∀ r ∈ rs, r.xs.length ≤ 17592186044415) :
  Pure Tryz.prog 33 #[.agg #[.int .i64 p, .int .i64 m, .slice A mod.length c], .agg #[.int .i64 w, .slice Aa n ca]] [ro A (ints mod), ro Aa (hdrs rs), rowsR rs] (isV (.int .i64 (rowsC q w (xss rs)))) := by
 refine pure_of (args := [.agg #[.int .i64 p, .int .i64 m, .slice A mod.length c], .agg #[.int .i64 w, .slice Aa n ca]]) 60 Tryz.func33 rfl rfl rfl ref_RCheckOk_ent ⟨id, id, id, trivial⟩ (fun w0 => ?_)
 refine tS ?_
 refine tR fun _ _ _ => ?_
 refine eV (eBox rfl rfl rfl rfl rfl (fun p0 => ?_))
 refine eV (eBox rfl rfl rfl rfl rfl (fun p0a => ?_))
 refine pV ?_
 refine tS ?_
 refine tR fun _ _ _ => ?_
 refine sV (rLdS rfl rfl rfl) ?_
 refine eV (eCallV rfl rfl rfl (ref_fldCheck _ _ _ _ _ hl9) ⟨rfl, trivial⟩ ?_)
 refine pV ?_
 refine tS ?_
 refine tS ?_
 refine tR fun _ _ _ => ?_
 iterate 2 refine pV ?_
 refine tC rfl (fun h2 => ?_) (fun h2 => ?_)
 ·try simp only [zbA] at h2
  rcases chkF_cases p m mod with h | h
  ·omega
  ·exact absurd hF h.1 --done
 ·try simp only [zbA] at h2
  refine tK ?_
  refine tS ?_
  refine tS ?_
  refine tR fun _ _ _ => ?_
  refine sV (rFld rfl rfl) ?_
  refine sV (rLdF rfl rfl rfl) ?_
  iterate 2 refine pV ?_
  refine stg rfl rfl rfl rfl rfl (fun hb => by (have hq := hb; try simp only [zbA] at hq); exact rFld rfl rfl) ?_
  refine stg rfl rfl rfl rfl rfl (fun hb => by (have hq := hb; try simp only [zbA] at hq); exact rLdF rfl (evg rfl hb) rfl) ?_
  refine stg rfl rfl rfl rfl rfl (fun hb => by (have hq := hb; try simp only [zbA] at hq); exact rGtr rfl (evg rfl hb) rfl) ?_
  refine sV (rOrB rfl rfl rfl rfl) ?_
  refine pV ?_
  refine stg rfl rfl rfl rfl rfl (fun hb => by (have hq := hb; try simp only [zbA] at hq); exact rFld rfl rfl) ?_
  refine stg rfl rfl rfl rfl rfl (fun hb => by (have hq := hb; try simp only [zbA] at hq); exact rLdF rfl (evg rfl hb) rfl) ?_
  refine stg rfl rfl rfl rfl rfl (fun hb => by (have hq := hb; try simp only [zbA] at hq); exact rLen rfl (evg rfl hb)) ?_
  refine stg rfl rfl rfl rfl rfl (fun hb => by (have hq := hb; try simp only [zbA] at hq); exact rGtr rfl (evg rfl hb) rfl) ?_
  refine sV (rOrB rfl rfl rfl rfl) ?_
  refine tC rfl (fun h4 => ?_) (fun h4 => ?_)
  ·try simp only [zbA] at h4
   refine tS ?_
   refine tR fun _ _ _ => ?_
   refine pV ?_
   exact tr_ret ⟨trivial, _, _, rfl, ⟨by rw [rowsC_shape (by rw [xss_length]; omega)], rfl⟩, CSub.nil _, trivial⟩
  ·try simp only [zbA] at h4
   refine tK ?_
   refine tS ?_
   refine tS ?_
   refine tR fun _ _ _ => ?_
   refine pV ?_
   refine tB ?_
   refine tr_loop1 (fun (k : Int) => [(6, .int .i64 k), (2, .pointer (some p0)), (3, .pointer (some p0a))]) (fun (k : Int) => [blk p0 24 [.int .i64 p, .int .i64 m, .slice A mod.length c], blk p0a 43 [.int .i64 w, .slice Aa n ca], ro A (ints mod), ro Aa (hdrs rs), rowsR rs]) (fun (k : Int) => (0 ≤ k ∧ k ≤ n) ∧ ∀ j : Nat, (j : Int) < k → ((rs.getD j rowD).xs.length : Int) = w) (fun (k : Int) => (n - k).toNat) (0) ⟨rfl, rfl, rfl, trivial⟩ (by first | exact cs _ _ | exact CSub.refl _) (⟨⟨by omega, by omega⟩, fun j hj => by omega⟩) (fun k hI => ?_)
   obtain ⟨⟨hk0, hk1⟩, hall⟩ := hI
   refine tS ?_
   refine tS ?_
   refine tR fun _ _ _ => ?_
   refine pV ?_
   refine sV (rFld rfl rfl) ?_
   refine sV (rLdF rfl rfl rfl) ?_
   refine sV (rLen rfl rfl) ?_
   refine pV ?_
   refine tC rfl (fun h7 => ?_) (fun h7 => ?_)
   ·try simp only [zbA] at h7
    refine tK ?_
    refine tS ?_
    refine tB ?_
    refine tS ?_
    haveI : InB k.toNat rs.length := ⟨by omega⟩
    have hk8 := h8 _ (getD_mem (show k.toNat < rs.length by omega) rowD)
    refine tr_draw [0, 1, 2, 3, 4, 5, 6, 7, 8] [] mixed (by kernel_rfl) fun _ _ _ => ?_
    refine sV (rFld rfl rfl) ?_
    refine sV (rLdF rfl rfl rfl) ?_
    refine pV ?_
    refine sV (rIdxR rfl rfl rfl (by omega) (by omega) (by omega)) ?_
    refine sV (rLdR rfl rfl (by omega)) ?_
    refine sV (rLen rfl rfl) ?_
    refine sV (rFld rfl rfl) ?_
    refine sV (rLdF rfl rfl rfl) ?_
    refine pV ?_
    refine tC rfl (fun h9 => ?_) (fun h9 => ?_)
    ·try simp only [zbA] at h9
     refine tS ?_
     refine tR fun _ _ _ => ?_
     refine pV ?_
     have hno := xss_no (φ := fun r => (r.length : Int) = w) (show k.toNat < rs.length by omega) (by omega)
     exact tr_ret ⟨trivial, _, _, rfl, ⟨by rw [rowsC_len hno], rfl⟩, CSub.nil _, trivial⟩
    ·try simp only [zbA] at h9
     refine tK ?_
     refine tR fun _ _ _ => ?_
     refine pV ?_
     refine sV (rAdd rfl rfl rfl (by omega) (by omega)) ?_
     refine pV ?_
     refine ⟨k + 1, ⟨rfl, rfl, rfl, trivial⟩, by first | exact cs _ _ | exact CSub.refl _, ?_⟩
     refine ⟨⟨⟨by omega, by omega⟩, fun j hj => ?_⟩, by omega⟩
     by_cases he : (j : Int) = k
     ·have : j = k.toNat := by omega
      subst this; omega
     ·exact hall j (by omega)
   ·try simp only [zbA] at h7
    refine tE ?_
    refine tS ?_
    refine tS ?_
    refine tR fun _ _ _ => ?_
    refine pV ?_
    refine tB ?_
    refine tr_loop1 (fun (k : Int) => [(7, .int .i64 k), (2, .pointer (some p0)), (3, .pointer (some p0a))]) (fun (k : Int) => [blk p0 24 [.int .i64 p, .int .i64 m, .slice A mod.length c], blk p0a 43 [.int .i64 w, .slice Aa n ca], ro A (ints mod), ro Aa (hdrs rs), rowsR rs]) (fun (k : Int) => (0 ≤ k ∧ k ≤ n) ∧ ∀ j : Nat, (j : Int) < k → AllIn q (rs.getD j rowD).xs) (fun (k : Int) => (n - k).toNat) (0) ⟨rfl, rfl, rfl, trivial⟩ (by first | exact cs _ _ | exact CSub.refl _) (⟨⟨by omega, by omega⟩, fun j hj => by omega⟩) (fun k hI => ?_)
    have hlen : ∀ r ∈ xss rs, (r.length : Int) = w := xss_get fun j hj => hall j (by omega)
    clear hall
    obtain ⟨⟨hk0, hk1⟩, hall⟩ := hI
    refine tS ?_
    refine tS ?_
    refine tR fun _ _ _ => ?_
    refine pV ?_
    refine sV (rFld rfl rfl) ?_
    refine sV (rLdF rfl rfl rfl) ?_
    refine sV (rLen rfl rfl) ?_
    refine pV ?_
    refine tC rfl (fun h12 => ?_) (fun h12 => ?_)
    ·try simp only [zbA] at h12
     refine tK ?_
     refine tS ?_
     refine tB ?_
     refine tS ?_
     haveI : InB k.toNat rs.length := ⟨by omega⟩
     have hk8 := h8 _ (getD_mem (show k.toNat < rs.length by omega) rowD)
     refine tr_draw [0, 1, 2, 3, 4, 5, 6, 7] [] mixed (by kernel_rfl) fun _ _ _ => ?_
     refine sV (rLdS rfl rfl rfl) ?_
     refine sV (rFld rfl rfl) ?_
     refine sV (rLdF rfl rfl rfl) ?_
     refine pV ?_
     refine sV (rIdxR rfl rfl rfl (by omega) (by omega) (by omega)) ?_
     refine sV (rLdR rfl rfl (by omega)) ?_
     refine eV (eCallV rfl rfl rfl (ref_Entries _ _ _ _ _ _ _ _ (rs.getD k.toNat rowD).xs rfl hk8) ⟨rfl, rfl, trivial⟩ ?_)
     refine pV ?_
     refine tS ?_
     refine tR fun _ _ _ => ?_
     iterate 2 refine pV ?_
     refine tC rfl (fun h15 => ?_) (fun h15 => ?_)
     ·try simp only [zbA] at h15
      rw [hq] at h15
      have hek : ¬ AllIn q (rs.getD k.toNat rowD).xs := fun h => absurd (entC_ok h) (by omega)
      refine tS ?_
      refine tR fun _ _ _ => ?_
      iterate 2 refine pV ?_
      have hwb : 0 ≤ w ∧ w ≤ 256 ∧ (xss rs).length ≤ 256 := by rw [xss_length]; omega
      have hno := xss_no (φ := fun r => AllIn q r) (show k.toNat < rs.length by omega) hek
      exact tr_ret ⟨trivial, _, _, rfl, ⟨by rw [rowsC_ent hwb hlen hno, hq, entC_no hek], rfl⟩, CSub.nil _, trivial⟩
     ·try simp only [zbA] at h15
      rw [hq] at h15
      have hek : AllIn q (rs.getD k.toNat rowD).xs := by
       rcases entC_cases q (rs.getD k.toNat rowD).xs with h | h
       ·exact h.1
       ·exact absurd h.2 (by omega)
      refine tK ?_
      refine tR fun _ _ _ => ?_
      refine pV ?_
      refine sV (rAdd rfl rfl rfl (by omega) (by omega)) ?_
      refine pV ?_
      refine ⟨k + 1, ⟨rfl, rfl, rfl, trivial⟩, by first | exact cs _ _ | exact CSub.refl _, ?_⟩
      refine ⟨⟨⟨by omega, by omega⟩, fun j hj => ?_⟩, by omega⟩
      by_cases he : (j : Int) = k
      ·have : j = k.toNat := by omega
       subst this; exact hek
      ·exact hall j (by omega)
    ·try simp only [zbA] at h12
     refine tE ?_
     refine tS ?_
     refine tR fun _ _ _ => ?_
     refine pV ?_
     have hwb : 0 ≤ w ∧ w ≤ 256 ∧ (xss rs).length ≤ 256 := by rw [xss_length]; omega
     have hall2 : ∀ r ∈ xss rs, AllIn q r := xss_get fun j hj => hall j (by omega)
     exact tr_ret ⟨trivial, _, _, rfl, ⟨by rw [rowsC_ok hwb hlen hall2], rfl⟩, CSub.nil _, trivial⟩
end Go.Proofs.YtdkahdehodopoaaGreat

namespace Go.Proofs.YtdkahdehodopoaaGreat
open Go.RowKit
section
variable {K : Type} [Fd K]
def pv (f : Po K) : Vc K := fun j => Po.cf f j
theorem pv_at (f : Po K) (j : Nat) : pv f j = Po.cf f j := rfl
def CyW (n : Nat) (d : Po K) (u : Vc K) : Prop := ∃ f : Po K, (∀ j, u j = Po.cf f j) ∧ Po.Sh f n ∧ d ∣ f
theorem CyW.zero (n : Nat) (d : Po K) : CyW n d 0 := ⟨0, fun _ => rfl, fun _ _ => rfl, Po.dvd_zero d⟩
theorem CyW.plus {n : Nat} {d : Po K} {u v : Vc K} (hu : CyW n d u) (hv : CyW n d v) (c : K) : CyW n d (u + Vc.sc c v) := by
 obtain ⟨f, h1, h2, h3⟩ := hu
 obtain ⟨g, k1, k2, k3⟩ := hv
 refine ⟨f + Po.C c * g, fun j => ?_, h2.add (fun j hj => ?_), Po.dvd_add h3 (Po.dvd_mul_ofL k3 _)⟩
 ·rw [Vc.add_at, Vc.sc_at, Po.cf_add, Po.cf_C_mul, h1, k1]
 ·rw [Po.cf_C_mul, k2 j hj, Fd.mul_zero]
theorem CyW.sp {n : Nat} {d : Po K} {V : List (Vc K)} (h : ∀ r ∈ V, CyW n d r) {u : Vc K} (hu : Vc.SpL V u) : CyW n d u :=
 hu.lift (CyW.zero n d) fun u c r hu hr => hu.plus (h r hr) c
theorem CyW.eq {n : Nat} {d : Po K} {u : Vc K} {f : Po K} (h : CyW n d u) (hf : ∀ j, u j = Po.cf f j) : Po.Sh f n ∧ d ∣ f := by
 obtain ⟨g, h1, h2, h3⟩ := h
 have : g = f := Po.ext fun j => by rw [← h1, hf]
 exact this ▸ ⟨h2, h3⟩
theorem mem_getD {V : List (Vc K)} {r : Vc K} (h : r ∈ V) : ∃ i, i < V.length ∧ V.getD i 0 = r := by
 obtain ⟨i, hi, rfl⟩ := List.getElem_of_mem h
 exact ⟨i, hi, by rw [List.getD_eq_getElem?_getD, List.getElem?_eq_getElem hi]; rfl⟩
theorem getD_memV {V : List (Vc K)} {i : Nat} (h : i < V.length) : V.getD i 0 ∈ V := by
 rw [List.getD_eq_getElem?_getD, List.getElem?_eq_getElem h]; exact List.getElem_mem h
theorem span_shifts {n e : Nat} {d : Po K} (hd : Po.len d = e + 1) (hen : e ≤ n) {V : List (Vc K)} (hV : V.length = n - e) (hr : ∀ i, i < n - e → ∀ j, V.getD i 0 j = Po.cf (Po.mn 1 i * d) j) (u : Vc K) : Vc.SpL V u ↔ CyW n d u := by
 constructor
 ·refine CyW.sp fun r hr' => ?_
  obtain ⟨i, hi, rfl⟩ := mem_getD hr'
  refine ⟨Po.mn 1 i * d, hr i (by omega), ?_, Po.dvd_mulL d _⟩
  have := Po.Sh.mul (Po.mn_sh (1 : K) i) (hd ▸ Po.len_sh d)
  exact this.mono (by omega)
 ·rintro ⟨f, hu, hf, h, rfl⟩
  have hd0 : d ≠ 0 := Po.len_pos_iff.1 (by omega)
  have key : ∀ (k : Nat) (h : Po K), k ≤ n - e → Po.Sh h k → ∀ v : Vc K, (∀ j, v j = Po.cf (d * h) j) → Vc.SpL V v := by
   intro k
   induction k with
   | zero =>
    intro h _ hs v hv
    have h0 : h = 0 := Po.ext fun j => hs j (Nat.zero_le j)
    have : v = 0 := Vc.ext fun j => by rw [hv, h0, Rg.mul_zero]; rfl
    rw [this]; exact Vc.Sp.zero
   | succ k ih =>
    intro h hk hs v hv
    have hs' : Po.Sh (h - Po.mn (Po.cf h k) k) k := fun j hj => by
     rw [Po.cf_sub, Po.cf_mn]
     by_cases hjk : j = k
     ·rw [if_pos hjk, hjk, Rg.sub_self]
     ·rw [if_neg hjk, hs j (by omega), Rg.sub_self]
    have h1 := ih (h - Po.mn (Po.cf h k) k) (by omega) hs' (pv (d * (h - Po.mn (Po.cf h k) k))) (fun _ => rfl)
    have h2 := Vc.Sp.add (Po.cf h k) h1 (getD_memV (V := V) (i := k) (by omega))
    have : v = pv (d * (h - Po.mn (Po.cf h k) k)) + Vc.sc (Po.cf h k) (V.getD k 0) := Vc.ext fun j => by
     rw [Vc.add_at, Vc.sc_at, pv_at, hr k (by omega), hv, ← Po.cf_C_mul, ← Po.cf_add]
     congr 1
     have : Po.mn (Po.cf h k) k = Po.C (Po.cf h k) * Po.mn 1 k := by
      have := Po.mn_mul (Po.cf h k) 1 0 k
      rw [Rg.mul_one, Nat.zero_add] at this
      exact this.symm
     rw [this]
     grind
    rw [this]; exact h2
  refine key (n - e) h (Nat.le_refl _) (fun j hj => ?_) u hu
  by_cases h0 : h = 0
  ·rw [h0]; rfl
  ·refine Po.cf_ge (Nat.le_trans ?_ hj)
   have h1 := Po.len_mul hd0 h0
   have h2 := Po.len_le hf
   omega
end
section
end
section
end
end Go.Proofs.YtdkahdehodopoaaGreat

namespace Go.Proofs.YtdkahdehodopoaaGreat
open Go.RowKit
theorem Gd.nil (q : Int) (w : Nat) : Gd q w [] := fun r hr => by simp at hr
theorem Gd.app {q : Int} {w : Nat} {rs qs : List RowM} (h : Gd q w rs) (k : Gd q w qs) : Gd q w (rs ++ qs) := fun s hs => (List.mem_append.1 hs).elim (h s) (k s)
theorem xss_snoc (rs : List RowM) (r : RowM) : xss (rs ++ [r]) = xss rs ++ [r.xs] := by simp [xss]
theorem xss_getD (rs : List RowM) (j : Nat) : (xss rs).getD j [] = (rs.getD j rowD).xs := by
 rw [List.getD_eq_getElem?_getD, List.getD_eq_getElem?_getD, xss, List.getElem?_map]
 cases rs[j]? <;> rfl
theorem Gd.xss {q : Int} {w : Nat} {rs qs : List RowM} (h : Gd q w rs) (he : xss rs = xss qs) : Gd q w qs := Gd.of (rs := rs) (qs := qs) he.symm h
section
variable {p m : Int} {mod : List Int} [hF : IsF p m mod]
theorem vsR_xss (rs : List RowM) : (vsR rs : List (Vc (El p m mod))) = (xss rs).map rw' := by simp [vsR, xss]
theorem rw_inj2 {a b : List Int} (ha : AllIn (pw p m) a) (hb : AllIn (pw p m) b) (hl : a.length = b.length) (h : (rw' a : Vc (El p m mod)) = rw' b) : a = b := ext_getD hl fun j => by
 have hq := hF.q2
 exact el_inj (p := p) (m := m) (mod := mod) (ha.get (by omega) j) (hb.get (by omega) j) (congrFun h j)
theorem rows_inj {w : Nat} {rs qs : List RowM} (h1 : Gd (pw p m) w rs) (h2 : Gd (pw p m) w qs) (h : (vsR rs : List (Vc (El p m mod))) = vsR qs) : xss rs = xss qs := by
 have hl : rs.length = qs.length := by have := congrArg List.length h; simpa using this
 refine List.ext_getElem (by simpa using hl) fun j h3 h4 => ?_
 have h3' : j < rs.length := by simpa using h3
 have h4' : j < qs.length := by simpa using h4
 have e := congrArg (fun l => l.getD j 0) h
 simp only [vsR_get] at e
 have a := h1.get h3'
 have b := h2.get h4'
 have := rw_inj2 a.2 b.2 (a.1.trans b.1.symm) e
 rw [← xss_getD, ← xss_getD, List.getD_eq_getElem?_getD, List.getD_eq_getElem?_getD, List.getElem?_eq_getElem h3, List.getElem?_eq_getElem h4] at this
 exact this
end
structure CdOf (p m : Int) (mod : List Int) [hF : IsF p m mod] (w : Nat) (rs : List RowM) (W : Vc (El p m mod) → Prop) : Prop where
 good : Gd (pw p m) w rs
 form : ∃ qs, Vc.Rr w (vsR rs : List (Vc (El p m mod))) qs
 span : ∀ u, Vc.SpL (vsR rs : List (Vc (El p m mod))) u ↔ W u
section
variable {p m : Int} {mod : List Int} [hF : IsF p m mod] {w : Nat} {rs qs r3 : List RowM} {W W' : Vc (El p m mod) → Prop}
theorem CdOf.uniq (h : CdOf p m mod w rs W) (k : CdOf p m mod w qs W) : xss rs = xss qs := by
 obtain ⟨a, ha⟩ := h.form
 obtain ⟨b, hb⟩ := k.form
 exact rows_inj h.good k.good (ha.uniq hb fun u => (h.span u).trans (k.span u).symm).1
theorem CdOf.iff (h : CdOf p m mod w rs W) (hi : ∀ u, W u ↔ W' u) : CdOf p m mod w rs W' := ⟨h.good, h.form, fun u => (h.span u).trans (hi u)⟩
theorem CdOf.eq (h : CdOf p m mod w rs W) (k : CdOf p m mod w qs W') (hi : ∀ u, W u ↔ W' u) : xss rs = xss qs := (h.iff hi).uniq k
theorem RrOf.cd {ps : List Int} (h : RrOf p m mod w rs r3 ps) (hi : ∀ u, Vc.SpL (vsR rs) u ↔ W u) : CdOf p m mod w r3 W := by
 obtain ⟨qs, _, hq⟩ := h.form
 exact ⟨h.good, ⟨qs, hq⟩, fun u => (h.span u).trans (hi u)⟩
theorem CdOf.xss (h : CdOf p m mod w rs W) (he : xss rs = xss qs) : CdOf p m mod w qs W := by
 have hv : (vsR rs : List (Vc (El p m mod))) = vsR qs := by rw [vsR_xss, vsR_xss, he]
 refine ⟨h.good.xss he, ?_, fun u => ?_⟩
 ·rw [← hv]; exact h.form
 ·rw [← hv]; exact h.span u
theorem Rr_le {K : Type} [Fd K] {n : Nat} {R : List (Vc K)} {ps : List Nat} (h : Vc.Rr n R ps) : R.length ≤ n := by
 rw [← h.len]
 have key : ∀ k : Nat, k < ps.length → k ≤ ps.getD k 0 := by
  intro k
  induction k with
  | zero => intro _; omega
  | succ k ih => intro hk; have := ih (by omega); have := h.rise k (k + 1) (by omega) hk; omega
 rcases Nat.eq_zero_or_pos ps.length with h0 | h0
 ·omega
 ·have := key (ps.length - 1) (by omega); have := h.lt (ps.length - 1) (by omega); omega
theorem CdOf.le (h : CdOf p m mod w rs W) : rs.length ≤ w := by
 obtain ⟨a, ha⟩ := h.form
 have := Rr_le ha
 simpa using this
end
def formP (p m : Int) (mod : List Int) [hF : IsF p m mod] (w : Nat) (rs : List RowM) : Prop := ∃ qs, Vc.Rr w (vsR rs : List (Vc (El p m mod))) qs
section
variable {p m : Int} {mod : List Int} [hF : IsF p m mod] {w : Nat} {rs r3 : List RowM}
theorem RrOf.form_iff {ps : List Int} (h : RrOf p m mod w rs r3 ps) (hg : Gd (pw p m) w rs) : xss r3 = xss rs ↔ formP p m mod w rs := by
 obtain ⟨qs, _, hq⟩ := h.form
 constructor
 ·intro he
  refine ⟨qs, ?_⟩
  have hv : (vsR r3 : List (Vc (El p m mod))) = vsR rs := by rw [vsR_xss, vsR_xss, he]
  rw [← hv]; exact hq
 ·rintro ⟨q2, h2⟩
  exact rows_inj h.good hg (hq.uniq h2 h.span).1
theorem RrOf.piv {ps : List Int} (h : RrOf p m mod w rs r3 ps) (he : xss r3 = xss rs) : ∃ qs, ps = qs.map Int.ofNat ∧ Vc.Rr w (vsR rs : List (Vc (El p m mod))) qs := by
 obtain ⟨qs, h1, hq⟩ := h.form
 refine ⟨qs, h1, ?_⟩
 have hv : (vsR r3 : List (Vc (El p m mod))) = vsR rs := by rw [vsR_xss, vsR_xss, he]
 rw [← hv]; exact hq
end
open Classical in
noncomputable def codC (p m : Int) (mod : List Int) (n : Int) (rs : List RowM) : Int :=
 if h : FldR p m mod then if n < 1 ∨ n > 64 then 4 else if rowsC (pw p m) n (xss rs) ≠ 0 then rowsC (pw p m) n (xss rs) else if @formP p m mod ⟨h⟩ n.toNat rs then 0 else 5 else 1
theorem codC_no {p m : Int} {mod : List Int} (n : Int) (rs : List RowM) (h : ¬ FldR p m mod) : codC p m mod n rs = 1 := by unfold codC; rw [dif_neg h]
section
variable {p m : Int} {mod : List Int} [hF : IsF p m mod] {n : Int} {rs : List RowM}
theorem codC_ln (hb : n < 1 ∨ n > 64) : codC p m mod n rs = 4 := by unfold codC; rw [dif_pos hF.out, if_pos hb]
theorem codC_rw (hb : ¬ (n < 1 ∨ n > 64)) (h : rowsC (pw p m) n (xss rs) ≠ 0) : codC p m mod n rs = rowsC (pw p m) n (xss rs) := by unfold codC; rw [dif_pos hF.out, if_neg hb, if_pos h]
theorem codC_fm (hb : ¬ (n < 1 ∨ n > 64)) (h : rowsC (pw p m) n (xss rs) = 0) (hf : ¬ formP p m mod n.toNat rs) : codC p m mod n rs = 5 := by unfold codC; rw [dif_pos hF.out, if_neg hb, if_neg (by omega), if_neg hf]
theorem codC_ok (hb : ¬ (n < 1 ∨ n > 64)) (h : rowsC (pw p m) n (xss rs) = 0) (hf : formP p m mod n.toNat rs) : codC p m mod n rs = 0 := by unfold codC; rw [dif_pos hF.out, if_neg hb, if_neg (by omega), if_pos hf]
theorem rowsC_Gd (h : rowsC (pw p m) n (xss rs) = 0) : Gd (pw p m) n.toNat rs ∧ 0 ≤ n ∧ n ≤ 256 ∧ rs.length ≤ 256 := by
 obtain ⟨h1, h2, h3⟩ := rowsC_zero h
 rw [xss_length] at h1
 exact ⟨(Gd_iff h1.1).2 ⟨h2, h3⟩, h1.1, h1.2.1, by omega⟩
end
structure CodeOk (p m : Int) (mod : List Int) [hF : IsF p m mod] (n : Int) (rs : List RowM) : Prop where
 n1 : 1 ≤ n
 n64 : n ≤ 64
 row : rowsC (pw p m) n (xss rs) = 0
 good : Gd (pw p m) n.toNat rs
 form : formP p m mod n.toNat rs
theorem CodeOk.cd {p m : Int} {mod : List Int} [hF : IsF p m mod] {n : Int} {rs : List RowM} (h : CodeOk p m mod n rs) : CdOf p m mod n.toNat rs (Vc.SpL (vsR rs)) := ⟨h.good, h.form, fun _ => Iff.rfl⟩
theorem CodeOk.len {p m : Int} {mod : List Int} [hF : IsF p m mod] {n : Int} {rs : List RowM} (h : CodeOk p m mod n rs) : rs.length ≤ 64 := by have := h.cd.le; have := h.n64; omega
theorem CodeOk.zero {p m : Int} {mod : List Int} [hF : IsF p m mod] {n : Int} {rs : List RowM} (h : CodeOk p m mod n rs) : codC p m mod n rs = 0 := codC_ok (by have := h.n1; have := h.n64; omega) h.row h.form
theorem codC_zero {p m : Int} {mod : List Int} {n : Int} {rs : List RowM} (h : codC p m mod n rs = 0) : ∃ hF : FldR p m mod, @CodeOk p m mod ⟨hF⟩ n rs := by
 by_cases hF : FldR p m mod
 ·haveI : IsF p m mod := ⟨hF⟩
  refine ⟨hF, ?_⟩
  by_cases hb : n < 1 ∨ n > 64
  ·rw [codC_ln hb] at h; omega
  ·by_cases hr : rowsC (pw p m) n (xss rs) = 0
   ·by_cases hf : formP p m mod n.toNat rs
    ·exact ⟨by omega, by omega, hr, (rowsC_Gd hr).1, hf⟩
    ·rw [codC_fm hb hr hf] at h; omega
   ·rw [codC_rw hb hr] at h; omega
 ·rw [codC_no n rs hF] at h; omega
theorem CdOf.ok {p m : Int} {mod : List Int} [hF : IsF p m mod] {n : Int} {rs : List RowM} {W : Vc (El p m mod) → Prop} (h : CdOf p m mod n.toNat rs W) (h1 : 1 ≤ n) (h2 : n ≤ 64) : CodeOk p m mod n rs :=
 ⟨h1, h2, rowsC_ok (by rw [xss_length]; have := h.le; omega) ((Gd_iff (by omega)).1 h.good).1 ((Gd_iff (by omega)).1 h.good).2, h.good, h.form⟩
def shR (n : Nat) (gen : List Int) (k : Nat) : List Int := (List.replicate n 0).take k ++ gen.take (min gen.length (n - k)) ++ (List.replicate n 0).drop (k + min gen.length (n - k))
theorem shR_def (n : Nat) (gen : List Int) (k : Nat) : (List.replicate n 0).take k ++ gen.take (min gen.length (n - k)) ++ (List.replicate n 0).drop (k + min gen.length (n - k)) = shR n gen k := rfl
theorem shR_eq {n k : Nat} {gen : List Int} (h : k + gen.length ≤ n) : shR n gen k = List.replicate k 0 ++ gen ++ List.replicate (n - (k + gen.length)) 0 := by
 unfold shR
 rw [show min gen.length (n - k) = gen.length by omega, List.take_length, List.take_replicate, List.drop_replicate, show min k n = k by omega]
theorem shR_length {n k : Nat} {gen : List Int} (h : k + gen.length ≤ n) : (shR n gen k).length = n := by rw [shR_eq h]; simp; omega
theorem shR_in {q : Int} (hq : 1 ≤ q) {n k : Nat} {gen : List Int} (h : k + gen.length ≤ n) (hg : AllIn q gen) : AllIn q (shR n gen k) := fun c hc => by
 rw [shR_eq h] at hc
 rcases List.mem_append.1 hc with hc | hc
 ·rcases List.mem_append.1 hc with hc | hc
  ·rw [List.eq_of_mem_replicate hc]; omega
  ·exact hg c hc
 ·rw [List.eq_of_mem_replicate hc]; omega
theorem shR_getD {n k : Nat} {gen : List Int} (h : k + gen.length ≤ n) (j : Nat) : (shR n gen k).getD j 0 = if j < k then 0 else gen.getD (j - k) 0 := by
 rw [shR_eq h, List.getD_eq_getElem?_getD, List.getD_eq_getElem?_getD]
 by_cases h1 : j < k
 ·rw [if_pos h1, List.append_assoc, List.getElem?_append_left (by simpa using h1)]
  simp [h1]
 ·rw [if_neg h1, List.append_assoc, List.getElem?_append_right (by simp; omega), List.length_replicate]
  by_cases h2 : j - k < gen.length
  ·rw [List.getElem?_append_left h2]
  ·rw [List.getElem?_append_right (by omega), List.getElem?_eq_none (l := gen) (by omega), List.getElem?_replicate]
   split <;> rfl
section
variable {p m : Int} {mod : List Int} [hF : IsF p m mod]
theorem shR_cf {n k : Nat} {d : Po (El p m mod)} (h : k + (il d).length ≤ n) (j : Nat) : (rw' (shR n (il d) k) : Vc (El p m mod)) j = Po.cf (Po.mn 1 k * d) j := by
 rw [rw_at, shR_getD h, Po.cf_mn_mul]
 split
 ·exact el_zero
 ·rw [il_getD, el_of, Rg.one_mul]
end
end Go.Proofs.YtdkahdehodopoaaGreat

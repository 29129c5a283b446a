/-
  BCHZEROS, PART 7 OF 10. One sentence: the texts behind the law BchZeros, put together.
  Conditions: each theorem's own, written out in it.
-/
import Derived.Test.YtjmojhflnjbgaaaK6
set_option linter.unusedSimpArgs false
set_option linter.unusedVariables false
set_option linter.unusedSectionVars false
set_option linter.unusedSimpArgs false
set_option linter.unusedVariables false
set_option maxRecDepth 100000
namespace Go.Proofs.Ytjmojhflnjbgaaa
open Go.RowKit

theorem ref_PEval_ent : Enters Try.prog 159 := enters_of Try.func159 (by kernel_rfl) (by kernel_rfl)
theorem ref_PEval (p m : Int) (A : Option Addr) (c : Nat) (mod : List Int) [hF : IsF p m mod] (X : Option Addr) (nx cx : Nat) (ls : List Int) (hnx : nx = ls.length) (h9 : ls.length ≤ 1000000) (x : Int) :
    Pure Try.prog 159 #[.agg #[.int .i64 p, .int .i64 m, .slice A mod.length c], .slice X nx cx, .int .i64 x] [ro A (ints mod), ro X (ints ls)] (isV (.int .i64 (Po.val (pol ls : Po (El p m mod)) (el x)).1)) := by
  refine pure_of (args := [.agg #[.int .i64 p, .int .i64 m, .slice A mod.length c], .slice X nx cx, .int .i64 x]) 31 Try.func159 rfl rfl rfl ref_PEval_ent ⟨id, id, trivial⟩ (fun w0 => ?_)
  refine tr_seq ?_
  refine tr_region fun _ _ _ => ?_
  refine ef rfl rfl (eBox rfl rfl rfl rfl rfl (fun p0 => ?_)) 
  refine pu rfl rfl rfl rfl rfl ?_
  refine tr_seq ?_
  refine tr_region fun _ _ _ => ?_
  refine pu rfl rfl rfl rfl rfl ?_
  refine tr_seq ?_
  refine tr_region fun _ _ _ => ?_
  refine pu rfl rfl rfl rfl rfl ?_
  refine tr_seq ?_
  refine tr_seq ?_
  refine tr_region fun _ _ _ => ?_
  refine pu rfl rfl rfl rfl rfl ?_
  refine tr_block ?_
  refine tr_loop3 (fun (i : Int) (y : Int) (z : Int) => [(7, .int .i64 y), (8, .int .i64 z), (9, .int .i64 i), (1, .slice X nx cx), (2, .int .i64 x), (3, .pointer (some p0)), (6, .int .i64 0)]) (fun (i : Int) (y : Int) (z : Int) => [blk p0 36 [.int .i64 p, .int .i64 m, .slice A mod.length c], ro A (ints mod), ro X (ints ls)]) (fun (i : Int) (y : Int) (z : Int) => (0 ≤ i ∧ i ≤ nx) ∧ y = (Rg.sm i.toNat fun j => (el (ls.getD j 0) * Rg.pow (el x) j : El p m mod)).1 ∧ z = (Rg.pow (el x) i.toNat : El p m mod).1) (fun (i : Int) (y : Int) (z : Int) => (nx - i).toNat) (0) (0) (1) ⟨rfl, rfl, rfl, rfl, rfl, rfl, rfl, trivial⟩ (by first | exact cs _ _ | exact CSub.refl _) (⟨⟨by omega, by omega⟩, rfl, rfl⟩) (fun i y z hI => ?_)
  obtain ⟨⟨hi0, hi1⟩, hy, hz⟩ := hI
  refine tr_seq ?_
  refine tr_seq ?_
  refine tr_region fun _ _ _ => ?_
  iterate 2 refine pu rfl rfl rfl rfl rfl ?_
  refine st rfl rfl rfl rfl (rLen rfl rfl) ?_
  refine pu rfl rfl rfl rfl rfl ?_
  refine tr_cond_bool rfl (fun h4 => ?_) (fun h4 => ?_)
  · try simp only [zb1, zb2, zb3, zb4, zb5, zb6, zb7, zb8, zb9, zb10] at h4
    refine tr_skip ?_
    refine tr_seq ?_
    refine tr_block ?_
    refine tr_seq ?_
    refine tr_draw [0, 1, 2, 3, 4, 5, 6, 7, 8, 9, 10] [] mixed (by kernel_rfl) fun _ _ _ => ?_
    refine st rfl rfl rfl rfl (rLdS rfl rfl rfl) ?_
    refine pu rfl rfl rfl rfl rfl ?_
    refine st rfl rfl rfl rfl (rLdS rfl rfl rfl) ?_
    iterate 2 refine pu rfl rfl rfl rfl rfl ?_
    refine st rfl rfl rfl rfl (rIdxI rfl rfl rfl (by omega) (by omega) (by omega)) ?_
    refine st rfl rfl rfl rfl (rLdI rfl rfl (by omega)) ?_
    refine pu rfl rfl rfl rfl rfl ?_
    refine ef rfl rfl (eCallV rfl rfl rfl (ref_MulE _ _ _ _ _ _ _) ⟨rfl, rfl, rfl, trivial⟩ ?_) 
    refine ef rfl rfl (eCallV rfl rfl rfl (ref_AddE _ _ _ _ _ _ _) ⟨rfl, rfl, rfl, trivial⟩ ?_) 
    refine pu rfl rfl rfl rfl rfl ?_
    refine tr_region fun _ _ _ => ?_
    refine st rfl rfl rfl rfl (rLdS rfl rfl rfl) ?_
    iterate 2 refine pu rfl rfl rfl rfl rfl ?_
    refine ef rfl rfl (eCallV rfl rfl rfl (ref_MulE _ _ _ _ _ _ _) ⟨rfl, rfl, rfl, trivial⟩ ?_) 
    refine pu rfl rfl rfl rfl rfl ?_
    refine tr_region fun _ _ _ => ?_
    refine pu rfl rfl rfl rfl rfl ?_
    refine st rfl rfl rfl rfl (rAdd rfl rfl rfl (by omega) (by omega)) ?_
    refine pu rfl rfl rfl rfl rfl ?_
    refine ⟨i + 1, (el y + el (el (ls.getD i.toNat 0) * el z : El p m mod).1 : El p m mod).1, (el z * el x : El p m mod).1, ⟨rfl, rfl, rfl, rfl, rfl, rfl, rfl, trivial⟩, by first | exact cs _ _ | exact CSub.refl _, ?_⟩
    have hi2 : (i + 1).toNat = i.toNat + 1 := by omega
    refine ⟨⟨⟨by omega, by omega⟩, ?_, ?_⟩, by omega⟩
    · rw [hi2, Rg.sm_succ, hy, hz, el_of, el_of, el_of]
    · rw [hi2, Rg.pow_succ, hz, el_of]
  · try simp only [zb1, zb2, zb3, zb4, zb5, zb6, zb7, zb8, zb9, zb10] at h4
    refine tr_exit ?_
    refine tr_seq ?_
    refine tr_region fun _ _ _ => ?_
    iterate 2 refine pu rfl rfl rfl rfl rfl ?_
    have hi : i.toNat = ls.length := by omega
    rw [hi] at hy
    exact tr_ret ⟨trivial, _, _, rfl, ⟨by rw [hy, val_sum], rfl⟩, CSub.nil _, trivial⟩

theorem ref_PowE_ent : Enters Try.prog 160 := enters_of Try.func160 (by kernel_rfl) (by kernel_rfl)
theorem ref_PowE (p m : Int) (A : Option Addr) (c : Nat) (mod : List Int) [hF : IsF p m mod] (x k : Int) (hk : 0 ≤ k) (hk9 : k ≤ 1000000) :
    Pure Try.prog 160 #[.agg #[.int .i64 p, .int .i64 m, .slice A mod.length c], .int .i64 x, .int .i64 k] [ro A (ints mod)] (isV (.tuple #[.int .i64 (Rg.pow (el x : El p m mod) k.toNat).1, .int .i64 0])) := by
  have hor := hF.ord
  have hq2 := hF.q2
  have hq9 := hF.out.1.1.q
  have hix : (el x : El p m mod).1 = inI (ordI p m) x := by rw [hor]; rfl
  refine pure_of (args := [.agg #[.int .i64 p, .int .i64 m, .slice A mod.length c], .int .i64 x, .int .i64 k]) 44 Try.func160 rfl rfl rfl ref_PowE_ent ⟨id, trivial⟩ (fun w0 => ?_)
  refine tr_seq ?_
  refine tr_region fun _ _ _ => ?_
  refine ef rfl rfl (eBox rfl rfl rfl rfl rfl (fun p0 => ?_)) 
  iterate 2 refine pu rfl rfl rfl rfl rfl ?_
  refine tr_seq ?_
  refine tr_region fun _ _ _ => ?_
  refine st rfl rfl rfl rfl (rLdS rfl rfl rfl) ?_
  refine pu rfl rfl rfl rfl rfl ?_
  refine ef rfl rfl (eCallV rfl rfl rfl (ref_In _ _ _ _ _ _) ⟨rfl, rfl, trivial⟩ ?_) 
  refine pu rfl rfl rfl rfl rfl ?_
  refine tr_seq ?_
  refine tr_seq ?_
  refine tr_region fun _ _ _ => ?_
  iterate 2 refine pu rfl rfl rfl rfl rfl ?_
  refine tr_cond_bool rfl (fun h2 => ?_) (fun h2 => ?_)
  · try simp only [zb1, zb2, zb3, zb4, zb5, zb6, zb7, zb8, zb9, zb10] at h2
    refine tr_seq ?_
    refine tr_region fun _ _ _ => ?_
    iterate 2 refine pu rfl rfl rfl rfl rfl ?_
    exact tr_ret ⟨trivial, _, _, rfl, ⟨by rw [show k.toNat = 0 by omega]; rfl, rfl⟩, CSub.nil _, trivial⟩
  · try simp only [zb1, zb2, zb3, zb4, zb5, zb6, zb7, zb8, zb9, zb10] at h2
    refine tr_skip ?_
    refine tr_seq ?_
    refine tr_seq ?_
    refine tr_region fun _ _ _ => ?_
    iterate 3 refine pu rfl rfl rfl rfl rfl ?_
    refine stg rfl rfl rfl rfl rfl (fun hb => by (have hq := hb; try simp only [zb1, zb2, zb3, zb4, zb5, zb6, zb7, zb8, zb9, zb10] at hq); exact rMove rfl rfl) ?_
    refine stg rfl rfl rfl rfl rfl (fun hb => by (have hq := hb; try simp only [zb1, zb2, zb3, zb4, zb5, zb6, zb7, zb8, zb9, zb10] at hq); exact rLss rfl (evg rfl hb) rfl) ?_
    refine st rfl rfl rfl rfl (rAndB rfl rfl rfl rfl) ?_
    refine tr_cond_bool rfl (fun h4 => ?_) (fun h4 => ?_)
    · try simp only [zb1, zb2, zb3, zb4, zb5, zb6, zb7, zb8, zb9, zb10] at h4
      refine tr_seq ?_
      refine tr_region fun _ _ _ => ?_
      iterate 2 refine pu rfl rfl rfl rfl rfl ?_
      omega
    · try simp only [zb1, zb2, zb3, zb4, zb5, zb6, zb7, zb8, zb9, zb10] at h4
      refine tr_skip ?_
      refine tr_seq ?_
      refine tr_seq ?_
      refine tr_region fun _ _ _ => ?_
      iterate 2 refine pu rfl rfl rfl rfl rfl ?_
      refine tr_cond_bool rfl (fun h6 => ?_) (fun h6 => ?_)
      · try simp only [zb1, zb2, zb3, zb4, zb5, zb6, zb7, zb8, zb9, zb10] at h6
        refine tr_seq ?_
        refine tr_region fun _ _ _ => ?_
        iterate 2 refine pu rfl rfl rfl rfl rfl ?_
        exact tr_ret ⟨trivial, _, _, rfl, ⟨by
          have hx0 : (el x : El p m mod) = 0 := (val_zero_iff (el x : El p m mod)).1 (by omega)
          rw [hx0, Rg.zero_pow (by omega)]; rfl, rfl⟩, CSub.nil _, trivial⟩
      · try simp only [zb1, zb2, zb3, zb4, zb5, zb6, zb7, zb8, zb9, zb10] at h6
        refine tr_skip ?_
        refine tr_seq ?_
        have hx0 : (el x : El p m mod) ≠ 0 := fun e => by
          have := (val_zero_iff (el x : El p m mod)).2 e
          omega
        have e0 := Int.emod_nonneg k (show ordI p m - 1 ≠ 0 by omega)
        have e1 := Int.emod_lt_of_pos k (show 0 < ordI p m - 1 by omega)
        refine tr_region fun _ _ _ => ?_
        refine st rfl rfl rfl rfl (rLdS rfl rfl rfl) ?_
        refine ef rfl rfl (eCallV rfl rfl rfl (ref_order _ _ _ _ _) ⟨rfl, trivial⟩ ?_) 
        refine st rfl rfl rfl rfl (rSub rfl rfl rfl (by omega) (by omega)) ?_
        refine pu rfl rfl rfl rfl rfl ?_
        refine tr_seq ?_
        refine tr_region fun _ _ _ => ?_
        iterate 2 refine pu rfl rfl rfl rfl rfl ?_
        refine st rfl rfl rfl rfl (rRem rfl rfl rfl (by omega) (by omega)) ?_
        refine pu rfl rfl rfl rfl rfl ?_
        refine st rfl rfl rfl rfl (rAdd rfl rfl rfl (by omega) (by omega)) ?_
        refine pu rfl rfl rfl rfl rfl ?_
        refine st rfl rfl rfl rfl (rRem rfl rfl rfl (by omega) (by omega)) ?_
        refine pu rfl rfl rfl rfl rfl ?_
        refine tr_seq ?_
        have e2 : (k % (ordI p m - 1) + (ordI p m - 1)) % (ordI p m - 1) = k % (ordI p m - 1) := by rw [Int.add_emod_right, Int.emod_emod_of_dvd _ (Int.dvd_refl _)]
        rw [e2]
        refine tr_region fun _ _ _ => ?_
        refine pu rfl rfl rfl rfl rfl ?_
        refine tr_seq ?_
        refine tr_seq ?_
        refine tr_region fun _ _ _ => ?_
        refine pu rfl rfl rfl rfl rfl ?_
        refine tr_block ?_
        refine tr_loop2 (fun (i : Int) (y : Int) => [(9, .int .i64 y), (10, .int .i64 i), (1, .int .i64 (inI (ordI p m) x)), (2, .int .i64 (k % (ordI p m - 1))), (3, .pointer (some p0)), (6, .int .i64 0), (7, .int .i64 0)]) (fun (i : Int) (y : Int) => [blk p0 36 [.int .i64 p, .int .i64 m, .slice A mod.length c], ro A (ints mod)]) (fun (i : Int) (y : Int) => (0 ≤ i ∧ i ≤ k % (ordI p m - 1)) ∧ y = (Rg.pow (el x) i.toNat : El p m mod).1) (fun (i : Int) (y : Int) => (k % (ordI p m - 1) - i).toNat) (0) (1) ⟨rfl, rfl, rfl, rfl, rfl, rfl, rfl, trivial⟩ (by first | exact cs _ _ | exact CSub.refl _) (⟨⟨by omega, by omega⟩, rfl⟩) (fun i y hI => ?_)
        obtain ⟨⟨hi0, hi1⟩, hy⟩ := hI
        refine tr_seq ?_
        refine tr_seq ?_
        refine tr_region fun _ _ _ => ?_
        iterate 3 refine pu rfl rfl rfl rfl rfl ?_
        refine tr_cond_bool rfl (fun h12 => ?_) (fun h12 => ?_)
        · try simp only [zb1, zb2, zb3, zb4, zb5, zb6, zb7, zb8, zb9, zb10] at h12
          refine tr_skip ?_
          refine tr_seq ?_
          refine tr_block ?_
          refine tr_region fun _ _ _ => ?_
          refine st rfl rfl rfl rfl (rLdS rfl rfl rfl) ?_
          iterate 2 refine pu rfl rfl rfl rfl rfl ?_
          refine ef rfl rfl (eCallV rfl rfl rfl (ref_MulE _ _ _ _ _ _ _) ⟨rfl, rfl, rfl, trivial⟩ ?_) 
          refine pu rfl rfl rfl rfl rfl ?_
          refine tr_region fun _ _ _ => ?_
          refine pu rfl rfl rfl rfl rfl ?_
          refine st rfl rfl rfl rfl (rAdd rfl rfl rfl (by omega) (by omega)) ?_
          refine pu rfl rfl rfl rfl rfl ?_
          refine ⟨i + 1, (el y * el (inI (ordI p m) x) : El p m mod).1, ⟨rfl, rfl, rfl, rfl, rfl, rfl, rfl, trivial⟩, by first | exact cs _ _ | exact CSub.refl _, ?_⟩
          refine ⟨⟨⟨by omega, by omega⟩, ?_⟩, by omega⟩
          rw [show (i + 1).toNat = i.toNat + 1 by omega, Rg.pow_succ, hy, el_of, ← hix, el_of]
        · try simp only [zb1, zb2, zb3, zb4, zb5, zb6, zb7, zb8, zb9, zb10] at h12
          refine tr_exit ?_
          refine tr_seq ?_
          refine tr_region fun _ _ _ => ?_
          iterate 3 refine pu rfl rfl rfl rfl rfl ?_
          have hi : i.toNat = k.toNat % (pw p m - 1).toNat := by
            have h1 : i = k % (ordI p m - 1) := by omega
            rw [h1, hor]
            obtain ⟨b, hb⟩ := Int.eq_ofNat_of_zero_le hk
            obtain ⟨c, hc⟩ := Int.eq_ofNat_of_zero_le (show 0 ≤ pw p m - 1 by omega)
            rw [hb, hc, ← Int.natCast_emod]
            simp only [Int.toNat_natCast]
          rw [hi, pow_rem hx0] at hy
          exact tr_ret ⟨trivial, _, _, rfl, ⟨by rw [hy], rfl⟩, CSub.nil _, trivial⟩

theorem ref_DigitsE (p m : Int) (A : Option Addr) (c : Nat) (mod : List Int) [hF : IsF p m mod] (x : Int) (hx : 0 ≤ x ∧ x < pw p m) : Pure Try.prog 140 #[.agg #[.int .i64 p, .int .i64 m, .slice A mod.length c], .int .i64 x] [ro A (ints mod)] (one (fun v ch => ∃ B, v = .slice B m.toNat m.toNat ∧ ch = ow B 3 m.toNat (ints (digs p m.toNat x)))) := by
  have h := ref_Digits p m A c mod hF.out.1.1 x
  rw [inI_in hx.1 (by rw [hF.ord]; exact hx.2)] at h
  exact h

theorem ref_Emb1_ent : Enters Try.prog 115 := enters_of Try.func115 (by kernel_rfl) (by kernel_rfl)
theorem ref_Emb1 (p m : Int) (A : Option Addr) (c : Nat) (mod : List Int) [hF : IsF p m mod] (m2 : Int) (Ae : Option Addr) (ce : Nat) (mod2 : List Int) [hE : IsF p m2 mod2] (hd : m2 % m = 0) (hm : m = 1) :
    Pure Try.prog 115 #[.agg #[.int .i64 p, .int .i64 m, .slice A mod.length c], .agg #[.int .i64 p, .int .i64 m2, .slice Ae mod2.length ce]] [ro A (ints mod), ro Ae (ints mod2)] (one (fun v ch => ∃ B, v = .slice B (imL p m2 mod2 m (embR p m2 mod2 m mod)).length (imL p m2 mod2 m (embR p m2 mod2 m mod)).length ∧ ch = ow B 3 (imL p m2 mod2 m (embR p m2 mod2 m mod)).length (ints (imL p m2 mod2 m (embR p m2 mod2 m mod))))) := by
  have hl8 := hF.short
  have hm1 := hF.m1
  have hq2 := hF.q2
  have hor := hF.ord
  have hq9 := hF.out.1.1.q
  have hm8 := hF.out.1.1.m8
  have hrt : IsRt p m2 mod2 m mod 0 := ⟨by omega, by have := hE.q2; omega, fun _ => rfl, fun h => by omega, fun h => by omega⟩
  have hre := hrt.eq hm1
  refine pure_of (args := [.agg #[.int .i64 p, .int .i64 m, .slice A mod.length c], .agg #[.int .i64 p, .int .i64 m2, .slice Ae mod2.length ce]]) 47 Try.func115 rfl rfl rfl ref_Emb1_ent ⟨id, id, trivial⟩ (fun w0 => ?_)
  refine tr_seq ?_
  refine tr_region fun _ _ _ => ?_
  refine ef rfl rfl (eBox rfl rfl rfl rfl rfl (fun p0 => ?_)) 
  refine ef rfl rfl (eBox rfl rfl rfl rfl rfl (fun p0a => ?_)) 
  refine pu rfl rfl rfl rfl rfl ?_
  refine tr_seq ?_
  refine tr_region fun _ _ _ => ?_
  refine st rfl rfl rfl rfl (rLdS rfl rfl rfl) ?_
  refine ef rfl rfl (eCallV rfl rfl rfl (ref_order _ _ _ _ _) ⟨rfl, trivial⟩ ?_) 
  refine pu rfl rfl rfl rfl rfl ?_
  refine tr_seq ?_
  refine tr_region fun _ _ _ => ?_
  refine pu rfl rfl rfl rfl rfl ?_
  refine ef rfl rfl (eMakeI rfl rfl rfl rfl rfl (by omega) (by omega) (by omega) (fun A2 => ?_)) 
  refine pu rfl rfl rfl rfl rfl ?_
  rw [hor]
  refine tr_seq ?_
  refine tr_region fun _ _ _ => ?_
  refine ef rfl rfl (eLit0I rfl rfl rfl  (fun A3 => ?_)) 
  refine st rfl rfl rfl rfl (rFld rfl rfl) ?_
  refine st rfl rfl rfl rfl (rLdF rfl rfl rfl) ?_
  refine ef rfl rfl (eAppI rfl rfl rfl rfl rfl (by first | rfl | simp | omega) (by first | rfl | simp | omega) (by first | omega | (simp; omega)) (fun A3a c3a => ?_)) 
  refine ef rfl rfl (eLit1I rfl rfl rfl rfl (fun A3b => ?_)) 
  refine ef rfl rfl (eAppI rfl rfl rfl rfl rfl (by first | rfl | simp | omega) (by first | rfl | simp | omega) (by first | omega | (simp; omega)) (fun A3c c3c => ?_)) 
  refine pu rfl rfl rfl rfl rfl ?_
  simp only [List.nil_append]
  refine tr_seq ?_
  refine tr_region fun _ _ _ => ?_
  refine pu rfl rfl rfl rfl rfl ?_
  refine tr_seq ?_
  refine tr_block ?_
  refine tr_loop1 (fun (r : Int) => [(8, .int .i64 r), (5, .int .i64 (pw p m)), (6, .slice A2 (pw p m).toNat (pw p m).toNat), (7, .slice A3c (mod ++ [1]).length c3c), (2, .pointer (some p0)), (3, .pointer (some p0a)), (4, .slice none 0 0)]) (fun (r : Int) => [ow A2 3 (pw p m).toNat (ints (List.replicate (pw p m).toNat 0)), ow A3c 3 c3c (ints (mod ++ [1])), blk p0 36 [.int .i64 p, .int .i64 m, .slice A mod.length c], blk p0a 36 [.int .i64 p, .int .i64 m2, .slice Ae mod2.length ce], ro A (ints mod), ro Ae (ints mod2)]) (fun (r : Int) => r = embR p m2 mod2 m mod) (fun (r : Int) => 0) (0) ⟨rfl, rfl, rfl, rfl, rfl, rfl, rfl, trivial⟩ (by first | exact cs _ _ | exact CSub.refl _) (hre.symm) (fun r hI => ?_)
  refine tr_seq ?_
  refine tr_seq ?_
  refine tr_region fun _ _ _ => ?_
  refine st rfl rfl rfl rfl (rFld rfl rfl) ?_
  refine st rfl rfl rfl rfl (rLdF rfl rfl rfl) ?_
  iterate 2 refine pu rfl rfl rfl rfl rfl ?_
  refine skF rfl rfl (by simp <;> omega) rfl rfl ?_
  refine skF rfl rfl (by simp <;> omega) rfl rfl ?_
  refine skF rfl rfl (by simp <;> omega) rfl rfl ?_
  refine skF rfl rfl (by simp <;> omega) rfl rfl ?_
  refine skF rfl rfl (by simp <;> omega) rfl rfl ?_
  refine st rfl rfl rfl rfl (rPick0 rfl rfl (by simp <;> omega) rfl) ?_
  refine tr_cond_bool rfl (fun h5 => ?_) (fun h5 => ?_)
  · try simp only [zb1, zb2, zb3, zb4, zb5, zb6, zb7, zb8, zb9, zb10] at h5
    first | exact absurd trivial h5 | exact absurd rfl h5 | omega | (exact absurd h5 (by simp)) --done
  · try simp only [zb1, zb2, zb3, zb4, zb5, zb6, zb7, zb8, zb9, zb10] at h5
    refine tr_exit ?_
    refine tr_seq ?_
    refine tr_seq ?_
    subst hI
    refine tr_region fun _ _ _ => ?_
    refine pu rfl rfl rfl rfl rfl ?_
    refine tr_block ?_
    refine tr_loop2 (fun (x : Int) (o : List Int) => [(6, .slice A2 (pw p m).toNat (pw p m).toNat), (9, .int .i64 x), (5, .int .i64 (pw p m)), (8, .int .i64 (embR p m2 mod2 m mod)), (2, .pointer (some p0)), (3, .pointer (some p0a)), (4, .slice none 0 0)]) (fun (x : Int) (o : List Int) => [ow A2 3 (pw p m).toNat (ints o), blk p0 36 [.int .i64 p, .int .i64 m, .slice A mod.length c], blk p0a 36 [.int .i64 p, .int .i64 m2, .slice Ae mod2.length ce], ro A (ints mod), ro Ae (ints mod2)]) (fun (x : Int) (o : List Int) => (0 ≤ x ∧ x ≤ pw p m) ∧ o.length = (pw p m).toNat ∧ ∀ j : Nat, (j : Int) < x → o.getD j 0 = (Po.val (pol (digs p m.toNat j) : Po (El p m2 mod2)) (el (embR p m2 mod2 m mod))).1) (fun (x : Int) (o : List Int) => (pw p m - x).toNat) (0) (List.replicate (pw p m).toNat 0) ⟨rfl, rfl, rfl, rfl, rfl, rfl, rfl, trivial⟩ (by first | exact cs _ _ | exact CSub.refl _) (⟨⟨by omega, by omega⟩, by simp, fun j hj => by omega⟩) (fun x o hI => ?_)
    obtain ⟨⟨hx0, hx1⟩, hol, ho⟩ := hI
    refine tr_seq ?_
    refine tr_seq ?_
    refine tr_region fun _ _ _ => ?_
    iterate 3 refine pu rfl rfl rfl rfl rfl ?_
    refine tr_cond_bool rfl (fun h8 => ?_) (fun h8 => ?_)
    · try simp only [zb1, zb2, zb3, zb4, zb5, zb6, zb7, zb8, zb9, zb10] at h8
      refine tr_skip ?_
      refine tr_seq ?_
      refine tr_block ?_
      refine tr_draw [0, 1, 2, 3, 4, 6, 5, 7, 8] [9] mixed (by kernel_rfl) fun _ _ _ => ?_
      iterate 2 refine pu rfl rfl rfl rfl rfl ?_
      refine st rfl rfl rfl rfl (rLdS rfl rfl rfl) ?_
      refine st rfl rfl rfl rfl (rLdS rfl rfl rfl) ?_
      iterate 2 refine pu rfl rfl rfl rfl rfl ?_
      refine ef rfl rfl (eCall1 rfl rfl rfl (ref_DigitsE p m A c mod x ⟨by omega, by omega⟩) ⟨rfl, rfl, trivial⟩ ?_) 
      rintro _ _ ⟨Bd, rfl, rfl⟩
      refine ef rfl rfl (eCallV rfl rfl rfl (ref_PEval p m2 Ae ce mod2 Bd _ _ (digs p m.toNat x) (digs_len _ _ _).symm (by rw [digs_len]; omega) (embR p m2 mod2 m mod)) ⟨rfl, rfl, rfl, trivial⟩ ?_) 
      refine st rfl rfl rfl rfl (rIdxI rfl rfl rfl (by omega) (by omega) (by omega)) ?_
      refine ef rfl rfl (eStI rfl rfl rfl rfl (by omega) ?_) 
      refine tr_region fun _ _ _ => ?_
      refine pu rfl rfl rfl rfl rfl ?_
      refine st rfl rfl rfl rfl (rAdd rfl rfl rfl (by omega) (by omega)) ?_
      refine pu rfl rfl rfl rfl rfl ?_
      refine ⟨x + 1, o.set x.toNat (Po.val (pol (digs p m.toNat x) : Po (El p m2 mod2)) (el (embR p m2 mod2 m mod))).1, ⟨rfl, rfl, rfl, rfl, rfl, rfl, rfl, trivial⟩, by first | exact cs _ _ | exact CSub.refl _, ?_⟩
      refine ⟨⟨⟨by omega, by omega⟩, by simpa using hol, fun j hj => ?_⟩, by omega⟩
      rw [getD_set]
      by_cases he : x.toNat = j
      · subst he; rw [if_pos ⟨rfl, by omega⟩, Int.toNat_of_nonneg hx0]
      · rw [if_neg (fun e => he e.1)]; exact ho j (by omega)
    · try simp only [zb1, zb2, zb3, zb4, zb5, zb6, zb7, zb8, zb9, zb10] at h8
      refine tr_exit ?_
      refine tr_seq ?_
      refine tr_region fun _ _ _ => ?_
      iterate 2 refine pu rfl rfl rfl rfl rfl ?_
      have hfin : o = (imL p m2 mod2 m (embR p m2 mod2 m mod)) := ext_getD (by rw [imL_length]; exact hol) fun j => by
        by_cases hj : j < (pw p m).toNat
        · rw [imL_get _ _ hj]; exact ho j (by omega)
        · rw [getD_out (by omega), getD_out (by rw [imL_length]; omega)]
      have hol2 : (pw p m).toNat = (imL p m2 mod2 m (embR p m2 mod2 m mod)).length := (imL_length _ _).symm
      exact tr_ret ⟨trivial, _, _, rfl, ⟨_, rfl, A2, by rw [hol2], by rw [← hfin, hol]⟩, cs _ _, trivial, trivial⟩

theorem ref_Emb2_ent : Enters Try.prog 115 := enters_of Try.func115 (by kernel_rfl) (by kernel_rfl)
theorem ref_Emb2 (p m : Int) (A : Option Addr) (c : Nat) (mod : List Int) [hF : IsF p m mod] (m2 : Int) (Ae : Option Addr) (ce : Nat) (mod2 : List Int) [hE : IsF p m2 mod2] (hd : m2 % m = 0) (hm : 2 ≤ m) (hrt : IsRt p m2 mod2 m mod (embR p m2 mod2 m mod)) :
    Pure Try.prog 115 #[.agg #[.int .i64 p, .int .i64 m, .slice A mod.length c], .agg #[.int .i64 p, .int .i64 m2, .slice Ae mod2.length ce]] [ro A (ints mod), ro Ae (ints mod2)] (one (fun v ch => ∃ B, v = .slice B (imL p m2 mod2 m (embR p m2 mod2 m mod)).length (imL p m2 mod2 m (embR p m2 mod2 m mod)).length ∧ ch = ow B 3 (imL p m2 mod2 m (embR p m2 mod2 m mod)).length (ints (imL p m2 mod2 m (embR p m2 mod2 m mod))))) := by
  have hl8 := hF.short
  have hm1 := hF.m1
  have hq2 := hF.q2
  have hor := hF.ord
  have hq9 := hF.out.1.1.q
  have hm8 := hF.out.1.1.m8
  have hlo := hrt.lo
  have hq29 := hE.out.1.1.q
  have hhi := hrt.hi
  refine pure_of (args := [.agg #[.int .i64 p, .int .i64 m, .slice A mod.length c], .agg #[.int .i64 p, .int .i64 m2, .slice Ae mod2.length ce]]) 47 Try.func115 rfl rfl rfl ref_Emb2_ent ⟨id, id, trivial⟩ (fun w0 => ?_)
  refine tr_seq ?_
  refine tr_region fun _ _ _ => ?_
  refine ef rfl rfl (eBox rfl rfl rfl rfl rfl (fun p0 => ?_)) 
  refine ef rfl rfl (eBox rfl rfl rfl rfl rfl (fun p0a => ?_)) 
  refine pu rfl rfl rfl rfl rfl ?_
  refine tr_seq ?_
  refine tr_region fun _ _ _ => ?_
  refine st rfl rfl rfl rfl (rLdS rfl rfl rfl) ?_
  refine ef rfl rfl (eCallV rfl rfl rfl (ref_order _ _ _ _ _) ⟨rfl, trivial⟩ ?_) 
  refine pu rfl rfl rfl rfl rfl ?_
  refine tr_seq ?_
  refine tr_region fun _ _ _ => ?_
  refine pu rfl rfl rfl rfl rfl ?_
  refine ef rfl rfl (eMakeI rfl rfl rfl rfl rfl (by omega) (by omega) (by omega) (fun A2 => ?_)) 
  refine pu rfl rfl rfl rfl rfl ?_
  rw [hor]
  refine tr_seq ?_
  refine tr_region fun _ _ _ => ?_
  refine ef rfl rfl (eLit0I rfl rfl rfl  (fun A3 => ?_)) 
  refine st rfl rfl rfl rfl (rFld rfl rfl) ?_
  refine st rfl rfl rfl rfl (rLdF rfl rfl rfl) ?_
  refine ef rfl rfl (eAppI rfl rfl rfl rfl rfl (by first | rfl | simp | omega) (by first | rfl | simp | omega) (by first | omega | (simp; omega)) (fun A3a c3a => ?_)) 
  refine ef rfl rfl (eLit1I rfl rfl rfl rfl (fun A3b => ?_)) 
  refine ef rfl rfl (eAppI rfl rfl rfl rfl rfl (by first | rfl | simp | omega) (by first | rfl | simp | omega) (by first | omega | (simp; omega)) (fun A3c c3c => ?_)) 
  refine pu rfl rfl rfl rfl rfl ?_
  simp only [List.nil_append]
  refine tr_seq ?_
  refine tr_region fun _ _ _ => ?_
  refine pu rfl rfl rfl rfl rfl ?_
  refine tr_seq ?_
  refine tr_block ?_
  refine tr_loop1 (fun (r : Int) => [(8, .int .i64 r), (5, .int .i64 (pw p m)), (6, .slice A2 (pw p m).toNat (pw p m).toNat), (7, .slice A3c (mod ++ [1]).length c3c), (2, .pointer (some p0)), (3, .pointer (some p0a)), (4, .slice none 0 0)]) (fun (r : Int) => [ow A2 3 (pw p m).toNat (ints (List.replicate (pw p m).toNat 0)), ow A3c 3 c3c (ints (mod ++ [1])), blk p0 36 [.int .i64 p, .int .i64 m, .slice A mod.length c], blk p0a 36 [.int .i64 p, .int .i64 m2, .slice Ae mod2.length ce], ro A (ints mod), ro Ae (ints mod2)]) (fun (r : Int) => 0 ≤ r ∧ r ≤ embR p m2 mod2 m mod) (fun (r : Int) => (embR p m2 mod2 m mod - r).toNat) (0) ⟨rfl, rfl, rfl, rfl, rfl, rfl, rfl, trivial⟩ (by first | exact cs _ _ | exact CSub.refl _) (by omega) (fun r hI => ?_)
  obtain ⟨hr0, hr1⟩ := hI
  refine tr_seq ?_
  refine tr_seq ?_
  refine tr_region fun _ _ _ => ?_
  refine st rfl rfl rfl rfl (rFld rfl rfl) ?_
  refine st rfl rfl rfl rfl (rLdF rfl rfl rfl) ?_
  iterate 2 refine pu rfl rfl rfl rfl rfl ?_
  refine stT rfl rfl rfl (by simp <;> omega) rfl rfl (rLdS rfl rfl rfl) ?_
  refine stT rfl rfl rfl (by simp <;> omega) rfl rfl (rMove rfl rfl) ?_
  refine stT rfl rfl rfl (by simp <;> omega) rfl rfl (rMove rfl rfl) ?_
  refine efT rfl rfl rfl (by simp <;> omega) (eCallV rfl rfl rfl (ref_PEval p m2 Ae ce mod2 A3c _ c3c (mod ++ [1]) rfl (by simp; omega) r) ⟨rfl, rfl, rfl, trivial⟩ ?_) 
  refine stT rfl rfl rfl (by simp <;> omega) rfl rfl (rNeq rfl rfl rfl) ?_
  refine st rfl rfl rfl rfl (rPick1 rfl rfl (by simp <;> omega) rfl) ?_
  refine tr_cond_bool rfl (fun h5 => ?_) (fun h5 => ?_)
  · try simp only [zb1, zb2, zb3, zb4, zb5, zb6, zb7, zb8, zb9, zb10] at h5
    refine tr_skip ?_
    refine tr_block ?_
    refine tr_region fun _ _ _ => ?_
    refine pu rfl rfl rfl rfl rfl ?_
    refine st rfl rfl rfl rfl (rAdd rfl rfl rfl (by omega) (by omega)) ?_
    refine pu rfl rfl rfl rfl rfl ?_
    refine ⟨r + 1, ⟨rfl, rfl, rfl, rfl, rfl, rfl, rfl, trivial⟩, by first | exact cs _ _ | exact CSub.refl _, ?_⟩
    have hne : r ≠ embR p m2 mod2 m mod := fun e => by
      rw [e, hrt.root hm] at h5
      first | exact h5 rfl | exact h5.2 rfl | simp at h5 | (have h6 : ((0 : El p m2 mod2).1 : Int) = 0 := rfl; omega)
    exact ⟨⟨by omega, by omega⟩, by omega⟩
  · try simp only [zb1, zb2, zb3, zb4, zb5, zb6, zb7, zb8, zb9, zb10] at h5
    refine tr_exit ?_
    refine tr_seq ?_
    refine tr_seq ?_
    have hre : r = embR p m2 mod2 m mod := by
      rcases Int.lt_or_le r (embR p m2 mod2 m mod) with h | h
      · have h6 := hrt.least hm r hr0 h
        exact absurd ((val_zero_iff _).1 (by first | exact h5 | omega | simpa using h5)) h6
      · omega
    subst hre
    refine tr_region fun _ _ _ => ?_
    refine pu rfl rfl rfl rfl rfl ?_
    refine tr_block ?_
    refine tr_loop2 (fun (x : Int) (o : List Int) => [(6, .slice A2 (pw p m).toNat (pw p m).toNat), (9, .int .i64 x), (5, .int .i64 (pw p m)), (8, .int .i64 (embR p m2 mod2 m mod)), (2, .pointer (some p0)), (3, .pointer (some p0a)), (4, .slice none 0 0)]) (fun (x : Int) (o : List Int) => [ow A2 3 (pw p m).toNat (ints o), blk p0 36 [.int .i64 p, .int .i64 m, .slice A mod.length c], blk p0a 36 [.int .i64 p, .int .i64 m2, .slice Ae mod2.length ce], ro A (ints mod), ro Ae (ints mod2)]) (fun (x : Int) (o : List Int) => (0 ≤ x ∧ x ≤ pw p m) ∧ o.length = (pw p m).toNat ∧ ∀ j : Nat, (j : Int) < x → o.getD j 0 = (Po.val (pol (digs p m.toNat j) : Po (El p m2 mod2)) (el (embR p m2 mod2 m mod))).1) (fun (x : Int) (o : List Int) => (pw p m - x).toNat) (0) (List.replicate (pw p m).toNat 0) ⟨rfl, rfl, rfl, rfl, rfl, rfl, rfl, trivial⟩ (by first | exact cs _ _ | exact CSub.refl _) (⟨⟨by omega, by omega⟩, by simp, fun j hj => by omega⟩) (fun x o hI => ?_)
    obtain ⟨⟨hx0, hx1⟩, hol, ho⟩ := hI
    refine tr_seq ?_
    refine tr_seq ?_
    refine tr_region fun _ _ _ => ?_
    iterate 3 refine pu rfl rfl rfl rfl rfl ?_
    refine tr_cond_bool rfl (fun h8 => ?_) (fun h8 => ?_)
    · try simp only [zb1, zb2, zb3, zb4, zb5, zb6, zb7, zb8, zb9, zb10] at h8
      refine tr_skip ?_
      refine tr_seq ?_
      refine tr_block ?_
      refine tr_draw [0, 1, 2, 3, 4, 6, 5, 7, 8] [9] mixed (by kernel_rfl) fun _ _ _ => ?_
      iterate 2 refine pu rfl rfl rfl rfl rfl ?_
      refine st rfl rfl rfl rfl (rLdS rfl rfl rfl) ?_
      refine st rfl rfl rfl rfl (rLdS rfl rfl rfl) ?_
      iterate 2 refine pu rfl rfl rfl rfl rfl ?_
      refine ef rfl rfl (eCall1 rfl rfl rfl (ref_DigitsE p m A c mod x ⟨by omega, by omega⟩) ⟨rfl, rfl, trivial⟩ ?_) 
      rintro _ _ ⟨Bd, rfl, rfl⟩
      refine ef rfl rfl (eCallV rfl rfl rfl (ref_PEval p m2 Ae ce mod2 Bd _ _ (digs p m.toNat x) (digs_len _ _ _).symm (by rw [digs_len]; omega) (embR p m2 mod2 m mod)) ⟨rfl, rfl, rfl, trivial⟩ ?_) 
      refine st rfl rfl rfl rfl (rIdxI rfl rfl rfl (by omega) (by omega) (by omega)) ?_
      refine ef rfl rfl (eStI rfl rfl rfl rfl (by omega) ?_) 
      refine tr_region fun _ _ _ => ?_
      refine pu rfl rfl rfl rfl rfl ?_
      refine st rfl rfl rfl rfl (rAdd rfl rfl rfl (by omega) (by omega)) ?_
      refine pu rfl rfl rfl rfl rfl ?_
      refine ⟨x + 1, o.set x.toNat (Po.val (pol (digs p m.toNat x) : Po (El p m2 mod2)) (el (embR p m2 mod2 m mod))).1, ⟨rfl, rfl, rfl, rfl, rfl, rfl, rfl, trivial⟩, by first | exact cs _ _ | exact CSub.refl _, ?_⟩
      refine ⟨⟨⟨by omega, by omega⟩, by simpa using hol, fun j hj => ?_⟩, by omega⟩
      rw [getD_set]
      by_cases he : x.toNat = j
      · subst he; rw [if_pos ⟨rfl, by omega⟩, Int.toNat_of_nonneg hx0]
      · rw [if_neg (fun e => he e.1)]; exact ho j (by omega)
    · try simp only [zb1, zb2, zb3, zb4, zb5, zb6, zb7, zb8, zb9, zb10] at h8
      refine tr_exit ?_
      refine tr_seq ?_
      refine tr_region fun _ _ _ => ?_
      iterate 2 refine pu rfl rfl rfl rfl rfl ?_
      have hfin : o = (imL p m2 mod2 m (embR p m2 mod2 m mod)) := ext_getD (by rw [imL_length]; exact hol) fun j => by
        by_cases hj : j < (pw p m).toNat
        · rw [imL_get _ _ hj]; exact ho j (by omega)
        · rw [getD_out (by omega), getD_out (by rw [imL_length]; omega)]
      have hol2 : (pw p m).toNat = (imL p m2 mod2 m (embR p m2 mod2 m mod)).length := (imL_length _ _).symm
      exact tr_ret ⟨trivial, _, _, rfl, ⟨_, rfl, A2, by rw [hol2], by rw [← hfin, hol]⟩, cs _ _, trivial, trivial⟩

theorem zset_dec {p m : Int} {mod : List Int} [hF : IsF p m mod] (f : Po (El p m mod)) (X : El p m mod) : zset p m mod f X.1 = decide ((Po.val f X).1 = 0) := by
  by_cases h : Po.val f X = 0
  · have h1 : zset p m mod f X.1 = true := zset_iff.2 (by rw [el_of]; exact h)
    rw [h1, decide_eq_true ((val_zero_iff _).2 h)]
  · have h1 : zset p m mod f X.1 = false := Bool.eq_false_iff.2 fun e => h (by have := zset_iff.1 e; rwa [el_of] at this)
    rw [h1, decide_eq_false (fun e => h ((val_zero_iff _).1 e))]

theorem embR_is {p m m2 : Int} {mod mod2 : List Int} [hF : IsF p m mod] [hE : IsF p m2 mod2] (hm : 2 ≤ m) (hd : m2 % m = 0) : IsRt p m2 mod2 m mod (embR p m2 mod2 m mod) := by
  obtain ⟨_, h⟩ := rt_of_head (p := p) (m := m) (mod := mod) (m2 := m2) (mod2 := mod2) hm hd rfl
  rw [h.eq (by omega)]; exact h
theorem ref_Emb (p m : Int) (A : Option Addr) (c : Nat) (mod : List Int) [hF : IsF p m mod] (m2 : Int) (Ae : Option Addr) (ce : Nat) (mod2 : List Int) [hE : IsF p m2 mod2] (hd : m2 % m = 0) : Pure Try.prog 115 #[.agg #[.int .i64 p, .int .i64 m, .slice A mod.length c], .agg #[.int .i64 p, .int .i64 m2, .slice Ae mod2.length ce]] [ro A (ints mod), ro Ae (ints mod2)] (one (fun v ch => ∃ B, v = .slice B (imL p m2 mod2 m (embR p m2 mod2 m mod)).length (imL p m2 mod2 m (embR p m2 mod2 m mod)).length ∧ ch = ow B 3 (imL p m2 mod2 m (embR p m2 mod2 m mod)).length (ints (imL p m2 mod2 m (embR p m2 mod2 m mod))))) := by
  have h1 := hF.m1
  by_cases hm : m = 1
  · exact ref_Emb1 p m A c mod m2 Ae ce mod2 hd hm
  · exact ref_Emb2 p m A c mod m2 Ae ce mod2 hd (by omega) (embR_is (by omega) hd)

theorem map_im (im ws : List Int) {j : Nat} (hj : j < ws.length) : (ws.map (fun y : Int => im.getD y.toNat 0)).getD j 0 = im.getD (ws.getD j 0).toNat 0 := by
  rw [List.getD_eq_getElem?_getD, List.getElem?_map, List.getElem?_eq_getElem hj, List.getD_eq_getElem?_getD (l := ws), List.getElem?_eq_getElem hj]; rfl
theorem rootArgs_is {p m : Int} {mod : List Int} (hF : FldR p m mod) {n : Int} (h1 : 1 ≤ n) (h2 : n ≤ 64) : rootArgs p m mod n = if rootI p m mod n = 0 then 11 else 0 := by
  unfold rootArgs; rw [if_neg (by rw [chkF_ok hF]; simp), if_neg (by omega)]

theorem ref_value_ent : Enters Try.prog 116 := enters_of Try.func116 (by kernel_rfl) (by kernel_rfl)
theorem ref_value (p m : Int) (A : Option Addr) (c : Nat) (mod : List Int) [hF : IsF p m mod] (Y : Option Addr) (ny cy : Nat) (im : List Int) (hny : ny = im.length) (a n : Int) (X : Option Addr) (nx cx : Nat) (ws : List Int) (hnx : nx = ws.length) (hn : n = ws.length) (h9 : ws.length ≤ 1000000) (hws : ∀ y ∈ ws, 0 ≤ y ∧ y < im.length) (i : Int) (hi : 0 ≤ i ∧ i < n) :
    Pure Try.prog 116 #[.agg #[.int .i64 p, .int .i64 m, .slice A mod.length c], .slice Y ny cy, .int .i64 a, .int .i64 n, .slice X nx cx, .int .i64 i] [ro A (ints mod), ro Y (ints im), ro X (ints ws)] (isV (.int .i64 (Po.val (pol (ws.map (fun y : Int => im.getD y.toNat 0)) : Po (El p m mod)) (Rg.pow (el a : El p m mod) i.toNat)).1)) := by
  have hin : i % n = i := Int.emod_eq_of_lt hi.1 hi.2
  refine pure_of (args := [.agg #[.int .i64 p, .int .i64 m, .slice A mod.length c], .slice Y ny cy, .int .i64 a, .int .i64 n, .slice X nx cx, .int .i64 i]) 50 Try.func116 rfl rfl rfl ref_value_ent ⟨id, id, id, trivial⟩ (fun w0 => ?_)
  refine tr_seq ?_
  refine tr_region fun _ _ _ => ?_
  refine ef rfl rfl (eBox rfl rfl rfl rfl rfl (fun p0 => ?_)) 
  refine pu rfl rfl rfl rfl rfl ?_
  refine tr_seq ?_
  refine tr_draw [0, 1, 2, 3, 4, 5, 6, 7, 8, 9, 10] [] mixed (by kernel_rfl) fun _ _ _ => ?_
  refine st rfl rfl rfl rfl (rLdS rfl rfl rfl) ?_
  iterate 3 refine pu rfl rfl rfl rfl rfl ?_
  refine ef rfl rfl (eCallV rfl rfl rfl (ref_mod i n (by omega) (by omega)) ⟨rfl, rfl, trivial⟩ ?_) 
  refine ef rfl rfl (eCallV rfl rfl rfl (ref_PowE p m A c mod a (i % n) (by omega) (by omega)) ⟨rfl, rfl, rfl, trivial⟩ ?_) 
  iterate 5 refine pu rfl rfl rfl rfl rfl ?_
  refine tr_seq ?_
  rw [hin]
  refine tr_region fun _ _ _ => ?_
  refine pu rfl rfl rfl rfl rfl ?_
  refine tr_seq ?_
  refine tr_region fun _ _ _ => ?_
  refine pu rfl rfl rfl rfl rfl ?_
  refine tr_seq ?_
  refine tr_seq ?_
  refine tr_region fun _ _ _ => ?_
  refine pu rfl rfl rfl rfl rfl ?_
  refine tr_block ?_
  refine tr_loop3 (fun (k : Int) (y : Int) (z : Int) => [(15, .int .i64 z), (16, .int .i64 y), (17, .int .i64 k), (13, .int .i64 (Rg.pow (el a : El p m mod) i.toNat).1), (1, .slice Y ny cy), (4, .slice X nx cx), (3, .int .i64 n), (6, .pointer (some p0)), (12, .int .i64 0)]) (fun (k : Int) (y : Int) (z : Int) => [blk p0 36 [.int .i64 p, .int .i64 m, .slice A mod.length c], ro A (ints mod), ro Y (ints im), ro X (ints ws)]) (fun (k : Int) (y : Int) (z : Int) => (0 ≤ k ∧ k ≤ n) ∧ y = (Rg.sm k.toNat fun j => (el (im.getD (ws.getD j 0).toNat 0) * Rg.pow (Rg.pow (el a : El p m mod) i.toNat) j : El p m mod)).1 ∧ z = (Rg.pow (Rg.pow (el a : El p m mod) i.toNat) k.toNat : El p m mod).1) (fun (k : Int) (y : Int) (z : Int) => (n - k).toNat) (0) (0) (1) ⟨rfl, rfl, rfl, rfl, rfl, rfl, rfl, rfl, rfl, trivial⟩ (by first | exact cs _ _ | exact CSub.refl _) (⟨⟨by omega, by omega⟩, rfl, rfl⟩) (fun k y z hI => ?_)
  obtain ⟨⟨hk0, hk1⟩, hy, hz⟩ := hI
  refine tr_seq ?_
  refine tr_seq ?_
  refine tr_region fun _ _ _ => ?_
  iterate 3 refine pu rfl rfl rfl rfl rfl ?_
  refine tr_cond_bool rfl (fun h5 => ?_) (fun h5 => ?_)
  · try simp only [zb1, zb2, zb3, zb4, zb5, zb6, zb7, zb8, zb9, zb10] at h5
    refine tr_skip ?_
    refine tr_seq ?_
    refine tr_block ?_
    refine tr_seq ?_
    have hwk := hws _ (getD_mem (show k.toNat < ws.length by omega) 0)
    refine tr_draw [0, 1, 2, 3, 4, 5, 6, 7, 8, 9, 10, 11, 12, 13] [] mixed (by kernel_rfl) fun _ _ _ => ?_
    refine st rfl rfl rfl rfl (rLdS rfl rfl rfl) ?_
    refine pu rfl rfl rfl rfl rfl ?_
    refine st rfl rfl rfl rfl (rLdS rfl rfl rfl) ?_
    iterate 3 refine pu rfl rfl rfl rfl rfl ?_
    refine st rfl rfl rfl rfl (rIdxI rfl rfl rfl (by omega) (by omega) (by omega)) ?_
    refine st rfl rfl rfl rfl (rLdI rfl rfl (by omega)) ?_
    refine st rfl rfl rfl rfl (rIdxI rfl rfl rfl (by omega) (by omega) (by omega)) ?_
    refine st rfl rfl rfl rfl (rLdI rfl rfl (by omega)) ?_
    refine pu rfl rfl rfl rfl rfl ?_
    refine ef rfl rfl (eCallV rfl rfl rfl (ref_MulE _ _ _ _ _ _ _) ⟨rfl, rfl, rfl, trivial⟩ ?_) 
    refine ef rfl rfl (eCallV rfl rfl rfl (ref_AddE _ _ _ _ _ _ _) ⟨rfl, rfl, rfl, trivial⟩ ?_) 
    refine pu rfl rfl rfl rfl rfl ?_
    refine tr_region fun _ _ _ => ?_
    refine st rfl rfl rfl rfl (rLdS rfl rfl rfl) ?_
    iterate 2 refine pu rfl rfl rfl rfl rfl ?_
    refine ef rfl rfl (eCallV rfl rfl rfl (ref_MulE _ _ _ _ _ _ _) ⟨rfl, rfl, rfl, trivial⟩ ?_) 
    refine pu rfl rfl rfl rfl rfl ?_
    refine tr_region fun _ _ _ => ?_
    refine pu rfl rfl rfl rfl rfl ?_
    refine st rfl rfl rfl rfl (rAdd rfl rfl rfl (by omega) (by omega)) ?_
    refine pu rfl rfl rfl rfl rfl ?_
    refine ⟨k + 1, (el y + el (el (im.getD (ws.getD k.toNat 0).toNat 0) * el z : El p m mod).1 : El p m mod).1, (el z * el (Rg.pow (el a : El p m mod) i.toNat).1 : El p m mod).1, ⟨rfl, rfl, rfl, rfl, rfl, rfl, rfl, rfl, rfl, trivial⟩, by first | exact cs _ _ | exact CSub.refl _, ?_⟩
    have hk2 : (k + 1).toNat = k.toNat + 1 := by omega
    refine ⟨⟨⟨by omega, by omega⟩, ?_, ?_⟩, by omega⟩
    · rw [hk2, Rg.sm_succ, hy, hz, el_of, el_of, el_of]
    · rw [hk2, Rg.pow_succ, hz, el_of, el_of]
  · try simp only [zb1, zb2, zb3, zb4, zb5, zb6, zb7, zb8, zb9, zb10] at h5
    refine tr_exit ?_
    refine tr_seq ?_
    refine tr_region fun _ _ _ => ?_
    iterate 2 refine pu rfl rfl rfl rfl rfl ?_
    have hkn : k.toNat = (ws.map (fun y : Int => im.getD y.toNat 0)).length := by rw [List.length_map]; omega
    have hfin : y = (Po.val (pol (ws.map (fun y : Int => im.getD y.toNat 0)) : Po (El p m mod)) (Rg.pow (el a : El p m mod) i.toNat)).1 := by
      rw [hy, val_sum, hkn]
      refine congrArg (fun z : El p m mod => z.1) (Rg.sm_congr fun j hj => ?_)
      rw [map_im im ws (by rw [List.length_map] at hj; exact hj)]
    exact tr_ret ⟨trivial, _, _, rfl, ⟨by rw [hfin], rfl⟩, CSub.nil _, trivial⟩

theorem ref_Zeros_ent : Enters Try.prog 61 := enters_of Try.func61 (by kernel_rfl) (by kernel_rfl)
theorem ref_Zeros (p m : Int) (A : Option Addr) (c : Nat) (mod : List Int) [hF : IsF p m mod] (w : Int) (Aa : Option Addr) (n ca : Nat) (rs : List RowM) (hn : n = rs.length) (h9 : rs.length ≤ 256) (hc : CodeOk p m mod w rs) (m2 : Int) (Ae : Option Addr) (ce : Nat) (mod2 : List Int) [hE : IsF p m2 mod2] (hd : m2 % m = 0) :
    Pure Try.prog 61 #[.agg #[.int .i64 p, .int .i64 m, .slice A mod.length c, .int .i64 w, .slice Aa n ca], .agg #[.int .i64 p, .int .i64 m2, .slice Ae mod2.length ce]] [ro A (ints mod), ro Aa (hdrs rs), rowsR rs, ro Ae (ints mod2)] (one (fun v ch => ∃ B cb, v = .slice B (zerL p m2 mod2 (imL p m2 mod2 m (embR p m2 mod2 m mod)) rs (rootI p m2 mod2 w) w).length cb ∧ ch = ow B 3 cb (ints (zerL p m2 mod2 (imL p m2 mod2 m (embR p m2 mod2 m mod)) rs (rootI p m2 mod2 w) w)))) := by
  have hl9 := hF.short
  have hn1 := hc.n1
  have hn64 := hc.n64
  have hlen := hc.len
  have hgd := hc.good
  have h8 := hgd.h8 (N := 17592186044415) (by omega)
  have hck := hc.zero
  have hq2 := hF.q2
  have himl := imL_length (p := p) (m2 := m2) (mod2 := mod2) m (embR p m2 mod2 m mod)
  have hws : ∀ r ∈ rs, ∀ y ∈ r.xs, 0 ≤ y ∧ y < (imL p m2 mod2 m (embR p m2 mod2 m mod)).length := fun r hr y hy => by
    have := (hgd r hr).2 y hy
    rw [himl]; omega
  refine pure_of (args := [.agg #[.int .i64 p, .int .i64 m, .slice A mod.length c, .int .i64 w, .slice Aa n ca], .agg #[.int .i64 p, .int .i64 m2, .slice Ae mod2.length ce]]) 54 Try.func61 rfl rfl rfl ref_Zeros_ent ⟨id, id, id, id, trivial⟩ (fun w0 => ?_)
  refine tr_seq ?_
  refine tr_region fun _ _ _ => ?_
  refine ef rfl rfl (eBox rfl rfl rfl rfl rfl (fun p0 => ?_)) 
  refine ef rfl rfl (eBox rfl rfl rfl rfl rfl (fun p0a => ?_)) 
  refine pu rfl rfl rfl rfl rfl ?_
  refine tr_seq ?_
  refine tr_region fun _ _ _ => ?_
  refine st rfl rfl rfl rfl (rFld rfl rfl) ?_
  refine st rfl rfl rfl rfl (rLdSF rfl rfl) ?_
  refine st rfl rfl rfl rfl (rLdS rfl rfl rfl) ?_
  refine ef rfl rfl (eCall1 rfl rfl rfl (ref_Emb p m A c mod m2 Ae ce mod2 hd) ⟨rfl, rfl, trivial⟩ ?_) 
  rintro _ _ ⟨B1, rfl, rfl⟩
  refine pu rfl rfl rfl rfl rfl ?_
  refine tr_seq ?_
  refine tr_region fun _ _ _ => ?_
  refine st rfl rfl rfl rfl (rLdS rfl rfl rfl) ?_
  refine st rfl rfl rfl rfl (rFld rfl rfl) ?_
  refine st rfl rfl rfl rfl (rLdF rfl rfl rfl) ?_
  refine ef rfl rfl (eCallV rfl rfl rfl (ref_Root p m2 Ae ce mod2 hE.out w) ⟨rfl, rfl, trivial⟩ ?_) 
  refine pu rfl rfl rfl rfl rfl ?_
  refine tr_seq ?_
  refine tr_region fun _ _ _ => ?_
  refine pu rfl rfl rfl rfl rfl ?_
  refine tr_seq ?_
  refine tr_seq ?_
  refine tr_region fun _ _ _ => ?_
  refine pu rfl rfl rfl rfl rfl ?_
  refine tr_block ?_
  refine tr_nilI 3 ?_
  refine tr_loop4 (fun (i : Int) (B : Option Addr) (cb : Nat) (zs : List Int) => [(7, .slice B zs.length cb), (8, .int .i64 i), (6, .int .i64 (rootI p m2 mod2 w)), (2, .pointer (some p0)), (3, .pointer (some p0a)), (4, .slice none 0 0), (5, .slice B1 (imL p m2 mod2 m (embR p m2 mod2 m mod)).length (imL p m2 mod2 m (embR p m2 mod2 m mod)).length)]) (fun (i : Int) (B : Option Addr) (cb : Nat) (zs : List Int) => [ow B 3 cb (ints zs), ow B1 3 (imL p m2 mod2 m (embR p m2 mod2 m mod)).length (ints (imL p m2 mod2 m (embR p m2 mod2 m mod))), blk p0 43 [.int .i64 p, .int .i64 m, .slice A mod.length c, .int .i64 w, .slice Aa n ca], blk p0a 36 [.int .i64 p, .int .i64 m2, .slice Ae mod2.length ce], ro A (ints mod), ro Aa (hdrs rs), rowsR rs, ro Ae (ints mod2)]) (fun (i : Int) (B : Option Addr) (cb : Nat) (zs : List Int) => (0 ≤ i ∧ i ≤ w) ∧ zs = (upI i.toNat).filter (zerB p m2 mod2 (imL p m2 mod2 m (embR p m2 mod2 m mod)) rs (rootI p m2 mod2 w)) ∧ zs.length ≤ i.toNat) (fun (i : Int) (B : Option Addr) (cb : Nat) (zs : List Int) => (w - i).toNat) (0) (none) (0) ([]) ⟨rfl, rfl, rfl, rfl, rfl, rfl, rfl, trivial⟩ (by first | exact cs _ _ | exact CSub.refl _) (⟨⟨by omega, by omega⟩, rfl, by simp⟩) (fun i B cb zs hI => ?_)
  obtain ⟨⟨hi0, hi1⟩, hzs, hzl⟩ := hI
  refine tr_seq ?_
  refine tr_seq ?_
  refine tr_region fun _ _ _ => ?_
  refine pu rfl rfl rfl rfl rfl ?_
  refine st rfl rfl rfl rfl (rFld rfl rfl) ?_
  refine st rfl rfl rfl rfl (rLdF rfl rfl rfl) ?_
  refine pu rfl rfl rfl rfl rfl ?_
  refine tr_cond_bool rfl (fun h5 => ?_) (fun h5 => ?_)
  · try simp only [zb1, zb2, zb3, zb4, zb5, zb6, zb7, zb8, zb9, zb10] at h5
    refine tr_skip ?_
    refine tr_seq ?_
    refine tr_block ?_
    refine tr_seq ?_
    refine tr_region fun _ _ _ => ?_
    refine pu rfl rfl rfl rfl rfl ?_
    refine tr_seq ?_
    refine tr_seq ?_
    refine tr_region fun _ _ _ => ?_
    refine pu rfl rfl rfl rfl rfl ?_
    refine tr_block ?_
    refine tr_loop2 (fun (k : Int) (b : Bool) => [(9, .bool b), (10, .int .i64 k), (6, .int .i64 (rootI p m2 mod2 w)), (2, .pointer (some p0)), (3, .pointer (some p0a)), (4, .slice none 0 0), (5, .slice B1 (imL p m2 mod2 m (embR p m2 mod2 m mod)).length (imL p m2 mod2 m (embR p m2 mod2 m mod)).length), (7, .slice B zs.length cb), (8, .int .i64 i), (19, .int .i64 i), (21, .int .i64 w)]) (fun (k : Int) (b : Bool) => [ow B 3 cb (ints zs), ow B1 3 (imL p m2 mod2 m (embR p m2 mod2 m mod)).length (ints (imL p m2 mod2 m (embR p m2 mod2 m mod))), blk p0 43 [.int .i64 p, .int .i64 m, .slice A mod.length c, .int .i64 w, .slice Aa n ca], blk p0a 36 [.int .i64 p, .int .i64 m2, .slice Ae mod2.length ce], ro A (ints mod), ro Aa (hdrs rs), rowsR rs, ro Ae (ints mod2)]) (fun (k : Int) (b : Bool) => (0 ≤ k ∧ k ≤ n) ∧ b = (rs.take k.toNat).all fun r => zset p m2 mod2 (pol (r.xs.map fun y : Int => (imL p m2 mod2 m (embR p m2 mod2 m mod)).getD y.toNat 0)) (Rg.pow (el (rootI p m2 mod2 w) : El p m2 mod2) i.toNat).1) (fun (k : Int) (b : Bool) => (n - k).toNat) (0) (true) ⟨rfl, rfl, rfl, rfl, rfl, rfl, rfl, rfl, rfl, rfl, rfl, trivial⟩ (by first | exact cs _ _ | exact CSub.refl _) (⟨⟨by omega, by omega⟩, by simp⟩) (fun k b hI => ?_)
    obtain ⟨⟨hk0, hk1⟩, hb⟩ := hI
    refine tr_seq ?_
    refine tr_seq ?_
    refine tr_region fun _ _ _ => ?_
    refine pu rfl rfl rfl rfl rfl ?_
    refine st rfl rfl rfl rfl (rFld rfl rfl) ?_
    refine st rfl rfl rfl rfl (rLdF rfl rfl rfl) ?_
    refine st rfl rfl rfl rfl (rLen rfl rfl) ?_
    refine pu rfl rfl rfl rfl rfl ?_
    refine tr_cond_bool rfl (fun h9 => ?_) (fun h9 => ?_)
    · try simp only [zb1, zb2, zb3, zb4, zb5, zb6, zb7, zb8, zb9, zb10] at h9
      refine tr_skip ?_
      refine tr_seq ?_
      refine tr_block ?_
      have hgk := hgd.get (show k.toNat < rs.length by omega)
      haveI : InB k.toNat rs.length := ⟨by omega⟩
      have hgk1 := hgk.1
      refine tr_draw [0, 1, 2, 3, 4, 5, 6, 7, 8, 9, 10, 11, 12, 13, 14, 15, 16] [] mixed (by kernel_rfl) fun _ _ _ => ?_
      iterate 2 refine pu rfl rfl rfl rfl rfl ?_
      refine stg rfl rfl rfl rfl rfl (fun hb => by (have hq := hb; try simp only [zb1, zb2, zb3, zb4, zb5, zb6, zb7, zb8, zb9, zb10] at hq); exact rLdS rfl rfl rfl) ?_
      refine stg rfl rfl rfl rfl rfl (fun hb => by (have hq := hb; try simp only [zb1, zb2, zb3, zb4, zb5, zb6, zb7, zb8, zb9, zb10] at hq); exact rMove rfl rfl) ?_
      refine stg rfl rfl rfl rfl rfl (fun hb => by (have hq := hb; try simp only [zb1, zb2, zb3, zb4, zb5, zb6, zb7, zb8, zb9, zb10] at hq); exact rMove rfl rfl) ?_
      refine stg rfl rfl rfl rfl rfl (fun hb => by (have hq := hb; try simp only [zb1, zb2, zb3, zb4, zb5, zb6, zb7, zb8, zb9, zb10] at hq); exact rFld rfl rfl) ?_
      refine stg rfl rfl rfl rfl rfl (fun hb => by (have hq := hb; try simp only [zb1, zb2, zb3, zb4, zb5, zb6, zb7, zb8, zb9, zb10] at hq); exact rLdF rfl (evg rfl hb) rfl) ?_
      refine stg rfl rfl rfl rfl rfl (fun hb => by (have hq := hb; try simp only [zb1, zb2, zb3, zb4, zb5, zb6, zb7, zb8, zb9, zb10] at hq); exact rFld rfl rfl) ?_
      refine stg rfl rfl rfl rfl rfl (fun hb => by (have hq := hb; try simp only [zb1, zb2, zb3, zb4, zb5, zb6, zb7, zb8, zb9, zb10] at hq); exact rLdF rfl (evg rfl hb) rfl) ?_
      refine stg rfl rfl rfl rfl rfl (fun hb => by (have hq := hb; try simp only [zb1, zb2, zb3, zb4, zb5, zb6, zb7, zb8, zb9, zb10] at hq); exact rMove rfl rfl) ?_
      refine stg rfl rfl rfl rfl rfl (fun hb => by (have hq := hb; try simp only [zb1, zb2, zb3, zb4, zb5, zb6, zb7, zb8, zb9, zb10] at hq); exact rIdxR rfl (evg rfl hb) (evg rfl hb) (by omega) (by omega) (by omega)) ?_
      refine stg rfl rfl rfl rfl rfl (fun hb => by (have hq := hb; try simp only [zb1, zb2, zb3, zb4, zb5, zb6, zb7, zb8, zb9, zb10] at hq); exact rLdR rfl (evg rfl hb) (by omega)) ?_
      refine stg rfl rfl rfl rfl rfl (fun hb => by (have hq := hb; try simp only [zb1, zb2, zb3, zb4, zb5, zb6, zb7, zb8, zb9, zb10] at hq); exact rMove rfl rfl) ?_
      refine efg rfl rfl rfl rfl rfl (fun hb => by (have hq := hb; try simp only [zb1, zb2, zb3, zb4, zb5, zb6, zb7, zb8, zb9, zb10] at hq); exact eCallV rfl rfl rfl (ref_value p m2 Ae ce mod2 B1 _ _ (imL p m2 mod2 m (embR p m2 mod2 m mod)) rfl (rootI p m2 mod2 w) w _ _ _ (rs.getD k.toNat rowD).xs rfl (by omega) (by omega) (hws _ (getD_mem (show k.toNat < rs.length by omega) rowD)) i ⟨by omega, by omega⟩) ⟨(evg rfl hb), (evg rfl hb), (evg rfl hb), (evg rfl hb), (evg rfl hb), (evg rfl hb), trivial⟩ ⟨rfl, rfl⟩) ?_
      refine stg rfl rfl rfl rfl rfl (fun hb => by (have hq := hb; try simp only [zb1, zb2, zb3, zb4, zb5, zb6, zb7, zb8, zb9, zb10] at hq); exact rEql rfl (evg rfl hb) rfl) ?_
      refine st rfl rfl rfl rfl (rAndB rfl rfl rfl rfl) ?_
      refine pu rfl rfl rfl rfl rfl ?_
      refine tr_region fun _ _ _ => ?_
      refine pu rfl rfl rfl rfl rfl ?_
      refine st rfl rfl rfl rfl (rAdd rfl rfl rfl (by omega) (by omega)) ?_
      refine pu rfl rfl rfl rfl rfl ?_
      refine ⟨k + 1, b && decide ((Po.val (pol ((rs.getD k.toNat rowD).xs.map (fun y : Int => (imL p m2 mod2 m (embR p m2 mod2 m mod)).getD y.toNat 0)) : Po (El p m2 mod2)) (Rg.pow (el (rootI p m2 mod2 w)) i.toNat)).1 = 0), ⟨rfl, rfl, rfl, rfl, rfl, rfl, rfl, rfl, rfl, rfl, rfl, trivial⟩, by first | exact cs _ _ | exact CSub.refl _, ?_⟩
      refine ⟨⟨⟨by omega, by omega⟩, ?_⟩, by omega⟩
      rw [show (k + 1).toNat = k.toNat + 1 by omega, List.take_add_one, List.getElem?_eq_getElem (show k.toNat < rs.length by omega), List.all_append, ← hb]
      have hrk : rs.getD k.toNat rowD = rs[k.toNat] := by rw [List.getD_eq_getElem?_getD, List.getElem?_eq_getElem (show k.toNat < rs.length by omega)]; rfl
      rw [← zset_dec, hrk]
      simp
    · try simp only [zb1, zb2, zb3, zb4, zb5, zb6, zb7, zb8, zb9, zb10] at h9
      refine tr_exit ?_
      refine tr_seq ?_
      have hbz : b = zerB p m2 mod2 (imL p m2 mod2 m (embR p m2 mod2 m mod)) rs (rootI p m2 mod2 w) i := by rw [hb, List.take_of_length_le (by omega)]; rfl
      refine tr_region fun _ _ _ => ?_
      refine pu rfl rfl rfl rfl rfl ?_
      refine tr_cond_bool rfl (fun h12 => ?_) (fun h12 => ?_)
      · try simp only [zb1, zb2, zb3, zb4, zb5, zb6, zb7, zb8, zb9, zb10] at h12
        refine tr_region fun _ _ _ => ?_
        iterate 2 refine pu rfl rfl rfl rfl rfl ?_
        refine ef rfl rfl (eLit1I rfl rfl rfl rfl (fun A13 => ?_)) 
        refine ef rfl rfl (eAppI rfl rfl rfl rfl rfl (by first | rfl | simp | omega) (by first | rfl | simp | omega) (by first | omega | (simp; omega)) (fun A13a c13a => ?_)) 
        refine pu rfl rfl rfl rfl rfl ?_
        refine tr_region fun _ _ _ => ?_
        refine pu rfl rfl rfl rfl rfl ?_
        refine st rfl rfl rfl rfl (rAdd rfl rfl rfl (by omega) (by omega)) ?_
        refine pu rfl rfl rfl rfl rfl ?_
        refine ⟨i + 1, A13a, c13a, zs ++ [i], ⟨rfl, rfl, rfl, rfl, rfl, rfl, rfl, trivial⟩, by first | exact cs _ _ | exact CSub.refl _, ?_⟩
        refine ⟨⟨⟨by omega, by omega⟩, ?_, by simp; omega⟩, by omega⟩
        rw [upF_succ _ hi0, ← hzs, if_pos (by rw [← hbz]; simpa using h12)]
      · try simp only [zb1, zb2, zb3, zb4, zb5, zb6, zb7, zb8, zb9, zb10] at h12
        refine tr_skip ?_
        refine tr_region fun _ _ _ => ?_
        refine pu rfl rfl rfl rfl rfl ?_
        refine st rfl rfl rfl rfl (rAdd rfl rfl rfl (by omega) (by omega)) ?_
        refine pu rfl rfl rfl rfl rfl ?_
        refine ⟨i + 1, B, cb, zs, ⟨rfl, rfl, rfl, rfl, rfl, rfl, rfl, trivial⟩, by first | exact cs _ _ | exact CSub.refl _, ?_⟩
        refine ⟨⟨⟨by omega, by omega⟩, ?_, by omega⟩, by omega⟩
        rw [upF_succ _ hi0, ← hzs, if_neg (by rw [← hbz]; simpa using h12), List.append_nil]
  · try simp only [zb1, zb2, zb3, zb4, zb5, zb6, zb7, zb8, zb9, zb10] at h5
    refine tr_exit ?_
    refine tr_seq ?_
    refine tr_region fun _ _ _ => ?_
    iterate 2 refine pu rfl rfl rfl rfl rfl ?_
    have hiw : i = w := by omega
    subst hiw
    have hzs2 : zs = zerL p m2 mod2 (imL p m2 mod2 m (embR p m2 mod2 m mod)) rs (rootI p m2 mod2 i) i := hzs
    subst hzs2
    exact tr_ret ⟨trivial, _, _, rfl, ⟨_, rfl, B, cb, rfl, rfl⟩, cs _ _, trivial, trivial⟩

theorem ref_Over_ent : Enters Try.prog 109 := enters_of Try.func109 (by kernel_rfl) (by kernel_rfl)
theorem ref_Over (p m : Int) (A : Option Addr) (c : Nat) (mod : List Int) (hm : 1 ≤ m) (p2 m2 : Int) (Ae : Option Addr) (ce : Nat) (mod2 : List Int) (hm2 : 1 ≤ m2) :
    Pure Try.prog 109 #[.agg #[.int .i64 p, .int .i64 m, .slice A mod.length c], .agg #[.int .i64 p2, .int .i64 m2, .slice Ae mod2.length ce]] [] (isV (.bool (decide (p = p2) && decide (m2 % m = 0)))) := by
  refine pure_of (args := [.agg #[.int .i64 p, .int .i64 m, .slice A mod.length c], .agg #[.int .i64 p2, .int .i64 m2, .slice Ae mod2.length ce]]) 18 Try.func109 rfl rfl rfl ref_Over_ent trivial (fun w0 => ?_)
  refine tr_seq ?_
  refine tr_region fun _ _ _ => ?_
  refine ef rfl rfl (eBox rfl rfl rfl rfl rfl (fun p0 => ?_)) 
  refine ef rfl rfl (eBox rfl rfl rfl rfl rfl (fun p0a => ?_)) 
  refine pu rfl rfl rfl rfl rfl ?_
  refine tr_seq ?_
  refine tr_region fun _ _ _ => ?_
  refine st rfl rfl rfl rfl (rFld rfl rfl) ?_
  refine st rfl rfl rfl rfl (rLdF rfl rfl rfl) ?_
  refine st rfl rfl rfl rfl (rFld rfl rfl) ?_
  refine st rfl rfl rfl rfl (rLdF rfl rfl rfl) ?_
  iterate 2 refine pu rfl rfl rfl rfl rfl ?_
  refine stg rfl rfl rfl rfl rfl (fun hb => by (have hq := hb; try simp only [zb1, zb2, zb3, zb4, zb5, zb6, zb7, zb8, zb9, zb10] at hq); exact rFld rfl rfl) ?_
  refine stg rfl rfl rfl rfl rfl (fun hb => by (have hq := hb; try simp only [zb1, zb2, zb3, zb4, zb5, zb6, zb7, zb8, zb9, zb10] at hq); exact rLdF rfl (evg rfl hb) rfl) ?_
  refine stg rfl rfl rfl rfl rfl (fun hb => by (have hq := hb; try simp only [zb1, zb2, zb3, zb4, zb5, zb6, zb7, zb8, zb9, zb10] at hq); exact rFld rfl rfl) ?_
  refine stg rfl rfl rfl rfl rfl (fun hb => by (have hq := hb; try simp only [zb1, zb2, zb3, zb4, zb5, zb6, zb7, zb8, zb9, zb10] at hq); exact rLdF rfl (evg rfl hb) rfl) ?_
  refine stg rfl rfl rfl rfl rfl (fun hb => by (have hq := hb; try simp only [zb1, zb2, zb3, zb4, zb5, zb6, zb7, zb8, zb9, zb10] at hq); exact rRem rfl (evg rfl hb) (evg rfl hb) (by omega) (by omega)) ?_
  refine stg rfl rfl rfl rfl rfl (fun hb => by (have hq := hb; try simp only [zb1, zb2, zb3, zb4, zb5, zb6, zb7, zb8, zb9, zb10] at hq); exact rEql rfl (evg rfl hb) rfl) ?_
  refine st rfl rfl rfl rfl (rAndB rfl rfl rfl rfl) ?_
  refine pu rfl rfl rfl rfl rfl ?_
  exact tr_ret ⟨trivial, _, _, rfl, ⟨rfl, rfl⟩, CSub.nil _, trivial⟩

theorem ref_ZArgsE_ent : Enters Try.prog 59 := enters_of Try.func59 (by kernel_rfl) (by kernel_rfl)
theorem ref_ZArgsE (p m : Int) (A : Option Addr) (c : Nat) (mod : List Int) (hl9 : mod.length ≤ 17592186044415) (w : Int) (Aa : Option Addr) (n ca : Nat) (rs : List RowM) (hn : n = rs.length) (h9 : rs.length ≤ 17592186044415) (h8 : ∀ r ∈ rs, r.xs.length ≤ 17592186044415) (he : codC p m mod w rs ≠ 0) (p2 m2 : Int) (Ae : Option Addr) (ce : Nat) (mod2 : List Int) :
    Pure Try.prog 59 #[.agg #[.int .i64 p, .int .i64 m, .slice A mod.length c, .int .i64 w, .slice Aa n ca], .agg #[.int .i64 p2, .int .i64 m2, .slice Ae mod2.length ce]] [ro A (ints mod), ro Aa (hdrs rs), rowsR rs, ro Ae (ints mod2)] (isV (.int .i64 (codC p m mod w rs))) := by
  refine pure_of (args := [.agg #[.int .i64 p, .int .i64 m, .slice A mod.length c, .int .i64 w, .slice Aa n ca], .agg #[.int .i64 p2, .int .i64 m2, .slice Ae mod2.length ce]]) 24 Try.func59 rfl rfl rfl ref_ZArgsE_ent ⟨id, id, id, id, trivial⟩ (fun w0 => ?_)
  refine tr_seq ?_
  refine tr_region fun _ _ _ => ?_
  refine ef rfl rfl (eBox rfl rfl rfl rfl rfl (fun p0 => ?_)) 
  refine ef rfl rfl (eBox rfl rfl rfl rfl rfl (fun p0a => ?_)) 
  refine pu rfl rfl rfl rfl rfl ?_
  refine tr_seq ?_
  refine tr_region fun _ _ _ => ?_
  refine st rfl rfl rfl rfl (rLdS rfl rfl rfl) ?_
  refine ef rfl rfl (eCallV rfl rfl rfl (ref_CCheck p m A c mod hl9 w Aa n ca rs hn h9 h8) ⟨rfl, trivial⟩ ?_) 
  refine pu rfl rfl rfl rfl rfl ?_
  refine tr_seq ?_
  refine tr_seq ?_
  refine tr_region fun _ _ _ => ?_
  iterate 2 refine pu rfl rfl rfl rfl rfl ?_
  refine tr_cond_bool rfl (fun h2 => ?_) (fun h2 => ?_)
  · try simp only [zb1, zb2, zb3, zb4, zb5, zb6, zb7, zb8, zb9, zb10] at h2
    refine tr_seq ?_
    refine tr_region fun _ _ _ => ?_
    iterate 2 refine pu rfl rfl rfl rfl rfl ?_
    exact tr_ret ⟨trivial, _, _, rfl, ⟨rfl, rfl⟩, CSub.nil _, trivial⟩
  · try simp only [zb1, zb2, zb3, zb4, zb5, zb6, zb7, zb8, zb9, zb10] at h2
    omega --done

theorem ref_ZArgsN_ent : Enters Try.prog 59 := enters_of Try.func59 (by kernel_rfl) (by kernel_rfl)
theorem ref_ZArgsN (p m : Int) (A : Option Addr) (c : Nat) (mod : List Int) [hF : IsF p m mod] (w : Int) (Aa : Option Addr) (n ca : Nat) (rs : List RowM) (hn : n = rs.length) (h9 : rs.length ≤ 256) (hc : CodeOk p m mod w rs) (p2 m2 : Int) (Ae : Option Addr) (ce : Nat) (mod2 : List Int) (hl92 : mod2.length ≤ 17592186044415) (hE : ¬ FldR p2 m2 mod2) :
    Pure Try.prog 59 #[.agg #[.int .i64 p, .int .i64 m, .slice A mod.length c, .int .i64 w, .slice Aa n ca], .agg #[.int .i64 p2, .int .i64 m2, .slice Ae mod2.length ce]] [ro A (ints mod), ro Aa (hdrs rs), rowsR rs, ro Ae (ints mod2)] (isV (.int .i64 1)) := by
  have hl9 := hF.short
  have hn1 := hc.n1
  have hn64 := hc.n64
  have hlen := hc.len
  have hgd := hc.good
  have h8 := hgd.h8 (N := 17592186044415) (by omega)
  have hck := hc.zero
  have hce := chkF_no hE
  refine pure_of (args := [.agg #[.int .i64 p, .int .i64 m, .slice A mod.length c, .int .i64 w, .slice Aa n ca], .agg #[.int .i64 p2, .int .i64 m2, .slice Ae mod2.length ce]]) 24 Try.func59 rfl rfl rfl ref_ZArgsN_ent ⟨id, id, id, id, trivial⟩ (fun w0 => ?_)
  refine tr_seq ?_
  refine tr_region fun _ _ _ => ?_
  refine ef rfl rfl (eBox rfl rfl rfl rfl rfl (fun p0 => ?_)) 
  refine ef rfl rfl (eBox rfl rfl rfl rfl rfl (fun p0a => ?_)) 
  refine pu rfl rfl rfl rfl rfl ?_
  refine tr_seq ?_
  refine tr_region fun _ _ _ => ?_
  refine st rfl rfl rfl rfl (rLdS rfl rfl rfl) ?_
  refine ef rfl rfl (eCallV rfl rfl rfl (ref_CCheck _ _ _ _ _ (by omega) w Aa n ca rs hn (by omega) h8) ⟨rfl, trivial⟩ ?_) 
  refine pu rfl rfl rfl rfl rfl ?_
  refine tr_seq ?_
  refine tr_seq ?_
  refine tr_region fun _ _ _ => ?_
  iterate 2 refine pu rfl rfl rfl rfl rfl ?_
  refine tr_cond_bool rfl (fun h2 => ?_) (fun h2 => ?_)
  · try simp only [zb1, zb2, zb3, zb4, zb5, zb6, zb7, zb8, zb9, zb10] at h2
    omega --done
  · try simp only [zb1, zb2, zb3, zb4, zb5, zb6, zb7, zb8, zb9, zb10] at h2
    refine tr_skip ?_
    refine tr_seq ?_
    refine tr_seq ?_
    refine tr_region fun _ _ _ => ?_
    refine st rfl rfl rfl rfl (rLdS rfl rfl rfl) ?_
    refine ef rfl rfl (eCallV rfl rfl rfl (ref_fldCheck p2 m2 Ae ce mod2 hl92) ⟨rfl, trivial⟩ ?_) 
    refine pu rfl rfl rfl rfl rfl ?_
    refine tr_cond_bool rfl (fun h4 => ?_) (fun h4 => ?_)
    · try simp only [zb1, zb2, zb3, zb4, zb5, zb6, zb7, zb8, zb9, zb10] at h4
      refine tr_seq ?_
      refine tr_region fun _ _ _ => ?_
      refine pu rfl rfl rfl rfl rfl ?_
      exact tr_ret ⟨trivial, _, _, rfl, ⟨rfl, rfl⟩, CSub.nil _, trivial⟩
    · try simp only [zb1, zb2, zb3, zb4, zb5, zb6, zb7, zb8, zb9, zb10] at h4
      omega --done

theorem ref_ZArgsM_ent : Enters Try.prog 59 := enters_of Try.func59 (by kernel_rfl) (by kernel_rfl)
theorem ref_ZArgsM (p m : Int) (A : Option Addr) (c : Nat) (mod : List Int) [hF : IsF p m mod] (w : Int) (Aa : Option Addr) (n ca : Nat) (rs : List RowM) (hn : n = rs.length) (h9 : rs.length ≤ 256) (hc : CodeOk p m mod w rs) (p2 m2 : Int) (Ae : Option Addr) (ce : Nat) (mod2 : List Int) (hl92 : mod2.length ≤ 17592186044415) [hE : IsF p2 m2 mod2] (hne : ¬ (p = p2 ∧ m2 % m = 0)) :
    Pure Try.prog 59 #[.agg #[.int .i64 p, .int .i64 m, .slice A mod.length c, .int .i64 w, .slice Aa n ca], .agg #[.int .i64 p2, .int .i64 m2, .slice Ae mod2.length ce]] [ro A (ints mod), ro Aa (hdrs rs), rowsR rs, ro Ae (ints mod2)] (isV (.int .i64 10)) := by
  have hl9 := hF.short
  have hn1 := hc.n1
  have hn64 := hc.n64
  have hlen := hc.len
  have hgd := hc.good
  have h8 := hgd.h8 (N := 17592186044415) (by omega)
  have hck := hc.zero
  have hm1 := hF.m1
  have hce := chkF_ok hE.out
  refine pure_of (args := [.agg #[.int .i64 p, .int .i64 m, .slice A mod.length c, .int .i64 w, .slice Aa n ca], .agg #[.int .i64 p2, .int .i64 m2, .slice Ae mod2.length ce]]) 24 Try.func59 rfl rfl rfl ref_ZArgsM_ent ⟨id, id, id, id, trivial⟩ (fun w0 => ?_)
  refine tr_seq ?_
  refine tr_region fun _ _ _ => ?_
  refine ef rfl rfl (eBox rfl rfl rfl rfl rfl (fun p0 => ?_)) 
  refine ef rfl rfl (eBox rfl rfl rfl rfl rfl (fun p0a => ?_)) 
  refine pu rfl rfl rfl rfl rfl ?_
  refine tr_seq ?_
  refine tr_region fun _ _ _ => ?_
  refine st rfl rfl rfl rfl (rLdS rfl rfl rfl) ?_
  refine ef rfl rfl (eCallV rfl rfl rfl (ref_CCheck _ _ _ _ _ (by omega) w Aa n ca rs hn (by omega) h8) ⟨rfl, trivial⟩ ?_) 
  refine pu rfl rfl rfl rfl rfl ?_
  refine tr_seq ?_
  refine tr_seq ?_
  refine tr_region fun _ _ _ => ?_
  iterate 2 refine pu rfl rfl rfl rfl rfl ?_
  refine tr_cond_bool rfl (fun h2 => ?_) (fun h2 => ?_)
  · try simp only [zb1, zb2, zb3, zb4, zb5, zb6, zb7, zb8, zb9, zb10] at h2
    omega --done
  · try simp only [zb1, zb2, zb3, zb4, zb5, zb6, zb7, zb8, zb9, zb10] at h2
    refine tr_skip ?_
    refine tr_seq ?_
    refine tr_seq ?_
    refine tr_region fun _ _ _ => ?_
    refine st rfl rfl rfl rfl (rLdS rfl rfl rfl) ?_
    refine ef rfl rfl (eCallV rfl rfl rfl (ref_fldCheck p2 m2 Ae ce mod2 hl92) ⟨rfl, trivial⟩ ?_) 
    refine pu rfl rfl rfl rfl rfl ?_
    refine tr_cond_bool rfl (fun h4 => ?_) (fun h4 => ?_)
    · try simp only [zb1, zb2, zb3, zb4, zb5, zb6, zb7, zb8, zb9, zb10] at h4
      omega --done
    · try simp only [zb1, zb2, zb3, zb4, zb5, zb6, zb7, zb8, zb9, zb10] at h4
      refine tr_skip ?_
      refine tr_seq ?_
      refine tr_seq ?_
      refine tr_region fun _ _ _ => ?_
      refine st rfl rfl rfl rfl (rFld rfl rfl) ?_
      refine st rfl rfl rfl rfl (rLdSF rfl rfl) ?_
      refine st rfl rfl rfl rfl (rLdS rfl rfl rfl) ?_
      refine ef rfl rfl (eCallV rfl rfl rfl (ref_Over p m A c mod hm1 p2 m2 Ae ce mod2 hE.m1) ⟨rfl, rfl, trivial⟩ ?_) 
      refine st rfl rfl rfl rfl (rNotB rfl rfl) ?_
      refine tr_cond_bool rfl (fun h6 => ?_) (fun h6 => ?_)
      · try simp only [zb1, zb2, zb3, zb4, zb5, zb6, zb7, zb8, zb9, zb10] at h6
        refine tr_seq ?_
        refine tr_region fun _ _ _ => ?_
        refine pu rfl rfl rfl rfl rfl ?_
        exact tr_ret ⟨trivial, _, _, rfl, ⟨rfl, rfl⟩, CSub.nil _, trivial⟩
      · try simp only [zb1, zb2, zb3, zb4, zb5, zb6, zb7, zb8, zb9, zb10] at h6
        exact absurd (by simpa using h6) hne --done

theorem ref_ZArgsG_ent : Enters Try.prog 59 := enters_of Try.func59 (by kernel_rfl) (by kernel_rfl)
theorem ref_ZArgsG (p m : Int) (A : Option Addr) (c : Nat) (mod : List Int) [hF : IsF p m mod] (w : Int) (Aa : Option Addr) (n ca : Nat) (rs : List RowM) (hn : n = rs.length) (h9 : rs.length ≤ 256) (hc : CodeOk p m mod w rs) (p2 m2 : Int) (Ae : Option Addr) (ce : Nat) (mod2 : List Int) (hl92 : mod2.length ≤ 17592186044415) [hE : IsF p2 m2 mod2] (hpp : p = p2) (hd : m2 % m = 0) :
    Pure Try.prog 59 #[.agg #[.int .i64 p, .int .i64 m, .slice A mod.length c, .int .i64 w, .slice Aa n ca], .agg #[.int .i64 p2, .int .i64 m2, .slice Ae mod2.length ce]] [ro A (ints mod), ro Aa (hdrs rs), rowsR rs, ro Ae (ints mod2)] (isV (.int .i64 (if rootI p2 m2 mod2 w = 0 then 11 else 0))) := by
  have hl9 := hF.short
  have hn1 := hc.n1
  have hn64 := hc.n64
  have hlen := hc.len
  have hgd := hc.good
  have h8 := hgd.h8 (N := 17592186044415) (by omega)
  have hck := hc.zero
  have hm1 := hF.m1
  have hce := chkF_ok hE.out
  refine pure_of (args := [.agg #[.int .i64 p, .int .i64 m, .slice A mod.length c, .int .i64 w, .slice Aa n ca], .agg #[.int .i64 p2, .int .i64 m2, .slice Ae mod2.length ce]]) 24 Try.func59 rfl rfl rfl ref_ZArgsG_ent ⟨id, id, id, id, trivial⟩ (fun w0 => ?_)
  refine tr_seq ?_
  refine tr_region fun _ _ _ => ?_
  refine ef rfl rfl (eBox rfl rfl rfl rfl rfl (fun p0 => ?_)) 
  refine ef rfl rfl (eBox rfl rfl rfl rfl rfl (fun p0a => ?_)) 
  refine pu rfl rfl rfl rfl rfl ?_
  refine tr_seq ?_
  refine tr_region fun _ _ _ => ?_
  refine st rfl rfl rfl rfl (rLdS rfl rfl rfl) ?_
  refine ef rfl rfl (eCallV rfl rfl rfl (ref_CCheck _ _ _ _ _ (by omega) w Aa n ca rs hn (by omega) h8) ⟨rfl, trivial⟩ ?_) 
  refine pu rfl rfl rfl rfl rfl ?_
  refine tr_seq ?_
  refine tr_seq ?_
  refine tr_region fun _ _ _ => ?_
  iterate 2 refine pu rfl rfl rfl rfl rfl ?_
  refine tr_cond_bool rfl (fun h2 => ?_) (fun h2 => ?_)
  · try simp only [zb1, zb2, zb3, zb4, zb5, zb6, zb7, zb8, zb9, zb10] at h2
    omega --done
  · try simp only [zb1, zb2, zb3, zb4, zb5, zb6, zb7, zb8, zb9, zb10] at h2
    refine tr_skip ?_
    refine tr_seq ?_
    refine tr_seq ?_
    refine tr_region fun _ _ _ => ?_
    refine st rfl rfl rfl rfl (rLdS rfl rfl rfl) ?_
    refine ef rfl rfl (eCallV rfl rfl rfl (ref_fldCheck p2 m2 Ae ce mod2 hl92) ⟨rfl, trivial⟩ ?_) 
    refine pu rfl rfl rfl rfl rfl ?_
    refine tr_cond_bool rfl (fun h4 => ?_) (fun h4 => ?_)
    · try simp only [zb1, zb2, zb3, zb4, zb5, zb6, zb7, zb8, zb9, zb10] at h4
      omega --done
    · try simp only [zb1, zb2, zb3, zb4, zb5, zb6, zb7, zb8, zb9, zb10] at h4
      refine tr_skip ?_
      refine tr_seq ?_
      refine tr_seq ?_
      refine tr_region fun _ _ _ => ?_
      refine st rfl rfl rfl rfl (rFld rfl rfl) ?_
      refine st rfl rfl rfl rfl (rLdSF rfl rfl) ?_
      refine st rfl rfl rfl rfl (rLdS rfl rfl rfl) ?_
      refine ef rfl rfl (eCallV rfl rfl rfl (ref_Over p m A c mod hm1 p2 m2 Ae ce mod2 hE.m1) ⟨rfl, rfl, trivial⟩ ?_) 
      refine st rfl rfl rfl rfl (rNotB rfl rfl) ?_
      refine tr_cond_bool rfl (fun h6 => ?_) (fun h6 => ?_)
      · try simp only [zb1, zb2, zb3, zb4, zb5, zb6, zb7, zb8, zb9, zb10] at h6
        exact absurd h6 (by simp [hpp, hd]) --done
      · try simp only [zb1, zb2, zb3, zb4, zb5, zb6, zb7, zb8, zb9, zb10] at h6
        refine tr_skip ?_
        refine tr_seq ?_
        refine tr_seq ?_
        refine tr_region fun _ _ _ => ?_
        refine st rfl rfl rfl rfl (rLdS rfl rfl rfl) ?_
        refine st rfl rfl rfl rfl (rFld rfl rfl) ?_
        refine st rfl rfl rfl rfl (rLdF rfl rfl rfl) ?_
        refine ef rfl rfl (eCallV rfl rfl rfl (ref_Root p2 m2 Ae ce mod2 hE.out w) ⟨rfl, rfl, trivial⟩ ?_) 
        refine pu rfl rfl rfl rfl rfl ?_
        refine tr_cond_bool rfl (fun h8 => ?_) (fun h8 => ?_)
        · try simp only [zb1, zb2, zb3, zb4, zb5, zb6, zb7, zb8, zb9, zb10] at h8
          refine tr_seq ?_
          refine tr_region fun _ _ _ => ?_
          refine pu rfl rfl rfl rfl rfl ?_
          exact tr_ret ⟨trivial, _, _, rfl, ⟨by rw [if_pos (by omega)], rfl⟩, CSub.nil _, trivial⟩
        · try simp only [zb1, zb2, zb3, zb4, zb5, zb6, zb7, zb8, zb9, zb10] at h8
          refine tr_skip ?_
          refine tr_seq ?_
          refine tr_region fun _ _ _ => ?_
          refine pu rfl rfl rfl rfl rfl ?_
          exact tr_ret ⟨trivial, _, _, rfl, ⟨by rw [if_neg (by omega)], rfl⟩, CSub.nil _, trivial⟩

end Go.Proofs.Ytjmojhflnjbgaaa

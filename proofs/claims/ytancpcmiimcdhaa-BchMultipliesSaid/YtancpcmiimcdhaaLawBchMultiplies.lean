/-
  THE LAW BchMultiplies. One sentence: whatever the input, the law returns true and the input reads as it did.
  Conditions: none.
-/
import Derived.Test.YtancpcmiimcdhaaBch2
import Derived.Test.YtancpcmiimcdhaaOpen
set_option linter.unusedSimpArgs false
set_option linter.unusedVariables false
namespace Go.Proofs.Ytancpcmiimcdhaa
open Go.ChangeShapes Go.WideShapes Go.ChangeAt Go.RowKit

theorem law_BchMultiplies_ent : Enters Try.prog 5 := enters_of Try.func5 (by kernel_rfl) (by kernel_rfl)
theorem law_BchMultiplies (n : Int) (A : Option Addr) (c : Nat) (zs : List Int) (z y : Int) (hy0 : 0 ≤ y) (hy1 : y ≤ 255) :
    Pure Try.prog 5 #[.int .i64 n, .slice A zs.length c, .int .i64 z, .int .u8 y] [ro A (ints zs)] (isV (.bool true)) := by
  refine pure_of (args := [.int .i64 n, .slice A zs.length c, .int .i64 z, .int .u8 y]) 170 Try.func5 rfl rfl rfl law_BchMultiplies_ent ⟨id, trivial⟩ (fun w0 => ?_)
  refine tr_seq ?_
  refine tr_region ?_
  refine pu rfl rfl rfl rfl rfl ?_
  refine tr_seq ?_
  refine tr_seq ?_
  refine tr_region ?_
  refine pu rfl rfl rfl rfl rfl ?_
  refine st rfl rfl rfl rfl (rLen rfl rfl) ?_
  iterate 2 refine pu rfl rfl rfl rfl rfl ?_
  refine stg rfl rfl rfl rfl rfl (fun hb => by (have hq := hb; try simp only [zb1, zb2, zb3, zb4, zb5, zb6, zb7, zb8, zb9, zb10] at hq); exact rMove rfl rfl) ?_
  refine stg rfl rfl rfl rfl rfl (fun hb => by (have hq := hb; try simp only [zb1, zb2, zb3, zb4, zb5, zb6, zb7, zb8, zb9, zb10] at hq); exact rLss rfl (evg rfl hb) rfl) ?_
  refine st rfl rfl rfl rfl (rOrB rfl rfl rfl rfl) ?_
  refine pu rfl rfl rfl rfl rfl ?_
  refine stg rfl rfl rfl rfl rfl (fun hb => by (have hq := hb; try simp only [zb1, zb2, zb3, zb4, zb5, zb6, zb7, zb8, zb9, zb10] at hq); exact rMove rfl rfl) ?_
  refine stg rfl rfl rfl rfl rfl (fun hb => by (have hq := hb; try simp only [zb1, zb2, zb3, zb4, zb5, zb6, zb7, zb8, zb9, zb10] at hq); exact rGtr rfl (evg rfl hb) rfl) ?_
  refine st rfl rfl rfl rfl (rOrB rfl rfl rfl rfl) ?_
  refine tr_cond_bool rfl (fun h1 => ?_) (fun h1 => ?_)
  · try simp only [zb1, zb2, zb3, zb4, zb5, zb6, zb7, zb8, zb9, zb10] at h1
    refine tr_seq ?_
    refine tr_region ?_
    refine pu rfl rfl rfl rfl rfl ?_
    exact tr_ret ⟨trivial, _, _, rfl, ⟨rfl, rfl⟩, CSub.nil _, trivial⟩
  · try simp only [zb1, zb2, zb3, zb4, zb5, zb6, zb7, zb8, zb9, zb10] at h1
    refine tr_skip ?_
    refine tr_seq ?_
    refine tr_region ?_
    iterate 2 refine pu rfl rfl rfl rfl rfl ?_
    refine ef rfl rfl (eCall0 rfl rfl rfl (bch_Bound _ _ _ _ (by omega)) ⟨rfl, rfl, trivial⟩ ?_) 
    rintro _ ⟨b3, s3, t3, c3, x3, m3, e3, rfl, hB3⟩
    iterate 4 refine pu rfl rfl rfl rfl rfl ?_
    refine ef rfl rfl (eAlloc rfl rfl rfl (fun p3a => ?_)) 
    refine pu rfl rfl rfl rfl rfl ?_
    refine ef rfl rfl (eStS rfl rfl rfl rfl rfl rfl ?_) 
    refine pu rfl rfl rfl rfl rfl ?_
    refine tr_seq ?_
    refine tr_region ?_
    iterate 2 refine pu rfl rfl rfl rfl rfl ?_
    refine ef rfl rfl (eCall0 rfl rfl rfl (bch_Tzeng _ _ _ _ (by omega)) ⟨rfl, rfl, trivial⟩ ?_) 
    rintro _ ⟨b4, s4, t4, c4, x4, m4, e4, rfl, hB4⟩
    iterate 4 refine pu rfl rfl rfl rfl rfl ?_
    refine ef rfl rfl (eAlloc rfl rfl rfl (fun p4a => ?_)) 
    refine pu rfl rfl rfl rfl rfl ?_
    refine ef rfl rfl (eStS rfl rfl rfl rfl rfl rfl ?_) 
    refine pu rfl rfl rfl rfl rfl ?_
    refine tr_seq ?_
    refine tr_region ?_
    refine pu rfl rfl rfl rfl rfl ?_
    refine ef rfl rfl (eLit0I rfl rfl rfl  (fun A5 => ?_)) 
    refine pu rfl rfl rfl rfl rfl ?_
    refine ef rfl rfl (eAppI rfl rfl rfl rfl rfl (by first | rfl | simp) (by first | rfl | simp) (by first | omega | (simp; omega)) (fun A5a c5a => ?_)) 
    refine pu rfl rfl rfl rfl rfl ?_
    refine ef rfl rfl (eLit1I rfl rfl rfl rfl (fun A5b => ?_)) 
    refine ef rfl rfl (eAppI rfl rfl rfl rfl rfl (by first | rfl | simp) (by first | rfl | simp) (by first | omega | (simp; omega)) (fun A5c c5c => ?_)) 
    refine ef rfl rfl (eCall0 rfl rfl rfl (bch_Bound _ _ _ ([] ++ zs ++ [z]) (by simp; omega)) ⟨rfl, rfl, trivial⟩ ?_) 
    rintro _ ⟨b5d, s5d, t5d, c5d, x5d, m5d, e5d, rfl, hB5d⟩
    iterate 4 refine pu rfl rfl rfl rfl rfl ?_
    refine ef rfl rfl (eAlloc rfl rfl rfl (fun p5e => ?_)) 
    refine pu rfl rfl rfl rfl rfl ?_
    refine ef rfl rfl (eStS rfl rfl rfl rfl rfl rfl ?_) 
    refine pu rfl rfl rfl rfl rfl ?_
    refine tr_seq ?_
    refine tr_region ?_
    refine pu rfl rfl rfl rfl rfl ?_
    refine ef rfl rfl (eLit0I rfl rfl rfl  (fun A6 => ?_)) 
    refine pu rfl rfl rfl rfl rfl ?_
    refine ef rfl rfl (eAppI rfl rfl rfl rfl rfl (by first | rfl | simp) (by first | rfl | simp) (by first | omega | (simp; omega)) (fun A6a c6a => ?_)) 
    refine pu rfl rfl rfl rfl rfl ?_
    refine ef rfl rfl (eLit1I rfl rfl rfl rfl (fun A6b => ?_)) 
    refine ef rfl rfl (eAppI rfl rfl rfl rfl rfl (by first | rfl | simp) (by first | rfl | simp) (by first | omega | (simp; omega)) (fun A6c c6c => ?_)) 
    refine ef rfl rfl (eCall0 rfl rfl rfl (bch_Tzeng _ _ _ ([] ++ zs ++ [z]) (by simp; omega)) ⟨rfl, rfl, trivial⟩ ?_) 
    rintro _ ⟨b6d, s6d, t6d, c6d, x6d, m6d, e6d, rfl, hB6d⟩
    iterate 4 refine pu rfl rfl rfl rfl rfl ?_
    refine ef rfl rfl (eAlloc rfl rfl rfl (fun p6e => ?_)) 
    refine pu rfl rfl rfl rfl rfl ?_
    refine ef rfl rfl (eStS rfl rfl rfl rfl rfl rfl ?_) 
    refine pu rfl rfl rfl rfl rfl ?_
    refine tr_seq ?_
    refine tr_seq ?_
    rcases hB3 with ⟨hbad, _⟩ | ⟨_, rfl, hb3, _⟩
    · omega
    rcases hB4 with ⟨hbad, _⟩ | ⟨_, rfl, hb4, _⟩
    · omega
    rcases hB5d with ⟨hbad, _⟩ | ⟨_, rfl, hb5, _⟩
    · omega
    rcases hB6d with ⟨hbad, _⟩ | ⟨_, rfl, hb6, _⟩
    · omega
    have i1 := hb3.one
    have i2 := hb3.le hb4 (fun s t c x m hv => ⟨s, t, x, hv.mono (fun z hz => hz) (by omega)⟩)
    have i3 := hb3.le hb5 (fun s t c x m hv => ⟨s, t, x, hv.mono (fun z hz => by simp [hz]) (by omega)⟩)
    have i4 := hb4.le hb6 (fun s t c x m hv => ⟨s, t, x, hv.mono (fun z hz => by simp [hz]) (by omega)⟩)
    have i5 := hb5.two (z := z) (by omega) (by omega) (by simp)
    refine tr_region ?_
    iterate 3 refine pu rfl rfl rfl rfl rfl ?_
    refine stg rfl rfl rfl rfl rfl (fun hb => by (have hq := hb; try simp only [zb1, zb2, zb3, zb4, zb5, zb6, zb7, zb8, zb9, zb10] at hq); exact rMove rfl rfl) ?_
    refine stg rfl rfl rfl rfl rfl (fun hb => by (have hq := hb; try simp only [zb1, zb2, zb3, zb4, zb5, zb6, zb7, zb8, zb9, zb10] at hq); exact rNeq rfl (evg rfl hb) rfl) ?_
    refine st rfl rfl rfl rfl (rOrB rfl rfl rfl rfl) ?_
    refine pu rfl rfl rfl rfl rfl ?_
    refine stg rfl rfl rfl rfl rfl (fun hb => by (have hq := hb; try simp only [zb1, zb2, zb3, zb4, zb5, zb6, zb7, zb8, zb9, zb10] at hq); exact rMove rfl rfl) ?_
    refine stg rfl rfl rfl rfl rfl (fun hb => by (have hq := hb; try simp only [zb1, zb2, zb3, zb4, zb5, zb6, zb7, zb8, zb9, zb10] at hq); exact rNeq rfl (evg rfl hb) rfl) ?_
    refine st rfl rfl rfl rfl (rOrB rfl rfl rfl rfl) ?_
    refine pu rfl rfl rfl rfl rfl ?_
    refine stg rfl rfl rfl rfl rfl (fun hb => by (have hq := hb; try simp only [zb1, zb2, zb3, zb4, zb5, zb6, zb7, zb8, zb9, zb10] at hq); exact rMove rfl rfl) ?_
    refine stg rfl rfl rfl rfl rfl (fun hb => by (have hq := hb; try simp only [zb1, zb2, zb3, zb4, zb5, zb6, zb7, zb8, zb9, zb10] at hq); exact rNeq rfl (evg rfl hb) rfl) ?_
    refine st rfl rfl rfl rfl (rOrB rfl rfl rfl rfl) ?_
    refine pu rfl rfl rfl rfl rfl ?_
    refine stg rfl rfl rfl rfl rfl (fun hb => by (have hq := hb; try simp only [zb1, zb2, zb3, zb4, zb5, zb6, zb7, zb8, zb9, zb10] at hq); exact rMove rfl rfl) ?_
    refine stg rfl rfl rfl rfl rfl (fun hb => by (have hq := hb; try simp only [zb1, zb2, zb3, zb4, zb5, zb6, zb7, zb8, zb9, zb10] at hq); exact rLss rfl (evg rfl hb) rfl) ?_
    refine st rfl rfl rfl rfl (rOrB rfl rfl rfl rfl) ?_
    refine pu rfl rfl rfl rfl rfl ?_
    refine stg rfl rfl rfl rfl rfl (fun hb => by (have hq := hb; try simp only [zb1, zb2, zb3, zb4, zb5, zb6, zb7, zb8, zb9, zb10] at hq); exact rMove rfl rfl) ?_
    refine stg rfl rfl rfl rfl rfl (fun hb => by (have hq := hb; try simp only [zb1, zb2, zb3, zb4, zb5, zb6, zb7, zb8, zb9, zb10] at hq); exact rMove rfl rfl) ?_
    refine stg rfl rfl rfl rfl rfl (fun hb => by (have hq := hb; try simp only [zb1, zb2, zb3, zb4, zb5, zb6, zb7, zb8, zb9, zb10] at hq); exact rLss rfl (evg rfl hb) (evg rfl hb)) ?_
    refine st rfl rfl rfl rfl (rOrB rfl rfl rfl rfl) ?_
    refine pu rfl rfl rfl rfl rfl ?_
    refine stg rfl rfl rfl rfl rfl (fun hb => by (have hq := hb; try simp only [zb1, zb2, zb3, zb4, zb5, zb6, zb7, zb8, zb9, zb10] at hq); exact rMove rfl rfl) ?_
    refine stg rfl rfl rfl rfl rfl (fun hb => by (have hq := hb; try simp only [zb1, zb2, zb3, zb4, zb5, zb6, zb7, zb8, zb9, zb10] at hq); exact rMove rfl rfl) ?_
    refine stg rfl rfl rfl rfl rfl (fun hb => by (have hq := hb; try simp only [zb1, zb2, zb3, zb4, zb5, zb6, zb7, zb8, zb9, zb10] at hq); exact rLss rfl (evg rfl hb) (evg rfl hb)) ?_
    refine st rfl rfl rfl rfl (rOrB rfl rfl rfl rfl) ?_
    refine pu rfl rfl rfl rfl rfl ?_
    refine stg rfl rfl rfl rfl rfl (fun hb => by (have hq := hb; try simp only [zb1, zb2, zb3, zb4, zb5, zb6, zb7, zb8, zb9, zb10] at hq); exact rMove rfl rfl) ?_
    refine stg rfl rfl rfl rfl rfl (fun hb => by (have hq := hb; try simp only [zb1, zb2, zb3, zb4, zb5, zb6, zb7, zb8, zb9, zb10] at hq); exact rMove rfl rfl) ?_
    refine stg rfl rfl rfl rfl rfl (fun hb => by (have hq := hb; try simp only [zb1, zb2, zb3, zb4, zb5, zb6, zb7, zb8, zb9, zb10] at hq); exact rLss rfl (evg rfl hb) (evg rfl hb)) ?_
    refine st rfl rfl rfl rfl (rOrB rfl rfl rfl rfl) ?_
    refine pu rfl rfl rfl rfl rfl ?_
    refine stg rfl rfl rfl rfl rfl (fun hb => by (have hq := hb; try simp only [zb1, zb2, zb3, zb4, zb5, zb6, zb7, zb8, zb9, zb10] at hq); exact rMove rfl rfl) ?_
    refine stg rfl rfl rfl rfl rfl (fun hb => by (have hq := hb; try simp only [zb1, zb2, zb3, zb4, zb5, zb6, zb7, zb8, zb9, zb10] at hq); exact rLss rfl (evg rfl hb) rfl) ?_
    refine st rfl rfl rfl rfl (rOrB rfl rfl rfl rfl) ?_
    refine tr_cond_bool rfl (fun h7 => ?_) (fun h7 => ?_)
    · try simp only [zb1, zb2, zb3, zb4, zb5, zb6, zb7, zb8, zb9, zb10] at h7
      exfalso
      have j1 : ¬ b3 < 1 := by omega
      have j2 : ¬ b4 < b3 := by omega
      have j3 : ¬ b5d < b3 := by omega
      have j4 : ¬ b6d < b4 := by omega
      have j5 : ¬ b5d < 2 := by omega
      simp [j1, j2, j3, j4, j5] at h7 --done
    · try simp only [zb1, zb2, zb3, zb4, zb5, zb6, zb7, zb8, zb9, zb10] at h7
      skip
      refine tr_skip ?_
      refine tr_seq ?_
      refine tr_seq ?_
      have he2 := Int.emod_nonneg y (show n ≠ 0 by omega)
      refine tr_region ?_
      refine pu rfl rfl rfl rfl rfl ?_
      refine st rfl rfl rfl rfl (rConv rfl undU8 undI rfl (IntWalk.i64_in _ ⟨by omega, by omega⟩)) ?_
      refine pu rfl rfl rfl rfl rfl ?_
      refine ef rfl rfl (eCallV rfl rfl rfl (ref_mod _ _ (by omega) (by omega)) ⟨rfl, rfl, trivial⟩ ?_) 
      refine pu rfl rfl rfl rfl rfl ?_
      refine ef rfl rfl (eCallV rfl rfl rfl (ref_Gcd _ _ (by omega) (by omega)) ⟨rfl, rfl, trivial⟩ ?_) 
      refine pu rfl rfl rfl rfl rfl ?_
      refine tr_cond_bool rfl (fun h9 => ?_) (fun h9 => ?_)
      · try simp only [zb1, zb2, zb3, zb4, zb5, zb6, zb7, zb8, zb9, zb10] at h9
        refine tr_seq ?_
        refine tr_region ?_
        refine pu rfl rfl rfl rfl rfl ?_
        exact tr_ret ⟨trivial, _, _, rfl, ⟨rfl, rfl⟩, CSub.nil _, trivial⟩
      · try simp only [zb1, zb2, zb3, zb4, zb5, zb6, zb7, zb8, zb9, zb10] at h9
        refine tr_skip ?_
        refine tr_seq ?_
        refine tr_region ?_
        refine pu rfl rfl rfl rfl rfl ?_
        refine tr_seq ?_
        refine tr_seq ?_
        refine tr_region ?_
        refine pu rfl rfl rfl rfl rfl ?_
        refine tr_block ?_
        refine tr_nil 3 ?_
        refine tr_loop3 (fun (k : Int) (B : Option Addr) (cap : Nat) => [(0, .int .i64 n), (1, .slice A zs.length c), (3, .int .u8 y), (9, .int .i64 b3), (12, .int .i64 b4), (21, .slice B (turned n y (zs.take k.toNat)).length cap), (22, .int .i64 k)]) (fun (k : Int) (B : Option Addr) (cap : Nat) => [ow B 3 cap (ints (turned n y (zs.take k.toNat))), ro A (ints zs)]) (fun (k : Int) (B : Option Addr) (cap : Nat) => 0 ≤ k ∧ k ≤ zs.length) (fun (k : Int) (B : Option Addr) (cap : Nat) => (zs.length - k).toNat) (0) (none) (0) ⟨rfl, rfl, rfl, rfl, rfl, rfl, rfl, trivial⟩ (by show CSub _ [ow none 3 0 [], ro A (ints zs)]; exact cs _ _) (⟨by omega, by omega⟩) (fun k B cap hI => ?_)
        obtain ⟨hk0, hk1⟩ := hI
        have htl : (turned n y (zs.take k.toNat)).length = k.toNat := by simp [turned]; omega
        have he0 := Int.emod_nonneg (zs.getD k.toNat 0) (show n ≠ 0 by omega)
        have he1 := Int.emod_lt_of_pos (zs.getD k.toNat 0) (show 0 < n by omega)
        have hp := mul_bd0 (zs.getD k.toNat 0 % n) y 64 255 (by omega) (by omega) (by omega) (by omega)
        refine tr_seq ?_
        refine tr_seq ?_
        refine tr_region ?_
        iterate 2 refine pu rfl rfl rfl rfl rfl ?_
        refine st rfl rfl rfl rfl (rLen rfl rfl) ?_
        refine pu rfl rfl rfl rfl rfl ?_
        refine tr_cond_bool rfl (fun h13 => ?_) (fun h13 => ?_)
        · try simp only [zb1, zb2, zb3, zb4, zb5, zb6, zb7, zb8, zb9, zb10] at h13
          refine tr_skip ?_
          refine tr_seq ?_
          refine tr_block ?_
          refine tr_region ?_
          iterate 3 refine pu rfl rfl rfl rfl rfl ?_
          refine st rfl rfl rfl rfl (rIdxI rfl rfl rfl (by omega) (by omega) (by omega)) ?_
          refine st rfl rfl rfl rfl (rLdI rfl rfl (by omega)) ?_
          refine pu rfl rfl rfl rfl rfl ?_
          refine ef rfl rfl (eCallV rfl rfl rfl (ref_mod _ _ (by omega) (by omega)) ⟨rfl, rfl, trivial⟩ ?_) 
          refine pu rfl rfl rfl rfl rfl ?_
          refine st rfl rfl rfl rfl (rConv rfl undU8 undI rfl (IntWalk.i64_in _ ⟨by omega, by omega⟩)) ?_
          refine st rfl rfl rfl rfl (rMul rfl rfl rfl (by omega) (by omega)) ?_
          refine ef rfl rfl (eLit1I rfl rfl rfl rfl (fun A15a => ?_)) 
          refine ef rfl rfl (eAppI rfl rfl rfl rfl rfl (by first | rfl | simp) (by first | rfl | simp) (by first | omega | (simp; omega)) (fun A15b c15b => ?_)) 
          refine pu rfl rfl rfl rfl rfl ?_
          refine tr_region ?_
          rw [← turned_snoc, ← take_next 0 zs k hk0 (by omega)]
          refine pu rfl rfl rfl rfl rfl ?_
          refine st rfl rfl rfl rfl (rAdd rfl rfl rfl (by omega) (by omega)) ?_
          refine pu rfl rfl rfl rfl rfl ?_
          refine ⟨k + 1, A15b, c15b, ⟨rfl, rfl, rfl, rfl, rfl, rfl, rfl, trivial⟩, by first | exact cs _ _ | exact CSub.refl _, ?_⟩
          exact ⟨⟨by omega, by omega⟩, by omega⟩
        · try simp only [zb1, zb2, zb3, zb4, zb5, zb6, zb7, zb8, zb9, zb10] at h13
          refine tr_exit ?_
          refine tr_seq ?_
          rw [take_len zs k (by omega)]
          have htl2 : (turned n y zs).length = zs.length := by simp [turned]
          refine tr_region ?_
          iterate 2 refine pu rfl rfl rfl rfl rfl ?_
          refine ef rfl rfl (eCall0 rfl rfl rfl (bch_Bound _ _ _ (turned n y zs) (by omega)) ⟨rfl, rfl, trivial⟩ ?_) 
          rintro _ ⟨b16, s16, t16, c16, x16, m16, e16, rfl, hB16⟩
          iterate 4 refine pu rfl rfl rfl rfl rfl ?_
          refine ef rfl rfl (eAlloc rfl rfl rfl (fun p16a => ?_)) 
          refine pu rfl rfl rfl rfl rfl ?_
          refine ef rfl rfl (eStS rfl rfl rfl rfl rfl rfl ?_) 
          refine pu rfl rfl rfl rfl rfl ?_
          refine tr_seq ?_
          refine tr_region ?_
          iterate 2 refine pu rfl rfl rfl rfl rfl ?_
          refine ef rfl rfl (eCall0 rfl rfl rfl (bch_Tzeng _ _ _ (turned n y zs) (by omega)) ⟨rfl, rfl, trivial⟩ ?_) 
          rintro _ ⟨b17, s17, t17, c17, x17, m17, e17, rfl, hB17⟩
          iterate 4 refine pu rfl rfl rfl rfl rfl ?_
          refine ef rfl rfl (eAlloc rfl rfl rfl (fun p17a => ?_)) 
          refine pu rfl rfl rfl rfl rfl ?_
          refine ef rfl rfl (eStS rfl rfl rfl rfl rfl rfl ?_) 
          refine pu rfl rfl rfl rfl rfl ?_
          refine tr_seq ?_
          rcases hB16 with ⟨hbad, _⟩ | ⟨_, rfl, hb16, _⟩
          · omega
          rcases hB17 with ⟨hbad, _⟩ | ⟨_, rfl, hb17, _⟩
          · omega
          have hyn : Int.gcd y n = 1 := by rw [gcd_emod] at h9; omega
          have j1 := hb3.turned (by omega) hyn hb16
          have j2 := hb4.turned (by omega) hyn hb17
          refine tr_region ?_
          iterate 3 refine pu rfl rfl rfl rfl rfl ?_
          refine stg rfl rfl rfl rfl rfl (fun hb => by (have hq := hb; try simp only [zb1, zb2, zb3, zb4, zb5, zb6, zb7, zb8, zb9, zb10] at hq); exact rMove rfl rfl) ?_
          refine stg rfl rfl rfl rfl rfl (fun hb => by (have hq := hb; try simp only [zb1, zb2, zb3, zb4, zb5, zb6, zb7, zb8, zb9, zb10] at hq); exact rEql rfl (evg rfl hb) rfl) ?_
          refine st rfl rfl rfl rfl (rAndB rfl rfl rfl rfl) ?_
          refine pu rfl rfl rfl rfl rfl ?_
          refine stg rfl rfl rfl rfl rfl (fun hb => by (have hq := hb; try simp only [zb1, zb2, zb3, zb4, zb5, zb6, zb7, zb8, zb9, zb10] at hq); exact rMove rfl rfl) ?_
          refine stg rfl rfl rfl rfl rfl (fun hb => by (have hq := hb; try simp only [zb1, zb2, zb3, zb4, zb5, zb6, zb7, zb8, zb9, zb10] at hq); exact rMove rfl rfl) ?_
          refine stg rfl rfl rfl rfl rfl (fun hb => by (have hq := hb; try simp only [zb1, zb2, zb3, zb4, zb5, zb6, zb7, zb8, zb9, zb10] at hq); exact rEql rfl (evg rfl hb) (evg rfl hb)) ?_
          refine st rfl rfl rfl rfl (rAndB rfl rfl rfl rfl) ?_
          refine pu rfl rfl rfl rfl rfl ?_
          refine stg rfl rfl rfl rfl rfl (fun hb => by (have hq := hb; try simp only [zb1, zb2, zb3, zb4, zb5, zb6, zb7, zb8, zb9, zb10] at hq); exact rMove rfl rfl) ?_
          refine stg rfl rfl rfl rfl rfl (fun hb => by (have hq := hb; try simp only [zb1, zb2, zb3, zb4, zb5, zb6, zb7, zb8, zb9, zb10] at hq); exact rMove rfl rfl) ?_
          refine stg rfl rfl rfl rfl rfl (fun hb => by (have hq := hb; try simp only [zb1, zb2, zb3, zb4, zb5, zb6, zb7, zb8, zb9, zb10] at hq); exact rEql rfl (evg rfl hb) (evg rfl hb)) ?_
          refine st rfl rfl rfl rfl (rAndB rfl rfl rfl rfl) ?_
          refine pu rfl rfl rfl rfl rfl ?_
          exact tr_ret ⟨trivial, _, _, rfl, ⟨by simp [j1, j2], rfl⟩, CSub.nil _, trivial⟩


namespace lawBchMultiplies
theorem own : ownKnob Try.prog.godebug = none := by kernel_rfl
theorem laidOut : laidOutB Try.prog = true := by kernel_rfl
set_option maxRecDepth 100000 in
theorem lifted (os : Os) (started : os.Started) (H : Type) (enc : TypeId × Value → H) :
    ReturnsInHanded {} Try.checked os 5 .any (Rows.bchMultipliesSpec.pre6 enc Try.prog Try.f5 Rows.bchMultipliesRow.domain false) (Rows.bchMultipliesSpec.post enc Try.prog Try.f5 false true false false) := by
  refine returnsInHanded_of_change_sized (C := Try.checked) own started (by kernel_rfl) Try.func5
    (ChangeSpec.witness6 (enc := enc) (C := Try.checked) false ⟨#[], #[.int .i64 0, .slice none 0 0, .int .i64 0, .int .u8 0], []⟩ 8 (by kernel_rfl) (by kernel_rfl) (by kernel_rfl) (by kernel_rfl)) ?_
  intro W base args ds gs before hval0 hW hcnd hsz _
  have hval : ∀ (j : Nat) t v, Try.f5.params[j]? = some t → args[j]? = some v → Value.okWide Try.prog W .any base t v := hval0
  have hW' := hW
  obtain ⟨p, q, hA0, hV, rfl, hfz, hnd⟩ := hW
  have hA : DataW.TrodAll enc Try.prog W 0 (fun _ => true) true Try.f5.params.toList args.toList ds p := hA0
  rw [Try.params5] at hA hval
  obtain ⟨v0, vs0, d0, ds0, p0, q0, hargs, rfl, rfl, h0, r0⟩ := trodAll_cons hA
  obtain ⟨v1, vs1, d1, ds1, p1, q1, rfl, rfl, rfl, h1, r1⟩ := trodAll_cons r0
  obtain ⟨v2, vs2, d2, ds2, p2, q2, rfl, rfl, rfl, h2, r2⟩ := trodAll_cons r1
  obtain ⟨v3, vs3, d3, ds3, p3, q3, rfl, rfl, rfl, h3, r3⟩ := trodAll_cons r2
  obtain ⟨rfl, rfl, rfl⟩ := trodAll_nil r3
  obtain rfl : args = #[v0, v1, v2, v3] := by cases args; simp_all
  obtain ⟨rfl, rfl⟩ := trodVars_none hV
  have k0 := h0
  have lt0 : ∀ x ∈ p0, x.block < W.heap.size := by obtain ⟨m, hm⟩ := k0; exact DataW.trod_lt m _ _ _ hm
  have k1 := h1
  have lt1 : ∀ x ∈ p1, x.block < W.heap.size := by obtain ⟨m, hm⟩ := k1; exact DataW.trod_lt m _ _ _ hm
  have k2 := h2
  have lt2 : ∀ x ∈ p2, x.block < W.heap.size := by obtain ⟨m, hm⟩ := k2; exact DataW.trod_lt m _ _ _ hm
  have k3 := h3
  have lt3 : ∀ x ∈ p3, x.block < W.heap.size := by obtain ⟨m, hm⟩ := k3; exact DataW.trod_lt m _ _ _ hm
  obtain ⟨n0, rfl, fn0⟩ := get_I Try.underlying3 (hval 0 3 v0 rfl rfl) h0
  obtain ⟨A1, c1, xs1, w1⟩ := get_IS Try.underlying22 Try.underlying3 (by kernel_rfl) (hval 1 22 v1 rfl rfl) h1
  obtain rfl := w1.val
  obtain ⟨n2, rfl, fn2⟩ := get_I Try.underlying3 (hval 2 3 v2 rfl rfl) h2
  obtain ⟨n3, rfl, fn3⟩ := get_U8 Try.underlying5 (hval 3 5 v3 rfl rfl) h3
  clear hA0 hval0
  have hlaw := law_BchMultiplies n0 A1 c1 xs1 n2 n3 fn3.1 fn3.2
  have hsat : ∀ ch ∈ [ro A1 (ints xs1)], ch.sat W := fun ch hc => by
    simp only [List.mem_singleton] at hc
    subst hc
    exact w1.sat
  refine (hlaw.run W hsat).mono fun e W' ⟨v, Fo, he, bel, hv, _⟩ => ?_
  obtain ⟨rfl, _⟩ := hv
  subst he
  exact ⟨_, rfl, _, _, _, [], _, [], hW', trodAll_mk1 (shut_bool Try.underlying4 _), (trodAll_cons_mk (Below.trod laidOut (by kernel_rfl) (of_decide_eq_true (by kernel_rfl)) k0 bel lt0) (trodAll_cons_mk (Below.trod laidOut (by kernel_rfl) (of_decide_eq_true (by kernel_rfl)) k1 bel lt1) (trodAll_cons_mk (Below.trod laidOut (by kernel_rfl) (of_decide_eq_true (by kernel_rfl)) k2 bel lt2) (trodAll_cons_mk (Below.trod laidOut (by kernel_rfl) (of_decide_eq_true (by kernel_rfl)) k3 bel lt3) trodAll_mk0)))), rfl, bel.frame _, fun h => by cases h⟩

theorem proved : Rows.BchMultipliesSaid :=
  OpenClaim.holds_of_wide 5 Try.f5 rfl rfl rfl rfl rfl rfl rfl ⟨rfl, rfl, rfl, rfl, rfl⟩ rfl rfl rfl rfl rfl (by kernel_rfl) Try.func5 (by kernel_rfl)
    (of_decide_eq_true (by kernel_rfl)) (by unfold Func.isWrapper; first | (rw [if_pos (by decide +kernel)]; kernel_rfl) | (rw [if_neg (by decide +kernel)]; exact ⟨rfl, rfl⟩))
    (fun os started H enc _ => lifted os started H enc)
end lawBchMultiplies

end Go.Proofs.Ytancpcmiimcdhaa

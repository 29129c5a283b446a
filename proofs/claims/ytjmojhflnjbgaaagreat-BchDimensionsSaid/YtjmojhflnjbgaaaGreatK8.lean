/-
  BCHDIMENSIONS, PART 8 OF 9. One sentence: the texts behind the law BchDimensions, put together.
  Conditions: each theorem's own, written out in it.
-/
import Derived.Test.YtjmojhflnjbgaaaGreatK7
set_option linter.unusedSimpArgs false
set_option linter.unusedVariables false
set_option linter.unusedSectionVars false
set_option linter.unusedSimpArgs false
set_option linter.unusedVariables false
set_option maxRecDepth 100000
namespace Go.Proofs.YtjmojhflnjbgaaaGreat
open Go.RowKit
theorem law_BchDimensions_G_ent : Enters Tryz.prog 15 := enters_of Tryz.func15 (by kernel_rfl) (by kernel_rfl)
theorem law_BchDimensions_G (p m : Int) (A : Option Addr) (c : Nat) (mod : List Int) [hF : IsF p m mod] (m2 : Int) (Ae : Option Addr) (ce : Nat) (mod2 : List Int) [hE : IsF p m2 mod2] (hd : m2 % m = 0) (n : Int) (hn1 : 1 ≤ n) (hn64 : n ≤ 64) (hr : rootI p m2 mod2 n ≠ 0) (Z : Option Addr) (cz : Nat) (zs : List Int) (hz : zs.length ≤ 40) (hn31 : n ≤ 31) :
    Pure Tryz.prog 15 #[.agg #[.int .i64 p, .int .i64 m, .slice A mod.length c], .agg #[.int .i64 p, .int .i64 m2, .slice Ae mod2.length ce], .int .i64 n, .slice Z zs.length cz] [ro A (ints mod), ro Ae (ints mod2), ro Z (ints zs)] (isV (.bool true)) := by
  have hl8 := hF.short
  have hl82 := hE.short
  have hq2 := hF.q2
  have hq9 := hF.out.1.1.q
  have hra : rootArgs p m2 mod2 n = 0 := by rw [rootArgs_is hE.out hn1 hn64, if_neg hr]
  have hor : ordI p m = pw p m := hF.ord
  have hgc := ord_gcd hF (root_ord (p := p) (m2 := m2) (mod2 := mod2) hn1 hr) hd
  have hcl := clsL_length (pw p m) n zs
  refine pure_of (args := [.agg #[.int .i64 p, .int .i64 m, .slice A mod.length c], .agg #[.int .i64 p, .int .i64 m2, .slice Ae mod2.length ce], .int .i64 n, .slice Z zs.length cz]) 86 Tryz.func15 rfl rfl rfl law_BchDimensions_G_ent ⟨id, id, id, trivial⟩ (fun w0 => ?_)
  refine tr_seq ?_
  refine tr_region fun _ _ _ => ?_
  refine ef rfl rfl (eBox rfl rfl rfl rfl rfl (fun p0 => ?_)) 
  refine ef rfl rfl (eBox rfl rfl rfl rfl rfl (fun p0a => ?_)) 
  refine pu rfl rfl rfl rfl rfl ?_
  refine tr_seq ?_
  refine tr_seq ?_
  refine tr_region fun _ _ _ => ?_
  refine pu rfl rfl rfl rfl rfl ?_
  refine st rfl rfl rfl rfl (rLen rfl rfl) ?_
  iterate 2 refine pu rfl rfl rfl rfl rfl ?_
  refine stg rfl rfl rfl rfl rfl (fun hb => by (have hq := hb; try simp only [zbA] at hq); exact rMove rfl rfl) ?_
  refine stg rfl rfl rfl rfl rfl (fun hb => by (have hq := hb; try simp only [zbA] at hq); exact rGtr rfl (evg rfl hb) rfl) ?_
  refine st rfl rfl rfl rfl (rOrB rfl rfl rfl rfl) ?_
  refine pu rfl rfl rfl rfl rfl ?_
  refine stg rfl rfl rfl rfl rfl (fun hb => by (have hq := hb; try simp only [zbA] at hq); exact rLdS rfl rfl rfl) ?_
  refine stg rfl rfl rfl rfl rfl (fun hb => by (have hq := hb; try simp only [zbA] at hq); exact rLdS rfl rfl rfl) ?_
  refine stg rfl rfl rfl rfl rfl (fun hb => by (have hq := hb; try simp only [zbA] at hq); exact rMove rfl rfl) ?_
  refine efg rfl rfl rfl rfl rfl (fun hb => by (have hq := hb; try simp only [zbA] at hq); exact eCallV rfl rfl rfl (ref_FArgsG p m A c mod m2 Ae ce mod2 hd n hn1 hn64) ⟨(evg rfl hb), (evg rfl hb), (evg rfl hb), trivial⟩ ⟨rfl, rfl⟩) ?_
  refine stg rfl rfl rfl rfl rfl (fun hb => by (have hq := hb; try simp only [zbA] at hq); exact rNeq rfl (evg rfl hb) rfl) ?_
  refine st rfl rfl rfl rfl (rOrB rfl rfl rfl rfl) ?_
  refine tr_cond_bool rfl (fun h1 => ?_) (fun h1 => ?_)
  · try simp only [zbA] at h1
    exact absurd h1 (by simp [hr]; omega) --done
  · try simp only [zbA] at h1
    refine tr_skip ?_
    refine tr_seq ?_
    refine tr_region fun _ _ _ => ?_
    refine st rfl rfl rfl rfl (rLdS rfl rfl rfl) ?_
    refine st rfl rfl rfl rfl (rLdS rfl rfl rfl) ?_
    iterate 2 refine pu rfl rfl rfl rfl rfl ?_
    refine ef rfl rfl (eCall3 rfl rfl rfl (bch_FromZeros p m A c mod m2 Ae ce mod2 hd n hn1 hn64 hr Z cz zs (by omega)) ⟨rfl, rfl, rfl, rfl, trivial⟩ ?_) 
    rintro _ _ _ _ ⟨Bm, cm, B, r3, rfl, rfl, rfl, rfl, gK, hgK, hgx, hgl, hC⟩
    iterate 3 refine pu rfl rfl rfl rfl rfl ?_
    refine ef rfl rfl (eAlloc rfl rfl rfl (fun p3a => ?_)) 
    refine ef rfl rfl (eStS rfl rfl rfl rfl rfl rfl ?_) 
    refine pu rfl rfl rfl rfl rfl ?_
    refine tr_seq ?_
    have hor1 := ref_order p m A c mod
    rw [hor] at hor1
    refine tr_region fun _ _ _ => ?_
    refine st rfl rfl rfl rfl (rLdS rfl rfl rfl) ?_
    refine ef rfl rfl (eCallV rfl rfl rfl (hor1) ⟨rfl, trivial⟩ ?_) 
    iterate 2 refine pu rfl rfl rfl rfl rfl ?_
    refine ef rfl rfl (eCall1 rfl rfl rfl (bch_Closure (pw p m) n Z cz zs (by omega) (by omega) (by omega) (by omega) (by omega) hgc) ⟨rfl, rfl, rfl, trivial⟩ ?_) 
    rintro _ _ ⟨Bc, cc, rfl, rfl⟩
    iterate 5 refine pu rfl rfl rfl rfl rfl ?_
    refine tr_seq ?_
    refine tr_region fun _ _ _ => ?_
    refine st rfl rfl rfl rfl (rLdS rfl rfl rfl) ?_
    refine st rfl rfl rfl rfl (rLdS rfl rfl rfl) ?_
    refine ef rfl rfl (eCall1 rfl rfl rfl (bch_Zeros p m Bm cm mod n B _ _ r3 rfl (by have := hC.le; omega) (hC.ok hn1 hn64) m2 Ae ce mod2 hd hra) ⟨rfl, rfl, trivial⟩ ?_) 
    rintro _ _ ⟨Bz, cz2, rfl, rfl⟩
    iterate 5 refine pu rfl rfl rfl rfl rfl ?_
    refine tr_seq ?_
    obtain ⟨hze, hdm⟩ := zer_cls hd hn1 hr hgK hgx hgl hC
    rw [hze]
    have hcb : closB p m mod n.toNat r3 = true := clos_of (by omega) hC.good hgx hC.span
    refine tr_region fun _ _ _ => ?_
    iterate 3 refine pu rfl rfl rfl rfl rfl ?_
    refine stT rfl rfl rfl (by simp) rfl rfl (rMove rfl rfl) ?_
    refine stT rfl rfl rfl (by simp) rfl rfl (rEql rfl rfl rfl) ?_
    refine st rfl rfl rfl rfl (rPick1 rfl rfl (by simp) rfl) ?_
    refine pu rfl rfl rfl rfl rfl ?_
    refine stT rfl rfl rfl (by simp) rfl rfl (rMove rfl rfl) ?_
    refine stT rfl rfl rfl (by simp) rfl rfl (rEql rfl rfl rfl) ?_
    refine st rfl rfl rfl rfl (rPick1 rfl rfl (by simp) rfl) ?_
    refine pu rfl rfl rfl rfl rfl ?_
    refine stT rfl rfl rfl (by simp) rfl rfl (rFld rfl rfl) ?_
    refine stT rfl rfl rfl (by simp) rfl rfl (rLdF rfl rfl rfl) ?_
    refine stT rfl rfl rfl (by simp) rfl rfl (rMove rfl rfl) ?_
    refine stT rfl rfl rfl (by simp) rfl rfl (rEql rfl rfl rfl) ?_
    refine st rfl rfl rfl rfl (rPick1 rfl rfl (by simp) rfl) ?_
    refine pu rfl rfl rfl rfl rfl ?_
    refine stT rfl rfl rfl (by simp) rfl rfl (rLdS rfl rfl rfl) ?_
    refine efT rfl rfl rfl (by simp) (eCallV rfl rfl rfl (ref_Is_ p m Bm cm mod n B _ _ r3 rfl (by have := hC.le; omega) (hC.ok hn1 hn64)) ⟨rfl, trivial⟩ ?_) 
    refine st rfl rfl rfl rfl (rPick1 rfl rfl (by simp) rfl) ?_
    refine pu rfl rfl rfl rfl rfl ?_
    refine stT rfl rfl rfl (by simp [hcb]) rfl rfl (rFld rfl rfl) ?_
    refine stT rfl rfl rfl (by simp [hcb]) rfl rfl (rLdF rfl rfl rfl) ?_
    refine stT rfl rfl rfl (by simp [hcb]) rfl rfl (rLen rfl rfl) ?_
    refine stT rfl rfl rfl (by simp [hcb]) rfl rfl (rMove rfl rfl) ?_
    refine stT rfl rfl rfl (by simp [hcb]) rfl rfl (rMove rfl rfl) ?_
    refine stT rfl rfl rfl (by simp [hcb]) rfl rfl (rLen rfl rfl) ?_
    refine stT rfl rfl rfl (by simp [hcb]) rfl rfl (rSub rfl rfl rfl (by omega) (by omega)) ?_
    refine stT rfl rfl rfl (by simp [hcb]) rfl rfl (rEql rfl rfl rfl) ?_
    refine st rfl rfl rfl rfl (rPick1 rfl rfl (by simp [hcb]) rfl) ?_
    refine pu rfl rfl rfl rfl rfl ?_
    refine stT rfl rfl rfl (by first | (simp [hcb]; done) | (simp [hcb]; omega)) rfl rfl (rMove rfl rfl) ?_
    refine stT rfl rfl rfl (by first | (simp [hcb]; done) | (simp [hcb]; omega)) rfl rfl (rMove rfl rfl) ?_
    refine efT rfl rfl rfl (by first | (simp [hcb]; done) | (simp [hcb]; omega)) (eCallV rfl rfl rfl (ref_SameInts Bz _ cz2 _ rfl Bc _ cc _ rfl (by omega)) ⟨rfl, rfl, trivial⟩ ?_) 
    refine st rfl rfl rfl rfl (rPick1 rfl rfl (by first | (simp [hcb]; done) | (simp [hcb]; omega)) rfl) ?_
    refine pu rfl rfl rfl rfl rfl ?_
    exact tr_ret ⟨trivial, _, _, rfl, ⟨by first | (simp [hcb]; done) | (simp [hcb]; omega), rfl⟩, CSub.nil _, trivial⟩
theorem law_BchDimensions_B_ent : Enters Tryz.prog 15 := enters_of Tryz.func15 (by kernel_rfl) (by kernel_rfl)
theorem law_BchDimensions_B (p m : Int) (A : Option Addr) (c : Nat) (mod : List Int) (p2 m2 : Int) (Ae : Option Addr) (ce : Nat) (mod2 : List Int) (hl9 : mod.length ≤ 17592186044415) (hl92 : mod2.length ≤ 17592186044415) (n : Int) (Z : Option Addr) (cz : Nat) (zs : List Int) (hz9 : zs.length ≤ 17592186044415) (v : Int) (ha : Pure Tryz.prog 49 #[.agg #[.int .i64 p, .int .i64 m, .slice A mod.length c], .agg #[.int .i64 p2, .int .i64 m2, .slice Ae mod2.length ce], .int .i64 n] [ro A (ints mod), ro Ae (ints mod2)] (isV (.int .i64 v))) (hbad : zs.length > 40 ∨ n > 31 ∨ v ≠ 0) :
    Pure Tryz.prog 15 #[.agg #[.int .i64 p, .int .i64 m, .slice A mod.length c], .agg #[.int .i64 p2, .int .i64 m2, .slice Ae mod2.length ce], .int .i64 n, .slice Z zs.length cz] [ro A (ints mod), ro Ae (ints mod2), ro Z (ints zs)] (isV (.bool true)) := by
  refine pure_of (args := [.agg #[.int .i64 p, .int .i64 m, .slice A mod.length c], .agg #[.int .i64 p2, .int .i64 m2, .slice Ae mod2.length ce], .int .i64 n, .slice Z zs.length cz]) 86 Tryz.func15 rfl rfl rfl law_BchDimensions_B_ent ⟨id, id, id, trivial⟩ (fun w0 => ?_)
  refine tr_seq ?_
  refine tr_region fun _ _ _ => ?_
  refine ef rfl rfl (eBox rfl rfl rfl rfl rfl (fun p0 => ?_)) 
  refine ef rfl rfl (eBox rfl rfl rfl rfl rfl (fun p0a => ?_)) 
  refine pu rfl rfl rfl rfl rfl ?_
  refine tr_seq ?_
  refine tr_seq ?_
  refine tr_region fun _ _ _ => ?_
  refine pu rfl rfl rfl rfl rfl ?_
  refine st rfl rfl rfl rfl (rLen rfl rfl) ?_
  iterate 2 refine pu rfl rfl rfl rfl rfl ?_
  refine stg rfl rfl rfl rfl rfl (fun hb => by (have hq := hb; try simp only [zbA] at hq); exact rMove rfl rfl) ?_
  refine stg rfl rfl rfl rfl rfl (fun hb => by (have hq := hb; try simp only [zbA] at hq); exact rGtr rfl (evg rfl hb) rfl) ?_
  refine st rfl rfl rfl rfl (rOrB rfl rfl rfl rfl) ?_
  refine pu rfl rfl rfl rfl rfl ?_
  refine stg rfl rfl rfl rfl rfl (fun hb => by (have hq := hb; try simp only [zbA] at hq); exact rLdS rfl rfl rfl) ?_
  refine stg rfl rfl rfl rfl rfl (fun hb => by (have hq := hb; try simp only [zbA] at hq); exact rLdS rfl rfl rfl) ?_
  refine stg rfl rfl rfl rfl rfl (fun hb => by (have hq := hb; try simp only [zbA] at hq); exact rMove rfl rfl) ?_
  refine efg rfl rfl rfl rfl rfl (fun hb => by (have hq := hb; try simp only [zbA] at hq); exact eCallV rfl rfl rfl (ha) ⟨(evg rfl hb), (evg rfl hb), (evg rfl hb), trivial⟩ ⟨rfl, rfl⟩) ?_
  refine stg rfl rfl rfl rfl rfl (fun hb => by (have hq := hb; try simp only [zbA] at hq); exact rNeq rfl (evg rfl hb) rfl) ?_
  refine st rfl rfl rfl rfl (rOrB rfl rfl rfl rfl) ?_
  refine tr_cond_bool rfl (fun h1 => ?_) (fun h1 => ?_)
  · try simp only [zbA] at h1
    refine tr_seq ?_
    refine tr_region fun _ _ _ => ?_
    refine pu rfl rfl rfl rfl rfl ?_
    exact tr_ret ⟨trivial, _, _, rfl, ⟨rfl, rfl⟩, CSub.nil _, trivial⟩
  · try simp only [zbA] at h1
    exact absurd h1 (by simp; omega) --done
theorem law_BchDimensions (p m : Int) (A : Option Addr) (c : Nat) (mod : List Int) (p2 m2 : Int) (Ae : Option Addr) (ce : Nat) (mod2 : List Int) (hl9 : mod.length ≤ 17592186044415) (hl92 : mod2.length ≤ 17592186044415) (n : Int) (Z : Option Addr) (cz : Nat) (zs : List Int) (hz9 : zs.length ≤ 17592186044415) : Pure Tryz.prog 15 #[.agg #[.int .i64 p, .int .i64 m, .slice A mod.length c], .agg #[.int .i64 p2, .int .i64 m2, .slice Ae mod2.length ce], .int .i64 n, .slice Z zs.length cz] [ro A (ints mod), ro Ae (ints mod2), ro Z (ints zs)] (isV (.bool true)) := by
  by_cases hF0 : FldR p m mod
  · haveI hF : IsF p m mod := ⟨hF0⟩
    by_cases hE0 : FldR p2 m2 mod2
    · haveI hE : IsF p2 m2 mod2 := ⟨hE0⟩
      by_cases hb : n < 1 ∨ n > 64
      · exact law_BchDimensions_B p m A c mod p2 m2 Ae ce mod2 hl9 hl92 n Z cz zs hz9 _ (ref_FArgs4 p m A c mod p2 m2 Ae ce mod2 n hb) (.inr (.inr (by omega)))
      · have hn1 : 1 ≤ n := by omega
        have hn64 : n ≤ 64 := by omega
        by_cases hpp : p = p2
        · by_cases hd : m2 % m = 0
          · subst hpp
            by_cases hr : rootI p m2 mod2 n = 0
            · exact law_BchDimensions_B p m A c mod p m2 Ae ce mod2 hl9 hl92 n Z cz zs hz9 _ (ref_FArgsG p m A c mod m2 Ae ce mod2 hd n hn1 hn64) (.inr (.inr (by simp [hr])))
            · by_cases hs : zs.length > 40 ∨ n > 31
              · exact law_BchDimensions_B p m A c mod p m2 Ae ce mod2 hl9 hl92 n Z cz zs hz9 _ (ref_FArgsG p m A c mod m2 Ae ce mod2 hd n hn1 hn64) (by omega)
              · exact law_BchDimensions_G p m A c mod m2 Ae ce mod2 hd n hn1 hn64 hr Z cz zs (by omega) (by omega)
          · exact law_BchDimensions_B p m A c mod p2 m2 Ae ce mod2 hl9 hl92 n Z cz zs hz9 _ (ref_FArgs10 p m A c mod p2 m2 Ae ce mod2 n hn1 hn64 (fun h => hd h.2)) (.inr (.inr (by omega)))
        · exact law_BchDimensions_B p m A c mod p2 m2 Ae ce mod2 hl9 hl92 n Z cz zs hz9 _ (ref_FArgs10 p m A c mod p2 m2 Ae ce mod2 n hn1 hn64 (fun h => hpp h.1)) (.inr (.inr (by omega)))
    · have hch : chkF p2 m2 mod2 ≠ 0 := by rw [chkF_no hE0]; omega
      exact law_BchDimensions_B p m A c mod p2 m2 Ae ce mod2 hl9 hl92 n Z cz zs hz9 _ (ref_FArgs1 p m A c mod p2 m2 Ae ce mod2 hl9 hl92 n (.inr hch)) (.inr (.inr (by omega)))
  · have hch : chkF p m mod ≠ 0 := by rw [chkF_no hF0]; omega
    exact law_BchDimensions_B p m A c mod p2 m2 Ae ce mod2 hl9 hl92 n Z cz zs hz9 _ (ref_FArgs1 p m A c mod p2 m2 Ae ce mod2 hl9 hl92 n (.inl hch)) (.inr (.inr (by omega)))
end Go.Proofs.YtjmojhflnjbgaaaGreat

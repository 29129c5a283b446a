/-
  BCHPOLYNOMIALS, PART 9 OF 10. One sentence: the texts behind the law BchPolynomials, put together.
  Conditions: each theorem's own, written out in it.
-/
import Derived.Test.YtjmojhflnjbgaaaGreatK8
set_option linter.unusedSimpArgs false
set_option linter.unusedVariables false
set_option linter.unusedSectionVars false
set_option linter.unusedSimpArgs false
set_option linter.unusedVariables false
set_option maxRecDepth 100000
namespace Go.Proofs.YtjmojhflnjbgaaaGreat
open Go.RowKit
theorem law_BchPolynomials_G_ent : Enters Tryz.prog 11 := enters_of Tryz.func11 (by kernel_rfl) (by kernel_rfl)
theorem law_BchPolynomials_G (p m : Int) (A : Option Addr) (c : Nat) (mod : List Int) [hF : IsF p m mod] (m2 : Int) (Ae : Option Addr) (ce : Nat) (mod2 : List Int) [hE : IsF p m2 mod2] (hd : m2 % m = 0) (n : Int) (hn1 : 1 ≤ n) (hn64 : n ≤ 64) (hr : rootI p m2 mod2 n ≠ 0) (Z : Option Addr) (cz : Nat) (zs : List Int) (hz : zs.length ≤ 40) (hn31 : n ≤ 31) :
    Pure Tryz.prog 11 #[.agg #[.int .i64 p, .int .i64 m, .slice A mod.length c], .agg #[.int .i64 p, .int .i64 m2, .slice Ae mod2.length ce], .int .i64 n, .slice Z zs.length cz] [ro A (ints mod), ro Ae (ints mod2), ro Z (ints zs)] (isV (.bool true)) := by
  have hl8 := hF.short
  have hl82 := hE.short
  have hq2 := hF.q2
  have hq9 := hF.out.1.1.q
  have hra : rootArgs p m2 mod2 n = 0 := by rw [rootArgs_is hE.out hn1 hn64, if_neg hr]
  have hib := imL_length (p := p) (m2 := m2) (mod2 := mod2) m (embR p m2 mod2 m mod)
  refine pure_of (args := [.agg #[.int .i64 p, .int .i64 m, .slice A mod.length c], .agg #[.int .i64 p, .int .i64 m2, .slice Ae mod2.length ce], .int .i64 n, .slice Z zs.length cz]) 85 Tryz.func11 rfl rfl rfl law_BchPolynomials_G_ent ⟨id, id, id, trivial⟩ (fun w0 => ?_)
  refine tr_seq ?_
  refine tr_region fun _ _ _ => ?_
  refine ef rfl rfl (eBox rfl rfl rfl rfl rfl (fun p0 => ?_)) 
  refine ef rfl rfl (eBox rfl rfl rfl rfl rfl (fun p0a => ?_)) 
  refine pu rfl rfl rfl rfl rfl ?_
  refine tr_seq ?_
  refine tr_seq ?_
  refine tr_region fun _ _ _ => ?_
  refine pu rfl rfl rfl rfl rfl ?_
  refine st rfl rfl rfl rfl (rLen rfl rfl) ?_
  iterate 2 refine pu rfl rfl rfl rfl rfl ?_
  refine stg rfl rfl rfl rfl rfl (fun hb => by (have hq := hb; try simp only [zbA] at hq); exact rMove rfl rfl) ?_
  refine stg rfl rfl rfl rfl rfl (fun hb => by (have hq := hb; try simp only [zbA] at hq); exact rGtr rfl (evg rfl hb) rfl) ?_
  refine st rfl rfl rfl rfl (rOrB rfl rfl rfl rfl) ?_
  refine pu rfl rfl rfl rfl rfl ?_
  refine stg rfl rfl rfl rfl rfl (fun hb => by (have hq := hb; try simp only [zbA] at hq); exact rLdS rfl rfl rfl) ?_
  refine stg rfl rfl rfl rfl rfl (fun hb => by (have hq := hb; try simp only [zbA] at hq); exact rLdS rfl rfl rfl) ?_
  refine stg rfl rfl rfl rfl rfl (fun hb => by (have hq := hb; try simp only [zbA] at hq); exact rMove rfl rfl) ?_
  refine efg rfl rfl rfl rfl rfl (fun hb => by (have hq := hb; try simp only [zbA] at hq); exact eCallV rfl rfl rfl (ref_FArgsG p m A c mod m2 Ae ce mod2 hd n hn1 hn64) ⟨(evg rfl hb), (evg rfl hb), (evg rfl hb), trivial⟩ ⟨rfl, rfl⟩) ?_
  refine stg rfl rfl rfl rfl rfl (fun hb => by (have hq := hb; try simp only [zbA] at hq); exact rNeq rfl (evg rfl hb) rfl) ?_
  refine st rfl rfl rfl rfl (rOrB rfl rfl rfl rfl) ?_
  refine tr_cond_bool rfl (fun h1 => ?_) (fun h1 => ?_)
  · try simp only [zbA] at h1
    exact absurd h1 (by simp [hr]; omega) --done
  · try simp only [zbA] at h1
    refine tr_skip ?_
    refine tr_seq ?_
    refine tr_region fun _ _ _ => ?_
    refine st rfl rfl rfl rfl (rLdS rfl rfl rfl) ?_
    refine st rfl rfl rfl rfl (rLdS rfl rfl rfl) ?_
    iterate 2 refine pu rfl rfl rfl rfl rfl ?_
    refine ef rfl rfl (eCall3 rfl rfl rfl (bch_FromZeros p m A c mod m2 Ae ce mod2 hd n hn1 hn64 hr Z cz zs (by omega)) ⟨rfl, rfl, rfl, rfl, trivial⟩ ?_) 
    rintro _ _ _ _ ⟨Bm, cm, B, r3, rfl, rfl, rfl, rfl, gK, hgK, hgx, hgl, hC⟩
    iterate 3 refine pu rfl rfl rfl rfl rfl ?_
    refine ef rfl rfl (eAlloc rfl rfl rfl (fun p3a => ?_)) 
    refine ef rfl rfl (eStS rfl rfl rfl rfl rfl rfl ?_) 
    refine pu rfl rfl rfl rfl rfl ?_
    refine tr_seq ?_
    refine tr_seq ?_
    refine tr_region fun _ _ _ => ?_
    iterate 3 refine pu rfl rfl rfl rfl rfl ?_
    refine stT rfl rfl rfl (by simp) rfl rfl (rLdS rfl rfl rfl) ?_
    refine efT rfl rfl rfl (by simp) (eCallV rfl rfl rfl (ref_CCheck p m Bm cm mod (by omega) n B _ _ r3 rfl (by have := hC.le; omega) (hC.good.h8 (by omega))) ⟨rfl, trivial⟩ ?_) 
    refine stT rfl rfl rfl (by simp) rfl rfl (rNeq rfl rfl rfl) ?_
    refine st rfl rfl rfl rfl (rPick0 rfl rfl (by simp) rfl) ?_
    refine pu rfl rfl rfl rfl rfl ?_
    refine stT rfl rfl rfl (by simp [(hC.ok hn1 hn64).zero]) rfl rfl (rFld rfl rfl) ?_
    refine stT rfl rfl rfl (by simp [(hC.ok hn1 hn64).zero]) rfl rfl (rLdSF rfl rfl) ?_
    refine stT rfl rfl rfl (by simp [(hC.ok hn1 hn64).zero]) rfl rfl (rLdS rfl rfl rfl) ?_
    refine efT rfl rfl rfl (by simp [(hC.ok hn1 hn64).zero]) (eCallV rfl rfl rfl (ref_FSame p m Bm cm mod p m A c mod (by omega)) ⟨rfl, rfl, trivial⟩ ?_) 
    refine stT rfl rfl rfl (by simp [(hC.ok hn1 hn64).zero]) rfl rfl (rNotB rfl rfl) ?_
    refine st rfl rfl rfl rfl (rPick0 rfl rfl (by simp [(hC.ok hn1 hn64).zero]) rfl) ?_
    refine pu rfl rfl rfl rfl rfl ?_
    refine stT rfl rfl rfl (by simp) rfl rfl (rFld rfl rfl) ?_
    refine stT rfl rfl rfl (by simp) rfl rfl (rLdF rfl rfl rfl) ?_
    refine stT rfl rfl rfl (by simp) rfl rfl (rMove rfl rfl) ?_
    refine stT rfl rfl rfl (by simp) rfl rfl (rNeq rfl rfl rfl) ?_
    refine st rfl rfl rfl rfl (rPick0 rfl rfl (by simp) rfl) ?_
    refine tr_cond_bool rfl (fun h4 => ?_) (fun h4 => ?_)
    · try simp only [zbA] at h4
      exact absurd h4 (by simp [(hC.ok hn1 hn64).zero]) --done
    · try simp only [zbA] at h4
      refine tr_skip ?_
      refine tr_seq ?_
      refine tr_region fun _ _ _ => ?_
      refine st rfl rfl rfl rfl (rLdS rfl rfl rfl) ?_
      refine ef rfl rfl (eCall1 rfl rfl rfl (ref_Gen p m Bm cm mod n B _ _ r3 rfl (by have := hC.le; omega) (hC.ok hn1 hn64)) ⟨rfl, trivial⟩ ?_) 
      rintro _ _ ⟨Bg, cg, rfl, rfl⟩
      refine pu rfl rfl rfl rfl rfl ?_
      refine tr_seq ?_
      have hgg : genP p m mod n.toNat (xss r3) = gK := gen_words (by omega) hC.good hgx hgl hC.span
      rw [hgg]
      have hup := gen_up hd hgK
      have hgn : Po.len gK ≤ n.toNat + 1 := by have := Po.dvd_len hgx (xn1_ne (p := p) (m := m) (mod := mod) (show 1 ≤ n.toNat by omega)); rwa [xn1_len (by omega)] at this
      have hgil := il_length gK
      refine tr_region fun _ _ _ => ?_
      refine st rfl rfl rfl rfl (rLdS rfl rfl rfl) ?_
      refine st rfl rfl rfl rfl (rLdS rfl rfl rfl) ?_
      refine ef rfl rfl (eCall1 rfl rfl rfl (ref_Emb p m A c mod m2 Ae ce mod2 hd) ⟨rfl, rfl, trivial⟩ ?_) 
      rintro _ _ ⟨Bi, rfl, rfl⟩
      refine pu rfl rfl rfl rfl rfl ?_
      refine tr_seq ?_
      refine tr_region fun _ _ _ => ?_
      refine pu rfl rfl rfl rfl rfl ?_
      refine tr_seq ?_
      refine tr_seq ?_
      refine tr_region fun _ _ _ => ?_
      refine pu rfl rfl rfl rfl rfl ?_
      refine tr_block ?_
      refine tr_nilI 3 ?_
      refine tr_loop4 (fun (k : Int) (D : Option Addr) (cd : Nat) (ls : List Int) => [(13, .slice D ls.length cd), (14, .int .i64 k), (2, .int .i64 n), (3, .slice Z zs.length cz), (4, .pointer (some p0)), (5, .pointer (some p0a)), (8, .bool false), (11, .slice Bg (il gK).length cg), (12, .slice Bi (imL p m2 mod2 m (embR p m2 mod2 m mod)).length (imL p m2 mod2 m (embR p m2 mod2 m mod)).length)]) (fun (k : Int) (D : Option Addr) (cd : Nat) (ls : List Int) => [ow D 3 cd (ints ls), ow Bi 3 (imL p m2 mod2 m (embR p m2 mod2 m mod)).length (ints (imL p m2 mod2 m (embR p m2 mod2 m mod))), ow Bg 3 cg (ints (il gK)), blk p0a 24 [.int .i64 p, .int .i64 m2, .slice Ae mod2.length ce], blk p0 24 [.int .i64 p, .int .i64 m, .slice A mod.length c], ro A (ints mod), ro Ae (ints mod2), ro Z (ints zs)]) (fun (k : Int) (D : Option Addr) (cd : Nat) (ls : List Int) => (0 ≤ k ∧ k ≤ (il gK).length) ∧ ls = ((il gK).take k.toNat).map (fun x : Int => (imL p m2 mod2 m (embR p m2 mod2 m mod)).getD x.toNat 0)) (fun (k : Int) (D : Option Addr) (cd : Nat) (ls : List Int) => ((il gK).length - k).toNat) (0) (none) (0) ([]) ⟨rfl, rfl, rfl, rfl, rfl, rfl, rfl, rfl, rfl, trivial⟩ (by first | exact cs _ _ | exact CSub.refl _) (⟨⟨by omega, by omega⟩, by simp⟩) (fun k D cd ls hI => ?_)
      obtain ⟨⟨hk0, hk1⟩, hls⟩ := hI
      refine tr_seq ?_
      refine tr_seq ?_
      refine tr_region fun _ _ _ => ?_
      iterate 2 refine pu rfl rfl rfl rfl rfl ?_
      refine st rfl rfl rfl rfl (rLen rfl rfl) ?_
      refine pu rfl rfl rfl rfl rfl ?_
      refine tr_cond_bool rfl (fun h10 => ?_) (fun h10 => ?_)
      · try simp only [zbA] at h10
        refine tr_skip ?_
        refine tr_seq ?_
        refine tr_block ?_
        have hgi := il_in gK _ (getD_mem (show k.toNat < (il gK).length by omega) 0)
        have hll : ls.length ≤ 33 := by rw [hls, List.length_map, List.length_take]; omega
        refine tr_region fun _ _ _ => ?_
        iterate 4 refine pu rfl rfl rfl rfl rfl ?_
        refine st rfl rfl rfl rfl (rIdxI rfl rfl rfl (by omega) (by omega) (by omega)) ?_
        refine st rfl rfl rfl rfl (rLdI rfl rfl (by omega)) ?_
        refine st rfl rfl rfl rfl (rIdxI rfl rfl rfl (by omega) (by omega) (by omega)) ?_
        refine st rfl rfl rfl rfl (rLdI rfl rfl (by omega)) ?_
        refine ef rfl rfl (eLit1I rfl rfl rfl rfl (fun A12 => ?_)) 
        refine ef rfl rfl (eAppI rfl rfl rfl rfl rfl (by first | rfl | simp | omega) (by first | rfl | simp | omega) (by first | omega | (simp; omega)) (fun A12a c12a => ?_)) 
        refine pu rfl rfl rfl rfl rfl ?_
        refine tr_region fun _ _ _ => ?_
        refine pu rfl rfl rfl rfl rfl ?_
        refine st rfl rfl rfl rfl (rAdd rfl rfl rfl (by omega) (by omega)) ?_
        refine pu rfl rfl rfl rfl rfl ?_
        refine ⟨k + 1, A12a, c12a, ls ++ [(imL p m2 mod2 m (embR p m2 mod2 m mod)).getD ((il gK).getD k.toNat 0).toNat 0], ⟨rfl, rfl, rfl, rfl, rfl, rfl, rfl, rfl, rfl, trivial⟩, by first | exact cs _ _ | exact CSub.refl _, ?_⟩
        exact ⟨⟨⟨by omega, by omega⟩, by
          rw [hls, show (k + 1).toNat = k.toNat + 1 by omega, List.take_add_one, List.getElem?_eq_getElem (show k.toNat < (il gK).length by omega), List.map_append, List.getD_eq_getElem?_getD (l := il gK), List.getElem?_eq_getElem (show k.toNat < (il gK).length by omega)]
          rfl⟩, by omega⟩
      · try simp only [zbA] at h10
        refine tr_exit ?_
        refine tr_seq ?_
        have hll : ls.length ≤ 33 := by rw [hls, List.length_map, List.length_take]; omega
        refine tr_region fun _ _ _ => ?_
        refine pu rfl rfl rfl rfl rfl ?_
        refine st rfl rfl rfl rfl (rLdS rfl rfl rfl) ?_
        refine st rfl rfl rfl rfl (rLdS rfl rfl rfl) ?_
        iterate 2 refine pu rfl rfl rfl rfl rfl ?_
        refine ef rfl rfl (eCall1 rfl rfl rfl (ref_Gnr p m A c mod m2 Ae ce mod2 hd n hn1 hn64 hr Z cz zs (by omega)) ⟨rfl, rfl, rfl, rfl, trivial⟩ ?_) 
        rintro _ _ ⟨B2, c2, rfl, rfl⟩
        refine ef rfl rfl (eCallV rfl rfl rfl (ref_SameInts D _ cd ls rfl B2 _ c2 _ rfl (by omega)) ⟨rfl, rfl, trivial⟩ ?_) 
        refine pu rfl rfl rfl rfl rfl ?_
        have hkc : (il gK).take k.toNat = il gK := List.take_of_length_le (by omega)
        rw [hkc, hup] at hls
        subst hls
        exact tr_ret ⟨trivial, _, _, rfl, ⟨by simp, rfl⟩, CSub.nil _, trivial⟩
theorem law_BchPolynomials_B_ent : Enters Tryz.prog 11 := enters_of Tryz.func11 (by kernel_rfl) (by kernel_rfl)
theorem law_BchPolynomials_B (p m : Int) (A : Option Addr) (c : Nat) (mod : List Int) (p2 m2 : Int) (Ae : Option Addr) (ce : Nat) (mod2 : List Int) (hl9 : mod.length ≤ 17592186044415) (hl92 : mod2.length ≤ 17592186044415) (n : Int) (Z : Option Addr) (cz : Nat) (zs : List Int) (hz9 : zs.length ≤ 17592186044415) (v : Int) (ha : Pure Tryz.prog 49 #[.agg #[.int .i64 p, .int .i64 m, .slice A mod.length c], .agg #[.int .i64 p2, .int .i64 m2, .slice Ae mod2.length ce], .int .i64 n] [ro A (ints mod), ro Ae (ints mod2)] (isV (.int .i64 v))) (hbad : zs.length > 40 ∨ n > 31 ∨ v ≠ 0) :
    Pure Tryz.prog 11 #[.agg #[.int .i64 p, .int .i64 m, .slice A mod.length c], .agg #[.int .i64 p2, .int .i64 m2, .slice Ae mod2.length ce], .int .i64 n, .slice Z zs.length cz] [ro A (ints mod), ro Ae (ints mod2), ro Z (ints zs)] (isV (.bool true)) := by
  refine pure_of (args := [.agg #[.int .i64 p, .int .i64 m, .slice A mod.length c], .agg #[.int .i64 p2, .int .i64 m2, .slice Ae mod2.length ce], .int .i64 n, .slice Z zs.length cz]) 85 Tryz.func11 rfl rfl rfl law_BchPolynomials_B_ent ⟨id, id, id, trivial⟩ (fun w0 => ?_)
  refine tr_seq ?_
  refine tr_region fun _ _ _ => ?_
  refine ef rfl rfl (eBox rfl rfl rfl rfl rfl (fun p0 => ?_)) 
  refine ef rfl rfl (eBox rfl rfl rfl rfl rfl (fun p0a => ?_)) 
  refine pu rfl rfl rfl rfl rfl ?_
  refine tr_seq ?_
  refine tr_seq ?_
  refine tr_region fun _ _ _ => ?_
  refine pu rfl rfl rfl rfl rfl ?_
  refine st rfl rfl rfl rfl (rLen rfl rfl) ?_
  iterate 2 refine pu rfl rfl rfl rfl rfl ?_
  refine stg rfl rfl rfl rfl rfl (fun hb => by (have hq := hb; try simp only [zbA] at hq); exact rMove rfl rfl) ?_
  refine stg rfl rfl rfl rfl rfl (fun hb => by (have hq := hb; try simp only [zbA] at hq); exact rGtr rfl (evg rfl hb) rfl) ?_
  refine st rfl rfl rfl rfl (rOrB rfl rfl rfl rfl) ?_
  refine pu rfl rfl rfl rfl rfl ?_
  refine stg rfl rfl rfl rfl rfl (fun hb => by (have hq := hb; try simp only [zbA] at hq); exact rLdS rfl rfl rfl) ?_
  refine stg rfl rfl rfl rfl rfl (fun hb => by (have hq := hb; try simp only [zbA] at hq); exact rLdS rfl rfl rfl) ?_
  refine stg rfl rfl rfl rfl rfl (fun hb => by (have hq := hb; try simp only [zbA] at hq); exact rMove rfl rfl) ?_
  refine efg rfl rfl rfl rfl rfl (fun hb => by (have hq := hb; try simp only [zbA] at hq); exact eCallV rfl rfl rfl (ha) ⟨(evg rfl hb), (evg rfl hb), (evg rfl hb), trivial⟩ ⟨rfl, rfl⟩) ?_
  refine stg rfl rfl rfl rfl rfl (fun hb => by (have hq := hb; try simp only [zbA] at hq); exact rNeq rfl (evg rfl hb) rfl) ?_
  refine st rfl rfl rfl rfl (rOrB rfl rfl rfl rfl) ?_
  refine tr_cond_bool rfl (fun h1 => ?_) (fun h1 => ?_)
  · try simp only [zbA] at h1
    refine tr_seq ?_
    refine tr_region fun _ _ _ => ?_
    refine pu rfl rfl rfl rfl rfl ?_
    exact tr_ret ⟨trivial, _, _, rfl, ⟨rfl, rfl⟩, CSub.nil _, trivial⟩
  · try simp only [zbA] at h1
    exact absurd h1 (by simp; omega) --done
theorem law_BchPolynomials (p m : Int) (A : Option Addr) (c : Nat) (mod : List Int) (p2 m2 : Int) (Ae : Option Addr) (ce : Nat) (mod2 : List Int) (hl9 : mod.length ≤ 17592186044415) (hl92 : mod2.length ≤ 17592186044415) (n : Int) (Z : Option Addr) (cz : Nat) (zs : List Int) (hz9 : zs.length ≤ 17592186044415) : Pure Tryz.prog 11 #[.agg #[.int .i64 p, .int .i64 m, .slice A mod.length c], .agg #[.int .i64 p2, .int .i64 m2, .slice Ae mod2.length ce], .int .i64 n, .slice Z zs.length cz] [ro A (ints mod), ro Ae (ints mod2), ro Z (ints zs)] (isV (.bool true)) := by
  by_cases hF0 : FldR p m mod
  · haveI hF : IsF p m mod := ⟨hF0⟩
    by_cases hE0 : FldR p2 m2 mod2
    · haveI hE : IsF p2 m2 mod2 := ⟨hE0⟩
      by_cases hb : n < 1 ∨ n > 64
      · exact law_BchPolynomials_B p m A c mod p2 m2 Ae ce mod2 hl9 hl92 n Z cz zs hz9 _ (ref_FArgs4 p m A c mod p2 m2 Ae ce mod2 n hb) (.inr (.inr (by omega)))
      · have hn1 : 1 ≤ n := by omega
        have hn64 : n ≤ 64 := by omega
        by_cases hpp : p = p2
        · by_cases hd : m2 % m = 0
          · subst hpp
            by_cases hr : rootI p m2 mod2 n = 0
            · exact law_BchPolynomials_B p m A c mod p m2 Ae ce mod2 hl9 hl92 n Z cz zs hz9 _ (ref_FArgsG p m A c mod m2 Ae ce mod2 hd n hn1 hn64) (.inr (.inr (by simp [hr])))
            · by_cases hs : zs.length > 40 ∨ n > 31
              · exact law_BchPolynomials_B p m A c mod p m2 Ae ce mod2 hl9 hl92 n Z cz zs hz9 _ (ref_FArgsG p m A c mod m2 Ae ce mod2 hd n hn1 hn64) (by omega)
              · exact law_BchPolynomials_G p m A c mod m2 Ae ce mod2 hd n hn1 hn64 hr Z cz zs (by omega) (by omega)
          · exact law_BchPolynomials_B p m A c mod p2 m2 Ae ce mod2 hl9 hl92 n Z cz zs hz9 _ (ref_FArgs10 p m A c mod p2 m2 Ae ce mod2 n hn1 hn64 (fun h => hd h.2)) (.inr (.inr (by omega)))
        · exact law_BchPolynomials_B p m A c mod p2 m2 Ae ce mod2 hl9 hl92 n Z cz zs hz9 _ (ref_FArgs10 p m A c mod p2 m2 Ae ce mod2 n hn1 hn64 (fun h => hpp h.1)) (.inr (.inr (by omega)))
    · have hch : chkF p2 m2 mod2 ≠ 0 := by rw [chkF_no hE0]; omega
      exact law_BchPolynomials_B p m A c mod p2 m2 Ae ce mod2 hl9 hl92 n Z cz zs hz9 _ (ref_FArgs1 p m A c mod p2 m2 Ae ce mod2 hl9 hl92 n (.inr hch)) (.inr (.inr (by omega)))
  · have hch : chkF p m mod ≠ 0 := by rw [chkF_no hF0]; omega
    exact law_BchPolynomials_B p m A c mod p2 m2 Ae ce mod2 hl9 hl92 n Z cz zs hz9 _ (ref_FArgs1 p m A c mod p2 m2 Ae ce mod2 hl9 hl92 n (.inl hch)) (.inr (.inr (by omega)))
end Go.Proofs.YtjmojhflnjbgaaaGreat

/-
  BCHSOLOMON, PART 8 OF 9. One sentence: the texts behind the law BchSolomon, put together.
  Conditions: each theorem's own, written out in it.
-/
import Derived.Test.YtgnmcoegdogfgaaGreatK7
set_option linter.unusedSimpArgs false
set_option linter.unusedVariables false
set_option linter.unusedSectionVars false
set_option linter.unusedSimpArgs false
set_option linter.unusedVariables false
set_option maxRecDepth 100000
namespace Go.Proofs.YtgnmcoegdogfgaaGreat
open Go.RowKit
theorem law_BchSolomon_B_ent : Enters Tryz.prog 6 := enters_of Tryz.func6 (by kernel_rfl) (by kernel_rfl)
theorem law_BchSolomon_B (p m : Int) (A : Option Addr) (c : Nat) (mod : List Int) (hl9 : mod.length ≤ 17592186044415) (n b d : Int) (X : Option Addr) (nx cx : Nat) (l : List Int) (hnx : nx = l.length) (hl : l.length ≤ 17592186044415) (v : Int) (ha : Pure Tryz.prog 16 #[.agg #[.int .i64 p, .int .i64 m, .slice A mod.length c], .agg #[.int .i64 p, .int .i64 m, .slice A mod.length c], .int .i64 n] [ro A (ints mod), ro A (ints mod)] (isV (.int .i64 v))) (hbad : v ≠ 0 ∨ b < 0 ∨ b ≥ n ∨ d < 1 ∨ d > n) :
    Pure Tryz.prog 6 #[.agg #[.int .i64 p, .int .i64 m, .slice A mod.length c], .int .i64 n, .int .i64 b, .int .i64 d, .slice X nx cx] [ro A (ints mod), ro X (ints l)] (isV (.bool true)) := by
  refine pure_of (args := [.agg #[.int .i64 p, .int .i64 m, .slice A mod.length c], .int .i64 n, .int .i64 b, .int .i64 d, .slice X nx cx]) 95 Tryz.func6 rfl rfl rfl law_BchSolomon_B_ent ⟨id, id, trivial⟩ (fun w0 => ?_)
  refine tr_seq ?_
  refine tr_region fun _ _ _ => ?_
  refine ef rfl rfl (eBox rfl rfl rfl rfl rfl (fun p0 => ?_)) 
  refine pu rfl rfl rfl rfl rfl ?_
  refine tr_seq ?_
  refine tr_seq ?_
  refine tr_region fun _ _ _ => ?_
  iterate 2 refine pu rfl rfl rfl rfl rfl ?_
  refine tr_cond_bool rfl (fun h1 => ?_) (fun h1 => ?_)
  · try simp only [zbA] at h1
    refine tr_seq ?_
    refine tr_region fun _ _ _ => ?_
    refine pu rfl rfl rfl rfl rfl ?_
    exact tr_ret ⟨trivial, _, _, rfl, ⟨rfl, rfl⟩, CSub.nil _, trivial⟩
  · try simp only [zbA] at h1
    refine tr_skip ?_
    refine tr_seq ?_
    refine tr_seq ?_
    refine tr_region fun _ _ _ => ?_
    refine st rfl rfl rfl rfl (rLdS rfl rfl rfl) ?_
    refine st rfl rfl rfl rfl (rLdS rfl rfl rfl) ?_
    refine pu rfl rfl rfl rfl rfl ?_
    refine ef rfl rfl (eCallV rfl rfl rfl (ha) ⟨rfl, rfl, rfl, trivial⟩ ?_) 
    iterate 2 refine pu rfl rfl rfl rfl rfl ?_
    refine stg rfl rfl rfl rfl rfl (fun hb => by (have hq := hb; try simp only [zbA] at hq); exact rMove rfl rfl) ?_
    refine stg rfl rfl rfl rfl rfl (fun hb => by (have hq := hb; try simp only [zbA] at hq); exact rLss rfl (evg rfl hb) rfl) ?_
    refine st rfl rfl rfl rfl (rOrB rfl rfl rfl rfl) ?_
    refine pu rfl rfl rfl rfl rfl ?_
    refine stg rfl rfl rfl rfl rfl (fun hb => by (have hq := hb; try simp only [zbA] at hq); exact rMove rfl rfl) ?_
    refine stg rfl rfl rfl rfl rfl (fun hb => by (have hq := hb; try simp only [zbA] at hq); exact rMove rfl rfl) ?_
    refine stg rfl rfl rfl rfl rfl (fun hb => by (have hq := hb; try simp only [zbA] at hq); exact rGeq rfl (evg rfl hb) (evg rfl hb)) ?_
    refine st rfl rfl rfl rfl (rOrB rfl rfl rfl rfl) ?_
    refine pu rfl rfl rfl rfl rfl ?_
    refine stg rfl rfl rfl rfl rfl (fun hb => by (have hq := hb; try simp only [zbA] at hq); exact rMove rfl rfl) ?_
    refine stg rfl rfl rfl rfl rfl (fun hb => by (have hq := hb; try simp only [zbA] at hq); exact rLss rfl (evg rfl hb) rfl) ?_
    refine st rfl rfl rfl rfl (rOrB rfl rfl rfl rfl) ?_
    refine pu rfl rfl rfl rfl rfl ?_
    refine stg rfl rfl rfl rfl rfl (fun hb => by (have hq := hb; try simp only [zbA] at hq); exact rMove rfl rfl) ?_
    refine stg rfl rfl rfl rfl rfl (fun hb => by (have hq := hb; try simp only [zbA] at hq); exact rMove rfl rfl) ?_
    refine stg rfl rfl rfl rfl rfl (fun hb => by (have hq := hb; try simp only [zbA] at hq); exact rGtr rfl (evg rfl hb) (evg rfl hb)) ?_
    refine st rfl rfl rfl rfl (rOrB rfl rfl rfl rfl) ?_
    refine tr_cond_bool rfl (fun h3 => ?_) (fun h3 => ?_)
    · try simp only [zbA] at h3
      refine tr_seq ?_
      refine tr_region fun _ _ _ => ?_
      refine pu rfl rfl rfl rfl rfl ?_
      exact tr_ret ⟨trivial, _, _, rfl, ⟨rfl, rfl⟩, CSub.nil _, trivial⟩
    · try simp only [zbA] at h3
      exact absurd h3 (by simp; omega) --done
theorem law_BchSolomon_G_ent : Enters Tryz.prog 6 := enters_of Tryz.func6 (by kernel_rfl) (by kernel_rfl)
theorem law_BchSolomon_G (p m : Int) (A : Option Addr) (c : Nat) (mod : List Int) [hF : IsF p m mod] (n b d : Int) (X : Option Addr) (nx cx : Nat) (l : List Int) (hnx : nx = l.length) (hl : l.length ≤ 17592186044415) (hn1 : 1 ≤ n) (hn64 : n ≤ 64) (hr : rootI p m mod n ≠ 0) (hb0 : 0 ≤ b) (hbn : b < n) (hd0 : 1 ≤ d) (hdn : d ≤ n) :
    Pure Tryz.prog 6 #[.agg #[.int .i64 p, .int .i64 m, .slice A mod.length c], .int .i64 n, .int .i64 b, .int .i64 d, .slice X nx cx] [ro A (ints mod), ro X (ints l)] (isV (.bool true)) := by
  have hl8 := hF.short
  have hcl := consL_length b d
  have hd : m % m = 0 := Int.emod_self
  have hao := root_ord (p := p) (m2 := m) (mod2 := mod) hn1 hr
  have hcs := cls_self hao (b := b) hd0 hdn
  refine pure_of (args := [.agg #[.int .i64 p, .int .i64 m, .slice A mod.length c], .int .i64 n, .int .i64 b, .int .i64 d, .slice X nx cx]) 95 Tryz.func6 rfl rfl rfl law_BchSolomon_G_ent ⟨id, id, trivial⟩ (fun w0 => ?_)
  refine tr_seq ?_
  refine tr_region fun _ _ _ => ?_
  refine ef rfl rfl (eBox rfl rfl rfl rfl rfl (fun p0 => ?_)) 
  refine pu rfl rfl rfl rfl rfl ?_
  refine tr_seq ?_
  refine tr_seq ?_
  refine tr_region fun _ _ _ => ?_
  iterate 2 refine pu rfl rfl rfl rfl rfl ?_
  refine tr_cond_bool rfl (fun h1 => ?_) (fun h1 => ?_)
  · try simp only [zbA] at h1
    refine tr_seq ?_
    refine tr_region fun _ _ _ => ?_
    refine pu rfl rfl rfl rfl rfl ?_
    exact tr_ret ⟨trivial, _, _, rfl, ⟨rfl, rfl⟩, CSub.nil _, trivial⟩
  · try simp only [zbA] at h1
    refine tr_skip ?_
    refine tr_seq ?_
    refine tr_seq ?_
    refine tr_region fun _ _ _ => ?_
    refine st rfl rfl rfl rfl (rLdS rfl rfl rfl) ?_
    refine st rfl rfl rfl rfl (rLdS rfl rfl rfl) ?_
    refine pu rfl rfl rfl rfl rfl ?_
    refine ef rfl rfl (eCallV rfl rfl rfl (ref_FArgsG p m A c mod m A c mod hd n hn1 hn64) ⟨rfl, rfl, rfl, trivial⟩ ?_) 
    iterate 2 refine pu rfl rfl rfl rfl rfl ?_
    refine stg rfl rfl rfl rfl rfl (fun hb => by (have hq := hb; try simp only [zbA] at hq); exact rMove rfl rfl) ?_
    refine stg rfl rfl rfl rfl rfl (fun hb => by (have hq := hb; try simp only [zbA] at hq); exact rLss rfl (evg rfl hb) rfl) ?_
    refine st rfl rfl rfl rfl (rOrB rfl rfl rfl rfl) ?_
    refine pu rfl rfl rfl rfl rfl ?_
    refine stg rfl rfl rfl rfl rfl (fun hb => by (have hq := hb; try simp only [zbA] at hq); exact rMove rfl rfl) ?_
    refine stg rfl rfl rfl rfl rfl (fun hb => by (have hq := hb; try simp only [zbA] at hq); exact rMove rfl rfl) ?_
    refine stg rfl rfl rfl rfl rfl (fun hb => by (have hq := hb; try simp only [zbA] at hq); exact rGeq rfl (evg rfl hb) (evg rfl hb)) ?_
    refine st rfl rfl rfl rfl (rOrB rfl rfl rfl rfl) ?_
    refine pu rfl rfl rfl rfl rfl ?_
    refine stg rfl rfl rfl rfl rfl (fun hb => by (have hq := hb; try simp only [zbA] at hq); exact rMove rfl rfl) ?_
    refine stg rfl rfl rfl rfl rfl (fun hb => by (have hq := hb; try simp only [zbA] at hq); exact rLss rfl (evg rfl hb) rfl) ?_
    refine st rfl rfl rfl rfl (rOrB rfl rfl rfl rfl) ?_
    refine pu rfl rfl rfl rfl rfl ?_
    refine stg rfl rfl rfl rfl rfl (fun hb => by (have hq := hb; try simp only [zbA] at hq); exact rMove rfl rfl) ?_
    refine stg rfl rfl rfl rfl rfl (fun hb => by (have hq := hb; try simp only [zbA] at hq); exact rMove rfl rfl) ?_
    refine stg rfl rfl rfl rfl rfl (fun hb => by (have hq := hb; try simp only [zbA] at hq); exact rGtr rfl (evg rfl hb) (evg rfl hb)) ?_
    refine st rfl rfl rfl rfl (rOrB rfl rfl rfl rfl) ?_
    refine tr_cond_bool rfl (fun h3 => ?_) (fun h3 => ?_)
    · try simp only [zbA] at h3
      exact absurd h3 (by simp [hr]; omega) --done
    · try simp only [zbA] at h3
      refine tr_skip ?_
      refine tr_seq ?_
      refine tr_region fun _ _ _ => ?_
      refine st rfl rfl rfl rfl (rLdS rfl rfl rfl) ?_
      refine st rfl rfl rfl rfl (rLdS rfl rfl rfl) ?_
      iterate 3 refine pu rfl rfl rfl rfl rfl ?_
      refine ef rfl rfl (eCall3 rfl rfl rfl (bch_New p m A c mod m A c mod hd n b d hn1 hn64 hr hb0 hbn hd0 (by omega)) ⟨rfl, rfl, rfl, rfl, rfl, trivial⟩ ?_) 
      rintro _ _ _ _ ⟨Bm, cm, B, r3, rfl, rfl, rfl, rfl, gK, hgK, hgx, hgl, hC⟩
      iterate 3 refine pu rfl rfl rfl rfl rfl ?_
      refine ef rfl rfl (eAlloc rfl rfl rfl (fun p5a => ?_)) 
      refine ef rfl rfl (eStS rfl rfl rfl rfl rfl rfl ?_) 
      refine pu rfl rfl rfl rfl rfl ?_
      refine tr_seq ?_
      refine tr_seq ?_
      obtain ⟨_, hdm⟩ := zer_cls hd hn1 hr hgK hgx hgl hC
      have hr3 : (r3.length : Int) = n - d + 1 := by omega
      refine tr_region fun _ _ _ => ?_
      iterate 3 refine pu rfl rfl rfl rfl rfl ?_
      refine stT rfl rfl rfl (by simp) rfl rfl (rFld rfl rfl) ?_
      refine stT rfl rfl rfl (by simp) rfl rfl (rLdF rfl rfl rfl) ?_
      refine stT rfl rfl rfl (by simp) rfl rfl (rMove rfl rfl) ?_
      refine stT rfl rfl rfl (by simp) rfl rfl (rNeq rfl rfl rfl) ?_
      refine st rfl rfl rfl rfl (rPick0 rfl rfl (by simp) rfl) ?_
      refine pu rfl rfl rfl rfl rfl ?_
      refine stT rfl rfl rfl (by simp) rfl rfl (rFld rfl rfl) ?_
      refine stT rfl rfl rfl (by simp) rfl rfl (rLdF rfl rfl rfl) ?_
      refine stT rfl rfl rfl (by simp) rfl rfl (rLen rfl rfl) ?_
      refine stT rfl rfl rfl (by simp) rfl rfl (rMove rfl rfl) ?_
      refine stT rfl rfl rfl (by simp) rfl rfl (rMove rfl rfl) ?_
      refine stT rfl rfl rfl (by simp) rfl rfl (rSub rfl rfl rfl (by omega) (by omega)) ?_
      refine stT rfl rfl rfl (by simp) rfl rfl (rAdd rfl rfl rfl (by omega) (by omega)) ?_
      refine stT rfl rfl rfl (by simp) rfl rfl (rNeq rfl rfl rfl) ?_
      refine st rfl rfl rfl rfl (rPick0 rfl rfl (by simp) rfl) ?_
      refine pu rfl rfl rfl rfl rfl ?_
      refine stT rfl rfl rfl (by first | (simp; done) | (simp; omega)) rfl rfl (rLdS rfl rfl rfl) ?_
      refine efT rfl rfl rfl (by first | (simp; done) | (simp; omega)) (eCallV rfl rfl rfl (ref_CCheck p m Bm cm mod (by omega) n B _ _ r3 rfl (by have := hC.le; omega) (hC.good.h8 (by omega))) ⟨rfl, trivial⟩ ?_) 
      refine stT rfl rfl rfl (by first | (simp; done) | (simp; omega)) rfl rfl (rNeq rfl rfl rfl) ?_
      refine st rfl rfl rfl rfl (rPick0 rfl rfl (by first | (simp; done) | (simp; omega)) rfl) ?_
      refine tr_cond_bool rfl (fun h6 => ?_) (fun h6 => ?_)
      · try simp only [zbA] at h6
        exact absurd h6 (by first | (simp [(hC.ok hn1 hn64).zero]; done) | (simp [(hC.ok hn1 hn64).zero]; omega)) --done
      · try simp only [zbA] at h6
        refine tr_skip ?_
        refine tr_seq ?_
        refine tr_region fun _ _ _ => ?_
        refine st rfl rfl rfl rfl (rLdS rfl rfl rfl) ?_
        refine pu rfl rfl rfl rfl rfl ?_
        refine ef rfl rfl (eCall1 rfl rfl rfl (ref_Of p m Bm cm mod n B _ _ r3 rfl (by have := hC.le; omega) (hC.ok hn1 hn64) X nx cx l hnx hl) ⟨rfl, rfl, trivial⟩ ?_) 
        rintro _ _ ⟨Bo, co, o, rfl, rfl, hol, hoi, hos⟩
        refine ef rfl rfl (eCallV rfl rfl rfl (ref_Weight Bo _ co o rfl (by omega)) ⟨rfl, trivial⟩ ?_) 
        refine pu rfl rfl rfl rfl rfl ?_
        refine tr_seq ?_
        have hwt := des_wt hd hao hd0 hgK (show o.length = n.toNat by omega) hoi (cyw_word ((hC.span _).1 hos))
        haveI : InB ((r3.length : Int) - 1).toNat r3.length := ⟨by omega⟩
        have hgd := hC.good.get (show ((r3.length : Int) - 1).toNat < r3.length by omega)
        have hgd1 := hgd.1
        have hlw := last_wt hC (by omega)
        rw [show r3.length - 1 = ((r3.length : Int) - 1).toNat by omega] at hlw
        have hwl := des_wt hd hao hd0 hgK hgd.1 hgd.2 (cyw_word ((hC.span _).1 (Vc.Sp.of (vsR_mem (getD_mem (show ((r3.length : Int) - 1).toNat < r3.length by omega) rowD)))))
        refine tr_region fun _ _ _ => ?_
        refine st rfl rfl rfl rfl (rFld rfl rfl) ?_
        refine st rfl rfl rfl rfl (rLdF rfl rfl rfl) ?_
        refine st rfl rfl rfl rfl (rFld rfl rfl) ?_
        refine st rfl rfl rfl rfl (rLdF rfl rfl rfl) ?_
        refine st rfl rfl rfl rfl (rLen rfl rfl) ?_
        refine st rfl rfl rfl rfl (rSub rfl rfl rfl (by omega) (by omega)) ?_
        refine st rfl rfl rfl rfl (rIdxR rfl rfl rfl (by omega) (by omega) (by omega)) ?_
        refine st rfl rfl rfl rfl (rLdR rfl rfl (by omega)) ?_
        refine ef rfl rfl (eCallV rfl rfl rfl (ref_Weight _ _ _ (r3.getD ((r3.length : Int) - 1).toNat rowD).xs rfl (by omega)) ⟨rfl, trivial⟩ ?_) 
        iterate 3 refine pu rfl rfl rfl rfl rfl ?_
        refine stg rfl rfl rfl rfl rfl (fun hb => by (have hq := hb; try simp only [zbA] at hq); exact rMove rfl rfl) ?_
        refine stg rfl rfl rfl rfl rfl (fun hb => by (have hq := hb; try simp only [zbA] at hq); exact rEql rfl (evg rfl hb) rfl) ?_
        refine stg rfl rfl rfl rfl rfl (fun hb => by (have hq := hb; try simp only [zbA] at hq); exact rMove rfl (evg rfl hb)) ?_
        refine stg2 rfl rfl rfl rfl rfl (fun hb => by (have hq := hb; try simp only [zbA] at hq); exact rMove rfl rfl) ?_
        refine stg2 rfl rfl rfl rfl rfl (fun hb => by (have hq := hb; try simp only [zbA] at hq); exact rMove rfl rfl) ?_
        refine stg2 rfl rfl rfl rfl rfl (fun hb => by (have hq := hb; try simp only [zbA] at hq); exact rGeq rfl (evg rfl hb) (evg rfl hb)) ?_
        refine stg rfl rfl rfl rfl rfl (fun hb => by (have hq := hb; try simp only [zbA] at hq); exact rOrB rfl (evg rfl hb) rfl (evgp rfl hb)) ?_
        refine st rfl rfl rfl rfl (rAndB rfl rfl rfl rfl) ?_
        refine pu rfl rfl rfl rfl rfl ?_
        generalize wtL (r3.getD ((r3.length : Int) - 1).toNat rowD).xs = u at hwl hlw ⊢
        exact tr_ret ⟨trivial, _, _, rfl, ⟨by simp; omega, rfl⟩, CSub.nil _, trivial⟩
theorem law_BchSolomon (p m : Int) (A : Option Addr) (c : Nat) (mod : List Int) (hl9 : mod.length ≤ 17592186044415) (n b d : Int) (X : Option Addr) (nx cx : Nat) (l : List Int) (hnx : nx = l.length) (hl : l.length ≤ 17592186044415) : Pure Tryz.prog 6 #[.agg #[.int .i64 p, .int .i64 m, .slice A mod.length c], .int .i64 n, .int .i64 b, .int .i64 d, .slice X nx cx] [ro A (ints mod), ro X (ints l)] (isV (.bool true)) := by
  by_cases hF0 : FldR p m mod
  · haveI hF : IsF p m mod := ⟨hF0⟩
    by_cases hbb : n < 1 ∨ n > 64
    · exact law_BchSolomon_B p m A c mod hl9 n b d X nx cx l hnx hl _ (ref_FArgs4 p m A c mod p m A c mod n hbb) (.inl (by omega))
    · have hn1 : 1 ≤ n := by omega
      have hn64 : n ≤ 64 := by omega
      have hd : m % m = 0 := Int.emod_self
      by_cases hr : rootI p m mod n = 0
      · exact law_BchSolomon_B p m A c mod hl9 n b d X nx cx l hnx hl _ (ref_FArgsG p m A c mod m A c mod hd n hn1 hn64) (.inl (by simp [hr]))
      · by_cases hbd : b < 0 ∨ b ≥ n ∨ d < 1 ∨ d > n
        · exact law_BchSolomon_B p m A c mod hl9 n b d X nx cx l hnx hl _ (ref_FArgsG p m A c mod m A c mod hd n hn1 hn64) (.inr hbd)
        · exact law_BchSolomon_G p m A c mod n b d X nx cx l hnx hl hn1 hn64 hr (by omega) (by omega) (by omega) (by omega)
  · have hch : chkF p m mod ≠ 0 := by rw [chkF_no hF0]; omega
    exact law_BchSolomon_B p m A c mod hl9 n b d X nx cx l hnx hl _ (ref_FArgs1 p m A c mod p m A c mod hl9 hl9 n (.inl hch)) (.inl (by omega))
end Go.Proofs.YtgnmcoegdogfgaaGreat

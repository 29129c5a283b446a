/-
  BCHDESIGNED, PART 8 OF 9. One sentence: the texts behind the law BchDesigned, put together.
  Conditions: each theorem's own, written out in it.
-/
import Derived.Test.YtgnmcoegdogfgaaGreatK7
set_option linter.unusedSimpArgs false
set_option linter.unusedVariables false
set_option linter.unusedSectionVars false
set_option linter.unusedSimpArgs false
set_option linter.unusedVariables false
set_option maxRecDepth 100000
namespace Go.Proofs.YtgnmcoegdogfgaaGreat
open Go.RowKit
theorem law_BchDesigned_F_ent : Enters Tryz.prog 5 := enters_of Tryz.func5 (by kernel_rfl) (by kernel_rfl)
theorem law_BchDesigned_F (p m : Int) (A : Option Addr) (c : Nat) (mod : List Int) (p2 m2 : Int) (Ae : Option Addr) (ce : Nat) (mod2 : List Int) (hl9 : mod.length ≤ 17592186044415) (hl92 : mod2.length ≤ 17592186044415) (n b d : Int) (X : Option Addr) (nx cx : Nat) (l : List Int) (hnx : nx = l.length) (hl : l.length ≤ 17592186044415) (hF : ¬ FldR p m mod) :
    Pure Tryz.prog 5 #[.agg #[.int .i64 p, .int .i64 m, .slice A mod.length c], .agg #[.int .i64 p2, .int .i64 m2, .slice Ae mod2.length ce], .int .i64 n, .int .i64 b, .int .i64 d, .slice X nx cx] [ro A (ints mod), ro Ae (ints mod2), ro X (ints l)] (isV (.bool true)) := by
  have hch : chkF p m mod ≠ 0 := by rw [chkF_no hF]; omega
  refine pure_of (args := [.agg #[.int .i64 p, .int .i64 m, .slice A mod.length c], .agg #[.int .i64 p2, .int .i64 m2, .slice Ae mod2.length ce], .int .i64 n, .int .i64 b, .int .i64 d, .slice X nx cx]) 97 Tryz.func5 rfl rfl rfl law_BchDesigned_F_ent ⟨id, id, id, trivial⟩ (fun w0 => ?_)
  refine tr_seq ?_
  refine tr_region fun _ _ _ => ?_
  refine ef rfl rfl (eBox rfl rfl rfl rfl rfl (fun p0 => ?_)) 
  refine ef rfl rfl (eBox rfl rfl rfl rfl rfl (fun p0a => ?_)) 
  refine pu rfl rfl rfl rfl rfl ?_
  refine tr_seq ?_
  refine tr_seq ?_
  refine tr_region fun _ _ _ => ?_
  iterate 3 refine pu rfl rfl rfl rfl rfl ?_
  refine stg rfl rfl rfl rfl rfl (fun hb => by (have hq := hb; try simp only [zbA] at hq); exact rLdS rfl rfl rfl) ?_
  refine stg rfl rfl rfl rfl rfl (fun hb => by (have hq := hb; try simp only [zbA] at hq); exact rLdS rfl rfl rfl) ?_
  refine stg rfl rfl rfl rfl rfl (fun hb => by (have hq := hb; try simp only [zbA] at hq); exact rMove rfl rfl) ?_
  refine efg rfl rfl rfl rfl rfl (fun hb => by (have hq := hb; try simp only [zbA] at hq); exact eCallV rfl rfl rfl (ref_FArgs1 p m A c mod p2 m2 Ae ce mod2 hl9 hl92 n (.inl hch)) ⟨(evg rfl hb), (evg rfl hb), (evg rfl hb), trivial⟩ ⟨rfl, rfl⟩) ?_
  refine stg rfl rfl rfl rfl rfl (fun hb => by (have hq := hb; try simp only [zbA] at hq); exact rEql rfl (evg rfl hb) rfl) ?_
  refine st rfl rfl rfl rfl (rAndB rfl rfl rfl rfl) ?_
  refine tr_cond_bool rfl (fun h1 => ?_) (fun h1 => ?_)
  · try simp only [zbA] at h1
    simp at h1 --done
  · try simp only [zbA] at h1
    refine tr_skip ?_
    refine tr_seq ?_
    refine tr_region fun _ _ _ => ?_
    refine st rfl rfl rfl rfl (rLdS rfl rfl rfl) ?_
    refine st rfl rfl rfl rfl (rLdS rfl rfl rfl) ?_
    iterate 3 refine pu rfl rfl rfl rfl rfl ?_
    refine ef rfl rfl (eCallV rfl rfl rfl (bch_NewF p m A c mod hl9 hF p2 m2 Ae ce mod2 n b d) ⟨rfl, rfl, rfl, rfl, rfl, trivial⟩ ?_) 
    iterate 3 refine pu rfl rfl rfl rfl rfl ?_
    refine ef rfl rfl (eAlloc rfl rfl rfl (fun p3a => ?_)) 
    refine ef rfl rfl (eStS rfl rfl rfl rfl rfl rfl ?_) 
    refine pu rfl rfl rfl rfl rfl ?_
    refine tr_seq ?_
    refine tr_seq ?_
    refine tr_region fun _ _ _ => ?_
    iterate 2 refine pu rfl rfl rfl rfl rfl ?_
    refine tr_cond_bool rfl (fun h4 => ?_) (fun h4 => ?_)
    · try simp only [zbA] at h4
      refine tr_seq ?_
      refine tr_region fun _ _ _ => ?_
      refine st rfl rfl rfl rfl (rLdS rfl rfl rfl) ?_
      refine st rfl rfl rfl rfl (rLdS rfl rfl rfl) ?_
      refine pu rfl rfl rfl rfl rfl ?_
      refine ef rfl rfl (eCallV rfl rfl rfl (ref_FArgs1 p m A c mod p2 m2 Ae ce mod2 hl9 hl92 n (.inl hch)) ⟨rfl, rfl, rfl, trivial⟩ ?_) 
      iterate 2 refine pu rfl rfl rfl rfl rfl ?_
      refine stg rfl rfl rfl rfl rfl (fun hb => by (have hq := hb; try simp only [zbA] at hq); exact rMove rfl rfl) ?_
      refine stg rfl rfl rfl rfl rfl (fun hb => by (have hq := hb; try simp only [zbA] at hq); exact rLss rfl (evg rfl hb) rfl) ?_
      refine st rfl rfl rfl rfl (rOrB rfl rfl rfl rfl) ?_
      refine pu rfl rfl rfl rfl rfl ?_
      refine stg rfl rfl rfl rfl rfl (fun hb => by (have hq := hb; try simp only [zbA] at hq); exact rMove rfl rfl) ?_
      refine stg rfl rfl rfl rfl rfl (fun hb => by (have hq := hb; try simp only [zbA] at hq); exact rMove rfl rfl) ?_
      refine stg rfl rfl rfl rfl rfl (fun hb => by (have hq := hb; try simp only [zbA] at hq); exact rGeq rfl (evg rfl hb) (evg rfl hb)) ?_
      refine st rfl rfl rfl rfl (rOrB rfl rfl rfl rfl) ?_
      refine pu rfl rfl rfl rfl rfl ?_
      refine stg rfl rfl rfl rfl rfl (fun hb => by (have hq := hb; try simp only [zbA] at hq); exact rMove rfl rfl) ?_
      refine stg rfl rfl rfl rfl rfl (fun hb => by (have hq := hb; try simp only [zbA] at hq); exact rLss rfl (evg rfl hb) rfl) ?_
      refine st rfl rfl rfl rfl (rOrB rfl rfl rfl rfl) ?_
      refine pu rfl rfl rfl rfl rfl ?_
      refine stg rfl rfl rfl rfl rfl (fun hb => by (have hq := hb; try simp only [zbA] at hq); exact rMove rfl rfl) ?_
      refine stg rfl rfl rfl rfl rfl (fun hb => by (have hq := hb; try simp only [zbA] at hq); exact rMove rfl rfl) ?_
      refine stg rfl rfl rfl rfl rfl (fun hb => by (have hq := hb; try simp only [zbA] at hq); exact rAdd rfl (evg rfl hb) rfl (by omega) (by omega)) ?_
      refine stg rfl rfl rfl rfl rfl (fun hb => by (have hq := hb; try simp only [zbA] at hq); exact rGtr rfl (evg rfl hb) (evg rfl hb)) ?_
      refine st rfl rfl rfl rfl (rOrB rfl rfl rfl rfl) ?_
      refine pu rfl rfl rfl rfl rfl ?_
      exact tr_ret ⟨trivial, _, _, rfl, ⟨by simp, rfl⟩, CSub.nil _, trivial⟩
    · try simp only [zbA] at h4
      first | exact absurd trivial h4 | exact absurd rfl h4 | omega | (exact absurd h4 (by simp)) --done
theorem law_BchDesigned_N_ent : Enters Tryz.prog 5 := enters_of Tryz.func5 (by kernel_rfl) (by kernel_rfl)
theorem law_BchDesigned_N (p m : Int) (A : Option Addr) (c : Nat) (mod : List Int) [hF : IsF p m mod] (p2 m2 : Int) (Ae : Option Addr) (ce : Nat) (mod2 : List Int) (hl9 : mod.length ≤ 17592186044415) (hl92 : mod2.length ≤ 17592186044415) (n b d : Int) (X : Option Addr) (nx cx : Nat) (l : List Int) (hnx : nx = l.length) (hl : l.length ≤ 17592186044415) (hE : ¬ FldR p2 m2 mod2) :
    Pure Tryz.prog 5 #[.agg #[.int .i64 p, .int .i64 m, .slice A mod.length c], .agg #[.int .i64 p2, .int .i64 m2, .slice Ae mod2.length ce], .int .i64 n, .int .i64 b, .int .i64 d, .slice X nx cx] [ro A (ints mod), ro Ae (ints mod2), ro X (ints l)] (isV (.bool true)) := by
  have hch : chkF p2 m2 mod2 ≠ 0 := by rw [chkF_no hE]; omega
  refine pure_of (args := [.agg #[.int .i64 p, .int .i64 m, .slice A mod.length c], .agg #[.int .i64 p2, .int .i64 m2, .slice Ae mod2.length ce], .int .i64 n, .int .i64 b, .int .i64 d, .slice X nx cx]) 97 Tryz.func5 rfl rfl rfl law_BchDesigned_N_ent ⟨id, id, id, trivial⟩ (fun w0 => ?_)
  refine tr_seq ?_
  refine tr_region fun _ _ _ => ?_
  refine ef rfl rfl (eBox rfl rfl rfl rfl rfl (fun p0 => ?_)) 
  refine ef rfl rfl (eBox rfl rfl rfl rfl rfl (fun p0a => ?_)) 
  refine pu rfl rfl rfl rfl rfl ?_
  refine tr_seq ?_
  refine tr_seq ?_
  refine tr_region fun _ _ _ => ?_
  iterate 3 refine pu rfl rfl rfl rfl rfl ?_
  refine stg rfl rfl rfl rfl rfl (fun hb => by (have hq := hb; try simp only [zbA] at hq); exact rLdS rfl rfl rfl) ?_
  refine stg rfl rfl rfl rfl rfl (fun hb => by (have hq := hb; try simp only [zbA] at hq); exact rLdS rfl rfl rfl) ?_
  refine stg rfl rfl rfl rfl rfl (fun hb => by (have hq := hb; try simp only [zbA] at hq); exact rMove rfl rfl) ?_
  refine efg rfl rfl rfl rfl rfl (fun hb => by (have hq := hb; try simp only [zbA] at hq); exact eCallV rfl rfl rfl (ref_FArgs1 p m A c mod p2 m2 Ae ce mod2 hl9 hl92 n (.inr hch)) ⟨(evg rfl hb), (evg rfl hb), (evg rfl hb), trivial⟩ ⟨rfl, rfl⟩) ?_
  refine stg rfl rfl rfl rfl rfl (fun hb => by (have hq := hb; try simp only [zbA] at hq); exact rEql rfl (evg rfl hb) rfl) ?_
  refine st rfl rfl rfl rfl (rAndB rfl rfl rfl rfl) ?_
  refine tr_cond_bool rfl (fun h1 => ?_) (fun h1 => ?_)
  · try simp only [zbA] at h1
    simp at h1 --done
  · try simp only [zbA] at h1
    refine tr_skip ?_
    refine tr_seq ?_
    refine tr_region fun _ _ _ => ?_
    refine st rfl rfl rfl rfl (rLdS rfl rfl rfl) ?_
    refine st rfl rfl rfl rfl (rLdS rfl rfl rfl) ?_
    iterate 3 refine pu rfl rfl rfl rfl rfl ?_
    refine ef rfl rfl (eCallV rfl rfl rfl (bch_NewN p m A c mod p2 m2 Ae ce mod2 hl92 hE n b d) ⟨rfl, rfl, rfl, rfl, rfl, trivial⟩ ?_) 
    iterate 3 refine pu rfl rfl rfl rfl rfl ?_
    refine ef rfl rfl (eAlloc rfl rfl rfl (fun p3a => ?_)) 
    refine ef rfl rfl (eStS rfl rfl rfl rfl rfl rfl ?_) 
    refine pu rfl rfl rfl rfl rfl ?_
    refine tr_seq ?_
    refine tr_seq ?_
    refine tr_region fun _ _ _ => ?_
    iterate 2 refine pu rfl rfl rfl rfl rfl ?_
    refine tr_cond_bool rfl (fun h4 => ?_) (fun h4 => ?_)
    · try simp only [zbA] at h4
      refine tr_seq ?_
      refine tr_region fun _ _ _ => ?_
      refine st rfl rfl rfl rfl (rLdS rfl rfl rfl) ?_
      refine st rfl rfl rfl rfl (rLdS rfl rfl rfl) ?_
      refine pu rfl rfl rfl rfl rfl ?_
      refine ef rfl rfl (eCallV rfl rfl rfl (ref_FArgs1 p m A c mod p2 m2 Ae ce mod2 hl9 hl92 n (.inr hch)) ⟨rfl, rfl, rfl, trivial⟩ ?_) 
      iterate 2 refine pu rfl rfl rfl rfl rfl ?_
      refine stg rfl rfl rfl rfl rfl (fun hb => by (have hq := hb; try simp only [zbA] at hq); exact rMove rfl rfl) ?_
      refine stg rfl rfl rfl rfl rfl (fun hb => by (have hq := hb; try simp only [zbA] at hq); exact rLss rfl (evg rfl hb) rfl) ?_
      refine st rfl rfl rfl rfl (rOrB rfl rfl rfl rfl) ?_
      refine pu rfl rfl rfl rfl rfl ?_
      refine stg rfl rfl rfl rfl rfl (fun hb => by (have hq := hb; try simp only [zbA] at hq); exact rMove rfl rfl) ?_
      refine stg rfl rfl rfl rfl rfl (fun hb => by (have hq := hb; try simp only [zbA] at hq); exact rMove rfl rfl) ?_
      refine stg rfl rfl rfl rfl rfl (fun hb => by (have hq := hb; try simp only [zbA] at hq); exact rGeq rfl (evg rfl hb) (evg rfl hb)) ?_
      refine st rfl rfl rfl rfl (rOrB rfl rfl rfl rfl) ?_
      refine pu rfl rfl rfl rfl rfl ?_
      refine stg rfl rfl rfl rfl rfl (fun hb => by (have hq := hb; try simp only [zbA] at hq); exact rMove rfl rfl) ?_
      refine stg rfl rfl rfl rfl rfl (fun hb => by (have hq := hb; try simp only [zbA] at hq); exact rLss rfl (evg rfl hb) rfl) ?_
      refine st rfl rfl rfl rfl (rOrB rfl rfl rfl rfl) ?_
      refine pu rfl rfl rfl rfl rfl ?_
      refine stg rfl rfl rfl rfl rfl (fun hb => by (have hq := hb; try simp only [zbA] at hq); exact rMove rfl rfl) ?_
      refine stg rfl rfl rfl rfl rfl (fun hb => by (have hq := hb; try simp only [zbA] at hq); exact rMove rfl rfl) ?_
      refine stg rfl rfl rfl rfl rfl (fun hb => by (have hq := hb; try simp only [zbA] at hq); exact rAdd rfl (evg rfl hb) rfl (by omega) (by omega)) ?_
      refine stg rfl rfl rfl rfl rfl (fun hb => by (have hq := hb; try simp only [zbA] at hq); exact rGtr rfl (evg rfl hb) (evg rfl hb)) ?_
      refine st rfl rfl rfl rfl (rOrB rfl rfl rfl rfl) ?_
      refine pu rfl rfl rfl rfl rfl ?_
      exact tr_ret ⟨trivial, _, _, rfl, ⟨by simp, rfl⟩, CSub.nil _, trivial⟩
    · try simp only [zbA] at h4
      first | exact absurd trivial h4 | exact absurd rfl h4 | omega | (exact absurd h4 (by simp)) --done
theorem law_BchDesigned_L_ent : Enters Tryz.prog 5 := enters_of Tryz.func5 (by kernel_rfl) (by kernel_rfl)
theorem law_BchDesigned_L (p m : Int) (A : Option Addr) (c : Nat) (mod : List Int) [hF : IsF p m mod] (p2 m2 : Int) (Ae : Option Addr) (ce : Nat) (mod2 : List Int) (hl9 : mod.length ≤ 17592186044415) (hl92 : mod2.length ≤ 17592186044415) (n b d : Int) (X : Option Addr) (nx cx : Nat) (l : List Int) (hnx : nx = l.length) (hl : l.length ≤ 17592186044415) [hE : IsF p2 m2 mod2] (hbn : n < 1 ∨ n > 64) :
    Pure Tryz.prog 5 #[.agg #[.int .i64 p, .int .i64 m, .slice A mod.length c], .agg #[.int .i64 p2, .int .i64 m2, .slice Ae mod2.length ce], .int .i64 n, .int .i64 b, .int .i64 d, .slice X nx cx] [ro A (ints mod), ro Ae (ints mod2), ro X (ints l)] (isV (.bool true)) := by
  refine pure_of (args := [.agg #[.int .i64 p, .int .i64 m, .slice A mod.length c], .agg #[.int .i64 p2, .int .i64 m2, .slice Ae mod2.length ce], .int .i64 n, .int .i64 b, .int .i64 d, .slice X nx cx]) 97 Tryz.func5 rfl rfl rfl law_BchDesigned_L_ent ⟨id, id, id, trivial⟩ (fun w0 => ?_)
  refine tr_seq ?_
  refine tr_region fun _ _ _ => ?_
  refine ef rfl rfl (eBox rfl rfl rfl rfl rfl (fun p0 => ?_)) 
  refine ef rfl rfl (eBox rfl rfl rfl rfl rfl (fun p0a => ?_)) 
  refine pu rfl rfl rfl rfl rfl ?_
  refine tr_seq ?_
  refine tr_seq ?_
  refine tr_region fun _ _ _ => ?_
  iterate 3 refine pu rfl rfl rfl rfl rfl ?_
  refine stg rfl rfl rfl rfl rfl (fun hb => by (have hq := hb; try simp only [zbA] at hq); exact rLdS rfl rfl rfl) ?_
  refine stg rfl rfl rfl rfl rfl (fun hb => by (have hq := hb; try simp only [zbA] at hq); exact rLdS rfl rfl rfl) ?_
  refine stg rfl rfl rfl rfl rfl (fun hb => by (have hq := hb; try simp only [zbA] at hq); exact rMove rfl rfl) ?_
  refine efg rfl rfl rfl rfl rfl (fun hb => by (have hq := hb; try simp only [zbA] at hq); exact eCallV rfl rfl rfl (ref_FArgs4 p m A c mod p2 m2 Ae ce mod2 n hbn) ⟨(evg rfl hb), (evg rfl hb), (evg rfl hb), trivial⟩ ⟨rfl, rfl⟩) ?_
  refine stg rfl rfl rfl rfl rfl (fun hb => by (have hq := hb; try simp only [zbA] at hq); exact rEql rfl (evg rfl hb) rfl) ?_
  refine st rfl rfl rfl rfl (rAndB rfl rfl rfl rfl) ?_
  refine tr_cond_bool rfl (fun h1 => ?_) (fun h1 => ?_)
  · try simp only [zbA] at h1
    simp at h1 --done
  · try simp only [zbA] at h1
    refine tr_skip ?_
    refine tr_seq ?_
    refine tr_region fun _ _ _ => ?_
    refine st rfl rfl rfl rfl (rLdS rfl rfl rfl) ?_
    refine st rfl rfl rfl rfl (rLdS rfl rfl rfl) ?_
    iterate 3 refine pu rfl rfl rfl rfl rfl ?_
    refine ef rfl rfl (eCallV rfl rfl rfl (bch_NewL p m A c mod p2 m2 Ae ce mod2 n b d hbn) ⟨rfl, rfl, rfl, rfl, rfl, trivial⟩ ?_) 
    iterate 3 refine pu rfl rfl rfl rfl rfl ?_
    refine ef rfl rfl (eAlloc rfl rfl rfl (fun p3a => ?_)) 
    refine ef rfl rfl (eStS rfl rfl rfl rfl rfl rfl ?_) 
    refine pu rfl rfl rfl rfl rfl ?_
    refine tr_seq ?_
    refine tr_seq ?_
    refine tr_region fun _ _ _ => ?_
    iterate 2 refine pu rfl rfl rfl rfl rfl ?_
    refine tr_cond_bool rfl (fun h4 => ?_) (fun h4 => ?_)
    · try simp only [zbA] at h4
      refine tr_seq ?_
      refine tr_region fun _ _ _ => ?_
      refine st rfl rfl rfl rfl (rLdS rfl rfl rfl) ?_
      refine st rfl rfl rfl rfl (rLdS rfl rfl rfl) ?_
      refine pu rfl rfl rfl rfl rfl ?_
      refine ef rfl rfl (eCallV rfl rfl rfl (ref_FArgs4 p m A c mod p2 m2 Ae ce mod2 n hbn) ⟨rfl, rfl, rfl, trivial⟩ ?_) 
      iterate 2 refine pu rfl rfl rfl rfl rfl ?_
      refine stg rfl rfl rfl rfl rfl (fun hb => by (have hq := hb; try simp only [zbA] at hq); exact rMove rfl rfl) ?_
      refine stg rfl rfl rfl rfl rfl (fun hb => by (have hq := hb; try simp only [zbA] at hq); exact rLss rfl (evg rfl hb) rfl) ?_
      refine st rfl rfl rfl rfl (rOrB rfl rfl rfl rfl) ?_
      refine pu rfl rfl rfl rfl rfl ?_
      refine stg rfl rfl rfl rfl rfl (fun hb => by (have hq := hb; try simp only [zbA] at hq); exact rMove rfl rfl) ?_
      refine stg rfl rfl rfl rfl rfl (fun hb => by (have hq := hb; try simp only [zbA] at hq); exact rMove rfl rfl) ?_
      refine stg rfl rfl rfl rfl rfl (fun hb => by (have hq := hb; try simp only [zbA] at hq); exact rGeq rfl (evg rfl hb) (evg rfl hb)) ?_
      refine st rfl rfl rfl rfl (rOrB rfl rfl rfl rfl) ?_
      refine pu rfl rfl rfl rfl rfl ?_
      refine stg rfl rfl rfl rfl rfl (fun hb => by (have hq := hb; try simp only [zbA] at hq); exact rMove rfl rfl) ?_
      refine stg rfl rfl rfl rfl rfl (fun hb => by (have hq := hb; try simp only [zbA] at hq); exact rLss rfl (evg rfl hb) rfl) ?_
      refine st rfl rfl rfl rfl (rOrB rfl rfl rfl rfl) ?_
      refine pu rfl rfl rfl rfl rfl ?_
      refine stg rfl rfl rfl rfl rfl (fun hb => by (have hq := hb; try simp only [zbA] at hq); exact rMove rfl rfl) ?_
      refine stg rfl rfl rfl rfl rfl (fun hb => by (have hq := hb; try simp only [zbA] at hq); exact rMove rfl rfl) ?_
      refine stg rfl rfl rfl rfl rfl (fun hb => by (have hq := hb; try simp only [zbA] at hq); exact rAdd rfl (evg rfl hb) rfl (by omega) (by omega)) ?_
      refine stg rfl rfl rfl rfl rfl (fun hb => by (have hq := hb; try simp only [zbA] at hq); exact rGtr rfl (evg rfl hb) (evg rfl hb)) ?_
      refine st rfl rfl rfl rfl (rOrB rfl rfl rfl rfl) ?_
      refine pu rfl rfl rfl rfl rfl ?_
      exact tr_ret ⟨trivial, _, _, rfl, ⟨by simp, rfl⟩, CSub.nil _, trivial⟩
    · try simp only [zbA] at h4
      first | exact absurd trivial h4 | exact absurd rfl h4 | omega | (exact absurd h4 (by simp)) --done
theorem law_BchDesigned_P_ent : Enters Tryz.prog 5 := enters_of Tryz.func5 (by kernel_rfl) (by kernel_rfl)
theorem law_BchDesigned_P (p m : Int) (A : Option Addr) (c : Nat) (mod : List Int) [hF : IsF p m mod] (p2 m2 : Int) (Ae : Option Addr) (ce : Nat) (mod2 : List Int) (hl9 : mod.length ≤ 17592186044415) (hl92 : mod2.length ≤ 17592186044415) (n b d : Int) (X : Option Addr) (nx cx : Nat) (l : List Int) (hnx : nx = l.length) (hl : l.length ≤ 17592186044415) [hE : IsF p2 m2 mod2] (hn1 : 1 ≤ n) (hn64 : n ≤ 64) (hne : p ≠ p2) :
    Pure Tryz.prog 5 #[.agg #[.int .i64 p, .int .i64 m, .slice A mod.length c], .agg #[.int .i64 p2, .int .i64 m2, .slice Ae mod2.length ce], .int .i64 n, .int .i64 b, .int .i64 d, .slice X nx cx] [ro A (ints mod), ro Ae (ints mod2), ro X (ints l)] (isV (.bool true)) := by
  refine pure_of (args := [.agg #[.int .i64 p, .int .i64 m, .slice A mod.length c], .agg #[.int .i64 p2, .int .i64 m2, .slice Ae mod2.length ce], .int .i64 n, .int .i64 b, .int .i64 d, .slice X nx cx]) 97 Tryz.func5 rfl rfl rfl law_BchDesigned_P_ent ⟨id, id, id, trivial⟩ (fun w0 => ?_)
  refine tr_seq ?_
  refine tr_region fun _ _ _ => ?_
  refine ef rfl rfl (eBox rfl rfl rfl rfl rfl (fun p0 => ?_)) 
  refine ef rfl rfl (eBox rfl rfl rfl rfl rfl (fun p0a => ?_)) 
  refine pu rfl rfl rfl rfl rfl ?_
  refine tr_seq ?_
  refine tr_seq ?_
  refine tr_region fun _ _ _ => ?_
  iterate 3 refine pu rfl rfl rfl rfl rfl ?_
  refine stg rfl rfl rfl rfl rfl (fun hb => by (have hq := hb; try simp only [zbA] at hq); exact rLdS rfl rfl rfl) ?_
  refine stg rfl rfl rfl rfl rfl (fun hb => by (have hq := hb; try simp only [zbA] at hq); exact rLdS rfl rfl rfl) ?_
  refine stg rfl rfl rfl rfl rfl (fun hb => by (have hq := hb; try simp only [zbA] at hq); exact rMove rfl rfl) ?_
  refine efg rfl rfl rfl rfl rfl (fun hb => by (have hq := hb; try simp only [zbA] at hq); exact eCallV rfl rfl rfl (ref_FArgs10 p m A c mod p2 m2 Ae ce mod2 n hn1 hn64 (fun h => hne h.1)) ⟨(evg rfl hb), (evg rfl hb), (evg rfl hb), trivial⟩ ⟨rfl, rfl⟩) ?_
  refine stg rfl rfl rfl rfl rfl (fun hb => by (have hq := hb; try simp only [zbA] at hq); exact rEql rfl (evg rfl hb) rfl) ?_
  refine st rfl rfl rfl rfl (rAndB rfl rfl rfl rfl) ?_
  refine tr_cond_bool rfl (fun h1 => ?_) (fun h1 => ?_)
  · try simp only [zbA] at h1
    simp at h1 --done
  · try simp only [zbA] at h1
    refine tr_skip ?_
    refine tr_seq ?_
    refine tr_region fun _ _ _ => ?_
    refine st rfl rfl rfl rfl (rLdS rfl rfl rfl) ?_
    refine st rfl rfl rfl rfl (rLdS rfl rfl rfl) ?_
    iterate 3 refine pu rfl rfl rfl rfl rfl ?_
    refine ef rfl rfl (eCallV rfl rfl rfl (bch_NewP p m A c mod p2 m2 Ae ce mod2 hne n b d hn1 hn64) ⟨rfl, rfl, rfl, rfl, rfl, trivial⟩ ?_) 
    iterate 3 refine pu rfl rfl rfl rfl rfl ?_
    refine ef rfl rfl (eAlloc rfl rfl rfl (fun p3a => ?_)) 
    refine ef rfl rfl (eStS rfl rfl rfl rfl rfl rfl ?_) 
    refine pu rfl rfl rfl rfl rfl ?_
    refine tr_seq ?_
    refine tr_seq ?_
    refine tr_region fun _ _ _ => ?_
    iterate 2 refine pu rfl rfl rfl rfl rfl ?_
    refine tr_cond_bool rfl (fun h4 => ?_) (fun h4 => ?_)
    · try simp only [zbA] at h4
      refine tr_seq ?_
      refine tr_region fun _ _ _ => ?_
      refine st rfl rfl rfl rfl (rLdS rfl rfl rfl) ?_
      refine st rfl rfl rfl rfl (rLdS rfl rfl rfl) ?_
      refine pu rfl rfl rfl rfl rfl ?_
      refine ef rfl rfl (eCallV rfl rfl rfl (ref_FArgs10 p m A c mod p2 m2 Ae ce mod2 n hn1 hn64 (fun h => hne h.1)) ⟨rfl, rfl, rfl, trivial⟩ ?_) 
      iterate 2 refine pu rfl rfl rfl rfl rfl ?_
      refine stg rfl rfl rfl rfl rfl (fun hb => by (have hq := hb; try simp only [zbA] at hq); exact rMove rfl rfl) ?_
      refine stg rfl rfl rfl rfl rfl (fun hb => by (have hq := hb; try simp only [zbA] at hq); exact rLss rfl (evg rfl hb) rfl) ?_
      refine st rfl rfl rfl rfl (rOrB rfl rfl rfl rfl) ?_
      refine pu rfl rfl rfl rfl rfl ?_
      refine stg rfl rfl rfl rfl rfl (fun hb => by (have hq := hb; try simp only [zbA] at hq); exact rMove rfl rfl) ?_
      refine stg rfl rfl rfl rfl rfl (fun hb => by (have hq := hb; try simp only [zbA] at hq); exact rMove rfl rfl) ?_
      refine stg rfl rfl rfl rfl rfl (fun hb => by (have hq := hb; try simp only [zbA] at hq); exact rGeq rfl (evg rfl hb) (evg rfl hb)) ?_
      refine st rfl rfl rfl rfl (rOrB rfl rfl rfl rfl) ?_
      refine pu rfl rfl rfl rfl rfl ?_
      refine stg rfl rfl rfl rfl rfl (fun hb => by (have hq := hb; try simp only [zbA] at hq); exact rMove rfl rfl) ?_
      refine stg rfl rfl rfl rfl rfl (fun hb => by (have hq := hb; try simp only [zbA] at hq); exact rLss rfl (evg rfl hb) rfl) ?_
      refine st rfl rfl rfl rfl (rOrB rfl rfl rfl rfl) ?_
      refine pu rfl rfl rfl rfl rfl ?_
      refine stg rfl rfl rfl rfl rfl (fun hb => by (have hq := hb; try simp only [zbA] at hq); exact rMove rfl rfl) ?_
      refine stg rfl rfl rfl rfl rfl (fun hb => by (have hq := hb; try simp only [zbA] at hq); exact rMove rfl rfl) ?_
      refine stg rfl rfl rfl rfl rfl (fun hb => by (have hq := hb; try simp only [zbA] at hq); exact rAdd rfl (evg rfl hb) rfl (by omega) (by omega)) ?_
      refine stg rfl rfl rfl rfl rfl (fun hb => by (have hq := hb; try simp only [zbA] at hq); exact rGtr rfl (evg rfl hb) (evg rfl hb)) ?_
      refine st rfl rfl rfl rfl (rOrB rfl rfl rfl rfl) ?_
      refine pu rfl rfl rfl rfl rfl ?_
      exact tr_ret ⟨trivial, _, _, rfl, ⟨by simp, rfl⟩, CSub.nil _, trivial⟩
    · try simp only [zbA] at h4
      first | exact absurd trivial h4 | exact absurd rfl h4 | omega | (exact absurd h4 (by simp)) --done
theorem law_BchDesigned_D_ent : Enters Tryz.prog 5 := enters_of Tryz.func5 (by kernel_rfl) (by kernel_rfl)
theorem law_BchDesigned_D (p m : Int) (A : Option Addr) (c : Nat) (mod : List Int) [hF : IsF p m mod] (p2 m2 : Int) (Ae : Option Addr) (ce : Nat) (mod2 : List Int) (hl9 : mod.length ≤ 17592186044415) (hl92 : mod2.length ≤ 17592186044415) (n b d : Int) (X : Option Addr) (nx cx : Nat) (l : List Int) (hnx : nx = l.length) (hl : l.length ≤ 17592186044415) [hE : IsF p2 m2 mod2] (hn1 : 1 ≤ n) (hn64 : n ≤ 64) (hpp : p = p2) (hne : m2 % m ≠ 0) :
    Pure Tryz.prog 5 #[.agg #[.int .i64 p, .int .i64 m, .slice A mod.length c], .agg #[.int .i64 p2, .int .i64 m2, .slice Ae mod2.length ce], .int .i64 n, .int .i64 b, .int .i64 d, .slice X nx cx] [ro A (ints mod), ro Ae (ints mod2), ro X (ints l)] (isV (.bool true)) := by
  refine pure_of (args := [.agg #[.int .i64 p, .int .i64 m, .slice A mod.length c], .agg #[.int .i64 p2, .int .i64 m2, .slice Ae mod2.length ce], .int .i64 n, .int .i64 b, .int .i64 d, .slice X nx cx]) 97 Tryz.func5 rfl rfl rfl law_BchDesigned_D_ent ⟨id, id, id, trivial⟩ (fun w0 => ?_)
  refine tr_seq ?_
  refine tr_region fun _ _ _ => ?_
  refine ef rfl rfl (eBox rfl rfl rfl rfl rfl (fun p0 => ?_)) 
  refine ef rfl rfl (eBox rfl rfl rfl rfl rfl (fun p0a => ?_)) 
  refine pu rfl rfl rfl rfl rfl ?_
  refine tr_seq ?_
  refine tr_seq ?_
  refine tr_region fun _ _ _ => ?_
  iterate 3 refine pu rfl rfl rfl rfl rfl ?_
  refine stg rfl rfl rfl rfl rfl (fun hb => by (have hq := hb; try simp only [zbA] at hq); exact rLdS rfl rfl rfl) ?_
  refine stg rfl rfl rfl rfl rfl (fun hb => by (have hq := hb; try simp only [zbA] at hq); exact rLdS rfl rfl rfl) ?_
  refine stg rfl rfl rfl rfl rfl (fun hb => by (have hq := hb; try simp only [zbA] at hq); exact rMove rfl rfl) ?_
  refine efg rfl rfl rfl rfl rfl (fun hb => by (have hq := hb; try simp only [zbA] at hq); exact eCallV rfl rfl rfl (ref_FArgs10 p m A c mod p2 m2 Ae ce mod2 n hn1 hn64 (fun h => hne h.2)) ⟨(evg rfl hb), (evg rfl hb), (evg rfl hb), trivial⟩ ⟨rfl, rfl⟩) ?_
  refine stg rfl rfl rfl rfl rfl (fun hb => by (have hq := hb; try simp only [zbA] at hq); exact rEql rfl (evg rfl hb) rfl) ?_
  refine st rfl rfl rfl rfl (rAndB rfl rfl rfl rfl) ?_
  refine tr_cond_bool rfl (fun h1 => ?_) (fun h1 => ?_)
  · try simp only [zbA] at h1
    simp at h1 --done
  · try simp only [zbA] at h1
    refine tr_skip ?_
    refine tr_seq ?_
    refine tr_region fun _ _ _ => ?_
    refine st rfl rfl rfl rfl (rLdS rfl rfl rfl) ?_
    refine st rfl rfl rfl rfl (rLdS rfl rfl rfl) ?_
    iterate 3 refine pu rfl rfl rfl rfl rfl ?_
    refine ef rfl rfl (eCallV rfl rfl rfl (bch_NewD p m A c mod p2 m2 Ae ce mod2 hpp hne n b d hn1 hn64) ⟨rfl, rfl, rfl, rfl, rfl, trivial⟩ ?_) 
    iterate 3 refine pu rfl rfl rfl rfl rfl ?_
    refine ef rfl rfl (eAlloc rfl rfl rfl (fun p3a => ?_)) 
    refine ef rfl rfl (eStS rfl rfl rfl rfl rfl rfl ?_) 
    refine pu rfl rfl rfl rfl rfl ?_
    refine tr_seq ?_
    refine tr_seq ?_
    refine tr_region fun _ _ _ => ?_
    iterate 2 refine pu rfl rfl rfl rfl rfl ?_
    refine tr_cond_bool rfl (fun h4 => ?_) (fun h4 => ?_)
    · try simp only [zbA] at h4
      refine tr_seq ?_
      refine tr_region fun _ _ _ => ?_
      refine st rfl rfl rfl rfl (rLdS rfl rfl rfl) ?_
      refine st rfl rfl rfl rfl (rLdS rfl rfl rfl) ?_
      refine pu rfl rfl rfl rfl rfl ?_
      refine ef rfl rfl (eCallV rfl rfl rfl (ref_FArgs10 p m A c mod p2 m2 Ae ce mod2 n hn1 hn64 (fun h => hne h.2)) ⟨rfl, rfl, rfl, trivial⟩ ?_) 
      iterate 2 refine pu rfl rfl rfl rfl rfl ?_
      refine stg rfl rfl rfl rfl rfl (fun hb => by (have hq := hb; try simp only [zbA] at hq); exact rMove rfl rfl) ?_
      refine stg rfl rfl rfl rfl rfl (fun hb => by (have hq := hb; try simp only [zbA] at hq); exact rLss rfl (evg rfl hb) rfl) ?_
      refine st rfl rfl rfl rfl (rOrB rfl rfl rfl rfl) ?_
      refine pu rfl rfl rfl rfl rfl ?_
      refine stg rfl rfl rfl rfl rfl (fun hb => by (have hq := hb; try simp only [zbA] at hq); exact rMove rfl rfl) ?_
      refine stg rfl rfl rfl rfl rfl (fun hb => by (have hq := hb; try simp only [zbA] at hq); exact rMove rfl rfl) ?_
      refine stg rfl rfl rfl rfl rfl (fun hb => by (have hq := hb; try simp only [zbA] at hq); exact rGeq rfl (evg rfl hb) (evg rfl hb)) ?_
      refine st rfl rfl rfl rfl (rOrB rfl rfl rfl rfl) ?_
      refine pu rfl rfl rfl rfl rfl ?_
      refine stg rfl rfl rfl rfl rfl (fun hb => by (have hq := hb; try simp only [zbA] at hq); exact rMove rfl rfl) ?_
      refine stg rfl rfl rfl rfl rfl (fun hb => by (have hq := hb; try simp only [zbA] at hq); exact rLss rfl (evg rfl hb) rfl) ?_
      refine st rfl rfl rfl rfl (rOrB rfl rfl rfl rfl) ?_
      refine pu rfl rfl rfl rfl rfl ?_
      refine stg rfl rfl rfl rfl rfl (fun hb => by (have hq := hb; try simp only [zbA] at hq); exact rMove rfl rfl) ?_
      refine stg rfl rfl rfl rfl rfl (fun hb => by (have hq := hb; try simp only [zbA] at hq); exact rMove rfl rfl) ?_
      refine stg rfl rfl rfl rfl rfl (fun hb => by (have hq := hb; try simp only [zbA] at hq); exact rAdd rfl (evg rfl hb) rfl (by omega) (by omega)) ?_
      refine stg rfl rfl rfl rfl rfl (fun hb => by (have hq := hb; try simp only [zbA] at hq); exact rGtr rfl (evg rfl hb) (evg rfl hb)) ?_
      refine st rfl rfl rfl rfl (rOrB rfl rfl rfl rfl) ?_
      refine pu rfl rfl rfl rfl rfl ?_
      exact tr_ret ⟨trivial, _, _, rfl, ⟨by simp, rfl⟩, CSub.nil _, trivial⟩
    · try simp only [zbA] at h4
      first | exact absurd trivial h4 | exact absurd rfl h4 | omega | (exact absurd h4 (by simp)) --done
theorem law_BchDesigned_R_ent : Enters Tryz.prog 5 := enters_of Tryz.func5 (by kernel_rfl) (by kernel_rfl)
theorem law_BchDesigned_R (p m : Int) (A : Option Addr) (c : Nat) (mod : List Int) [hF : IsF p m mod] (m2 : Int) (Ae : Option Addr) (ce : Nat) (mod2 : List Int) (hl9 : mod.length ≤ 17592186044415) (hl92 : mod2.length ≤ 17592186044415) (n b d : Int) (X : Option Addr) (nx cx : Nat) (l : List Int) (hnx : nx = l.length) (hl : l.length ≤ 17592186044415) [hE : IsF p m2 mod2] (hd : m2 % m = 0) (hn1 : 1 ≤ n) (hn64 : n ≤ 64) (hr : rootI p m2 mod2 n = 0) :
    Pure Tryz.prog 5 #[.agg #[.int .i64 p, .int .i64 m, .slice A mod.length c], .agg #[.int .i64 p, .int .i64 m2, .slice Ae mod2.length ce], .int .i64 n, .int .i64 b, .int .i64 d, .slice X nx cx] [ro A (ints mod), ro Ae (ints mod2), ro X (ints l)] (isV (.bool true)) := by
  refine pure_of (args := [.agg #[.int .i64 p, .int .i64 m, .slice A mod.length c], .agg #[.int .i64 p, .int .i64 m2, .slice Ae mod2.length ce], .int .i64 n, .int .i64 b, .int .i64 d, .slice X nx cx]) 97 Tryz.func5 rfl rfl rfl law_BchDesigned_R_ent ⟨id, id, id, trivial⟩ (fun w0 => ?_)
  refine tr_seq ?_
  refine tr_region fun _ _ _ => ?_
  refine ef rfl rfl (eBox rfl rfl rfl rfl rfl (fun p0 => ?_)) 
  refine ef rfl rfl (eBox rfl rfl rfl rfl rfl (fun p0a => ?_)) 
  refine pu rfl rfl rfl rfl rfl ?_
  refine tr_seq ?_
  refine tr_seq ?_
  refine tr_region fun _ _ _ => ?_
  iterate 3 refine pu rfl rfl rfl rfl rfl ?_
  refine stg rfl rfl rfl rfl rfl (fun hb => by (have hq := hb; try simp only [zbA] at hq); exact rLdS rfl rfl rfl) ?_
  refine stg rfl rfl rfl rfl rfl (fun hb => by (have hq := hb; try simp only [zbA] at hq); exact rLdS rfl rfl rfl) ?_
  refine stg rfl rfl rfl rfl rfl (fun hb => by (have hq := hb; try simp only [zbA] at hq); exact rMove rfl rfl) ?_
  refine efg rfl rfl rfl rfl rfl (fun hb => by (have hq := hb; try simp only [zbA] at hq); exact eCallV rfl rfl rfl (ref_FArgsG p m A c mod m2 Ae ce mod2 hd n hn1 hn64) ⟨(evg rfl hb), (evg rfl hb), (evg rfl hb), trivial⟩ ⟨rfl, rfl⟩) ?_
  refine stg rfl rfl rfl rfl rfl (fun hb => by (have hq := hb; try simp only [zbA] at hq); exact rEql rfl (evg rfl hb) rfl) ?_
  refine st rfl rfl rfl rfl (rAndB rfl rfl rfl rfl) ?_
  refine tr_cond_bool rfl (fun h1 => ?_) (fun h1 => ?_)
  · try simp only [zbA] at h1
    simp [hr] at h1 --done
  · try simp only [zbA] at h1
    refine tr_skip ?_
    refine tr_seq ?_
    refine tr_region fun _ _ _ => ?_
    refine st rfl rfl rfl rfl (rLdS rfl rfl rfl) ?_
    refine st rfl rfl rfl rfl (rLdS rfl rfl rfl) ?_
    iterate 3 refine pu rfl rfl rfl rfl rfl ?_
    refine ef rfl rfl (eCallV rfl rfl rfl (bch_NewR p m A c mod m2 Ae ce mod2 hd n b d hn1 hn64 hr) ⟨rfl, rfl, rfl, rfl, rfl, trivial⟩ ?_) 
    iterate 3 refine pu rfl rfl rfl rfl rfl ?_
    refine ef rfl rfl (eAlloc rfl rfl rfl (fun p3a => ?_)) 
    refine ef rfl rfl (eStS rfl rfl rfl rfl rfl rfl ?_) 
    refine pu rfl rfl rfl rfl rfl ?_
    refine tr_seq ?_
    refine tr_seq ?_
    refine tr_region fun _ _ _ => ?_
    iterate 2 refine pu rfl rfl rfl rfl rfl ?_
    refine tr_cond_bool rfl (fun h4 => ?_) (fun h4 => ?_)
    · try simp only [zbA] at h4
      refine tr_seq ?_
      refine tr_region fun _ _ _ => ?_
      refine st rfl rfl rfl rfl (rLdS rfl rfl rfl) ?_
      refine st rfl rfl rfl rfl (rLdS rfl rfl rfl) ?_
      refine pu rfl rfl rfl rfl rfl ?_
      refine ef rfl rfl (eCallV rfl rfl rfl (ref_FArgsG p m A c mod m2 Ae ce mod2 hd n hn1 hn64) ⟨rfl, rfl, rfl, trivial⟩ ?_) 
      iterate 2 refine pu rfl rfl rfl rfl rfl ?_
      refine stg rfl rfl rfl rfl rfl (fun hb => by (have hq := hb; try simp only [zbA] at hq); exact rMove rfl rfl) ?_
      refine stg rfl rfl rfl rfl rfl (fun hb => by (have hq := hb; try simp only [zbA] at hq); exact rLss rfl (evg rfl hb) rfl) ?_
      refine st rfl rfl rfl rfl (rOrB rfl rfl rfl rfl) ?_
      refine pu rfl rfl rfl rfl rfl ?_
      refine stg rfl rfl rfl rfl rfl (fun hb => by (have hq := hb; try simp only [zbA] at hq); exact rMove rfl rfl) ?_
      refine stg rfl rfl rfl rfl rfl (fun hb => by (have hq := hb; try simp only [zbA] at hq); exact rMove rfl rfl) ?_
      refine stg rfl rfl rfl rfl rfl (fun hb => by (have hq := hb; try simp only [zbA] at hq); exact rGeq rfl (evg rfl hb) (evg rfl hb)) ?_
      refine st rfl rfl rfl rfl (rOrB rfl rfl rfl rfl) ?_
      refine pu rfl rfl rfl rfl rfl ?_
      refine stg rfl rfl rfl rfl rfl (fun hb => by (have hq := hb; try simp only [zbA] at hq); exact rMove rfl rfl) ?_
      refine stg rfl rfl rfl rfl rfl (fun hb => by (have hq := hb; try simp only [zbA] at hq); exact rLss rfl (evg rfl hb) rfl) ?_
      refine st rfl rfl rfl rfl (rOrB rfl rfl rfl rfl) ?_
      refine pu rfl rfl rfl rfl rfl ?_
      refine stg rfl rfl rfl rfl rfl (fun hb => by (have hq := hb; try simp only [zbA] at hq); exact rMove rfl rfl) ?_
      refine stg rfl rfl rfl rfl rfl (fun hb => by (have hq := hb; try simp only [zbA] at hq); exact rMove rfl rfl) ?_
      refine stg rfl rfl rfl rfl rfl (fun hb => by (have hq := hb; try simp only [zbA] at hq); exact rAdd rfl (evg rfl hb) rfl (by omega) (by omega)) ?_
      refine stg rfl rfl rfl rfl rfl (fun hb => by (have hq := hb; try simp only [zbA] at hq); exact rGtr rfl (evg rfl hb) (evg rfl hb)) ?_
      refine st rfl rfl rfl rfl (rOrB rfl rfl rfl rfl) ?_
      refine pu rfl rfl rfl rfl rfl ?_
      exact tr_ret ⟨trivial, _, _, rfl, ⟨by simp [hr], rfl⟩, CSub.nil _, trivial⟩
    · try simp only [zbA] at h4
      exact absurd h4 (by simp [hr]) --done
theorem law_BchDesigned_X_ent : Enters Tryz.prog 5 := enters_of Tryz.func5 (by kernel_rfl) (by kernel_rfl)
theorem law_BchDesigned_X (p m : Int) (A : Option Addr) (c : Nat) (mod : List Int) [hF : IsF p m mod] (m2 : Int) (Ae : Option Addr) (ce : Nat) (mod2 : List Int) (hl9 : mod.length ≤ 17592186044415) (hl92 : mod2.length ≤ 17592186044415) (n b d : Int) (X : Option Addr) (nx cx : Nat) (l : List Int) (hnx : nx = l.length) (hl : l.length ≤ 17592186044415) [hE : IsF p m2 mod2] (hd : m2 % m = 0) (hn1 : 1 ≤ n) (hn64 : n ≤ 64) (hr : rootI p m2 mod2 n ≠ 0) (hn31 : ¬ n > 31) (hbd : ((b < 0 ∨ b ≥ n) ∨ d < 1) ∨ d > n + 1) :
    Pure Tryz.prog 5 #[.agg #[.int .i64 p, .int .i64 m, .slice A mod.length c], .agg #[.int .i64 p, .int .i64 m2, .slice Ae mod2.length ce], .int .i64 n, .int .i64 b, .int .i64 d, .slice X nx cx] [ro A (ints mod), ro Ae (ints mod2), ro X (ints l)] (isV (.bool true)) := by
  refine pure_of (args := [.agg #[.int .i64 p, .int .i64 m, .slice A mod.length c], .agg #[.int .i64 p, .int .i64 m2, .slice Ae mod2.length ce], .int .i64 n, .int .i64 b, .int .i64 d, .slice X nx cx]) 97 Tryz.func5 rfl rfl rfl law_BchDesigned_X_ent ⟨id, id, id, trivial⟩ (fun w0 => ?_)
  refine tr_seq ?_
  refine tr_region fun _ _ _ => ?_
  refine ef rfl rfl (eBox rfl rfl rfl rfl rfl (fun p0 => ?_)) 
  refine ef rfl rfl (eBox rfl rfl rfl rfl rfl (fun p0a => ?_)) 
  refine pu rfl rfl rfl rfl rfl ?_
  refine tr_seq ?_
  refine tr_seq ?_
  refine tr_region fun _ _ _ => ?_
  iterate 3 refine pu rfl rfl rfl rfl rfl ?_
  refine stg rfl rfl rfl rfl rfl (fun hb => by (have hq := hb; try simp only [zbA] at hq); exact rLdS rfl rfl rfl) ?_
  refine stg rfl rfl rfl rfl rfl (fun hb => by (have hq := hb; try simp only [zbA] at hq); exact rLdS rfl rfl rfl) ?_
  refine stg rfl rfl rfl rfl rfl (fun hb => by (have hq := hb; try simp only [zbA] at hq); exact rMove rfl rfl) ?_
  refine efg rfl rfl rfl rfl rfl (fun hb => by (have hq := hb; try simp only [zbA] at hq); exact eCallV rfl rfl rfl (ref_FArgsG p m A c mod m2 Ae ce mod2 hd n hn1 hn64) ⟨(evg rfl hb), (evg rfl hb), (evg rfl hb), trivial⟩ ⟨rfl, rfl⟩) ?_
  refine stg rfl rfl rfl rfl rfl (fun hb => by (have hq := hb; try simp only [zbA] at hq); exact rEql rfl (evg rfl hb) rfl) ?_
  refine st rfl rfl rfl rfl (rAndB rfl rfl rfl rfl) ?_
  refine tr_cond_bool rfl (fun h1 => ?_) (fun h1 => ?_)
  · try simp only [zbA] at h1
    exact absurd h1.1 hn31 --done
  · try simp only [zbA] at h1
    refine tr_skip ?_
    refine tr_seq ?_
    refine tr_region fun _ _ _ => ?_
    refine st rfl rfl rfl rfl (rLdS rfl rfl rfl) ?_
    refine st rfl rfl rfl rfl (rLdS rfl rfl rfl) ?_
    iterate 3 refine pu rfl rfl rfl rfl rfl ?_
    refine ef rfl rfl (eCallV rfl rfl rfl (bch_NewB p m A c mod m2 Ae ce mod2 hd n b d hn1 hn64 hr hbd) ⟨rfl, rfl, rfl, rfl, rfl, trivial⟩ ?_) 
    iterate 3 refine pu rfl rfl rfl rfl rfl ?_
    refine ef rfl rfl (eAlloc rfl rfl rfl (fun p3a => ?_)) 
    refine ef rfl rfl (eStS rfl rfl rfl rfl rfl rfl ?_) 
    refine pu rfl rfl rfl rfl rfl ?_
    refine tr_seq ?_
    refine tr_seq ?_
    refine tr_region fun _ _ _ => ?_
    iterate 2 refine pu rfl rfl rfl rfl rfl ?_
    refine tr_cond_bool rfl (fun h4 => ?_) (fun h4 => ?_)
    · try simp only [zbA] at h4
      refine tr_seq ?_
      refine tr_region fun _ _ _ => ?_
      refine st rfl rfl rfl rfl (rLdS rfl rfl rfl) ?_
      refine st rfl rfl rfl rfl (rLdS rfl rfl rfl) ?_
      refine pu rfl rfl rfl rfl rfl ?_
      refine ef rfl rfl (eCallV rfl rfl rfl (ref_FArgsG p m A c mod m2 Ae ce mod2 hd n hn1 hn64) ⟨rfl, rfl, rfl, trivial⟩ ?_) 
      iterate 2 refine pu rfl rfl rfl rfl rfl ?_
      refine stg rfl rfl rfl rfl rfl (fun hb => by (have hq := hb; try simp only [zbA] at hq); exact rMove rfl rfl) ?_
      refine stg rfl rfl rfl rfl rfl (fun hb => by (have hq := hb; try simp only [zbA] at hq); exact rLss rfl (evg rfl hb) rfl) ?_
      refine st rfl rfl rfl rfl (rOrB rfl rfl rfl rfl) ?_
      refine pu rfl rfl rfl rfl rfl ?_
      refine stg rfl rfl rfl rfl rfl (fun hb => by (have hq := hb; try simp only [zbA] at hq); exact rMove rfl rfl) ?_
      refine stg rfl rfl rfl rfl rfl (fun hb => by (have hq := hb; try simp only [zbA] at hq); exact rMove rfl rfl) ?_
      refine stg rfl rfl rfl rfl rfl (fun hb => by (have hq := hb; try simp only [zbA] at hq); exact rGeq rfl (evg rfl hb) (evg rfl hb)) ?_
      refine st rfl rfl rfl rfl (rOrB rfl rfl rfl rfl) ?_
      refine pu rfl rfl rfl rfl rfl ?_
      refine stg rfl rfl rfl rfl rfl (fun hb => by (have hq := hb; try simp only [zbA] at hq); exact rMove rfl rfl) ?_
      refine stg rfl rfl rfl rfl rfl (fun hb => by (have hq := hb; try simp only [zbA] at hq); exact rLss rfl (evg rfl hb) rfl) ?_
      refine st rfl rfl rfl rfl (rOrB rfl rfl rfl rfl) ?_
      refine pu rfl rfl rfl rfl rfl ?_
      refine stg rfl rfl rfl rfl rfl (fun hb => by (have hq := hb; try simp only [zbA] at hq); exact rMove rfl rfl) ?_
      refine stg rfl rfl rfl rfl rfl (fun hb => by (have hq := hb; try simp only [zbA] at hq); exact rMove rfl rfl) ?_
      refine stg rfl rfl rfl rfl rfl (fun hb => by (have hq := hb; try simp only [zbA] at hq); exact rAdd rfl (evg rfl hb) rfl (by omega) (by omega)) ?_
      refine stg rfl rfl rfl rfl rfl (fun hb => by (have hq := hb; try simp only [zbA] at hq); exact rGtr rfl (evg rfl hb) (evg rfl hb)) ?_
      refine st rfl rfl rfl rfl (rOrB rfl rfl rfl rfl) ?_
      refine pu rfl rfl rfl rfl rfl ?_
      exact tr_ret ⟨trivial, _, _, rfl, ⟨by simp; omega, rfl⟩, CSub.nil _, trivial⟩
    · try simp only [zbA] at h4
      first | exact absurd trivial h4 | exact absurd rfl h4 | omega | (exact absurd h4 (by simp)) --done
theorem law_BchDesigned_G_ent : Enters Tryz.prog 5 := enters_of Tryz.func5 (by kernel_rfl) (by kernel_rfl)
theorem law_BchDesigned_G (p m : Int) (A : Option Addr) (c : Nat) (mod : List Int) [hF : IsF p m mod] (m2 : Int) (Ae : Option Addr) (ce : Nat) (mod2 : List Int) (hl9 : mod.length ≤ 17592186044415) (hl92 : mod2.length ≤ 17592186044415) (n b d : Int) (X : Option Addr) (nx cx : Nat) (l : List Int) (hnx : nx = l.length) (hl : l.length ≤ 17592186044415) [hE : IsF p m2 mod2] (hd : m2 % m = 0) (hn1 : 1 ≤ n) (hn64 : n ≤ 64) (hr : rootI p m2 mod2 n ≠ 0) (hn31 : ¬ n > 31) (hb0 : 0 ≤ b) (hbn : b < n) (hd0 : 1 ≤ d) (hdn : d ≤ n + 1) :
    Pure Tryz.prog 5 #[.agg #[.int .i64 p, .int .i64 m, .slice A mod.length c], .agg #[.int .i64 p, .int .i64 m2, .slice Ae mod2.length ce], .int .i64 n, .int .i64 b, .int .i64 d, .slice X nx cx] [ro A (ints mod), ro Ae (ints mod2), ro X (ints l)] (isV (.bool true)) := by
  have hl8 := hF.short
  have hm1 := hF.m1
  have hcl := consL_length b d
  have hao := root_ord (p := p) (m2 := m2) (mod2 := mod2) hn1 hr
  obtain ⟨he1, hep⟩ := ext_pow hF hd hao
  have hcs := cls_size hn1 he1 hep (consL b d)
  rw [hcl] at hcs
  have hm8 := hE.out.1.1.m8
  have hm21 := hE.m1
  have hmx : max m 1 = m := by omega
  have hq0 : 0 ≤ m2 / m := by omega
  have hq1 : m2 / m ≤ m2 := Int.ediv_le_self _ (by omega)
  have hpr : (d - 1) * (m2 / max m 1) = ((d - 1).toNat : Int) * ((m2 / m).toNat : Int) := by rw [hmx, Int.toNat_of_nonneg (by omega), Int.toNat_of_nonneg hq0]
  have hpb : (d - 1) * (m2 / max m 1) ≤ 31 * 8 := by rw [hmx]; exact Int.mul_le_mul (by omega) (by omega) hq0 (by omega)
  have hpz : 0 ≤ (d - 1) * (m2 / max m 1) := by rw [hpr]; exact Int.mul_nonneg (by omega) (by omega)
  rw [← hmx] at hq0 hq1
  refine pure_of (args := [.agg #[.int .i64 p, .int .i64 m, .slice A mod.length c], .agg #[.int .i64 p, .int .i64 m2, .slice Ae mod2.length ce], .int .i64 n, .int .i64 b, .int .i64 d, .slice X nx cx]) 97 Tryz.func5 rfl rfl rfl law_BchDesigned_G_ent ⟨id, id, id, trivial⟩ (fun w0 => ?_)
  refine tr_seq ?_
  refine tr_region fun _ _ _ => ?_
  refine ef rfl rfl (eBox rfl rfl rfl rfl rfl (fun p0 => ?_)) 
  refine ef rfl rfl (eBox rfl rfl rfl rfl rfl (fun p0a => ?_)) 
  refine pu rfl rfl rfl rfl rfl ?_
  refine tr_seq ?_
  refine tr_seq ?_
  refine tr_region fun _ _ _ => ?_
  iterate 3 refine pu rfl rfl rfl rfl rfl ?_
  refine stg rfl rfl rfl rfl rfl (fun hb => by (have hq := hb; try simp only [zbA] at hq); exact rLdS rfl rfl rfl) ?_
  refine stg rfl rfl rfl rfl rfl (fun hb => by (have hq := hb; try simp only [zbA] at hq); exact rLdS rfl rfl rfl) ?_
  refine stg rfl rfl rfl rfl rfl (fun hb => by (have hq := hb; try simp only [zbA] at hq); exact rMove rfl rfl) ?_
  refine efg rfl rfl rfl rfl rfl (fun hb => by (have hq := hb; try simp only [zbA] at hq); exact eCallV rfl rfl rfl (ref_FArgsG p m A c mod m2 Ae ce mod2 hd n hn1 hn64) ⟨(evg rfl hb), (evg rfl hb), (evg rfl hb), trivial⟩ ⟨rfl, rfl⟩) ?_
  refine stg rfl rfl rfl rfl rfl (fun hb => by (have hq := hb; try simp only [zbA] at hq); exact rEql rfl (evg rfl hb) rfl) ?_
  refine st rfl rfl rfl rfl (rAndB rfl rfl rfl rfl) ?_
  refine tr_cond_bool rfl (fun h1 => ?_) (fun h1 => ?_)
  · try simp only [zbA] at h1
    exact absurd h1.1 hn31 --done
  · try simp only [zbA] at h1
    refine tr_skip ?_
    refine tr_seq ?_
    refine tr_region fun _ _ _ => ?_
    refine st rfl rfl rfl rfl (rLdS rfl rfl rfl) ?_
    refine st rfl rfl rfl rfl (rLdS rfl rfl rfl) ?_
    iterate 3 refine pu rfl rfl rfl rfl rfl ?_
    refine ef rfl rfl (eCall3 rfl rfl rfl (bch_New p m A c mod m2 Ae ce mod2 hd n b d hn1 hn64 hr hb0 hbn hd0 hdn) ⟨rfl, rfl, rfl, rfl, rfl, trivial⟩ ?_) 
    rintro _ _ _ _ ⟨Bm, cm, B, r3, rfl, rfl, rfl, rfl, gK, hgK, hgx, hgl, hC⟩
    iterate 3 refine pu rfl rfl rfl rfl rfl ?_
    refine ef rfl rfl (eAlloc rfl rfl rfl (fun p3a => ?_)) 
    refine ef rfl rfl (eStS rfl rfl rfl rfl rfl rfl ?_) 
    refine pu rfl rfl rfl rfl rfl ?_
    refine tr_seq ?_
    refine tr_seq ?_
    refine tr_region fun _ _ _ => ?_
    iterate 2 refine pu rfl rfl rfl rfl rfl ?_
    refine tr_cond_bool rfl (fun h4 => ?_) (fun h4 => ?_)
    · try simp only [zbA] at h4
      first | exact absurd trivial h4 | exact absurd rfl h4 | omega | (exact absurd h4 (by simp)) --done
    · try simp only [zbA] at h4
      refine tr_skip ?_
      refine tr_seq ?_
      refine tr_seq ?_
      obtain ⟨_, hdm⟩ := zer_cls hd hn1 hr hgK hgx hgl hC
      refine tr_draw [0, 1, 2, 3, 4, 5, 6, 7, 8, 9, 10, 11, 12, 13, 14, 15, 16, 17, 18, 19, 20, 21, 22, 23, 24, 25] [] mixed (by kernel_rfl) fun _ _ _ => ?_
      refine st rfl rfl rfl rfl (rFld rfl rfl) ?_
      refine st rfl rfl rfl rfl (rLdF rfl rfl rfl) ?_
      iterate 3 refine pu rfl rfl rfl rfl rfl ?_
      refine stT rfl rfl rfl (by simp) rfl rfl (rLdS rfl rfl rfl) ?_
      refine efT rfl rfl rfl (by simp) (eCallV rfl rfl rfl (law17_fewT p m Bm cm mod (by omega) n B _ _ r3 rfl (by have := hC.le; omega) (fun r hr2 => by have := (hC.good r hr2).1; omega)) ⟨rfl, trivial⟩ ?_) 
      refine stT rfl rfl rfl (by simp) rfl rfl (rNotB rfl rfl) ?_
      refine st rfl rfl rfl rfl (rPick0 rfl rfl (by simp) rfl) ?_
      refine pu rfl rfl rfl rfl rfl ?_
      refine stg rfl rfl rfl rfl rfl (fun hb => by (have hq := hb; try simp only [zbA] at hq); exact rFld rfl rfl) ?_
      refine stg rfl rfl rfl rfl rfl (fun hb => by (have hq := hb; try simp only [zbA] at hq); exact rLdF rfl (evg rfl hb) rfl) ?_
      refine stg rfl rfl rfl rfl rfl (fun hb => by (have hq := hb; try simp only [zbA] at hq); exact rLen rfl (evg rfl hb)) ?_
      refine stg rfl rfl rfl rfl rfl (fun hb => by (have hq := hb; try simp only [zbA] at hq); exact rMove rfl rfl) ?_
      refine stg rfl rfl rfl rfl rfl (fun hb => by (have hq := hb; try simp only [zbA] at hq); exact rMove rfl rfl) ?_
      refine stg rfl rfl rfl rfl rfl (fun hb => by (have hq := hb; try simp only [zbA] at hq); exact rSub rfl (evg rfl hb) rfl (by omega) (by omega)) ?_
      refine stg rfl rfl rfl rfl rfl (fun hb => by (have hq := hb; try simp only [zbA] at hq); exact rFld rfl rfl) ?_
      refine stg rfl rfl rfl rfl rfl (fun hb => by (have hq := hb; try simp only [zbA] at hq); exact rLdF rfl (evg rfl hb) rfl) ?_
      refine stg rfl rfl rfl rfl rfl (fun hb => by (have hq := hb; try simp only [zbA] at hq); exact rFld rfl rfl) ?_
      refine stg rfl rfl rfl rfl rfl (fun hb => by (have hq := hb; try simp only [zbA] at hq); exact rLdF rfl (evg rfl hb) rfl) ?_
      refine stg rfl rfl rfl rfl rfl (fun hb => by (have hq := hb; try simp only [zbA] at hq); exact rMax rfl (evg rfl hb) rfl) ?_
      refine stg rfl rfl rfl rfl rfl (fun hb => by (have hq := hb; try simp only [zbA] at hq); exact rQuo rfl (evg rfl hb) (evg rfl hb) (by omega) (by omega)) ?_
      refine stg rfl rfl rfl rfl rfl (fun hb => by (have hq := hb; try simp only [zbA] at hq); exact rMul rfl (evg rfl hb) (evg rfl hb) (by omega) (by omega)) ?_
      refine stg rfl rfl rfl rfl rfl (fun hb => by (have hq := hb; try simp only [zbA] at hq); exact rSub rfl (evg rfl hb) (evg rfl hb) (by omega) (by omega)) ?_
      refine stg rfl rfl rfl rfl rfl (fun hb => by (have hq := hb; try simp only [zbA] at hq); exact rLss rfl (evg rfl hb) (evg rfl hb)) ?_
      refine st rfl rfl rfl rfl (rOrB rfl rfl rfl rfl) ?_
      refine tr_cond_bool rfl (fun h6 => ?_) (fun h6 => ?_)
      · try simp only [zbA] at h6
        exact absurd h6 (by simp; omega) --done
      · try simp only [zbA] at h6
        refine tr_skip ?_
        refine tr_seq ?_
        refine tr_region fun _ _ _ => ?_
        refine st rfl rfl rfl rfl (rLdS rfl rfl rfl) ?_
        refine pu rfl rfl rfl rfl rfl ?_
        refine ef rfl rfl (eCall1 rfl rfl rfl (ref_Of p m Bm cm mod n B _ _ r3 rfl (by have := hC.le; omega) (hC.ok hn1 hn64) X nx cx l hnx hl) ⟨rfl, rfl, trivial⟩ ?_) 
        rintro _ _ ⟨Bo, co, o, rfl, rfl, hol, hoi, hos⟩
        refine ef rfl rfl (eCallV rfl rfl rfl (ref_Weight Bo _ co o rfl (by omega)) ⟨rfl, trivial⟩ ?_) 
        refine pu rfl rfl rfl rfl rfl ?_
        refine tr_seq ?_
        have hwt := des_wt hd hao hd0 hgK (show o.length = n.toNat by omega) hoi (cyw_word ((hC.span _).1 hos))
        refine tr_region fun _ _ _ => ?_
        iterate 3 refine pu rfl rfl rfl rfl rfl ?_
        refine stg rfl rfl rfl rfl rfl (fun hb => by (have hq := hb; try simp only [zbA] at hq); exact rMove rfl rfl) ?_
        refine stg rfl rfl rfl rfl rfl (fun hb => by (have hq := hb; try simp only [zbA] at hq); exact rMove rfl rfl) ?_
        refine stg rfl rfl rfl rfl rfl (fun hb => by (have hq := hb; try simp only [zbA] at hq); exact rGeq rfl (evg rfl hb) (evg rfl hb)) ?_
        refine st rfl rfl rfl rfl (rOrB rfl rfl rfl rfl) ?_
        refine pu rfl rfl rfl rfl rfl ?_
        exact tr_ret ⟨trivial, _, _, rfl, ⟨by simp; omega, rfl⟩, CSub.nil _, trivial⟩
theorem law_BchDesigned_W_ent : Enters Tryz.prog 5 := enters_of Tryz.func5 (by kernel_rfl) (by kernel_rfl)
theorem law_BchDesigned_W (p m : Int) (A : Option Addr) (c : Nat) (mod : List Int) [hF : IsF p m mod] (m2 : Int) (Ae : Option Addr) (ce : Nat) (mod2 : List Int) (hl9 : mod.length ≤ 17592186044415) (hl92 : mod2.length ≤ 17592186044415) (n b d : Int) (X : Option Addr) (nx cx : Nat) (l : List Int) (hnx : nx = l.length) (hl : l.length ≤ 17592186044415) [hE : IsF p m2 mod2] (hd : m2 % m = 0) (hn1 : 1 ≤ n) (hn64 : n ≤ 64) (hr : rootI p m2 mod2 n ≠ 0) (hn31 : n > 31) :
    Pure Tryz.prog 5 #[.agg #[.int .i64 p, .int .i64 m, .slice A mod.length c], .agg #[.int .i64 p, .int .i64 m2, .slice Ae mod2.length ce], .int .i64 n, .int .i64 b, .int .i64 d, .slice X nx cx] [ro A (ints mod), ro Ae (ints mod2), ro X (ints l)] (isV (.bool true)) := by
  refine pure_of (args := [.agg #[.int .i64 p, .int .i64 m, .slice A mod.length c], .agg #[.int .i64 p, .int .i64 m2, .slice Ae mod2.length ce], .int .i64 n, .int .i64 b, .int .i64 d, .slice X nx cx]) 97 Tryz.func5 rfl rfl rfl law_BchDesigned_W_ent ⟨id, id, id, trivial⟩ (fun w0 => ?_)
  refine tr_seq ?_
  refine tr_region fun _ _ _ => ?_
  refine ef rfl rfl (eBox rfl rfl rfl rfl rfl (fun p0 => ?_)) 
  refine ef rfl rfl (eBox rfl rfl rfl rfl rfl (fun p0a => ?_)) 
  refine pu rfl rfl rfl rfl rfl ?_
  refine tr_seq ?_
  refine tr_seq ?_
  refine tr_region fun _ _ _ => ?_
  iterate 3 refine pu rfl rfl rfl rfl rfl ?_
  refine stg rfl rfl rfl rfl rfl (fun hb => by (have hq := hb; try simp only [zbA] at hq); exact rLdS rfl rfl rfl) ?_
  refine stg rfl rfl rfl rfl rfl (fun hb => by (have hq := hb; try simp only [zbA] at hq); exact rLdS rfl rfl rfl) ?_
  refine stg rfl rfl rfl rfl rfl (fun hb => by (have hq := hb; try simp only [zbA] at hq); exact rMove rfl rfl) ?_
  refine efg rfl rfl rfl rfl rfl (fun hb => by (have hq := hb; try simp only [zbA] at hq); exact eCallV rfl rfl rfl (ref_FArgsG p m A c mod m2 Ae ce mod2 hd n hn1 hn64) ⟨(evg rfl hb), (evg rfl hb), (evg rfl hb), trivial⟩ ⟨rfl, rfl⟩) ?_
  refine stg rfl rfl rfl rfl rfl (fun hb => by (have hq := hb; try simp only [zbA] at hq); exact rEql rfl (evg rfl hb) rfl) ?_
  refine st rfl rfl rfl rfl (rAndB rfl rfl rfl rfl) ?_
  refine tr_cond_bool rfl (fun h1 => ?_) (fun h1 => ?_)
  · try simp only [zbA] at h1
    refine tr_seq ?_
    refine tr_region fun _ _ _ => ?_
    refine pu rfl rfl rfl rfl rfl ?_
    exact tr_ret ⟨trivial, _, _, rfl, ⟨rfl, rfl⟩, CSub.nil _, trivial⟩
  · try simp only [zbA] at h1
    exact absurd h1 (by simp [hn31, hr]) --done
theorem law_BchDesigned (p m : Int) (A : Option Addr) (c : Nat) (mod : List Int) (p2 m2 : Int) (Ae : Option Addr) (ce : Nat) (mod2 : List Int) (hl9 : mod.length ≤ 17592186044415) (hl92 : mod2.length ≤ 17592186044415) (n b d : Int) (X : Option Addr) (nx cx : Nat) (l : List Int) (hnx : nx = l.length) (hl : l.length ≤ 17592186044415) : Pure Tryz.prog 5 #[.agg #[.int .i64 p, .int .i64 m, .slice A mod.length c], .agg #[.int .i64 p2, .int .i64 m2, .slice Ae mod2.length ce], .int .i64 n, .int .i64 b, .int .i64 d, .slice X nx cx] [ro A (ints mod), ro Ae (ints mod2), ro X (ints l)] (isV (.bool true)) := by
  by_cases hF0 : FldR p m mod
  · haveI hF : IsF p m mod := ⟨hF0⟩
    by_cases hE0 : FldR p2 m2 mod2
    · haveI hE : IsF p2 m2 mod2 := ⟨hE0⟩
      by_cases hbb : n < 1 ∨ n > 64
      · exact law_BchDesigned_L p m A c mod p2 m2 Ae ce mod2 hl9 hl92 n b d X nx cx l hnx hl hbb
      · have hn1 : 1 ≤ n := by omega
        have hn64 : n ≤ 64 := by omega
        by_cases hpp : p = p2
        · by_cases hd : m2 % m = 0
          · subst hpp
            by_cases hr : rootI p m2 mod2 n = 0
            · exact law_BchDesigned_R p m A c mod m2 Ae ce mod2 hl9 hl92 n b d X nx cx l hnx hl hd hn1 hn64 hr
            · by_cases hn31 : n > 31
              · exact law_BchDesigned_W p m A c mod m2 Ae ce mod2 hl9 hl92 n b d X nx cx l hnx hl hd hn1 hn64 hr hn31
              · by_cases hbd : ((b < 0 ∨ b ≥ n) ∨ d < 1) ∨ d > n + 1
                · exact law_BchDesigned_X p m A c mod m2 Ae ce mod2 hl9 hl92 n b d X nx cx l hnx hl hd hn1 hn64 hr hn31 hbd
                · exact law_BchDesigned_G p m A c mod m2 Ae ce mod2 hl9 hl92 n b d X nx cx l hnx hl hd hn1 hn64 hr hn31 (by omega) (by omega) (by omega) (by omega)
          · exact law_BchDesigned_D p m A c mod p2 m2 Ae ce mod2 hl9 hl92 n b d X nx cx l hnx hl hn1 hn64 hpp hd
        · exact law_BchDesigned_P p m A c mod p2 m2 Ae ce mod2 hl9 hl92 n b d X nx cx l hnx hl hn1 hn64 hpp
    · exact law_BchDesigned_N p m A c mod p2 m2 Ae ce mod2 hl9 hl92 n b d X nx cx l hnx hl hE0
  · exact law_BchDesigned_F p m A c mod p2 m2 Ae ce mod2 hl9 hl92 n b d X nx cx l hnx hl hF0
end Go.Proofs.YtgnmcoegdogfgaaGreat

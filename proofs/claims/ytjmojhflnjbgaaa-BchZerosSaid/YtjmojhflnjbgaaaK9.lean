/-
  BCHZEROS, PART 9 OF 10. One sentence: the texts behind the law BchZeros, put together.
  Conditions: each theorem's own, written out in it.
-/
import Derived.Test.YtjmojhflnjbgaaaK8
set_option linter.unusedSimpArgs false
set_option linter.unusedVariables false
set_option linter.unusedSectionVars false
set_option linter.unusedSimpArgs false
set_option linter.unusedVariables false
set_option maxRecDepth 100000
namespace Go.Proofs.Ytjmojhflnjbgaaa
open Go.RowKit

theorem law_BchZeros_Ea_ent : Enters Try.prog 15 := enters_of Try.func15 (by kernel_rfl) (by kernel_rfl)
theorem law_BchZeros_Ea (p m : Int) (A : Option Addr) (c : Nat) (mod : List Int) (hl9 : mod.length ≤ 17592186044415) (w : Int) (Aa : Option Addr) (n ca : Nat) (rs : List RowM) (hn : n = rs.length) (h9 : rs.length ≤ 17592186044415) (h8 : ∀ r ∈ rs, r.xs.length ≤ 17592186044415) (p2 m2 : Int) (Ae : Option Addr) (ce : Nat) (mod2 : List Int) (hl92 : mod2.length ≤ 17592186044415) (he : codC p m mod w rs ≠ 0) (hw : w > 31) :
    Pure Try.prog 15 #[.agg #[.int .i64 p, .int .i64 m, .slice A mod.length c, .int .i64 w, .slice Aa n ca], .agg #[.int .i64 p2, .int .i64 m2, .slice Ae mod2.length ce]] [ro A (ints mod), ro Aa (hdrs rs), rowsR rs, ro Ae (ints mod2)] (isV (.bool true)) := by
  refine pure_of (args := [.agg #[.int .i64 p, .int .i64 m, .slice A mod.length c, .int .i64 w, .slice Aa n ca], .agg #[.int .i64 p2, .int .i64 m2, .slice Ae mod2.length ce]]) 57 Try.func15 rfl rfl rfl law_BchZeros_Ea_ent ⟨id, id, id, id, trivial⟩ (fun w0 => ?_)
  refine tr_seq ?_
  refine tr_region fun _ _ _ => ?_
  refine ef rfl rfl (eBox rfl rfl rfl rfl rfl (fun p0 => ?_)) 
  refine ef rfl rfl (eBox rfl rfl rfl rfl rfl (fun p0a => ?_)) 
  refine pu rfl rfl rfl rfl rfl ?_
  refine tr_seq ?_
  refine tr_seq ?_
  refine tr_region fun _ _ _ => ?_
  refine st rfl rfl rfl rfl (rFld rfl rfl) ?_
  refine st rfl rfl rfl rfl (rLdF rfl rfl rfl) ?_
  iterate 2 refine pu rfl rfl rfl rfl rfl ?_
  refine stT rfl rfl rfl (by simpa using hw) rfl rfl (rLdS rfl rfl rfl) ?_
  refine efT rfl rfl rfl (by simpa using hw) (eCall0 rfl rfl rfl (law17_fewC p m A c mod hl9 w Aa n ca rs hn h9 h8) ⟨rfl, trivial⟩ ?_) 
  rintro _ ⟨b, rfl, hb⟩
  refine st rfl rfl rfl rfl (rPick1 rfl rfl (by simpa using hw) rfl) ?_
  refine pu rfl rfl rfl rfl rfl ?_
  refine stg rfl rfl rfl rfl rfl (fun hb => by (have hq := hb; try simp only [zb1, zb2, zb3, zb4, zb5, zb6, zb7, zb8, zb9, zb10] at hq); exact rLdS rfl rfl rfl) ?_
  refine stg rfl rfl rfl rfl rfl (fun hb => by (have hq := hb; try simp only [zb1, zb2, zb3, zb4, zb5, zb6, zb7, zb8, zb9, zb10] at hq); exact rLdS rfl rfl rfl) ?_
  refine efg rfl rfl rfl rfl rfl (fun hb => by (have hq := hb; try simp only [zb1, zb2, zb3, zb4, zb5, zb6, zb7, zb8, zb9, zb10] at hq); exact eCallV rfl rfl rfl (ref_ZArgsE p m A c mod hl9 w Aa n ca rs hn h9 h8 he p2 m2 Ae ce mod2) ⟨(evg rfl hb), (evg rfl hb), trivial⟩ ⟨rfl, rfl⟩) ?_
  refine stg rfl rfl rfl rfl rfl (fun hb => by (have hq := hb; try simp only [zb1, zb2, zb3, zb4, zb5, zb6, zb7, zb8, zb9, zb10] at hq); exact rEql rfl (evg rfl hb) rfl) ?_
  refine st rfl rfl rfl rfl (rAndB rfl rfl rfl rfl) ?_
  refine tr_cond_bool rfl (fun h1 => ?_) (fun h1 => ?_)
  · try simp only [zb1, zb2, zb3, zb4, zb5, zb6, zb7, zb8, zb9, zb10] at h1
    exact absurd h1.2 (by simpa using he) --done
  · try simp only [zb1, zb2, zb3, zb4, zb5, zb6, zb7, zb8, zb9, zb10] at h1
    refine tr_skip ?_
    refine tr_seq ?_
    refine tr_seq ?_
    refine tr_region fun _ _ _ => ?_
    refine st rfl rfl rfl rfl (rLdS rfl rfl rfl) ?_
    refine ef rfl rfl (eCall0 rfl rfl rfl (law17_fewC p m A c mod hl9 w Aa n ca rs hn h9 h8) ⟨rfl, trivial⟩ ?_) 
    rintro _ ⟨b3, rfl, hb3⟩
    refine st rfl rfl rfl rfl (rNotB rfl rfl) ?_
    refine tr_cond_bool rfl (fun h3 => ?_) (fun h3 => ?_)
    · try simp only [zb1, zb2, zb3, zb4, zb5, zb6, zb7, zb8, zb9, zb10] at h3
      refine tr_seq ?_
      refine tr_region fun _ _ _ => ?_
      refine pu rfl rfl rfl rfl rfl ?_
      exact tr_ret ⟨trivial, _, _, rfl, ⟨rfl, rfl⟩, CSub.nil _, trivial⟩
    · try simp only [zb1, zb2, zb3, zb4, zb5, zb6, zb7, zb8, zb9, zb10] at h3
      refine tr_skip ?_
      refine tr_seq ?_
      refine tr_region fun _ _ _ => ?_
      refine st rfl rfl rfl rfl (rLdS rfl rfl rfl) ?_
      refine st rfl rfl rfl rfl (rLdS rfl rfl rfl) ?_
      refine ef rfl rfl (eCallV rfl rfl rfl (bch_ZerosE p m A c mod hl9 w Aa n ca rs hn h9 h8 he p2 m2 Ae ce mod2) ⟨rfl, rfl, trivial⟩ ?_) 
      iterate 5 refine pu rfl rfl rfl rfl rfl ?_
      refine tr_seq ?_
      refine tr_seq ?_
      refine tr_region fun _ _ _ => ?_
      refine st rfl rfl rfl rfl (rLdS rfl rfl rfl) ?_
      refine st rfl rfl rfl rfl (rLdS rfl rfl rfl) ?_
      refine ef rfl rfl (eCallV rfl rfl rfl (ref_ZArgsE p m A c mod hl9 w Aa n ca rs hn h9 h8 he p2 m2 Ae ce mod2) ⟨rfl, rfl, trivial⟩ ?_) 
      refine pu rfl rfl rfl rfl rfl ?_
      refine tr_cond_bool rfl (fun h6 => ?_) (fun h6 => ?_)
      · try simp only [zb1, zb2, zb3, zb4, zb5, zb6, zb7, zb8, zb9, zb10] at h6
        refine tr_seq ?_
        refine tr_region fun _ _ _ => ?_
        refine pu rfl rfl rfl rfl rfl ?_
        refine st rfl rfl rfl rfl (rLdS rfl rfl rfl) ?_
        refine st rfl rfl rfl rfl (rLdS rfl rfl rfl) ?_
        refine ef rfl rfl (eCallV rfl rfl rfl (ref_ZArgsE p m A c mod hl9 w Aa n ca rs hn h9 h8 he p2 m2 Ae ce mod2) ⟨rfl, rfl, trivial⟩ ?_) 
        iterate 2 refine pu rfl rfl rfl rfl rfl ?_
        refine stg rfl rfl rfl rfl rfl (fun hb => by (have hq := hb; try simp only [zb1, zb2, zb3, zb4, zb5, zb6, zb7, zb8, zb9, zb10] at hq); exact rMove rfl rfl) ?_
        refine stg rfl rfl rfl rfl rfl (fun hb => by (have hq := hb; try simp only [zb1, zb2, zb3, zb4, zb5, zb6, zb7, zb8, zb9, zb10] at hq); exact rLen rfl (evg rfl hb)) ?_
        refine stg rfl rfl rfl rfl rfl (fun hb => by (have hq := hb; try simp only [zb1, zb2, zb3, zb4, zb5, zb6, zb7, zb8, zb9, zb10] at hq); exact rEql rfl (evg rfl hb) rfl) ?_
        refine st rfl rfl rfl rfl (rAndB rfl rfl rfl rfl) ?_
        refine pu rfl rfl rfl rfl rfl ?_
        exact tr_ret ⟨trivial, _, _, rfl, ⟨by simp, rfl⟩, CSub.nil _, trivial⟩
      · try simp only [zb1, zb2, zb3, zb4, zb5, zb6, zb7, zb8, zb9, zb10] at h6
        exact absurd h6 (by simpa using he) --done

theorem law_BchZeros_Eb_ent : Enters Try.prog 15 := enters_of Try.func15 (by kernel_rfl) (by kernel_rfl)
theorem law_BchZeros_Eb (p m : Int) (A : Option Addr) (c : Nat) (mod : List Int) (hl9 : mod.length ≤ 17592186044415) (w : Int) (Aa : Option Addr) (n ca : Nat) (rs : List RowM) (hn : n = rs.length) (h9 : rs.length ≤ 17592186044415) (h8 : ∀ r ∈ rs, r.xs.length ≤ 17592186044415) (p2 m2 : Int) (Ae : Option Addr) (ce : Nat) (mod2 : List Int) (hl92 : mod2.length ≤ 17592186044415) (he : codC p m mod w rs ≠ 0) (hw : ¬ w > 31) :
    Pure Try.prog 15 #[.agg #[.int .i64 p, .int .i64 m, .slice A mod.length c, .int .i64 w, .slice Aa n ca], .agg #[.int .i64 p2, .int .i64 m2, .slice Ae mod2.length ce]] [ro A (ints mod), ro Aa (hdrs rs), rowsR rs, ro Ae (ints mod2)] (isV (.bool true)) := by
  refine pure_of (args := [.agg #[.int .i64 p, .int .i64 m, .slice A mod.length c, .int .i64 w, .slice Aa n ca], .agg #[.int .i64 p2, .int .i64 m2, .slice Ae mod2.length ce]]) 57 Try.func15 rfl rfl rfl law_BchZeros_Eb_ent ⟨id, id, id, id, trivial⟩ (fun w0 => ?_)
  refine tr_seq ?_
  refine tr_region fun _ _ _ => ?_
  refine ef rfl rfl (eBox rfl rfl rfl rfl rfl (fun p0 => ?_)) 
  refine ef rfl rfl (eBox rfl rfl rfl rfl rfl (fun p0a => ?_)) 
  refine pu rfl rfl rfl rfl rfl ?_
  refine tr_seq ?_
  refine tr_seq ?_
  refine tr_region fun _ _ _ => ?_
  refine st rfl rfl rfl rfl (rFld rfl rfl) ?_
  refine st rfl rfl rfl rfl (rLdF rfl rfl rfl) ?_
  iterate 2 refine pu rfl rfl rfl rfl rfl ?_
  refine skF rfl rfl (by simpa using hw) rfl rfl ?_
  refine skF rfl rfl (by simpa using hw) rfl rfl ?_
  refine st rfl rfl rfl rfl (rPick0 rfl rfl (by simpa using hw) rfl) ?_
  refine pu rfl rfl rfl rfl rfl ?_
  refine skF rfl rfl (by simp) rfl rfl ?_
  refine skF rfl rfl (by simp) rfl rfl ?_
  refine skF rfl rfl (by simp) rfl rfl ?_
  refine skF rfl rfl (by simp) rfl rfl ?_
  refine st rfl rfl rfl rfl (rPick0 rfl rfl (by simp) rfl) ?_
  refine tr_cond_bool rfl (fun h1 => ?_) (fun h1 => ?_)
  · try simp only [zb1, zb2, zb3, zb4, zb5, zb6, zb7, zb8, zb9, zb10] at h1
    first | exact absurd h1.1.1 hw | simp at h1 --done
  · try simp only [zb1, zb2, zb3, zb4, zb5, zb6, zb7, zb8, zb9, zb10] at h1
    refine tr_skip ?_
    refine tr_seq ?_
    refine tr_seq ?_
    refine tr_region fun _ _ _ => ?_
    refine st rfl rfl rfl rfl (rLdS rfl rfl rfl) ?_
    refine ef rfl rfl (eCall0 rfl rfl rfl (law17_fewC p m A c mod hl9 w Aa n ca rs hn h9 h8) ⟨rfl, trivial⟩ ?_) 
    rintro _ ⟨b3, rfl, hb3⟩
    refine st rfl rfl rfl rfl (rNotB rfl rfl) ?_
    refine tr_cond_bool rfl (fun h3 => ?_) (fun h3 => ?_)
    · try simp only [zb1, zb2, zb3, zb4, zb5, zb6, zb7, zb8, zb9, zb10] at h3
      refine tr_seq ?_
      refine tr_region fun _ _ _ => ?_
      refine pu rfl rfl rfl rfl rfl ?_
      exact tr_ret ⟨trivial, _, _, rfl, ⟨rfl, rfl⟩, CSub.nil _, trivial⟩
    · try simp only [zb1, zb2, zb3, zb4, zb5, zb6, zb7, zb8, zb9, zb10] at h3
      refine tr_skip ?_
      refine tr_seq ?_
      refine tr_region fun _ _ _ => ?_
      refine st rfl rfl rfl rfl (rLdS rfl rfl rfl) ?_
      refine st rfl rfl rfl rfl (rLdS rfl rfl rfl) ?_
      refine ef rfl rfl (eCallV rfl rfl rfl (bch_ZerosE p m A c mod hl9 w Aa n ca rs hn h9 h8 he p2 m2 Ae ce mod2) ⟨rfl, rfl, trivial⟩ ?_) 
      iterate 5 refine pu rfl rfl rfl rfl rfl ?_
      refine tr_seq ?_
      refine tr_seq ?_
      refine tr_region fun _ _ _ => ?_
      refine st rfl rfl rfl rfl (rLdS rfl rfl rfl) ?_
      refine st rfl rfl rfl rfl (rLdS rfl rfl rfl) ?_
      refine ef rfl rfl (eCallV rfl rfl rfl (ref_ZArgsE p m A c mod hl9 w Aa n ca rs hn h9 h8 he p2 m2 Ae ce mod2) ⟨rfl, rfl, trivial⟩ ?_) 
      refine pu rfl rfl rfl rfl rfl ?_
      refine tr_cond_bool rfl (fun h6 => ?_) (fun h6 => ?_)
      · try simp only [zb1, zb2, zb3, zb4, zb5, zb6, zb7, zb8, zb9, zb10] at h6
        refine tr_seq ?_
        refine tr_region fun _ _ _ => ?_
        refine pu rfl rfl rfl rfl rfl ?_
        refine st rfl rfl rfl rfl (rLdS rfl rfl rfl) ?_
        refine st rfl rfl rfl rfl (rLdS rfl rfl rfl) ?_
        refine ef rfl rfl (eCallV rfl rfl rfl (ref_ZArgsE p m A c mod hl9 w Aa n ca rs hn h9 h8 he p2 m2 Ae ce mod2) ⟨rfl, rfl, trivial⟩ ?_) 
        iterate 2 refine pu rfl rfl rfl rfl rfl ?_
        refine stg rfl rfl rfl rfl rfl (fun hb => by (have hq := hb; try simp only [zb1, zb2, zb3, zb4, zb5, zb6, zb7, zb8, zb9, zb10] at hq); exact rMove rfl rfl) ?_
        refine stg rfl rfl rfl rfl rfl (fun hb => by (have hq := hb; try simp only [zb1, zb2, zb3, zb4, zb5, zb6, zb7, zb8, zb9, zb10] at hq); exact rLen rfl (evg rfl hb)) ?_
        refine stg rfl rfl rfl rfl rfl (fun hb => by (have hq := hb; try simp only [zb1, zb2, zb3, zb4, zb5, zb6, zb7, zb8, zb9, zb10] at hq); exact rEql rfl (evg rfl hb) rfl) ?_
        refine st rfl rfl rfl rfl (rAndB rfl rfl rfl rfl) ?_
        refine pu rfl rfl rfl rfl rfl ?_
        exact tr_ret ⟨trivial, _, _, rfl, ⟨by simp, rfl⟩, CSub.nil _, trivial⟩
      · try simp only [zb1, zb2, zb3, zb4, zb5, zb6, zb7, zb8, zb9, zb10] at h6
        exact absurd h6 (by simpa using he) --done

theorem law_BchZeros_E (p m : Int) (A : Option Addr) (c : Nat) (mod : List Int) (hl9 : mod.length ≤ 17592186044415) (w : Int) (Aa : Option Addr) (n ca : Nat) (rs : List RowM) (hn : n = rs.length) (h9 : rs.length ≤ 17592186044415) (h8 : ∀ r ∈ rs, r.xs.length ≤ 17592186044415) (p2 m2 : Int) (Ae : Option Addr) (ce : Nat) (mod2 : List Int) (hl92 : mod2.length ≤ 17592186044415) (he : codC p m mod w rs ≠ 0) : Pure Try.prog 15 #[.agg #[.int .i64 p, .int .i64 m, .slice A mod.length c, .int .i64 w, .slice Aa n ca], .agg #[.int .i64 p2, .int .i64 m2, .slice Ae mod2.length ce]] [ro A (ints mod), ro Aa (hdrs rs), rowsR rs, ro Ae (ints mod2)] (isV (.bool true)) := by
  by_cases hw : w > 31
  · exact law_BchZeros_Ea p m A c mod hl9 w Aa n ca rs hn h9 h8 p2 m2 Ae ce mod2 hl92 he hw
  · exact law_BchZeros_Eb p m A c mod hl9 w Aa n ca rs hn h9 h8 p2 m2 Ae ce mod2 hl92 he hw

theorem law_BchZeros_Na_ent : Enters Try.prog 15 := enters_of Try.func15 (by kernel_rfl) (by kernel_rfl)
theorem law_BchZeros_Na (p m : Int) (A : Option Addr) (c : Nat) (mod : List Int) [hF : IsF p m mod] (w : Int) (Aa : Option Addr) (n ca : Nat) (rs : List RowM) (hn : n = rs.length) (h9 : rs.length ≤ 256) (hc : CodeOk p m mod w rs) (hl9 : mod.length ≤ 17592186044415) (h9b : rs.length ≤ 17592186044415) (h8 : ∀ r ∈ rs, r.xs.length ≤ 17592186044415) (p2 m2 : Int) (Ae : Option Addr) (ce : Nat) (mod2 : List Int) (hl92 : mod2.length ≤ 17592186044415) (hE : ¬ FldR p2 m2 mod2) (hw : w > 31) :
    Pure Try.prog 15 #[.agg #[.int .i64 p, .int .i64 m, .slice A mod.length c, .int .i64 w, .slice Aa n ca], .agg #[.int .i64 p2, .int .i64 m2, .slice Ae mod2.length ce]] [ro A (ints mod), ro Aa (hdrs rs), rowsR rs, ro Ae (ints mod2)] (isV (.bool true)) := by
  have h9c := h9
  refine pure_of (args := [.agg #[.int .i64 p, .int .i64 m, .slice A mod.length c, .int .i64 w, .slice Aa n ca], .agg #[.int .i64 p2, .int .i64 m2, .slice Ae mod2.length ce]]) 57 Try.func15 rfl rfl rfl law_BchZeros_Na_ent ⟨id, id, id, id, trivial⟩ (fun w0 => ?_)
  refine tr_seq ?_
  refine tr_region fun _ _ _ => ?_
  refine ef rfl rfl (eBox rfl rfl rfl rfl rfl (fun p0 => ?_)) 
  refine ef rfl rfl (eBox rfl rfl rfl rfl rfl (fun p0a => ?_)) 
  refine pu rfl rfl rfl rfl rfl ?_
  refine tr_seq ?_
  refine tr_seq ?_
  refine tr_region fun _ _ _ => ?_
  refine st rfl rfl rfl rfl (rFld rfl rfl) ?_
  refine st rfl rfl rfl rfl (rLdF rfl rfl rfl) ?_
  iterate 2 refine pu rfl rfl rfl rfl rfl ?_
  refine stT rfl rfl rfl (by simpa using hw) rfl rfl (rLdS rfl rfl rfl) ?_
  refine efT rfl rfl rfl (by simpa using hw) (eCall0 rfl rfl rfl (law17_fewC p m A c mod hl9 w Aa n ca rs hn h9b h8) ⟨rfl, trivial⟩ ?_) 
  rintro _ ⟨b, rfl, hb⟩
  refine st rfl rfl rfl rfl (rPick1 rfl rfl (by simpa using hw) rfl) ?_
  refine pu rfl rfl rfl rfl rfl ?_
  refine stg rfl rfl rfl rfl rfl (fun hb => by (have hq := hb; try simp only [zb1, zb2, zb3, zb4, zb5, zb6, zb7, zb8, zb9, zb10] at hq); exact rLdS rfl rfl rfl) ?_
  refine stg rfl rfl rfl rfl rfl (fun hb => by (have hq := hb; try simp only [zb1, zb2, zb3, zb4, zb5, zb6, zb7, zb8, zb9, zb10] at hq); exact rLdS rfl rfl rfl) ?_
  refine efg rfl rfl rfl rfl rfl (fun hb => by (have hq := hb; try simp only [zb1, zb2, zb3, zb4, zb5, zb6, zb7, zb8, zb9, zb10] at hq); exact eCallV rfl rfl rfl (ref_ZArgsN _ _ _ _ _ w Aa n ca rs hn h9c hc p2 m2 Ae ce mod2 hl92 hE) ⟨(evg rfl hb), (evg rfl hb), trivial⟩ ⟨rfl, rfl⟩) ?_
  refine stg rfl rfl rfl rfl rfl (fun hb => by (have hq := hb; try simp only [zb1, zb2, zb3, zb4, zb5, zb6, zb7, zb8, zb9, zb10] at hq); exact rEql rfl (evg rfl hb) rfl) ?_
  refine st rfl rfl rfl rfl (rAndB rfl rfl rfl rfl) ?_
  refine tr_cond_bool rfl (fun h1 => ?_) (fun h1 => ?_)
  · try simp only [zb1, zb2, zb3, zb4, zb5, zb6, zb7, zb8, zb9, zb10] at h1
    exact absurd h1.2 (by simp) --done
  · try simp only [zb1, zb2, zb3, zb4, zb5, zb6, zb7, zb8, zb9, zb10] at h1
    refine tr_skip ?_
    refine tr_seq ?_
    refine tr_seq ?_
    refine tr_region fun _ _ _ => ?_
    refine st rfl rfl rfl rfl (rLdS rfl rfl rfl) ?_
    refine ef rfl rfl (eCall0 rfl rfl rfl (law17_fewC p m A c mod hl9 w Aa n ca rs hn h9b h8) ⟨rfl, trivial⟩ ?_) 
    rintro _ ⟨b3, rfl, hb3⟩
    refine st rfl rfl rfl rfl (rNotB rfl rfl) ?_
    refine tr_cond_bool rfl (fun h3 => ?_) (fun h3 => ?_)
    · try simp only [zb1, zb2, zb3, zb4, zb5, zb6, zb7, zb8, zb9, zb10] at h3
      refine tr_seq ?_
      refine tr_region fun _ _ _ => ?_
      refine pu rfl rfl rfl rfl rfl ?_
      exact tr_ret ⟨trivial, _, _, rfl, ⟨rfl, rfl⟩, CSub.nil _, trivial⟩
    · try simp only [zb1, zb2, zb3, zb4, zb5, zb6, zb7, zb8, zb9, zb10] at h3
      refine tr_skip ?_
      refine tr_seq ?_
      refine tr_region fun _ _ _ => ?_
      refine st rfl rfl rfl rfl (rLdS rfl rfl rfl) ?_
      refine st rfl rfl rfl rfl (rLdS rfl rfl rfl) ?_
      refine ef rfl rfl (eCallV rfl rfl rfl (bch_ZerosN _ _ _ _ _ w Aa n ca rs hn h9c hc p2 m2 Ae ce mod2 hl92 hE) ⟨rfl, rfl, trivial⟩ ?_) 
      iterate 5 refine pu rfl rfl rfl rfl rfl ?_
      refine tr_seq ?_
      refine tr_seq ?_
      refine tr_region fun _ _ _ => ?_
      refine st rfl rfl rfl rfl (rLdS rfl rfl rfl) ?_
      refine st rfl rfl rfl rfl (rLdS rfl rfl rfl) ?_
      refine ef rfl rfl (eCallV rfl rfl rfl (ref_ZArgsN _ _ _ _ _ w Aa n ca rs hn h9c hc p2 m2 Ae ce mod2 hl92 hE) ⟨rfl, rfl, trivial⟩ ?_) 
      refine pu rfl rfl rfl rfl rfl ?_
      refine tr_cond_bool rfl (fun h6 => ?_) (fun h6 => ?_)
      · try simp only [zb1, zb2, zb3, zb4, zb5, zb6, zb7, zb8, zb9, zb10] at h6
        refine tr_seq ?_
        refine tr_region fun _ _ _ => ?_
        refine pu rfl rfl rfl rfl rfl ?_
        refine st rfl rfl rfl rfl (rLdS rfl rfl rfl) ?_
        refine st rfl rfl rfl rfl (rLdS rfl rfl rfl) ?_
        refine ef rfl rfl (eCallV rfl rfl rfl (ref_ZArgsN _ _ _ _ _ w Aa n ca rs hn h9c hc p2 m2 Ae ce mod2 hl92 hE) ⟨rfl, rfl, trivial⟩ ?_) 
        iterate 2 refine pu rfl rfl rfl rfl rfl ?_
        refine stg rfl rfl rfl rfl rfl (fun hb => by (have hq := hb; try simp only [zb1, zb2, zb3, zb4, zb5, zb6, zb7, zb8, zb9, zb10] at hq); exact rMove rfl rfl) ?_
        refine stg rfl rfl rfl rfl rfl (fun hb => by (have hq := hb; try simp only [zb1, zb2, zb3, zb4, zb5, zb6, zb7, zb8, zb9, zb10] at hq); exact rLen rfl (evg rfl hb)) ?_
        refine stg rfl rfl rfl rfl rfl (fun hb => by (have hq := hb; try simp only [zb1, zb2, zb3, zb4, zb5, zb6, zb7, zb8, zb9, zb10] at hq); exact rEql rfl (evg rfl hb) rfl) ?_
        refine st rfl rfl rfl rfl (rAndB rfl rfl rfl rfl) ?_
        refine pu rfl rfl rfl rfl rfl ?_
        exact tr_ret ⟨trivial, _, _, rfl, ⟨by simp, rfl⟩, CSub.nil _, trivial⟩
      · try simp only [zb1, zb2, zb3, zb4, zb5, zb6, zb7, zb8, zb9, zb10] at h6
        exact absurd h6 (by simp) --done

theorem law_BchZeros_Nb_ent : Enters Try.prog 15 := enters_of Try.func15 (by kernel_rfl) (by kernel_rfl)
theorem law_BchZeros_Nb (p m : Int) (A : Option Addr) (c : Nat) (mod : List Int) [hF : IsF p m mod] (w : Int) (Aa : Option Addr) (n ca : Nat) (rs : List RowM) (hn : n = rs.length) (h9 : rs.length ≤ 256) (hc : CodeOk p m mod w rs) (hl9 : mod.length ≤ 17592186044415) (h9b : rs.length ≤ 17592186044415) (h8 : ∀ r ∈ rs, r.xs.length ≤ 17592186044415) (p2 m2 : Int) (Ae : Option Addr) (ce : Nat) (mod2 : List Int) (hl92 : mod2.length ≤ 17592186044415) (hE : ¬ FldR p2 m2 mod2) (hw : ¬ w > 31) :
    Pure Try.prog 15 #[.agg #[.int .i64 p, .int .i64 m, .slice A mod.length c, .int .i64 w, .slice Aa n ca], .agg #[.int .i64 p2, .int .i64 m2, .slice Ae mod2.length ce]] [ro A (ints mod), ro Aa (hdrs rs), rowsR rs, ro Ae (ints mod2)] (isV (.bool true)) := by
  have h9c := h9
  refine pure_of (args := [.agg #[.int .i64 p, .int .i64 m, .slice A mod.length c, .int .i64 w, .slice Aa n ca], .agg #[.int .i64 p2, .int .i64 m2, .slice Ae mod2.length ce]]) 57 Try.func15 rfl rfl rfl law_BchZeros_Nb_ent ⟨id, id, id, id, trivial⟩ (fun w0 => ?_)
  refine tr_seq ?_
  refine tr_region fun _ _ _ => ?_
  refine ef rfl rfl (eBox rfl rfl rfl rfl rfl (fun p0 => ?_)) 
  refine ef rfl rfl (eBox rfl rfl rfl rfl rfl (fun p0a => ?_)) 
  refine pu rfl rfl rfl rfl rfl ?_
  refine tr_seq ?_
  refine tr_seq ?_
  refine tr_region fun _ _ _ => ?_
  refine st rfl rfl rfl rfl (rFld rfl rfl) ?_
  refine st rfl rfl rfl rfl (rLdF rfl rfl rfl) ?_
  iterate 2 refine pu rfl rfl rfl rfl rfl ?_
  refine skF rfl rfl (by simpa using hw) rfl rfl ?_
  refine skF rfl rfl (by simpa using hw) rfl rfl ?_
  refine st rfl rfl rfl rfl (rPick0 rfl rfl (by simpa using hw) rfl) ?_
  refine pu rfl rfl rfl rfl rfl ?_
  refine skF rfl rfl (by simp) rfl rfl ?_
  refine skF rfl rfl (by simp) rfl rfl ?_
  refine skF rfl rfl (by simp) rfl rfl ?_
  refine skF rfl rfl (by simp) rfl rfl ?_
  refine st rfl rfl rfl rfl (rPick0 rfl rfl (by simp) rfl) ?_
  refine tr_cond_bool rfl (fun h1 => ?_) (fun h1 => ?_)
  · try simp only [zb1, zb2, zb3, zb4, zb5, zb6, zb7, zb8, zb9, zb10] at h1
    first | exact absurd h1.1.1 hw | simp at h1 --done
  · try simp only [zb1, zb2, zb3, zb4, zb5, zb6, zb7, zb8, zb9, zb10] at h1
    refine tr_skip ?_
    refine tr_seq ?_
    refine tr_seq ?_
    refine tr_region fun _ _ _ => ?_
    refine st rfl rfl rfl rfl (rLdS rfl rfl rfl) ?_
    refine ef rfl rfl (eCall0 rfl rfl rfl (law17_fewC p m A c mod hl9 w Aa n ca rs hn h9b h8) ⟨rfl, trivial⟩ ?_) 
    rintro _ ⟨b3, rfl, hb3⟩
    refine st rfl rfl rfl rfl (rNotB rfl rfl) ?_
    refine tr_cond_bool rfl (fun h3 => ?_) (fun h3 => ?_)
    · try simp only [zb1, zb2, zb3, zb4, zb5, zb6, zb7, zb8, zb9, zb10] at h3
      refine tr_seq ?_
      refine tr_region fun _ _ _ => ?_
      refine pu rfl rfl rfl rfl rfl ?_
      exact tr_ret ⟨trivial, _, _, rfl, ⟨rfl, rfl⟩, CSub.nil _, trivial⟩
    · try simp only [zb1, zb2, zb3, zb4, zb5, zb6, zb7, zb8, zb9, zb10] at h3
      refine tr_skip ?_
      refine tr_seq ?_
      refine tr_region fun _ _ _ => ?_
      refine st rfl rfl rfl rfl (rLdS rfl rfl rfl) ?_
      refine st rfl rfl rfl rfl (rLdS rfl rfl rfl) ?_
      refine ef rfl rfl (eCallV rfl rfl rfl (bch_ZerosN _ _ _ _ _ w Aa n ca rs hn h9c hc p2 m2 Ae ce mod2 hl92 hE) ⟨rfl, rfl, trivial⟩ ?_) 
      iterate 5 refine pu rfl rfl rfl rfl rfl ?_
      refine tr_seq ?_
      refine tr_seq ?_
      refine tr_region fun _ _ _ => ?_
      refine st rfl rfl rfl rfl (rLdS rfl rfl rfl) ?_
      refine st rfl rfl rfl rfl (rLdS rfl rfl rfl) ?_
      refine ef rfl rfl (eCallV rfl rfl rfl (ref_ZArgsN _ _ _ _ _ w Aa n ca rs hn h9c hc p2 m2 Ae ce mod2 hl92 hE) ⟨rfl, rfl, trivial⟩ ?_) 
      refine pu rfl rfl rfl rfl rfl ?_
      refine tr_cond_bool rfl (fun h6 => ?_) (fun h6 => ?_)
      · try simp only [zb1, zb2, zb3, zb4, zb5, zb6, zb7, zb8, zb9, zb10] at h6
        refine tr_seq ?_
        refine tr_region fun _ _ _ => ?_
        refine pu rfl rfl rfl rfl rfl ?_
        refine st rfl rfl rfl rfl (rLdS rfl rfl rfl) ?_
        refine st rfl rfl rfl rfl (rLdS rfl rfl rfl) ?_
        refine ef rfl rfl (eCallV rfl rfl rfl (ref_ZArgsN _ _ _ _ _ w Aa n ca rs hn h9c hc p2 m2 Ae ce mod2 hl92 hE) ⟨rfl, rfl, trivial⟩ ?_) 
        iterate 2 refine pu rfl rfl rfl rfl rfl ?_
        refine stg rfl rfl rfl rfl rfl (fun hb => by (have hq := hb; try simp only [zb1, zb2, zb3, zb4, zb5, zb6, zb7, zb8, zb9, zb10] at hq); exact rMove rfl rfl) ?_
        refine stg rfl rfl rfl rfl rfl (fun hb => by (have hq := hb; try simp only [zb1, zb2, zb3, zb4, zb5, zb6, zb7, zb8, zb9, zb10] at hq); exact rLen rfl (evg rfl hb)) ?_
        refine stg rfl rfl rfl rfl rfl (fun hb => by (have hq := hb; try simp only [zb1, zb2, zb3, zb4, zb5, zb6, zb7, zb8, zb9, zb10] at hq); exact rEql rfl (evg rfl hb) rfl) ?_
        refine st rfl rfl rfl rfl (rAndB rfl rfl rfl rfl) ?_
        refine pu rfl rfl rfl rfl rfl ?_
        exact tr_ret ⟨trivial, _, _, rfl, ⟨by simp, rfl⟩, CSub.nil _, trivial⟩
      · try simp only [zb1, zb2, zb3, zb4, zb5, zb6, zb7, zb8, zb9, zb10] at h6
        exact absurd h6 (by simp) --done

theorem law_BchZeros_N (p m : Int) (A : Option Addr) (c : Nat) (mod : List Int) [hF : IsF p m mod] (w : Int) (Aa : Option Addr) (n ca : Nat) (rs : List RowM) (hn : n = rs.length) (h9 : rs.length ≤ 256) (hc : CodeOk p m mod w rs) (hl9 : mod.length ≤ 17592186044415) (h9b : rs.length ≤ 17592186044415) (h8 : ∀ r ∈ rs, r.xs.length ≤ 17592186044415) (p2 m2 : Int) (Ae : Option Addr) (ce : Nat) (mod2 : List Int) (hl92 : mod2.length ≤ 17592186044415) (hE : ¬ FldR p2 m2 mod2) : Pure Try.prog 15 #[.agg #[.int .i64 p, .int .i64 m, .slice A mod.length c, .int .i64 w, .slice Aa n ca], .agg #[.int .i64 p2, .int .i64 m2, .slice Ae mod2.length ce]] [ro A (ints mod), ro Aa (hdrs rs), rowsR rs, ro Ae (ints mod2)] (isV (.bool true)) := by
  by_cases hw : w > 31
  · exact law_BchZeros_Na p m A c mod w Aa n ca rs hn h9 hc hl9 h9b h8 p2 m2 Ae ce mod2 hl92 hE hw
  · exact law_BchZeros_Nb p m A c mod w Aa n ca rs hn h9 hc hl9 h9b h8 p2 m2 Ae ce mod2 hl92 hE hw

theorem law_BchZeros_Pa_ent : Enters Try.prog 15 := enters_of Try.func15 (by kernel_rfl) (by kernel_rfl)
theorem law_BchZeros_Pa (p m : Int) (A : Option Addr) (c : Nat) (mod : List Int) [hF : IsF p m mod] (w : Int) (Aa : Option Addr) (n ca : Nat) (rs : List RowM) (hn : n = rs.length) (h9 : rs.length ≤ 256) (hc : CodeOk p m mod w rs) (hl9 : mod.length ≤ 17592186044415) (h9b : rs.length ≤ 17592186044415) (h8 : ∀ r ∈ rs, r.xs.length ≤ 17592186044415) (p2 m2 : Int) (Ae : Option Addr) (ce : Nat) (mod2 : List Int) (hl92 : mod2.length ≤ 17592186044415) [hE : IsF p2 m2 mod2] (hne : p ≠ p2) (hw : w > 31) :
    Pure Try.prog 15 #[.agg #[.int .i64 p, .int .i64 m, .slice A mod.length c, .int .i64 w, .slice Aa n ca], .agg #[.int .i64 p2, .int .i64 m2, .slice Ae mod2.length ce]] [ro A (ints mod), ro Aa (hdrs rs), rowsR rs, ro Ae (ints mod2)] (isV (.bool true)) := by
  have h9c := h9
  refine pure_of (args := [.agg #[.int .i64 p, .int .i64 m, .slice A mod.length c, .int .i64 w, .slice Aa n ca], .agg #[.int .i64 p2, .int .i64 m2, .slice Ae mod2.length ce]]) 57 Try.func15 rfl rfl rfl law_BchZeros_Pa_ent ⟨id, id, id, id, trivial⟩ (fun w0 => ?_)
  refine tr_seq ?_
  refine tr_region fun _ _ _ => ?_
  refine ef rfl rfl (eBox rfl rfl rfl rfl rfl (fun p0 => ?_)) 
  refine ef rfl rfl (eBox rfl rfl rfl rfl rfl (fun p0a => ?_)) 
  refine pu rfl rfl rfl rfl rfl ?_
  refine tr_seq ?_
  refine tr_seq ?_
  refine tr_region fun _ _ _ => ?_
  refine st rfl rfl rfl rfl (rFld rfl rfl) ?_
  refine st rfl rfl rfl rfl (rLdF rfl rfl rfl) ?_
  iterate 2 refine pu rfl rfl rfl rfl rfl ?_
  refine stT rfl rfl rfl (by simpa using hw) rfl rfl (rLdS rfl rfl rfl) ?_
  refine efT rfl rfl rfl (by simpa using hw) (eCall0 rfl rfl rfl (law17_fewC p m A c mod hl9 w Aa n ca rs hn h9b h8) ⟨rfl, trivial⟩ ?_) 
  rintro _ ⟨b, rfl, hb⟩
  refine st rfl rfl rfl rfl (rPick1 rfl rfl (by simpa using hw) rfl) ?_
  refine pu rfl rfl rfl rfl rfl ?_
  refine stg rfl rfl rfl rfl rfl (fun hb => by (have hq := hb; try simp only [zb1, zb2, zb3, zb4, zb5, zb6, zb7, zb8, zb9, zb10] at hq); exact rLdS rfl rfl rfl) ?_
  refine stg rfl rfl rfl rfl rfl (fun hb => by (have hq := hb; try simp only [zb1, zb2, zb3, zb4, zb5, zb6, zb7, zb8, zb9, zb10] at hq); exact rLdS rfl rfl rfl) ?_
  refine efg rfl rfl rfl rfl rfl (fun hb => by (have hq := hb; try simp only [zb1, zb2, zb3, zb4, zb5, zb6, zb7, zb8, zb9, zb10] at hq); exact eCallV rfl rfl rfl (ref_ZArgsM _ _ _ _ _ w Aa n ca rs hn h9c hc p2 m2 Ae ce mod2 hl92 (fun h => hne h.1)) ⟨(evg rfl hb), (evg rfl hb), trivial⟩ ⟨rfl, rfl⟩) ?_
  refine stg rfl rfl rfl rfl rfl (fun hb => by (have hq := hb; try simp only [zb1, zb2, zb3, zb4, zb5, zb6, zb7, zb8, zb9, zb10] at hq); exact rEql rfl (evg rfl hb) rfl) ?_
  refine st rfl rfl rfl rfl (rAndB rfl rfl rfl rfl) ?_
  refine tr_cond_bool rfl (fun h1 => ?_) (fun h1 => ?_)
  · try simp only [zb1, zb2, zb3, zb4, zb5, zb6, zb7, zb8, zb9, zb10] at h1
    exact absurd h1.2 (by simp) --done
  · try simp only [zb1, zb2, zb3, zb4, zb5, zb6, zb7, zb8, zb9, zb10] at h1
    refine tr_skip ?_
    refine tr_seq ?_
    refine tr_seq ?_
    refine tr_region fun _ _ _ => ?_
    refine st rfl rfl rfl rfl (rLdS rfl rfl rfl) ?_
    refine ef rfl rfl (eCall0 rfl rfl rfl (law17_fewC p m A c mod hl9 w Aa n ca rs hn h9b h8) ⟨rfl, trivial⟩ ?_) 
    rintro _ ⟨b3, rfl, hb3⟩
    refine st rfl rfl rfl rfl (rNotB rfl rfl) ?_
    refine tr_cond_bool rfl (fun h3 => ?_) (fun h3 => ?_)
    · try simp only [zb1, zb2, zb3, zb4, zb5, zb6, zb7, zb8, zb9, zb10] at h3
      refine tr_seq ?_
      refine tr_region fun _ _ _ => ?_
      refine pu rfl rfl rfl rfl rfl ?_
      exact tr_ret ⟨trivial, _, _, rfl, ⟨rfl, rfl⟩, CSub.nil _, trivial⟩
    · try simp only [zb1, zb2, zb3, zb4, zb5, zb6, zb7, zb8, zb9, zb10] at h3
      refine tr_skip ?_
      refine tr_seq ?_
      refine tr_region fun _ _ _ => ?_
      refine st rfl rfl rfl rfl (rLdS rfl rfl rfl) ?_
      refine st rfl rfl rfl rfl (rLdS rfl rfl rfl) ?_
      refine ef rfl rfl (eCallV rfl rfl rfl (bch_ZerosP _ _ _ _ _ w Aa n ca rs hn h9c hc p2 m2 Ae ce mod2 hne) ⟨rfl, rfl, trivial⟩ ?_) 
      iterate 5 refine pu rfl rfl rfl rfl rfl ?_
      refine tr_seq ?_
      refine tr_seq ?_
      refine tr_region fun _ _ _ => ?_
      refine st rfl rfl rfl rfl (rLdS rfl rfl rfl) ?_
      refine st rfl rfl rfl rfl (rLdS rfl rfl rfl) ?_
      refine ef rfl rfl (eCallV rfl rfl rfl (ref_ZArgsM _ _ _ _ _ w Aa n ca rs hn h9c hc p2 m2 Ae ce mod2 hl92 (fun h => hne h.1)) ⟨rfl, rfl, trivial⟩ ?_) 
      refine pu rfl rfl rfl rfl rfl ?_
      refine tr_cond_bool rfl (fun h6 => ?_) (fun h6 => ?_)
      · try simp only [zb1, zb2, zb3, zb4, zb5, zb6, zb7, zb8, zb9, zb10] at h6
        refine tr_seq ?_
        refine tr_region fun _ _ _ => ?_
        refine pu rfl rfl rfl rfl rfl ?_
        refine st rfl rfl rfl rfl (rLdS rfl rfl rfl) ?_
        refine st rfl rfl rfl rfl (rLdS rfl rfl rfl) ?_
        refine ef rfl rfl (eCallV rfl rfl rfl (ref_ZArgsM _ _ _ _ _ w Aa n ca rs hn h9c hc p2 m2 Ae ce mod2 hl92 (fun h => hne h.1)) ⟨rfl, rfl, trivial⟩ ?_) 
        iterate 2 refine pu rfl rfl rfl rfl rfl ?_
        refine stg rfl rfl rfl rfl rfl (fun hb => by (have hq := hb; try simp only [zb1, zb2, zb3, zb4, zb5, zb6, zb7, zb8, zb9, zb10] at hq); exact rMove rfl rfl) ?_
        refine stg rfl rfl rfl rfl rfl (fun hb => by (have hq := hb; try simp only [zb1, zb2, zb3, zb4, zb5, zb6, zb7, zb8, zb9, zb10] at hq); exact rLen rfl (evg rfl hb)) ?_
        refine stg rfl rfl rfl rfl rfl (fun hb => by (have hq := hb; try simp only [zb1, zb2, zb3, zb4, zb5, zb6, zb7, zb8, zb9, zb10] at hq); exact rEql rfl (evg rfl hb) rfl) ?_
        refine st rfl rfl rfl rfl (rAndB rfl rfl rfl rfl) ?_
        refine pu rfl rfl rfl rfl rfl ?_
        exact tr_ret ⟨trivial, _, _, rfl, ⟨by simp, rfl⟩, CSub.nil _, trivial⟩
      · try simp only [zb1, zb2, zb3, zb4, zb5, zb6, zb7, zb8, zb9, zb10] at h6
        exact absurd h6 (by simp) --done

theorem law_BchZeros_Pb_ent : Enters Try.prog 15 := enters_of Try.func15 (by kernel_rfl) (by kernel_rfl)
theorem law_BchZeros_Pb (p m : Int) (A : Option Addr) (c : Nat) (mod : List Int) [hF : IsF p m mod] (w : Int) (Aa : Option Addr) (n ca : Nat) (rs : List RowM) (hn : n = rs.length) (h9 : rs.length ≤ 256) (hc : CodeOk p m mod w rs) (hl9 : mod.length ≤ 17592186044415) (h9b : rs.length ≤ 17592186044415) (h8 : ∀ r ∈ rs, r.xs.length ≤ 17592186044415) (p2 m2 : Int) (Ae : Option Addr) (ce : Nat) (mod2 : List Int) (hl92 : mod2.length ≤ 17592186044415) [hE : IsF p2 m2 mod2] (hne : p ≠ p2) (hw : ¬ w > 31) :
    Pure Try.prog 15 #[.agg #[.int .i64 p, .int .i64 m, .slice A mod.length c, .int .i64 w, .slice Aa n ca], .agg #[.int .i64 p2, .int .i64 m2, .slice Ae mod2.length ce]] [ro A (ints mod), ro Aa (hdrs rs), rowsR rs, ro Ae (ints mod2)] (isV (.bool true)) := by
  have h9c := h9
  refine pure_of (args := [.agg #[.int .i64 p, .int .i64 m, .slice A mod.length c, .int .i64 w, .slice Aa n ca], .agg #[.int .i64 p2, .int .i64 m2, .slice Ae mod2.length ce]]) 57 Try.func15 rfl rfl rfl law_BchZeros_Pb_ent ⟨id, id, id, id, trivial⟩ (fun w0 => ?_)
  refine tr_seq ?_
  refine tr_region fun _ _ _ => ?_
  refine ef rfl rfl (eBox rfl rfl rfl rfl rfl (fun p0 => ?_)) 
  refine ef rfl rfl (eBox rfl rfl rfl rfl rfl (fun p0a => ?_)) 
  refine pu rfl rfl rfl rfl rfl ?_
  refine tr_seq ?_
  refine tr_seq ?_
  refine tr_region fun _ _ _ => ?_
  refine st rfl rfl rfl rfl (rFld rfl rfl) ?_
  refine st rfl rfl rfl rfl (rLdF rfl rfl rfl) ?_
  iterate 2 refine pu rfl rfl rfl rfl rfl ?_
  refine skF rfl rfl (by simpa using hw) rfl rfl ?_
  refine skF rfl rfl (by simpa using hw) rfl rfl ?_
  refine st rfl rfl rfl rfl (rPick0 rfl rfl (by simpa using hw) rfl) ?_
  refine pu rfl rfl rfl rfl rfl ?_
  refine skF rfl rfl (by simp) rfl rfl ?_
  refine skF rfl rfl (by simp) rfl rfl ?_
  refine skF rfl rfl (by simp) rfl rfl ?_
  refine skF rfl rfl (by simp) rfl rfl ?_
  refine st rfl rfl rfl rfl (rPick0 rfl rfl (by simp) rfl) ?_
  refine tr_cond_bool rfl (fun h1 => ?_) (fun h1 => ?_)
  · try simp only [zb1, zb2, zb3, zb4, zb5, zb6, zb7, zb8, zb9, zb10] at h1
    first | exact absurd h1.1.1 hw | simp at h1 --done
  · try simp only [zb1, zb2, zb3, zb4, zb5, zb6, zb7, zb8, zb9, zb10] at h1
    refine tr_skip ?_
    refine tr_seq ?_
    refine tr_seq ?_
    refine tr_region fun _ _ _ => ?_
    refine st rfl rfl rfl rfl (rLdS rfl rfl rfl) ?_
    refine ef rfl rfl (eCall0 rfl rfl rfl (law17_fewC p m A c mod hl9 w Aa n ca rs hn h9b h8) ⟨rfl, trivial⟩ ?_) 
    rintro _ ⟨b3, rfl, hb3⟩
    refine st rfl rfl rfl rfl (rNotB rfl rfl) ?_
    refine tr_cond_bool rfl (fun h3 => ?_) (fun h3 => ?_)
    · try simp only [zb1, zb2, zb3, zb4, zb5, zb6, zb7, zb8, zb9, zb10] at h3
      refine tr_seq ?_
      refine tr_region fun _ _ _ => ?_
      refine pu rfl rfl rfl rfl rfl ?_
      exact tr_ret ⟨trivial, _, _, rfl, ⟨rfl, rfl⟩, CSub.nil _, trivial⟩
    · try simp only [zb1, zb2, zb3, zb4, zb5, zb6, zb7, zb8, zb9, zb10] at h3
      refine tr_skip ?_
      refine tr_seq ?_
      refine tr_region fun _ _ _ => ?_
      refine st rfl rfl rfl rfl (rLdS rfl rfl rfl) ?_
      refine st rfl rfl rfl rfl (rLdS rfl rfl rfl) ?_
      refine ef rfl rfl (eCallV rfl rfl rfl (bch_ZerosP _ _ _ _ _ w Aa n ca rs hn h9c hc p2 m2 Ae ce mod2 hne) ⟨rfl, rfl, trivial⟩ ?_) 
      iterate 5 refine pu rfl rfl rfl rfl rfl ?_
      refine tr_seq ?_
      refine tr_seq ?_
      refine tr_region fun _ _ _ => ?_
      refine st rfl rfl rfl rfl (rLdS rfl rfl rfl) ?_
      refine st rfl rfl rfl rfl (rLdS rfl rfl rfl) ?_
      refine ef rfl rfl (eCallV rfl rfl rfl (ref_ZArgsM _ _ _ _ _ w Aa n ca rs hn h9c hc p2 m2 Ae ce mod2 hl92 (fun h => hne h.1)) ⟨rfl, rfl, trivial⟩ ?_) 
      refine pu rfl rfl rfl rfl rfl ?_
      refine tr_cond_bool rfl (fun h6 => ?_) (fun h6 => ?_)
      · try simp only [zb1, zb2, zb3, zb4, zb5, zb6, zb7, zb8, zb9, zb10] at h6
        refine tr_seq ?_
        refine tr_region fun _ _ _ => ?_
        refine pu rfl rfl rfl rfl rfl ?_
        refine st rfl rfl rfl rfl (rLdS rfl rfl rfl) ?_
        refine st rfl rfl rfl rfl (rLdS rfl rfl rfl) ?_
        refine ef rfl rfl (eCallV rfl rfl rfl (ref_ZArgsM _ _ _ _ _ w Aa n ca rs hn h9c hc p2 m2 Ae ce mod2 hl92 (fun h => hne h.1)) ⟨rfl, rfl, trivial⟩ ?_) 
        iterate 2 refine pu rfl rfl rfl rfl rfl ?_
        refine stg rfl rfl rfl rfl rfl (fun hb => by (have hq := hb; try simp only [zb1, zb2, zb3, zb4, zb5, zb6, zb7, zb8, zb9, zb10] at hq); exact rMove rfl rfl) ?_
        refine stg rfl rfl rfl rfl rfl (fun hb => by (have hq := hb; try simp only [zb1, zb2, zb3, zb4, zb5, zb6, zb7, zb8, zb9, zb10] at hq); exact rLen rfl (evg rfl hb)) ?_
        refine stg rfl rfl rfl rfl rfl (fun hb => by (have hq := hb; try simp only [zb1, zb2, zb3, zb4, zb5, zb6, zb7, zb8, zb9, zb10] at hq); exact rEql rfl (evg rfl hb) rfl) ?_
        refine st rfl rfl rfl rfl (rAndB rfl rfl rfl rfl) ?_
        refine pu rfl rfl rfl rfl rfl ?_
        exact tr_ret ⟨trivial, _, _, rfl, ⟨by simp, rfl⟩, CSub.nil _, trivial⟩
      · try simp only [zb1, zb2, zb3, zb4, zb5, zb6, zb7, zb8, zb9, zb10] at h6
        exact absurd h6 (by simp) --done

theorem law_BchZeros_P (p m : Int) (A : Option Addr) (c : Nat) (mod : List Int) [hF : IsF p m mod] (w : Int) (Aa : Option Addr) (n ca : Nat) (rs : List RowM) (hn : n = rs.length) (h9 : rs.length ≤ 256) (hc : CodeOk p m mod w rs) (hl9 : mod.length ≤ 17592186044415) (h9b : rs.length ≤ 17592186044415) (h8 : ∀ r ∈ rs, r.xs.length ≤ 17592186044415) (p2 m2 : Int) (Ae : Option Addr) (ce : Nat) (mod2 : List Int) (hl92 : mod2.length ≤ 17592186044415) [hE : IsF p2 m2 mod2] (hne : p ≠ p2) : Pure Try.prog 15 #[.agg #[.int .i64 p, .int .i64 m, .slice A mod.length c, .int .i64 w, .slice Aa n ca], .agg #[.int .i64 p2, .int .i64 m2, .slice Ae mod2.length ce]] [ro A (ints mod), ro Aa (hdrs rs), rowsR rs, ro Ae (ints mod2)] (isV (.bool true)) := by
  by_cases hw : w > 31
  · exact law_BchZeros_Pa p m A c mod w Aa n ca rs hn h9 hc hl9 h9b h8 p2 m2 Ae ce mod2 hl92 hne hw
  · exact law_BchZeros_Pb p m A c mod w Aa n ca rs hn h9 hc hl9 h9b h8 p2 m2 Ae ce mod2 hl92 hne hw

theorem law_BchZeros_Da_ent : Enters Try.prog 15 := enters_of Try.func15 (by kernel_rfl) (by kernel_rfl)
theorem law_BchZeros_Da (p m : Int) (A : Option Addr) (c : Nat) (mod : List Int) [hF : IsF p m mod] (w : Int) (Aa : Option Addr) (n ca : Nat) (rs : List RowM) (hn : n = rs.length) (h9 : rs.length ≤ 256) (hc : CodeOk p m mod w rs) (hl9 : mod.length ≤ 17592186044415) (h9b : rs.length ≤ 17592186044415) (h8 : ∀ r ∈ rs, r.xs.length ≤ 17592186044415) (p2 m2 : Int) (Ae : Option Addr) (ce : Nat) (mod2 : List Int) (hl92 : mod2.length ≤ 17592186044415) [hE : IsF p2 m2 mod2] (hpp : p = p2) (hne : m2 % m ≠ 0) (hw : w > 31) :
    Pure Try.prog 15 #[.agg #[.int .i64 p, .int .i64 m, .slice A mod.length c, .int .i64 w, .slice Aa n ca], .agg #[.int .i64 p2, .int .i64 m2, .slice Ae mod2.length ce]] [ro A (ints mod), ro Aa (hdrs rs), rowsR rs, ro Ae (ints mod2)] (isV (.bool true)) := by
  have h9c := h9
  refine pure_of (args := [.agg #[.int .i64 p, .int .i64 m, .slice A mod.length c, .int .i64 w, .slice Aa n ca], .agg #[.int .i64 p2, .int .i64 m2, .slice Ae mod2.length ce]]) 57 Try.func15 rfl rfl rfl law_BchZeros_Da_ent ⟨id, id, id, id, trivial⟩ (fun w0 => ?_)
  refine tr_seq ?_
  refine tr_region fun _ _ _ => ?_
  refine ef rfl rfl (eBox rfl rfl rfl rfl rfl (fun p0 => ?_)) 
  refine ef rfl rfl (eBox rfl rfl rfl rfl rfl (fun p0a => ?_)) 
  refine pu rfl rfl rfl rfl rfl ?_
  refine tr_seq ?_
  refine tr_seq ?_
  refine tr_region fun _ _ _ => ?_
  refine st rfl rfl rfl rfl (rFld rfl rfl) ?_
  refine st rfl rfl rfl rfl (rLdF rfl rfl rfl) ?_
  iterate 2 refine pu rfl rfl rfl rfl rfl ?_
  refine stT rfl rfl rfl (by simpa using hw) rfl rfl (rLdS rfl rfl rfl) ?_
  refine efT rfl rfl rfl (by simpa using hw) (eCall0 rfl rfl rfl (law17_fewC p m A c mod hl9 w Aa n ca rs hn h9b h8) ⟨rfl, trivial⟩ ?_) 
  rintro _ ⟨b, rfl, hb⟩
  refine st rfl rfl rfl rfl (rPick1 rfl rfl (by simpa using hw) rfl) ?_
  refine pu rfl rfl rfl rfl rfl ?_
  refine stg rfl rfl rfl rfl rfl (fun hb => by (have hq := hb; try simp only [zb1, zb2, zb3, zb4, zb5, zb6, zb7, zb8, zb9, zb10] at hq); exact rLdS rfl rfl rfl) ?_
  refine stg rfl rfl rfl rfl rfl (fun hb => by (have hq := hb; try simp only [zb1, zb2, zb3, zb4, zb5, zb6, zb7, zb8, zb9, zb10] at hq); exact rLdS rfl rfl rfl) ?_
  refine efg rfl rfl rfl rfl rfl (fun hb => by (have hq := hb; try simp only [zb1, zb2, zb3, zb4, zb5, zb6, zb7, zb8, zb9, zb10] at hq); exact eCallV rfl rfl rfl (ref_ZArgsM _ _ _ _ _ w Aa n ca rs hn h9c hc p2 m2 Ae ce mod2 hl92 (fun h => hne h.2)) ⟨(evg rfl hb), (evg rfl hb), trivial⟩ ⟨rfl, rfl⟩) ?_
  refine stg rfl rfl rfl rfl rfl (fun hb => by (have hq := hb; try simp only [zb1, zb2, zb3, zb4, zb5, zb6, zb7, zb8, zb9, zb10] at hq); exact rEql rfl (evg rfl hb) rfl) ?_
  refine st rfl rfl rfl rfl (rAndB rfl rfl rfl rfl) ?_
  refine tr_cond_bool rfl (fun h1 => ?_) (fun h1 => ?_)
  · try simp only [zb1, zb2, zb3, zb4, zb5, zb6, zb7, zb8, zb9, zb10] at h1
    exact absurd h1.2 (by simp) --done
  · try simp only [zb1, zb2, zb3, zb4, zb5, zb6, zb7, zb8, zb9, zb10] at h1
    refine tr_skip ?_
    refine tr_seq ?_
    refine tr_seq ?_
    refine tr_region fun _ _ _ => ?_
    refine st rfl rfl rfl rfl (rLdS rfl rfl rfl) ?_
    refine ef rfl rfl (eCall0 rfl rfl rfl (law17_fewC p m A c mod hl9 w Aa n ca rs hn h9b h8) ⟨rfl, trivial⟩ ?_) 
    rintro _ ⟨b3, rfl, hb3⟩
    refine st rfl rfl rfl rfl (rNotB rfl rfl) ?_
    refine tr_cond_bool rfl (fun h3 => ?_) (fun h3 => ?_)
    · try simp only [zb1, zb2, zb3, zb4, zb5, zb6, zb7, zb8, zb9, zb10] at h3
      refine tr_seq ?_
      refine tr_region fun _ _ _ => ?_
      refine pu rfl rfl rfl rfl rfl ?_
      exact tr_ret ⟨trivial, _, _, rfl, ⟨rfl, rfl⟩, CSub.nil _, trivial⟩
    · try simp only [zb1, zb2, zb3, zb4, zb5, zb6, zb7, zb8, zb9, zb10] at h3
      refine tr_skip ?_
      refine tr_seq ?_
      refine tr_region fun _ _ _ => ?_
      refine st rfl rfl rfl rfl (rLdS rfl rfl rfl) ?_
      refine st rfl rfl rfl rfl (rLdS rfl rfl rfl) ?_
      refine ef rfl rfl (eCallV rfl rfl rfl (bch_ZerosD _ _ _ _ _ w Aa n ca rs hn h9c hc p2 m2 Ae ce mod2 hpp hne) ⟨rfl, rfl, trivial⟩ ?_) 
      iterate 5 refine pu rfl rfl rfl rfl rfl ?_
      refine tr_seq ?_
      refine tr_seq ?_
      refine tr_region fun _ _ _ => ?_
      refine st rfl rfl rfl rfl (rLdS rfl rfl rfl) ?_
      refine st rfl rfl rfl rfl (rLdS rfl rfl rfl) ?_
      refine ef rfl rfl (eCallV rfl rfl rfl (ref_ZArgsM _ _ _ _ _ w Aa n ca rs hn h9c hc p2 m2 Ae ce mod2 hl92 (fun h => hne h.2)) ⟨rfl, rfl, trivial⟩ ?_) 
      refine pu rfl rfl rfl rfl rfl ?_
      refine tr_cond_bool rfl (fun h6 => ?_) (fun h6 => ?_)
      · try simp only [zb1, zb2, zb3, zb4, zb5, zb6, zb7, zb8, zb9, zb10] at h6
        refine tr_seq ?_
        refine tr_region fun _ _ _ => ?_
        refine pu rfl rfl rfl rfl rfl ?_
        refine st rfl rfl rfl rfl (rLdS rfl rfl rfl) ?_
        refine st rfl rfl rfl rfl (rLdS rfl rfl rfl) ?_
        refine ef rfl rfl (eCallV rfl rfl rfl (ref_ZArgsM _ _ _ _ _ w Aa n ca rs hn h9c hc p2 m2 Ae ce mod2 hl92 (fun h => hne h.2)) ⟨rfl, rfl, trivial⟩ ?_) 
        iterate 2 refine pu rfl rfl rfl rfl rfl ?_
        refine stg rfl rfl rfl rfl rfl (fun hb => by (have hq := hb; try simp only [zb1, zb2, zb3, zb4, zb5, zb6, zb7, zb8, zb9, zb10] at hq); exact rMove rfl rfl) ?_
        refine stg rfl rfl rfl rfl rfl (fun hb => by (have hq := hb; try simp only [zb1, zb2, zb3, zb4, zb5, zb6, zb7, zb8, zb9, zb10] at hq); exact rLen rfl (evg rfl hb)) ?_
        refine stg rfl rfl rfl rfl rfl (fun hb => by (have hq := hb; try simp only [zb1, zb2, zb3, zb4, zb5, zb6, zb7, zb8, zb9, zb10] at hq); exact rEql rfl (evg rfl hb) rfl) ?_
        refine st rfl rfl rfl rfl (rAndB rfl rfl rfl rfl) ?_
        refine pu rfl rfl rfl rfl rfl ?_
        exact tr_ret ⟨trivial, _, _, rfl, ⟨by simp, rfl⟩, CSub.nil _, trivial⟩
      · try simp only [zb1, zb2, zb3, zb4, zb5, zb6, zb7, zb8, zb9, zb10] at h6
        exact absurd h6 (by simp) --done

theorem law_BchZeros_Db_ent : Enters Try.prog 15 := enters_of Try.func15 (by kernel_rfl) (by kernel_rfl)
theorem law_BchZeros_Db (p m : Int) (A : Option Addr) (c : Nat) (mod : List Int) [hF : IsF p m mod] (w : Int) (Aa : Option Addr) (n ca : Nat) (rs : List RowM) (hn : n = rs.length) (h9 : rs.length ≤ 256) (hc : CodeOk p m mod w rs) (hl9 : mod.length ≤ 17592186044415) (h9b : rs.length ≤ 17592186044415) (h8 : ∀ r ∈ rs, r.xs.length ≤ 17592186044415) (p2 m2 : Int) (Ae : Option Addr) (ce : Nat) (mod2 : List Int) (hl92 : mod2.length ≤ 17592186044415) [hE : IsF p2 m2 mod2] (hpp : p = p2) (hne : m2 % m ≠ 0) (hw : ¬ w > 31) :
    Pure Try.prog 15 #[.agg #[.int .i64 p, .int .i64 m, .slice A mod.length c, .int .i64 w, .slice Aa n ca], .agg #[.int .i64 p2, .int .i64 m2, .slice Ae mod2.length ce]] [ro A (ints mod), ro Aa (hdrs rs), rowsR rs, ro Ae (ints mod2)] (isV (.bool true)) := by
  have h9c := h9
  refine pure_of (args := [.agg #[.int .i64 p, .int .i64 m, .slice A mod.length c, .int .i64 w, .slice Aa n ca], .agg #[.int .i64 p2, .int .i64 m2, .slice Ae mod2.length ce]]) 57 Try.func15 rfl rfl rfl law_BchZeros_Db_ent ⟨id, id, id, id, trivial⟩ (fun w0 => ?_)
  refine tr_seq ?_
  refine tr_region fun _ _ _ => ?_
  refine ef rfl rfl (eBox rfl rfl rfl rfl rfl (fun p0 => ?_)) 
  refine ef rfl rfl (eBox rfl rfl rfl rfl rfl (fun p0a => ?_)) 
  refine pu rfl rfl rfl rfl rfl ?_
  refine tr_seq ?_
  refine tr_seq ?_
  refine tr_region fun _ _ _ => ?_
  refine st rfl rfl rfl rfl (rFld rfl rfl) ?_
  refine st rfl rfl rfl rfl (rLdF rfl rfl rfl) ?_
  iterate 2 refine pu rfl rfl rfl rfl rfl ?_
  refine skF rfl rfl (by simpa using hw) rfl rfl ?_
  refine skF rfl rfl (by simpa using hw) rfl rfl ?_
  refine st rfl rfl rfl rfl (rPick0 rfl rfl (by simpa using hw) rfl) ?_
  refine pu rfl rfl rfl rfl rfl ?_
  refine skF rfl rfl (by simp) rfl rfl ?_
  refine skF rfl rfl (by simp) rfl rfl ?_
  refine skF rfl rfl (by simp) rfl rfl ?_
  refine skF rfl rfl (by simp) rfl rfl ?_
  refine st rfl rfl rfl rfl (rPick0 rfl rfl (by simp) rfl) ?_
  refine tr_cond_bool rfl (fun h1 => ?_) (fun h1 => ?_)
  · try simp only [zb1, zb2, zb3, zb4, zb5, zb6, zb7, zb8, zb9, zb10] at h1
    first | exact absurd h1.1.1 hw | simp at h1 --done
  · try simp only [zb1, zb2, zb3, zb4, zb5, zb6, zb7, zb8, zb9, zb10] at h1
    refine tr_skip ?_
    refine tr_seq ?_
    refine tr_seq ?_
    refine tr_region fun _ _ _ => ?_
    refine st rfl rfl rfl rfl (rLdS rfl rfl rfl) ?_
    refine ef rfl rfl (eCall0 rfl rfl rfl (law17_fewC p m A c mod hl9 w Aa n ca rs hn h9b h8) ⟨rfl, trivial⟩ ?_) 
    rintro _ ⟨b3, rfl, hb3⟩
    refine st rfl rfl rfl rfl (rNotB rfl rfl) ?_
    refine tr_cond_bool rfl (fun h3 => ?_) (fun h3 => ?_)
    · try simp only [zb1, zb2, zb3, zb4, zb5, zb6, zb7, zb8, zb9, zb10] at h3
      refine tr_seq ?_
      refine tr_region fun _ _ _ => ?_
      refine pu rfl rfl rfl rfl rfl ?_
      exact tr_ret ⟨trivial, _, _, rfl, ⟨rfl, rfl⟩, CSub.nil _, trivial⟩
    · try simp only [zb1, zb2, zb3, zb4, zb5, zb6, zb7, zb8, zb9, zb10] at h3
      refine tr_skip ?_
      refine tr_seq ?_
      refine tr_region fun _ _ _ => ?_
      refine st rfl rfl rfl rfl (rLdS rfl rfl rfl) ?_
      refine st rfl rfl rfl rfl (rLdS rfl rfl rfl) ?_
      refine ef rfl rfl (eCallV rfl rfl rfl (bch_ZerosD _ _ _ _ _ w Aa n ca rs hn h9c hc p2 m2 Ae ce mod2 hpp hne) ⟨rfl, rfl, trivial⟩ ?_) 
      iterate 5 refine pu rfl rfl rfl rfl rfl ?_
      refine tr_seq ?_
      refine tr_seq ?_
      refine tr_region fun _ _ _ => ?_
      refine st rfl rfl rfl rfl (rLdS rfl rfl rfl) ?_
      refine st rfl rfl rfl rfl (rLdS rfl rfl rfl) ?_
      refine ef rfl rfl (eCallV rfl rfl rfl (ref_ZArgsM _ _ _ _ _ w Aa n ca rs hn h9c hc p2 m2 Ae ce mod2 hl92 (fun h => hne h.2)) ⟨rfl, rfl, trivial⟩ ?_) 
      refine pu rfl rfl rfl rfl rfl ?_
      refine tr_cond_bool rfl (fun h6 => ?_) (fun h6 => ?_)
      · try simp only [zb1, zb2, zb3, zb4, zb5, zb6, zb7, zb8, zb9, zb10] at h6
        refine tr_seq ?_
        refine tr_region fun _ _ _ => ?_
        refine pu rfl rfl rfl rfl rfl ?_
        refine st rfl rfl rfl rfl (rLdS rfl rfl rfl) ?_
        refine st rfl rfl rfl rfl (rLdS rfl rfl rfl) ?_
        refine ef rfl rfl (eCallV rfl rfl rfl (ref_ZArgsM _ _ _ _ _ w Aa n ca rs hn h9c hc p2 m2 Ae ce mod2 hl92 (fun h => hne h.2)) ⟨rfl, rfl, trivial⟩ ?_) 
        iterate 2 refine pu rfl rfl rfl rfl rfl ?_
        refine stg rfl rfl rfl rfl rfl (fun hb => by (have hq := hb; try simp only [zb1, zb2, zb3, zb4, zb5, zb6, zb7, zb8, zb9, zb10] at hq); exact rMove rfl rfl) ?_
        refine stg rfl rfl rfl rfl rfl (fun hb => by (have hq := hb; try simp only [zb1, zb2, zb3, zb4, zb5, zb6, zb7, zb8, zb9, zb10] at hq); exact rLen rfl (evg rfl hb)) ?_
        refine stg rfl rfl rfl rfl rfl (fun hb => by (have hq := hb; try simp only [zb1, zb2, zb3, zb4, zb5, zb6, zb7, zb8, zb9, zb10] at hq); exact rEql rfl (evg rfl hb) rfl) ?_
        refine st rfl rfl rfl rfl (rAndB rfl rfl rfl rfl) ?_
        refine pu rfl rfl rfl rfl rfl ?_
        exact tr_ret ⟨trivial, _, _, rfl, ⟨by simp, rfl⟩, CSub.nil _, trivial⟩
      · try simp only [zb1, zb2, zb3, zb4, zb5, zb6, zb7, zb8, zb9, zb10] at h6
        exact absurd h6 (by simp) --done

theorem law_BchZeros_D (p m : Int) (A : Option Addr) (c : Nat) (mod : List Int) [hF : IsF p m mod] (w : Int) (Aa : Option Addr) (n ca : Nat) (rs : List RowM) (hn : n = rs.length) (h9 : rs.length ≤ 256) (hc : CodeOk p m mod w rs) (hl9 : mod.length ≤ 17592186044415) (h9b : rs.length ≤ 17592186044415) (h8 : ∀ r ∈ rs, r.xs.length ≤ 17592186044415) (p2 m2 : Int) (Ae : Option Addr) (ce : Nat) (mod2 : List Int) (hl92 : mod2.length ≤ 17592186044415) [hE : IsF p2 m2 mod2] (hpp : p = p2) (hne : m2 % m ≠ 0) : Pure Try.prog 15 #[.agg #[.int .i64 p, .int .i64 m, .slice A mod.length c, .int .i64 w, .slice Aa n ca], .agg #[.int .i64 p2, .int .i64 m2, .slice Ae mod2.length ce]] [ro A (ints mod), ro Aa (hdrs rs), rowsR rs, ro Ae (ints mod2)] (isV (.bool true)) := by
  by_cases hw : w > 31
  · exact law_BchZeros_Da p m A c mod w Aa n ca rs hn h9 hc hl9 h9b h8 p2 m2 Ae ce mod2 hl92 hpp hne hw
  · exact law_BchZeros_Db p m A c mod w Aa n ca rs hn h9 hc hl9 h9b h8 p2 m2 Ae ce mod2 hl92 hpp hne hw

theorem law_BchZeros_Ra_ent : Enters Try.prog 15 := enters_of Try.func15 (by kernel_rfl) (by kernel_rfl)
theorem law_BchZeros_Ra (p m : Int) (A : Option Addr) (c : Nat) (mod : List Int) [hF : IsF p m mod] (w : Int) (Aa : Option Addr) (n ca : Nat) (rs : List RowM) (hn : n = rs.length) (h9 : rs.length ≤ 256) (hc : CodeOk p m mod w rs) (hl9 : mod.length ≤ 17592186044415) (h9b : rs.length ≤ 17592186044415) (h8 : ∀ r ∈ rs, r.xs.length ≤ 17592186044415) (m2 : Int) (Ae : Option Addr) (ce : Nat) (mod2 : List Int) (hl92 : mod2.length ≤ 17592186044415) [hE : IsF p m2 mod2] (hd : m2 % m = 0) (hr : rootI p m2 mod2 w = 0) (hw : w > 31) :
    Pure Try.prog 15 #[.agg #[.int .i64 p, .int .i64 m, .slice A mod.length c, .int .i64 w, .slice Aa n ca], .agg #[.int .i64 p, .int .i64 m2, .slice Ae mod2.length ce]] [ro A (ints mod), ro Aa (hdrs rs), rowsR rs, ro Ae (ints mod2)] (isV (.bool true)) := by
  have h9c := h9
  have hra := rootArgs_is hE.out hc.n1 hc.n64
  rw [if_pos hr] at hra
  have hrn : rootArgs p m2 mod2 w ≠ 0 := by omega
  refine pure_of (args := [.agg #[.int .i64 p, .int .i64 m, .slice A mod.length c, .int .i64 w, .slice Aa n ca], .agg #[.int .i64 p, .int .i64 m2, .slice Ae mod2.length ce]]) 57 Try.func15 rfl rfl rfl law_BchZeros_Ra_ent ⟨id, id, id, id, trivial⟩ (fun w0 => ?_)
  refine tr_seq ?_
  refine tr_region fun _ _ _ => ?_
  refine ef rfl rfl (eBox rfl rfl rfl rfl rfl (fun p0 => ?_)) 
  refine ef rfl rfl (eBox rfl rfl rfl rfl rfl (fun p0a => ?_)) 
  refine pu rfl rfl rfl rfl rfl ?_
  refine tr_seq ?_
  refine tr_seq ?_
  refine tr_region fun _ _ _ => ?_
  refine st rfl rfl rfl rfl (rFld rfl rfl) ?_
  refine st rfl rfl rfl rfl (rLdF rfl rfl rfl) ?_
  iterate 2 refine pu rfl rfl rfl rfl rfl ?_
  refine stT rfl rfl rfl (by simpa using hw) rfl rfl (rLdS rfl rfl rfl) ?_
  refine efT rfl rfl rfl (by simpa using hw) (eCall0 rfl rfl rfl (law17_fewC p m A c mod hl9 w Aa n ca rs hn h9b h8) ⟨rfl, trivial⟩ ?_) 
  rintro _ ⟨b, rfl, hb⟩
  refine st rfl rfl rfl rfl (rPick1 rfl rfl (by simpa using hw) rfl) ?_
  refine pu rfl rfl rfl rfl rfl ?_
  refine stg rfl rfl rfl rfl rfl (fun hb => by (have hq := hb; try simp only [zb1, zb2, zb3, zb4, zb5, zb6, zb7, zb8, zb9, zb10] at hq); exact rLdS rfl rfl rfl) ?_
  refine stg rfl rfl rfl rfl rfl (fun hb => by (have hq := hb; try simp only [zb1, zb2, zb3, zb4, zb5, zb6, zb7, zb8, zb9, zb10] at hq); exact rLdS rfl rfl rfl) ?_
  refine efg rfl rfl rfl rfl rfl (fun hb => by (have hq := hb; try simp only [zb1, zb2, zb3, zb4, zb5, zb6, zb7, zb8, zb9, zb10] at hq); exact eCallV rfl rfl rfl (ref_ZArgsG _ _ _ _ _ w Aa n ca rs hn h9c hc p m2 Ae ce mod2 hl92 rfl hd) ⟨(evg rfl hb), (evg rfl hb), trivial⟩ ⟨rfl, rfl⟩) ?_
  refine stg rfl rfl rfl rfl rfl (fun hb => by (have hq := hb; try simp only [zb1, zb2, zb3, zb4, zb5, zb6, zb7, zb8, zb9, zb10] at hq); exact rEql rfl (evg rfl hb) rfl) ?_
  refine st rfl rfl rfl rfl (rAndB rfl rfl rfl rfl) ?_
  refine tr_cond_bool rfl (fun h1 => ?_) (fun h1 => ?_)
  · try simp only [zb1, zb2, zb3, zb4, zb5, zb6, zb7, zb8, zb9, zb10] at h1
    exact absurd h1.2 (by simp [hr]) --done
  · try simp only [zb1, zb2, zb3, zb4, zb5, zb6, zb7, zb8, zb9, zb10] at h1
    refine tr_skip ?_
    refine tr_seq ?_
    refine tr_seq ?_
    refine tr_region fun _ _ _ => ?_
    refine st rfl rfl rfl rfl (rLdS rfl rfl rfl) ?_
    refine ef rfl rfl (eCall0 rfl rfl rfl (law17_fewC p m A c mod hl9 w Aa n ca rs hn h9b h8) ⟨rfl, trivial⟩ ?_) 
    rintro _ ⟨b3, rfl, hb3⟩
    refine st rfl rfl rfl rfl (rNotB rfl rfl) ?_
    refine tr_cond_bool rfl (fun h3 => ?_) (fun h3 => ?_)
    · try simp only [zb1, zb2, zb3, zb4, zb5, zb6, zb7, zb8, zb9, zb10] at h3
      refine tr_seq ?_
      refine tr_region fun _ _ _ => ?_
      refine pu rfl rfl rfl rfl rfl ?_
      exact tr_ret ⟨trivial, _, _, rfl, ⟨rfl, rfl⟩, CSub.nil _, trivial⟩
    · try simp only [zb1, zb2, zb3, zb4, zb5, zb6, zb7, zb8, zb9, zb10] at h3
      refine tr_skip ?_
      refine tr_seq ?_
      refine tr_region fun _ _ _ => ?_
      refine st rfl rfl rfl rfl (rLdS rfl rfl rfl) ?_
      refine st rfl rfl rfl rfl (rLdS rfl rfl rfl) ?_
      refine ef rfl rfl (eCallV rfl rfl rfl (bch_ZerosR _ _ _ _ _ w Aa n ca rs hn h9c hc m2 Ae ce mod2 hd hrn) ⟨rfl, rfl, trivial⟩ ?_) 
      iterate 5 refine pu rfl rfl rfl rfl rfl ?_
      refine tr_seq ?_
      refine tr_seq ?_
      refine tr_region fun _ _ _ => ?_
      refine st rfl rfl rfl rfl (rLdS rfl rfl rfl) ?_
      refine st rfl rfl rfl rfl (rLdS rfl rfl rfl) ?_
      refine ef rfl rfl (eCallV rfl rfl rfl (ref_ZArgsG _ _ _ _ _ w Aa n ca rs hn h9c hc p m2 Ae ce mod2 hl92 rfl hd) ⟨rfl, rfl, trivial⟩ ?_) 
      refine pu rfl rfl rfl rfl rfl ?_
      refine tr_cond_bool rfl (fun h6 => ?_) (fun h6 => ?_)
      · try simp only [zb1, zb2, zb3, zb4, zb5, zb6, zb7, zb8, zb9, zb10] at h6
        refine tr_seq ?_
        refine tr_region fun _ _ _ => ?_
        refine pu rfl rfl rfl rfl rfl ?_
        refine st rfl rfl rfl rfl (rLdS rfl rfl rfl) ?_
        refine st rfl rfl rfl rfl (rLdS rfl rfl rfl) ?_
        refine ef rfl rfl (eCallV rfl rfl rfl (ref_ZArgsG _ _ _ _ _ w Aa n ca rs hn h9c hc p m2 Ae ce mod2 hl92 rfl hd) ⟨rfl, rfl, trivial⟩ ?_) 
        iterate 2 refine pu rfl rfl rfl rfl rfl ?_
        refine stg rfl rfl rfl rfl rfl (fun hb => by (have hq := hb; try simp only [zb1, zb2, zb3, zb4, zb5, zb6, zb7, zb8, zb9, zb10] at hq); exact rMove rfl rfl) ?_
        refine stg rfl rfl rfl rfl rfl (fun hb => by (have hq := hb; try simp only [zb1, zb2, zb3, zb4, zb5, zb6, zb7, zb8, zb9, zb10] at hq); exact rLen rfl (evg rfl hb)) ?_
        refine stg rfl rfl rfl rfl rfl (fun hb => by (have hq := hb; try simp only [zb1, zb2, zb3, zb4, zb5, zb6, zb7, zb8, zb9, zb10] at hq); exact rEql rfl (evg rfl hb) rfl) ?_
        refine st rfl rfl rfl rfl (rAndB rfl rfl rfl rfl) ?_
        refine pu rfl rfl rfl rfl rfl ?_
        exact tr_ret ⟨trivial, _, _, rfl, ⟨by simp [hra, hr], rfl⟩, CSub.nil _, trivial⟩
      · try simp only [zb1, zb2, zb3, zb4, zb5, zb6, zb7, zb8, zb9, zb10] at h6
        exact absurd h6 (by simp [hr]) --done

theorem law_BchZeros_Rb_ent : Enters Try.prog 15 := enters_of Try.func15 (by kernel_rfl) (by kernel_rfl)
theorem law_BchZeros_Rb (p m : Int) (A : Option Addr) (c : Nat) (mod : List Int) [hF : IsF p m mod] (w : Int) (Aa : Option Addr) (n ca : Nat) (rs : List RowM) (hn : n = rs.length) (h9 : rs.length ≤ 256) (hc : CodeOk p m mod w rs) (hl9 : mod.length ≤ 17592186044415) (h9b : rs.length ≤ 17592186044415) (h8 : ∀ r ∈ rs, r.xs.length ≤ 17592186044415) (m2 : Int) (Ae : Option Addr) (ce : Nat) (mod2 : List Int) (hl92 : mod2.length ≤ 17592186044415) [hE : IsF p m2 mod2] (hd : m2 % m = 0) (hr : rootI p m2 mod2 w = 0) (hw : ¬ w > 31) :
    Pure Try.prog 15 #[.agg #[.int .i64 p, .int .i64 m, .slice A mod.length c, .int .i64 w, .slice Aa n ca], .agg #[.int .i64 p, .int .i64 m2, .slice Ae mod2.length ce]] [ro A (ints mod), ro Aa (hdrs rs), rowsR rs, ro Ae (ints mod2)] (isV (.bool true)) := by
  have h9c := h9
  have hra := rootArgs_is hE.out hc.n1 hc.n64
  rw [if_pos hr] at hra
  have hrn : rootArgs p m2 mod2 w ≠ 0 := by omega
  refine pure_of (args := [.agg #[.int .i64 p, .int .i64 m, .slice A mod.length c, .int .i64 w, .slice Aa n ca], .agg #[.int .i64 p, .int .i64 m2, .slice Ae mod2.length ce]]) 57 Try.func15 rfl rfl rfl law_BchZeros_Rb_ent ⟨id, id, id, id, trivial⟩ (fun w0 => ?_)
  refine tr_seq ?_
  refine tr_region fun _ _ _ => ?_
  refine ef rfl rfl (eBox rfl rfl rfl rfl rfl (fun p0 => ?_)) 
  refine ef rfl rfl (eBox rfl rfl rfl rfl rfl (fun p0a => ?_)) 
  refine pu rfl rfl rfl rfl rfl ?_
  refine tr_seq ?_
  refine tr_seq ?_
  refine tr_region fun _ _ _ => ?_
  refine st rfl rfl rfl rfl (rFld rfl rfl) ?_
  refine st rfl rfl rfl rfl (rLdF rfl rfl rfl) ?_
  iterate 2 refine pu rfl rfl rfl rfl rfl ?_
  refine skF rfl rfl (by simpa using hw) rfl rfl ?_
  refine skF rfl rfl (by simpa using hw) rfl rfl ?_
  refine st rfl rfl rfl rfl (rPick0 rfl rfl (by simpa using hw) rfl) ?_
  refine pu rfl rfl rfl rfl rfl ?_
  refine skF rfl rfl (by simp) rfl rfl ?_
  refine skF rfl rfl (by simp) rfl rfl ?_
  refine skF rfl rfl (by simp) rfl rfl ?_
  refine skF rfl rfl (by simp) rfl rfl ?_
  refine st rfl rfl rfl rfl (rPick0 rfl rfl (by simp) rfl) ?_
  refine tr_cond_bool rfl (fun h1 => ?_) (fun h1 => ?_)
  · try simp only [zb1, zb2, zb3, zb4, zb5, zb6, zb7, zb8, zb9, zb10] at h1
    first | exact absurd h1.1.1 hw | simp at h1 --done
  · try simp only [zb1, zb2, zb3, zb4, zb5, zb6, zb7, zb8, zb9, zb10] at h1
    refine tr_skip ?_
    refine tr_seq ?_
    refine tr_seq ?_
    refine tr_region fun _ _ _ => ?_
    refine st rfl rfl rfl rfl (rLdS rfl rfl rfl) ?_
    refine ef rfl rfl (eCall0 rfl rfl rfl (law17_fewC p m A c mod hl9 w Aa n ca rs hn h9b h8) ⟨rfl, trivial⟩ ?_) 
    rintro _ ⟨b3, rfl, hb3⟩
    refine st rfl rfl rfl rfl (rNotB rfl rfl) ?_
    refine tr_cond_bool rfl (fun h3 => ?_) (fun h3 => ?_)
    · try simp only [zb1, zb2, zb3, zb4, zb5, zb6, zb7, zb8, zb9, zb10] at h3
      refine tr_seq ?_
      refine tr_region fun _ _ _ => ?_
      refine pu rfl rfl rfl rfl rfl ?_
      exact tr_ret ⟨trivial, _, _, rfl, ⟨rfl, rfl⟩, CSub.nil _, trivial⟩
    · try simp only [zb1, zb2, zb3, zb4, zb5, zb6, zb7, zb8, zb9, zb10] at h3
      refine tr_skip ?_
      refine tr_seq ?_
      refine tr_region fun _ _ _ => ?_
      refine st rfl rfl rfl rfl (rLdS rfl rfl rfl) ?_
      refine st rfl rfl rfl rfl (rLdS rfl rfl rfl) ?_
      refine ef rfl rfl (eCallV rfl rfl rfl (bch_ZerosR _ _ _ _ _ w Aa n ca rs hn h9c hc m2 Ae ce mod2 hd hrn) ⟨rfl, rfl, trivial⟩ ?_) 
      iterate 5 refine pu rfl rfl rfl rfl rfl ?_
      refine tr_seq ?_
      refine tr_seq ?_
      refine tr_region fun _ _ _ => ?_
      refine st rfl rfl rfl rfl (rLdS rfl rfl rfl) ?_
      refine st rfl rfl rfl rfl (rLdS rfl rfl rfl) ?_
      refine ef rfl rfl (eCallV rfl rfl rfl (ref_ZArgsG _ _ _ _ _ w Aa n ca rs hn h9c hc p m2 Ae ce mod2 hl92 rfl hd) ⟨rfl, rfl, trivial⟩ ?_) 
      refine pu rfl rfl rfl rfl rfl ?_
      refine tr_cond_bool rfl (fun h6 => ?_) (fun h6 => ?_)
      · try simp only [zb1, zb2, zb3, zb4, zb5, zb6, zb7, zb8, zb9, zb10] at h6
        refine tr_seq ?_
        refine tr_region fun _ _ _ => ?_
        refine pu rfl rfl rfl rfl rfl ?_
        refine st rfl rfl rfl rfl (rLdS rfl rfl rfl) ?_
        refine st rfl rfl rfl rfl (rLdS rfl rfl rfl) ?_
        refine ef rfl rfl (eCallV rfl rfl rfl (ref_ZArgsG _ _ _ _ _ w Aa n ca rs hn h9c hc p m2 Ae ce mod2 hl92 rfl hd) ⟨rfl, rfl, trivial⟩ ?_) 
        iterate 2 refine pu rfl rfl rfl rfl rfl ?_
        refine stg rfl rfl rfl rfl rfl (fun hb => by (have hq := hb; try simp only [zb1, zb2, zb3, zb4, zb5, zb6, zb7, zb8, zb9, zb10] at hq); exact rMove rfl rfl) ?_
        refine stg rfl rfl rfl rfl rfl (fun hb => by (have hq := hb; try simp only [zb1, zb2, zb3, zb4, zb5, zb6, zb7, zb8, zb9, zb10] at hq); exact rLen rfl (evg rfl hb)) ?_
        refine stg rfl rfl rfl rfl rfl (fun hb => by (have hq := hb; try simp only [zb1, zb2, zb3, zb4, zb5, zb6, zb7, zb8, zb9, zb10] at hq); exact rEql rfl (evg rfl hb) rfl) ?_
        refine st rfl rfl rfl rfl (rAndB rfl rfl rfl rfl) ?_
        refine pu rfl rfl rfl rfl rfl ?_
        exact tr_ret ⟨trivial, _, _, rfl, ⟨by simp [hra, hr], rfl⟩, CSub.nil _, trivial⟩
      · try simp only [zb1, zb2, zb3, zb4, zb5, zb6, zb7, zb8, zb9, zb10] at h6
        exact absurd h6 (by simp [hr]) --done

theorem law_BchZeros_R (p m : Int) (A : Option Addr) (c : Nat) (mod : List Int) [hF : IsF p m mod] (w : Int) (Aa : Option Addr) (n ca : Nat) (rs : List RowM) (hn : n = rs.length) (h9 : rs.length ≤ 256) (hc : CodeOk p m mod w rs) (hl9 : mod.length ≤ 17592186044415) (h9b : rs.length ≤ 17592186044415) (h8 : ∀ r ∈ rs, r.xs.length ≤ 17592186044415) (m2 : Int) (Ae : Option Addr) (ce : Nat) (mod2 : List Int) (hl92 : mod2.length ≤ 17592186044415) [hE : IsF p m2 mod2] (hd : m2 % m = 0) (hr : rootI p m2 mod2 w = 0) : Pure Try.prog 15 #[.agg #[.int .i64 p, .int .i64 m, .slice A mod.length c, .int .i64 w, .slice Aa n ca], .agg #[.int .i64 p, .int .i64 m2, .slice Ae mod2.length ce]] [ro A (ints mod), ro Aa (hdrs rs), rowsR rs, ro Ae (ints mod2)] (isV (.bool true)) := by
  by_cases hw : w > 31
  · exact law_BchZeros_Ra p m A c mod w Aa n ca rs hn h9 hc hl9 h9b h8 m2 Ae ce mod2 hl92 hd hr hw
  · exact law_BchZeros_Rb p m A c mod w Aa n ca rs hn h9 hc hl9 h9b h8 m2 Ae ce mod2 hl92 hd hr hw

theorem zerL_le {p m2 : Int} {mod2 : List Int} [hE : IsF p m2 mod2] (im : List Int) (rs : List RowM) (a : Int) {w : Int} (hw : w ≤ 64) : (zerL p m2 mod2 im rs a w).length ≤ 100 := by
  unfold zerL
  refine Nat.le_trans (List.length_filter_le _ _) ?_
  rw [upI_length]; omega

theorem law_BchZeros_Ga_ent : Enters Try.prog 15 := enters_of Try.func15 (by kernel_rfl) (by kernel_rfl)
theorem law_BchZeros_Ga (p m : Int) (A : Option Addr) (c : Nat) (mod : List Int) [hF : IsF p m mod] (w : Int) (Aa : Option Addr) (n ca : Nat) (rs : List RowM) (hn : n = rs.length) (h9 : rs.length ≤ 256) (hc : CodeOk p m mod w rs) (hl9 : mod.length ≤ 17592186044415) (h9b : rs.length ≤ 17592186044415) (h8 : ∀ r ∈ rs, r.xs.length ≤ 17592186044415) (m2 : Int) (Ae : Option Addr) (ce : Nat) (mod2 : List Int) (hl92 : mod2.length ≤ 17592186044415) [hE : IsF p m2 mod2] (hd : m2 % m = 0) (hr : rootI p m2 mod2 w ≠ 0) (hw : w > 31) :
    Pure Try.prog 15 #[.agg #[.int .i64 p, .int .i64 m, .slice A mod.length c, .int .i64 w, .slice Aa n ca], .agg #[.int .i64 p, .int .i64 m2, .slice Ae mod2.length ce]] [ro A (ints mod), ro Aa (hdrs rs), rowsR rs, ro Ae (ints mod2)] (isV (.bool true)) := by
  have h9c := h9
  have hra := rootArgs_is hE.out hc.n1 hc.n64
  rw [if_neg hr] at hra
  have hn64 := hc.n64
  have hzl := zerL_le (imL p m2 mod2 m (embR p m2 mod2 m mod)) rs (rootI p m2 mod2 w) hn64 (p := p) (m2 := m2) (mod2 := mod2)
  refine pure_of (args := [.agg #[.int .i64 p, .int .i64 m, .slice A mod.length c, .int .i64 w, .slice Aa n ca], .agg #[.int .i64 p, .int .i64 m2, .slice Ae mod2.length ce]]) 57 Try.func15 rfl rfl rfl law_BchZeros_Ga_ent ⟨id, id, id, id, trivial⟩ (fun w0 => ?_)
  refine tr_seq ?_
  refine tr_region fun _ _ _ => ?_
  refine ef rfl rfl (eBox rfl rfl rfl rfl rfl (fun p0 => ?_)) 
  refine ef rfl rfl (eBox rfl rfl rfl rfl rfl (fun p0a => ?_)) 
  refine pu rfl rfl rfl rfl rfl ?_
  refine tr_seq ?_
  refine tr_seq ?_
  refine tr_region fun _ _ _ => ?_
  refine st rfl rfl rfl rfl (rFld rfl rfl) ?_
  refine st rfl rfl rfl rfl (rLdF rfl rfl rfl) ?_
  iterate 2 refine pu rfl rfl rfl rfl rfl ?_
  refine stT rfl rfl rfl (by simpa using hw) rfl rfl (rLdS rfl rfl rfl) ?_
  refine efT rfl rfl rfl (by simpa using hw) (eCall0 rfl rfl rfl (law17_fewC p m A c mod hl9 w Aa n ca rs hn h9b h8) ⟨rfl, trivial⟩ ?_) 
  rintro _ ⟨b, rfl, hb⟩
  refine st rfl rfl rfl rfl (rPick1 rfl rfl (by simpa using hw) rfl) ?_
  refine pu rfl rfl rfl rfl rfl ?_
  refine stg rfl rfl rfl rfl rfl (fun hb => by (have hq := hb; try simp only [zb1, zb2, zb3, zb4, zb5, zb6, zb7, zb8, zb9, zb10] at hq); exact rLdS rfl rfl rfl) ?_
  refine stg rfl rfl rfl rfl rfl (fun hb => by (have hq := hb; try simp only [zb1, zb2, zb3, zb4, zb5, zb6, zb7, zb8, zb9, zb10] at hq); exact rLdS rfl rfl rfl) ?_
  refine efg rfl rfl rfl rfl rfl (fun hb => by (have hq := hb; try simp only [zb1, zb2, zb3, zb4, zb5, zb6, zb7, zb8, zb9, zb10] at hq); exact eCallV rfl rfl rfl (ref_ZArgsG _ _ _ _ _ w Aa n ca rs hn h9c hc p m2 Ae ce mod2 hl92 rfl hd) ⟨(evg rfl hb), (evg rfl hb), trivial⟩ ⟨rfl, rfl⟩) ?_
  refine stg rfl rfl rfl rfl rfl (fun hb => by (have hq := hb; try simp only [zb1, zb2, zb3, zb4, zb5, zb6, zb7, zb8, zb9, zb10] at hq); exact rEql rfl (evg rfl hb) rfl) ?_
  refine st rfl rfl rfl rfl (rAndB rfl rfl rfl rfl) ?_
  refine tr_cond_bool rfl (fun h1 => ?_) (fun h1 => ?_)
  · try simp only [zb1, zb2, zb3, zb4, zb5, zb6, zb7, zb8, zb9, zb10] at h1
    refine tr_seq ?_
    refine tr_region fun _ _ _ => ?_
    refine pu rfl rfl rfl rfl rfl ?_
    exact tr_ret ⟨trivial, _, _, rfl, ⟨rfl, rfl⟩, CSub.nil _, trivial⟩
  · try simp only [zb1, zb2, zb3, zb4, zb5, zb6, zb7, zb8, zb9, zb10] at h1
    refine tr_skip ?_
    refine tr_seq ?_
    refine tr_seq ?_
    refine tr_region fun _ _ _ => ?_
    refine st rfl rfl rfl rfl (rLdS rfl rfl rfl) ?_
    refine ef rfl rfl (eCall0 rfl rfl rfl (law17_fewC p m A c mod hl9 w Aa n ca rs hn h9b h8) ⟨rfl, trivial⟩ ?_) 
    rintro _ ⟨b3, rfl, hb3⟩
    refine st rfl rfl rfl rfl (rNotB rfl rfl) ?_
    refine tr_cond_bool rfl (fun h3 => ?_) (fun h3 => ?_)
    · try simp only [zb1, zb2, zb3, zb4, zb5, zb6, zb7, zb8, zb9, zb10] at h3
      refine tr_seq ?_
      refine tr_region fun _ _ _ => ?_
      refine pu rfl rfl rfl rfl rfl ?_
      exact tr_ret ⟨trivial, _, _, rfl, ⟨rfl, rfl⟩, CSub.nil _, trivial⟩
    · try simp only [zb1, zb2, zb3, zb4, zb5, zb6, zb7, zb8, zb9, zb10] at h3
      refine tr_skip ?_
      refine tr_seq ?_
      refine tr_region fun _ _ _ => ?_
      refine st rfl rfl rfl rfl (rLdS rfl rfl rfl) ?_
      refine st rfl rfl rfl rfl (rLdS rfl rfl rfl) ?_
      refine ef rfl rfl (eCall1 rfl rfl rfl (bch_Zeros _ _ _ _ _ w Aa n ca rs hn h9c hc m2 Ae ce mod2 hd hra) ⟨rfl, rfl, trivial⟩ ?_) 
      rintro _ _ ⟨Bz, cz, rfl, rfl⟩
      iterate 5 refine pu rfl rfl rfl rfl rfl ?_
      refine tr_seq ?_
      refine tr_seq ?_
      refine tr_region fun _ _ _ => ?_
      refine st rfl rfl rfl rfl (rLdS rfl rfl rfl) ?_
      refine st rfl rfl rfl rfl (rLdS rfl rfl rfl) ?_
      refine ef rfl rfl (eCallV rfl rfl rfl (ref_ZArgsG _ _ _ _ _ w Aa n ca rs hn h9c hc p m2 Ae ce mod2 hl92 rfl hd) ⟨rfl, rfl, trivial⟩ ?_) 
      refine pu rfl rfl rfl rfl rfl ?_
      refine tr_cond_bool rfl (fun h6 => ?_) (fun h6 => ?_)
      · try simp only [zb1, zb2, zb3, zb4, zb5, zb6, zb7, zb8, zb9, zb10] at h6
        exact absurd h6 (by simp [hr]) --done
      · try simp only [zb1, zb2, zb3, zb4, zb5, zb6, zb7, zb8, zb9, zb10] at h6
        refine tr_skip ?_
        refine tr_seq ?_
        refine tr_region fun _ _ _ => ?_
        refine st rfl rfl rfl rfl (rFld rfl rfl) ?_
        refine st rfl rfl rfl rfl (rLdF rfl rfl rfl) ?_
        iterate 2 refine pu rfl rfl rfl rfl rfl ?_
        refine skF rfl rfl (by simpa using hw) rfl rfl ?_
        refine skF rfl rfl (by simpa using hw) rfl rfl ?_
        refine skF rfl rfl (by simpa using hw) rfl rfl ?_
        refine skU rfl rfl rfl rfl ?_
        refine skU rfl rfl rfl rfl ?_
        refine skU rfl rfl rfl rfl ?_
        refine skU rfl rfl rfl rfl ?_
        refine skU rfl rfl rfl rfl ?_
        refine skF rfl rfl (by simpa using hw) rfl rfl ?_
        refine st rfl rfl rfl rfl (rPick1 rfl rfl (by simpa using hw) rfl) ?_
        refine pu rfl rfl rfl rfl rfl ?_
        exact tr_ret ⟨trivial, _, _, rfl, ⟨by simp, rfl⟩, CSub.nil _, trivial⟩

theorem law_BchZeros_Gb_ent : Enters Try.prog 15 := enters_of Try.func15 (by kernel_rfl) (by kernel_rfl)
theorem law_BchZeros_Gb (p m : Int) (A : Option Addr) (c : Nat) (mod : List Int) [hF : IsF p m mod] (w : Int) (Aa : Option Addr) (n ca : Nat) (rs : List RowM) (hn : n = rs.length) (h9 : rs.length ≤ 256) (hc : CodeOk p m mod w rs) (hl9 : mod.length ≤ 17592186044415) (h9b : rs.length ≤ 17592186044415) (h8 : ∀ r ∈ rs, r.xs.length ≤ 17592186044415) (m2 : Int) (Ae : Option Addr) (ce : Nat) (mod2 : List Int) (hl92 : mod2.length ≤ 17592186044415) [hE : IsF p m2 mod2] (hd : m2 % m = 0) (hr : rootI p m2 mod2 w ≠ 0) (hw : ¬ w > 31) :
    Pure Try.prog 15 #[.agg #[.int .i64 p, .int .i64 m, .slice A mod.length c, .int .i64 w, .slice Aa n ca], .agg #[.int .i64 p, .int .i64 m2, .slice Ae mod2.length ce]] [ro A (ints mod), ro Aa (hdrs rs), rowsR rs, ro Ae (ints mod2)] (isV (.bool true)) := by
  have h9c := h9
  have hra := rootArgs_is hE.out hc.n1 hc.n64
  rw [if_neg hr] at hra
  have hn64 := hc.n64
  have hzl := zerL_le (imL p m2 mod2 m (embR p m2 mod2 m mod)) rs (rootI p m2 mod2 w) hn64 (p := p) (m2 := m2) (mod2 := mod2)
  refine pure_of (args := [.agg #[.int .i64 p, .int .i64 m, .slice A mod.length c, .int .i64 w, .slice Aa n ca], .agg #[.int .i64 p, .int .i64 m2, .slice Ae mod2.length ce]]) 57 Try.func15 rfl rfl rfl law_BchZeros_Gb_ent ⟨id, id, id, id, trivial⟩ (fun w0 => ?_)
  refine tr_seq ?_
  refine tr_region fun _ _ _ => ?_
  refine ef rfl rfl (eBox rfl rfl rfl rfl rfl (fun p0 => ?_)) 
  refine ef rfl rfl (eBox rfl rfl rfl rfl rfl (fun p0a => ?_)) 
  refine pu rfl rfl rfl rfl rfl ?_
  refine tr_seq ?_
  refine tr_seq ?_
  refine tr_region fun _ _ _ => ?_
  refine st rfl rfl rfl rfl (rFld rfl rfl) ?_
  refine st rfl rfl rfl rfl (rLdF rfl rfl rfl) ?_
  iterate 2 refine pu rfl rfl rfl rfl rfl ?_
  refine skF rfl rfl (by simpa using hw) rfl rfl ?_
  refine skF rfl rfl (by simpa using hw) rfl rfl ?_
  refine st rfl rfl rfl rfl (rPick0 rfl rfl (by simpa using hw) rfl) ?_
  refine pu rfl rfl rfl rfl rfl ?_
  refine skF rfl rfl (by simp) rfl rfl ?_
  refine skF rfl rfl (by simp) rfl rfl ?_
  refine skF rfl rfl (by simp) rfl rfl ?_
  refine skF rfl rfl (by simp) rfl rfl ?_
  refine st rfl rfl rfl rfl (rPick0 rfl rfl (by simp) rfl) ?_
  refine tr_cond_bool rfl (fun h1 => ?_) (fun h1 => ?_)
  · try simp only [zb1, zb2, zb3, zb4, zb5, zb6, zb7, zb8, zb9, zb10] at h1
    first | exact absurd h1.1.1 hw | simp at h1 --done
  · try simp only [zb1, zb2, zb3, zb4, zb5, zb6, zb7, zb8, zb9, zb10] at h1
    refine tr_skip ?_
    refine tr_seq ?_
    refine tr_seq ?_
    refine tr_region fun _ _ _ => ?_
    refine st rfl rfl rfl rfl (rLdS rfl rfl rfl) ?_
    refine ef rfl rfl (eCall0 rfl rfl rfl (law17_fewC p m A c mod hl9 w Aa n ca rs hn h9b h8) ⟨rfl, trivial⟩ ?_) 
    rintro _ ⟨b3, rfl, hb3⟩
    refine st rfl rfl rfl rfl (rNotB rfl rfl) ?_
    refine tr_cond_bool rfl (fun h3 => ?_) (fun h3 => ?_)
    · try simp only [zb1, zb2, zb3, zb4, zb5, zb6, zb7, zb8, zb9, zb10] at h3
      refine tr_seq ?_
      refine tr_region fun _ _ _ => ?_
      refine pu rfl rfl rfl rfl rfl ?_
      exact tr_ret ⟨trivial, _, _, rfl, ⟨rfl, rfl⟩, CSub.nil _, trivial⟩
    · try simp only [zb1, zb2, zb3, zb4, zb5, zb6, zb7, zb8, zb9, zb10] at h3
      refine tr_skip ?_
      refine tr_seq ?_
      refine tr_region fun _ _ _ => ?_
      refine st rfl rfl rfl rfl (rLdS rfl rfl rfl) ?_
      refine st rfl rfl rfl rfl (rLdS rfl rfl rfl) ?_
      refine ef rfl rfl (eCall1 rfl rfl rfl (bch_Zeros _ _ _ _ _ w Aa n ca rs hn h9c hc m2 Ae ce mod2 hd hra) ⟨rfl, rfl, trivial⟩ ?_) 
      rintro _ _ ⟨Bz, cz, rfl, rfl⟩
      iterate 5 refine pu rfl rfl rfl rfl rfl ?_
      refine tr_seq ?_
      refine tr_seq ?_
      refine tr_region fun _ _ _ => ?_
      refine st rfl rfl rfl rfl (rLdS rfl rfl rfl) ?_
      refine st rfl rfl rfl rfl (rLdS rfl rfl rfl) ?_
      refine ef rfl rfl (eCallV rfl rfl rfl (ref_ZArgsG _ _ _ _ _ w Aa n ca rs hn h9c hc p m2 Ae ce mod2 hl92 rfl hd) ⟨rfl, rfl, trivial⟩ ?_) 
      refine pu rfl rfl rfl rfl rfl ?_
      refine tr_cond_bool rfl (fun h6 => ?_) (fun h6 => ?_)
      · try simp only [zb1, zb2, zb3, zb4, zb5, zb6, zb7, zb8, zb9, zb10] at h6
        exact absurd h6 (by simp [hr]) --done
      · try simp only [zb1, zb2, zb3, zb4, zb5, zb6, zb7, zb8, zb9, zb10] at h6
        refine tr_skip ?_
        refine tr_seq ?_
        refine tr_region fun _ _ _ => ?_
        refine st rfl rfl rfl rfl (rFld rfl rfl) ?_
        refine st rfl rfl rfl rfl (rLdF rfl rfl rfl) ?_
        iterate 2 refine pu rfl rfl rfl rfl rfl ?_
        refine stT rfl rfl rfl (by simpa using hw) rfl rfl (rMove rfl rfl) ?_
        refine stT rfl rfl rfl (by simpa using hw) rfl rfl (rEql rfl rfl rfl) ?_
        refine stT rfl rfl rfl (by simpa using hw) rfl rfl (rMove rfl rfl) ?_
        refine stT rfl rfl rfl (by simp [hw]) rfl rfl (rMove rfl rfl) ?_
        refine stT rfl rfl rfl (by simp [hw]) rfl rfl (rLdS rfl rfl rfl) ?_
        refine stT rfl rfl rfl (by simp [hw]) rfl rfl (rLdS rfl rfl rfl) ?_
        refine efT rfl rfl rfl (by simp [hw]) (eCall1 rfl rfl rfl (ref_Zeros _ _ _ _ _ w Aa n ca rs hn h9c hc m2 Ae ce mod2 hd) ⟨rfl, rfl, trivial⟩ ?_) 
        rintro _ _ ⟨Br, cr, rfl, rfl⟩
        refine efT rfl rfl rfl (by simp [hw]) (eCallV rfl rfl rfl (ref_SameInts _ _ _ (zerL p m2 mod2 (imL p m2 mod2 m (embR p m2 mod2 m mod)) rs (rootI p m2 mod2 w) w) rfl _ _ _ (zerL p m2 mod2 (imL p m2 mod2 m (embR p m2 mod2 m mod)) rs (rootI p m2 mod2 w) w) rfl (by omega)) ⟨rfl, rfl, trivial⟩ ?_) 
        refine stT rfl rfl rfl (by simpa using hw) rfl rfl (rAndB rfl rfl rfl rfl) ?_
        refine st rfl rfl rfl rfl (rPick0 rfl rfl (by simpa using hw) rfl) ?_
        refine pu rfl rfl rfl rfl rfl ?_
        exact tr_ret ⟨trivial, _, _, rfl, ⟨by simp, rfl⟩, CSub.nil _, trivial⟩

theorem law_BchZeros_G (p m : Int) (A : Option Addr) (c : Nat) (mod : List Int) [hF : IsF p m mod] (w : Int) (Aa : Option Addr) (n ca : Nat) (rs : List RowM) (hn : n = rs.length) (h9 : rs.length ≤ 256) (hc : CodeOk p m mod w rs) (hl9 : mod.length ≤ 17592186044415) (h9b : rs.length ≤ 17592186044415) (h8 : ∀ r ∈ rs, r.xs.length ≤ 17592186044415) (m2 : Int) (Ae : Option Addr) (ce : Nat) (mod2 : List Int) (hl92 : mod2.length ≤ 17592186044415) [hE : IsF p m2 mod2] (hd : m2 % m = 0) (hr : rootI p m2 mod2 w ≠ 0) : Pure Try.prog 15 #[.agg #[.int .i64 p, .int .i64 m, .slice A mod.length c, .int .i64 w, .slice Aa n ca], .agg #[.int .i64 p, .int .i64 m2, .slice Ae mod2.length ce]] [ro A (ints mod), ro Aa (hdrs rs), rowsR rs, ro Ae (ints mod2)] (isV (.bool true)) := by
  by_cases hw : w > 31
  · exact law_BchZeros_Ga p m A c mod w Aa n ca rs hn h9 hc hl9 h9b h8 m2 Ae ce mod2 hl92 hd hr hw
  · exact law_BchZeros_Gb p m A c mod w Aa n ca rs hn h9 hc hl9 h9b h8 m2 Ae ce mod2 hl92 hd hr hw

theorem law_BchZeros (p m : Int) (A : Option Addr) (c : Nat) (mod : List Int) (hl9 : mod.length ≤ 17592186044415) (w : Int) (Aa : Option Addr) (n ca : Nat) (rs : List RowM) (hn : n = rs.length) (h9 : rs.length ≤ 17592186044415) (h8 : ∀ r ∈ rs, r.xs.length ≤ 17592186044415) (p2 m2 : Int) (Ae : Option Addr) (ce : Nat) (mod2 : List Int) (hl92 : mod2.length ≤ 17592186044415) : Pure Try.prog 15 #[.agg #[.int .i64 p, .int .i64 m, .slice A mod.length c, .int .i64 w, .slice Aa n ca], .agg #[.int .i64 p2, .int .i64 m2, .slice Ae mod2.length ce]] [ro A (ints mod), ro Aa (hdrs rs), rowsR rs, ro Ae (ints mod2)] (isV (.bool true)) := by
  by_cases he : codC p m mod w rs = 0
  · obtain ⟨hF0, hc⟩ := codC_zero he
    haveI hF : IsF p m mod := ⟨hF0⟩
    have hl := hc.len
    by_cases hE : FldR p2 m2 mod2
    · haveI hE2 : IsF p2 m2 mod2 := ⟨hE⟩
      by_cases hpp : p = p2
      · by_cases hd : m2 % m = 0
        · subst hpp
          by_cases hr : rootI p m2 mod2 w = 0
          · exact law_BchZeros_R p m A c mod w Aa n ca rs hn (by omega) hc hl9 h9 h8 m2 Ae ce mod2 hl92 hd hr
          · exact law_BchZeros_G p m A c mod w Aa n ca rs hn (by omega) hc hl9 h9 h8 m2 Ae ce mod2 hl92 hd hr
        · exact law_BchZeros_D p m A c mod w Aa n ca rs hn (by omega) hc hl9 h9 h8 p2 m2 Ae ce mod2 hl92 hpp hd
      · exact law_BchZeros_P p m A c mod w Aa n ca rs hn (by omega) hc hl9 h9 h8 p2 m2 Ae ce mod2 hl92 hpp
    · exact law_BchZeros_N p m A c mod w Aa n ca rs hn (by omega) hc hl9 h9 h8 p2 m2 Ae ce mod2 hl92 hE
  · exact law_BchZeros_E p m A c mod hl9 w Aa n ca rs hn h9 h8 p2 m2 Ae ce mod2 hl92 he

end Go.Proofs.Ytjmojhflnjbgaaa

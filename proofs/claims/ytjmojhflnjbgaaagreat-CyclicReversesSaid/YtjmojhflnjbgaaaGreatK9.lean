/-
  CYCLICREVERSES, PART 9 OF 10. One sentence: the texts behind the law CyclicReverses, put together.
  Conditions: each theorem's own, written out in it.
-/
import Derived.Test.YtjmojhflnjbgaaaGreatK8
set_option linter.unusedSimpArgs false
set_option linter.unusedVariables false
set_option linter.unusedSectionVars false
set_option linter.unusedSimpArgs false
set_option linter.unusedVariables false
set_option maxRecDepth 100000
namespace Go.Proofs.YtjmojhflnjbgaaaGreat
open Go.RowKit

theorem law_CyclicReverses_E_ent : Enters Tryz.prog 4 := enters_of Tryz.func4 (by kernel_rfl) (by kernel_rfl)
theorem law_CyclicReverses_E (p m : Int) (A : Option Addr) (c : Nat) (mod : List Int) (hl9 : mod.length ≤ 17592186044415) (w : Int) (Aa : Option Addr) (n ca : Nat) (rs : List RowM) (hn : n = rs.length) (h9 : rs.length ≤ 17592186044415) (h8 : ∀ r ∈ rs, r.xs.length ≤ 17592186044415) (he : codC p m mod w rs ≠ 0) :
    Pure Tryz.prog 4 #[.agg #[.int .i64 p, .int .i64 m, .slice A mod.length c, .int .i64 w, .slice Aa n ca]] [ro A (ints mod), ro Aa (hdrs rs), rowsR rs] (isV (.bool true)) := by
  refine pure_of (args := [.agg #[.int .i64 p, .int .i64 m, .slice A mod.length c, .int .i64 w, .slice Aa n ca]]) 89 Tryz.func4 rfl rfl rfl law_CyclicReverses_E_ent ⟨id, id, id, trivial⟩ (fun w0 => ?_)
  refine tr_seq ?_
  refine tr_region fun _ _ _ => ?_
  refine ef rfl rfl (eBox rfl rfl rfl rfl rfl (fun p0 => ?_)) 
  refine pu rfl rfl rfl rfl rfl ?_
  refine tr_seq ?_
  refine tr_seq ?_
  refine tr_region fun _ _ _ => ?_
  refine st rfl rfl rfl rfl (rLdS rfl rfl rfl) ?_
  refine ef rfl rfl (eCall0 rfl rfl rfl (law16_fewC p m A c mod hl9 w Aa n ca rs hn h9 h8) ⟨rfl, trivial⟩ ?_) 
  rintro _ ⟨b, rfl, hb⟩
  refine st rfl rfl rfl rfl (rNotB rfl rfl) ?_
  refine tr_cond_bool rfl (fun h1 => ?_) (fun h1 => ?_)
  · try simp only [zb1, zb2, zb3, zb4, zb5, zb6, zb7, zb8, zb9, zb10] at h1
    refine tr_seq ?_
    refine tr_region fun _ _ _ => ?_
    refine pu rfl rfl rfl rfl rfl ?_
    exact tr_ret ⟨trivial, _, _, rfl, ⟨rfl, rfl⟩, CSub.nil _, trivial⟩
  · try simp only [zb1, zb2, zb3, zb4, zb5, zb6, zb7, zb8, zb9, zb10] at h1
    refine tr_skip ?_
    refine tr_seq ?_
    refine tr_region fun _ _ _ => ?_
    refine st rfl rfl rfl rfl (rLdS rfl rfl rfl) ?_
    refine ef rfl rfl (eCallV rfl rfl rfl (cyc_RevE p m A c mod hl9 w Aa n ca rs hn h9 h8 he) ⟨rfl, trivial⟩ ?_) 
    iterate 3 refine pu rfl rfl rfl rfl rfl ?_
    refine ef rfl rfl (eAlloc rfl rfl rfl (fun p3a => ?_)) 
    refine ef rfl rfl (eStS rfl rfl rfl rfl rfl rfl ?_) 
    refine pu rfl rfl rfl rfl rfl ?_
    refine tr_seq ?_
    refine tr_region fun _ _ _ => ?_
    refine st rfl rfl rfl rfl (rLdS rfl rfl rfl) ?_
    refine ef rfl rfl (eCallV rfl rfl rfl (ref_CCheck p m A c mod hl9 w Aa n ca rs hn h9 h8) ⟨rfl, trivial⟩ ?_) 
    refine pu rfl rfl rfl rfl rfl ?_
    refine tr_seq ?_
    refine tr_seq ?_
    refine tr_region fun _ _ _ => ?_
    iterate 2 refine pu rfl rfl rfl rfl rfl ?_
    refine tr_cond_bool rfl (fun h5 => ?_) (fun h5 => ?_)
    · try simp only [zb1, zb2, zb3, zb4, zb5, zb6, zb7, zb8, zb9, zb10] at h5
      refine tr_seq ?_
      refine tr_region fun _ _ _ => ?_
      iterate 4 refine pu rfl rfl rfl rfl rfl ?_
      refine stg rfl rfl rfl rfl rfl (fun hb => by (have hq := hb; try simp only [zb1, zb2, zb3, zb4, zb5, zb6, zb7, zb8, zb9, zb10] at hq); exact rFld rfl rfl) ?_
      refine stg rfl rfl rfl rfl rfl (fun hb => by (have hq := hb; try simp only [zb1, zb2, zb3, zb4, zb5, zb6, zb7, zb8, zb9, zb10] at hq); exact rLdF rfl (evg rfl hb) rfl) ?_
      refine stg rfl rfl rfl rfl rfl (fun hb => by (have hq := hb; try simp only [zb1, zb2, zb3, zb4, zb5, zb6, zb7, zb8, zb9, zb10] at hq); exact rEql rfl (evg rfl hb) rfl) ?_
      refine st rfl rfl rfl rfl (rAndB rfl rfl rfl rfl) ?_
      refine pu rfl rfl rfl rfl rfl ?_
      refine stg rfl rfl rfl rfl rfl (fun hb => by (have hq := hb; try simp only [zb1, zb2, zb3, zb4, zb5, zb6, zb7, zb8, zb9, zb10] at hq); exact rFld rfl rfl) ?_
      refine stg rfl rfl rfl rfl rfl (fun hb => by (have hq := hb; try simp only [zb1, zb2, zb3, zb4, zb5, zb6, zb7, zb8, zb9, zb10] at hq); exact rLdF rfl (evg rfl hb) rfl) ?_
      refine stg rfl rfl rfl rfl rfl (fun hb => by (have hq := hb; try simp only [zb1, zb2, zb3, zb4, zb5, zb6, zb7, zb8, zb9, zb10] at hq); exact rLen rfl (evg rfl hb)) ?_
      refine stg rfl rfl rfl rfl rfl (fun hb => by (have hq := hb; try simp only [zb1, zb2, zb3, zb4, zb5, zb6, zb7, zb8, zb9, zb10] at hq); exact rEql rfl (evg rfl hb) rfl) ?_
      refine st rfl rfl rfl rfl (rAndB rfl rfl rfl rfl) ?_
      refine pu rfl rfl rfl rfl rfl ?_
      exact tr_ret ⟨trivial, _, _, rfl, ⟨by simp, rfl⟩, CSub.nil _, trivial⟩
    · try simp only [zb1, zb2, zb3, zb4, zb5, zb6, zb7, zb8, zb9, zb10] at h5
      omega --done

theorem law_CyclicReverses_N_ent : Enters Tryz.prog 4 := enters_of Tryz.func4 (by kernel_rfl) (by kernel_rfl)
theorem law_CyclicReverses_N (p m : Int) (A : Option Addr) (c : Nat) (mod : List Int) [hF : IsF p m mod] (w : Int) (Aa : Option Addr) (n ca : Nat) (rs : List RowM) (hn : n = rs.length) (h9 : rs.length ≤ 256) (hc : CodeOk p m mod w rs) (hl9 : mod.length ≤ 17592186044415) (h9b : rs.length ≤ 17592186044415) (h8 : ∀ r ∈ rs, r.xs.length ≤ 17592186044415) (hcl : closB p m mod w.toNat rs = false) :
    Pure Tryz.prog 4 #[.agg #[.int .i64 p, .int .i64 m, .slice A mod.length c, .int .i64 w, .slice Aa n ca]] [ro A (ints mod), ro Aa (hdrs rs), rowsR rs] (isV (.bool true)) := by
  have hck := hc.zero
  have h9c := h9
  have hn1 := hc.n1
  have hn64 := hc.n64
  have hlen := hc.len
  have hgd := hc.good
  refine pure_of (args := [.agg #[.int .i64 p, .int .i64 m, .slice A mod.length c, .int .i64 w, .slice Aa n ca]]) 89 Tryz.func4 rfl rfl rfl law_CyclicReverses_N_ent ⟨id, id, id, trivial⟩ (fun w0 => ?_)
  refine tr_seq ?_
  refine tr_region fun _ _ _ => ?_
  refine ef rfl rfl (eBox rfl rfl rfl rfl rfl (fun p0 => ?_)) 
  refine pu rfl rfl rfl rfl rfl ?_
  refine tr_seq ?_
  refine tr_seq ?_
  refine tr_region fun _ _ _ => ?_
  refine st rfl rfl rfl rfl (rLdS rfl rfl rfl) ?_
  refine ef rfl rfl (eCall0 rfl rfl rfl (law16_fewC p m A c mod hl9 w Aa n ca rs hn h9b h8) ⟨rfl, trivial⟩ ?_) 
  rintro _ ⟨b, rfl, hb⟩
  refine st rfl rfl rfl rfl (rNotB rfl rfl) ?_
  refine tr_cond_bool rfl (fun h1 => ?_) (fun h1 => ?_)
  · try simp only [zb1, zb2, zb3, zb4, zb5, zb6, zb7, zb8, zb9, zb10] at h1
    refine tr_seq ?_
    refine tr_region fun _ _ _ => ?_
    refine pu rfl rfl rfl rfl rfl ?_
    exact tr_ret ⟨trivial, _, _, rfl, ⟨rfl, rfl⟩, CSub.nil _, trivial⟩
  · try simp only [zb1, zb2, zb3, zb4, zb5, zb6, zb7, zb8, zb9, zb10] at h1
    refine tr_skip ?_
    refine tr_seq ?_
    refine tr_region fun _ _ _ => ?_
    refine st rfl rfl rfl rfl (rLdS rfl rfl rfl) ?_
    refine ef rfl rfl (eCall3 rfl rfl rfl (cyc_Rev _ _ _ _ _ w Aa n ca rs hn h9c hc) ⟨rfl, trivial⟩ ?_) 
    rintro _ _ _ _ ⟨Bm, cm, B, r3, rfl, rfl, rfl, rfl, hC⟩
    iterate 3 refine pu rfl rfl rfl rfl rfl ?_
    refine ef rfl rfl (eAlloc rfl rfl rfl (fun p3a => ?_)) 
    refine ef rfl rfl (eStS rfl rfl rfl rfl rfl rfl ?_) 
    refine pu rfl rfl rfl rfl rfl ?_
    refine tr_seq ?_
    refine tr_region fun _ _ _ => ?_
    refine st rfl rfl rfl rfl (rLdS rfl rfl rfl) ?_
    refine ef rfl rfl (eCallV rfl rfl rfl (ref_CCheck p m A c mod hl9 w Aa n ca rs hn h9b h8) ⟨rfl, trivial⟩ ?_) 
    refine pu rfl rfl rfl rfl rfl ?_
    refine tr_seq ?_
    refine tr_seq ?_
    refine tr_region fun _ _ _ => ?_
    iterate 2 refine pu rfl rfl rfl rfl rfl ?_
    refine tr_cond_bool rfl (fun h5 => ?_) (fun h5 => ?_)
    · try simp only [zb1, zb2, zb3, zb4, zb5, zb6, zb7, zb8, zb9, zb10] at h5
      omega --done
    · try simp only [zb1, zb2, zb3, zb4, zb5, zb6, zb7, zb8, zb9, zb10] at h5
      refine tr_skip ?_
      refine tr_seq ?_
      have hC3 : CodeOk p m mod w r3 := hC.ok hn1 hn64
      have hl3 := hC3.len
      refine tr_region fun _ _ _ => ?_
      refine st rfl rfl rfl rfl (rLdS rfl rfl rfl) ?_
      refine ef rfl rfl (eCall3 rfl rfl rfl (cyc_Rev _ _ _ _ _ w B _ _ r3 rfl (by omega) hC3) ⟨rfl, trivial⟩ ?_) 
      rintro _ _ _ _ ⟨Bm2, cm2, B2, r4, rfl, rfl, rfl, rfl, hC4⟩
      iterate 3 refine pu rfl rfl rfl rfl rfl ?_
      refine ef rfl rfl (eAlloc rfl rfl rfl (fun p7a => ?_)) 
      refine ef rfl rfl (eStS rfl rfl rfl rfl rfl rfl ?_) 
      refine pu rfl rfl rfl rfl rfl ?_
      refine tr_seq ?_
      refine tr_seq ?_
      refine tr_draw [0, 1, 2, 3, 4, 5, 6, 7, 8, 9, 10, 11, 12, 13, 14, 15, 16, 17, 18] [] mixed (by kernel_rfl) fun _ _ _ => ?_
      iterate 3 refine pu rfl rfl rfl rfl rfl ?_
      refine stT rfl rfl rfl (by simp) rfl rfl (rMove rfl rfl) ?_
      refine stT rfl rfl rfl (by simp) rfl rfl (rNeq rfl rfl rfl) ?_
      refine st rfl rfl rfl rfl (rPick0 rfl rfl (by simp) rfl) ?_
      refine pu rfl rfl rfl rfl rfl ?_
      refine stT rfl rfl rfl (by simp) rfl rfl (rLdS rfl rfl rfl) ?_
      refine stT rfl rfl rfl (by simp) rfl rfl (rLdS rfl rfl rfl) ?_
      refine efT rfl rfl rfl (by simp) (eCall3 rfl rfl rfl (ref_Rev _ _ _ _ _ w Aa n ca rs hn h9c hc) ⟨rfl, trivial⟩ ?_) 
      rintro _ _ _ _ ⟨Bm5, cm5, B5, cg5, r5, rfl, rfl, rfl, rfl, hC5⟩
      refine efT rfl rfl rfl (by simp) (eCallV rfl rfl rfl (ref_CSame _ _ _ _ _ (by omega) _ _ _ _ r3 rfl (by omega) (hC3.good.h8 (by omega)) _ _ _ _ _ _ _ _ _ r5 rfl) ⟨rfl, rfl, trivial⟩ ?_) 
      refine stT rfl rfl rfl (by simp) rfl rfl (rNotB rfl rfl) ?_
      refine st rfl rfl rfl rfl (rPick0 rfl rfl (by simp) rfl) ?_
      refine pu rfl rfl rfl rfl rfl ?_
      refine stT rfl rfl rfl (by simp [hC.uniq hC5]) rfl rfl (rLdS rfl rfl rfl) ?_
      refine stT rfl rfl rfl (by simp [hC.uniq hC5]) rfl rfl (rLdS rfl rfl rfl) ?_
      refine efT rfl rfl rfl (by simp [hC.uniq hC5]) (eCallV rfl rfl rfl (ref_CSame _ _ _ _ _ (by omega) _ _ _ _ r4 rfl (by have := hC4.le; omega) (hC4.good.h8 (by omega)) _ _ _ _ _ _ _ _ _ rs hn) ⟨rfl, rfl, trivial⟩ ?_) 
      refine stT rfl rfl rfl (by simp [hC.uniq hC5]) rfl rfl (rNotB rfl rfl) ?_
      refine st rfl rfl rfl rfl (rPick0 rfl rfl (by simp [hC.uniq hC5]) rfl) ?_
      refine tr_cond_bool rfl (fun h8 => ?_) (fun h8 => ?_)
      · try simp only [zb1, zb2, zb3, zb4, zb5, zb6, zb7, zb8, zb9, zb10] at h8
        simp [hC.uniq hC5, hC4.eq hc.cd (rev_rev hc hC)] at h8 --done
      · try simp only [zb1, zb2, zb3, zb4, zb5, zb6, zb7, zb8, zb9, zb10] at h8
        refine tr_skip ?_
        refine tr_seq ?_
        refine tr_seq ?_
        refine tr_region fun _ _ _ => ?_
        refine st rfl rfl rfl rfl (rLdS rfl rfl rfl) ?_
        refine ef rfl rfl (eCallV rfl rfl rfl (ref_Is_ _ _ _ _ _ w Aa n ca rs hn h9c hc) ⟨rfl, trivial⟩ ?_) 
        refine st rfl rfl rfl rfl (rNotB rfl rfl) ?_
        refine tr_cond_bool rfl (fun h10 => ?_) (fun h10 => ?_)
        · try simp only [zb1, zb2, zb3, zb4, zb5, zb6, zb7, zb8, zb9, zb10] at h10
          refine tr_seq ?_
          refine tr_region fun _ _ _ => ?_
          refine pu rfl rfl rfl rfl rfl ?_
          exact tr_ret ⟨trivial, _, _, rfl, ⟨rfl, rfl⟩, CSub.nil _, trivial⟩
        · try simp only [zb1, zb2, zb3, zb4, zb5, zb6, zb7, zb8, zb9, zb10] at h10
          rw [hcl] at h10; simp at h10 --done

theorem law_CyclicReverses_Y_ent : Enters Tryz.prog 4 := enters_of Tryz.func4 (by kernel_rfl) (by kernel_rfl)
theorem law_CyclicReverses_Y (p m : Int) (A : Option Addr) (c : Nat) (mod : List Int) [hF : IsF p m mod] (w : Int) (Aa : Option Addr) (n ca : Nat) (rs : List RowM) (hn : n = rs.length) (h9 : rs.length ≤ 256) (hc : CodeOk p m mod w rs) (hl9 : mod.length ≤ 17592186044415) (h9b : rs.length ≤ 17592186044415) (h8 : ∀ r ∈ rs, r.xs.length ≤ 17592186044415) (hcl : closB p m mod w.toNat rs = true) :
    Pure Tryz.prog 4 #[.agg #[.int .i64 p, .int .i64 m, .slice A mod.length c, .int .i64 w, .slice Aa n ca]] [ro A (ints mod), ro Aa (hdrs rs), rowsR rs] (isV (.bool true)) := by
  have hck := hc.zero
  have h9c := h9
  have hn1 := hc.n1
  have hn64 := hc.n64
  have hlen := hc.len
  have hgd := hc.good
  have hgl := genP_len (p := p) (m := m) (mod := mod) (n := w.toNat) (by omega) (xss rs)
  rw [← il_length] at hgl
  refine pure_of (args := [.agg #[.int .i64 p, .int .i64 m, .slice A mod.length c, .int .i64 w, .slice Aa n ca]]) 89 Tryz.func4 rfl rfl rfl law_CyclicReverses_Y_ent ⟨id, id, id, trivial⟩ (fun w0 => ?_)
  refine tr_seq ?_
  refine tr_region fun _ _ _ => ?_
  refine ef rfl rfl (eBox rfl rfl rfl rfl rfl (fun p0 => ?_)) 
  refine pu rfl rfl rfl rfl rfl ?_
  refine tr_seq ?_
  refine tr_seq ?_
  refine tr_region fun _ _ _ => ?_
  refine st rfl rfl rfl rfl (rLdS rfl rfl rfl) ?_
  refine ef rfl rfl (eCall0 rfl rfl rfl (law16_fewC p m A c mod hl9 w Aa n ca rs hn h9b h8) ⟨rfl, trivial⟩ ?_) 
  rintro _ ⟨b, rfl, hb⟩
  refine st rfl rfl rfl rfl (rNotB rfl rfl) ?_
  refine tr_cond_bool rfl (fun h1 => ?_) (fun h1 => ?_)
  · try simp only [zb1, zb2, zb3, zb4, zb5, zb6, zb7, zb8, zb9, zb10] at h1
    refine tr_seq ?_
    refine tr_region fun _ _ _ => ?_
    refine pu rfl rfl rfl rfl rfl ?_
    exact tr_ret ⟨trivial, _, _, rfl, ⟨rfl, rfl⟩, CSub.nil _, trivial⟩
  · try simp only [zb1, zb2, zb3, zb4, zb5, zb6, zb7, zb8, zb9, zb10] at h1
    refine tr_skip ?_
    refine tr_seq ?_
    refine tr_region fun _ _ _ => ?_
    refine st rfl rfl rfl rfl (rLdS rfl rfl rfl) ?_
    refine ef rfl rfl (eCall3 rfl rfl rfl (cyc_Rev _ _ _ _ _ w Aa n ca rs hn h9c hc) ⟨rfl, trivial⟩ ?_) 
    rintro _ _ _ _ ⟨Bm, cm, B, r3, rfl, rfl, rfl, rfl, hC⟩
    iterate 3 refine pu rfl rfl rfl rfl rfl ?_
    refine ef rfl rfl (eAlloc rfl rfl rfl (fun p3a => ?_)) 
    refine ef rfl rfl (eStS rfl rfl rfl rfl rfl rfl ?_) 
    refine pu rfl rfl rfl rfl rfl ?_
    refine tr_seq ?_
    refine tr_region fun _ _ _ => ?_
    refine st rfl rfl rfl rfl (rLdS rfl rfl rfl) ?_
    refine ef rfl rfl (eCallV rfl rfl rfl (ref_CCheck p m A c mod hl9 w Aa n ca rs hn h9b h8) ⟨rfl, trivial⟩ ?_) 
    refine pu rfl rfl rfl rfl rfl ?_
    refine tr_seq ?_
    refine tr_seq ?_
    refine tr_region fun _ _ _ => ?_
    iterate 2 refine pu rfl rfl rfl rfl rfl ?_
    refine tr_cond_bool rfl (fun h5 => ?_) (fun h5 => ?_)
    · try simp only [zb1, zb2, zb3, zb4, zb5, zb6, zb7, zb8, zb9, zb10] at h5
      omega --done
    · try simp only [zb1, zb2, zb3, zb4, zb5, zb6, zb7, zb8, zb9, zb10] at h5
      refine tr_skip ?_
      refine tr_seq ?_
      have hC3 : CodeOk p m mod w r3 := hC.ok hn1 hn64
      have hl3 := hC3.len
      refine tr_region fun _ _ _ => ?_
      refine st rfl rfl rfl rfl (rLdS rfl rfl rfl) ?_
      refine ef rfl rfl (eCall3 rfl rfl rfl (cyc_Rev _ _ _ _ _ w B _ _ r3 rfl (by omega) hC3) ⟨rfl, trivial⟩ ?_) 
      rintro _ _ _ _ ⟨Bm2, cm2, B2, r4, rfl, rfl, rfl, rfl, hC4⟩
      iterate 3 refine pu rfl rfl rfl rfl rfl ?_
      refine ef rfl rfl (eAlloc rfl rfl rfl (fun p7a => ?_)) 
      refine ef rfl rfl (eStS rfl rfl rfl rfl rfl rfl ?_) 
      refine pu rfl rfl rfl rfl rfl ?_
      refine tr_seq ?_
      refine tr_seq ?_
      refine tr_draw [0, 1, 2, 3, 4, 5, 6, 7, 8, 9, 10, 11, 12, 13, 14, 15, 16, 17, 18] [] mixed (by kernel_rfl) fun _ _ _ => ?_
      iterate 3 refine pu rfl rfl rfl rfl rfl ?_
      refine stT rfl rfl rfl (by simp) rfl rfl (rMove rfl rfl) ?_
      refine stT rfl rfl rfl (by simp) rfl rfl (rNeq rfl rfl rfl) ?_
      refine st rfl rfl rfl rfl (rPick0 rfl rfl (by simp) rfl) ?_
      refine pu rfl rfl rfl rfl rfl ?_
      refine stT rfl rfl rfl (by simp) rfl rfl (rLdS rfl rfl rfl) ?_
      refine stT rfl rfl rfl (by simp) rfl rfl (rLdS rfl rfl rfl) ?_
      refine efT rfl rfl rfl (by simp) (eCall3 rfl rfl rfl (ref_Rev _ _ _ _ _ w Aa n ca rs hn h9c hc) ⟨rfl, trivial⟩ ?_) 
      rintro _ _ _ _ ⟨Bm5, cm5, B5, cg5, r5, rfl, rfl, rfl, rfl, hC5⟩
      refine efT rfl rfl rfl (by simp) (eCallV rfl rfl rfl (ref_CSame _ _ _ _ _ (by omega) _ _ _ _ r3 rfl (by omega) (hC3.good.h8 (by omega)) _ _ _ _ _ _ _ _ _ r5 rfl) ⟨rfl, rfl, trivial⟩ ?_) 
      refine stT rfl rfl rfl (by simp) rfl rfl (rNotB rfl rfl) ?_
      refine st rfl rfl rfl rfl (rPick0 rfl rfl (by simp) rfl) ?_
      refine pu rfl rfl rfl rfl rfl ?_
      refine stT rfl rfl rfl (by simp [hC.uniq hC5]) rfl rfl (rLdS rfl rfl rfl) ?_
      refine stT rfl rfl rfl (by simp [hC.uniq hC5]) rfl rfl (rLdS rfl rfl rfl) ?_
      refine efT rfl rfl rfl (by simp [hC.uniq hC5]) (eCallV rfl rfl rfl (ref_CSame _ _ _ _ _ (by omega) _ _ _ _ r4 rfl (by have := hC4.le; omega) (hC4.good.h8 (by omega)) _ _ _ _ _ _ _ _ _ rs hn) ⟨rfl, rfl, trivial⟩ ?_) 
      refine stT rfl rfl rfl (by simp [hC.uniq hC5]) rfl rfl (rNotB rfl rfl) ?_
      refine st rfl rfl rfl rfl (rPick0 rfl rfl (by simp [hC.uniq hC5]) rfl) ?_
      refine tr_cond_bool rfl (fun h8 => ?_) (fun h8 => ?_)
      · try simp only [zb1, zb2, zb3, zb4, zb5, zb6, zb7, zb8, zb9, zb10] at h8
        simp [hC.uniq hC5, hC4.eq hc.cd (rev_rev hc hC)] at h8 --done
      · try simp only [zb1, zb2, zb3, zb4, zb5, zb6, zb7, zb8, zb9, zb10] at h8
        refine tr_skip ?_
        refine tr_seq ?_
        refine tr_seq ?_
        refine tr_region fun _ _ _ => ?_
        refine st rfl rfl rfl rfl (rLdS rfl rfl rfl) ?_
        refine ef rfl rfl (eCallV rfl rfl rfl (ref_Is_ _ _ _ _ _ w Aa n ca rs hn h9c hc) ⟨rfl, trivial⟩ ?_) 
        refine st rfl rfl rfl rfl (rNotB rfl rfl) ?_
        refine tr_cond_bool rfl (fun h10 => ?_) (fun h10 => ?_)
        · try simp only [zb1, zb2, zb3, zb4, zb5, zb6, zb7, zb8, zb9, zb10] at h10
          rw [hcl] at h10; simp at h10 --done
        · try simp only [zb1, zb2, zb3, zb4, zb5, zb6, zb7, zb8, zb9, zb10] at h10
          refine tr_skip ?_
          refine tr_seq ?_
          obtain ⟨hcl3, hgr⟩ := rev_gen hc hC hcl
          have hgl3 := genP_len (p := p) (m := m) (mod := mod) (n := w.toNat) (by omega) (xss r3)
          rw [← il_length] at hgl3
          refine tr_region fun _ _ _ => ?_
          refine st rfl rfl rfl rfl (rLdS rfl rfl rfl) ?_
          refine ef rfl rfl (eCall1 rfl rfl rfl (cyc_Gen _ _ _ _ _ w Aa n ca rs hn h9c hc hcl) ⟨rfl, trivial⟩ ?_) 
          rintro _ _ ⟨B4, c4, rfl, rfl⟩
          iterate 5 refine pu rfl rfl rfl rfl rfl ?_
          refine tr_seq ?_
          refine tr_region fun _ _ _ => ?_
          refine st rfl rfl rfl rfl (rLdS rfl rfl rfl) ?_
          refine ef rfl rfl (eCall1 rfl rfl rfl (cyc_Gen _ _ _ _ _ w B _ _ r3 rfl (by omega) hC3 hcl3) ⟨rfl, trivial⟩ ?_) 
          rintro _ _ ⟨B6, c6, rfl, rfl⟩
          iterate 5 refine pu rfl rfl rfl rfl rfl ?_
          refine tr_seq ?_
          refine tr_region fun _ _ _ => ?_
          iterate 3 refine pu rfl rfl rfl rfl rfl ?_
          refine stT rfl rfl rfl (by simp) rfl rfl (rMove rfl rfl) ?_
          refine stT rfl rfl rfl (by simp) rfl rfl (rEql rfl rfl rfl) ?_
          refine st rfl rfl rfl rfl (rPick1 rfl rfl (by simp) rfl) ?_
          refine pu rfl rfl rfl rfl rfl ?_
          refine stT rfl rfl rfl (by simp) rfl rfl (rMove rfl rfl) ?_
          refine stT rfl rfl rfl (by simp) rfl rfl (rFld rfl rfl) ?_
          refine stT rfl rfl rfl (by simp) rfl rfl (rLdSF rfl rfl) ?_
          refine stT rfl rfl rfl (by simp) rfl rfl (rMove rfl rfl) ?_
          refine efT rfl rfl rfl (by simp) (eCall1 rfl rfl rfl (ref_Recip _ _ _ _ _ B4 _ _ (il (genP p m mod w.toNat (xss rs))) rfl (by omega)) ⟨rfl, rfl, trivial⟩ ?_) 
          rintro _ _ ⟨B7, c7, rfl, rfl⟩
          refine efT rfl rfl rfl (by simp) (eCallV rfl rfl rfl (ref_SameInts _ _ _ (il (genP p m mod w.toNat (xss r3))) rfl _ _ _ (il (recP (pol (il (genP p m mod w.toNat (xss rs)))))) rfl (by omega)) ⟨rfl, rfl, trivial⟩ ?_) 
          refine st rfl rfl rfl rfl (rPick1 rfl rfl (by simp) rfl) ?_
          refine pu rfl rfl rfl rfl rfl ?_
          exact tr_ret ⟨trivial, _, _, rfl, ⟨by simp [pol_il, hgr], rfl⟩, CSub.nil _, trivial⟩

theorem law_CyclicReverses (p m : Int) (A : Option Addr) (c : Nat) (mod : List Int) (hl9 : mod.length ≤ 17592186044415) (w : Int) (Aa : Option Addr) (n ca : Nat) (rs : List RowM) (hn : n = rs.length) (h9 : rs.length ≤ 17592186044415) (h8 : ∀ r ∈ rs, r.xs.length ≤ 17592186044415) : Pure Tryz.prog 4 #[.agg #[.int .i64 p, .int .i64 m, .slice A mod.length c, .int .i64 w, .slice Aa n ca]] [ro A (ints mod), ro Aa (hdrs rs), rowsR rs] (isV (.bool true)) := by
  by_cases he : codC p m mod w rs = 0
  · obtain ⟨hF0, hc⟩ := codC_zero he
    haveI hF : IsF p m mod := ⟨hF0⟩
    have hl := hc.len
    cases hcl : closB p m mod w.toNat rs with
    | true => exact law_CyclicReverses_Y p m A c mod w Aa n ca rs hn (by omega) hc hl9 h9 h8 hcl
    | false => exact law_CyclicReverses_N p m A c mod w Aa n ca rs hn (by omega) hc hl9 h9 h8 hcl
  · exact law_CyclicReverses_E p m A c mod hl9 w Aa n ca rs hn h9 h8 he

end Go.Proofs.YtjmojhflnjbgaaaGreat

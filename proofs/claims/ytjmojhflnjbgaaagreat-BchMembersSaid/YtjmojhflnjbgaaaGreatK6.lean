/-
  BCHMEMBERS, PART 6 OF 10. One sentence: the texts behind the law BchMembers, put together.
  Conditions: each theorem's own, written out in it.
-/
import Derived.Test.YtjmojhflnjbgaaaGreatK5
set_option linter.unusedSimpArgs false
set_option linter.unusedVariables false
set_option linter.unusedSectionVars false
set_option linter.unusedSimpArgs false
set_option linter.unusedVariables false
set_option maxRecDepth 100000
namespace Go.Proofs.YtjmojhflnjbgaaaGreat
open Go.RowKit
theorem fld_CheckN_ent : Enters Tryz.prog 120 := enters_of Tryz.func120 (by kernel_rfl) (by kernel_rfl)
theorem fld_CheckN (p m : Int) (A : Option Addr) (c : Nat) (mod : List Int) (hl9 : mod.length ≤ 17592186044415) (hsh : bShp p m mod = false) :
    Pure Tryz.prog 120 #[.agg #[.int .i64 p, .int .i64 m, .slice A mod.length c]] [ro A (ints mod)] (isV (.int .i64 1)) := by
  refine pure_of (args := [.agg #[.int .i64 p, .int .i64 m, .slice A mod.length c]]) 16 Tryz.func120 rfl rfl rfl fld_CheckN_ent ⟨id, trivial⟩ (fun w0 => ?_)
  refine tr_seq ?_
  refine tr_region fun _ _ _ => ?_
  refine ef rfl rfl (eBox rfl rfl rfl rfl rfl (fun p0 => ?_)) 
  refine pu rfl rfl rfl rfl rfl ?_
  refine tr_seq ?_
  refine tr_seq ?_
  refine tr_draw [0, 1, 2, 3, 4, 5, 6, 7, 8, 9, 10, 11, 12] [] mixed (by kernel_rfl) fun _ _ _ => ?_
  refine st rfl rfl rfl rfl (rLdS rfl rfl rfl) ?_
  refine ef rfl rfl (eCallV rfl rfl rfl (fld_shape _ _ _ _ _ (by omega)) ⟨rfl, trivial⟩ ?_) 
  refine st rfl rfl rfl rfl (rNotB rfl rfl) ?_
  refine pu rfl rfl rfl rfl rfl ?_
  refine skF rfl rfl (by simp [hsh]) rfl rfl ?_
  refine skF rfl rfl (by simp [hsh]) rfl rfl ?_
  refine skF rfl rfl (by simp [hsh]) rfl rfl ?_
  refine skF rfl rfl (by simp [hsh]) rfl rfl ?_
  refine skF rfl rfl (by simp [hsh]) rfl rfl ?_
  refine skF rfl rfl (by simp [hsh]) rfl rfl ?_
  refine skF rfl rfl (by simp [hsh]) rfl rfl ?_
  refine skF rfl rfl (by simp [hsh]) rfl rfl ?_
  refine st rfl rfl rfl rfl (rPick1 rfl rfl (by simp [hsh]) rfl) ?_
  refine tr_cond_bool rfl (fun h1 => ?_) (fun h1 => ?_)
  · try simp only [zbA] at h1
    refine tr_seq ?_
    refine tr_region fun _ _ _ => ?_
    refine pu rfl rfl rfl rfl rfl ?_
    exact tr_ret ⟨trivial, _, _, rfl, ⟨rfl, rfl⟩, CSub.nil _, trivial⟩
  · try simp only [zbA] at h1
    first | exact absurd trivial h1 | exact absurd rfl h1 | omega | (exact absurd h1 (by simp)) --done
theorem fld_CheckS_ent : Enters Tryz.prog 120 := enters_of Tryz.func120 (by kernel_rfl) (by kernel_rfl)
theorem fld_CheckS (p m : Int) (A : Option Addr) (c : Nat) (mod : List Int) (hl9 : mod.length ≤ 17592186044415) (hsh : bShp p m mod = true) :
    Pure Tryz.prog 120 #[.agg #[.int .i64 p, .int .i64 m, .slice A mod.length c]] [ro A (ints mod)] (isV (.int .i64 (chkF p m mod))) := by
  have hs1 := ((bShp_iff p m mod).1 hsh).1
  have hs2 := (bShp_iff p m mod).1 hsh
  refine pure_of (args := [.agg #[.int .i64 p, .int .i64 m, .slice A mod.length c]]) 16 Tryz.func120 rfl rfl rfl fld_CheckS_ent ⟨id, trivial⟩ (fun w0 => ?_)
  refine tr_seq ?_
  refine tr_region fun _ _ _ => ?_
  refine ef rfl rfl (eBox rfl rfl rfl rfl rfl (fun p0 => ?_)) 
  refine pu rfl rfl rfl rfl rfl ?_
  refine tr_seq ?_
  refine tr_seq ?_
  refine tr_draw [0, 1, 2, 3, 4, 5, 6, 7, 8, 9, 10, 11, 12] [] mixed (by kernel_rfl) fun _ _ _ => ?_
  refine st rfl rfl rfl rfl (rLdS rfl rfl rfl) ?_
  refine ef rfl rfl (eCallV rfl rfl rfl (fld_shape _ _ _ _ _ (by omega)) ⟨rfl, trivial⟩ ?_) 
  refine st rfl rfl rfl rfl (rNotB rfl rfl) ?_
  refine pu rfl rfl rfl rfl rfl ?_
  refine stT rfl rfl rfl (by simp [hsh]) rfl rfl (rLdS rfl rfl rfl) ?_
  refine stT rfl rfl rfl (by simp [hsh]) rfl rfl (rFld rfl rfl) ?_
  refine stT rfl rfl rfl (by simp [hsh]) rfl rfl (rLdF rfl rfl rfl) ?_
  refine stT rfl rfl rfl (by simp [hsh]) rfl rfl (rFld rfl rfl) ?_
  refine stT rfl rfl rfl (by simp [hsh]) rfl rfl (rLdF rfl rfl rfl) ?_
  refine efT rfl rfl rfl (by simp [hsh]) (eCallV rfl rfl rfl (fld_order _ _) ⟨rfl, rfl, trivial⟩ ?_) 
  refine efT rfl rfl rfl (by simp [hsh]) (eCall1 rfl rfl rfl (fld_gen _ _ _ _ _ hs1 _ hs1.ord) ⟨rfl, rfl, trivial⟩ ?_) 
  rintro _ _ ⟨B, l, cb, rfl, hl, hn, rfl⟩
  refine stT rfl rfl rfl (by simp [hsh]) rfl rfl (rNilS rfl rfl rfl) ?_
  refine st rfl rfl rfl rfl (rPick0 rfl rfl (by simp [hsh]) rfl) ?_
  refine tr_cond_bool rfl (fun h1 => ?_) (fun h1 => ?_)
  · try simp only [zbA] at h1
    refine tr_emptyI (A := B) (xs := l) (fun hemp => ?_)
    have hl0 := hemp h1
    refine tr_seq ?_
    refine tr_region fun _ _ _ => ?_
    refine pu rfl rfl rfl rfl rfl ?_
    rw [hl0] at hl
    exact tr_ret ⟨trivial, _, _, rfl, ⟨by rw [chkF_no fun h => hl.nil (fldN_iff.2 h).2], rfl⟩, CSub.nil _, trivial⟩
  · try simp only [zbA] at h1
    refine tr_skip ?_
    refine tr_seq ?_
    refine tr_region fun _ _ _ => ?_
    refine pu rfl rfl rfl rfl rfl ?_
    have hgn : l ≠ [] := fun h => by
      rw [hn h] at h1
      simp at h1
    have hF : FldR p m mod := fldN_iff.1 ⟨hs2, by
      rcases hl with ⟨x, h⟩ | h
      · exact ⟨x, l, h⟩
      · exact absurd h.1 hgn⟩
    exact tr_ret ⟨trivial, _, _, rfl, ⟨by rw [chkF_ok hF], rfl⟩, CSub.nil _, trivial⟩
theorem fld_Check (p m : Int) (A : Option Addr) (c : Nat) (mod : List Int) (hl9 : mod.length ≤ 17592186044415) : Pure Tryz.prog 120 #[.agg #[.int .i64 p, .int .i64 m, .slice A mod.length c]] [ro A (ints mod)] (isV (.int .i64 (chkF p m mod))) := by
  cases hsh : bShp p m mod with
  | true => exact fld_CheckS p m A c mod hl9 hsh
  | false =>
    have h := fld_CheckN p m A c mod hl9 hsh
    rwa [← chkF_no (p := p) (m := m) (mod := mod) (fun h => by rw [bShp_true h.1] at hsh; cases hsh)] at h
theorem ref_SCheckE_ent : Enters Tryz.prog 70 := enters_of Tryz.func70 (by kernel_rfl) (by kernel_rfl)
theorem ref_SCheckE (p m : Int) (A : Option Addr) (c : Nat) (mod : List Int) (hl9 : mod.length ≤ 17592186044415) [hF : IsF p m mod] (w : Int) (Aa : Option Addr) (n ca : Nat) (rs : List RowM) (hn : n = rs.length) (h9 : rs.length ≤ 17592186044415) (h8 : ∀ r ∈ rs, r.xs.length ≤ 17592186044415) (hE : rowsC (pw p m) w (xss rs) ≠ 0) :
    Pure Tryz.prog 70 #[.agg #[.int .i64 p, .int .i64 m, .slice A mod.length c], .agg #[.int .i64 w, .slice Aa n ca]] [ro A (ints mod), ro Aa (hdrs rs), rowsR rs] (isV (.int .i64 (rowsC (pw p m) w (xss rs)))) := by
  refine pure_of (args := [.agg #[.int .i64 p, .int .i64 m, .slice A mod.length c], .agg #[.int .i64 w, .slice Aa n ca]]) 28 Tryz.func70 rfl rfl rfl ref_SCheckE_ent ⟨id, id, id, trivial⟩ (fun w0 => ?_)
  refine tr_seq ?_
  refine tr_region fun _ _ _ => ?_
  refine ef rfl rfl (eBox rfl rfl rfl rfl rfl (fun p0 => ?_)) 
  refine ef rfl rfl (eBox rfl rfl rfl rfl rfl (fun p0a => ?_)) 
  refine pu rfl rfl rfl rfl rfl ?_
  refine tr_seq ?_
  refine tr_region fun _ _ _ => ?_
  refine st rfl rfl rfl rfl (rLdS rfl rfl rfl) ?_
  refine st rfl rfl rfl rfl (rLdS rfl rfl rfl) ?_
  refine ef rfl rfl (eCallV rfl rfl rfl (ref_RCheckOk _ _ _ _ _ hl9 hF.out (pw p m) hF.ord w Aa _ ca rs hn h9 h8) ⟨rfl, rfl, trivial⟩ ?_) 
  refine pu rfl rfl rfl rfl rfl ?_
  refine tr_seq ?_
  refine tr_seq ?_
  refine tr_region fun _ _ _ => ?_
  iterate 2 refine pu rfl rfl rfl rfl rfl ?_
  refine tr_cond_bool rfl (fun h2 => ?_) (fun h2 => ?_)
  · try simp only [zbA] at h2
    refine tr_seq ?_
    refine tr_region fun _ _ _ => ?_
    iterate 2 refine pu rfl rfl rfl rfl rfl ?_
    exact tr_ret ⟨trivial, _, _, rfl, ⟨rfl, rfl⟩, CSub.nil _, trivial⟩
  · try simp only [zbA] at h2
    omega --done
theorem ref_SCheckF_ent : Enters Tryz.prog 70 := enters_of Tryz.func70 (by kernel_rfl) (by kernel_rfl)
theorem ref_SCheckF (p m : Int) (A : Option Addr) (c : Nat) (mod : List Int) (hl9 : mod.length ≤ 17592186044415) [hF : IsF p m mod] (w : Int) (Aa : Option Addr) (n ca : Nat) (rs : List RowM) (hn : n = rs.length) (h9 : rs.length ≤ 17592186044415) (h8 : ∀ r ∈ rs, r.xs.length ≤ 17592186044415) (hE : rowsC (pw p m) w (xss rs) = 0) (hf : ¬ formP p m mod w.toNat rs) :
    Pure Tryz.prog 70 #[.agg #[.int .i64 p, .int .i64 m, .slice A mod.length c], .agg #[.int .i64 w, .slice Aa n ca]] [ro A (ints mod), ro Aa (hdrs rs), rowsR rs] (isV (.int .i64 5)) := by
  obtain ⟨hgd, hw0, hw9, hr9⟩ := rowsC_Gd (p := p) (m := m) hE
  refine pure_of (args := [.agg #[.int .i64 p, .int .i64 m, .slice A mod.length c], .agg #[.int .i64 w, .slice Aa n ca]]) 28 Tryz.func70 rfl rfl rfl ref_SCheckF_ent ⟨id, id, id, trivial⟩ (fun w0 => ?_)
  refine tr_seq ?_
  refine tr_region fun _ _ _ => ?_
  refine ef rfl rfl (eBox rfl rfl rfl rfl rfl (fun p0 => ?_)) 
  refine ef rfl rfl (eBox rfl rfl rfl rfl rfl (fun p0a => ?_)) 
  refine pu rfl rfl rfl rfl rfl ?_
  refine tr_seq ?_
  refine tr_region fun _ _ _ => ?_
  refine st rfl rfl rfl rfl (rLdS rfl rfl rfl) ?_
  refine st rfl rfl rfl rfl (rLdS rfl rfl rfl) ?_
  refine ef rfl rfl (eCallV rfl rfl rfl (ref_RCheckOk _ _ _ _ _ hl9 hF.out (pw p m) hF.ord w Aa _ ca rs hn h9 h8) ⟨rfl, rfl, trivial⟩ ?_) 
  refine pu rfl rfl rfl rfl rfl ?_
  refine tr_seq ?_
  refine tr_seq ?_
  refine tr_region fun _ _ _ => ?_
  iterate 2 refine pu rfl rfl rfl rfl rfl ?_
  refine tr_cond_bool rfl (fun h2 => ?_) (fun h2 => ?_)
  · try simp only [zbA] at h2
    omega --done
  · try simp only [zbA] at h2
    refine tr_skip ?_
    refine tr_seq ?_
    refine tr_region fun _ _ _ => ?_
    refine st rfl rfl rfl rfl (rLdS rfl rfl rfl) ?_
    refine st rfl rfl rfl rfl (rFld rfl rfl) ?_
    refine st rfl rfl rfl rfl (rLdF rfl rfl rfl) ?_
    refine st rfl rfl rfl rfl (rFld rfl rfl) ?_
    refine st rfl rfl rfl rfl (rLdF rfl rfl rfl) ?_
    refine ef rfl rfl (eCall3 rfl rfl rfl (ref_RCanon _ _ _ _ _ w hw0 (by omega) Aa _ ca rs hn (by omega) hgd) ⟨rfl, rfl, rfl, trivial⟩ ?_) 
    rintro _ _ _ _ ⟨r3, B, cg, Bp, cp, ps, rfl, rfl, rfl, rfl, hR, hk⟩
    iterate 5 refine pu rfl rfl rfl rfl rfl ?_
    refine tr_seq ?_
    refine tr_seq ?_
    refine tr_region fun _ _ _ => ?_
    refine pu rfl rfl rfl rfl rfl ?_
    refine st rfl rfl rfl rfl (rFld rfl rfl) ?_
    refine st rfl rfl rfl rfl (rLdF rfl rfl rfl) ?_
    refine ef rfl rfl (eCallV rfl rfl rfl (ref_SameRows _ _ _ r3 rfl _ _ _ rs hn (by omega) (hR.good.h8 (by omega))) ⟨rfl, rfl, trivial⟩ ?_) 
    refine st rfl rfl rfl rfl (rNotB rfl rfl) ?_
    refine tr_cond_bool rfl (fun h5 => ?_) (fun h5 => ?_)
    · try simp only [zbA] at h5
      refine tr_seq ?_
      refine tr_region fun _ _ _ => ?_
      refine pu rfl rfl rfl rfl rfl ?_
      exact tr_ret ⟨trivial, _, _, rfl, ⟨rfl, rfl⟩, CSub.nil _, trivial⟩
    · try simp only [zbA] at h5
      exact absurd ((hR.form_iff hgd).1 (by simpa [xss] using h5)) hf --done
theorem ref_SCheckG_ent : Enters Tryz.prog 70 := enters_of Tryz.func70 (by kernel_rfl) (by kernel_rfl)
theorem ref_SCheckG (p m : Int) (A : Option Addr) (c : Nat) (mod : List Int) (hl9 : mod.length ≤ 17592186044415) [hF : IsF p m mod] (w : Int) (Aa : Option Addr) (n ca : Nat) (rs : List RowM) (hn : n = rs.length) (h9 : rs.length ≤ 17592186044415) (h8 : ∀ r ∈ rs, r.xs.length ≤ 17592186044415) (hE : rowsC (pw p m) w (xss rs) = 0) (hf : formP p m mod w.toNat rs) :
    Pure Tryz.prog 70 #[.agg #[.int .i64 p, .int .i64 m, .slice A mod.length c], .agg #[.int .i64 w, .slice Aa n ca]] [ro A (ints mod), ro Aa (hdrs rs), rowsR rs] (isV (.int .i64 0)) := by
  obtain ⟨hgd, hw0, hw9, hr9⟩ := rowsC_Gd (p := p) (m := m) hE
  refine pure_of (args := [.agg #[.int .i64 p, .int .i64 m, .slice A mod.length c], .agg #[.int .i64 w, .slice Aa n ca]]) 28 Tryz.func70 rfl rfl rfl ref_SCheckG_ent ⟨id, id, id, trivial⟩ (fun w0 => ?_)
  refine tr_seq ?_
  refine tr_region fun _ _ _ => ?_
  refine ef rfl rfl (eBox rfl rfl rfl rfl rfl (fun p0 => ?_)) 
  refine ef rfl rfl (eBox rfl rfl rfl rfl rfl (fun p0a => ?_)) 
  refine pu rfl rfl rfl rfl rfl ?_
  refine tr_seq ?_
  refine tr_region fun _ _ _ => ?_
  refine st rfl rfl rfl rfl (rLdS rfl rfl rfl) ?_
  refine st rfl rfl rfl rfl (rLdS rfl rfl rfl) ?_
  refine ef rfl rfl (eCallV rfl rfl rfl (ref_RCheckOk _ _ _ _ _ hl9 hF.out (pw p m) hF.ord w Aa _ ca rs hn h9 h8) ⟨rfl, rfl, trivial⟩ ?_) 
  refine pu rfl rfl rfl rfl rfl ?_
  refine tr_seq ?_
  refine tr_seq ?_
  refine tr_region fun _ _ _ => ?_
  iterate 2 refine pu rfl rfl rfl rfl rfl ?_
  refine tr_cond_bool rfl (fun h2 => ?_) (fun h2 => ?_)
  · try simp only [zbA] at h2
    omega --done
  · try simp only [zbA] at h2
    refine tr_skip ?_
    refine tr_seq ?_
    refine tr_region fun _ _ _ => ?_
    refine st rfl rfl rfl rfl (rLdS rfl rfl rfl) ?_
    refine st rfl rfl rfl rfl (rFld rfl rfl) ?_
    refine st rfl rfl rfl rfl (rLdF rfl rfl rfl) ?_
    refine st rfl rfl rfl rfl (rFld rfl rfl) ?_
    refine st rfl rfl rfl rfl (rLdF rfl rfl rfl) ?_
    refine ef rfl rfl (eCall3 rfl rfl rfl (ref_RCanon _ _ _ _ _ w hw0 (by omega) Aa _ ca rs hn (by omega) hgd) ⟨rfl, rfl, rfl, trivial⟩ ?_) 
    rintro _ _ _ _ ⟨r3, B, cg, Bp, cp, ps, rfl, rfl, rfl, rfl, hR, hk⟩
    iterate 5 refine pu rfl rfl rfl rfl rfl ?_
    refine tr_seq ?_
    refine tr_seq ?_
    refine tr_region fun _ _ _ => ?_
    refine pu rfl rfl rfl rfl rfl ?_
    refine st rfl rfl rfl rfl (rFld rfl rfl) ?_
    refine st rfl rfl rfl rfl (rLdF rfl rfl rfl) ?_
    refine ef rfl rfl (eCallV rfl rfl rfl (ref_SameRows _ _ _ r3 rfl _ _ _ rs hn (by omega) (hR.good.h8 (by omega))) ⟨rfl, rfl, trivial⟩ ?_) 
    refine st rfl rfl rfl rfl (rNotB rfl rfl) ?_
    refine tr_cond_bool rfl (fun h5 => ?_) (fun h5 => ?_)
    · try simp only [zbA] at h5
      exact absurd ((hR.form_iff hgd).2 hf) (by simpa [xss] using h5) --done
    · try simp only [zbA] at h5
      refine tr_skip ?_
      refine tr_seq ?_
      refine tr_region fun _ _ _ => ?_
      refine pu rfl rfl rfl rfl rfl ?_
      exact tr_ret ⟨trivial, _, _, rfl, ⟨rfl, rfl⟩, CSub.nil _, trivial⟩
theorem ref_CCheckNo_ent : Enters Tryz.prog 21 := enters_of Tryz.func21 (by kernel_rfl) (by kernel_rfl)
theorem ref_CCheckNo (p m : Int) (A : Option Addr) (c : Nat) (mod : List Int) (hl9 : mod.length ≤ 17592186044415) (hF : ¬ FldR p m mod) (w : Int) (Aa : Option Addr) (n ca : Nat) (rs : List RowM) (hn : n = rs.length) (h9 : rs.length ≤ 17592186044415) (h8 : ∀ r ∈ rs, r.xs.length ≤ 17592186044415) :
    Pure Tryz.prog 21 #[.agg #[.int .i64 p, .int .i64 m, .slice A mod.length c, .int .i64 w, .slice Aa n ca]] [ro A (ints mod), ro Aa (hdrs rs), rowsR rs] (isV (.int .i64 1)) := by
  have hch := chkF_no hF
  refine pure_of (args := [.agg #[.int .i64 p, .int .i64 m, .slice A mod.length c, .int .i64 w, .slice Aa n ca]]) 26 Tryz.func21 rfl rfl rfl ref_CCheckNo_ent ⟨id, id, id, trivial⟩ (fun w0 => ?_)
  refine tr_seq ?_
  refine tr_region fun _ _ _ => ?_
  refine ef rfl rfl (eBox rfl rfl rfl rfl rfl (fun p0 => ?_)) 
  refine pu rfl rfl rfl rfl rfl ?_
  refine tr_seq ?_
  refine tr_region fun _ _ _ => ?_
  refine st rfl rfl rfl rfl (rFld rfl rfl) ?_
  refine st rfl rfl rfl rfl (rLdSF rfl rfl) ?_
  refine ef rfl rfl (eCallV rfl rfl rfl (ref_fldCheck _ _ _ _ _ hl9) ⟨rfl, trivial⟩ ?_) 
  refine pu rfl rfl rfl rfl rfl ?_
  refine tr_seq ?_
  refine tr_seq ?_
  refine tr_region fun _ _ _ => ?_
  iterate 2 refine pu rfl rfl rfl rfl rfl ?_
  refine tr_cond_bool rfl (fun h2 => ?_) (fun h2 => ?_)
  · try simp only [zbA] at h2
    refine tr_seq ?_
    refine tr_region fun _ _ _ => ?_
    iterate 2 refine pu rfl rfl rfl rfl rfl ?_
    exact tr_ret ⟨trivial, _, _, rfl, ⟨by rw [hch], rfl⟩, CSub.nil _, trivial⟩
  · try simp only [zbA] at h2
    omega --done
theorem ref_CCheckL_ent : Enters Tryz.prog 21 := enters_of Tryz.func21 (by kernel_rfl) (by kernel_rfl)
theorem ref_CCheckL (p m : Int) (A : Option Addr) (c : Nat) (mod : List Int) (hl9 : mod.length ≤ 17592186044415) [hF : IsF p m mod] (w : Int) (Aa : Option Addr) (n ca : Nat) (rs : List RowM) (hn : n = rs.length) (h9 : rs.length ≤ 17592186044415) (h8 : ∀ r ∈ rs, r.xs.length ≤ 17592186044415) (hb : w < 1 ∨ w > 64) :
    Pure Tryz.prog 21 #[.agg #[.int .i64 p, .int .i64 m, .slice A mod.length c, .int .i64 w, .slice Aa n ca]] [ro A (ints mod), ro Aa (hdrs rs), rowsR rs] (isV (.int .i64 4)) := by
  have hch := chkF_ok hF.out
  refine pure_of (args := [.agg #[.int .i64 p, .int .i64 m, .slice A mod.length c, .int .i64 w, .slice Aa n ca]]) 26 Tryz.func21 rfl rfl rfl ref_CCheckL_ent ⟨id, id, id, trivial⟩ (fun w0 => ?_)
  refine tr_seq ?_
  refine tr_region fun _ _ _ => ?_
  refine ef rfl rfl (eBox rfl rfl rfl rfl rfl (fun p0 => ?_)) 
  refine pu rfl rfl rfl rfl rfl ?_
  refine tr_seq ?_
  refine tr_region fun _ _ _ => ?_
  refine st rfl rfl rfl rfl (rFld rfl rfl) ?_
  refine st rfl rfl rfl rfl (rLdSF rfl rfl) ?_
  refine ef rfl rfl (eCallV rfl rfl rfl (ref_fldCheck _ _ _ _ _ hl9) ⟨rfl, trivial⟩ ?_) 
  refine pu rfl rfl rfl rfl rfl ?_
  refine tr_seq ?_
  refine tr_seq ?_
  refine tr_region fun _ _ _ => ?_
  iterate 2 refine pu rfl rfl rfl rfl rfl ?_
  refine tr_cond_bool rfl (fun h2 => ?_) (fun h2 => ?_)
  · try simp only [zbA] at h2
    omega --done
  · try simp only [zbA] at h2
    refine tr_skip ?_
    refine tr_seq ?_
    refine tr_seq ?_
    refine tr_region fun _ _ _ => ?_
    refine st rfl rfl rfl rfl (rFld rfl rfl) ?_
    refine st rfl rfl rfl rfl (rLdF rfl rfl rfl) ?_
    iterate 2 refine pu rfl rfl rfl rfl rfl ?_
    refine stg rfl rfl rfl rfl rfl (fun hb => by (have hq := hb; try simp only [zbA] at hq); exact rFld rfl rfl) ?_
    refine stg rfl rfl rfl rfl rfl (fun hb => by (have hq := hb; try simp only [zbA] at hq); exact rLdF rfl (evg rfl hb) rfl) ?_
    refine stg rfl rfl rfl rfl rfl (fun hb => by (have hq := hb; try simp only [zbA] at hq); exact rGtr rfl (evg rfl hb) rfl) ?_
    refine st rfl rfl rfl rfl (rOrB rfl rfl rfl rfl) ?_
    refine tr_cond_bool rfl (fun h4 => ?_) (fun h4 => ?_)
    · try simp only [zbA] at h4
      refine tr_seq ?_
      refine tr_region fun _ _ _ => ?_
      refine pu rfl rfl rfl rfl rfl ?_
      exact tr_ret ⟨trivial, _, _, rfl, ⟨rfl, rfl⟩, CSub.nil _, trivial⟩
    · try simp only [zbA] at h4
      omega --done
theorem ref_CCheckE_ent : Enters Tryz.prog 21 := enters_of Tryz.func21 (by kernel_rfl) (by kernel_rfl)
theorem ref_CCheckE (p m : Int) (A : Option Addr) (c : Nat) (mod : List Int) (hl9 : mod.length ≤ 17592186044415) [hF : IsF p m mod] (w : Int) (Aa : Option Addr) (n ca : Nat) (rs : List RowM) (hn : n = rs.length) (h9 : rs.length ≤ 17592186044415) (h8 : ∀ r ∈ rs, r.xs.length ≤ 17592186044415) (hb : ¬ (w < 1 ∨ w > 64)) (hE : rowsC (pw p m) w (xss rs) ≠ 0) :
    Pure Tryz.prog 21 #[.agg #[.int .i64 p, .int .i64 m, .slice A mod.length c, .int .i64 w, .slice Aa n ca]] [ro A (ints mod), ro Aa (hdrs rs), rowsR rs] (isV (.int .i64 (rowsC (pw p m) w (xss rs)))) := by
  have hch := chkF_ok hF.out
  refine pure_of (args := [.agg #[.int .i64 p, .int .i64 m, .slice A mod.length c, .int .i64 w, .slice Aa n ca]]) 26 Tryz.func21 rfl rfl rfl ref_CCheckE_ent ⟨id, id, id, trivial⟩ (fun w0 => ?_)
  refine tr_seq ?_
  refine tr_region fun _ _ _ => ?_
  refine ef rfl rfl (eBox rfl rfl rfl rfl rfl (fun p0 => ?_)) 
  refine pu rfl rfl rfl rfl rfl ?_
  refine tr_seq ?_
  refine tr_region fun _ _ _ => ?_
  refine st rfl rfl rfl rfl (rFld rfl rfl) ?_
  refine st rfl rfl rfl rfl (rLdSF rfl rfl) ?_
  refine ef rfl rfl (eCallV rfl rfl rfl (ref_fldCheck _ _ _ _ _ hl9) ⟨rfl, trivial⟩ ?_) 
  refine pu rfl rfl rfl rfl rfl ?_
  refine tr_seq ?_
  refine tr_seq ?_
  refine tr_region fun _ _ _ => ?_
  iterate 2 refine pu rfl rfl rfl rfl rfl ?_
  refine tr_cond_bool rfl (fun h2 => ?_) (fun h2 => ?_)
  · try simp only [zbA] at h2
    omega --done
  · try simp only [zbA] at h2
    refine tr_skip ?_
    refine tr_seq ?_
    refine tr_seq ?_
    refine tr_region fun _ _ _ => ?_
    refine st rfl rfl rfl rfl (rFld rfl rfl) ?_
    refine st rfl rfl rfl rfl (rLdF rfl rfl rfl) ?_
    iterate 2 refine pu rfl rfl rfl rfl rfl ?_
    refine stg rfl rfl rfl rfl rfl (fun hb => by (have hq := hb; try simp only [zbA] at hq); exact rFld rfl rfl) ?_
    refine stg rfl rfl rfl rfl rfl (fun hb => by (have hq := hb; try simp only [zbA] at hq); exact rLdF rfl (evg rfl hb) rfl) ?_
    refine stg rfl rfl rfl rfl rfl (fun hb => by (have hq := hb; try simp only [zbA] at hq); exact rGtr rfl (evg rfl hb) rfl) ?_
    refine st rfl rfl rfl rfl (rOrB rfl rfl rfl rfl) ?_
    refine tr_cond_bool rfl (fun h4 => ?_) (fun h4 => ?_)
    · try simp only [zbA] at h4
      omega --done
    · try simp only [zbA] at h4
      refine tr_skip ?_
      refine tr_seq ?_
      refine tr_region fun _ _ _ => ?_
      refine st rfl rfl rfl rfl (rFld rfl rfl) ?_
      refine st rfl rfl rfl rfl (rLdSF rfl rfl) ?_
      refine st rfl rfl rfl rfl (rFld rfl rfl) ?_
      refine st rfl rfl rfl rfl (rLdF rfl rfl rfl) ?_
      refine st rfl rfl rfl rfl (rFld rfl rfl) ?_
      refine st rfl rfl rfl rfl (rLdF rfl rfl rfl) ?_
      refine st rfl rfl rfl rfl (rBuild rfl rfl) ?_
      refine ef rfl rfl (eCallV rfl rfl rfl (ref_SCheckE _ _ _ _ _ hl9 w Aa _ ca rs hn h9 h8 hE) ⟨rfl, rfl, trivial⟩ ?_) 
      refine pu rfl rfl rfl rfl rfl ?_
      exact tr_ret ⟨trivial, _, _, rfl, ⟨rfl, rfl⟩, CSub.nil _, trivial⟩
theorem ref_CCheckF_ent : Enters Tryz.prog 21 := enters_of Tryz.func21 (by kernel_rfl) (by kernel_rfl)
theorem ref_CCheckF (p m : Int) (A : Option Addr) (c : Nat) (mod : List Int) (hl9 : mod.length ≤ 17592186044415) [hF : IsF p m mod] (w : Int) (Aa : Option Addr) (n ca : Nat) (rs : List RowM) (hn : n = rs.length) (h9 : rs.length ≤ 17592186044415) (h8 : ∀ r ∈ rs, r.xs.length ≤ 17592186044415) (hb : ¬ (w < 1 ∨ w > 64)) (hE : rowsC (pw p m) w (xss rs) = 0) (hf : ¬ formP p m mod w.toNat rs) :
    Pure Tryz.prog 21 #[.agg #[.int .i64 p, .int .i64 m, .slice A mod.length c, .int .i64 w, .slice Aa n ca]] [ro A (ints mod), ro Aa (hdrs rs), rowsR rs] (isV (.int .i64 5)) := by
  have hch := chkF_ok hF.out
  refine pure_of (args := [.agg #[.int .i64 p, .int .i64 m, .slice A mod.length c, .int .i64 w, .slice Aa n ca]]) 26 Tryz.func21 rfl rfl rfl ref_CCheckF_ent ⟨id, id, id, trivial⟩ (fun w0 => ?_)
  refine tr_seq ?_
  refine tr_region fun _ _ _ => ?_
  refine ef rfl rfl (eBox rfl rfl rfl rfl rfl (fun p0 => ?_)) 
  refine pu rfl rfl rfl rfl rfl ?_
  refine tr_seq ?_
  refine tr_region fun _ _ _ => ?_
  refine st rfl rfl rfl rfl (rFld rfl rfl) ?_
  refine st rfl rfl rfl rfl (rLdSF rfl rfl) ?_
  refine ef rfl rfl (eCallV rfl rfl rfl (ref_fldCheck _ _ _ _ _ hl9) ⟨rfl, trivial⟩ ?_) 
  refine pu rfl rfl rfl rfl rfl ?_
  refine tr_seq ?_
  refine tr_seq ?_
  refine tr_region fun _ _ _ => ?_
  iterate 2 refine pu rfl rfl rfl rfl rfl ?_
  refine tr_cond_bool rfl (fun h2 => ?_) (fun h2 => ?_)
  · try simp only [zbA] at h2
    omega --done
  · try simp only [zbA] at h2
    refine tr_skip ?_
    refine tr_seq ?_
    refine tr_seq ?_
    refine tr_region fun _ _ _ => ?_
    refine st rfl rfl rfl rfl (rFld rfl rfl) ?_
    refine st rfl rfl rfl rfl (rLdF rfl rfl rfl) ?_
    iterate 2 refine pu rfl rfl rfl rfl rfl ?_
    refine stg rfl rfl rfl rfl rfl (fun hb => by (have hq := hb; try simp only [zbA] at hq); exact rFld rfl rfl) ?_
    refine stg rfl rfl rfl rfl rfl (fun hb => by (have hq := hb; try simp only [zbA] at hq); exact rLdF rfl (evg rfl hb) rfl) ?_
    refine stg rfl rfl rfl rfl rfl (fun hb => by (have hq := hb; try simp only [zbA] at hq); exact rGtr rfl (evg rfl hb) rfl) ?_
    refine st rfl rfl rfl rfl (rOrB rfl rfl rfl rfl) ?_
    refine tr_cond_bool rfl (fun h4 => ?_) (fun h4 => ?_)
    · try simp only [zbA] at h4
      omega --done
    · try simp only [zbA] at h4
      refine tr_skip ?_
      refine tr_seq ?_
      refine tr_region fun _ _ _ => ?_
      refine st rfl rfl rfl rfl (rFld rfl rfl) ?_
      refine st rfl rfl rfl rfl (rLdSF rfl rfl) ?_
      refine st rfl rfl rfl rfl (rFld rfl rfl) ?_
      refine st rfl rfl rfl rfl (rLdF rfl rfl rfl) ?_
      refine st rfl rfl rfl rfl (rFld rfl rfl) ?_
      refine st rfl rfl rfl rfl (rLdF rfl rfl rfl) ?_
      refine st rfl rfl rfl rfl (rBuild rfl rfl) ?_
      refine ef rfl rfl (eCallV rfl rfl rfl (ref_SCheckF _ _ _ _ _ hl9 w Aa _ ca rs hn h9 h8 hE hf) ⟨rfl, rfl, trivial⟩ ?_) 
      refine pu rfl rfl rfl rfl rfl ?_
      exact tr_ret ⟨trivial, _, _, rfl, ⟨rfl, rfl⟩, CSub.nil _, trivial⟩
theorem ref_CCheckG_ent : Enters Tryz.prog 21 := enters_of Tryz.func21 (by kernel_rfl) (by kernel_rfl)
theorem ref_CCheckG (p m : Int) (A : Option Addr) (c : Nat) (mod : List Int) (hl9 : mod.length ≤ 17592186044415) [hF : IsF p m mod] (w : Int) (Aa : Option Addr) (n ca : Nat) (rs : List RowM) (hn : n = rs.length) (h9 : rs.length ≤ 17592186044415) (h8 : ∀ r ∈ rs, r.xs.length ≤ 17592186044415) (hb : ¬ (w < 1 ∨ w > 64)) (hE : rowsC (pw p m) w (xss rs) = 0) (hf : formP p m mod w.toNat rs) :
    Pure Tryz.prog 21 #[.agg #[.int .i64 p, .int .i64 m, .slice A mod.length c, .int .i64 w, .slice Aa n ca]] [ro A (ints mod), ro Aa (hdrs rs), rowsR rs] (isV (.int .i64 0)) := by
  have hch := chkF_ok hF.out
  refine pure_of (args := [.agg #[.int .i64 p, .int .i64 m, .slice A mod.length c, .int .i64 w, .slice Aa n ca]]) 26 Tryz.func21 rfl rfl rfl ref_CCheckG_ent ⟨id, id, id, trivial⟩ (fun w0 => ?_)
  refine tr_seq ?_
  refine tr_region fun _ _ _ => ?_
  refine ef rfl rfl (eBox rfl rfl rfl rfl rfl (fun p0 => ?_)) 
  refine pu rfl rfl rfl rfl rfl ?_
  refine tr_seq ?_
  refine tr_region fun _ _ _ => ?_
  refine st rfl rfl rfl rfl (rFld rfl rfl) ?_
  refine st rfl rfl rfl rfl (rLdSF rfl rfl) ?_
  refine ef rfl rfl (eCallV rfl rfl rfl (ref_fldCheck _ _ _ _ _ hl9) ⟨rfl, trivial⟩ ?_) 
  refine pu rfl rfl rfl rfl rfl ?_
  refine tr_seq ?_
  refine tr_seq ?_
  refine tr_region fun _ _ _ => ?_
  iterate 2 refine pu rfl rfl rfl rfl rfl ?_
  refine tr_cond_bool rfl (fun h2 => ?_) (fun h2 => ?_)
  · try simp only [zbA] at h2
    omega --done
  · try simp only [zbA] at h2
    refine tr_skip ?_
    refine tr_seq ?_
    refine tr_seq ?_
    refine tr_region fun _ _ _ => ?_
    refine st rfl rfl rfl rfl (rFld rfl rfl) ?_
    refine st rfl rfl rfl rfl (rLdF rfl rfl rfl) ?_
    iterate 2 refine pu rfl rfl rfl rfl rfl ?_
    refine stg rfl rfl rfl rfl rfl (fun hb => by (have hq := hb; try simp only [zbA] at hq); exact rFld rfl rfl) ?_
    refine stg rfl rfl rfl rfl rfl (fun hb => by (have hq := hb; try simp only [zbA] at hq); exact rLdF rfl (evg rfl hb) rfl) ?_
    refine stg rfl rfl rfl rfl rfl (fun hb => by (have hq := hb; try simp only [zbA] at hq); exact rGtr rfl (evg rfl hb) rfl) ?_
    refine st rfl rfl rfl rfl (rOrB rfl rfl rfl rfl) ?_
    refine tr_cond_bool rfl (fun h4 => ?_) (fun h4 => ?_)
    · try simp only [zbA] at h4
      omega --done
    · try simp only [zbA] at h4
      refine tr_skip ?_
      refine tr_seq ?_
      refine tr_region fun _ _ _ => ?_
      refine st rfl rfl rfl rfl (rFld rfl rfl) ?_
      refine st rfl rfl rfl rfl (rLdSF rfl rfl) ?_
      refine st rfl rfl rfl rfl (rFld rfl rfl) ?_
      refine st rfl rfl rfl rfl (rLdF rfl rfl rfl) ?_
      refine st rfl rfl rfl rfl (rFld rfl rfl) ?_
      refine st rfl rfl rfl rfl (rLdF rfl rfl rfl) ?_
      refine st rfl rfl rfl rfl (rBuild rfl rfl) ?_
      refine ef rfl rfl (eCallV rfl rfl rfl (ref_SCheckG _ _ _ _ _ hl9 w Aa _ ca rs hn h9 h8 hE hf) ⟨rfl, rfl, trivial⟩ ?_) 
      refine pu rfl rfl rfl rfl rfl ?_
      exact tr_ret ⟨trivial, _, _, rfl, ⟨rfl, rfl⟩, CSub.nil _, trivial⟩
theorem ref_CCheck (p m : Int) (A : Option Addr) (c : Nat) (mod : List Int) (hl9 : mod.length ≤ 17592186044415) (w : Int) (Aa : Option Addr) (n ca : Nat) (rs : List RowM) (hn : n = rs.length) (h9 : rs.length ≤ 17592186044415) (h8 : ∀ r ∈ rs, r.xs.length ≤ 17592186044415) : Pure Tryz.prog 21 #[.agg #[.int .i64 p, .int .i64 m, .slice A mod.length c, .int .i64 w, .slice Aa n ca]] [ro A (ints mod), ro Aa (hdrs rs), rowsR rs] (isV (.int .i64 (codC p m mod w rs))) := by
  by_cases hF : FldR p m mod
  · haveI : IsF p m mod := ⟨hF⟩
    by_cases hb : w < 1 ∨ w > 64
    · rw [codC_ln hb]; exact ref_CCheckL p m A c mod hl9 w Aa n ca rs hn h9 h8 hb
    · by_cases hE : rowsC (pw p m) w (xss rs) = 0
      · by_cases hf : formP p m mod w.toNat rs
        · rw [codC_ok hb hE hf]; exact ref_CCheckG p m A c mod hl9 w Aa n ca rs hn h9 h8 hb hE hf
        · rw [codC_fm hb hE hf]; exact ref_CCheckF p m A c mod hl9 w Aa n ca rs hn h9 h8 hb hE hf
      · rw [codC_rw hb hE]; exact ref_CCheckE p m A c mod hl9 w Aa n ca rs hn h9 h8 hb hE
  · rw [codC_no w rs hF]; exact ref_CCheckNo p m A c mod hl9 hF w Aa n ca rs hn h9 h8
end Go.Proofs.YtjmojhflnjbgaaaGreat

set_option linter.unusedSimpArgs false
set_option linter.unusedVariables false
set_option maxRecDepth 100000
namespace Go.Proofs.YtjmojhflnjbgaaaGreat
open Go.RowKit
theorem memB_dec {p m : Int} {mod : List Int} [hF : IsF p m mod] {n : Nat} {rs : List RowM} {qs : List Nat} (h : Vc.Rr n (vsR rs : List (Vc (El p m mod))) qs) {l o : List Int} (ho : AllIn (pw p m) o) (e : (rw' o : Vc (El p m mod)) = rw' l - Vc.cmb (fun i => rw' l (qs.getD i 0)) (vsR rs)) :
    decide (∀ z ∈ o, z = 0) = memB p m mod rs l := by
  have := memB_eq h ho e
  cases hb : memB p m mod rs l with
  | true => exact decide_eq_true (this.1 hb)
  | false => exact decide_eq_false fun hh => by rw [this.2 hh] at hb; cases hb
theorem ref_Zero_ent : Enters Tryz.prog 149 := enters_of Tryz.func149 (by kernel_rfl) (by kernel_rfl)
theorem ref_Zero (X : Option Addr) (nx cx : Nat) (o : List Int) (hnx : nx = o.length) (h9 : o.length ≤ 1000000000000) :
    Pure Tryz.prog 149 #[.slice X nx cx] [ro X (ints o)] (isV (.bool (decide (∀ z ∈ o, z = 0)))) := by
  refine pure_of (args := [.slice X nx cx]) 15 Tryz.func149 rfl rfl rfl ref_Zero_ent ⟨id, trivial⟩ (fun w0 => ?_)
  refine tr_seq ?_
  refine tr_region fun _ _ _ => ?_
  refine pu rfl rfl rfl rfl rfl ?_
  refine tr_seq ?_
  refine tr_seq ?_
  refine tr_region fun _ _ _ => ?_
  refine pu rfl rfl rfl rfl rfl ?_
  refine tr_block ?_
  refine tr_loop1 (fun (k : Int) => [(3, .int .i64 k), (0, .slice X nx cx)]) (fun (k : Int) => [ro X (ints o)]) (fun (k : Int) => (0 ≤ k ∧ k ≤ nx) ∧ ∀ j : Nat, (j : Int) < k → o.getD j 0 = 0) (fun (k : Int) => (nx - k).toNat) (0) ⟨rfl, rfl, trivial⟩ (by first | exact cs _ _ | exact CSub.refl _) (⟨⟨by omega, by omega⟩, fun j hj => by omega⟩) (fun k hI => ?_)
  obtain ⟨⟨hk0, hk1⟩, hall⟩ := hI
  refine tr_seq ?_
  refine tr_seq ?_
  refine tr_region fun _ _ _ => ?_
  iterate 2 refine pu rfl rfl rfl rfl rfl ?_
  refine st rfl rfl rfl rfl (rLen rfl rfl) ?_
  refine pu rfl rfl rfl rfl rfl ?_
  refine tr_cond_bool rfl (fun h2 => ?_) (fun h2 => ?_)
  · try simp only [zbA] at h2
    refine tr_skip ?_
    refine tr_seq ?_
    refine tr_block ?_
    refine tr_seq ?_
    refine tr_region fun _ _ _ => ?_
    iterate 2 refine pu rfl rfl rfl rfl rfl ?_
    refine st rfl rfl rfl rfl (rIdxI rfl rfl rfl (by omega) (by omega) (by omega)) ?_
    refine st rfl rfl rfl rfl (rLdI rfl rfl (by omega)) ?_
    refine pu rfl rfl rfl rfl rfl ?_
    refine tr_cond_bool rfl (fun h4 => ?_) (fun h4 => ?_)
    · try simp only [zbA] at h4
      refine tr_seq ?_
      refine tr_region fun _ _ _ => ?_
      refine pu rfl rfl rfl rfl rfl ?_
      have hno : ¬ ∀ z ∈ o, z = 0 := fun h => absurd (h _ (getD_mem (show k.toNat < o.length by omega) 0)) (by omega)
      exact tr_ret ⟨trivial, _, _, rfl, ⟨by rw [decide_eq_false hno], rfl⟩, CSub.nil _, trivial⟩
    · try simp only [zbA] at h4
      refine tr_skip ?_
      refine tr_region fun _ _ _ => ?_
      refine pu rfl rfl rfl rfl rfl ?_
      refine st rfl rfl rfl rfl (rAdd rfl rfl rfl (by omega) (by omega)) ?_
      refine pu rfl rfl rfl rfl rfl ?_
      refine ⟨k + 1, ⟨rfl, rfl, trivial⟩, by first | exact cs _ _ | exact CSub.refl _, ?_⟩
      refine ⟨⟨⟨by omega, by omega⟩, fun j hj => ?_⟩, by omega⟩
      by_cases he : (j : Int) = k
      · have : j = k.toNat := by omega
        subst this; omega
      · exact hall j (by omega)
  · try simp only [zbA] at h2
    refine tr_exit ?_
    refine tr_seq ?_
    refine tr_region fun _ _ _ => ?_
    refine pu rfl rfl rfl rfl rfl ?_
    have hyes : ∀ z ∈ o, z = 0 := fun z hz => by
      obtain ⟨j, hj, rfl⟩ := List.getElem_of_mem hz
      have := hall j (by omega)
      rw [List.getD_eq_getElem?_getD, List.getElem?_eq_getElem hj] at this
      exact this
    exact tr_ret ⟨trivial, _, _, rfl, ⟨by rw [decide_eq_true hyes], rfl⟩, CSub.nil _, trivial⟩
theorem ref_Pivots_ent : Enters Tryz.prog 199 := enters_of Tryz.func199 (by kernel_rfl) (by kernel_rfl)
theorem ref_Pivots (p m : Int) (mod : List Int) [hF : IsF p m mod] (w : Int) (Aa : Option Addr) (n ca : Nat) (rs : List RowM) (hn : n = rs.length) (h9 : rs.length ≤ 256) (hw9 : w ≤ 1000000) (hgd : Gd (pw p m) w.toNat rs) (qs : List Nat) (hq : Vc.Rr w.toNat (vsR rs : List (Vc (El p m mod))) qs) :
    Pure Tryz.prog 199 #[.slice Aa n ca] [ro Aa (hdrs rs), rowsR rs] (one (fun v ch => ∃ B cb, v = .slice B (qs.map Int.ofNat).length cb ∧ ch = ow B 3 cb (ints (qs.map Int.ofNat)))) := by
  have hql := hq.len
  rw [vsR_length] at hql
  have hq2 := hF.q2
  refine pure_of (args := [.slice Aa n ca]) 36 Tryz.func199 rfl rfl rfl ref_Pivots_ent ⟨id, id, trivial⟩ (fun w0 => ?_)
  refine tr_seq ?_
  refine tr_region fun _ _ _ => ?_
  refine pu rfl rfl rfl rfl rfl ?_
  refine tr_seq ?_
  refine tr_region fun _ _ _ => ?_
  refine pu rfl rfl rfl rfl rfl ?_
  refine tr_seq ?_
  refine tr_seq ?_
  refine tr_region fun _ _ _ => ?_
  refine pu rfl rfl rfl rfl rfl ?_
  refine tr_block ?_
  refine tr_nilI 3 ?_
  refine tr_loop4 (fun (k : Int) (D : Option Addr) (cd : Nat) (tk : List Int) => [(3, .slice D tk.length cd), (4, .int .i64 k), (0, .slice Aa n ca), (2, .slice none 0 0)]) (fun (k : Int) (D : Option Addr) (cd : Nat) (tk : List Int) => [ow D 3 cd (ints tk), ro Aa (hdrs rs), rowsR rs]) (fun (k : Int) (D : Option Addr) (cd : Nat) (tk : List Int) => (0 ≤ k ∧ k ≤ n) ∧ tk = (qs.take k.toNat).map Int.ofNat) (fun (k : Int) (D : Option Addr) (cd : Nat) (tk : List Int) => (n - k).toNat) (0) (none) (0) ([]) ⟨rfl, rfl, rfl, rfl, trivial⟩ (by first | exact cs _ _ | exact CSub.refl _) (⟨⟨by omega, by omega⟩, rfl⟩) (fun k D cd tk hI => ?_)
  obtain ⟨⟨hk0, hk1⟩, htk⟩ := hI
  have htl : tk.length ≤ 256 := by rw [htk, List.length_map, List.length_take]; omega
  refine tr_seq ?_
  refine tr_seq ?_
  refine tr_region fun _ _ _ => ?_
  iterate 2 refine pu rfl rfl rfl rfl rfl ?_
  refine st rfl rfl rfl rfl (rLen rfl rfl) ?_
  refine pu rfl rfl rfl rfl rfl ?_
  refine tr_cond_bool rfl (fun h3 => ?_) (fun h3 => ?_)
  · try simp only [zbA] at h3
    refine tr_skip ?_
    refine tr_seq ?_
    refine tr_block ?_
    refine tr_seq ?_
    haveI : InB k.toNat rs.length := ⟨by omega⟩
    have hgk := hgd.get (show k.toNat < rs.length by omega)
    have hgk1 := hgk.1
    have hqk := hq.lt k.toNat (by omega)
    have hone := hq.one k.toNat (by omega)
    rw [vsR_at] at hone
    have hlow : ∀ j : Nat, j < qs.getD k.toNat 0 → (rs.getD k.toNat rowD).xs.getD j 0 = 0 := fun j hj => by
      have := hq.low k.toNat j (by omega) hj
      rw [vsR_at, el_eq_zero (hgk.2.get (by omega) j)] at this
      exact this
    have hnz : (rs.getD k.toNat rowD).xs.getD (qs.getD k.toNat 0) 0 ≠ 0 := fun h => by
      rw [h, el_zero] at hone
      exact Fd.one_ne hone.symm
    refine tr_region fun _ _ _ => ?_
    refine pu rfl rfl rfl rfl rfl ?_
    refine tr_seq ?_
    refine tr_block ?_
    refine tr_loop1 (fun (c : Int) => [(5, .int .i64 c), (3, .slice D tk.length cd), (0, .slice Aa n ca), (2, .slice none 0 0), (4, .int .i64 k), (6, .int .i64 k), (7, .slice Aa n ca), (8, .int .i64 n)]) (fun (c : Int) => [ow D 3 cd (ints tk), ro Aa (hdrs rs), rowsR rs]) (fun (c : Int) => 0 ≤ c ∧ c ≤ (qs.getD k.toNat 0 : Int)) (fun (c : Int) => ((qs.getD k.toNat 0 : Int) - c).toNat) (0) ⟨rfl, rfl, rfl, rfl, rfl, rfl, rfl, rfl, trivial⟩ (by first | exact cs _ _ | exact CSub.refl _) (by omega) (fun c hI => ?_)
    obtain ⟨hc0, hc1⟩ := hI
    refine tr_seq ?_
    refine tr_seq ?_
    refine tr_region fun _ _ _ => ?_
    iterate 3 refine pu rfl rfl rfl rfl rfl ?_
    refine st rfl rfl rfl rfl (rIdxR rfl rfl rfl (by omega) (by omega) (by omega)) ?_
    refine st rfl rfl rfl rfl (rLdR rfl rfl (by omega)) ?_
    refine st rfl rfl rfl rfl (rLen rfl rfl) ?_
    iterate 2 refine pu rfl rfl rfl rfl rfl ?_
    refine stg rfl rfl rfl rfl rfl (fun hb => by (have hq := hb; try simp only [zbA] at hq); exact rMove rfl rfl) ?_
    refine stg rfl rfl rfl rfl rfl (fun hb => by (have hq := hb; try simp only [zbA] at hq); exact rMove rfl rfl) ?_
    refine stg rfl rfl rfl rfl rfl (fun hb => by (have hq := hb; try simp only [zbA] at hq); exact rIdxR rfl (evg rfl hb) (evg rfl hb) (by omega) (by omega) (by omega)) ?_
    refine stg rfl rfl rfl rfl rfl (fun hb => by (have hq := hb; try simp only [zbA] at hq); exact rLdR rfl (evg rfl hb) (by omega)) ?_
    refine stg rfl rfl rfl rfl rfl (fun hb => by (have hq := hb; try simp only [zbA] at hq); exact rMove rfl rfl) ?_
    refine stg rfl rfl rfl rfl rfl (fun hb => by (have hq := hb; try simp only [zbA] at hq); exact rIdxI rfl (evg rfl hb) (evg rfl hb) (by omega) (by omega) (by omega)) ?_
    refine stg rfl rfl rfl rfl rfl (fun hb => by (have hq := hb; try simp only [zbA] at hq); exact rLdI rfl (evg rfl hb) (by omega)) ?_
    refine stg rfl rfl rfl rfl rfl (fun hb => by (have hq := hb; try simp only [zbA] at hq); exact rEql rfl (evg rfl hb) rfl) ?_
    refine st rfl rfl rfl rfl (rAndB rfl rfl rfl rfl) ?_
    refine tr_cond_bool rfl (fun h6 => ?_) (fun h6 => ?_)
    · try simp only [zbA] at h6
      refine tr_skip ?_
      refine tr_block ?_
      refine tr_region fun _ _ _ => ?_
      refine pu rfl rfl rfl rfl rfl ?_
      refine st rfl rfl rfl rfl (rAdd rfl rfl rfl (by omega) (by omega)) ?_
      refine pu rfl rfl rfl rfl rfl ?_
      refine ⟨c + 1, ⟨rfl, rfl, rfl, rfl, rfl, rfl, rfl, rfl, trivial⟩, by first | exact cs _ _ | exact CSub.refl _, ?_⟩
      have hne : c ≠ (qs.getD k.toNat 0 : Int) := fun e => by
        have : c.toNat = qs.getD k.toNat 0 := by omega
        rw [← this] at hnz
        omega
      refine ⟨⟨by omega, by omega⟩, by omega⟩
    · try simp only [zbA] at h6
      refine tr_exit ?_
      refine tr_region fun _ _ _ => ?_
      iterate 2 refine pu rfl rfl rfl rfl rfl ?_
      refine ef rfl rfl (eLit1I rfl rfl rfl rfl (fun A8 => ?_)) 
      refine ef rfl rfl (eAppI rfl rfl rfl rfl rfl (by first | rfl | simp | omega) (by first | rfl | simp | omega) (by first | omega | (simp; omega)) (fun A8a c8a => ?_)) 
      refine pu rfl rfl rfl rfl rfl ?_
      refine tr_region fun _ _ _ => ?_
      refine pu rfl rfl rfl rfl rfl ?_
      refine st rfl rfl rfl rfl (rAdd rfl rfl rfl (by omega) (by omega)) ?_
      refine pu rfl rfl rfl rfl rfl ?_
      refine ⟨k + 1, A8a, c8a, tk ++ [c], ⟨rfl, rfl, rfl, rfl, trivial⟩, by first | exact cs _ _ | exact CSub.refl _, ?_⟩
      refine ⟨⟨⟨by omega, by omega⟩, ?_⟩, by omega⟩
      rw [htk, show (k + 1).toNat = k.toNat + 1 by omega, take_map_succ _ _ (show k.toNat < qs.length by omega)]
      have : c = Int.ofNat (qs.getD k.toNat 0) := by
        have hc2 : ¬ c < (qs.getD k.toNat 0 : Int) := fun hlt => by
          have h1 := hlow c.toNat (by omega)
          omega
        show c = (qs.getD k.toNat 0 : Int)
        omega
      rw [this]
  · try simp only [zbA] at h3
    refine tr_exit ?_
    refine tr_seq ?_
    refine tr_region fun _ _ _ => ?_
    iterate 2 refine pu rfl rfl rfl rfl rfl ?_
    have hkn : k.toNat = qs.length := by omega
    rw [hkn, List.take_length] at htk
    subst htk
    exact tr_ret ⟨trivial, _, _, rfl, ⟨_, rfl, D, cd, rfl, rfl⟩, cs _ _, trivial, trivial⟩
theorem ref_Rest_ent : Enters Tryz.prog 150 := enters_of Tryz.func150 (by kernel_rfl) (by kernel_rfl)
theorem ref_Rest (p m : Int) (A : Option Addr) (c : Nat) (mod : List Int) [hF : IsF p m mod] (w : Int) (Aa : Option Addr) (n ca : Nat) (rs : List RowM) (hn : n = rs.length) (h9 : rs.length ≤ 256) (hw9 : w ≤ 1000000) (hgd : Gd (pw p m) w.toNat rs) (qs : List Nat) (hq : Vc.Rr w.toNat (vsR rs : List (Vc (El p m mod))) qs) (X : Option Addr) (nx cx : Nat) (l : List Int) (hnx : nx = l.length) (hlw : (l.length : Int) = w) (hin : AllIn (pw p m) l) :
    Pure Tryz.prog 150 #[.agg #[.int .i64 p, .int .i64 m, .slice A mod.length c], .slice Aa n ca, .slice X nx cx] [ro A (ints mod), ro Aa (hdrs rs), rowsR rs, ro X (ints l)] (one (fun v c1 => ∃ B cb o, v = .slice B o.length cb ∧ c1 = ow B 3 cb (ints o) ∧ o.length = l.length ∧ AllIn (pw p m) o ∧ (rw' o : Vc (El p m mod)) = rw' l - Vc.cmb (fun i => rw' l (qs.getD i 0)) (vsR rs))) := by
  have hql := hq.len
  rw [vsR_length] at hql
  have hq2 := hF.q2
  refine pure_of (args := [.agg #[.int .i64 p, .int .i64 m, .slice A mod.length c], .slice Aa n ca, .slice X nx cx]) 38 Tryz.func150 rfl rfl rfl ref_Rest_ent ⟨id, id, id, id, trivial⟩ (fun w0 => ?_)
  refine tr_seq ?_
  refine tr_region fun _ _ _ => ?_
  refine ef rfl rfl (eBox rfl rfl rfl rfl rfl (fun p0 => ?_)) 
  refine pu rfl rfl rfl rfl rfl ?_
  refine tr_seq ?_
  refine tr_region fun _ _ _ => ?_
  refine pu rfl rfl rfl rfl rfl ?_
  refine ef rfl rfl (eCall1 rfl rfl rfl (ref_Pivots p m mod w Aa n ca rs hn h9 hw9 hgd qs hq) ⟨rfl, trivial⟩ ?_) 
  rintro _ _ ⟨Bp, cp, rfl, rfl⟩
  refine pu rfl rfl rfl rfl rfl ?_
  refine tr_seq ?_
  refine tr_region fun _ _ _ => ?_
  refine ef rfl rfl (eLit0I rfl rfl rfl  (fun A2 => ?_)) 
  refine pu rfl rfl rfl rfl rfl ?_
  refine ef rfl rfl (eAppI rfl rfl rfl rfl rfl (by first | rfl | simp | omega) (by first | rfl | simp | omega) (by first | omega | (simp; omega)) (fun A2a c2a => ?_)) 
  refine pu rfl rfl rfl rfl rfl ?_
  simp only [List.nil_append]
  refine tr_seq ?_
  refine tr_seq ?_
  refine tr_region fun _ _ _ => ?_
  refine pu rfl rfl rfl rfl rfl ?_
  refine tr_block ?_
  refine tr_loop5 (fun (k : Int) (B : Option Addr) (cb : Nat) (no : Nat) (o : List Int) => [(7, .slice Bp (qs.map Int.ofNat).length cp), (8, .slice B no cb), (9, .int .i64 k), (1, .slice Aa n ca), (2, .slice X nx cx), (3, .pointer (some p0)), (6, .slice none 0 0)]) (fun (k : Int) (B : Option Addr) (cb : Nat) (no : Nat) (o : List Int) => [ow B 3 cb (ints o), ow Bp 3 cp (ints (qs.map Int.ofNat)), blk p0 24 [.int .i64 p, .int .i64 m, .slice A mod.length c], ro A (ints mod), ro Aa (hdrs rs), rowsR rs, ro X (ints l)]) (fun (k : Int) (B : Option Addr) (cb : Nat) (no : Nat) (o : List Int) => (0 ≤ k ∧ k ≤ n) ∧ no = o.length ∧ (o.length = l.length ∧ AllIn (pw p m) o) ∧ (rw' o : Vc (El p m mod)) = rw' l - Vc.cmb (Vc.upC (fun i => rw' l (qs.getD i 0)) k.toNat) (vsR rs)) (fun (k : Int) (B : Option Addr) (cb : Nat) (no : Nat) (o : List Int) => (n - k).toNat) (0) (A2a) (c2a) (l.length) (l) ⟨rfl, rfl, rfl, rfl, rfl, rfl, rfl, trivial⟩ (by first | exact cs _ _ | exact CSub.refl _) (⟨⟨by omega, by omega⟩, rfl, ⟨rfl, hin⟩, by rw [Int.toNat_zero, Vc.cmb_up_zero]; exact Vc.ext fun j => by rw [Vc.sub_at, Vc.zero_at]; grind⟩) (fun k B cb no o hI => ?_)
  obtain ⟨⟨hk0, hk1⟩, hno, ⟨hol, hoi⟩, hoe⟩ := hI
  refine tr_seq ?_
  refine tr_seq ?_
  refine tr_region fun _ _ _ => ?_
  iterate 2 refine pu rfl rfl rfl rfl rfl ?_
  refine st rfl rfl rfl rfl (rLen rfl rfl) ?_
  refine pu rfl rfl rfl rfl rfl ?_
  refine tr_cond_bool rfl (fun h4 => ?_) (fun h4 => ?_)
  · try simp only [zbA] at h4
    refine tr_skip ?_
    refine tr_seq ?_
    refine tr_block ?_
    haveI : InB k.toNat rs.length := ⟨by omega⟩
    have hgk := hgd.get (show k.toNat < rs.length by omega)
    have hgk1 := hgk.1
    have hqk := hq.lt k.toNat (by omega)
    have hpk : (qs.map Int.ofNat).getD k.toNat 0 = (qs.getD k.toNat 0 : Int) := ofNat_getD qs _
    have hpl : (qs.map Int.ofNat).length = qs.length := List.length_map _
    refine tr_draw [0, 1, 2, 3, 4, 5, 6, 7, 8, 9, 11, 12, 13, 14, 10, 15, 16] [] mixed (by kernel_rfl) fun _ _ _ => ?_
    refine st rfl rfl rfl rfl (rLdS rfl rfl rfl) ?_
    refine pu rfl rfl rfl rfl rfl ?_
    refine st rfl rfl rfl rfl (rLdS rfl rfl rfl) ?_
    iterate 3 refine pu rfl rfl rfl rfl rfl ?_
    refine st rfl rfl rfl rfl (rIdxI rfl rfl rfl (by omega) (by omega) (by omega)) ?_
    refine st rfl rfl rfl rfl (rLdI rfl rfl (by omega)) ?_
    refine st rfl rfl rfl rfl (rIdxI rfl rfl rfl (by omega) (by omega) (by omega)) ?_
    refine st rfl rfl rfl rfl (rLdI rfl rfl (by omega)) ?_
    iterate 2 refine pu rfl rfl rfl rfl rfl ?_
    refine st rfl rfl rfl rfl (rIdxR rfl rfl rfl (by omega) (by omega) (by omega)) ?_
    refine st rfl rfl rfl rfl (rLdR rfl rfl (by omega)) ?_
    refine ef rfl rfl (eCallV rfl rfl rfl (ref_NegE _ _ _ _ _ _) ⟨rfl, rfl, trivial⟩ ?_) 
    refine ef rfl rfl (eCall1 rfl rfl rfl (ref_AddTo _ _ _ _ _ B no cb o hno (by omega) _ _ _ _ (rs.getD k.toNat rowD).xs rfl (by omega) hoi) ⟨rfl, rfl, rfl, rfl, trivial⟩ ?_) 
    rintro _ _ ⟨B6, rfl, rfl⟩
    refine pu rfl rfl rfl rfl rfl ?_
    simp only [hpk, Int.toNat_natCast]
    refine tr_region fun _ _ _ => ?_
    refine pu rfl rfl rfl rfl rfl ?_
    refine st rfl rfl rfl rfl (rAdd rfl rfl rfl (by omega) (by omega)) ?_
    refine pu rfl rfl rfl rfl rfl ?_
    refine ⟨k + 1, B6, no, no, addR (el (-(el (l.getD (qs.getD k.toNat 0) 0)) : El p m mod).1 : El p m mod) o (rs.getD k.toNat rowD).xs, ⟨rfl, rfl, rfl, rfl, rfl, rfl, rfl, trivial⟩, by first | exact cs _ _ | exact CSub.refl _, ?_⟩
    refine ⟨⟨⟨by omega, by omega⟩, by simpa using hno, ⟨by simpa using hol, addR_in _ _ _⟩, ?_⟩, by omega⟩
    rw [show (k + 1).toNat = k.toNat + 1 by omega, Vc.cmb_up_succ _ (by rw [vsR_length]; omega), rw_addR _ _ _ (by omega), hoe, el_of]
    refine Vc.ext fun t => ?_
    rw [Vc.add_at, Vc.sub_at, Vc.sc_at, Vc.sub_at, Vc.add_at, Vc.sc_at, vsR_at, rw_at (l := (rs.getD k.toNat rowD).xs)]
    show _ = _ - (_ + el (l.getD (qs.getD k.toNat 0) 0) * _)
    grind
  · try simp only [zbA] at h4
    refine tr_exit ?_
    refine tr_seq ?_
    refine tr_region fun _ _ _ => ?_
    iterate 2 refine pu rfl rfl rfl rfl rfl ?_
    subst hno
    have hkn : k.toNat = qs.length := by omega
    rw [Vc.cmb_up_all _ (by rw [vsR_length]; omega)] at hoe
    exact tr_ret ⟨trivial, _, _, rfl, ⟨_, rfl, B, cb, o, rfl, rfl, hol, hoi, hoe⟩, cs _ _, trivial, trivial⟩
theorem ref_RIn_ent : Enters Tryz.prog 71 := enters_of Tryz.func71 (by kernel_rfl) (by kernel_rfl)
theorem ref_RIn (p m : Int) (A : Option Addr) (c : Nat) (mod : List Int) [hF : IsF p m mod] (w : Int) (Aa : Option Addr) (n ca : Nat) (rs : List RowM) (hn : n = rs.length) (h9 : rs.length ≤ 256) (hw9 : w ≤ 1000000) (hgd : Gd (pw p m) w.toNat rs) (qs : List Nat) (hq : Vc.Rr w.toNat (vsR rs : List (Vc (El p m mod))) qs) (X : Option Addr) (nx cx : Nat) (l : List Int) (hnx : nx = l.length) (hlw : (l.length : Int) = w) (hin : AllIn (pw p m) l) :
    Pure Tryz.prog 71 #[.agg #[.int .i64 p, .int .i64 m, .slice A mod.length c], .slice Aa n ca, .slice X nx cx] [ro A (ints mod), ro Aa (hdrs rs), rowsR rs, ro X (ints l)] (isV (.bool (memB p m mod rs l))) := by
  refine pure_of (args := [.agg #[.int .i64 p, .int .i64 m, .slice A mod.length c], .slice Aa n ca, .slice X nx cx]) 12 Tryz.func71 rfl rfl rfl ref_RIn_ent ⟨id, id, id, id, trivial⟩ (fun w0 => ?_)
  refine tr_seq ?_
  refine tr_region fun _ _ _ => ?_
  refine ef rfl rfl (eBox rfl rfl rfl rfl rfl (fun p0 => ?_)) 
  refine pu rfl rfl rfl rfl rfl ?_
  refine tr_seq ?_
  refine tr_region fun _ _ _ => ?_
  refine st rfl rfl rfl rfl (rLdS rfl rfl rfl) ?_
  iterate 2 refine pu rfl rfl rfl rfl rfl ?_
  refine ef rfl rfl (eCall1 rfl rfl rfl (ref_Rest _ _ _ _ _ w Aa n ca rs hn h9 hw9 hgd qs hq X nx cx l hnx hlw hin) ⟨rfl, rfl, rfl, trivial⟩ ?_) 
  rintro _ _ ⟨B, cb, o, rfl, rfl, hol, hoi, hoe⟩
  refine ef rfl rfl (eCallV rfl rfl rfl (ref_Zero _ _ _ _ (by first | rfl | omega | simp) (by omega)) ⟨rfl, trivial⟩ ?_) 
  refine pu rfl rfl rfl rfl rfl ?_
  exact tr_ret ⟨trivial, _, _, rfl, ⟨by rw [memB_dec hq hoi hoe], rfl⟩, CSub.nil _, trivial⟩
theorem ref_RIn' (p m : Int) (A : Option Addr) (c : Nat) (mod : List Int) [hF : IsF p m mod] (w : Int) (Aa : Option Addr) (n ca : Nat) (rs : List RowM) (hn : n = rs.length) (h9 : rs.length ≤ 256) (hc : CodeOk p m mod w rs) (X : Option Addr) (nx cx : Nat) (l : List Int) (hnx : nx = l.length) (hlw : (l.length : Int) = w) (hin : AllIn (pw p m) l) : Pure Tryz.prog 71 #[.agg #[.int .i64 p, .int .i64 m, .slice A mod.length c], .slice Aa n ca, .slice X nx cx] [ro A (ints mod), ro Aa (hdrs rs), rowsR rs, ro X (ints l)] (isV (.bool (memB p m mod rs l))) := by
  obtain ⟨qs, hq⟩ := hc.form
  exact ref_RIn p m A c mod w Aa n ca rs hn h9 (by have := hc.n64; omega) hc.good qs hq X nx cx l hnx hlw hin
theorem ref_CList_ent : Enters Tryz.prog 118 := enters_of Tryz.func118 (by kernel_rfl) (by kernel_rfl)
theorem ref_CList (p m : Int) (A : Option Addr) (c : Nat) (mod : List Int) [hF : IsF p m mod] (w : Int) (hw9 : w ≤ 1000000) (X : Option Addr) (nx cx : Nat) (l : List Int) (hnx : nx = l.length) (hlw : (l.length : Int) = w) (hin : AllIn (pw p m) l) :
    Pure Tryz.prog 118 #[.agg #[.int .i64 p, .int .i64 m, .slice A mod.length c], .slice X nx cx, .int .i64 w] [ro A (ints mod), ro X (ints l)] (isV (.int .i64 0)) := by
  have hEn : entC (ordI p m) l = 0 := entC_ok (by rw [hF.ord]; exact hin)
  refine pure_of (args := [.agg #[.int .i64 p, .int .i64 m, .slice A mod.length c], .slice X nx cx, .int .i64 w]) 14 Tryz.func118 rfl rfl rfl ref_CList_ent ⟨id, id, trivial⟩ (fun w0 => ?_)
  refine tr_seq ?_
  refine tr_region fun _ _ _ => ?_
  refine ef rfl rfl (eBox rfl rfl rfl rfl rfl (fun p0 => ?_)) 
  refine pu rfl rfl rfl rfl rfl ?_
  refine tr_seq ?_
  refine tr_seq ?_
  refine tr_region fun _ _ _ => ?_
  refine pu rfl rfl rfl rfl rfl ?_
  refine st rfl rfl rfl rfl (rLen rfl rfl) ?_
  iterate 2 refine pu rfl rfl rfl rfl rfl ?_
  refine tr_cond_bool rfl (fun h1 => ?_) (fun h1 => ?_)
  · try simp only [zbA] at h1
    omega --done
  · try simp only [zbA] at h1
    refine tr_skip ?_
    refine tr_seq ?_
    refine tr_region fun _ _ _ => ?_
    refine st rfl rfl rfl rfl (rLdS rfl rfl rfl) ?_
    refine pu rfl rfl rfl rfl rfl ?_
    refine ef rfl rfl (eCallV rfl rfl rfl (ref_Entries _ _ _ _ _ _ _ _ l hnx (by omega)) ⟨rfl, rfl, trivial⟩ ?_) 
    refine pu rfl rfl rfl rfl rfl ?_
    exact tr_ret ⟨trivial, _, _, rfl, ⟨by rw [hEn], rfl⟩, CSub.nil _, trivial⟩
theorem ref_CWord_ent : Enters Tryz.prog 124 := enters_of Tryz.func124 (by kernel_rfl) (by kernel_rfl)
theorem ref_CWord (p m : Int) (A : Option Addr) (c : Nat) (mod : List Int) [hF : IsF p m mod] (w : Int) (Aa : Option Addr) (n ca : Nat) (rs : List RowM) (hn : n = rs.length) (h9 : rs.length ≤ 256) (hc : CodeOk p m mod w rs) (X : Option Addr) (nx cx : Nat) (l : List Int) (hnx : nx = l.length) (hlw : (l.length : Int) = w) (hin : AllIn (pw p m) l) :
    Pure Tryz.prog 124 #[.agg #[.int .i64 p, .int .i64 m, .slice A mod.length c, .int .i64 w, .slice Aa n ca], .slice X nx cx] [ro A (ints mod), ro Aa (hdrs rs), rowsR rs, ro X (ints l)] (isV (.int .i64 0)) := by
  have hl9 := hF.short
  have hn1 := hc.n1
  have hn64 := hc.n64
  have hlen := hc.len
  have hgd := hc.good
  have h8 := hgd.h8 (N := 17592186044415) (by omega)
  have hck := hc.zero
  refine pure_of (args := [.agg #[.int .i64 p, .int .i64 m, .slice A mod.length c, .int .i64 w, .slice Aa n ca], .slice X nx cx]) 17 Tryz.func124 rfl rfl rfl ref_CWord_ent ⟨id, id, id, id, trivial⟩ (fun w0 => ?_)
  refine tr_seq ?_
  refine tr_region fun _ _ _ => ?_
  refine ef rfl rfl (eBox rfl rfl rfl rfl rfl (fun p0 => ?_)) 
  refine pu rfl rfl rfl rfl rfl ?_
  refine tr_seq ?_
  refine tr_region fun _ _ _ => ?_
  refine st rfl rfl rfl rfl (rLdS rfl rfl rfl) ?_
  refine ef rfl rfl (eCallV rfl rfl rfl (ref_CCheck _ _ _ _ _ (by omega) w Aa _ ca rs hn (by omega) h8) ⟨rfl, trivial⟩ ?_) 
  refine pu rfl rfl rfl rfl rfl ?_
  refine tr_seq ?_
  refine tr_seq ?_
  refine tr_region fun _ _ _ => ?_
  iterate 2 refine pu rfl rfl rfl rfl rfl ?_
  refine tr_cond_bool rfl (fun h2 => ?_) (fun h2 => ?_)
  · try simp only [zbA] at h2
    refine tr_region fun _ _ _ => ?_
    refine st rfl rfl rfl rfl (rFld rfl rfl) ?_
    refine st rfl rfl rfl rfl (rLdSF rfl rfl) ?_
    refine pu rfl rfl rfl rfl rfl ?_
    refine st rfl rfl rfl rfl (rFld rfl rfl) ?_
    refine st rfl rfl rfl rfl (rLdF rfl rfl rfl) ?_
    refine ef rfl rfl (eCallV rfl rfl rfl (ref_CList _ _ _ _ _ w (by omega) X _ _ l hnx hlw hin) ⟨rfl, rfl, rfl, trivial⟩ ?_) 
    refine pu rfl rfl rfl rfl rfl ?_
    refine tr_seq ?_
    refine tr_region fun _ _ _ => ?_
    iterate 2 refine pu rfl rfl rfl rfl rfl ?_
    exact tr_ret ⟨trivial, _, _, rfl, ⟨rfl, rfl⟩, CSub.nil _, trivial⟩
  · try simp only [zbA] at h2
    omega --done
theorem ref_CHas_ent : Enters Tryz.prog 56 := enters_of Tryz.func56 (by kernel_rfl) (by kernel_rfl)
theorem ref_CHas (p m : Int) (A : Option Addr) (c : Nat) (mod : List Int) [hF : IsF p m mod] (w : Int) (Aa : Option Addr) (n ca : Nat) (rs : List RowM) (hn : n = rs.length) (h9 : rs.length ≤ 256) (hc : CodeOk p m mod w rs) (X : Option Addr) (nx cx : Nat) (l : List Int) (hnx : nx = l.length) (hlw : (l.length : Int) = w) (hin : AllIn (pw p m) l) :
    Pure Tryz.prog 56 #[.agg #[.int .i64 p, .int .i64 m, .slice A mod.length c, .int .i64 w, .slice Aa n ca], .slice X nx cx] [ro A (ints mod), ro Aa (hdrs rs), rowsR rs, ro X (ints l)] (isV (.tuple #[.bool (memB p m mod rs l), .int .i64 0])) := by
  have hl9 := hF.short
  have hn1 := hc.n1
  have hn64 := hc.n64
  have hlen := hc.len
  have hgd := hc.good
  have h8 := hgd.h8 (N := 17592186044415) (by omega)
  have hck := hc.zero
  refine pure_of (args := [.agg #[.int .i64 p, .int .i64 m, .slice A mod.length c, .int .i64 w, .slice Aa n ca], .slice X nx cx]) 19 Tryz.func56 rfl rfl rfl ref_CHas_ent ⟨id, id, id, id, trivial⟩ (fun w0 => ?_)
  refine tr_seq ?_
  refine tr_region fun _ _ _ => ?_
  refine ef rfl rfl (eBox rfl rfl rfl rfl rfl (fun p0 => ?_)) 
  iterate 2 refine pu rfl rfl rfl rfl rfl ?_
  refine tr_seq ?_
  refine tr_region fun _ _ _ => ?_
  refine st rfl rfl rfl rfl (rLdS rfl rfl rfl) ?_
  refine pu rfl rfl rfl rfl rfl ?_
  refine ef rfl rfl (eCallV rfl rfl rfl (ref_CWord _ _ _ _ _ w Aa n ca rs hn h9 hc X nx cx l hnx hlw hin) ⟨rfl, rfl, trivial⟩ ?_) 
  refine pu rfl rfl rfl rfl rfl ?_
  refine tr_seq ?_
  refine tr_seq ?_
  refine tr_region fun _ _ _ => ?_
  iterate 2 refine pu rfl rfl rfl rfl rfl ?_
  refine tr_cond_bool rfl (fun h2 => ?_) (fun h2 => ?_)
  · try simp only [zbA] at h2
    first | exact absurd trivial h2 | exact absurd rfl h2 | omega | (exact absurd h2 (by simp)) --done
  · try simp only [zbA] at h2
    refine tr_skip ?_
    refine tr_seq ?_
    refine tr_region fun _ _ _ => ?_
    refine st rfl rfl rfl rfl (rFld rfl rfl) ?_
    refine st rfl rfl rfl rfl (rLdSF rfl rfl) ?_
    refine st rfl rfl rfl rfl (rFld rfl rfl) ?_
    refine st rfl rfl rfl rfl (rLdF rfl rfl rfl) ?_
    refine pu rfl rfl rfl rfl rfl ?_
    refine ef rfl rfl (eCallV rfl rfl rfl (ref_RIn' _ _ _ _ _ w Aa n ca rs hn h9 hc X nx cx l hnx hlw hin) ⟨rfl, rfl, rfl, trivial⟩ ?_) 
    iterate 2 refine pu rfl rfl rfl rfl rfl ?_
    exact tr_ret ⟨trivial, _, _, rfl, ⟨rfl, rfl⟩, CSub.nil _, trivial⟩
end Go.Proofs.YtjmojhflnjbgaaaGreat

set_option linter.unusedSimpArgs false
set_option linter.unusedVariables false
set_option maxRecDepth 100000
namespace Go.Proofs.YtjmojhflnjbgaaaGreat
open Go.RowKit
section
variable {p m : Int} {mod : List Int} [hF : IsF p m mod]
end
section
variable {p m : Int} {mod : List Int} [hF : IsF p m mod]
end
end Go.Proofs.YtjmojhflnjbgaaaGreat

set_option linter.unusedSimpArgs false
set_option linter.unusedVariables false
set_option maxRecDepth 100000
namespace Go.Proofs.YtjmojhflnjbgaaaGreat
open Go.RowKit
end Go.Proofs.YtjmojhflnjbgaaaGreat

set_option linter.unusedSimpArgs false
set_option linter.unusedVariables false
set_option maxRecDepth 100000
namespace Go.Proofs.YtjmojhflnjbgaaaGreat
open Go.RowKit
section
variable {p m : Int} {mod : List Int} [hF : IsF p m mod]
theorem val_cons (a : Int) (l : List Int) (x : El p m mod) : Po.val (pol (a :: l) : Po (El p m mod)) x = Po.val (pol l) x * x + el a := by
  have e : (pol (a :: l) : Po (El p m mod)) = Po.mn 1 1 * pol l + Po.C (el a) := Po.ext fun j => by
    rw [Po.cf_add, Po.cf_mn_mul, cf_pol, cf_pol]
    cases j with
    | zero => rw [if_pos (by omega), Rg.zero_add]; rfl
    | succ j =>
      rw [if_neg (by omega), Rg.one_mul]
      have h : Po.cf (Po.C (el a) : Po (El p m mod)) (j + 1) = 0 := by unfold Po.C; rw [Po.cf_mn, if_neg (by omega)]
      rw [h, Rg.add_zero]; rfl
  rw [e, Po.val_add, Po.val_mul, Po.val_C, Po.val_mn, Rg.pow_one, Rg.one_mul, Rg.mul_comm]
theorem val_nil (x : El p m mod) : Po.val (pol [] : Po (El p m mod)) x = 0 := by rw [pol_nil, Po.val_zero]
theorem val_sum (l : List Int) (x : El p m mod) : Po.val (pol l : Po (El p m mod)) x = Rg.sm l.length fun i => el (l.getD i 0) * Rg.pow x i := Po.val_eq (pol_sh l) x
theorem drop_cons {l : List Int} {i : Nat} (h : i < l.length) : l.drop i = l.getD i 0 :: l.drop (i + 1) := by
  rw [List.drop_eq_getElem_cons h, List.getD_eq_getElem?_getD, List.getElem?_eq_getElem h]; rfl
noncomputable def zset (p m : Int) (mod : List Int) [hF : IsF p m mod] (f : Po (El p m mod)) : Int → Bool := fun x => @decide (Po.val f (el x) = 0) (Classical.propDecidable _)
theorem zset_iff {f : Po (El p m mod)} {x : Int} : zset p m mod f x = true ↔ Po.val f (el x) = 0 := @decide_eq_true_iff _ (Classical.propDecidable _)
theorem pow_rem {x : El p m mod} (hx : x ≠ 0) (k : Nat) : Rg.pow x (k % (pw p m - 1).toNat) = Rg.pow x k := by
  have h := Nat.div_add_mod k (pw p m - 1).toNat
  have e : Rg.pow x k = Rg.pow x ((pw p m - 1).toNat * (k / (pw p m - 1).toNat) + k % (pw p m - 1).toNat) := by rw [h]
  rw [e, Rg.pow_add, Rg.pow_mul, pow_last hx, Rg.one_pow, Rg.one_mul]
theorem exp_pow {g : GfM} (hg : GOk g p m mod) : ∃ y : El p m mod, y ≠ 0 ∧ ∀ i : Nat, i < g.exp.length → (el (g.exp.getD i 0) : El p m mod) = Rg.pow y i := by
  obtain ⟨x, hx⟩ := hg.gen
  have h1 := hx.x1
  have h2 := hx.x2
  refine ⟨el x, fun e => by rw [el_eq_zero ⟨by omega, h2⟩] at e; omega, fun i hi => El.ext ?_⟩
  have h3 := hx.pow.get i hi
  have h4 := pow_val hF.out (el x) i
  rw [Fd.pow_eq, el_in ⟨by omega, h2⟩] at h4
  have h5 : g.exp.getD i 0 ∈ g.exp := getD_mem hi 0
  have h6 := hx.pow.nz _ h5
  rw [el_in ⟨by omega, h6.2⟩, h3]
  exact h4.symm
end
theorem gf_Field_ent : Enters Tryz.prog 235 := enters_of Tryz.func235 (by kernel_rfl) (by kernel_rfl)
theorem gf_Field (g : GfM) (h9 : g.mod.length ≤ 1000000) :
    Pure Tryz.prog 235 #[.pointer (some g.p)] [gfR g] (one (fun v ch => ∃ B cb, v = .agg #[.int .i64 g.P, .int .i64 g.M, .slice B g.mod.length cb] ∧ ch = ow B 3 cb (ints g.mod))) := by
  refine pure_ofC (args := [.pointer (some g.p)]) 21 Tryz.func235 rfl rfl rfl gf_Field_ent ⟨id, trivial⟩ (fun w0 => ?_)
  refine tr_seq ?_
  refine tr_region fun _ _ _ => ?_
  refine ef rfl rfl (eAlloc rfl rfl rfl (fun p0 => ?_)) 
  refine tr_seq ?_
  refine tr_plan [gfR g] [(2, 0), (2, 1), (2, 2), (2, 3), (2, 4), (2, 5), (2, 6), (2, 7), (2, 8), (2, 9), (0, 11), (0, 12), (0, 13), (0, 14), (0, 15), (0, 10), (1, 16), (0, 17), (1, 18)] mixed (by kernel_rfl) fun _ _ _ => ?_
  refine stF rfl rfl rfl rfl (cs _ _) (rMove rfl rfl) ?_
  refine stF rfl rfl rfl rfl (cs _ _) (rNil rfl rfl) ?_
  refine stF rfl rfl rfl rfl (cs _ _) (rFld rfl rfl) ?_
  refine stF rfl rfl rfl rfl (cs _ _) (rFldN rfl rfl) ?_
  refine stF rfl rfl rfl rfl (cs _ _) (rLdF rfl rfl rfl) ?_
  refine stF rfl rfl rfl rfl (cs _ _) (rMove rfl rfl) ?_
  refine stF rfl rfl rfl rfl (cs _ _) (rNil rfl rfl) ?_
  refine stF rfl rfl rfl rfl (cs _ _) (rFld rfl rfl) ?_
  refine stF rfl rfl rfl rfl (cs _ _) (rFldN rfl rfl) ?_
  refine stF rfl rfl rfl rfl (cs _ _) (rLdF rfl rfl rfl) ?_
  refine pu rfl rfl rfl rfl rfl ?_
  refine st rfl rfl rfl rfl (rNil rfl rfl) ?_
  refine st rfl rfl rfl rfl (rFld rfl rfl) ?_
  refine st rfl rfl rfl rfl (rFldN rfl rfl) ?_
  refine st rfl rfl rfl rfl (rLdF rfl rfl rfl) ?_
  refine ef rfl rfl (eLit0I rfl rfl rfl  (fun A1 => ?_)) 
  refine ef rfl rfl (eAppI rfl rfl rfl rfl rfl (by first | rfl | simp | omega) (by first | rfl | simp | omega) (by first | omega | (simp; omega)) (fun A1a c1a => ?_)) 
  refine ⟨cs _ _, ?_⟩
  refine st rfl rfl rfl rfl (rBuild rfl rfl) ?_
  refine ef rfl rfl (eStS rfl rfl rfl rfl rfl rfl ?_) 
  refine ⟨cs _ _, ?_⟩
  simp only [List.nil_append]
  exact tr_ret ⟨trivial, _, _, (.cell rfl (cellS rfl) .nil), ⟨_, rfl, A1a, c1a, rfl, rfl⟩, cs _ _, trivial, trivial⟩
theorem tow_prime_ent : Enters Tryz.prog 208 := enters_of Tryz.func208 (by kernel_rfl) (by kernel_rfl)
theorem tow_prime (g : GfM) (h9 : g.mod.length ≤ 1000000) :
    Pure Tryz.prog 208 #[.pointer (some g.p)] [gfR g] (isV (.tuple #[.int .i64 g.P, .int .i64 g.M])) := by
  refine pure_of (args := [.pointer (some g.p)]) 11 Tryz.func208 rfl rfl rfl tow_prime_ent ⟨id, trivial⟩ (fun w0 => ?_)
  refine tr_seq ?_
  refine tr_region fun _ _ _ => ?_
  iterate 2 refine pu rfl rfl rfl rfl rfl ?_
  refine tr_seq ?_
  refine tr_region fun _ _ _ => ?_
  refine pu rfl rfl rfl rfl rfl ?_
  refine ef rfl rfl (eCall1 rfl rfl rfl (gf_Field g h9) ⟨rfl, trivial⟩ ?_) 
  rintro _ _ ⟨B, cb, rfl, rfl⟩
  refine ef rfl rfl (eAlloc rfl rfl rfl (fun p1a => ?_)) 
  refine ef rfl rfl (eStS rfl rfl rfl rfl rfl rfl ?_) 
  refine tr_seq ?_
  refine tr_draw [0, 1, 2, 3, 4, 5] [] mixed (by kernel_rfl) fun _ _ _ => ?_
  refine st rfl rfl rfl rfl (rFld rfl rfl) ?_
  refine st rfl rfl rfl rfl (rLdF rfl rfl rfl) ?_
  refine st rfl rfl rfl rfl (rFld rfl rfl) ?_
  refine st rfl rfl rfl rfl (rLdF rfl rfl rfl) ?_
  iterate 2 refine pu rfl rfl rfl rfl rfl ?_
  exact tr_ret ⟨trivial, _, _, rfl, ⟨rfl, rfl⟩, CSub.nil _, trivial⟩
theorem tow_isDegree_ent : Enters Tryz.prog 209 := enters_of Tryz.func209 (by kernel_rfl) (by kernel_rfl)
theorem tow_isDegree (g : GfM) (h9 : g.mod.length ≤ 1000000) (d : Int) (hd : 1 ≤ d) (hM : 0 ≤ g.M) :
    Pure Tryz.prog 209 #[.pointer (some g.p), .int .i64 d] [gfR g] (isV (.bool (decide (d ≤ g.M) && decide (g.M % d = 0)))) := by
  refine pure_of (args := [.pointer (some g.p), .int .i64 d]) 25 Tryz.func209 rfl rfl rfl tow_isDegree_ent ⟨id, trivial⟩ (fun w0 => ?_)
  refine tr_seq ?_
  refine tr_region fun _ _ _ => ?_
  refine pu rfl rfl rfl rfl rfl ?_
  refine tr_seq ?_
  refine tr_region fun _ _ _ => ?_
  refine pu rfl rfl rfl rfl rfl ?_
  refine ef rfl rfl (eCallV rfl rfl rfl (tow_prime g h9) ⟨rfl, trivial⟩ ?_) 
  iterate 5 refine pu rfl rfl rfl rfl rfl ?_
  refine tr_seq ?_
  refine tr_region fun _ _ _ => ?_
  iterate 3 refine pu rfl rfl rfl rfl rfl ?_
  refine stg rfl rfl rfl rfl rfl (fun hb => by (have hq := hb; try simp only [zbA] at hq); exact rMove rfl rfl) ?_
  refine stg rfl rfl rfl rfl rfl (fun hb => by (have hq := hb; try simp only [zbA] at hq); exact rMove rfl rfl) ?_
  refine stg rfl rfl rfl rfl rfl (fun hb => by (have hq := hb; try simp only [zbA] at hq); exact rLeq rfl (evg rfl hb) (evg rfl hb)) ?_
  refine st rfl rfl rfl rfl (rAndB rfl rfl rfl rfl) ?_
  refine pu rfl rfl rfl rfl rfl ?_
  refine stg rfl rfl rfl rfl rfl (fun hb => by (have hq := hb; try simp only [zbA] at hq); exact rMove rfl rfl) ?_
  refine stg rfl rfl rfl rfl rfl (fun hb => by (have hq := hb; try simp only [zbA] at hq); exact rMove rfl rfl) ?_
  refine stg rfl rfl rfl rfl rfl (fun hb => by (have hq := hb; try simp only [zbA] at hq); exact rRem rfl (evg rfl hb) (evg rfl hb) (by omega) (by omega)) ?_
  refine stg rfl rfl rfl rfl rfl (fun hb => by (have hq := hb; try simp only [zbA] at hq); exact rEql rfl (evg rfl hb) rfl) ?_
  refine st rfl rfl rfl rfl (rAndB rfl rfl rfl rfl) ?_
  refine pu rfl rfl rfl rfl rfl ?_
  exact tr_ret ⟨trivial, _, _, rfl, ⟨by simp [hd], rfl⟩, CSub.nil _, trivial⟩
theorem poly_Eval_ent : Enters Tryz.prog 167 := enters_of Tryz.func167 (by kernel_rfl) (by kernel_rfl)
theorem poly_Eval (g : GfM) {p m : Int} {mod : List Int} [hF : IsF p m mod] (hg : GOk g p m mod) (X : Option Addr) (nx cx : Nat) (l : List Int) (hnx : nx = l.length) (h9 : l.length ≤ 1000000) (x : Int) :
    Pure Tryz.prog 167 #[.pointer (some g.p), .slice X nx cx, .int .i64 x] [gfR g, ro X (ints l)] (isV (.int .i64 (Po.val (pol l : Po (El p m mod)) (el x)).1)) := by
  refine pure_of (args := [.pointer (some g.p), .slice X nx cx, .int .i64 x]) 27 Tryz.func167 rfl rfl rfl poly_Eval_ent ⟨id, id, trivial⟩ (fun w0 => ?_)
  refine tr_seq ?_
  refine tr_region fun _ _ _ => ?_
  refine pu rfl rfl rfl rfl rfl ?_
  refine tr_seq ?_
  refine tr_region fun _ _ _ => ?_
  refine pu rfl rfl rfl rfl rfl ?_
  refine tr_seq ?_
  refine tr_seq ?_
  refine tr_region fun _ _ _ => ?_
  refine pu rfl rfl rfl rfl rfl ?_
  refine st rfl rfl rfl rfl (rLen rfl rfl) ?_
  refine st rfl rfl rfl rfl (rSub rfl rfl rfl (by omega) (by omega)) ?_
  refine pu rfl rfl rfl rfl rfl ?_
  refine tr_block ?_
  refine tr_loop2 (fun (i : Int) (y : Int) => [(7, .int .i64 y), (8, .int .i64 i), (0, .pointer (some g.p)), (1, .slice X nx cx), (2, .int .i64 x), (6, .int .i64 0)]) (fun (i : Int) (y : Int) => [gfR g, ro X (ints l)]) (fun (i : Int) (y : Int) => (-1 ≤ i ∧ i < nx) ∧ y = (Po.val (pol (l.drop (i + 1).toNat) : Po (El p m mod)) (el x)).1) (fun (i : Int) (y : Int) => (i + 1).toNat) ((nx : Int) - 1) (0) ⟨rfl, rfl, rfl, rfl, rfl, rfl, trivial⟩ (by first | exact cs _ _ | exact CSub.refl _) (⟨⟨by omega, by omega⟩, by rw [List.drop_of_length_le (by omega), val_nil]; rfl⟩) (fun i y hI => ?_)
  obtain ⟨⟨hi0, hi1⟩, hy⟩ := hI
  refine tr_seq ?_
  refine tr_seq ?_
  refine tr_region fun _ _ _ => ?_
  iterate 2 refine pu rfl rfl rfl rfl rfl ?_
  refine tr_cond_bool rfl (fun h3 => ?_) (fun h3 => ?_)
  · try simp only [zbA] at h3
    refine tr_skip ?_
    refine tr_seq ?_
    refine tr_block ?_
    refine tr_draw [0, 1, 2, 3, 5, 6, 7, 8, 4, 9, 10] [] mixed (by kernel_rfl) fun _ _ _ => ?_
    iterate 6 refine pu rfl rfl rfl rfl rfl ?_
    refine st rfl rfl rfl rfl (rIdxI rfl rfl rfl (by omega) (by omega) (by omega)) ?_
    refine st rfl rfl rfl rfl (rLdI rfl rfl (by omega)) ?_
    refine ef rfl rfl (eCallV rfl rfl rfl (gf_MulE g hg _ _) ⟨rfl, rfl, rfl, trivial⟩ ?_) 
    refine ef rfl rfl (eCallV rfl rfl rfl (gf_AddE g hg _ _) ⟨rfl, rfl, rfl, trivial⟩ ?_) 
    refine pu rfl rfl rfl rfl rfl ?_
    refine tr_region fun _ _ _ => ?_
    refine pu rfl rfl rfl rfl rfl ?_
    refine st rfl rfl rfl rfl (rSub rfl rfl rfl (by omega) (by omega)) ?_
    refine pu rfl rfl rfl rfl rfl ?_
    refine ⟨i - 1, (el (el y * el x : El p m mod).1 + el (l.getD i.toNat 0) : El p m mod).1, ⟨rfl, rfl, rfl, rfl, rfl, rfl, trivial⟩, by first | exact cs _ _ | exact CSub.refl _, ?_⟩
    refine ⟨⟨⟨by omega, by omega⟩, ?_⟩, by omega⟩
    rw [el_of, show (i - 1 + 1).toNat = i.toNat by omega, drop_cons (show i.toNat < l.length by omega), val_cons, show i.toNat + 1 = (i + 1).toNat by omega, hy, el_of]
  · try simp only [zbA] at h3
    refine tr_exit ?_
    refine tr_seq ?_
    refine tr_region fun _ _ _ => ?_
    iterate 2 refine pu rfl rfl rfl rfl rfl ?_
    have hi : i = -1 := by omega
    subst hi
    exact tr_ret ⟨trivial, _, _, rfl, ⟨by rw [hy]; rfl, rfl⟩, CSub.nil _, trivial⟩
theorem gf_Digits_ent : Enters Tryz.prog 213 := enters_of Tryz.func213 (by kernel_rfl) (by kernel_rfl)
theorem gf_Digits (g : GfM) {p m : Int} {mod : List Int} [hF : IsF p m mod] (hg : GOk g p m mod) (x : Int) (hx : 0 ≤ x ∧ x < pw p m) :
    Pure Tryz.prog 213 #[.pointer (some g.p), .int .i64 x] [gfR g] (one (fun v ch => ∃ B, v = .slice B m.toNat m.toNat ∧ ch = ow B 3 m.toNat (ints (digs p m.toNat x)))) := by
  have heq := hg.eq
  have hP := hg.eP
  have hM := hg.eM
  have hs := hF.out.1.1
  have h2 := hs.p2
  have h3 := hs.p9
  have h4 := hs.m1
  have h5 := hs.m8
  have h6 := hs.q
  have h7 : inI g.q x = x := inI_in hx.1 (by omega)
  subst hP
  subst hM
  refine pure_of (args := [.pointer (some g.p), .int .i64 x]) 19 Tryz.func213 rfl rfl rfl gf_Digits_ent ⟨id, trivial⟩ (fun w0 => ?_)
  refine tr_seq ?_
  refine tr_region fun _ _ _ => ?_
  refine pu rfl rfl rfl rfl rfl ?_
  refine tr_seq ?_
  refine tr_draw [0, 1, 3, 4, 5, 6, 7, 8, 9, 10, 11, 12, 2, 13, 14] [] mixed (by kernel_rfl) fun _ _ _ => ?_
  iterate 3 refine pu rfl rfl rfl rfl rfl ?_
  refine st rfl rfl rfl rfl (rNil rfl rfl) ?_
  refine st rfl rfl rfl rfl (rFld rfl rfl) ?_
  refine st rfl rfl rfl rfl (rFldN rfl rfl) ?_
  refine st rfl rfl rfl rfl (rLdF rfl rfl rfl) ?_
  refine pu rfl rfl rfl rfl rfl ?_
  refine st rfl rfl rfl rfl (rNil rfl rfl) ?_
  refine st rfl rfl rfl rfl (rFld rfl rfl) ?_
  refine st rfl rfl rfl rfl (rFldN rfl rfl) ?_
  refine st rfl rfl rfl rfl (rLdF rfl rfl rfl) ?_
  refine ef rfl rfl (eCallV rfl rfl rfl (gf_in g _) ⟨rfl, rfl, trivial⟩ ?_) 
  refine ef rfl rfl (eCall1 rfl rfl rfl (fld_digits _ (by omega) (by omega) _ (by omega) (by omega) _ (by omega) (by omega)) ⟨rfl, rfl, rfl, trivial⟩ ?_) 
  rintro _ _ ⟨B, rfl, rfl⟩
  refine pu rfl rfl rfl rfl rfl ?_
  rw [h7]
  exact tr_ret ⟨trivial, _, _, rfl, ⟨_, rfl, B, rfl, rfl⟩, cs _ _, trivial, trivial⟩
theorem gf_Dot_ent : Enters Tryz.prog 212 := enters_of Tryz.func212 (by kernel_rfl) (by kernel_rfl)
theorem gf_Dot (g : GfM) {p m : Int} {mod : List Int} [hF : IsF p m mod] (hg : GOk g p m mod) (X : Option Addr) (nx cx : Nat) (a : List Int) (hnx : nx = a.length) (Y : Option Addr) (ny cy : Nat) (b : List Int) (hny : ny = b.length) (h9 : a.length ≤ 1000000) (hl : a.length = b.length) :
    Pure Tryz.prog 212 #[.pointer (some g.p), .slice X nx cx, .slice Y ny cy] [gfR g, ro X (ints a), ro Y (ints b)] (isV (.int .i64 (Rg.sm a.length fun i => (el (a.getD i 0) * el (b.getD i 0) : El p m mod)).1)) := by
  refine pure_of (args := [.pointer (some g.p), .slice X nx cx, .slice Y ny cy]) 32 Tryz.func212 rfl rfl rfl gf_Dot_ent ⟨id, id, id, trivial⟩ (fun w0 => ?_)
  refine tr_seq ?_
  refine tr_region fun _ _ _ => ?_
  refine pu rfl rfl rfl rfl rfl ?_
  refine tr_seq ?_
  refine tr_region fun _ _ _ => ?_
  refine pu rfl rfl rfl rfl rfl ?_
  refine tr_seq ?_
  refine tr_seq ?_
  have hmn : min (nx : Int) (ny : Int) = a.length := by omega
  refine tr_region fun _ _ _ => ?_
  refine pu rfl rfl rfl rfl rfl ?_
  refine st rfl rfl rfl rfl (rLen rfl rfl) ?_
  refine pu rfl rfl rfl rfl rfl ?_
  refine st rfl rfl rfl rfl (rLen rfl rfl) ?_
  refine st rfl rfl rfl rfl (rMin rfl rfl rfl) ?_
  refine pu rfl rfl rfl rfl rfl ?_
  simp only [hmn]
  refine tr_block ?_
  refine tr_loop2 (fun (i : Int) (y : Int) => [(7, .int .i64 y), (13, .int .i64 a.length), (14, .int .i64 i), (0, .pointer (some g.p)), (1, .slice X nx cx), (2, .slice Y ny cy), (6, .int .i64 0)]) (fun (i : Int) (y : Int) => [gfR g, ro X (ints a), ro Y (ints b)]) (fun (i : Int) (y : Int) => (0 ≤ i ∧ i ≤ a.length) ∧ y = (Rg.sm i.toNat fun j => (el (a.getD j 0) * el (b.getD j 0) : El p m mod)).1) (fun (i : Int) (y : Int) => (a.length - i).toNat) (0) (0) ⟨rfl, rfl, rfl, rfl, rfl, rfl, rfl, trivial⟩ (by first | exact cs _ _ | exact CSub.refl _) (⟨⟨by omega, by omega⟩, rfl⟩) (fun i y hI => ?_)
  obtain ⟨⟨hi0, hi1⟩, hy⟩ := hI
  refine tr_seq ?_
  refine tr_region fun _ _ _ => ?_
  refine pu rfl rfl rfl rfl rfl ?_
  refine tr_seq ?_
  refine tr_cond_bool rfl (fun h3 => ?_) (fun h3 => ?_)
  · try simp only [zbA] at h3
    refine tr_skip ?_
    refine tr_seq ?_
    refine tr_block ?_
    refine tr_seq ?_
    refine tr_region fun _ _ _ => ?_
    iterate 2 refine pu rfl rfl rfl rfl rfl ?_
    refine tr_draw [0, 1, 2, 3, 4, 5, 6, 7, 8, 9, 10, 11, 12, 13] [] mixed (by kernel_rfl) fun _ _ _ => ?_
    iterate 5 refine pu rfl rfl rfl rfl rfl ?_
    refine st rfl rfl rfl rfl (rIdxI rfl rfl rfl (by omega) (by omega) (by omega)) ?_
    refine st rfl rfl rfl rfl (rLdI rfl rfl (by omega)) ?_
    iterate 2 refine pu rfl rfl rfl rfl rfl ?_
    refine st rfl rfl rfl rfl (rIdxI rfl rfl rfl (by omega) (by omega) (by omega)) ?_
    refine st rfl rfl rfl rfl (rLdI rfl rfl (by omega)) ?_
    refine ef rfl rfl (eCallV rfl rfl rfl (gf_MulE g hg _ _) ⟨rfl, rfl, rfl, trivial⟩ ?_) 
    refine ef rfl rfl (eCallV rfl rfl rfl (gf_AddE g hg _ _) ⟨rfl, rfl, rfl, trivial⟩ ?_) 
    refine pu rfl rfl rfl rfl rfl ?_
    refine tr_region fun _ _ _ => ?_
    refine st rfl rfl rfl rfl (rAdd rfl rfl rfl (by omega) (by omega)) ?_
    refine pu rfl rfl rfl rfl rfl ?_
    refine ⟨i + 1, (el y + el (el (a.getD i.toNat 0) * el (b.getD i.toNat 0) : El p m mod).1 : El p m mod).1, ⟨rfl, rfl, rfl, rfl, rfl, rfl, rfl, trivial⟩, by first | exact cs _ _ | exact CSub.refl _, ?_⟩
    refine ⟨⟨⟨by omega, by omega⟩, ?_⟩, by omega⟩
    rw [show (i + 1).toNat = i.toNat + 1 by omega, Rg.sm_succ, hy, el_of, el_of]
  · try simp only [zbA] at h3
    refine tr_exit ?_
    refine tr_seq ?_
    refine tr_region fun _ _ _ => ?_
    iterate 2 refine pu rfl rfl rfl rfl rfl ?_
    have hi : i.toNat = a.length := by omega
    rw [hi] at hy
    exact tr_ret ⟨trivial, _, _, rfl, ⟨by rw [hy], rfl⟩, CSub.nil _, trivial⟩
theorem gf_PowE_ent : Enters Tryz.prog 98 := enters_of Tryz.func98 (by kernel_rfl) (by kernel_rfl)
theorem gf_PowE (g : GfM) {p m : Int} {mod : List Int} [hF : IsF p m mod] (hg : GOk g p m mod) (x k : Int) (hk : 0 ≤ k) (hk9 : k ≤ 1000000) :
    Pure Tryz.prog 98 #[.pointer (some g.p), .int .i64 x, .int .i64 k] [gfR g] (isV (.tuple #[.int .i64 (Rg.pow (el x : El p m mod) k.toNat).1, .int .i64 0])) := by
  have heq := hg.eq
  have hq2 := hF.q2
  have hq9 := hF.out.1.1.q
  have hix : (el x : El p m mod).1 = inI g.q x := by rw [hg.eq]; rfl
  have hbx := (el x : El p m mod).2
  have hel := hg.elen
  have hll := hg.llen'
  obtain ⟨y, hy0, hy⟩ := exp_pow hg
  refine pure_of (args := [.pointer (some g.p), .int .i64 x, .int .i64 k]) 54 Tryz.func98 rfl rfl rfl gf_PowE_ent ⟨id, trivial⟩ (fun w0 => ?_)
  refine tr_seq ?_
  refine tr_region fun _ _ _ => ?_
  iterate 2 refine pu rfl rfl rfl rfl rfl ?_
  refine tr_seq ?_
  refine tr_region fun _ _ _ => ?_
  iterate 2 refine pu rfl rfl rfl rfl rfl ?_
  refine ef rfl rfl (eCallV rfl rfl rfl (gf_in g _) ⟨rfl, rfl, trivial⟩ ?_) 
  refine pu rfl rfl rfl rfl rfl ?_
  refine tr_seq ?_
  refine tr_block ?_
  refine tr_seq ?_
  refine tr_region fun _ _ _ => ?_
  iterate 3 refine pu rfl rfl rfl rfl rfl ?_
  refine tr_cond_bool rfl (fun h2 => ?_) (fun h2 => ?_)
  · try simp only [zbA] at h2
    refine tr_seq ?_
    refine tr_region fun _ _ _ => ?_
    iterate 2 refine pu rfl rfl rfl rfl rfl ?_
    exact tr_ret ⟨trivial, _, _, rfl, ⟨by rw [show k.toNat = 0 by omega]; rfl, rfl⟩, CSub.nil _, trivial⟩
  · try simp only [zbA] at h2
    refine tr_seq ?_
    refine tr_region fun _ _ _ => ?_
    iterate 3 refine pu rfl rfl rfl rfl rfl ?_
    refine stg rfl rfl rfl rfl rfl (fun hb => by (have hq := hb; try simp only [zbA] at hq); exact rMove rfl rfl) ?_
    refine stg rfl rfl rfl rfl rfl (fun hb => by (have hq := hb; try simp only [zbA] at hq); exact rLss rfl (evg rfl hb) rfl) ?_
    refine st rfl rfl rfl rfl (rAndB rfl rfl rfl rfl) ?_
    refine pu rfl rfl rfl rfl rfl ?_
    refine tr_cond_bool rfl (fun h4 => ?_) (fun h4 => ?_)
    · try simp only [zbA] at h4
      refine tr_seq ?_
      refine tr_region fun _ _ _ => ?_
      iterate 2 refine pu rfl rfl rfl rfl rfl ?_
      omega
    · try simp only [zbA] at h4
      refine tr_seq ?_
      refine tr_region fun _ _ _ => ?_
      iterate 3 refine pu rfl rfl rfl rfl rfl ?_
      refine tr_cond_bool rfl (fun h6 => ?_) (fun h6 => ?_)
      · try simp only [zbA] at h6
        refine tr_seq ?_
        refine tr_region fun _ _ _ => ?_
        iterate 2 refine pu rfl rfl rfl rfl rfl ?_
        exact tr_ret ⟨trivial, _, _, rfl, ⟨by
          have hx0 : (el x : El p m mod) = 0 := (val_zero_iff (el x : El p m mod)).1 (by omega)
          rw [hx0, Rg.zero_pow (by omega)]; rfl, rfl⟩, CSub.nil _, trivial⟩
      · try simp only [zbA] at h6
        refine tr_skip ?_
        refine tr_seq ?_
        have hx0 : (el x : El p m mod) ≠ 0 := fun e => by
          have := (val_zero_iff (el x : El p m mod)).2 e
          omega
        have hlx := hg.log_spec (y := inI g.q x) (by omega) (by omega)
        have e0 := Int.emod_nonneg k (show g.q - 1 ≠ 0 by omega)
        have e1 := Int.emod_lt_of_pos k (show 0 < g.q - 1 by omega)
        refine tr_region fun _ _ _ => ?_
        refine pu rfl rfl rfl rfl rfl ?_
        refine st rfl rfl rfl rfl (rNil rfl rfl) ?_
        refine st rfl rfl rfl rfl (rFld rfl rfl) ?_
        refine st rfl rfl rfl rfl (rLdF rfl rfl rfl) ?_
        refine st rfl rfl rfl rfl (rSub rfl rfl rfl (by omega) (by omega)) ?_
        refine pu rfl rfl rfl rfl rfl ?_
        refine tr_seq ?_
        refine tr_region fun _ _ _ => ?_
        iterate 2 refine pu rfl rfl rfl rfl rfl ?_
        refine st rfl rfl rfl rfl (rRem rfl rfl rfl (by omega) (by omega)) ?_
        refine pu rfl rfl rfl rfl rfl ?_
        refine st rfl rfl rfl rfl (rAdd rfl rfl rfl (by omega) (by omega)) ?_
        refine pu rfl rfl rfl rfl rfl ?_
        refine st rfl rfl rfl rfl (rRem rfl rfl rfl (by omega) (by omega)) ?_
        refine pu rfl rfl rfl rfl rfl ?_
        refine tr_seq ?_
        have e2 : (k % (g.q - 1) + (g.q - 1)) % (g.q - 1) = k % (g.q - 1) := by rw [Int.add_emod_right, Int.emod_emod_of_dvd _ (Int.dvd_refl _)]
        rw [e2]
        have hmb := mul_bd0 (g.log.getD (inI g.q x).toNat 0) (k % (g.q - 1)) 256 256 (by omega) (by omega) (by omega) (by omega)
        have e3 := Int.emod_nonneg (g.log.getD (inI g.q x).toNat 0 * (k % (g.q - 1))) (show g.q - 1 ≠ 0 by omega)
        have e4 := Int.emod_lt_of_pos (g.log.getD (inI g.q x).toNat 0 * (k % (g.q - 1))) (show 0 < g.q - 1 by omega)
        refine tr_draw [0, 1, 2, 3, 4, 5, 6, 7, 8, 9, 10, 11, 12, 13, 14, 15, 16, 17, 18] [] mixed (by kernel_rfl) fun _ _ _ => ?_
        refine pu rfl rfl rfl rfl rfl ?_
        refine st rfl rfl rfl rfl (rNil rfl rfl) ?_
        refine st rfl rfl rfl rfl (rFld rfl rfl) ?_
        refine st rfl rfl rfl rfl (rLdF rfl rfl rfl) ?_
        refine pu rfl rfl rfl rfl rfl ?_
        refine st rfl rfl rfl rfl (rNil rfl rfl) ?_
        refine st rfl rfl rfl rfl (rFld rfl rfl) ?_
        refine st rfl rfl rfl rfl (rLdF rfl rfl rfl) ?_
        refine pu rfl rfl rfl rfl rfl ?_
        refine st rfl rfl rfl rfl (rIdxI rfl rfl rfl (by omega) (by omega) (by omega)) ?_
        refine st rfl rfl rfl rfl (rLdI rfl rfl (by omega)) ?_
        refine pu rfl rfl rfl rfl rfl ?_
        refine st rfl rfl rfl rfl (rMul rfl rfl rfl (by omega) (by omega)) ?_
        refine pu rfl rfl rfl rfl rfl ?_
        refine st rfl rfl rfl rfl (rRem rfl rfl rfl (by omega) (by omega)) ?_
        refine st rfl rfl rfl rfl (rIdxI rfl rfl rfl (by omega) (by omega) (by omega)) ?_
        refine st rfl rfl rfl rfl (rLdI rfl rfl (by omega)) ?_
        iterate 2 refine pu rfl rfl rfl rfl rfl ?_
        have hfin : g.exp.getD (g.log.getD (inI g.q x).toNat 0 * (k % (g.q - 1)) % (g.q - 1)).toNat 0 = (Rg.pow (el x : El p m mod) k.toNat).1 := by
          have h1 := hy (g.log.getD (inI g.q x).toNat 0 * (k % (g.q - 1)) % (g.q - 1)).toNat (by omega)
          have h2 := hy (g.log.getD (inI g.q x).toNat 0).toNat (by omega)
          rw [hlx.2.2] at h2
          have h3 : (el x : El p m mod) = Rg.pow y (g.log.getD (inI g.q x).toNat 0).toNat := by rw [← h2, ← hix, el_of]
          have hqe : (pw p m - 1).toNat = (g.q - 1).toNat := by rw [heq]
          have h4 : (g.log.getD (inI g.q x).toNat 0 * (k % (g.q - 1)) % (g.q - 1)).toNat = ((g.log.getD (inI g.q x).toNat 0).toNat * (k.toNat % (pw p m - 1).toNat)) % (pw p m - 1).toNat := by
            rw [hqe]
            obtain ⟨a, ha⟩ := Int.eq_ofNat_of_zero_le (show 0 ≤ g.log.getD (inI g.q x).toNat 0 by omega)
            obtain ⟨b, hb⟩ := Int.eq_ofNat_of_zero_le hk
            obtain ⟨c, hc⟩ := Int.eq_ofNat_of_zero_le (show 0 ≤ g.q - 1 by omega)
            rw [ha, hb, hc, ← Int.natCast_emod, ← Int.natCast_mul, ← Int.natCast_emod]
            simp only [Int.toNat_natCast]
          rw [h4, pow_rem hy0, Rg.pow_mul, ← h3, pow_rem hx0] at h1
          have h5 : g.exp.getD ((g.log.getD (inI g.q x).toNat 0).toNat * (k.toNat % (pw p m - 1).toNat) % (pw p m - 1).toNat) 0 ∈ g.exp := getD_mem (by rw [← h4]; omega) 0
          obtain ⟨z, hz⟩ := hg.gen
          have h6 := hz.pow.nz _ h5
          rw [← h1, el_in ⟨by omega, h6.2⟩, h4]
        exact tr_ret ⟨trivial, _, _, rfl, ⟨by rw [hfin], rfl⟩, CSub.nil _, trivial⟩
end Go.Proofs.YtjmojhflnjbgaaaGreat

set_option linter.unusedSimpArgs false
set_option linter.unusedVariables false
set_option maxRecDepth 100000
namespace Go.Proofs.YtjmojhflnjbgaaaGreat
open Go.RowKit
theorem filt_head (φ : Int → Bool) : ∀ (n : Nat) (z : Int) (rest : List Int), (upI n).filter φ = z :: rest → (0 ≤ z ∧ z < n) ∧ φ z = true ∧ ∀ s, 0 ≤ s → s < z → φ s = false
  | 0, z, rest, h => by simp [upI] at h
  | n + 1, z, rest, h => by
    rw [upI_succ, List.filter_append] at h
    cases hf : (upI n).filter φ with
    | nil =>
      rw [hf, List.nil_append] at h
      have hno : ∀ s : Int, 0 ≤ s → s < n → φ s = false := fun s h0 h1 => by
        cases hs : φ s with
        | false => rfl
        | true =>
          have : s ∈ (upI n).filter φ := List.mem_filter.2 ⟨List.mem_map.2 ⟨s.toNat, List.mem_range.2 (by omega), by omega⟩, hs⟩
          rw [hf] at this; simp at this
      cases hp : φ (n : Int) with
      | false => rw [List.filter_cons_of_neg (by rw [hp]; simp), List.filter_nil] at h; simp at h
      | true =>
        rw [List.filter_cons_of_pos hp, List.filter_nil] at h
        have hz : (n : Int) = z := by injection h
        subst hz
        exact ⟨⟨by omega, by omega⟩, hp, hno⟩
    | cons a t =>
      rw [hf, List.cons_append] at h
      have hz : a = z := by injection h
      subst hz
      have := filt_head φ n a t hf
      exact ⟨⟨this.1.1, by omega⟩, this.2⟩
section
variable {p m2 : Int} {mod2 : List Int} [hE : IsF p m2 mod2]
noncomputable def imL (p m2 : Int) (mod2 : List Int) [hE : IsF p m2 mod2] (m r : Int) : List Int := (List.range (pw p m).toNat).map fun x : Nat => (Po.val (pol (digs p m.toNat x) : Po (El p m2 mod2)) (el r)).1
theorem imL_length (m r : Int) : (imL p m2 mod2 m r).length = (pw p m).toNat := by simp [imL]
theorem imL_get (m r : Int) {x : Nat} (h : x < (pw p m).toNat) : (imL p m2 mod2 m r).getD x 0 = (Po.val (pol (digs p m.toNat x) : Po (El p m2 mod2)) (el r)).1 := by
  unfold imL; rw [List.getD_eq_getElem?_getD, List.getElem?_map, List.getElem?_range h]; rfl
structure IsRt (p m2 : Int) (mod2 : List Int) [hE : IsF p m2 mod2] (m : Int) (mod : List Int) (r : Int) : Prop where
  lo : 0 ≤ r
  hi : r < pw p m2
  one : m = 1 → r = 0
  root : 2 ≤ m → Po.val (pol (mod ++ [1]) : Po (El p m2 mod2)) (el r) = 0
  least : 2 ≤ m → ∀ s, 0 ≤ s → s < r → Po.val (pol (mod ++ [1]) : Po (El p m2 mod2)) (el s) ≠ 0
theorem IsRt.uniq {m : Int} {mod : List Int} (hm : 1 ≤ m) {r s : Int} (h : IsRt p m2 mod2 m mod r) (k : IsRt p m2 mod2 m mod s) : r = s := by
  by_cases h1 : m = 1
  · rw [h.one h1, k.one h1]
  · rcases Int.lt_trichotomy r s with h2 | h2 | h2
    · exact absurd (h.root (by omega)) (k.least (by omega) r h.lo h2)
    · exact h2
    · exact absurd (k.root (by omega)) (h.least (by omega) s k.lo h2)
open Classical in
noncomputable def embR (p m2 : Int) (mod2 : List Int) [hE : IsF p m2 mod2] (m : Int) (mod : List Int) : Int := if h : ∃ r, IsRt p m2 mod2 m mod r then Classical.choose h else 0
theorem IsRt.eq {m : Int} {mod : List Int} (hm : 1 ≤ m) {r : Int} (h : IsRt p m2 mod2 m mod r) : embR p m2 mod2 m mod = r := by
  have hx : ∃ r, IsRt p m2 mod2 m mod r := ⟨r, h⟩
  unfold embR
  rw [dif_pos hx]
  exact (Classical.choose_spec hx).uniq hm h
theorem polmod_ne (mod : List Int) : (pol (mod ++ [1]) : Po (El p m2 mod2)) ≠ 0 := fun e => by
  have h := congrArg (fun f => Po.cf f mod.length) e
  simp only [cf_pol, Po.cf_zero] at h
  rw [List.getD_eq_getElem?_getD, List.getElem?_append_right (Nat.le_refl _), Nat.sub_self] at h
  exact Fd.one_ne (K := El p m2 mod2) (el_one.symm.trans h)
end
theorem rt_of_head {p m m2 : Int} {mod mod2 : List Int} [hF : IsF p m mod] [hE : IsF p m2 mod2] (hm : 2 ≤ m) (hd : m2 % m = 0) {zs : List Int} (hz : zs = (upI (pw p m2).toNat).filter (zset p m2 mod2 (pol (mod ++ [1])))) : zs.length ≠ 0 ∧ IsRt p m2 mod2 m mod (zs.getD 0 0) := by
  have hq := hE.q2
  cases hzs : zs with
  | nil =>
    obtain ⟨a, ha⟩ := emb_root (p := p) (m := m) (mod := mod) (m2 := m2) (mod2 := mod2) hm hd
    have hab := a.2
    have : a.1 ∈ (upI (pw p m2).toNat).filter (zset p m2 mod2 (pol (mod ++ [1]))) := List.mem_filter.2 ⟨List.mem_map.2 ⟨a.1.toNat, List.mem_range.2 (by omega), by omega⟩, zset_iff.2 (by rw [el_of]; exact ha)⟩
    rw [← hz, hzs] at this; simp at this
  | cons z rest =>
    have h := filt_head _ _ z rest (hz.symm.trans hzs)
    refine ⟨by simp, ⟨h.1.1, ?_, fun e => by omega, fun _ => zset_iff.1 h.2.1, fun _ s h0 h1 => fun e => ?_⟩⟩
    · have := h.1.2; show z < _; omega
    · have := h.2.2 s h0 h1
      rw [zset_iff.2 e] at this; cases this
theorem digs_len (p : Int) : ∀ (M : Nat) (x : Int), (digs p M x).length = M
  | 0, _ => rfl
  | M + 1, x => by rw [digs, List.length_cons, digs_len p M]
theorem poly_Roots_ent : Enters Tryz.prog 210 := enters_of Tryz.func210 (by kernel_rfl) (by kernel_rfl)
theorem poly_Roots (g : GfM) {p m : Int} {mod : List Int} [hF : IsF p m mod] (hg : GOk g p m mod) (X : Option Addr) (nx cx : Nat) (lx : List Int) (hnx : nx = lx.length) (h9 : lx.length ≤ 1000000) (h0 : (pol lx : Po (El p m mod)) ≠ 0) :
    Pure Tryz.prog 210 #[.pointer (some g.p), .slice X nx cx] [gfR g, ro X (ints lx)] (one (fun v ch => ∃ B cb zs, v = .tuple #[.slice B zs.length cb, .int .i64 0] ∧ ch = ow B 3 cb (ints zs) ∧ zs = (upI g.q.toNat).filter (zset p m mod (pol lx)))) := by
  have hq2 := hg.q2
  have hqe := hg.eq
  have hq9 := hF.out.1.1.q
  have hil := il_le (p := p) (m := m) (mod := mod) lx
  have hl0 : (il (pol lx : Po (El p m mod))).length ≠ 0 := fun e => h0 (il_eq_nil.1 (List.length_eq_zero_iff.1 e))
  refine pure_of (args := [.pointer (some g.p), .slice X nx cx]) 28 Tryz.func210 rfl rfl rfl poly_Roots_ent ⟨id, id, trivial⟩ (fun w0 => ?_)
  refine tr_seq ?_
  refine tr_region fun _ _ _ => ?_
  refine ef rfl rfl (eBox rfl rfl rfl rfl rfl (fun p0 => ?_)) 
  iterate 2 refine pu rfl rfl rfl rfl rfl ?_
  refine tr_seq ?_
  refine tr_region fun _ _ _ => ?_
  refine st rfl rfl rfl rfl (rLd0 rfl rfl) ?_
  refine pu rfl rfl rfl rfl rfl ?_
  refine ef rfl rfl (eCall1 rfl rfl rfl (poly_CanonE g hg _ _ _ lx (by first | omega | rfl | simp) (by omega)) ⟨rfl, rfl, trivial⟩ ?_) 
  rintro _ _ ⟨B1, c1, rfl, hcap1, rfl⟩
  refine ef rfl rfl (eAlloc rfl rfl rfl (fun p1a => ?_)) 
  refine ef rfl rfl (eSt0 rfl rfl rfl rfl rfl rfl ?_) 
  refine tr_seq ?_
  refine tr_seq ?_
  refine tr_region fun _ _ _ => ?_
  refine st rfl rfl rfl rfl (rLd0 rfl rfl) ?_
  refine st rfl rfl rfl rfl (rLen rfl rfl) ?_
  refine pu rfl rfl rfl rfl rfl ?_
  refine tr_cond_bool rfl (fun h2 => ?_) (fun h2 => ?_)
  · try simp only [zbA] at h2
    omega --done
  · try simp only [zbA] at h2
    refine tr_skip ?_
    refine tr_seq ?_
    refine tr_region fun _ _ _ => ?_
    refine ef rfl rfl (eAlloc rfl rfl rfl (fun p4 => ?_)) 
    refine tr_seq ?_
    refine tr_seq ?_
    refine tr_region fun _ _ _ => ?_
    refine st rfl rfl rfl rfl (rLd0 rfl rfl) ?_
    refine ef rfl rfl (eCall1 rfl rfl rfl (gf_Elements _) ⟨rfl, trivial⟩ ?_) 
    rintro _ _ ⟨B5, rfl, rfl⟩
    refine tr_nilI 3 ?_
    refine tr_block ?_
    refine tr_range (hseq := elems_gives (by omega) (by omega)) rfl gf_Elements1_ent rfl rfl rfl rfl rfl (fun (q : (Option Addr) × Nat × (List Int)) => match q with | (B, cb, zs) => [blk B5 84 [.pointer (some g.p)], blk p4 22 [.slice B zs.length cb], ow B 3 cb (ints zs), blk p1a 22 [.slice B1 (il (pol lx : Po (El p m mod))).length c1], ow B1 3 c1 (ints (il (pol lx : Po (El p m mod)))), blk p0 84 [.pointer (some g.p)], gfR g]) (fun (pre : List Int) (q : (Option Addr) × Nat × (List Int)) => match q with | (B, cb, zs) => zs = pre.filter (zset p m mod (pol lx)) ∧ zs.length ≤ pre.length) (none, 0, []) (by first | exact cs _ _ | exact CSub.refl _) (⟨rfl, by simp⟩) ?_ ?_
    · rintro pre x ⟨B, cb, zs⟩ l M0 W0 hlen hI
      refine tr_block ?_
      refine tr_seq ?_
      refine tr_region fun _ _ _ => ?_
      refine st rfl rfl rfl rfl (rLd0 rfl rfl) ?_
      refine st rfl rfl rfl rfl (rLd0 rfl rfl) ?_
      refine pu rfl rfl rfl rfl rfl ?_
      refine ef rfl rfl (eCallV rfl rfl rfl (poly_Eval g hg B1 _ _ (il (pol lx : Po (El p m mod))) rfl (by omega) x) ⟨rfl, rfl, rfl, trivial⟩ ?_) 
      refine pu rfl rfl rfl rfl rfl ?_
      refine tr_cond_bool rfl (fun h7 => ?_) (fun h7 => ?_)
      · try simp only [zbA] at h7
        refine tr_region fun _ _ _ => ?_
        refine st rfl rfl rfl rfl (rLd0 rfl rfl) ?_
        refine pu rfl rfl rfl rfl rfl ?_
        refine ef rfl rfl (eLit1I rfl rfl rfl rfl (fun A8 => ?_)) 
        refine ef rfl rfl (eAppI rfl rfl rfl rfl rfl (by first | rfl | simp | omega) (by first | rfl | simp | omega) (by first | omega | (simp; omega)) (fun A8a c8a => ?_)) 
        refine ef rfl rfl (eSt0 rfl rfl rfl rfl rfl rfl ?_) 
        refine ⟨(A8a, c8a, zs ++ [x]), by first | exact cs _ _ | exact CSub.refl _, ?_⟩
        rw [pol_il] at h7
        have hz : zset p m mod (pol lx) x = true := zset_iff.2 ((val_zero_iff _).1 (by first | exact h7 | simpa using h7))
        refine ⟨?_, by simp; omega⟩
        rw [List.filter_append, ← hI.1, List.filter_cons_of_pos hz, List.filter_nil]
      · try simp only [zbA] at h7
        refine tr_skip ?_
        refine ⟨(B, cb, zs), by first | exact cs _ _ | exact CSub.refl _, ?_⟩
        rw [pol_il] at h7
        have hz : ¬ zset p m mod (pol lx) x = true := fun h => h7 ((val_zero_iff _).2 (zset_iff.1 h))
        refine ⟨?_, by simp; omega⟩
        rw [List.filter_append, ← hI.1, List.filter_cons_of_neg hz, List.filter_nil, List.append_nil]
    · rintro ⟨B, cb, zs⟩ hI
      refine tr_seq ?_
      refine tr_region fun _ _ _ => ?_
      refine st rfl rfl rfl rfl (rLd0 rfl rfl) ?_
      iterate 2 refine pu rfl rfl rfl rfl rfl ?_
      exact tr_ret ⟨trivial, _, _, rfl, ⟨_, rfl, B, cb, zs, rfl, rfl, hI.1⟩, cs _ _, trivial, trivial⟩
theorem tow_Emb1_ent : Enters Tryz.prog 163 := enters_of Tryz.func163 (by kernel_rfl) (by kernel_rfl)
theorem tow_Emb1 (p m : Int) (A : Option Addr) (c : Nat) (mod : List Int) [hF : IsF p m mod] (g : GfM) (m2 : Int) (mod2 : List Int) [hE : IsF p m2 mod2] (hg : GOk g p m2 mod2) (hd : m2 % m = 0) (hm : m = 1) :
    Pure Tryz.prog 163 #[.agg #[.int .i64 p, .int .i64 m, .slice A mod.length c], .pointer (some g.p)] [ro A (ints mod), gfR g] (one (fun v ch => ∃ B, v = .tuple #[.slice B (imL p m2 mod2 m (embR p m2 mod2 m mod)).length (imL p m2 mod2 m (embR p m2 mod2 m mod)).length, .int .i64 0] ∧ ch = ow B 3 (imL p m2 mod2 m (embR p m2 mod2 m mod)).length (ints (imL p m2 mod2 m (embR p m2 mod2 m mod))))) := by
  have hl8 := hF.short
  have hl82 := hE.short
  have hgm := hg.emod
  have hgl : g.mod.length ≤ 1000000 := by rw [hgm]; omega
  have hgP := hg.eP
  have hgM := hg.eM
  have hm1 := hF.m1
  have hm21 := hE.m1
  have hmm : m ≤ m2 := Int.le_of_dvd (by omega) (Int.dvd_of_emod_eq_zero hd)
  have hq2 := hF.q2
  have hq9 := hF.out.1.1.q
  have hm8 := hF.out.1.1.m8
  have hrt : IsRt p m2 mod2 m mod 0 := ⟨by omega, by have := hE.q2; omega, fun _ => rfl, fun h => by omega, fun h => by omega⟩
  have hre := hrt.eq hm1
  have hps : ∀ i : Nat, i < m.toNat → ([1] : List Int).getD i 0 = (Rg.pow (el (embR p m2 mod2 m mod)) i : El p m2 mod2).1 := fun i hi => by
    have : i = 0 := by omega
    subst this; rfl
  refine pure_of (args := [.agg #[.int .i64 p, .int .i64 m, .slice A mod.length c], .pointer (some g.p)]) 96 Tryz.func163 rfl rfl rfl tow_Emb1_ent ⟨id, id, trivial⟩ (fun w0 => ?_)
  refine tr_seq ?_
  refine tr_region fun _ _ _ => ?_
  refine ef rfl rfl (eBox rfl rfl rfl rfl rfl (fun p0 => ?_)) 
  iterate 2 refine pu rfl rfl rfl rfl rfl ?_
  refine tr_seq ?_
  refine tr_region fun _ _ _ => ?_
  refine st rfl rfl rfl rfl (rLdS rfl rfl rfl) ?_
  refine ef rfl rfl (eCall1 rfl rfl rfl (fld_New_ok _ _ _ _ _ (by omega) hF.out) ⟨rfl, trivial⟩ ?_) 
  rintro _ _ ⟨h, rfl, rfl, hh⟩
  iterate 5 refine pu rfl rfl rfl rfl rfl ?_
  refine tr_seq ?_
  refine tr_seq ?_
  refine tr_region fun _ _ _ => ?_
  iterate 2 refine pu rfl rfl rfl rfl rfl ?_
  refine tr_cond_bool rfl (fun h2 => ?_) (fun h2 => ?_)
  · try simp only [zbA] at h2
    first | exact absurd trivial h2 | exact absurd rfl h2 | omega | (exact absurd h2 (by simp)) --done
  · try simp only [zbA] at h2
    refine tr_skip ?_
    refine tr_seq ?_
    refine tr_region fun _ _ _ => ?_
    refine pu rfl rfl rfl rfl rfl ?_
    refine ef rfl rfl (eCallV rfl rfl rfl (tow_prime g hgl) ⟨rfl, trivial⟩ ?_) 
    iterate 5 refine pu rfl rfl rfl rfl rfl ?_
    refine tr_seq ?_
    refine tr_seq ?_
    refine tr_region fun _ _ _ => ?_
    refine st rfl rfl rfl rfl (rFld rfl rfl) ?_
    refine st rfl rfl rfl rfl (rLdF rfl rfl rfl) ?_
    iterate 3 refine pu rfl rfl rfl rfl rfl ?_
    refine stT rfl rfl rfl (by simp <;> omega) rfl rfl (rMove rfl rfl) ?_
    refine stT rfl rfl rfl (by simp <;> omega) rfl rfl (rFld rfl rfl) ?_
    refine stT rfl rfl rfl (by simp <;> omega) rfl rfl (rLdF rfl rfl rfl) ?_
    refine efT rfl rfl rfl (by simp <;> omega) (eCallV rfl rfl rfl (tow_isDegree g hgl m hm1 (by omega)) ⟨rfl, rfl, trivial⟩ ?_) 
    refine stT rfl rfl rfl (by simp <;> omega) rfl rfl (rNotB rfl rfl) ?_
    refine st rfl rfl rfl rfl (rPick0 rfl rfl (by simp <;> omega) rfl) ?_
    refine tr_cond_bool rfl (fun h5 => ?_) (fun h5 => ?_)
    · try simp only [zbA] at h5
      exact absurd h5 (by simp [hgM, hgP, hd] <;> omega) --done
    · try simp only [zbA] at h5
      refine tr_skip ?_
      refine tr_seq ?_
      refine tr_region fun _ _ _ => ?_
      refine ef rfl rfl (eLit1I rfl rfl rfl rfl (fun A7 => ?_)) 
      refine pu rfl rfl rfl rfl rfl ?_
      refine tr_seq ?_
      refine tr_seq ?_
      refine tr_region fun _ _ _ => ?_
      refine st rfl rfl rfl rfl (rFld rfl rfl) ?_
      refine st rfl rfl rfl rfl (rLdF rfl rfl rfl) ?_
      refine pu rfl rfl rfl rfl rfl ?_
      refine tr_cond_bool rfl (fun h8 => ?_) (fun h8 => ?_)
      · try simp only [zbA] at h8
        omega --done
      · try simp only [zbA] at h8
        refine tr_skip ?_
        refine tr_seq ?_
        have hhq := hh.eq
        refine tr_region fun _ _ _ => ?_
        refine pu rfl rfl rfl rfl rfl ?_
        refine ef rfl rfl (eCallV rfl rfl rfl (gf_Order h) ⟨rfl, trivial⟩ ?_) 
        refine ef rfl rfl (eMakeI rfl rfl rfl rfl rfl (by omega) (by omega) (by omega) (fun A16a => ?_)) 
        refine pu rfl rfl rfl rfl rfl ?_
        rw [hhq]
        refine tr_seq ?_
        refine tr_seq ?_
        refine tr_region fun _ _ _ => ?_
        refine pu rfl rfl rfl rfl rfl ?_
        refine st rfl rfl rfl rfl (rLen rfl rfl) ?_
        refine pu rfl rfl rfl rfl rfl ?_
        refine tr_block ?_
        refine tr_loop2 (fun (x : Int) (o : List Int) => [(14, .slice A16a (pw p m).toNat (pw p m).toNat), (81, .int .i64 (pw p m).toNat), (82, .int .i64 x), (10, .slice A7 [1].length 1), (6, .pointer (some h.p)), (1, .pointer (some g.p)), (4, .slice none 0 0), (5, .int .i64 0)]) (fun (x : Int) (o : List Int) => [ow A16a 3 (pw p m).toNat (ints o), ow A7 3 1 (ints [1]), gfN h, blk p0 24 [.int .i64 p, .int .i64 m, .slice A mod.length c], ro A (ints mod), gfR g]) (fun (x : Int) (o : List Int) => (0 ≤ x ∧ x ≤ pw p m) ∧ o.length = (pw p m).toNat ∧ ∀ j : Nat, (j : Int) < x → o.getD j 0 = (Po.val (pol (digs p m.toNat j) : Po (El p m2 mod2)) (el (embR p m2 mod2 m mod))).1) (fun (x : Int) (o : List Int) => (pw p m - x).toNat) (0) (List.replicate (pw p m).toNat 0) ⟨rfl, rfl, rfl, rfl, rfl, rfl, rfl, rfl, trivial⟩ (by first | exact cs _ _ | exact CSub.refl _) (⟨⟨by omega, by omega⟩, by simp, fun j hj => by omega⟩) (fun x o hI => ?_)
        obtain ⟨⟨hx0, hx1⟩, hol, ho⟩ := hI
        refine tr_seq ?_
        refine tr_region fun _ _ _ => ?_
        refine pu rfl rfl rfl rfl rfl ?_
        refine tr_seq ?_
        refine tr_cond_bool rfl (fun h18 => ?_) (fun h18 => ?_)
        · try simp only [zbA] at h18
          refine tr_skip ?_
          refine tr_seq ?_
          refine tr_block ?_
          refine tr_seq ?_
          refine tr_region fun _ _ _ => ?_
          iterate 2 refine pu rfl rfl rfl rfl rfl ?_
          refine tr_region fun _ _ _ => ?_
          iterate 5 refine pu rfl rfl rfl rfl rfl ?_
          refine ef rfl rfl (eCall1 rfl rfl rfl (gf_Digits h hh x ⟨by omega, by omega⟩) ⟨rfl, rfl, trivial⟩ ?_) 
          rintro _ _ ⟨Bd, rfl, rfl⟩
          refine pu rfl rfl rfl rfl rfl ?_
          refine ef rfl rfl (eCallV rfl rfl rfl (gf_Dot g hg Bd _ _ (digs p m.toNat x) (digs_len _ _ _).symm A7 1 1 [1] rfl (by rw [digs_len]; omega) (by rw [digs_len]; show _ = 1; omega)) ⟨rfl, rfl, rfl, trivial⟩ ?_) 
          refine st rfl rfl rfl rfl (rIdxI rfl rfl rfl (by omega) (by omega) (by omega)) ?_
          refine ef rfl rfl (eStI rfl rfl rfl rfl (by omega) ?_) 
          refine tr_region fun _ _ _ => ?_
          refine st rfl rfl rfl rfl (rAdd rfl rfl rfl (by omega) (by omega)) ?_
          refine pu rfl rfl rfl rfl rfl ?_
          refine ⟨x + 1, o.set x.toNat (Rg.sm (digs p m.toNat x).length fun i => (el ((digs p m.toNat x).getD i 0) * el ([1].getD i 0) : El p m2 mod2)).1, ⟨rfl, rfl, rfl, rfl, rfl, rfl, rfl, rfl, trivial⟩, by first | exact cs _ _ | exact CSub.refl _, ?_⟩
          refine ⟨⟨⟨by omega, by omega⟩, by simpa using hol, fun j hj => ?_⟩, by omega⟩
          rw [getD_set]
          by_cases he : x.toNat = j
          · subst he
            rw [if_pos ⟨rfl, by omega⟩, Int.toNat_of_nonneg hx0, val_sum]
            refine congrArg (fun z : El p m2 mod2 => z.1) ?_
            refine Rg.sm_congr fun i hi => ?_
            rw [digs_len] at hi
            rw [hps i hi, el_of]
          · rw [if_neg (fun e => he e.1)]; exact ho j (by omega)
        · try simp only [zbA] at h18
          refine tr_exit ?_
          refine tr_seq ?_
          refine tr_region fun _ _ _ => ?_
          iterate 3 refine pu rfl rfl rfl rfl rfl ?_
          have hfin : o = (imL p m2 mod2 m (embR p m2 mod2 m mod)) := ext_getD (by rw [imL_length]; exact hol) fun j => by
            by_cases hj : j < (pw p m).toNat
            · rw [imL_get _ _ hj]; exact ho j (by omega)
            · rw [getD_out (by omega), getD_out (by rw [imL_length]; omega)]
          have hol2 : (pw p m).toNat = (imL p m2 mod2 m (embR p m2 mod2 m mod)).length := (imL_length _ _).symm
          exact tr_ret ⟨trivial, _, _, rfl, ⟨_, rfl, A16a, by rw [hol2], by rw [← hfin, hol]⟩, cs _ _, trivial, trivial⟩
theorem tow_Emb2_ent : Enters Tryz.prog 163 := enters_of Tryz.func163 (by kernel_rfl) (by kernel_rfl)
theorem tow_Emb2 (p m : Int) (A : Option Addr) (c : Nat) (mod : List Int) [hF : IsF p m mod] (g : GfM) (m2 : Int) (mod2 : List Int) [hE : IsF p m2 mod2] (hg : GOk g p m2 mod2) (hd : m2 % m = 0) (hm : 2 ≤ m) :
    Pure Tryz.prog 163 #[.agg #[.int .i64 p, .int .i64 m, .slice A mod.length c], .pointer (some g.p)] [ro A (ints mod), gfR g] (one (fun v ch => ∃ B, v = .tuple #[.slice B (imL p m2 mod2 m (embR p m2 mod2 m mod)).length (imL p m2 mod2 m (embR p m2 mod2 m mod)).length, .int .i64 0] ∧ ch = ow B 3 (imL p m2 mod2 m (embR p m2 mod2 m mod)).length (ints (imL p m2 mod2 m (embR p m2 mod2 m mod))))) := by
  have hl8 := hF.short
  have hl82 := hE.short
  have hgm := hg.emod
  have hgl : g.mod.length ≤ 1000000 := by rw [hgm]; omega
  have hgP := hg.eP
  have hgM := hg.eM
  have hm1 := hF.m1
  have hm21 := hE.m1
  have hmm : m ≤ m2 := Int.le_of_dvd (by omega) (Int.dvd_of_emod_eq_zero hd)
  have hq2 := hF.q2
  have hq9 := hF.out.1.1.q
  have hm8 := hF.out.1.1.m8
  refine pure_of (args := [.agg #[.int .i64 p, .int .i64 m, .slice A mod.length c], .pointer (some g.p)]) 96 Tryz.func163 rfl rfl rfl tow_Emb2_ent ⟨id, id, trivial⟩ (fun w0 => ?_)
  refine tr_seq ?_
  refine tr_region fun _ _ _ => ?_
  refine ef rfl rfl (eBox rfl rfl rfl rfl rfl (fun p0 => ?_)) 
  iterate 2 refine pu rfl rfl rfl rfl rfl ?_
  refine tr_seq ?_
  refine tr_region fun _ _ _ => ?_
  refine st rfl rfl rfl rfl (rLdS rfl rfl rfl) ?_
  refine ef rfl rfl (eCall1 rfl rfl rfl (fld_New_ok _ _ _ _ _ (by omega) hF.out) ⟨rfl, trivial⟩ ?_) 
  rintro _ _ ⟨h, rfl, rfl, hh⟩
  iterate 5 refine pu rfl rfl rfl rfl rfl ?_
  refine tr_seq ?_
  refine tr_seq ?_
  refine tr_region fun _ _ _ => ?_
  iterate 2 refine pu rfl rfl rfl rfl rfl ?_
  refine tr_cond_bool rfl (fun h2 => ?_) (fun h2 => ?_)
  · try simp only [zbA] at h2
    first | exact absurd trivial h2 | exact absurd rfl h2 | omega | (exact absurd h2 (by simp)) --done
  · try simp only [zbA] at h2
    refine tr_skip ?_
    refine tr_seq ?_
    refine tr_region fun _ _ _ => ?_
    refine pu rfl rfl rfl rfl rfl ?_
    refine ef rfl rfl (eCallV rfl rfl rfl (tow_prime g hgl) ⟨rfl, trivial⟩ ?_) 
    iterate 5 refine pu rfl rfl rfl rfl rfl ?_
    refine tr_seq ?_
    refine tr_seq ?_
    refine tr_region fun _ _ _ => ?_
    refine st rfl rfl rfl rfl (rFld rfl rfl) ?_
    refine st rfl rfl rfl rfl (rLdF rfl rfl rfl) ?_
    iterate 3 refine pu rfl rfl rfl rfl rfl ?_
    refine stT rfl rfl rfl (by simp <;> omega) rfl rfl (rMove rfl rfl) ?_
    refine stT rfl rfl rfl (by simp <;> omega) rfl rfl (rFld rfl rfl) ?_
    refine stT rfl rfl rfl (by simp <;> omega) rfl rfl (rLdF rfl rfl rfl) ?_
    refine efT rfl rfl rfl (by simp <;> omega) (eCallV rfl rfl rfl (tow_isDegree g hgl m hm1 (by omega)) ⟨rfl, rfl, trivial⟩ ?_) 
    refine stT rfl rfl rfl (by simp <;> omega) rfl rfl (rNotB rfl rfl) ?_
    refine st rfl rfl rfl rfl (rPick0 rfl rfl (by simp <;> omega) rfl) ?_
    refine tr_cond_bool rfl (fun h5 => ?_) (fun h5 => ?_)
    · try simp only [zbA] at h5
      exact absurd h5 (by simp [hgM, hgP, hd] <;> omega) --done
    · try simp only [zbA] at h5
      refine tr_skip ?_
      refine tr_seq ?_
      refine tr_region fun _ _ _ => ?_
      refine ef rfl rfl (eLit1I rfl rfl rfl rfl (fun A7 => ?_)) 
      refine pu rfl rfl rfl rfl rfl ?_
      refine tr_seq ?_
      refine tr_seq ?_
      refine tr_region fun _ _ _ => ?_
      refine st rfl rfl rfl rfl (rFld rfl rfl) ?_
      refine st rfl rfl rfl rfl (rLdF rfl rfl rfl) ?_
      refine pu rfl rfl rfl rfl rfl ?_
      refine tr_cond_bool rfl (fun h8 => ?_) (fun h8 => ?_)
      · try simp only [zbA] at h8
        refine tr_seq ?_
        refine tr_region fun _ _ _ => ?_
        refine pu rfl rfl rfl rfl rfl ?_
        refine ef rfl rfl (eLit0I rfl rfl rfl  (fun A9 => ?_)) 
        refine st rfl rfl rfl rfl (rFld rfl rfl) ?_
        refine st rfl rfl rfl rfl (rLdF rfl rfl rfl) ?_
        refine ef rfl rfl (eAppI rfl rfl rfl rfl rfl (by first | rfl | simp | omega) (by first | rfl | simp | omega) (by first | omega | (simp; omega)) (fun A9a c9a => ?_)) 
        refine ef rfl rfl (eLit1I rfl rfl rfl rfl (fun A9b => ?_)) 
        refine ef rfl rfl (eAppI rfl rfl rfl rfl rfl (by first | rfl | simp | omega) (by first | rfl | simp | omega) (by first | omega | (simp; omega)) (fun A9c c9c => ?_)) 
        simp only [List.nil_append]
        refine ef rfl rfl (eCall1 rfl rfl rfl (poly_Roots g hg A9c _ c9c (mod ++ [1]) rfl (by simp; omega) (polmod_ne mod)) ⟨rfl, rfl, trivial⟩ ?_) 
        rintro _ _ ⟨Bz, cz, zs, rfl, rfl, hzs⟩
        iterate 5 refine pu rfl rfl rfl rfl rfl ?_
        refine tr_seq ?_
        refine tr_seq ?_
        rw [hg.eq] at hzs
        obtain ⟨hz0, hrt⟩ := rt_of_head (p := p) (m := m) (mod := mod) hm hd hzs
        have hre := hrt.eq hm1
        refine tr_region fun _ _ _ => ?_
        refine pu rfl rfl rfl rfl rfl ?_
        refine st rfl rfl rfl rfl (rLen rfl rfl) ?_
        refine pu rfl rfl rfl rfl rfl ?_
        refine tr_cond_bool rfl (fun h10 => ?_) (fun h10 => ?_)
        · try simp only [zbA] at h10
          omega --done
        · try simp only [zbA] at h10
          refine tr_skip ?_
          refine tr_seq ?_
          refine tr_region fun _ _ _ => ?_
          refine pu rfl rfl rfl rfl rfl ?_
          refine tr_block ?_
          refine tr_loop4 (fun (i : Int) (B : Option Addr) (cb : Nat) (ps : List Int) => [(10, .slice B ps.length cb), (13, .int .i64 i), (6, .pointer (some h.p)), (11, .slice Bz zs.length cz), (1, .pointer (some g.p)), (2, .pointer (some p0)), (4, .slice none 0 0), (5, .int .i64 0)]) (fun (i : Int) (B : Option Addr) (cb : Nat) (ps : List Int) => [ow B 3 cb (ints ps), ow Bz 3 cz (ints zs), gfN h, blk p0 24 [.int .i64 p, .int .i64 m, .slice A mod.length c], ro A (ints mod), gfR g]) (fun (i : Int) (B : Option Addr) (cb : Nat) (ps : List Int) => (1 ≤ i ∧ i ≤ m) ∧ (ps.length : Int) = i ∧ ∀ j : Nat, (j : Int) < i → ps.getD j 0 = (Rg.pow (el (zs.getD 0 0)) j : El p m2 mod2).1) (fun (i : Int) (B : Option Addr) (cb : Nat) (ps : List Int) => (m - i).toNat) (1) (A7) (1) ([1]) ⟨rfl, rfl, rfl, rfl, rfl, rfl, rfl, rfl, trivial⟩ (by first | exact cs _ _ | exact CSub.refl _) (⟨⟨by omega, by omega⟩, rfl, fun j hj => by rw [show j = 0 by omega]; rfl⟩) (fun i B cb ps hI => ?_)
          obtain ⟨⟨hi0, hi1⟩, hpl, hpw⟩ := hI
          refine tr_seq ?_
          refine tr_seq ?_
          refine tr_region fun _ _ _ => ?_
          refine pu rfl rfl rfl rfl rfl ?_
          refine st rfl rfl rfl rfl (rFld rfl rfl) ?_
          refine st rfl rfl rfl rfl (rLdF rfl rfl rfl) ?_
          refine pu rfl rfl rfl rfl rfl ?_
          refine tr_cond_bool rfl (fun h13 => ?_) (fun h13 => ?_)
          · try simp only [zbA] at h13
            refine tr_skip ?_
            refine tr_seq ?_
            refine tr_block ?_
            refine tr_draw [0, 1, 2, 3, 4, 5, 6, 7, 8, 9, 10, 11] [12, 13] mixed (by kernel_rfl) fun _ _ _ => ?_
            iterate 4 refine pu rfl rfl rfl rfl rfl ?_
            refine st rfl rfl rfl rfl (rSub rfl rfl rfl (by omega) (by omega)) ?_
            refine st rfl rfl rfl rfl (rIdxI rfl rfl rfl (by omega) (by omega) (by omega)) ?_
            refine st rfl rfl rfl rfl (rLdI rfl rfl (by omega)) ?_
            refine pu rfl rfl rfl rfl rfl ?_
            refine st rfl rfl rfl rfl (rIdxI rfl rfl rfl (by omega) (by omega) (by omega)) ?_
            refine st rfl rfl rfl rfl (rLdI rfl rfl (by omega)) ?_
            refine ef rfl rfl (eCallV rfl rfl rfl (gf_MulE g hg _ _) ⟨rfl, rfl, rfl, trivial⟩ ?_) 
            refine ef rfl rfl (eLit1I rfl rfl rfl rfl (fun A15a => ?_)) 
            refine ef rfl rfl (eAppI rfl rfl rfl rfl rfl (by first | rfl | simp | omega) (by first | rfl | simp | omega) (by first | omega | (simp; omega)) (fun A15b c15b => ?_)) 
            refine pu rfl rfl rfl rfl rfl ?_
            refine tr_region fun _ _ _ => ?_
            refine pu rfl rfl rfl rfl rfl ?_
            refine st rfl rfl rfl rfl (rAdd rfl rfl rfl (by omega) (by omega)) ?_
            refine pu rfl rfl rfl rfl rfl ?_
            refine ⟨i + 1, A15b, c15b, ps ++ [(el (ps.getD (i - 1).toNat 0) * el (zs.getD (Int.toNat 0) 0) : El p m2 mod2).1], ⟨rfl, rfl, rfl, rfl, rfl, rfl, rfl, rfl, trivial⟩, by first | exact cs _ _ | exact CSub.refl _, ?_⟩
            refine ⟨⟨⟨by omega, by omega⟩, by simp; omega, fun j hj => ?_⟩, by omega⟩
            rw [getD_app1]
            by_cases he : j = ps.length
            · have h1 : (i - 1).toNat = j - 1 := by omega
              rw [if_pos he, h1, hpw (j - 1) (by omega), el_of]
              refine congrArg (fun z : El p m2 mod2 => z.1) ?_
              have h2 : j = (j - 1) + 1 := by omega
              rw [h2, Rg.pow_succ]; rfl
            · rw [if_neg he]; exact hpw j (by omega)
          · try simp only [zbA] at h13
            refine tr_exit ?_
            refine tr_seq ?_
            have hhq := hh.eq
            have hps : ∀ j : Nat, j < m.toNat → ps.getD j 0 = (Rg.pow (el (embR p m2 mod2 m mod)) j : El p m2 mod2).1 := fun j hj => by rw [hre]; exact hpw j (by omega)
            refine tr_region fun _ _ _ => ?_
            refine pu rfl rfl rfl rfl rfl ?_
            refine ef rfl rfl (eCallV rfl rfl rfl (gf_Order h) ⟨rfl, trivial⟩ ?_) 
            refine ef rfl rfl (eMakeI rfl rfl rfl rfl rfl (by omega) (by omega) (by omega) (fun A16a => ?_)) 
            refine pu rfl rfl rfl rfl rfl ?_
            rw [hhq]
            refine tr_seq ?_
            refine tr_seq ?_
            refine tr_region fun _ _ _ => ?_
            refine pu rfl rfl rfl rfl rfl ?_
            refine st rfl rfl rfl rfl (rLen rfl rfl) ?_
            refine pu rfl rfl rfl rfl rfl ?_
            refine tr_block ?_
            refine tr_loop2 (fun (x : Int) (o : List Int) => [(14, .slice A16a (pw p m).toNat (pw p m).toNat), (81, .int .i64 (pw p m).toNat), (82, .int .i64 x), (10, .slice B ps.length cb), (6, .pointer (some h.p)), (1, .pointer (some g.p)), (4, .slice none 0 0), (5, .int .i64 0)]) (fun (x : Int) (o : List Int) => [ow A16a 3 (pw p m).toNat (ints o), ow B 3 cb (ints ps), gfN h, ow Bz 3 cz (ints zs), blk p0 24 [.int .i64 p, .int .i64 m, .slice A mod.length c], ro A (ints mod), gfR g]) (fun (x : Int) (o : List Int) => (0 ≤ x ∧ x ≤ pw p m) ∧ o.length = (pw p m).toNat ∧ ∀ j : Nat, (j : Int) < x → o.getD j 0 = (Po.val (pol (digs p m.toNat j) : Po (El p m2 mod2)) (el (embR p m2 mod2 m mod))).1) (fun (x : Int) (o : List Int) => (pw p m - x).toNat) (0) (List.replicate (pw p m).toNat 0) ⟨rfl, rfl, rfl, rfl, rfl, rfl, rfl, rfl, trivial⟩ (by first | exact cs _ _ | exact CSub.refl _) (⟨⟨by omega, by omega⟩, by simp, fun j hj => by omega⟩) (fun x o hI => ?_)
            obtain ⟨⟨hx0, hx1⟩, hol, ho⟩ := hI
            refine tr_seq ?_
            refine tr_region fun _ _ _ => ?_
            refine pu rfl rfl rfl rfl rfl ?_
            refine tr_seq ?_
            refine tr_cond_bool rfl (fun h18 => ?_) (fun h18 => ?_)
            · try simp only [zbA] at h18
              refine tr_skip ?_
              refine tr_seq ?_
              refine tr_block ?_
              refine tr_seq ?_
              refine tr_region fun _ _ _ => ?_
              iterate 2 refine pu rfl rfl rfl rfl rfl ?_
              refine tr_region fun _ _ _ => ?_
              iterate 5 refine pu rfl rfl rfl rfl rfl ?_
              refine ef rfl rfl (eCall1 rfl rfl rfl (gf_Digits h hh x ⟨by omega, by omega⟩) ⟨rfl, rfl, trivial⟩ ?_) 
              rintro _ _ ⟨Bd, rfl, rfl⟩
              refine pu rfl rfl rfl rfl rfl ?_
              refine ef rfl rfl (eCallV rfl rfl rfl (gf_Dot g hg Bd _ _ (digs p m.toNat x) (digs_len _ _ _).symm B _ cb ps rfl (by rw [digs_len]; omega) (by rw [digs_len]; omega)) ⟨rfl, rfl, rfl, trivial⟩ ?_) 
              refine st rfl rfl rfl rfl (rIdxI rfl rfl rfl (by omega) (by omega) (by omega)) ?_
              refine ef rfl rfl (eStI rfl rfl rfl rfl (by omega) ?_) 
              refine tr_region fun _ _ _ => ?_
              refine st rfl rfl rfl rfl (rAdd rfl rfl rfl (by omega) (by omega)) ?_
              refine pu rfl rfl rfl rfl rfl ?_
              refine ⟨x + 1, o.set x.toNat (Rg.sm (digs p m.toNat x).length fun i => (el ((digs p m.toNat x).getD i 0) * el (ps.getD i 0) : El p m2 mod2)).1, ⟨rfl, rfl, rfl, rfl, rfl, rfl, rfl, rfl, trivial⟩, by first | exact cs _ _ | exact CSub.refl _, ?_⟩
              refine ⟨⟨⟨by omega, by omega⟩, by simpa using hol, fun j hj => ?_⟩, by omega⟩
              rw [getD_set]
              by_cases he : x.toNat = j
              · subst he
                rw [if_pos ⟨rfl, by omega⟩, Int.toNat_of_nonneg hx0, val_sum]
                refine congrArg (fun z : El p m2 mod2 => z.1) ?_
                refine Rg.sm_congr fun i hi => ?_
                rw [digs_len] at hi
                rw [hps i hi, el_of]
              · rw [if_neg (fun e => he e.1)]; exact ho j (by omega)
            · try simp only [zbA] at h18
              refine tr_exit ?_
              refine tr_seq ?_
              refine tr_region fun _ _ _ => ?_
              iterate 3 refine pu rfl rfl rfl rfl rfl ?_
              have hfin : o = (imL p m2 mod2 m (embR p m2 mod2 m mod)) := ext_getD (by rw [imL_length]; exact hol) fun j => by
                by_cases hj : j < (pw p m).toNat
                · rw [imL_get _ _ hj]; exact ho j (by omega)
                · rw [getD_out (by omega), getD_out (by rw [imL_length]; omega)]
              have hol2 : (pw p m).toNat = (imL p m2 mod2 m (embR p m2 mod2 m mod)).length := (imL_length _ _).symm
              exact tr_ret ⟨trivial, _, _, rfl, ⟨_, rfl, A16a, by rw [hol2], by rw [← hfin, hol]⟩, cs _ _, trivial, trivial⟩
      · try simp only [zbA] at h8
        omega --done
end Go.Proofs.YtjmojhflnjbgaaaGreat

set_option linter.unusedSimpArgs false
set_option linter.unusedVariables false
set_option maxRecDepth 100000
namespace Go.Proofs.YtjmojhflnjbgaaaGreat
open Go.RowKit
section
variable {p m2 : Int} {mod2 : List Int} [hE : IsF p m2 mod2]
end
theorem tow_Emb (p m : Int) (A : Option Addr) (c : Nat) (mod : List Int) [hF : IsF p m mod] (g : GfM) (m2 : Int) (mod2 : List Int) [hE : IsF p m2 mod2] (hg : GOk g p m2 mod2) (hd : m2 % m = 0) : Pure Tryz.prog 163 #[.agg #[.int .i64 p, .int .i64 m, .slice A mod.length c], .pointer (some g.p)] [ro A (ints mod), gfR g] (one (fun v ch => ∃ B, v = .tuple #[.slice B (imL p m2 mod2 m (embR p m2 mod2 m mod)).length (imL p m2 mod2 m (embR p m2 mod2 m mod)).length, .int .i64 0] ∧ ch = ow B 3 (imL p m2 mod2 m (embR p m2 mod2 m mod)).length (ints (imL p m2 mod2 m (embR p m2 mod2 m mod))))) := by
  have h1 := hF.m1
  by_cases hm : m = 1
  · exact tow_Emb1 p m A c mod g m2 mod2 hg hd hm
  · exact tow_Emb2 p m A c mod g m2 mod2 hg hd (by omega)
theorem bch_ext_ent : Enters Tryz.prog 97 := enters_of Tryz.func97 (by kernel_rfl) (by kernel_rfl)
theorem bch_ext (p m : Int) (A : Option Addr) (c : Nat) (mod : List Int) [hF : IsF p m mod] (m2 : Int) (A2 : Option Addr) (c2 : Nat) (mod2 : List Int) [hE : IsF p m2 mod2] (hd : m2 % m = 0) (n : Int) (hn1 : 1 ≤ n) (hn64 : n ≤ 64) :
    Pure Tryz.prog 97 #[.agg #[.int .i64 p, .int .i64 m, .slice A mod.length c], .agg #[.int .i64 p, .int .i64 m2, .slice A2 mod2.length c2], .int .i64 n] [ro A (ints mod), ro A2 (ints mod2)] (two (fun v c1 c2 => ∃ (g : GfM) (B : Option Addr), v = .tuple #[.pointer (some g.p), .slice B (imL p m2 mod2 m (embR p m2 mod2 m mod)).length (imL p m2 mod2 m (embR p m2 mod2 m mod)).length, .int .i64 (if rootArgs p m2 mod2 n = 0 then rootI p m2 mod2 n else 0), .int .i64 (rootArgs p m2 mod2 n)] ∧ c1 = gfN g ∧ c2 = ow B 3 (imL p m2 mod2 m (embR p m2 mod2 m mod)).length (ints (imL p m2 mod2 m (embR p m2 mod2 m mod))) ∧ GOk g p m2 mod2)) := by
  refine pure_of (args := [.agg #[.int .i64 p, .int .i64 m, .slice A mod.length c], .agg #[.int .i64 p, .int .i64 m2, .slice A2 mod2.length c2], .int .i64 n]) 47 Tryz.func97 rfl rfl rfl bch_ext_ent ⟨id, id, trivial⟩ (fun w0 => ?_)
  refine tr_seq ?_
  refine tr_region fun _ _ _ => ?_
  refine ef rfl rfl (eBox rfl rfl rfl rfl rfl (fun p0 => ?_)) 
  refine ef rfl rfl (eBox rfl rfl rfl rfl rfl (fun p0a => ?_)) 
  iterate 4 refine pu rfl rfl rfl rfl rfl ?_
  refine tr_seq ?_
  refine tr_region fun _ _ _ => ?_
  refine st rfl rfl rfl rfl (rLdS rfl rfl rfl) ?_
  refine ef rfl rfl (eCall1 rfl rfl rfl (fld_New_ok _ _ _ _ _ (by have := hE.short; omega) hE.out) ⟨rfl, trivial⟩ ?_) 
  rintro _ _ ⟨g, rfl, rfl, hg⟩
  iterate 5 refine pu rfl rfl rfl rfl rfl ?_
  refine tr_seq ?_
  refine tr_seq ?_
  refine tr_region fun _ _ _ => ?_
  iterate 2 refine pu rfl rfl rfl rfl rfl ?_
  refine tr_cond_bool rfl (fun h2 => ?_) (fun h2 => ?_)
  · try simp only [zbA] at h2
    first | exact absurd trivial h2 | exact absurd rfl h2 | omega | (exact absurd h2 (by simp)) --done
  · try simp only [zbA] at h2
    refine tr_skip ?_
    refine tr_seq ?_
    refine tr_seq ?_
    refine tr_region fun _ _ _ => ?_
    iterate 3 refine pu rfl rfl rfl rfl rfl ?_
    refine stg rfl rfl rfl rfl rfl (fun hb => by (have hq := hb; try simp only [zbA] at hq); exact rMove rfl rfl) ?_
    refine stg rfl rfl rfl rfl rfl (fun hb => by (have hq := hb; try simp only [zbA] at hq); exact rGtr rfl (evg rfl hb) rfl) ?_
    refine st rfl rfl rfl rfl (rOrB rfl rfl rfl rfl) ?_
    refine tr_cond_bool rfl (fun h4 => ?_) (fun h4 => ?_)
    · try simp only [zbA] at h4
      omega --done
    · try simp only [zbA] at h4
      refine tr_skip ?_
      refine tr_seq ?_
      refine tr_region fun _ _ _ => ?_
      refine st rfl rfl rfl rfl (rLdS rfl rfl rfl) ?_
      refine pu rfl rfl rfl rfl rfl ?_
      refine ef rfl rfl (eCall1 rfl rfl rfl (tow_Emb _ _ _ _ _ g m2 mod2 hg hd) ⟨rfl, rfl, trivial⟩ ?_) 
      rintro _ _ ⟨B6, rfl, rfl⟩
      iterate 5 refine pu rfl rfl rfl rfl rfl ?_
      refine tr_seq ?_
      refine tr_seq ?_
      refine tr_region fun _ _ _ => ?_
      iterate 2 refine pu rfl rfl rfl rfl rfl ?_
      refine tr_cond_bool rfl (fun h7 => ?_) (fun h7 => ?_)
      · try simp only [zbA] at h7
        first | exact absurd trivial h7 | exact absurd rfl h7 | omega | (exact absurd h7 (by simp)) --done
      · try simp only [zbA] at h7
        refine tr_skip ?_
        refine tr_seq ?_
        refine tr_region fun _ _ _ => ?_
        refine st rfl rfl rfl rfl (rLdS rfl rfl rfl) ?_
        refine pu rfl rfl rfl rfl rfl ?_
        refine ef rfl rfl (eCallV rfl rfl rfl (bch_Root_ok p m2 A2 c2 mod2 (by have := hE.short; omega) n hE.out) ⟨rfl, rfl, trivial⟩ ?_) 
        iterate 5 refine pu rfl rfl rfl rfl rfl ?_
        refine tr_seq ?_
        refine tr_region fun _ _ _ => ?_
        iterate 8 refine pu rfl rfl rfl rfl rfl ?_
        exact tr_ret ⟨trivial, _, _, rfl, ⟨_, _, rfl, g, B6, rfl, rfl, rfl, hg⟩, cs _ _, gfO_excl _ _ _, trivial, trivial⟩
end Go.Proofs.YtjmojhflnjbgaaaGreat

set_option linter.unusedSimpArgs false
set_option linter.unusedVariables false
set_option maxRecDepth 100000
namespace Go.Proofs.YtjmojhflnjbgaaaGreat
open Go.RowKit
theorem ref_PEval_ent : Enters Tryz.prog 125 := enters_of Tryz.func125 (by kernel_rfl) (by kernel_rfl)
theorem ref_PEval (p m : Int) (A : Option Addr) (c : Nat) (mod : List Int) [hF : IsF p m mod] (X : Option Addr) (nx cx : Nat) (ls : List Int) (hnx : nx = ls.length) (h9 : ls.length ≤ 1000000) (x : Int) :
    Pure Tryz.prog 125 #[.agg #[.int .i64 p, .int .i64 m, .slice A mod.length c], .slice X nx cx, .int .i64 x] [ro A (ints mod), ro X (ints ls)] (isV (.int .i64 (Po.val (pol ls : Po (El p m mod)) (el x)).1)) := by
  refine pure_of (args := [.agg #[.int .i64 p, .int .i64 m, .slice A mod.length c], .slice X nx cx, .int .i64 x]) 31 Tryz.func125 rfl rfl rfl ref_PEval_ent ⟨id, id, trivial⟩ (fun w0 => ?_)
  refine tr_seq ?_
  refine tr_region fun _ _ _ => ?_
  refine ef rfl rfl (eBox rfl rfl rfl rfl rfl (fun p0 => ?_)) 
  refine pu rfl rfl rfl rfl rfl ?_
  refine tr_seq ?_
  refine tr_region fun _ _ _ => ?_
  refine pu rfl rfl rfl rfl rfl ?_
  refine tr_seq ?_
  refine tr_region fun _ _ _ => ?_
  refine pu rfl rfl rfl rfl rfl ?_
  refine tr_seq ?_
  refine tr_seq ?_
  refine tr_region fun _ _ _ => ?_
  refine pu rfl rfl rfl rfl rfl ?_
  refine tr_block ?_
  refine tr_loop3 (fun (i : Int) (y : Int) (z : Int) => [(7, .int .i64 y), (8, .int .i64 z), (9, .int .i64 i), (1, .slice X nx cx), (2, .int .i64 x), (3, .pointer (some p0)), (6, .int .i64 0)]) (fun (i : Int) (y : Int) (z : Int) => [blk p0 24 [.int .i64 p, .int .i64 m, .slice A mod.length c], ro A (ints mod), ro X (ints ls)]) (fun (i : Int) (y : Int) (z : Int) => (0 ≤ i ∧ i ≤ nx) ∧ y = (Rg.sm i.toNat fun j => (el (ls.getD j 0) * Rg.pow (el x) j : El p m mod)).1 ∧ z = (Rg.pow (el x) i.toNat : El p m mod).1) (fun (i : Int) (y : Int) (z : Int) => (nx - i).toNat) (0) (0) (1) ⟨rfl, rfl, rfl, rfl, rfl, rfl, rfl, trivial⟩ (by first | exact cs _ _ | exact CSub.refl _) (⟨⟨by omega, by omega⟩, rfl, rfl⟩) (fun i y z hI => ?_)
  obtain ⟨⟨hi0, hi1⟩, hy, hz⟩ := hI
  refine tr_seq ?_
  refine tr_seq ?_
  refine tr_region fun _ _ _ => ?_
  iterate 2 refine pu rfl rfl rfl rfl rfl ?_
  refine st rfl rfl rfl rfl (rLen rfl rfl) ?_
  refine pu rfl rfl rfl rfl rfl ?_
  refine tr_cond_bool rfl (fun h4 => ?_) (fun h4 => ?_)
  · try simp only [zbA] at h4
    refine tr_skip ?_
    refine tr_seq ?_
    refine tr_block ?_
    refine tr_seq ?_
    refine tr_draw [0, 1, 2, 3, 4, 5, 6, 7, 8, 9, 10] [] mixed (by kernel_rfl) fun _ _ _ => ?_
    refine st rfl rfl rfl rfl (rLdS rfl rfl rfl) ?_
    refine pu rfl rfl rfl rfl rfl ?_
    refine st rfl rfl rfl rfl (rLdS rfl rfl rfl) ?_
    iterate 2 refine pu rfl rfl rfl rfl rfl ?_
    refine st rfl rfl rfl rfl (rIdxI rfl rfl rfl (by omega) (by omega) (by omega)) ?_
    refine st rfl rfl rfl rfl (rLdI rfl rfl (by omega)) ?_
    refine pu rfl rfl rfl rfl rfl ?_
    refine ef rfl rfl (eCallV rfl rfl rfl (ref_MulE _ _ _ _ _ _ _) ⟨rfl, rfl, rfl, trivial⟩ ?_) 
    refine ef rfl rfl (eCallV rfl rfl rfl (ref_AddE _ _ _ _ _ _ _) ⟨rfl, rfl, rfl, trivial⟩ ?_) 
    refine pu rfl rfl rfl rfl rfl ?_
    refine tr_region fun _ _ _ => ?_
    refine st rfl rfl rfl rfl (rLdS rfl rfl rfl) ?_
    iterate 2 refine pu rfl rfl rfl rfl rfl ?_
    refine ef rfl rfl (eCallV rfl rfl rfl (ref_MulE _ _ _ _ _ _ _) ⟨rfl, rfl, rfl, trivial⟩ ?_) 
    refine pu rfl rfl rfl rfl rfl ?_
    refine tr_region fun _ _ _ => ?_
    refine pu rfl rfl rfl rfl rfl ?_
    refine st rfl rfl rfl rfl (rAdd rfl rfl rfl (by omega) (by omega)) ?_
    refine pu rfl rfl rfl rfl rfl ?_
    refine ⟨i + 1, (el y + el (el (ls.getD i.toNat 0) * el z : El p m mod).1 : El p m mod).1, (el z * el x : El p m mod).1, ⟨rfl, rfl, rfl, rfl, rfl, rfl, rfl, trivial⟩, by first | exact cs _ _ | exact CSub.refl _, ?_⟩
    have hi2 : (i + 1).toNat = i.toNat + 1 := by omega
    refine ⟨⟨⟨by omega, by omega⟩, ?_, ?_⟩, by omega⟩
    · rw [hi2, Rg.sm_succ, hy, hz, el_of, el_of, el_of]
    · rw [hi2, Rg.pow_succ, hz, el_of]
  · try simp only [zbA] at h4
    refine tr_exit ?_
    refine tr_seq ?_
    refine tr_region fun _ _ _ => ?_
    iterate 2 refine pu rfl rfl rfl rfl rfl ?_
    have hi : i.toNat = ls.length := by omega
    rw [hi] at hy
    exact tr_ret ⟨trivial, _, _, rfl, ⟨by rw [hy, val_sum], rfl⟩, CSub.nil _, trivial⟩
theorem ref_PowE_ent : Enters Tryz.prog 128 := enters_of Tryz.func128 (by kernel_rfl) (by kernel_rfl)
theorem ref_PowE (p m : Int) (A : Option Addr) (c : Nat) (mod : List Int) [hF : IsF p m mod] (x k : Int) (hk : 0 ≤ k) (hk9 : k ≤ 1000000) :
    Pure Tryz.prog 128 #[.agg #[.int .i64 p, .int .i64 m, .slice A mod.length c], .int .i64 x, .int .i64 k] [ro A (ints mod)] (isV (.tuple #[.int .i64 (Rg.pow (el x : El p m mod) k.toNat).1, .int .i64 0])) := by
  have hor := hF.ord
  have hq2 := hF.q2
  have hq9 := hF.out.1.1.q
  have hix : (el x : El p m mod).1 = inI (ordI p m) x := by rw [hor]; rfl
  refine pure_of (args := [.agg #[.int .i64 p, .int .i64 m, .slice A mod.length c], .int .i64 x, .int .i64 k]) 44 Tryz.func128 rfl rfl rfl ref_PowE_ent ⟨id, trivial⟩ (fun w0 => ?_)
  refine tr_seq ?_
  refine tr_region fun _ _ _ => ?_
  refine ef rfl rfl (eBox rfl rfl rfl rfl rfl (fun p0 => ?_)) 
  iterate 2 refine pu rfl rfl rfl rfl rfl ?_
  refine tr_seq ?_
  refine tr_region fun _ _ _ => ?_
  refine st rfl rfl rfl rfl (rLdS rfl rfl rfl) ?_
  refine pu rfl rfl rfl rfl rfl ?_
  refine ef rfl rfl (eCallV rfl rfl rfl (ref_In _ _ _ _ _ _) ⟨rfl, rfl, trivial⟩ ?_) 
  refine pu rfl rfl rfl rfl rfl ?_
  refine tr_seq ?_
  refine tr_seq ?_
  refine tr_region fun _ _ _ => ?_
  iterate 2 refine pu rfl rfl rfl rfl rfl ?_
  refine tr_cond_bool rfl (fun h2 => ?_) (fun h2 => ?_)
  · try simp only [zbA] at h2
    refine tr_seq ?_
    refine tr_region fun _ _ _ => ?_
    iterate 2 refine pu rfl rfl rfl rfl rfl ?_
    exact tr_ret ⟨trivial, _, _, rfl, ⟨by rw [show k.toNat = 0 by omega]; rfl, rfl⟩, CSub.nil _, trivial⟩
  · try simp only [zbA] at h2
    refine tr_skip ?_
    refine tr_seq ?_
    refine tr_seq ?_
    refine tr_region fun _ _ _ => ?_
    iterate 3 refine pu rfl rfl rfl rfl rfl ?_
    refine stg rfl rfl rfl rfl rfl (fun hb => by (have hq := hb; try simp only [zbA] at hq); exact rMove rfl rfl) ?_
    refine stg rfl rfl rfl rfl rfl (fun hb => by (have hq := hb; try simp only [zbA] at hq); exact rLss rfl (evg rfl hb) rfl) ?_
    refine st rfl rfl rfl rfl (rAndB rfl rfl rfl rfl) ?_
    refine tr_cond_bool rfl (fun h4 => ?_) (fun h4 => ?_)
    · try simp only [zbA] at h4
      refine tr_seq ?_
      refine tr_region fun _ _ _ => ?_
      iterate 2 refine pu rfl rfl rfl rfl rfl ?_
      omega
    · try simp only [zbA] at h4
      refine tr_skip ?_
      refine tr_seq ?_
      refine tr_seq ?_
      refine tr_region fun _ _ _ => ?_
      iterate 2 refine pu rfl rfl rfl rfl rfl ?_
      refine tr_cond_bool rfl (fun h6 => ?_) (fun h6 => ?_)
      · try simp only [zbA] at h6
        refine tr_seq ?_
        refine tr_region fun _ _ _ => ?_
        iterate 2 refine pu rfl rfl rfl rfl rfl ?_
        exact tr_ret ⟨trivial, _, _, rfl, ⟨by
          have hx0 : (el x : El p m mod) = 0 := (val_zero_iff (el x : El p m mod)).1 (by omega)
          rw [hx0, Rg.zero_pow (by omega)]; rfl, rfl⟩, CSub.nil _, trivial⟩
      · try simp only [zbA] at h6
        refine tr_skip ?_
        refine tr_seq ?_
        have hx0 : (el x : El p m mod) ≠ 0 := fun e => by
          have := (val_zero_iff (el x : El p m mod)).2 e
          omega
        have e0 := Int.emod_nonneg k (show ordI p m - 1 ≠ 0 by omega)
        have e1 := Int.emod_lt_of_pos k (show 0 < ordI p m - 1 by omega)
        refine tr_region fun _ _ _ => ?_
        refine st rfl rfl rfl rfl (rLdS rfl rfl rfl) ?_
        refine ef rfl rfl (eCallV rfl rfl rfl (ref_order _ _ _ _ _) ⟨rfl, trivial⟩ ?_) 
        refine st rfl rfl rfl rfl (rSub rfl rfl rfl (by omega) (by omega)) ?_
        refine pu rfl rfl rfl rfl rfl ?_
        refine tr_seq ?_
        refine tr_region fun _ _ _ => ?_
        iterate 2 refine pu rfl rfl rfl rfl rfl ?_
        refine st rfl rfl rfl rfl (rRem rfl rfl rfl (by omega) (by omega)) ?_
        refine pu rfl rfl rfl rfl rfl ?_
        refine st rfl rfl rfl rfl (rAdd rfl rfl rfl (by omega) (by omega)) ?_
        refine pu rfl rfl rfl rfl rfl ?_
        refine st rfl rfl rfl rfl (rRem rfl rfl rfl (by omega) (by omega)) ?_
        refine pu rfl rfl rfl rfl rfl ?_
        refine tr_seq ?_
        have e2 : (k % (ordI p m - 1) + (ordI p m - 1)) % (ordI p m - 1) = k % (ordI p m - 1) := by rw [Int.add_emod_right, Int.emod_emod_of_dvd _ (Int.dvd_refl _)]
        rw [e2]
        refine tr_region fun _ _ _ => ?_
        refine pu rfl rfl rfl rfl rfl ?_
        refine tr_seq ?_
        refine tr_seq ?_
        refine tr_region fun _ _ _ => ?_
        refine pu rfl rfl rfl rfl rfl ?_
        refine tr_block ?_
        refine tr_loop2 (fun (i : Int) (y : Int) => [(9, .int .i64 y), (10, .int .i64 i), (1, .int .i64 (inI (ordI p m) x)), (2, .int .i64 (k % (ordI p m - 1))), (3, .pointer (some p0)), (6, .int .i64 0), (7, .int .i64 0)]) (fun (i : Int) (y : Int) => [blk p0 24 [.int .i64 p, .int .i64 m, .slice A mod.length c], ro A (ints mod)]) (fun (i : Int) (y : Int) => (0 ≤ i ∧ i ≤ k % (ordI p m - 1)) ∧ y = (Rg.pow (el x) i.toNat : El p m mod).1) (fun (i : Int) (y : Int) => (k % (ordI p m - 1) - i).toNat) (0) (1) ⟨rfl, rfl, rfl, rfl, rfl, rfl, rfl, trivial⟩ (by first | exact cs _ _ | exact CSub.refl _) (⟨⟨by omega, by omega⟩, rfl⟩) (fun i y hI => ?_)
        obtain ⟨⟨hi0, hi1⟩, hy⟩ := hI
        refine tr_seq ?_
        refine tr_seq ?_
        refine tr_region fun _ _ _ => ?_
        iterate 3 refine pu rfl rfl rfl rfl rfl ?_
        refine tr_cond_bool rfl (fun h12 => ?_) (fun h12 => ?_)
        · try simp only [zbA] at h12
          refine tr_skip ?_
          refine tr_seq ?_
          refine tr_block ?_
          refine tr_region fun _ _ _ => ?_
          refine st rfl rfl rfl rfl (rLdS rfl rfl rfl) ?_
          iterate 2 refine pu rfl rfl rfl rfl rfl ?_
          refine ef rfl rfl (eCallV rfl rfl rfl (ref_MulE _ _ _ _ _ _ _) ⟨rfl, rfl, rfl, trivial⟩ ?_) 
          refine pu rfl rfl rfl rfl rfl ?_
          refine tr_region fun _ _ _ => ?_
          refine pu rfl rfl rfl rfl rfl ?_
          refine st rfl rfl rfl rfl (rAdd rfl rfl rfl (by omega) (by omega)) ?_
          refine pu rfl rfl rfl rfl rfl ?_
          refine ⟨i + 1, (el y * el (inI (ordI p m) x) : El p m mod).1, ⟨rfl, rfl, rfl, rfl, rfl, rfl, rfl, trivial⟩, by first | exact cs _ _ | exact CSub.refl _, ?_⟩
          refine ⟨⟨⟨by omega, by omega⟩, ?_⟩, by omega⟩
          rw [show (i + 1).toNat = i.toNat + 1 by omega, Rg.pow_succ, hy, el_of, ← hix, el_of]
        · try simp only [zbA] at h12
          refine tr_exit ?_
          refine tr_seq ?_
          refine tr_region fun _ _ _ => ?_
          iterate 3 refine pu rfl rfl rfl rfl rfl ?_
          have hi : i.toNat = k.toNat % (pw p m - 1).toNat := by
            have h1 : i = k % (ordI p m - 1) := by omega
            rw [h1, hor]
            obtain ⟨b, hb⟩ := Int.eq_ofNat_of_zero_le hk
            obtain ⟨c, hc⟩ := Int.eq_ofNat_of_zero_le (show 0 ≤ pw p m - 1 by omega)
            rw [hb, hc, ← Int.natCast_emod]
            simp only [Int.toNat_natCast]
          rw [hi, pow_rem hx0] at hy
          exact tr_ret ⟨trivial, _, _, rfl, ⟨by rw [hy], rfl⟩, CSub.nil _, trivial⟩
theorem ref_DigitsE (p m : Int) (A : Option Addr) (c : Nat) (mod : List Int) [hF : IsF p m mod] (x : Int) (hx : 0 ≤ x ∧ x < pw p m) : Pure Tryz.prog 126 #[.agg #[.int .i64 p, .int .i64 m, .slice A mod.length c], .int .i64 x] [ro A (ints mod)] (one (fun v ch => ∃ B, v = .slice B m.toNat m.toNat ∧ ch = ow B 3 m.toNat (ints (digs p m.toNat x)))) := by
  have h := ref_Digits p m A c mod hF.out.1.1 x
  rw [inI_in hx.1 (by rw [hF.ord]; exact hx.2)] at h
  exact h
theorem ref_Emb1_ent : Enters Tryz.prog 57 := enters_of Tryz.func57 (by kernel_rfl) (by kernel_rfl)
theorem ref_Emb1 (p m : Int) (A : Option Addr) (c : Nat) (mod : List Int) [hF : IsF p m mod] (m2 : Int) (Ae : Option Addr) (ce : Nat) (mod2 : List Int) [hE : IsF p m2 mod2] (hd : m2 % m = 0) (hm : m = 1) :
    Pure Tryz.prog 57 #[.agg #[.int .i64 p, .int .i64 m, .slice A mod.length c], .agg #[.int .i64 p, .int .i64 m2, .slice Ae mod2.length ce]] [ro A (ints mod), ro Ae (ints mod2)] (one (fun v ch => ∃ B, v = .slice B (imL p m2 mod2 m (embR p m2 mod2 m mod)).length (imL p m2 mod2 m (embR p m2 mod2 m mod)).length ∧ ch = ow B 3 (imL p m2 mod2 m (embR p m2 mod2 m mod)).length (ints (imL p m2 mod2 m (embR p m2 mod2 m mod))))) := by
  have hl8 := hF.short
  have hm1 := hF.m1
  have hq2 := hF.q2
  have hor := hF.ord
  have hq9 := hF.out.1.1.q
  have hm8 := hF.out.1.1.m8
  have hrt : IsRt p m2 mod2 m mod 0 := ⟨by omega, by have := hE.q2; omega, fun _ => rfl, fun h => by omega, fun h => by omega⟩
  have hre := hrt.eq hm1
  refine pure_of (args := [.agg #[.int .i64 p, .int .i64 m, .slice A mod.length c], .agg #[.int .i64 p, .int .i64 m2, .slice Ae mod2.length ce]]) 47 Tryz.func57 rfl rfl rfl ref_Emb1_ent ⟨id, id, trivial⟩ (fun w0 => ?_)
  refine tr_seq ?_
  refine tr_region fun _ _ _ => ?_
  refine ef rfl rfl (eBox rfl rfl rfl rfl rfl (fun p0 => ?_)) 
  refine ef rfl rfl (eBox rfl rfl rfl rfl rfl (fun p0a => ?_)) 
  refine pu rfl rfl rfl rfl rfl ?_
  refine tr_seq ?_
  refine tr_region fun _ _ _ => ?_
  refine st rfl rfl rfl rfl (rLdS rfl rfl rfl) ?_
  refine ef rfl rfl (eCallV rfl rfl rfl (ref_order _ _ _ _ _) ⟨rfl, trivial⟩ ?_) 
  refine pu rfl rfl rfl rfl rfl ?_
  refine tr_seq ?_
  refine tr_region fun _ _ _ => ?_
  refine pu rfl rfl rfl rfl rfl ?_
  refine ef rfl rfl (eMakeI rfl rfl rfl rfl rfl (by omega) (by omega) (by omega) (fun A2 => ?_)) 
  refine pu rfl rfl rfl rfl rfl ?_
  rw [hor]
  refine tr_seq ?_
  refine tr_region fun _ _ _ => ?_
  refine ef rfl rfl (eLit0I rfl rfl rfl  (fun A3 => ?_)) 
  refine st rfl rfl rfl rfl (rFld rfl rfl) ?_
  refine st rfl rfl rfl rfl (rLdF rfl rfl rfl) ?_
  refine ef rfl rfl (eAppI rfl rfl rfl rfl rfl (by first | rfl | simp | omega) (by first | rfl | simp | omega) (by first | omega | (simp; omega)) (fun A3a c3a => ?_)) 
  refine ef rfl rfl (eLit1I rfl rfl rfl rfl (fun A3b => ?_)) 
  refine ef rfl rfl (eAppI rfl rfl rfl rfl rfl (by first | rfl | simp | omega) (by first | rfl | simp | omega) (by first | omega | (simp; omega)) (fun A3c c3c => ?_)) 
  refine pu rfl rfl rfl rfl rfl ?_
  simp only [List.nil_append]
  refine tr_seq ?_
  refine tr_region fun _ _ _ => ?_
  refine pu rfl rfl rfl rfl rfl ?_
  refine tr_seq ?_
  refine tr_block ?_
  refine tr_loop1 (fun (r : Int) => [(8, .int .i64 r), (5, .int .i64 (pw p m)), (6, .slice A2 (pw p m).toNat (pw p m).toNat), (7, .slice A3c (mod ++ [1]).length c3c), (2, .pointer (some p0)), (3, .pointer (some p0a)), (4, .slice none 0 0)]) (fun (r : Int) => [ow A2 3 (pw p m).toNat (ints (List.replicate (pw p m).toNat 0)), ow A3c 3 c3c (ints (mod ++ [1])), blk p0 24 [.int .i64 p, .int .i64 m, .slice A mod.length c], blk p0a 24 [.int .i64 p, .int .i64 m2, .slice Ae mod2.length ce], ro A (ints mod), ro Ae (ints mod2)]) (fun (r : Int) => r = embR p m2 mod2 m mod) (fun (r : Int) => 0) (0) ⟨rfl, rfl, rfl, rfl, rfl, rfl, rfl, trivial⟩ (by first | exact cs _ _ | exact CSub.refl _) (hre.symm) (fun r hI => ?_)
  refine tr_seq ?_
  refine tr_seq ?_
  refine tr_region fun _ _ _ => ?_
  refine st rfl rfl rfl rfl (rFld rfl rfl) ?_
  refine st rfl rfl rfl rfl (rLdF rfl rfl rfl) ?_
  iterate 2 refine pu rfl rfl rfl rfl rfl ?_
  refine skF rfl rfl (by simp <;> omega) rfl rfl ?_
  refine skF rfl rfl (by simp <;> omega) rfl rfl ?_
  refine skF rfl rfl (by simp <;> omega) rfl rfl ?_
  refine skF rfl rfl (by simp <;> omega) rfl rfl ?_
  refine skF rfl rfl (by simp <;> omega) rfl rfl ?_
  refine st rfl rfl rfl rfl (rPick0 rfl rfl (by simp <;> omega) rfl) ?_
  refine tr_cond_bool rfl (fun h5 => ?_) (fun h5 => ?_)
  · try simp only [zbA] at h5
    first | exact absurd trivial h5 | exact absurd rfl h5 | omega | (exact absurd h5 (by simp)) --done
  · try simp only [zbA] at h5
    refine tr_exit ?_
    refine tr_seq ?_
    refine tr_seq ?_
    subst hI
    refine tr_region fun _ _ _ => ?_
    refine pu rfl rfl rfl rfl rfl ?_
    refine tr_block ?_
    refine tr_loop2 (fun (x : Int) (o : List Int) => [(6, .slice A2 (pw p m).toNat (pw p m).toNat), (9, .int .i64 x), (5, .int .i64 (pw p m)), (8, .int .i64 (embR p m2 mod2 m mod)), (2, .pointer (some p0)), (3, .pointer (some p0a)), (4, .slice none 0 0)]) (fun (x : Int) (o : List Int) => [ow A2 3 (pw p m).toNat (ints o), blk p0 24 [.int .i64 p, .int .i64 m, .slice A mod.length c], blk p0a 24 [.int .i64 p, .int .i64 m2, .slice Ae mod2.length ce], ro A (ints mod), ro Ae (ints mod2)]) (fun (x : Int) (o : List Int) => (0 ≤ x ∧ x ≤ pw p m) ∧ o.length = (pw p m).toNat ∧ ∀ j : Nat, (j : Int) < x → o.getD j 0 = (Po.val (pol (digs p m.toNat j) : Po (El p m2 mod2)) (el (embR p m2 mod2 m mod))).1) (fun (x : Int) (o : List Int) => (pw p m - x).toNat) (0) (List.replicate (pw p m).toNat 0) ⟨rfl, rfl, rfl, rfl, rfl, rfl, rfl, trivial⟩ (by first | exact cs _ _ | exact CSub.refl _) (⟨⟨by omega, by omega⟩, by simp, fun j hj => by omega⟩) (fun x o hI => ?_)
    obtain ⟨⟨hx0, hx1⟩, hol, ho⟩ := hI
    refine tr_seq ?_
    refine tr_seq ?_
    refine tr_region fun _ _ _ => ?_
    iterate 3 refine pu rfl rfl rfl rfl rfl ?_
    refine tr_cond_bool rfl (fun h8 => ?_) (fun h8 => ?_)
    · try simp only [zbA] at h8
      refine tr_skip ?_
      refine tr_seq ?_
      refine tr_block ?_
      refine tr_draw [0, 1, 2, 3, 4, 6, 5, 7, 8] [9] mixed (by kernel_rfl) fun _ _ _ => ?_
      iterate 2 refine pu rfl rfl rfl rfl rfl ?_
      refine st rfl rfl rfl rfl (rLdS rfl rfl rfl) ?_
      refine st rfl rfl rfl rfl (rLdS rfl rfl rfl) ?_
      iterate 2 refine pu rfl rfl rfl rfl rfl ?_
      refine ef rfl rfl (eCall1 rfl rfl rfl (ref_DigitsE p m A c mod x ⟨by omega, by omega⟩) ⟨rfl, rfl, trivial⟩ ?_) 
      rintro _ _ ⟨Bd, rfl, rfl⟩
      refine ef rfl rfl (eCallV rfl rfl rfl (ref_PEval p m2 Ae ce mod2 Bd _ _ (digs p m.toNat x) (digs_len _ _ _).symm (by rw [digs_len]; omega) (embR p m2 mod2 m mod)) ⟨rfl, rfl, rfl, trivial⟩ ?_) 
      refine st rfl rfl rfl rfl (rIdxI rfl rfl rfl (by omega) (by omega) (by omega)) ?_
      refine ef rfl rfl (eStI rfl rfl rfl rfl (by omega) ?_) 
      refine tr_region fun _ _ _ => ?_
      refine pu rfl rfl rfl rfl rfl ?_
      refine st rfl rfl rfl rfl (rAdd rfl rfl rfl (by omega) (by omega)) ?_
      refine pu rfl rfl rfl rfl rfl ?_
      refine ⟨x + 1, o.set x.toNat (Po.val (pol (digs p m.toNat x) : Po (El p m2 mod2)) (el (embR p m2 mod2 m mod))).1, ⟨rfl, rfl, rfl, rfl, rfl, rfl, rfl, trivial⟩, by first | exact cs _ _ | exact CSub.refl _, ?_⟩
      refine ⟨⟨⟨by omega, by omega⟩, by simpa using hol, fun j hj => ?_⟩, by omega⟩
      rw [getD_set]
      by_cases he : x.toNat = j
      · subst he; rw [if_pos ⟨rfl, by omega⟩, Int.toNat_of_nonneg hx0]
      · rw [if_neg (fun e => he e.1)]; exact ho j (by omega)
    · try simp only [zbA] at h8
      refine tr_exit ?_
      refine tr_seq ?_
      refine tr_region fun _ _ _ => ?_
      iterate 2 refine pu rfl rfl rfl rfl rfl ?_
      have hfin : o = (imL p m2 mod2 m (embR p m2 mod2 m mod)) := ext_getD (by rw [imL_length]; exact hol) fun j => by
        by_cases hj : j < (pw p m).toNat
        · rw [imL_get _ _ hj]; exact ho j (by omega)
        · rw [getD_out (by omega), getD_out (by rw [imL_length]; omega)]
      have hol2 : (pw p m).toNat = (imL p m2 mod2 m (embR p m2 mod2 m mod)).length := (imL_length _ _).symm
      exact tr_ret ⟨trivial, _, _, rfl, ⟨_, rfl, A2, by rw [hol2], by rw [← hfin, hol]⟩, cs _ _, trivial, trivial⟩
theorem ref_Emb2_ent : Enters Tryz.prog 57 := enters_of Tryz.func57 (by kernel_rfl) (by kernel_rfl)
theorem ref_Emb2 (p m : Int) (A : Option Addr) (c : Nat) (mod : List Int) [hF : IsF p m mod] (m2 : Int) (Ae : Option Addr) (ce : Nat) (mod2 : List Int) [hE : IsF p m2 mod2] (hd : m2 % m = 0) (hm : 2 ≤ m) (hrt : IsRt p m2 mod2 m mod (embR p m2 mod2 m mod)) :
    Pure Tryz.prog 57 #[.agg #[.int .i64 p, .int .i64 m, .slice A mod.length c], .agg #[.int .i64 p, .int .i64 m2, .slice Ae mod2.length ce]] [ro A (ints mod), ro Ae (ints mod2)] (one (fun v ch => ∃ B, v = .slice B (imL p m2 mod2 m (embR p m2 mod2 m mod)).length (imL p m2 mod2 m (embR p m2 mod2 m mod)).length ∧ ch = ow B 3 (imL p m2 mod2 m (embR p m2 mod2 m mod)).length (ints (imL p m2 mod2 m (embR p m2 mod2 m mod))))) := by
  have hl8 := hF.short
  have hm1 := hF.m1
  have hq2 := hF.q2
  have hor := hF.ord
  have hq9 := hF.out.1.1.q
  have hm8 := hF.out.1.1.m8
  have hlo := hrt.lo
  have hq29 := hE.out.1.1.q
  have hhi := hrt.hi
  refine pure_of (args := [.agg #[.int .i64 p, .int .i64 m, .slice A mod.length c], .agg #[.int .i64 p, .int .i64 m2, .slice Ae mod2.length ce]]) 47 Tryz.func57 rfl rfl rfl ref_Emb2_ent ⟨id, id, trivial⟩ (fun w0 => ?_)
  refine tr_seq ?_
  refine tr_region fun _ _ _ => ?_
  refine ef rfl rfl (eBox rfl rfl rfl rfl rfl (fun p0 => ?_)) 
  refine ef rfl rfl (eBox rfl rfl rfl rfl rfl (fun p0a => ?_)) 
  refine pu rfl rfl rfl rfl rfl ?_
  refine tr_seq ?_
  refine tr_region fun _ _ _ => ?_
  refine st rfl rfl rfl rfl (rLdS rfl rfl rfl) ?_
  refine ef rfl rfl (eCallV rfl rfl rfl (ref_order _ _ _ _ _) ⟨rfl, trivial⟩ ?_) 
  refine pu rfl rfl rfl rfl rfl ?_
  refine tr_seq ?_
  refine tr_region fun _ _ _ => ?_
  refine pu rfl rfl rfl rfl rfl ?_
  refine ef rfl rfl (eMakeI rfl rfl rfl rfl rfl (by omega) (by omega) (by omega) (fun A2 => ?_)) 
  refine pu rfl rfl rfl rfl rfl ?_
  rw [hor]
  refine tr_seq ?_
  refine tr_region fun _ _ _ => ?_
  refine ef rfl rfl (eLit0I rfl rfl rfl  (fun A3 => ?_)) 
  refine st rfl rfl rfl rfl (rFld rfl rfl) ?_
  refine st rfl rfl rfl rfl (rLdF rfl rfl rfl) ?_
  refine ef rfl rfl (eAppI rfl rfl rfl rfl rfl (by first | rfl | simp | omega) (by first | rfl | simp | omega) (by first | omega | (simp; omega)) (fun A3a c3a => ?_)) 
  refine ef rfl rfl (eLit1I rfl rfl rfl rfl (fun A3b => ?_)) 
  refine ef rfl rfl (eAppI rfl rfl rfl rfl rfl (by first | rfl | simp | omega) (by first | rfl | simp | omega) (by first | omega | (simp; omega)) (fun A3c c3c => ?_)) 
  refine pu rfl rfl rfl rfl rfl ?_
  simp only [List.nil_append]
  refine tr_seq ?_
  refine tr_region fun _ _ _ => ?_
  refine pu rfl rfl rfl rfl rfl ?_
  refine tr_seq ?_
  refine tr_block ?_
  refine tr_loop1 (fun (r : Int) => [(8, .int .i64 r), (5, .int .i64 (pw p m)), (6, .slice A2 (pw p m).toNat (pw p m).toNat), (7, .slice A3c (mod ++ [1]).length c3c), (2, .pointer (some p0)), (3, .pointer (some p0a)), (4, .slice none 0 0)]) (fun (r : Int) => [ow A2 3 (pw p m).toNat (ints (List.replicate (pw p m).toNat 0)), ow A3c 3 c3c (ints (mod ++ [1])), blk p0 24 [.int .i64 p, .int .i64 m, .slice A mod.length c], blk p0a 24 [.int .i64 p, .int .i64 m2, .slice Ae mod2.length ce], ro A (ints mod), ro Ae (ints mod2)]) (fun (r : Int) => 0 ≤ r ∧ r ≤ embR p m2 mod2 m mod) (fun (r : Int) => (embR p m2 mod2 m mod - r).toNat) (0) ⟨rfl, rfl, rfl, rfl, rfl, rfl, rfl, trivial⟩ (by first | exact cs _ _ | exact CSub.refl _) (by omega) (fun r hI => ?_)
  obtain ⟨hr0, hr1⟩ := hI
  refine tr_seq ?_
  refine tr_seq ?_
  refine tr_region fun _ _ _ => ?_
  refine st rfl rfl rfl rfl (rFld rfl rfl) ?_
  refine st rfl rfl rfl rfl (rLdF rfl rfl rfl) ?_
  iterate 2 refine pu rfl rfl rfl rfl rfl ?_
  refine stT rfl rfl rfl (by simp <;> omega) rfl rfl (rLdS rfl rfl rfl) ?_
  refine stT rfl rfl rfl (by simp <;> omega) rfl rfl (rMove rfl rfl) ?_
  refine stT rfl rfl rfl (by simp <;> omega) rfl rfl (rMove rfl rfl) ?_
  refine efT rfl rfl rfl (by simp <;> omega) (eCallV rfl rfl rfl (ref_PEval p m2 Ae ce mod2 A3c _ c3c (mod ++ [1]) rfl (by simp; omega) r) ⟨rfl, rfl, rfl, trivial⟩ ?_) 
  refine stT rfl rfl rfl (by simp <;> omega) rfl rfl (rNeq rfl rfl rfl) ?_
  refine st rfl rfl rfl rfl (rPick1 rfl rfl (by simp <;> omega) rfl) ?_
  refine tr_cond_bool rfl (fun h5 => ?_) (fun h5 => ?_)
  · try simp only [zbA] at h5
    refine tr_skip ?_
    refine tr_block ?_
    refine tr_region fun _ _ _ => ?_
    refine pu rfl rfl rfl rfl rfl ?_
    refine st rfl rfl rfl rfl (rAdd rfl rfl rfl (by omega) (by omega)) ?_
    refine pu rfl rfl rfl rfl rfl ?_
    refine ⟨r + 1, ⟨rfl, rfl, rfl, rfl, rfl, rfl, rfl, trivial⟩, by first | exact cs _ _ | exact CSub.refl _, ?_⟩
    have hne : r ≠ embR p m2 mod2 m mod := fun e => by
      rw [e, hrt.root hm] at h5
      first | exact h5 rfl | exact h5.2 rfl | simp at h5 | (have h6 : ((0 : El p m2 mod2).1 : Int) = 0 := rfl; omega)
    exact ⟨⟨by omega, by omega⟩, by omega⟩
  · try simp only [zbA] at h5
    refine tr_exit ?_
    refine tr_seq ?_
    refine tr_seq ?_
    have hre : r = embR p m2 mod2 m mod := by
      rcases Int.lt_or_le r (embR p m2 mod2 m mod) with h | h
      · have h6 := hrt.least hm r hr0 h
        exact absurd ((val_zero_iff _).1 (by first | exact h5 | omega | simpa using h5)) h6
      · omega
    subst hre
    refine tr_region fun _ _ _ => ?_
    refine pu rfl rfl rfl rfl rfl ?_
    refine tr_block ?_
    refine tr_loop2 (fun (x : Int) (o : List Int) => [(6, .slice A2 (pw p m).toNat (pw p m).toNat), (9, .int .i64 x), (5, .int .i64 (pw p m)), (8, .int .i64 (embR p m2 mod2 m mod)), (2, .pointer (some p0)), (3, .pointer (some p0a)), (4, .slice none 0 0)]) (fun (x : Int) (o : List Int) => [ow A2 3 (pw p m).toNat (ints o), blk p0 24 [.int .i64 p, .int .i64 m, .slice A mod.length c], blk p0a 24 [.int .i64 p, .int .i64 m2, .slice Ae mod2.length ce], ro A (ints mod), ro Ae (ints mod2)]) (fun (x : Int) (o : List Int) => (0 ≤ x ∧ x ≤ pw p m) ∧ o.length = (pw p m).toNat ∧ ∀ j : Nat, (j : Int) < x → o.getD j 0 = (Po.val (pol (digs p m.toNat j) : Po (El p m2 mod2)) (el (embR p m2 mod2 m mod))).1) (fun (x : Int) (o : List Int) => (pw p m - x).toNat) (0) (List.replicate (pw p m).toNat 0) ⟨rfl, rfl, rfl, rfl, rfl, rfl, rfl, trivial⟩ (by first | exact cs _ _ | exact CSub.refl _) (⟨⟨by omega, by omega⟩, by simp, fun j hj => by omega⟩) (fun x o hI => ?_)
    obtain ⟨⟨hx0, hx1⟩, hol, ho⟩ := hI
    refine tr_seq ?_
    refine tr_seq ?_
    refine tr_region fun _ _ _ => ?_
    iterate 3 refine pu rfl rfl rfl rfl rfl ?_
    refine tr_cond_bool rfl (fun h8 => ?_) (fun h8 => ?_)
    · try simp only [zbA] at h8
      refine tr_skip ?_
      refine tr_seq ?_
      refine tr_block ?_
      refine tr_draw [0, 1, 2, 3, 4, 6, 5, 7, 8] [9] mixed (by kernel_rfl) fun _ _ _ => ?_
      iterate 2 refine pu rfl rfl rfl rfl rfl ?_
      refine st rfl rfl rfl rfl (rLdS rfl rfl rfl) ?_
      refine st rfl rfl rfl rfl (rLdS rfl rfl rfl) ?_
      iterate 2 refine pu rfl rfl rfl rfl rfl ?_
      refine ef rfl rfl (eCall1 rfl rfl rfl (ref_DigitsE p m A c mod x ⟨by omega, by omega⟩) ⟨rfl, rfl, trivial⟩ ?_) 
      rintro _ _ ⟨Bd, rfl, rfl⟩
      refine ef rfl rfl (eCallV rfl rfl rfl (ref_PEval p m2 Ae ce mod2 Bd _ _ (digs p m.toNat x) (digs_len _ _ _).symm (by rw [digs_len]; omega) (embR p m2 mod2 m mod)) ⟨rfl, rfl, rfl, trivial⟩ ?_) 
      refine st rfl rfl rfl rfl (rIdxI rfl rfl rfl (by omega) (by omega) (by omega)) ?_
      refine ef rfl rfl (eStI rfl rfl rfl rfl (by omega) ?_) 
      refine tr_region fun _ _ _ => ?_
      refine pu rfl rfl rfl rfl rfl ?_
      refine st rfl rfl rfl rfl (rAdd rfl rfl rfl (by omega) (by omega)) ?_
      refine pu rfl rfl rfl rfl rfl ?_
      refine ⟨x + 1, o.set x.toNat (Po.val (pol (digs p m.toNat x) : Po (El p m2 mod2)) (el (embR p m2 mod2 m mod))).1, ⟨rfl, rfl, rfl, rfl, rfl, rfl, rfl, trivial⟩, by first | exact cs _ _ | exact CSub.refl _, ?_⟩
      refine ⟨⟨⟨by omega, by omega⟩, by simpa using hol, fun j hj => ?_⟩, by omega⟩
      rw [getD_set]
      by_cases he : x.toNat = j
      · subst he; rw [if_pos ⟨rfl, by omega⟩, Int.toNat_of_nonneg hx0]
      · rw [if_neg (fun e => he e.1)]; exact ho j (by omega)
    · try simp only [zbA] at h8
      refine tr_exit ?_
      refine tr_seq ?_
      refine tr_region fun _ _ _ => ?_
      iterate 2 refine pu rfl rfl rfl rfl rfl ?_
      have hfin : o = (imL p m2 mod2 m (embR p m2 mod2 m mod)) := ext_getD (by rw [imL_length]; exact hol) fun j => by
        by_cases hj : j < (pw p m).toNat
        · rw [imL_get _ _ hj]; exact ho j (by omega)
        · rw [getD_out (by omega), getD_out (by rw [imL_length]; omega)]
      have hol2 : (pw p m).toNat = (imL p m2 mod2 m (embR p m2 mod2 m mod)).length := (imL_length _ _).symm
      exact tr_ret ⟨trivial, _, _, rfl, ⟨_, rfl, A2, by rw [hol2], by rw [← hfin, hol]⟩, cs _ _, trivial, trivial⟩
theorem embR_is {p m m2 : Int} {mod mod2 : List Int} [hF : IsF p m mod] [hE : IsF p m2 mod2] (hm : 2 ≤ m) (hd : m2 % m = 0) : IsRt p m2 mod2 m mod (embR p m2 mod2 m mod) := by
  obtain ⟨_, h⟩ := rt_of_head (p := p) (m := m) (mod := mod) (m2 := m2) (mod2 := mod2) hm hd rfl
  rw [h.eq (by omega)]; exact h
theorem ref_Emb (p m : Int) (A : Option Addr) (c : Nat) (mod : List Int) [hF : IsF p m mod] (m2 : Int) (Ae : Option Addr) (ce : Nat) (mod2 : List Int) [hE : IsF p m2 mod2] (hd : m2 % m = 0) : Pure Tryz.prog 57 #[.agg #[.int .i64 p, .int .i64 m, .slice A mod.length c], .agg #[.int .i64 p, .int .i64 m2, .slice Ae mod2.length ce]] [ro A (ints mod), ro Ae (ints mod2)] (one (fun v ch => ∃ B, v = .slice B (imL p m2 mod2 m (embR p m2 mod2 m mod)).length (imL p m2 mod2 m (embR p m2 mod2 m mod)).length ∧ ch = ow B 3 (imL p m2 mod2 m (embR p m2 mod2 m mod)).length (ints (imL p m2 mod2 m (embR p m2 mod2 m mod))))) := by
  have h1 := hF.m1
  by_cases hm : m = 1
  · exact ref_Emb1 p m A c mod m2 Ae ce mod2 hd hm
  · exact ref_Emb2 p m A c mod m2 Ae ce mod2 hd (by omega) (embR_is (by omega) hd)
theorem map_im (im ws : List Int) {j : Nat} (hj : j < ws.length) : (ws.map (fun y : Int => im.getD y.toNat 0)).getD j 0 = im.getD (ws.getD j 0).toNat 0 := by
  rw [List.getD_eq_getElem?_getD, List.getElem?_map, List.getElem?_eq_getElem hj, List.getD_eq_getElem?_getD (l := ws), List.getElem?_eq_getElem hj]; rfl
theorem rootArgs_is {p m : Int} {mod : List Int} (hF : FldR p m mod) {n : Int} (h1 : 1 ≤ n) (h2 : n ≤ 64) : rootArgs p m mod n = if rootI p m mod n = 0 then 11 else 0 := by
  unfold rootArgs; rw [if_neg (by rw [chkF_ok hF]; simp), if_neg (by omega)]
theorem ref_Over_ent : Enters Tryz.prog 102 := enters_of Tryz.func102 (by kernel_rfl) (by kernel_rfl)
theorem ref_Over (p m : Int) (A : Option Addr) (c : Nat) (mod : List Int) (hm : 1 ≤ m) (p2 m2 : Int) (Ae : Option Addr) (ce : Nat) (mod2 : List Int) (hm2 : 1 ≤ m2) :
    Pure Tryz.prog 102 #[.agg #[.int .i64 p, .int .i64 m, .slice A mod.length c], .agg #[.int .i64 p2, .int .i64 m2, .slice Ae mod2.length ce]] [] (isV (.bool (decide (p = p2) && decide (m2 % m = 0)))) := by
  refine pure_of (args := [.agg #[.int .i64 p, .int .i64 m, .slice A mod.length c], .agg #[.int .i64 p2, .int .i64 m2, .slice Ae mod2.length ce]]) 18 Tryz.func102 rfl rfl rfl ref_Over_ent trivial (fun w0 => ?_)
  refine tr_seq ?_
  refine tr_region fun _ _ _ => ?_
  refine ef rfl rfl (eBox rfl rfl rfl rfl rfl (fun p0 => ?_)) 
  refine ef rfl rfl (eBox rfl rfl rfl rfl rfl (fun p0a => ?_)) 
  refine pu rfl rfl rfl rfl rfl ?_
  refine tr_seq ?_
  refine tr_region fun _ _ _ => ?_
  refine st rfl rfl rfl rfl (rFld rfl rfl) ?_
  refine st rfl rfl rfl rfl (rLdF rfl rfl rfl) ?_
  refine st rfl rfl rfl rfl (rFld rfl rfl) ?_
  refine st rfl rfl rfl rfl (rLdF rfl rfl rfl) ?_
  iterate 2 refine pu rfl rfl rfl rfl rfl ?_
  refine stg rfl rfl rfl rfl rfl (fun hb => by (have hq := hb; try simp only [zbA] at hq); exact rFld rfl rfl) ?_
  refine stg rfl rfl rfl rfl rfl (fun hb => by (have hq := hb; try simp only [zbA] at hq); exact rLdF rfl (evg rfl hb) rfl) ?_
  refine stg rfl rfl rfl rfl rfl (fun hb => by (have hq := hb; try simp only [zbA] at hq); exact rFld rfl rfl) ?_
  refine stg rfl rfl rfl rfl rfl (fun hb => by (have hq := hb; try simp only [zbA] at hq); exact rLdF rfl (evg rfl hb) rfl) ?_
  refine stg rfl rfl rfl rfl rfl (fun hb => by (have hq := hb; try simp only [zbA] at hq); exact rRem rfl (evg rfl hb) (evg rfl hb) (by omega) (by omega)) ?_
  refine stg rfl rfl rfl rfl rfl (fun hb => by (have hq := hb; try simp only [zbA] at hq); exact rEql rfl (evg rfl hb) rfl) ?_
  refine st rfl rfl rfl rfl (rAndB rfl rfl rfl rfl) ?_
  refine pu rfl rfl rfl rfl rfl ?_
  exact tr_ret ⟨trivial, _, _, rfl, ⟨rfl, rfl⟩, CSub.nil _, trivial⟩
end Go.Proofs.YtjmojhflnjbgaaaGreat

set_option linter.unusedSimpArgs false
set_option linter.unusedVariables false
set_option maxRecDepth 100000
namespace Go.Proofs.YtjmojhflnjbgaaaGreat
open Go.RowKit
theorem poly_product_ent : Enters Tryz.prog 175 := enters_of Tryz.func175 (by kernel_rfl) (by kernel_rfl)
theorem poly_product (g : GfM) {p m : Int} {mod : List Int} [hF : IsF p m mod] (hg : GOk g p m mod) (A : Option Addr) (n c : Nat) (a : List Int) (hn : n = a.length) (ha9 : a.length ≤ 1000000) (B : Option Addr) (k d : Nat) (b : List Int) (hk : k = b.length) (hb9 : b.length ≤ 1000000) :
    Pure Tryz.prog 175 #[.pointer (some g.p), .slice A n c, .slice B k d] [gfR g, ro A (ints a), ro B (ints b)] (one (fun v ch => ∃ B cap, v = .slice B (il ((pol a : Po (El p m mod)) * (pol b : Po (El p m mod)))).length cap ∧ ch = ow B 3 cap (ints (il ((pol a : Po (El p m mod)) * (pol b : Po (El p m mod))))))) := by
  have hq2 := hF.q2
  have hla := il_le (p := p) (m := m) (mod := mod) a
  have hlb := il_le (p := p) (m := m) (mod := mod) b
  refine pure_of (args := [.pointer (some g.p), .slice A n c, .slice B k d]) 67 Tryz.func175 rfl rfl rfl poly_product_ent ⟨id, id, id, trivial⟩ (fun w0 => ?_)
  refine tr_seq ?_
  refine tr_region fun _ _ _ => ?_
  refine pu rfl rfl rfl rfl rfl ?_
  refine tr_seq ?_
  refine tr_region fun _ _ _ => ?_
  iterate 2 refine pu rfl rfl rfl rfl rfl ?_
  refine ef rfl rfl (eCall1 rfl rfl rfl (poly_CanonE g hg A n c a hn (by omega)) ⟨rfl, rfl, trivial⟩ ?_) 
  rintro _ _ ⟨B1, c1, rfl, hcap1, rfl⟩
  iterate 2 refine pu rfl rfl rfl rfl rfl ?_
  refine ef rfl rfl (eCall1 rfl rfl rfl (poly_CanonE g hg B k d b hk (by omega)) ⟨rfl, rfl, trivial⟩ ?_) 
  rintro _ _ ⟨B1a, c1a, rfl, hcap1a, rfl⟩
  iterate 2 refine pu rfl rfl rfl rfl rfl ?_
  refine tr_seq ?_
  refine tr_seq ?_
  refine tr_region fun _ _ _ => ?_
  refine pu rfl rfl rfl rfl rfl ?_
  refine st rfl rfl rfl rfl (rLen rfl rfl) ?_
  iterate 2 refine pu rfl rfl rfl rfl rfl ?_
  refine stg rfl rfl rfl rfl rfl (fun hb => by (have hq := hb; try simp only [zbA] at hq); exact rMove rfl rfl) ?_
  refine stg rfl rfl rfl rfl rfl (fun hb => by (have hq := hb; try simp only [zbA] at hq); exact rLen rfl (evg rfl hb)) ?_
  refine stg rfl rfl rfl rfl rfl (fun hb => by (have hq := hb; try simp only [zbA] at hq); exact rEql rfl (evg rfl hb) rfl) ?_
  refine st rfl rfl rfl rfl (rOrB rfl rfl rfl rfl) ?_
  refine tr_cond_bool rfl (fun h2 => ?_) (fun h2 => ?_)
  · try simp only [zbA] at h2
    refine tr_seq ?_
    refine tr_nilI 3 ?_
    refine tr_region fun _ _ _ => ?_
    refine pu rfl rfl rfl rfl rfl ?_
    have h0 : (pol a : Po (El p m mod)) * (pol b : Po (El p m mod)) = 0 := by
      rcases h2 with h | h
      · rw [Po.eq_zero_of_len (f := (pol a : Po (El p m mod))) (by rw [← il_length]; omega), Rg.zero_mul]
      · rw [Po.eq_zero_of_len (f := (pol b : Po (El p m mod))) (by rw [← il_length]; omega), Rg.mul_zero]
    rw [h0, il_zero]
    exact tr_ret ⟨trivial, _, _, rfl, ⟨_, rfl, none, 0, rfl, rfl⟩, cs _ _, trivial, trivial⟩
  · try simp only [zbA] at h2
    refine tr_skip ?_
    refine tr_seq ?_
    refine tr_region fun _ _ _ => ?_
    refine pu rfl rfl rfl rfl rfl ?_
    refine st rfl rfl rfl rfl (rLen rfl rfl) ?_
    refine pu rfl rfl rfl rfl rfl ?_
    refine st rfl rfl rfl rfl (rLen rfl rfl) ?_
    refine st rfl rfl rfl rfl (rAdd rfl rfl rfl (by omega) (by omega)) ?_
    refine st rfl rfl rfl rfl (rSub rfl rfl rfl (by omega) (by omega)) ?_
    refine ef rfl rfl (eMakeI rfl rfl rfl rfl rfl (by omega) (by omega) (by omega) (fun A4 => ?_)) 
    refine pu rfl rfl rfl rfl rfl ?_
    generalize hN : (((il (pol a : Po (El p m mod))).length : Int) + (il (pol b : Po (El p m mod))).length - 1).toNat = N
    refine tr_seq ?_
    refine tr_seq ?_
    refine tr_region fun _ _ _ => ?_
    refine pu rfl rfl rfl rfl rfl ?_
    refine st rfl rfl rfl rfl (rLen rfl rfl) ?_
    refine pu rfl rfl rfl rfl rfl ?_
    refine tr_block ?_
    refine tr_loop2 (fun (i : Int) (o : List Int) => [(7, .slice A4 N N), (1, .slice B1 (il (pol a : Po (El p m mod))).length c1), (2, .slice B1a (il (pol b : Po (El p m mod))).length c1a), (33, .slice B1 (il (pol a : Po (El p m mod))).length c1), (34, .int .i64 (il (pol a : Po (El p m mod))).length), (35, .int .i64 i), (0, .pointer (some g.p)), (6, .slice none 0 0)]) (fun (i : Int) (o : List Int) => [ow A4 3 N (ints o), ow B1a 3 c1a (ints (il (pol b : Po (El p m mod)))), ow B1 3 c1 (ints (il (pol a : Po (El p m mod)))), gfR g, ro A (ints a), ro B (ints b)]) (fun (i : Int) (o : List Int) => (0 ≤ i ∧ i ≤ (il (pol a : Po (El p m mod))).length) ∧ (o.length = N ∧ AllIn (pw p m) o) ∧ (pol o : Po (El p m mod)) = pol ((il (pol a : Po (El p m mod))).take i.toNat) * (pol b : Po (El p m mod))) (fun (i : Int) (o : List Int) => (((il (pol a : Po (El p m mod))).length : Int) - i).toNat) (0) (List.replicate N 0) ⟨rfl, rfl, rfl, rfl, rfl, rfl, rfl, rfl, trivial⟩ (by first | exact cs _ _ | exact CSub.refl _) (⟨⟨by omega, by omega⟩, ⟨by simp, allIn_rep (by omega) _⟩, by rw [pol_rep, Int.toNat_zero, pol_take_zero]; grind⟩) (fun i o hI => ?_)
    obtain ⟨⟨hi0, hi1⟩, ⟨hol, hoi⟩, ho⟩ := hI
    refine tr_seq ?_
    refine tr_region fun _ _ _ => ?_
    refine pu rfl rfl rfl rfl rfl ?_
    refine tr_seq ?_
    refine tr_cond_bool rfl (fun h6 => ?_) (fun h6 => ?_)
    · try simp only [zbA] at h6
      refine tr_skip ?_
      refine tr_seq ?_
      refine tr_block ?_
      refine tr_seq ?_
      refine tr_region fun _ _ _ => ?_
      refine pu rfl rfl rfl rfl rfl ?_
      refine st rfl rfl rfl rfl (rIdxI rfl rfl rfl (by omega) (by omega) (by omega)) ?_
      refine st rfl rfl rfl rfl (rLdI rfl rfl (by omega)) ?_
      iterate 2 refine pu rfl rfl rfl rfl rfl ?_
      refine tr_seq ?_
      refine tr_region fun _ _ _ => ?_
      refine pu rfl rfl rfl rfl rfl ?_
      refine st rfl rfl rfl rfl (rLen rfl rfl) ?_
      refine pu rfl rfl rfl rfl rfl ?_
      refine tr_block ?_
      refine tr_loop2 (fun (j : Int) (o2 : List Int) => [(7, .slice A4 N N), (1, .slice B1 (il (pol a : Po (El p m mod))).length c1), (2, .slice B1a (il (pol b : Po (El p m mod))).length c1a), (40, .slice B1a (il (pol b : Po (El p m mod))).length c1a), (41, .int .i64 (il (pol b : Po (El p m mod))).length), (42, .int .i64 j), (9, .int .i64 ((il (pol a : Po (El p m mod))).getD i.toNat 0)), (0, .pointer (some g.p)), (6, .slice none 0 0), (8, .int .i64 i), (33, .slice B1 (il (pol a : Po (El p m mod))).length c1), (34, .int .i64 (il (pol a : Po (El p m mod))).length), (35, .int .i64 i), (37, .int .i64 i)]) (fun (j : Int) (o2 : List Int) => [ow A4 3 N (ints o2), ow B1a 3 c1a (ints (il (pol b : Po (El p m mod)))), ow B1 3 c1 (ints (il (pol a : Po (El p m mod)))), gfR g, ro A (ints a), ro B (ints b)]) (fun (j : Int) (o2 : List Int) => (0 ≤ j ∧ j ≤ (il (pol b : Po (El p m mod))).length) ∧ (o2.length = N ∧ AllIn (pw p m) o2) ∧ (pol o2 : Po (El p m mod)) = pol ((il (pol a : Po (El p m mod))).take i.toNat) * (pol b : Po (El p m mod)) + Po.mn (el ((il (pol a : Po (El p m mod))).getD i.toNat 0)) i.toNat * pol ((il (pol b : Po (El p m mod))).take j.toNat)) (fun (j : Int) (o2 : List Int) => (((il (pol b : Po (El p m mod))).length : Int) - j).toNat) (0) (o) ⟨rfl, rfl, rfl, rfl, rfl, rfl, rfl, rfl, rfl, rfl, rfl, rfl, rfl, rfl, trivial⟩ (by first | exact cs _ _ | exact CSub.refl _) (⟨⟨by omega, by omega⟩, ⟨hol, hoi⟩, by rw [ho, Int.toNat_zero, pol_take_zero]; grind⟩) (fun j o2 hI => ?_)
      obtain ⟨⟨hj0, hj1⟩, ⟨ho2l, ho2i⟩, ho2⟩ := hI
      refine tr_seq ?_
      refine tr_region fun _ _ _ => ?_
      refine pu rfl rfl rfl rfl rfl ?_
      refine tr_seq ?_
      refine tr_cond_bool rfl (fun h9 => ?_) (fun h9 => ?_)
      · try simp only [zbA] at h9
        refine tr_skip ?_
        refine tr_seq ?_
        refine tr_block ?_
        refine tr_seq ?_
        refine tr_region fun _ _ _ => ?_
        refine pu rfl rfl rfl rfl rfl ?_
        refine st rfl rfl rfl rfl (rIdxI rfl rfl rfl (by omega) (by omega) (by omega)) ?_
        refine st rfl rfl rfl rfl (rLdI rfl rfl (by omega)) ?_
        iterate 2 refine pu rfl rfl rfl rfl rfl ?_
        refine tr_draw [0, 1, 2, 3, 4, 5, 6, 7, 8, 9, 10, 11, 12, 13, 14, 15, 16] [17] mixed (by kernel_rfl) fun _ _ _ => ?_
        iterate 3 refine pu rfl rfl rfl rfl rfl ?_
        refine st rfl rfl rfl rfl (rAdd rfl rfl rfl (by omega) (by omega)) ?_
        iterate 4 refine pu rfl rfl rfl rfl rfl ?_
        refine st rfl rfl rfl rfl (rAdd rfl rfl rfl (by omega) (by omega)) ?_
        refine st rfl rfl rfl rfl (rIdxI rfl rfl rfl (by omega) (by omega) (by omega)) ?_
        refine st rfl rfl rfl rfl (rLdI rfl rfl (by omega)) ?_
        iterate 3 refine pu rfl rfl rfl rfl rfl ?_
        refine ef rfl rfl (eCallV rfl rfl rfl (gf_MulE g hg _ _) ⟨rfl, rfl, rfl, trivial⟩ ?_) 
        refine ef rfl rfl (eCallV rfl rfl rfl (gf_AddE g hg _ _) ⟨rfl, rfl, rfl, trivial⟩ ?_) 
        refine st rfl rfl rfl rfl (rIdxI rfl rfl rfl (by omega) (by omega) (by omega)) ?_
        refine ef rfl rfl (eStI rfl rfl rfl rfl (by omega) ?_) 
        refine tr_region fun _ _ _ => ?_
        refine st rfl rfl rfl rfl (rAdd rfl rfl rfl (by omega) (by omega)) ?_
        refine pu rfl rfl rfl rfl rfl ?_
        refine ⟨j + 1, o2.set (i + j).toNat (el (o2.getD (i + j).toNat 0) + el ((el ((il (pol a : Po (El p m mod))).getD i.toNat 0) * el ((il (pol b : Po (El p m mod))).getD j.toNat 0) : El p m mod)).1 : El p m mod).1, ⟨rfl, rfl, rfl, rfl, rfl, rfl, rfl, rfl, rfl, rfl, rfl, rfl, rfl, rfl, trivial⟩, by first | exact cs _ _ | exact CSub.refl _, ?_⟩
        refine ⟨⟨⟨by omega, by omega⟩, ⟨by simpa using ho2l, ho2i.set (El.bd _) _⟩, ?_⟩, by omega⟩
        rw [pol_set_add (d := (el ((il (pol a : Po (El p m mod))).getD i.toNat 0) * el ((il (pol b : Po (El p m mod))).getD j.toNat 0) : El p m mod)) o2 (by omega) (by rw [el_of, el_of]), ho2, show (j + 1).toNat = j.toNat + 1 by omega, pol_take_succ, show (i + j).toNat = i.toNat + j.toNat by omega]
        have e1 := Po.mn_mul (el ((il (pol a : Po (El p m mod))).getD i.toNat 0) : El p m mod) (el ((il (pol b : Po (El p m mod))).getD j.toNat 0)) i.toNat j.toNat
        grind
      · try simp only [zbA] at h9
        refine tr_exit ?_
        refine tr_region fun _ _ _ => ?_
        refine st rfl rfl rfl rfl (rAdd rfl rfl rfl (by omega) (by omega)) ?_
        refine pu rfl rfl rfl rfl rfl ?_
        refine ⟨i + 1, o2, ⟨rfl, rfl, rfl, rfl, rfl, rfl, rfl, rfl, trivial⟩, by first | exact cs _ _ | exact CSub.refl _, ?_⟩
        have hjn : j = (il (pol b : Po (El p m mod))).length := by omega
        rw [hjn, Int.toNat_natCast, List.take_length, pol_il] at ho2
        refine ⟨⟨⟨by omega, by omega⟩, ⟨ho2l, ho2i⟩, ?_⟩, by omega⟩
        rw [ho2, show (i + 1).toNat = i.toNat + 1 by omega, pol_take_succ]
        grind
    · try simp only [zbA] at h6
      refine tr_exit ?_
      refine tr_seq ?_
      refine tr_region fun _ _ _ => ?_
      iterate 2 refine pu rfl rfl rfl rfl rfl ?_
      have hin : i = (il (pol a : Po (El p m mod))).length := by omega
      rw [hin, Int.toNat_natCast, List.take_length, pol_il] at ho
      have ha0 : (pol a : Po (El p m mod)) ≠ 0 := Po.len_pos_iff.1 (by rw [← il_length]; omega)
      have hb0 : (pol b : Po (El p m mod)) ≠ 0 := Po.len_pos_iff.1 (by rw [← il_length]; omega)
      have hlm := Po.len_mul ha0 hb0
      rw [← il_length, ← il_length, ← il_length] at hlm
      have hoo : o = il ((pol a : Po (El p m mod)) * (pol b : Po (El p m mod))) := by
        rw [← ho, il_self hoi (.inr ?_)]
        have h1 : o.length = Po.len (pol o : Po (El p m mod)) := by rw [ho, ← il_length]; omega
        have h2 : 0 < o.length := by omega
        have h3 := Po.lead_ne (f := (pol o : Po (El p m mod))) (n := o.length - 1) (by omega)
        rw [cf_pol] at h3
        exact fun e => h3 (by rw [e, el_zero])
      have hNN : N = (il ((pol a : Po (El p m mod)) * (pol b : Po (El p m mod)))).length := by omega
      rw [hoo]
      exact tr_ret ⟨trivial, _, _, rfl, ⟨_, rfl, A4, N, by rw [← hNN], rfl⟩, cs _ _, trivial, trivial⟩
section
variable {p m : Int} {mod : List Int} [hF : IsF p m mod]
theorem il_one : il (1 : Po (El p m mod)) = [1] := by
  refine ext_getD (by rw [il_length, Po.len_one]; rfl) fun j => ?_
  rw [il_getD, Po.cf_one]
  cases j with
  | zero => rfl
  | succ j => rw [if_neg (by omega)]; rfl
end
end Go.Proofs.YtjmojhflnjbgaaaGreat

set_option linter.unusedSimpArgs false
set_option linter.unusedVariables false
namespace Go.Proofs.YtjmojhflnjbgaaaGreat
open Go.RowKit
theorem isF_prime {p m : Int} {mod : List Int} (hF : IsF p m mod) : IsF p 1 [] := by
  have h := hF.out.1.1
  have hq : pw p 1 = p := by
    have h3 := pw_succ p (k := 0) (by omega)
    rw [pw_zero, Int.zero_add, Int.one_mul] at h3
    exact h3
  exact ⟨⟨⟨⟨h.p2, h.p9, by omega, by omega, by rw [hq]; exact h.p9, .inl ⟨rfl, rfl⟩, fun z hz => by simp at hz⟩, hF.out.1.2⟩, .inl rfl⟩⟩
theorem pw_one (p : Int) : pw p 1 = p := by
  have h3 := pw_succ p (k := 0) (by omega)
  rw [pw_zero, Int.zero_add, Int.one_mul] at h3
  exact h3
section
variable {p m : Int} {mod : List Int} [hF : IsF p m mod]
theorem zi_pow (z : Int) : ∀ n : Nat, Rg.pow (zi z : El p m mod) n = zi (z ^ n)
  | 0 => by rw [Rg.pow_zero, Int.pow_zero, zi_one]
  | n + 1 => by rw [Rg.pow_succ, zi_pow z n, ← zi_mul, Int.pow_succ]
end
theorem fermat {p m : Int} {mod : List Int} (hF : IsF p m mod) (z : Int) : z ^ p.toNat % p = z % p := by
  haveI := isF_prime hF
  have h := all_pow (zi z : El p 1 [])
  rw [pw_one, zi_pow] at h
  have h2 := congrArg (fun a : El p 1 [] => a.1) h
  simp only [zi_val] at h2
  exact h2
section
variable {K : Type} [Fd K]
theorem pow_top {f : Po K} (hf : Po.Sh f 2) (h1 : Po.cf f 1 = 1) : ∀ n, Po.Sh (Rg.pow f n) (n + 1) ∧ Po.cf (Rg.pow f n) n = 1
  | 0 => ⟨fun j hj => by rw [Rg.pow_zero, Po.cf_one, if_neg (by omega)], by rw [Rg.pow_zero, Po.cf_one, if_pos rfl]⟩
  | n + 1 => by
    have ih := pow_top hf h1 n
    rw [Rg.pow_succ]
    exact ⟨Po.Sh.mul ih.1 hf, by rw [Po.top_mul ih.1 hf, ih.2, h1, Rg.one_mul]⟩
end
section
variable {p m : Int} {mod : List Int} [hF : IsF p m mod]
theorem frob_one (x : El p m mod) : Rg.pow (x + 1) p.toNat = Rg.pow x p.toNat + 1 := by
  have hp := hF.p2
  have h1 := pow_top (K := El p m mod) (f := Po.X + Po.C 1) (fun j hj => by
    have e1 : Po.cf (Po.X : Po (El p m mod)) j = 0 := by show Po.cf (Po.mn 1 1) j = 0; rw [Po.cf_mn, if_neg (by omega)]
    have e2 : Po.cf (Po.C 1 : Po (El p m mod)) j = 0 := by show Po.cf (Po.mn 1 0) j = 0; rw [Po.cf_mn, if_neg (by omega)]
    rw [Po.cf_add, e1, e2, Rg.zero_add]) (by
    have e1 : Po.cf (Po.X : Po (El p m mod)) 1 = 1 := by show Po.cf (Po.mn 1 1) 1 = 1; rw [Po.cf_mn, if_pos rfl]
    have e2 : Po.cf (Po.C 1 : Po (El p m mod)) 1 = 0 := by show Po.cf (Po.mn 1 0) 1 = 0; rw [Po.cf_mn, if_neg (by omega)]
    rw [Po.cf_add, e1, e2, Rg.add_zero]) p.toNat
  have hval : ∀ y : El p m mod, Po.val (Rg.pow (Po.X + Po.C 1) p.toNat - Po.mn 1 p.toNat - 1) y = Rg.pow (y + 1) p.toNat - Rg.pow y p.toNat - 1 := fun y => by
    rw [Po.val_sub, Po.val_sub, Po.val_pow, Po.val_add, Po.val_X, Po.val_C, Po.val_mn, Po.val_one, Rg.one_mul]
  have hsh : Po.Sh (Rg.pow (Po.X + Po.C 1) p.toNat - Po.mn 1 p.toNat - 1 : Po (El p m mod)) p.toNat := fun j hj => by
    rw [Po.cf_sub, Po.cf_sub, Po.cf_mn, Po.cf_one, if_neg (show ¬ j = 0 by omega)]
    by_cases h : j = p.toNat
    · rw [if_pos h, h, h1.2, Rg.sub_self, Rg.sub_self]
    · rw [if_neg h, h1.1 j (by omega), Rg.sub_self, Rg.sub_self]
  have hz : (Rg.pow (Po.X + Po.C 1) p.toNat - Po.mn 1 p.toNat - 1 : Po (El p m mod)) = 0 := Classical.byContradiction fun hne => by
    have h2 := roots_len ((List.range p.toNat).map fun k : Nat => (zi k : El p m mod)) _ ?_ hne ?_
    · rw [List.length_map, List.length_range] at h2
      have := Po.len_le hsh
      omega
    · refine List.pairwise_map.2 ((List.nodup_range (n := p.toNat)).imp_of_mem fun {a b} ha hb hab e => hab ?_)
      have h3 := congrArg (fun y : El p m mod => y.1) e
      simp only [zi_val] at h3
      have ha := List.mem_range.1 ha
      have hb := List.mem_range.1 hb
      rw [Int.emod_eq_of_lt (by omega) (by omega), Int.emod_eq_of_lt (by omega) (by omega)] at h3
      omega
    · intro a ha
      obtain ⟨k, _, rfl⟩ := List.mem_map.1 ha
      have e1 : (zi k : El p m mod) + 1 = zi ((k : Int) + 1) := by rw [zi_add, zi_one]
      have e2 : ∀ z : Int, Rg.pow (zi z : El p m mod) p.toNat = zi z := fun z => by rw [zi_pow]; exact zi_cg (fermat hF z)
      rw [hval, e1, e2, e2, zi_add, zi_one]
      grind
  have := hval x
  rw [hz, Po.val_zero] at this
  grind
theorem frob_p (x y : El p m mod) : Rg.pow (x + y) p.toNat = Rg.pow x p.toNat + Rg.pow y p.toNat := by
  have hp := hF.p2
  by_cases h : y = 0
  · rw [h, Rg.zero_pow (by omega), Rg.add_zero, Rg.add_zero]
  · have e : x = x * Fd.inv y * y := by rw [Rg.mul_assoc, Fd.inv_mul y h, Rg.mul_one]
    have e2 : x + y = (x * Fd.inv y + 1) * y := by rw [Rg.add_mul, ← e, Rg.one_mul]
    rw [e2, Rg.mul_pow, frob_one, Rg.add_mul, Rg.one_mul, ← Rg.mul_pow, ← e]
theorem frob_k (x y : El p m mod) : ∀ k : Nat, Rg.pow (x + y) (p.toNat ^ k) = Rg.pow x (p.toNat ^ k) + Rg.pow y (p.toNat ^ k)
  | 0 => by rw [Nat.pow_zero, Rg.pow_one, Rg.pow_one, Rg.pow_one]
  | k + 1 => by rw [Nat.pow_succ, Rg.pow_mul, Rg.pow_mul, Rg.pow_mul, frob_k x y k, frob_p]
end
structure Hm {K L : Type} [Fd K] [Fd L] (φ : K → L) : Prop where
  add : ∀ x y, φ (x + y) = φ x + φ y
  mul : ∀ x y, φ (x * y) = φ x * φ y
  one : φ 1 = 1
section
variable {K L : Type} [Fd K] [Fd L] {φ : K → L}
theorem Hm.zero (h : Hm φ) : φ 0 = 0 := by
  have h1 := h.add 0 0
  rw [Rg.add_zero] at h1
  have h2 : φ 0 + 0 = φ 0 + φ 0 := by rw [Rg.add_zero]; exact h1
  exact (Rg.add_left_cancel h2).symm
theorem Hm.neg (h : Hm φ) (x : K) : φ (-x) = -φ x := by
  have h1 := h.add (-x) x
  rw [Rg.neg_add, h.zero] at h1
  grind
theorem Hm.sub (h : Hm φ) (x y : K) : φ (x - y) = φ x - φ y := by
  have e : x - y = x + -y := rfl
  rw [e, h.add, h.neg]; rfl
theorem Hm.ne (h : Hm φ) {x : K} (hx : x ≠ 0) : φ x ≠ 0 := fun e => by
  have h1 := h.mul x (Fd.inv x)
  rw [Fd.mul_inv x hx, h.one, e, Rg.zero_mul] at h1
  exact Fd.one_ne (K := L) h1
theorem Hm.inj (h : Hm φ) {x y : K} (e : φ x = φ y) : x = y := Classical.byContradiction fun hn => by
  have h1 : x - y ≠ 0 := fun e => hn (Rg.eq_of_sub e)
  exact h.ne h1 (by rw [h.sub, e, Rg.sub_self])
theorem Hm.pow (h : Hm φ) (x : K) : ∀ n, φ (Rg.pow x n) = Rg.pow (φ x) n
  | 0 => h.one
  | n + 1 => by rw [Rg.pow_succ, Rg.pow_succ, h.mul, h.pow x n]
theorem Hm.sm (h : Hm φ) (f : Nat → K) : ∀ n, φ (Rg.sm n f) = Rg.sm n fun i => φ (f i)
  | 0 => h.zero
  | n + 1 => by rw [Rg.sm_succ, Rg.sm_succ, h.add, h.sm f n]
noncomputable def mapP (φ : K → L) (h : Hm φ) (f : Po K) : Po L := ⟨fun j => φ (Po.cf f j), Po.len f, fun j hj => by show φ (Po.cf f j) = 0; rw [Po.cf_ge hj, h.zero]⟩
theorem cf_mapP (h : Hm φ) (f : Po K) (j : Nat) : Po.cf (mapP φ h f) j = φ (Po.cf f j) := rfl
theorem mapP_add (h : Hm φ) (f g : Po K) : mapP φ h (f + g) = mapP φ h f + mapP φ h g := Po.ext fun j => by rw [Po.cf_add, cf_mapP, cf_mapP, cf_mapP, Po.cf_add, h.add]
theorem mapP_sub (h : Hm φ) (f g : Po K) : mapP φ h (f - g) = mapP φ h f - mapP φ h g := Po.ext fun j => by rw [Po.cf_sub, cf_mapP, cf_mapP, cf_mapP, Po.cf_sub, h.sub]
theorem mapP_mul (h : Hm φ) (f g : Po K) : mapP φ h (f * g) = mapP φ h f * mapP φ h g := Po.ext fun j => by
  rw [cf_mapP, Po.cf_mul, Po.cf_mul, h.sm]
  exact Rg.sm_congr fun i _ => by rw [h.mul, cf_mapP, cf_mapP]
theorem mapP_mn (h : Hm φ) (c : K) (n : Nat) : mapP φ h (Po.mn c n) = Po.mn (φ c) n := Po.ext fun j => by
  rw [cf_mapP, Po.cf_mn, Po.cf_mn]; split
  · rfl
  · exact h.zero
theorem mapP_zero (h : Hm φ) : mapP φ h 0 = 0 := Po.ext fun j => h.zero
theorem mapP_one (h : Hm φ) : mapP φ h 1 = 1 := Po.ext fun j => by
  rw [cf_mapP, Po.cf_one, Po.cf_one]; split
  · exact h.one
  · exact h.zero
theorem mapP_len (h : Hm φ) (f : Po K) : Po.len (mapP φ h f) = Po.len f := by
  rcases Nat.eq_zero_or_pos (Po.len f) with h0 | h0
  · rw [Po.eq_zero_of_len h0, mapP_zero, Po.len_zero, Po.len_zero]
  · obtain ⟨n, hn⟩ : ∃ n, Po.len f = n + 1 := ⟨Po.len f - 1, by omega⟩
    rw [hn]
    exact Po.len_eq (fun j hj => by rw [cf_mapP, Po.cf_ge (by omega), h.zero]) (by rw [cf_mapP]; exact h.ne (Po.lead_ne hn))
theorem mapP_inj (h : Hm φ) {f g : Po K} (e : mapP φ h f = mapP φ h g) : f = g := Po.ext fun j => h.inj (by rw [← cf_mapP h, ← cf_mapP h, e])
theorem mapP_lead (h : Hm φ) (f : Po K) : Po.lead (mapP φ h f) = φ (Po.lead f) := by unfold Po.lead; rw [mapP_len, cf_mapP]
theorem val_mapP (h : Hm φ) (f : Po K) (x : K) : Po.val (mapP φ h f) (φ x) = φ (Po.val f x) := by
  rw [Po.val_eq (n := Po.len f) (by have := Po.len_sh (mapP φ h f); rwa [mapP_len] at this), Po.val_eq (Po.len_sh f), h.sm]
  exact Rg.sm_congr fun i _ => by rw [cf_mapP, h.mul, h.pow]
theorem mapP_dvd (h : Hm φ) {f g : Po K} (hf : f ≠ 0) : mapP φ h f ∣ mapP φ h g ↔ f ∣ g := by
  constructor
  · rintro ⟨k, hk⟩
    have h1 := Po.div_eq g hf
    have h2 := Po.rem_len g hf
    have e := congrArg (mapP φ h) h1
    rw [mapP_add, mapP_mul, hk] at e
    have hf2 : mapP φ h f ≠ 0 := fun e => hf (mapP_inj h (by rw [e, mapP_zero]))
    have h3 := Po.div_uniq (g := mapP φ h f) (q := k) (q' := mapP φ h (Po.quo g f)) (r := 0) (r' := mapP φ h (Po.rem g f)) (by rw [← e, Rg.add_zero, Rg.mul_comm]) (by rw [Po.len_zero, mapP_len]; omega) (by rw [mapP_len, mapP_len]; exact h2)
    have h4 : Po.rem g f = 0 := mapP_inj h (by rw [← h3.2, mapP_zero])
    exact (Po.rem_zero_iff hf).1 h4
  · rintro ⟨k, rfl⟩
    exact ⟨mapP φ h k, mapP_mul h f k⟩
end
section
variable {p m m2 : Int} {mod mod2 : List Int} [hF : IsF p m mod] [hE : IsF p m2 mod2]
def RtP (p m : Int) (mod : List Int) (m2 : Int) (mod2 : List Int) [hE : IsF p m2 mod2] (a : El p m2 mod2) : Prop := Po.val (zp (m.toNat + 1) (fF m.toNat (rl mod)) : Po (El p m2 mod2)) a = 0
omit hF in
theorem zp_add (n : Nat) (u v : Row) : (zp n (u.add v) : Po (El p m2 mod2)) = zp n u + zp n v := Po.ext fun j => by
  rw [Po.cf_add, cf_zp, cf_zp, cf_zp]
  split
  · exact zi_add _ _
  · rw [Rg.zero_add]
omit hF in
theorem zp_sm (n : Nat) (c : Int) (u : Row) : (zp n (Row.sm c u) : Po (El p m2 mod2)) = Po.C (zi c) * zp n u := Po.ext fun j => by
  rw [Po.cf_C_mul, cf_zp, cf_zp]
  split
  · exact zi_mul _ _
  · rw [Rg.mul_zero]
omit hF in
theorem zp_succ (n : Nat) (Q : Row) : (zp (n + 1) Q : Po (El p m2 mod2)) = zp n Q + Po.mn (zi (Q n)) n := Po.ext fun j => by
  rw [Po.cf_add, cf_zp, cf_zp, Po.cf_mn]
  by_cases h2 : j = n
  · rw [if_pos (by omega), if_neg (by omega), if_pos h2, h2, Rg.zero_add]
  · rw [if_neg h2, Rg.add_zero]
    by_cases h3 : j < n
    · rw [if_pos (by omega), if_pos h3]
    · rw [if_neg (by omega), if_neg h3]
omit hF in
theorem ev_tm {M : Nat} (hM : 1 ≤ M) {low : Row} {a : El p m2 mod2} (ha : Po.val (zp (M + 1) (fF M low) : Po (El p m2 mod2)) a = 0) (u : Row) : Po.val (zp M (tm M low u) : Po (El p m2 mod2)) a = a * Po.val (zp M u : Po (El p m2 mod2)) a := by
  have e : (zp M (tm M low u) : Po (El p m2 mod2)) + Po.C (zi (u (M - 1))) * zp (M + 1) (fF M low) = Po.mn 1 1 * zp M u := Po.ext fun j => by
    rw [Po.cf_add, Po.cf_C_mul, Po.cf_mn_mul, cf_zp, cf_zp, cf_zp, Rg.one_mul]
    unfold fF tm sh
    by_cases h0 : j < M
    · simp only [if_pos h0, if_pos (show j < M + 1 by omega)]
      have e1 : ∀ x y : Int, (zi (x - y) : El p m2 mod2) + zi y = zi x := fun x y => by rw [← zi_add]; congr 1; omega
      rw [← zi_mul, e1]
      by_cases h1 : j = 0
      · simp only [if_pos h1, if_pos (show j < 1 by omega), zi_zero]
      · simp only [if_neg h1, if_neg (show ¬ j < 1 by omega), if_pos (show j - 1 < M by omega)]
    · by_cases h1 : j = M
      · simp only [if_neg h0, if_pos (show j < M + 1 by omega), if_pos h1, if_neg (show ¬ j < 1 by omega), if_pos (show j - 1 < M by omega)]
        rw [zi_one, Rg.mul_one, Rg.zero_add, h1]
      · simp only [if_neg h0, if_neg (show ¬ j < M + 1 by omega), if_neg (show ¬ j < 1 by omega), if_neg (show ¬ j - 1 < M by omega)]
        rw [Rg.mul_zero, Rg.zero_add]
  have h1 := congrArg (fun f => Po.val f a) e
  simp only [Po.val_add, Po.val_mul, Po.val_mn, Po.val_C] at h1
  rw [ha, Rg.mul_zero, Rg.add_zero, Rg.pow_one, Rg.one_mul] at h1
  exact h1
omit hF in
theorem ev_pl {M : Nat} (hM : 1 ≤ M) {low : Row} {a : El p m2 mod2} (ha : Po.val (zp (M + 1) (fF M low) : Po (El p m2 mod2)) a = 0) (Q u : Row) : ∀ n, Po.val (zp M (pl (tm M low) n Q u) : Po (El p m2 mod2)) a = Po.val (zp n Q : Po (El p m2 mod2)) a * Po.val (zp M u : Po (El p m2 mod2)) a := by
  have hit : ∀ n, Po.val (zp M (it (tm M low) n u) : Po (El p m2 mod2)) a = Rg.pow a n * Po.val (zp M u : Po (El p m2 mod2)) a := by
    intro n
    induction n with
    | zero => rw [Rg.pow_zero, Rg.one_mul]; rfl
    | succ n ih =>
      show Po.val (zp M (tm M low (it (tm M low) n u)) : Po (El p m2 mod2)) a = _
      rw [ev_tm hM ha, ih, Rg.pow_succ]; grind
  intro n
  induction n with
  | zero =>
    have e1 : (zp M (pl (tm M low) 0 Q u) : Po (El p m2 mod2)) = 0 := Po.ext fun j => by
      rw [cf_zp]
      have : pl (tm M low) 0 Q u j = 0 := rfl
      rw [this, zi_zero]; split <;> rfl
    have e2 : (zp 0 Q : Po (El p m2 mod2)) = 0 := Po.ext fun j => by rw [cf_zp, if_neg (by omega)]; rfl
    rw [e1, e2, Po.val_zero, Rg.zero_mul]
  | succ n ih =>
    have e : pl (tm M low) (n + 1) Q u = (pl (tm M low) n Q u).add (Row.sm (Q n) (it (tm M low) n u)) := rfl
    rw [e, zp_add, zp_sm, Po.val_add, Po.val_mul, Po.val_C, ih, hit, zp_succ, Po.val_add, Po.val_mn, Rg.add_mul, Rg.mul_assoc]
noncomputable def embF (p m : Int) (mod : List Int) (m2 : Int) (mod2 : List Int) [hF : IsF p m mod] [hE : IsF p m2 mod2] (a : El p m2 mod2) (x : El p m mod) : El p m2 mod2 := Po.val (zp m.toNat (dg p m.toNat x.1) : Po (El p m2 mod2)) a
theorem embF_hm {a : El p m2 mod2} (ha : RtP p m mod m2 mod2 a) : Hm (embF p m mod m2 mod2 a) := by
  have hp := hF.p2
  have hm := hF.m1
  have hs := hF.out.1.1
  refine ⟨fun x y => ?_, fun x y => ?_, ?_⟩
  · unfold embF
    rw [add_val, zp_cg _ (addI_cg hp _ _), zp_add, Po.val_add]
  · unfold embF
    rw [mul_val, zp_cg _ (mulI_cg hs _ _)]
    show Po.val (zp m.toNat (pl (tm m.toNat (rl mod)) m.toNat (dg p m.toNat y.1) (dg p m.toNat x.1)) : Po (El p m2 mod2)) a = _
    rw [ev_pl (by omega) ha, Rg.mul_comm]
  · unfold embF
    rw [one_val, dg_one hp (by omega)]
    have e : (zp m.toNat (ee 0) : Po (El p m2 mod2)) = 1 := Po.ext fun j => by
      rw [cf_zp, Po.cf_one]
      unfold ee
      by_cases h : j = 0
      · rw [if_pos (by omega), if_pos h, if_pos h, zi_one]
      · rw [if_neg h, if_neg h, zi_zero]; split <;> rfl
    rw [e, Po.val_one]
end
end Go.Proofs.YtjmojhflnjbgaaaGreat

set_option linter.unusedSimpArgs false
set_option linter.unusedVariables false
namespace Go.Proofs.YtjmojhflnjbgaaaGreat
open Go.RowKit
section
variable {K : Type} [Fd K]
def rootP (rs : List K) : Po K := rs.foldl (fun f r => f * Po.lin r) 1
theorem foldl_lin (f : Po K) : ∀ rs : List K, rs.foldl (fun f r => f * Po.lin r) f = f * rootP rs := by
  intro rs
  induction rs generalizing f with
  | nil => exact (Rg.mul_one f).symm
  | cons r rs ih =>
    show rs.foldl (fun f r => f * Po.lin r) (f * Po.lin r) = f * rs.foldl (fun f r => f * Po.lin r) (1 * Po.lin r)
    rw [ih, ih (1 * Po.lin r), Rg.one_mul, Rg.mul_assoc]
theorem rootP_nil : rootP ([] : List K) = 1 := rfl
theorem rootP_cons (r : K) (rs : List K) : rootP (r :: rs) = Po.lin r * rootP rs := by
  show rs.foldl (fun f r => f * Po.lin r) (1 * Po.lin r) = _
  rw [foldl_lin, Rg.one_mul]
theorem rootP_snoc (rs : List K) (r : K) : rootP (rs ++ [r]) = rootP rs * Po.lin r := by
  unfold rootP; rw [List.foldl_append]; rfl
theorem rootP_perm {a b : List K} (h : a.Perm b) : rootP a = rootP b := by
  induction h with
  | nil => rfl
  | cons r _ ih => rw [rootP_cons, rootP_cons, ih]
  | swap r s l => rw [rootP_cons, rootP_cons, rootP_cons, rootP_cons, ← Rg.mul_assoc, ← Rg.mul_assoc, Rg.mul_comm (Po.lin s)]
  | trans _ _ h1 h2 => exact h1.trans h2
theorem rootP_ne : ∀ rs : List K, rootP rs ≠ 0
  | [] => Po.one_ne
  | r :: rs => by rw [rootP_cons]; exact Po.mul_ne (Po.lin_ne r) (rootP_ne rs)
theorem rootP_len : ∀ rs : List K, Po.len (rootP rs) = rs.length + 1
  | [] => Po.len_one
  | r :: rs => by rw [rootP_cons, Po.len_mul (Po.lin_ne r) (rootP_ne rs), Po.len_lin, rootP_len rs, List.length_cons]; omega
theorem rootP_lead : ∀ rs : List K, Po.lead (rootP rs) = 1
  | [] => by show Po.lead (1 : Po K) = 1; unfold Po.lead; rw [Po.len_one]; rfl
  | r :: rs => by rw [rootP_cons, Po.lead_mul (Po.lin_ne r) (rootP_ne rs), Po.lead_lin, rootP_lead rs, Rg.one_mul]
theorem val_rootP (y : K) : ∀ rs : List K, Po.val (rootP rs) y = 0 ↔ y ∈ rs
  | [] => by rw [rootP_nil, Po.val_one]; exact ⟨fun h => absurd h Fd.one_ne, fun h => by simp at h⟩
  | r :: rs => by
    rw [rootP_cons, Po.val_mul, Po.val_lin, List.mem_cons]
    constructor
    · intro h
      rcases Fd.mul_eq_zero h with h | h
      · exact .inl (Rg.eq_of_sub h)
      · exact .inr ((val_rootP y rs).1 h)
    · rintro (h | h)
      · rw [h, Rg.sub_self, Rg.zero_mul]
      · rw [(val_rootP y rs).2 h, Rg.mul_zero]
theorem rootP_dvd : ∀ (rs : List K) (f : Po K), rs.Nodup → (∀ r ∈ rs, Po.val f r = 0) → rootP rs ∣ f
  | [], f, _, _ => Po.one_dvd f
  | r :: rs, f, hn, h => by
    have hn := List.nodup_cons.1 hn
    obtain ⟨g, hg⟩ := (Po.root_iff f r).1 (h r (List.mem_cons_self ..))
    obtain ⟨k, hk⟩ := rootP_dvd rs g hn.2 (fun a ha => by
      have h1 := h a (List.mem_cons_of_mem _ ha)
      rw [hg, Po.val_mul, Po.val_lin] at h1
      exact (Fd.mul_eq_zero h1).resolve_left (fun e => hn.1 (by have : a = r := Rg.eq_of_sub e; rwa [← this])))
    exact ⟨k, by rw [rootP_cons, hg, hk, Rg.mul_assoc]⟩
structure AOrd (a : K) (n : Nat) : Prop where
  pos : 1 ≤ n
  one : Rg.pow a n = 1
  least : ∀ s, 1 ≤ s → s < n → Rg.pow a s ≠ 1
theorem AOrd.ne {a : K} {n : Nat} (h : AOrd a n) : a ≠ 0 := fun e => by
  have h1 := h.one
  rw [e, Rg.zero_pow h.pos] at h1
  exact Fd.one_ne (K := K) h1.symm
theorem pow_ne' {a : K} (h : a ≠ 0) : ∀ n, Rg.pow a n ≠ 0
  | 0 => Fd.one_ne
  | n + 1 => by rw [Rg.pow_succ]; exact Fd.mul_ne (pow_ne' h n) h
theorem AOrd.mod {a : K} {n : Nat} (h : AOrd a n) (k : Nat) : Rg.pow a (k % n) = Rg.pow a k := by
  have h1 := Nat.div_add_mod k n
  have e : Rg.pow a k = Rg.pow a (n * (k / n) + k % n) := by rw [h1]
  rw [e, Rg.pow_add, Rg.pow_mul, h.one, Rg.one_pow, Rg.one_mul]
theorem AOrd.dvd {a : K} {n : Nat} (h : AOrd a n) {k : Nat} (hk : Rg.pow a k = 1) : n ∣ k := by
  have h1 := h.mod k
  rw [hk] at h1
  have h2 := Nat.mod_lt k (show n > 0 from h.pos)
  refine Nat.dvd_of_mod_eq_zero ?_
  rcases Nat.eq_zero_or_pos (k % n) with h3 | h3
  · exact h3
  · exact absurd h1 (h.least _ h3 h2)
theorem AOrd.inj {a : K} {n : Nat} (h : AOrd a n) {i j : Nat} (hi : i < n) (hj : j < n) (e : Rg.pow a i = Rg.pow a j) : i = j := by
  have key : ∀ i j : Nat, i < j → j < n → Rg.pow a i ≠ Rg.pow a j := fun i j hij hj e => by
    have e2 : Rg.pow a j = Rg.pow a i * Rg.pow a (j - i) := by rw [← Rg.pow_add]; congr 1; omega
    rw [e2] at e
    have h1 : Rg.pow a i * 1 = Rg.pow a i * Rg.pow a (j - i) := by rw [Rg.mul_one]; exact e
    exact h.least (j - i) (by omega) (by omega) (Fd.mul_left_cancel (pow_ne' h.ne i) h1).symm
  rcases Nat.lt_trichotomy i j with h1 | h1 | h1
  · exact absurd e (key i j h1 hj)
  · exact h1
  · exact absurd e.symm (key j i h1 hi)
end
section
variable {K L : Type} [Fd K] [Fd L] {φ : K → L}
theorem mapP_rootP (h : Hm φ) : ∀ rs : List K, mapP φ h (rootP rs) = rootP (rs.map φ)
  | [] => mapP_one h
  | r :: rs => by
    rw [rootP_cons, mapP_mul, mapP_rootP h rs, List.map_cons, rootP_cons]
    congr 1
    have e1 : (Po.lin r : Po K) = Po.mn 1 1 - Po.mn r 0 := rfl
    have e2 : (Po.lin (φ r) : Po L) = Po.mn 1 1 - Po.mn (φ r) 0 := rfl
    rw [e1, e2, mapP_sub, mapP_mn, mapP_mn, h.one]
end
section
variable {p m m2 : Int} {mod mod2 : List Int} [hF : IsF p m mod] [hE : IsF p m2 mod2]
omit hF in
theorem frob_hm (k : Nat) : Hm (fun y : El p m2 mod2 => Rg.pow y (p.toNat ^ k)) := ⟨fun x y => frob_k x y k, fun x y => Rg.mul_pow _ _ _, Rg.one_pow _⟩
theorem pw_nat (hp : 0 ≤ p) (m : Int) : (pw p m).toNat = p.toNat ^ m.toNat := by
  unfold pw
  obtain ⟨a, ha⟩ := Int.eq_ofNat_of_zero_le hp
  rw [ha, ← Int.natCast_pow, Int.toNat_natCast, Int.toNat_natCast]
theorem fixed_img {φ : El p m mod → El p m2 mod2} (h : Hm φ) {y : El p m2 mod2} (hy : Rg.pow y (pw p m).toNat = y) : ∃ x, φ x = y := by
  have hq := hF.q2
  refine Classical.byContradiction fun hno => ?_
  have hz := elNz_nz hF.out
  have h1 := roots_len (y :: (0 :: elNz p m mod).map φ) (Po.mn 1 (pw p m).toNat - Po.mn 1 1 : Po (El p m2 mod2)) ?_ ?_ ?_
  · rw [List.length_cons, List.length_map, List.length_cons, elNz_len] at h1
    have h2 := Po.len_le (f := (Po.mn 1 (pw p m).toNat - Po.mn 1 1 : Po (El p m2 mod2))) (n := (pw p m).toNat + 1) ((Po.mn_sh _ _).sub ((Po.mn_sh _ _).mono (by omega)))
    omega
  · refine List.nodup_cons.2 ⟨fun hm => ?_, List.pairwise_map.2 ((List.nodup_cons.2 ⟨fun h0 => (hz.mem 0).1 h0 rfl, hz.nd⟩ : (0 :: elNz p m mod).Nodup).imp fun hab e => hab (h.inj e))⟩
    obtain ⟨x, _, hx⟩ := List.mem_map.1 hm
    exact hno ⟨x, hx⟩
  · intro e
    have h2 := congrArg (fun f => Po.cf f 1) e
    simp only [Po.cf_sub, Po.cf_mn, Po.cf_zero] at h2
    rw [if_neg (show ¬ 1 = (pw p m).toNat by omega), if_pos trivial, Rg.zero_sub] at h2
    exact Fd.one_ne (K := El p m2 mod2) (Rg.neg_eq_zero h2)
  · intro a ha
    rw [Po.val_sub, Po.val_mn, Po.val_mn, Rg.one_mul, Rg.one_mul, Rg.pow_one]
    rcases List.mem_cons.1 ha with rfl | ha
    · rw [hy, Rg.sub_self]
    · obtain ⟨x, _, rfl⟩ := List.mem_map.1 ha
      rw [← h.pow, all_pow, Rg.sub_self]
theorem fixed_poly {φ : El p m mod → El p m2 mod2} (h : Hm φ) {f : Po (El p m2 mod2)} (hf : ∀ j, Rg.pow (Po.cf f j) (pw p m).toNat = Po.cf f j) : ∃ g, mapP φ h g = f := by
  have hx : ∀ j, ∃ x, φ x = Po.cf f j := fun j => fixed_img h (hf j)
  refine ⟨⟨fun j => Classical.choose (hx j), Po.len f, fun j hj => ?_⟩, Po.ext fun j => Classical.choose_spec (hx j)⟩
  refine h.inj ?_
  rw [Classical.choose_spec (hx j), Po.cf_ge hj, h.zero]
theorem stp_one (q n i : Int) : stp q n 1 i = i * q % n := rfl
theorem cls_step {q n : Int} (hn : 1 ≤ n) {zs : List Int} {i : Int} (hi : i ∈ clsL q n zs) : i * q % n ∈ clsL q n zs := by
  obtain ⟨hb, z, hz, ho⟩ := (mem_clsL hn).1 hi
  have h1 := stp_bd (q := q) hn hb 1
  rw [stp_one] at h1
  exact (mem_clsL hn).2 ⟨h1, z, hz, ho.trans ⟨1, (stp_one q n i).symm⟩⟩
theorem cls_perm {q n : Int} (hn : 1 ≤ n) (hg : Int.gcd q n = 1) (zs : List Int) : ((clsL q n zs).map fun i => i * q % n).Perm (clsL q n zs) := by
  have hnd : (clsL q n zs).Nodup := (clsL_lt q n zs).imp fun h e => by omega
  refine Fd.perm_of_sub _ _ ?_ ?_ ?_
  · refine List.pairwise_map.2 (hnd.imp_of_mem fun {a b} ha hb hab e => hab ?_)
    exact mul_inj_mod hg ((mem_clsL hn).1 ha).1 ((mem_clsL hn).1 hb).1 e
  · intro a ha
    obtain ⟨i, hi, rfl⟩ := List.mem_map.1 ha
    exact cls_step hn hi
  · rw [List.length_map]; exact Nat.le_refl _
noncomputable def clsR (a : El p m2 mod2) (C : List Int) : List (El p m2 mod2) := C.map fun i => Rg.pow a i.toNat
theorem ord_gcd (hF : IsF p m mod) {a : El p m2 mod2} {n : Int} (ha : AOrd a n.toNat) (hd : m2 % m = 0) : Int.gcd (pw p m) n = 1 := by
  have hq := hF.q2
  have hq2 := hE.q2
  have hn := ha.pos
  obtain ⟨k, hk⟩ := pw_dvd hF hE hd
  have hk1 : k ≠ 0 := fun e => by rw [e, Nat.pow_zero] at hk; omega
  have h1 := ha.dvd (k := (pw p m2 - 1).toNat) (pow_last ha.ne)
  have h2 : (Int.gcd (pw p m) n) = Nat.gcd (pw p m).toNat n.toNat := by
    obtain ⟨x, hx⟩ := Int.eq_ofNat_of_zero_le (show 0 ≤ pw p m by omega)
    obtain ⟨y, hy⟩ := Int.eq_ofNat_of_zero_le (show 0 ≤ n by omega)
    rw [hx, hy]; rfl
  rw [h2]
  have h3 : Nat.gcd (pw p m).toNat n.toNat ∣ (pw p m2 - 1).toNat := Nat.dvd_trans (Nat.gcd_dvd_right _ _) h1
  have h4 : Nat.gcd (pw p m).toNat n.toNat ∣ (pw p m2).toNat := by
    rw [hk]
    obtain ⟨j, rfl⟩ := Nat.exists_eq_succ_of_ne_zero hk1
    rw [Nat.pow_succ]
    exact Nat.dvd_trans (Nat.gcd_dvd_left _ _) (Nat.dvd_mul_left _ _)
  have h5 : (pw p m2).toNat = (pw p m2 - 1).toNat + 1 := by omega
  rw [h5] at h4
  exact Nat.dvd_one.1 ((Nat.dvd_add_right h3).1 h4)
theorem gen_down {φ : El p m mod → El p m2 mod2} (h : Hm φ) {a : El p m2 mod2} {n : Int} (ha : AOrd a n.toNat) (hd : m2 % m = 0) (zs : List Int) : ∃ g, mapP φ h g = rootP (clsR a (clsL (pw p m) n zs)) := by
  have hp := hF.p2
  have hn := ha.pos
  have hq := hF.q2
  refine fixed_poly h fun j => ?_
  have h1 := mapP_rootP (frob_hm (p := p) (m2 := m2) (mod2 := mod2) m.toNat) (clsR a (clsL (pw p m) n zs))
  have h2 : (clsR a (clsL (pw p m) n zs)).map (fun y : El p m2 mod2 => Rg.pow y (p.toNat ^ m.toNat)) = clsR a ((clsL (pw p m) n zs).map fun i => i * pw p m % n) := by
    unfold clsR
    rw [List.map_map, List.map_map]
    refine List.map_congr_left fun i hi => ?_
    have hb := ((mem_clsL (show 1 ≤ n by omega)).1 hi).1
    show Rg.pow (Rg.pow a i.toNat) (p.toNat ^ m.toNat) = Rg.pow a (i * pw p m % n).toNat
    rw [← Rg.pow_mul, ← pw_nat (show 0 ≤ p by omega) m, ← ha.mod (i.toNat * (pw p m).toNat)]
    congr 1
    obtain ⟨x, hx⟩ := Int.eq_ofNat_of_zero_le (show 0 ≤ pw p m by omega)
    obtain ⟨y, hy⟩ := Int.eq_ofNat_of_zero_le (show 0 ≤ n by omega)
    obtain ⟨z, hz⟩ := Int.eq_ofNat_of_zero_le hb.1
    rw [hx, hy, hz, ← Int.natCast_mul, ← Int.natCast_emod]
    simp only [Int.toNat_natCast]
  have h3 := rootP_perm ((cls_perm (show 1 ≤ n by omega) (ord_gcd hF ha hd) zs).map fun i => Rg.pow a i.toNat)
  rw [h2] at h1
  have h4 : clsR a ((clsL (pw p m) n zs).map fun i => i * pw p m % n) = ((clsL (pw p m) n zs).map fun i => i * pw p m % n).map fun i => Rg.pow a i.toNat := rfl
  rw [h4, h3] at h1
  have h5 := congrArg (fun f => Po.cf f j) h1
  simp only [cf_mapP] at h5
  rw [pw_nat (show 0 ≤ p by omega) m]
  exact h5
end
end Go.Proofs.YtjmojhflnjbgaaaGreat

set_option linter.unusedSimpArgs false
set_option linter.unusedVariables false
namespace Go.Proofs.YtjmojhflnjbgaaaGreat
open Go.RowKit
def idxI (l : List Int) (x : Int) : Int := if x ∈ l then (l.idxOf x : Int) else -1
theorem idxI_of {l : List Int} {x : Int} {k : Nat} (hk : k < l.length) (h : l.getD k 0 = x) (hu : ∀ j, j < k → l.getD j 0 ≠ x) : idxI l x = k := by
  have hx : l[k] = x := by rw [List.getD_eq_getElem?_getD, List.getElem?_eq_getElem hk] at h; exact h
  have hm : x ∈ l := hx ▸ List.getElem_mem hk
  unfold idxI
  rw [if_pos hm]
  have h1 := List.idxOf_lt_length_iff.2 hm
  have h2 : l[l.idxOf x] = x := List.getElem_idxOf h1
  have h3 : l.idxOf x ≤ k := by
    rw [← hx]
    refine Nat.le_of_not_lt fun hlt => ?_
    have := List.not_of_lt_findIdx (p := (· == l[k])) (xs := l) hlt
    simp at this
  rcases Nat.lt_or_ge (l.idxOf x) k with h4 | h4
  · refine absurd ?_ (hu _ h4)
    rw [List.getD_eq_getElem?_getD, List.getElem?_eq_getElem h1]; exact h2
  · have : l.idxOf x = k := by omega
    rw [this]
section
variable {p m m2 : Int} {mod mod2 : List Int} [hF : IsF p m mod] [hE : IsF p m2 mod2]
theorem zp_mod (hm : 2 ≤ m) : (zp (m.toNat + 1) (fF m.toNat (rl mod)) : Po (El p m2 mod2)) = pol (mod ++ [1]) := by
  have hp := hF.p2
  have hs := hF.out.1.1
  have hml : mod.length = m.toNat := by
    rcases hs.low with h | h
    · omega
    · omega
  have e : fF m.toNat (rl mod) = rl (mod ++ [1]) := by rw [← hml]; exact fF_rl.symm
  rw [e]
  refine Po.ext fun j => ?_
  rw [cf_zp, cf_pol]
  by_cases hj : j < m.toNat + 1
  · rw [if_pos hj]
    have hb : 0 ≤ (mod ++ [1]).getD j 0 ∧ (mod ++ [1]).getD j 0 < p := by
      have hin : AllIn p (mod ++ [1]) := fun z hz => by
        rcases List.mem_append.1 hz with h | h
        · exact hs.ent z h
        · rw [List.mem_singleton.1 h]; omega
      exact hin.get (by omega) j
    exact zi_el hb.1 hb.2
  · rw [if_neg hj, getD_out (by rw [List.length_append]; simp; omega), el_zero]
theorem embR_rt (hd : m2 % m = 0) : RtP p m mod m2 mod2 (el (embR p m2 mod2 m mod)) := by
  have hm1 := hF.m1
  unfold RtP
  by_cases hm : m = 1
  · have hrt : IsRt p m2 mod2 m mod 0 := ⟨by omega, by have := hE.q2; omega, fun _ => rfl, fun h => by omega, fun h => by omega⟩
    have hmod : mod = [] := by
      rcases hF.out.1.1.low with h | h
      · exact h.2
      · omega
    rw [hrt.eq hm1, el_zero]
    have e : (zp (m.toNat + 1) (fF m.toNat (rl mod)) : Po (El p m2 mod2)) = Po.mn 1 1 := Po.ext fun j => by
      rw [cf_zp, Po.cf_mn, hmod]
      have h1 : m.toNat = 1 := by omega
      rw [h1]
      unfold fF
      by_cases h0 : j = 0
      · subst h0
        rw [if_pos (by omega), if_pos (by omega), if_neg (by omega)]; exact zi_zero
      · by_cases h2 : j = 1
        · rw [if_pos (by omega), if_neg (by omega), if_pos h2, if_pos h2, zi_one]
        · rw [if_neg (by omega), if_neg h2]
    rw [e, Po.val_mn, Rg.pow_one, Rg.mul_zero]
  · obtain ⟨_, h⟩ := rt_of_head (p := p) (m := m) (mod := mod) (m2 := m2) (mod2 := mod2) (by omega) hd rfl
    rw [zp_mod (by omega), h.eq hm1]
    exact h.root (by omega)
noncomputable def phi (p m : Int) (mod : List Int) (m2 : Int) (mod2 : List Int) [hF : IsF p m mod] [hE : IsF p m2 mod2] : El p m mod → El p m2 mod2 := embF p m mod m2 mod2 (el (embR p m2 mod2 m mod))
theorem phi_hm (hd : m2 % m = 0) : Hm (phi p m mod m2 mod2) := embF_hm (embR_rt hd)
theorem imL_phi (x : El p m mod) : (imL p m2 mod2 m (embR p m2 mod2 m mod)).getD x.1.toNat 0 = (phi p m mod m2 mod2 x).1 := by
  have hp := hF.p2
  have hxb := x.2
  rw [imL_get _ _ (by omega), Int.toNat_of_nonneg hxb.1]
  unfold phi embF
  congr 2
  refine Po.ext fun j => ?_
  rw [cf_zp, cf_pol]
  have hdl := digs_len p m.toNat x.1
  by_cases hj : j < m.toNat
  · rw [if_pos hj]
    have hb := (digs_in (p := p) (by omega) m.toNat x.1).get (by omega) j
    exact (zi_el hb.1 hb.2).symm
  · rw [if_neg hj, getD_out (by omega), el_zero]
theorem imL_idx (hd : m2 % m = 0) (x : El p m mod) : idxI (imL p m2 mod2 m (embR p m2 mod2 m mod)) (phi p m mod m2 mod2 x).1 = x.1 := by
  have hxb := x.2
  have h := idxI_of (l := imL p m2 mod2 m (embR p m2 mod2 m mod)) (k := x.1.toNat) (by rw [imL_length]; omega) (imL_phi (mod := mod) x) (fun j hj e => by
    have h1 := imL_phi (mod := mod) (m2 := m2) (mod2 := mod2) (⟨(j : Int), by omega, by omega⟩ : El p m mod)
    have h2 : (j : Int).toNat = j := Int.toNat_natCast j
    simp only [h2] at h1
    rw [e] at h1
    have h3 := (phi_hm (p := p) (m := m) (mod := mod) (mod2 := mod2) hd).inj (El.ext h1)
    have h4 := congrArg (fun z : El p m mod => z.1) h3
    simp only at h4
    omega)
  rw [h, Int.toNat_of_nonneg hxb.1]
omit hF in
theorem root_ord {n : Int} (hn : 1 ≤ n) (h : rootI p m2 mod2 n ≠ 0) : AOrd (el (rootI p m2 mod2 n) : El p m2 mod2) n.toNat := by
  have hr : RootI p m2 mod2 n (rootI p m2 mod2 n) := by
    by_cases hx : ∃ r, RootI p m2 mod2 n r
    · obtain ⟨r, hr⟩ := hx
      rw [hr.eq]; exact hr
    · unfold rootI at h
      rw [dif_neg hx] at h
      exact absurd rfl h
  rcases hr with ⟨h1, _⟩ | ⟨h1, h2, h3, _⟩
  · exact absurd h1 h
  · obtain ⟨t, ht, _⟩ := ord_ex hE.out (y := rootI p m2 mod2 n) ⟨by omega, h2⟩
    have h4 := ht.eq
    have h5 : t = n.toNat := by omega
    subst h5
    have hpw : ∀ s, (Rg.pow (el (rootI p m2 mod2 n) : El p m2 mod2) s).1 = pwI p m2 mod2 (rootI p m2 mod2 n) s := fun s => by
      have h6 := pow_val hE.out (el (rootI p m2 mod2 n)) s
      rw [Fd.pow_eq, el_in ⟨by omega, h2⟩] at h6
      exact h6
    refine ⟨ht.pos, El.ext (by rw [hpw, ht.one]; rfl), fun s h6 h7 e => ht.least s h6 h7 ?_⟩
    rw [← hpw, e]; rfl
omit hF in
theorem clsR_nodup {a : El p m2 mod2} {n : Int} (ha : AOrd a n.toNat) {q : Int} (zs : List Int) : (clsR a (clsL q n zs)).Nodup := by
  have hn := ha.pos
  refine List.pairwise_map.2 (((clsL_lt q n zs).imp fun h e => by omega : (clsL q n zs).Nodup).imp_of_mem fun {x y} hx hy hxy e => hxy ?_)
  have h1 := ((mem_clsL (show 1 ≤ n by omega)).1 hx).1
  have h2 := ((mem_clsL (show 1 ≤ n by omega)).1 hy).1
  have := ha.inj (i := x.toNat) (j := y.toNat) (by omega) (by omega) e
  omega
omit hF in
theorem val_xn1 (n : Nat) (y : El p m2 mod2) : Po.val (xn1 n : Po (El p m2 mod2)) y = Rg.pow y n - 1 := by unfold xn1; rw [Po.val_sub, Po.val_mn, Po.val_one, Rg.one_mul]
omit hF in
theorem clsR_dvd {a : El p m2 mod2} {n : Int} (ha : AOrd a n.toNat) {q : Int} (zs : List Int) : rootP (clsR a (clsL q n zs)) ∣ xn1 n.toNat := by
  refine rootP_dvd _ _ (clsR_nodup ha zs) fun r hr => ?_
  obtain ⟨i, _, rfl⟩ := List.mem_map.1 hr
  rw [val_xn1, ← Rg.pow_mul, Nat.mul_comm, Rg.pow_mul, ha.one, Rg.one_pow, Rg.sub_self]
theorem mapP_xn1 {φ : El p m mod → El p m2 mod2} (h : Hm φ) (n : Nat) : mapP φ h (xn1 n) = xn1 n := by
  unfold xn1; rw [mapP_sub, mapP_mn, mapP_one, h.one]
theorem frz_gen (hd : m2 % m = 0) {a : El p m2 mod2} {n : Int} (ha : AOrd a n.toNat) (zs : List Int) : ∃ g : Po (El p m mod), mapP (phi p m mod m2 mod2) (phi_hm hd) g = rootP (clsR a (clsL (pw p m) n zs)) ∧ g ∣ xn1 n.toNat ∧ Po.lead g = 1 ∧ (il (rootP (clsR a (clsL (pw p m) n zs)))).map (idxI (imL p m2 mod2 m (embR p m2 mod2 m mod))) = il g := by
  have hh := phi_hm (p := p) (m := m) (mod := mod) (mod2 := mod2) hd
  obtain ⟨g, hg⟩ := gen_down hh ha hd zs
  have hg0 : g ≠ 0 := fun e => rootP_ne (clsR a (clsL (pw p m) n zs)) (by rw [← hg, e, mapP_zero])
  refine ⟨g, hg, (mapP_dvd hh hg0).1 (by rw [hg, mapP_xn1]; exact clsR_dvd ha zs), hh.inj (by rw [← mapP_lead hh, hg, rootP_lead, hh.one]), ?_⟩
  refine ext_getD (by rw [List.length_map, il_length, il_length, ← hg, mapP_len]) fun j => ?_
  rw [il_getD]
  by_cases hj : j < Po.len g
  · have h1 : j < (il (rootP (clsR a (clsL (pw p m) n zs)))).length := by rw [il_length, ← hg, mapP_len]; exact hj
    rw [List.getD_eq_getElem?_getD, List.getElem?_map, List.getElem?_eq_getElem h1]
    have h2 : (il (rootP (clsR a (clsL (pw p m) n zs))))[j] = (phi p m mod m2 mod2 (Po.cf g j)).1 := by
      have h3 := il_getD (rootP (clsR a (clsL (pw p m) n zs))) j
      have h4 : Po.cf (rootP (clsR a (clsL (pw p m) n zs))) j = phi p m mod m2 mod2 (Po.cf g j) := by rw [← hg]; rfl
      rw [List.getD_eq_getElem?_getD, List.getElem?_eq_getElem h1, h4] at h3
      exact h3
    show idxI _ ((il (rootP (clsR a (clsL (pw p m) n zs))))[j]) = _
    rw [h2, imL_idx hd]
  · rw [getD_out (by rw [List.length_map, il_length, ← hg, mapP_len]; omega), Po.cf_ge (by omega)]; rfl
theorem gcd_self_dvd {K : Type} [Fd K] {g f : Po K} (h : g ∣ f) (hl : Po.lead g = 1) (hg : g ≠ 0) : Po.gcd g f = g :=
  Po.monic_eq (Po.gcd_is g f).left ((Po.gcd_is g f).great (Po.dvd_refl g) h) (Po.gcd_monic (.inl hg)) hl
end
end Go.Proofs.YtjmojhflnjbgaaaGreat

set_option linter.unusedSimpArgs false
set_option linter.unusedVariables false
namespace Go.Proofs.YtjmojhflnjbgaaaGreat
open Go.RowKit
section
variable {p m m2 : Int} {mod mod2 : List Int} [hF : IsF p m mod] [hE : IsF p m2 mod2]
theorem map_phi (hd : m2 % m = 0) {xs : List Int} (hx : AllIn (pw p m) xs) : (pol (xs.map fun y : Int => (imL p m2 mod2 m (embR p m2 mod2 m mod)).getD y.toNat 0) : Po (El p m2 mod2)) = mapP (phi p m mod m2 mod2) (phi_hm hd) (pol xs) := Po.ext fun j => by
  rw [cf_mapP, cf_pol, cf_pol]
  by_cases hj : j < xs.length
  · have hb := hx.get (by have := hF.q2; omega) j
    have h1 := imL_phi (mod := mod) (m2 := m2) (mod2 := mod2) (el (xs.getD j 0) : El p m mod)
    rw [el_in hb] at h1
    rw [List.getD_eq_getElem?_getD, List.getElem?_map, List.getElem?_eq_getElem hj]
    have hxe : xs.getD j 0 = xs[j] := by rw [List.getD_eq_getElem?_getD, List.getElem?_eq_getElem hj]; rfl
    have h2 : (imL p m2 mod2 m (embR p m2 mod2 m mod)).getD (xs[j]).toNat 0 = (phi p m mod m2 mod2 (el (xs.getD j 0))).1 := by
      rw [← hxe]; exact h1
    show (el ((imL p m2 mod2 m (embR p m2 mod2 m mod)).getD (xs[j]).toNat 0) : El p m2 mod2) = _
    rw [h2, el_of]
  · rw [getD_out (by rw [List.length_map]; omega), getD_out (l := xs) (by omega), el_zero, el_zero, (phi_hm hd).zero]
theorem val_frob (hd : m2 % m = 0) (f : Po (El p m mod)) (y : El p m2 mod2) : Po.val (mapP (phi p m mod m2 mod2) (phi_hm hd) f) (Rg.pow y (pw p m).toNat) = Rg.pow (Po.val (mapP (phi p m mod m2 mod2) (phi_hm hd) f) y) (pw p m).toNat := by
  have hp := hF.p2
  have hh := phi_hm (p := p) (m := m) (mod := mod) (m2 := m2) (mod2 := mod2) hd
  have hs := frob_hm (p := p) (m2 := m2) (mod2 := mod2) m.toNat
  have h1 := val_mapP hs (mapP (phi p m mod m2 mod2) hh f) y
  have h2 : mapP _ hs (mapP (phi p m mod m2 mod2) hh f) = mapP (phi p m mod m2 mod2) hh f := Po.ext fun j => by
    rw [cf_mapP, cf_mapP]
    show Rg.pow (phi p m mod m2 mod2 (Po.cf f j)) (p.toNat ^ m.toNat) = _
    rw [← pw_nat (show 0 ≤ p by omega) m, ← hh.pow, all_pow]
  rw [h2] at h1
  rw [pw_nat (show 0 ≤ p by omega) m]
  exact h1
theorem orb_zero (hd : m2 % m = 0) {a : El p m2 mod2} {n : Int} (ha : AOrd a n.toNat) (f : Po (El p m mod)) {z : Int} (hz : 0 ≤ z ∧ z < n) (h0 : Po.val (mapP (phi p m mod m2 mod2) (phi_hm hd) f) (Rg.pow a z.toNat) = 0) : ∀ k, Po.val (mapP (phi p m mod m2 mod2) (phi_hm hd) f) (Rg.pow a (stp (pw p m) n k z).toNat) = 0
  | 0 => h0
  | k + 1 => by
    have hq := hF.q2
    have hn := ha.pos
    have hb := stp_bd (q := pw p m) (show 1 ≤ n by omega) hz k
    have ih := orb_zero hd ha f hz h0 k
    have e : Rg.pow a (stp (pw p m) n (k + 1) z).toNat = Rg.pow (Rg.pow a (stp (pw p m) n k z).toNat) (pw p m).toNat := by
      show Rg.pow a (stp (pw p m) n k z * pw p m % n).toNat = _
      rw [← Rg.pow_mul, ← ha.mod ((stp (pw p m) n k z).toNat * (pw p m).toNat)]
      congr 1
      obtain ⟨x, hx⟩ := Int.eq_ofNat_of_zero_le (show 0 ≤ pw p m by omega)
      obtain ⟨y, hy⟩ := Int.eq_ofNat_of_zero_le (show 0 ≤ n by omega)
      obtain ⟨t, ht⟩ := Int.eq_ofNat_of_zero_le hb.1
      rw [hx, hy, ← hx]
      rw [hx] at ht ⊢
      rw [hy] at ht
      rw [ht, ← Int.natCast_mul, ← Int.natCast_emod]
      simp only [Int.toNat_natCast]
    rw [e, val_frob hd, ih, Rg.zero_pow (by omega)]
theorem gen_dvd (hd : m2 % m = 0) {a : El p m2 mod2} {n : Int} (ha : AOrd a n.toNat) {zs : List Int} {g : Po (El p m mod)} (hg : mapP (phi p m mod m2 mod2) (phi_hm hd) g = rootP (clsR a (clsL (pw p m) n zs))) (f : Po (El p m mod)) :
    g ∣ f ↔ ∀ z ∈ zs, Po.val (mapP (phi p m mod m2 mod2) (phi_hm hd) f) (Rg.pow a (z % n).toNat) = 0 := by
  have hn := ha.pos
  have hh := phi_hm (p := p) (m := m) (mod := mod) (m2 := m2) (mod2 := mod2) hd
  have hg0 : g ≠ 0 := fun e => rootP_ne (clsR a (clsL (pw p m) n zs)) (by rw [← hg, e, mapP_zero])
  rw [← mapP_dvd hh hg0, hg]
  constructor
  · rintro ⟨k, hk⟩ z hz
    have hzb : 0 ≤ z % n ∧ z % n < n := ⟨Int.emod_nonneg _ (by omega), Int.emod_lt_of_pos _ (by omega)⟩
    rw [hk, Po.val_mul, (val_rootP _ _).2, Rg.zero_mul]
    exact List.mem_map.2 ⟨z % n, (mem_clsL (show 1 ≤ n by omega)).2 ⟨hzb, z, hz, Orb.refl _ _ _⟩, rfl⟩
  · intro h
    refine rootP_dvd _ _ (clsR_nodup ha zs) fun r hr => ?_
    obtain ⟨i, hi, rfl⟩ := List.mem_map.1 hr
    obtain ⟨_, z, hz, k, hk⟩ := (mem_clsL (show 1 ≤ n by omega)).1 hi
    have hzb : 0 ≤ z % n ∧ z % n < n := ⟨Int.emod_nonneg _ (by omega), Int.emod_lt_of_pos _ (by omega)⟩
    show Po.val _ (Rg.pow a i.toNat) = 0
    rw [hk]
    exact orb_zero hd ha f hzb (h z hz) k
end
end Go.Proofs.YtjmojhflnjbgaaaGreat

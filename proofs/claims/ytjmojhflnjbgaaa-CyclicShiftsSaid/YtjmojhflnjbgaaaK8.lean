/-
  CYCLICSHIFTS, PART 8 OF 9. One sentence: the texts behind the law CyclicShifts, put together.
  Conditions: each theorem's own, written out in it.
-/
import Derived.Test.YtjmojhflnjbgaaaK7
set_option linter.unusedSimpArgs false
set_option linter.unusedVariables false
set_option linter.unusedSectionVars false
set_option linter.unusedSimpArgs false
set_option linter.unusedVariables false
set_option maxRecDepth 100000
namespace Go.Proofs.Ytjmojhflnjbgaaa
open Go.RowKit

theorem law_CyclicShifts_E_ent : Enters Try.prog 13 := enters_of Try.func13 (by kernel_rfl) (by kernel_rfl)
theorem law_CyclicShifts_E (p m : Int) (A : Option Addr) (c : Nat) (mod : List Int) (hl9 : mod.length ≤ 17592186044415) (w : Int) (Aa : Option Addr) (n ca : Nat) (rs : List RowM) (hn : n = rs.length) (h9 : rs.length ≤ 17592186044415) (h8 : ∀ r ∈ rs, r.xs.length ≤ 17592186044415) (X : Option Addr) (nx cx : Nat) (l : List Int) (hnx : nx = l.length) (hl : l.length ≤ 17592186044415) (he : codC p m mod w rs ≠ 0) :
    Pure Try.prog 13 #[.agg #[.int .i64 p, .int .i64 m, .slice A mod.length c, .int .i64 w, .slice Aa n ca], .slice X nx cx] [ro A (ints mod), ro Aa (hdrs rs), rowsR rs, ro X (ints l)] (isV (.bool true)) := by
  refine pure_of (args := [.agg #[.int .i64 p, .int .i64 m, .slice A mod.length c, .int .i64 w, .slice Aa n ca], .slice X nx cx]) 91 Try.func13 rfl rfl rfl law_CyclicShifts_E_ent ⟨id, id, id, id, trivial⟩ (fun w0 => ?_)
  refine tr_seq ?_
  refine tr_region fun _ _ _ => ?_
  refine ef rfl rfl (eBox rfl rfl rfl rfl rfl (fun p0 => ?_)) 
  refine pu rfl rfl rfl rfl rfl ?_
  refine tr_seq ?_
  refine tr_seq ?_
  refine tr_region fun _ _ _ => ?_
  refine st rfl rfl rfl rfl (rLdS rfl rfl rfl) ?_
  refine ef rfl rfl (eCall0 rfl rfl rfl (law16_fewC p m A c mod hl9 w Aa n ca rs hn h9 h8) ⟨rfl, trivial⟩ ?_) 
  rintro _ ⟨b, rfl, hb⟩
  refine st rfl rfl rfl rfl (rNotB rfl rfl) ?_
  refine pu rfl rfl rfl rfl rfl ?_
  refine stg rfl rfl rfl rfl rfl (fun hb => by (have hq := hb; try simp only [zb1, zb2, zb3, zb4, zb5, zb6, zb7, zb8, zb9, zb10] at hq); exact rLdS rfl rfl rfl) ?_
  refine efg rfl rfl rfl rfl rfl (fun hb => by (have hq := hb; try simp only [zb1, zb2, zb3, zb4, zb5, zb6, zb7, zb8, zb9, zb10] at hq); exact eCallV rfl rfl rfl (ref_CCheck p m A c mod hl9 w Aa n ca rs hn h9 h8) ⟨(evg rfl hb), trivial⟩ ⟨rfl, rfl⟩) ?_
  refine stg rfl rfl rfl rfl rfl (fun hb => by (have hq := hb; try simp only [zb1, zb2, zb3, zb4, zb5, zb6, zb7, zb8, zb9, zb10] at hq); exact rNeq rfl (evg rfl hb) rfl) ?_
  refine st rfl rfl rfl rfl (rOrB rfl rfl rfl rfl) ?_
  refine tr_cond_bool rfl (fun h1 => ?_) (fun h1 => ?_)
  · try simp only [zb1, zb2, zb3, zb4, zb5, zb6, zb7, zb8, zb9, zb10] at h1
    refine tr_seq ?_
    refine tr_region fun _ _ _ => ?_
    refine pu rfl rfl rfl rfl rfl ?_
    exact tr_ret ⟨trivial, _, _, rfl, ⟨rfl, rfl⟩, CSub.nil _, trivial⟩
  · try simp only [zb1, zb2, zb3, zb4, zb5, zb6, zb7, zb8, zb9, zb10] at h1
    exact absurd h1.2 (by simpa using he) --done

theorem law_CyclicShifts_ok_ent : Enters Try.prog 13 := enters_of Try.func13 (by kernel_rfl) (by kernel_rfl)
theorem law_CyclicShifts_ok (p m : Int) (A : Option Addr) (c : Nat) (mod : List Int) [hF : IsF p m mod] (w : Int) (Aa : Option Addr) (n ca : Nat) (rs : List RowM) (hn : n = rs.length) (h9 : rs.length ≤ 256) (hc : CodeOk p m mod w rs) (hl9 : mod.length ≤ 17592186044415) (h9b : rs.length ≤ 17592186044415) (h8 : ∀ r ∈ rs, r.xs.length ≤ 17592186044415) (X : Option Addr) (nx cx : Nat) (l : List Int) (hnx : nx = l.length) (hl : l.length ≤ 17592186044415) :
    Pure Try.prog 13 #[.agg #[.int .i64 p, .int .i64 m, .slice A mod.length c, .int .i64 w, .slice Aa n ca], .slice X nx cx] [ro A (ints mod), ro Aa (hdrs rs), rowsR rs, ro X (ints l)] (isV (.bool true)) := by
  have hck := hc.zero
  have h9c := h9
  have hn1 := hc.n1
  have hn64 := hc.n64
  have hgd := hc.good
  have hq2 := hF.q2
  have hlen := hc.len
  refine pure_of (args := [.agg #[.int .i64 p, .int .i64 m, .slice A mod.length c, .int .i64 w, .slice Aa n ca], .slice X nx cx]) 91 Try.func13 rfl rfl rfl law_CyclicShifts_ok_ent ⟨id, id, id, id, trivial⟩ (fun w0 => ?_)
  refine tr_seq ?_
  refine tr_region fun _ _ _ => ?_
  refine ef rfl rfl (eBox rfl rfl rfl rfl rfl (fun p0 => ?_)) 
  refine pu rfl rfl rfl rfl rfl ?_
  refine tr_seq ?_
  refine tr_seq ?_
  refine tr_region fun _ _ _ => ?_
  refine st rfl rfl rfl rfl (rLdS rfl rfl rfl) ?_
  refine ef rfl rfl (eCall0 rfl rfl rfl (law16_fewC p m A c mod hl9 w Aa n ca rs hn h9b h8) ⟨rfl, trivial⟩ ?_) 
  rintro _ ⟨b, rfl, hb⟩
  refine st rfl rfl rfl rfl (rNotB rfl rfl) ?_
  refine pu rfl rfl rfl rfl rfl ?_
  refine stg rfl rfl rfl rfl rfl (fun hb => by (have hq := hb; try simp only [zb1, zb2, zb3, zb4, zb5, zb6, zb7, zb8, zb9, zb10] at hq); exact rLdS rfl rfl rfl) ?_
  refine efg rfl rfl rfl rfl rfl (fun hb => by (have hq := hb; try simp only [zb1, zb2, zb3, zb4, zb5, zb6, zb7, zb8, zb9, zb10] at hq); exact eCallV rfl rfl rfl (ref_CCheck p m A c mod hl9 w Aa n ca rs hn h9b h8) ⟨(evg rfl hb), trivial⟩ ⟨rfl, rfl⟩) ?_
  refine stg rfl rfl rfl rfl rfl (fun hb => by (have hq := hb; try simp only [zb1, zb2, zb3, zb4, zb5, zb6, zb7, zb8, zb9, zb10] at hq); exact rNeq rfl (evg rfl hb) rfl) ?_
  refine st rfl rfl rfl rfl (rOrB rfl rfl rfl rfl) ?_
  refine tr_cond_bool rfl (fun h1 => ?_) (fun h1 => ?_)
  · try simp only [zb1, zb2, zb3, zb4, zb5, zb6, zb7, zb8, zb9, zb10] at h1
    refine tr_seq ?_
    refine tr_region fun _ _ _ => ?_
    refine pu rfl rfl rfl rfl rfl ?_
    exact tr_ret ⟨trivial, _, _, rfl, ⟨rfl, rfl⟩, CSub.nil _, trivial⟩
  · try simp only [zb1, zb2, zb3, zb4, zb5, zb6, zb7, zb8, zb9, zb10] at h1
    refine tr_skip ?_
    refine tr_seq ?_
    refine tr_region fun _ _ _ => ?_
    refine st rfl rfl rfl rfl (rFld rfl rfl) ?_
    refine st rfl rfl rfl rfl (rLdF rfl rfl rfl) ?_
    refine st rfl rfl rfl rfl (rLen rfl rfl) ?_
    refine ef rfl rfl (eMakeI rfl rfl rfl rfl rfl (by omega) (by omega) (by omega) (fun A3 => ?_)) 
    refine pu rfl rfl rfl rfl rfl ?_
    simp only [Int.toNat_natCast]
    refine tr_seq ?_
    refine tr_seq ?_
    refine tr_region fun _ _ _ => ?_
    refine pu rfl rfl rfl rfl rfl ?_
    refine tr_block ?_
    refine tr_loop2 (fun (k : Int) (x : List Int) => [(5, .slice A3 n n), (6, .int .i64 k), (1, .slice X nx cx), (2, .pointer (some p0)), (4, .bool false)]) (fun (k : Int) (x : List Int) => [ow A3 3 n (ints x), blk p0 43 [.int .i64 p, .int .i64 m, .slice A mod.length c, .int .i64 w, .slice Aa n ca], ro A (ints mod), ro Aa (hdrs rs), rowsR rs, ro X (ints l)]) (fun (k : Int) (x : List Int) => (0 ≤ k ∧ k ≤ n) ∧ x.length = n) (fun (k : Int) (x : List Int) => (n - k).toNat) (0) (List.replicate n 0) ⟨rfl, rfl, rfl, rfl, rfl, trivial⟩ (by first | exact cs _ _ | exact CSub.refl _) (⟨⟨by omega, by omega⟩, by simp⟩) (fun k x hI => ?_)
    obtain ⟨⟨hk0, hk1⟩, hxl0⟩ := hI
    refine tr_seq ?_
    refine tr_seq ?_
    refine tr_region fun _ _ _ => ?_
    iterate 2 refine pu rfl rfl rfl rfl rfl ?_
    refine st rfl rfl rfl rfl (rLen rfl rfl) ?_
    iterate 2 refine pu rfl rfl rfl rfl rfl ?_
    refine stg rfl rfl rfl rfl rfl (fun hb => by (have hq := hb; try simp only [zb1, zb2, zb3, zb4, zb5, zb6, zb7, zb8, zb9, zb10] at hq); exact rMove rfl rfl) ?_
    refine stg rfl rfl rfl rfl rfl (fun hb => by (have hq := hb; try simp only [zb1, zb2, zb3, zb4, zb5, zb6, zb7, zb8, zb9, zb10] at hq); exact rMove rfl rfl) ?_
    refine stg rfl rfl rfl rfl rfl (fun hb => by (have hq := hb; try simp only [zb1, zb2, zb3, zb4, zb5, zb6, zb7, zb8, zb9, zb10] at hq); exact rLen rfl (evg rfl hb)) ?_
    refine stg rfl rfl rfl rfl rfl (fun hb => by (have hq := hb; try simp only [zb1, zb2, zb3, zb4, zb5, zb6, zb7, zb8, zb9, zb10] at hq); exact rLss rfl (evg rfl hb) (evg rfl hb)) ?_
    refine st rfl rfl rfl rfl (rAndB rfl rfl rfl rfl) ?_
    refine tr_cond_bool rfl (fun h5 => ?_) (fun h5 => ?_)
    · try simp only [zb1, zb2, zb3, zb4, zb5, zb6, zb7, zb8, zb9, zb10] at h5
      refine tr_skip ?_
      refine tr_seq ?_
      refine tr_block ?_
      refine tr_draw [0, 1, 2, 3, 4, 5, 6, 7, 8, 9] [10] mixed (by kernel_rfl) fun _ _ _ => ?_
      iterate 2 refine pu rfl rfl rfl rfl rfl ?_
      refine st rfl rfl rfl rfl (rFld rfl rfl) ?_
      refine st rfl rfl rfl rfl (rLdSF rfl rfl) ?_
      iterate 2 refine pu rfl rfl rfl rfl rfl ?_
      refine st rfl rfl rfl rfl (rIdxI rfl rfl rfl (by omega) (by omega) (by omega)) ?_
      refine st rfl rfl rfl rfl (rLdI rfl rfl (by omega)) ?_
      refine ef rfl rfl (eCallV rfl rfl rfl (ref_In _ _ _ _ _ _) ⟨rfl, rfl, trivial⟩ ?_) 
      refine st rfl rfl rfl rfl (rIdxI rfl rfl rfl (by omega) (by omega) (by omega)) ?_
      refine ef rfl rfl (eStI rfl rfl rfl rfl (by omega) ?_) 
      refine tr_region fun _ _ _ => ?_
      refine pu rfl rfl rfl rfl rfl ?_
      refine st rfl rfl rfl rfl (rAdd rfl rfl rfl (by omega) (by omega)) ?_
      refine pu rfl rfl rfl rfl rfl ?_
      refine ⟨k + 1, x.set k.toNat (inI (ordI p m) (l.getD k.toNat 0)), ⟨rfl, rfl, rfl, rfl, rfl, trivial⟩, by first | exact cs _ _ | exact CSub.refl _, ?_⟩
      exact ⟨⟨⟨by omega, by omega⟩, by simpa using hxl0⟩, by omega⟩
    · try simp only [zb1, zb2, zb3, zb4, zb5, zb6, zb7, zb8, zb9, zb10] at h5
      refine tr_exit ?_
      refine tr_seq ?_
      have hxn : n = x.length := by omega
      have hxl : x.length = rs.length := by omega
      refine tr_region fun _ _ _ => ?_
      refine st rfl rfl rfl rfl (rLdS rfl rfl rfl) ?_
      refine ef rfl rfl (eCallV rfl rfl rfl (cyc_Is _ _ _ _ _ w Aa n ca rs hn h9c hc) ⟨rfl, trivial⟩ ?_) 
      iterate 5 refine pu rfl rfl rfl rfl rfl ?_
      refine tr_seq ?_
      refine tr_draw [0, 1, 2, 3, 4, 5, 6, 7, 8, 9, 10, 11, 12, 13, 14, 15] [] mixed (by kernel_rfl) fun _ _ _ => ?_
      refine st rfl rfl rfl rfl (rLdS rfl rfl rfl) ?_
      refine st rfl rfl rfl rfl (rFld rfl rfl) ?_
      refine st rfl rfl rfl rfl (rLdSF rfl rfl) ?_
      refine pu rfl rfl rfl rfl rfl ?_
      refine st rfl rfl rfl rfl (rFld rfl rfl) ?_
      refine st rfl rfl rfl rfl (rLdF rfl rfl rfl) ?_
      refine st rfl rfl rfl rfl (rFld rfl rfl) ?_
      refine st rfl rfl rfl rfl (rLdF rfl rfl rfl) ?_
      refine ef rfl rfl (eCall1 rfl rfl rfl (ref_Combine _ _ _ _ _ A3 _ _ x hxn w (by omega) (by omega) Aa _ ca rs hn hxl (by omega) hgd) ⟨rfl, rfl, rfl, rfl, trivial⟩ ?_) 
      rintro _ _ ⟨Bo, cb, o, rfl, rfl, hol, hoi, hoe⟩
      refine ef rfl rfl (eCall1 rfl rfl rfl (ref_ShiftW w.toNat Bo _ cb o rfl (by omega) (by omega)) ⟨rfl, trivial⟩ ?_) 
      rintro _ _ ⟨Bs, rfl, rfl⟩
      refine ef rfl rfl (eCallV rfl rfl rfl (ref_CHas _ _ _ _ _ w Aa n ca rs hn h9c hc Bs _ _ (shF w.toNat o) (by rw [shF_length]) (by rw [shF_length]; omega) (shF_in (by omega) hoi)) ⟨rfl, rfl, trivial⟩ ?_) 
      iterate 5 refine pu rfl rfl rfl rfl rfl ?_
      refine tr_seq ?_
      refine tr_region fun _ _ _ => ?_
      refine st rfl rfl rfl rfl (rFld rfl rfl) ?_
      refine st rfl rfl rfl rfl (rLdSF rfl rfl) ?_
      refine st rfl rfl rfl rfl (rFld rfl rfl) ?_
      refine st rfl rfl rfl rfl (rLdF rfl rfl rfl) ?_
      refine st rfl rfl rfl rfl (rBuild rfl rfl) ?_
      refine ef rfl rfl (eCallV rfl rfl rfl (cyc_Is0 _ _ _ _ _ w hn1 hn64) ⟨rfl, trivial⟩ ?_) 
      iterate 5 refine pu rfl rfl rfl rfl rfl ?_
      refine tr_seq ?_
      refine tr_region fun _ _ _ => ?_
      iterate 3 refine pu rfl rfl rfl rfl rfl ?_
      refine stg rfl rfl rfl rfl rfl (fun hb => by (have hq := hb; try simp only [zb1, zb2, zb3, zb4, zb5, zb6, zb7, zb8, zb9, zb10] at hq); exact rMove rfl rfl) ?_
      refine stg rfl rfl rfl rfl rfl (fun hb => by (have hq := hb; try simp only [zb1, zb2, zb3, zb4, zb5, zb6, zb7, zb8, zb9, zb10] at hq); exact rEql rfl (evg rfl hb) rfl) ?_
      refine st rfl rfl rfl rfl (rAndB rfl rfl rfl rfl) ?_
      refine pu rfl rfl rfl rfl rfl ?_
      refine stg rfl rfl rfl rfl rfl (fun hb => by (have hq := hb; try simp only [zb1, zb2, zb3, zb4, zb5, zb6, zb7, zb8, zb9, zb10] at hq); exact rMove rfl rfl) ?_
      refine st rfl rfl rfl rfl (rAndB rfl rfl rfl rfl) ?_
      refine pu rfl rfl rfl rfl rfl ?_
      refine stg rfl rfl rfl rfl rfl (fun hb => by (have hq := hb; try simp only [zb1, zb2, zb3, zb4, zb5, zb6, zb7, zb8, zb9, zb10] at hq); exact rMove rfl rfl) ?_
      refine stg rfl rfl rfl rfl rfl (fun hb => by (have hq := hb; try simp only [zb1, zb2, zb3, zb4, zb5, zb6, zb7, zb8, zb9, zb10] at hq); exact rNotB rfl (evg rfl hb)) ?_
      refine stg rfl rfl rfl rfl rfl (fun hb => by (have hq := hb; try simp only [zb1, zb2, zb3, zb4, zb5, zb6, zb7, zb8, zb9, zb10] at hq); exact rMove rfl (evg rfl hb)) ?_
      refine stg2 rfl rfl rfl rfl rfl (fun hb => by (have hq := hb; try simp only [zb1, zb2, zb3, zb4, zb5, zb6, zb7, zb8, zb9, zb10] at hq); exact rMove rfl rfl) ?_
      refine stg rfl rfl rfl rfl rfl (fun hb => by (have hq := hb; try simp only [zb1, zb2, zb3, zb4, zb5, zb6, zb7, zb8, zb9, zb10] at hq); exact rOrB rfl (evg rfl hb) rfl (evgp rfl hb)) ?_
      refine st rfl rfl rfl rfl (rAndB rfl rfl rfl rfl) ?_
      refine pu rfl rfl rfl rfl rfl ?_
      have hin : closB p m mod w.toNat rs = true → memB p m mod rs (shF w.toNat o) = true := fun h => memB_iff.2 (by
        rw [rw_shF, show o.length = w.toNat by omega]
        exact closB_word hgd h (by rw [hoe]; exact Vc.cmb_sp _ _))
      exact tr_ret ⟨trivial, _, _, rfl, ⟨by cases hcl : closB p m mod w.toNat rs <;> simp [hcl] <;> exact hin hcl, rfl⟩, CSub.nil _, trivial⟩

theorem law_CyclicShifts (p m : Int) (A : Option Addr) (c : Nat) (mod : List Int) (hl9 : mod.length ≤ 17592186044415) (w : Int) (Aa : Option Addr) (n ca : Nat) (rs : List RowM) (hn : n = rs.length) (h9 : rs.length ≤ 17592186044415) (h8 : ∀ r ∈ rs, r.xs.length ≤ 17592186044415) (X : Option Addr) (nx cx : Nat) (l : List Int) (hnx : nx = l.length) (hl : l.length ≤ 17592186044415) : Pure Try.prog 13 #[.agg #[.int .i64 p, .int .i64 m, .slice A mod.length c, .int .i64 w, .slice Aa n ca], .slice X nx cx] [ro A (ints mod), ro Aa (hdrs rs), rowsR rs, ro X (ints l)] (isV (.bool true)) := by
  by_cases he : codC p m mod w rs = 0
  · obtain ⟨hF0, hc⟩ := codC_zero he
    haveI hF : IsF p m mod := ⟨hF0⟩
    have hlen := hc.len
    exact law_CyclicShifts_ok p m A c mod w Aa n ca rs hn (by omega) hc hl9 h9 h8 X nx cx l hnx hl
  · exact law_CyclicShifts_E p m A c mod hl9 w Aa n ca rs hn h9 h8 X nx cx l hnx hl he

end Go.Proofs.Ytjmojhflnjbgaaa

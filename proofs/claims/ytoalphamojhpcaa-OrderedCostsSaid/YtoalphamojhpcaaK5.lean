/-
  ORDEREDCOSTS, PART 5 OF 8. One sentence: the texts behind the law OrderedCosts, put together.
  Conditions: each theorem's own, written out in it.
-/
import Derived.Test.YtoalphamojhpcaaK4
set_option linter.unusedSimpArgs false
set_option linter.unusedVariables false
set_option linter.unusedSectionVars false
set_option linter.unusedSimpArgs false
set_option linter.unusedVariables false
set_option maxRecDepth 100000
namespace Go.Proofs.Ytoalphamojhpcaa
open Go.RowKit
theorem slc_Equal_ent : Enters Try.prog 80 := enters_of Try.func80 (by kernel_rfl) (by kernel_rfl)
theorem slc_Equal (A : Option Addr) (n c : Nat) (a : List Int) (hn : n = a.length) (B : Option Addr) (m d : Nat) (b : List Int) (hm : m = b.length) (h9 : a.length ≤ 17592186044415) :
    Pure Try.prog 80 #[.slice A n c, .slice B m d] [ro A (ints a), ro B (ints b)] (isV (.bool (decide (a = b)))) := by
  refine pure_of (args := [.slice A n c, .slice B m d]) 26 Try.func80 rfl rfl rfl slc_Equal_ent ⟨id, id, trivial⟩ (fun w0 => ?_)
  refine tr_seq ?_
  refine tr_region fun _ _ _ => ?_
  refine pu rfl rfl rfl rfl rfl ?_
  refine tr_seq ?_
  refine tr_seq ?_
  refine tr_region fun _ _ _ => ?_
  refine pu rfl rfl rfl rfl rfl ?_
  refine st rfl rfl rfl rfl (rLen rfl rfl) ?_
  refine pu rfl rfl rfl rfl rfl ?_
  refine st rfl rfl rfl rfl (rLen rfl rfl) ?_
  refine pu rfl rfl rfl rfl rfl ?_
  refine tr_cond_bool rfl (fun h1 => ?_) (fun h1 => ?_)
  · try simp only [zbA] at h1
    refine tr_seq ?_
    refine tr_region fun _ _ _ => ?_
    refine pu rfl rfl rfl rfl rfl ?_
    exact tr_ret ⟨trivial, _, _, rfl, ⟨by rw [decide_eq_false (fun h => by rw [h] at hn; omega)], rfl⟩, CSub.nil _, trivial⟩
  · try simp only [zbA] at h1
    refine tr_skip ?_
    refine tr_seq ?_
    refine tr_seq ?_
    refine tr_region fun _ _ _ => ?_
    refine pu rfl rfl rfl rfl rfl ?_
    refine st rfl rfl rfl rfl (rLen rfl rfl) ?_
    refine pu rfl rfl rfl rfl rfl ?_
    refine tr_block ?_
    refine tr_loop1 (fun (i : Nat) => [(13, .int .i64 i), (0, .slice A n c), (1, .slice B m d), (12, .int .i64 n)]) (fun (i : Nat) => [ro A (ints a), ro B (ints b)]) (fun (i : Nat) => i ≤ a.length ∧ a.take i = b.take i) (fun (i : Nat) => a.length - i) (0) ⟨rfl, rfl, rfl, rfl, trivial⟩ (by first | exact cs _ _ | exact CSub.refl _) (⟨by omega, rfl⟩) (fun i hI => ?_)
    obtain ⟨hi, ht⟩ := hI
    have hll : a.length = b.length := by omega
    refine tr_seq ?_
    refine tr_region fun _ _ _ => ?_
    refine pu rfl rfl rfl rfl rfl ?_
    refine tr_seq ?_
    refine tr_cond_bool rfl (fun h4 => ?_) (fun h4 => ?_)
    · try simp only [zbA] at h4
      refine tr_skip ?_
      refine tr_seq ?_
      refine tr_block ?_
      refine tr_seq ?_
      refine tr_region fun _ _ _ => ?_
      iterate 2 refine pu rfl rfl rfl rfl rfl ?_
      refine tr_seq ?_
      refine tr_draw [0, 1, 2, 3, 4, 5, 6, 7, 8] [] mixed (by kernel_rfl) fun _ _ _ => ?_
      iterate 2 refine pu rfl rfl rfl rfl rfl ?_
      refine st rfl rfl rfl rfl (rIdxI rfl rfl rfl (by omega) (by omega) (by omega)) ?_
      refine st rfl rfl rfl rfl (rLdI rfl rfl (by omega)) ?_
      iterate 2 refine pu rfl rfl rfl rfl rfl ?_
      refine st rfl rfl rfl rfl (rIdxI rfl rfl rfl (by omega) (by omega) (by omega)) ?_
      refine st rfl rfl rfl rfl (rLdI rfl rfl (by omega)) ?_
      refine pu rfl rfl rfl rfl rfl ?_
      refine tr_cond_bool rfl (fun h6 => ?_) (fun h6 => ?_)
      · try simp only [zbA] at h6
        refine tr_seq ?_
        refine tr_region fun _ _ _ => ?_
        refine pu rfl rfl rfl rfl rfl ?_
        exact tr_ret ⟨trivial, _, _, rfl, ⟨by rw [decide_eq_false (fun h => h6 (by rw [h]))], rfl⟩, CSub.nil _, trivial⟩
      · try simp only [zbA] at h6
        refine tr_skip ?_
        refine tr_region fun _ _ _ => ?_
        refine st rfl rfl rfl rfl (rAdd rfl rfl rfl (by omega) (by omega)) ?_
        refine pu rfl rfl rfl rfl rfl ?_
        refine ⟨i + 1, ⟨rfl, rfl, rfl, rfl, trivial⟩, by first | exact cs _ _ | exact CSub.refl _, ?_⟩
        exact ⟨⟨by omega, take_eq_next 0 a b hll (by omega) ht (by simpa using h6)⟩, by omega⟩
    · try simp only [zbA] at h4
      refine tr_exit ?_
      refine tr_seq ?_
      refine tr_region fun _ _ _ => ?_
      refine pu rfl rfl rfl rfl rfl ?_
      have hia : i = a.length := by omega
      rw [hia, List.take_length, hll, List.take_length] at ht
      exact tr_ret ⟨trivial, _, _, rfl, ⟨by rw [decide_eq_true ht], rfl⟩, CSub.nil _, trivial⟩
theorem slc_EqualF (r q : RowM) (h9 : r.xs.length ≤ 17592186044415) : Pure Try.prog 80 ([Value.slice r.A r.xs.length r.cap, Value.slice q.A q.xs.length q.cap] ++ []).toArray [ro r.A (ints r.xs), ro q.A (ints q.xs)] (isV (.bool (decide (r.xs = q.xs)))) :=
  slc_Equal _ _ _ r.xs rfl _ _ _ q.xs rfl h9
theorem slc_EqualFunc_ent : Enters Try.prog 79 := enters_of Try.func79 (by kernel_rfl) (by kernel_rfl)
theorem slc_EqualFunc (A : Option Addr) (n c : Nat) (rs : List RowM) (hn : n = rs.length) (B : Option Addr) (m d : Nat) (qs : List RowM) (hm : m = qs.length) (h9 : rs.length ≤ 17592186044415) (h8 : ∀ r ∈ rs, r.xs.length ≤ 17592186044415) :
    Pure Try.prog 79 #[.slice A n c, .slice B m d, .func (.func 80) #[] #[]] [ro A (hdrs rs), rowsR rs, ro B (hdrs qs), rowsR qs] (isV (.bool (decide (xss rs = xss qs)))) := by
  refine pure_of (args := [.slice A n c, .slice B m d, .func (.func 80) #[] #[]]) 32 Try.func79 rfl rfl rfl slc_EqualFunc_ent ⟨id, id, id, id, trivial⟩ (fun w0 => ?_)
  refine tr_seq ?_
  refine tr_region fun _ _ _ => ?_
  refine pu rfl rfl rfl rfl rfl ?_
  refine tr_seq ?_
  refine tr_seq ?_
  refine tr_region fun _ _ _ => ?_
  refine pu rfl rfl rfl rfl rfl ?_
  refine st rfl rfl rfl rfl (rLen rfl rfl) ?_
  refine pu rfl rfl rfl rfl rfl ?_
  refine st rfl rfl rfl rfl (rLen rfl rfl) ?_
  refine pu rfl rfl rfl rfl rfl ?_
  refine tr_cond_bool rfl (fun h1 => ?_) (fun h1 => ?_)
  · try simp only [zbA] at h1
    refine tr_seq ?_
    refine tr_region fun _ _ _ => ?_
    refine pu rfl rfl rfl rfl rfl ?_
    exact tr_ret ⟨trivial, _, _, rfl, ⟨by rw [decide_eq_false (fun h => by have := congrArg List.length h; simp at this; omega)], rfl⟩, CSub.nil _, trivial⟩
  · try simp only [zbA] at h1
    refine tr_skip ?_
    refine tr_seq ?_
    refine tr_seq ?_
    refine tr_region fun _ _ _ => ?_
    refine pu rfl rfl rfl rfl rfl ?_
    refine st rfl rfl rfl rfl (rLen rfl rfl) ?_
    refine pu rfl rfl rfl rfl rfl ?_
    refine tr_block ?_
    refine tr_loop1 (fun (i : Nat) => [(17, .int .i64 i), (1, .slice B m d), (2, .func (.func 80) #[] #[]), (15, .slice A n c), (16, .int .i64 n)]) (fun (i : Nat) => [ro A (hdrs rs), rowsR rs, ro B (hdrs qs), rowsR qs]) (fun (i : Nat) => i ≤ rs.length ∧ (xss rs).take i = (xss qs).take i) (fun (i : Nat) => rs.length - i) (0) ⟨rfl, rfl, rfl, rfl, rfl, trivial⟩ (by first | exact cs _ _ | exact CSub.refl _) (⟨by omega, rfl⟩) (fun i hI => ?_)
    obtain ⟨hi, ht⟩ := hI
    have hll : rs.length = qs.length := by omega
    refine tr_seq ?_
    refine tr_region fun _ _ _ => ?_
    refine pu rfl rfl rfl rfl rfl ?_
    refine tr_seq ?_
    refine tr_cond_bool rfl (fun h4 => ?_) (fun h4 => ?_)
    · try simp only [zbA] at h4
      refine tr_skip ?_
      refine tr_seq ?_
      refine tr_block ?_
      refine tr_seq ?_
      haveI : InB (i : Int).toNat rs.length := ⟨by omega⟩
      haveI : InB (i : Int).toNat qs.length := ⟨by omega⟩
      have hr8 := h8 _ (getD_mem (show (i : Int).toNat < rs.length by omega) rowD)
      refine tr_region fun _ _ _ => ?_
      refine pu rfl rfl rfl rfl rfl ?_
      refine st rfl rfl rfl rfl (rIdxR rfl rfl rfl (by omega) (by omega) (by omega)) ?_
      refine st rfl rfl rfl rfl (rLdR rfl rfl (by omega)) ?_
      iterate 2 refine pu rfl rfl rfl rfl rfl ?_
      refine tr_seq ?_
      refine tr_region fun _ _ _ => ?_
      iterate 2 refine pu rfl rfl rfl rfl rfl ?_
      refine st rfl rfl rfl rfl (rIdxR rfl rfl rfl (by omega) (by omega) (by omega)) ?_
      refine st rfl rfl rfl rfl (rLdR rfl rfl (by omega)) ?_
      refine pu rfl rfl rfl rfl rfl ?_
      refine tr_seq ?_
      refine tr_region fun _ _ _ => ?_
      iterate 3 refine pu rfl rfl rfl rfl rfl ?_
      refine ef rfl rfl (eCallFV rfl rfl rfl rfl (slc_EqualF (rs.getD (i : Int).toNat rowD) (qs.getD (i : Int).toNat rowD) hr8) ⟨rfl, rfl, trivial⟩ inferInstance ?_) 
      refine st rfl rfl rfl rfl (rNotB rfl rfl) ?_
      refine tr_cond_bool rfl (fun h7 => ?_) (fun h7 => ?_)
      · try simp only [zbA] at h7
        refine tr_seq ?_
        refine tr_region fun _ _ _ => ?_
        refine pu rfl rfl rfl rfl rfl ?_
        exact tr_ret ⟨trivial, _, _, rfl, ⟨by rw [decide_eq_false (fun h => by have := congrArg (fun l => l.getD i []) h; simp only [xss_getD] at this; simp only [Int.toNat_natCast] at h7; exact h7 this)], rfl⟩, CSub.nil _, trivial⟩
      · try simp only [zbA] at h7
        refine tr_skip ?_
        refine tr_region fun _ _ _ => ?_
        refine st rfl rfl rfl rfl (rAdd rfl rfl rfl (by omega) (by omega)) ?_
        refine pu rfl rfl rfl rfl rfl ?_
        refine ⟨i + 1, ⟨rfl, rfl, rfl, rfl, rfl, trivial⟩, by first | exact cs _ _ | exact CSub.refl _, ?_⟩
        exact ⟨⟨by omega, take_eq_next [] _ _ (by simpa using hll) (by rw [xss_length]; omega) ht (by rw [xss_getD, xss_getD]; simpa using h7)⟩, by omega⟩
    · try simp only [zbA] at h4
      refine tr_exit ?_
      refine tr_seq ?_
      refine tr_region fun _ _ _ => ?_
      refine pu rfl rfl rfl rfl rfl ?_
      have hia : i = rs.length := by omega
      rw [List.take_of_length_le (by rw [xss_length]; omega), List.take_of_length_le (by rw [xss_length]; omega)] at ht
      exact tr_ret ⟨trivial, _, _, rfl, ⟨by rw [decide_eq_true ht], rfl⟩, CSub.nil _, trivial⟩
theorem fld_CheckN_ent : Enters Try.prog 44 := enters_of Try.func44 (by kernel_rfl) (by kernel_rfl)
theorem fld_CheckN (p m : Int) (A : Option Addr) (c : Nat) (mod : List Int) (hl9 : mod.length ≤ 17592186044415) (hsh : bShp p m mod = false) :
    Pure Try.prog 44 #[.agg #[.int .i64 p, .int .i64 m, .slice A mod.length c]] [ro A (ints mod)] (isV (.int .i64 1)) := by
  refine pure_of (args := [.agg #[.int .i64 p, .int .i64 m, .slice A mod.length c]]) 16 Try.func44 rfl rfl rfl fld_CheckN_ent ⟨id, trivial⟩ (fun w0 => ?_)
  refine tr_seq ?_
  refine tr_region fun _ _ _ => ?_
  refine ef rfl rfl (eBox rfl rfl rfl rfl rfl (fun p0 => ?_)) 
  refine pu rfl rfl rfl rfl rfl ?_
  refine tr_seq ?_
  refine tr_seq ?_
  refine tr_draw [0, 1, 2, 3, 4, 5, 6, 7, 8, 9, 10, 11, 12] [] mixed (by kernel_rfl) fun _ _ _ => ?_
  refine st rfl rfl rfl rfl (rLdS rfl rfl rfl) ?_
  refine ef rfl rfl (eCallV rfl rfl rfl (fld_shape _ _ _ _ _ (by omega)) ⟨rfl, trivial⟩ ?_) 
  refine st rfl rfl rfl rfl (rNotB rfl rfl) ?_
  refine pu rfl rfl rfl rfl rfl ?_
  refine skF rfl rfl (by simp [hsh]) rfl rfl ?_
  refine skF rfl rfl (by simp [hsh]) rfl rfl ?_
  refine skF rfl rfl (by simp [hsh]) rfl rfl ?_
  refine skF rfl rfl (by simp [hsh]) rfl rfl ?_
  refine skF rfl rfl (by simp [hsh]) rfl rfl ?_
  refine skF rfl rfl (by simp [hsh]) rfl rfl ?_
  refine skF rfl rfl (by simp [hsh]) rfl rfl ?_
  refine skF rfl rfl (by simp [hsh]) rfl rfl ?_
  refine st rfl rfl rfl rfl (rPick1 rfl rfl (by simp [hsh]) rfl) ?_
  refine tr_cond_bool rfl (fun h1 => ?_) (fun h1 => ?_)
  · try simp only [zbA] at h1
    refine tr_seq ?_
    refine tr_region fun _ _ _ => ?_
    refine pu rfl rfl rfl rfl rfl ?_
    exact tr_ret ⟨trivial, _, _, rfl, ⟨rfl, rfl⟩, CSub.nil _, trivial⟩
  · try simp only [zbA] at h1
    first | exact absurd trivial h1 | exact absurd rfl h1 | omega | (exact absurd h1 (by simp)) --done
theorem fld_CheckS_ent : Enters Try.prog 44 := enters_of Try.func44 (by kernel_rfl) (by kernel_rfl)
theorem fld_CheckS (p m : Int) (A : Option Addr) (c : Nat) (mod : List Int) (hl9 : mod.length ≤ 17592186044415) (hsh : bShp p m mod = true) :
    Pure Try.prog 44 #[.agg #[.int .i64 p, .int .i64 m, .slice A mod.length c]] [ro A (ints mod)] (isV (.int .i64 (chkF p m mod))) := by
  have hs1 := ((bShp_iff p m mod).1 hsh).1
  have hs2 := (bShp_iff p m mod).1 hsh
  refine pure_of (args := [.agg #[.int .i64 p, .int .i64 m, .slice A mod.length c]]) 16 Try.func44 rfl rfl rfl fld_CheckS_ent ⟨id, trivial⟩ (fun w0 => ?_)
  refine tr_seq ?_
  refine tr_region fun _ _ _ => ?_
  refine ef rfl rfl (eBox rfl rfl rfl rfl rfl (fun p0 => ?_)) 
  refine pu rfl rfl rfl rfl rfl ?_
  refine tr_seq ?_
  refine tr_seq ?_
  refine tr_draw [0, 1, 2, 3, 4, 5, 6, 7, 8, 9, 10, 11, 12] [] mixed (by kernel_rfl) fun _ _ _ => ?_
  refine st rfl rfl rfl rfl (rLdS rfl rfl rfl) ?_
  refine ef rfl rfl (eCallV rfl rfl rfl (fld_shape _ _ _ _ _ (by omega)) ⟨rfl, trivial⟩ ?_) 
  refine st rfl rfl rfl rfl (rNotB rfl rfl) ?_
  refine pu rfl rfl rfl rfl rfl ?_
  refine stT rfl rfl rfl (by simp [hsh]) rfl rfl (rLdS rfl rfl rfl) ?_
  refine stT rfl rfl rfl (by simp [hsh]) rfl rfl (rFld rfl rfl) ?_
  refine stT rfl rfl rfl (by simp [hsh]) rfl rfl (rLdF rfl rfl rfl) ?_
  refine stT rfl rfl rfl (by simp [hsh]) rfl rfl (rFld rfl rfl) ?_
  refine stT rfl rfl rfl (by simp [hsh]) rfl rfl (rLdF rfl rfl rfl) ?_
  refine efT rfl rfl rfl (by simp [hsh]) (eCallV rfl rfl rfl (fld_order _ _) ⟨rfl, rfl, trivial⟩ ?_) 
  refine efT rfl rfl rfl (by simp [hsh]) (eCall1 rfl rfl rfl (fld_gen _ _ _ _ _ hs1 _ hs1.ord) ⟨rfl, rfl, trivial⟩ ?_) 
  rintro _ _ ⟨B, l, cb, rfl, hl, hn, rfl⟩
  refine stT rfl rfl rfl (by simp [hsh]) rfl rfl (rNilS rfl rfl rfl) ?_
  refine st rfl rfl rfl rfl (rPick0 rfl rfl (by simp [hsh]) rfl) ?_
  refine tr_cond_bool rfl (fun h1 => ?_) (fun h1 => ?_)
  · try simp only [zbA] at h1
    refine tr_emptyI (A := B) (xs := l) (fun hemp => ?_)
    have hl0 := hemp h1
    refine tr_seq ?_
    refine tr_region fun _ _ _ => ?_
    refine pu rfl rfl rfl rfl rfl ?_
    rw [hl0] at hl
    exact tr_ret ⟨trivial, _, _, rfl, ⟨by rw [chkF_no fun h => hl.nil (fldN_iff.2 h).2], rfl⟩, CSub.nil _, trivial⟩
  · try simp only [zbA] at h1
    refine tr_skip ?_
    refine tr_seq ?_
    refine tr_region fun _ _ _ => ?_
    refine pu rfl rfl rfl rfl rfl ?_
    have hgn : l ≠ [] := fun h => by
      rw [hn h] at h1
      simp at h1
    have hF : FldR p m mod := fldN_iff.1 ⟨hs2, by
      rcases hl with ⟨x, h⟩ | h
      · exact ⟨x, l, h⟩
      · exact absurd h.1 hgn⟩
    exact tr_ret ⟨trivial, _, _, rfl, ⟨by rw [chkF_ok hF], rfl⟩, CSub.nil _, trivial⟩
theorem fld_Check (p m : Int) (A : Option Addr) (c : Nat) (mod : List Int) (hl9 : mod.length ≤ 17592186044415) : Pure Try.prog 44 #[.agg #[.int .i64 p, .int .i64 m, .slice A mod.length c]] [ro A (ints mod)] (isV (.int .i64 (chkF p m mod))) := by
  cases hsh : bShp p m mod with
  | true => exact fld_CheckS p m A c mod hl9 hsh
  | false =>
    have h := fld_CheckN p m A c mod hl9 hsh
    rwa [← chkF_no (p := p) (m := m) (mod := mod) (fun h => by rw [bShp_true h.1] at hsh; cases hsh)] at h
theorem spc_openE_ent : Enters Try.prog 64 := enters_of Try.func64 (by kernel_rfl) (by kernel_rfl)
theorem spc_openE (p m : Int) (A : Option Addr) (c : Nat) (mod : List Int) (hl9 : mod.length ≤ 17592186044415) [hF : IsF p m mod] (w : Int) (Aa : Option Addr) (n ca : Nat) (rs : List RowM) (hn : n = rs.length) (h9 : rs.length ≤ 17592186044415) (h8 : ∀ r ∈ rs, r.xs.length ≤ 17592186044415) (hE : rowsC (pw p m) w (xss rs) ≠ 0) :
    Pure Try.prog 64 #[.agg #[.int .i64 p, .int .i64 m, .slice A mod.length c], .agg #[.int .i64 w, .slice Aa n ca]] [ro A (ints mod), ro Aa (hdrs rs), rowsR rs] (isV (.tuple #[.agg #[.pointer none, .int .i64 0, .slice none 0 0, .slice none 0 0], .int .i64 (rowsC (pw p m) w (xss rs))])) := by
  refine pure_ofC (args := [.agg #[.int .i64 p, .int .i64 m, .slice A mod.length c], .agg #[.int .i64 w, .slice Aa n ca]]) 38 Try.func64 rfl rfl rfl spc_openE_ent ⟨id, id, id, trivial⟩ (fun w0 => ?_)
  refine tr_seq ?_
  refine tr_region fun _ _ _ => ?_
  refine ef rfl rfl (eBox rfl rfl rfl rfl rfl (fun p0 => ?_)) 
  refine ef rfl rfl (eBox rfl rfl rfl rfl rfl (fun p0a => ?_)) 
  refine ef rfl rfl (eAlloc rfl rfl rfl (fun p0b => ?_)) 
  refine pu rfl rfl rfl rfl rfl ?_
  refine tr_seq ?_
  refine tr_region fun _ _ _ => ?_
  refine st rfl rfl rfl rfl (rLdS rfl rfl rfl) ?_
  refine st rfl rfl rfl rfl (rLdS rfl rfl rfl) ?_
  refine ef rfl rfl (eCallV rfl rfl rfl (mat_CanonicalE _ _ _ _ _ hl9 w Aa _ ca rs hn h9 h8 hE) ⟨rfl, rfl, trivial⟩ ?_) 
  iterate 4 refine pu rfl rfl rfl rfl rfl ?_
  refine ef rfl rfl (eAlloc rfl rfl rfl (fun p1a => ?_)) 
  refine ef rfl rfl (eStS rfl rfl rfl rfl rfl rfl ?_) 
  iterate 2 refine pu rfl rfl rfl rfl rfl ?_
  refine tr_seq ?_
  refine tr_seq ?_
  refine tr_region fun _ _ _ => ?_
  iterate 2 refine pu rfl rfl rfl rfl rfl ?_
  refine tr_cond_bool rfl (fun h2 => ?_) (fun h2 => ?_)
  · try simp only [zbA] at h2
    refine tr_seq ?_
    refine tr_region fun _ _ _ => ?_
    refine st rfl rfl rfl rfl (rBuild rfl rfl) ?_
    refine pu rfl rfl rfl rfl rfl ?_
    refine ef rfl rfl (eStS rfl rfl rfl rfl rfl rfl ?_) 
    refine pu rfl rfl rfl rfl rfl ?_
    exact tr_ret ⟨trivial, _, _, (.cell rfl (cellS rfl) (.tmp rfl .nil)), ⟨rfl, rfl⟩, CSub.nil _, trivial⟩
  · try simp only [zbA] at h2
    omega --done
theorem spc_openF_ent : Enters Try.prog 64 := enters_of Try.func64 (by kernel_rfl) (by kernel_rfl)
theorem spc_openF (p m : Int) (A : Option Addr) (c : Nat) (mod : List Int) (hl9 : mod.length ≤ 17592186044415) [hF : IsF p m mod] (w : Int) (Aa : Option Addr) (n ca : Nat) (rs : List RowM) (hn : n = rs.length) (h9 : rs.length ≤ 17592186044415) (h8 : ∀ r ∈ rs, r.xs.length ≤ 17592186044415) (hE : rowsC (pw p m) w (xss rs) = 0) (hf : ¬ formP p m mod w.toNat rs) :
    Pure Try.prog 64 #[.agg #[.int .i64 p, .int .i64 m, .slice A mod.length c], .agg #[.int .i64 w, .slice Aa n ca]] [ro A (ints mod), ro Aa (hdrs rs), rowsR rs] (isV (.tuple #[.agg #[.pointer none, .int .i64 0, .slice none 0 0, .slice none 0 0], .int .i64 5])) := by
  obtain ⟨hgd, hw0, hw9, hr9⟩ := rowsC_Gd (p := p) (m := m) hE
  refine pure_ofC (args := [.agg #[.int .i64 p, .int .i64 m, .slice A mod.length c], .agg #[.int .i64 w, .slice Aa n ca]]) 38 Try.func64 rfl rfl rfl spc_openF_ent ⟨id, id, id, trivial⟩ (fun w0 => ?_)
  refine tr_seq ?_
  refine tr_region fun _ _ _ => ?_
  refine ef rfl rfl (eBox rfl rfl rfl rfl rfl (fun p0 => ?_)) 
  refine ef rfl rfl (eBox rfl rfl rfl rfl rfl (fun p0a => ?_)) 
  refine ef rfl rfl (eAlloc rfl rfl rfl (fun p0b => ?_)) 
  refine pu rfl rfl rfl rfl rfl ?_
  refine tr_seq ?_
  refine tr_region fun _ _ _ => ?_
  refine st rfl rfl rfl rfl (rLdS rfl rfl rfl) ?_
  refine st rfl rfl rfl rfl (rLdS rfl rfl rfl) ?_
  refine ef rfl rfl (eCall3 rfl rfl rfl (mat_CanonicalG _ _ _ _ _ hl9 w Aa _ ca rs hn h9 h8 hE) ⟨rfl, rfl, trivial⟩ ?_) 
  rintro _ _ _ _ ⟨B, r3, Bp, cp, ps, rfl, rfl, rfl, rfl, hR, hk⟩
  iterate 4 refine pu rfl rfl rfl rfl rfl ?_
  refine ef rfl rfl (eAlloc rfl rfl rfl (fun p1a => ?_)) 
  refine ef rfl rfl (eStS rfl rfl rfl rfl rfl rfl ?_) 
  iterate 2 refine pu rfl rfl rfl rfl rfl ?_
  refine tr_seq ?_
  refine tr_seq ?_
  refine tr_region fun _ _ _ => ?_
  iterate 2 refine pu rfl rfl rfl rfl rfl ?_
  refine tr_cond_bool rfl (fun h2 => ?_) (fun h2 => ?_)
  · try simp only [zbA] at h2
    first | exact absurd trivial h2 | exact absurd rfl h2 | omega | (exact absurd h2 (by simp)) --done
  · try simp only [zbA] at h2
    refine tr_skip ?_
    refine tr_seq ?_
    refine tr_seq ?_
    refine tr_region fun _ _ _ => ?_
    refine st rfl rfl rfl rfl (rFld rfl rfl) ?_
    refine st rfl rfl rfl rfl (rLdF rfl rfl rfl) ?_
    refine st rfl rfl rfl rfl (rFld rfl rfl) ?_
    refine st rfl rfl rfl rfl (rLdF rfl rfl rfl) ?_
    refine ef rfl rfl (eCallV rfl rfl rfl (slc_EqualFunc _ _ _ r3 rfl _ _ _ rs hn (by omega) (hR.good.h8 (by omega))) ⟨rfl, rfl, rfl, trivial⟩ ?_) 
    refine st rfl rfl rfl rfl (rNotB rfl rfl) ?_
    refine tr_cond_bool rfl (fun h4 => ?_) (fun h4 => ?_)
    · try simp only [zbA] at h4
      refine tr_seq ?_
      refine tr_region fun _ _ _ => ?_
      refine st rfl rfl rfl rfl (rBuild rfl rfl) ?_
      refine ef rfl rfl (eStS rfl rfl rfl rfl rfl rfl ?_) 
      refine pu rfl rfl rfl rfl rfl ?_
      exact tr_ret ⟨trivial, _, _, (.cell rfl (cellS rfl) (.tmp rfl .nil)), ⟨rfl, rfl⟩, CSub.nil _, trivial⟩
    · try simp only [zbA] at h4
      exact absurd ((hR.form_iff hgd).1 (by simpa using h4)) hf --done
theorem spc_openG_ent : Enters Try.prog 64 := enters_of Try.func64 (by kernel_rfl) (by kernel_rfl)
theorem spc_openG (p m : Int) (A : Option Addr) (c : Nat) (mod : List Int) (hl9 : mod.length ≤ 17592186044415) [hF : IsF p m mod] (w : Int) (Aa : Option Addr) (n ca : Nat) (rs : List RowM) (hn : n = rs.length) (h9 : rs.length ≤ 17592186044415) (h8 : ∀ r ∈ rs, r.xs.length ≤ 17592186044415) (hE : rowsC (pw p m) w (xss rs) = 0) (hf : formP p m mod w.toNat rs) :
    Pure Try.prog 64 #[.agg #[.int .i64 p, .int .i64 m, .slice A mod.length c], .agg #[.int .i64 w, .slice Aa n ca]] [ro A (ints mod), ro Aa (hdrs rs), rowsR rs] (two (fun v c1 c2 => ∃ (g : GfM) (Bp : Option Addr) (cp : Nat) (ps : List Int), v = .tuple #[.agg #[.pointer (some g.p), .int .i64 w, .slice Aa n ca, .slice Bp ps.length cp], .int .i64 0] ∧ c1 = gfN g ∧ c2 = ow Bp 3 cp (ints ps) ∧ GOk g p m mod ∧ ∃ qs, ps = qs.map Int.ofNat ∧ Vc.Rr w.toNat (vsR rs : List (Vc (El p m mod))) qs)) := by
  obtain ⟨hgd, hw0, hw9, hr9⟩ := rowsC_Gd (p := p) (m := m) hE
  refine pure_ofC (args := [.agg #[.int .i64 p, .int .i64 m, .slice A mod.length c], .agg #[.int .i64 w, .slice Aa n ca]]) 38 Try.func64 rfl rfl rfl spc_openG_ent ⟨id, id, id, trivial⟩ (fun w0 => ?_)
  refine tr_seq ?_
  refine tr_region fun _ _ _ => ?_
  refine ef rfl rfl (eBox rfl rfl rfl rfl rfl (fun p0 => ?_)) 
  refine ef rfl rfl (eBox rfl rfl rfl rfl rfl (fun p0a => ?_)) 
  refine ef rfl rfl (eAlloc rfl rfl rfl (fun p0b => ?_)) 
  refine pu rfl rfl rfl rfl rfl ?_
  refine tr_seq ?_
  refine tr_region fun _ _ _ => ?_
  refine st rfl rfl rfl rfl (rLdS rfl rfl rfl) ?_
  refine st rfl rfl rfl rfl (rLdS rfl rfl rfl) ?_
  refine ef rfl rfl (eCall3 rfl rfl rfl (mat_CanonicalG _ _ _ _ _ hl9 w Aa _ ca rs hn h9 h8 hE) ⟨rfl, rfl, trivial⟩ ?_) 
  rintro _ _ _ _ ⟨B, r3, Bp, cp, ps, rfl, rfl, rfl, rfl, hR, hk⟩
  iterate 4 refine pu rfl rfl rfl rfl rfl ?_
  refine ef rfl rfl (eAlloc rfl rfl rfl (fun p1a => ?_)) 
  refine ef rfl rfl (eStS rfl rfl rfl rfl rfl rfl ?_) 
  iterate 2 refine pu rfl rfl rfl rfl rfl ?_
  refine tr_seq ?_
  refine tr_seq ?_
  refine tr_region fun _ _ _ => ?_
  iterate 2 refine pu rfl rfl rfl rfl rfl ?_
  refine tr_cond_bool rfl (fun h2 => ?_) (fun h2 => ?_)
  · try simp only [zbA] at h2
    first | exact absurd trivial h2 | exact absurd rfl h2 | omega | (exact absurd h2 (by simp)) --done
  · try simp only [zbA] at h2
    refine tr_skip ?_
    refine tr_seq ?_
    refine tr_seq ?_
    refine tr_region fun _ _ _ => ?_
    refine st rfl rfl rfl rfl (rFld rfl rfl) ?_
    refine st rfl rfl rfl rfl (rLdF rfl rfl rfl) ?_
    refine st rfl rfl rfl rfl (rFld rfl rfl) ?_
    refine st rfl rfl rfl rfl (rLdF rfl rfl rfl) ?_
    refine ef rfl rfl (eCallV rfl rfl rfl (slc_EqualFunc _ _ _ r3 rfl _ _ _ rs hn (by omega) (hR.good.h8 (by omega))) ⟨rfl, rfl, rfl, trivial⟩ ?_) 
    refine st rfl rfl rfl rfl (rNotB rfl rfl) ?_
    refine tr_cond_bool rfl (fun h4 => ?_) (fun h4 => ?_)
    · try simp only [zbA] at h4
      exact absurd ((hR.form_iff hgd).2 hf) (by simpa using h4) --done
    · try simp only [zbA] at h4
      refine tr_skip ?_
      refine tr_seq ?_
      refine tr_region fun _ _ _ => ?_
      refine st rfl rfl rfl rfl (rLdS rfl rfl rfl) ?_
      refine ef rfl rfl (eCall1 rfl rfl rfl (fld_New_ok _ _ _ _ _ hl9 hF.out) ⟨rfl, trivial⟩ ?_) 
      rintro _ _ ⟨g, rfl, rfl, hg⟩
      iterate 5 refine pu rfl rfl rfl rfl rfl ?_
      refine tr_seq ?_
      refine tr_region fun _ _ _ => ?_
      refine pu rfl rfl rfl rfl rfl ?_
      refine st rfl rfl rfl rfl (rLdS rfl rfl rfl) ?_
      refine pu rfl rfl rfl rfl rfl ?_
      refine st rfl rfl rfl rfl (rBuild rfl rfl) ?_
      refine pu rfl rfl rfl rfl rfl ?_
      refine ef rfl rfl (eStS rfl rfl rfl rfl rfl rfl ?_) 
      refine pu rfl rfl rfl rfl rfl ?_
      have he := (hR.form_iff hgd).2 hf
      exact tr_ret ⟨trivial, _, _, (.cell rfl (cellS rfl) (.tmp rfl .nil)), ⟨_, _, rfl, g, Bp, cp, ps, rfl, rfl, rfl, hg, hR.piv he⟩, cs _ _, gfO_excl _ _ _, trivial, trivial⟩
theorem spc_CheckE_ent : Enters Try.prog 46 := enters_of Try.func46 (by kernel_rfl) (by kernel_rfl)
theorem spc_CheckE (p m : Int) (A : Option Addr) (c : Nat) (mod : List Int) (hl9 : mod.length ≤ 17592186044415) [hF : IsF p m mod] (w : Int) (Aa : Option Addr) (n ca : Nat) (rs : List RowM) (hn : n = rs.length) (h9 : rs.length ≤ 17592186044415) (h8 : ∀ r ∈ rs, r.xs.length ≤ 17592186044415) (hE : rowsC (pw p m) w (xss rs) ≠ 0) :
    Pure Try.prog 46 #[.agg #[.int .i64 p, .int .i64 m, .slice A mod.length c], .agg #[.int .i64 w, .slice Aa n ca]] [ro A (ints mod), ro Aa (hdrs rs), rowsR rs] (isV (.int .i64 (rowsC (pw p m) w (xss rs)))) := by
  refine pure_of (args := [.agg #[.int .i64 p, .int .i64 m, .slice A mod.length c], .agg #[.int .i64 w, .slice Aa n ca]]) 14 Try.func46 rfl rfl rfl spc_CheckE_ent ⟨id, id, id, trivial⟩ (fun w0 => ?_)
  refine tr_seq ?_
  refine tr_region fun _ _ _ => ?_
  refine ef rfl rfl (eBox rfl rfl rfl rfl rfl (fun p0 => ?_)) 
  refine ef rfl rfl (eBox rfl rfl rfl rfl rfl (fun p0a => ?_)) 
  refine pu rfl rfl rfl rfl rfl ?_
  refine tr_seq ?_
  refine tr_region fun _ _ _ => ?_
  refine st rfl rfl rfl rfl (rLdS rfl rfl rfl) ?_
  refine st rfl rfl rfl rfl (rLdS rfl rfl rfl) ?_
  refine ef rfl rfl (eCallV rfl rfl rfl (spc_openE _ _ _ _ _ hl9 w Aa _ ca rs hn h9 h8 hE) ⟨rfl, rfl, trivial⟩ ?_) 
  iterate 3 refine pu rfl rfl rfl rfl rfl ?_
  refine ef rfl rfl (eAlloc rfl rfl rfl (fun p1a => ?_)) 
  refine ef rfl rfl (eStS rfl rfl rfl rfl rfl rfl ?_) 
  refine pu rfl rfl rfl rfl rfl ?_
  refine tr_seq ?_
  refine tr_region fun _ _ _ => ?_
  iterate 2 refine pu rfl rfl rfl rfl rfl ?_
  exact tr_ret ⟨trivial, _, _, rfl, ⟨rfl, rfl⟩, CSub.nil _, trivial⟩
theorem spc_CheckF_ent : Enters Try.prog 46 := enters_of Try.func46 (by kernel_rfl) (by kernel_rfl)
theorem spc_CheckF (p m : Int) (A : Option Addr) (c : Nat) (mod : List Int) (hl9 : mod.length ≤ 17592186044415) [hF : IsF p m mod] (w : Int) (Aa : Option Addr) (n ca : Nat) (rs : List RowM) (hn : n = rs.length) (h9 : rs.length ≤ 17592186044415) (h8 : ∀ r ∈ rs, r.xs.length ≤ 17592186044415) (hE : rowsC (pw p m) w (xss rs) = 0) (hf : ¬ formP p m mod w.toNat rs) :
    Pure Try.prog 46 #[.agg #[.int .i64 p, .int .i64 m, .slice A mod.length c], .agg #[.int .i64 w, .slice Aa n ca]] [ro A (ints mod), ro Aa (hdrs rs), rowsR rs] (isV (.int .i64 5)) := by
  refine pure_of (args := [.agg #[.int .i64 p, .int .i64 m, .slice A mod.length c], .agg #[.int .i64 w, .slice Aa n ca]]) 14 Try.func46 rfl rfl rfl spc_CheckF_ent ⟨id, id, id, trivial⟩ (fun w0 => ?_)
  refine tr_seq ?_
  refine tr_region fun _ _ _ => ?_
  refine ef rfl rfl (eBox rfl rfl rfl rfl rfl (fun p0 => ?_)) 
  refine ef rfl rfl (eBox rfl rfl rfl rfl rfl (fun p0a => ?_)) 
  refine pu rfl rfl rfl rfl rfl ?_
  refine tr_seq ?_
  refine tr_region fun _ _ _ => ?_
  refine st rfl rfl rfl rfl (rLdS rfl rfl rfl) ?_
  refine st rfl rfl rfl rfl (rLdS rfl rfl rfl) ?_
  refine ef rfl rfl (eCallV rfl rfl rfl (spc_openF _ _ _ _ _ hl9 w Aa _ ca rs hn h9 h8 hE hf) ⟨rfl, rfl, trivial⟩ ?_) 
  iterate 3 refine pu rfl rfl rfl rfl rfl ?_
  refine ef rfl rfl (eAlloc rfl rfl rfl (fun p1a => ?_)) 
  refine ef rfl rfl (eStS rfl rfl rfl rfl rfl rfl ?_) 
  refine pu rfl rfl rfl rfl rfl ?_
  refine tr_seq ?_
  refine tr_region fun _ _ _ => ?_
  iterate 2 refine pu rfl rfl rfl rfl rfl ?_
  exact tr_ret ⟨trivial, _, _, rfl, ⟨rfl, rfl⟩, CSub.nil _, trivial⟩
theorem spc_CheckG_ent : Enters Try.prog 46 := enters_of Try.func46 (by kernel_rfl) (by kernel_rfl)
theorem spc_CheckG (p m : Int) (A : Option Addr) (c : Nat) (mod : List Int) (hl9 : mod.length ≤ 17592186044415) [hF : IsF p m mod] (w : Int) (Aa : Option Addr) (n ca : Nat) (rs : List RowM) (hn : n = rs.length) (h9 : rs.length ≤ 17592186044415) (h8 : ∀ r ∈ rs, r.xs.length ≤ 17592186044415) (hE : rowsC (pw p m) w (xss rs) = 0) (hf : formP p m mod w.toNat rs) :
    Pure Try.prog 46 #[.agg #[.int .i64 p, .int .i64 m, .slice A mod.length c], .agg #[.int .i64 w, .slice Aa n ca]] [ro A (ints mod), ro Aa (hdrs rs), rowsR rs] (isV (.int .i64 0)) := by
  refine pure_of (args := [.agg #[.int .i64 p, .int .i64 m, .slice A mod.length c], .agg #[.int .i64 w, .slice Aa n ca]]) 14 Try.func46 rfl rfl rfl spc_CheckG_ent ⟨id, id, id, trivial⟩ (fun w0 => ?_)
  refine tr_seq ?_
  refine tr_region fun _ _ _ => ?_
  refine ef rfl rfl (eBox rfl rfl rfl rfl rfl (fun p0 => ?_)) 
  refine ef rfl rfl (eBox rfl rfl rfl rfl rfl (fun p0a => ?_)) 
  refine pu rfl rfl rfl rfl rfl ?_
  refine tr_seq ?_
  refine tr_region fun _ _ _ => ?_
  refine st rfl rfl rfl rfl (rLdS rfl rfl rfl) ?_
  refine st rfl rfl rfl rfl (rLdS rfl rfl rfl) ?_
  refine ef rfl rfl (eCall2 rfl rfl rfl (spc_openG _ _ _ _ _ hl9 w Aa _ ca rs hn h9 h8 hE hf) ⟨rfl, rfl, trivial⟩ ?_) 
  rintro _ _ _ ⟨g, Bp, cp, ps, rfl, rfl, rfl, hg, hq⟩
  iterate 3 refine pu rfl rfl rfl rfl rfl ?_
  refine ef rfl rfl (eAlloc rfl rfl rfl (fun p1a => ?_)) 
  refine ef rfl rfl (eStS rfl rfl rfl rfl rfl rfl ?_) 
  refine pu rfl rfl rfl rfl rfl ?_
  refine tr_seq ?_
  refine tr_region fun _ _ _ => ?_
  iterate 2 refine pu rfl rfl rfl rfl rfl ?_
  exact tr_ret ⟨trivial, _, _, rfl, ⟨rfl, rfl⟩, CSub.nil _, trivial⟩
theorem code_gen_ent : Enters Try.prog 47 := enters_of Try.func47 (by kernel_rfl) (by kernel_rfl)
theorem code_gen (p m : Int) (A : Option Addr) (k c : Nat) (w : Int) (Aa : Option Addr) (n ca : Nat) :
    Pure Try.prog 47 #[.agg #[.int .i64 p, .int .i64 m, .slice A k c, .int .i64 w, .slice Aa n ca]] [] (isV (.agg #[.int .i64 w, .slice Aa n ca])) := by
  refine pure_ofC (args := [.agg #[.int .i64 p, .int .i64 m, .slice A k c, .int .i64 w, .slice Aa n ca]]) 8 Try.func47 rfl rfl rfl code_gen_ent trivial (fun w0 => ?_)
  refine tr_seq ?_
  refine tr_region fun _ _ _ => ?_
  refine ef rfl rfl (eBox rfl rfl rfl rfl rfl (fun p0 => ?_)) 
  refine ef rfl rfl (eAlloc rfl rfl rfl (fun p0a => ?_)) 
  refine tr_seq ?_
  refine tr_region fun _ _ _ => ?_
  refine st rfl rfl rfl rfl (rFld rfl rfl) ?_
  refine st rfl rfl rfl rfl (rLdF rfl rfl rfl) ?_
  refine st rfl rfl rfl rfl (rFld rfl rfl) ?_
  refine st rfl rfl rfl rfl (rLdF rfl rfl rfl) ?_
  refine st rfl rfl rfl rfl (rBuild rfl rfl) ?_
  refine ef rfl rfl (eStS rfl rfl rfl rfl rfl rfl ?_) 
  exact tr_ret ⟨trivial, _, _, (.cell rfl (cellS rfl) .nil), ⟨rfl, rfl⟩, CSub.nil _, trivial⟩
theorem code_lengthNo (n : Int) (h : n < 1 ∨ n > 64) : Pure Try.prog 45 #[.int .i64 n] [] (isV (.int .i64 4)) := by
  have := code_length n
  rwa [if_pos h] at this
theorem code_CheckNo_ent : Enters Try.prog 32 := enters_of Try.func32 (by kernel_rfl) (by kernel_rfl)
theorem code_CheckNo (p m : Int) (A : Option Addr) (c : Nat) (mod : List Int) (hl9 : mod.length ≤ 17592186044415) (hF : ¬ FldR p m mod) (w : Int) (Aa : Option Addr) (n ca : Nat) (rs : List RowM) (hn : n = rs.length) (h9 : rs.length ≤ 17592186044415) (h8 : ∀ r ∈ rs, r.xs.length ≤ 17592186044415) :
    Pure Try.prog 32 #[.agg #[.int .i64 p, .int .i64 m, .slice A mod.length c, .int .i64 w, .slice Aa n ca]] [ro A (ints mod), ro Aa (hdrs rs), rowsR rs] (isV (.int .i64 1)) := by
  have hch := chkF_no hF
  refine pure_of (args := [.agg #[.int .i64 p, .int .i64 m, .slice A mod.length c, .int .i64 w, .slice Aa n ca]]) 19 Try.func32 rfl rfl rfl code_CheckNo_ent ⟨id, id, id, trivial⟩ (fun w0 => ?_)
  refine tr_seq ?_
  refine tr_region fun _ _ _ => ?_
  refine ef rfl rfl (eBox rfl rfl rfl rfl rfl (fun p0 => ?_)) 
  refine pu rfl rfl rfl rfl rfl ?_
  refine tr_seq ?_
  refine tr_seq ?_
  refine tr_region fun _ _ _ => ?_
  refine st rfl rfl rfl rfl (rFld rfl rfl) ?_
  refine st rfl rfl rfl rfl (rLdSF rfl rfl) ?_
  refine ef rfl rfl (eCallV rfl rfl rfl (fld_Check _ _ _ _ _ hl9) ⟨rfl, trivial⟩ ?_) 
  refine pu rfl rfl rfl rfl rfl ?_
  refine tr_cond_bool rfl (fun h1 => ?_) (fun h1 => ?_)
  · try simp only [zbA] at h1
    refine tr_seq ?_
    refine tr_region fun _ _ _ => ?_
    refine pu rfl rfl rfl rfl rfl ?_
    exact tr_ret ⟨trivial, _, _, rfl, ⟨rfl, rfl⟩, CSub.nil _, trivial⟩
  · try simp only [zbA] at h1
    omega --done
theorem code_CheckL_ent : Enters Try.prog 32 := enters_of Try.func32 (by kernel_rfl) (by kernel_rfl)
theorem code_CheckL (p m : Int) (A : Option Addr) (c : Nat) (mod : List Int) (hl9 : mod.length ≤ 17592186044415) [hF : IsF p m mod] (w : Int) (Aa : Option Addr) (n ca : Nat) (rs : List RowM) (hn : n = rs.length) (h9 : rs.length ≤ 17592186044415) (h8 : ∀ r ∈ rs, r.xs.length ≤ 17592186044415) (hb : w < 1 ∨ w > 64) :
    Pure Try.prog 32 #[.agg #[.int .i64 p, .int .i64 m, .slice A mod.length c, .int .i64 w, .slice Aa n ca]] [ro A (ints mod), ro Aa (hdrs rs), rowsR rs] (isV (.int .i64 4)) := by
  have hch := chkF_ok hF.out
  refine pure_of (args := [.agg #[.int .i64 p, .int .i64 m, .slice A mod.length c, .int .i64 w, .slice Aa n ca]]) 19 Try.func32 rfl rfl rfl code_CheckL_ent ⟨id, id, id, trivial⟩ (fun w0 => ?_)
  refine tr_seq ?_
  refine tr_region fun _ _ _ => ?_
  refine ef rfl rfl (eBox rfl rfl rfl rfl rfl (fun p0 => ?_)) 
  refine pu rfl rfl rfl rfl rfl ?_
  refine tr_seq ?_
  refine tr_seq ?_
  refine tr_region fun _ _ _ => ?_
  refine st rfl rfl rfl rfl (rFld rfl rfl) ?_
  refine st rfl rfl rfl rfl (rLdSF rfl rfl) ?_
  refine ef rfl rfl (eCallV rfl rfl rfl (fld_Check _ _ _ _ _ hl9) ⟨rfl, trivial⟩ ?_) 
  refine pu rfl rfl rfl rfl rfl ?_
  refine tr_cond_bool rfl (fun h1 => ?_) (fun h1 => ?_)
  · try simp only [zbA] at h1
    omega --done
  · try simp only [zbA] at h1
    refine tr_skip ?_
    refine tr_seq ?_
    refine tr_seq ?_
    refine tr_region fun _ _ _ => ?_
    refine st rfl rfl rfl rfl (rFld rfl rfl) ?_
    refine st rfl rfl rfl rfl (rLdF rfl rfl rfl) ?_
    refine ef rfl rfl (eCallV rfl rfl rfl (code_lengthNo w hb) ⟨rfl, trivial⟩ ?_) 
    refine pu rfl rfl rfl rfl rfl ?_
    refine tr_seq ?_
    refine tr_region fun _ _ _ => ?_
    iterate 2 refine pu rfl rfl rfl rfl rfl ?_
    refine tr_cond_bool rfl (fun h4 => ?_) (fun h4 => ?_)
    · try simp only [zbA] at h4
      refine tr_seq ?_
      refine tr_region fun _ _ _ => ?_
      iterate 2 refine pu rfl rfl rfl rfl rfl ?_
      exact tr_ret ⟨trivial, _, _, rfl, ⟨rfl, rfl⟩, CSub.nil _, trivial⟩
    · try simp only [zbA] at h4
      first | exact absurd trivial h4 | exact absurd rfl h4 | omega | (exact absurd h4 (by simp)) --done
theorem code_CheckE_ent : Enters Try.prog 32 := enters_of Try.func32 (by kernel_rfl) (by kernel_rfl)
theorem code_CheckE (p m : Int) (A : Option Addr) (c : Nat) (mod : List Int) (hl9 : mod.length ≤ 17592186044415) [hF : IsF p m mod] (w : Int) (Aa : Option Addr) (n ca : Nat) (rs : List RowM) (hn : n = rs.length) (h9 : rs.length ≤ 17592186044415) (h8 : ∀ r ∈ rs, r.xs.length ≤ 17592186044415) (hb : ¬ (w < 1 ∨ w > 64)) (hE : rowsC (pw p m) w (xss rs) ≠ 0) :
    Pure Try.prog 32 #[.agg #[.int .i64 p, .int .i64 m, .slice A mod.length c, .int .i64 w, .slice Aa n ca]] [ro A (ints mod), ro Aa (hdrs rs), rowsR rs] (isV (.int .i64 (rowsC (pw p m) w (xss rs)))) := by
  have hch := chkF_ok hF.out
  refine pure_of (args := [.agg #[.int .i64 p, .int .i64 m, .slice A mod.length c, .int .i64 w, .slice Aa n ca]]) 19 Try.func32 rfl rfl rfl code_CheckE_ent ⟨id, id, id, trivial⟩ (fun w0 => ?_)
  refine tr_seq ?_
  refine tr_region fun _ _ _ => ?_
  refine ef rfl rfl (eBox rfl rfl rfl rfl rfl (fun p0 => ?_)) 
  refine pu rfl rfl rfl rfl rfl ?_
  refine tr_seq ?_
  refine tr_seq ?_
  refine tr_region fun _ _ _ => ?_
  refine st rfl rfl rfl rfl (rFld rfl rfl) ?_
  refine st rfl rfl rfl rfl (rLdSF rfl rfl) ?_
  refine ef rfl rfl (eCallV rfl rfl rfl (fld_Check _ _ _ _ _ hl9) ⟨rfl, trivial⟩ ?_) 
  refine pu rfl rfl rfl rfl rfl ?_
  refine tr_cond_bool rfl (fun h1 => ?_) (fun h1 => ?_)
  · try simp only [zbA] at h1
    omega --done
  · try simp only [zbA] at h1
    refine tr_skip ?_
    refine tr_seq ?_
    refine tr_seq ?_
    refine tr_region fun _ _ _ => ?_
    refine st rfl rfl rfl rfl (rFld rfl rfl) ?_
    refine st rfl rfl rfl rfl (rLdF rfl rfl rfl) ?_
    refine ef rfl rfl (eCallV rfl rfl rfl (code_lengthOk w (by omega) (by omega)) ⟨rfl, trivial⟩ ?_) 
    refine pu rfl rfl rfl rfl rfl ?_
    refine tr_seq ?_
    refine tr_region fun _ _ _ => ?_
    iterate 2 refine pu rfl rfl rfl rfl rfl ?_
    refine tr_cond_bool rfl (fun h4 => ?_) (fun h4 => ?_)
    · try simp only [zbA] at h4
      first | exact absurd trivial h4 | exact absurd rfl h4 | omega | (exact absurd h4 (by simp)) --done
    · try simp only [zbA] at h4
      refine tr_skip ?_
      refine tr_seq ?_
      refine tr_draw [0, 1, 2, 3, 4, 5] [] mixed (by kernel_rfl) fun _ _ _ => ?_
      refine st rfl rfl rfl rfl (rFld rfl rfl) ?_
      refine st rfl rfl rfl rfl (rLdSF rfl rfl) ?_
      refine st rfl rfl rfl rfl (rLdS rfl rfl rfl) ?_
      refine ef rfl rfl (eCallV rfl rfl rfl (code_gen _ _ _ _ _ _ _ _ _) ⟨rfl, trivial⟩ ?_) 
      refine ef rfl rfl (eCallV rfl rfl rfl (spc_CheckE _ _ _ _ _ hl9 w Aa _ ca rs hn h9 h8 hE) ⟨rfl, rfl, trivial⟩ ?_) 
      refine pu rfl rfl rfl rfl rfl ?_
      exact tr_ret ⟨trivial, _, _, rfl, ⟨rfl, rfl⟩, CSub.nil _, trivial⟩
theorem code_CheckF_ent : Enters Try.prog 32 := enters_of Try.func32 (by kernel_rfl) (by kernel_rfl)
theorem code_CheckF (p m : Int) (A : Option Addr) (c : Nat) (mod : List Int) (hl9 : mod.length ≤ 17592186044415) [hF : IsF p m mod] (w : Int) (Aa : Option Addr) (n ca : Nat) (rs : List RowM) (hn : n = rs.length) (h9 : rs.length ≤ 17592186044415) (h8 : ∀ r ∈ rs, r.xs.length ≤ 17592186044415) (hb : ¬ (w < 1 ∨ w > 64)) (hE : rowsC (pw p m) w (xss rs) = 0) (hf : ¬ formP p m mod w.toNat rs) :
    Pure Try.prog 32 #[.agg #[.int .i64 p, .int .i64 m, .slice A mod.length c, .int .i64 w, .slice Aa n ca]] [ro A (ints mod), ro Aa (hdrs rs), rowsR rs] (isV (.int .i64 5)) := by
  have hch := chkF_ok hF.out
  refine pure_of (args := [.agg #[.int .i64 p, .int .i64 m, .slice A mod.length c, .int .i64 w, .slice Aa n ca]]) 19 Try.func32 rfl rfl rfl code_CheckF_ent ⟨id, id, id, trivial⟩ (fun w0 => ?_)
  refine tr_seq ?_
  refine tr_region fun _ _ _ => ?_
  refine ef rfl rfl (eBox rfl rfl rfl rfl rfl (fun p0 => ?_)) 
  refine pu rfl rfl rfl rfl rfl ?_
  refine tr_seq ?_
  refine tr_seq ?_
  refine tr_region fun _ _ _ => ?_
  refine st rfl rfl rfl rfl (rFld rfl rfl) ?_
  refine st rfl rfl rfl rfl (rLdSF rfl rfl) ?_
  refine ef rfl rfl (eCallV rfl rfl rfl (fld_Check _ _ _ _ _ hl9) ⟨rfl, trivial⟩ ?_) 
  refine pu rfl rfl rfl rfl rfl ?_
  refine tr_cond_bool rfl (fun h1 => ?_) (fun h1 => ?_)
  · try simp only [zbA] at h1
    omega --done
  · try simp only [zbA] at h1
    refine tr_skip ?_
    refine tr_seq ?_
    refine tr_seq ?_
    refine tr_region fun _ _ _ => ?_
    refine st rfl rfl rfl rfl (rFld rfl rfl) ?_
    refine st rfl rfl rfl rfl (rLdF rfl rfl rfl) ?_
    refine ef rfl rfl (eCallV rfl rfl rfl (code_lengthOk w (by omega) (by omega)) ⟨rfl, trivial⟩ ?_) 
    refine pu rfl rfl rfl rfl rfl ?_
    refine tr_seq ?_
    refine tr_region fun _ _ _ => ?_
    iterate 2 refine pu rfl rfl rfl rfl rfl ?_
    refine tr_cond_bool rfl (fun h4 => ?_) (fun h4 => ?_)
    · try simp only [zbA] at h4
      first | exact absurd trivial h4 | exact absurd rfl h4 | omega | (exact absurd h4 (by simp)) --done
    · try simp only [zbA] at h4
      refine tr_skip ?_
      refine tr_seq ?_
      refine tr_draw [0, 1, 2, 3, 4, 5] [] mixed (by kernel_rfl) fun _ _ _ => ?_
      refine st rfl rfl rfl rfl (rFld rfl rfl) ?_
      refine st rfl rfl rfl rfl (rLdSF rfl rfl) ?_
      refine st rfl rfl rfl rfl (rLdS rfl rfl rfl) ?_
      refine ef rfl rfl (eCallV rfl rfl rfl (code_gen _ _ _ _ _ _ _ _ _) ⟨rfl, trivial⟩ ?_) 
      refine ef rfl rfl (eCallV rfl rfl rfl (spc_CheckF _ _ _ _ _ hl9 w Aa _ ca rs hn h9 h8 hE hf) ⟨rfl, rfl, trivial⟩ ?_) 
      refine pu rfl rfl rfl rfl rfl ?_
      exact tr_ret ⟨trivial, _, _, rfl, ⟨rfl, rfl⟩, CSub.nil _, trivial⟩
theorem code_CheckG_ent : Enters Try.prog 32 := enters_of Try.func32 (by kernel_rfl) (by kernel_rfl)
theorem code_CheckG (p m : Int) (A : Option Addr) (c : Nat) (mod : List Int) (hl9 : mod.length ≤ 17592186044415) [hF : IsF p m mod] (w : Int) (Aa : Option Addr) (n ca : Nat) (rs : List RowM) (hn : n = rs.length) (h9 : rs.length ≤ 17592186044415) (h8 : ∀ r ∈ rs, r.xs.length ≤ 17592186044415) (hb : ¬ (w < 1 ∨ w > 64)) (hE : rowsC (pw p m) w (xss rs) = 0) (hf : formP p m mod w.toNat rs) :
    Pure Try.prog 32 #[.agg #[.int .i64 p, .int .i64 m, .slice A mod.length c, .int .i64 w, .slice Aa n ca]] [ro A (ints mod), ro Aa (hdrs rs), rowsR rs] (isV (.int .i64 0)) := by
  have hch := chkF_ok hF.out
  refine pure_of (args := [.agg #[.int .i64 p, .int .i64 m, .slice A mod.length c, .int .i64 w, .slice Aa n ca]]) 19 Try.func32 rfl rfl rfl code_CheckG_ent ⟨id, id, id, trivial⟩ (fun w0 => ?_)
  refine tr_seq ?_
  refine tr_region fun _ _ _ => ?_
  refine ef rfl rfl (eBox rfl rfl rfl rfl rfl (fun p0 => ?_)) 
  refine pu rfl rfl rfl rfl rfl ?_
  refine tr_seq ?_
  refine tr_seq ?_
  refine tr_region fun _ _ _ => ?_
  refine st rfl rfl rfl rfl (rFld rfl rfl) ?_
  refine st rfl rfl rfl rfl (rLdSF rfl rfl) ?_
  refine ef rfl rfl (eCallV rfl rfl rfl (fld_Check _ _ _ _ _ hl9) ⟨rfl, trivial⟩ ?_) 
  refine pu rfl rfl rfl rfl rfl ?_
  refine tr_cond_bool rfl (fun h1 => ?_) (fun h1 => ?_)
  · try simp only [zbA] at h1
    omega --done
  · try simp only [zbA] at h1
    refine tr_skip ?_
    refine tr_seq ?_
    refine tr_seq ?_
    refine tr_region fun _ _ _ => ?_
    refine st rfl rfl rfl rfl (rFld rfl rfl) ?_
    refine st rfl rfl rfl rfl (rLdF rfl rfl rfl) ?_
    refine ef rfl rfl (eCallV rfl rfl rfl (code_lengthOk w (by omega) (by omega)) ⟨rfl, trivial⟩ ?_) 
    refine pu rfl rfl rfl rfl rfl ?_
    refine tr_seq ?_
    refine tr_region fun _ _ _ => ?_
    iterate 2 refine pu rfl rfl rfl rfl rfl ?_
    refine tr_cond_bool rfl (fun h4 => ?_) (fun h4 => ?_)
    · try simp only [zbA] at h4
      first | exact absurd trivial h4 | exact absurd rfl h4 | omega | (exact absurd h4 (by simp)) --done
    · try simp only [zbA] at h4
      refine tr_skip ?_
      refine tr_seq ?_
      refine tr_draw [0, 1, 2, 3, 4, 5] [] mixed (by kernel_rfl) fun _ _ _ => ?_
      refine st rfl rfl rfl rfl (rFld rfl rfl) ?_
      refine st rfl rfl rfl rfl (rLdSF rfl rfl) ?_
      refine st rfl rfl rfl rfl (rLdS rfl rfl rfl) ?_
      refine ef rfl rfl (eCallV rfl rfl rfl (code_gen _ _ _ _ _ _ _ _ _) ⟨rfl, trivial⟩ ?_) 
      refine ef rfl rfl (eCallV rfl rfl rfl (spc_CheckG _ _ _ _ _ hl9 w Aa _ ca rs hn h9 h8 hE hf) ⟨rfl, rfl, trivial⟩ ?_) 
      refine pu rfl rfl rfl rfl rfl ?_
      exact tr_ret ⟨trivial, _, _, rfl, ⟨rfl, rfl⟩, CSub.nil _, trivial⟩
theorem code_Check (p m : Int) (A : Option Addr) (c : Nat) (mod : List Int) (hl9 : mod.length ≤ 17592186044415) (w : Int) (Aa : Option Addr) (n ca : Nat) (rs : List RowM) (hn : n = rs.length) (h9 : rs.length ≤ 17592186044415) (h8 : ∀ r ∈ rs, r.xs.length ≤ 17592186044415) : Pure Try.prog 32 #[.agg #[.int .i64 p, .int .i64 m, .slice A mod.length c, .int .i64 w, .slice Aa n ca]] [ro A (ints mod), ro Aa (hdrs rs), rowsR rs] (isV (.int .i64 (codC p m mod w rs))) := by
  by_cases hF : FldR p m mod
  · haveI : IsF p m mod := ⟨hF⟩
    by_cases hb : w < 1 ∨ w > 64
    · rw [codC_ln hb]; exact code_CheckL p m A c mod hl9 w Aa n ca rs hn h9 h8 hb
    · by_cases hE : rowsC (pw p m) w (xss rs) = 0
      · by_cases hf : formP p m mod w.toNat rs
        · rw [codC_ok hb hE hf]; exact code_CheckG p m A c mod hl9 w Aa n ca rs hn h9 h8 hb hE hf
        · rw [codC_fm hb hE hf]; exact code_CheckF p m A c mod hl9 w Aa n ca rs hn h9 h8 hb hE hf
      · rw [codC_rw hb hE]; exact code_CheckE p m A c mod hl9 w Aa n ca rs hn h9 h8 hb hE
  · rw [codC_no w rs hF]; exact code_CheckNo p m A c mod hl9 hF w Aa n ca rs hn h9 h8
theorem ref_SCheckE_ent : Enters Try.prog 37 := enters_of Try.func37 (by kernel_rfl) (by kernel_rfl)
theorem ref_SCheckE (p m : Int) (A : Option Addr) (c : Nat) (mod : List Int) (hl9 : mod.length ≤ 17592186044415) [hF : IsF p m mod] (w : Int) (Aa : Option Addr) (n ca : Nat) (rs : List RowM) (hn : n = rs.length) (h9 : rs.length ≤ 17592186044415) (h8 : ∀ r ∈ rs, r.xs.length ≤ 17592186044415) (hE : rowsC (pw p m) w (xss rs) ≠ 0) :
    Pure Try.prog 37 #[.agg #[.int .i64 p, .int .i64 m, .slice A mod.length c], .agg #[.int .i64 w, .slice Aa n ca]] [ro A (ints mod), ro Aa (hdrs rs), rowsR rs] (isV (.int .i64 (rowsC (pw p m) w (xss rs)))) := by
  refine pure_of (args := [.agg #[.int .i64 p, .int .i64 m, .slice A mod.length c], .agg #[.int .i64 w, .slice Aa n ca]]) 28 Try.func37 rfl rfl rfl ref_SCheckE_ent ⟨id, id, id, trivial⟩ (fun w0 => ?_)
  refine tr_seq ?_
  refine tr_region fun _ _ _ => ?_
  refine ef rfl rfl (eBox rfl rfl rfl rfl rfl (fun p0 => ?_)) 
  refine ef rfl rfl (eBox rfl rfl rfl rfl rfl (fun p0a => ?_)) 
  refine pu rfl rfl rfl rfl rfl ?_
  refine tr_seq ?_
  refine tr_region fun _ _ _ => ?_
  refine st rfl rfl rfl rfl (rLdS rfl rfl rfl) ?_
  refine st rfl rfl rfl rfl (rLdS rfl rfl rfl) ?_
  refine ef rfl rfl (eCallV rfl rfl rfl (ref_RCheckOk _ _ _ _ _ hl9 hF.out (pw p m) hF.ord w Aa _ ca rs hn h9 h8) ⟨rfl, rfl, trivial⟩ ?_) 
  refine pu rfl rfl rfl rfl rfl ?_
  refine tr_seq ?_
  refine tr_seq ?_
  refine tr_region fun _ _ _ => ?_
  iterate 2 refine pu rfl rfl rfl rfl rfl ?_
  refine tr_cond_bool rfl (fun h2 => ?_) (fun h2 => ?_)
  · try simp only [zbA] at h2
    refine tr_seq ?_
    refine tr_region fun _ _ _ => ?_
    iterate 2 refine pu rfl rfl rfl rfl rfl ?_
    exact tr_ret ⟨trivial, _, _, rfl, ⟨rfl, rfl⟩, CSub.nil _, trivial⟩
  · try simp only [zbA] at h2
    omega --done
theorem ref_SCheckF_ent : Enters Try.prog 37 := enters_of Try.func37 (by kernel_rfl) (by kernel_rfl)
theorem ref_SCheckF (p m : Int) (A : Option Addr) (c : Nat) (mod : List Int) (hl9 : mod.length ≤ 17592186044415) [hF : IsF p m mod] (w : Int) (Aa : Option Addr) (n ca : Nat) (rs : List RowM) (hn : n = rs.length) (h9 : rs.length ≤ 17592186044415) (h8 : ∀ r ∈ rs, r.xs.length ≤ 17592186044415) (hE : rowsC (pw p m) w (xss rs) = 0) (hf : ¬ formP p m mod w.toNat rs) :
    Pure Try.prog 37 #[.agg #[.int .i64 p, .int .i64 m, .slice A mod.length c], .agg #[.int .i64 w, .slice Aa n ca]] [ro A (ints mod), ro Aa (hdrs rs), rowsR rs] (isV (.int .i64 5)) := by
  obtain ⟨hgd, hw0, hw9, hr9⟩ := rowsC_Gd (p := p) (m := m) hE
  refine pure_of (args := [.agg #[.int .i64 p, .int .i64 m, .slice A mod.length c], .agg #[.int .i64 w, .slice Aa n ca]]) 28 Try.func37 rfl rfl rfl ref_SCheckF_ent ⟨id, id, id, trivial⟩ (fun w0 => ?_)
  refine tr_seq ?_
  refine tr_region fun _ _ _ => ?_
  refine ef rfl rfl (eBox rfl rfl rfl rfl rfl (fun p0 => ?_)) 
  refine ef rfl rfl (eBox rfl rfl rfl rfl rfl (fun p0a => ?_)) 
  refine pu rfl rfl rfl rfl rfl ?_
  refine tr_seq ?_
  refine tr_region fun _ _ _ => ?_
  refine st rfl rfl rfl rfl (rLdS rfl rfl rfl) ?_
  refine st rfl rfl rfl rfl (rLdS rfl rfl rfl) ?_
  refine ef rfl rfl (eCallV rfl rfl rfl (ref_RCheckOk _ _ _ _ _ hl9 hF.out (pw p m) hF.ord w Aa _ ca rs hn h9 h8) ⟨rfl, rfl, trivial⟩ ?_) 
  refine pu rfl rfl rfl rfl rfl ?_
  refine tr_seq ?_
  refine tr_seq ?_
  refine tr_region fun _ _ _ => ?_
  iterate 2 refine pu rfl rfl rfl rfl rfl ?_
  refine tr_cond_bool rfl (fun h2 => ?_) (fun h2 => ?_)
  · try simp only [zbA] at h2
    omega --done
  · try simp only [zbA] at h2
    refine tr_skip ?_
    refine tr_seq ?_
    refine tr_region fun _ _ _ => ?_
    refine st rfl rfl rfl rfl (rLdS rfl rfl rfl) ?_
    refine st rfl rfl rfl rfl (rFld rfl rfl) ?_
    refine st rfl rfl rfl rfl (rLdF rfl rfl rfl) ?_
    refine st rfl rfl rfl rfl (rFld rfl rfl) ?_
    refine st rfl rfl rfl rfl (rLdF rfl rfl rfl) ?_
    refine ef rfl rfl (eCall3 rfl rfl rfl (ref_RCanon _ _ _ _ _ w hw0 (by omega) Aa _ ca rs hn (by omega) hgd) ⟨rfl, rfl, rfl, trivial⟩ ?_) 
    rintro _ _ _ _ ⟨r3, B, cg, Bp, cp, ps, rfl, rfl, rfl, rfl, hR, hk⟩
    iterate 5 refine pu rfl rfl rfl rfl rfl ?_
    refine tr_seq ?_
    refine tr_seq ?_
    refine tr_region fun _ _ _ => ?_
    refine pu rfl rfl rfl rfl rfl ?_
    refine st rfl rfl rfl rfl (rFld rfl rfl) ?_
    refine st rfl rfl rfl rfl (rLdF rfl rfl rfl) ?_
    refine ef rfl rfl (eCallV rfl rfl rfl (ref_SameRows _ _ _ r3 rfl _ _ _ rs hn (by omega) (hR.good.h8 (by omega))) ⟨rfl, rfl, trivial⟩ ?_) 
    refine st rfl rfl rfl rfl (rNotB rfl rfl) ?_
    refine tr_cond_bool rfl (fun h5 => ?_) (fun h5 => ?_)
    · try simp only [zbA] at h5
      refine tr_seq ?_
      refine tr_region fun _ _ _ => ?_
      refine pu rfl rfl rfl rfl rfl ?_
      exact tr_ret ⟨trivial, _, _, rfl, ⟨rfl, rfl⟩, CSub.nil _, trivial⟩
    · try simp only [zbA] at h5
      exact absurd ((hR.form_iff hgd).1 (by simpa [xss] using h5)) hf --done
theorem ref_SCheckG_ent : Enters Try.prog 37 := enters_of Try.func37 (by kernel_rfl) (by kernel_rfl)
theorem ref_SCheckG (p m : Int) (A : Option Addr) (c : Nat) (mod : List Int) (hl9 : mod.length ≤ 17592186044415) [hF : IsF p m mod] (w : Int) (Aa : Option Addr) (n ca : Nat) (rs : List RowM) (hn : n = rs.length) (h9 : rs.length ≤ 17592186044415) (h8 : ∀ r ∈ rs, r.xs.length ≤ 17592186044415) (hE : rowsC (pw p m) w (xss rs) = 0) (hf : formP p m mod w.toNat rs) :
    Pure Try.prog 37 #[.agg #[.int .i64 p, .int .i64 m, .slice A mod.length c], .agg #[.int .i64 w, .slice Aa n ca]] [ro A (ints mod), ro Aa (hdrs rs), rowsR rs] (isV (.int .i64 0)) := by
  obtain ⟨hgd, hw0, hw9, hr9⟩ := rowsC_Gd (p := p) (m := m) hE
  refine pure_of (args := [.agg #[.int .i64 p, .int .i64 m, .slice A mod.length c], .agg #[.int .i64 w, .slice Aa n ca]]) 28 Try.func37 rfl rfl rfl ref_SCheckG_ent ⟨id, id, id, trivial⟩ (fun w0 => ?_)
  refine tr_seq ?_
  refine tr_region fun _ _ _ => ?_
  refine ef rfl rfl (eBox rfl rfl rfl rfl rfl (fun p0 => ?_)) 
  refine ef rfl rfl (eBox rfl rfl rfl rfl rfl (fun p0a => ?_)) 
  refine pu rfl rfl rfl rfl rfl ?_
  refine tr_seq ?_
  refine tr_region fun _ _ _ => ?_
  refine st rfl rfl rfl rfl (rLdS rfl rfl rfl) ?_
  refine st rfl rfl rfl rfl (rLdS rfl rfl rfl) ?_
  refine ef rfl rfl (eCallV rfl rfl rfl (ref_RCheckOk _ _ _ _ _ hl9 hF.out (pw p m) hF.ord w Aa _ ca rs hn h9 h8) ⟨rfl, rfl, trivial⟩ ?_) 
  refine pu rfl rfl rfl rfl rfl ?_
  refine tr_seq ?_
  refine tr_seq ?_
  refine tr_region fun _ _ _ => ?_
  iterate 2 refine pu rfl rfl rfl rfl rfl ?_
  refine tr_cond_bool rfl (fun h2 => ?_) (fun h2 => ?_)
  · try simp only [zbA] at h2
    omega --done
  · try simp only [zbA] at h2
    refine tr_skip ?_
    refine tr_seq ?_
    refine tr_region fun _ _ _ => ?_
    refine st rfl rfl rfl rfl (rLdS rfl rfl rfl) ?_
    refine st rfl rfl rfl rfl (rFld rfl rfl) ?_
    refine st rfl rfl rfl rfl (rLdF rfl rfl rfl) ?_
    refine st rfl rfl rfl rfl (rFld rfl rfl) ?_
    refine st rfl rfl rfl rfl (rLdF rfl rfl rfl) ?_
    refine ef rfl rfl (eCall3 rfl rfl rfl (ref_RCanon _ _ _ _ _ w hw0 (by omega) Aa _ ca rs hn (by omega) hgd) ⟨rfl, rfl, rfl, trivial⟩ ?_) 
    rintro _ _ _ _ ⟨r3, B, cg, Bp, cp, ps, rfl, rfl, rfl, rfl, hR, hk⟩
    iterate 5 refine pu rfl rfl rfl rfl rfl ?_
    refine tr_seq ?_
    refine tr_seq ?_
    refine tr_region fun _ _ _ => ?_
    refine pu rfl rfl rfl rfl rfl ?_
    refine st rfl rfl rfl rfl (rFld rfl rfl) ?_
    refine st rfl rfl rfl rfl (rLdF rfl rfl rfl) ?_
    refine ef rfl rfl (eCallV rfl rfl rfl (ref_SameRows _ _ _ r3 rfl _ _ _ rs hn (by omega) (hR.good.h8 (by omega))) ⟨rfl, rfl, trivial⟩ ?_) 
    refine st rfl rfl rfl rfl (rNotB rfl rfl) ?_
    refine tr_cond_bool rfl (fun h5 => ?_) (fun h5 => ?_)
    · try simp only [zbA] at h5
      exact absurd ((hR.form_iff hgd).2 hf) (by simpa [xss] using h5) --done
    · try simp only [zbA] at h5
      refine tr_skip ?_
      refine tr_seq ?_
      refine tr_region fun _ _ _ => ?_
      refine pu rfl rfl rfl rfl rfl ?_
      exact tr_ret ⟨trivial, _, _, rfl, ⟨rfl, rfl⟩, CSub.nil _, trivial⟩
theorem ref_CCheckNo_ent : Enters Try.prog 24 := enters_of Try.func24 (by kernel_rfl) (by kernel_rfl)
theorem ref_CCheckNo (p m : Int) (A : Option Addr) (c : Nat) (mod : List Int) (hl9 : mod.length ≤ 17592186044415) (hF : ¬ FldR p m mod) (w : Int) (Aa : Option Addr) (n ca : Nat) (rs : List RowM) (hn : n = rs.length) (h9 : rs.length ≤ 17592186044415) (h8 : ∀ r ∈ rs, r.xs.length ≤ 17592186044415) :
    Pure Try.prog 24 #[.agg #[.int .i64 p, .int .i64 m, .slice A mod.length c, .int .i64 w, .slice Aa n ca]] [ro A (ints mod), ro Aa (hdrs rs), rowsR rs] (isV (.int .i64 1)) := by
  have hch := chkF_no hF
  refine pure_of (args := [.agg #[.int .i64 p, .int .i64 m, .slice A mod.length c, .int .i64 w, .slice Aa n ca]]) 26 Try.func24 rfl rfl rfl ref_CCheckNo_ent ⟨id, id, id, trivial⟩ (fun w0 => ?_)
  refine tr_seq ?_
  refine tr_region fun _ _ _ => ?_
  refine ef rfl rfl (eBox rfl rfl rfl rfl rfl (fun p0 => ?_)) 
  refine pu rfl rfl rfl rfl rfl ?_
  refine tr_seq ?_
  refine tr_region fun _ _ _ => ?_
  refine st rfl rfl rfl rfl (rFld rfl rfl) ?_
  refine st rfl rfl rfl rfl (rLdSF rfl rfl) ?_
  refine ef rfl rfl (eCallV rfl rfl rfl (ref_fldCheck _ _ _ _ _ hl9) ⟨rfl, trivial⟩ ?_) 
  refine pu rfl rfl rfl rfl rfl ?_
  refine tr_seq ?_
  refine tr_seq ?_
  refine tr_region fun _ _ _ => ?_
  iterate 2 refine pu rfl rfl rfl rfl rfl ?_
  refine tr_cond_bool rfl (fun h2 => ?_) (fun h2 => ?_)
  · try simp only [zbA] at h2
    refine tr_seq ?_
    refine tr_region fun _ _ _ => ?_
    iterate 2 refine pu rfl rfl rfl rfl rfl ?_
    exact tr_ret ⟨trivial, _, _, rfl, ⟨by rw [hch], rfl⟩, CSub.nil _, trivial⟩
  · try simp only [zbA] at h2
    omega --done
theorem ref_CCheckL_ent : Enters Try.prog 24 := enters_of Try.func24 (by kernel_rfl) (by kernel_rfl)
theorem ref_CCheckL (p m : Int) (A : Option Addr) (c : Nat) (mod : List Int) (hl9 : mod.length ≤ 17592186044415) [hF : IsF p m mod] (w : Int) (Aa : Option Addr) (n ca : Nat) (rs : List RowM) (hn : n = rs.length) (h9 : rs.length ≤ 17592186044415) (h8 : ∀ r ∈ rs, r.xs.length ≤ 17592186044415) (hb : w < 1 ∨ w > 64) :
    Pure Try.prog 24 #[.agg #[.int .i64 p, .int .i64 m, .slice A mod.length c, .int .i64 w, .slice Aa n ca]] [ro A (ints mod), ro Aa (hdrs rs), rowsR rs] (isV (.int .i64 4)) := by
  have hch := chkF_ok hF.out
  refine pure_of (args := [.agg #[.int .i64 p, .int .i64 m, .slice A mod.length c, .int .i64 w, .slice Aa n ca]]) 26 Try.func24 rfl rfl rfl ref_CCheckL_ent ⟨id, id, id, trivial⟩ (fun w0 => ?_)
  refine tr_seq ?_
  refine tr_region fun _ _ _ => ?_
  refine ef rfl rfl (eBox rfl rfl rfl rfl rfl (fun p0 => ?_)) 
  refine pu rfl rfl rfl rfl rfl ?_
  refine tr_seq ?_
  refine tr_region fun _ _ _ => ?_
  refine st rfl rfl rfl rfl (rFld rfl rfl) ?_
  refine st rfl rfl rfl rfl (rLdSF rfl rfl) ?_
  refine ef rfl rfl (eCallV rfl rfl rfl (ref_fldCheck _ _ _ _ _ hl9) ⟨rfl, trivial⟩ ?_) 
  refine pu rfl rfl rfl rfl rfl ?_
  refine tr_seq ?_
  refine tr_seq ?_
  refine tr_region fun _ _ _ => ?_
  iterate 2 refine pu rfl rfl rfl rfl rfl ?_
  refine tr_cond_bool rfl (fun h2 => ?_) (fun h2 => ?_)
  · try simp only [zbA] at h2
    omega --done
  · try simp only [zbA] at h2
    refine tr_skip ?_
    refine tr_seq ?_
    refine tr_seq ?_
    refine tr_region fun _ _ _ => ?_
    refine st rfl rfl rfl rfl (rFld rfl rfl) ?_
    refine st rfl rfl rfl rfl (rLdF rfl rfl rfl) ?_
    iterate 2 refine pu rfl rfl rfl rfl rfl ?_
    refine stg rfl rfl rfl rfl rfl (fun hb => by (have hq := hb; try simp only [zbA] at hq); exact rFld rfl rfl) ?_
    refine stg rfl rfl rfl rfl rfl (fun hb => by (have hq := hb; try simp only [zbA] at hq); exact rLdF rfl (evg rfl hb) rfl) ?_
    refine stg rfl rfl rfl rfl rfl (fun hb => by (have hq := hb; try simp only [zbA] at hq); exact rGtr rfl (evg rfl hb) rfl) ?_
    refine st rfl rfl rfl rfl (rOrB rfl rfl rfl rfl) ?_
    refine tr_cond_bool rfl (fun h4 => ?_) (fun h4 => ?_)
    · try simp only [zbA] at h4
      refine tr_seq ?_
      refine tr_region fun _ _ _ => ?_
      refine pu rfl rfl rfl rfl rfl ?_
      exact tr_ret ⟨trivial, _, _, rfl, ⟨rfl, rfl⟩, CSub.nil _, trivial⟩
    · try simp only [zbA] at h4
      omega --done
theorem ref_CCheckE_ent : Enters Try.prog 24 := enters_of Try.func24 (by kernel_rfl) (by kernel_rfl)
theorem ref_CCheckE (p m : Int) (A : Option Addr) (c : Nat) (mod : List Int) (hl9 : mod.length ≤ 17592186044415) [hF : IsF p m mod] (w : Int) (Aa : Option Addr) (n ca : Nat) (rs : List RowM) (hn : n = rs.length) (h9 : rs.length ≤ 17592186044415) (h8 : ∀ r ∈ rs, r.xs.length ≤ 17592186044415) (hb : ¬ (w < 1 ∨ w > 64)) (hE : rowsC (pw p m) w (xss rs) ≠ 0) :
    Pure Try.prog 24 #[.agg #[.int .i64 p, .int .i64 m, .slice A mod.length c, .int .i64 w, .slice Aa n ca]] [ro A (ints mod), ro Aa (hdrs rs), rowsR rs] (isV (.int .i64 (rowsC (pw p m) w (xss rs)))) := by
  have hch := chkF_ok hF.out
  refine pure_of (args := [.agg #[.int .i64 p, .int .i64 m, .slice A mod.length c, .int .i64 w, .slice Aa n ca]]) 26 Try.func24 rfl rfl rfl ref_CCheckE_ent ⟨id, id, id, trivial⟩ (fun w0 => ?_)
  refine tr_seq ?_
  refine tr_region fun _ _ _ => ?_
  refine ef rfl rfl (eBox rfl rfl rfl rfl rfl (fun p0 => ?_)) 
  refine pu rfl rfl rfl rfl rfl ?_
  refine tr_seq ?_
  refine tr_region fun _ _ _ => ?_
  refine st rfl rfl rfl rfl (rFld rfl rfl) ?_
  refine st rfl rfl rfl rfl (rLdSF rfl rfl) ?_
  refine ef rfl rfl (eCallV rfl rfl rfl (ref_fldCheck _ _ _ _ _ hl9) ⟨rfl, trivial⟩ ?_) 
  refine pu rfl rfl rfl rfl rfl ?_
  refine tr_seq ?_
  refine tr_seq ?_
  refine tr_region fun _ _ _ => ?_
  iterate 2 refine pu rfl rfl rfl rfl rfl ?_
  refine tr_cond_bool rfl (fun h2 => ?_) (fun h2 => ?_)
  · try simp only [zbA] at h2
    omega --done
  · try simp only [zbA] at h2
    refine tr_skip ?_
    refine tr_seq ?_
    refine tr_seq ?_
    refine tr_region fun _ _ _ => ?_
    refine st rfl rfl rfl rfl (rFld rfl rfl) ?_
    refine st rfl rfl rfl rfl (rLdF rfl rfl rfl) ?_
    iterate 2 refine pu rfl rfl rfl rfl rfl ?_
    refine stg rfl rfl rfl rfl rfl (fun hb => by (have hq := hb; try simp only [zbA] at hq); exact rFld rfl rfl) ?_
    refine stg rfl rfl rfl rfl rfl (fun hb => by (have hq := hb; try simp only [zbA] at hq); exact rLdF rfl (evg rfl hb) rfl) ?_
    refine stg rfl rfl rfl rfl rfl (fun hb => by (have hq := hb; try simp only [zbA] at hq); exact rGtr rfl (evg rfl hb) rfl) ?_
    refine st rfl rfl rfl rfl (rOrB rfl rfl rfl rfl) ?_
    refine tr_cond_bool rfl (fun h4 => ?_) (fun h4 => ?_)
    · try simp only [zbA] at h4
      omega --done
    · try simp only [zbA] at h4
      refine tr_skip ?_
      refine tr_seq ?_
      refine tr_region fun _ _ _ => ?_
      refine st rfl rfl rfl rfl (rFld rfl rfl) ?_
      refine st rfl rfl rfl rfl (rLdSF rfl rfl) ?_
      refine st rfl rfl rfl rfl (rFld rfl rfl) ?_
      refine st rfl rfl rfl rfl (rLdF rfl rfl rfl) ?_
      refine st rfl rfl rfl rfl (rFld rfl rfl) ?_
      refine st rfl rfl rfl rfl (rLdF rfl rfl rfl) ?_
      refine st rfl rfl rfl rfl (rBuild rfl rfl) ?_
      refine ef rfl rfl (eCallV rfl rfl rfl (ref_SCheckE _ _ _ _ _ hl9 w Aa _ ca rs hn h9 h8 hE) ⟨rfl, rfl, trivial⟩ ?_) 
      refine pu rfl rfl rfl rfl rfl ?_
      exact tr_ret ⟨trivial, _, _, rfl, ⟨rfl, rfl⟩, CSub.nil _, trivial⟩
theorem ref_CCheckF_ent : Enters Try.prog 24 := enters_of Try.func24 (by kernel_rfl) (by kernel_rfl)
theorem ref_CCheckF (p m : Int) (A : Option Addr) (c : Nat) (mod : List Int) (hl9 : mod.length ≤ 17592186044415) [hF : IsF p m mod] (w : Int) (Aa : Option Addr) (n ca : Nat) (rs : List RowM) (hn : n = rs.length) (h9 : rs.length ≤ 17592186044415) (h8 : ∀ r ∈ rs, r.xs.length ≤ 17592186044415) (hb : ¬ (w < 1 ∨ w > 64)) (hE : rowsC (pw p m) w (xss rs) = 0) (hf : ¬ formP p m mod w.toNat rs) :
    Pure Try.prog 24 #[.agg #[.int .i64 p, .int .i64 m, .slice A mod.length c, .int .i64 w, .slice Aa n ca]] [ro A (ints mod), ro Aa (hdrs rs), rowsR rs] (isV (.int .i64 5)) := by
  have hch := chkF_ok hF.out
  refine pure_of (args := [.agg #[.int .i64 p, .int .i64 m, .slice A mod.length c, .int .i64 w, .slice Aa n ca]]) 26 Try.func24 rfl rfl rfl ref_CCheckF_ent ⟨id, id, id, trivial⟩ (fun w0 => ?_)
  refine tr_seq ?_
  refine tr_region fun _ _ _ => ?_
  refine ef rfl rfl (eBox rfl rfl rfl rfl rfl (fun p0 => ?_)) 
  refine pu rfl rfl rfl rfl rfl ?_
  refine tr_seq ?_
  refine tr_region fun _ _ _ => ?_
  refine st rfl rfl rfl rfl (rFld rfl rfl) ?_
  refine st rfl rfl rfl rfl (rLdSF rfl rfl) ?_
  refine ef rfl rfl (eCallV rfl rfl rfl (ref_fldCheck _ _ _ _ _ hl9) ⟨rfl, trivial⟩ ?_) 
  refine pu rfl rfl rfl rfl rfl ?_
  refine tr_seq ?_
  refine tr_seq ?_
  refine tr_region fun _ _ _ => ?_
  iterate 2 refine pu rfl rfl rfl rfl rfl ?_
  refine tr_cond_bool rfl (fun h2 => ?_) (fun h2 => ?_)
  · try simp only [zbA] at h2
    omega --done
  · try simp only [zbA] at h2
    refine tr_skip ?_
    refine tr_seq ?_
    refine tr_seq ?_
    refine tr_region fun _ _ _ => ?_
    refine st rfl rfl rfl rfl (rFld rfl rfl) ?_
    refine st rfl rfl rfl rfl (rLdF rfl rfl rfl) ?_
    iterate 2 refine pu rfl rfl rfl rfl rfl ?_
    refine stg rfl rfl rfl rfl rfl (fun hb => by (have hq := hb; try simp only [zbA] at hq); exact rFld rfl rfl) ?_
    refine stg rfl rfl rfl rfl rfl (fun hb => by (have hq := hb; try simp only [zbA] at hq); exact rLdF rfl (evg rfl hb) rfl) ?_
    refine stg rfl rfl rfl rfl rfl (fun hb => by (have hq := hb; try simp only [zbA] at hq); exact rGtr rfl (evg rfl hb) rfl) ?_
    refine st rfl rfl rfl rfl (rOrB rfl rfl rfl rfl) ?_
    refine tr_cond_bool rfl (fun h4 => ?_) (fun h4 => ?_)
    · try simp only [zbA] at h4
      omega --done
    · try simp only [zbA] at h4
      refine tr_skip ?_
      refine tr_seq ?_
      refine tr_region fun _ _ _ => ?_
      refine st rfl rfl rfl rfl (rFld rfl rfl) ?_
      refine st rfl rfl rfl rfl (rLdSF rfl rfl) ?_
      refine st rfl rfl rfl rfl (rFld rfl rfl) ?_
      refine st rfl rfl rfl rfl (rLdF rfl rfl rfl) ?_
      refine st rfl rfl rfl rfl (rFld rfl rfl) ?_
      refine st rfl rfl rfl rfl (rLdF rfl rfl rfl) ?_
      refine st rfl rfl rfl rfl (rBuild rfl rfl) ?_
      refine ef rfl rfl (eCallV rfl rfl rfl (ref_SCheckF _ _ _ _ _ hl9 w Aa _ ca rs hn h9 h8 hE hf) ⟨rfl, rfl, trivial⟩ ?_) 
      refine pu rfl rfl rfl rfl rfl ?_
      exact tr_ret ⟨trivial, _, _, rfl, ⟨rfl, rfl⟩, CSub.nil _, trivial⟩
theorem ref_CCheckG_ent : Enters Try.prog 24 := enters_of Try.func24 (by kernel_rfl) (by kernel_rfl)
theorem ref_CCheckG (p m : Int) (A : Option Addr) (c : Nat) (mod : List Int) (hl9 : mod.length ≤ 17592186044415) [hF : IsF p m mod] (w : Int) (Aa : Option Addr) (n ca : Nat) (rs : List RowM) (hn : n = rs.length) (h9 : rs.length ≤ 17592186044415) (h8 : ∀ r ∈ rs, r.xs.length ≤ 17592186044415) (hb : ¬ (w < 1 ∨ w > 64)) (hE : rowsC (pw p m) w (xss rs) = 0) (hf : formP p m mod w.toNat rs) :
    Pure Try.prog 24 #[.agg #[.int .i64 p, .int .i64 m, .slice A mod.length c, .int .i64 w, .slice Aa n ca]] [ro A (ints mod), ro Aa (hdrs rs), rowsR rs] (isV (.int .i64 0)) := by
  have hch := chkF_ok hF.out
  refine pure_of (args := [.agg #[.int .i64 p, .int .i64 m, .slice A mod.length c, .int .i64 w, .slice Aa n ca]]) 26 Try.func24 rfl rfl rfl ref_CCheckG_ent ⟨id, id, id, trivial⟩ (fun w0 => ?_)
  refine tr_seq ?_
  refine tr_region fun _ _ _ => ?_
  refine ef rfl rfl (eBox rfl rfl rfl rfl rfl (fun p0 => ?_)) 
  refine pu rfl rfl rfl rfl rfl ?_
  refine tr_seq ?_
  refine tr_region fun _ _ _ => ?_
  refine st rfl rfl rfl rfl (rFld rfl rfl) ?_
  refine st rfl rfl rfl rfl (rLdSF rfl rfl) ?_
  refine ef rfl rfl (eCallV rfl rfl rfl (ref_fldCheck _ _ _ _ _ hl9) ⟨rfl, trivial⟩ ?_) 
  refine pu rfl rfl rfl rfl rfl ?_
  refine tr_seq ?_
  refine tr_seq ?_
  refine tr_region fun _ _ _ => ?_
  iterate 2 refine pu rfl rfl rfl rfl rfl ?_
  refine tr_cond_bool rfl (fun h2 => ?_) (fun h2 => ?_)
  · try simp only [zbA] at h2
    omega --done
  · try simp only [zbA] at h2
    refine tr_skip ?_
    refine tr_seq ?_
    refine tr_seq ?_
    refine tr_region fun _ _ _ => ?_
    refine st rfl rfl rfl rfl (rFld rfl rfl) ?_
    refine st rfl rfl rfl rfl (rLdF rfl rfl rfl) ?_
    iterate 2 refine pu rfl rfl rfl rfl rfl ?_
    refine stg rfl rfl rfl rfl rfl (fun hb => by (have hq := hb; try simp only [zbA] at hq); exact rFld rfl rfl) ?_
    refine stg rfl rfl rfl rfl rfl (fun hb => by (have hq := hb; try simp only [zbA] at hq); exact rLdF rfl (evg rfl hb) rfl) ?_
    refine stg rfl rfl rfl rfl rfl (fun hb => by (have hq := hb; try simp only [zbA] at hq); exact rGtr rfl (evg rfl hb) rfl) ?_
    refine st rfl rfl rfl rfl (rOrB rfl rfl rfl rfl) ?_
    refine tr_cond_bool rfl (fun h4 => ?_) (fun h4 => ?_)
    · try simp only [zbA] at h4
      omega --done
    · try simp only [zbA] at h4
      refine tr_skip ?_
      refine tr_seq ?_
      refine tr_region fun _ _ _ => ?_
      refine st rfl rfl rfl rfl (rFld rfl rfl) ?_
      refine st rfl rfl rfl rfl (rLdSF rfl rfl) ?_
      refine st rfl rfl rfl rfl (rFld rfl rfl) ?_
      refine st rfl rfl rfl rfl (rLdF rfl rfl rfl) ?_
      refine st rfl rfl rfl rfl (rFld rfl rfl) ?_
      refine st rfl rfl rfl rfl (rLdF rfl rfl rfl) ?_
      refine st rfl rfl rfl rfl (rBuild rfl rfl) ?_
      refine ef rfl rfl (eCallV rfl rfl rfl (ref_SCheckG _ _ _ _ _ hl9 w Aa _ ca rs hn h9 h8 hE hf) ⟨rfl, rfl, trivial⟩ ?_) 
      refine pu rfl rfl rfl rfl rfl ?_
      exact tr_ret ⟨trivial, _, _, rfl, ⟨rfl, rfl⟩, CSub.nil _, trivial⟩
theorem ref_CCheck (p m : Int) (A : Option Addr) (c : Nat) (mod : List Int) (hl9 : mod.length ≤ 17592186044415) (w : Int) (Aa : Option Addr) (n ca : Nat) (rs : List RowM) (hn : n = rs.length) (h9 : rs.length ≤ 17592186044415) (h8 : ∀ r ∈ rs, r.xs.length ≤ 17592186044415) : Pure Try.prog 24 #[.agg #[.int .i64 p, .int .i64 m, .slice A mod.length c, .int .i64 w, .slice Aa n ca]] [ro A (ints mod), ro Aa (hdrs rs), rowsR rs] (isV (.int .i64 (codC p m mod w rs))) := by
  by_cases hF : FldR p m mod
  · haveI : IsF p m mod := ⟨hF⟩
    by_cases hb : w < 1 ∨ w > 64
    · rw [codC_ln hb]; exact ref_CCheckL p m A c mod hl9 w Aa n ca rs hn h9 h8 hb
    · by_cases hE : rowsC (pw p m) w (xss rs) = 0
      · by_cases hf : formP p m mod w.toNat rs
        · rw [codC_ok hb hE hf]; exact ref_CCheckG p m A c mod hl9 w Aa n ca rs hn h9 h8 hb hE hf
        · rw [codC_fm hb hE hf]; exact ref_CCheckF p m A c mod hl9 w Aa n ca rs hn h9 h8 hb hE hf
      · rw [codC_rw hb hE]; exact ref_CCheckE p m A c mod hl9 w Aa n ca rs hn h9 h8 hb hE
  · rw [codC_no w rs hF]; exact ref_CCheckNo p m A c mod hl9 hF w Aa n ca rs hn h9 h8
end Go.Proofs.Ytoalphamojhpcaa

set_option linter.unusedSimpArgs false
set_option linter.unusedVariables false
set_option maxRecDepth 100000
namespace Go.Proofs.Ytoalphamojhpcaa
open Go.RowKit
end Go.Proofs.Ytoalphamojhpcaa

set_option linter.unusedSimpArgs false
set_option linter.unusedVariables false
set_option maxRecDepth 100000
namespace Go.Proofs.Ytoalphamojhpcaa
open Go.RowKit
theorem ref_MFew_ent : Enters Try.prog 31 := enters_of Try.func31 (by kernel_rfl) (by kernel_rfl)
theorem ref_MFew (Aa : Option Addr) (n ca : Nat) (rs : List RowM) (hn : n = rs.length) (h9 : rs.length ≤ 17592186044415) (h8 : ∀ r ∈ rs, r.xs.length ≤ 17592186044415) :
    Pure Try.prog 31 #[.agg #[.int .i64 0, .slice Aa n ca], .int .i64 4200] [ro Aa (hdrs rs), rowsR rs] (val (fun v => ∃ b : Bool, v = .bool b ∧ (b = true → ∀ r ∈ rs, r.xs.length ≤ 4200))) := by
  refine pure_of (args := [.agg #[.int .i64 0, .slice Aa n ca], .int .i64 4200]) 45 Try.func31 rfl rfl rfl ref_MFew_ent ⟨id, id, trivial⟩ (fun w0 => ?_)
  refine tr_seq ?_
  refine tr_region fun _ _ _ => ?_
  refine ef rfl rfl (eBox rfl rfl rfl rfl rfl (fun p0 => ?_)) 
  refine pu rfl rfl rfl rfl rfl ?_
  refine tr_seq ?_
  refine tr_seq ?_
  refine tr_region fun _ _ _ => ?_
  refine st rfl rfl rfl rfl (rFld rfl rfl) ?_
  refine st rfl rfl rfl rfl (rLdF rfl rfl rfl) ?_
  iterate 2 refine pu rfl rfl rfl rfl rfl ?_
  refine stg rfl rfl rfl rfl rfl (fun hb => by (have hq := hb; try simp only [zbA] at hq); exact rFld rfl rfl) ?_
  refine stg rfl rfl rfl rfl rfl (fun hb => by (have hq := hb; try simp only [zbA] at hq); exact rLdF rfl (evg rfl hb) rfl) ?_
  refine stg rfl rfl rfl rfl rfl (fun hb => by (have hq := hb; try simp only [zbA] at hq); exact rLen rfl (evg rfl hb)) ?_
  refine stg rfl rfl rfl rfl rfl (fun hb => by (have hq := hb; try simp only [zbA] at hq); exact rMove rfl rfl) ?_
  refine stg rfl rfl rfl rfl rfl (fun hb => by (have hq := hb; try simp only [zbA] at hq); exact rGtr rfl (evg rfl hb) (evg rfl hb)) ?_
  refine st rfl rfl rfl rfl (rOrB rfl rfl rfl rfl) ?_
  refine tr_cond_bool rfl (fun h1 => ?_) (fun h1 => ?_)
  · try simp only [zbA] at h1
    skip
    refine tr_seq ?_
    refine tr_region fun _ _ _ => ?_
    refine pu rfl rfl rfl rfl rfl ?_
    exact tr_ret ⟨trivial, _, _, rfl, ⟨rfl, false, rfl, fun h => by cases h⟩, CSub.nil _, trivial⟩
  · try simp only [zbA] at h1
    refine tr_skip ?_
    refine tr_seq ?_
    refine tr_region fun _ _ _ => ?_
    refine pu rfl rfl rfl rfl rfl ?_
    refine st rfl rfl rfl rfl (rFld rfl rfl) ?_
    refine st rfl rfl rfl rfl (rLdF rfl rfl rfl) ?_
    refine st rfl rfl rfl rfl (rLen rfl rfl) ?_
    refine st rfl rfl rfl rfl (rSub rfl rfl rfl (by omega) (by omega)) ?_
    refine pu rfl rfl rfl rfl rfl ?_
    refine tr_seq ?_
    refine tr_seq ?_
    refine tr_region fun _ _ _ => ?_
    refine pu rfl rfl rfl rfl rfl ?_
    refine tr_block ?_
    refine tr_loop2 (fun (k : Int) (lf : Int) => [(5, .int .i64 lf), (6, .int .i64 k), (2, .pointer (some p0))]) (fun (k : Int) (lf : Int) => [blk p0 58 [.int .i64 0, .slice Aa n ca], ro Aa (hdrs rs), rowsR rs]) (fun (k : Int) (lf : Int) => (0 ≤ k ∧ k ≤ n) ∧ (0 ≤ lf ∧ lf ≤ 4200) ∧ ∀ j : Nat, (j : Int) < k → (rs.getD j rowD).xs.length ≤ 4200) (fun (k : Int) (lf : Int) => (n - k).toNat) (0) (4200 - n) ⟨rfl, rfl, rfl, trivial⟩ (by first | exact cs _ _ | exact CSub.refl _) (⟨⟨by omega, by omega⟩, ⟨by omega, by omega⟩, fun j hj => by omega⟩) (fun k lf hI => ?_)
    obtain ⟨⟨hk0, hk1⟩, ⟨hf0, hf1⟩, hall⟩ := hI
    refine tr_seq ?_
    refine tr_seq ?_
    refine tr_region fun _ _ _ => ?_
    refine pu rfl rfl rfl rfl rfl ?_
    refine st rfl rfl rfl rfl (rFld rfl rfl) ?_
    refine st rfl rfl rfl rfl (rLdF rfl rfl rfl) ?_
    refine st rfl rfl rfl rfl (rLen rfl rfl) ?_
    refine pu rfl rfl rfl rfl rfl ?_
    refine tr_cond_bool rfl (fun h5 => ?_) (fun h5 => ?_)
    · try simp only [zbA] at h5
      refine tr_skip ?_
      refine tr_seq ?_
      refine tr_block ?_
      refine tr_seq ?_
      refine tr_seq ?_
      haveI : InB k.toNat rs.length := ⟨by omega⟩
      have hk8 := h8 _ (getD_mem (show k.toNat < rs.length by omega) rowD)
      refine tr_region fun _ _ _ => ?_
      refine st rfl rfl rfl rfl (rFld rfl rfl) ?_
      refine st rfl rfl rfl rfl (rLdF rfl rfl rfl) ?_
      refine pu rfl rfl rfl rfl rfl ?_
      refine st rfl rfl rfl rfl (rIdxR rfl rfl rfl (by omega) (by omega) (by omega)) ?_
      refine st rfl rfl rfl rfl (rLdR rfl rfl (by omega)) ?_
      refine st rfl rfl rfl rfl (rLen rfl rfl) ?_
      iterate 2 refine pu rfl rfl rfl rfl rfl ?_
      refine tr_cond_bool rfl (fun h7 => ?_) (fun h7 => ?_)
      · try simp only [zbA] at h7
        refine tr_seq ?_
        refine tr_region fun _ _ _ => ?_
        refine pu rfl rfl rfl rfl rfl ?_
        exact tr_ret ⟨trivial, _, _, rfl, ⟨rfl, false, rfl, fun h => by cases h⟩, CSub.nil _, trivial⟩
      · try simp only [zbA] at h7
        refine tr_skip ?_
        refine tr_region fun _ _ _ => ?_
        refine pu rfl rfl rfl rfl rfl ?_
        refine st rfl rfl rfl rfl (rFld rfl rfl) ?_
        refine st rfl rfl rfl rfl (rLdF rfl rfl rfl) ?_
        refine pu rfl rfl rfl rfl rfl ?_
        refine st rfl rfl rfl rfl (rIdxR rfl rfl rfl (by omega) (by omega) (by omega)) ?_
        refine st rfl rfl rfl rfl (rLdR rfl rfl (by omega)) ?_
        refine st rfl rfl rfl rfl (rLen rfl rfl) ?_
        refine st rfl rfl rfl rfl (rSub rfl rfl rfl (by omega) (by omega)) ?_
        refine pu rfl rfl rfl rfl rfl ?_
        refine tr_region fun _ _ _ => ?_
        refine pu rfl rfl rfl rfl rfl ?_
        refine st rfl rfl rfl rfl (rAdd rfl rfl rfl (by omega) (by omega)) ?_
        refine pu rfl rfl rfl rfl rfl ?_
        refine ⟨k + 1, lf - (rs.getD k.toNat rowD).xs.length, ⟨rfl, rfl, rfl, trivial⟩, by first | exact cs _ _ | exact CSub.refl _, ?_⟩
        refine ⟨⟨⟨by omega, by omega⟩, ⟨by omega, by omega⟩, fun j hj => ?_⟩, by omega⟩
        by_cases he : (j : Int) = k
        · have : j = k.toNat := by omega
          subst this; omega
        · exact hall j (by omega)
    · try simp only [zbA] at h5
      refine tr_exit ?_
      refine tr_seq ?_
      refine tr_region fun _ _ _ => ?_
      refine pu rfl rfl rfl rfl rfl ?_
      exact tr_ret ⟨trivial, _, _, rfl, ⟨rfl, true, rfl, fun _ => xss_all.1 (xss_get (φ := fun r => r.length ≤ 4200) fun j hj => hall j (by omega))⟩, CSub.nil _, trivial⟩
theorem ref_CFew_ent : Enters Try.prog 19 := enters_of Try.func19 (by kernel_rfl) (by kernel_rfl)
theorem ref_CFew (p m : Int) (A : Option Addr) (c : Nat) (mod : List Int) (hl9 : mod.length ≤ 17592186044415) (w : Int) (Aa : Option Addr) (n ca : Nat) (rs : List RowM) (hn : n = rs.length) (h9 : rs.length ≤ 17592186044415) (h8 : ∀ r ∈ rs, r.xs.length ≤ 17592186044415) :
    Pure Try.prog 19 #[.agg #[.int .i64 p, .int .i64 m, .slice A mod.length c, .int .i64 w, .slice Aa n ca], .int .i64 4200] [ro Aa (hdrs rs), rowsR rs] (val (fun v => ∃ b : Bool, v = .bool b ∧ (b = true → ∀ r ∈ rs, r.xs.length ≤ 4200))) := by
  refine pure_of (args := [.agg #[.int .i64 p, .int .i64 m, .slice A mod.length c, .int .i64 w, .slice Aa n ca], .int .i64 4200]) 10 Try.func19 rfl rfl rfl ref_CFew_ent ⟨id, id, trivial⟩ (fun w0 => ?_)
  refine tr_seq ?_
  refine tr_region fun _ _ _ => ?_
  refine ef rfl rfl (eBox rfl rfl rfl rfl rfl (fun p0 => ?_)) 
  refine pu rfl rfl rfl rfl rfl ?_
  refine tr_seq ?_
  refine tr_region fun _ _ _ => ?_
  refine st rfl rfl rfl rfl (rFld rfl rfl) ?_
  refine st rfl rfl rfl rfl (rLdF rfl rfl rfl) ?_
  refine st rfl rfl rfl rfl (rBuild rfl rfl) ?_
  refine pu rfl rfl rfl rfl rfl ?_
  refine ef rfl rfl (eCall0 rfl rfl rfl (ref_MFew Aa n ca rs hn h9 h8) ⟨rfl, rfl, trivial⟩ ?_) 
  rintro _ ⟨b, rfl, hb⟩
  refine pu rfl rfl rfl rfl rfl ?_
  exact tr_ret ⟨trivial, _, _, rfl, ⟨rfl, b, rfl, hb⟩, CSub.nil _, trivial⟩
end Go.Proofs.Ytoalphamojhpcaa

set_option linter.unusedSimpArgs false
set_option linter.unusedVariables false
namespace Go.Proofs.Ytoalphamojhpcaa
def amin (r : List Int) : Nat → Nat
  | 0 => 0
  | k + 1 => if r.getD k 0 < r.getD (amin r k) 0 then k else amin r k
def sec (r : List Int) (b : Nat) : Nat → Int
  | 0 => -1
  | k + 1 => if k ≠ b ∧ (sec r b k < 0 ∨ r.getD k 0 < sec r b k) then r.getD k 0 else sec r b k
def hardI (r : List Int) : Nat := amin r r.length
def relI (r : List Int) : Int := sec r (hardI r) r.length - r.getD (hardI r) 0
theorem amin_lt {r : List Int} (h : 0 < r.length) : ∀ k, k ≤ r.length → amin r k < r.length
  | 0, _ => h
  | k + 1, hk => by
    have := amin_lt h k (by omega)
    rw [amin]; split <;> omega
theorem hardI_lt {r : List Int} (h : 0 < r.length) : hardI r < r.length := amin_lt h _ (Nat.le_refl _)
theorem sec_bd {r : List Int} {b : Nat} {M : Int} (hr : ∀ x ∈ r, 0 ≤ x ∧ x ≤ M) (hM : 0 ≤ M) : ∀ k, k ≤ r.length → -1 ≤ sec r b k ∧ sec r b k ≤ M
  | 0, _ => by rw [sec]; omega
  | k + 1, hk => by
    have ih := sec_bd (b := b) hr hM k (by omega)
    have := hr (r.getD k 0) (by
      rw [List.getD_eq_getElem?_getD, List.getElem?_eq_getElem (by omega)]
      exact List.getElem_mem _)
    rw [sec]; split <;> omega
def ordR (q : Int) : List (List Int) → Int
  | [] => 0
  | r :: t => if (r.length : Int) ≠ q then 3 else if ∃ x ∈ r, x < 0 ∨ x > 2147483648 then 6 else ordR q t
theorem ordR_zero {q : Int} : ∀ {tb : List (List Int)}, ordR q tb = 0 → ∀ r ∈ tb, (r.length : Int) = q ∧ ∀ x ∈ r, 0 ≤ x ∧ x ≤ 2147483648
  | r :: t, h, s, hs => by
    rw [ordR] at h
    split at h
    · cases h
    · split at h
      · cases h
      · rename_i h1 h2
        rcases List.mem_cons.1 hs with rfl | hs
        · exact ⟨by omega, fun x hx => by
            have : ¬ (x < 0 ∨ x > 2147483648) := fun h3 => h2 ⟨x, hx, h3⟩
            omega⟩
        · exact ordR_zero h s hs
end Go.Proofs.Ytoalphamojhpcaa

set_option linter.unusedSimpArgs false
set_option linter.unusedVariables false
namespace Go.Proofs.Ytoalphamojhpcaa
open Go.ChangeShapes Go.WideShapes Go.ChangeAt Go.RowKit
theorem get_ISSw {H : Type} {enc : TypeId × Value → H} {P : Program} {w : World} {b : Nat} {t e f : TypeId} {v : Value} {d : DataW H} {p : List MemPlace} (ht : P.underlying t = some (.slice e)) (he : P.underlying e = some (.slice f)) (hf : P.underlying f = some (.int .i64)) (hc : P.cellsOf e = 1) (hcf : P.cellsOf f = 1) (hb : P.bytesOf e = 24) (hbf : P.bytesOf f = 8) (hw : Light P t d) (hv : Value.okWide P w .any b t v) (h : DataW.Trod enc P w 0 (fun _ => true) true t v d p) :
    ∃ (A : Option Addr) (c : Nat) (rs : List RowM), v = .slice A rs.length c ∧ (ro A (hdrs rs)).sat w ∧ (rowsR rs).sat w ∧ rs.length ≤ 17592186044415 ∧ (∀ r ∈ rs, r.xs.length ≤ 17592186044415) ∧ ∀ r ∈ rs, r.xs.length ≤ r.cap := by
  obtain ⟨a0, l0, c0, rfl⟩ := okWide_slice ht hv
  obtain ⟨fuel, hf'⟩ := h
  obtain ⟨A, c, rs, h1, h2⟩ := open_ISSw ht he hf hc hcf hb hbf hw hf'
  simp [Value.cells] at h1
  exact ⟨A, c, rs, by rw [h1.1, h1.2.1, h1.2.2], h2⟩
end Go.Proofs.Ytoalphamojhpcaa

set_option linter.unusedSimpArgs false
set_option linter.unusedVariables false
set_option maxRecDepth 100000
namespace Go.Proofs.Ytoalphamojhpcaa
open Go.RowKit
def RowOk (q : Int) (r : List Int) : Prop := (r.length : Int) = q ∧ ∀ x ∈ r, 0 ≤ x ∧ x ≤ 2147483648
theorem ordR_ok {q : Int} : ∀ {tb : List (List Int)}, (∀ r ∈ tb, RowOk q r) → ordR q tb = 0
  | [], _ => rfl
  | r :: tb, h => by
    have h1 := h r (List.mem_cons_self ..)
    rw [ordR, if_neg (fun k => k h1.1), if_neg (fun ⟨x, hx, hb⟩ => by have := h1.2 x hx; omega)]
    exact ordR_ok fun s hs => h s (List.mem_cons_of_mem _ hs)
theorem ordR_bad {q : Int} : ∀ {tb : List (List Int)} {k : Nat}, k < tb.length → (∀ j, j < k → RowOk q (tb.getD j [])) → ¬ RowOk q (tb.getD k []) → ordR q tb = if ((tb.getD k []).length : Int) ≠ q then 3 else 6
  | r :: tb, 0, _, _, h => by
    rw [List.getD_cons_zero] at h ⊢
    rw [ordR]
    by_cases h1 : (r.length : Int) = q
    · have hn : ¬ ((r.length : Int) ≠ q) := fun k => k h1
      rw [if_neg hn, if_neg hn, if_pos]
      refine Classical.byContradiction fun hno => h ⟨h1, fun x hx => ?_⟩
      have : ¬ (x < 0 ∨ x > 2147483648) := fun hb => hno ⟨x, hx, hb⟩
      omega
    · rw [if_pos h1, if_pos h1]
  | r :: tb, k + 1, hk, hall, h => by
    have h1 := hall 0 (by omega)
    rw [List.getD_cons_zero] at h1
    rw [List.getD_cons_succ] at h ⊢
    rw [ordR, if_neg (fun k => k h1.1), if_neg (fun ⟨x, hx, hb⟩ => by have := h1.2 x hx; omega)]
    exact ordR_bad (by simpa using hk) (fun j hj => by
      have := hall (j + 1) (by omega)
      rwa [List.getD_cons_succ] at this) h
def ordC (q w : Int) (tb : List (List Int)) : Int := if (tb.length : Int) ≠ w then 3 else ordR q tb
theorem ordC_len {q w : Int} {tb : List (List Int)} (h : (tb.length : Int) ≠ w) : ordC q w tb = 3 := if_pos h
theorem ordC_ok {q w : Int} {ts : List RowM} (h : (ts.length : Int) = w) (h1 : ∀ j : Nat, j < ts.length → RowOk q (ts.getD j rowD).xs) : ordC q w (xss ts) = 0 := by
  unfold ordC
  rw [xss_length, if_neg (fun k => k h)]
  exact ordR_ok (xss_get fun j hj => h1 j hj)
theorem ordC_bad {q w : Int} {ts : List RowM} (h : (ts.length : Int) = w) {k : Nat} (hk : k < ts.length) (hall : ∀ j : Nat, j < k → RowOk q (ts.getD j rowD).xs) (hb : ¬ RowOk q (ts.getD k rowD).xs) : ordC q w (xss ts) = if ((ts.getD k rowD).xs.length : Int) ≠ q then 3 else 6 := by
  unfold ordC
  rw [xss_length, if_neg (fun k => k h), ordR_bad (k := k) (by rw [xss_length]; exact hk) (fun j hj => by rw [xss_getD]; exact hall j hj) (by rw [xss_getD]; exact hb), xss_getD]
structure TabOk (q w : Int) (ts : List RowM) : Prop where
  len : (ts.length : Int) = w
  row : ∀ r ∈ ts, RowOk q r.xs
theorem ordC_zero {q w : Int} {ts : List RowM} (h : ordC q w (xss ts) = 0) : TabOk q w ts := by
  unfold ordC at h
  split at h
  · cases h
  · rename_i h1
    have h2 := ordR_zero h
    exact ⟨by rw [xss_length] at h1; omega, xss_all.1 fun r hr => h2 r hr⟩
theorem TabOk.zero {q w : Int} {ts : List RowM} (h : TabOk q w ts) : ordC q w (xss ts) = 0 := ordC_ok h.len fun j hj => h.row _ (getD_mem hj _)
theorem TabOk.get {q w : Int} {ts : List RowM} (h : TabOk q w ts) {j : Nat} (hj : j < ts.length) : RowOk q (ts.getD j rowD).xs := h.row _ (getD_mem hj _)
theorem RowOk.at {q : Int} {r : List Int} (h : RowOk q r) (j : Nat) : 0 ≤ r.getD j 0 ∧ r.getD j 0 ≤ 2147483648 := by
  by_cases hj : j < r.length
  · exact h.2 _ (getD_mem hj _)
  · rw [getD_out (by omega)]; omega
theorem ord_checkedE_ent : Enters Try.prog 20 := enters_of Try.func20 (by kernel_rfl) (by kernel_rfl)
theorem ord_checkedE (p m : Int) (A : Option Addr) (c : Nat) (mod : List Int) (hl9 : mod.length ≤ 17592186044415) (w : Int) (Aa : Option Addr) (n ca : Nat) (rs : List RowM) (hn : n = rs.length) (h9 : rs.length ≤ 17592186044415) (h8 : ∀ r ∈ rs, r.xs.length ≤ 17592186044415) (he : codC p m mod w rs ≠ 0) (T : Option Addr) (nt ct : Nat) (ts : List RowM) (hnt : nt = ts.length) (t9 : ts.length ≤ 17592186044415) (t8 : ∀ r ∈ ts, r.xs.length ≤ 17592186044415) :
    Pure Try.prog 20 #[.agg #[.int .i64 p, .int .i64 m, .slice A mod.length c, .int .i64 w, .slice Aa n ca], .slice T nt ct] [ro A (ints mod), ro Aa (hdrs rs), rowsR rs, ro T (hdrs ts), rowsR ts] (isV (.tuple #[.pointer none, .int .i64 (codC p m mod w rs)])) := by
  refine pure_of (args := [.agg #[.int .i64 p, .int .i64 m, .slice A mod.length c, .int .i64 w, .slice Aa n ca], .slice T nt ct]) 55 Try.func20 rfl rfl rfl ord_checkedE_ent ⟨id, id, id, id, id, trivial⟩ (fun w0 => ?_)
  refine tr_seq ?_
  refine tr_region fun _ _ _ => ?_
  refine ef rfl rfl (eBox rfl rfl rfl rfl rfl (fun p0 => ?_)) 
  iterate 2 refine pu rfl rfl rfl rfl rfl ?_
  refine tr_seq ?_
  refine tr_seq ?_
  refine tr_region fun _ _ _ => ?_
  refine st rfl rfl rfl rfl (rLdS rfl rfl rfl) ?_
  refine ef rfl rfl (eCallV rfl rfl rfl (code_Check p m A c mod hl9 w Aa n ca rs hn h9 h8) ⟨rfl, trivial⟩ ?_) 
  refine pu rfl rfl rfl rfl rfl ?_
  refine tr_seq ?_
  refine tr_region fun _ _ _ => ?_
  iterate 2 refine pu rfl rfl rfl rfl rfl ?_
  refine tr_cond_bool rfl (fun h2 => ?_) (fun h2 => ?_)
  · try simp only [zbA] at h2
    refine tr_seq ?_
    refine tr_region fun _ _ _ => ?_
    iterate 3 refine pu rfl rfl rfl rfl rfl ?_
    exact tr_ret ⟨trivial, _, _, rfl, ⟨rfl, rfl⟩, CSub.nil _, trivial⟩
  · try simp only [zbA] at h2
    omega --done
theorem ord_checkedR_ent : Enters Try.prog 20 := enters_of Try.func20 (by kernel_rfl) (by kernel_rfl)
theorem ord_checkedR (p m : Int) (A : Option Addr) (c : Nat) (mod : List Int) [hF : IsF p m mod] (w : Int) (Aa : Option Addr) (n ca : Nat) (rs : List RowM) (hn : n = rs.length) (h9 : rs.length ≤ 256) (hc : CodeOk p m mod w rs) (T : Option Addr) (nt ct : Nat) (ts : List RowM) (hnt : nt = ts.length) (t9 : ts.length ≤ 17592186044415) (t8 : ∀ r ∈ ts, r.xs.length ≤ 17592186044415) (ho : ordC (pw p m) w (xss ts) ≠ 0) :
    Pure Try.prog 20 #[.agg #[.int .i64 p, .int .i64 m, .slice A mod.length c, .int .i64 w, .slice Aa n ca], .slice T nt ct] [ro A (ints mod), ro Aa (hdrs rs), rowsR rs, ro T (hdrs ts), rowsR ts] (isV (.tuple #[.pointer none, .int .i64 (ordC (pw p m) w (xss ts))])) := by
  have hl9 := hF.short
  have hn1 := hc.n1
  have hn64 := hc.n64
  have hlen := hc.len
  have hgd := hc.good
  have h8 := hgd.h8 (N := 17592186044415) (by omega)
  have hck := hc.zero
  have hq2 := hF.q2
  refine pure_of (args := [.agg #[.int .i64 p, .int .i64 m, .slice A mod.length c, .int .i64 w, .slice Aa n ca], .slice T nt ct]) 55 Try.func20 rfl rfl rfl ord_checkedR_ent ⟨id, id, id, id, id, trivial⟩ (fun w0 => ?_)
  refine tr_seq ?_
  refine tr_region fun _ _ _ => ?_
  refine ef rfl rfl (eBox rfl rfl rfl rfl rfl (fun p0 => ?_)) 
  iterate 2 refine pu rfl rfl rfl rfl rfl ?_
  refine tr_seq ?_
  refine tr_seq ?_
  refine tr_region fun _ _ _ => ?_
  refine st rfl rfl rfl rfl (rLdS rfl rfl rfl) ?_
  refine ef rfl rfl (eCallV rfl rfl rfl (code_Check _ _ _ _ _ (by omega) w Aa _ ca rs hn (by omega) h8) ⟨rfl, trivial⟩ ?_) 
  refine pu rfl rfl rfl rfl rfl ?_
  refine tr_seq ?_
  refine tr_region fun _ _ _ => ?_
  iterate 2 refine pu rfl rfl rfl rfl rfl ?_
  refine tr_cond_bool rfl (fun h2 => ?_) (fun h2 => ?_)
  · try simp only [zbA] at h2
    omega --done
  · try simp only [zbA] at h2
    refine tr_skip ?_
    refine tr_seq ?_
    refine tr_region fun _ _ _ => ?_
    refine st rfl rfl rfl rfl (rFld rfl rfl) ?_
    refine st rfl rfl rfl rfl (rLdSF rfl rfl) ?_
    refine ef rfl rfl (eCall1 rfl rfl rfl (fld_New_ok _ _ _ _ _ (by omega) hF.out) ⟨rfl, trivial⟩ ?_) 
    rintro _ _ ⟨g, rfl, rfl, hg⟩
    iterate 5 refine pu rfl rfl rfl rfl rfl ?_
    refine tr_seq ?_
    refine tr_seq ?_
    refine tr_region fun _ _ _ => ?_
    refine pu rfl rfl rfl rfl rfl ?_
    refine st rfl rfl rfl rfl (rLen rfl rfl) ?_
    refine st rfl rfl rfl rfl (rFld rfl rfl) ?_
    refine st rfl rfl rfl rfl (rLdF rfl rfl rfl) ?_
    refine pu rfl rfl rfl rfl rfl ?_
    refine tr_cond_bool rfl (fun h5 => ?_) (fun h5 => ?_)
    · try simp only [zbA] at h5
      refine tr_seq ?_
      refine tr_region fun _ _ _ => ?_
      iterate 2 refine pu rfl rfl rfl rfl rfl ?_
      exact tr_ret ⟨trivial, _, _, rfl, ⟨by rw [ordC_len (by rw [xss_length]; omega)], rfl⟩, CSub.nil _, trivial⟩
    · try simp only [zbA] at h5
      refine tr_skip ?_
      refine tr_seq ?_
      refine tr_seq ?_
      have hgq := hg.eq
      refine tr_region fun _ _ _ => ?_
      refine pu rfl rfl rfl rfl rfl ?_
      refine st rfl rfl rfl rfl (rLen rfl rfl) ?_
      refine pu rfl rfl rfl rfl rfl ?_
      refine tr_block ?_
      refine tr_loop1 (fun (k : Int) => [(31, .int .i64 k), (7, .pointer (some g.p)), (29, .slice T nt ct), (30, .int .i64 nt)]) (fun (k : Int) => [gfN g, blk p0 27 [.int .i64 p, .int .i64 m, .slice A mod.length c, .int .i64 w, .slice Aa n ca], ro A (ints mod), ro Aa (hdrs rs), rowsR rs, ro T (hdrs ts), rowsR ts]) (fun (k : Int) => (0 ≤ k ∧ k ≤ nt) ∧ ∀ j : Nat, (j : Int) < k → RowOk (pw p m) (ts.getD j rowD).xs) (fun (k : Int) => (nt - k).toNat) (0) ⟨rfl, rfl, rfl, rfl, trivial⟩ (by first | exact cs _ _ | exact CSub.refl _) (⟨⟨by omega, by omega⟩, fun j hj => by omega⟩) (fun k hI => ?_)
      obtain ⟨⟨hk0, hk1⟩, hall⟩ := hI
      refine tr_seq ?_
      refine tr_region fun _ _ _ => ?_
      refine pu rfl rfl rfl rfl rfl ?_
      refine tr_seq ?_
      refine tr_cond_bool rfl (fun h8 => ?_) (fun h8 => ?_)
      · try simp only [zbA] at h8
        refine tr_skip ?_
        refine tr_seq ?_
        refine tr_block ?_
        refine tr_seq ?_
        haveI : InB (k : Int).toNat ts.length := ⟨by omega⟩
        have htk := t8 _ (getD_mem (show (k : Int).toNat < ts.length by omega) rowD)
        refine tr_region fun _ _ _ => ?_
        refine st rfl rfl rfl rfl (rIdxR rfl rfl rfl (by omega) (by omega) (by omega)) ?_
        refine st rfl rfl rfl rfl (rLdR rfl rfl (by omega)) ?_
        refine pu rfl rfl rfl rfl rfl ?_
        refine tr_seq ?_
        refine tr_seq ?_
        refine tr_region fun _ _ _ => ?_
        refine pu rfl rfl rfl rfl rfl ?_
        refine st rfl rfl rfl rfl (rLen rfl rfl) ?_
        refine pu rfl rfl rfl rfl rfl ?_
        refine ef rfl rfl (eCallV rfl rfl rfl (gf_Order _) ⟨rfl, trivial⟩ ?_) 
        refine pu rfl rfl rfl rfl rfl ?_
        refine tr_cond_bool rfl (fun h10 => ?_) (fun h10 => ?_)
        · try simp only [zbA] at h10
          refine tr_seq ?_
          refine tr_region fun _ _ _ => ?_
          iterate 2 refine pu rfl rfl rfl rfl rfl ?_
          have hallN : ∀ j : Nat, j < k.toNat → RowOk (pw p m) (ts.getD j rowD).xs := fun j hj => hall j (by omega)
          have hbd := ordC_bad (w := w) (by omega) (show k.toNat < ts.length by omega) hallN (fun h => by have := h.1; omega)
          rw [if_pos (by omega)] at hbd
          exact tr_ret ⟨trivial, _, _, rfl, ⟨by rw [hbd], rfl⟩, CSub.nil _, trivial⟩
        · try simp only [zbA] at h10
          refine tr_skip ?_
          refine tr_seq ?_
          refine tr_region fun _ _ _ => ?_
          refine pu rfl rfl rfl rfl rfl ?_
          refine st rfl rfl rfl rfl (rLen rfl rfl) ?_
          refine pu rfl rfl rfl rfl rfl ?_
          refine tr_block ?_
          refine tr_loop1 (fun (j : Int) => [(42, .int .i64 j), (40, .slice (ts.getD k.toNat rowD).A (ts.getD k.toNat rowD).xs.length (ts.getD k.toNat rowD).cap), (41, .int .i64 (ts.getD k.toNat rowD).xs.length), (7, .pointer (some g.p)), (29, .slice T nt ct), (30, .int .i64 nt), (31, .int .i64 k), (37, .pointer (some g.p))]) (fun (j : Int) => [gfN g, blk p0 27 [.int .i64 p, .int .i64 m, .slice A mod.length c, .int .i64 w, .slice Aa n ca], ro A (ints mod), ro Aa (hdrs rs), rowsR rs, ro T (hdrs ts), rowsR ts]) (fun (j : Int) => (0 ≤ j ∧ j ≤ (ts.getD k.toNat rowD).xs.length) ∧ ∀ i : Nat, (i : Int) < j → 0 ≤ (ts.getD k.toNat rowD).xs.getD i 0 ∧ (ts.getD k.toNat rowD).xs.getD i 0 ≤ 2147483648) (fun (j : Int) => ((ts.getD k.toNat rowD).xs.length - j).toNat) (0) ⟨rfl, rfl, rfl, rfl, rfl, rfl, rfl, rfl, trivial⟩ (by first | exact cs _ _ | exact CSub.refl _) (⟨⟨by omega, by omega⟩, fun i hi => by omega⟩) (fun j hI => ?_)
          obtain ⟨⟨hj0, hj1⟩, hall2⟩ := hI
          refine tr_seq ?_
          refine tr_region fun _ _ _ => ?_
          refine pu rfl rfl rfl rfl rfl ?_
          refine tr_seq ?_
          refine tr_cond_bool rfl (fun h13 => ?_) (fun h13 => ?_)
          · try simp only [zbA] at h13
            refine tr_skip ?_
            refine tr_seq ?_
            refine tr_block ?_
            refine tr_seq ?_
            refine tr_region fun _ _ _ => ?_
            refine st rfl rfl rfl rfl (rIdxI rfl rfl rfl (by omega) (by omega) (by omega)) ?_
            refine st rfl rfl rfl rfl (rLdI rfl rfl (by omega)) ?_
            refine pu rfl rfl rfl rfl rfl ?_
            refine tr_seq ?_
            refine tr_region fun _ _ _ => ?_
            iterate 3 refine pu rfl rfl rfl rfl rfl ?_
            refine stg rfl rfl rfl rfl rfl (fun hb => by (have hq := hb; try simp only [zbA] at hq); exact rMove rfl rfl) ?_
            refine stg rfl rfl rfl rfl rfl (fun hb => by (have hq := hb; try simp only [zbA] at hq); exact rGtr rfl (evg rfl hb) rfl) ?_
            refine st rfl rfl rfl rfl (rOrB rfl rfl rfl rfl) ?_
            refine tr_cond_bool rfl (fun h15 => ?_) (fun h15 => ?_)
            · try simp only [zbA] at h15
              refine tr_seq ?_
              refine tr_region fun _ _ _ => ?_
              iterate 2 refine pu rfl rfl rfl rfl rfl ?_
              have hallN : ∀ j : Nat, j < k.toNat → RowOk (pw p m) (ts.getD j rowD).xs := fun j hj => hall j (by omega)
              have hbd := ordC_bad (w := w) (by omega) (show k.toNat < ts.length by omega) hallN (fun h => by have := h.at j.toNat; omega)
              rw [if_neg (by omega)] at hbd
              exact tr_ret ⟨trivial, _, _, rfl, ⟨by rw [hbd], rfl⟩, CSub.nil _, trivial⟩
            · try simp only [zbA] at h15
              refine tr_skip ?_
              refine tr_region fun _ _ _ => ?_
              refine st rfl rfl rfl rfl (rAdd rfl rfl rfl (by omega) (by omega)) ?_
              refine pu rfl rfl rfl rfl rfl ?_
              refine ⟨j + 1, ⟨rfl, rfl, rfl, rfl, rfl, rfl, rfl, rfl, trivial⟩, by first | exact cs _ _ | exact CSub.refl _, ?_⟩
              refine ⟨⟨⟨by omega, by omega⟩, fun i hi => ?_⟩, by omega⟩
              by_cases he : (i : Int) = j
              · have : i = j.toNat := by omega
                subst this; omega
              · exact hall2 i (by omega)
          · try simp only [zbA] at h13
            refine tr_exit ?_
            refine tr_region fun _ _ _ => ?_
            refine st rfl rfl rfl rfl (rAdd rfl rfl rfl (by omega) (by omega)) ?_
            refine pu rfl rfl rfl rfl rfl ?_
            refine ⟨k + 1, ⟨rfl, rfl, rfl, rfl, trivial⟩, by first | exact cs _ _ | exact CSub.refl _, ?_⟩
            refine ⟨⟨⟨by omega, by omega⟩, fun j hj => ?_⟩, by omega⟩
            by_cases he : (j : Int) = k
            · have : j = k.toNat := by omega
              subst this
              exact ⟨by omega, fun x hx => by
                obtain ⟨i, hi, rfl⟩ := List.getElem_of_mem hx
                have := hall2 i (by omega)
                rwa [List.getD_eq_getElem?_getD, List.getElem?_eq_getElem hi] at this⟩
            · exact hall j (by omega)
      · try simp only [zbA] at h8
        refine tr_exit ?_
        refine tr_seq ?_
        refine tr_region fun _ _ _ => ?_
        iterate 3 refine pu rfl rfl rfl rfl rfl ?_
        exact absurd (ordC_ok (by omega) fun j hj => hall j (by omega)) ho
theorem ord_checkedG_ent : Enters Try.prog 20 := enters_of Try.func20 (by kernel_rfl) (by kernel_rfl)
theorem ord_checkedG (p m : Int) (A : Option Addr) (c : Nat) (mod : List Int) [hF : IsF p m mod] (w : Int) (Aa : Option Addr) (n ca : Nat) (rs : List RowM) (hn : n = rs.length) (h9 : rs.length ≤ 256) (hc : CodeOk p m mod w rs) (T : Option Addr) (nt ct : Nat) (ts : List RowM) (hnt : nt = ts.length) (t9 : ts.length ≤ 17592186044415) (t8 : ∀ r ∈ ts, r.xs.length ≤ 17592186044415) (ho : ordC (pw p m) w (xss ts) = 0) :
    Pure Try.prog 20 #[.agg #[.int .i64 p, .int .i64 m, .slice A mod.length c, .int .i64 w, .slice Aa n ca], .slice T nt ct] [ro A (ints mod), ro Aa (hdrs rs), rowsR rs, ro T (hdrs ts), rowsR ts] (one (fun v ch => ∃ g : GfM, v = .tuple #[.pointer (some g.p), .int .i64 0] ∧ ch = gfN g ∧ GOk g p m mod)) := by
  have hl9 := hF.short
  have hn1 := hc.n1
  have hn64 := hc.n64
  have hlen := hc.len
  have hgd := hc.good
  have h8 := hgd.h8 (N := 17592186044415) (by omega)
  have hck := hc.zero
  have hq2 := hF.q2
  have htl := (ordC_zero ho).len
  refine pure_of (args := [.agg #[.int .i64 p, .int .i64 m, .slice A mod.length c, .int .i64 w, .slice Aa n ca], .slice T nt ct]) 55 Try.func20 rfl rfl rfl ord_checkedG_ent ⟨id, id, id, id, id, trivial⟩ (fun w0 => ?_)
  refine tr_seq ?_
  refine tr_region fun _ _ _ => ?_
  refine ef rfl rfl (eBox rfl rfl rfl rfl rfl (fun p0 => ?_)) 
  iterate 2 refine pu rfl rfl rfl rfl rfl ?_
  refine tr_seq ?_
  refine tr_seq ?_
  refine tr_region fun _ _ _ => ?_
  refine st rfl rfl rfl rfl (rLdS rfl rfl rfl) ?_
  refine ef rfl rfl (eCallV rfl rfl rfl (code_Check _ _ _ _ _ (by omega) w Aa _ ca rs hn (by omega) h8) ⟨rfl, trivial⟩ ?_) 
  refine pu rfl rfl rfl rfl rfl ?_
  refine tr_seq ?_
  refine tr_region fun _ _ _ => ?_
  iterate 2 refine pu rfl rfl rfl rfl rfl ?_
  refine tr_cond_bool rfl (fun h2 => ?_) (fun h2 => ?_)
  · try simp only [zbA] at h2
    omega --done
  · try simp only [zbA] at h2
    refine tr_skip ?_
    refine tr_seq ?_
    refine tr_region fun _ _ _ => ?_
    refine st rfl rfl rfl rfl (rFld rfl rfl) ?_
    refine st rfl rfl rfl rfl (rLdSF rfl rfl) ?_
    refine ef rfl rfl (eCall1 rfl rfl rfl (fld_New_ok _ _ _ _ _ (by omega) hF.out) ⟨rfl, trivial⟩ ?_) 
    rintro _ _ ⟨g, rfl, rfl, hg⟩
    iterate 5 refine pu rfl rfl rfl rfl rfl ?_
    refine tr_seq ?_
    refine tr_seq ?_
    refine tr_region fun _ _ _ => ?_
    refine pu rfl rfl rfl rfl rfl ?_
    refine st rfl rfl rfl rfl (rLen rfl rfl) ?_
    refine st rfl rfl rfl rfl (rFld rfl rfl) ?_
    refine st rfl rfl rfl rfl (rLdF rfl rfl rfl) ?_
    refine pu rfl rfl rfl rfl rfl ?_
    refine tr_cond_bool rfl (fun h5 => ?_) (fun h5 => ?_)
    · try simp only [zbA] at h5
      omega --done
    · try simp only [zbA] at h5
      refine tr_skip ?_
      refine tr_seq ?_
      refine tr_seq ?_
      have hgq := hg.eq
      refine tr_region fun _ _ _ => ?_
      refine pu rfl rfl rfl rfl rfl ?_
      refine st rfl rfl rfl rfl (rLen rfl rfl) ?_
      refine pu rfl rfl rfl rfl rfl ?_
      refine tr_block ?_
      refine tr_loop1 (fun (k : Int) => [(31, .int .i64 k), (7, .pointer (some g.p)), (29, .slice T nt ct), (30, .int .i64 nt)]) (fun (k : Int) => [gfN g, blk p0 27 [.int .i64 p, .int .i64 m, .slice A mod.length c, .int .i64 w, .slice Aa n ca], ro A (ints mod), ro Aa (hdrs rs), rowsR rs, ro T (hdrs ts), rowsR ts]) (fun (k : Int) => (0 ≤ k ∧ k ≤ nt) ∧ ∀ j : Nat, (j : Int) < k → RowOk (pw p m) (ts.getD j rowD).xs) (fun (k : Int) => (nt - k).toNat) (0) ⟨rfl, rfl, rfl, rfl, trivial⟩ (by first | exact cs _ _ | exact CSub.refl _) (⟨⟨by omega, by omega⟩, fun j hj => by omega⟩) (fun k hI => ?_)
      obtain ⟨⟨hk0, hk1⟩, hall⟩ := hI
      refine tr_seq ?_
      refine tr_region fun _ _ _ => ?_
      refine pu rfl rfl rfl rfl rfl ?_
      refine tr_seq ?_
      refine tr_cond_bool rfl (fun h8 => ?_) (fun h8 => ?_)
      · try simp only [zbA] at h8
        refine tr_skip ?_
        refine tr_seq ?_
        refine tr_block ?_
        refine tr_seq ?_
        haveI : InB (k : Int).toNat ts.length := ⟨by omega⟩
        have htk := t8 _ (getD_mem (show (k : Int).toNat < ts.length by omega) rowD)
        refine tr_region fun _ _ _ => ?_
        refine st rfl rfl rfl rfl (rIdxR rfl rfl rfl (by omega) (by omega) (by omega)) ?_
        refine st rfl rfl rfl rfl (rLdR rfl rfl (by omega)) ?_
        refine pu rfl rfl rfl rfl rfl ?_
        refine tr_seq ?_
        refine tr_seq ?_
        refine tr_region fun _ _ _ => ?_
        refine pu rfl rfl rfl rfl rfl ?_
        refine st rfl rfl rfl rfl (rLen rfl rfl) ?_
        refine pu rfl rfl rfl rfl rfl ?_
        refine ef rfl rfl (eCallV rfl rfl rfl (gf_Order _) ⟨rfl, trivial⟩ ?_) 
        refine pu rfl rfl rfl rfl rfl ?_
        refine tr_cond_bool rfl (fun h10 => ?_) (fun h10 => ?_)
        · try simp only [zbA] at h10
          have hallN : ∀ j : Nat, j < k.toNat → RowOk (pw p m) (ts.getD j rowD).xs := fun j hj => hall j (by omega)
          have hbd := ordC_bad (w := w) (by omega) (show k.toNat < ts.length by omega) hallN (fun h => by have := h.1; omega)
          rw [if_pos (by omega)] at hbd
          omega --done
        · try simp only [zbA] at h10
          refine tr_skip ?_
          refine tr_seq ?_
          refine tr_region fun _ _ _ => ?_
          refine pu rfl rfl rfl rfl rfl ?_
          refine st rfl rfl rfl rfl (rLen rfl rfl) ?_
          refine pu rfl rfl rfl rfl rfl ?_
          refine tr_block ?_
          refine tr_loop1 (fun (j : Int) => [(42, .int .i64 j), (40, .slice (ts.getD k.toNat rowD).A (ts.getD k.toNat rowD).xs.length (ts.getD k.toNat rowD).cap), (41, .int .i64 (ts.getD k.toNat rowD).xs.length), (7, .pointer (some g.p)), (29, .slice T nt ct), (30, .int .i64 nt), (31, .int .i64 k), (37, .pointer (some g.p))]) (fun (j : Int) => [gfN g, blk p0 27 [.int .i64 p, .int .i64 m, .slice A mod.length c, .int .i64 w, .slice Aa n ca], ro A (ints mod), ro Aa (hdrs rs), rowsR rs, ro T (hdrs ts), rowsR ts]) (fun (j : Int) => (0 ≤ j ∧ j ≤ (ts.getD k.toNat rowD).xs.length) ∧ ∀ i : Nat, (i : Int) < j → 0 ≤ (ts.getD k.toNat rowD).xs.getD i 0 ∧ (ts.getD k.toNat rowD).xs.getD i 0 ≤ 2147483648) (fun (j : Int) => ((ts.getD k.toNat rowD).xs.length - j).toNat) (0) ⟨rfl, rfl, rfl, rfl, rfl, rfl, rfl, rfl, trivial⟩ (by first | exact cs _ _ | exact CSub.refl _) (⟨⟨by omega, by omega⟩, fun i hi => by omega⟩) (fun j hI => ?_)
          obtain ⟨⟨hj0, hj1⟩, hall2⟩ := hI
          refine tr_seq ?_
          refine tr_region fun _ _ _ => ?_
          refine pu rfl rfl rfl rfl rfl ?_
          refine tr_seq ?_
          refine tr_cond_bool rfl (fun h13 => ?_) (fun h13 => ?_)
          · try simp only [zbA] at h13
            refine tr_skip ?_
            refine tr_seq ?_
            refine tr_block ?_
            refine tr_seq ?_
            refine tr_region fun _ _ _ => ?_
            refine st rfl rfl rfl rfl (rIdxI rfl rfl rfl (by omega) (by omega) (by omega)) ?_
            refine st rfl rfl rfl rfl (rLdI rfl rfl (by omega)) ?_
            refine pu rfl rfl rfl rfl rfl ?_
            refine tr_seq ?_
            refine tr_region fun _ _ _ => ?_
            iterate 3 refine pu rfl rfl rfl rfl rfl ?_
            refine stg rfl rfl rfl rfl rfl (fun hb => by (have hq := hb; try simp only [zbA] at hq); exact rMove rfl rfl) ?_
            refine stg rfl rfl rfl rfl rfl (fun hb => by (have hq := hb; try simp only [zbA] at hq); exact rGtr rfl (evg rfl hb) rfl) ?_
            refine st rfl rfl rfl rfl (rOrB rfl rfl rfl rfl) ?_
            refine tr_cond_bool rfl (fun h15 => ?_) (fun h15 => ?_)
            · try simp only [zbA] at h15
              have hallN : ∀ j : Nat, j < k.toNat → RowOk (pw p m) (ts.getD j rowD).xs := fun j hj => hall j (by omega)
              have hbd := ordC_bad (w := w) (by omega) (show k.toNat < ts.length by omega) hallN (fun h => by have := h.at j.toNat; omega)
              rw [if_neg (by omega)] at hbd
              omega --done
            · try simp only [zbA] at h15
              refine tr_skip ?_
              refine tr_region fun _ _ _ => ?_
              refine st rfl rfl rfl rfl (rAdd rfl rfl rfl (by omega) (by omega)) ?_
              refine pu rfl rfl rfl rfl rfl ?_
              refine ⟨j + 1, ⟨rfl, rfl, rfl, rfl, rfl, rfl, rfl, rfl, trivial⟩, by first | exact cs _ _ | exact CSub.refl _, ?_⟩
              refine ⟨⟨⟨by omega, by omega⟩, fun i hi => ?_⟩, by omega⟩
              by_cases he : (i : Int) = j
              · have : i = j.toNat := by omega
                subst this; omega
              · exact hall2 i (by omega)
          · try simp only [zbA] at h13
            refine tr_exit ?_
            refine tr_region fun _ _ _ => ?_
            refine st rfl rfl rfl rfl (rAdd rfl rfl rfl (by omega) (by omega)) ?_
            refine pu rfl rfl rfl rfl rfl ?_
            refine ⟨k + 1, ⟨rfl, rfl, rfl, rfl, trivial⟩, by first | exact cs _ _ | exact CSub.refl _, ?_⟩
            refine ⟨⟨⟨by omega, by omega⟩, fun j hj => ?_⟩, by omega⟩
            by_cases he : (j : Int) = k
            · have : j = k.toNat := by omega
              subst this
              exact ⟨by omega, fun x hx => by
                obtain ⟨i, hi, rfl⟩ := List.getElem_of_mem hx
                have := hall2 i (by omega)
                rwa [List.getD_eq_getElem?_getD, List.getElem?_eq_getElem hi] at this⟩
            · exact hall j (by omega)
      · try simp only [zbA] at h8
        refine tr_exit ?_
        refine tr_seq ?_
        refine tr_region fun _ _ _ => ?_
        iterate 3 refine pu rfl rfl rfl rfl rfl ?_
        exact tr_ret ⟨trivial, _, _, rfl, ⟨_, rfl, g, rfl, rfl, hg⟩, cs _ _, ⟨trivial, trivial, trivial, trivial⟩, trivial⟩
theorem ref_OCheckE_ent : Enters Try.prog 10 := enters_of Try.func10 (by kernel_rfl) (by kernel_rfl)
theorem ref_OCheckE (p m : Int) (A : Option Addr) (c : Nat) (mod : List Int) (hl9 : mod.length ≤ 17592186044415) (w : Int) (Aa : Option Addr) (n ca : Nat) (rs : List RowM) (hn : n = rs.length) (h9 : rs.length ≤ 17592186044415) (h8 : ∀ r ∈ rs, r.xs.length ≤ 17592186044415) (he : codC p m mod w rs ≠ 0) (T : Option Addr) (nt ct : Nat) (ts : List RowM) (hnt : nt = ts.length) (t9 : ts.length ≤ 17592186044415) (t8 : ∀ r ∈ ts, r.xs.length ≤ 17592186044415) :
    Pure Try.prog 10 #[.agg #[.int .i64 p, .int .i64 m, .slice A mod.length c, .int .i64 w, .slice Aa n ca], .slice T nt ct] [ro A (ints mod), ro Aa (hdrs rs), rowsR rs, ro T (hdrs ts), rowsR ts] (isV (.int .i64 (codC p m mod w rs))) := by
  refine pure_of (args := [.agg #[.int .i64 p, .int .i64 m, .slice A mod.length c, .int .i64 w, .slice Aa n ca], .slice T nt ct]) 60 Try.func10 rfl rfl rfl ref_OCheckE_ent ⟨id, id, id, id, id, trivial⟩ (fun w0 => ?_)
  refine tr_seq ?_
  refine tr_region fun _ _ _ => ?_
  refine ef rfl rfl (eBox rfl rfl rfl rfl rfl (fun p0 => ?_)) 
  refine pu rfl rfl rfl rfl rfl ?_
  refine tr_seq ?_
  refine tr_region fun _ _ _ => ?_
  refine st rfl rfl rfl rfl (rLdS rfl rfl rfl) ?_
  refine ef rfl rfl (eCallV rfl rfl rfl (ref_CCheck p m A c mod hl9 w Aa n ca rs hn h9 h8) ⟨rfl, trivial⟩ ?_) 
  refine pu rfl rfl rfl rfl rfl ?_
  refine tr_seq ?_
  refine tr_seq ?_
  refine tr_region fun _ _ _ => ?_
  iterate 2 refine pu rfl rfl rfl rfl rfl ?_
  refine tr_cond_bool rfl (fun h2 => ?_) (fun h2 => ?_)
  · try simp only [zbA] at h2
    refine tr_seq ?_
    refine tr_region fun _ _ _ => ?_
    iterate 2 refine pu rfl rfl rfl rfl rfl ?_
    exact tr_ret ⟨trivial, _, _, rfl, ⟨rfl, rfl⟩, CSub.nil _, trivial⟩
  · try simp only [zbA] at h2
    omega --done
theorem ref_OCheck_ent : Enters Try.prog 10 := enters_of Try.func10 (by kernel_rfl) (by kernel_rfl)
theorem ref_OCheck (p m : Int) (A : Option Addr) (c : Nat) (mod : List Int) [hF : IsF p m mod] (w : Int) (Aa : Option Addr) (n ca : Nat) (rs : List RowM) (hn : n = rs.length) (h9 : rs.length ≤ 256) (hc : CodeOk p m mod w rs) (T : Option Addr) (nt ct : Nat) (ts : List RowM) (hnt : nt = ts.length) (t9 : ts.length ≤ 17592186044415) (t8 : ∀ r ∈ ts, r.xs.length ≤ 17592186044415) :
    Pure Try.prog 10 #[.agg #[.int .i64 p, .int .i64 m, .slice A mod.length c, .int .i64 w, .slice Aa n ca], .slice T nt ct] [ro A (ints mod), ro Aa (hdrs rs), rowsR rs, ro T (hdrs ts), rowsR ts] (isV (.int .i64 (ordC (pw p m) w (xss ts)))) := by
  have hl9 := hF.short
  have hn1 := hc.n1
  have hn64 := hc.n64
  have hlen := hc.len
  have hgd := hc.good
  have h8 := hgd.h8 (N := 17592186044415) (by omega)
  have hck := hc.zero
  have hq2 := hF.q2
  have hgq := hF.ord
  refine pure_of (args := [.agg #[.int .i64 p, .int .i64 m, .slice A mod.length c, .int .i64 w, .slice Aa n ca], .slice T nt ct]) 60 Try.func10 rfl rfl rfl ref_OCheck_ent ⟨id, id, id, id, id, trivial⟩ (fun w0 => ?_)
  refine tr_seq ?_
  refine tr_region fun _ _ _ => ?_
  refine ef rfl rfl (eBox rfl rfl rfl rfl rfl (fun p0 => ?_)) 
  refine pu rfl rfl rfl rfl rfl ?_
  refine tr_seq ?_
  refine tr_region fun _ _ _ => ?_
  refine st rfl rfl rfl rfl (rLdS rfl rfl rfl) ?_
  refine ef rfl rfl (eCallV rfl rfl rfl (ref_CCheck _ _ _ _ _ (by omega) w Aa _ ca rs hn (by omega) h8) ⟨rfl, trivial⟩ ?_) 
  refine pu rfl rfl rfl rfl rfl ?_
  refine tr_seq ?_
  refine tr_seq ?_
  refine tr_region fun _ _ _ => ?_
  iterate 2 refine pu rfl rfl rfl rfl rfl ?_
  refine tr_cond_bool rfl (fun h2 => ?_) (fun h2 => ?_)
  · try simp only [zbA] at h2
    omega --done
  · try simp only [zbA] at h2
    refine tr_skip ?_
    refine tr_seq ?_
    refine tr_seq ?_
    refine tr_region fun _ _ _ => ?_
    refine pu rfl rfl rfl rfl rfl ?_
    refine st rfl rfl rfl rfl (rLen rfl rfl) ?_
    refine st rfl rfl rfl rfl (rFld rfl rfl) ?_
    refine st rfl rfl rfl rfl (rLdF rfl rfl rfl) ?_
    refine pu rfl rfl rfl rfl rfl ?_
    refine tr_cond_bool rfl (fun h4 => ?_) (fun h4 => ?_)
    · try simp only [zbA] at h4
      refine tr_seq ?_
      refine tr_region fun _ _ _ => ?_
      refine pu rfl rfl rfl rfl rfl ?_
      exact tr_ret ⟨trivial, _, _, rfl, ⟨by rw [ordC_len (by rw [xss_length]; omega)], rfl⟩, CSub.nil _, trivial⟩
    · try simp only [zbA] at h4
      refine tr_skip ?_
      refine tr_seq ?_
      refine tr_seq ?_
      refine tr_region fun _ _ _ => ?_
      refine pu rfl rfl rfl rfl rfl ?_
      refine tr_block ?_
      refine tr_loop1 (fun (k : Int) => [(6, .int .i64 k), (1, .slice T nt ct), (2, .pointer (some p0))]) (fun (k : Int) => [blk p0 27 [.int .i64 p, .int .i64 m, .slice A mod.length c, .int .i64 w, .slice Aa n ca], ro A (ints mod), ro Aa (hdrs rs), rowsR rs, ro T (hdrs ts), rowsR ts]) (fun (k : Int) => (0 ≤ k ∧ k ≤ nt) ∧ ∀ j : Nat, (j : Int) < k → RowOk (pw p m) (ts.getD j rowD).xs) (fun (k : Int) => (nt - k).toNat) (0) ⟨rfl, rfl, rfl, trivial⟩ (by first | exact cs _ _ | exact CSub.refl _) (⟨⟨by omega, by omega⟩, fun j hj => by omega⟩) (fun k hI => ?_)
      obtain ⟨⟨hk0, hk1⟩, hall⟩ := hI
      refine tr_seq ?_
      refine tr_seq ?_
      refine tr_region fun _ _ _ => ?_
      iterate 2 refine pu rfl rfl rfl rfl rfl ?_
      refine st rfl rfl rfl rfl (rLen rfl rfl) ?_
      refine pu rfl rfl rfl rfl rfl ?_
      refine tr_cond_bool rfl (fun h7 => ?_) (fun h7 => ?_)
      · try simp only [zbA] at h7
        refine tr_skip ?_
        refine tr_seq ?_
        refine tr_block ?_
        refine tr_seq ?_
        refine tr_seq ?_
        haveI : InB (k : Int).toNat ts.length := ⟨by omega⟩
        have htk := t8 _ (getD_mem (show (k : Int).toNat < ts.length by omega) rowD)
        refine tr_draw [0, 1, 2, 3, 4, 5, 6, 7, 8] [] mixed (by kernel_rfl) fun _ _ _ => ?_
        iterate 2 refine pu rfl rfl rfl rfl rfl ?_
        refine st rfl rfl rfl rfl (rIdxR rfl rfl rfl (by omega) (by omega) (by omega)) ?_
        refine st rfl rfl rfl rfl (rLdR rfl rfl (by omega)) ?_
        refine st rfl rfl rfl rfl (rLen rfl rfl) ?_
        refine st rfl rfl rfl rfl (rFld rfl rfl) ?_
        refine st rfl rfl rfl rfl (rLdSF rfl rfl) ?_
        refine ef rfl rfl (eCallV rfl rfl rfl (ref_order p m A c mod) ⟨rfl, trivial⟩ ?_) 
        refine pu rfl rfl rfl rfl rfl ?_
        refine tr_cond_bool rfl (fun h9 => ?_) (fun h9 => ?_)
        · try simp only [zbA] at h9
          refine tr_seq ?_
          refine tr_region fun _ _ _ => ?_
          refine pu rfl rfl rfl rfl rfl ?_
          have hallN : ∀ j : Nat, j < k.toNat → RowOk (pw p m) (ts.getD j rowD).xs := fun j hj => hall j (by omega)
          have hbd := ordC_bad (w := w) (by omega) (show k.toNat < ts.length by omega) hallN (fun h => by have := h.1; omega)
          rw [if_pos (by omega)] at hbd
          exact tr_ret ⟨trivial, _, _, rfl, ⟨by rw [hbd], rfl⟩, CSub.nil _, trivial⟩
        · try simp only [zbA] at h9
          refine tr_skip ?_
          refine tr_seq ?_
          refine tr_region fun _ _ _ => ?_
          refine pu rfl rfl rfl rfl rfl ?_
          refine tr_block ?_
          refine tr_loop1 (fun (j : Int) => [(7, .int .i64 j), (1, .slice T nt ct), (2, .pointer (some p0)), (6, .int .i64 k), (18, .int .i64 k), (19, .slice T nt ct), (20, .int .i64 nt), (24, .slice T nt ct), (25, .int .i64 k), (30, .agg #[.int .i64 p, .int .i64 m, .slice A mod.length c])]) (fun (j : Int) => [blk p0 27 [.int .i64 p, .int .i64 m, .slice A mod.length c, .int .i64 w, .slice Aa n ca], ro A (ints mod), ro Aa (hdrs rs), rowsR rs, ro T (hdrs ts), rowsR ts]) (fun (j : Int) => (0 ≤ j ∧ j ≤ (ts.getD k.toNat rowD).xs.length) ∧ ∀ i : Nat, (i : Int) < j → 0 ≤ (ts.getD k.toNat rowD).xs.getD i 0 ∧ (ts.getD k.toNat rowD).xs.getD i 0 ≤ 2147483648) (fun (j : Int) => ((ts.getD k.toNat rowD).xs.length - j).toNat) (0) ⟨rfl, rfl, rfl, rfl, rfl, rfl, rfl, rfl, rfl, rfl, trivial⟩ (by first | exact cs _ _ | exact CSub.refl _) (⟨⟨by omega, by omega⟩, fun i hi => by omega⟩) (fun j hI => ?_)
          obtain ⟨⟨hj0, hj1⟩, hall2⟩ := hI
          refine tr_seq ?_
          refine tr_seq ?_
          haveI : InB (k : Int).toNat ts.length := ⟨by omega⟩
          have htk := t8 _ (getD_mem (show (k : Int).toNat < ts.length by omega) rowD)
          refine tr_region fun _ _ _ => ?_
          iterate 3 refine pu rfl rfl rfl rfl rfl ?_
          refine st rfl rfl rfl rfl (rIdxR rfl rfl rfl (by omega) (by omega) (by omega)) ?_
          refine st rfl rfl rfl rfl (rLdR rfl rfl (by omega)) ?_
          refine st rfl rfl rfl rfl (rLen rfl rfl) ?_
          refine pu rfl rfl rfl rfl rfl ?_
          refine tr_cond_bool rfl (fun h12 => ?_) (fun h12 => ?_)
          · try simp only [zbA] at h12
            refine tr_skip ?_
            refine tr_seq ?_
            refine tr_block ?_
            refine tr_seq ?_
            haveI : InB (k : Int).toNat ts.length := ⟨by omega⟩
            have htk := t8 _ (getD_mem (show (k : Int).toNat < ts.length by omega) rowD)
            refine tr_region fun _ _ _ => ?_
            iterate 2 refine pu rfl rfl rfl rfl rfl ?_
            refine st rfl rfl rfl rfl (rIdxR rfl rfl rfl (by omega) (by omega) (by omega)) ?_
            refine st rfl rfl rfl rfl (rLdR rfl rfl (by omega)) ?_
            refine pu rfl rfl rfl rfl rfl ?_
            refine st rfl rfl rfl rfl (rIdxI rfl rfl rfl (by omega) (by omega) (by omega)) ?_
            refine st rfl rfl rfl rfl (rLdI rfl rfl (by omega)) ?_
            iterate 2 refine pu rfl rfl rfl rfl rfl ?_
            refine stg rfl rfl rfl rfl rfl (fun hb => by (have hq := hb; try simp only [zbA] at hq); exact rMove rfl rfl) ?_
            refine stg rfl rfl rfl rfl rfl (fun hb => by (have hq := hb; try simp only [zbA] at hq); exact rMove rfl rfl) ?_
            refine stg rfl rfl rfl rfl rfl (fun hb => by (have hq := hb; try simp only [zbA] at hq); exact rIdxR rfl (evg rfl hb) (evg rfl hb) (by omega) (by omega) (by omega)) ?_
            refine stg rfl rfl rfl rfl rfl (fun hb => by (have hq := hb; try simp only [zbA] at hq); exact rLdR rfl (evg rfl hb) (by omega)) ?_
            refine stg rfl rfl rfl rfl rfl (fun hb => by (have hq := hb; try simp only [zbA] at hq); exact rMove rfl rfl) ?_
            refine stg rfl rfl rfl rfl rfl (fun hb => by (have hq := hb; try simp only [zbA] at hq); exact rIdxI rfl (evg rfl hb) (evg rfl hb) (by omega) (by omega) (by omega)) ?_
            refine stg rfl rfl rfl rfl rfl (fun hb => by (have hq := hb; try simp only [zbA] at hq); exact rLdI rfl (evg rfl hb) (by omega)) ?_
            refine stg rfl rfl rfl rfl rfl (fun hb => by (have hq := hb; try simp only [zbA] at hq); exact rGtr rfl (evg rfl hb) rfl) ?_
            refine st rfl rfl rfl rfl (rOrB rfl rfl rfl rfl) ?_
            refine tr_cond_bool rfl (fun h14 => ?_) (fun h14 => ?_)
            · try simp only [zbA] at h14
              refine tr_seq ?_
              refine tr_region fun _ _ _ => ?_
              refine pu rfl rfl rfl rfl rfl ?_
              have hallN : ∀ j : Nat, j < k.toNat → RowOk (pw p m) (ts.getD j rowD).xs := fun j hj => hall j (by omega)
              have hbd := ordC_bad (w := w) (by omega) (show k.toNat < ts.length by omega) hallN (fun h => by have := h.at j.toNat; omega)
              rw [if_neg (by omega)] at hbd
              exact tr_ret ⟨trivial, _, _, rfl, ⟨by rw [hbd], rfl⟩, CSub.nil _, trivial⟩
            · try simp only [zbA] at h14
              refine tr_skip ?_
              refine tr_region fun _ _ _ => ?_
              refine pu rfl rfl rfl rfl rfl ?_
              refine st rfl rfl rfl rfl (rAdd rfl rfl rfl (by omega) (by omega)) ?_
              refine pu rfl rfl rfl rfl rfl ?_
              refine ⟨j + 1, ⟨rfl, rfl, rfl, rfl, rfl, rfl, rfl, rfl, rfl, rfl, trivial⟩, by first | exact cs _ _ | exact CSub.refl _, ?_⟩
              refine ⟨⟨⟨by omega, by omega⟩, fun i hi => ?_⟩, by omega⟩
              by_cases he : (i : Int) = j
              · have : i = j.toNat := by omega
                subst this; omega
              · exact hall2 i (by omega)
          · try simp only [zbA] at h12
            refine tr_exit ?_
            refine tr_region fun _ _ _ => ?_
            refine pu rfl rfl rfl rfl rfl ?_
            refine st rfl rfl rfl rfl (rAdd rfl rfl rfl (by omega) (by omega)) ?_
            refine pu rfl rfl rfl rfl rfl ?_
            refine ⟨k + 1, ⟨rfl, rfl, rfl, trivial⟩, by first | exact cs _ _ | exact CSub.refl _, ?_⟩
            refine ⟨⟨⟨by omega, by omega⟩, fun j hj => ?_⟩, by omega⟩
            by_cases he : (j : Int) = k
            · have : j = k.toNat := by omega
              subst this
              exact ⟨by omega, fun x hx => by
                obtain ⟨i, hi, rfl⟩ := List.getElem_of_mem hx
                have := hall2 i (by omega)
                rwa [List.getD_eq_getElem?_getD, List.getElem?_eq_getElem hi] at this⟩
            · exact hall j (by omega)
      · try simp only [zbA] at h7
        refine tr_exit ?_
        refine tr_seq ?_
        refine tr_region fun _ _ _ => ?_
        refine pu rfl rfl rfl rfl rfl ?_
        have hok := ordC_ok (q := pw p m) (w := w) (ts := ts) (by omega) fun j hj => hall j (by omega)
        exact tr_ret ⟨trivial, _, _, rfl, ⟨by rw [hok], rfl⟩, CSub.nil _, trivial⟩
theorem law42_few_ent : Enters Try.prog 6 := enters_of Try.func6 (by kernel_rfl) (by kernel_rfl)
theorem law42_few (p m : Int) (A : Option Addr) (c : Nat) (mod : List Int) (hl9 : mod.length ≤ 17592186044415) (w : Int) (Aa : Option Addr) (n ca : Nat) (rs : List RowM) (hn : n = rs.length) (h9 : rs.length ≤ 17592186044415) (h8 : ∀ r ∈ rs, r.xs.length ≤ 17592186044415) (hl : rs.length ≤ 64) :
    Pure Try.prog 6 #[.agg #[.int .i64 p, .int .i64 m, .slice A mod.length c, .int .i64 w, .slice Aa n ca]] [ro Aa (hdrs rs), rowsR rs] (val (fun v => ∃ b : Bool, v = .bool b ∧ (b = true → rs.length ≤ 64 ∧ ∀ r ∈ rs, r.xs.length ≤ 4200))) := by
  refine pure_of (args := [.agg #[.int .i64 p, .int .i64 m, .slice A mod.length c, .int .i64 w, .slice Aa n ca]]) 11 Try.func6 rfl rfl rfl law42_few_ent ⟨id, id, trivial⟩ (fun w0 => ?_)
  refine tr_seq ?_
  refine tr_region fun _ _ _ => ?_
  refine ef rfl rfl (eBox rfl rfl rfl rfl rfl (fun p0 => ?_)) 
  refine pu rfl rfl rfl rfl rfl ?_
  refine tr_seq ?_
  refine tr_region fun _ _ _ => ?_
  refine st rfl rfl rfl rfl (rFld rfl rfl) ?_
  refine st rfl rfl rfl rfl (rLdF rfl rfl rfl) ?_
  refine st rfl rfl rfl rfl (rLen rfl rfl) ?_
  iterate 2 refine pu rfl rfl rfl rfl rfl ?_
  refine stT rfl rfl rfl (by simp; omega) rfl rfl (rLdS rfl rfl rfl) ?_
  refine efT rfl rfl rfl (by simp; omega) (eCall0 rfl rfl rfl (ref_CFew p m A c mod hl9 w Aa n ca rs hn h9 h8) ⟨rfl, rfl, trivial⟩ ?_) 
  rintro _ ⟨b, rfl, hb⟩
  refine st rfl rfl rfl rfl (rPick1 rfl rfl (by simp; omega) rfl) ?_
  refine pu rfl rfl rfl rfl rfl ?_
  exact tr_ret ⟨trivial, _, _, rfl, ⟨rfl, b, by simp, fun h => ⟨hl, hb h⟩⟩, CSub.nil _, trivial⟩
theorem law42_few0_ent : Enters Try.prog 6 := enters_of Try.func6 (by kernel_rfl) (by kernel_rfl)
theorem law42_few0 (p m : Int) (A : Option Addr) (c : Nat) (mod : List Int) (hl9 : mod.length ≤ 17592186044415) (w : Int) (Aa : Option Addr) (n ca : Nat) (rs : List RowM) (hn : n = rs.length) (h9 : rs.length ≤ 17592186044415) (h8 : ∀ r ∈ rs, r.xs.length ≤ 17592186044415) (hl : ¬ rs.length ≤ 64) :
    Pure Try.prog 6 #[.agg #[.int .i64 p, .int .i64 m, .slice A mod.length c, .int .i64 w, .slice Aa n ca]] [ro Aa (hdrs rs), rowsR rs] (val (fun v => ∃ b : Bool, v = .bool b ∧ (b = true → rs.length ≤ 64 ∧ ∀ r ∈ rs, r.xs.length ≤ 4200))) := by
  refine pure_of (args := [.agg #[.int .i64 p, .int .i64 m, .slice A mod.length c, .int .i64 w, .slice Aa n ca]]) 11 Try.func6 rfl rfl rfl law42_few0_ent ⟨id, id, trivial⟩ (fun w0 => ?_)
  refine tr_seq ?_
  refine tr_region fun _ _ _ => ?_
  refine ef rfl rfl (eBox rfl rfl rfl rfl rfl (fun p0 => ?_)) 
  refine pu rfl rfl rfl rfl rfl ?_
  refine tr_seq ?_
  refine tr_region fun _ _ _ => ?_
  refine st rfl rfl rfl rfl (rFld rfl rfl) ?_
  refine st rfl rfl rfl rfl (rLdF rfl rfl rfl) ?_
  refine st rfl rfl rfl rfl (rLen rfl rfl) ?_
  iterate 2 refine pu rfl rfl rfl rfl rfl ?_
  refine skF rfl rfl (by simp; omega) rfl rfl ?_
  refine skF rfl rfl (by simp; omega) rfl rfl ?_
  refine st rfl rfl rfl rfl (rPick0 rfl rfl (by simp; omega) rfl) ?_
  refine pu rfl rfl rfl rfl rfl ?_
  exact tr_ret ⟨trivial, _, _, rfl, ⟨rfl, false, by simp, fun h => by cases h⟩, CSub.nil _, trivial⟩
theorem law42_fewC (p m : Int) (A : Option Addr) (c : Nat) (mod : List Int) (hl9 : mod.length ≤ 17592186044415) (w : Int) (Aa : Option Addr) (n ca : Nat) (rs : List RowM) (hn : n = rs.length) (h9 : rs.length ≤ 17592186044415) (h8 : ∀ r ∈ rs, r.xs.length ≤ 17592186044415) : Pure Try.prog 6 #[.agg #[.int .i64 p, .int .i64 m, .slice A mod.length c, .int .i64 w, .slice Aa n ca]] [ro Aa (hdrs rs), rowsR rs] (val (fun v => ∃ b : Bool, v = .bool b ∧ (b = true → rs.length ≤ 64 ∧ ∀ r ∈ rs, r.xs.length ≤ 4200))) := by
  by_cases hl : rs.length ≤ 64
  · exact law42_few p m A c mod hl9 w Aa n ca rs hn h9 h8 hl
  · exact law42_few0 p m A c mod hl9 w Aa n ca rs hn h9 h8 hl
def hardL (ts : List RowM) : List Int := (xss ts).map fun r => (hardI r : Int)
def relL (ts : List RowM) : List Int := (xss ts).map relI
@[simp] theorem hardL_length (ts : List RowM) : (hardL ts).length = ts.length := by simp [hardL]
@[simp] theorem relL_length (ts : List RowM) : (relL ts).length = ts.length := by simp [relL]
theorem map_take1 {α : Type} (f : List Int → α) (ts : List RowM) {k : Nat} (hk : k < ts.length) : ((xss ts).map f).take (k + 1) = ((xss ts).map f).take k ++ [f (ts.getD k rowD).xs] := by
  rw [List.take_add_one, List.getElem?_map]
  have : (xss ts)[k]? = some (ts.getD k rowD).xs := by
    rw [xss, List.getElem?_map, List.getElem?_eq_getElem hk, List.getD_eq_getElem?_getD, List.getElem?_eq_getElem hk]; rfl
  rw [this]; rfl
theorem hardL_take (ts : List RowM) {k : Nat} (hk : k < ts.length) : (hardL ts).take (k + 1) = (hardL ts).take k ++ [(hardI (ts.getD k rowD).xs : Int)] := map_take1 _ ts hk
theorem relL_take (ts : List RowM) {k : Nat} (hk : k < ts.length) : (relL ts).take (k + 1) = (relL ts).take k ++ [relI (ts.getD k rowD).xs] := map_take1 _ ts hk
theorem hardL_getD (ts : List RowM) {k : Nat} (hk : k < ts.length) : (hardL ts).getD k 0 = (hardI (ts.getD k rowD).xs : Int) := by
  rw [hardL, List.getD_eq_getElem?_getD, List.getElem?_map, xss, List.getElem?_map, List.getElem?_eq_getElem hk, List.getD_eq_getElem?_getD, List.getElem?_eq_getElem hk]; rfl
theorem amin_yes {r : List Int} {k : Nat} (h : r.getD k 0 < r.getD (amin r k) 0) : amin r (k + 1) = k := by rw [amin, if_pos h]
theorem amin_no {r : List Int} {k : Nat} (h : ¬ r.getD k 0 < r.getD (amin r k) 0) : amin r (k + 1) = amin r k := by rw [amin, if_neg h]
theorem sec_yes {r : List Int} {b k : Nat} (h : k ≠ b ∧ (sec r b k < 0 ∨ r.getD k 0 < sec r b k)) : sec r b (k + 1) = r.getD k 0 := by rw [sec, if_pos h]
theorem sec_no {r : List Int} {b k : Nat} (h : ¬ (k ≠ b ∧ (sec r b k < 0 ∨ r.getD k 0 < sec r b k))) : sec r b (k + 1) = sec r b k := by rw [sec, if_neg h]
theorem ord_hard_ent : Enters Try.prog 23 := enters_of Try.func23 (by kernel_rfl) (by kernel_rfl)
theorem ord_hard (T : Option Addr) (nt ct : Nat) (ts : List RowM) (hnt : nt = ts.length) (q : Int) (hq2 : 2 ≤ q) (hq9 : q ≤ 256) (t64 : ts.length ≤ 64) (htr : ∀ r ∈ ts, RowOk q r.xs) :
    Pure Try.prog 23 #[.slice T nt ct] [ro T (hdrs ts), rowsR ts] (two (fun v c1 c2 => ∃ B cb D cd, v = .tuple #[.slice B (hardL ts).length cb, .slice D (relL ts).length cd] ∧ c1 = ow B 3 cb (ints (hardL ts)) ∧ c2 = ow D 3 cd (ints (relL ts)))) := by
  refine pure_of (args := [.slice T nt ct]) 70 Try.func23 rfl rfl rfl ord_hard_ent ⟨id, id, trivial⟩ (fun w0 => ?_)
  refine tr_seq ?_
  refine tr_region fun _ _ _ => ?_
  iterate 2 refine pu rfl rfl rfl rfl rfl ?_
  refine tr_seq ?_
  refine tr_seq ?_
  refine tr_region fun _ _ _ => ?_
  refine pu rfl rfl rfl rfl rfl ?_
  refine st rfl rfl rfl rfl (rLen rfl rfl) ?_
  refine pu rfl rfl rfl rfl rfl ?_
  refine tr_block ?_
  refine tr_nilI 3 ?_
  refine tr_nilI 3 ?_
  refine tr_loop7 (fun (k : Int) (B : Option Addr) (cb : Nat) (o : List Int) (D : Option Addr) (cd : Nat) (u : List Int) => [(2, .slice B o.length cb), (3, .slice D u.length cd), (14, .int .i64 k), (12, .slice T nt ct), (13, .int .i64 nt)]) (fun (k : Int) (B : Option Addr) (cb : Nat) (o : List Int) (D : Option Addr) (cd : Nat) (u : List Int) => [ow B 3 cb (ints o), ow D 3 cd (ints u), ro T (hdrs ts), rowsR ts]) (fun (k : Int) (B : Option Addr) (cb : Nat) (o : List Int) (D : Option Addr) (cd : Nat) (u : List Int) => (0 ≤ k ∧ k ≤ nt) ∧ o = (hardL ts).take k.toNat ∧ u = (relL ts).take k.toNat) (fun (k : Int) (B : Option Addr) (cb : Nat) (o : List Int) (D : Option Addr) (cd : Nat) (u : List Int) => (nt - k).toNat) (0) (none) (0) ([]) (none) (0) ([]) ⟨rfl, rfl, rfl, rfl, rfl, trivial⟩ (by first | exact cs _ _ | exact CSub.refl _) (⟨⟨by omega, by omega⟩, rfl, rfl⟩) (fun k B cb o D cd u hI => ?_)
  obtain ⟨⟨hk0, hk1⟩, ho, hu⟩ := hI
  have hol : o.length = k.toNat := by rw [ho, List.length_take, hardL_length]; omega
  have hul : u.length = k.toNat := by rw [hu, List.length_take, relL_length]; omega
  refine tr_seq ?_
  refine tr_region fun _ _ _ => ?_
  refine pu rfl rfl rfl rfl rfl ?_
  refine tr_seq ?_
  refine tr_cond_bool rfl (fun h2 => ?_) (fun h2 => ?_)
  · try simp only [zbA] at h2
    refine tr_skip ?_
    refine tr_seq ?_
    refine tr_block ?_
    refine tr_seq ?_
    haveI : InB k.toNat ts.length := ⟨by omega⟩
    have htk := htr _ (getD_mem (show k.toNat < ts.length by omega) rowD)
    have htl := htk.1
    have hpos : 0 < (ts.getD k.toNat rowD).xs.length := by omega
    refine tr_region fun _ _ _ => ?_
    refine st rfl rfl rfl rfl (rIdxR rfl rfl rfl (by omega) (by omega) (by omega)) ?_
    refine st rfl rfl rfl rfl (rLdR rfl rfl (by omega)) ?_
    refine pu rfl rfl rfl rfl rfl ?_
    refine tr_seq ?_
    refine tr_region fun _ _ _ => ?_
    refine pu rfl rfl rfl rfl rfl ?_
    refine tr_seq ?_
    refine tr_seq ?_
    refine tr_region fun _ _ _ => ?_
    refine pu rfl rfl rfl rfl rfl ?_
    refine st rfl rfl rfl rfl (rLen rfl rfl) ?_
    refine pu rfl rfl rfl rfl rfl ?_
    refine tr_block ?_
    refine tr_loop2 (fun (j : Int) (b : Int) => [(20, .int .i64 j), (6, .int .i64 b), (5, .slice (ts.getD k.toNat rowD).A (ts.getD k.toNat rowD).xs.length (ts.getD k.toNat rowD).cap), (18, .slice (ts.getD k.toNat rowD).A (ts.getD k.toNat rowD).xs.length (ts.getD k.toNat rowD).cap), (19, .int .i64 (ts.getD k.toNat rowD).xs.length), (2, .slice B o.length cb), (3, .slice D u.length cd), (12, .slice T nt ct), (13, .int .i64 nt), (14, .int .i64 k)]) (fun (j : Int) (b : Int) => [ow B 3 cb (ints o), ow D 3 cd (ints u), ro T (hdrs ts), rowsR ts]) (fun (j : Int) (b : Int) => (0 ≤ j ∧ j ≤ (ts.getD k.toNat rowD).xs.length) ∧ b = (amin (ts.getD k.toNat rowD).xs j.toNat : Int)) (fun (j : Int) (b : Int) => ((ts.getD k.toNat rowD).xs.length - j).toNat) (0) (0) ⟨rfl, rfl, rfl, rfl, rfl, rfl, rfl, rfl, rfl, rfl, trivial⟩ (by first | exact cs _ _ | exact CSub.refl _) (⟨⟨by omega, by omega⟩, rfl⟩) (fun j b hI => ?_)
    obtain ⟨⟨hj0, hj1⟩, hb⟩ := hI
    have hbl := amin_lt hpos j.toNat (by omega)
    refine tr_seq ?_
    refine tr_region fun _ _ _ => ?_
    refine pu rfl rfl rfl rfl rfl ?_
    refine tr_seq ?_
    refine tr_cond_bool rfl (fun h6 => ?_) (fun h6 => ?_)
    · try simp only [zbA] at h6
      refine tr_skip ?_
      refine tr_seq ?_
      refine tr_block ?_
      refine tr_seq ?_
      refine tr_region fun _ _ _ => ?_
      refine pu rfl rfl rfl rfl rfl ?_
      refine st rfl rfl rfl rfl (rIdxI rfl rfl rfl (by omega) (by omega) (by omega)) ?_
      refine st rfl rfl rfl rfl (rLdI rfl rfl (by omega)) ?_
      iterate 2 refine pu rfl rfl rfl rfl rfl ?_
      refine tr_seq ?_
      refine tr_region fun _ _ _ => ?_
      iterate 3 refine pu rfl rfl rfl rfl rfl ?_
      refine st rfl rfl rfl rfl (rIdxI rfl rfl rfl (by omega) (by omega) (by omega)) ?_
      refine st rfl rfl rfl rfl (rLdI rfl rfl (by omega)) ?_
      refine pu rfl rfl rfl rfl rfl ?_
      refine tr_cond_bool rfl (fun h8 => ?_) (fun h8 => ?_)
      · try simp only [zbA] at h8
        refine tr_region fun _ _ _ => ?_
        iterate 2 refine pu rfl rfl rfl rfl rfl ?_
        refine tr_region fun _ _ _ => ?_
        refine st rfl rfl rfl rfl (rAdd rfl rfl rfl (by omega) (by omega)) ?_
        refine pu rfl rfl rfl rfl rfl ?_
        refine ⟨j + 1, j, ⟨rfl, rfl, rfl, rfl, rfl, rfl, rfl, rfl, rfl, rfl, trivial⟩, by first | exact cs _ _ | exact CSub.refl _, ?_⟩
        exact ⟨⟨⟨by omega, by omega⟩, by rw [show (j + 1).toNat = j.toNat + 1 by omega, amin_yes (by rw [hb] at h8; simpa using h8)]; omega⟩, by omega⟩
      · try simp only [zbA] at h8
        refine tr_skip ?_
        refine tr_region fun _ _ _ => ?_
        refine st rfl rfl rfl rfl (rAdd rfl rfl rfl (by omega) (by omega)) ?_
        refine pu rfl rfl rfl rfl rfl ?_
        refine ⟨j + 1, b, ⟨rfl, rfl, rfl, rfl, rfl, rfl, rfl, rfl, rfl, rfl, trivial⟩, by first | exact cs _ _ | exact CSub.refl _, ?_⟩
        exact ⟨⟨⟨by omega, by omega⟩, by rw [show (j + 1).toNat = j.toNat + 1 by omega, amin_no (by rw [hb] at h8; simpa using h8)]; exact hb⟩, by omega⟩
    · try simp only [zbA] at h6
      refine tr_exit ?_
      refine tr_seq ?_
      refine tr_region fun _ _ _ => ?_
      refine pu rfl rfl rfl rfl rfl ?_
      refine tr_seq ?_
      refine tr_seq ?_
      refine tr_region fun _ _ _ => ?_
      refine pu rfl rfl rfl rfl rfl ?_
      refine st rfl rfl rfl rfl (rLen rfl rfl) ?_
      refine pu rfl rfl rfl rfl rfl ?_
      refine tr_block ?_
      refine tr_loop2 (fun (i : Int) (s : Int) => [(35, .int .i64 i), (9, .int .i64 s), (6, .int .i64 b), (5, .slice (ts.getD k.toNat rowD).A (ts.getD k.toNat rowD).xs.length (ts.getD k.toNat rowD).cap), (33, .slice (ts.getD k.toNat rowD).A (ts.getD k.toNat rowD).xs.length (ts.getD k.toNat rowD).cap), (34, .int .i64 (ts.getD k.toNat rowD).xs.length), (2, .slice B o.length cb), (3, .slice D u.length cd), (12, .slice T nt ct), (13, .int .i64 nt), (14, .int .i64 k), (18, .slice (ts.getD k.toNat rowD).A (ts.getD k.toNat rowD).xs.length (ts.getD k.toNat rowD).cap), (19, .int .i64 (ts.getD k.toNat rowD).xs.length), (20, .int .i64 j)]) (fun (i : Int) (s : Int) => [ow B 3 cb (ints o), ow D 3 cd (ints u), ro T (hdrs ts), rowsR ts]) (fun (i : Int) (s : Int) => (0 ≤ i ∧ i ≤ (ts.getD k.toNat rowD).xs.length) ∧ s = sec (ts.getD k.toNat rowD).xs b.toNat i.toNat) (fun (i : Int) (s : Int) => ((ts.getD k.toNat rowD).xs.length - i).toNat) (0) (-1) ⟨rfl, rfl, rfl, rfl, rfl, rfl, rfl, rfl, rfl, rfl, rfl, rfl, rfl, rfl, trivial⟩ (by first | exact cs _ _ | exact CSub.refl _) (⟨⟨by omega, by omega⟩, rfl⟩) (fun i s hI => ?_)
      obtain ⟨⟨hi0, hi1⟩, hs⟩ := hI
      have hsb := sec_bd (b := b.toNat) htk.2 (by omega) i.toNat (by omega)
      refine tr_seq ?_
      refine tr_region fun _ _ _ => ?_
      refine pu rfl rfl rfl rfl rfl ?_
      refine tr_seq ?_
      refine tr_cond_bool rfl (fun h13 => ?_) (fun h13 => ?_)
      · try simp only [zbA] at h13
        refine tr_skip ?_
        refine tr_seq ?_
        refine tr_block ?_
        refine tr_seq ?_
        refine tr_region fun _ _ _ => ?_
        refine pu rfl rfl rfl rfl rfl ?_
        refine st rfl rfl rfl rfl (rIdxI rfl rfl rfl (by omega) (by omega) (by omega)) ?_
        refine st rfl rfl rfl rfl (rLdI rfl rfl (by omega)) ?_
        iterate 2 refine pu rfl rfl rfl rfl rfl ?_
        refine tr_seq ?_
        refine tr_region fun _ _ _ => ?_
        iterate 4 refine pu rfl rfl rfl rfl rfl ?_
        refine stg rfl rfl rfl rfl rfl (fun hb => by (have hq := hb; try simp only [zbA] at hq); exact rMove rfl rfl) ?_
        refine stg rfl rfl rfl rfl rfl (fun hb => by (have hq := hb; try simp only [zbA] at hq); exact rLss rfl (evg rfl hb) rfl) ?_
        refine stg rfl rfl rfl rfl rfl (fun hb => by (have hq := hb; try simp only [zbA] at hq); exact rMove rfl (evg rfl hb)) ?_
        refine stg2 rfl rfl rfl rfl rfl (fun hb => by (have hq := hb; try simp only [zbA] at hq); exact rMove rfl rfl) ?_
        refine stg2 rfl rfl rfl rfl rfl (fun hb => by (have hq := hb; try simp only [zbA] at hq); exact rMove rfl rfl) ?_
        refine stg2 rfl rfl rfl rfl rfl (fun hb => by (have hq := hb; try simp only [zbA] at hq); exact rLss rfl (evg rfl hb) (evg rfl hb)) ?_
        refine stg rfl rfl rfl rfl rfl (fun hb => by (have hq := hb; try simp only [zbA] at hq); exact rOrB rfl (evg rfl hb) rfl (evgp rfl hb)) ?_
        refine st rfl rfl rfl rfl (rAndB rfl rfl rfl rfl) ?_
        refine tr_cond_bool rfl (fun h15 => ?_) (fun h15 => ?_)
        · try simp only [zbA] at h15
          refine tr_region fun _ _ _ => ?_
          iterate 2 refine pu rfl rfl rfl rfl rfl ?_
          refine tr_region fun _ _ _ => ?_
          refine st rfl rfl rfl rfl (rAdd rfl rfl rfl (by omega) (by omega)) ?_
          refine pu rfl rfl rfl rfl rfl ?_
          refine ⟨i + 1, (ts.getD k.toNat rowD).xs.getD i.toNat 0, ⟨rfl, rfl, rfl, rfl, rfl, rfl, rfl, rfl, rfl, rfl, rfl, rfl, rfl, rfl, trivial⟩, by first | exact cs _ _ | exact CSub.refl _, ?_⟩
          exact ⟨⟨⟨by omega, by omega⟩, by rw [show (i + 1).toNat = i.toNat + 1 by omega, sec_yes (by rw [← hs]; omega)]⟩, by omega⟩
        · try simp only [zbA] at h15
          refine tr_skip ?_
          refine tr_region fun _ _ _ => ?_
          refine st rfl rfl rfl rfl (rAdd rfl rfl rfl (by omega) (by omega)) ?_
          refine pu rfl rfl rfl rfl rfl ?_
          refine ⟨i + 1, s, ⟨rfl, rfl, rfl, rfl, rfl, rfl, rfl, rfl, rfl, rfl, rfl, rfl, rfl, rfl, trivial⟩, by first | exact cs _ _ | exact CSub.refl _, ?_⟩
          exact ⟨⟨⟨by omega, by omega⟩, by rw [show (i + 1).toNat = i.toNat + 1 by omega, sec_no (by rw [← hs]; omega)]; exact hs⟩, by omega⟩
      · try simp only [zbA] at h13
        refine tr_exit ?_
        refine tr_seq ?_
        refine tr_region fun _ _ _ => ?_
        iterate 2 refine pu rfl rfl rfl rfl rfl ?_
        refine ef rfl rfl (eLit1I rfl rfl rfl rfl (fun A18 => ?_)) 
        refine ef rfl rfl (eAppI rfl rfl rfl rfl rfl (by first | rfl | simp | omega) (by first | rfl | simp | omega) (by first | omega | (simp; omega)) (fun A18a c18a => ?_)) 
        refine pu rfl rfl rfl rfl rfl ?_
        have hrb := htk.at b.toNat
        have hsb := sec_bd (b := b.toNat) htk.2 (by omega) i.toNat (by omega)
        refine tr_region fun _ _ _ => ?_
        iterate 4 refine pu rfl rfl rfl rfl rfl ?_
        refine st rfl rfl rfl rfl (rIdxI rfl rfl rfl (by omega) (by omega) (by omega)) ?_
        refine st rfl rfl rfl rfl (rLdI rfl rfl (by omega)) ?_
        refine st rfl rfl rfl rfl (rSub rfl rfl rfl (by omega) (by omega)) ?_
        refine ef rfl rfl (eLit1I rfl rfl rfl rfl (fun A19 => ?_)) 
        refine ef rfl rfl (eAppI rfl rfl rfl rfl rfl (by first | rfl | simp | omega) (by first | rfl | simp | omega) (by first | omega | (simp; omega)) (fun A19a c19a => ?_)) 
        refine pu rfl rfl rfl rfl rfl ?_
        refine tr_region fun _ _ _ => ?_
        refine st rfl rfl rfl rfl (rAdd rfl rfl rfl (by omega) (by omega)) ?_
        refine pu rfl rfl rfl rfl rfl ?_
        refine ⟨k + 1, A18a, c18a, o ++ [b], A19a, c19a, u ++ [s - (ts.getD k.toNat rowD).xs.getD b.toNat 0], ⟨rfl, rfl, rfl, rfl, rfl, trivial⟩, by first | exact cs _ _ | exact CSub.refl _, ?_⟩
        have hkk : (k + 1).toNat = k.toNat + 1 := by omega
        have hbh : b = (hardI (ts.getD k.toNat rowD).xs : Int) := by rw [hb, show j.toNat = (ts.getD k.toNat rowD).xs.length by omega]; rfl
        have hsh : s - (ts.getD k.toNat rowD).xs.getD b.toNat 0 = relI (ts.getD k.toNat rowD).xs := by rw [hs, hbh, show i.toNat = (ts.getD k.toNat rowD).xs.length by omega]; rfl
        exact ⟨⟨⟨by omega, by omega⟩, by rw [hkk, hardL_take ts (by omega), ← ho, hbh], by rw [hkk, relL_take ts (by omega), ← hu, hsh]⟩, by omega⟩
  · try simp only [zbA] at h2
    refine tr_exit ?_
    refine tr_seq ?_
    refine tr_region fun _ _ _ => ?_
    iterate 4 refine pu rfl rfl rfl rfl rfl ?_
    have hkt : k.toNat = ts.length := by omega
    have ho2 : o = hardL ts := by rw [ho, hkt, ← hardL_length, List.take_length]
    have hu2 : u = relL ts := by rw [hu, hkt, ← relL_length, List.take_length]
    subst ho2 hu2
    exact tr_ret ⟨trivial, _, _, rfl, ⟨_, _, rfl, B, cb, D, cd, rfl, rfl, rfl⟩, cs _ _, trivial, trivial, trivial⟩
end Go.Proofs.Ytoalphamojhpcaa

set_option linter.unusedSimpArgs false
set_option linter.unusedVariables false
set_option maxRecDepth 100000
namespace Go.Proofs.Ytoalphamojhpcaa
open Go.RowKit
noncomputable def wordC (q w : Int) (l : List Int) : Int := if (l.length : Int) ≠ w then 4 else entC q l
theorem wordC_len {q w : Int} {l : List Int} (h : (l.length : Int) ≠ w) : wordC q w l = 4 := if_pos h
theorem wordC_ent {q w : Int} {l : List Int} (h : (l.length : Int) = w) : wordC q w l = entC q l := by unfold wordC; rw [if_neg (by omega)]
theorem wordC_zero {q w : Int} {l : List Int} (h : wordC q w l = 0) : (l.length : Int) = w ∧ AllIn q l := by
  unfold wordC at h
  split at h
  · cases h
  · rename_i h1
    rcases entC_cases q l with h2 | h2
    · exact ⟨by omega, h2.1⟩
    · omega
def cstT (tb : List (List Int)) (l : List Int) : Nat → Int
  | 0 => 0
  | k + 1 => cstT tb l k + (tb.getD k []).getD (l.getD k 0).toNat 0
def cstL (tb : List (List Int)) (l : List Int) : Int := cstT tb l l.length
theorem cstT_bd {q : Int} {ts : List RowM} (htr : ∀ r ∈ ts, RowOk q r.xs) (l : List Int) : ∀ k, k ≤ ts.length → 0 ≤ cstT (xss ts) l k ∧ cstT (xss ts) l k ≤ k * 2147483648
  | 0, _ => by simp [cstT]
  | k + 1, hk => by
    have ih := cstT_bd htr l k (by omega)
    have h := (htr _ (getD_mem (show k < ts.length by omega) rowD)).at (l.getD k 0).toNat
    rw [cstT, xss_getD]
    omega
theorem cstT_succ (ts : List RowM) (l : List Int) (k : Nat) : cstT (xss ts) l (k + 1) = cstT (xss ts) l k + (ts.getD k rowD).xs.getD (l.getD k 0).toNat 0 := by rw [cstT, xss_getD]
theorem ord_word_ent : Enters Try.prog 21 := enters_of Try.func21 (by kernel_rfl) (by kernel_rfl)
theorem ord_word (g : GfM) (q : Int) (hq : g.q = q) (w : Int) (X : Option Addr) (nx cx : Nat) (l : List Int) (hnx : nx = l.length) (hl : l.length ≤ 17592186044415) :
    Pure Try.prog 21 #[.pointer (some g.p), .int .i64 w, .slice X nx cx] [gfR g, ro X (ints l)] (isV (.int .i64 (wordC q w l))) := by
  refine pure_of (args := [.pointer (some g.p), .int .i64 w, .slice X nx cx]) 24 Try.func21 rfl rfl rfl ord_word_ent ⟨id, id, trivial⟩ (fun w0 => ?_)
  refine tr_seq ?_
  refine tr_region fun _ _ _ => ?_
  refine pu rfl rfl rfl rfl rfl ?_
  refine tr_seq ?_
  refine tr_seq ?_
  refine tr_region fun _ _ _ => ?_
  refine pu rfl rfl rfl rfl rfl ?_
  refine st rfl rfl rfl rfl (rLen rfl rfl) ?_
  iterate 2 refine pu rfl rfl rfl rfl rfl ?_
  refine tr_cond_bool rfl (fun h1 => ?_) (fun h1 => ?_)
  · try simp only [zbA] at h1
    refine tr_seq ?_
    refine tr_region fun _ _ _ => ?_
    refine pu rfl rfl rfl rfl rfl ?_
    exact tr_ret ⟨trivial, _, _, rfl, ⟨by rw [wordC_len (by omega)], rfl⟩, CSub.nil _, trivial⟩
  · try simp only [zbA] at h1
    refine tr_skip ?_
    refine tr_seq ?_
    refine tr_seq ?_
    refine tr_region fun _ _ _ => ?_
    refine pu rfl rfl rfl rfl rfl ?_
    refine st rfl rfl rfl rfl (rLen rfl rfl) ?_
    refine pu rfl rfl rfl rfl rfl ?_
    refine tr_block ?_
    refine tr_loop1 (fun (k : Int) => [(15, .int .i64 k), (0, .pointer (some g.p)), (13, .slice X nx cx), (14, .int .i64 nx)]) (fun (k : Int) => [gfR g, ro X (ints l)]) (fun (k : Int) => (0 ≤ k ∧ k ≤ nx) ∧ ∀ j : Nat, (j : Int) < k → 0 ≤ l.getD j 0 ∧ l.getD j 0 < q) (fun (k : Int) => (nx - k).toNat) (0) ⟨rfl, rfl, rfl, rfl, trivial⟩ (by first | exact cs _ _ | exact CSub.refl _) (⟨⟨by omega, by omega⟩, fun j hj => by omega⟩) (fun k hI => ?_)
    obtain ⟨⟨hk0, hk1⟩, hall⟩ := hI
    refine tr_seq ?_
    refine tr_region fun _ _ _ => ?_
    refine pu rfl rfl rfl rfl rfl ?_
    refine tr_seq ?_
    refine tr_cond_bool rfl (fun h4 => ?_) (fun h4 => ?_)
    · try simp only [zbA] at h4
      refine tr_skip ?_
      refine tr_seq ?_
      refine tr_block ?_
      refine tr_seq ?_
      refine tr_region fun _ _ _ => ?_
      refine st rfl rfl rfl rfl (rIdxI rfl rfl rfl (by omega) (by omega) (by omega)) ?_
      refine st rfl rfl rfl rfl (rLdI rfl rfl (by omega)) ?_
      refine pu rfl rfl rfl rfl rfl ?_
      refine tr_seq ?_
      refine tr_region fun _ _ _ => ?_
      iterate 2 refine pu rfl rfl rfl rfl rfl ?_
      refine ef rfl rfl (eCallV rfl rfl rfl (gf_Is g (l.getD k.toNat 0)) ⟨rfl, rfl, trivial⟩ ?_) 
      refine st rfl rfl rfl rfl (rNotB rfl rfl) ?_
      refine tr_cond_bool rfl (fun h6 => ?_) (fun h6 => ?_)
      · try simp only [zbA] at h6
        refine tr_seq ?_
        refine tr_region fun _ _ _ => ?_
        refine pu rfl rfl rfl rfl rfl ?_
        have hno : ¬ AllIn q l := fun h => by
          have hb := h (l.getD k.toNat 0) (getD_mem (by omega) _)
          omega
        exact tr_ret ⟨trivial, _, _, rfl, ⟨by rw [wordC_ent (by omega), entC_no hno], rfl⟩, CSub.nil _, trivial⟩
      · try simp only [zbA] at h6
        refine tr_skip ?_
        refine tr_region fun _ _ _ => ?_
        refine st rfl rfl rfl rfl (rAdd rfl rfl rfl (by omega) (by omega)) ?_
        refine pu rfl rfl rfl rfl rfl ?_
        refine ⟨k + 1, ⟨rfl, rfl, rfl, rfl, trivial⟩, by first | exact cs _ _ | exact CSub.refl _, ?_⟩
        refine ⟨⟨⟨by omega, by omega⟩, fun j hj => ?_⟩, by omega⟩
        by_cases he : (j : Int) = k
        · have : j = k.toNat := by omega
          subst this; omega
        · exact hall j (by omega)
    · try simp only [zbA] at h4
      refine tr_exit ?_
      refine tr_seq ?_
      refine tr_region fun _ _ _ => ?_
      refine pu rfl rfl rfl rfl rfl ?_
      have hok : AllIn q l := allIn_of_get fun j hj => hall j (by omega)
      exact tr_ret ⟨trivial, _, _, rfl, ⟨by rw [wordC_ent (by omega), entC_ok hok], rfl⟩, CSub.nil _, trivial⟩
theorem ord_total_ent : Enters Try.prog 22 := enters_of Try.func22 (by kernel_rfl) (by kernel_rfl)
theorem ord_total (T : Option Addr) (nt ct : Nat) (ts : List RowM) (hnt : nt = ts.length) (q : Int) (hq2 : 2 ≤ q) (hq9 : q ≤ 256) (t64 : ts.length ≤ 64) (htr : ∀ r ∈ ts, RowOk q r.xs) (X : Option Addr) (nx cx : Nat) (l : List Int) (hnx : nx = l.length) (hlt : l.length = ts.length) (hin : AllIn q l) :
    Pure Try.prog 22 #[.slice T nt ct, .slice X nx cx] [ro T (hdrs ts), rowsR ts, ro X (ints l)] (isV (.int .i64 (cstL (xss ts) l))) := by
  refine pure_of (args := [.slice T nt ct, .slice X nx cx]) 26 Try.func22 rfl rfl rfl ord_total_ent ⟨id, id, id, trivial⟩ (fun w0 => ?_)
  refine tr_seq ?_
  refine tr_region fun _ _ _ => ?_
  refine pu rfl rfl rfl rfl rfl ?_
  refine tr_seq ?_
  refine tr_region fun _ _ _ => ?_
  refine pu rfl rfl rfl rfl rfl ?_
  refine tr_seq ?_
  refine tr_seq ?_
  refine tr_region fun _ _ _ => ?_
  refine pu rfl rfl rfl rfl rfl ?_
  refine st rfl rfl rfl rfl (rLen rfl rfl) ?_
  refine pu rfl rfl rfl rfl rfl ?_
  refine tr_block ?_
  refine tr_loop2 (fun (k : Int) (s : Int) => [(10, .int .i64 k), (5, .int .i64 s), (0, .slice T nt ct), (4, .int .i64 0), (8, .slice X nx cx), (9, .int .i64 nx)]) (fun (k : Int) (s : Int) => [ro T (hdrs ts), rowsR ts, ro X (ints l)]) (fun (k : Int) (s : Int) => (0 ≤ k ∧ k ≤ nx) ∧ s = cstT (xss ts) l k.toNat) (fun (k : Int) (s : Int) => (nx - k).toNat) (0) (0) ⟨rfl, rfl, rfl, rfl, rfl, rfl, trivial⟩ (by first | exact cs _ _ | exact CSub.refl _) (⟨⟨by omega, by omega⟩, rfl⟩) (fun k s hI => ?_)
  obtain ⟨⟨hk0, hk1⟩, hs⟩ := hI
  have hcb := cstT_bd htr l k.toNat (by omega)
  refine tr_seq ?_
  refine tr_region fun _ _ _ => ?_
  refine pu rfl rfl rfl rfl rfl ?_
  refine tr_seq ?_
  refine tr_cond_bool rfl (fun h3 => ?_) (fun h3 => ?_)
  · try simp only [zbA] at h3
    refine tr_skip ?_
    refine tr_seq ?_
    refine tr_block ?_
    refine tr_seq ?_
    refine tr_region fun _ _ _ => ?_
    refine pu rfl rfl rfl rfl rfl ?_
    refine st rfl rfl rfl rfl (rIdxI rfl rfl rfl (by omega) (by omega) (by omega)) ?_
    refine st rfl rfl rfl rfl (rLdI rfl rfl (by omega)) ?_
    iterate 2 refine pu rfl rfl rfl rfl rfl ?_
    haveI : InB k.toNat ts.length := ⟨by omega⟩
    have htk := htr _ (getD_mem (show k.toNat < ts.length by omega) rowD)
    have htl := htk.1
    have hpos : 0 < (ts.getD k.toNat rowD).xs.length := by omega
    have hrb := htk.at (l.getD k.toNat 0).toNat
    have hlk := hin.get (by omega) k.toNat
    refine tr_region fun _ _ _ => ?_
    iterate 3 refine pu rfl rfl rfl rfl rfl ?_
    refine st rfl rfl rfl rfl (rIdxR rfl rfl rfl (by omega) (by omega) (by omega)) ?_
    refine st rfl rfl rfl rfl (rLdR rfl rfl (by omega)) ?_
    refine pu rfl rfl rfl rfl rfl ?_
    refine st rfl rfl rfl rfl (rIdxI rfl rfl rfl (by omega) (by omega) (by omega)) ?_
    refine st rfl rfl rfl rfl (rLdI rfl rfl (by omega)) ?_
    refine st rfl rfl rfl rfl (rAdd rfl rfl rfl (by omega) (by omega)) ?_
    refine pu rfl rfl rfl rfl rfl ?_
    refine tr_region fun _ _ _ => ?_
    refine st rfl rfl rfl rfl (rAdd rfl rfl rfl (by omega) (by omega)) ?_
    refine pu rfl rfl rfl rfl rfl ?_
    refine ⟨k + 1, s + (ts.getD k.toNat rowD).xs.getD (l.getD k.toNat 0).toNat 0, ⟨rfl, rfl, rfl, rfl, rfl, rfl, trivial⟩, by first | exact cs _ _ | exact CSub.refl _, ?_⟩
    exact ⟨⟨⟨by omega, by omega⟩, by rw [show (k + 1).toNat = k.toNat + 1 by omega, cstT_succ, hs]⟩, by omega⟩
  · try simp only [zbA] at h3
    refine tr_exit ?_
    refine tr_seq ?_
    refine tr_region fun _ _ _ => ?_
    iterate 2 refine pu rfl rfl rfl rfl rfl ?_
    have hkx : k.toNat = l.length := by omega
    exact tr_ret ⟨trivial, _, _, rfl, ⟨by rw [hs, hkx]; rfl, rfl⟩, CSub.nil _, trivial⟩
theorem ref_OCost_ent : Enters Try.prog 15 := enters_of Try.func15 (by kernel_rfl) (by kernel_rfl)
theorem ref_OCost (T : Option Addr) (nt ct : Nat) (ts : List RowM) (hnt : nt = ts.length) (q : Int) (hq2 : 2 ≤ q) (hq9 : q ≤ 256) (t64 : ts.length ≤ 64) (htr : ∀ r ∈ ts, RowOk q r.xs) (X : Option Addr) (nx cx : Nat) (l : List Int) (hnx : nx = l.length) (hlt : l.length = ts.length) (hin : AllIn q l) :
    Pure Try.prog 15 #[.slice T nt ct, .slice X nx cx] [ro T (hdrs ts), rowsR ts, ro X (ints l)] (isV (.int .i64 (cstL (xss ts) l))) := by
  refine pure_of (args := [.slice T nt ct, .slice X nx cx]) 26 Try.func15 rfl rfl rfl ref_OCost_ent ⟨id, id, id, trivial⟩ (fun w0 => ?_)
  refine tr_seq ?_
  refine tr_region fun _ _ _ => ?_
  refine pu rfl rfl rfl rfl rfl ?_
  refine tr_seq ?_
  refine tr_region fun _ _ _ => ?_
  refine pu rfl rfl rfl rfl rfl ?_
  refine tr_seq ?_
  refine tr_seq ?_
  refine tr_region fun _ _ _ => ?_
  refine pu rfl rfl rfl rfl rfl ?_
  refine tr_block ?_
  refine tr_loop2 (fun (k : Int) (s : Int) => [(6, .int .i64 k), (5, .int .i64 s), (0, .slice T nt ct), (1, .slice X nx cx), (4, .int .i64 0)]) (fun (k : Int) (s : Int) => [ro T (hdrs ts), rowsR ts, ro X (ints l)]) (fun (k : Int) (s : Int) => (0 ≤ k ∧ k ≤ nx) ∧ s = cstT (xss ts) l k.toNat) (fun (k : Int) (s : Int) => (nx - k).toNat) (0) (0) ⟨rfl, rfl, rfl, rfl, rfl, trivial⟩ (by first | exact cs _ _ | exact CSub.refl _) (⟨⟨by omega, by omega⟩, rfl⟩) (fun k s hI => ?_)
  obtain ⟨⟨hk0, hk1⟩, hs⟩ := hI
  have hcb := cstT_bd htr l k.toNat (by omega)
  refine tr_seq ?_
  refine tr_seq ?_
  refine tr_region fun _ _ _ => ?_
  iterate 2 refine pu rfl rfl rfl rfl rfl ?_
  refine st rfl rfl rfl rfl (rLen rfl rfl) ?_
  refine pu rfl rfl rfl rfl rfl ?_
  refine tr_cond_bool rfl (fun h3 => ?_) (fun h3 => ?_)
  · try simp only [zbA] at h3
    refine tr_skip ?_
    refine tr_seq ?_
    refine tr_block ?_
    haveI : InB k.toNat ts.length := ⟨by omega⟩
    have htk := htr _ (getD_mem (show k.toNat < ts.length by omega) rowD)
    have htl := htk.1
    have hpos : 0 < (ts.getD k.toNat rowD).xs.length := by omega
    have hrb := htk.at (l.getD k.toNat 0).toNat
    have hlk := hin.get (by omega) k.toNat
    refine tr_draw [0, 1, 2, 3, 4, 5, 6, 7, 8, 9, 10, 11, 12] [] mixed (by kernel_rfl) fun _ _ _ => ?_
    iterate 3 refine pu rfl rfl rfl rfl rfl ?_
    refine st rfl rfl rfl rfl (rIdxR rfl rfl rfl (by omega) (by omega) (by omega)) ?_
    refine st rfl rfl rfl rfl (rLdR rfl rfl (by omega)) ?_
    iterate 2 refine pu rfl rfl rfl rfl rfl ?_
    refine st rfl rfl rfl rfl (rIdxI rfl rfl rfl (by omega) (by omega) (by omega)) ?_
    refine st rfl rfl rfl rfl (rLdI rfl rfl (by omega)) ?_
    refine st rfl rfl rfl rfl (rIdxI rfl rfl rfl (by omega) (by omega) (by omega)) ?_
    refine st rfl rfl rfl rfl (rLdI rfl rfl (by omega)) ?_
    refine st rfl rfl rfl rfl (rAdd rfl rfl rfl (by omega) (by omega)) ?_
    refine pu rfl rfl rfl rfl rfl ?_
    refine tr_region fun _ _ _ => ?_
    refine pu rfl rfl rfl rfl rfl ?_
    refine st rfl rfl rfl rfl (rAdd rfl rfl rfl (by omega) (by omega)) ?_
    refine pu rfl rfl rfl rfl rfl ?_
    refine ⟨k + 1, s + (ts.getD k.toNat rowD).xs.getD (l.getD k.toNat 0).toNat 0, ⟨rfl, rfl, rfl, rfl, rfl, trivial⟩, by first | exact cs _ _ | exact CSub.refl _, ?_⟩
    exact ⟨⟨⟨by omega, by omega⟩, by rw [show (k + 1).toNat = k.toNat + 1 by omega, cstT_succ, hs]⟩, by omega⟩
  · try simp only [zbA] at h3
    refine tr_exit ?_
    refine tr_seq ?_
    refine tr_region fun _ _ _ => ?_
    iterate 2 refine pu rfl rfl rfl rfl rfl ?_
    have hkx : k.toNat = l.length := by omega
    exact tr_ret ⟨trivial, _, _, rfl, ⟨by rw [hs, hkx]; rfl, rfl⟩, CSub.nil _, trivial⟩
theorem ord_CostE_ent : Enters Try.prog 7 := enters_of Try.func7 (by kernel_rfl) (by kernel_rfl)
theorem ord_CostE (p m : Int) (A : Option Addr) (c : Nat) (mod : List Int) (hl9 : mod.length ≤ 17592186044415) (w : Int) (Aa : Option Addr) (n ca : Nat) (rs : List RowM) (hn : n = rs.length) (h9 : rs.length ≤ 17592186044415) (h8 : ∀ r ∈ rs, r.xs.length ≤ 17592186044415) (he : codC p m mod w rs ≠ 0) (T : Option Addr) (nt ct : Nat) (ts : List RowM) (hnt : nt = ts.length) (t9 : ts.length ≤ 17592186044415) (t8 : ∀ r ∈ ts, r.xs.length ≤ 17592186044415) (X : Option Addr) (nx cx : Nat) (l : List Int) (hnx : nx = l.length) (hl : l.length ≤ 17592186044415) :
    Pure Try.prog 7 #[.agg #[.int .i64 p, .int .i64 m, .slice A mod.length c, .int .i64 w, .slice Aa n ca], .slice T nt ct, .slice X nx cx] [ro A (ints mod), ro Aa (hdrs rs), rowsR rs, ro T (hdrs ts), rowsR ts, ro X (ints l)] (isV (.tuple #[.int .i64 0, .int .i64 (codC p m mod w rs)])) := by
  refine pure_of (args := [.agg #[.int .i64 p, .int .i64 m, .slice A mod.length c, .int .i64 w, .slice Aa n ca], .slice T nt ct, .slice X nx cx]) 31 Try.func7 rfl rfl rfl ord_CostE_ent ⟨id, id, id, id, id, id, trivial⟩ (fun w0 => ?_)
  refine tr_seq ?_
  refine tr_region fun _ _ _ => ?_
  refine ef rfl rfl (eBox rfl rfl rfl rfl rfl (fun p0 => ?_)) 
  iterate 2 refine pu rfl rfl rfl rfl rfl ?_
  refine tr_seq ?_
  refine tr_region fun _ _ _ => ?_
  refine st rfl rfl rfl rfl (rLdS rfl rfl rfl) ?_
  refine pu rfl rfl rfl rfl rfl ?_
  refine ef rfl rfl (eCallV rfl rfl rfl (ord_checkedE p m A c mod hl9 w Aa n ca rs hn h9 h8 he T nt ct ts hnt t9 t8) ⟨rfl, rfl, trivial⟩ ?_) 
  iterate 5 refine pu rfl rfl rfl rfl rfl ?_
  refine tr_seq ?_
  refine tr_seq ?_
  refine tr_region fun _ _ _ => ?_
  iterate 2 refine pu rfl rfl rfl rfl rfl ?_
  refine tr_cond_bool rfl (fun h2 => ?_) (fun h2 => ?_)
  · try simp only [zbA] at h2
    refine tr_seq ?_
    refine tr_region fun _ _ _ => ?_
    iterate 3 refine pu rfl rfl rfl rfl rfl ?_
    exact tr_ret ⟨trivial, _, _, rfl, ⟨rfl, rfl⟩, CSub.nil _, trivial⟩
  · try simp only [zbA] at h2
    omega --done
theorem ord_CostR_ent : Enters Try.prog 7 := enters_of Try.func7 (by kernel_rfl) (by kernel_rfl)
theorem ord_CostR (p m : Int) (A : Option Addr) (c : Nat) (mod : List Int) [hF : IsF p m mod] (w : Int) (Aa : Option Addr) (n ca : Nat) (rs : List RowM) (hn : n = rs.length) (h9 : rs.length ≤ 256) (hc : CodeOk p m mod w rs) (T : Option Addr) (nt ct : Nat) (ts : List RowM) (hnt : nt = ts.length) (t9 : ts.length ≤ 17592186044415) (t8 : ∀ r ∈ ts, r.xs.length ≤ 17592186044415) (ho : ordC (pw p m) w (xss ts) ≠ 0) (X : Option Addr) (nx cx : Nat) (l : List Int) (hnx : nx = l.length) (hl : l.length ≤ 17592186044415) :
    Pure Try.prog 7 #[.agg #[.int .i64 p, .int .i64 m, .slice A mod.length c, .int .i64 w, .slice Aa n ca], .slice T nt ct, .slice X nx cx] [ro A (ints mod), ro Aa (hdrs rs), rowsR rs, ro T (hdrs ts), rowsR ts, ro X (ints l)] (isV (.tuple #[.int .i64 0, .int .i64 (ordC (pw p m) w (xss ts))])) := by
  refine pure_of (args := [.agg #[.int .i64 p, .int .i64 m, .slice A mod.length c, .int .i64 w, .slice Aa n ca], .slice T nt ct, .slice X nx cx]) 31 Try.func7 rfl rfl rfl ord_CostR_ent ⟨id, id, id, id, id, id, trivial⟩ (fun w0 => ?_)
  refine tr_seq ?_
  refine tr_region fun _ _ _ => ?_
  refine ef rfl rfl (eBox rfl rfl rfl rfl rfl (fun p0 => ?_)) 
  iterate 2 refine pu rfl rfl rfl rfl rfl ?_
  refine tr_seq ?_
  refine tr_region fun _ _ _ => ?_
  refine st rfl rfl rfl rfl (rLdS rfl rfl rfl) ?_
  refine pu rfl rfl rfl rfl rfl ?_
  refine ef rfl rfl (eCallV rfl rfl rfl (ord_checkedR p m A c mod w Aa n ca rs hn h9 hc T nt ct ts hnt t9 t8 ho) ⟨rfl, rfl, trivial⟩ ?_) 
  iterate 5 refine pu rfl rfl rfl rfl rfl ?_
  refine tr_seq ?_
  refine tr_seq ?_
  refine tr_region fun _ _ _ => ?_
  iterate 2 refine pu rfl rfl rfl rfl rfl ?_
  refine tr_cond_bool rfl (fun h2 => ?_) (fun h2 => ?_)
  · try simp only [zbA] at h2
    refine tr_seq ?_
    refine tr_region fun _ _ _ => ?_
    iterate 3 refine pu rfl rfl rfl rfl rfl ?_
    exact tr_ret ⟨trivial, _, _, rfl, ⟨rfl, rfl⟩, CSub.nil _, trivial⟩
  · try simp only [zbA] at h2
    omega --done
theorem ord_CostW_ent : Enters Try.prog 7 := enters_of Try.func7 (by kernel_rfl) (by kernel_rfl)
theorem ord_CostW (p m : Int) (A : Option Addr) (c : Nat) (mod : List Int) [hF : IsF p m mod] (w : Int) (Aa : Option Addr) (n ca : Nat) (rs : List RowM) (hn : n = rs.length) (h9 : rs.length ≤ 256) (hc : CodeOk p m mod w rs) (T : Option Addr) (nt ct : Nat) (ts : List RowM) (hnt : nt = ts.length) (t9 : ts.length ≤ 17592186044415) (t8 : ∀ r ∈ ts, r.xs.length ≤ 17592186044415) (ho : ordC (pw p m) w (xss ts) = 0) (X : Option Addr) (nx cx : Nat) (l : List Int) (hnx : nx = l.length) (hl : l.length ≤ 17592186044415) (hw : wordC (pw p m) w l ≠ 0) :
    Pure Try.prog 7 #[.agg #[.int .i64 p, .int .i64 m, .slice A mod.length c, .int .i64 w, .slice Aa n ca], .slice T nt ct, .slice X nx cx] [ro A (ints mod), ro Aa (hdrs rs), rowsR rs, ro T (hdrs ts), rowsR ts, ro X (ints l)] (isV (.tuple #[.int .i64 0, .int .i64 (wordC (pw p m) w l)])) := by
  have hl9 := hF.short
  have hn1 := hc.n1
  have hn64 := hc.n64
  have hlen := hc.len
  have hgd := hc.good
  have h8 := hgd.h8 (N := 17592186044415) (by omega)
  have hck := hc.zero
  have hq2 := hF.q2
  have htab := ordC_zero ho
  have htl := htab.len
  have hq256 := hF.out.1.1.q
  refine pure_of (args := [.agg #[.int .i64 p, .int .i64 m, .slice A mod.length c, .int .i64 w, .slice Aa n ca], .slice T nt ct, .slice X nx cx]) 31 Try.func7 rfl rfl rfl ord_CostW_ent ⟨id, id, id, id, id, id, trivial⟩ (fun w0 => ?_)
  refine tr_seq ?_
  refine tr_region fun _ _ _ => ?_
  refine ef rfl rfl (eBox rfl rfl rfl rfl rfl (fun p0 => ?_)) 
  iterate 2 refine pu rfl rfl rfl rfl rfl ?_
  refine tr_seq ?_
  refine tr_region fun _ _ _ => ?_
  refine st rfl rfl rfl rfl (rLdS rfl rfl rfl) ?_
  refine pu rfl rfl rfl rfl rfl ?_
  refine ef rfl rfl (eCall1 rfl rfl rfl (ord_checkedG p m A c mod w Aa n ca rs hn h9 hc T nt ct ts hnt t9 t8 ho) ⟨rfl, rfl, trivial⟩ ?_) 
  rintro _ _ ⟨g, rfl, rfl, hg⟩
  iterate 5 refine pu rfl rfl rfl rfl rfl ?_
  refine tr_seq ?_
  refine tr_seq ?_
  refine tr_region fun _ _ _ => ?_
  iterate 2 refine pu rfl rfl rfl rfl rfl ?_
  refine tr_cond_bool rfl (fun h2 => ?_) (fun h2 => ?_)
  · try simp only [zbA] at h2
    first | exact absurd trivial h2 | exact absurd rfl h2 | omega | (exact absurd h2 (by simp)) --done
  · try simp only [zbA] at h2
    refine tr_skip ?_
    refine tr_seq ?_
    refine tr_seq ?_
    refine tr_region fun _ _ _ => ?_
    refine pu rfl rfl rfl rfl rfl ?_
    refine st rfl rfl rfl rfl (rFld rfl rfl) ?_
    refine st rfl rfl rfl rfl (rLdF rfl rfl rfl) ?_
    refine pu rfl rfl rfl rfl rfl ?_
    refine ef rfl rfl (eCallV rfl rfl rfl (ord_word g (pw p m) hg.eq w X nx cx l hnx hl) ⟨rfl, rfl, rfl, trivial⟩ ?_) 
    refine pu rfl rfl rfl rfl rfl ?_
    refine tr_seq ?_
    refine tr_region fun _ _ _ => ?_
    iterate 2 refine pu rfl rfl rfl rfl rfl ?_
    refine tr_cond_bool rfl (fun h5 => ?_) (fun h5 => ?_)
    · try simp only [zbA] at h5
      refine tr_seq ?_
      refine tr_region fun _ _ _ => ?_
      iterate 3 refine pu rfl rfl rfl rfl rfl ?_
      exact tr_ret ⟨trivial, _, _, rfl, ⟨rfl, rfl⟩, CSub.nil _, trivial⟩
    · try simp only [zbA] at h5
      omega --done
theorem ord_CostG_ent : Enters Try.prog 7 := enters_of Try.func7 (by kernel_rfl) (by kernel_rfl)
theorem ord_CostG (p m : Int) (A : Option Addr) (c : Nat) (mod : List Int) [hF : IsF p m mod] (w : Int) (Aa : Option Addr) (n ca : Nat) (rs : List RowM) (hn : n = rs.length) (h9 : rs.length ≤ 256) (hc : CodeOk p m mod w rs) (T : Option Addr) (nt ct : Nat) (ts : List RowM) (hnt : nt = ts.length) (t9 : ts.length ≤ 17592186044415) (t8 : ∀ r ∈ ts, r.xs.length ≤ 17592186044415) (ho : ordC (pw p m) w (xss ts) = 0) (X : Option Addr) (nx cx : Nat) (l : List Int) (hnx : nx = l.length) (hl : l.length ≤ 17592186044415) (hw : wordC (pw p m) w l = 0) :
    Pure Try.prog 7 #[.agg #[.int .i64 p, .int .i64 m, .slice A mod.length c, .int .i64 w, .slice Aa n ca], .slice T nt ct, .slice X nx cx] [ro A (ints mod), ro Aa (hdrs rs), rowsR rs, ro T (hdrs ts), rowsR ts, ro X (ints l)] (isV (.tuple #[.int .i64 (cstL (xss ts) l), .int .i64 0])) := by
  have hl9 := hF.short
  have hn1 := hc.n1
  have hn64 := hc.n64
  have hlen := hc.len
  have hgd := hc.good
  have h8 := hgd.h8 (N := 17592186044415) (by omega)
  have hck := hc.zero
  have hq2 := hF.q2
  have htab := ordC_zero ho
  have htl := htab.len
  have hq256 := hF.out.1.1.q
  obtain ⟨hlw, hin⟩ := wordC_zero hw
  refine pure_of (args := [.agg #[.int .i64 p, .int .i64 m, .slice A mod.length c, .int .i64 w, .slice Aa n ca], .slice T nt ct, .slice X nx cx]) 31 Try.func7 rfl rfl rfl ord_CostG_ent ⟨id, id, id, id, id, id, trivial⟩ (fun w0 => ?_)
  refine tr_seq ?_
  refine tr_region fun _ _ _ => ?_
  refine ef rfl rfl (eBox rfl rfl rfl rfl rfl (fun p0 => ?_)) 
  iterate 2 refine pu rfl rfl rfl rfl rfl ?_
  refine tr_seq ?_
  refine tr_region fun _ _ _ => ?_
  refine st rfl rfl rfl rfl (rLdS rfl rfl rfl) ?_
  refine pu rfl rfl rfl rfl rfl ?_
  refine ef rfl rfl (eCall1 rfl rfl rfl (ord_checkedG p m A c mod w Aa n ca rs hn h9 hc T nt ct ts hnt t9 t8 ho) ⟨rfl, rfl, trivial⟩ ?_) 
  rintro _ _ ⟨g, rfl, rfl, hg⟩
  iterate 5 refine pu rfl rfl rfl rfl rfl ?_
  refine tr_seq ?_
  refine tr_seq ?_
  refine tr_region fun _ _ _ => ?_
  iterate 2 refine pu rfl rfl rfl rfl rfl ?_
  refine tr_cond_bool rfl (fun h2 => ?_) (fun h2 => ?_)
  · try simp only [zbA] at h2
    first | exact absurd trivial h2 | exact absurd rfl h2 | omega | (exact absurd h2 (by simp)) --done
  · try simp only [zbA] at h2
    refine tr_skip ?_
    refine tr_seq ?_
    refine tr_seq ?_
    refine tr_region fun _ _ _ => ?_
    refine pu rfl rfl rfl rfl rfl ?_
    refine st rfl rfl rfl rfl (rFld rfl rfl) ?_
    refine st rfl rfl rfl rfl (rLdF rfl rfl rfl) ?_
    refine pu rfl rfl rfl rfl rfl ?_
    refine ef rfl rfl (eCallV rfl rfl rfl (ord_word g (pw p m) hg.eq w X nx cx l hnx hl) ⟨rfl, rfl, rfl, trivial⟩ ?_) 
    refine pu rfl rfl rfl rfl rfl ?_
    refine tr_seq ?_
    refine tr_region fun _ _ _ => ?_
    iterate 2 refine pu rfl rfl rfl rfl rfl ?_
    refine tr_cond_bool rfl (fun h5 => ?_) (fun h5 => ?_)
    · try simp only [zbA] at h5
      omega --done
    · try simp only [zbA] at h5
      refine tr_skip ?_
      refine tr_seq ?_
      refine tr_region fun _ _ _ => ?_
      iterate 2 refine pu rfl rfl rfl rfl rfl ?_
      refine ef rfl rfl (eCallV rfl rfl rfl (ord_total T nt ct ts hnt (pw p m) hq2 hq256 (by omega) htab.row X nx cx l hnx (by omega) hin) ⟨rfl, rfl, trivial⟩ ?_) 
      iterate 2 refine pu rfl rfl rfl rfl rfl ?_
      exact tr_ret ⟨trivial, _, _, rfl, ⟨rfl, rfl⟩, CSub.nil _, trivial⟩
theorem ord_HardE_ent : Enters Try.prog 8 := enters_of Try.func8 (by kernel_rfl) (by kernel_rfl)
theorem ord_HardE (p m : Int) (A : Option Addr) (c : Nat) (mod : List Int) (hl9 : mod.length ≤ 17592186044415) (w : Int) (Aa : Option Addr) (n ca : Nat) (rs : List RowM) (hn : n = rs.length) (h9 : rs.length ≤ 17592186044415) (h8 : ∀ r ∈ rs, r.xs.length ≤ 17592186044415) (he : codC p m mod w rs ≠ 0) (T : Option Addr) (nt ct : Nat) (ts : List RowM) (hnt : nt = ts.length) (t9 : ts.length ≤ 17592186044415) (t8 : ∀ r ∈ ts, r.xs.length ≤ 17592186044415) :
    Pure Try.prog 8 #[.agg #[.int .i64 p, .int .i64 m, .slice A mod.length c, .int .i64 w, .slice Aa n ca], .slice T nt ct] [ro A (ints mod), ro Aa (hdrs rs), rowsR rs, ro T (hdrs ts), rowsR ts] (isV (.tuple #[.slice none 0 0, .int .i64 (codC p m mod w rs)])) := by
  refine pure_of (args := [.agg #[.int .i64 p, .int .i64 m, .slice A mod.length c, .int .i64 w, .slice Aa n ca], .slice T nt ct]) 25 Try.func8 rfl rfl rfl ord_HardE_ent ⟨id, id, id, id, id, trivial⟩ (fun w0 => ?_)
  refine tr_seq ?_
  refine tr_region fun _ _ _ => ?_
  refine ef rfl rfl (eBox rfl rfl rfl rfl rfl (fun p0 => ?_)) 
  iterate 2 refine pu rfl rfl rfl rfl rfl ?_
  refine tr_seq ?_
  refine tr_seq ?_
  refine tr_region fun _ _ _ => ?_
  refine st rfl rfl rfl rfl (rLdS rfl rfl rfl) ?_
  refine pu rfl rfl rfl rfl rfl ?_
  refine ef rfl rfl (eCallV rfl rfl rfl (ord_checkedE p m A c mod hl9 w Aa n ca rs hn h9 h8 he T nt ct ts hnt t9 t8) ⟨rfl, rfl, trivial⟩ ?_) 
  iterate 5 refine pu rfl rfl rfl rfl rfl ?_
  refine tr_seq ?_
  refine tr_region fun _ _ _ => ?_
  iterate 2 refine pu rfl rfl rfl rfl rfl ?_
  refine tr_cond_bool rfl (fun h2 => ?_) (fun h2 => ?_)
  · try simp only [zbA] at h2
    refine tr_seq ?_
    refine tr_region fun _ _ _ => ?_
    iterate 3 refine pu rfl rfl rfl rfl rfl ?_
    exact tr_ret ⟨trivial, _, _, rfl, ⟨rfl, rfl⟩, CSub.nil _, trivial⟩
  · try simp only [zbA] at h2
    omega --done
theorem ord_HardR_ent : Enters Try.prog 8 := enters_of Try.func8 (by kernel_rfl) (by kernel_rfl)
theorem ord_HardR (p m : Int) (A : Option Addr) (c : Nat) (mod : List Int) [hF : IsF p m mod] (w : Int) (Aa : Option Addr) (n ca : Nat) (rs : List RowM) (hn : n = rs.length) (h9 : rs.length ≤ 256) (hc : CodeOk p m mod w rs) (T : Option Addr) (nt ct : Nat) (ts : List RowM) (hnt : nt = ts.length) (t9 : ts.length ≤ 17592186044415) (t8 : ∀ r ∈ ts, r.xs.length ≤ 17592186044415) (ho : ordC (pw p m) w (xss ts) ≠ 0) :
    Pure Try.prog 8 #[.agg #[.int .i64 p, .int .i64 m, .slice A mod.length c, .int .i64 w, .slice Aa n ca], .slice T nt ct] [ro A (ints mod), ro Aa (hdrs rs), rowsR rs, ro T (hdrs ts), rowsR ts] (isV (.tuple #[.slice none 0 0, .int .i64 (ordC (pw p m) w (xss ts))])) := by
  refine pure_of (args := [.agg #[.int .i64 p, .int .i64 m, .slice A mod.length c, .int .i64 w, .slice Aa n ca], .slice T nt ct]) 25 Try.func8 rfl rfl rfl ord_HardR_ent ⟨id, id, id, id, id, trivial⟩ (fun w0 => ?_)
  refine tr_seq ?_
  refine tr_region fun _ _ _ => ?_
  refine ef rfl rfl (eBox rfl rfl rfl rfl rfl (fun p0 => ?_)) 
  iterate 2 refine pu rfl rfl rfl rfl rfl ?_
  refine tr_seq ?_
  refine tr_seq ?_
  refine tr_region fun _ _ _ => ?_
  refine st rfl rfl rfl rfl (rLdS rfl rfl rfl) ?_
  refine pu rfl rfl rfl rfl rfl ?_
  refine ef rfl rfl (eCallV rfl rfl rfl (ord_checkedR p m A c mod w Aa n ca rs hn h9 hc T nt ct ts hnt t9 t8 ho) ⟨rfl, rfl, trivial⟩ ?_) 
  iterate 5 refine pu rfl rfl rfl rfl rfl ?_
  refine tr_seq ?_
  refine tr_region fun _ _ _ => ?_
  iterate 2 refine pu rfl rfl rfl rfl rfl ?_
  refine tr_cond_bool rfl (fun h2 => ?_) (fun h2 => ?_)
  · try simp only [zbA] at h2
    refine tr_seq ?_
    refine tr_region fun _ _ _ => ?_
    iterate 3 refine pu rfl rfl rfl rfl rfl ?_
    exact tr_ret ⟨trivial, _, _, rfl, ⟨rfl, rfl⟩, CSub.nil _, trivial⟩
  · try simp only [zbA] at h2
    omega --done
theorem ord_HardG_ent : Enters Try.prog 8 := enters_of Try.func8 (by kernel_rfl) (by kernel_rfl)
theorem ord_HardG (p m : Int) (A : Option Addr) (c : Nat) (mod : List Int) [hF : IsF p m mod] (w : Int) (Aa : Option Addr) (n ca : Nat) (rs : List RowM) (hn : n = rs.length) (h9 : rs.length ≤ 256) (hc : CodeOk p m mod w rs) (T : Option Addr) (nt ct : Nat) (ts : List RowM) (hnt : nt = ts.length) (t9 : ts.length ≤ 17592186044415) (t8 : ∀ r ∈ ts, r.xs.length ≤ 17592186044415) (ho : ordC (pw p m) w (xss ts) = 0) :
    Pure Try.prog 8 #[.agg #[.int .i64 p, .int .i64 m, .slice A mod.length c, .int .i64 w, .slice Aa n ca], .slice T nt ct] [ro A (ints mod), ro Aa (hdrs rs), rowsR rs, ro T (hdrs ts), rowsR ts] (one (fun v ch => ∃ B cb, v = .tuple #[.slice B (hardL ts).length cb, .int .i64 0] ∧ ch = ow B 3 cb (ints (hardL ts)))) := by
  have hl9 := hF.short
  have hn1 := hc.n1
  have hn64 := hc.n64
  have hlen := hc.len
  have hgd := hc.good
  have h8 := hgd.h8 (N := 17592186044415) (by omega)
  have hck := hc.zero
  have hq2 := hF.q2
  have htab := ordC_zero ho
  have htl := htab.len
  have hq256 := hF.out.1.1.q
  refine pure_of (args := [.agg #[.int .i64 p, .int .i64 m, .slice A mod.length c, .int .i64 w, .slice Aa n ca], .slice T nt ct]) 25 Try.func8 rfl rfl rfl ord_HardG_ent ⟨id, id, id, id, id, trivial⟩ (fun w0 => ?_)
  refine tr_seq ?_
  refine tr_region fun _ _ _ => ?_
  refine ef rfl rfl (eBox rfl rfl rfl rfl rfl (fun p0 => ?_)) 
  iterate 2 refine pu rfl rfl rfl rfl rfl ?_
  refine tr_seq ?_
  refine tr_seq ?_
  refine tr_region fun _ _ _ => ?_
  refine st rfl rfl rfl rfl (rLdS rfl rfl rfl) ?_
  refine pu rfl rfl rfl rfl rfl ?_
  refine ef rfl rfl (eCall1 rfl rfl rfl (ord_checkedG p m A c mod w Aa n ca rs hn h9 hc T nt ct ts hnt t9 t8 ho) ⟨rfl, rfl, trivial⟩ ?_) 
  rintro _ _ ⟨g, rfl, rfl, hg⟩
  iterate 5 refine pu rfl rfl rfl rfl rfl ?_
  refine tr_seq ?_
  refine tr_region fun _ _ _ => ?_
  iterate 2 refine pu rfl rfl rfl rfl rfl ?_
  refine tr_cond_bool rfl (fun h2 => ?_) (fun h2 => ?_)
  · try simp only [zbA] at h2
    first | exact absurd trivial h2 | exact absurd rfl h2 | omega | (exact absurd h2 (by simp)) --done
  · try simp only [zbA] at h2
    refine tr_skip ?_
    refine tr_seq ?_
    refine tr_region fun _ _ _ => ?_
    refine pu rfl rfl rfl rfl rfl ?_
    refine ef rfl rfl (eCall2 rfl rfl rfl (ord_hard T nt ct ts hnt (pw p m) hq2 hq256 (by omega) htab.row) ⟨rfl, trivial⟩ ?_) 
    rintro _ _ _ ⟨B4, cb4, D4, cd4, rfl, rfl, rfl⟩
    iterate 5 refine pu rfl rfl rfl rfl rfl ?_
    refine tr_seq ?_
    refine tr_region fun _ _ _ => ?_
    iterate 3 refine pu rfl rfl rfl rfl rfl ?_
    exact tr_ret ⟨trivial, _, _, rfl, ⟨_, rfl, B4, cb4, rfl, rfl⟩, cs _ _, trivial, trivial⟩
theorem ord_RelE_ent : Enters Try.prog 9 := enters_of Try.func9 (by kernel_rfl) (by kernel_rfl)
theorem ord_RelE (p m : Int) (A : Option Addr) (c : Nat) (mod : List Int) (hl9 : mod.length ≤ 17592186044415) (w : Int) (Aa : Option Addr) (n ca : Nat) (rs : List RowM) (hn : n = rs.length) (h9 : rs.length ≤ 17592186044415) (h8 : ∀ r ∈ rs, r.xs.length ≤ 17592186044415) (he : codC p m mod w rs ≠ 0) (T : Option Addr) (nt ct : Nat) (ts : List RowM) (hnt : nt = ts.length) (t9 : ts.length ≤ 17592186044415) (t8 : ∀ r ∈ ts, r.xs.length ≤ 17592186044415) :
    Pure Try.prog 9 #[.agg #[.int .i64 p, .int .i64 m, .slice A mod.length c, .int .i64 w, .slice Aa n ca], .slice T nt ct] [ro A (ints mod), ro Aa (hdrs rs), rowsR rs, ro T (hdrs ts), rowsR ts] (isV (.tuple #[.slice none 0 0, .int .i64 (codC p m mod w rs)])) := by
  refine pure_of (args := [.agg #[.int .i64 p, .int .i64 m, .slice A mod.length c, .int .i64 w, .slice Aa n ca], .slice T nt ct]) 25 Try.func9 rfl rfl rfl ord_RelE_ent ⟨id, id, id, id, id, trivial⟩ (fun w0 => ?_)
  refine tr_seq ?_
  refine tr_region fun _ _ _ => ?_
  refine ef rfl rfl (eBox rfl rfl rfl rfl rfl (fun p0 => ?_)) 
  iterate 2 refine pu rfl rfl rfl rfl rfl ?_
  refine tr_seq ?_
  refine tr_seq ?_
  refine tr_region fun _ _ _ => ?_
  refine st rfl rfl rfl rfl (rLdS rfl rfl rfl) ?_
  refine pu rfl rfl rfl rfl rfl ?_
  refine ef rfl rfl (eCallV rfl rfl rfl (ord_checkedE p m A c mod hl9 w Aa n ca rs hn h9 h8 he T nt ct ts hnt t9 t8) ⟨rfl, rfl, trivial⟩ ?_) 
  iterate 5 refine pu rfl rfl rfl rfl rfl ?_
  refine tr_seq ?_
  refine tr_region fun _ _ _ => ?_
  iterate 2 refine pu rfl rfl rfl rfl rfl ?_
  refine tr_cond_bool rfl (fun h2 => ?_) (fun h2 => ?_)
  · try simp only [zbA] at h2
    refine tr_seq ?_
    refine tr_region fun _ _ _ => ?_
    iterate 3 refine pu rfl rfl rfl rfl rfl ?_
    exact tr_ret ⟨trivial, _, _, rfl, ⟨rfl, rfl⟩, CSub.nil _, trivial⟩
  · try simp only [zbA] at h2
    omega --done
theorem ord_RelR_ent : Enters Try.prog 9 := enters_of Try.func9 (by kernel_rfl) (by kernel_rfl)
theorem ord_RelR (p m : Int) (A : Option Addr) (c : Nat) (mod : List Int) [hF : IsF p m mod] (w : Int) (Aa : Option Addr) (n ca : Nat) (rs : List RowM) (hn : n = rs.length) (h9 : rs.length ≤ 256) (hc : CodeOk p m mod w rs) (T : Option Addr) (nt ct : Nat) (ts : List RowM) (hnt : nt = ts.length) (t9 : ts.length ≤ 17592186044415) (t8 : ∀ r ∈ ts, r.xs.length ≤ 17592186044415) (ho : ordC (pw p m) w (xss ts) ≠ 0) :
    Pure Try.prog 9 #[.agg #[.int .i64 p, .int .i64 m, .slice A mod.length c, .int .i64 w, .slice Aa n ca], .slice T nt ct] [ro A (ints mod), ro Aa (hdrs rs), rowsR rs, ro T (hdrs ts), rowsR ts] (isV (.tuple #[.slice none 0 0, .int .i64 (ordC (pw p m) w (xss ts))])) := by
  refine pure_of (args := [.agg #[.int .i64 p, .int .i64 m, .slice A mod.length c, .int .i64 w, .slice Aa n ca], .slice T nt ct]) 25 Try.func9 rfl rfl rfl ord_RelR_ent ⟨id, id, id, id, id, trivial⟩ (fun w0 => ?_)
  refine tr_seq ?_
  refine tr_region fun _ _ _ => ?_
  refine ef rfl rfl (eBox rfl rfl rfl rfl rfl (fun p0 => ?_)) 
  iterate 2 refine pu rfl rfl rfl rfl rfl ?_
  refine tr_seq ?_
  refine tr_seq ?_
  refine tr_region fun _ _ _ => ?_
  refine st rfl rfl rfl rfl (rLdS rfl rfl rfl) ?_
  refine pu rfl rfl rfl rfl rfl ?_
  refine ef rfl rfl (eCallV rfl rfl rfl (ord_checkedR p m A c mod w Aa n ca rs hn h9 hc T nt ct ts hnt t9 t8 ho) ⟨rfl, rfl, trivial⟩ ?_) 
  iterate 5 refine pu rfl rfl rfl rfl rfl ?_
  refine tr_seq ?_
  refine tr_region fun _ _ _ => ?_
  iterate 2 refine pu rfl rfl rfl rfl rfl ?_
  refine tr_cond_bool rfl (fun h2 => ?_) (fun h2 => ?_)
  · try simp only [zbA] at h2
    refine tr_seq ?_
    refine tr_region fun _ _ _ => ?_
    iterate 3 refine pu rfl rfl rfl rfl rfl ?_
    exact tr_ret ⟨trivial, _, _, rfl, ⟨rfl, rfl⟩, CSub.nil _, trivial⟩
  · try simp only [zbA] at h2
    omega --done
theorem ord_RelG_ent : Enters Try.prog 9 := enters_of Try.func9 (by kernel_rfl) (by kernel_rfl)
theorem ord_RelG (p m : Int) (A : Option Addr) (c : Nat) (mod : List Int) [hF : IsF p m mod] (w : Int) (Aa : Option Addr) (n ca : Nat) (rs : List RowM) (hn : n = rs.length) (h9 : rs.length ≤ 256) (hc : CodeOk p m mod w rs) (T : Option Addr) (nt ct : Nat) (ts : List RowM) (hnt : nt = ts.length) (t9 : ts.length ≤ 17592186044415) (t8 : ∀ r ∈ ts, r.xs.length ≤ 17592186044415) (ho : ordC (pw p m) w (xss ts) = 0) :
    Pure Try.prog 9 #[.agg #[.int .i64 p, .int .i64 m, .slice A mod.length c, .int .i64 w, .slice Aa n ca], .slice T nt ct] [ro A (ints mod), ro Aa (hdrs rs), rowsR rs, ro T (hdrs ts), rowsR ts] (one (fun v ch => ∃ B cb, v = .tuple #[.slice B (relL ts).length cb, .int .i64 0] ∧ ch = ow B 3 cb (ints (relL ts)))) := by
  have hl9 := hF.short
  have hn1 := hc.n1
  have hn64 := hc.n64
  have hlen := hc.len
  have hgd := hc.good
  have h8 := hgd.h8 (N := 17592186044415) (by omega)
  have hck := hc.zero
  have hq2 := hF.q2
  have htab := ordC_zero ho
  have htl := htab.len
  have hq256 := hF.out.1.1.q
  refine pure_of (args := [.agg #[.int .i64 p, .int .i64 m, .slice A mod.length c, .int .i64 w, .slice Aa n ca], .slice T nt ct]) 25 Try.func9 rfl rfl rfl ord_RelG_ent ⟨id, id, id, id, id, trivial⟩ (fun w0 => ?_)
  refine tr_seq ?_
  refine tr_region fun _ _ _ => ?_
  refine ef rfl rfl (eBox rfl rfl rfl rfl rfl (fun p0 => ?_)) 
  iterate 2 refine pu rfl rfl rfl rfl rfl ?_
  refine tr_seq ?_
  refine tr_seq ?_
  refine tr_region fun _ _ _ => ?_
  refine st rfl rfl rfl rfl (rLdS rfl rfl rfl) ?_
  refine pu rfl rfl rfl rfl rfl ?_
  refine ef rfl rfl (eCall1 rfl rfl rfl (ord_checkedG p m A c mod w Aa n ca rs hn h9 hc T nt ct ts hnt t9 t8 ho) ⟨rfl, rfl, trivial⟩ ?_) 
  rintro _ _ ⟨g, rfl, rfl, hg⟩
  iterate 5 refine pu rfl rfl rfl rfl rfl ?_
  refine tr_seq ?_
  refine tr_region fun _ _ _ => ?_
  iterate 2 refine pu rfl rfl rfl rfl rfl ?_
  refine tr_cond_bool rfl (fun h2 => ?_) (fun h2 => ?_)
  · try simp only [zbA] at h2
    first | exact absurd trivial h2 | exact absurd rfl h2 | omega | (exact absurd h2 (by simp)) --done
  · try simp only [zbA] at h2
    refine tr_skip ?_
    refine tr_seq ?_
    refine tr_region fun _ _ _ => ?_
    refine pu rfl rfl rfl rfl rfl ?_
    refine ef rfl rfl (eCall2 rfl rfl rfl (ord_hard T nt ct ts hnt (pw p m) hq2 hq256 (by omega) htab.row) ⟨rfl, trivial⟩ ?_) 
    rintro _ _ _ ⟨B4, cb4, D4, cd4, rfl, rfl, rfl⟩
    iterate 5 refine pu rfl rfl rfl rfl rfl ?_
    refine tr_seq ?_
    refine tr_region fun _ _ _ => ?_
    iterate 3 refine pu rfl rfl rfl rfl rfl ?_
    exact tr_ret ⟨trivial, _, _, rfl, ⟨_, rfl, D4, cd4, rfl, rfl⟩, cs _ _, trivial, trivial⟩
theorem ref_OHard_ent : Enters Try.prog 12 := enters_of Try.func12 (by kernel_rfl) (by kernel_rfl)
theorem ref_OHard (T : Option Addr) (nt ct : Nat) (ts : List RowM) (hnt : nt = ts.length) (q : Int) (hq2 : 2 ≤ q) (hq9 : q ≤ 256) (t64 : ts.length ≤ 64) (htr : ∀ r ∈ ts, RowOk q r.xs) :
    Pure Try.prog 12 #[.slice T nt ct] [ro T (hdrs ts), rowsR ts] (one (fun v ch => ∃ B cb, v = .slice B (hardL ts).length cb ∧ ch = ow B 3 cb (ints (hardL ts)))) := by
  refine pure_of (args := [.slice T nt ct]) 43 Try.func12 rfl rfl rfl ref_OHard_ent ⟨id, id, trivial⟩ (fun w0 => ?_)
  refine tr_seq ?_
  refine tr_region fun _ _ _ => ?_
  refine pu rfl rfl rfl rfl rfl ?_
  refine tr_seq ?_
  refine tr_region fun _ _ _ => ?_
  refine pu rfl rfl rfl rfl rfl ?_
  refine tr_seq ?_
  refine tr_seq ?_
  refine tr_region fun _ _ _ => ?_
  refine pu rfl rfl rfl rfl rfl ?_
  refine tr_block ?_
  refine tr_nilI 3 ?_
  refine tr_loop4 (fun (k : Int) (B : Option Addr) (cb : Nat) (o : List Int) => [(3, .slice B o.length cb), (4, .int .i64 k), (0, .slice T nt ct), (2, .slice none 0 0)]) (fun (k : Int) (B : Option Addr) (cb : Nat) (o : List Int) => [ow B 3 cb (ints o), ro T (hdrs ts), rowsR ts]) (fun (k : Int) (B : Option Addr) (cb : Nat) (o : List Int) => (0 ≤ k ∧ k ≤ nt) ∧ o = (hardL ts).take k.toNat) (fun (k : Int) (B : Option Addr) (cb : Nat) (o : List Int) => (nt - k).toNat) (0) (none) (0) ([]) ⟨rfl, rfl, rfl, rfl, trivial⟩ (by first | exact cs _ _ | exact CSub.refl _) (⟨⟨by omega, by omega⟩, rfl⟩) (fun k B cb o hI => ?_)
  obtain ⟨⟨hk0, hk1⟩, ho⟩ := hI
  have hol : o.length = k.toNat := by rw [ho, List.length_take, hardL_length]; omega
  refine tr_seq ?_
  refine tr_seq ?_
  refine tr_region fun _ _ _ => ?_
  iterate 2 refine pu rfl rfl rfl rfl rfl ?_
  refine st rfl rfl rfl rfl (rLen rfl rfl) ?_
  refine pu rfl rfl rfl rfl rfl ?_
  refine tr_cond_bool rfl (fun h3 => ?_) (fun h3 => ?_)
  · try simp only [zbA] at h3
    refine tr_skip ?_
    refine tr_seq ?_
    refine tr_block ?_
    refine tr_seq ?_
    refine tr_region fun _ _ _ => ?_
    refine pu rfl rfl rfl rfl rfl ?_
    refine tr_seq ?_
    refine tr_seq ?_
    refine tr_region fun _ _ _ => ?_
    refine pu rfl rfl rfl rfl rfl ?_
    refine tr_block ?_
    refine tr_loop2 (fun (j : Int) (b : Int) => [(6, .int .i64 j), (5, .int .i64 b), (0, .slice T nt ct), (2, .slice none 0 0), (3, .slice B o.length cb), (4, .int .i64 k), (7, .int .i64 k), (8, .slice T nt ct), (9, .int .i64 nt)]) (fun (j : Int) (b : Int) => [ow B 3 cb (ints o), ro T (hdrs ts), rowsR ts]) (fun (j : Int) (b : Int) => (0 ≤ j ∧ j ≤ (ts.getD k.toNat rowD).xs.length) ∧ b = (amin (ts.getD k.toNat rowD).xs j.toNat : Int)) (fun (j : Int) (b : Int) => ((ts.getD k.toNat rowD).xs.length - j).toNat) (0) (0) ⟨rfl, rfl, rfl, rfl, rfl, rfl, rfl, rfl, rfl, trivial⟩ (by first | exact cs _ _ | exact CSub.refl _) (⟨⟨by omega, by omega⟩, rfl⟩) (fun j b hI => ?_)
    haveI : InB k.toNat ts.length := ⟨by omega⟩
    have htk := htr _ (getD_mem (show k.toNat < ts.length by omega) rowD)
    have htl := htk.1
    have hpos : 0 < (ts.getD k.toNat rowD).xs.length := by omega
    obtain ⟨⟨hj0, hj1⟩, hb⟩ := hI
    have hbl := amin_lt hpos j.toNat (by omega)
    refine tr_seq ?_
    refine tr_seq ?_
    haveI : InB k.toNat ts.length := ⟨by omega⟩
    have htk := htr _ (getD_mem (show k.toNat < ts.length by omega) rowD)
    have htl := htk.1
    have hpos : 0 < (ts.getD k.toNat rowD).xs.length := by omega
    refine tr_region fun _ _ _ => ?_
    iterate 3 refine pu rfl rfl rfl rfl rfl ?_
    refine st rfl rfl rfl rfl (rIdxR rfl rfl rfl (by omega) (by omega) (by omega)) ?_
    refine st rfl rfl rfl rfl (rLdR rfl rfl (by omega)) ?_
    refine st rfl rfl rfl rfl (rLen rfl rfl) ?_
    refine pu rfl rfl rfl rfl rfl ?_
    refine tr_cond_bool rfl (fun h7 => ?_) (fun h7 => ?_)
    · try simp only [zbA] at h7
      refine tr_skip ?_
      refine tr_seq ?_
      refine tr_block ?_
      refine tr_seq ?_
      haveI : InB k.toNat ts.length := ⟨by omega⟩
      have htk := htr _ (getD_mem (show k.toNat < ts.length by omega) rowD)
      have htl := htk.1
      have hpos : 0 < (ts.getD k.toNat rowD).xs.length := by omega
      refine tr_draw [0, 1, 2, 3, 4, 5, 6, 7, 8, 9, 10, 11, 12, 13, 14] [] mixed (by kernel_rfl) fun _ _ _ => ?_
      iterate 2 refine pu rfl rfl rfl rfl rfl ?_
      refine st rfl rfl rfl rfl (rIdxR rfl rfl rfl (by omega) (by omega) (by omega)) ?_
      refine st rfl rfl rfl rfl (rLdR rfl rfl (by omega)) ?_
      refine pu rfl rfl rfl rfl rfl ?_
      refine st rfl rfl rfl rfl (rIdxI rfl rfl rfl (by omega) (by omega) (by omega)) ?_
      refine st rfl rfl rfl rfl (rLdI rfl rfl (by omega)) ?_
      iterate 2 refine pu rfl rfl rfl rfl rfl ?_
      refine st rfl rfl rfl rfl (rIdxR rfl rfl rfl (by omega) (by omega) (by omega)) ?_
      refine st rfl rfl rfl rfl (rLdR rfl rfl (by omega)) ?_
      refine pu rfl rfl rfl rfl rfl ?_
      refine st rfl rfl rfl rfl (rIdxI rfl rfl rfl (by omega) (by omega) (by omega)) ?_
      refine st rfl rfl rfl rfl (rLdI rfl rfl (by omega)) ?_
      refine pu rfl rfl rfl rfl rfl ?_
      refine tr_cond_bool rfl (fun h9 => ?_) (fun h9 => ?_)
      · try simp only [zbA] at h9
        refine tr_region fun _ _ _ => ?_
        iterate 2 refine pu rfl rfl rfl rfl rfl ?_
        refine tr_region fun _ _ _ => ?_
        refine pu rfl rfl rfl rfl rfl ?_
        refine st rfl rfl rfl rfl (rAdd rfl rfl rfl (by omega) (by omega)) ?_
        refine pu rfl rfl rfl rfl rfl ?_
        refine ⟨j + 1, j, ⟨rfl, rfl, rfl, rfl, rfl, rfl, rfl, rfl, rfl, trivial⟩, by first | exact cs _ _ | exact CSub.refl _, ?_⟩
        exact ⟨⟨⟨by omega, by omega⟩, by rw [show (j + 1).toNat = j.toNat + 1 by omega, amin_yes (by rw [hb] at h9; simpa using h9)]; omega⟩, by omega⟩
      · try simp only [zbA] at h9
        refine tr_skip ?_
        refine tr_region fun _ _ _ => ?_
        refine pu rfl rfl rfl rfl rfl ?_
        refine st rfl rfl rfl rfl (rAdd rfl rfl rfl (by omega) (by omega)) ?_
        refine pu rfl rfl rfl rfl rfl ?_
        refine ⟨j + 1, b, ⟨rfl, rfl, rfl, rfl, rfl, rfl, rfl, rfl, rfl, trivial⟩, by first | exact cs _ _ | exact CSub.refl _, ?_⟩
        exact ⟨⟨⟨by omega, by omega⟩, by rw [show (j + 1).toNat = j.toNat + 1 by omega, amin_no (by rw [hb] at h9; simpa using h9)]; exact hb⟩, by omega⟩
    · try simp only [zbA] at h7
      refine tr_exit ?_
      refine tr_region fun _ _ _ => ?_
      iterate 2 refine pu rfl rfl rfl rfl rfl ?_
      refine ef rfl rfl (eLit1I rfl rfl rfl rfl (fun A11 => ?_)) 
      refine ef rfl rfl (eAppI rfl rfl rfl rfl rfl (by first | rfl | simp | omega) (by first | rfl | simp | omega) (by first | omega | (simp; omega)) (fun A11a c11a => ?_)) 
      refine pu rfl rfl rfl rfl rfl ?_
      refine tr_region fun _ _ _ => ?_
      refine pu rfl rfl rfl rfl rfl ?_
      refine st rfl rfl rfl rfl (rAdd rfl rfl rfl (by omega) (by omega)) ?_
      refine pu rfl rfl rfl rfl rfl ?_
      refine ⟨k + 1, A11a, c11a, o ++ [b], ⟨rfl, rfl, rfl, rfl, trivial⟩, by first | exact cs _ _ | exact CSub.refl _, ?_⟩
      have hkk : (k + 1).toNat = k.toNat + 1 := by omega
      have hbh : b = (hardI (ts.getD k.toNat rowD).xs : Int) := by rw [hb, show j.toNat = (ts.getD k.toNat rowD).xs.length by omega]; rfl
      exact ⟨⟨⟨by omega, by omega⟩, by rw [hkk, hardL_take ts (by omega), ← ho, hbh]⟩, by omega⟩
  · try simp only [zbA] at h3
    refine tr_exit ?_
    refine tr_seq ?_
    refine tr_region fun _ _ _ => ?_
    iterate 2 refine pu rfl rfl rfl rfl rfl ?_
    have hkt : k.toNat = ts.length := by omega
    have ho2 : o = hardL ts := by rw [ho, hkt, ← hardL_length, List.take_length]
    subst ho2
    exact tr_ret ⟨trivial, _, _, rfl, ⟨_, rfl, B, cb, rfl, rfl⟩, cs _ _, trivial, trivial⟩
theorem ref_ORel_ent : Enters Try.prog 13 := enters_of Try.func13 (by kernel_rfl) (by kernel_rfl)
theorem ref_ORel (T : Option Addr) (nt ct : Nat) (ts : List RowM) (hnt : nt = ts.length) (q : Int) (hq2 : 2 ≤ q) (hq9 : q ≤ 256) (t64 : ts.length ≤ 64) (htr : ∀ r ∈ ts, RowOk q r.xs) :
    Pure Try.prog 13 #[.slice T nt ct] [ro T (hdrs ts), rowsR ts] (one (fun v ch => ∃ B cb, v = .slice B (relL ts).length cb ∧ ch = ow B 3 cb (ints (relL ts)))) := by
  refine pure_of (args := [.slice T nt ct]) 69 Try.func13 rfl rfl rfl ref_ORel_ent ⟨id, id, trivial⟩ (fun w0 => ?_)
  refine tr_seq ?_
  refine tr_region fun _ _ _ => ?_
  refine pu rfl rfl rfl rfl rfl ?_
  refine tr_seq ?_
  refine tr_region fun _ _ _ => ?_
  refine pu rfl rfl rfl rfl rfl ?_
  refine ef rfl rfl (eCall1 rfl rfl rfl (ref_OHard T nt ct ts hnt q hq2 hq9 t64 htr) ⟨rfl, trivial⟩ ?_) 
  rintro _ _ ⟨A1, c1, rfl, rfl⟩
  refine pu rfl rfl rfl rfl rfl ?_
  refine tr_seq ?_
  refine tr_region fun _ _ _ => ?_
  refine pu rfl rfl rfl rfl rfl ?_
  refine tr_seq ?_
  refine tr_seq ?_
  refine tr_region fun _ _ _ => ?_
  refine pu rfl rfl rfl rfl rfl ?_
  refine tr_block ?_
  refine tr_nilI 3 ?_
  refine tr_loop4 (fun (k : Int) (B : Option Addr) (cb : Nat) (o : List Int) => [(4, .slice B o.length cb), (5, .int .i64 k), (0, .slice T nt ct), (2, .slice none 0 0), (3, .slice A1 (hardL ts).length c1)]) (fun (k : Int) (B : Option Addr) (cb : Nat) (o : List Int) => [ow B 3 cb (ints o), ow A1 3 c1 (ints (hardL ts)), ro T (hdrs ts), rowsR ts]) (fun (k : Int) (B : Option Addr) (cb : Nat) (o : List Int) => (0 ≤ k ∧ k ≤ nt) ∧ o = (relL ts).take k.toNat) (fun (k : Int) (B : Option Addr) (cb : Nat) (o : List Int) => (nt - k).toNat) (0) (none) (0) ([]) ⟨rfl, rfl, rfl, rfl, rfl, trivial⟩ (by first | exact cs _ _ | exact CSub.refl _) (⟨⟨by omega, by omega⟩, rfl⟩) (fun k B cb o hI => ?_)
  obtain ⟨⟨hk0, hk1⟩, ho⟩ := hI
  have hol : o.length = k.toNat := by rw [ho, List.length_take, relL_length]; omega
  refine tr_seq ?_
  refine tr_seq ?_
  refine tr_region fun _ _ _ => ?_
  iterate 2 refine pu rfl rfl rfl rfl rfl ?_
  refine st rfl rfl rfl rfl (rLen rfl rfl) ?_
  refine pu rfl rfl rfl rfl rfl ?_
  refine tr_cond_bool rfl (fun h4 => ?_) (fun h4 => ?_)
  · try simp only [zbA] at h4
    refine tr_skip ?_
    refine tr_seq ?_
    refine tr_block ?_
    refine tr_seq ?_
    refine tr_region fun _ _ _ => ?_
    refine pu rfl rfl rfl rfl rfl ?_
    refine tr_seq ?_
    refine tr_seq ?_
    refine tr_region fun _ _ _ => ?_
    refine pu rfl rfl rfl rfl rfl ?_
    refine tr_block ?_
    refine tr_loop2 (fun (i : Int) (s : Int) => [(7, .int .i64 i), (6, .int .i64 s), (0, .slice T nt ct), (2, .slice none 0 0), (3, .slice A1 (hardL ts).length c1), (4, .slice B o.length cb), (5, .int .i64 k), (10, .int .i64 k), (11, .slice T nt ct), (12, .int .i64 nt)]) (fun (i : Int) (s : Int) => [ow B 3 cb (ints o), ow A1 3 c1 (ints (hardL ts)), ro T (hdrs ts), rowsR ts]) (fun (i : Int) (s : Int) => (0 ≤ i ∧ i ≤ (ts.getD k.toNat rowD).xs.length) ∧ s = sec (ts.getD k.toNat rowD).xs (hardI (ts.getD k.toNat rowD).xs) i.toNat) (fun (i : Int) (s : Int) => ((ts.getD k.toNat rowD).xs.length - i).toNat) (0) (-1) ⟨rfl, rfl, rfl, rfl, rfl, rfl, rfl, rfl, rfl, rfl, trivial⟩ (by first | exact cs _ _ | exact CSub.refl _) (⟨⟨by omega, by omega⟩, rfl⟩) (fun i s hI => ?_)
    haveI : InB k.toNat ts.length := ⟨by omega⟩
    have htk := htr _ (getD_mem (show k.toNat < ts.length by omega) rowD)
    have htl := htk.1
    have hpos : 0 < (ts.getD k.toNat rowD).xs.length := by omega
    obtain ⟨⟨hi0, hi1⟩, hs⟩ := hI
    have hsb := sec_bd (b := hardI (ts.getD k.toNat rowD).xs) htk.2 (by omega) i.toNat (by omega)
    have hhk := hardL_getD ts (show k.toNat < ts.length by omega)
    have hhl := hardI_lt hpos
    refine tr_seq ?_
    refine tr_seq ?_
    haveI : InB k.toNat ts.length := ⟨by omega⟩
    have htk := htr _ (getD_mem (show k.toNat < ts.length by omega) rowD)
    have htl := htk.1
    have hpos : 0 < (ts.getD k.toNat rowD).xs.length := by omega
    refine tr_region fun _ _ _ => ?_
    iterate 3 refine pu rfl rfl rfl rfl rfl ?_
    refine st rfl rfl rfl rfl (rIdxR rfl rfl rfl (by omega) (by omega) (by omega)) ?_
    refine st rfl rfl rfl rfl (rLdR rfl rfl (by omega)) ?_
    refine st rfl rfl rfl rfl (rLen rfl rfl) ?_
    refine pu rfl rfl rfl rfl rfl ?_
    refine tr_cond_bool rfl (fun h8 => ?_) (fun h8 => ?_)
    · try simp only [zbA] at h8
      refine tr_skip ?_
      refine tr_seq ?_
      refine tr_block ?_
      refine tr_seq ?_
      haveI : InB k.toNat ts.length := ⟨by omega⟩
      have htk := htr _ (getD_mem (show k.toNat < ts.length by omega) rowD)
      have htl := htk.1
      have hpos : 0 < (ts.getD k.toNat rowD).xs.length := by omega
      have hhk := hardL_getD ts (show k.toNat < ts.length by omega)
      have hhl := hardI_lt hpos
      have hhln := hardL_length ts
      refine tr_region fun _ _ _ => ?_
      iterate 3 refine pu rfl rfl rfl rfl rfl ?_
      refine st rfl rfl rfl rfl (rIdxI rfl rfl rfl (by omega) (by omega) (by omega)) ?_
      refine st rfl rfl rfl rfl (rLdI rfl rfl (by omega)) ?_
      iterate 2 refine pu rfl rfl rfl rfl rfl ?_
      refine stg rfl rfl rfl rfl rfl (fun hb => by (have hq := hb; try simp only [zbA] at hq); exact rMove rfl rfl) ?_
      refine stg rfl rfl rfl rfl rfl (fun hb => by (have hq := hb; try simp only [zbA] at hq); exact rLss rfl (evg rfl hb) rfl) ?_
      refine stg rfl rfl rfl rfl rfl (fun hb => by (have hq := hb; try simp only [zbA] at hq); exact rMove rfl (evg rfl hb)) ?_
      refine stg2 rfl rfl rfl rfl rfl (fun hb => by (have hq := hb; try simp only [zbA] at hq); exact rMove rfl rfl) ?_
      refine stg2 rfl rfl rfl rfl rfl (fun hb => by (have hq := hb; try simp only [zbA] at hq); exact rMove rfl rfl) ?_
      refine stg2 rfl rfl rfl rfl rfl (fun hb => by (have hq := hb; try simp only [zbA] at hq); exact rIdxR rfl (evg rfl hb) (evg rfl hb) (by omega) (by omega) (by omega)) ?_
      refine stg2 rfl rfl rfl rfl rfl (fun hb => by (have hq := hb; try simp only [zbA] at hq); exact rLdR rfl (evg rfl hb) (by omega)) ?_
      refine stg2 rfl rfl rfl rfl rfl (fun hb => by (have hq := hb; try simp only [zbA] at hq); exact rMove rfl rfl) ?_
      refine stg2 rfl rfl rfl rfl rfl (fun hb => by (have hq := hb; try simp only [zbA] at hq); exact rIdxI rfl (evg rfl hb) (evg rfl hb) (by omega) (by omega) (by omega)) ?_
      refine stg2 rfl rfl rfl rfl rfl (fun hb => by (have hq := hb; try simp only [zbA] at hq); exact rLdI rfl (evg rfl hb) (by omega)) ?_
      refine stg2 rfl rfl rfl rfl rfl (fun hb => by (have hq := hb; try simp only [zbA] at hq); exact rMove rfl rfl) ?_
      refine stg2 rfl rfl rfl rfl rfl (fun hb => by (have hq := hb; try simp only [zbA] at hq); exact rLss rfl (evg rfl hb) (evg rfl hb)) ?_
      refine stg rfl rfl rfl rfl rfl (fun hb => by (have hq := hb; try simp only [zbA] at hq); exact rOrB rfl (evg rfl hb) rfl (evgp rfl hb)) ?_
      refine st rfl rfl rfl rfl (rAndB rfl rfl rfl rfl) ?_
      refine tr_cond_bool rfl (fun h10 => ?_) (fun h10 => ?_)
      · try simp only [zbA] at h10
        haveI : InB k.toNat ts.length := ⟨by omega⟩
        have htk := htr _ (getD_mem (show k.toNat < ts.length by omega) rowD)
        have htl := htk.1
        have hpos : 0 < (ts.getD k.toNat rowD).xs.length := by omega
        refine tr_region fun _ _ _ => ?_
        iterate 2 refine pu rfl rfl rfl rfl rfl ?_
        refine st rfl rfl rfl rfl (rIdxR rfl rfl rfl (by omega) (by omega) (by omega)) ?_
        refine st rfl rfl rfl rfl (rLdR rfl rfl (by omega)) ?_
        refine pu rfl rfl rfl rfl rfl ?_
        refine st rfl rfl rfl rfl (rIdxI rfl rfl rfl (by omega) (by omega) (by omega)) ?_
        refine st rfl rfl rfl rfl (rLdI rfl rfl (by omega)) ?_
        refine pu rfl rfl rfl rfl rfl ?_
        refine tr_region fun _ _ _ => ?_
        refine pu rfl rfl rfl rfl rfl ?_
        refine st rfl rfl rfl rfl (rAdd rfl rfl rfl (by omega) (by omega)) ?_
        refine pu rfl rfl rfl rfl rfl ?_
        refine ⟨i + 1, (ts.getD k.toNat rowD).xs.getD i.toNat 0, ⟨rfl, rfl, rfl, rfl, rfl, rfl, rfl, rfl, rfl, rfl, trivial⟩, by first | exact cs _ _ | exact CSub.refl _, ?_⟩
        exact ⟨⟨⟨by omega, by omega⟩, by rw [show (i + 1).toNat = i.toNat + 1 by omega, sec_yes (by rw [← hs]; omega)]⟩, by omega⟩
      · try simp only [zbA] at h10
        refine tr_skip ?_
        refine tr_region fun _ _ _ => ?_
        refine pu rfl rfl rfl rfl rfl ?_
        refine st rfl rfl rfl rfl (rAdd rfl rfl rfl (by omega) (by omega)) ?_
        refine pu rfl rfl rfl rfl rfl ?_
        refine ⟨i + 1, s, ⟨rfl, rfl, rfl, rfl, rfl, rfl, rfl, rfl, rfl, rfl, trivial⟩, by first | exact cs _ _ | exact CSub.refl _, ?_⟩
        exact ⟨⟨⟨by omega, by omega⟩, by rw [show (i + 1).toNat = i.toNat + 1 by omega, sec_no (by rw [← hs]; omega)]; exact hs⟩, by omega⟩
    · try simp only [zbA] at h8
      refine tr_exit ?_
      haveI : InB k.toNat ts.length := ⟨by omega⟩
      have htk := htr _ (getD_mem (show k.toNat < ts.length by omega) rowD)
      have htl := htk.1
      have hpos : 0 < (ts.getD k.toNat rowD).xs.length := by omega
      have hhk := hardL_getD ts (show k.toNat < ts.length by omega)
      have hhl := hardI_lt hpos
      have hhln := hardL_length ts
      have hsb := sec_bd (b := hardI (ts.getD k.toNat rowD).xs) htk.2 (by omega) i.toNat (by omega)
      have hrb := htk.at (hardI (ts.getD k.toNat rowD).xs)
      refine tr_plan [ow A1 3 c1 (ints (hardL ts)), ro T (hdrs ts), rowsR ts] [(0, 0), (0, 1), (2, 2), (2, 3), (0, 4), (0, 5), (2, 6), (2, 7), (0, 8), (0, 9), (0, 10), (0, 11), (0, 12), (0, 13), (1, 14), (0, 15)] mixed (by kernel_rfl) fun _ _ _ => ?_
      iterate 2 refine pu rfl rfl rfl rfl rfl ?_
      refine stF rfl rfl rfl rfl (cs _ _) (rMove rfl rfl) ?_
      refine stF rfl rfl rfl rfl (cs _ _) (rMove rfl rfl) ?_
      refine st rfl rfl rfl rfl (rIdxR rfl rfl rfl (by omega) (by omega) (by omega)) ?_
      refine st rfl rfl rfl rfl (rLdR rfl rfl (by omega)) ?_
      refine stF rfl rfl rfl rfl (cs _ _) (rMove rfl rfl) ?_
      refine stF rfl rfl rfl rfl (cs _ _) (rMove rfl rfl) ?_
      refine st rfl rfl rfl rfl (rIdxI rfl rfl rfl (by omega) (by omega) (by omega)) ?_
      refine st rfl rfl rfl rfl (rLdI rfl rfl (by omega)) ?_
      simp only [hhk, Int.toNat_natCast]
      refine st rfl rfl rfl rfl (rIdxI rfl rfl rfl (by omega) (by omega) (by omega)) ?_
      refine st rfl rfl rfl rfl (rLdI rfl rfl (by omega)) ?_
      simp only [Int.toNat_natCast]
      refine st rfl rfl rfl rfl (rSub rfl rfl rfl (by omega) (by omega)) ?_
      refine ef rfl rfl (eLit1I rfl rfl rfl rfl (fun A12 => ?_)) 
      refine ef rfl rfl (eAppI rfl rfl rfl rfl rfl (by first | rfl | simp | omega) (by first | rfl | simp | omega) (by first | omega | (simp; omega)) (fun A12a c12a => ?_)) 
      refine ⟨cs _ _, ?_⟩
      refine pu rfl rfl rfl rfl rfl ?_
      refine tr_region fun _ _ _ => ?_
      refine pu rfl rfl rfl rfl rfl ?_
      refine st rfl rfl rfl rfl (rAdd rfl rfl rfl (by omega) (by omega)) ?_
      refine pu rfl rfl rfl rfl rfl ?_
      refine ⟨k + 1, A12a, c12a, o ++ [s - (ts.getD k.toNat rowD).xs.getD (hardI (ts.getD k.toNat rowD).xs) 0], ⟨rfl, rfl, rfl, rfl, rfl, trivial⟩, by first | exact cs _ _ | exact CSub.refl _, ?_⟩
      have hkk : (k + 1).toNat = k.toNat + 1 := by omega
      have hsh : s - (ts.getD k.toNat rowD).xs.getD (hardI (ts.getD k.toNat rowD).xs) 0 = relI (ts.getD k.toNat rowD).xs := by rw [hs, show i.toNat = (ts.getD k.toNat rowD).xs.length by omega]; rfl
      exact ⟨⟨⟨by omega, by omega⟩, by rw [hkk, relL_take ts (by omega), ← ho, hsh]⟩, by omega⟩
  · try simp only [zbA] at h4
    refine tr_exit ?_
    refine tr_seq ?_
    refine tr_region fun _ _ _ => ?_
    iterate 2 refine pu rfl rfl rfl rfl rfl ?_
    have hkt : k.toNat = ts.length := by omega
    have ho2 : o = relL ts := by rw [ho, hkt, ← relL_length, List.take_length]
    subst ho2
    exact tr_ret ⟨trivial, _, _, rfl, ⟨_, rfl, B, cb, rfl, rfl⟩, cs _ _, trivial, trivial⟩
theorem ref_CListC_ent : Enters Try.prog 26 := enters_of Try.func26 (by kernel_rfl) (by kernel_rfl)
theorem ref_CListC (p m : Int) (A : Option Addr) (c : Nat) (mod : List Int) [hF : IsF p m mod] (w : Int) (X : Option Addr) (nx cx : Nat) (l : List Int) (hnx : nx = l.length) (hl : l.length ≤ 17592186044415) :
    Pure Try.prog 26 #[.agg #[.int .i64 p, .int .i64 m, .slice A mod.length c], .slice X nx cx, .int .i64 w] [ro A (ints mod), ro X (ints l)] (isV (.int .i64 (wordC (pw p m) w l))) := by
  have hl9 := hF.short
  have hgq := hF.ord
  refine pure_of (args := [.agg #[.int .i64 p, .int .i64 m, .slice A mod.length c], .slice X nx cx, .int .i64 w]) 14 Try.func26 rfl rfl rfl ref_CListC_ent ⟨id, id, trivial⟩ (fun w0 => ?_)
  refine tr_seq ?_
  refine tr_region fun _ _ _ => ?_
  refine ef rfl rfl (eBox rfl rfl rfl rfl rfl (fun p0 => ?_)) 
  refine pu rfl rfl rfl rfl rfl ?_
  refine tr_seq ?_
  refine tr_seq ?_
  refine tr_region fun _ _ _ => ?_
  refine pu rfl rfl rfl rfl rfl ?_
  refine st rfl rfl rfl rfl (rLen rfl rfl) ?_
  iterate 2 refine pu rfl rfl rfl rfl rfl ?_
  refine tr_cond_bool rfl (fun h1 => ?_) (fun h1 => ?_)
  · try simp only [zbA] at h1
    refine tr_seq ?_
    refine tr_region fun _ _ _ => ?_
    refine pu rfl rfl rfl rfl rfl ?_
    exact tr_ret ⟨trivial, _, _, rfl, ⟨by rw [wordC_len (by omega)], rfl⟩, CSub.nil _, trivial⟩
  · try simp only [zbA] at h1
    refine tr_skip ?_
    refine tr_seq ?_
    refine tr_region fun _ _ _ => ?_
    refine st rfl rfl rfl rfl (rLdS rfl rfl rfl) ?_
    refine pu rfl rfl rfl rfl rfl ?_
    refine ef rfl rfl (eCallV rfl rfl rfl (ref_Entries p m A c mod X nx cx l hnx (by omega)) ⟨rfl, rfl, trivial⟩ ?_) 
    refine pu rfl rfl rfl rfl rfl ?_
    exact tr_ret ⟨trivial, _, _, rfl, ⟨by rw [wordC_ent (by omega), hgq], rfl⟩, CSub.nil _, trivial⟩
theorem ref_CWordC_ent : Enters Try.prog 14 := enters_of Try.func14 (by kernel_rfl) (by kernel_rfl)
theorem ref_CWordC (p m : Int) (A : Option Addr) (c : Nat) (mod : List Int) [hF : IsF p m mod] (w : Int) (Aa : Option Addr) (n ca : Nat) (rs : List RowM) (hn : n = rs.length) (h9 : rs.length ≤ 256) (hc : CodeOk p m mod w rs) (X : Option Addr) (nx cx : Nat) (l : List Int) (hnx : nx = l.length) (hl : l.length ≤ 17592186044415) :
    Pure Try.prog 14 #[.agg #[.int .i64 p, .int .i64 m, .slice A mod.length c, .int .i64 w, .slice Aa n ca], .slice X nx cx] [ro A (ints mod), ro Aa (hdrs rs), rowsR rs, ro X (ints l)] (isV (.int .i64 (wordC (pw p m) w l))) := by
  have hl9 := hF.short
  have hn1 := hc.n1
  have hn64 := hc.n64
  have hlen := hc.len
  have hgd := hc.good
  have h8 := hgd.h8 (N := 17592186044415) (by omega)
  have hck := hc.zero
  refine pure_of (args := [.agg #[.int .i64 p, .int .i64 m, .slice A mod.length c, .int .i64 w, .slice Aa n ca], .slice X nx cx]) 17 Try.func14 rfl rfl rfl ref_CWordC_ent ⟨id, id, id, id, trivial⟩ (fun w0 => ?_)
  refine tr_seq ?_
  refine tr_region fun _ _ _ => ?_
  refine ef rfl rfl (eBox rfl rfl rfl rfl rfl (fun p0 => ?_)) 
  refine pu rfl rfl rfl rfl rfl ?_
  refine tr_seq ?_
  refine tr_region fun _ _ _ => ?_
  refine st rfl rfl rfl rfl (rLdS rfl rfl rfl) ?_
  refine ef rfl rfl (eCallV rfl rfl rfl (ref_CCheck _ _ _ _ _ (by omega) w Aa _ ca rs hn (by omega) h8) ⟨rfl, trivial⟩ ?_) 
  refine pu rfl rfl rfl rfl rfl ?_
  refine tr_seq ?_
  refine tr_seq ?_
  refine tr_region fun _ _ _ => ?_
  iterate 2 refine pu rfl rfl rfl rfl rfl ?_
  refine tr_cond_bool rfl (fun h2 => ?_) (fun h2 => ?_)
  · try simp only [zbA] at h2
    refine tr_region fun _ _ _ => ?_
    refine st rfl rfl rfl rfl (rFld rfl rfl) ?_
    refine st rfl rfl rfl rfl (rLdSF rfl rfl) ?_
    refine pu rfl rfl rfl rfl rfl ?_
    refine st rfl rfl rfl rfl (rFld rfl rfl) ?_
    refine st rfl rfl rfl rfl (rLdF rfl rfl rfl) ?_
    refine ef rfl rfl (eCallV rfl rfl rfl (ref_CListC p m A c mod w X nx cx l hnx hl) ⟨rfl, rfl, rfl, trivial⟩ ?_) 
    refine pu rfl rfl rfl rfl rfl ?_
    refine tr_seq ?_
    refine tr_region fun _ _ _ => ?_
    iterate 2 refine pu rfl rfl rfl rfl rfl ?_
    exact tr_ret ⟨trivial, _, _, rfl, ⟨rfl, rfl⟩, CSub.nil _, trivial⟩
  · try simp only [zbA] at h2
    omega --done
end Go.Proofs.Ytoalphamojhpcaa

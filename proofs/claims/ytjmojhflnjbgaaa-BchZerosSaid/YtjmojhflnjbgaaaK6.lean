/-
  BCHZEROS, PART 6 OF 10. One sentence: the texts behind the law BchZeros, put together.
  Conditions: each theorem's own, written out in it.
-/
import Derived.Test.YtjmojhflnjbgaaaK5
set_option linter.unusedSimpArgs false
set_option linter.unusedVariables false
set_option linter.unusedSectionVars false
set_option linter.unusedSimpArgs false
set_option linter.unusedVariables false
set_option maxRecDepth 100000
namespace Go.Proofs.Ytjmojhflnjbgaaa
open Go.RowKit

theorem slc_Equal_ent : Enters Try.prog 214 := enters_of Try.func214 (by kernel_rfl) (by kernel_rfl)
theorem slc_Equal (A : Option Addr) (n c : Nat) (a : List Int) (hn : n = a.length) (B : Option Addr) (m d : Nat) (b : List Int) (hm : m = b.length) (h9 : a.length ≤ 17592186044415) :
    Pure Try.prog 214 #[.slice A n c, .slice B m d] [ro A (ints a), ro B (ints b)] (isV (.bool (decide (a = b)))) := by
  refine pure_of (args := [.slice A n c, .slice B m d]) 26 Try.func214 rfl rfl rfl slc_Equal_ent ⟨id, id, trivial⟩ (fun w0 => ?_)
  refine tr_seq ?_
  refine tr_region fun _ _ _ => ?_
  refine pu rfl rfl rfl rfl rfl ?_
  refine tr_seq ?_
  refine tr_seq ?_
  refine tr_region fun _ _ _ => ?_
  refine pu rfl rfl rfl rfl rfl ?_
  refine st rfl rfl rfl rfl (rLen rfl rfl) ?_
  refine pu rfl rfl rfl rfl rfl ?_
  refine st rfl rfl rfl rfl (rLen rfl rfl) ?_
  refine pu rfl rfl rfl rfl rfl ?_
  refine tr_cond_bool rfl (fun h1 => ?_) (fun h1 => ?_)
  · try simp only [zb1, zb2, zb3, zb4, zb5, zb6, zb7, zb8, zb9, zb10] at h1
    refine tr_seq ?_
    refine tr_region fun _ _ _ => ?_
    refine pu rfl rfl rfl rfl rfl ?_
    exact tr_ret ⟨trivial, _, _, rfl, ⟨by rw [decide_eq_false (fun h => by rw [h] at hn; omega)], rfl⟩, CSub.nil _, trivial⟩
  · try simp only [zb1, zb2, zb3, zb4, zb5, zb6, zb7, zb8, zb9, zb10] at h1
    refine tr_skip ?_
    refine tr_seq ?_
    refine tr_seq ?_
    refine tr_region fun _ _ _ => ?_
    refine pu rfl rfl rfl rfl rfl ?_
    refine st rfl rfl rfl rfl (rLen rfl rfl) ?_
    refine pu rfl rfl rfl rfl rfl ?_
    refine tr_block ?_
    refine tr_loop1 (fun (i : Nat) => [(13, .int .i64 i), (0, .slice A n c), (1, .slice B m d), (12, .int .i64 n)]) (fun (i : Nat) => [ro A (ints a), ro B (ints b)]) (fun (i : Nat) => i ≤ a.length ∧ a.take i = b.take i) (fun (i : Nat) => a.length - i) (0) ⟨rfl, rfl, rfl, rfl, trivial⟩ (by first | exact cs _ _ | exact CSub.refl _) (⟨by omega, rfl⟩) (fun i hI => ?_)
    obtain ⟨hi, ht⟩ := hI
    have hll : a.length = b.length := by omega
    refine tr_seq ?_
    refine tr_region fun _ _ _ => ?_
    refine pu rfl rfl rfl rfl rfl ?_
    refine tr_seq ?_
    refine tr_cond_bool rfl (fun h4 => ?_) (fun h4 => ?_)
    · try simp only [zb1, zb2, zb3, zb4, zb5, zb6, zb7, zb8, zb9, zb10] at h4
      refine tr_skip ?_
      refine tr_seq ?_
      refine tr_block ?_
      refine tr_seq ?_
      refine tr_region fun _ _ _ => ?_
      iterate 2 refine pu rfl rfl rfl rfl rfl ?_
      refine tr_seq ?_
      refine tr_draw [0, 1, 2, 3, 4, 5, 6, 7, 8] [] mixed (by kernel_rfl) fun _ _ _ => ?_
      iterate 2 refine pu rfl rfl rfl rfl rfl ?_
      refine st rfl rfl rfl rfl (rIdxI rfl rfl rfl (by omega) (by omega) (by omega)) ?_
      refine st rfl rfl rfl rfl (rLdI rfl rfl (by omega)) ?_
      iterate 2 refine pu rfl rfl rfl rfl rfl ?_
      refine st rfl rfl rfl rfl (rIdxI rfl rfl rfl (by omega) (by omega) (by omega)) ?_
      refine st rfl rfl rfl rfl (rLdI rfl rfl (by omega)) ?_
      refine pu rfl rfl rfl rfl rfl ?_
      refine tr_cond_bool rfl (fun h6 => ?_) (fun h6 => ?_)
      · try simp only [zb1, zb2, zb3, zb4, zb5, zb6, zb7, zb8, zb9, zb10] at h6
        refine tr_seq ?_
        refine tr_region fun _ _ _ => ?_
        refine pu rfl rfl rfl rfl rfl ?_
        exact tr_ret ⟨trivial, _, _, rfl, ⟨by rw [decide_eq_false (fun h => h6 (by rw [h]))], rfl⟩, CSub.nil _, trivial⟩
      · try simp only [zb1, zb2, zb3, zb4, zb5, zb6, zb7, zb8, zb9, zb10] at h6
        refine tr_skip ?_
        refine tr_region fun _ _ _ => ?_
        refine st rfl rfl rfl rfl (rAdd rfl rfl rfl (by omega) (by omega)) ?_
        refine pu rfl rfl rfl rfl rfl ?_
        refine ⟨i + 1, ⟨rfl, rfl, rfl, rfl, trivial⟩, by first | exact cs _ _ | exact CSub.refl _, ?_⟩
        exact ⟨⟨by omega, take_eq_next 0 a b hll (by omega) ht (by simpa using h6)⟩, by omega⟩
    · try simp only [zb1, zb2, zb3, zb4, zb5, zb6, zb7, zb8, zb9, zb10] at h4
      refine tr_exit ?_
      refine tr_seq ?_
      refine tr_region fun _ _ _ => ?_
      refine pu rfl rfl rfl rfl rfl ?_
      have hia : i = a.length := by omega
      rw [hia, List.take_length, hll, List.take_length] at ht
      exact tr_ret ⟨trivial, _, _, rfl, ⟨by rw [decide_eq_true ht], rfl⟩, CSub.nil _, trivial⟩

theorem slc_EqualF (r q : RowM) (h9 : r.xs.length ≤ 17592186044415) : Pure Try.prog 214 ([Value.slice r.A r.xs.length r.cap, Value.slice q.A q.xs.length q.cap] ++ []).toArray [ro r.A (ints r.xs), ro q.A (ints q.xs)] (isV (.bool (decide (r.xs = q.xs)))) :=
  slc_Equal _ _ _ r.xs rfl _ _ _ q.xs rfl h9

theorem slc_EqualFunc_ent : Enters Try.prog 213 := enters_of Try.func213 (by kernel_rfl) (by kernel_rfl)
theorem slc_EqualFunc (A : Option Addr) (n c : Nat) (rs : List RowM) (hn : n = rs.length) (B : Option Addr) (m d : Nat) (qs : List RowM) (hm : m = qs.length) (h9 : rs.length ≤ 17592186044415) (h8 : ∀ r ∈ rs, r.xs.length ≤ 17592186044415) :
    Pure Try.prog 213 #[.slice A n c, .slice B m d, .func (.func 214) #[] #[]] [ro A (hdrs rs), rowsR rs, ro B (hdrs qs), rowsR qs] (isV (.bool (decide (xss rs = xss qs)))) := by
  refine pure_of (args := [.slice A n c, .slice B m d, .func (.func 214) #[] #[]]) 32 Try.func213 rfl rfl rfl slc_EqualFunc_ent ⟨id, id, id, id, trivial⟩ (fun w0 => ?_)
  refine tr_seq ?_
  refine tr_region fun _ _ _ => ?_
  refine pu rfl rfl rfl rfl rfl ?_
  refine tr_seq ?_
  refine tr_seq ?_
  refine tr_region fun _ _ _ => ?_
  refine pu rfl rfl rfl rfl rfl ?_
  refine st rfl rfl rfl rfl (rLen rfl rfl) ?_
  refine pu rfl rfl rfl rfl rfl ?_
  refine st rfl rfl rfl rfl (rLen rfl rfl) ?_
  refine pu rfl rfl rfl rfl rfl ?_
  refine tr_cond_bool rfl (fun h1 => ?_) (fun h1 => ?_)
  · try simp only [zb1, zb2, zb3, zb4, zb5, zb6, zb7, zb8, zb9, zb10] at h1
    refine tr_seq ?_
    refine tr_region fun _ _ _ => ?_
    refine pu rfl rfl rfl rfl rfl ?_
    exact tr_ret ⟨trivial, _, _, rfl, ⟨by rw [decide_eq_false (fun h => by have := congrArg List.length h; simp at this; omega)], rfl⟩, CSub.nil _, trivial⟩
  · try simp only [zb1, zb2, zb3, zb4, zb5, zb6, zb7, zb8, zb9, zb10] at h1
    refine tr_skip ?_
    refine tr_seq ?_
    refine tr_seq ?_
    refine tr_region fun _ _ _ => ?_
    refine pu rfl rfl rfl rfl rfl ?_
    refine st rfl rfl rfl rfl (rLen rfl rfl) ?_
    refine pu rfl rfl rfl rfl rfl ?_
    refine tr_block ?_
    refine tr_loop1 (fun (i : Nat) => [(17, .int .i64 i), (1, .slice B m d), (2, .func (.func 214) #[] #[]), (15, .slice A n c), (16, .int .i64 n)]) (fun (i : Nat) => [ro A (hdrs rs), rowsR rs, ro B (hdrs qs), rowsR qs]) (fun (i : Nat) => i ≤ rs.length ∧ (xss rs).take i = (xss qs).take i) (fun (i : Nat) => rs.length - i) (0) ⟨rfl, rfl, rfl, rfl, rfl, trivial⟩ (by first | exact cs _ _ | exact CSub.refl _) (⟨by omega, rfl⟩) (fun i hI => ?_)
    obtain ⟨hi, ht⟩ := hI
    have hll : rs.length = qs.length := by omega
    refine tr_seq ?_
    refine tr_region fun _ _ _ => ?_
    refine pu rfl rfl rfl rfl rfl ?_
    refine tr_seq ?_
    refine tr_cond_bool rfl (fun h4 => ?_) (fun h4 => ?_)
    · try simp only [zb1, zb2, zb3, zb4, zb5, zb6, zb7, zb8, zb9, zb10] at h4
      refine tr_skip ?_
      refine tr_seq ?_
      refine tr_block ?_
      refine tr_seq ?_
      haveI : InB (i : Int).toNat rs.length := ⟨by omega⟩
      haveI : InB (i : Int).toNat qs.length := ⟨by omega⟩
      have hr8 := h8 _ (getD_mem (show (i : Int).toNat < rs.length by omega) rowD)
      refine tr_region fun _ _ _ => ?_
      refine pu rfl rfl rfl rfl rfl ?_
      refine st rfl rfl rfl rfl (rIdxR rfl rfl rfl (by omega) (by omega) (by omega)) ?_
      refine st rfl rfl rfl rfl (rLdR rfl rfl (by omega)) ?_
      iterate 2 refine pu rfl rfl rfl rfl rfl ?_
      refine tr_seq ?_
      refine tr_region fun _ _ _ => ?_
      iterate 2 refine pu rfl rfl rfl rfl rfl ?_
      refine st rfl rfl rfl rfl (rIdxR rfl rfl rfl (by omega) (by omega) (by omega)) ?_
      refine st rfl rfl rfl rfl (rLdR rfl rfl (by omega)) ?_
      refine pu rfl rfl rfl rfl rfl ?_
      refine tr_seq ?_
      refine tr_region fun _ _ _ => ?_
      iterate 3 refine pu rfl rfl rfl rfl rfl ?_
      refine ef rfl rfl (eCallFV rfl rfl rfl rfl (slc_EqualF (rs.getD (i : Int).toNat rowD) (qs.getD (i : Int).toNat rowD) hr8) ⟨rfl, rfl, trivial⟩ inferInstance ?_) 
      refine st rfl rfl rfl rfl (rNotB rfl rfl) ?_
      refine tr_cond_bool rfl (fun h7 => ?_) (fun h7 => ?_)
      · try simp only [zb1, zb2, zb3, zb4, zb5, zb6, zb7, zb8, zb9, zb10] at h7
        refine tr_seq ?_
        refine tr_region fun _ _ _ => ?_
        refine pu rfl rfl rfl rfl rfl ?_
        exact tr_ret ⟨trivial, _, _, rfl, ⟨by rw [decide_eq_false (fun h => by have := congrArg (fun l => l.getD i []) h; simp only [xss_getD] at this; simp only [Int.toNat_natCast] at h7; exact h7 this)], rfl⟩, CSub.nil _, trivial⟩
      · try simp only [zb1, zb2, zb3, zb4, zb5, zb6, zb7, zb8, zb9, zb10] at h7
        refine tr_skip ?_
        refine tr_region fun _ _ _ => ?_
        refine st rfl rfl rfl rfl (rAdd rfl rfl rfl (by omega) (by omega)) ?_
        refine pu rfl rfl rfl rfl rfl ?_
        refine ⟨i + 1, ⟨rfl, rfl, rfl, rfl, rfl, trivial⟩, by first | exact cs _ _ | exact CSub.refl _, ?_⟩
        exact ⟨⟨by omega, take_eq_next [] _ _ (by simpa using hll) (by rw [xss_length]; omega) ht (by rw [xss_getD, xss_getD]; simpa using h7)⟩, by omega⟩
    · try simp only [zb1, zb2, zb3, zb4, zb5, zb6, zb7, zb8, zb9, zb10] at h4
      refine tr_exit ?_
      refine tr_seq ?_
      refine tr_region fun _ _ _ => ?_
      refine pu rfl rfl rfl rfl rfl ?_
      have hia : i = rs.length := by omega
      rw [List.take_of_length_le (by rw [xss_length]; omega), List.take_of_length_le (by rw [xss_length]; omega)] at ht
      exact tr_ret ⟨trivial, _, _, rfl, ⟨by rw [decide_eq_true ht], rfl⟩, CSub.nil _, trivial⟩

theorem fld_CheckN_ent : Enters Try.prog 93 := enters_of Try.func93 (by kernel_rfl) (by kernel_rfl)
theorem fld_CheckN (p m : Int) (A : Option Addr) (c : Nat) (mod : List Int) (hl9 : mod.length ≤ 17592186044415) (hsh : bShp p m mod = false) :
    Pure Try.prog 93 #[.agg #[.int .i64 p, .int .i64 m, .slice A mod.length c]] [ro A (ints mod)] (isV (.int .i64 1)) := by
  refine pure_of (args := [.agg #[.int .i64 p, .int .i64 m, .slice A mod.length c]]) 16 Try.func93 rfl rfl rfl fld_CheckN_ent ⟨id, trivial⟩ (fun w0 => ?_)
  refine tr_seq ?_
  refine tr_region fun _ _ _ => ?_
  refine ef rfl rfl (eBox rfl rfl rfl rfl rfl (fun p0 => ?_)) 
  refine pu rfl rfl rfl rfl rfl ?_
  refine tr_seq ?_
  refine tr_seq ?_
  refine tr_draw [0, 1, 2, 3, 4, 5, 6, 7, 8, 9, 10, 11, 12] [] mixed (by kernel_rfl) fun _ _ _ => ?_
  refine st rfl rfl rfl rfl (rLdS rfl rfl rfl) ?_
  refine ef rfl rfl (eCallV rfl rfl rfl (fld_shape _ _ _ _ _ (by omega)) ⟨rfl, trivial⟩ ?_) 
  refine st rfl rfl rfl rfl (rNotB rfl rfl) ?_
  refine pu rfl rfl rfl rfl rfl ?_
  refine skF rfl rfl (by simp [hsh]) rfl rfl ?_
  refine skF rfl rfl (by simp [hsh]) rfl rfl ?_
  refine skF rfl rfl (by simp [hsh]) rfl rfl ?_
  refine skF rfl rfl (by simp [hsh]) rfl rfl ?_
  refine skF rfl rfl (by simp [hsh]) rfl rfl ?_
  refine skF rfl rfl (by simp [hsh]) rfl rfl ?_
  refine skF rfl rfl (by simp [hsh]) rfl rfl ?_
  refine skF rfl rfl (by simp [hsh]) rfl rfl ?_
  refine st rfl rfl rfl rfl (rPick1 rfl rfl (by simp [hsh]) rfl) ?_
  refine tr_cond_bool rfl (fun h1 => ?_) (fun h1 => ?_)
  · try simp only [zb1, zb2, zb3, zb4, zb5, zb6, zb7, zb8, zb9, zb10] at h1
    refine tr_seq ?_
    refine tr_region fun _ _ _ => ?_
    refine pu rfl rfl rfl rfl rfl ?_
    exact tr_ret ⟨trivial, _, _, rfl, ⟨rfl, rfl⟩, CSub.nil _, trivial⟩
  · try simp only [zb1, zb2, zb3, zb4, zb5, zb6, zb7, zb8, zb9, zb10] at h1
    first | exact absurd trivial h1 | exact absurd rfl h1 | omega | (exact absurd h1 (by simp)) --done

theorem fld_CheckS_ent : Enters Try.prog 93 := enters_of Try.func93 (by kernel_rfl) (by kernel_rfl)
theorem fld_CheckS (p m : Int) (A : Option Addr) (c : Nat) (mod : List Int) (hl9 : mod.length ≤ 17592186044415) (hsh : bShp p m mod = true) :
    Pure Try.prog 93 #[.agg #[.int .i64 p, .int .i64 m, .slice A mod.length c]] [ro A (ints mod)] (isV (.int .i64 (chkF p m mod))) := by
  have hs1 := ((bShp_iff p m mod).1 hsh).1
  have hs2 := (bShp_iff p m mod).1 hsh
  refine pure_of (args := [.agg #[.int .i64 p, .int .i64 m, .slice A mod.length c]]) 16 Try.func93 rfl rfl rfl fld_CheckS_ent ⟨id, trivial⟩ (fun w0 => ?_)
  refine tr_seq ?_
  refine tr_region fun _ _ _ => ?_
  refine ef rfl rfl (eBox rfl rfl rfl rfl rfl (fun p0 => ?_)) 
  refine pu rfl rfl rfl rfl rfl ?_
  refine tr_seq ?_
  refine tr_seq ?_
  refine tr_draw [0, 1, 2, 3, 4, 5, 6, 7, 8, 9, 10, 11, 12] [] mixed (by kernel_rfl) fun _ _ _ => ?_
  refine st rfl rfl rfl rfl (rLdS rfl rfl rfl) ?_
  refine ef rfl rfl (eCallV rfl rfl rfl (fld_shape _ _ _ _ _ (by omega)) ⟨rfl, trivial⟩ ?_) 
  refine st rfl rfl rfl rfl (rNotB rfl rfl) ?_
  refine pu rfl rfl rfl rfl rfl ?_
  refine stT rfl rfl rfl (by simp [hsh]) rfl rfl (rLdS rfl rfl rfl) ?_
  refine stT rfl rfl rfl (by simp [hsh]) rfl rfl (rFld rfl rfl) ?_
  refine stT rfl rfl rfl (by simp [hsh]) rfl rfl (rLdF rfl rfl rfl) ?_
  refine stT rfl rfl rfl (by simp [hsh]) rfl rfl (rFld rfl rfl) ?_
  refine stT rfl rfl rfl (by simp [hsh]) rfl rfl (rLdF rfl rfl rfl) ?_
  refine efT rfl rfl rfl (by simp [hsh]) (eCallV rfl rfl rfl (fld_order _ _) ⟨rfl, rfl, trivial⟩ ?_) 
  refine efT rfl rfl rfl (by simp [hsh]) (eCall1 rfl rfl rfl (fld_gen _ _ _ _ _ hs1 _ hs1.ord) ⟨rfl, rfl, trivial⟩ ?_) 
  rintro _ _ ⟨B, l, cb, rfl, hl, hn, rfl⟩
  refine stT rfl rfl rfl (by simp [hsh]) rfl rfl (rNilS rfl rfl rfl) ?_
  refine st rfl rfl rfl rfl (rPick0 rfl rfl (by simp [hsh]) rfl) ?_
  refine tr_cond_bool rfl (fun h1 => ?_) (fun h1 => ?_)
  · try simp only [zb1, zb2, zb3, zb4, zb5, zb6, zb7, zb8, zb9, zb10] at h1
    refine tr_emptyI (A := B) (xs := l) (fun hemp => ?_)
    have hl0 := hemp h1
    refine tr_seq ?_
    refine tr_region fun _ _ _ => ?_
    refine pu rfl rfl rfl rfl rfl ?_
    rw [hl0] at hl
    exact tr_ret ⟨trivial, _, _, rfl, ⟨by rw [chkF_no fun h => hl.nil (fldN_iff.2 h).2], rfl⟩, CSub.nil _, trivial⟩
  · try simp only [zb1, zb2, zb3, zb4, zb5, zb6, zb7, zb8, zb9, zb10] at h1
    refine tr_skip ?_
    refine tr_seq ?_
    refine tr_region fun _ _ _ => ?_
    refine pu rfl rfl rfl rfl rfl ?_
    have hgn : l ≠ [] := fun h => by
      rw [hn h] at h1
      simp at h1
    have hF : FldR p m mod := fldN_iff.1 ⟨hs2, by
      rcases hl with ⟨x, h⟩ | h
      · exact ⟨x, l, h⟩
      · exact absurd h.1 hgn⟩
    exact tr_ret ⟨trivial, _, _, rfl, ⟨by rw [chkF_ok hF], rfl⟩, CSub.nil _, trivial⟩

theorem fld_Check (p m : Int) (A : Option Addr) (c : Nat) (mod : List Int) (hl9 : mod.length ≤ 17592186044415) : Pure Try.prog 93 #[.agg #[.int .i64 p, .int .i64 m, .slice A mod.length c]] [ro A (ints mod)] (isV (.int .i64 (chkF p m mod))) := by
  cases hsh : bShp p m mod with
  | true => exact fld_CheckS p m A c mod hl9 hsh
  | false =>
    have h := fld_CheckN p m A c mod hl9 hsh
    rwa [← chkF_no (p := p) (m := m) (mod := mod) (fun h => by rw [bShp_true h.1] at hsh; cases hsh)] at h

theorem spc_openNo_ent : Enters Try.prog 189 := enters_of Try.func189 (by kernel_rfl) (by kernel_rfl)
theorem spc_openNo (p m : Int) (A : Option Addr) (c : Nat) (mod : List Int) (hl9 : mod.length ≤ 17592186044415) (hF : ¬ FldR p m mod) (w : Int) (Aa : Option Addr) (n ca : Nat) (rs : List RowM) (hn : n = rs.length) (h9 : rs.length ≤ 17592186044415) (h8 : ∀ r ∈ rs, r.xs.length ≤ 17592186044415) :
    Pure Try.prog 189 #[.agg #[.int .i64 p, .int .i64 m, .slice A mod.length c], .agg #[.int .i64 w, .slice Aa n ca]] [ro A (ints mod), ro Aa (hdrs rs), rowsR rs] (isV (.tuple #[.agg #[.pointer none, .int .i64 0, .slice none 0 0, .slice none 0 0], .int .i64 1])) := by
  refine pure_ofC (args := [.agg #[.int .i64 p, .int .i64 m, .slice A mod.length c], .agg #[.int .i64 w, .slice Aa n ca]]) 38 Try.func189 rfl rfl rfl spc_openNo_ent ⟨id, id, id, trivial⟩ (fun w0 => ?_)
  refine tr_seq ?_
  refine tr_region fun _ _ _ => ?_
  refine ef rfl rfl (eBox rfl rfl rfl rfl rfl (fun p0 => ?_)) 
  refine ef rfl rfl (eBox rfl rfl rfl rfl rfl (fun p0a => ?_)) 
  refine ef rfl rfl (eAlloc rfl rfl rfl (fun p0b => ?_)) 
  refine pu rfl rfl rfl rfl rfl ?_
  refine tr_seq ?_
  refine tr_region fun _ _ _ => ?_
  refine st rfl rfl rfl rfl (rLdS rfl rfl rfl) ?_
  refine st rfl rfl rfl rfl (rLdS rfl rfl rfl) ?_
  refine ef rfl rfl (eCallV rfl rfl rfl (mat_CanonicalNo _ _ _ _ _ hl9 hF w Aa _ ca rs hn h9 h8) ⟨rfl, rfl, trivial⟩ ?_) 
  iterate 4 refine pu rfl rfl rfl rfl rfl ?_
  refine ef rfl rfl (eAlloc rfl rfl rfl (fun p1a => ?_)) 
  refine ef rfl rfl (eStS rfl rfl rfl rfl rfl rfl ?_) 
  iterate 2 refine pu rfl rfl rfl rfl rfl ?_
  refine tr_seq ?_
  refine tr_seq ?_
  refine tr_region fun _ _ _ => ?_
  iterate 2 refine pu rfl rfl rfl rfl rfl ?_
  refine tr_cond_bool rfl (fun h2 => ?_) (fun h2 => ?_)
  · try simp only [zb1, zb2, zb3, zb4, zb5, zb6, zb7, zb8, zb9, zb10] at h2
    refine tr_seq ?_
    refine tr_region fun _ _ _ => ?_
    refine st rfl rfl rfl rfl (rBuild rfl rfl) ?_
    refine pu rfl rfl rfl rfl rfl ?_
    refine ef rfl rfl (eStS rfl rfl rfl rfl rfl rfl ?_) 
    refine pu rfl rfl rfl rfl rfl ?_
    exact tr_ret ⟨trivial, _, _, (.cell rfl (cellS rfl) (.tmp rfl .nil)), ⟨rfl, rfl⟩, CSub.nil _, trivial⟩
  · try simp only [zb1, zb2, zb3, zb4, zb5, zb6, zb7, zb8, zb9, zb10] at h2
    omega --done

theorem spc_openE_ent : Enters Try.prog 189 := enters_of Try.func189 (by kernel_rfl) (by kernel_rfl)
theorem spc_openE (p m : Int) (A : Option Addr) (c : Nat) (mod : List Int) (hl9 : mod.length ≤ 17592186044415) [hF : IsF p m mod] (w : Int) (Aa : Option Addr) (n ca : Nat) (rs : List RowM) (hn : n = rs.length) (h9 : rs.length ≤ 17592186044415) (h8 : ∀ r ∈ rs, r.xs.length ≤ 17592186044415) (hE : rowsC (pw p m) w (xss rs) ≠ 0) :
    Pure Try.prog 189 #[.agg #[.int .i64 p, .int .i64 m, .slice A mod.length c], .agg #[.int .i64 w, .slice Aa n ca]] [ro A (ints mod), ro Aa (hdrs rs), rowsR rs] (isV (.tuple #[.agg #[.pointer none, .int .i64 0, .slice none 0 0, .slice none 0 0], .int .i64 (rowsC (pw p m) w (xss rs))])) := by
  refine pure_ofC (args := [.agg #[.int .i64 p, .int .i64 m, .slice A mod.length c], .agg #[.int .i64 w, .slice Aa n ca]]) 38 Try.func189 rfl rfl rfl spc_openE_ent ⟨id, id, id, trivial⟩ (fun w0 => ?_)
  refine tr_seq ?_
  refine tr_region fun _ _ _ => ?_
  refine ef rfl rfl (eBox rfl rfl rfl rfl rfl (fun p0 => ?_)) 
  refine ef rfl rfl (eBox rfl rfl rfl rfl rfl (fun p0a => ?_)) 
  refine ef rfl rfl (eAlloc rfl rfl rfl (fun p0b => ?_)) 
  refine pu rfl rfl rfl rfl rfl ?_
  refine tr_seq ?_
  refine tr_region fun _ _ _ => ?_
  refine st rfl rfl rfl rfl (rLdS rfl rfl rfl) ?_
  refine st rfl rfl rfl rfl (rLdS rfl rfl rfl) ?_
  refine ef rfl rfl (eCallV rfl rfl rfl (mat_CanonicalE _ _ _ _ _ hl9 w Aa _ ca rs hn h9 h8 hE) ⟨rfl, rfl, trivial⟩ ?_) 
  iterate 4 refine pu rfl rfl rfl rfl rfl ?_
  refine ef rfl rfl (eAlloc rfl rfl rfl (fun p1a => ?_)) 
  refine ef rfl rfl (eStS rfl rfl rfl rfl rfl rfl ?_) 
  iterate 2 refine pu rfl rfl rfl rfl rfl ?_
  refine tr_seq ?_
  refine tr_seq ?_
  refine tr_region fun _ _ _ => ?_
  iterate 2 refine pu rfl rfl rfl rfl rfl ?_
  refine tr_cond_bool rfl (fun h2 => ?_) (fun h2 => ?_)
  · try simp only [zb1, zb2, zb3, zb4, zb5, zb6, zb7, zb8, zb9, zb10] at h2
    refine tr_seq ?_
    refine tr_region fun _ _ _ => ?_
    refine st rfl rfl rfl rfl (rBuild rfl rfl) ?_
    refine pu rfl rfl rfl rfl rfl ?_
    refine ef rfl rfl (eStS rfl rfl rfl rfl rfl rfl ?_) 
    refine pu rfl rfl rfl rfl rfl ?_
    exact tr_ret ⟨trivial, _, _, (.cell rfl (cellS rfl) (.tmp rfl .nil)), ⟨rfl, rfl⟩, CSub.nil _, trivial⟩
  · try simp only [zb1, zb2, zb3, zb4, zb5, zb6, zb7, zb8, zb9, zb10] at h2
    omega --done

theorem spc_openF_ent : Enters Try.prog 189 := enters_of Try.func189 (by kernel_rfl) (by kernel_rfl)
theorem spc_openF (p m : Int) (A : Option Addr) (c : Nat) (mod : List Int) (hl9 : mod.length ≤ 17592186044415) [hF : IsF p m mod] (w : Int) (Aa : Option Addr) (n ca : Nat) (rs : List RowM) (hn : n = rs.length) (h9 : rs.length ≤ 17592186044415) (h8 : ∀ r ∈ rs, r.xs.length ≤ 17592186044415) (hE : rowsC (pw p m) w (xss rs) = 0) (hf : ¬ formP p m mod w.toNat rs) :
    Pure Try.prog 189 #[.agg #[.int .i64 p, .int .i64 m, .slice A mod.length c], .agg #[.int .i64 w, .slice Aa n ca]] [ro A (ints mod), ro Aa (hdrs rs), rowsR rs] (isV (.tuple #[.agg #[.pointer none, .int .i64 0, .slice none 0 0, .slice none 0 0], .int .i64 5])) := by
  obtain ⟨hgd, hw0, hw9, hr9⟩ := rowsC_Gd (p := p) (m := m) hE
  refine pure_ofC (args := [.agg #[.int .i64 p, .int .i64 m, .slice A mod.length c], .agg #[.int .i64 w, .slice Aa n ca]]) 38 Try.func189 rfl rfl rfl spc_openF_ent ⟨id, id, id, trivial⟩ (fun w0 => ?_)
  refine tr_seq ?_
  refine tr_region fun _ _ _ => ?_
  refine ef rfl rfl (eBox rfl rfl rfl rfl rfl (fun p0 => ?_)) 
  refine ef rfl rfl (eBox rfl rfl rfl rfl rfl (fun p0a => ?_)) 
  refine ef rfl rfl (eAlloc rfl rfl rfl (fun p0b => ?_)) 
  refine pu rfl rfl rfl rfl rfl ?_
  refine tr_seq ?_
  refine tr_region fun _ _ _ => ?_
  refine st rfl rfl rfl rfl (rLdS rfl rfl rfl) ?_
  refine st rfl rfl rfl rfl (rLdS rfl rfl rfl) ?_
  refine ef rfl rfl (eCall3 rfl rfl rfl (mat_CanonicalG _ _ _ _ _ hl9 w Aa _ ca rs hn h9 h8 hE) ⟨rfl, rfl, trivial⟩ ?_) 
  rintro _ _ _ _ ⟨B, r3, Bp, cp, ps, rfl, rfl, rfl, rfl, hR, hk⟩
  iterate 4 refine pu rfl rfl rfl rfl rfl ?_
  refine ef rfl rfl (eAlloc rfl rfl rfl (fun p1a => ?_)) 
  refine ef rfl rfl (eStS rfl rfl rfl rfl rfl rfl ?_) 
  iterate 2 refine pu rfl rfl rfl rfl rfl ?_
  refine tr_seq ?_
  refine tr_seq ?_
  refine tr_region fun _ _ _ => ?_
  iterate 2 refine pu rfl rfl rfl rfl rfl ?_
  refine tr_cond_bool rfl (fun h2 => ?_) (fun h2 => ?_)
  · try simp only [zb1, zb2, zb3, zb4, zb5, zb6, zb7, zb8, zb9, zb10] at h2
    first | exact absurd trivial h2 | exact absurd rfl h2 | omega | (exact absurd h2 (by simp)) --done
  · try simp only [zb1, zb2, zb3, zb4, zb5, zb6, zb7, zb8, zb9, zb10] at h2
    refine tr_skip ?_
    refine tr_seq ?_
    refine tr_seq ?_
    refine tr_region fun _ _ _ => ?_
    refine st rfl rfl rfl rfl (rFld rfl rfl) ?_
    refine st rfl rfl rfl rfl (rLdF rfl rfl rfl) ?_
    refine st rfl rfl rfl rfl (rFld rfl rfl) ?_
    refine st rfl rfl rfl rfl (rLdF rfl rfl rfl) ?_
    refine ef rfl rfl (eCallV rfl rfl rfl (slc_EqualFunc _ _ _ r3 rfl _ _ _ rs hn (by omega) (hR.good.h8 (by omega))) ⟨rfl, rfl, rfl, trivial⟩ ?_) 
    refine st rfl rfl rfl rfl (rNotB rfl rfl) ?_
    refine tr_cond_bool rfl (fun h4 => ?_) (fun h4 => ?_)
    · try simp only [zb1, zb2, zb3, zb4, zb5, zb6, zb7, zb8, zb9, zb10] at h4
      refine tr_seq ?_
      refine tr_region fun _ _ _ => ?_
      refine st rfl rfl rfl rfl (rBuild rfl rfl) ?_
      refine ef rfl rfl (eStS rfl rfl rfl rfl rfl rfl ?_) 
      refine pu rfl rfl rfl rfl rfl ?_
      exact tr_ret ⟨trivial, _, _, (.cell rfl (cellS rfl) (.tmp rfl .nil)), ⟨rfl, rfl⟩, CSub.nil _, trivial⟩
    · try simp only [zb1, zb2, zb3, zb4, zb5, zb6, zb7, zb8, zb9, zb10] at h4
      exact absurd ((hR.form_iff hgd).1 (by simpa using h4)) hf --done

theorem spc_openG_ent : Enters Try.prog 189 := enters_of Try.func189 (by kernel_rfl) (by kernel_rfl)
theorem spc_openG (p m : Int) (A : Option Addr) (c : Nat) (mod : List Int) (hl9 : mod.length ≤ 17592186044415) [hF : IsF p m mod] (w : Int) (Aa : Option Addr) (n ca : Nat) (rs : List RowM) (hn : n = rs.length) (h9 : rs.length ≤ 17592186044415) (h8 : ∀ r ∈ rs, r.xs.length ≤ 17592186044415) (hE : rowsC (pw p m) w (xss rs) = 0) (hf : formP p m mod w.toNat rs) :
    Pure Try.prog 189 #[.agg #[.int .i64 p, .int .i64 m, .slice A mod.length c], .agg #[.int .i64 w, .slice Aa n ca]] [ro A (ints mod), ro Aa (hdrs rs), rowsR rs] (two (fun v c1 c2 => ∃ (g : GfM) (Bp : Option Addr) (cp : Nat) (ps : List Int), v = .tuple #[.agg #[.pointer (some g.p), .int .i64 w, .slice Aa n ca, .slice Bp ps.length cp], .int .i64 0] ∧ c1 = gfN g ∧ c2 = ow Bp 3 cp (ints ps) ∧ GOk g p m mod ∧ ∃ qs, ps = qs.map Int.ofNat ∧ Vc.Rr w.toNat (vsR rs : List (Vc (El p m mod))) qs)) := by
  obtain ⟨hgd, hw0, hw9, hr9⟩ := rowsC_Gd (p := p) (m := m) hE
  refine pure_ofC (args := [.agg #[.int .i64 p, .int .i64 m, .slice A mod.length c], .agg #[.int .i64 w, .slice Aa n ca]]) 38 Try.func189 rfl rfl rfl spc_openG_ent ⟨id, id, id, trivial⟩ (fun w0 => ?_)
  refine tr_seq ?_
  refine tr_region fun _ _ _ => ?_
  refine ef rfl rfl (eBox rfl rfl rfl rfl rfl (fun p0 => ?_)) 
  refine ef rfl rfl (eBox rfl rfl rfl rfl rfl (fun p0a => ?_)) 
  refine ef rfl rfl (eAlloc rfl rfl rfl (fun p0b => ?_)) 
  refine pu rfl rfl rfl rfl rfl ?_
  refine tr_seq ?_
  refine tr_region fun _ _ _ => ?_
  refine st rfl rfl rfl rfl (rLdS rfl rfl rfl) ?_
  refine st rfl rfl rfl rfl (rLdS rfl rfl rfl) ?_
  refine ef rfl rfl (eCall3 rfl rfl rfl (mat_CanonicalG _ _ _ _ _ hl9 w Aa _ ca rs hn h9 h8 hE) ⟨rfl, rfl, trivial⟩ ?_) 
  rintro _ _ _ _ ⟨B, r3, Bp, cp, ps, rfl, rfl, rfl, rfl, hR, hk⟩
  iterate 4 refine pu rfl rfl rfl rfl rfl ?_
  refine ef rfl rfl (eAlloc rfl rfl rfl (fun p1a => ?_)) 
  refine ef rfl rfl (eStS rfl rfl rfl rfl rfl rfl ?_) 
  iterate 2 refine pu rfl rfl rfl rfl rfl ?_
  refine tr_seq ?_
  refine tr_seq ?_
  refine tr_region fun _ _ _ => ?_
  iterate 2 refine pu rfl rfl rfl rfl rfl ?_
  refine tr_cond_bool rfl (fun h2 => ?_) (fun h2 => ?_)
  · try simp only [zb1, zb2, zb3, zb4, zb5, zb6, zb7, zb8, zb9, zb10] at h2
    first | exact absurd trivial h2 | exact absurd rfl h2 | omega | (exact absurd h2 (by simp)) --done
  · try simp only [zb1, zb2, zb3, zb4, zb5, zb6, zb7, zb8, zb9, zb10] at h2
    refine tr_skip ?_
    refine tr_seq ?_
    refine tr_seq ?_
    refine tr_region fun _ _ _ => ?_
    refine st rfl rfl rfl rfl (rFld rfl rfl) ?_
    refine st rfl rfl rfl rfl (rLdF rfl rfl rfl) ?_
    refine st rfl rfl rfl rfl (rFld rfl rfl) ?_
    refine st rfl rfl rfl rfl (rLdF rfl rfl rfl) ?_
    refine ef rfl rfl (eCallV rfl rfl rfl (slc_EqualFunc _ _ _ r3 rfl _ _ _ rs hn (by omega) (hR.good.h8 (by omega))) ⟨rfl, rfl, rfl, trivial⟩ ?_) 
    refine st rfl rfl rfl rfl (rNotB rfl rfl) ?_
    refine tr_cond_bool rfl (fun h4 => ?_) (fun h4 => ?_)
    · try simp only [zb1, zb2, zb3, zb4, zb5, zb6, zb7, zb8, zb9, zb10] at h4
      exact absurd ((hR.form_iff hgd).2 hf) (by simpa using h4) --done
    · try simp only [zb1, zb2, zb3, zb4, zb5, zb6, zb7, zb8, zb9, zb10] at h4
      refine tr_skip ?_
      refine tr_seq ?_
      refine tr_region fun _ _ _ => ?_
      refine st rfl rfl rfl rfl (rLdS rfl rfl rfl) ?_
      refine ef rfl rfl (eCall1 rfl rfl rfl (fld_New_ok _ _ _ _ _ hl9 hF.out) ⟨rfl, trivial⟩ ?_) 
      rintro _ _ ⟨g, rfl, rfl, hg⟩
      iterate 5 refine pu rfl rfl rfl rfl rfl ?_
      refine tr_seq ?_
      refine tr_region fun _ _ _ => ?_
      refine pu rfl rfl rfl rfl rfl ?_
      refine st rfl rfl rfl rfl (rLdS rfl rfl rfl) ?_
      refine pu rfl rfl rfl rfl rfl ?_
      refine st rfl rfl rfl rfl (rBuild rfl rfl) ?_
      refine pu rfl rfl rfl rfl rfl ?_
      refine ef rfl rfl (eStS rfl rfl rfl rfl rfl rfl ?_) 
      refine pu rfl rfl rfl rfl rfl ?_
      have he := (hR.form_iff hgd).2 hf
      exact tr_ret ⟨trivial, _, _, (.cell rfl (cellS rfl) (.tmp rfl .nil)), ⟨_, _, rfl, g, Bp, cp, ps, rfl, rfl, rfl, hg, hR.piv he⟩, cs _ _, gfO_excl _ _ _, trivial, trivial⟩

noncomputable def spcC (p m : Int) (mod : List Int) [hF : IsF p m mod] (w : Int) (rs : List RowM) : Int := open Classical in if rowsC (pw p m) w (xss rs) ≠ 0 then rowsC (pw p m) w (xss rs) else if formP p m mod w.toNat rs then 0 else 5

theorem spc_CheckNo_ent : Enters Try.prog 153 := enters_of Try.func153 (by kernel_rfl) (by kernel_rfl)
theorem spc_CheckNo (p m : Int) (A : Option Addr) (c : Nat) (mod : List Int) (hl9 : mod.length ≤ 17592186044415) (hF : ¬ FldR p m mod) (w : Int) (Aa : Option Addr) (n ca : Nat) (rs : List RowM) (hn : n = rs.length) (h9 : rs.length ≤ 17592186044415) (h8 : ∀ r ∈ rs, r.xs.length ≤ 17592186044415) :
    Pure Try.prog 153 #[.agg #[.int .i64 p, .int .i64 m, .slice A mod.length c], .agg #[.int .i64 w, .slice Aa n ca]] [ro A (ints mod), ro Aa (hdrs rs), rowsR rs] (isV (.int .i64 1)) := by
  refine pure_of (args := [.agg #[.int .i64 p, .int .i64 m, .slice A mod.length c], .agg #[.int .i64 w, .slice Aa n ca]]) 14 Try.func153 rfl rfl rfl spc_CheckNo_ent ⟨id, id, id, trivial⟩ (fun w0 => ?_)
  refine tr_seq ?_
  refine tr_region fun _ _ _ => ?_
  refine ef rfl rfl (eBox rfl rfl rfl rfl rfl (fun p0 => ?_)) 
  refine ef rfl rfl (eBox rfl rfl rfl rfl rfl (fun p0a => ?_)) 
  refine pu rfl rfl rfl rfl rfl ?_
  refine tr_seq ?_
  refine tr_region fun _ _ _ => ?_
  refine st rfl rfl rfl rfl (rLdS rfl rfl rfl) ?_
  refine st rfl rfl rfl rfl (rLdS rfl rfl rfl) ?_
  refine ef rfl rfl (eCallV rfl rfl rfl (spc_openNo _ _ _ _ _ hl9 hF w Aa _ ca rs hn h9 h8) ⟨rfl, rfl, trivial⟩ ?_) 
  iterate 3 refine pu rfl rfl rfl rfl rfl ?_
  refine ef rfl rfl (eAlloc rfl rfl rfl (fun p1a => ?_)) 
  refine ef rfl rfl (eStS rfl rfl rfl rfl rfl rfl ?_) 
  refine pu rfl rfl rfl rfl rfl ?_
  refine tr_seq ?_
  refine tr_region fun _ _ _ => ?_
  iterate 2 refine pu rfl rfl rfl rfl rfl ?_
  exact tr_ret ⟨trivial, _, _, rfl, ⟨rfl, rfl⟩, CSub.nil _, trivial⟩

theorem spc_CheckE_ent : Enters Try.prog 153 := enters_of Try.func153 (by kernel_rfl) (by kernel_rfl)
theorem spc_CheckE (p m : Int) (A : Option Addr) (c : Nat) (mod : List Int) (hl9 : mod.length ≤ 17592186044415) [hF : IsF p m mod] (w : Int) (Aa : Option Addr) (n ca : Nat) (rs : List RowM) (hn : n = rs.length) (h9 : rs.length ≤ 17592186044415) (h8 : ∀ r ∈ rs, r.xs.length ≤ 17592186044415) (hE : rowsC (pw p m) w (xss rs) ≠ 0) :
    Pure Try.prog 153 #[.agg #[.int .i64 p, .int .i64 m, .slice A mod.length c], .agg #[.int .i64 w, .slice Aa n ca]] [ro A (ints mod), ro Aa (hdrs rs), rowsR rs] (isV (.int .i64 (rowsC (pw p m) w (xss rs)))) := by
  refine pure_of (args := [.agg #[.int .i64 p, .int .i64 m, .slice A mod.length c], .agg #[.int .i64 w, .slice Aa n ca]]) 14 Try.func153 rfl rfl rfl spc_CheckE_ent ⟨id, id, id, trivial⟩ (fun w0 => ?_)
  refine tr_seq ?_
  refine tr_region fun _ _ _ => ?_
  refine ef rfl rfl (eBox rfl rfl rfl rfl rfl (fun p0 => ?_)) 
  refine ef rfl rfl (eBox rfl rfl rfl rfl rfl (fun p0a => ?_)) 
  refine pu rfl rfl rfl rfl rfl ?_
  refine tr_seq ?_
  refine tr_region fun _ _ _ => ?_
  refine st rfl rfl rfl rfl (rLdS rfl rfl rfl) ?_
  refine st rfl rfl rfl rfl (rLdS rfl rfl rfl) ?_
  refine ef rfl rfl (eCallV rfl rfl rfl (spc_openE _ _ _ _ _ hl9 w Aa _ ca rs hn h9 h8 hE) ⟨rfl, rfl, trivial⟩ ?_) 
  iterate 3 refine pu rfl rfl rfl rfl rfl ?_
  refine ef rfl rfl (eAlloc rfl rfl rfl (fun p1a => ?_)) 
  refine ef rfl rfl (eStS rfl rfl rfl rfl rfl rfl ?_) 
  refine pu rfl rfl rfl rfl rfl ?_
  refine tr_seq ?_
  refine tr_region fun _ _ _ => ?_
  iterate 2 refine pu rfl rfl rfl rfl rfl ?_
  exact tr_ret ⟨trivial, _, _, rfl, ⟨rfl, rfl⟩, CSub.nil _, trivial⟩

theorem spc_CheckF_ent : Enters Try.prog 153 := enters_of Try.func153 (by kernel_rfl) (by kernel_rfl)
theorem spc_CheckF (p m : Int) (A : Option Addr) (c : Nat) (mod : List Int) (hl9 : mod.length ≤ 17592186044415) [hF : IsF p m mod] (w : Int) (Aa : Option Addr) (n ca : Nat) (rs : List RowM) (hn : n = rs.length) (h9 : rs.length ≤ 17592186044415) (h8 : ∀ r ∈ rs, r.xs.length ≤ 17592186044415) (hE : rowsC (pw p m) w (xss rs) = 0) (hf : ¬ formP p m mod w.toNat rs) :
    Pure Try.prog 153 #[.agg #[.int .i64 p, .int .i64 m, .slice A mod.length c], .agg #[.int .i64 w, .slice Aa n ca]] [ro A (ints mod), ro Aa (hdrs rs), rowsR rs] (isV (.int .i64 5)) := by
  refine pure_of (args := [.agg #[.int .i64 p, .int .i64 m, .slice A mod.length c], .agg #[.int .i64 w, .slice Aa n ca]]) 14 Try.func153 rfl rfl rfl spc_CheckF_ent ⟨id, id, id, trivial⟩ (fun w0 => ?_)
  refine tr_seq ?_
  refine tr_region fun _ _ _ => ?_
  refine ef rfl rfl (eBox rfl rfl rfl rfl rfl (fun p0 => ?_)) 
  refine ef rfl rfl (eBox rfl rfl rfl rfl rfl (fun p0a => ?_)) 
  refine pu rfl rfl rfl rfl rfl ?_
  refine tr_seq ?_
  refine tr_region fun _ _ _ => ?_
  refine st rfl rfl rfl rfl (rLdS rfl rfl rfl) ?_
  refine st rfl rfl rfl rfl (rLdS rfl rfl rfl) ?_
  refine ef rfl rfl (eCallV rfl rfl rfl (spc_openF _ _ _ _ _ hl9 w Aa _ ca rs hn h9 h8 hE hf) ⟨rfl, rfl, trivial⟩ ?_) 
  iterate 3 refine pu rfl rfl rfl rfl rfl ?_
  refine ef rfl rfl (eAlloc rfl rfl rfl (fun p1a => ?_)) 
  refine ef rfl rfl (eStS rfl rfl rfl rfl rfl rfl ?_) 
  refine pu rfl rfl rfl rfl rfl ?_
  refine tr_seq ?_
  refine tr_region fun _ _ _ => ?_
  iterate 2 refine pu rfl rfl rfl rfl rfl ?_
  exact tr_ret ⟨trivial, _, _, rfl, ⟨rfl, rfl⟩, CSub.nil _, trivial⟩

theorem spc_CheckG_ent : Enters Try.prog 153 := enters_of Try.func153 (by kernel_rfl) (by kernel_rfl)
theorem spc_CheckG (p m : Int) (A : Option Addr) (c : Nat) (mod : List Int) (hl9 : mod.length ≤ 17592186044415) [hF : IsF p m mod] (w : Int) (Aa : Option Addr) (n ca : Nat) (rs : List RowM) (hn : n = rs.length) (h9 : rs.length ≤ 17592186044415) (h8 : ∀ r ∈ rs, r.xs.length ≤ 17592186044415) (hE : rowsC (pw p m) w (xss rs) = 0) (hf : formP p m mod w.toNat rs) :
    Pure Try.prog 153 #[.agg #[.int .i64 p, .int .i64 m, .slice A mod.length c], .agg #[.int .i64 w, .slice Aa n ca]] [ro A (ints mod), ro Aa (hdrs rs), rowsR rs] (isV (.int .i64 0)) := by
  refine pure_of (args := [.agg #[.int .i64 p, .int .i64 m, .slice A mod.length c], .agg #[.int .i64 w, .slice Aa n ca]]) 14 Try.func153 rfl rfl rfl spc_CheckG_ent ⟨id, id, id, trivial⟩ (fun w0 => ?_)
  refine tr_seq ?_
  refine tr_region fun _ _ _ => ?_
  refine ef rfl rfl (eBox rfl rfl rfl rfl rfl (fun p0 => ?_)) 
  refine ef rfl rfl (eBox rfl rfl rfl rfl rfl (fun p0a => ?_)) 
  refine pu rfl rfl rfl rfl rfl ?_
  refine tr_seq ?_
  refine tr_region fun _ _ _ => ?_
  refine st rfl rfl rfl rfl (rLdS rfl rfl rfl) ?_
  refine st rfl rfl rfl rfl (rLdS rfl rfl rfl) ?_
  refine ef rfl rfl (eCall2 rfl rfl rfl (spc_openG _ _ _ _ _ hl9 w Aa _ ca rs hn h9 h8 hE hf) ⟨rfl, rfl, trivial⟩ ?_) 
  rintro _ _ _ ⟨g, Bp, cp, ps, rfl, rfl, rfl, hg, hq⟩
  iterate 3 refine pu rfl rfl rfl rfl rfl ?_
  refine ef rfl rfl (eAlloc rfl rfl rfl (fun p1a => ?_)) 
  refine ef rfl rfl (eStS rfl rfl rfl rfl rfl rfl ?_) 
  refine pu rfl rfl rfl rfl rfl ?_
  refine tr_seq ?_
  refine tr_region fun _ _ _ => ?_
  iterate 2 refine pu rfl rfl rfl rfl rfl ?_
  exact tr_ret ⟨trivial, _, _, rfl, ⟨rfl, rfl⟩, CSub.nil _, trivial⟩

theorem code_gen_ent : Enters Try.prog 154 := enters_of Try.func154 (by kernel_rfl) (by kernel_rfl)
theorem code_gen (p m : Int) (A : Option Addr) (k c : Nat) (w : Int) (Aa : Option Addr) (n ca : Nat) :
    Pure Try.prog 154 #[.agg #[.int .i64 p, .int .i64 m, .slice A k c, .int .i64 w, .slice Aa n ca]] [] (isV (.agg #[.int .i64 w, .slice Aa n ca])) := by
  refine pure_ofC (args := [.agg #[.int .i64 p, .int .i64 m, .slice A k c, .int .i64 w, .slice Aa n ca]]) 8 Try.func154 rfl rfl rfl code_gen_ent trivial (fun w0 => ?_)
  refine tr_seq ?_
  refine tr_region fun _ _ _ => ?_
  refine ef rfl rfl (eBox rfl rfl rfl rfl rfl (fun p0 => ?_)) 
  refine ef rfl rfl (eAlloc rfl rfl rfl (fun p0a => ?_)) 
  refine tr_seq ?_
  refine tr_region fun _ _ _ => ?_
  refine st rfl rfl rfl rfl (rFld rfl rfl) ?_
  refine st rfl rfl rfl rfl (rLdF rfl rfl rfl) ?_
  refine st rfl rfl rfl rfl (rFld rfl rfl) ?_
  refine st rfl rfl rfl rfl (rLdF rfl rfl rfl) ?_
  refine st rfl rfl rfl rfl (rBuild rfl rfl) ?_
  refine ef rfl rfl (eStS rfl rfl rfl rfl rfl rfl ?_) 
  exact tr_ret ⟨trivial, _, _, (.cell rfl (cellS rfl) .nil), ⟨rfl, rfl⟩, CSub.nil _, trivial⟩

theorem code_lengthNo (n : Int) (h : n < 1 ∨ n > 64) : Pure Try.prog 131 #[.int .i64 n] [] (isV (.int .i64 4)) := by
  have := code_length n
  rwa [if_pos h] at this

theorem code_CheckNo_ent : Enters Try.prog 106 := enters_of Try.func106 (by kernel_rfl) (by kernel_rfl)
theorem code_CheckNo (p m : Int) (A : Option Addr) (c : Nat) (mod : List Int) (hl9 : mod.length ≤ 17592186044415) (hF : ¬ FldR p m mod) (w : Int) (Aa : Option Addr) (n ca : Nat) (rs : List RowM) (hn : n = rs.length) (h9 : rs.length ≤ 17592186044415) (h8 : ∀ r ∈ rs, r.xs.length ≤ 17592186044415) :
    Pure Try.prog 106 #[.agg #[.int .i64 p, .int .i64 m, .slice A mod.length c, .int .i64 w, .slice Aa n ca]] [ro A (ints mod), ro Aa (hdrs rs), rowsR rs] (isV (.int .i64 1)) := by
  have hch := chkF_no hF
  refine pure_of (args := [.agg #[.int .i64 p, .int .i64 m, .slice A mod.length c, .int .i64 w, .slice Aa n ca]]) 19 Try.func106 rfl rfl rfl code_CheckNo_ent ⟨id, id, id, trivial⟩ (fun w0 => ?_)
  refine tr_seq ?_
  refine tr_region fun _ _ _ => ?_
  refine ef rfl rfl (eBox rfl rfl rfl rfl rfl (fun p0 => ?_)) 
  refine pu rfl rfl rfl rfl rfl ?_
  refine tr_seq ?_
  refine tr_seq ?_
  refine tr_region fun _ _ _ => ?_
  refine st rfl rfl rfl rfl (rFld rfl rfl) ?_
  refine st rfl rfl rfl rfl (rLdSF rfl rfl) ?_
  refine ef rfl rfl (eCallV rfl rfl rfl (fld_Check _ _ _ _ _ hl9) ⟨rfl, trivial⟩ ?_) 
  refine pu rfl rfl rfl rfl rfl ?_
  refine tr_cond_bool rfl (fun h1 => ?_) (fun h1 => ?_)
  · try simp only [zb1, zb2, zb3, zb4, zb5, zb6, zb7, zb8, zb9, zb10] at h1
    refine tr_seq ?_
    refine tr_region fun _ _ _ => ?_
    refine pu rfl rfl rfl rfl rfl ?_
    exact tr_ret ⟨trivial, _, _, rfl, ⟨rfl, rfl⟩, CSub.nil _, trivial⟩
  · try simp only [zb1, zb2, zb3, zb4, zb5, zb6, zb7, zb8, zb9, zb10] at h1
    omega --done

theorem code_CheckL_ent : Enters Try.prog 106 := enters_of Try.func106 (by kernel_rfl) (by kernel_rfl)
theorem code_CheckL (p m : Int) (A : Option Addr) (c : Nat) (mod : List Int) (hl9 : mod.length ≤ 17592186044415) [hF : IsF p m mod] (w : Int) (Aa : Option Addr) (n ca : Nat) (rs : List RowM) (hn : n = rs.length) (h9 : rs.length ≤ 17592186044415) (h8 : ∀ r ∈ rs, r.xs.length ≤ 17592186044415) (hb : w < 1 ∨ w > 64) :
    Pure Try.prog 106 #[.agg #[.int .i64 p, .int .i64 m, .slice A mod.length c, .int .i64 w, .slice Aa n ca]] [ro A (ints mod), ro Aa (hdrs rs), rowsR rs] (isV (.int .i64 4)) := by
  have hch := chkF_ok hF.out
  refine pure_of (args := [.agg #[.int .i64 p, .int .i64 m, .slice A mod.length c, .int .i64 w, .slice Aa n ca]]) 19 Try.func106 rfl rfl rfl code_CheckL_ent ⟨id, id, id, trivial⟩ (fun w0 => ?_)
  refine tr_seq ?_
  refine tr_region fun _ _ _ => ?_
  refine ef rfl rfl (eBox rfl rfl rfl rfl rfl (fun p0 => ?_)) 
  refine pu rfl rfl rfl rfl rfl ?_
  refine tr_seq ?_
  refine tr_seq ?_
  refine tr_region fun _ _ _ => ?_
  refine st rfl rfl rfl rfl (rFld rfl rfl) ?_
  refine st rfl rfl rfl rfl (rLdSF rfl rfl) ?_
  refine ef rfl rfl (eCallV rfl rfl rfl (fld_Check _ _ _ _ _ hl9) ⟨rfl, trivial⟩ ?_) 
  refine pu rfl rfl rfl rfl rfl ?_
  refine tr_cond_bool rfl (fun h1 => ?_) (fun h1 => ?_)
  · try simp only [zb1, zb2, zb3, zb4, zb5, zb6, zb7, zb8, zb9, zb10] at h1
    omega --done
  · try simp only [zb1, zb2, zb3, zb4, zb5, zb6, zb7, zb8, zb9, zb10] at h1
    refine tr_skip ?_
    refine tr_seq ?_
    refine tr_seq ?_
    refine tr_region fun _ _ _ => ?_
    refine st rfl rfl rfl rfl (rFld rfl rfl) ?_
    refine st rfl rfl rfl rfl (rLdF rfl rfl rfl) ?_
    refine ef rfl rfl (eCallV rfl rfl rfl (code_lengthNo w hb) ⟨rfl, trivial⟩ ?_) 
    refine pu rfl rfl rfl rfl rfl ?_
    refine tr_seq ?_
    refine tr_region fun _ _ _ => ?_
    iterate 2 refine pu rfl rfl rfl rfl rfl ?_
    refine tr_cond_bool rfl (fun h4 => ?_) (fun h4 => ?_)
    · try simp only [zb1, zb2, zb3, zb4, zb5, zb6, zb7, zb8, zb9, zb10] at h4
      refine tr_seq ?_
      refine tr_region fun _ _ _ => ?_
      iterate 2 refine pu rfl rfl rfl rfl rfl ?_
      exact tr_ret ⟨trivial, _, _, rfl, ⟨rfl, rfl⟩, CSub.nil _, trivial⟩
    · try simp only [zb1, zb2, zb3, zb4, zb5, zb6, zb7, zb8, zb9, zb10] at h4
      first | exact absurd trivial h4 | exact absurd rfl h4 | omega | (exact absurd h4 (by simp)) --done

theorem code_CheckE_ent : Enters Try.prog 106 := enters_of Try.func106 (by kernel_rfl) (by kernel_rfl)
theorem code_CheckE (p m : Int) (A : Option Addr) (c : Nat) (mod : List Int) (hl9 : mod.length ≤ 17592186044415) [hF : IsF p m mod] (w : Int) (Aa : Option Addr) (n ca : Nat) (rs : List RowM) (hn : n = rs.length) (h9 : rs.length ≤ 17592186044415) (h8 : ∀ r ∈ rs, r.xs.length ≤ 17592186044415) (hb : ¬ (w < 1 ∨ w > 64)) (hE : rowsC (pw p m) w (xss rs) ≠ 0) :
    Pure Try.prog 106 #[.agg #[.int .i64 p, .int .i64 m, .slice A mod.length c, .int .i64 w, .slice Aa n ca]] [ro A (ints mod), ro Aa (hdrs rs), rowsR rs] (isV (.int .i64 (rowsC (pw p m) w (xss rs)))) := by
  have hch := chkF_ok hF.out
  refine pure_of (args := [.agg #[.int .i64 p, .int .i64 m, .slice A mod.length c, .int .i64 w, .slice Aa n ca]]) 19 Try.func106 rfl rfl rfl code_CheckE_ent ⟨id, id, id, trivial⟩ (fun w0 => ?_)
  refine tr_seq ?_
  refine tr_region fun _ _ _ => ?_
  refine ef rfl rfl (eBox rfl rfl rfl rfl rfl (fun p0 => ?_)) 
  refine pu rfl rfl rfl rfl rfl ?_
  refine tr_seq ?_
  refine tr_seq ?_
  refine tr_region fun _ _ _ => ?_
  refine st rfl rfl rfl rfl (rFld rfl rfl) ?_
  refine st rfl rfl rfl rfl (rLdSF rfl rfl) ?_
  refine ef rfl rfl (eCallV rfl rfl rfl (fld_Check _ _ _ _ _ hl9) ⟨rfl, trivial⟩ ?_) 
  refine pu rfl rfl rfl rfl rfl ?_
  refine tr_cond_bool rfl (fun h1 => ?_) (fun h1 => ?_)
  · try simp only [zb1, zb2, zb3, zb4, zb5, zb6, zb7, zb8, zb9, zb10] at h1
    omega --done
  · try simp only [zb1, zb2, zb3, zb4, zb5, zb6, zb7, zb8, zb9, zb10] at h1
    refine tr_skip ?_
    refine tr_seq ?_
    refine tr_seq ?_
    refine tr_region fun _ _ _ => ?_
    refine st rfl rfl rfl rfl (rFld rfl rfl) ?_
    refine st rfl rfl rfl rfl (rLdF rfl rfl rfl) ?_
    refine ef rfl rfl (eCallV rfl rfl rfl (code_lengthOk w (by omega) (by omega)) ⟨rfl, trivial⟩ ?_) 
    refine pu rfl rfl rfl rfl rfl ?_
    refine tr_seq ?_
    refine tr_region fun _ _ _ => ?_
    iterate 2 refine pu rfl rfl rfl rfl rfl ?_
    refine tr_cond_bool rfl (fun h4 => ?_) (fun h4 => ?_)
    · try simp only [zb1, zb2, zb3, zb4, zb5, zb6, zb7, zb8, zb9, zb10] at h4
      first | exact absurd trivial h4 | exact absurd rfl h4 | omega | (exact absurd h4 (by simp)) --done
    · try simp only [zb1, zb2, zb3, zb4, zb5, zb6, zb7, zb8, zb9, zb10] at h4
      refine tr_skip ?_
      refine tr_seq ?_
      refine tr_draw [0, 1, 2, 3, 4, 5] [] mixed (by kernel_rfl) fun _ _ _ => ?_
      refine st rfl rfl rfl rfl (rFld rfl rfl) ?_
      refine st rfl rfl rfl rfl (rLdSF rfl rfl) ?_
      refine st rfl rfl rfl rfl (rLdS rfl rfl rfl) ?_
      refine ef rfl rfl (eCallV rfl rfl rfl (code_gen _ _ _ _ _ _ _ _ _) ⟨rfl, trivial⟩ ?_) 
      refine ef rfl rfl (eCallV rfl rfl rfl (spc_CheckE _ _ _ _ _ hl9 w Aa _ ca rs hn h9 h8 hE) ⟨rfl, rfl, trivial⟩ ?_) 
      refine pu rfl rfl rfl rfl rfl ?_
      exact tr_ret ⟨trivial, _, _, rfl, ⟨rfl, rfl⟩, CSub.nil _, trivial⟩

theorem code_CheckF_ent : Enters Try.prog 106 := enters_of Try.func106 (by kernel_rfl) (by kernel_rfl)
theorem code_CheckF (p m : Int) (A : Option Addr) (c : Nat) (mod : List Int) (hl9 : mod.length ≤ 17592186044415) [hF : IsF p m mod] (w : Int) (Aa : Option Addr) (n ca : Nat) (rs : List RowM) (hn : n = rs.length) (h9 : rs.length ≤ 17592186044415) (h8 : ∀ r ∈ rs, r.xs.length ≤ 17592186044415) (hb : ¬ (w < 1 ∨ w > 64)) (hE : rowsC (pw p m) w (xss rs) = 0) (hf : ¬ formP p m mod w.toNat rs) :
    Pure Try.prog 106 #[.agg #[.int .i64 p, .int .i64 m, .slice A mod.length c, .int .i64 w, .slice Aa n ca]] [ro A (ints mod), ro Aa (hdrs rs), rowsR rs] (isV (.int .i64 5)) := by
  have hch := chkF_ok hF.out
  refine pure_of (args := [.agg #[.int .i64 p, .int .i64 m, .slice A mod.length c, .int .i64 w, .slice Aa n ca]]) 19 Try.func106 rfl rfl rfl code_CheckF_ent ⟨id, id, id, trivial⟩ (fun w0 => ?_)
  refine tr_seq ?_
  refine tr_region fun _ _ _ => ?_
  refine ef rfl rfl (eBox rfl rfl rfl rfl rfl (fun p0 => ?_)) 
  refine pu rfl rfl rfl rfl rfl ?_
  refine tr_seq ?_
  refine tr_seq ?_
  refine tr_region fun _ _ _ => ?_
  refine st rfl rfl rfl rfl (rFld rfl rfl) ?_
  refine st rfl rfl rfl rfl (rLdSF rfl rfl) ?_
  refine ef rfl rfl (eCallV rfl rfl rfl (fld_Check _ _ _ _ _ hl9) ⟨rfl, trivial⟩ ?_) 
  refine pu rfl rfl rfl rfl rfl ?_
  refine tr_cond_bool rfl (fun h1 => ?_) (fun h1 => ?_)
  · try simp only [zb1, zb2, zb3, zb4, zb5, zb6, zb7, zb8, zb9, zb10] at h1
    omega --done
  · try simp only [zb1, zb2, zb3, zb4, zb5, zb6, zb7, zb8, zb9, zb10] at h1
    refine tr_skip ?_
    refine tr_seq ?_
    refine tr_seq ?_
    refine tr_region fun _ _ _ => ?_
    refine st rfl rfl rfl rfl (rFld rfl rfl) ?_
    refine st rfl rfl rfl rfl (rLdF rfl rfl rfl) ?_
    refine ef rfl rfl (eCallV rfl rfl rfl (code_lengthOk w (by omega) (by omega)) ⟨rfl, trivial⟩ ?_) 
    refine pu rfl rfl rfl rfl rfl ?_
    refine tr_seq ?_
    refine tr_region fun _ _ _ => ?_
    iterate 2 refine pu rfl rfl rfl rfl rfl ?_
    refine tr_cond_bool rfl (fun h4 => ?_) (fun h4 => ?_)
    · try simp only [zb1, zb2, zb3, zb4, zb5, zb6, zb7, zb8, zb9, zb10] at h4
      first | exact absurd trivial h4 | exact absurd rfl h4 | omega | (exact absurd h4 (by simp)) --done
    · try simp only [zb1, zb2, zb3, zb4, zb5, zb6, zb7, zb8, zb9, zb10] at h4
      refine tr_skip ?_
      refine tr_seq ?_
      refine tr_draw [0, 1, 2, 3, 4, 5] [] mixed (by kernel_rfl) fun _ _ _ => ?_
      refine st rfl rfl rfl rfl (rFld rfl rfl) ?_
      refine st rfl rfl rfl rfl (rLdSF rfl rfl) ?_
      refine st rfl rfl rfl rfl (rLdS rfl rfl rfl) ?_
      refine ef rfl rfl (eCallV rfl rfl rfl (code_gen _ _ _ _ _ _ _ _ _) ⟨rfl, trivial⟩ ?_) 
      refine ef rfl rfl (eCallV rfl rfl rfl (spc_CheckF _ _ _ _ _ hl9 w Aa _ ca rs hn h9 h8 hE hf) ⟨rfl, rfl, trivial⟩ ?_) 
      refine pu rfl rfl rfl rfl rfl ?_
      exact tr_ret ⟨trivial, _, _, rfl, ⟨rfl, rfl⟩, CSub.nil _, trivial⟩

theorem code_CheckG_ent : Enters Try.prog 106 := enters_of Try.func106 (by kernel_rfl) (by kernel_rfl)
theorem code_CheckG (p m : Int) (A : Option Addr) (c : Nat) (mod : List Int) (hl9 : mod.length ≤ 17592186044415) [hF : IsF p m mod] (w : Int) (Aa : Option Addr) (n ca : Nat) (rs : List RowM) (hn : n = rs.length) (h9 : rs.length ≤ 17592186044415) (h8 : ∀ r ∈ rs, r.xs.length ≤ 17592186044415) (hb : ¬ (w < 1 ∨ w > 64)) (hE : rowsC (pw p m) w (xss rs) = 0) (hf : formP p m mod w.toNat rs) :
    Pure Try.prog 106 #[.agg #[.int .i64 p, .int .i64 m, .slice A mod.length c, .int .i64 w, .slice Aa n ca]] [ro A (ints mod), ro Aa (hdrs rs), rowsR rs] (isV (.int .i64 0)) := by
  have hch := chkF_ok hF.out
  refine pure_of (args := [.agg #[.int .i64 p, .int .i64 m, .slice A mod.length c, .int .i64 w, .slice Aa n ca]]) 19 Try.func106 rfl rfl rfl code_CheckG_ent ⟨id, id, id, trivial⟩ (fun w0 => ?_)
  refine tr_seq ?_
  refine tr_region fun _ _ _ => ?_
  refine ef rfl rfl (eBox rfl rfl rfl rfl rfl (fun p0 => ?_)) 
  refine pu rfl rfl rfl rfl rfl ?_
  refine tr_seq ?_
  refine tr_seq ?_
  refine tr_region fun _ _ _ => ?_
  refine st rfl rfl rfl rfl (rFld rfl rfl) ?_
  refine st rfl rfl rfl rfl (rLdSF rfl rfl) ?_
  refine ef rfl rfl (eCallV rfl rfl rfl (fld_Check _ _ _ _ _ hl9) ⟨rfl, trivial⟩ ?_) 
  refine pu rfl rfl rfl rfl rfl ?_
  refine tr_cond_bool rfl (fun h1 => ?_) (fun h1 => ?_)
  · try simp only [zb1, zb2, zb3, zb4, zb5, zb6, zb7, zb8, zb9, zb10] at h1
    omega --done
  · try simp only [zb1, zb2, zb3, zb4, zb5, zb6, zb7, zb8, zb9, zb10] at h1
    refine tr_skip ?_
    refine tr_seq ?_
    refine tr_seq ?_
    refine tr_region fun _ _ _ => ?_
    refine st rfl rfl rfl rfl (rFld rfl rfl) ?_
    refine st rfl rfl rfl rfl (rLdF rfl rfl rfl) ?_
    refine ef rfl rfl (eCallV rfl rfl rfl (code_lengthOk w (by omega) (by omega)) ⟨rfl, trivial⟩ ?_) 
    refine pu rfl rfl rfl rfl rfl ?_
    refine tr_seq ?_
    refine tr_region fun _ _ _ => ?_
    iterate 2 refine pu rfl rfl rfl rfl rfl ?_
    refine tr_cond_bool rfl (fun h4 => ?_) (fun h4 => ?_)
    · try simp only [zb1, zb2, zb3, zb4, zb5, zb6, zb7, zb8, zb9, zb10] at h4
      first | exact absurd trivial h4 | exact absurd rfl h4 | omega | (exact absurd h4 (by simp)) --done
    · try simp only [zb1, zb2, zb3, zb4, zb5, zb6, zb7, zb8, zb9, zb10] at h4
      refine tr_skip ?_
      refine tr_seq ?_
      refine tr_draw [0, 1, 2, 3, 4, 5] [] mixed (by kernel_rfl) fun _ _ _ => ?_
      refine st rfl rfl rfl rfl (rFld rfl rfl) ?_
      refine st rfl rfl rfl rfl (rLdSF rfl rfl) ?_
      refine st rfl rfl rfl rfl (rLdS rfl rfl rfl) ?_
      refine ef rfl rfl (eCallV rfl rfl rfl (code_gen _ _ _ _ _ _ _ _ _) ⟨rfl, trivial⟩ ?_) 
      refine ef rfl rfl (eCallV rfl rfl rfl (spc_CheckG _ _ _ _ _ hl9 w Aa _ ca rs hn h9 h8 hE hf) ⟨rfl, rfl, trivial⟩ ?_) 
      refine pu rfl rfl rfl rfl rfl ?_
      exact tr_ret ⟨trivial, _, _, rfl, ⟨rfl, rfl⟩, CSub.nil _, trivial⟩

theorem code_Check (p m : Int) (A : Option Addr) (c : Nat) (mod : List Int) (hl9 : mod.length ≤ 17592186044415) (w : Int) (Aa : Option Addr) (n ca : Nat) (rs : List RowM) (hn : n = rs.length) (h9 : rs.length ≤ 17592186044415) (h8 : ∀ r ∈ rs, r.xs.length ≤ 17592186044415) : Pure Try.prog 106 #[.agg #[.int .i64 p, .int .i64 m, .slice A mod.length c, .int .i64 w, .slice Aa n ca]] [ro A (ints mod), ro Aa (hdrs rs), rowsR rs] (isV (.int .i64 (codC p m mod w rs))) := by
  by_cases hF : FldR p m mod
  · haveI : IsF p m mod := ⟨hF⟩
    by_cases hb : w < 1 ∨ w > 64
    · rw [codC_ln hb]; exact code_CheckL p m A c mod hl9 w Aa n ca rs hn h9 h8 hb
    · by_cases hE : rowsC (pw p m) w (xss rs) = 0
      · by_cases hf : formP p m mod w.toNat rs
        · rw [codC_ok hb hE hf]; exact code_CheckG p m A c mod hl9 w Aa n ca rs hn h9 h8 hb hE hf
        · rw [codC_fm hb hE hf]; exact code_CheckF p m A c mod hl9 w Aa n ca rs hn h9 h8 hb hE hf
      · rw [codC_rw hb hE]; exact code_CheckE p m A c mod hl9 w Aa n ca rs hn h9 h8 hb hE
  · rw [codC_no w rs hF]; exact code_CheckNo p m A c mod hl9 hF w Aa n ca rs hn h9 h8

theorem ref_SCheckE_ent : Enters Try.prog 105 := enters_of Try.func105 (by kernel_rfl) (by kernel_rfl)
theorem ref_SCheckE (p m : Int) (A : Option Addr) (c : Nat) (mod : List Int) (hl9 : mod.length ≤ 17592186044415) [hF : IsF p m mod] (w : Int) (Aa : Option Addr) (n ca : Nat) (rs : List RowM) (hn : n = rs.length) (h9 : rs.length ≤ 17592186044415) (h8 : ∀ r ∈ rs, r.xs.length ≤ 17592186044415) (hE : rowsC (pw p m) w (xss rs) ≠ 0) :
    Pure Try.prog 105 #[.agg #[.int .i64 p, .int .i64 m, .slice A mod.length c], .agg #[.int .i64 w, .slice Aa n ca]] [ro A (ints mod), ro Aa (hdrs rs), rowsR rs] (isV (.int .i64 (rowsC (pw p m) w (xss rs)))) := by
  refine pure_of (args := [.agg #[.int .i64 p, .int .i64 m, .slice A mod.length c], .agg #[.int .i64 w, .slice Aa n ca]]) 28 Try.func105 rfl rfl rfl ref_SCheckE_ent ⟨id, id, id, trivial⟩ (fun w0 => ?_)
  refine tr_seq ?_
  refine tr_region fun _ _ _ => ?_
  refine ef rfl rfl (eBox rfl rfl rfl rfl rfl (fun p0 => ?_)) 
  refine ef rfl rfl (eBox rfl rfl rfl rfl rfl (fun p0a => ?_)) 
  refine pu rfl rfl rfl rfl rfl ?_
  refine tr_seq ?_
  refine tr_region fun _ _ _ => ?_
  refine st rfl rfl rfl rfl (rLdS rfl rfl rfl) ?_
  refine st rfl rfl rfl rfl (rLdS rfl rfl rfl) ?_
  refine ef rfl rfl (eCallV rfl rfl rfl (ref_RCheckOk _ _ _ _ _ hl9 hF.out (pw p m) hF.ord w Aa _ ca rs hn h9 h8) ⟨rfl, rfl, trivial⟩ ?_) 
  refine pu rfl rfl rfl rfl rfl ?_
  refine tr_seq ?_
  refine tr_seq ?_
  refine tr_region fun _ _ _ => ?_
  iterate 2 refine pu rfl rfl rfl rfl rfl ?_
  refine tr_cond_bool rfl (fun h2 => ?_) (fun h2 => ?_)
  · try simp only [zb1, zb2, zb3, zb4, zb5, zb6, zb7, zb8, zb9, zb10] at h2
    refine tr_seq ?_
    refine tr_region fun _ _ _ => ?_
    iterate 2 refine pu rfl rfl rfl rfl rfl ?_
    exact tr_ret ⟨trivial, _, _, rfl, ⟨rfl, rfl⟩, CSub.nil _, trivial⟩
  · try simp only [zb1, zb2, zb3, zb4, zb5, zb6, zb7, zb8, zb9, zb10] at h2
    omega --done

theorem ref_SCheckF_ent : Enters Try.prog 105 := enters_of Try.func105 (by kernel_rfl) (by kernel_rfl)
theorem ref_SCheckF (p m : Int) (A : Option Addr) (c : Nat) (mod : List Int) (hl9 : mod.length ≤ 17592186044415) [hF : IsF p m mod] (w : Int) (Aa : Option Addr) (n ca : Nat) (rs : List RowM) (hn : n = rs.length) (h9 : rs.length ≤ 17592186044415) (h8 : ∀ r ∈ rs, r.xs.length ≤ 17592186044415) (hE : rowsC (pw p m) w (xss rs) = 0) (hf : ¬ formP p m mod w.toNat rs) :
    Pure Try.prog 105 #[.agg #[.int .i64 p, .int .i64 m, .slice A mod.length c], .agg #[.int .i64 w, .slice Aa n ca]] [ro A (ints mod), ro Aa (hdrs rs), rowsR rs] (isV (.int .i64 5)) := by
  obtain ⟨hgd, hw0, hw9, hr9⟩ := rowsC_Gd (p := p) (m := m) hE
  refine pure_of (args := [.agg #[.int .i64 p, .int .i64 m, .slice A mod.length c], .agg #[.int .i64 w, .slice Aa n ca]]) 28 Try.func105 rfl rfl rfl ref_SCheckF_ent ⟨id, id, id, trivial⟩ (fun w0 => ?_)
  refine tr_seq ?_
  refine tr_region fun _ _ _ => ?_
  refine ef rfl rfl (eBox rfl rfl rfl rfl rfl (fun p0 => ?_)) 
  refine ef rfl rfl (eBox rfl rfl rfl rfl rfl (fun p0a => ?_)) 
  refine pu rfl rfl rfl rfl rfl ?_
  refine tr_seq ?_
  refine tr_region fun _ _ _ => ?_
  refine st rfl rfl rfl rfl (rLdS rfl rfl rfl) ?_
  refine st rfl rfl rfl rfl (rLdS rfl rfl rfl) ?_
  refine ef rfl rfl (eCallV rfl rfl rfl (ref_RCheckOk _ _ _ _ _ hl9 hF.out (pw p m) hF.ord w Aa _ ca rs hn h9 h8) ⟨rfl, rfl, trivial⟩ ?_) 
  refine pu rfl rfl rfl rfl rfl ?_
  refine tr_seq ?_
  refine tr_seq ?_
  refine tr_region fun _ _ _ => ?_
  iterate 2 refine pu rfl rfl rfl rfl rfl ?_
  refine tr_cond_bool rfl (fun h2 => ?_) (fun h2 => ?_)
  · try simp only [zb1, zb2, zb3, zb4, zb5, zb6, zb7, zb8, zb9, zb10] at h2
    omega --done
  · try simp only [zb1, zb2, zb3, zb4, zb5, zb6, zb7, zb8, zb9, zb10] at h2
    refine tr_skip ?_
    refine tr_seq ?_
    refine tr_region fun _ _ _ => ?_
    refine st rfl rfl rfl rfl (rLdS rfl rfl rfl) ?_
    refine st rfl rfl rfl rfl (rFld rfl rfl) ?_
    refine st rfl rfl rfl rfl (rLdF rfl rfl rfl) ?_
    refine st rfl rfl rfl rfl (rFld rfl rfl) ?_
    refine st rfl rfl rfl rfl (rLdF rfl rfl rfl) ?_
    refine ef rfl rfl (eCall3 rfl rfl rfl (ref_RCanon _ _ _ _ _ w hw0 (by omega) Aa _ ca rs hn (by omega) hgd) ⟨rfl, rfl, rfl, trivial⟩ ?_) 
    rintro _ _ _ _ ⟨r3, B, cg, Bp, cp, ps, rfl, rfl, rfl, rfl, hR, hk⟩
    iterate 5 refine pu rfl rfl rfl rfl rfl ?_
    refine tr_seq ?_
    refine tr_seq ?_
    refine tr_region fun _ _ _ => ?_
    refine pu rfl rfl rfl rfl rfl ?_
    refine st rfl rfl rfl rfl (rFld rfl rfl) ?_
    refine st rfl rfl rfl rfl (rLdF rfl rfl rfl) ?_
    refine ef rfl rfl (eCallV rfl rfl rfl (ref_SameRows _ _ _ r3 rfl _ _ _ rs hn (by omega) (hR.good.h8 (by omega))) ⟨rfl, rfl, trivial⟩ ?_) 
    refine st rfl rfl rfl rfl (rNotB rfl rfl) ?_
    refine tr_cond_bool rfl (fun h5 => ?_) (fun h5 => ?_)
    · try simp only [zb1, zb2, zb3, zb4, zb5, zb6, zb7, zb8, zb9, zb10] at h5
      refine tr_seq ?_
      refine tr_region fun _ _ _ => ?_
      refine pu rfl rfl rfl rfl rfl ?_
      exact tr_ret ⟨trivial, _, _, rfl, ⟨rfl, rfl⟩, CSub.nil _, trivial⟩
    · try simp only [zb1, zb2, zb3, zb4, zb5, zb6, zb7, zb8, zb9, zb10] at h5
      exact absurd ((hR.form_iff hgd).1 (by simpa [xss] using h5)) hf --done

theorem ref_SCheckG_ent : Enters Try.prog 105 := enters_of Try.func105 (by kernel_rfl) (by kernel_rfl)
theorem ref_SCheckG (p m : Int) (A : Option Addr) (c : Nat) (mod : List Int) (hl9 : mod.length ≤ 17592186044415) [hF : IsF p m mod] (w : Int) (Aa : Option Addr) (n ca : Nat) (rs : List RowM) (hn : n = rs.length) (h9 : rs.length ≤ 17592186044415) (h8 : ∀ r ∈ rs, r.xs.length ≤ 17592186044415) (hE : rowsC (pw p m) w (xss rs) = 0) (hf : formP p m mod w.toNat rs) :
    Pure Try.prog 105 #[.agg #[.int .i64 p, .int .i64 m, .slice A mod.length c], .agg #[.int .i64 w, .slice Aa n ca]] [ro A (ints mod), ro Aa (hdrs rs), rowsR rs] (isV (.int .i64 0)) := by
  obtain ⟨hgd, hw0, hw9, hr9⟩ := rowsC_Gd (p := p) (m := m) hE
  refine pure_of (args := [.agg #[.int .i64 p, .int .i64 m, .slice A mod.length c], .agg #[.int .i64 w, .slice Aa n ca]]) 28 Try.func105 rfl rfl rfl ref_SCheckG_ent ⟨id, id, id, trivial⟩ (fun w0 => ?_)
  refine tr_seq ?_
  refine tr_region fun _ _ _ => ?_
  refine ef rfl rfl (eBox rfl rfl rfl rfl rfl (fun p0 => ?_)) 
  refine ef rfl rfl (eBox rfl rfl rfl rfl rfl (fun p0a => ?_)) 
  refine pu rfl rfl rfl rfl rfl ?_
  refine tr_seq ?_
  refine tr_region fun _ _ _ => ?_
  refine st rfl rfl rfl rfl (rLdS rfl rfl rfl) ?_
  refine st rfl rfl rfl rfl (rLdS rfl rfl rfl) ?_
  refine ef rfl rfl (eCallV rfl rfl rfl (ref_RCheckOk _ _ _ _ _ hl9 hF.out (pw p m) hF.ord w Aa _ ca rs hn h9 h8) ⟨rfl, rfl, trivial⟩ ?_) 
  refine pu rfl rfl rfl rfl rfl ?_
  refine tr_seq ?_
  refine tr_seq ?_
  refine tr_region fun _ _ _ => ?_
  iterate 2 refine pu rfl rfl rfl rfl rfl ?_
  refine tr_cond_bool rfl (fun h2 => ?_) (fun h2 => ?_)
  · try simp only [zb1, zb2, zb3, zb4, zb5, zb6, zb7, zb8, zb9, zb10] at h2
    omega --done
  · try simp only [zb1, zb2, zb3, zb4, zb5, zb6, zb7, zb8, zb9, zb10] at h2
    refine tr_skip ?_
    refine tr_seq ?_
    refine tr_region fun _ _ _ => ?_
    refine st rfl rfl rfl rfl (rLdS rfl rfl rfl) ?_
    refine st rfl rfl rfl rfl (rFld rfl rfl) ?_
    refine st rfl rfl rfl rfl (rLdF rfl rfl rfl) ?_
    refine st rfl rfl rfl rfl (rFld rfl rfl) ?_
    refine st rfl rfl rfl rfl (rLdF rfl rfl rfl) ?_
    refine ef rfl rfl (eCall3 rfl rfl rfl (ref_RCanon _ _ _ _ _ w hw0 (by omega) Aa _ ca rs hn (by omega) hgd) ⟨rfl, rfl, rfl, trivial⟩ ?_) 
    rintro _ _ _ _ ⟨r3, B, cg, Bp, cp, ps, rfl, rfl, rfl, rfl, hR, hk⟩
    iterate 5 refine pu rfl rfl rfl rfl rfl ?_
    refine tr_seq ?_
    refine tr_seq ?_
    refine tr_region fun _ _ _ => ?_
    refine pu rfl rfl rfl rfl rfl ?_
    refine st rfl rfl rfl rfl (rFld rfl rfl) ?_
    refine st rfl rfl rfl rfl (rLdF rfl rfl rfl) ?_
    refine ef rfl rfl (eCallV rfl rfl rfl (ref_SameRows _ _ _ r3 rfl _ _ _ rs hn (by omega) (hR.good.h8 (by omega))) ⟨rfl, rfl, trivial⟩ ?_) 
    refine st rfl rfl rfl rfl (rNotB rfl rfl) ?_
    refine tr_cond_bool rfl (fun h5 => ?_) (fun h5 => ?_)
    · try simp only [zb1, zb2, zb3, zb4, zb5, zb6, zb7, zb8, zb9, zb10] at h5
      exact absurd ((hR.form_iff hgd).2 hf) (by simpa [xss] using h5) --done
    · try simp only [zb1, zb2, zb3, zb4, zb5, zb6, zb7, zb8, zb9, zb10] at h5
      refine tr_skip ?_
      refine tr_seq ?_
      refine tr_region fun _ _ _ => ?_
      refine pu rfl rfl rfl rfl rfl ?_
      exact tr_ret ⟨trivial, _, _, rfl, ⟨rfl, rfl⟩, CSub.nil _, trivial⟩

theorem ref_CCheckNo_ent : Enters Try.prog 50 := enters_of Try.func50 (by kernel_rfl) (by kernel_rfl)
theorem ref_CCheckNo (p m : Int) (A : Option Addr) (c : Nat) (mod : List Int) (hl9 : mod.length ≤ 17592186044415) (hF : ¬ FldR p m mod) (w : Int) (Aa : Option Addr) (n ca : Nat) (rs : List RowM) (hn : n = rs.length) (h9 : rs.length ≤ 17592186044415) (h8 : ∀ r ∈ rs, r.xs.length ≤ 17592186044415) :
    Pure Try.prog 50 #[.agg #[.int .i64 p, .int .i64 m, .slice A mod.length c, .int .i64 w, .slice Aa n ca]] [ro A (ints mod), ro Aa (hdrs rs), rowsR rs] (isV (.int .i64 1)) := by
  have hch := chkF_no hF
  refine pure_of (args := [.agg #[.int .i64 p, .int .i64 m, .slice A mod.length c, .int .i64 w, .slice Aa n ca]]) 26 Try.func50 rfl rfl rfl ref_CCheckNo_ent ⟨id, id, id, trivial⟩ (fun w0 => ?_)
  refine tr_seq ?_
  refine tr_region fun _ _ _ => ?_
  refine ef rfl rfl (eBox rfl rfl rfl rfl rfl (fun p0 => ?_)) 
  refine pu rfl rfl rfl rfl rfl ?_
  refine tr_seq ?_
  refine tr_region fun _ _ _ => ?_
  refine st rfl rfl rfl rfl (rFld rfl rfl) ?_
  refine st rfl rfl rfl rfl (rLdSF rfl rfl) ?_
  refine ef rfl rfl (eCallV rfl rfl rfl (ref_fldCheck _ _ _ _ _ hl9) ⟨rfl, trivial⟩ ?_) 
  refine pu rfl rfl rfl rfl rfl ?_
  refine tr_seq ?_
  refine tr_seq ?_
  refine tr_region fun _ _ _ => ?_
  iterate 2 refine pu rfl rfl rfl rfl rfl ?_
  refine tr_cond_bool rfl (fun h2 => ?_) (fun h2 => ?_)
  · try simp only [zb1, zb2, zb3, zb4, zb5, zb6, zb7, zb8, zb9, zb10] at h2
    refine tr_seq ?_
    refine tr_region fun _ _ _ => ?_
    iterate 2 refine pu rfl rfl rfl rfl rfl ?_
    exact tr_ret ⟨trivial, _, _, rfl, ⟨by rw [hch], rfl⟩, CSub.nil _, trivial⟩
  · try simp only [zb1, zb2, zb3, zb4, zb5, zb6, zb7, zb8, zb9, zb10] at h2
    omega --done

theorem ref_CCheckL_ent : Enters Try.prog 50 := enters_of Try.func50 (by kernel_rfl) (by kernel_rfl)
theorem ref_CCheckL (p m : Int) (A : Option Addr) (c : Nat) (mod : List Int) (hl9 : mod.length ≤ 17592186044415) [hF : IsF p m mod] (w : Int) (Aa : Option Addr) (n ca : Nat) (rs : List RowM) (hn : n = rs.length) (h9 : rs.length ≤ 17592186044415) (h8 : ∀ r ∈ rs, r.xs.length ≤ 17592186044415) (hb : w < 1 ∨ w > 64) :
    Pure Try.prog 50 #[.agg #[.int .i64 p, .int .i64 m, .slice A mod.length c, .int .i64 w, .slice Aa n ca]] [ro A (ints mod), ro Aa (hdrs rs), rowsR rs] (isV (.int .i64 4)) := by
  have hch := chkF_ok hF.out
  refine pure_of (args := [.agg #[.int .i64 p, .int .i64 m, .slice A mod.length c, .int .i64 w, .slice Aa n ca]]) 26 Try.func50 rfl rfl rfl ref_CCheckL_ent ⟨id, id, id, trivial⟩ (fun w0 => ?_)
  refine tr_seq ?_
  refine tr_region fun _ _ _ => ?_
  refine ef rfl rfl (eBox rfl rfl rfl rfl rfl (fun p0 => ?_)) 
  refine pu rfl rfl rfl rfl rfl ?_
  refine tr_seq ?_
  refine tr_region fun _ _ _ => ?_
  refine st rfl rfl rfl rfl (rFld rfl rfl) ?_
  refine st rfl rfl rfl rfl (rLdSF rfl rfl) ?_
  refine ef rfl rfl (eCallV rfl rfl rfl (ref_fldCheck _ _ _ _ _ hl9) ⟨rfl, trivial⟩ ?_) 
  refine pu rfl rfl rfl rfl rfl ?_
  refine tr_seq ?_
  refine tr_seq ?_
  refine tr_region fun _ _ _ => ?_
  iterate 2 refine pu rfl rfl rfl rfl rfl ?_
  refine tr_cond_bool rfl (fun h2 => ?_) (fun h2 => ?_)
  · try simp only [zb1, zb2, zb3, zb4, zb5, zb6, zb7, zb8, zb9, zb10] at h2
    omega --done
  · try simp only [zb1, zb2, zb3, zb4, zb5, zb6, zb7, zb8, zb9, zb10] at h2
    refine tr_skip ?_
    refine tr_seq ?_
    refine tr_seq ?_
    refine tr_region fun _ _ _ => ?_
    refine st rfl rfl rfl rfl (rFld rfl rfl) ?_
    refine st rfl rfl rfl rfl (rLdF rfl rfl rfl) ?_
    iterate 2 refine pu rfl rfl rfl rfl rfl ?_
    refine stg rfl rfl rfl rfl rfl (fun hb => by (have hq := hb; try simp only [zb1, zb2, zb3, zb4, zb5, zb6, zb7, zb8, zb9, zb10] at hq); exact rFld rfl rfl) ?_
    refine stg rfl rfl rfl rfl rfl (fun hb => by (have hq := hb; try simp only [zb1, zb2, zb3, zb4, zb5, zb6, zb7, zb8, zb9, zb10] at hq); exact rLdF rfl (evg rfl hb) rfl) ?_
    refine stg rfl rfl rfl rfl rfl (fun hb => by (have hq := hb; try simp only [zb1, zb2, zb3, zb4, zb5, zb6, zb7, zb8, zb9, zb10] at hq); exact rGtr rfl (evg rfl hb) rfl) ?_
    refine st rfl rfl rfl rfl (rOrB rfl rfl rfl rfl) ?_
    refine tr_cond_bool rfl (fun h4 => ?_) (fun h4 => ?_)
    · try simp only [zb1, zb2, zb3, zb4, zb5, zb6, zb7, zb8, zb9, zb10] at h4
      refine tr_seq ?_
      refine tr_region fun _ _ _ => ?_
      refine pu rfl rfl rfl rfl rfl ?_
      exact tr_ret ⟨trivial, _, _, rfl, ⟨rfl, rfl⟩, CSub.nil _, trivial⟩
    · try simp only [zb1, zb2, zb3, zb4, zb5, zb6, zb7, zb8, zb9, zb10] at h4
      omega --done

theorem ref_CCheckE_ent : Enters Try.prog 50 := enters_of Try.func50 (by kernel_rfl) (by kernel_rfl)
theorem ref_CCheckE (p m : Int) (A : Option Addr) (c : Nat) (mod : List Int) (hl9 : mod.length ≤ 17592186044415) [hF : IsF p m mod] (w : Int) (Aa : Option Addr) (n ca : Nat) (rs : List RowM) (hn : n = rs.length) (h9 : rs.length ≤ 17592186044415) (h8 : ∀ r ∈ rs, r.xs.length ≤ 17592186044415) (hb : ¬ (w < 1 ∨ w > 64)) (hE : rowsC (pw p m) w (xss rs) ≠ 0) :
    Pure Try.prog 50 #[.agg #[.int .i64 p, .int .i64 m, .slice A mod.length c, .int .i64 w, .slice Aa n ca]] [ro A (ints mod), ro Aa (hdrs rs), rowsR rs] (isV (.int .i64 (rowsC (pw p m) w (xss rs)))) := by
  have hch := chkF_ok hF.out
  refine pure_of (args := [.agg #[.int .i64 p, .int .i64 m, .slice A mod.length c, .int .i64 w, .slice Aa n ca]]) 26 Try.func50 rfl rfl rfl ref_CCheckE_ent ⟨id, id, id, trivial⟩ (fun w0 => ?_)
  refine tr_seq ?_
  refine tr_region fun _ _ _ => ?_
  refine ef rfl rfl (eBox rfl rfl rfl rfl rfl (fun p0 => ?_)) 
  refine pu rfl rfl rfl rfl rfl ?_
  refine tr_seq ?_
  refine tr_region fun _ _ _ => ?_
  refine st rfl rfl rfl rfl (rFld rfl rfl) ?_
  refine st rfl rfl rfl rfl (rLdSF rfl rfl) ?_
  refine ef rfl rfl (eCallV rfl rfl rfl (ref_fldCheck _ _ _ _ _ hl9) ⟨rfl, trivial⟩ ?_) 
  refine pu rfl rfl rfl rfl rfl ?_
  refine tr_seq ?_
  refine tr_seq ?_
  refine tr_region fun _ _ _ => ?_
  iterate 2 refine pu rfl rfl rfl rfl rfl ?_
  refine tr_cond_bool rfl (fun h2 => ?_) (fun h2 => ?_)
  · try simp only [zb1, zb2, zb3, zb4, zb5, zb6, zb7, zb8, zb9, zb10] at h2
    omega --done
  · try simp only [zb1, zb2, zb3, zb4, zb5, zb6, zb7, zb8, zb9, zb10] at h2
    refine tr_skip ?_
    refine tr_seq ?_
    refine tr_seq ?_
    refine tr_region fun _ _ _ => ?_
    refine st rfl rfl rfl rfl (rFld rfl rfl) ?_
    refine st rfl rfl rfl rfl (rLdF rfl rfl rfl) ?_
    iterate 2 refine pu rfl rfl rfl rfl rfl ?_
    refine stg rfl rfl rfl rfl rfl (fun hb => by (have hq := hb; try simp only [zb1, zb2, zb3, zb4, zb5, zb6, zb7, zb8, zb9, zb10] at hq); exact rFld rfl rfl) ?_
    refine stg rfl rfl rfl rfl rfl (fun hb => by (have hq := hb; try simp only [zb1, zb2, zb3, zb4, zb5, zb6, zb7, zb8, zb9, zb10] at hq); exact rLdF rfl (evg rfl hb) rfl) ?_
    refine stg rfl rfl rfl rfl rfl (fun hb => by (have hq := hb; try simp only [zb1, zb2, zb3, zb4, zb5, zb6, zb7, zb8, zb9, zb10] at hq); exact rGtr rfl (evg rfl hb) rfl) ?_
    refine st rfl rfl rfl rfl (rOrB rfl rfl rfl rfl) ?_
    refine tr_cond_bool rfl (fun h4 => ?_) (fun h4 => ?_)
    · try simp only [zb1, zb2, zb3, zb4, zb5, zb6, zb7, zb8, zb9, zb10] at h4
      omega --done
    · try simp only [zb1, zb2, zb3, zb4, zb5, zb6, zb7, zb8, zb9, zb10] at h4
      refine tr_skip ?_
      refine tr_seq ?_
      refine tr_region fun _ _ _ => ?_
      refine st rfl rfl rfl rfl (rFld rfl rfl) ?_
      refine st rfl rfl rfl rfl (rLdSF rfl rfl) ?_
      refine st rfl rfl rfl rfl (rFld rfl rfl) ?_
      refine st rfl rfl rfl rfl (rLdF rfl rfl rfl) ?_
      refine st rfl rfl rfl rfl (rFld rfl rfl) ?_
      refine st rfl rfl rfl rfl (rLdF rfl rfl rfl) ?_
      refine st rfl rfl rfl rfl (rBuild rfl rfl) ?_
      refine ef rfl rfl (eCallV rfl rfl rfl (ref_SCheckE _ _ _ _ _ hl9 w Aa _ ca rs hn h9 h8 hE) ⟨rfl, rfl, trivial⟩ ?_) 
      refine pu rfl rfl rfl rfl rfl ?_
      exact tr_ret ⟨trivial, _, _, rfl, ⟨rfl, rfl⟩, CSub.nil _, trivial⟩

theorem ref_CCheckF_ent : Enters Try.prog 50 := enters_of Try.func50 (by kernel_rfl) (by kernel_rfl)
theorem ref_CCheckF (p m : Int) (A : Option Addr) (c : Nat) (mod : List Int) (hl9 : mod.length ≤ 17592186044415) [hF : IsF p m mod] (w : Int) (Aa : Option Addr) (n ca : Nat) (rs : List RowM) (hn : n = rs.length) (h9 : rs.length ≤ 17592186044415) (h8 : ∀ r ∈ rs, r.xs.length ≤ 17592186044415) (hb : ¬ (w < 1 ∨ w > 64)) (hE : rowsC (pw p m) w (xss rs) = 0) (hf : ¬ formP p m mod w.toNat rs) :
    Pure Try.prog 50 #[.agg #[.int .i64 p, .int .i64 m, .slice A mod.length c, .int .i64 w, .slice Aa n ca]] [ro A (ints mod), ro Aa (hdrs rs), rowsR rs] (isV (.int .i64 5)) := by
  have hch := chkF_ok hF.out
  refine pure_of (args := [.agg #[.int .i64 p, .int .i64 m, .slice A mod.length c, .int .i64 w, .slice Aa n ca]]) 26 Try.func50 rfl rfl rfl ref_CCheckF_ent ⟨id, id, id, trivial⟩ (fun w0 => ?_)
  refine tr_seq ?_
  refine tr_region fun _ _ _ => ?_
  refine ef rfl rfl (eBox rfl rfl rfl rfl rfl (fun p0 => ?_)) 
  refine pu rfl rfl rfl rfl rfl ?_
  refine tr_seq ?_
  refine tr_region fun _ _ _ => ?_
  refine st rfl rfl rfl rfl (rFld rfl rfl) ?_
  refine st rfl rfl rfl rfl (rLdSF rfl rfl) ?_
  refine ef rfl rfl (eCallV rfl rfl rfl (ref_fldCheck _ _ _ _ _ hl9) ⟨rfl, trivial⟩ ?_) 
  refine pu rfl rfl rfl rfl rfl ?_
  refine tr_seq ?_
  refine tr_seq ?_
  refine tr_region fun _ _ _ => ?_
  iterate 2 refine pu rfl rfl rfl rfl rfl ?_
  refine tr_cond_bool rfl (fun h2 => ?_) (fun h2 => ?_)
  · try simp only [zb1, zb2, zb3, zb4, zb5, zb6, zb7, zb8, zb9, zb10] at h2
    omega --done
  · try simp only [zb1, zb2, zb3, zb4, zb5, zb6, zb7, zb8, zb9, zb10] at h2
    refine tr_skip ?_
    refine tr_seq ?_
    refine tr_seq ?_
    refine tr_region fun _ _ _ => ?_
    refine st rfl rfl rfl rfl (rFld rfl rfl) ?_
    refine st rfl rfl rfl rfl (rLdF rfl rfl rfl) ?_
    iterate 2 refine pu rfl rfl rfl rfl rfl ?_
    refine stg rfl rfl rfl rfl rfl (fun hb => by (have hq := hb; try simp only [zb1, zb2, zb3, zb4, zb5, zb6, zb7, zb8, zb9, zb10] at hq); exact rFld rfl rfl) ?_
    refine stg rfl rfl rfl rfl rfl (fun hb => by (have hq := hb; try simp only [zb1, zb2, zb3, zb4, zb5, zb6, zb7, zb8, zb9, zb10] at hq); exact rLdF rfl (evg rfl hb) rfl) ?_
    refine stg rfl rfl rfl rfl rfl (fun hb => by (have hq := hb; try simp only [zb1, zb2, zb3, zb4, zb5, zb6, zb7, zb8, zb9, zb10] at hq); exact rGtr rfl (evg rfl hb) rfl) ?_
    refine st rfl rfl rfl rfl (rOrB rfl rfl rfl rfl) ?_
    refine tr_cond_bool rfl (fun h4 => ?_) (fun h4 => ?_)
    · try simp only [zb1, zb2, zb3, zb4, zb5, zb6, zb7, zb8, zb9, zb10] at h4
      omega --done
    · try simp only [zb1, zb2, zb3, zb4, zb5, zb6, zb7, zb8, zb9, zb10] at h4
      refine tr_skip ?_
      refine tr_seq ?_
      refine tr_region fun _ _ _ => ?_
      refine st rfl rfl rfl rfl (rFld rfl rfl) ?_
      refine st rfl rfl rfl rfl (rLdSF rfl rfl) ?_
      refine st rfl rfl rfl rfl (rFld rfl rfl) ?_
      refine st rfl rfl rfl rfl (rLdF rfl rfl rfl) ?_
      refine st rfl rfl rfl rfl (rFld rfl rfl) ?_
      refine st rfl rfl rfl rfl (rLdF rfl rfl rfl) ?_
      refine st rfl rfl rfl rfl (rBuild rfl rfl) ?_
      refine ef rfl rfl (eCallV rfl rfl rfl (ref_SCheckF _ _ _ _ _ hl9 w Aa _ ca rs hn h9 h8 hE hf) ⟨rfl, rfl, trivial⟩ ?_) 
      refine pu rfl rfl rfl rfl rfl ?_
      exact tr_ret ⟨trivial, _, _, rfl, ⟨rfl, rfl⟩, CSub.nil _, trivial⟩

theorem ref_CCheckG_ent : Enters Try.prog 50 := enters_of Try.func50 (by kernel_rfl) (by kernel_rfl)
theorem ref_CCheckG (p m : Int) (A : Option Addr) (c : Nat) (mod : List Int) (hl9 : mod.length ≤ 17592186044415) [hF : IsF p m mod] (w : Int) (Aa : Option Addr) (n ca : Nat) (rs : List RowM) (hn : n = rs.length) (h9 : rs.length ≤ 17592186044415) (h8 : ∀ r ∈ rs, r.xs.length ≤ 17592186044415) (hb : ¬ (w < 1 ∨ w > 64)) (hE : rowsC (pw p m) w (xss rs) = 0) (hf : formP p m mod w.toNat rs) :
    Pure Try.prog 50 #[.agg #[.int .i64 p, .int .i64 m, .slice A mod.length c, .int .i64 w, .slice Aa n ca]] [ro A (ints mod), ro Aa (hdrs rs), rowsR rs] (isV (.int .i64 0)) := by
  have hch := chkF_ok hF.out
  refine pure_of (args := [.agg #[.int .i64 p, .int .i64 m, .slice A mod.length c, .int .i64 w, .slice Aa n ca]]) 26 Try.func50 rfl rfl rfl ref_CCheckG_ent ⟨id, id, id, trivial⟩ (fun w0 => ?_)
  refine tr_seq ?_
  refine tr_region fun _ _ _ => ?_
  refine ef rfl rfl (eBox rfl rfl rfl rfl rfl (fun p0 => ?_)) 
  refine pu rfl rfl rfl rfl rfl ?_
  refine tr_seq ?_
  refine tr_region fun _ _ _ => ?_
  refine st rfl rfl rfl rfl (rFld rfl rfl) ?_
  refine st rfl rfl rfl rfl (rLdSF rfl rfl) ?_
  refine ef rfl rfl (eCallV rfl rfl rfl (ref_fldCheck _ _ _ _ _ hl9) ⟨rfl, trivial⟩ ?_) 
  refine pu rfl rfl rfl rfl rfl ?_
  refine tr_seq ?_
  refine tr_seq ?_
  refine tr_region fun _ _ _ => ?_
  iterate 2 refine pu rfl rfl rfl rfl rfl ?_
  refine tr_cond_bool rfl (fun h2 => ?_) (fun h2 => ?_)
  · try simp only [zb1, zb2, zb3, zb4, zb5, zb6, zb7, zb8, zb9, zb10] at h2
    omega --done
  · try simp only [zb1, zb2, zb3, zb4, zb5, zb6, zb7, zb8, zb9, zb10] at h2
    refine tr_skip ?_
    refine tr_seq ?_
    refine tr_seq ?_
    refine tr_region fun _ _ _ => ?_
    refine st rfl rfl rfl rfl (rFld rfl rfl) ?_
    refine st rfl rfl rfl rfl (rLdF rfl rfl rfl) ?_
    iterate 2 refine pu rfl rfl rfl rfl rfl ?_
    refine stg rfl rfl rfl rfl rfl (fun hb => by (have hq := hb; try simp only [zb1, zb2, zb3, zb4, zb5, zb6, zb7, zb8, zb9, zb10] at hq); exact rFld rfl rfl) ?_
    refine stg rfl rfl rfl rfl rfl (fun hb => by (have hq := hb; try simp only [zb1, zb2, zb3, zb4, zb5, zb6, zb7, zb8, zb9, zb10] at hq); exact rLdF rfl (evg rfl hb) rfl) ?_
    refine stg rfl rfl rfl rfl rfl (fun hb => by (have hq := hb; try simp only [zb1, zb2, zb3, zb4, zb5, zb6, zb7, zb8, zb9, zb10] at hq); exact rGtr rfl (evg rfl hb) rfl) ?_
    refine st rfl rfl rfl rfl (rOrB rfl rfl rfl rfl) ?_
    refine tr_cond_bool rfl (fun h4 => ?_) (fun h4 => ?_)
    · try simp only [zb1, zb2, zb3, zb4, zb5, zb6, zb7, zb8, zb9, zb10] at h4
      omega --done
    · try simp only [zb1, zb2, zb3, zb4, zb5, zb6, zb7, zb8, zb9, zb10] at h4
      refine tr_skip ?_
      refine tr_seq ?_
      refine tr_region fun _ _ _ => ?_
      refine st rfl rfl rfl rfl (rFld rfl rfl) ?_
      refine st rfl rfl rfl rfl (rLdSF rfl rfl) ?_
      refine st rfl rfl rfl rfl (rFld rfl rfl) ?_
      refine st rfl rfl rfl rfl (rLdF rfl rfl rfl) ?_
      refine st rfl rfl rfl rfl (rFld rfl rfl) ?_
      refine st rfl rfl rfl rfl (rLdF rfl rfl rfl) ?_
      refine st rfl rfl rfl rfl (rBuild rfl rfl) ?_
      refine ef rfl rfl (eCallV rfl rfl rfl (ref_SCheckG _ _ _ _ _ hl9 w Aa _ ca rs hn h9 h8 hE hf) ⟨rfl, rfl, trivial⟩ ?_) 
      refine pu rfl rfl rfl rfl rfl ?_
      exact tr_ret ⟨trivial, _, _, rfl, ⟨rfl, rfl⟩, CSub.nil _, trivial⟩

theorem ref_CCheck (p m : Int) (A : Option Addr) (c : Nat) (mod : List Int) (hl9 : mod.length ≤ 17592186044415) (w : Int) (Aa : Option Addr) (n ca : Nat) (rs : List RowM) (hn : n = rs.length) (h9 : rs.length ≤ 17592186044415) (h8 : ∀ r ∈ rs, r.xs.length ≤ 17592186044415) : Pure Try.prog 50 #[.agg #[.int .i64 p, .int .i64 m, .slice A mod.length c, .int .i64 w, .slice Aa n ca]] [ro A (ints mod), ro Aa (hdrs rs), rowsR rs] (isV (.int .i64 (codC p m mod w rs))) := by
  by_cases hF : FldR p m mod
  · haveI : IsF p m mod := ⟨hF⟩
    by_cases hb : w < 1 ∨ w > 64
    · rw [codC_ln hb]; exact ref_CCheckL p m A c mod hl9 w Aa n ca rs hn h9 h8 hb
    · by_cases hE : rowsC (pw p m) w (xss rs) = 0
      · by_cases hf : formP p m mod w.toNat rs
        · rw [codC_ok hb hE hf]; exact ref_CCheckG p m A c mod hl9 w Aa n ca rs hn h9 h8 hb hE hf
        · rw [codC_fm hb hE hf]; exact ref_CCheckF p m A c mod hl9 w Aa n ca rs hn h9 h8 hb hE hf
      · rw [codC_rw hb hE]; exact ref_CCheckE p m A c mod hl9 w Aa n ca rs hn h9 h8 hb hE
  · rw [codC_no w rs hF]; exact ref_CCheckNo p m A c mod hl9 hF w Aa n ca rs hn h9 h8

end Go.Proofs.Ytjmojhflnjbgaaa

set_option linter.unusedSimpArgs false
set_option linter.unusedVariables false
set_option maxRecDepth 100000
namespace Go.Proofs.Ytjmojhflnjbgaaa
open Go.RowKit









theorem any_nz (o : List Int) : (!o.any fun x => decide (¬ x = 0)) = decide (∀ z ∈ o, z = 0) := by
  by_cases h : ∀ z ∈ o, z = 0
  · rw [decide_eq_true h]
    simp; exact h
  · rw [decide_eq_false h]
    simp; simpa using h


theorem memB_dec {p m : Int} {mod : List Int} [hF : IsF p m mod] {n : Nat} {rs : List RowM} {qs : List Nat} (h : Vc.Rr n (vsR rs : List (Vc (El p m mod))) qs) {l o : List Int} (ho : AllIn (pw p m) o) (e : (rw' o : Vc (El p m mod)) = rw' l - Vc.cmb (fun i => rw' l (qs.getD i 0)) (vsR rs)) :
    decide (∀ z ∈ o, z = 0) = memB p m mod rs l := by
  have := memB_eq h ho e
  cases hb : memB p m mod rs l with
  | true => exact decide_eq_true (this.1 hb)
  | false => exact decide_eq_false fun hh => by rw [this.2 hh] at hb; cases hb












end Go.Proofs.Ytjmojhflnjbgaaa

set_option linter.unusedSimpArgs false
set_option linter.unusedVariables false
set_option maxRecDepth 100000
namespace Go.Proofs.Ytjmojhflnjbgaaa
open Go.RowKit


section
variable {p m : Int} {mod : List Int} [hF : IsF p m mod]
theorem pol_at {l : List Int} {f : Po (El p m mod)} (h : ∀ j, (el (l.getD j 0) : El p m mod) = Po.cf f j) : (pol l : Po (El p m mod)) = f := Po.ext h
end



section
variable {p m : Int} {mod : List Int} [hF : IsF p m mod]
theorem il_C_le (x : Int) (a : List Int) : (il (Po.C (el x) * (pol a : Po (El p m mod)))).length ≤ a.length := by
  rw [il_length]; exact Po.len_le fun j hj => by rw [Po.cf_C_mul, pol_sh a j hj, Fd.mul_zero]
theorem C_neg_one (f : Po (El p m mod)) : Po.C (el (-(el 1 : El p m mod)).1 : El p m mod) * f = -f := Po.ext fun j => by rw [Po.cf_C_mul, el_of, el_one, Po.cf_neg]; grind
end







end Go.Proofs.Ytjmojhflnjbgaaa

set_option linter.unusedSimpArgs false
set_option linter.unusedVariables false
set_option maxRecDepth 100000
namespace Go.Proofs.Ytjmojhflnjbgaaa
open Go.RowKit

theorem ref_MFew_ent : Enters Try.prog 151 := enters_of Try.func151 (by kernel_rfl) (by kernel_rfl)
theorem ref_MFew (Aa : Option Addr) (n ca : Nat) (rs : List RowM) (hn : n = rs.length) (h9 : rs.length ≤ 17592186044415) (h8 : ∀ r ∈ rs, r.xs.length ≤ 17592186044415) :
    Pure Try.prog 151 #[.agg #[.int .i64 0, .slice Aa n ca], .int .i64 4200] [ro Aa (hdrs rs), rowsR rs] (val (fun v => ∃ b : Bool, v = .bool b ∧ (b = true → ∀ r ∈ rs, r.xs.length ≤ 4200))) := by
  refine pure_of (args := [.agg #[.int .i64 0, .slice Aa n ca], .int .i64 4200]) 45 Try.func151 rfl rfl rfl ref_MFew_ent ⟨id, id, trivial⟩ (fun w0 => ?_)
  refine tr_seq ?_
  refine tr_region fun _ _ _ => ?_
  refine ef rfl rfl (eBox rfl rfl rfl rfl rfl (fun p0 => ?_)) 
  refine pu rfl rfl rfl rfl rfl ?_
  refine tr_seq ?_
  refine tr_seq ?_
  refine tr_region fun _ _ _ => ?_
  refine st rfl rfl rfl rfl (rFld rfl rfl) ?_
  refine st rfl rfl rfl rfl (rLdF rfl rfl rfl) ?_
  iterate 2 refine pu rfl rfl rfl rfl rfl ?_
  refine stg rfl rfl rfl rfl rfl (fun hb => by (have hq := hb; try simp only [zb1, zb2, zb3, zb4, zb5, zb6, zb7, zb8, zb9, zb10] at hq); exact rFld rfl rfl) ?_
  refine stg rfl rfl rfl rfl rfl (fun hb => by (have hq := hb; try simp only [zb1, zb2, zb3, zb4, zb5, zb6, zb7, zb8, zb9, zb10] at hq); exact rLdF rfl (evg rfl hb) rfl) ?_
  refine stg rfl rfl rfl rfl rfl (fun hb => by (have hq := hb; try simp only [zb1, zb2, zb3, zb4, zb5, zb6, zb7, zb8, zb9, zb10] at hq); exact rLen rfl (evg rfl hb)) ?_
  refine stg rfl rfl rfl rfl rfl (fun hb => by (have hq := hb; try simp only [zb1, zb2, zb3, zb4, zb5, zb6, zb7, zb8, zb9, zb10] at hq); exact rMove rfl rfl) ?_
  refine stg rfl rfl rfl rfl rfl (fun hb => by (have hq := hb; try simp only [zb1, zb2, zb3, zb4, zb5, zb6, zb7, zb8, zb9, zb10] at hq); exact rGtr rfl (evg rfl hb) (evg rfl hb)) ?_
  refine st rfl rfl rfl rfl (rOrB rfl rfl rfl rfl) ?_
  refine tr_cond_bool rfl (fun h1 => ?_) (fun h1 => ?_)
  · try simp only [zb1, zb2, zb3, zb4, zb5, zb6, zb7, zb8, zb9, zb10] at h1
    skip
    refine tr_seq ?_
    refine tr_region fun _ _ _ => ?_
    refine pu rfl rfl rfl rfl rfl ?_
    exact tr_ret ⟨trivial, _, _, rfl, ⟨rfl, false, rfl, fun h => by cases h⟩, CSub.nil _, trivial⟩
  · try simp only [zb1, zb2, zb3, zb4, zb5, zb6, zb7, zb8, zb9, zb10] at h1
    refine tr_skip ?_
    refine tr_seq ?_
    refine tr_region fun _ _ _ => ?_
    refine pu rfl rfl rfl rfl rfl ?_
    refine st rfl rfl rfl rfl (rFld rfl rfl) ?_
    refine st rfl rfl rfl rfl (rLdF rfl rfl rfl) ?_
    refine st rfl rfl rfl rfl (rLen rfl rfl) ?_
    refine st rfl rfl rfl rfl (rSub rfl rfl rfl (by omega) (by omega)) ?_
    refine pu rfl rfl rfl rfl rfl ?_
    refine tr_seq ?_
    refine tr_seq ?_
    refine tr_region fun _ _ _ => ?_
    refine pu rfl rfl rfl rfl rfl ?_
    refine tr_block ?_
    refine tr_loop2 (fun (k : Int) (lf : Int) => [(5, .int .i64 lf), (6, .int .i64 k), (2, .pointer (some p0))]) (fun (k : Int) (lf : Int) => [blk p0 106 [.int .i64 0, .slice Aa n ca], ro Aa (hdrs rs), rowsR rs]) (fun (k : Int) (lf : Int) => (0 ≤ k ∧ k ≤ n) ∧ (0 ≤ lf ∧ lf ≤ 4200) ∧ ∀ j : Nat, (j : Int) < k → (rs.getD j rowD).xs.length ≤ 4200) (fun (k : Int) (lf : Int) => (n - k).toNat) (0) (4200 - n) ⟨rfl, rfl, rfl, trivial⟩ (by first | exact cs _ _ | exact CSub.refl _) (⟨⟨by omega, by omega⟩, ⟨by omega, by omega⟩, fun j hj => by omega⟩) (fun k lf hI => ?_)
    obtain ⟨⟨hk0, hk1⟩, ⟨hf0, hf1⟩, hall⟩ := hI
    refine tr_seq ?_
    refine tr_seq ?_
    refine tr_region fun _ _ _ => ?_
    refine pu rfl rfl rfl rfl rfl ?_
    refine st rfl rfl rfl rfl (rFld rfl rfl) ?_
    refine st rfl rfl rfl rfl (rLdF rfl rfl rfl) ?_
    refine st rfl rfl rfl rfl (rLen rfl rfl) ?_
    refine pu rfl rfl rfl rfl rfl ?_
    refine tr_cond_bool rfl (fun h5 => ?_) (fun h5 => ?_)
    · try simp only [zb1, zb2, zb3, zb4, zb5, zb6, zb7, zb8, zb9, zb10] at h5
      refine tr_skip ?_
      refine tr_seq ?_
      refine tr_block ?_
      refine tr_seq ?_
      refine tr_seq ?_
      haveI : InB k.toNat rs.length := ⟨by omega⟩
      have hk8 := h8 _ (getD_mem (show k.toNat < rs.length by omega) rowD)
      refine tr_region fun _ _ _ => ?_
      refine st rfl rfl rfl rfl (rFld rfl rfl) ?_
      refine st rfl rfl rfl rfl (rLdF rfl rfl rfl) ?_
      refine pu rfl rfl rfl rfl rfl ?_
      refine st rfl rfl rfl rfl (rIdxR rfl rfl rfl (by omega) (by omega) (by omega)) ?_
      refine st rfl rfl rfl rfl (rLdR rfl rfl (by omega)) ?_
      refine st rfl rfl rfl rfl (rLen rfl rfl) ?_
      iterate 2 refine pu rfl rfl rfl rfl rfl ?_
      refine tr_cond_bool rfl (fun h7 => ?_) (fun h7 => ?_)
      · try simp only [zb1, zb2, zb3, zb4, zb5, zb6, zb7, zb8, zb9, zb10] at h7
        refine tr_seq ?_
        refine tr_region fun _ _ _ => ?_
        refine pu rfl rfl rfl rfl rfl ?_
        exact tr_ret ⟨trivial, _, _, rfl, ⟨rfl, false, rfl, fun h => by cases h⟩, CSub.nil _, trivial⟩
      · try simp only [zb1, zb2, zb3, zb4, zb5, zb6, zb7, zb8, zb9, zb10] at h7
        refine tr_skip ?_
        refine tr_region fun _ _ _ => ?_
        refine pu rfl rfl rfl rfl rfl ?_
        refine st rfl rfl rfl rfl (rFld rfl rfl) ?_
        refine st rfl rfl rfl rfl (rLdF rfl rfl rfl) ?_
        refine pu rfl rfl rfl rfl rfl ?_
        refine st rfl rfl rfl rfl (rIdxR rfl rfl rfl (by omega) (by omega) (by omega)) ?_
        refine st rfl rfl rfl rfl (rLdR rfl rfl (by omega)) ?_
        refine st rfl rfl rfl rfl (rLen rfl rfl) ?_
        refine st rfl rfl rfl rfl (rSub rfl rfl rfl (by omega) (by omega)) ?_
        refine pu rfl rfl rfl rfl rfl ?_
        refine tr_region fun _ _ _ => ?_
        refine pu rfl rfl rfl rfl rfl ?_
        refine st rfl rfl rfl rfl (rAdd rfl rfl rfl (by omega) (by omega)) ?_
        refine pu rfl rfl rfl rfl rfl ?_
        refine ⟨k + 1, lf - (rs.getD k.toNat rowD).xs.length, ⟨rfl, rfl, rfl, trivial⟩, by first | exact cs _ _ | exact CSub.refl _, ?_⟩
        refine ⟨⟨⟨by omega, by omega⟩, ⟨by omega, by omega⟩, fun j hj => ?_⟩, by omega⟩
        by_cases he : (j : Int) = k
        · have : j = k.toNat := by omega
          subst this; omega
        · exact hall j (by omega)
    · try simp only [zb1, zb2, zb3, zb4, zb5, zb6, zb7, zb8, zb9, zb10] at h5
      refine tr_exit ?_
      refine tr_seq ?_
      refine tr_region fun _ _ _ => ?_
      refine pu rfl rfl rfl rfl rfl ?_
      exact tr_ret ⟨trivial, _, _, rfl, ⟨rfl, true, rfl, fun _ => xss_all.1 (xss_get (φ := fun r => r.length ≤ 4200) fun j hj => hall j (by omega))⟩, CSub.nil _, trivial⟩

theorem ref_CFew_ent : Enters Try.prog 104 := enters_of Try.func104 (by kernel_rfl) (by kernel_rfl)
theorem ref_CFew (p m : Int) (A : Option Addr) (c : Nat) (mod : List Int) (hl9 : mod.length ≤ 17592186044415) (w : Int) (Aa : Option Addr) (n ca : Nat) (rs : List RowM) (hn : n = rs.length) (h9 : rs.length ≤ 17592186044415) (h8 : ∀ r ∈ rs, r.xs.length ≤ 17592186044415) :
    Pure Try.prog 104 #[.agg #[.int .i64 p, .int .i64 m, .slice A mod.length c, .int .i64 w, .slice Aa n ca], .int .i64 4200] [ro Aa (hdrs rs), rowsR rs] (val (fun v => ∃ b : Bool, v = .bool b ∧ (b = true → ∀ r ∈ rs, r.xs.length ≤ 4200))) := by
  refine pure_of (args := [.agg #[.int .i64 p, .int .i64 m, .slice A mod.length c, .int .i64 w, .slice Aa n ca], .int .i64 4200]) 10 Try.func104 rfl rfl rfl ref_CFew_ent ⟨id, id, trivial⟩ (fun w0 => ?_)
  refine tr_seq ?_
  refine tr_region fun _ _ _ => ?_
  refine ef rfl rfl (eBox rfl rfl rfl rfl rfl (fun p0 => ?_)) 
  refine pu rfl rfl rfl rfl rfl ?_
  refine tr_seq ?_
  refine tr_region fun _ _ _ => ?_
  refine st rfl rfl rfl rfl (rFld rfl rfl) ?_
  refine st rfl rfl rfl rfl (rLdF rfl rfl rfl) ?_
  refine st rfl rfl rfl rfl (rBuild rfl rfl) ?_
  refine pu rfl rfl rfl rfl rfl ?_
  refine ef rfl rfl (eCall0 rfl rfl rfl (ref_MFew Aa n ca rs hn h9 h8) ⟨rfl, rfl, trivial⟩ ?_) 
  rintro _ ⟨b, rfl, hb⟩
  refine pu rfl rfl rfl rfl rfl ?_
  exact tr_ret ⟨trivial, _, _, rfl, ⟨rfl, b, rfl, hb⟩, CSub.nil _, trivial⟩




theorem law17_few_ent : Enters Try.prog 58 := enters_of Try.func58 (by kernel_rfl) (by kernel_rfl)
theorem law17_few (p m : Int) (A : Option Addr) (c : Nat) (mod : List Int) (hl9 : mod.length ≤ 17592186044415) (w : Int) (Aa : Option Addr) (n ca : Nat) (rs : List RowM) (hn : n = rs.length) (h9 : rs.length ≤ 17592186044415) (h8 : ∀ r ∈ rs, r.xs.length ≤ 17592186044415) (hl : rs.length ≤ 64) :
    Pure Try.prog 58 #[.agg #[.int .i64 p, .int .i64 m, .slice A mod.length c, .int .i64 w, .slice Aa n ca]] [ro Aa (hdrs rs), rowsR rs] (val (fun v => ∃ b : Bool, v = .bool b ∧ (b = true → rs.length ≤ 64 ∧ ∀ r ∈ rs, r.xs.length ≤ 4200))) := by
  refine pure_of (args := [.agg #[.int .i64 p, .int .i64 m, .slice A mod.length c, .int .i64 w, .slice Aa n ca]]) 11 Try.func58 rfl rfl rfl law17_few_ent ⟨id, id, trivial⟩ (fun w0 => ?_)
  refine tr_seq ?_
  refine tr_region fun _ _ _ => ?_
  refine ef rfl rfl (eBox rfl rfl rfl rfl rfl (fun p0 => ?_)) 
  refine pu rfl rfl rfl rfl rfl ?_
  refine tr_seq ?_
  refine tr_region fun _ _ _ => ?_
  refine st rfl rfl rfl rfl (rFld rfl rfl) ?_
  refine st rfl rfl rfl rfl (rLdF rfl rfl rfl) ?_
  refine st rfl rfl rfl rfl (rLen rfl rfl) ?_
  iterate 2 refine pu rfl rfl rfl rfl rfl ?_
  refine stT rfl rfl rfl (by simp; omega) rfl rfl (rLdS rfl rfl rfl) ?_
  refine efT rfl rfl rfl (by simp; omega) (eCall0 rfl rfl rfl (ref_CFew p m A c mod hl9 w Aa n ca rs hn h9 h8) ⟨rfl, rfl, trivial⟩ ?_) 
  rintro _ ⟨b, rfl, hb⟩
  refine st rfl rfl rfl rfl (rPick1 rfl rfl (by simp; omega) rfl) ?_
  refine pu rfl rfl rfl rfl rfl ?_
  exact tr_ret ⟨trivial, _, _, rfl, ⟨rfl, b, by simp, fun h => ⟨hl, hb h⟩⟩, CSub.nil _, trivial⟩

theorem law17_few0_ent : Enters Try.prog 58 := enters_of Try.func58 (by kernel_rfl) (by kernel_rfl)
theorem law17_few0 (p m : Int) (A : Option Addr) (c : Nat) (mod : List Int) (hl9 : mod.length ≤ 17592186044415) (w : Int) (Aa : Option Addr) (n ca : Nat) (rs : List RowM) (hn : n = rs.length) (h9 : rs.length ≤ 17592186044415) (h8 : ∀ r ∈ rs, r.xs.length ≤ 17592186044415) (hl : ¬ rs.length ≤ 64) :
    Pure Try.prog 58 #[.agg #[.int .i64 p, .int .i64 m, .slice A mod.length c, .int .i64 w, .slice Aa n ca]] [ro Aa (hdrs rs), rowsR rs] (val (fun v => ∃ b : Bool, v = .bool b ∧ (b = true → rs.length ≤ 64 ∧ ∀ r ∈ rs, r.xs.length ≤ 4200))) := by
  refine pure_of (args := [.agg #[.int .i64 p, .int .i64 m, .slice A mod.length c, .int .i64 w, .slice Aa n ca]]) 11 Try.func58 rfl rfl rfl law17_few0_ent ⟨id, id, trivial⟩ (fun w0 => ?_)
  refine tr_seq ?_
  refine tr_region fun _ _ _ => ?_
  refine ef rfl rfl (eBox rfl rfl rfl rfl rfl (fun p0 => ?_)) 
  refine pu rfl rfl rfl rfl rfl ?_
  refine tr_seq ?_
  refine tr_region fun _ _ _ => ?_
  refine st rfl rfl rfl rfl (rFld rfl rfl) ?_
  refine st rfl rfl rfl rfl (rLdF rfl rfl rfl) ?_
  refine st rfl rfl rfl rfl (rLen rfl rfl) ?_
  iterate 2 refine pu rfl rfl rfl rfl rfl ?_
  refine skF rfl rfl (by simp; omega) rfl rfl ?_
  refine skF rfl rfl (by simp; omega) rfl rfl ?_
  refine st rfl rfl rfl rfl (rPick0 rfl rfl (by simp; omega) rfl) ?_
  refine pu rfl rfl rfl rfl rfl ?_
  exact tr_ret ⟨trivial, _, _, rfl, ⟨rfl, false, by simp, fun h => by cases h⟩, CSub.nil _, trivial⟩

theorem law17_fewC (p m : Int) (A : Option Addr) (c : Nat) (mod : List Int) (hl9 : mod.length ≤ 17592186044415) (w : Int) (Aa : Option Addr) (n ca : Nat) (rs : List RowM) (hn : n = rs.length) (h9 : rs.length ≤ 17592186044415) (h8 : ∀ r ∈ rs, r.xs.length ≤ 17592186044415) : Pure Try.prog 58 #[.agg #[.int .i64 p, .int .i64 m, .slice A mod.length c, .int .i64 w, .slice Aa n ca]] [ro Aa (hdrs rs), rowsR rs] (val (fun v => ∃ b : Bool, v = .bool b ∧ (b = true → rs.length ≤ 64 ∧ ∀ r ∈ rs, r.xs.length ≤ 4200))) := by
  by_cases hl : rs.length ≤ 64
  · exact law17_few p m A c mod hl9 w Aa n ca rs hn h9 h8 hl
  · exact law17_few0 p m A c mod hl9 w Aa n ca rs hn h9 h8 hl








end Go.Proofs.Ytjmojhflnjbgaaa

set_option linter.unusedSimpArgs false
set_option linter.unusedVariables false
set_option maxRecDepth 100000
namespace Go.Proofs.Ytjmojhflnjbgaaa
open Go.RowKit

section
variable {p m : Int} {mod : List Int} [hF : IsF p m mod]
theorem val_cons (a : Int) (l : List Int) (x : El p m mod) : Po.val (pol (a :: l) : Po (El p m mod)) x = Po.val (pol l) x * x + el a := by
  have e : (pol (a :: l) : Po (El p m mod)) = Po.mn 1 1 * pol l + Po.C (el a) := Po.ext fun j => by
    rw [Po.cf_add, Po.cf_mn_mul, cf_pol, cf_pol]
    cases j with
    | zero => rw [if_pos (by omega), Rg.zero_add]; rfl
    | succ j =>
      rw [if_neg (by omega), Rg.one_mul]
      have h : Po.cf (Po.C (el a) : Po (El p m mod)) (j + 1) = 0 := by unfold Po.C; rw [Po.cf_mn, if_neg (by omega)]
      rw [h, Rg.add_zero]; rfl
  rw [e, Po.val_add, Po.val_mul, Po.val_C, Po.val_mn, Rg.pow_one, Rg.one_mul, Rg.mul_comm]
theorem val_nil (x : El p m mod) : Po.val (pol [] : Po (El p m mod)) x = 0 := by rw [pol_nil, Po.val_zero]
theorem val_sum (l : List Int) (x : El p m mod) : Po.val (pol l : Po (El p m mod)) x = Rg.sm l.length fun i => el (l.getD i 0) * Rg.pow x i := Po.val_eq (pol_sh l) x
theorem val_il (l : List Int) (x : El p m mod) : Po.val (pol (il (pol l : Po (El p m mod))) : Po (El p m mod)) x = Po.val (pol l) x := by rw [pol_il]
theorem drop_cons {l : List Int} {i : Nat} (h : i < l.length) : l.drop i = l.getD i 0 :: l.drop (i + 1) := by
  rw [List.drop_eq_getElem_cons h, List.getD_eq_getElem?_getD, List.getElem?_eq_getElem h]; rfl
/-- The elements at which a polynomial is 0. -/
noncomputable def zset (p m : Int) (mod : List Int) [hF : IsF p m mod] (f : Po (El p m mod)) : Int → Bool := fun x => @decide (Po.val f (el x) = 0) (Classical.propDecidable _)
theorem zset_iff {f : Po (El p m mod)} {x : Int} : zset p m mod f x = true ↔ Po.val f (el x) = 0 := @decide_eq_true_iff _ (Classical.propDecidable _)
theorem pow_last {x : El p m mod} (hx : x ≠ 0) : Rg.pow x (pw p m - 1).toNat = 1 := by
  have h1 := Fd.Nz.pow (elNz_nz hF.out) hx
  rw [elNz_len, Fd.pow_eq] at h1
  exact h1
theorem pow_rem {x : El p m mod} (hx : x ≠ 0) (k : Nat) : Rg.pow x (k % (pw p m - 1).toNat) = Rg.pow x k := by
  have h := Nat.div_add_mod k (pw p m - 1).toNat
  have e : Rg.pow x k = Rg.pow x ((pw p m - 1).toNat * (k / (pw p m - 1).toNat) + k % (pw p m - 1).toNat) := by rw [h]
  rw [e, Rg.pow_add, Rg.pow_mul, pow_last hx, Rg.one_pow, Rg.one_mul]
theorem exp_pow {g : GfM} (hg : GOk g p m mod) : ∃ y : El p m mod, y ≠ 0 ∧ ∀ i : Nat, i < g.exp.length → (el (g.exp.getD i 0) : El p m mod) = Rg.pow y i := by
  obtain ⟨x, hx⟩ := hg.gen
  have h1 := hx.x1
  have h2 := hx.x2
  refine ⟨el x, fun e => by rw [el_eq_zero ⟨by omega, h2⟩] at e; omega, fun i hi => El.ext ?_⟩
  have h3 := hx.pow.get i hi
  have h4 := pow_val hF.out (el x) i
  rw [Fd.pow_eq, el_in ⟨by omega, h2⟩] at h4
  have h5 : g.exp.getD i 0 ∈ g.exp := getD_mem hi 0
  have h6 := hx.pow.nz _ h5
  rw [el_in ⟨by omega, h6.2⟩, h3]
  exact h4.symm
end

theorem gf_Field_ent : Enters Try.prog 218 := enters_of Try.func218 (by kernel_rfl) (by kernel_rfl)
theorem gf_Field (g : GfM) (h9 : g.mod.length ≤ 1000000) :
    Pure Try.prog 218 #[.pointer (some g.p)] [gfR g] (one (fun v ch => ∃ B cb, v = .agg #[.int .i64 g.P, .int .i64 g.M, .slice B g.mod.length cb] ∧ ch = ow B 3 cb (ints g.mod))) := by
  refine pure_ofC (args := [.pointer (some g.p)]) 21 Try.func218 rfl rfl rfl gf_Field_ent ⟨id, trivial⟩ (fun w0 => ?_)
  refine tr_seq ?_
  refine tr_region fun _ _ _ => ?_
  refine ef rfl rfl (eAlloc rfl rfl rfl (fun p0 => ?_)) 
  refine tr_seq ?_
  refine tr_plan [gfR g] [(2, 0), (2, 1), (2, 2), (2, 3), (2, 4), (2, 5), (2, 6), (2, 7), (2, 8), (2, 9), (0, 11), (0, 12), (0, 13), (0, 14), (0, 15), (0, 10), (1, 16), (0, 17), (1, 18)] mixed (by kernel_rfl) fun _ _ _ => ?_
  refine stF rfl rfl rfl rfl (cs _ _) (rMove rfl rfl) ?_
  refine stF rfl rfl rfl rfl (cs _ _) (rNil rfl rfl) ?_
  refine stF rfl rfl rfl rfl (cs _ _) (rFld rfl rfl) ?_
  refine stF rfl rfl rfl rfl (cs _ _) (rFldN rfl rfl) ?_
  refine stF rfl rfl rfl rfl (cs _ _) (rLdF rfl rfl rfl) ?_
  refine stF rfl rfl rfl rfl (cs _ _) (rMove rfl rfl) ?_
  refine stF rfl rfl rfl rfl (cs _ _) (rNil rfl rfl) ?_
  refine stF rfl rfl rfl rfl (cs _ _) (rFld rfl rfl) ?_
  refine stF rfl rfl rfl rfl (cs _ _) (rFldN rfl rfl) ?_
  refine stF rfl rfl rfl rfl (cs _ _) (rLdF rfl rfl rfl) ?_
  refine pu rfl rfl rfl rfl rfl ?_
  refine st rfl rfl rfl rfl (rNil rfl rfl) ?_
  refine st rfl rfl rfl rfl (rFld rfl rfl) ?_
  refine st rfl rfl rfl rfl (rFldN rfl rfl) ?_
  refine st rfl rfl rfl rfl (rLdF rfl rfl rfl) ?_
  refine ef rfl rfl (eLit0I rfl rfl rfl  (fun A1 => ?_)) 
  refine ef rfl rfl (eAppI rfl rfl rfl rfl rfl (by first | rfl | simp | omega) (by first | rfl | simp | omega) (by first | omega | (simp; omega)) (fun A1a c1a => ?_)) 
  refine ⟨cs _ _, ?_⟩
  refine st rfl rfl rfl rfl (rBuild rfl rfl) ?_
  refine ef rfl rfl (eStS rfl rfl rfl rfl rfl rfl ?_) 
  refine ⟨cs _ _, ?_⟩
  simp only [List.nil_append]
  exact tr_ret ⟨trivial, _, _, (.cell rfl (cellS rfl) .nil), ⟨_, rfl, A1a, c1a, rfl, rfl⟩, cs _ _, trivial, trivial⟩

theorem tow_prime_ent : Enters Try.prog 192 := enters_of Try.func192 (by kernel_rfl) (by kernel_rfl)
theorem tow_prime (g : GfM) (h9 : g.mod.length ≤ 1000000) :
    Pure Try.prog 192 #[.pointer (some g.p)] [gfR g] (isV (.tuple #[.int .i64 g.P, .int .i64 g.M])) := by
  refine pure_of (args := [.pointer (some g.p)]) 11 Try.func192 rfl rfl rfl tow_prime_ent ⟨id, trivial⟩ (fun w0 => ?_)
  refine tr_seq ?_
  refine tr_region fun _ _ _ => ?_
  iterate 2 refine pu rfl rfl rfl rfl rfl ?_
  refine tr_seq ?_
  refine tr_region fun _ _ _ => ?_
  refine pu rfl rfl rfl rfl rfl ?_
  refine ef rfl rfl (eCall1 rfl rfl rfl (gf_Field g h9) ⟨rfl, trivial⟩ ?_) 
  rintro _ _ ⟨B, cb, rfl, rfl⟩
  refine ef rfl rfl (eAlloc rfl rfl rfl (fun p1a => ?_)) 
  refine ef rfl rfl (eStS rfl rfl rfl rfl rfl rfl ?_) 
  refine tr_seq ?_
  refine tr_draw [0, 1, 2, 3, 4, 5] [] mixed (by kernel_rfl) fun _ _ _ => ?_
  refine st rfl rfl rfl rfl (rFld rfl rfl) ?_
  refine st rfl rfl rfl rfl (rLdF rfl rfl rfl) ?_
  refine st rfl rfl rfl rfl (rFld rfl rfl) ?_
  refine st rfl rfl rfl rfl (rLdF rfl rfl rfl) ?_
  iterate 2 refine pu rfl rfl rfl rfl rfl ?_
  exact tr_ret ⟨trivial, _, _, rfl, ⟨rfl, rfl⟩, CSub.nil _, trivial⟩

theorem tow_isDegree_ent : Enters Try.prog 193 := enters_of Try.func193 (by kernel_rfl) (by kernel_rfl)
theorem tow_isDegree (g : GfM) (h9 : g.mod.length ≤ 1000000) (d : Int) (hd : 1 ≤ d) (hM : 0 ≤ g.M) :
    Pure Try.prog 193 #[.pointer (some g.p), .int .i64 d] [gfR g] (isV (.bool (decide (d ≤ g.M) && decide (g.M % d = 0)))) := by
  refine pure_of (args := [.pointer (some g.p), .int .i64 d]) 25 Try.func193 rfl rfl rfl tow_isDegree_ent ⟨id, trivial⟩ (fun w0 => ?_)
  refine tr_seq ?_
  refine tr_region fun _ _ _ => ?_
  refine pu rfl rfl rfl rfl rfl ?_
  refine tr_seq ?_
  refine tr_region fun _ _ _ => ?_
  refine pu rfl rfl rfl rfl rfl ?_
  refine ef rfl rfl (eCallV rfl rfl rfl (tow_prime g h9) ⟨rfl, trivial⟩ ?_) 
  iterate 5 refine pu rfl rfl rfl rfl rfl ?_
  refine tr_seq ?_
  refine tr_region fun _ _ _ => ?_
  iterate 3 refine pu rfl rfl rfl rfl rfl ?_
  refine stg rfl rfl rfl rfl rfl (fun hb => by (have hq := hb; try simp only [zb1, zb2, zb3, zb4, zb5, zb6, zb7, zb8, zb9, zb10] at hq); exact rMove rfl rfl) ?_
  refine stg rfl rfl rfl rfl rfl (fun hb => by (have hq := hb; try simp only [zb1, zb2, zb3, zb4, zb5, zb6, zb7, zb8, zb9, zb10] at hq); exact rMove rfl rfl) ?_
  refine stg rfl rfl rfl rfl rfl (fun hb => by (have hq := hb; try simp only [zb1, zb2, zb3, zb4, zb5, zb6, zb7, zb8, zb9, zb10] at hq); exact rLeq rfl (evg rfl hb) (evg rfl hb)) ?_
  refine st rfl rfl rfl rfl (rAndB rfl rfl rfl rfl) ?_
  refine pu rfl rfl rfl rfl rfl ?_
  refine stg rfl rfl rfl rfl rfl (fun hb => by (have hq := hb; try simp only [zb1, zb2, zb3, zb4, zb5, zb6, zb7, zb8, zb9, zb10] at hq); exact rMove rfl rfl) ?_
  refine stg rfl rfl rfl rfl rfl (fun hb => by (have hq := hb; try simp only [zb1, zb2, zb3, zb4, zb5, zb6, zb7, zb8, zb9, zb10] at hq); exact rMove rfl rfl) ?_
  refine stg rfl rfl rfl rfl rfl (fun hb => by (have hq := hb; try simp only [zb1, zb2, zb3, zb4, zb5, zb6, zb7, zb8, zb9, zb10] at hq); exact rRem rfl (evg rfl hb) (evg rfl hb) (by omega) (by omega)) ?_
  refine stg rfl rfl rfl rfl rfl (fun hb => by (have hq := hb; try simp only [zb1, zb2, zb3, zb4, zb5, zb6, zb7, zb8, zb9, zb10] at hq); exact rEql rfl (evg rfl hb) rfl) ?_
  refine st rfl rfl rfl rfl (rAndB rfl rfl rfl rfl) ?_
  refine pu rfl rfl rfl rfl rfl ?_
  exact tr_ret ⟨trivial, _, _, rfl, ⟨by simp [hd], rfl⟩, CSub.nil _, trivial⟩

theorem poly_Eval_ent : Enters Try.prog 158 := enters_of Try.func158 (by kernel_rfl) (by kernel_rfl)
theorem poly_Eval (g : GfM) {p m : Int} {mod : List Int} [hF : IsF p m mod] (hg : GOk g p m mod) (X : Option Addr) (nx cx : Nat) (l : List Int) (hnx : nx = l.length) (h9 : l.length ≤ 1000000) (x : Int) :
    Pure Try.prog 158 #[.pointer (some g.p), .slice X nx cx, .int .i64 x] [gfR g, ro X (ints l)] (isV (.int .i64 (Po.val (pol l : Po (El p m mod)) (el x)).1)) := by
  refine pure_of (args := [.pointer (some g.p), .slice X nx cx, .int .i64 x]) 27 Try.func158 rfl rfl rfl poly_Eval_ent ⟨id, id, trivial⟩ (fun w0 => ?_)
  refine tr_seq ?_
  refine tr_region fun _ _ _ => ?_
  refine pu rfl rfl rfl rfl rfl ?_
  refine tr_seq ?_
  refine tr_region fun _ _ _ => ?_
  refine pu rfl rfl rfl rfl rfl ?_
  refine tr_seq ?_
  refine tr_seq ?_
  refine tr_region fun _ _ _ => ?_
  refine pu rfl rfl rfl rfl rfl ?_
  refine st rfl rfl rfl rfl (rLen rfl rfl) ?_
  refine st rfl rfl rfl rfl (rSub rfl rfl rfl (by omega) (by omega)) ?_
  refine pu rfl rfl rfl rfl rfl ?_
  refine tr_block ?_
  refine tr_loop2 (fun (i : Int) (y : Int) => [(7, .int .i64 y), (8, .int .i64 i), (0, .pointer (some g.p)), (1, .slice X nx cx), (2, .int .i64 x), (6, .int .i64 0)]) (fun (i : Int) (y : Int) => [gfR g, ro X (ints l)]) (fun (i : Int) (y : Int) => (-1 ≤ i ∧ i < nx) ∧ y = (Po.val (pol (l.drop (i + 1).toNat) : Po (El p m mod)) (el x)).1) (fun (i : Int) (y : Int) => (i + 1).toNat) ((nx : Int) - 1) (0) ⟨rfl, rfl, rfl, rfl, rfl, rfl, trivial⟩ (by first | exact cs _ _ | exact CSub.refl _) (⟨⟨by omega, by omega⟩, by rw [List.drop_of_length_le (by omega), val_nil]; rfl⟩) (fun i y hI => ?_)
  obtain ⟨⟨hi0, hi1⟩, hy⟩ := hI
  refine tr_seq ?_
  refine tr_seq ?_
  refine tr_region fun _ _ _ => ?_
  iterate 2 refine pu rfl rfl rfl rfl rfl ?_
  refine tr_cond_bool rfl (fun h3 => ?_) (fun h3 => ?_)
  · try simp only [zb1, zb2, zb3, zb4, zb5, zb6, zb7, zb8, zb9, zb10] at h3
    refine tr_skip ?_
    refine tr_seq ?_
    refine tr_block ?_
    refine tr_draw [0, 1, 2, 3, 5, 6, 7, 8, 4, 9, 10] [] mixed (by kernel_rfl) fun _ _ _ => ?_
    iterate 6 refine pu rfl rfl rfl rfl rfl ?_
    refine st rfl rfl rfl rfl (rIdxI rfl rfl rfl (by omega) (by omega) (by omega)) ?_
    refine st rfl rfl rfl rfl (rLdI rfl rfl (by omega)) ?_
    refine ef rfl rfl (eCallV rfl rfl rfl (gf_MulE g hg _ _) ⟨rfl, rfl, rfl, trivial⟩ ?_) 
    refine ef rfl rfl (eCallV rfl rfl rfl (gf_AddE g hg _ _) ⟨rfl, rfl, rfl, trivial⟩ ?_) 
    refine pu rfl rfl rfl rfl rfl ?_
    refine tr_region fun _ _ _ => ?_
    refine pu rfl rfl rfl rfl rfl ?_
    refine st rfl rfl rfl rfl (rSub rfl rfl rfl (by omega) (by omega)) ?_
    refine pu rfl rfl rfl rfl rfl ?_
    refine ⟨i - 1, (el (el y * el x : El p m mod).1 + el (l.getD i.toNat 0) : El p m mod).1, ⟨rfl, rfl, rfl, rfl, rfl, rfl, trivial⟩, by first | exact cs _ _ | exact CSub.refl _, ?_⟩
    refine ⟨⟨⟨by omega, by omega⟩, ?_⟩, by omega⟩
    rw [el_of, show (i - 1 + 1).toNat = i.toNat by omega, drop_cons (show i.toNat < l.length by omega), val_cons, show i.toNat + 1 = (i + 1).toNat by omega, hy, el_of]
  · try simp only [zb1, zb2, zb3, zb4, zb5, zb6, zb7, zb8, zb9, zb10] at h3
    refine tr_exit ?_
    refine tr_seq ?_
    refine tr_region fun _ _ _ => ?_
    iterate 2 refine pu rfl rfl rfl rfl rfl ?_
    have hi : i = -1 := by omega
    subst hi
    exact tr_ret ⟨trivial, _, _, rfl, ⟨by rw [hy]; rfl, rfl⟩, CSub.nil _, trivial⟩

theorem gf_Digits_ent : Enters Try.prog 197 := enters_of Try.func197 (by kernel_rfl) (by kernel_rfl)
theorem gf_Digits (g : GfM) {p m : Int} {mod : List Int} [hF : IsF p m mod] (hg : GOk g p m mod) (x : Int) (hx : 0 ≤ x ∧ x < pw p m) :
    Pure Try.prog 197 #[.pointer (some g.p), .int .i64 x] [gfR g] (one (fun v ch => ∃ B, v = .slice B m.toNat m.toNat ∧ ch = ow B 3 m.toNat (ints (digs p m.toNat x)))) := by
  have heq := hg.eq
  have hP := hg.eP
  have hM := hg.eM
  have hs := hF.out.1.1
  have h2 := hs.p2
  have h3 := hs.p9
  have h4 := hs.m1
  have h5 := hs.m8
  have h6 := hs.q
  have h7 : inI g.q x = x := inI_in hx.1 (by omega)
  subst hP
  subst hM
  refine pure_of (args := [.pointer (some g.p), .int .i64 x]) 19 Try.func197 rfl rfl rfl gf_Digits_ent ⟨id, trivial⟩ (fun w0 => ?_)
  refine tr_seq ?_
  refine tr_region fun _ _ _ => ?_
  refine pu rfl rfl rfl rfl rfl ?_
  refine tr_seq ?_
  refine tr_draw [0, 1, 3, 4, 5, 6, 7, 8, 9, 10, 11, 12, 2, 13, 14] [] mixed (by kernel_rfl) fun _ _ _ => ?_
  iterate 3 refine pu rfl rfl rfl rfl rfl ?_
  refine st rfl rfl rfl rfl (rNil rfl rfl) ?_
  refine st rfl rfl rfl rfl (rFld rfl rfl) ?_
  refine st rfl rfl rfl rfl (rFldN rfl rfl) ?_
  refine st rfl rfl rfl rfl (rLdF rfl rfl rfl) ?_
  refine pu rfl rfl rfl rfl rfl ?_
  refine st rfl rfl rfl rfl (rNil rfl rfl) ?_
  refine st rfl rfl rfl rfl (rFld rfl rfl) ?_
  refine st rfl rfl rfl rfl (rFldN rfl rfl) ?_
  refine st rfl rfl rfl rfl (rLdF rfl rfl rfl) ?_
  refine ef rfl rfl (eCallV rfl rfl rfl (gf_in g _) ⟨rfl, rfl, trivial⟩ ?_) 
  refine ef rfl rfl (eCall1 rfl rfl rfl (fld_digits _ (by omega) (by omega) _ (by omega) (by omega) _ (by omega) (by omega)) ⟨rfl, rfl, rfl, trivial⟩ ?_) 
  rintro _ _ ⟨B, rfl, rfl⟩
  refine pu rfl rfl rfl rfl rfl ?_
  rw [h7]
  exact tr_ret ⟨trivial, _, _, rfl, ⟨_, rfl, B, rfl, rfl⟩, cs _ _, trivial, trivial⟩

theorem gf_Dot_ent : Enters Try.prog 196 := enters_of Try.func196 (by kernel_rfl) (by kernel_rfl)
theorem gf_Dot (g : GfM) {p m : Int} {mod : List Int} [hF : IsF p m mod] (hg : GOk g p m mod) (X : Option Addr) (nx cx : Nat) (a : List Int) (hnx : nx = a.length) (Y : Option Addr) (ny cy : Nat) (b : List Int) (hny : ny = b.length) (h9 : a.length ≤ 1000000) (hl : a.length = b.length) :
    Pure Try.prog 196 #[.pointer (some g.p), .slice X nx cx, .slice Y ny cy] [gfR g, ro X (ints a), ro Y (ints b)] (isV (.int .i64 (Rg.sm a.length fun i => (el (a.getD i 0) * el (b.getD i 0) : El p m mod)).1)) := by
  refine pure_of (args := [.pointer (some g.p), .slice X nx cx, .slice Y ny cy]) 32 Try.func196 rfl rfl rfl gf_Dot_ent ⟨id, id, id, trivial⟩ (fun w0 => ?_)
  refine tr_seq ?_
  refine tr_region fun _ _ _ => ?_
  refine pu rfl rfl rfl rfl rfl ?_
  refine tr_seq ?_
  refine tr_region fun _ _ _ => ?_
  refine pu rfl rfl rfl rfl rfl ?_
  refine tr_seq ?_
  refine tr_seq ?_
  have hmn : min (nx : Int) (ny : Int) = a.length := by omega
  refine tr_region fun _ _ _ => ?_
  refine pu rfl rfl rfl rfl rfl ?_
  refine st rfl rfl rfl rfl (rLen rfl rfl) ?_
  refine pu rfl rfl rfl rfl rfl ?_
  refine st rfl rfl rfl rfl (rLen rfl rfl) ?_
  refine st rfl rfl rfl rfl (rMin rfl rfl rfl) ?_
  refine pu rfl rfl rfl rfl rfl ?_
  simp only [hmn]
  refine tr_block ?_
  refine tr_loop2 (fun (i : Int) (y : Int) => [(7, .int .i64 y), (13, .int .i64 a.length), (14, .int .i64 i), (0, .pointer (some g.p)), (1, .slice X nx cx), (2, .slice Y ny cy), (6, .int .i64 0)]) (fun (i : Int) (y : Int) => [gfR g, ro X (ints a), ro Y (ints b)]) (fun (i : Int) (y : Int) => (0 ≤ i ∧ i ≤ a.length) ∧ y = (Rg.sm i.toNat fun j => (el (a.getD j 0) * el (b.getD j 0) : El p m mod)).1) (fun (i : Int) (y : Int) => (a.length - i).toNat) (0) (0) ⟨rfl, rfl, rfl, rfl, rfl, rfl, rfl, trivial⟩ (by first | exact cs _ _ | exact CSub.refl _) (⟨⟨by omega, by omega⟩, rfl⟩) (fun i y hI => ?_)
  obtain ⟨⟨hi0, hi1⟩, hy⟩ := hI
  refine tr_seq ?_
  refine tr_region fun _ _ _ => ?_
  refine pu rfl rfl rfl rfl rfl ?_
  refine tr_seq ?_
  refine tr_cond_bool rfl (fun h3 => ?_) (fun h3 => ?_)
  · try simp only [zb1, zb2, zb3, zb4, zb5, zb6, zb7, zb8, zb9, zb10] at h3
    refine tr_skip ?_
    refine tr_seq ?_
    refine tr_block ?_
    refine tr_seq ?_
    refine tr_region fun _ _ _ => ?_
    iterate 2 refine pu rfl rfl rfl rfl rfl ?_
    refine tr_draw [0, 1, 2, 3, 4, 5, 6, 7, 8, 9, 10, 11, 12, 13] [] mixed (by kernel_rfl) fun _ _ _ => ?_
    iterate 5 refine pu rfl rfl rfl rfl rfl ?_
    refine st rfl rfl rfl rfl (rIdxI rfl rfl rfl (by omega) (by omega) (by omega)) ?_
    refine st rfl rfl rfl rfl (rLdI rfl rfl (by omega)) ?_
    iterate 2 refine pu rfl rfl rfl rfl rfl ?_
    refine st rfl rfl rfl rfl (rIdxI rfl rfl rfl (by omega) (by omega) (by omega)) ?_
    refine st rfl rfl rfl rfl (rLdI rfl rfl (by omega)) ?_
    refine ef rfl rfl (eCallV rfl rfl rfl (gf_MulE g hg _ _) ⟨rfl, rfl, rfl, trivial⟩ ?_) 
    refine ef rfl rfl (eCallV rfl rfl rfl (gf_AddE g hg _ _) ⟨rfl, rfl, rfl, trivial⟩ ?_) 
    refine pu rfl rfl rfl rfl rfl ?_
    refine tr_region fun _ _ _ => ?_
    refine st rfl rfl rfl rfl (rAdd rfl rfl rfl (by omega) (by omega)) ?_
    refine pu rfl rfl rfl rfl rfl ?_
    refine ⟨i + 1, (el y + el (el (a.getD i.toNat 0) * el (b.getD i.toNat 0) : El p m mod).1 : El p m mod).1, ⟨rfl, rfl, rfl, rfl, rfl, rfl, rfl, trivial⟩, by first | exact cs _ _ | exact CSub.refl _, ?_⟩
    refine ⟨⟨⟨by omega, by omega⟩, ?_⟩, by omega⟩
    rw [show (i + 1).toNat = i.toNat + 1 by omega, Rg.sm_succ, hy, el_of, el_of]
  · try simp only [zb1, zb2, zb3, zb4, zb5, zb6, zb7, zb8, zb9, zb10] at h3
    refine tr_exit ?_
    refine tr_seq ?_
    refine tr_region fun _ _ _ => ?_
    iterate 2 refine pu rfl rfl rfl rfl rfl ?_
    have hi : i.toNat = a.length := by omega
    rw [hi] at hy
    exact tr_ret ⟨trivial, _, _, rfl, ⟨by rw [hy], rfl⟩, CSub.nil _, trivial⟩

theorem gf_PowE_ent : Enters Try.prog 111 := enters_of Try.func111 (by kernel_rfl) (by kernel_rfl)
theorem gf_PowE (g : GfM) {p m : Int} {mod : List Int} [hF : IsF p m mod] (hg : GOk g p m mod) (x k : Int) (hk : 0 ≤ k) (hk9 : k ≤ 1000000) :
    Pure Try.prog 111 #[.pointer (some g.p), .int .i64 x, .int .i64 k] [gfR g] (isV (.tuple #[.int .i64 (Rg.pow (el x : El p m mod) k.toNat).1, .int .i64 0])) := by
  have heq := hg.eq
  have hq2 := hF.q2
  have hq9 := hF.out.1.1.q
  have hix : (el x : El p m mod).1 = inI g.q x := by rw [hg.eq]; rfl
  have hbx := (el x : El p m mod).2
  have hel := hg.elen
  have hll := hg.llen'
  obtain ⟨y, hy0, hy⟩ := exp_pow hg
  refine pure_of (args := [.pointer (some g.p), .int .i64 x, .int .i64 k]) 54 Try.func111 rfl rfl rfl gf_PowE_ent ⟨id, trivial⟩ (fun w0 => ?_)
  refine tr_seq ?_
  refine tr_region fun _ _ _ => ?_
  iterate 2 refine pu rfl rfl rfl rfl rfl ?_
  refine tr_seq ?_
  refine tr_region fun _ _ _ => ?_
  iterate 2 refine pu rfl rfl rfl rfl rfl ?_
  refine ef rfl rfl (eCallV rfl rfl rfl (gf_in g _) ⟨rfl, rfl, trivial⟩ ?_) 
  refine pu rfl rfl rfl rfl rfl ?_
  refine tr_seq ?_
  refine tr_block ?_
  refine tr_seq ?_
  refine tr_region fun _ _ _ => ?_
  iterate 3 refine pu rfl rfl rfl rfl rfl ?_
  refine tr_cond_bool rfl (fun h2 => ?_) (fun h2 => ?_)
  · try simp only [zb1, zb2, zb3, zb4, zb5, zb6, zb7, zb8, zb9, zb10] at h2
    refine tr_seq ?_
    refine tr_region fun _ _ _ => ?_
    iterate 2 refine pu rfl rfl rfl rfl rfl ?_
    exact tr_ret ⟨trivial, _, _, rfl, ⟨by rw [show k.toNat = 0 by omega]; rfl, rfl⟩, CSub.nil _, trivial⟩
  · try simp only [zb1, zb2, zb3, zb4, zb5, zb6, zb7, zb8, zb9, zb10] at h2
    refine tr_seq ?_
    refine tr_region fun _ _ _ => ?_
    iterate 3 refine pu rfl rfl rfl rfl rfl ?_
    refine stg rfl rfl rfl rfl rfl (fun hb => by (have hq := hb; try simp only [zb1, zb2, zb3, zb4, zb5, zb6, zb7, zb8, zb9, zb10] at hq); exact rMove rfl rfl) ?_
    refine stg rfl rfl rfl rfl rfl (fun hb => by (have hq := hb; try simp only [zb1, zb2, zb3, zb4, zb5, zb6, zb7, zb8, zb9, zb10] at hq); exact rLss rfl (evg rfl hb) rfl) ?_
    refine st rfl rfl rfl rfl (rAndB rfl rfl rfl rfl) ?_
    refine pu rfl rfl rfl rfl rfl ?_
    refine tr_cond_bool rfl (fun h4 => ?_) (fun h4 => ?_)
    · try simp only [zb1, zb2, zb3, zb4, zb5, zb6, zb7, zb8, zb9, zb10] at h4
      refine tr_seq ?_
      refine tr_region fun _ _ _ => ?_
      iterate 2 refine pu rfl rfl rfl rfl rfl ?_
      omega
    · try simp only [zb1, zb2, zb3, zb4, zb5, zb6, zb7, zb8, zb9, zb10] at h4
      refine tr_seq ?_
      refine tr_region fun _ _ _ => ?_
      iterate 3 refine pu rfl rfl rfl rfl rfl ?_
      refine tr_cond_bool rfl (fun h6 => ?_) (fun h6 => ?_)
      · try simp only [zb1, zb2, zb3, zb4, zb5, zb6, zb7, zb8, zb9, zb10] at h6
        refine tr_seq ?_
        refine tr_region fun _ _ _ => ?_
        iterate 2 refine pu rfl rfl rfl rfl rfl ?_
        exact tr_ret ⟨trivial, _, _, rfl, ⟨by
          have hx0 : (el x : El p m mod) = 0 := (val_zero_iff (el x : El p m mod)).1 (by omega)
          rw [hx0, Rg.zero_pow (by omega)]; rfl, rfl⟩, CSub.nil _, trivial⟩
      · try simp only [zb1, zb2, zb3, zb4, zb5, zb6, zb7, zb8, zb9, zb10] at h6
        refine tr_skip ?_
        refine tr_seq ?_
        have hx0 : (el x : El p m mod) ≠ 0 := fun e => by
          have := (val_zero_iff (el x : El p m mod)).2 e
          omega
        have hlx := hg.log_spec (y := inI g.q x) (by omega) (by omega)
        have e0 := Int.emod_nonneg k (show g.q - 1 ≠ 0 by omega)
        have e1 := Int.emod_lt_of_pos k (show 0 < g.q - 1 by omega)
        refine tr_region fun _ _ _ => ?_
        refine pu rfl rfl rfl rfl rfl ?_
        refine st rfl rfl rfl rfl (rNil rfl rfl) ?_
        refine st rfl rfl rfl rfl (rFld rfl rfl) ?_
        refine st rfl rfl rfl rfl (rLdF rfl rfl rfl) ?_
        refine st rfl rfl rfl rfl (rSub rfl rfl rfl (by omega) (by omega)) ?_
        refine pu rfl rfl rfl rfl rfl ?_
        refine tr_seq ?_
        refine tr_region fun _ _ _ => ?_
        iterate 2 refine pu rfl rfl rfl rfl rfl ?_
        refine st rfl rfl rfl rfl (rRem rfl rfl rfl (by omega) (by omega)) ?_
        refine pu rfl rfl rfl rfl rfl ?_
        refine st rfl rfl rfl rfl (rAdd rfl rfl rfl (by omega) (by omega)) ?_
        refine pu rfl rfl rfl rfl rfl ?_
        refine st rfl rfl rfl rfl (rRem rfl rfl rfl (by omega) (by omega)) ?_
        refine pu rfl rfl rfl rfl rfl ?_
        refine tr_seq ?_
        have e2 : (k % (g.q - 1) + (g.q - 1)) % (g.q - 1) = k % (g.q - 1) := by rw [Int.add_emod_right, Int.emod_emod_of_dvd _ (Int.dvd_refl _)]
        rw [e2]
        have hmb := mul_bd0 (g.log.getD (inI g.q x).toNat 0) (k % (g.q - 1)) 256 256 (by omega) (by omega) (by omega) (by omega)
        have e3 := Int.emod_nonneg (g.log.getD (inI g.q x).toNat 0 * (k % (g.q - 1))) (show g.q - 1 ≠ 0 by omega)
        have e4 := Int.emod_lt_of_pos (g.log.getD (inI g.q x).toNat 0 * (k % (g.q - 1))) (show 0 < g.q - 1 by omega)
        refine tr_draw [0, 1, 2, 3, 4, 5, 6, 7, 8, 9, 10, 11, 12, 13, 14, 15, 16, 17, 18] [] mixed (by kernel_rfl) fun _ _ _ => ?_
        refine pu rfl rfl rfl rfl rfl ?_
        refine st rfl rfl rfl rfl (rNil rfl rfl) ?_
        refine st rfl rfl rfl rfl (rFld rfl rfl) ?_
        refine st rfl rfl rfl rfl (rLdF rfl rfl rfl) ?_
        refine pu rfl rfl rfl rfl rfl ?_
        refine st rfl rfl rfl rfl (rNil rfl rfl) ?_
        refine st rfl rfl rfl rfl (rFld rfl rfl) ?_
        refine st rfl rfl rfl rfl (rLdF rfl rfl rfl) ?_
        refine pu rfl rfl rfl rfl rfl ?_
        refine st rfl rfl rfl rfl (rIdxI rfl rfl rfl (by omega) (by omega) (by omega)) ?_
        refine st rfl rfl rfl rfl (rLdI rfl rfl (by omega)) ?_
        refine pu rfl rfl rfl rfl rfl ?_
        refine st rfl rfl rfl rfl (rMul rfl rfl rfl (by omega) (by omega)) ?_
        refine pu rfl rfl rfl rfl rfl ?_
        refine st rfl rfl rfl rfl (rRem rfl rfl rfl (by omega) (by omega)) ?_
        refine st rfl rfl rfl rfl (rIdxI rfl rfl rfl (by omega) (by omega) (by omega)) ?_
        refine st rfl rfl rfl rfl (rLdI rfl rfl (by omega)) ?_
        iterate 2 refine pu rfl rfl rfl rfl rfl ?_
        have hfin : g.exp.getD (g.log.getD (inI g.q x).toNat 0 * (k % (g.q - 1)) % (g.q - 1)).toNat 0 = (Rg.pow (el x : El p m mod) k.toNat).1 := by
          have h1 := hy (g.log.getD (inI g.q x).toNat 0 * (k % (g.q - 1)) % (g.q - 1)).toNat (by omega)
          have h2 := hy (g.log.getD (inI g.q x).toNat 0).toNat (by omega)
          rw [hlx.2.2] at h2
          have h3 : (el x : El p m mod) = Rg.pow y (g.log.getD (inI g.q x).toNat 0).toNat := by rw [← h2, ← hix, el_of]
          have hqe : (pw p m - 1).toNat = (g.q - 1).toNat := by rw [heq]
          have h4 : (g.log.getD (inI g.q x).toNat 0 * (k % (g.q - 1)) % (g.q - 1)).toNat = ((g.log.getD (inI g.q x).toNat 0).toNat * (k.toNat % (pw p m - 1).toNat)) % (pw p m - 1).toNat := by
            rw [hqe]
            obtain ⟨a, ha⟩ := Int.eq_ofNat_of_zero_le (show 0 ≤ g.log.getD (inI g.q x).toNat 0 by omega)
            obtain ⟨b, hb⟩ := Int.eq_ofNat_of_zero_le hk
            obtain ⟨c, hc⟩ := Int.eq_ofNat_of_zero_le (show 0 ≤ g.q - 1 by omega)
            rw [ha, hb, hc, ← Int.natCast_emod, ← Int.natCast_mul, ← Int.natCast_emod]
            simp only [Int.toNat_natCast]
          rw [h4, pow_rem hy0, Rg.pow_mul, ← h3, pow_rem hx0] at h1
          have h5 : g.exp.getD ((g.log.getD (inI g.q x).toNat 0).toNat * (k.toNat % (pw p m - 1).toNat) % (pw p m - 1).toNat) 0 ∈ g.exp := getD_mem (by rw [← h4]; omega) 0
          obtain ⟨z, hz⟩ := hg.gen
          have h6 := hz.pow.nz _ h5
          rw [← h1, el_in ⟨by omega, h6.2⟩, h4]
        exact tr_ret ⟨trivial, _, _, rfl, ⟨by rw [hfin], rfl⟩, CSub.nil _, trivial⟩

end Go.Proofs.Ytjmojhflnjbgaaa

set_option linter.unusedSimpArgs false
set_option linter.unusedVariables false
set_option maxRecDepth 100000
namespace Go.Proofs.Ytjmojhflnjbgaaa
open Go.RowKit

theorem filt_head (φ : Int → Bool) : ∀ (n : Nat) (z : Int) (rest : List Int), (upI n).filter φ = z :: rest → (0 ≤ z ∧ z < n) ∧ φ z = true ∧ ∀ s, 0 ≤ s → s < z → φ s = false
  | 0, z, rest, h => by simp [upI] at h
  | n + 1, z, rest, h => by
    rw [upI_succ, List.filter_append] at h
    cases hf : (upI n).filter φ with
    | nil =>
      rw [hf, List.nil_append] at h
      have hno : ∀ s : Int, 0 ≤ s → s < n → φ s = false := fun s h0 h1 => by
        cases hs : φ s with
        | false => rfl
        | true =>
          have : s ∈ (upI n).filter φ := List.mem_filter.2 ⟨List.mem_map.2 ⟨s.toNat, List.mem_range.2 (by omega), by omega⟩, hs⟩
          rw [hf] at this; simp at this
      cases hp : φ (n : Int) with
      | false => rw [List.filter_cons_of_neg (by rw [hp]; simp), List.filter_nil] at h; simp at h
      | true =>
        rw [List.filter_cons_of_pos hp, List.filter_nil] at h
        have hz : (n : Int) = z := by injection h
        subst hz
        exact ⟨⟨by omega, by omega⟩, hp, hno⟩
    | cons a t =>
      rw [hf, List.cons_append] at h
      have hz : a = z := by injection h
      subst hz
      have := filt_head φ n a t hf
      exact ⟨⟨this.1.1, by omega⟩, this.2⟩
section
variable {p m2 : Int} {mod2 : List Int} [hE : IsF p m2 mod2]
/-- The images of the elements. -/
noncomputable def imL (p m2 : Int) (mod2 : List Int) [hE : IsF p m2 mod2] (m r : Int) : List Int := (List.range (pw p m).toNat).map fun x : Nat => (Po.val (pol (digs p m.toNat x) : Po (El p m2 mod2)) (el r)).1
theorem imL_length (m r : Int) : (imL p m2 mod2 m r).length = (pw p m).toNat := by simp [imL]
theorem imL_get (m r : Int) {x : Nat} (h : x < (pw p m).toNat) : (imL p m2 mod2 m r).getD x 0 = (Po.val (pol (digs p m.toNat x) : Po (El p m2 mod2)) (el r)).1 := by
  unfold imL; rw [List.getD_eq_getElem?_getD, List.getElem?_map, List.getElem?_range h]; rfl
theorem imL_in (m r : Int) : AllIn (pw p m2) (imL p m2 mod2 m r) := fun z hz => by
  obtain ⟨x, _, rfl⟩ := List.mem_map.1 hz
  exact El.bd _
/-- The least root of the modulus; 0 for a prime field. -/
structure IsRt (p m2 : Int) (mod2 : List Int) [hE : IsF p m2 mod2] (m : Int) (mod : List Int) (r : Int) : Prop where
  lo : 0 ≤ r
  hi : r < pw p m2
  one : m = 1 → r = 0
  root : 2 ≤ m → Po.val (pol (mod ++ [1]) : Po (El p m2 mod2)) (el r) = 0
  least : 2 ≤ m → ∀ s, 0 ≤ s → s < r → Po.val (pol (mod ++ [1]) : Po (El p m2 mod2)) (el s) ≠ 0
theorem IsRt.uniq {m : Int} {mod : List Int} (hm : 1 ≤ m) {r s : Int} (h : IsRt p m2 mod2 m mod r) (k : IsRt p m2 mod2 m mod s) : r = s := by
  by_cases h1 : m = 1
  · rw [h.one h1, k.one h1]
  · rcases Int.lt_trichotomy r s with h2 | h2 | h2
    · exact absurd (h.root (by omega)) (k.least (by omega) r h.lo h2)
    · exact h2
    · exact absurd (k.root (by omega)) (h.least (by omega) s k.lo h2)
open Classical in
noncomputable def embR (p m2 : Int) (mod2 : List Int) [hE : IsF p m2 mod2] (m : Int) (mod : List Int) : Int := if h : ∃ r, IsRt p m2 mod2 m mod r then Classical.choose h else 0
theorem IsRt.eq {m : Int} {mod : List Int} (hm : 1 ≤ m) {r : Int} (h : IsRt p m2 mod2 m mod r) : embR p m2 mod2 m mod = r := by
  have hx : ∃ r, IsRt p m2 mod2 m mod r := ⟨r, h⟩
  unfold embR
  rw [dif_pos hx]
  exact (Classical.choose_spec hx).uniq hm h
theorem polmod_ne (mod : List Int) : (pol (mod ++ [1]) : Po (El p m2 mod2)) ≠ 0 := fun e => by
  have h := congrArg (fun f => Po.cf f mod.length) e
  simp only [cf_pol, Po.cf_zero] at h
  rw [List.getD_eq_getElem?_getD, List.getElem?_append_right (Nat.le_refl _), Nat.sub_self] at h
  exact Fd.one_ne (K := El p m2 mod2) (el_one.symm.trans h)
end
theorem rt_of_head {p m m2 : Int} {mod mod2 : List Int} [hF : IsF p m mod] [hE : IsF p m2 mod2] (hm : 2 ≤ m) (hd : m2 % m = 0) {zs : List Int} (hz : zs = (upI (pw p m2).toNat).filter (zset p m2 mod2 (pol (mod ++ [1])))) : zs.length ≠ 0 ∧ IsRt p m2 mod2 m mod (zs.getD 0 0) := by
  have hq := hE.q2
  cases hzs : zs with
  | nil =>
    obtain ⟨a, ha⟩ := emb_root (p := p) (m := m) (mod := mod) (m2 := m2) (mod2 := mod2) hm hd
    have hab := a.2
    have : a.1 ∈ (upI (pw p m2).toNat).filter (zset p m2 mod2 (pol (mod ++ [1]))) := List.mem_filter.2 ⟨List.mem_map.2 ⟨a.1.toNat, List.mem_range.2 (by omega), by omega⟩, zset_iff.2 (by rw [el_of]; exact ha)⟩
    rw [← hz, hzs] at this; simp at this
  | cons z rest =>
    have h := filt_head _ _ z rest (hz.symm.trans hzs)
    refine ⟨by simp, ⟨h.1.1, ?_, fun e => by omega, fun _ => zset_iff.1 h.2.1, fun _ s h0 h1 => fun e => ?_⟩⟩
    · have := h.1.2; show z < _; omega
    · have := h.2.2 s h0 h1
      rw [zset_iff.2 e] at this; cases this
theorem digs_len (p : Int) : ∀ (M : Nat) (x : Int), (digs p M x).length = M
  | 0, _ => rfl
  | M + 1, x => by rw [digs, List.length_cons, digs_len p M]

theorem poly_Roots_ent : Enters Try.prog 194 := enters_of Try.func194 (by kernel_rfl) (by kernel_rfl)
theorem poly_Roots (g : GfM) {p m : Int} {mod : List Int} [hF : IsF p m mod] (hg : GOk g p m mod) (X : Option Addr) (nx cx : Nat) (lx : List Int) (hnx : nx = lx.length) (h9 : lx.length ≤ 1000000) (h0 : (pol lx : Po (El p m mod)) ≠ 0) :
    Pure Try.prog 194 #[.pointer (some g.p), .slice X nx cx] [gfR g, ro X (ints lx)] (one (fun v ch => ∃ B cb zs, v = .tuple #[.slice B zs.length cb, .int .i64 0] ∧ ch = ow B 3 cb (ints zs) ∧ zs = (upI g.q.toNat).filter (zset p m mod (pol lx)))) := by
  have hq2 := hg.q2
  have hqe := hg.eq
  have hq9 := hF.out.1.1.q
  have hil := il_le (p := p) (m := m) (mod := mod) lx
  have hl0 : (il (pol lx : Po (El p m mod))).length ≠ 0 := fun e => h0 (il_eq_nil.1 (List.length_eq_zero_iff.1 e))
  refine pure_of (args := [.pointer (some g.p), .slice X nx cx]) 28 Try.func194 rfl rfl rfl poly_Roots_ent ⟨id, id, trivial⟩ (fun w0 => ?_)
  refine tr_seq ?_
  refine tr_region fun _ _ _ => ?_
  refine ef rfl rfl (eBox rfl rfl rfl rfl rfl (fun p0 => ?_)) 
  iterate 2 refine pu rfl rfl rfl rfl rfl ?_
  refine tr_seq ?_
  refine tr_region fun _ _ _ => ?_
  refine st rfl rfl rfl rfl (rLd0 rfl rfl) ?_
  refine pu rfl rfl rfl rfl rfl ?_
  refine ef rfl rfl (eCall1 rfl rfl rfl (poly_CanonE g hg _ _ _ lx (by first | omega | rfl | simp) (by omega)) ⟨rfl, rfl, trivial⟩ ?_) 
  rintro _ _ ⟨B1, c1, rfl, hcap1, rfl⟩
  refine ef rfl rfl (eAlloc rfl rfl rfl (fun p1a => ?_)) 
  refine ef rfl rfl (eSt0 rfl rfl rfl rfl rfl rfl ?_) 
  refine tr_seq ?_
  refine tr_seq ?_
  refine tr_region fun _ _ _ => ?_
  refine st rfl rfl rfl rfl (rLd0 rfl rfl) ?_
  refine st rfl rfl rfl rfl (rLen rfl rfl) ?_
  refine pu rfl rfl rfl rfl rfl ?_
  refine tr_cond_bool rfl (fun h2 => ?_) (fun h2 => ?_)
  · try simp only [zb1, zb2, zb3, zb4, zb5, zb6, zb7, zb8, zb9, zb10] at h2
    omega --done
  · try simp only [zb1, zb2, zb3, zb4, zb5, zb6, zb7, zb8, zb9, zb10] at h2
    refine tr_skip ?_
    refine tr_seq ?_
    refine tr_region fun _ _ _ => ?_
    refine ef rfl rfl (eAlloc rfl rfl rfl (fun p4 => ?_)) 
    refine tr_seq ?_
    refine tr_seq ?_
    refine tr_region fun _ _ _ => ?_
    refine st rfl rfl rfl rfl (rLd0 rfl rfl) ?_
    refine ef rfl rfl (eCall1 rfl rfl rfl (gf_Elements _) ⟨rfl, trivial⟩ ?_) 
    rintro _ _ ⟨B5, rfl, rfl⟩
    refine tr_nilI 3 ?_
    refine tr_block ?_
    refine tr_range (hseq := elems_gives (by omega) (by omega)) rfl gf_Elements1_ent rfl rfl rfl rfl rfl (fun (q : (Option Addr) × Nat × (List Int)) => match q with | (B, cb, zs) => [blk B5 93 [.pointer (some g.p)], blk p4 22 [.slice B zs.length cb], ow B 3 cb (ints zs), blk p1a 22 [.slice B1 (il (pol lx : Po (El p m mod))).length c1], ow B1 3 c1 (ints (il (pol lx : Po (El p m mod)))), blk p0 93 [.pointer (some g.p)], gfR g]) (fun (pre : List Int) (q : (Option Addr) × Nat × (List Int)) => match q with | (B, cb, zs) => zs = pre.filter (zset p m mod (pol lx)) ∧ zs.length ≤ pre.length) (none, 0, []) (by first | exact cs _ _ | exact CSub.refl _) (⟨rfl, by simp⟩) ?_ ?_
    · rintro pre x ⟨B, cb, zs⟩ l M0 W0 hlen hI
      refine tr_block ?_
      refine tr_seq ?_
      refine tr_region fun _ _ _ => ?_
      refine st rfl rfl rfl rfl (rLd0 rfl rfl) ?_
      refine st rfl rfl rfl rfl (rLd0 rfl rfl) ?_
      refine pu rfl rfl rfl rfl rfl ?_
      refine ef rfl rfl (eCallV rfl rfl rfl (poly_Eval g hg B1 _ _ (il (pol lx : Po (El p m mod))) rfl (by omega) x) ⟨rfl, rfl, rfl, trivial⟩ ?_) 
      refine pu rfl rfl rfl rfl rfl ?_
      refine tr_cond_bool rfl (fun h7 => ?_) (fun h7 => ?_)
      · try simp only [zb1, zb2, zb3, zb4, zb5, zb6, zb7, zb8, zb9, zb10] at h7
        refine tr_region fun _ _ _ => ?_
        refine st rfl rfl rfl rfl (rLd0 rfl rfl) ?_
        refine pu rfl rfl rfl rfl rfl ?_
        refine ef rfl rfl (eLit1I rfl rfl rfl rfl (fun A8 => ?_)) 
        refine ef rfl rfl (eAppI rfl rfl rfl rfl rfl (by first | rfl | simp | omega) (by first | rfl | simp | omega) (by first | omega | (simp; omega)) (fun A8a c8a => ?_)) 
        refine ef rfl rfl (eSt0 rfl rfl rfl rfl rfl rfl ?_) 
        refine ⟨(A8a, c8a, zs ++ [x]), by first | exact cs _ _ | exact CSub.refl _, ?_⟩
        rw [pol_il] at h7
        have hz : zset p m mod (pol lx) x = true := zset_iff.2 ((val_zero_iff _).1 (by first | exact h7 | simpa using h7))
        refine ⟨?_, by simp; omega⟩
        rw [List.filter_append, ← hI.1, List.filter_cons_of_pos hz, List.filter_nil]
      · try simp only [zb1, zb2, zb3, zb4, zb5, zb6, zb7, zb8, zb9, zb10] at h7
        refine tr_skip ?_
        refine ⟨(B, cb, zs), by first | exact cs _ _ | exact CSub.refl _, ?_⟩
        rw [pol_il] at h7
        have hz : ¬ zset p m mod (pol lx) x = true := fun h => h7 ((val_zero_iff _).2 (zset_iff.1 h))
        refine ⟨?_, by simp; omega⟩
        rw [List.filter_append, ← hI.1, List.filter_cons_of_neg hz, List.filter_nil, List.append_nil]
    · rintro ⟨B, cb, zs⟩ hI
      refine tr_seq ?_
      refine tr_region fun _ _ _ => ?_
      refine st rfl rfl rfl rfl (rLd0 rfl rfl) ?_
      iterate 2 refine pu rfl rfl rfl rfl rfl ?_
      exact tr_ret ⟨trivial, _, _, rfl, ⟨_, rfl, B, cb, zs, rfl, rfl, hI.1⟩, cs _ _, trivial, trivial⟩

theorem tow_EmbP_ent : Enters Try.prog 156 := enters_of Try.func156 (by kernel_rfl) (by kernel_rfl)
theorem tow_EmbP (p m : Int) (A : Option Addr) (c : Nat) (mod : List Int) [hF : IsF p m mod] (g : GfM) (p2 m2 : Int) (mod2 : List Int) [hE : IsF p2 m2 mod2] (hg : GOk g p2 m2 mod2) (hne : p ≠ p2) :
    Pure Try.prog 156 #[.agg #[.int .i64 p, .int .i64 m, .slice A mod.length c], .pointer (some g.p)] [ro A (ints mod), gfR g] (isV (.tuple #[.slice none 0 0, .int .i64 10])) := by
  have hl8 := hF.short
  have hl82 := hE.short
  have hgm := hg.emod
  have hgl : g.mod.length ≤ 1000000 := by rw [hgm]; omega
  have hgP := hg.eP
  have hgM := hg.eM
  have hm1 := hF.m1
  have hm21 := hE.m1
  refine pure_of (args := [.agg #[.int .i64 p, .int .i64 m, .slice A mod.length c], .pointer (some g.p)]) 96 Try.func156 rfl rfl rfl tow_EmbP_ent ⟨id, id, trivial⟩ (fun w0 => ?_)
  refine tr_seq ?_
  refine tr_region fun _ _ _ => ?_
  refine ef rfl rfl (eBox rfl rfl rfl rfl rfl (fun p0 => ?_)) 
  iterate 2 refine pu rfl rfl rfl rfl rfl ?_
  refine tr_seq ?_
  refine tr_region fun _ _ _ => ?_
  refine st rfl rfl rfl rfl (rLdS rfl rfl rfl) ?_
  refine ef rfl rfl (eCall1 rfl rfl rfl (fld_New_ok _ _ _ _ _ (by omega) hF.out) ⟨rfl, trivial⟩ ?_) 
  rintro _ _ ⟨h, rfl, rfl, hh⟩
  iterate 5 refine pu rfl rfl rfl rfl rfl ?_
  refine tr_seq ?_
  refine tr_seq ?_
  refine tr_region fun _ _ _ => ?_
  iterate 2 refine pu rfl rfl rfl rfl rfl ?_
  refine tr_cond_bool rfl (fun h2 => ?_) (fun h2 => ?_)
  · try simp only [zb1, zb2, zb3, zb4, zb5, zb6, zb7, zb8, zb9, zb10] at h2
    first | exact absurd trivial h2 | exact absurd rfl h2 | omega | (exact absurd h2 (by simp)) --done
  · try simp only [zb1, zb2, zb3, zb4, zb5, zb6, zb7, zb8, zb9, zb10] at h2
    refine tr_skip ?_
    refine tr_seq ?_
    refine tr_region fun _ _ _ => ?_
    refine pu rfl rfl rfl rfl rfl ?_
    refine ef rfl rfl (eCallV rfl rfl rfl (tow_prime g hgl) ⟨rfl, trivial⟩ ?_) 
    iterate 5 refine pu rfl rfl rfl rfl rfl ?_
    refine tr_seq ?_
    refine tr_seq ?_
    refine tr_region fun _ _ _ => ?_
    refine st rfl rfl rfl rfl (rFld rfl rfl) ?_
    refine st rfl rfl rfl rfl (rLdF rfl rfl rfl) ?_
    iterate 3 refine pu rfl rfl rfl rfl rfl ?_
    refine skF rfl rfl (by simp <;> omega) rfl rfl ?_
    refine skF rfl rfl (by simp <;> omega) rfl rfl ?_
    refine skF rfl rfl (by simp <;> omega) rfl rfl ?_
    refine skF rfl rfl (by simp <;> omega) rfl rfl ?_
    refine skF rfl rfl (by simp <;> omega) rfl rfl ?_
    refine st rfl rfl rfl rfl (rPick1 rfl rfl (by simp <;> omega) rfl) ?_
    refine tr_cond_bool rfl (fun h5 => ?_) (fun h5 => ?_)
    · try simp only [zb1, zb2, zb3, zb4, zb5, zb6, zb7, zb8, zb9, zb10] at h5
      refine tr_seq ?_
      refine tr_region fun _ _ _ => ?_
      iterate 2 refine pu rfl rfl rfl rfl rfl ?_
      exact tr_ret ⟨trivial, _, _, rfl, ⟨rfl, rfl⟩, CSub.nil _, trivial⟩
    · try simp only [zb1, zb2, zb3, zb4, zb5, zb6, zb7, zb8, zb9, zb10] at h5
      exact absurd h5 (by simp <;> omega) --done

theorem tow_EmbD_ent : Enters Try.prog 156 := enters_of Try.func156 (by kernel_rfl) (by kernel_rfl)
theorem tow_EmbD (p m : Int) (A : Option Addr) (c : Nat) (mod : List Int) [hF : IsF p m mod] (g : GfM) (p2 m2 : Int) (mod2 : List Int) [hE : IsF p2 m2 mod2] (hg : GOk g p2 m2 mod2) (hpp : p = p2) (hne : m2 % m ≠ 0) :
    Pure Try.prog 156 #[.agg #[.int .i64 p, .int .i64 m, .slice A mod.length c], .pointer (some g.p)] [ro A (ints mod), gfR g] (isV (.tuple #[.slice none 0 0, .int .i64 10])) := by
  have hl8 := hF.short
  have hl82 := hE.short
  have hgm := hg.emod
  have hgl : g.mod.length ≤ 1000000 := by rw [hgm]; omega
  have hgP := hg.eP
  have hgM := hg.eM
  have hm1 := hF.m1
  have hm21 := hE.m1
  refine pure_of (args := [.agg #[.int .i64 p, .int .i64 m, .slice A mod.length c], .pointer (some g.p)]) 96 Try.func156 rfl rfl rfl tow_EmbD_ent ⟨id, id, trivial⟩ (fun w0 => ?_)
  refine tr_seq ?_
  refine tr_region fun _ _ _ => ?_
  refine ef rfl rfl (eBox rfl rfl rfl rfl rfl (fun p0 => ?_)) 
  iterate 2 refine pu rfl rfl rfl rfl rfl ?_
  refine tr_seq ?_
  refine tr_region fun _ _ _ => ?_
  refine st rfl rfl rfl rfl (rLdS rfl rfl rfl) ?_
  refine ef rfl rfl (eCall1 rfl rfl rfl (fld_New_ok _ _ _ _ _ (by omega) hF.out) ⟨rfl, trivial⟩ ?_) 
  rintro _ _ ⟨h, rfl, rfl, hh⟩
  iterate 5 refine pu rfl rfl rfl rfl rfl ?_
  refine tr_seq ?_
  refine tr_seq ?_
  refine tr_region fun _ _ _ => ?_
  iterate 2 refine pu rfl rfl rfl rfl rfl ?_
  refine tr_cond_bool rfl (fun h2 => ?_) (fun h2 => ?_)
  · try simp only [zb1, zb2, zb3, zb4, zb5, zb6, zb7, zb8, zb9, zb10] at h2
    first | exact absurd trivial h2 | exact absurd rfl h2 | omega | (exact absurd h2 (by simp)) --done
  · try simp only [zb1, zb2, zb3, zb4, zb5, zb6, zb7, zb8, zb9, zb10] at h2
    refine tr_skip ?_
    refine tr_seq ?_
    refine tr_region fun _ _ _ => ?_
    refine pu rfl rfl rfl rfl rfl ?_
    refine ef rfl rfl (eCallV rfl rfl rfl (tow_prime g hgl) ⟨rfl, trivial⟩ ?_) 
    iterate 5 refine pu rfl rfl rfl rfl rfl ?_
    refine tr_seq ?_
    refine tr_seq ?_
    refine tr_region fun _ _ _ => ?_
    refine st rfl rfl rfl rfl (rFld rfl rfl) ?_
    refine st rfl rfl rfl rfl (rLdF rfl rfl rfl) ?_
    iterate 3 refine pu rfl rfl rfl rfl rfl ?_
    refine stT rfl rfl rfl (by simp <;> omega) rfl rfl (rMove rfl rfl) ?_
    refine stT rfl rfl rfl (by simp <;> omega) rfl rfl (rFld rfl rfl) ?_
    refine stT rfl rfl rfl (by simp <;> omega) rfl rfl (rLdF rfl rfl rfl) ?_
    refine efT rfl rfl rfl (by simp <;> omega) (eCallV rfl rfl rfl (tow_isDegree g hgl m hm1 (by omega)) ⟨rfl, rfl, trivial⟩ ?_) 
    refine stT rfl rfl rfl (by simp <;> omega) rfl rfl (rNotB rfl rfl) ?_
    refine st rfl rfl rfl rfl (rPick0 rfl rfl (by simp <;> omega) rfl) ?_
    refine tr_cond_bool rfl (fun h5 => ?_) (fun h5 => ?_)
    · try simp only [zb1, zb2, zb3, zb4, zb5, zb6, zb7, zb8, zb9, zb10] at h5
      refine tr_seq ?_
      refine tr_region fun _ _ _ => ?_
      iterate 2 refine pu rfl rfl rfl rfl rfl ?_
      exact tr_ret ⟨trivial, _, _, rfl, ⟨rfl, rfl⟩, CSub.nil _, trivial⟩
    · try simp only [zb1, zb2, zb3, zb4, zb5, zb6, zb7, zb8, zb9, zb10] at h5
      exact absurd h5 (by simp [hgM, hne]) --done

theorem tow_Emb1_ent : Enters Try.prog 156 := enters_of Try.func156 (by kernel_rfl) (by kernel_rfl)
theorem tow_Emb1 (p m : Int) (A : Option Addr) (c : Nat) (mod : List Int) [hF : IsF p m mod] (g : GfM) (m2 : Int) (mod2 : List Int) [hE : IsF p m2 mod2] (hg : GOk g p m2 mod2) (hd : m2 % m = 0) (hm : m = 1) :
    Pure Try.prog 156 #[.agg #[.int .i64 p, .int .i64 m, .slice A mod.length c], .pointer (some g.p)] [ro A (ints mod), gfR g] (one (fun v ch => ∃ B, v = .tuple #[.slice B (imL p m2 mod2 m (embR p m2 mod2 m mod)).length (imL p m2 mod2 m (embR p m2 mod2 m mod)).length, .int .i64 0] ∧ ch = ow B 3 (imL p m2 mod2 m (embR p m2 mod2 m mod)).length (ints (imL p m2 mod2 m (embR p m2 mod2 m mod))))) := by
  have hl8 := hF.short
  have hl82 := hE.short
  have hgm := hg.emod
  have hgl : g.mod.length ≤ 1000000 := by rw [hgm]; omega
  have hgP := hg.eP
  have hgM := hg.eM
  have hm1 := hF.m1
  have hm21 := hE.m1
  have hmm : m ≤ m2 := Int.le_of_dvd (by omega) (Int.dvd_of_emod_eq_zero hd)
  have hq2 := hF.q2
  have hq9 := hF.out.1.1.q
  have hm8 := hF.out.1.1.m8
  have hrt : IsRt p m2 mod2 m mod 0 := ⟨by omega, by have := hE.q2; omega, fun _ => rfl, fun h => by omega, fun h => by omega⟩
  have hre := hrt.eq hm1
  have hps : ∀ i : Nat, i < m.toNat → ([1] : List Int).getD i 0 = (Rg.pow (el (embR p m2 mod2 m mod)) i : El p m2 mod2).1 := fun i hi => by
    have : i = 0 := by omega
    subst this; rfl
  refine pure_of (args := [.agg #[.int .i64 p, .int .i64 m, .slice A mod.length c], .pointer (some g.p)]) 96 Try.func156 rfl rfl rfl tow_Emb1_ent ⟨id, id, trivial⟩ (fun w0 => ?_)
  refine tr_seq ?_
  refine tr_region fun _ _ _ => ?_
  refine ef rfl rfl (eBox rfl rfl rfl rfl rfl (fun p0 => ?_)) 
  iterate 2 refine pu rfl rfl rfl rfl rfl ?_
  refine tr_seq ?_
  refine tr_region fun _ _ _ => ?_
  refine st rfl rfl rfl rfl (rLdS rfl rfl rfl) ?_
  refine ef rfl rfl (eCall1 rfl rfl rfl (fld_New_ok _ _ _ _ _ (by omega) hF.out) ⟨rfl, trivial⟩ ?_) 
  rintro _ _ ⟨h, rfl, rfl, hh⟩
  iterate 5 refine pu rfl rfl rfl rfl rfl ?_
  refine tr_seq ?_
  refine tr_seq ?_
  refine tr_region fun _ _ _ => ?_
  iterate 2 refine pu rfl rfl rfl rfl rfl ?_
  refine tr_cond_bool rfl (fun h2 => ?_) (fun h2 => ?_)
  · try simp only [zb1, zb2, zb3, zb4, zb5, zb6, zb7, zb8, zb9, zb10] at h2
    first | exact absurd trivial h2 | exact absurd rfl h2 | omega | (exact absurd h2 (by simp)) --done
  · try simp only [zb1, zb2, zb3, zb4, zb5, zb6, zb7, zb8, zb9, zb10] at h2
    refine tr_skip ?_
    refine tr_seq ?_
    refine tr_region fun _ _ _ => ?_
    refine pu rfl rfl rfl rfl rfl ?_
    refine ef rfl rfl (eCallV rfl rfl rfl (tow_prime g hgl) ⟨rfl, trivial⟩ ?_) 
    iterate 5 refine pu rfl rfl rfl rfl rfl ?_
    refine tr_seq ?_
    refine tr_seq ?_
    refine tr_region fun _ _ _ => ?_
    refine st rfl rfl rfl rfl (rFld rfl rfl) ?_
    refine st rfl rfl rfl rfl (rLdF rfl rfl rfl) ?_
    iterate 3 refine pu rfl rfl rfl rfl rfl ?_
    refine stT rfl rfl rfl (by simp <;> omega) rfl rfl (rMove rfl rfl) ?_
    refine stT rfl rfl rfl (by simp <;> omega) rfl rfl (rFld rfl rfl) ?_
    refine stT rfl rfl rfl (by simp <;> omega) rfl rfl (rLdF rfl rfl rfl) ?_
    refine efT rfl rfl rfl (by simp <;> omega) (eCallV rfl rfl rfl (tow_isDegree g hgl m hm1 (by omega)) ⟨rfl, rfl, trivial⟩ ?_) 
    refine stT rfl rfl rfl (by simp <;> omega) rfl rfl (rNotB rfl rfl) ?_
    refine st rfl rfl rfl rfl (rPick0 rfl rfl (by simp <;> omega) rfl) ?_
    refine tr_cond_bool rfl (fun h5 => ?_) (fun h5 => ?_)
    · try simp only [zb1, zb2, zb3, zb4, zb5, zb6, zb7, zb8, zb9, zb10] at h5
      exact absurd h5 (by simp [hgM, hgP, hd] <;> omega) --done
    · try simp only [zb1, zb2, zb3, zb4, zb5, zb6, zb7, zb8, zb9, zb10] at h5
      refine tr_skip ?_
      refine tr_seq ?_
      refine tr_region fun _ _ _ => ?_
      refine ef rfl rfl (eLit1I rfl rfl rfl rfl (fun A7 => ?_)) 
      refine pu rfl rfl rfl rfl rfl ?_
      refine tr_seq ?_
      refine tr_seq ?_
      refine tr_region fun _ _ _ => ?_
      refine st rfl rfl rfl rfl (rFld rfl rfl) ?_
      refine st rfl rfl rfl rfl (rLdF rfl rfl rfl) ?_
      refine pu rfl rfl rfl rfl rfl ?_
      refine tr_cond_bool rfl (fun h8 => ?_) (fun h8 => ?_)
      · try simp only [zb1, zb2, zb3, zb4, zb5, zb6, zb7, zb8, zb9, zb10] at h8
        omega --done
      · try simp only [zb1, zb2, zb3, zb4, zb5, zb6, zb7, zb8, zb9, zb10] at h8
        refine tr_skip ?_
        refine tr_seq ?_
        have hhq := hh.eq
        refine tr_region fun _ _ _ => ?_
        refine pu rfl rfl rfl rfl rfl ?_
        refine ef rfl rfl (eCallV rfl rfl rfl (gf_Order h) ⟨rfl, trivial⟩ ?_) 
        refine ef rfl rfl (eMakeI rfl rfl rfl rfl rfl (by omega) (by omega) (by omega) (fun A16a => ?_)) 
        refine pu rfl rfl rfl rfl rfl ?_
        rw [hhq]
        refine tr_seq ?_
        refine tr_seq ?_
        refine tr_region fun _ _ _ => ?_
        refine pu rfl rfl rfl rfl rfl ?_
        refine st rfl rfl rfl rfl (rLen rfl rfl) ?_
        refine pu rfl rfl rfl rfl rfl ?_
        refine tr_block ?_
        refine tr_loop2 (fun (x : Int) (o : List Int) => [(14, .slice A16a (pw p m).toNat (pw p m).toNat), (81, .int .i64 (pw p m).toNat), (82, .int .i64 x), (10, .slice A7 [1].length 1), (6, .pointer (some h.p)), (1, .pointer (some g.p)), (4, .slice none 0 0), (5, .int .i64 0)]) (fun (x : Int) (o : List Int) => [ow A16a 3 (pw p m).toNat (ints o), ow A7 3 1 (ints [1]), gfN h, blk p0 36 [.int .i64 p, .int .i64 m, .slice A mod.length c], ro A (ints mod), gfR g]) (fun (x : Int) (o : List Int) => (0 ≤ x ∧ x ≤ pw p m) ∧ o.length = (pw p m).toNat ∧ ∀ j : Nat, (j : Int) < x → o.getD j 0 = (Po.val (pol (digs p m.toNat j) : Po (El p m2 mod2)) (el (embR p m2 mod2 m mod))).1) (fun (x : Int) (o : List Int) => (pw p m - x).toNat) (0) (List.replicate (pw p m).toNat 0) ⟨rfl, rfl, rfl, rfl, rfl, rfl, rfl, rfl, trivial⟩ (by first | exact cs _ _ | exact CSub.refl _) (⟨⟨by omega, by omega⟩, by simp, fun j hj => by omega⟩) (fun x o hI => ?_)
        obtain ⟨⟨hx0, hx1⟩, hol, ho⟩ := hI
        refine tr_seq ?_
        refine tr_region fun _ _ _ => ?_
        refine pu rfl rfl rfl rfl rfl ?_
        refine tr_seq ?_
        refine tr_cond_bool rfl (fun h18 => ?_) (fun h18 => ?_)
        · try simp only [zb1, zb2, zb3, zb4, zb5, zb6, zb7, zb8, zb9, zb10] at h18
          refine tr_skip ?_
          refine tr_seq ?_
          refine tr_block ?_
          refine tr_seq ?_
          refine tr_region fun _ _ _ => ?_
          iterate 2 refine pu rfl rfl rfl rfl rfl ?_
          refine tr_region fun _ _ _ => ?_
          iterate 5 refine pu rfl rfl rfl rfl rfl ?_
          refine ef rfl rfl (eCall1 rfl rfl rfl (gf_Digits h hh x ⟨by omega, by omega⟩) ⟨rfl, rfl, trivial⟩ ?_) 
          rintro _ _ ⟨Bd, rfl, rfl⟩
          refine pu rfl rfl rfl rfl rfl ?_
          refine ef rfl rfl (eCallV rfl rfl rfl (gf_Dot g hg Bd _ _ (digs p m.toNat x) (digs_len _ _ _).symm A7 1 1 [1] rfl (by rw [digs_len]; omega) (by rw [digs_len]; show _ = 1; omega)) ⟨rfl, rfl, rfl, trivial⟩ ?_) 
          refine st rfl rfl rfl rfl (rIdxI rfl rfl rfl (by omega) (by omega) (by omega)) ?_
          refine ef rfl rfl (eStI rfl rfl rfl rfl (by omega) ?_) 
          refine tr_region fun _ _ _ => ?_
          refine st rfl rfl rfl rfl (rAdd rfl rfl rfl (by omega) (by omega)) ?_
          refine pu rfl rfl rfl rfl rfl ?_
          refine ⟨x + 1, o.set x.toNat (Rg.sm (digs p m.toNat x).length fun i => (el ((digs p m.toNat x).getD i 0) * el ([1].getD i 0) : El p m2 mod2)).1, ⟨rfl, rfl, rfl, rfl, rfl, rfl, rfl, rfl, trivial⟩, by first | exact cs _ _ | exact CSub.refl _, ?_⟩
          refine ⟨⟨⟨by omega, by omega⟩, by simpa using hol, fun j hj => ?_⟩, by omega⟩
          rw [getD_set]
          by_cases he : x.toNat = j
          · subst he
            rw [if_pos ⟨rfl, by omega⟩, Int.toNat_of_nonneg hx0, val_sum]
            refine congrArg (fun z : El p m2 mod2 => z.1) ?_
            refine Rg.sm_congr fun i hi => ?_
            rw [digs_len] at hi
            rw [hps i hi, el_of]
          · rw [if_neg (fun e => he e.1)]; exact ho j (by omega)
        · try simp only [zb1, zb2, zb3, zb4, zb5, zb6, zb7, zb8, zb9, zb10] at h18
          refine tr_exit ?_
          refine tr_seq ?_
          refine tr_region fun _ _ _ => ?_
          iterate 3 refine pu rfl rfl rfl rfl rfl ?_
          have hfin : o = (imL p m2 mod2 m (embR p m2 mod2 m mod)) := ext_getD (by rw [imL_length]; exact hol) fun j => by
            by_cases hj : j < (pw p m).toNat
            · rw [imL_get _ _ hj]; exact ho j (by omega)
            · rw [getD_out (by omega), getD_out (by rw [imL_length]; omega)]
          have hol2 : (pw p m).toNat = (imL p m2 mod2 m (embR p m2 mod2 m mod)).length := (imL_length _ _).symm
          exact tr_ret ⟨trivial, _, _, rfl, ⟨_, rfl, A16a, by rw [hol2], by rw [← hfin, hol]⟩, cs _ _, trivial, trivial⟩

theorem tow_Emb2_ent : Enters Try.prog 156 := enters_of Try.func156 (by kernel_rfl) (by kernel_rfl)
theorem tow_Emb2 (p m : Int) (A : Option Addr) (c : Nat) (mod : List Int) [hF : IsF p m mod] (g : GfM) (m2 : Int) (mod2 : List Int) [hE : IsF p m2 mod2] (hg : GOk g p m2 mod2) (hd : m2 % m = 0) (hm : 2 ≤ m) :
    Pure Try.prog 156 #[.agg #[.int .i64 p, .int .i64 m, .slice A mod.length c], .pointer (some g.p)] [ro A (ints mod), gfR g] (one (fun v ch => ∃ B, v = .tuple #[.slice B (imL p m2 mod2 m (embR p m2 mod2 m mod)).length (imL p m2 mod2 m (embR p m2 mod2 m mod)).length, .int .i64 0] ∧ ch = ow B 3 (imL p m2 mod2 m (embR p m2 mod2 m mod)).length (ints (imL p m2 mod2 m (embR p m2 mod2 m mod))))) := by
  have hl8 := hF.short
  have hl82 := hE.short
  have hgm := hg.emod
  have hgl : g.mod.length ≤ 1000000 := by rw [hgm]; omega
  have hgP := hg.eP
  have hgM := hg.eM
  have hm1 := hF.m1
  have hm21 := hE.m1
  have hmm : m ≤ m2 := Int.le_of_dvd (by omega) (Int.dvd_of_emod_eq_zero hd)
  have hq2 := hF.q2
  have hq9 := hF.out.1.1.q
  have hm8 := hF.out.1.1.m8
  refine pure_of (args := [.agg #[.int .i64 p, .int .i64 m, .slice A mod.length c], .pointer (some g.p)]) 96 Try.func156 rfl rfl rfl tow_Emb2_ent ⟨id, id, trivial⟩ (fun w0 => ?_)
  refine tr_seq ?_
  refine tr_region fun _ _ _ => ?_
  refine ef rfl rfl (eBox rfl rfl rfl rfl rfl (fun p0 => ?_)) 
  iterate 2 refine pu rfl rfl rfl rfl rfl ?_
  refine tr_seq ?_
  refine tr_region fun _ _ _ => ?_
  refine st rfl rfl rfl rfl (rLdS rfl rfl rfl) ?_
  refine ef rfl rfl (eCall1 rfl rfl rfl (fld_New_ok _ _ _ _ _ (by omega) hF.out) ⟨rfl, trivial⟩ ?_) 
  rintro _ _ ⟨h, rfl, rfl, hh⟩
  iterate 5 refine pu rfl rfl rfl rfl rfl ?_
  refine tr_seq ?_
  refine tr_seq ?_
  refine tr_region fun _ _ _ => ?_
  iterate 2 refine pu rfl rfl rfl rfl rfl ?_
  refine tr_cond_bool rfl (fun h2 => ?_) (fun h2 => ?_)
  · try simp only [zb1, zb2, zb3, zb4, zb5, zb6, zb7, zb8, zb9, zb10] at h2
    first | exact absurd trivial h2 | exact absurd rfl h2 | omega | (exact absurd h2 (by simp)) --done
  · try simp only [zb1, zb2, zb3, zb4, zb5, zb6, zb7, zb8, zb9, zb10] at h2
    refine tr_skip ?_
    refine tr_seq ?_
    refine tr_region fun _ _ _ => ?_
    refine pu rfl rfl rfl rfl rfl ?_
    refine ef rfl rfl (eCallV rfl rfl rfl (tow_prime g hgl) ⟨rfl, trivial⟩ ?_) 
    iterate 5 refine pu rfl rfl rfl rfl rfl ?_
    refine tr_seq ?_
    refine tr_seq ?_
    refine tr_region fun _ _ _ => ?_
    refine st rfl rfl rfl rfl (rFld rfl rfl) ?_
    refine st rfl rfl rfl rfl (rLdF rfl rfl rfl) ?_
    iterate 3 refine pu rfl rfl rfl rfl rfl ?_
    refine stT rfl rfl rfl (by simp <;> omega) rfl rfl (rMove rfl rfl) ?_
    refine stT rfl rfl rfl (by simp <;> omega) rfl rfl (rFld rfl rfl) ?_
    refine stT rfl rfl rfl (by simp <;> omega) rfl rfl (rLdF rfl rfl rfl) ?_
    refine efT rfl rfl rfl (by simp <;> omega) (eCallV rfl rfl rfl (tow_isDegree g hgl m hm1 (by omega)) ⟨rfl, rfl, trivial⟩ ?_) 
    refine stT rfl rfl rfl (by simp <;> omega) rfl rfl (rNotB rfl rfl) ?_
    refine st rfl rfl rfl rfl (rPick0 rfl rfl (by simp <;> omega) rfl) ?_
    refine tr_cond_bool rfl (fun h5 => ?_) (fun h5 => ?_)
    · try simp only [zb1, zb2, zb3, zb4, zb5, zb6, zb7, zb8, zb9, zb10] at h5
      exact absurd h5 (by simp [hgM, hgP, hd] <;> omega) --done
    · try simp only [zb1, zb2, zb3, zb4, zb5, zb6, zb7, zb8, zb9, zb10] at h5
      refine tr_skip ?_
      refine tr_seq ?_
      refine tr_region fun _ _ _ => ?_
      refine ef rfl rfl (eLit1I rfl rfl rfl rfl (fun A7 => ?_)) 
      refine pu rfl rfl rfl rfl rfl ?_
      refine tr_seq ?_
      refine tr_seq ?_
      refine tr_region fun _ _ _ => ?_
      refine st rfl rfl rfl rfl (rFld rfl rfl) ?_
      refine st rfl rfl rfl rfl (rLdF rfl rfl rfl) ?_
      refine pu rfl rfl rfl rfl rfl ?_
      refine tr_cond_bool rfl (fun h8 => ?_) (fun h8 => ?_)
      · try simp only [zb1, zb2, zb3, zb4, zb5, zb6, zb7, zb8, zb9, zb10] at h8
        refine tr_seq ?_
        refine tr_region fun _ _ _ => ?_
        refine pu rfl rfl rfl rfl rfl ?_
        refine ef rfl rfl (eLit0I rfl rfl rfl  (fun A9 => ?_)) 
        refine st rfl rfl rfl rfl (rFld rfl rfl) ?_
        refine st rfl rfl rfl rfl (rLdF rfl rfl rfl) ?_
        refine ef rfl rfl (eAppI rfl rfl rfl rfl rfl (by first | rfl | simp | omega) (by first | rfl | simp | omega) (by first | omega | (simp; omega)) (fun A9a c9a => ?_)) 
        refine ef rfl rfl (eLit1I rfl rfl rfl rfl (fun A9b => ?_)) 
        refine ef rfl rfl (eAppI rfl rfl rfl rfl rfl (by first | rfl | simp | omega) (by first | rfl | simp | omega) (by first | omega | (simp; omega)) (fun A9c c9c => ?_)) 
        simp only [List.nil_append]
        refine ef rfl rfl (eCall1 rfl rfl rfl (poly_Roots g hg A9c _ c9c (mod ++ [1]) rfl (by simp; omega) (polmod_ne mod)) ⟨rfl, rfl, trivial⟩ ?_) 
        rintro _ _ ⟨Bz, cz, zs, rfl, rfl, hzs⟩
        iterate 5 refine pu rfl rfl rfl rfl rfl ?_
        refine tr_seq ?_
        refine tr_seq ?_
        rw [hg.eq] at hzs
        obtain ⟨hz0, hrt⟩ := rt_of_head (p := p) (m := m) (mod := mod) hm hd hzs
        have hre := hrt.eq hm1
        refine tr_region fun _ _ _ => ?_
        refine pu rfl rfl rfl rfl rfl ?_
        refine st rfl rfl rfl rfl (rLen rfl rfl) ?_
        refine pu rfl rfl rfl rfl rfl ?_
        refine tr_cond_bool rfl (fun h10 => ?_) (fun h10 => ?_)
        · try simp only [zb1, zb2, zb3, zb4, zb5, zb6, zb7, zb8, zb9, zb10] at h10
          omega --done
        · try simp only [zb1, zb2, zb3, zb4, zb5, zb6, zb7, zb8, zb9, zb10] at h10
          refine tr_skip ?_
          refine tr_seq ?_
          refine tr_region fun _ _ _ => ?_
          refine pu rfl rfl rfl rfl rfl ?_
          refine tr_block ?_
          refine tr_loop4 (fun (i : Int) (B : Option Addr) (cb : Nat) (ps : List Int) => [(10, .slice B ps.length cb), (13, .int .i64 i), (6, .pointer (some h.p)), (11, .slice Bz zs.length cz), (1, .pointer (some g.p)), (2, .pointer (some p0)), (4, .slice none 0 0), (5, .int .i64 0)]) (fun (i : Int) (B : Option Addr) (cb : Nat) (ps : List Int) => [ow B 3 cb (ints ps), ow Bz 3 cz (ints zs), gfN h, blk p0 36 [.int .i64 p, .int .i64 m, .slice A mod.length c], ro A (ints mod), gfR g]) (fun (i : Int) (B : Option Addr) (cb : Nat) (ps : List Int) => (1 ≤ i ∧ i ≤ m) ∧ (ps.length : Int) = i ∧ ∀ j : Nat, (j : Int) < i → ps.getD j 0 = (Rg.pow (el (zs.getD 0 0)) j : El p m2 mod2).1) (fun (i : Int) (B : Option Addr) (cb : Nat) (ps : List Int) => (m - i).toNat) (1) (A7) (1) ([1]) ⟨rfl, rfl, rfl, rfl, rfl, rfl, rfl, rfl, trivial⟩ (by first | exact cs _ _ | exact CSub.refl _) (⟨⟨by omega, by omega⟩, rfl, fun j hj => by rw [show j = 0 by omega]; rfl⟩) (fun i B cb ps hI => ?_)
          obtain ⟨⟨hi0, hi1⟩, hpl, hpw⟩ := hI
          refine tr_seq ?_
          refine tr_seq ?_
          refine tr_region fun _ _ _ => ?_
          refine pu rfl rfl rfl rfl rfl ?_
          refine st rfl rfl rfl rfl (rFld rfl rfl) ?_
          refine st rfl rfl rfl rfl (rLdF rfl rfl rfl) ?_
          refine pu rfl rfl rfl rfl rfl ?_
          refine tr_cond_bool rfl (fun h13 => ?_) (fun h13 => ?_)
          · try simp only [zb1, zb2, zb3, zb4, zb5, zb6, zb7, zb8, zb9, zb10] at h13
            refine tr_skip ?_
            refine tr_seq ?_
            refine tr_block ?_
            refine tr_draw [0, 1, 2, 3, 4, 5, 6, 7, 8, 9, 10, 11] [12, 13] mixed (by kernel_rfl) fun _ _ _ => ?_
            iterate 4 refine pu rfl rfl rfl rfl rfl ?_
            refine st rfl rfl rfl rfl (rSub rfl rfl rfl (by omega) (by omega)) ?_
            refine st rfl rfl rfl rfl (rIdxI rfl rfl rfl (by omega) (by omega) (by omega)) ?_
            refine st rfl rfl rfl rfl (rLdI rfl rfl (by omega)) ?_
            refine pu rfl rfl rfl rfl rfl ?_
            refine st rfl rfl rfl rfl (rIdxI rfl rfl rfl (by omega) (by omega) (by omega)) ?_
            refine st rfl rfl rfl rfl (rLdI rfl rfl (by omega)) ?_
            refine ef rfl rfl (eCallV rfl rfl rfl (gf_MulE g hg _ _) ⟨rfl, rfl, rfl, trivial⟩ ?_) 
            refine ef rfl rfl (eLit1I rfl rfl rfl rfl (fun A15a => ?_)) 
            refine ef rfl rfl (eAppI rfl rfl rfl rfl rfl (by first | rfl | simp | omega) (by first | rfl | simp | omega) (by first | omega | (simp; omega)) (fun A15b c15b => ?_)) 
            refine pu rfl rfl rfl rfl rfl ?_
            refine tr_region fun _ _ _ => ?_
            refine pu rfl rfl rfl rfl rfl ?_
            refine st rfl rfl rfl rfl (rAdd rfl rfl rfl (by omega) (by omega)) ?_
            refine pu rfl rfl rfl rfl rfl ?_
            refine ⟨i + 1, A15b, c15b, ps ++ [(el (ps.getD (i - 1).toNat 0) * el (zs.getD (Int.toNat 0) 0) : El p m2 mod2).1], ⟨rfl, rfl, rfl, rfl, rfl, rfl, rfl, rfl, trivial⟩, by first | exact cs _ _ | exact CSub.refl _, ?_⟩
            refine ⟨⟨⟨by omega, by omega⟩, by simp; omega, fun j hj => ?_⟩, by omega⟩
            rw [getD_app1]
            by_cases he : j = ps.length
            · have h1 : (i - 1).toNat = j - 1 := by omega
              rw [if_pos he, h1, hpw (j - 1) (by omega), el_of]
              refine congrArg (fun z : El p m2 mod2 => z.1) ?_
              have h2 : j = (j - 1) + 1 := by omega
              rw [h2, Rg.pow_succ]; rfl
            · rw [if_neg he]; exact hpw j (by omega)
          · try simp only [zb1, zb2, zb3, zb4, zb5, zb6, zb7, zb8, zb9, zb10] at h13
            refine tr_exit ?_
            refine tr_seq ?_
            have hhq := hh.eq
            have hps : ∀ j : Nat, j < m.toNat → ps.getD j 0 = (Rg.pow (el (embR p m2 mod2 m mod)) j : El p m2 mod2).1 := fun j hj => by rw [hre]; exact hpw j (by omega)
            refine tr_region fun _ _ _ => ?_
            refine pu rfl rfl rfl rfl rfl ?_
            refine ef rfl rfl (eCallV rfl rfl rfl (gf_Order h) ⟨rfl, trivial⟩ ?_) 
            refine ef rfl rfl (eMakeI rfl rfl rfl rfl rfl (by omega) (by omega) (by omega) (fun A16a => ?_)) 
            refine pu rfl rfl rfl rfl rfl ?_
            rw [hhq]
            refine tr_seq ?_
            refine tr_seq ?_
            refine tr_region fun _ _ _ => ?_
            refine pu rfl rfl rfl rfl rfl ?_
            refine st rfl rfl rfl rfl (rLen rfl rfl) ?_
            refine pu rfl rfl rfl rfl rfl ?_
            refine tr_block ?_
            refine tr_loop2 (fun (x : Int) (o : List Int) => [(14, .slice A16a (pw p m).toNat (pw p m).toNat), (81, .int .i64 (pw p m).toNat), (82, .int .i64 x), (10, .slice B ps.length cb), (6, .pointer (some h.p)), (1, .pointer (some g.p)), (4, .slice none 0 0), (5, .int .i64 0)]) (fun (x : Int) (o : List Int) => [ow A16a 3 (pw p m).toNat (ints o), ow B 3 cb (ints ps), gfN h, ow Bz 3 cz (ints zs), blk p0 36 [.int .i64 p, .int .i64 m, .slice A mod.length c], ro A (ints mod), gfR g]) (fun (x : Int) (o : List Int) => (0 ≤ x ∧ x ≤ pw p m) ∧ o.length = (pw p m).toNat ∧ ∀ j : Nat, (j : Int) < x → o.getD j 0 = (Po.val (pol (digs p m.toNat j) : Po (El p m2 mod2)) (el (embR p m2 mod2 m mod))).1) (fun (x : Int) (o : List Int) => (pw p m - x).toNat) (0) (List.replicate (pw p m).toNat 0) ⟨rfl, rfl, rfl, rfl, rfl, rfl, rfl, rfl, trivial⟩ (by first | exact cs _ _ | exact CSub.refl _) (⟨⟨by omega, by omega⟩, by simp, fun j hj => by omega⟩) (fun x o hI => ?_)
            obtain ⟨⟨hx0, hx1⟩, hol, ho⟩ := hI
            refine tr_seq ?_
            refine tr_region fun _ _ _ => ?_
            refine pu rfl rfl rfl rfl rfl ?_
            refine tr_seq ?_
            refine tr_cond_bool rfl (fun h18 => ?_) (fun h18 => ?_)
            · try simp only [zb1, zb2, zb3, zb4, zb5, zb6, zb7, zb8, zb9, zb10] at h18
              refine tr_skip ?_
              refine tr_seq ?_
              refine tr_block ?_
              refine tr_seq ?_
              refine tr_region fun _ _ _ => ?_
              iterate 2 refine pu rfl rfl rfl rfl rfl ?_
              refine tr_region fun _ _ _ => ?_
              iterate 5 refine pu rfl rfl rfl rfl rfl ?_
              refine ef rfl rfl (eCall1 rfl rfl rfl (gf_Digits h hh x ⟨by omega, by omega⟩) ⟨rfl, rfl, trivial⟩ ?_) 
              rintro _ _ ⟨Bd, rfl, rfl⟩
              refine pu rfl rfl rfl rfl rfl ?_
              refine ef rfl rfl (eCallV rfl rfl rfl (gf_Dot g hg Bd _ _ (digs p m.toNat x) (digs_len _ _ _).symm B _ cb ps rfl (by rw [digs_len]; omega) (by rw [digs_len]; omega)) ⟨rfl, rfl, rfl, trivial⟩ ?_) 
              refine st rfl rfl rfl rfl (rIdxI rfl rfl rfl (by omega) (by omega) (by omega)) ?_
              refine ef rfl rfl (eStI rfl rfl rfl rfl (by omega) ?_) 
              refine tr_region fun _ _ _ => ?_
              refine st rfl rfl rfl rfl (rAdd rfl rfl rfl (by omega) (by omega)) ?_
              refine pu rfl rfl rfl rfl rfl ?_
              refine ⟨x + 1, o.set x.toNat (Rg.sm (digs p m.toNat x).length fun i => (el ((digs p m.toNat x).getD i 0) * el (ps.getD i 0) : El p m2 mod2)).1, ⟨rfl, rfl, rfl, rfl, rfl, rfl, rfl, rfl, trivial⟩, by first | exact cs _ _ | exact CSub.refl _, ?_⟩
              refine ⟨⟨⟨by omega, by omega⟩, by simpa using hol, fun j hj => ?_⟩, by omega⟩
              rw [getD_set]
              by_cases he : x.toNat = j
              · subst he
                rw [if_pos ⟨rfl, by omega⟩, Int.toNat_of_nonneg hx0, val_sum]
                refine congrArg (fun z : El p m2 mod2 => z.1) ?_
                refine Rg.sm_congr fun i hi => ?_
                rw [digs_len] at hi
                rw [hps i hi, el_of]
              · rw [if_neg (fun e => he e.1)]; exact ho j (by omega)
            · try simp only [zb1, zb2, zb3, zb4, zb5, zb6, zb7, zb8, zb9, zb10] at h18
              refine tr_exit ?_
              refine tr_seq ?_
              refine tr_region fun _ _ _ => ?_
              iterate 3 refine pu rfl rfl rfl rfl rfl ?_
              have hfin : o = (imL p m2 mod2 m (embR p m2 mod2 m mod)) := ext_getD (by rw [imL_length]; exact hol) fun j => by
                by_cases hj : j < (pw p m).toNat
                · rw [imL_get _ _ hj]; exact ho j (by omega)
                · rw [getD_out (by omega), getD_out (by rw [imL_length]; omega)]
              have hol2 : (pw p m).toNat = (imL p m2 mod2 m (embR p m2 mod2 m mod)).length := (imL_length _ _).symm
              exact tr_ret ⟨trivial, _, _, rfl, ⟨_, rfl, A16a, by rw [hol2], by rw [← hfin, hol]⟩, cs _ _, trivial, trivial⟩
      · try simp only [zb1, zb2, zb3, zb4, zb5, zb6, zb7, zb8, zb9, zb10] at h8
        omega --done

end Go.Proofs.Ytjmojhflnjbgaaa

set_option linter.unusedSimpArgs false
set_option linter.unusedVariables false
set_option maxRecDepth 100000
namespace Go.Proofs.Ytjmojhflnjbgaaa
open Go.RowKit

section
variable {p m2 : Int} {mod2 : List Int} [hE : IsF p m2 mod2]
/-- Whether all rows have the value 0 at the i-th power of a. -/
noncomputable def zerB (p m2 : Int) (mod2 : List Int) [hE : IsF p m2 mod2] (im : List Int) (rs : List RowM) (a i : Int) : Bool := rs.all fun r => zset p m2 mod2 (pol (r.xs.map (fun y : Int => im.getD y.toNat 0))) (Rg.pow (el a : El p m2 mod2) i.toNat).1
theorem zerB_any (im : List Int) (rs : List RowM) (a i : Int) : zerB p m2 mod2 im rs a i = !(rs.any fun r => !(zset p m2 mod2 (pol (r.xs.map (fun y : Int => im.getD y.toNat 0))) (Rg.pow (el a : El p m2 mod2) i.toNat).1)) := by
  unfold zerB; rw [List.all_eq_not_any_not]
theorem upF_succ (φ : Int → Bool) {i : Int} (hi : 0 ≤ i) : (upI (i + 1).toNat).filter φ = (upI i.toNat).filter φ ++ if φ i = true then [i] else [] := by
  rw [show (i + 1).toNat = i.toNat + 1 by omega, upI_succ, List.filter_append, Int.toNat_of_nonneg hi]
  congr 1
  by_cases h : φ i = true
  · rw [if_pos h, List.filter_cons_of_pos h, List.filter_nil]
  · rw [if_neg h, List.filter_cons_of_neg h, List.filter_nil]
noncomputable def zerL (p m2 : Int) (mod2 : List Int) [hE : IsF p m2 mod2] (im : List Int) (rs : List RowM) (a n : Int) : List Int := (upI n.toNat).filter (zerB p m2 mod2 im rs a)
end

theorem bch_value_ent : Enters Try.prog 114 := enters_of Try.func114 (by kernel_rfl) (by kernel_rfl)
theorem bch_value (g : GfM) {p m : Int} {mod : List Int} [hF : IsF p m mod] (hg : GOk g p m mod) (Y : Option Addr) (ny cy : Nat) (im : List Int) (hny : ny = im.length) (X : Option Addr) (nx cx : Nat) (ws : List Int) (hnx : nx = ws.length) (h9 : ws.length ≤ 1000000) (hws : ∀ y ∈ ws, 0 ≤ y ∧ y < im.length) (x : Int) :
    Pure Try.prog 114 #[.pointer (some g.p), .slice Y ny cy, .slice X nx cx, .int .i64 x] [gfR g, ro Y (ints im), ro X (ints ws)] (isV (.int .i64 (Po.val (pol (ws.map (fun y : Int => im.getD y.toNat 0)) : Po (El p m mod)) (el x)).1)) := by
  refine pure_of (args := [.pointer (some g.p), .slice Y ny cy, .slice X nx cx, .int .i64 x]) 34 Try.func114 rfl rfl rfl bch_value_ent ⟨id, id, id, trivial⟩ (fun w0 => ?_)
  refine tr_seq ?_
  refine tr_region fun _ _ _ => ?_
  refine pu rfl rfl rfl rfl rfl ?_
  refine tr_seq ?_
  refine tr_region fun _ _ _ => ?_
  refine pu rfl rfl rfl rfl rfl ?_
  refine st rfl rfl rfl rfl (rLen rfl rfl) ?_
  refine ef rfl rfl (eMakeI rfl rfl rfl rfl rfl (by omega) (by omega) (by omega) (fun A1 => ?_)) 
  refine pu rfl rfl rfl rfl rfl ?_
  simp only [Int.toNat_natCast]
  refine tr_seq ?_
  refine tr_seq ?_
  refine tr_region fun _ _ _ => ?_
  refine pu rfl rfl rfl rfl rfl ?_
  refine st rfl rfl rfl rfl (rLen rfl rfl) ?_
  refine pu rfl rfl rfl rfl rfl ?_
  refine tr_block ?_
  refine tr_loop2 (fun (k : Int) (o : List Int) => [(9, .slice A1 nx nx), (15, .slice X nx cx), (16, .int .i64 nx), (17, .int .i64 k), (0, .pointer (some g.p)), (1, .slice Y ny cy), (3, .int .i64 x), (8, .int .i64 0)]) (fun (k : Int) (o : List Int) => [ow A1 3 nx (ints o), gfR g, ro Y (ints im), ro X (ints ws)]) (fun (k : Int) (o : List Int) => (0 ≤ k ∧ k ≤ nx) ∧ o.length = nx ∧ ∀ j : Nat, (j : Int) < k → o.getD j 0 = im.getD (ws.getD j 0).toNat 0) (fun (k : Int) (o : List Int) => (nx - k).toNat) (0) (List.replicate nx 0) ⟨rfl, rfl, rfl, rfl, rfl, rfl, rfl, rfl, trivial⟩ (by first | exact cs _ _ | exact CSub.refl _) (⟨⟨by omega, by omega⟩, by simp, fun j hj => by omega⟩) (fun k o hI => ?_)
  obtain ⟨⟨hk0, hk1⟩, hol, ho⟩ := hI
  refine tr_seq ?_
  refine tr_region fun _ _ _ => ?_
  refine pu rfl rfl rfl rfl rfl ?_
  refine tr_seq ?_
  refine tr_cond_bool rfl (fun h3 => ?_) (fun h3 => ?_)
  · try simp only [zb1, zb2, zb3, zb4, zb5, zb6, zb7, zb8, zb9, zb10] at h3
    refine tr_skip ?_
    refine tr_seq ?_
    refine tr_block ?_
    refine tr_seq ?_
    have hwk := hws _ (getD_mem (show k.toNat < ws.length by omega) 0)
    refine tr_region fun _ _ _ => ?_
    refine pu rfl rfl rfl rfl rfl ?_
    refine st rfl rfl rfl rfl (rIdxI rfl rfl rfl (by omega) (by omega) (by omega)) ?_
    refine st rfl rfl rfl rfl (rLdI rfl rfl (by omega)) ?_
    iterate 2 refine pu rfl rfl rfl rfl rfl ?_
    refine tr_region fun _ _ _ => ?_
    iterate 4 refine pu rfl rfl rfl rfl rfl ?_
    refine st rfl rfl rfl rfl (rIdxI rfl rfl rfl (by omega) (by omega) (by omega)) ?_
    refine st rfl rfl rfl rfl (rLdI rfl rfl (by omega)) ?_
    refine st rfl rfl rfl rfl (rIdxI rfl rfl rfl (by omega) (by omega) (by omega)) ?_
    refine ef rfl rfl (eStI rfl rfl rfl rfl (by omega) ?_) 
    refine tr_region fun _ _ _ => ?_
    refine st rfl rfl rfl rfl (rAdd rfl rfl rfl (by omega) (by omega)) ?_
    refine pu rfl rfl rfl rfl rfl ?_
    refine ⟨k + 1, o.set k.toNat (im.getD (ws.getD k.toNat 0).toNat 0), ⟨rfl, rfl, rfl, rfl, rfl, rfl, rfl, rfl, trivial⟩, by first | exact cs _ _ | exact CSub.refl _, ?_⟩
    refine ⟨⟨⟨by omega, by omega⟩, by simpa using hol, fun j hj => ?_⟩, by omega⟩
    rw [getD_set]
    by_cases he : k.toNat = j
    · subst he; rw [if_pos ⟨rfl, by omega⟩]
    · rw [if_neg (fun e => he e.1)]; exact ho j (by omega)
  · try simp only [zb1, zb2, zb3, zb4, zb5, zb6, zb7, zb8, zb9, zb10] at h3
    refine tr_exit ?_
    refine tr_seq ?_
    have hfin : o = ws.map (fun y : Int => im.getD y.toNat 0) := ext_getD (by rw [List.length_map]; omega) fun j => by
      by_cases hj : j < ws.length
      · rw [ho j (by omega), List.getD_eq_getElem?_getD, List.getD_eq_getElem?_getD (l := ws.map _), List.getElem?_map, List.getElem?_eq_getElem hj, List.getD_eq_getElem?_getD, List.getElem?_eq_getElem hj]
        simp [List.getD_eq_getElem?_getD]
      · rw [getD_out (by omega), getD_out (by rw [List.length_map]; omega)]
    refine tr_region fun _ _ _ => ?_
    iterate 3 refine pu rfl rfl rfl rfl rfl ?_
    refine ef rfl rfl (eCallV rfl rfl rfl (poly_Eval g hg A1 _ _ o (by omega) (by omega) x) ⟨rfl, rfl, rfl, trivial⟩ ?_) 
    refine pu rfl rfl rfl rfl rfl ?_
    exact tr_ret ⟨trivial, _, _, rfl, ⟨by rw [hfin], rfl⟩, CSub.nil _, trivial⟩

theorem bch_Zeros1_ent : Enters Try.prog 113 := enters_of Try.func113 (by kernel_rfl) (by kernel_rfl)
theorem bch_Zeros1 (g : GfM) {p m : Int} {mod : List Int} [hF : IsF p m mod] (hg : GOk g p m mod) (pg pi px : Addr) (Y : Option Addr) (cy : Nat) (im : List Int) (x : Int) (X : Option Addr) (nx cx : Nat) (ws : List Int) (hnx : nx = ws.length) (h9 : ws.length ≤ 1000000) (hws : ∀ y ∈ ws, 0 ≤ y ∧ y < im.length) :
    Pure Try.prog 113 #[.slice X nx cx, .pointer (some pg), .pointer (some pi), .pointer (some px)] [ro (some pg) [.pointer (some g.p)], ro (some pi) [.slice Y im.length cy], ro (some px) [.int .i64 x], gfR g, ro Y (ints im), ro X (ints ws)] (isV (.bool (!(zset p m mod (pol (ws.map (fun y : Int => im.getD y.toNat 0))) x)))) := by
  refine pure_of (args := [.slice X nx cx, .pointer (some pg), .pointer (some pi), .pointer (some px)]) 12 Try.func113 rfl rfl rfl bch_Zeros1_ent ⟨id, id, id, id, id, id, trivial⟩ (fun w0 => ?_)
  refine tr_seq ?_
  refine tr_region fun _ _ _ => ?_
  refine pu rfl rfl rfl rfl rfl ?_
  refine tr_seq ?_
  refine tr_region fun _ _ _ => ?_
  refine st rfl rfl rfl rfl (rLd0 rfl rfl) ?_
  refine st rfl rfl rfl rfl (rLd0 rfl rfl) ?_
  refine pu rfl rfl rfl rfl rfl ?_
  refine st rfl rfl rfl rfl (rLd0 rfl rfl) ?_
  refine ef rfl rfl (eCallV rfl rfl rfl (bch_value g hg Y _ _ im rfl X _ _ ws hnx h9 hws x) ⟨rfl, rfl, rfl, rfl, trivial⟩ ?_) 
  iterate 2 refine pu rfl rfl rfl rfl rfl ?_
  have hb : (decide ¬(((Po.val (pol (ws.map (fun y : Int => im.getD y.toNat 0)) : Po (El p m mod)) (el x)).1 : Int) = 0)) = !(zset p m mod (pol (ws.map (fun y : Int => im.getD y.toNat 0))) x) := by
    by_cases h : Po.val (pol (ws.map (fun y : Int => im.getD y.toNat 0)) : Po (El p m mod)) (el x) = 0
    · rw [zset_iff.2 h, decide_eq_false (fun e => e ((val_zero_iff _).2 h))]; rfl
    · have h1 : zset p m mod (pol (ws.map (fun y : Int => im.getD y.toNat 0))) x = false := Bool.eq_false_iff.2 fun e => h (zset_iff.1 e)
      have h2 : ¬ ((Po.val (pol (ws.map (fun y : Int => im.getD y.toNat 0)) : Po (El p m mod)) (el x)).1 : Int) = 0 := fun e => h ((val_zero_iff _).1 e)
      rw [h1]; exact decide_eq_true h2
  exact tr_ret ⟨trivial, _, _, rfl, ⟨by rw [← hb], rfl⟩, CSub.nil _, trivial⟩

theorem bch_Zeros1R (g : GfM) {p m : Int} {mod : List Int} [hF : IsF p m mod] (hg : GOk g p m mod) (pg pi px : Addr) (Y : Option Addr) (cy : Nat) (im : List Int) (x : Int) (rs : List RowM) {r : RowM} (hr : r ∈ rs) (h9 : r.xs.length ≤ 1000000) (hws : ∀ y ∈ r.xs, 0 ≤ y ∧ y < im.length) :
    Pure Try.prog 113 ([Value.slice r.A r.xs.length r.cap] ++ [Value.pointer (some pg), Value.pointer (some pi), Value.pointer (some px)]).toArray [ro (some pg) [.pointer (some g.p)], ro (some pi) [.slice Y im.length cy], ro (some px) [.int .i64 x], gfR g, ro Y (ints im), rowsR rs] (isV (.bool (!(zset p m mod (pol (r.xs.map (fun y : Int => im.getD y.toNat 0))) x)))) := by
  have h := bch_Zeros1 g hg pg pi px Y cy im x r.A _ r.cap r.xs rfl h9 hws
  refine ⟨h.ent, fun w hw => h.run w fun ch hc => ?_⟩
  simp only [List.mem_cons, List.not_mem_nil, or_false] at hc
  rcases hc with rfl | rfl | rfl | rfl | rfl | rfl
  · exact hw _ (by simp)
  · exact hw _ (by simp)
  · exact hw _ (by simp)
  · exact hw _ (by simp)
  · exact hw _ (by simp)
  · exact hw (rowsR rs) (by simp) r hr

theorem slc_IndexFuncR_ent : Enters Try.prog 157 := enters_of Try.func157 (by kernel_rfl) (by kernel_rfl)
theorem slc_IndexFuncR (A : Option Addr) (n c : Nat) (rs : List RowM) (hn : n = rs.length) (h9 : rs.length ≤ 1000000000000) (f : FuncId) (lb : List Value) (Gc : List Chunk) (φ : List Int → Bool) (hf : ∀ r ∈ rs, Pure Try.prog f ([Value.slice r.A r.xs.length r.cap] ++ lb).toArray Gc (isV (.bool (φ r.xs)))) :
    Pure Try.prog 157 #[.slice A n c, .func (.func f) #[] lb.toArray] [ro A (hdrs rs), bun Gc] (val (fun v => ∃ r : Int, v = .int .i64 r ∧ (r ≥ 0 ↔ rs.any (fun r => φ r.xs) = true))) := by
  refine pure_of (args := [.slice A n c, .func (.func f) #[] lb.toArray]) 19 Try.func157 rfl rfl rfl slc_IndexFuncR_ent ⟨id, id, trivial⟩ (fun w0 => ?_)
  refine tr_seq ?_
  refine tr_region fun _ _ _ => ?_
  refine pu rfl rfl rfl rfl rfl ?_
  refine tr_seq ?_
  refine tr_seq ?_
  refine tr_region fun _ _ _ => ?_
  refine pu rfl rfl rfl rfl rfl ?_
  refine st rfl rfl rfl rfl (rLen rfl rfl) ?_
  refine pu rfl rfl rfl rfl rfl ?_
  refine tr_block ?_
  refine tr_loop1 (fun (i : Nat) => [(0, .slice A n c), (1, .func (.func f) #[] lb.toArray), (7, .int .i64 n), (8, .int .i64 i)]) (fun (i : Nat) => [ro A (hdrs rs), bun Gc]) (fun (i : Nat) => i ≤ rs.length ∧ ∀ r ∈ rs.take i, φ r.xs = false) (fun (i : Nat) => rs.length - i) (0) ⟨rfl, rfl, rfl, rfl, trivial⟩ (by first | exact cs _ _ | exact CSub.refl _) (⟨by omega, fun x hx => by simp at hx⟩) (fun i hI => ?_)
  obtain ⟨hi, hno⟩ := hI
  refine tr_seq ?_
  refine tr_region fun _ _ _ => ?_
  refine pu rfl rfl rfl rfl rfl ?_
  refine tr_seq ?_
  refine tr_cond_bool rfl (fun h2 => ?_) (fun h2 => ?_)
  · try simp only [zb1, zb2, zb3, zb4, zb5, zb6, zb7, zb8, zb9, zb10] at h2
    refine tr_skip ?_
    refine tr_seq ?_
    refine tr_block ?_
    refine tr_seq ?_
    refine tr_region fun _ _ _ => ?_
    iterate 2 refine pu rfl rfl rfl rfl rfl ?_
    refine tr_seq ?_
    have hmem : rs.getD (i : Int).toNat rowD ∈ rs := getD_mem (show (i : Int).toNat < rs.length by omega) rowD
    refine tr_region fun _ _ _ => ?_
    iterate 3 refine pu rfl rfl rfl rfl rfl ?_
    refine st rfl rfl rfl rfl (rIdxR rfl rfl rfl (by omega) (by omega) (by omega)) ?_
    refine st rfl rfl rfl rfl (rLdR rfl rfl (by omega)) ?_
    refine ef rfl rfl (eCallFV rfl rfl rfl rfl (hf _ hmem) ⟨rfl, trivial⟩ ent_bun ?_) 
    refine tr_cond_bool rfl (fun h4 => ?_) (fun h4 => ?_)
    · try simp only [zb1, zb2, zb3, zb4, zb5, zb6, zb7, zb8, zb9, zb10] at h4
      refine tr_seq ?_
      refine tr_region fun _ _ _ => ?_
      iterate 2 refine pu rfl rfl rfl rfl rfl ?_
      exact tr_ret ⟨trivial, _, _, rfl, ⟨rfl, _, rfl, ⟨fun _ => List.any_eq_true.2 ⟨_, hmem, h4⟩, fun _ => by omega⟩⟩, CSub.nil _, trivial⟩
    · try simp only [zb1, zb2, zb3, zb4, zb5, zb6, zb7, zb8, zb9, zb10] at h4
      refine tr_skip ?_
      refine tr_region fun _ _ _ => ?_
      refine st rfl rfl rfl rfl (rAdd rfl rfl rfl (by omega) (by omega)) ?_
      refine pu rfl rfl rfl rfl rfl ?_
      refine ⟨i + 1, ⟨rfl, rfl, rfl, rfl, trivial⟩, by first | exact cs _ _ | exact CSub.refl _, ?_⟩
      refine ⟨⟨by omega, fun x hx => ?_⟩, by omega⟩
      rw [List.take_add_one, List.mem_append] at hx
      rcases hx with hx | hx
      · exact hno x hx
      · rw [List.getElem?_eq_getElem (by omega)] at hx
        simp only [Option.toList_some, List.mem_singleton] at hx
        rw [hx]
        have : rs.getD (i : Int).toNat rowD = rs[i] := by simp [List.getD_eq_getElem?_getD, show i < rs.length by omega]
        rw [this] at h4
        exact h4
  · try simp only [zb1, zb2, zb3, zb4, zb5, zb6, zb7, zb8, zb9, zb10] at h2
    refine tr_exit ?_
    refine tr_seq ?_
    refine tr_region fun _ _ _ => ?_
    refine pu rfl rfl rfl rfl rfl ?_
    have hin : i = rs.length := by omega
    rw [hin, List.take_length] at hno
    exact tr_ret ⟨trivial, _, _, rfl, ⟨rfl, _, rfl, ⟨fun h => absurd h (by decide), fun h => by
      obtain ⟨x, hx, hp⟩ := List.any_eq_true.1 h
      rw [hno x hx] at hp; cases hp⟩⟩, CSub.nil _, trivial⟩

theorem slc_ContainsFuncR_ent : Enters Try.prog 112 := enters_of Try.func112 (by kernel_rfl) (by kernel_rfl)
theorem slc_ContainsFuncR (A : Option Addr) (n c : Nat) (rs : List RowM) (hn : n = rs.length) (h9 : rs.length ≤ 1000000000000) (f : FuncId) (lb : List Value) (Gc : List Chunk) (φ : List Int → Bool) (hf : ∀ r ∈ rs, Pure Try.prog f ([Value.slice r.A r.xs.length r.cap] ++ lb).toArray Gc (isV (.bool (φ r.xs)))) :
    Pure Try.prog 112 #[.slice A n c, .func (.func f) #[] lb.toArray] [ro A (hdrs rs), bun Gc] (isV (.bool (rs.any fun r => φ r.xs))) := by
  refine pure_of (args := [.slice A n c, .func (.func f) #[] lb.toArray]) 9 Try.func112 rfl rfl rfl slc_ContainsFuncR_ent ⟨id, id, trivial⟩ (fun w0 => ?_)
  refine tr_seq ?_
  refine tr_region fun _ _ _ => ?_
  refine pu rfl rfl rfl rfl rfl ?_
  refine tr_seq ?_
  refine tr_region fun _ _ _ => ?_
  iterate 2 refine pu rfl rfl rfl rfl rfl ?_
  refine ef rfl rfl (eCall0 rfl rfl rfl (slc_IndexFuncR A n c rs hn h9 f lb Gc φ hf) ⟨rfl, rfl, trivial⟩ ?_) 
  rintro _ ⟨r, rfl, hr⟩
  iterate 2 refine pu rfl rfl rfl rfl rfl ?_
  exact tr_ret ⟨trivial, _, _, rfl, ⟨by cases hx : rs.any (fun r => φ r.xs) <;> simp [hx] at hr ⊢ <;> omega, rfl⟩, CSub.nil _, trivial⟩

theorem bch_extN_ent : Enters Try.prog 110 := enters_of Try.func110 (by kernel_rfl) (by kernel_rfl)
theorem bch_extN (p m : Int) (A : Option Addr) (c : Nat) (mod : List Int) [hF : IsF p m mod] (p2 m2 : Int) (A2 : Option Addr) (c2 : Nat) (mod2 : List Int) (hl92 : mod2.length ≤ 17592186044415) (hE : ¬ FldR p2 m2 mod2) (n : Int) :
    Pure Try.prog 110 #[.agg #[.int .i64 p, .int .i64 m, .slice A mod.length c], .agg #[.int .i64 p2, .int .i64 m2, .slice A2 mod2.length c2], .int .i64 n] [ro A (ints mod), ro A2 (ints mod2)] (isV (.tuple #[.pointer none, .slice none 0 0, .int .i64 0, .int .i64 1])) := by
  refine pure_of (args := [.agg #[.int .i64 p, .int .i64 m, .slice A mod.length c], .agg #[.int .i64 p2, .int .i64 m2, .slice A2 mod2.length c2], .int .i64 n]) 47 Try.func110 rfl rfl rfl bch_extN_ent ⟨id, id, trivial⟩ (fun w0 => ?_)
  refine tr_seq ?_
  refine tr_region fun _ _ _ => ?_
  refine ef rfl rfl (eBox rfl rfl rfl rfl rfl (fun p0 => ?_)) 
  refine ef rfl rfl (eBox rfl rfl rfl rfl rfl (fun p0a => ?_)) 
  iterate 4 refine pu rfl rfl rfl rfl rfl ?_
  refine tr_seq ?_
  refine tr_region fun _ _ _ => ?_
  refine st rfl rfl rfl rfl (rLdS rfl rfl rfl) ?_
  refine ef rfl rfl (eCallV rfl rfl rfl (fld_New_no _ _ _ _ _ hl92 hE) ⟨rfl, trivial⟩ ?_) 
  iterate 5 refine pu rfl rfl rfl rfl rfl ?_
  refine tr_seq ?_
  refine tr_seq ?_
  refine tr_region fun _ _ _ => ?_
  iterate 2 refine pu rfl rfl rfl rfl rfl ?_
  refine tr_cond_bool rfl (fun h2 => ?_) (fun h2 => ?_)
  · try simp only [zb1, zb2, zb3, zb4, zb5, zb6, zb7, zb8, zb9, zb10] at h2
    refine tr_seq ?_
    refine tr_region fun _ _ _ => ?_
    iterate 5 refine pu rfl rfl rfl rfl rfl ?_
    exact tr_ret ⟨trivial, _, _, rfl, ⟨rfl, rfl⟩, CSub.nil _, trivial⟩
  · try simp only [zb1, zb2, zb3, zb4, zb5, zb6, zb7, zb8, zb9, zb10] at h2
    first | exact absurd trivial h2 | exact absurd rfl h2 | omega | (exact absurd h2 (by simp)) --done

theorem bch_extL_ent : Enters Try.prog 110 := enters_of Try.func110 (by kernel_rfl) (by kernel_rfl)
theorem bch_extL (p m : Int) (A : Option Addr) (c : Nat) (mod : List Int) [hF : IsF p m mod] (p2 m2 : Int) (A2 : Option Addr) (c2 : Nat) (mod2 : List Int) [hE : IsF p2 m2 mod2] (n : Int) (hb : n < 1 ∨ n > 64) :
    Pure Try.prog 110 #[.agg #[.int .i64 p, .int .i64 m, .slice A mod.length c], .agg #[.int .i64 p2, .int .i64 m2, .slice A2 mod2.length c2], .int .i64 n] [ro A (ints mod), ro A2 (ints mod2)] (isV (.tuple #[.pointer none, .slice none 0 0, .int .i64 0, .int .i64 4])) := by
  refine pure_of (args := [.agg #[.int .i64 p, .int .i64 m, .slice A mod.length c], .agg #[.int .i64 p2, .int .i64 m2, .slice A2 mod2.length c2], .int .i64 n]) 47 Try.func110 rfl rfl rfl bch_extL_ent ⟨id, id, trivial⟩ (fun w0 => ?_)
  refine tr_seq ?_
  refine tr_region fun _ _ _ => ?_
  refine ef rfl rfl (eBox rfl rfl rfl rfl rfl (fun p0 => ?_)) 
  refine ef rfl rfl (eBox rfl rfl rfl rfl rfl (fun p0a => ?_)) 
  iterate 4 refine pu rfl rfl rfl rfl rfl ?_
  refine tr_seq ?_
  refine tr_region fun _ _ _ => ?_
  refine st rfl rfl rfl rfl (rLdS rfl rfl rfl) ?_
  refine ef rfl rfl (eCall1 rfl rfl rfl (fld_New_ok _ _ _ _ _ (by have := hE.short; omega) hE.out) ⟨rfl, trivial⟩ ?_) 
  rintro _ _ ⟨g, rfl, rfl, hg⟩
  iterate 5 refine pu rfl rfl rfl rfl rfl ?_
  refine tr_seq ?_
  refine tr_seq ?_
  refine tr_region fun _ _ _ => ?_
  iterate 2 refine pu rfl rfl rfl rfl rfl ?_
  refine tr_cond_bool rfl (fun h2 => ?_) (fun h2 => ?_)
  · try simp only [zb1, zb2, zb3, zb4, zb5, zb6, zb7, zb8, zb9, zb10] at h2
    first | exact absurd trivial h2 | exact absurd rfl h2 | omega | (exact absurd h2 (by simp)) --done
  · try simp only [zb1, zb2, zb3, zb4, zb5, zb6, zb7, zb8, zb9, zb10] at h2
    refine tr_skip ?_
    refine tr_seq ?_
    refine tr_seq ?_
    refine tr_region fun _ _ _ => ?_
    iterate 3 refine pu rfl rfl rfl rfl rfl ?_
    refine stg rfl rfl rfl rfl rfl (fun hb => by (have hq := hb; try simp only [zb1, zb2, zb3, zb4, zb5, zb6, zb7, zb8, zb9, zb10] at hq); exact rMove rfl rfl) ?_
    refine stg rfl rfl rfl rfl rfl (fun hb => by (have hq := hb; try simp only [zb1, zb2, zb3, zb4, zb5, zb6, zb7, zb8, zb9, zb10] at hq); exact rGtr rfl (evg rfl hb) rfl) ?_
    refine st rfl rfl rfl rfl (rOrB rfl rfl rfl rfl) ?_
    refine tr_cond_bool rfl (fun h4 => ?_) (fun h4 => ?_)
    · try simp only [zb1, zb2, zb3, zb4, zb5, zb6, zb7, zb8, zb9, zb10] at h4
      refine tr_seq ?_
      refine tr_region fun _ _ _ => ?_
      iterate 4 refine pu rfl rfl rfl rfl rfl ?_
      exact tr_ret ⟨trivial, _, _, rfl, ⟨rfl, rfl⟩, CSub.nil _, trivial⟩
    · try simp only [zb1, zb2, zb3, zb4, zb5, zb6, zb7, zb8, zb9, zb10] at h4
      omega --done

theorem bch_extP_ent : Enters Try.prog 110 := enters_of Try.func110 (by kernel_rfl) (by kernel_rfl)
theorem bch_extP (p m : Int) (A : Option Addr) (c : Nat) (mod : List Int) [hF : IsF p m mod] (p2 m2 : Int) (A2 : Option Addr) (c2 : Nat) (mod2 : List Int) [hE : IsF p2 m2 mod2] (hne : p ≠ p2) (n : Int) (hn1 : 1 ≤ n) (hn64 : n ≤ 64) :
    Pure Try.prog 110 #[.agg #[.int .i64 p, .int .i64 m, .slice A mod.length c], .agg #[.int .i64 p2, .int .i64 m2, .slice A2 mod2.length c2], .int .i64 n] [ro A (ints mod), ro A2 (ints mod2)] (isV (.tuple #[.pointer none, .slice none 0 0, .int .i64 0, .int .i64 10])) := by
  refine pure_of (args := [.agg #[.int .i64 p, .int .i64 m, .slice A mod.length c], .agg #[.int .i64 p2, .int .i64 m2, .slice A2 mod2.length c2], .int .i64 n]) 47 Try.func110 rfl rfl rfl bch_extP_ent ⟨id, id, trivial⟩ (fun w0 => ?_)
  refine tr_seq ?_
  refine tr_region fun _ _ _ => ?_
  refine ef rfl rfl (eBox rfl rfl rfl rfl rfl (fun p0 => ?_)) 
  refine ef rfl rfl (eBox rfl rfl rfl rfl rfl (fun p0a => ?_)) 
  iterate 4 refine pu rfl rfl rfl rfl rfl ?_
  refine tr_seq ?_
  refine tr_region fun _ _ _ => ?_
  refine st rfl rfl rfl rfl (rLdS rfl rfl rfl) ?_
  refine ef rfl rfl (eCall1 rfl rfl rfl (fld_New_ok _ _ _ _ _ (by have := hE.short; omega) hE.out) ⟨rfl, trivial⟩ ?_) 
  rintro _ _ ⟨g, rfl, rfl, hg⟩
  iterate 5 refine pu rfl rfl rfl rfl rfl ?_
  refine tr_seq ?_
  refine tr_seq ?_
  refine tr_region fun _ _ _ => ?_
  iterate 2 refine pu rfl rfl rfl rfl rfl ?_
  refine tr_cond_bool rfl (fun h2 => ?_) (fun h2 => ?_)
  · try simp only [zb1, zb2, zb3, zb4, zb5, zb6, zb7, zb8, zb9, zb10] at h2
    first | exact absurd trivial h2 | exact absurd rfl h2 | omega | (exact absurd h2 (by simp)) --done
  · try simp only [zb1, zb2, zb3, zb4, zb5, zb6, zb7, zb8, zb9, zb10] at h2
    refine tr_skip ?_
    refine tr_seq ?_
    refine tr_seq ?_
    refine tr_region fun _ _ _ => ?_
    iterate 3 refine pu rfl rfl rfl rfl rfl ?_
    refine stg rfl rfl rfl rfl rfl (fun hb => by (have hq := hb; try simp only [zb1, zb2, zb3, zb4, zb5, zb6, zb7, zb8, zb9, zb10] at hq); exact rMove rfl rfl) ?_
    refine stg rfl rfl rfl rfl rfl (fun hb => by (have hq := hb; try simp only [zb1, zb2, zb3, zb4, zb5, zb6, zb7, zb8, zb9, zb10] at hq); exact rGtr rfl (evg rfl hb) rfl) ?_
    refine st rfl rfl rfl rfl (rOrB rfl rfl rfl rfl) ?_
    refine tr_cond_bool rfl (fun h4 => ?_) (fun h4 => ?_)
    · try simp only [zb1, zb2, zb3, zb4, zb5, zb6, zb7, zb8, zb9, zb10] at h4
      omega --done
    · try simp only [zb1, zb2, zb3, zb4, zb5, zb6, zb7, zb8, zb9, zb10] at h4
      refine tr_skip ?_
      refine tr_seq ?_
      refine tr_region fun _ _ _ => ?_
      refine st rfl rfl rfl rfl (rLdS rfl rfl rfl) ?_
      refine pu rfl rfl rfl rfl rfl ?_
      refine ef rfl rfl (eCallV rfl rfl rfl (tow_EmbP _ _ _ _ _ g p2 m2 mod2 hg hne) ⟨rfl, rfl, trivial⟩ ?_) 
      iterate 5 refine pu rfl rfl rfl rfl rfl ?_
      refine tr_seq ?_
      refine tr_seq ?_
      refine tr_region fun _ _ _ => ?_
      iterate 2 refine pu rfl rfl rfl rfl rfl ?_
      refine tr_cond_bool rfl (fun h7 => ?_) (fun h7 => ?_)
      · try simp only [zb1, zb2, zb3, zb4, zb5, zb6, zb7, zb8, zb9, zb10] at h7
        refine tr_seq ?_
        refine tr_region fun _ _ _ => ?_
        iterate 5 refine pu rfl rfl rfl rfl rfl ?_
        exact tr_ret ⟨trivial, _, _, rfl, ⟨rfl, rfl⟩, CSub.nil _, trivial⟩
      · try simp only [zb1, zb2, zb3, zb4, zb5, zb6, zb7, zb8, zb9, zb10] at h7
        first | exact absurd trivial h7 | exact absurd rfl h7 | omega | (exact absurd h7 (by simp)) --done

theorem bch_extD_ent : Enters Try.prog 110 := enters_of Try.func110 (by kernel_rfl) (by kernel_rfl)
theorem bch_extD (p m : Int) (A : Option Addr) (c : Nat) (mod : List Int) [hF : IsF p m mod] (p2 m2 : Int) (A2 : Option Addr) (c2 : Nat) (mod2 : List Int) [hE : IsF p2 m2 mod2] (hpp : p = p2) (hne : m2 % m ≠ 0) (n : Int) (hn1 : 1 ≤ n) (hn64 : n ≤ 64) :
    Pure Try.prog 110 #[.agg #[.int .i64 p, .int .i64 m, .slice A mod.length c], .agg #[.int .i64 p2, .int .i64 m2, .slice A2 mod2.length c2], .int .i64 n] [ro A (ints mod), ro A2 (ints mod2)] (isV (.tuple #[.pointer none, .slice none 0 0, .int .i64 0, .int .i64 10])) := by
  refine pure_of (args := [.agg #[.int .i64 p, .int .i64 m, .slice A mod.length c], .agg #[.int .i64 p2, .int .i64 m2, .slice A2 mod2.length c2], .int .i64 n]) 47 Try.func110 rfl rfl rfl bch_extD_ent ⟨id, id, trivial⟩ (fun w0 => ?_)
  refine tr_seq ?_
  refine tr_region fun _ _ _ => ?_
  refine ef rfl rfl (eBox rfl rfl rfl rfl rfl (fun p0 => ?_)) 
  refine ef rfl rfl (eBox rfl rfl rfl rfl rfl (fun p0a => ?_)) 
  iterate 4 refine pu rfl rfl rfl rfl rfl ?_
  refine tr_seq ?_
  refine tr_region fun _ _ _ => ?_
  refine st rfl rfl rfl rfl (rLdS rfl rfl rfl) ?_
  refine ef rfl rfl (eCall1 rfl rfl rfl (fld_New_ok _ _ _ _ _ (by have := hE.short; omega) hE.out) ⟨rfl, trivial⟩ ?_) 
  rintro _ _ ⟨g, rfl, rfl, hg⟩
  iterate 5 refine pu rfl rfl rfl rfl rfl ?_
  refine tr_seq ?_
  refine tr_seq ?_
  refine tr_region fun _ _ _ => ?_
  iterate 2 refine pu rfl rfl rfl rfl rfl ?_
  refine tr_cond_bool rfl (fun h2 => ?_) (fun h2 => ?_)
  · try simp only [zb1, zb2, zb3, zb4, zb5, zb6, zb7, zb8, zb9, zb10] at h2
    first | exact absurd trivial h2 | exact absurd rfl h2 | omega | (exact absurd h2 (by simp)) --done
  · try simp only [zb1, zb2, zb3, zb4, zb5, zb6, zb7, zb8, zb9, zb10] at h2
    refine tr_skip ?_
    refine tr_seq ?_
    refine tr_seq ?_
    refine tr_region fun _ _ _ => ?_
    iterate 3 refine pu rfl rfl rfl rfl rfl ?_
    refine stg rfl rfl rfl rfl rfl (fun hb => by (have hq := hb; try simp only [zb1, zb2, zb3, zb4, zb5, zb6, zb7, zb8, zb9, zb10] at hq); exact rMove rfl rfl) ?_
    refine stg rfl rfl rfl rfl rfl (fun hb => by (have hq := hb; try simp only [zb1, zb2, zb3, zb4, zb5, zb6, zb7, zb8, zb9, zb10] at hq); exact rGtr rfl (evg rfl hb) rfl) ?_
    refine st rfl rfl rfl rfl (rOrB rfl rfl rfl rfl) ?_
    refine tr_cond_bool rfl (fun h4 => ?_) (fun h4 => ?_)
    · try simp only [zb1, zb2, zb3, zb4, zb5, zb6, zb7, zb8, zb9, zb10] at h4
      omega --done
    · try simp only [zb1, zb2, zb3, zb4, zb5, zb6, zb7, zb8, zb9, zb10] at h4
      refine tr_skip ?_
      refine tr_seq ?_
      refine tr_region fun _ _ _ => ?_
      refine st rfl rfl rfl rfl (rLdS rfl rfl rfl) ?_
      refine pu rfl rfl rfl rfl rfl ?_
      refine ef rfl rfl (eCallV rfl rfl rfl (tow_EmbD _ _ _ _ _ g p2 m2 mod2 hg hpp hne) ⟨rfl, rfl, trivial⟩ ?_) 
      iterate 5 refine pu rfl rfl rfl rfl rfl ?_
      refine tr_seq ?_
      refine tr_seq ?_
      refine tr_region fun _ _ _ => ?_
      iterate 2 refine pu rfl rfl rfl rfl rfl ?_
      refine tr_cond_bool rfl (fun h7 => ?_) (fun h7 => ?_)
      · try simp only [zb1, zb2, zb3, zb4, zb5, zb6, zb7, zb8, zb9, zb10] at h7
        refine tr_seq ?_
        refine tr_region fun _ _ _ => ?_
        iterate 5 refine pu rfl rfl rfl rfl rfl ?_
        exact tr_ret ⟨trivial, _, _, rfl, ⟨rfl, rfl⟩, CSub.nil _, trivial⟩
      · try simp only [zb1, zb2, zb3, zb4, zb5, zb6, zb7, zb8, zb9, zb10] at h7
        first | exact absurd trivial h7 | exact absurd rfl h7 | omega | (exact absurd h7 (by simp)) --done

theorem tow_Emb (p m : Int) (A : Option Addr) (c : Nat) (mod : List Int) [hF : IsF p m mod] (g : GfM) (m2 : Int) (mod2 : List Int) [hE : IsF p m2 mod2] (hg : GOk g p m2 mod2) (hd : m2 % m = 0) : Pure Try.prog 156 #[.agg #[.int .i64 p, .int .i64 m, .slice A mod.length c], .pointer (some g.p)] [ro A (ints mod), gfR g] (one (fun v ch => ∃ B, v = .tuple #[.slice B (imL p m2 mod2 m (embR p m2 mod2 m mod)).length (imL p m2 mod2 m (embR p m2 mod2 m mod)).length, .int .i64 0] ∧ ch = ow B 3 (imL p m2 mod2 m (embR p m2 mod2 m mod)).length (ints (imL p m2 mod2 m (embR p m2 mod2 m mod))))) := by
  have h1 := hF.m1
  by_cases hm : m = 1
  · exact tow_Emb1 p m A c mod g m2 mod2 hg hd hm
  · exact tow_Emb2 p m A c mod g m2 mod2 hg hd (by omega)

theorem bch_ext_ent : Enters Try.prog 110 := enters_of Try.func110 (by kernel_rfl) (by kernel_rfl)
theorem bch_ext (p m : Int) (A : Option Addr) (c : Nat) (mod : List Int) [hF : IsF p m mod] (m2 : Int) (A2 : Option Addr) (c2 : Nat) (mod2 : List Int) [hE : IsF p m2 mod2] (hd : m2 % m = 0) (n : Int) (hn1 : 1 ≤ n) (hn64 : n ≤ 64) :
    Pure Try.prog 110 #[.agg #[.int .i64 p, .int .i64 m, .slice A mod.length c], .agg #[.int .i64 p, .int .i64 m2, .slice A2 mod2.length c2], .int .i64 n] [ro A (ints mod), ro A2 (ints mod2)] (two (fun v c1 c2 => ∃ (g : GfM) (B : Option Addr), v = .tuple #[.pointer (some g.p), .slice B (imL p m2 mod2 m (embR p m2 mod2 m mod)).length (imL p m2 mod2 m (embR p m2 mod2 m mod)).length, .int .i64 (if rootArgs p m2 mod2 n = 0 then rootI p m2 mod2 n else 0), .int .i64 (rootArgs p m2 mod2 n)] ∧ c1 = gfN g ∧ c2 = ow B 3 (imL p m2 mod2 m (embR p m2 mod2 m mod)).length (ints (imL p m2 mod2 m (embR p m2 mod2 m mod))) ∧ GOk g p m2 mod2)) := by
  refine pure_of (args := [.agg #[.int .i64 p, .int .i64 m, .slice A mod.length c], .agg #[.int .i64 p, .int .i64 m2, .slice A2 mod2.length c2], .int .i64 n]) 47 Try.func110 rfl rfl rfl bch_ext_ent ⟨id, id, trivial⟩ (fun w0 => ?_)
  refine tr_seq ?_
  refine tr_region fun _ _ _ => ?_
  refine ef rfl rfl (eBox rfl rfl rfl rfl rfl (fun p0 => ?_)) 
  refine ef rfl rfl (eBox rfl rfl rfl rfl rfl (fun p0a => ?_)) 
  iterate 4 refine pu rfl rfl rfl rfl rfl ?_
  refine tr_seq ?_
  refine tr_region fun _ _ _ => ?_
  refine st rfl rfl rfl rfl (rLdS rfl rfl rfl) ?_
  refine ef rfl rfl (eCall1 rfl rfl rfl (fld_New_ok _ _ _ _ _ (by have := hE.short; omega) hE.out) ⟨rfl, trivial⟩ ?_) 
  rintro _ _ ⟨g, rfl, rfl, hg⟩
  iterate 5 refine pu rfl rfl rfl rfl rfl ?_
  refine tr_seq ?_
  refine tr_seq ?_
  refine tr_region fun _ _ _ => ?_
  iterate 2 refine pu rfl rfl rfl rfl rfl ?_
  refine tr_cond_bool rfl (fun h2 => ?_) (fun h2 => ?_)
  · try simp only [zb1, zb2, zb3, zb4, zb5, zb6, zb7, zb8, zb9, zb10] at h2
    first | exact absurd trivial h2 | exact absurd rfl h2 | omega | (exact absurd h2 (by simp)) --done
  · try simp only [zb1, zb2, zb3, zb4, zb5, zb6, zb7, zb8, zb9, zb10] at h2
    refine tr_skip ?_
    refine tr_seq ?_
    refine tr_seq ?_
    refine tr_region fun _ _ _ => ?_
    iterate 3 refine pu rfl rfl rfl rfl rfl ?_
    refine stg rfl rfl rfl rfl rfl (fun hb => by (have hq := hb; try simp only [zb1, zb2, zb3, zb4, zb5, zb6, zb7, zb8, zb9, zb10] at hq); exact rMove rfl rfl) ?_
    refine stg rfl rfl rfl rfl rfl (fun hb => by (have hq := hb; try simp only [zb1, zb2, zb3, zb4, zb5, zb6, zb7, zb8, zb9, zb10] at hq); exact rGtr rfl (evg rfl hb) rfl) ?_
    refine st rfl rfl rfl rfl (rOrB rfl rfl rfl rfl) ?_
    refine tr_cond_bool rfl (fun h4 => ?_) (fun h4 => ?_)
    · try simp only [zb1, zb2, zb3, zb4, zb5, zb6, zb7, zb8, zb9, zb10] at h4
      omega --done
    · try simp only [zb1, zb2, zb3, zb4, zb5, zb6, zb7, zb8, zb9, zb10] at h4
      refine tr_skip ?_
      refine tr_seq ?_
      refine tr_region fun _ _ _ => ?_
      refine st rfl rfl rfl rfl (rLdS rfl rfl rfl) ?_
      refine pu rfl rfl rfl rfl rfl ?_
      refine ef rfl rfl (eCall1 rfl rfl rfl (tow_Emb _ _ _ _ _ g m2 mod2 hg hd) ⟨rfl, rfl, trivial⟩ ?_) 
      rintro _ _ ⟨B6, rfl, rfl⟩
      iterate 5 refine pu rfl rfl rfl rfl rfl ?_
      refine tr_seq ?_
      refine tr_seq ?_
      refine tr_region fun _ _ _ => ?_
      iterate 2 refine pu rfl rfl rfl rfl rfl ?_
      refine tr_cond_bool rfl (fun h7 => ?_) (fun h7 => ?_)
      · try simp only [zb1, zb2, zb3, zb4, zb5, zb6, zb7, zb8, zb9, zb10] at h7
        first | exact absurd trivial h7 | exact absurd rfl h7 | omega | (exact absurd h7 (by simp)) --done
      · try simp only [zb1, zb2, zb3, zb4, zb5, zb6, zb7, zb8, zb9, zb10] at h7
        refine tr_skip ?_
        refine tr_seq ?_
        refine tr_region fun _ _ _ => ?_
        refine st rfl rfl rfl rfl (rLdS rfl rfl rfl) ?_
        refine pu rfl rfl rfl rfl rfl ?_
        refine ef rfl rfl (eCallV rfl rfl rfl (bch_Root_ok p m2 A2 c2 mod2 (by have := hE.short; omega) n hE.out) ⟨rfl, rfl, trivial⟩ ?_) 
        iterate 5 refine pu rfl rfl rfl rfl rfl ?_
        refine tr_seq ?_
        refine tr_region fun _ _ _ => ?_
        iterate 8 refine pu rfl rfl rfl rfl rfl ?_
        exact tr_ret ⟨trivial, _, _, rfl, ⟨_, _, rfl, g, B6, rfl, rfl, rfl, hg⟩, cs _ _, gfO_excl _ _ _, trivial, trivial⟩

theorem bch_ZerosE_ent : Enters Try.prog 60 := enters_of Try.func60 (by kernel_rfl) (by kernel_rfl)
theorem bch_ZerosE (p m : Int) (A : Option Addr) (c : Nat) (mod : List Int) (hl9 : mod.length ≤ 17592186044415) (w : Int) (Aa : Option Addr) (n ca : Nat) (rs : List RowM) (hn : n = rs.length) (h9 : rs.length ≤ 17592186044415) (h8 : ∀ r ∈ rs, r.xs.length ≤ 17592186044415) (he : codC p m mod w rs ≠ 0) (p2 m2 : Int) (A2 : Option Addr) (c2 : Nat) (mod2 : List Int) :
    Pure Try.prog 60 #[.agg #[.int .i64 p, .int .i64 m, .slice A mod.length c, .int .i64 w, .slice Aa n ca], .agg #[.int .i64 p2, .int .i64 m2, .slice A2 mod2.length c2]] [ro A (ints mod), ro Aa (hdrs rs), rowsR rs, ro A2 (ints mod2)] (isV (.tuple #[.slice none 0 0, .int .i64 (codC p m mod w rs)])) := by
  refine pure_of (args := [.agg #[.int .i64 p, .int .i64 m, .slice A mod.length c, .int .i64 w, .slice Aa n ca], .agg #[.int .i64 p2, .int .i64 m2, .slice A2 mod2.length c2]]) 57 Try.func60 rfl rfl rfl bch_ZerosE_ent ⟨id, id, id, id, trivial⟩ (fun w0 => ?_)
  refine tr_seq ?_
  refine tr_region fun _ _ _ => ?_
  refine ef rfl rfl (eBox rfl rfl rfl rfl rfl (fun p0 => ?_)) 
  refine ef rfl rfl (eBox rfl rfl rfl rfl rfl (fun p0a => ?_)) 
  iterate 2 refine pu rfl rfl rfl rfl rfl ?_
  refine tr_seq ?_
  refine tr_seq ?_
  refine tr_region fun _ _ _ => ?_
  refine st rfl rfl rfl rfl (rLdS rfl rfl rfl) ?_
  refine ef rfl rfl (eCallV rfl rfl rfl (code_Check _ _ _ _ _ hl9 w Aa _ ca rs hn h9 h8) ⟨rfl, trivial⟩ ?_) 
  refine pu rfl rfl rfl rfl rfl ?_
  refine tr_seq ?_
  refine tr_region fun _ _ _ => ?_
  iterate 2 refine pu rfl rfl rfl rfl rfl ?_
  refine tr_cond_bool rfl (fun h2 => ?_) (fun h2 => ?_)
  · try simp only [zb1, zb2, zb3, zb4, zb5, zb6, zb7, zb8, zb9, zb10] at h2
    refine tr_seq ?_
    refine tr_region fun _ _ _ => ?_
    iterate 3 refine pu rfl rfl rfl rfl rfl ?_
    exact tr_ret ⟨trivial, _, _, rfl, ⟨rfl, rfl⟩, CSub.nil _, trivial⟩
  · try simp only [zb1, zb2, zb3, zb4, zb5, zb6, zb7, zb8, zb9, zb10] at h2
    omega --done

theorem bch_ZerosN_ent : Enters Try.prog 60 := enters_of Try.func60 (by kernel_rfl) (by kernel_rfl)
theorem bch_ZerosN (p m : Int) (A : Option Addr) (c : Nat) (mod : List Int) [hF : IsF p m mod] (w : Int) (Aa : Option Addr) (n ca : Nat) (rs : List RowM) (hn : n = rs.length) (h9 : rs.length ≤ 256) (hc : CodeOk p m mod w rs) (p2 m2 : Int) (A2 : Option Addr) (c2 : Nat) (mod2 : List Int) (hl92 : mod2.length ≤ 17592186044415) (hE : ¬ FldR p2 m2 mod2) :
    Pure Try.prog 60 #[.agg #[.int .i64 p, .int .i64 m, .slice A mod.length c, .int .i64 w, .slice Aa n ca], .agg #[.int .i64 p2, .int .i64 m2, .slice A2 mod2.length c2]] [ro A (ints mod), ro Aa (hdrs rs), rowsR rs, ro A2 (ints mod2)] (isV (.tuple #[.slice none 0 0, .int .i64 1])) := by
  have hl9 := hF.short
  have hn1 := hc.n1
  have hn64 := hc.n64
  have hlen := hc.len
  have hgd := hc.good
  have h8 := hgd.h8 (N := 17592186044415) (by omega)
  have hck := hc.zero
  refine pure_of (args := [.agg #[.int .i64 p, .int .i64 m, .slice A mod.length c, .int .i64 w, .slice Aa n ca], .agg #[.int .i64 p2, .int .i64 m2, .slice A2 mod2.length c2]]) 57 Try.func60 rfl rfl rfl bch_ZerosN_ent ⟨id, id, id, id, trivial⟩ (fun w0 => ?_)
  refine tr_seq ?_
  refine tr_region fun _ _ _ => ?_
  refine ef rfl rfl (eBox rfl rfl rfl rfl rfl (fun p0 => ?_)) 
  refine ef rfl rfl (eBox rfl rfl rfl rfl rfl (fun p0a => ?_)) 
  iterate 2 refine pu rfl rfl rfl rfl rfl ?_
  refine tr_seq ?_
  refine tr_seq ?_
  refine tr_region fun _ _ _ => ?_
  refine st rfl rfl rfl rfl (rLdS rfl rfl rfl) ?_
  refine ef rfl rfl (eCallV rfl rfl rfl (code_Check _ _ _ _ _ (by omega) w Aa _ ca rs hn (by omega) h8) ⟨rfl, trivial⟩ ?_) 
  refine pu rfl rfl rfl rfl rfl ?_
  refine tr_seq ?_
  refine tr_region fun _ _ _ => ?_
  iterate 2 refine pu rfl rfl rfl rfl rfl ?_
  refine tr_cond_bool rfl (fun h2 => ?_) (fun h2 => ?_)
  · try simp only [zb1, zb2, zb3, zb4, zb5, zb6, zb7, zb8, zb9, zb10] at h2
    omega --done
  · try simp only [zb1, zb2, zb3, zb4, zb5, zb6, zb7, zb8, zb9, zb10] at h2
    refine tr_skip ?_
    refine tr_seq ?_
    refine tr_region fun _ _ _ => ?_
    refine st rfl rfl rfl rfl (rFld rfl rfl) ?_
    refine st rfl rfl rfl rfl (rLdSF rfl rfl) ?_
    refine st rfl rfl rfl rfl (rLdS rfl rfl rfl) ?_
    refine st rfl rfl rfl rfl (rFld rfl rfl) ?_
    refine st rfl rfl rfl rfl (rLdF rfl rfl rfl) ?_
    refine ef rfl rfl (eCallV rfl rfl rfl (bch_extN p m A c mod p2 m2 A2 c2 mod2 hl92 hE w) ⟨rfl, rfl, rfl, trivial⟩ ?_) 
    iterate 5 refine pu rfl rfl rfl rfl rfl ?_
    refine ef rfl rfl (eAlloc rfl rfl rfl (fun p4a => ?_)) 
    refine ef rfl rfl (eAlloc rfl rfl rfl (fun p4b => ?_)) 
    refine ef rfl rfl (eSt0 rfl rfl rfl rfl rfl rfl ?_) 
    refine ef rfl rfl (eSt0 rfl rfl rfl rfl rfl rfl ?_) 
    iterate 2 refine pu rfl rfl rfl rfl rfl ?_
    refine tr_seq ?_
    refine tr_seq ?_
    refine tr_region fun _ _ _ => ?_
    iterate 2 refine pu rfl rfl rfl rfl rfl ?_
    refine tr_cond_bool rfl (fun h5 => ?_) (fun h5 => ?_)
    · try simp only [zb1, zb2, zb3, zb4, zb5, zb6, zb7, zb8, zb9, zb10] at h5
      refine tr_seq ?_
      refine tr_region fun _ _ _ => ?_
      iterate 3 refine pu rfl rfl rfl rfl rfl ?_
      exact tr_ret ⟨trivial, _, _, rfl, ⟨rfl, rfl⟩, CSub.nil _, trivial⟩
    · try simp only [zb1, zb2, zb3, zb4, zb5, zb6, zb7, zb8, zb9, zb10] at h5
      first | exact absurd trivial h5 | exact absurd rfl h5 | omega | (exact absurd h5 (by simp)) --done

theorem bch_ZerosP_ent : Enters Try.prog 60 := enters_of Try.func60 (by kernel_rfl) (by kernel_rfl)
theorem bch_ZerosP (p m : Int) (A : Option Addr) (c : Nat) (mod : List Int) [hF : IsF p m mod] (w : Int) (Aa : Option Addr) (n ca : Nat) (rs : List RowM) (hn : n = rs.length) (h9 : rs.length ≤ 256) (hc : CodeOk p m mod w rs) (p2 m2 : Int) (A2 : Option Addr) (c2 : Nat) (mod2 : List Int) [hE : IsF p2 m2 mod2] (hne : p ≠ p2) :
    Pure Try.prog 60 #[.agg #[.int .i64 p, .int .i64 m, .slice A mod.length c, .int .i64 w, .slice Aa n ca], .agg #[.int .i64 p2, .int .i64 m2, .slice A2 mod2.length c2]] [ro A (ints mod), ro Aa (hdrs rs), rowsR rs, ro A2 (ints mod2)] (isV (.tuple #[.slice none 0 0, .int .i64 10])) := by
  have hl9 := hF.short
  have hn1 := hc.n1
  have hn64 := hc.n64
  have hlen := hc.len
  have hgd := hc.good
  have h8 := hgd.h8 (N := 17592186044415) (by omega)
  have hck := hc.zero
  refine pure_of (args := [.agg #[.int .i64 p, .int .i64 m, .slice A mod.length c, .int .i64 w, .slice Aa n ca], .agg #[.int .i64 p2, .int .i64 m2, .slice A2 mod2.length c2]]) 57 Try.func60 rfl rfl rfl bch_ZerosP_ent ⟨id, id, id, id, trivial⟩ (fun w0 => ?_)
  refine tr_seq ?_
  refine tr_region fun _ _ _ => ?_
  refine ef rfl rfl (eBox rfl rfl rfl rfl rfl (fun p0 => ?_)) 
  refine ef rfl rfl (eBox rfl rfl rfl rfl rfl (fun p0a => ?_)) 
  iterate 2 refine pu rfl rfl rfl rfl rfl ?_
  refine tr_seq ?_
  refine tr_seq ?_
  refine tr_region fun _ _ _ => ?_
  refine st rfl rfl rfl rfl (rLdS rfl rfl rfl) ?_
  refine ef rfl rfl (eCallV rfl rfl rfl (code_Check _ _ _ _ _ (by omega) w Aa _ ca rs hn (by omega) h8) ⟨rfl, trivial⟩ ?_) 
  refine pu rfl rfl rfl rfl rfl ?_
  refine tr_seq ?_
  refine tr_region fun _ _ _ => ?_
  iterate 2 refine pu rfl rfl rfl rfl rfl ?_
  refine tr_cond_bool rfl (fun h2 => ?_) (fun h2 => ?_)
  · try simp only [zb1, zb2, zb3, zb4, zb5, zb6, zb7, zb8, zb9, zb10] at h2
    omega --done
  · try simp only [zb1, zb2, zb3, zb4, zb5, zb6, zb7, zb8, zb9, zb10] at h2
    refine tr_skip ?_
    refine tr_seq ?_
    refine tr_region fun _ _ _ => ?_
    refine st rfl rfl rfl rfl (rFld rfl rfl) ?_
    refine st rfl rfl rfl rfl (rLdSF rfl rfl) ?_
    refine st rfl rfl rfl rfl (rLdS rfl rfl rfl) ?_
    refine st rfl rfl rfl rfl (rFld rfl rfl) ?_
    refine st rfl rfl rfl rfl (rLdF rfl rfl rfl) ?_
    refine ef rfl rfl (eCallV rfl rfl rfl (bch_extP p m A c mod p2 m2 A2 c2 mod2 hne w hn1 hn64) ⟨rfl, rfl, rfl, trivial⟩ ?_) 
    iterate 5 refine pu rfl rfl rfl rfl rfl ?_
    refine ef rfl rfl (eAlloc rfl rfl rfl (fun p4a => ?_)) 
    refine ef rfl rfl (eAlloc rfl rfl rfl (fun p4b => ?_)) 
    refine ef rfl rfl (eSt0 rfl rfl rfl rfl rfl rfl ?_) 
    refine ef rfl rfl (eSt0 rfl rfl rfl rfl rfl rfl ?_) 
    iterate 2 refine pu rfl rfl rfl rfl rfl ?_
    refine tr_seq ?_
    refine tr_seq ?_
    refine tr_region fun _ _ _ => ?_
    iterate 2 refine pu rfl rfl rfl rfl rfl ?_
    refine tr_cond_bool rfl (fun h5 => ?_) (fun h5 => ?_)
    · try simp only [zb1, zb2, zb3, zb4, zb5, zb6, zb7, zb8, zb9, zb10] at h5
      refine tr_seq ?_
      refine tr_region fun _ _ _ => ?_
      iterate 3 refine pu rfl rfl rfl rfl rfl ?_
      exact tr_ret ⟨trivial, _, _, rfl, ⟨rfl, rfl⟩, CSub.nil _, trivial⟩
    · try simp only [zb1, zb2, zb3, zb4, zb5, zb6, zb7, zb8, zb9, zb10] at h5
      first | exact absurd trivial h5 | exact absurd rfl h5 | omega | (exact absurd h5 (by simp)) --done

theorem bch_ZerosD_ent : Enters Try.prog 60 := enters_of Try.func60 (by kernel_rfl) (by kernel_rfl)
theorem bch_ZerosD (p m : Int) (A : Option Addr) (c : Nat) (mod : List Int) [hF : IsF p m mod] (w : Int) (Aa : Option Addr) (n ca : Nat) (rs : List RowM) (hn : n = rs.length) (h9 : rs.length ≤ 256) (hc : CodeOk p m mod w rs) (p2 m2 : Int) (A2 : Option Addr) (c2 : Nat) (mod2 : List Int) [hE : IsF p2 m2 mod2] (hpp : p = p2) (hne : m2 % m ≠ 0) :
    Pure Try.prog 60 #[.agg #[.int .i64 p, .int .i64 m, .slice A mod.length c, .int .i64 w, .slice Aa n ca], .agg #[.int .i64 p2, .int .i64 m2, .slice A2 mod2.length c2]] [ro A (ints mod), ro Aa (hdrs rs), rowsR rs, ro A2 (ints mod2)] (isV (.tuple #[.slice none 0 0, .int .i64 10])) := by
  have hl9 := hF.short
  have hn1 := hc.n1
  have hn64 := hc.n64
  have hlen := hc.len
  have hgd := hc.good
  have h8 := hgd.h8 (N := 17592186044415) (by omega)
  have hck := hc.zero
  refine pure_of (args := [.agg #[.int .i64 p, .int .i64 m, .slice A mod.length c, .int .i64 w, .slice Aa n ca], .agg #[.int .i64 p2, .int .i64 m2, .slice A2 mod2.length c2]]) 57 Try.func60 rfl rfl rfl bch_ZerosD_ent ⟨id, id, id, id, trivial⟩ (fun w0 => ?_)
  refine tr_seq ?_
  refine tr_region fun _ _ _ => ?_
  refine ef rfl rfl (eBox rfl rfl rfl rfl rfl (fun p0 => ?_)) 
  refine ef rfl rfl (eBox rfl rfl rfl rfl rfl (fun p0a => ?_)) 
  iterate 2 refine pu rfl rfl rfl rfl rfl ?_
  refine tr_seq ?_
  refine tr_seq ?_
  refine tr_region fun _ _ _ => ?_
  refine st rfl rfl rfl rfl (rLdS rfl rfl rfl) ?_
  refine ef rfl rfl (eCallV rfl rfl rfl (code_Check _ _ _ _ _ (by omega) w Aa _ ca rs hn (by omega) h8) ⟨rfl, trivial⟩ ?_) 
  refine pu rfl rfl rfl rfl rfl ?_
  refine tr_seq ?_
  refine tr_region fun _ _ _ => ?_
  iterate 2 refine pu rfl rfl rfl rfl rfl ?_
  refine tr_cond_bool rfl (fun h2 => ?_) (fun h2 => ?_)
  · try simp only [zb1, zb2, zb3, zb4, zb5, zb6, zb7, zb8, zb9, zb10] at h2
    omega --done
  · try simp only [zb1, zb2, zb3, zb4, zb5, zb6, zb7, zb8, zb9, zb10] at h2
    refine tr_skip ?_
    refine tr_seq ?_
    refine tr_region fun _ _ _ => ?_
    refine st rfl rfl rfl rfl (rFld rfl rfl) ?_
    refine st rfl rfl rfl rfl (rLdSF rfl rfl) ?_
    refine st rfl rfl rfl rfl (rLdS rfl rfl rfl) ?_
    refine st rfl rfl rfl rfl (rFld rfl rfl) ?_
    refine st rfl rfl rfl rfl (rLdF rfl rfl rfl) ?_
    refine ef rfl rfl (eCallV rfl rfl rfl (bch_extD p m A c mod p2 m2 A2 c2 mod2 hpp hne w hn1 hn64) ⟨rfl, rfl, rfl, trivial⟩ ?_) 
    iterate 5 refine pu rfl rfl rfl rfl rfl ?_
    refine ef rfl rfl (eAlloc rfl rfl rfl (fun p4a => ?_)) 
    refine ef rfl rfl (eAlloc rfl rfl rfl (fun p4b => ?_)) 
    refine ef rfl rfl (eSt0 rfl rfl rfl rfl rfl rfl ?_) 
    refine ef rfl rfl (eSt0 rfl rfl rfl rfl rfl rfl ?_) 
    iterate 2 refine pu rfl rfl rfl rfl rfl ?_
    refine tr_seq ?_
    refine tr_seq ?_
    refine tr_region fun _ _ _ => ?_
    iterate 2 refine pu rfl rfl rfl rfl rfl ?_
    refine tr_cond_bool rfl (fun h5 => ?_) (fun h5 => ?_)
    · try simp only [zb1, zb2, zb3, zb4, zb5, zb6, zb7, zb8, zb9, zb10] at h5
      refine tr_seq ?_
      refine tr_region fun _ _ _ => ?_
      iterate 3 refine pu rfl rfl rfl rfl rfl ?_
      exact tr_ret ⟨trivial, _, _, rfl, ⟨rfl, rfl⟩, CSub.nil _, trivial⟩
    · try simp only [zb1, zb2, zb3, zb4, zb5, zb6, zb7, zb8, zb9, zb10] at h5
      first | exact absurd trivial h5 | exact absurd rfl h5 | omega | (exact absurd h5 (by simp)) --done

theorem bch_ZerosR_ent : Enters Try.prog 60 := enters_of Try.func60 (by kernel_rfl) (by kernel_rfl)
theorem bch_ZerosR (p m : Int) (A : Option Addr) (c : Nat) (mod : List Int) [hF : IsF p m mod] (w : Int) (Aa : Option Addr) (n ca : Nat) (rs : List RowM) (hn : n = rs.length) (h9 : rs.length ≤ 256) (hc : CodeOk p m mod w rs) (m2 : Int) (A2 : Option Addr) (c2 : Nat) (mod2 : List Int) [hE : IsF p m2 mod2] (hd : m2 % m = 0) (hr : rootArgs p m2 mod2 w ≠ 0) :
    Pure Try.prog 60 #[.agg #[.int .i64 p, .int .i64 m, .slice A mod.length c, .int .i64 w, .slice Aa n ca], .agg #[.int .i64 p, .int .i64 m2, .slice A2 mod2.length c2]] [ro A (ints mod), ro Aa (hdrs rs), rowsR rs, ro A2 (ints mod2)] (isV (.tuple #[.slice none 0 0, .int .i64 (rootArgs p m2 mod2 w)])) := by
  have hl9 := hF.short
  have hn1 := hc.n1
  have hn64 := hc.n64
  have hlen := hc.len
  have hgd := hc.good
  have h8 := hgd.h8 (N := 17592186044415) (by omega)
  have hck := hc.zero
  refine pure_of (args := [.agg #[.int .i64 p, .int .i64 m, .slice A mod.length c, .int .i64 w, .slice Aa n ca], .agg #[.int .i64 p, .int .i64 m2, .slice A2 mod2.length c2]]) 57 Try.func60 rfl rfl rfl bch_ZerosR_ent ⟨id, id, id, id, trivial⟩ (fun w0 => ?_)
  refine tr_seq ?_
  refine tr_region fun _ _ _ => ?_
  refine ef rfl rfl (eBox rfl rfl rfl rfl rfl (fun p0 => ?_)) 
  refine ef rfl rfl (eBox rfl rfl rfl rfl rfl (fun p0a => ?_)) 
  iterate 2 refine pu rfl rfl rfl rfl rfl ?_
  refine tr_seq ?_
  refine tr_seq ?_
  refine tr_region fun _ _ _ => ?_
  refine st rfl rfl rfl rfl (rLdS rfl rfl rfl) ?_
  refine ef rfl rfl (eCallV rfl rfl rfl (code_Check _ _ _ _ _ (by omega) w Aa _ ca rs hn (by omega) h8) ⟨rfl, trivial⟩ ?_) 
  refine pu rfl rfl rfl rfl rfl ?_
  refine tr_seq ?_
  refine tr_region fun _ _ _ => ?_
  iterate 2 refine pu rfl rfl rfl rfl rfl ?_
  refine tr_cond_bool rfl (fun h2 => ?_) (fun h2 => ?_)
  · try simp only [zb1, zb2, zb3, zb4, zb5, zb6, zb7, zb8, zb9, zb10] at h2
    omega --done
  · try simp only [zb1, zb2, zb3, zb4, zb5, zb6, zb7, zb8, zb9, zb10] at h2
    refine tr_skip ?_
    refine tr_seq ?_
    refine tr_region fun _ _ _ => ?_
    refine st rfl rfl rfl rfl (rFld rfl rfl) ?_
    refine st rfl rfl rfl rfl (rLdSF rfl rfl) ?_
    refine st rfl rfl rfl rfl (rLdS rfl rfl rfl) ?_
    refine st rfl rfl rfl rfl (rFld rfl rfl) ?_
    refine st rfl rfl rfl rfl (rLdF rfl rfl rfl) ?_
    refine ef rfl rfl (eCall2 rfl rfl rfl (bch_ext p m A c mod m2 A2 c2 mod2 hd w hn1 hn64) ⟨rfl, rfl, rfl, trivial⟩ ?_) 
    rintro _ _ _ ⟨g, B6, rfl, rfl, rfl, hg⟩
    iterate 5 refine pu rfl rfl rfl rfl rfl ?_
    refine ef rfl rfl (eAlloc rfl rfl rfl (fun p4a => ?_)) 
    refine ef rfl rfl (eAlloc rfl rfl rfl (fun p4b => ?_)) 
    refine ef rfl rfl (eSt0 rfl rfl rfl rfl rfl rfl ?_) 
    refine ef rfl rfl (eSt0 rfl rfl rfl rfl rfl rfl ?_) 
    iterate 2 refine pu rfl rfl rfl rfl rfl ?_
    refine tr_seq ?_
    refine tr_seq ?_
    refine tr_region fun _ _ _ => ?_
    iterate 2 refine pu rfl rfl rfl rfl rfl ?_
    refine tr_cond_bool rfl (fun h5 => ?_) (fun h5 => ?_)
    · try simp only [zb1, zb2, zb3, zb4, zb5, zb6, zb7, zb8, zb9, zb10] at h5
      refine tr_seq ?_
      refine tr_region fun _ _ _ => ?_
      iterate 3 refine pu rfl rfl rfl rfl rfl ?_
      exact tr_ret ⟨trivial, _, _, rfl, ⟨rfl, rfl⟩, CSub.nil _, trivial⟩
    · try simp only [zb1, zb2, zb3, zb4, zb5, zb6, zb7, zb8, zb9, zb10] at h5
      omega --done

theorem bch_Zeros_ent : Enters Try.prog 60 := enters_of Try.func60 (by kernel_rfl) (by kernel_rfl)
theorem bch_Zeros (p m : Int) (A : Option Addr) (c : Nat) (mod : List Int) [hF : IsF p m mod] (w : Int) (Aa : Option Addr) (n ca : Nat) (rs : List RowM) (hn : n = rs.length) (h9 : rs.length ≤ 256) (hc : CodeOk p m mod w rs) (m2 : Int) (A2 : Option Addr) (c2 : Nat) (mod2 : List Int) [hE : IsF p m2 mod2] (hd : m2 % m = 0) (hr : rootArgs p m2 mod2 w = 0) :
    Pure Try.prog 60 #[.agg #[.int .i64 p, .int .i64 m, .slice A mod.length c, .int .i64 w, .slice Aa n ca], .agg #[.int .i64 p, .int .i64 m2, .slice A2 mod2.length c2]] [ro A (ints mod), ro Aa (hdrs rs), rowsR rs, ro A2 (ints mod2)] (one (fun v ch => ∃ B cb, v = .tuple #[.slice B (zerL p m2 mod2 (imL p m2 mod2 m (embR p m2 mod2 m mod)) rs (rootI p m2 mod2 w) w).length cb, .int .i64 0] ∧ ch = ow B 3 cb (ints (zerL p m2 mod2 (imL p m2 mod2 m (embR p m2 mod2 m mod)) rs (rootI p m2 mod2 w) w)))) := by
  have hl9 := hF.short
  have hn1 := hc.n1
  have hn64 := hc.n64
  have hlen := hc.len
  have hgd := hc.good
  have h8 := hgd.h8 (N := 17592186044415) (by omega)
  have hck := hc.zero
  have hq2 := hF.q2
  have himl := imL_length (p := p) (m2 := m2) (mod2 := mod2) m (embR p m2 mod2 m mod)
  have hws : ∀ r ∈ rs, ∀ y ∈ r.xs, 0 ≤ y ∧ y < (imL p m2 mod2 m (embR p m2 mod2 m mod)).length := fun r hr y hy => by
    have := (hgd r hr).2 y hy
    rw [himl]; omega
  refine pure_of (args := [.agg #[.int .i64 p, .int .i64 m, .slice A mod.length c, .int .i64 w, .slice Aa n ca], .agg #[.int .i64 p, .int .i64 m2, .slice A2 mod2.length c2]]) 57 Try.func60 rfl rfl rfl bch_Zeros_ent ⟨id, id, id, id, trivial⟩ (fun w0 => ?_)
  refine tr_seq ?_
  refine tr_region fun _ _ _ => ?_
  refine ef rfl rfl (eBox rfl rfl rfl rfl rfl (fun p0 => ?_)) 
  refine ef rfl rfl (eBox rfl rfl rfl rfl rfl (fun p0a => ?_)) 
  iterate 2 refine pu rfl rfl rfl rfl rfl ?_
  refine tr_seq ?_
  refine tr_seq ?_
  refine tr_region fun _ _ _ => ?_
  refine st rfl rfl rfl rfl (rLdS rfl rfl rfl) ?_
  refine ef rfl rfl (eCallV rfl rfl rfl (code_Check _ _ _ _ _ (by omega) w Aa _ ca rs hn (by omega) h8) ⟨rfl, trivial⟩ ?_) 
  refine pu rfl rfl rfl rfl rfl ?_
  refine tr_seq ?_
  refine tr_region fun _ _ _ => ?_
  iterate 2 refine pu rfl rfl rfl rfl rfl ?_
  refine tr_cond_bool rfl (fun h2 => ?_) (fun h2 => ?_)
  · try simp only [zb1, zb2, zb3, zb4, zb5, zb6, zb7, zb8, zb9, zb10] at h2
    omega --done
  · try simp only [zb1, zb2, zb3, zb4, zb5, zb6, zb7, zb8, zb9, zb10] at h2
    refine tr_skip ?_
    refine tr_seq ?_
    refine tr_region fun _ _ _ => ?_
    refine st rfl rfl rfl rfl (rFld rfl rfl) ?_
    refine st rfl rfl rfl rfl (rLdSF rfl rfl) ?_
    refine st rfl rfl rfl rfl (rLdS rfl rfl rfl) ?_
    refine st rfl rfl rfl rfl (rFld rfl rfl) ?_
    refine st rfl rfl rfl rfl (rLdF rfl rfl rfl) ?_
    refine ef rfl rfl (eCall2 rfl rfl rfl (bch_ext p m A c mod m2 A2 c2 mod2 hd w hn1 hn64) ⟨rfl, rfl, rfl, trivial⟩ ?_) 
    rintro _ _ _ ⟨g, B6, rfl, rfl, rfl, hg⟩
    iterate 5 refine pu rfl rfl rfl rfl rfl ?_
    refine ef rfl rfl (eAlloc rfl rfl rfl (fun p4a => ?_)) 
    refine ef rfl rfl (eAlloc rfl rfl rfl (fun p4b => ?_)) 
    refine ef rfl rfl (eSt0 rfl rfl rfl rfl rfl rfl ?_) 
    refine ef rfl rfl (eSt0 rfl rfl rfl rfl rfl rfl ?_) 
    iterate 2 refine pu rfl rfl rfl rfl rfl ?_
    rw [if_pos hr]
    refine tr_seq ?_
    refine tr_seq ?_
    refine tr_region fun _ _ _ => ?_
    iterate 2 refine pu rfl rfl rfl rfl rfl ?_
    refine tr_cond_bool rfl (fun h5 => ?_) (fun h5 => ?_)
    · try simp only [zb1, zb2, zb3, zb4, zb5, zb6, zb7, zb8, zb9, zb10] at h5
      omega --done
    · try simp only [zb1, zb2, zb3, zb4, zb5, zb6, zb7, zb8, zb9, zb10] at h5
      refine tr_skip ?_
      refine tr_seq ?_
      refine tr_region fun _ _ _ => ?_
      refine pu rfl rfl rfl rfl rfl ?_
      refine tr_seq ?_
      refine tr_seq ?_
      refine tr_region fun _ _ _ => ?_
      refine st rfl rfl rfl rfl (rFld rfl rfl) ?_
      refine st rfl rfl rfl rfl (rLdF rfl rfl rfl) ?_
      refine pu rfl rfl rfl rfl rfl ?_
      refine tr_block ?_
      refine tr_nilI 3 ?_
      refine tr_loop4 (fun (i : Int) (B : Option Addr) (cb : Nat) (zs : List Int) => [(11, .slice B zs.length cb), (36, .int .i64 i), (9, .int .i64 (rootI p m2 mod2 w)), (10, .int .i64 (rootArgs p m2 mod2 w)), (2, .pointer (some p0)), (4, .slice none 0 0), (5, .int .i64 0), (7, .pointer (some p4a)), (8, .pointer (some p4b)), (35, .int .i64 w)]) (fun (i : Int) (B : Option Addr) (cb : Nat) (zs : List Int) => [ow B 3 cb (ints zs), blk p4a 93 [.pointer (some g.p)], blk p4b 22 [.slice B6 (imL p m2 mod2 m (embR p m2 mod2 m mod)).length (imL p m2 mod2 m (embR p m2 mod2 m mod)).length], gfN g, ow B6 3 (imL p m2 mod2 m (embR p m2 mod2 m mod)).length (ints (imL p m2 mod2 m (embR p m2 mod2 m mod))), blk p0 43 [.int .i64 p, .int .i64 m, .slice A mod.length c, .int .i64 w, .slice Aa n ca], blk p0a 36 [.int .i64 p, .int .i64 m2, .slice A2 mod2.length c2], ro A (ints mod), ro Aa (hdrs rs), rowsR rs, ro A2 (ints mod2)]) (fun (i : Int) (B : Option Addr) (cb : Nat) (zs : List Int) => (0 ≤ i ∧ i ≤ w) ∧ zs = (upI i.toNat).filter (zerB p m2 mod2 (imL p m2 mod2 m (embR p m2 mod2 m mod)) rs (rootI p m2 mod2 w)) ∧ zs.length ≤ i.toNat) (fun (i : Int) (B : Option Addr) (cb : Nat) (zs : List Int) => (w - i).toNat) (0) (none) (0) ([]) ⟨rfl, rfl, rfl, rfl, rfl, rfl, rfl, rfl, rfl, rfl, trivial⟩ (by first | exact cs _ _ | exact CSub.refl _) (⟨⟨by omega, by omega⟩, rfl, by simp⟩) (fun i B cb zs hI => ?_)
      obtain ⟨⟨hi0, hi1⟩, hzs, hzl⟩ := hI
      refine tr_seq ?_
      refine tr_region fun _ _ _ => ?_
      refine pu rfl rfl rfl rfl rfl ?_
      refine tr_seq ?_
      refine tr_cond_bool rfl (fun h9 => ?_) (fun h9 => ?_)
      · try simp only [zb1, zb2, zb3, zb4, zb5, zb6, zb7, zb8, zb9, zb10] at h9
        refine tr_skip ?_
        refine tr_seq ?_
        refine tr_block ?_
        refine tr_seq ?_
        refine tr_region fun _ _ _ => ?_
        iterate 2 refine pu rfl rfl rfl rfl rfl ?_
        refine tr_seq ?_
        refine tr_region fun _ _ _ => ?_
        refine st rfl rfl rfl rfl (rLd0 rfl rfl) ?_
        iterate 2 refine pu rfl rfl rfl rfl rfl ?_
        refine ef rfl rfl (eCallV rfl rfl rfl (gf_PowE g hg _ i (by omega) (by omega)) ⟨rfl, rfl, rfl, trivial⟩ ?_) 
        iterate 3 refine pu rfl rfl rfl rfl rfl ?_
        refine ef rfl rfl (eAlloc rfl rfl rfl (fun p11a => ?_)) 
        refine ef rfl rfl (eSt0 rfl rfl rfl rfl rfl rfl ?_) 
        refine pu rfl rfl rfl rfl rfl ?_
        refine tr_seq ?_
        refine tr_region fun _ _ _ => ?_
        refine st rfl rfl rfl rfl (rFld rfl rfl) ?_
        refine st rfl rfl rfl rfl (rLdF rfl rfl rfl) ?_
        refine st rfl rfl rfl rfl (rFun rfl rfl rfl) ?_
        refine ef rfl rfl (eCallV rfl rfl rfl (slc_ContainsFuncR Aa n ca rs hn (by omega) 113 [.pointer (some p4a), .pointer (some p4b), .pointer (some p11a)] [ro (some p4a) [.pointer (some g.p)], ro (some p4b) [.slice B6 (imL p m2 mod2 m (embR p m2 mod2 m mod)).length (imL p m2 mod2 m (embR p m2 mod2 m mod)).length], ro (some p11a) [.int .i64 (Rg.pow (el (rootI p m2 mod2 w) : El p m2 mod2) i.toNat).1], gfR g, ro B6 (ints (imL p m2 mod2 m (embR p m2 mod2 m mod))), rowsR rs] (fun xs => !(zset p m2 mod2 (pol (xs.map (fun y : Int => (imL p m2 mod2 m (embR p m2 mod2 m mod)).getD y.toNat 0))) (Rg.pow (el (rootI p m2 mod2 w) : El p m2 mod2) i.toNat).1)) (fun r hr => bch_Zeros1R g hg p4a p4b p11a B6 (imL p m2 mod2 m (embR p m2 mod2 m mod)).length (imL p m2 mod2 m (embR p m2 mod2 m mod)) (Rg.pow (el (rootI p m2 mod2 w) : El p m2 mod2) i.toNat).1 rs hr (by have := (hgd r hr).1; omega) (hws r hr))) ⟨rfl, rfl, trivial⟩ ?_) 
        refine st rfl rfl rfl rfl (rNotB rfl rfl) ?_
        refine tr_cond_bool rfl (fun h12 => ?_) (fun h12 => ?_)
        · try simp only [zb1, zb2, zb3, zb4, zb5, zb6, zb7, zb8, zb9, zb10] at h12
          refine tr_region fun _ _ _ => ?_
          iterate 2 refine pu rfl rfl rfl rfl rfl ?_
          refine ef rfl rfl (eLit1I rfl rfl rfl rfl (fun A13 => ?_)) 
          refine ef rfl rfl (eAppI rfl rfl rfl rfl rfl (by first | rfl | simp | omega) (by first | rfl | simp | omega) (by first | omega | (simp; omega)) (fun A13a c13a => ?_)) 
          refine pu rfl rfl rfl rfl rfl ?_
          refine tr_region fun _ _ _ => ?_
          refine st rfl rfl rfl rfl (rAdd rfl rfl rfl (by omega) (by omega)) ?_
          refine pu rfl rfl rfl rfl rfl ?_
          refine ⟨i + 1, A13a, c13a, zs ++ [i], ⟨rfl, rfl, rfl, rfl, rfl, rfl, rfl, rfl, rfl, rfl, trivial⟩, by first | exact cs _ _ | exact CSub.refl _, ?_⟩
          refine ⟨⟨⟨by omega, by omega⟩, ?_, by simp; omega⟩, by omega⟩
          rw [upF_succ _ hi0, ← hzs, if_pos (by rw [zerB_any]; simpa using h12)]
        · try simp only [zb1, zb2, zb3, zb4, zb5, zb6, zb7, zb8, zb9, zb10] at h12
          refine tr_skip ?_
          refine tr_region fun _ _ _ => ?_
          refine st rfl rfl rfl rfl (rAdd rfl rfl rfl (by omega) (by omega)) ?_
          refine pu rfl rfl rfl rfl rfl ?_
          refine ⟨i + 1, B, cb, zs, ⟨rfl, rfl, rfl, rfl, rfl, rfl, rfl, rfl, rfl, rfl, trivial⟩, by first | exact cs _ _ | exact CSub.refl _, ?_⟩
          refine ⟨⟨⟨by omega, by omega⟩, ?_, by omega⟩, by omega⟩
          rw [upF_succ _ hi0, ← hzs, if_neg (by rw [zerB_any]; simpa using h12), List.append_nil]
      · try simp only [zb1, zb2, zb3, zb4, zb5, zb6, zb7, zb8, zb9, zb10] at h9
        refine tr_exit ?_
        refine tr_seq ?_
        refine tr_region fun _ _ _ => ?_
        iterate 3 refine pu rfl rfl rfl rfl rfl ?_
        have hiw : i = w := by omega
        subst hiw
        have hzs2 : zs = zerL p m2 mod2 (imL p m2 mod2 m (embR p m2 mod2 m mod)) rs (rootI p m2 mod2 i) i := hzs
        subst hzs2
        exact tr_ret ⟨trivial, _, _, rfl, ⟨_, rfl, B, cb, rfl, rfl⟩, cs _ _, trivial, trivial⟩

end Go.Proofs.Ytjmojhflnjbgaaa

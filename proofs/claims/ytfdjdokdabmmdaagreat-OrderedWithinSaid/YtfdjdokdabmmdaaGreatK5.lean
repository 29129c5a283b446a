/-
  ORDEREDWITHIN, PART 5 OF 10. One sentence: the texts behind the law OrderedWithin, put together.
  Conditions: each theorem's own, written out in it.
-/
import Derived.Test.YtfdjdokdabmmdaaGreatK4
set_option linter.unusedSimpArgs false
set_option linter.unusedVariables false
set_option linter.unusedSectionVars false
set_option maxRecDepth 100000
namespace Go.Proofs.YtfdjdokdabmmdaaGreat
open Go.RowKit
theorem slc_Equal_ent : Enters Tryz.prog 126 := enters_of Tryz.func126 (by kernel_rfl) (by kernel_rfl)
theorem slc_Equal (A : Option Addr) (n c : Nat) (a : List Int) (hn : n = a.length) (B : Option Addr) (m d : Nat) (b : List Int) (hm : m = b.length) (h9 : a.length ≤ 17592186044415) :
   Pure Tryz.prog 126 #[.slice A n c, .slice B m d] [ro A (ints a), ro B (ints b)] (isV (.bool (decide (a = b)))) := by
 refine pure_of (args := [.slice A n c, .slice B m d]) 26 Tryz.func126 rfl rfl rfl slc_Equal_ent ⟨id, id, trivial⟩ (fun w0 => ?_)
 refine tr_seq ?_
 refine tr_region fun _ _ _ => ?_
 refine pu rfl rfl rfl rfl rfl ?_
 refine tr_seq ?_
 refine tr_seq ?_
 refine tr_region fun _ _ _ => ?_
 refine pu rfl rfl rfl rfl rfl ?_
 refine st rfl rfl rfl rfl (rLen rfl rfl) ?_
 refine pu rfl rfl rfl rfl rfl ?_
 refine st rfl rfl rfl rfl (rLen rfl rfl) ?_
 refine pu rfl rfl rfl rfl rfl ?_
 refine tr_cond_bool rfl (fun h1 => ?_) (fun h1 => ?_)
 · try simp only [zbA] at h1
   refine tr_seq ?_
   refine tr_region fun _ _ _ => ?_
   refine pu rfl rfl rfl rfl rfl ?_
   exact tr_ret ⟨trivial, _, _, rfl, ⟨by rw [decide_eq_false (fun h => by rw [h] at hn; omega)], rfl⟩, CSub.nil _, trivial⟩
 · try simp only [zbA] at h1
   refine tr_skip ?_
   refine tr_seq ?_
   refine tr_seq ?_
   refine tr_region fun _ _ _ => ?_
   refine pu rfl rfl rfl rfl rfl ?_
   refine st rfl rfl rfl rfl (rLen rfl rfl) ?_
   refine pu rfl rfl rfl rfl rfl ?_
   refine tr_block ?_
   refine tr_loop1 (fun (i : Nat) => [(13, .int .i64 i), (0, .slice A n c), (1, .slice B m d), (12, .int .i64 n)]) (fun (i : Nat) => [ro A (ints a), ro B (ints b)]) (fun (i : Nat) => i ≤ a.length ∧ a.take i = b.take i) (fun (i : Nat) => a.length - i) (0) ⟨rfl, rfl, rfl, rfl, trivial⟩ (by first | exact cs _ _ | exact CSub.refl _) (⟨by omega, rfl⟩) (fun i hI => ?_)
   obtain ⟨hi, ht⟩ := hI
   have hll : a.length = b.length := by omega
   refine tr_seq ?_
   refine tr_region fun _ _ _ => ?_
   refine pu rfl rfl rfl rfl rfl ?_
   refine tr_seq ?_
   refine tr_cond_bool rfl (fun h4 => ?_) (fun h4 => ?_)
   · try simp only [zbA] at h4
     refine tr_skip ?_
     refine tr_seq ?_
     refine tr_block ?_
     refine tr_seq ?_
     refine tr_region fun _ _ _ => ?_
     iterate 2 refine pu rfl rfl rfl rfl rfl ?_
     refine tr_seq ?_
     refine tr_draw [0, 1, 2, 3, 4, 5, 6, 7, 8] [] mixed (by kernel_rfl) fun _ _ _ => ?_
     iterate 2 refine pu rfl rfl rfl rfl rfl ?_
     refine st rfl rfl rfl rfl (rIdxI rfl rfl rfl (by omega) (by omega) (by omega)) ?_
     refine st rfl rfl rfl rfl (rLdI rfl rfl (by omega)) ?_
     iterate 2 refine pu rfl rfl rfl rfl rfl ?_
     refine st rfl rfl rfl rfl (rIdxI rfl rfl rfl (by omega) (by omega) (by omega)) ?_
     refine st rfl rfl rfl rfl (rLdI rfl rfl (by omega)) ?_
     refine pu rfl rfl rfl rfl rfl ?_
     refine tr_cond_bool rfl (fun h6 => ?_) (fun h6 => ?_)
     · try simp only [zbA] at h6
       refine tr_seq ?_
       refine tr_region fun _ _ _ => ?_
       refine pu rfl rfl rfl rfl rfl ?_
       exact tr_ret ⟨trivial, _, _, rfl, ⟨by rw [decide_eq_false (fun h => h6 (by rw [h]))], rfl⟩, CSub.nil _, trivial⟩
     · try simp only [zbA] at h6
       refine tr_skip ?_
       refine tr_region fun _ _ _ => ?_
       refine st rfl rfl rfl rfl (rAdd rfl rfl rfl (by omega) (by omega)) ?_
       refine pu rfl rfl rfl rfl rfl ?_
       refine ⟨i + 1, ⟨rfl, rfl, rfl, rfl, trivial⟩, by first | exact cs _ _ | exact CSub.refl _, ?_⟩
       exact ⟨⟨by omega, take_eq_next 0 a b hll (by omega) ht (by simpa using h6)⟩, by omega⟩
   · try simp only [zbA] at h4
     refine tr_exit ?_
     refine tr_seq ?_
     refine tr_region fun _ _ _ => ?_
     refine pu rfl rfl rfl rfl rfl ?_
     have hia : i = a.length := by omega
     rw [hia, List.take_length, hll, List.take_length] at ht
     exact tr_ret ⟨trivial, _, _, rfl, ⟨by rw [decide_eq_true ht], rfl⟩, CSub.nil _, trivial⟩
theorem slc_EqualF (r q : RowM) (h9 : r.xs.length ≤ 17592186044415) : Pure Tryz.prog 126 ([Value.slice r.A r.xs.length r.cap, Value.slice q.A q.xs.length q.cap] ++ []).toArray [ro r.A (ints r.xs), ro q.A (ints q.xs)] (isV (.bool (decide (r.xs = q.xs)))) :=
 slc_Equal _ _ _ r.xs rfl _ _ _ q.xs rfl h9
theorem slc_EqualFunc_ent : Enters Tryz.prog 125 := enters_of Tryz.func125 (by kernel_rfl) (by kernel_rfl)
theorem slc_EqualFunc (A : Option Addr) (n c : Nat) (rs : List RowM) (hn : n = rs.length) (B : Option Addr) (m d : Nat) (qs : List RowM) (hm : m = qs.length) (h9 : rs.length ≤ 17592186044415) (h8 : ∀ r ∈ rs, r.xs.length ≤ 17592186044415) :
   Pure Tryz.prog 125 #[.slice A n c, .slice B m d, .func (.func 126) #[] #[]] [ro A (hdrs rs), rowsR rs, ro B (hdrs qs), rowsR qs] (isV (.bool (decide (xss rs = xss qs)))) := by
 refine pure_of (args := [.slice A n c, .slice B m d, .func (.func 126) #[] #[]]) 32 Tryz.func125 rfl rfl rfl slc_EqualFunc_ent ⟨id, id, id, id, trivial⟩ (fun w0 => ?_)
 refine tr_seq ?_
 refine tr_region fun _ _ _ => ?_
 refine pu rfl rfl rfl rfl rfl ?_
 refine tr_seq ?_
 refine tr_seq ?_
 refine tr_region fun _ _ _ => ?_
 refine pu rfl rfl rfl rfl rfl ?_
 refine st rfl rfl rfl rfl (rLen rfl rfl) ?_
 refine pu rfl rfl rfl rfl rfl ?_
 refine st rfl rfl rfl rfl (rLen rfl rfl) ?_
 refine pu rfl rfl rfl rfl rfl ?_
 refine tr_cond_bool rfl (fun h1 => ?_) (fun h1 => ?_)
 · try simp only [zbA] at h1
   refine tr_seq ?_
   refine tr_region fun _ _ _ => ?_
   refine pu rfl rfl rfl rfl rfl ?_
   exact tr_ret ⟨trivial, _, _, rfl, ⟨by rw [decide_eq_false (fun h => by have := congrArg List.length h; simp at this; omega)], rfl⟩, CSub.nil _, trivial⟩
 · try simp only [zbA] at h1
   refine tr_skip ?_
   refine tr_seq ?_
   refine tr_seq ?_
   refine tr_region fun _ _ _ => ?_
   refine pu rfl rfl rfl rfl rfl ?_
   refine st rfl rfl rfl rfl (rLen rfl rfl) ?_
   refine pu rfl rfl rfl rfl rfl ?_
   refine tr_block ?_
   refine tr_loop1 (fun (i : Nat) => [(17, .int .i64 i), (1, .slice B m d), (2, .func (.func 126) #[] #[]), (15, .slice A n c), (16, .int .i64 n)]) (fun (i : Nat) => [ro A (hdrs rs), rowsR rs, ro B (hdrs qs), rowsR qs]) (fun (i : Nat) => i ≤ rs.length ∧ (xss rs).take i = (xss qs).take i) (fun (i : Nat) => rs.length - i) (0) ⟨rfl, rfl, rfl, rfl, rfl, trivial⟩ (by first | exact cs _ _ | exact CSub.refl _) (⟨by omega, rfl⟩) (fun i hI => ?_)
   obtain ⟨hi, ht⟩ := hI
   have hll : rs.length = qs.length := by omega
   refine tr_seq ?_
   refine tr_region fun _ _ _ => ?_
   refine pu rfl rfl rfl rfl rfl ?_
   refine tr_seq ?_
   refine tr_cond_bool rfl (fun h4 => ?_) (fun h4 => ?_)
   · try simp only [zbA] at h4
     refine tr_skip ?_
     refine tr_seq ?_
     refine tr_block ?_
     refine tr_seq ?_
     haveI : InB (i : Int).toNat rs.length := ⟨by omega⟩
     haveI : InB (i : Int).toNat qs.length := ⟨by omega⟩
     have hr8 := h8 _ (getD_mem (show (i : Int).toNat < rs.length by omega) rowD)
     refine tr_region fun _ _ _ => ?_
     refine pu rfl rfl rfl rfl rfl ?_
     refine st rfl rfl rfl rfl (rIdxR rfl rfl rfl (by omega) (by omega) (by omega)) ?_
     refine st rfl rfl rfl rfl (rLdR rfl rfl (by omega)) ?_
     iterate 2 refine pu rfl rfl rfl rfl rfl ?_
     refine tr_seq ?_
     refine tr_region fun _ _ _ => ?_
     iterate 2 refine pu rfl rfl rfl rfl rfl ?_
     refine st rfl rfl rfl rfl (rIdxR rfl rfl rfl (by omega) (by omega) (by omega)) ?_
     refine st rfl rfl rfl rfl (rLdR rfl rfl (by omega)) ?_
     refine pu rfl rfl rfl rfl rfl ?_
     refine tr_seq ?_
     refine tr_region fun _ _ _ => ?_
     iterate 3 refine pu rfl rfl rfl rfl rfl ?_
     refine ef rfl rfl (eCallFV rfl rfl rfl rfl (slc_EqualF (rs.getD (i : Int).toNat rowD) (qs.getD (i : Int).toNat rowD) hr8) ⟨rfl, rfl, trivial⟩ inferInstance ?_) 
     refine st rfl rfl rfl rfl (rNotB rfl rfl) ?_
     refine tr_cond_bool rfl (fun h7 => ?_) (fun h7 => ?_)
     · try simp only [zbA] at h7
       refine tr_seq ?_
       refine tr_region fun _ _ _ => ?_
       refine pu rfl rfl rfl rfl rfl ?_
       exact tr_ret ⟨trivial, _, _, rfl, ⟨by rw [decide_eq_false (fun h => by have := congrArg (fun l => l.getD i []) h; simp only [xss_getD] at this; simp only [Int.toNat_natCast] at h7; exact h7 this)], rfl⟩, CSub.nil _, trivial⟩
     · try simp only [zbA] at h7
       refine tr_skip ?_
       refine tr_region fun _ _ _ => ?_
       refine st rfl rfl rfl rfl (rAdd rfl rfl rfl (by omega) (by omega)) ?_
       refine pu rfl rfl rfl rfl rfl ?_
       refine ⟨i + 1, ⟨rfl, rfl, rfl, rfl, rfl, trivial⟩, by first | exact cs _ _ | exact CSub.refl _, ?_⟩
       exact ⟨⟨by omega, take_eq_next [] _ _ (by simpa using hll) (by rw [xss_length]; omega) ht (by rw [xss_getD, xss_getD]; simpa using h7)⟩, by omega⟩
   · try simp only [zbA] at h4
     refine tr_exit ?_
     refine tr_seq ?_
     refine tr_region fun _ _ _ => ?_
     refine pu rfl rfl rfl rfl rfl ?_
     have hia : i = rs.length := by omega
     rw [List.take_of_length_le (by rw [xss_length]; omega), List.take_of_length_le (by rw [xss_length]; omega)] at ht
     exact tr_ret ⟨trivial, _, _, rfl, ⟨by rw [decide_eq_true ht], rfl⟩, CSub.nil _, trivial⟩
theorem fld_CheckN_ent : Enters Tryz.prog 85 := enters_of Tryz.func85 (by kernel_rfl) (by kernel_rfl)
theorem fld_CheckN (p m : Int) (A : Option Addr) (c : Nat) (mod : List Int) (hl9 : mod.length ≤ 17592186044415) (hsh : bShp p m mod = false) :
   Pure Tryz.prog 85 #[.agg #[.int .i64 p, .int .i64 m, .slice A mod.length c]] [ro A (ints mod)] (isV (.int .i64 1)) := by
 refine pure_of (args := [.agg #[.int .i64 p, .int .i64 m, .slice A mod.length c]]) 16 Tryz.func85 rfl rfl rfl fld_CheckN_ent ⟨id, trivial⟩ (fun w0 => ?_)
 refine tr_seq ?_
 refine tr_region fun _ _ _ => ?_
 refine ef rfl rfl (eBox rfl rfl rfl rfl rfl (fun p0 => ?_)) 
 refine pu rfl rfl rfl rfl rfl ?_
 refine tr_seq ?_
 refine tr_seq ?_
 refine tr_draw [0, 1, 2, 3, 4, 5, 6, 7, 8, 9, 10, 11, 12] [] mixed (by kernel_rfl) fun _ _ _ => ?_
 refine st rfl rfl rfl rfl (rLdS rfl rfl rfl) ?_
 refine ef rfl rfl (eCallV rfl rfl rfl (fld_shape _ _ _ _ _ (by omega)) ⟨rfl, trivial⟩ ?_) 
 refine st rfl rfl rfl rfl (rNotB rfl rfl) ?_
 refine pu rfl rfl rfl rfl rfl ?_
 refine skF rfl rfl (by simp [hsh]) rfl rfl ?_
 refine skF rfl rfl (by simp [hsh]) rfl rfl ?_
 refine skF rfl rfl (by simp [hsh]) rfl rfl ?_
 refine skF rfl rfl (by simp [hsh]) rfl rfl ?_
 refine skF rfl rfl (by simp [hsh]) rfl rfl ?_
 refine skF rfl rfl (by simp [hsh]) rfl rfl ?_
 refine skF rfl rfl (by simp [hsh]) rfl rfl ?_
 refine skF rfl rfl (by simp [hsh]) rfl rfl ?_
 refine st rfl rfl rfl rfl (rPick1 rfl rfl (by simp [hsh]) rfl) ?_
 refine tr_cond_bool rfl (fun h1 => ?_) (fun h1 => ?_)
 · try simp only [zbA] at h1
   refine tr_seq ?_
   refine tr_region fun _ _ _ => ?_
   refine pu rfl rfl rfl rfl rfl ?_
   exact tr_ret ⟨trivial, _, _, rfl, ⟨rfl, rfl⟩, CSub.nil _, trivial⟩
 · try simp only [zbA] at h1
   first | exact absurd trivial h1 | exact absurd rfl h1 | omega | (exact absurd h1 (by simp)) --done
theorem fld_CheckS_ent : Enters Tryz.prog 85 := enters_of Tryz.func85 (by kernel_rfl) (by kernel_rfl)
theorem fld_CheckS (p m : Int) (A : Option Addr) (c : Nat) (mod : List Int) (hl9 : mod.length ≤ 17592186044415) (hsh : bShp p m mod = true) :
   Pure Tryz.prog 85 #[.agg #[.int .i64 p, .int .i64 m, .slice A mod.length c]] [ro A (ints mod)] (isV (.int .i64 (chkF p m mod))) := by
 have hs1 := ((bShp_iff p m mod).1 hsh).1
 have hs2 := (bShp_iff p m mod).1 hsh
 refine pure_of (args := [.agg #[.int .i64 p, .int .i64 m, .slice A mod.length c]]) 16 Tryz.func85 rfl rfl rfl fld_CheckS_ent ⟨id, trivial⟩ (fun w0 => ?_)
 refine tr_seq ?_
 refine tr_region fun _ _ _ => ?_
 refine ef rfl rfl (eBox rfl rfl rfl rfl rfl (fun p0 => ?_)) 
 refine pu rfl rfl rfl rfl rfl ?_
 refine tr_seq ?_
 refine tr_seq ?_
 refine tr_draw [0, 1, 2, 3, 4, 5, 6, 7, 8, 9, 10, 11, 12] [] mixed (by kernel_rfl) fun _ _ _ => ?_
 refine st rfl rfl rfl rfl (rLdS rfl rfl rfl) ?_
 refine ef rfl rfl (eCallV rfl rfl rfl (fld_shape _ _ _ _ _ (by omega)) ⟨rfl, trivial⟩ ?_) 
 refine st rfl rfl rfl rfl (rNotB rfl rfl) ?_
 refine pu rfl rfl rfl rfl rfl ?_
 refine stT rfl rfl rfl (by simp [hsh]) rfl rfl (rLdS rfl rfl rfl) ?_
 refine stT rfl rfl rfl (by simp [hsh]) rfl rfl (rFld rfl rfl) ?_
 refine stT rfl rfl rfl (by simp [hsh]) rfl rfl (rLdF rfl rfl rfl) ?_
 refine stT rfl rfl rfl (by simp [hsh]) rfl rfl (rFld rfl rfl) ?_
 refine stT rfl rfl rfl (by simp [hsh]) rfl rfl (rLdF rfl rfl rfl) ?_
 refine efT rfl rfl rfl (by simp [hsh]) (eCallV rfl rfl rfl (fld_order _ _) ⟨rfl, rfl, trivial⟩ ?_) 
 refine efT rfl rfl rfl (by simp [hsh]) (eCall1 rfl rfl rfl (fld_gen _ _ _ _ _ hs1 _ hs1.ord) ⟨rfl, rfl, trivial⟩ ?_) 
 rintro _ _ ⟨B, l, cb, rfl, hl, hn, rfl⟩
 refine stT rfl rfl rfl (by simp [hsh]) rfl rfl (rNilS rfl rfl rfl) ?_
 refine st rfl rfl rfl rfl (rPick0 rfl rfl (by simp [hsh]) rfl) ?_
 refine tr_cond_bool rfl (fun h1 => ?_) (fun h1 => ?_)
 · try simp only [zbA] at h1
   refine tr_emptyI (A := B) (xs := l) (fun hemp => ?_)
   have hl0 := hemp h1
   refine tr_seq ?_
   refine tr_region fun _ _ _ => ?_
   refine pu rfl rfl rfl rfl rfl ?_
   rw [hl0] at hl
   exact tr_ret ⟨trivial, _, _, rfl, ⟨by rw [chkF_no fun h => hl.nil (fldN_iff.2 h).2], rfl⟩, CSub.nil _, trivial⟩
 · try simp only [zbA] at h1
   refine tr_skip ?_
   refine tr_seq ?_
   refine tr_region fun _ _ _ => ?_
   refine pu rfl rfl rfl rfl rfl ?_
   have hgn : l ≠ [] := fun h => by
     rw [hn h] at h1
     simp at h1
   have hF : FldR p m mod := fldN_iff.1 ⟨hs2, by
     rcases hl with ⟨x, h⟩ | h
     · exact ⟨x, l, h⟩
     · exact absurd h.1 hgn⟩
   exact tr_ret ⟨trivial, _, _, rfl, ⟨by rw [chkF_ok hF], rfl⟩, CSub.nil _, trivial⟩
theorem fld_Check (p m : Int) (A : Option Addr) (c : Nat) (mod : List Int) (hl9 : mod.length ≤ 17592186044415) : Pure Tryz.prog 85 #[.agg #[.int .i64 p, .int .i64 m, .slice A mod.length c]] [ro A (ints mod)] (isV (.int .i64 (chkF p m mod))) := by
 cases hsh : bShp p m mod with
 | true => exact fld_CheckS p m A c mod hl9 hsh
 | false =>
   have h := fld_CheckN p m A c mod hl9 hsh
   rwa [← chkF_no (p := p) (m := m) (mod := mod) (fun h => by rw [bShp_true h.1] at hsh; cases hsh)] at h
theorem spc_openE_ent : Enters Tryz.prog 115 := enters_of Tryz.func115 (by kernel_rfl) (by kernel_rfl)
theorem spc_openE (p m : Int) (A : Option Addr) (c : Nat) (mod : List Int) (hl9 : mod.length ≤ 17592186044415) [hF : IsF p m mod] (w : Int) (Aa : Option Addr) (n ca : Nat) (rs : List RowM) (hn : n = rs.length) (h9 : rs.length ≤ 17592186044415) (h8 : ∀ r ∈ rs, r.xs.length ≤ 17592186044415) (hE : rowsC (pw p m) w (xss rs) ≠ 0) :
   Pure Tryz.prog 115 #[.agg #[.int .i64 p, .int .i64 m, .slice A mod.length c], .agg #[.int .i64 w, .slice Aa n ca]] [ro A (ints mod), ro Aa (hdrs rs), rowsR rs] (isV (.tuple #[.agg #[.pointer none, .int .i64 0, .slice none 0 0, .slice none 0 0], .int .i64 (rowsC (pw p m) w (xss rs))])) := by
 refine pure_ofC (args := [.agg #[.int .i64 p, .int .i64 m, .slice A mod.length c], .agg #[.int .i64 w, .slice Aa n ca]]) 38 Tryz.func115 rfl rfl rfl spc_openE_ent ⟨id, id, id, trivial⟩ (fun w0 => ?_)
 refine tr_seq ?_
 refine tr_region fun _ _ _ => ?_
 refine ef rfl rfl (eBox rfl rfl rfl rfl rfl (fun p0 => ?_)) 
 refine ef rfl rfl (eBox rfl rfl rfl rfl rfl (fun p0a => ?_)) 
 refine ef rfl rfl (eAlloc rfl rfl rfl (fun p0b => ?_)) 
 refine pu rfl rfl rfl rfl rfl ?_
 refine tr_seq ?_
 refine tr_region fun _ _ _ => ?_
 refine st rfl rfl rfl rfl (rLdS rfl rfl rfl) ?_
 refine st rfl rfl rfl rfl (rLdS rfl rfl rfl) ?_
 refine ef rfl rfl (eCallV rfl rfl rfl (mat_CanonicalE _ _ _ _ _ hl9 w Aa _ ca rs hn h9 h8 hE) ⟨rfl, rfl, trivial⟩ ?_) 
 iterate 4 refine pu rfl rfl rfl rfl rfl ?_
 refine ef rfl rfl (eAlloc rfl rfl rfl (fun p1a => ?_)) 
 refine ef rfl rfl (eStS rfl rfl rfl rfl rfl rfl ?_) 
 iterate 2 refine pu rfl rfl rfl rfl rfl ?_
 refine tr_seq ?_
 refine tr_seq ?_
 refine tr_region fun _ _ _ => ?_
 iterate 2 refine pu rfl rfl rfl rfl rfl ?_
 refine tr_cond_bool rfl (fun h2 => ?_) (fun h2 => ?_)
 · try simp only [zbA] at h2
   refine tr_seq ?_
   refine tr_region fun _ _ _ => ?_
   refine st rfl rfl rfl rfl (rBuild rfl rfl) ?_
   refine pu rfl rfl rfl rfl rfl ?_
   refine ef rfl rfl (eStS rfl rfl rfl rfl rfl rfl ?_) 
   refine pu rfl rfl rfl rfl rfl ?_
   exact tr_ret ⟨trivial, _, _, (.cell rfl (cellS rfl) (.tmp rfl .nil)), ⟨rfl, rfl⟩, CSub.nil _, trivial⟩
 · try simp only [zbA] at h2
   omega --done
theorem spc_openF_ent : Enters Tryz.prog 115 := enters_of Tryz.func115 (by kernel_rfl) (by kernel_rfl)
theorem spc_openF (p m : Int) (A : Option Addr) (c : Nat) (mod : List Int) (hl9 : mod.length ≤ 17592186044415) [hF : IsF p m mod] (w : Int) (Aa : Option Addr) (n ca : Nat) (rs : List RowM) (hn : n = rs.length) (h9 : rs.length ≤ 17592186044415) (h8 : ∀ r ∈ rs, r.xs.length ≤ 17592186044415) (hE : rowsC (pw p m) w (xss rs) = 0) (hf : ¬ formP p m mod w.toNat rs) :
   Pure Tryz.prog 115 #[.agg #[.int .i64 p, .int .i64 m, .slice A mod.length c], .agg #[.int .i64 w, .slice Aa n ca]] [ro A (ints mod), ro Aa (hdrs rs), rowsR rs] (isV (.tuple #[.agg #[.pointer none, .int .i64 0, .slice none 0 0, .slice none 0 0], .int .i64 5])) := by
 obtain ⟨hgd, hw0, hw9, hr9⟩ := rowsC_Gd (p := p) (m := m) hE
 refine pure_ofC (args := [.agg #[.int .i64 p, .int .i64 m, .slice A mod.length c], .agg #[.int .i64 w, .slice Aa n ca]]) 38 Tryz.func115 rfl rfl rfl spc_openF_ent ⟨id, id, id, trivial⟩ (fun w0 => ?_)
 refine tr_seq ?_
 refine tr_region fun _ _ _ => ?_
 refine ef rfl rfl (eBox rfl rfl rfl rfl rfl (fun p0 => ?_)) 
 refine ef rfl rfl (eBox rfl rfl rfl rfl rfl (fun p0a => ?_)) 
 refine ef rfl rfl (eAlloc rfl rfl rfl (fun p0b => ?_)) 
 refine pu rfl rfl rfl rfl rfl ?_
 refine tr_seq ?_
 refine tr_region fun _ _ _ => ?_
 refine st rfl rfl rfl rfl (rLdS rfl rfl rfl) ?_
 refine st rfl rfl rfl rfl (rLdS rfl rfl rfl) ?_
 refine ef rfl rfl (eCall3 rfl rfl rfl (mat_CanonicalG _ _ _ _ _ hl9 w Aa _ ca rs hn h9 h8 hE) ⟨rfl, rfl, trivial⟩ ?_) 
 rintro _ _ _ _ ⟨B, r3, Bp, cp, ps, rfl, rfl, rfl, rfl, hR, hk⟩
 iterate 4 refine pu rfl rfl rfl rfl rfl ?_
 refine ef rfl rfl (eAlloc rfl rfl rfl (fun p1a => ?_)) 
 refine ef rfl rfl (eStS rfl rfl rfl rfl rfl rfl ?_) 
 iterate 2 refine pu rfl rfl rfl rfl rfl ?_
 refine tr_seq ?_
 refine tr_seq ?_
 refine tr_region fun _ _ _ => ?_
 iterate 2 refine pu rfl rfl rfl rfl rfl ?_
 refine tr_cond_bool rfl (fun h2 => ?_) (fun h2 => ?_)
 · try simp only [zbA] at h2
   first | exact absurd trivial h2 | exact absurd rfl h2 | omega | (exact absurd h2 (by simp)) --done
 · try simp only [zbA] at h2
   refine tr_skip ?_
   refine tr_seq ?_
   refine tr_seq ?_
   refine tr_region fun _ _ _ => ?_
   refine st rfl rfl rfl rfl (rFld rfl rfl) ?_
   refine st rfl rfl rfl rfl (rLdF rfl rfl rfl) ?_
   refine st rfl rfl rfl rfl (rFld rfl rfl) ?_
   refine st rfl rfl rfl rfl (rLdF rfl rfl rfl) ?_
   refine ef rfl rfl (eCallV rfl rfl rfl (slc_EqualFunc _ _ _ r3 rfl _ _ _ rs hn (by omega) (hR.good.h8 (by omega))) ⟨rfl, rfl, rfl, trivial⟩ ?_) 
   refine st rfl rfl rfl rfl (rNotB rfl rfl) ?_
   refine tr_cond_bool rfl (fun h4 => ?_) (fun h4 => ?_)
   · try simp only [zbA] at h4
     refine tr_seq ?_
     refine tr_region fun _ _ _ => ?_
     refine st rfl rfl rfl rfl (rBuild rfl rfl) ?_
     refine ef rfl rfl (eStS rfl rfl rfl rfl rfl rfl ?_) 
     refine pu rfl rfl rfl rfl rfl ?_
     exact tr_ret ⟨trivial, _, _, (.cell rfl (cellS rfl) (.tmp rfl .nil)), ⟨rfl, rfl⟩, CSub.nil _, trivial⟩
   · try simp only [zbA] at h4
     exact absurd ((hR.form_iff hgd).1 (by simpa using h4)) hf --done
theorem spc_openG_ent : Enters Tryz.prog 115 := enters_of Tryz.func115 (by kernel_rfl) (by kernel_rfl)
theorem spc_openG (p m : Int) (A : Option Addr) (c : Nat) (mod : List Int) (hl9 : mod.length ≤ 17592186044415) [hF : IsF p m mod] (w : Int) (Aa : Option Addr) (n ca : Nat) (rs : List RowM) (hn : n = rs.length) (h9 : rs.length ≤ 17592186044415) (h8 : ∀ r ∈ rs, r.xs.length ≤ 17592186044415) (hE : rowsC (pw p m) w (xss rs) = 0) (hf : formP p m mod w.toNat rs) :
   Pure Tryz.prog 115 #[.agg #[.int .i64 p, .int .i64 m, .slice A mod.length c], .agg #[.int .i64 w, .slice Aa n ca]] [ro A (ints mod), ro Aa (hdrs rs), rowsR rs] (two (fun v c1 c2 => ∃ (g : GfM) (Bp : Option Addr) (cp : Nat) (ps : List Int), v = .tuple #[.agg #[.pointer (some g.p), .int .i64 w, .slice Aa n ca, .slice Bp ps.length cp], .int .i64 0] ∧ c1 = gfN g ∧ c2 = ow Bp 3 cp (ints ps) ∧ GOk g p m mod ∧ ∃ qs, ps = qs.map Int.ofNat ∧ Vc.Rr w.toNat (vsR rs : List (Vc (El p m mod))) qs)) := by
 obtain ⟨hgd, hw0, hw9, hr9⟩ := rowsC_Gd (p := p) (m := m) hE
 refine pure_ofC (args := [.agg #[.int .i64 p, .int .i64 m, .slice A mod.length c], .agg #[.int .i64 w, .slice Aa n ca]]) 38 Tryz.func115 rfl rfl rfl spc_openG_ent ⟨id, id, id, trivial⟩ (fun w0 => ?_)
 refine tr_seq ?_
 refine tr_region fun _ _ _ => ?_
 refine ef rfl rfl (eBox rfl rfl rfl rfl rfl (fun p0 => ?_)) 
 refine ef rfl rfl (eBox rfl rfl rfl rfl rfl (fun p0a => ?_)) 
 refine ef rfl rfl (eAlloc rfl rfl rfl (fun p0b => ?_)) 
 refine pu rfl rfl rfl rfl rfl ?_
 refine tr_seq ?_
 refine tr_region fun _ _ _ => ?_
 refine st rfl rfl rfl rfl (rLdS rfl rfl rfl) ?_
 refine st rfl rfl rfl rfl (rLdS rfl rfl rfl) ?_
 refine ef rfl rfl (eCall3 rfl rfl rfl (mat_CanonicalG _ _ _ _ _ hl9 w Aa _ ca rs hn h9 h8 hE) ⟨rfl, rfl, trivial⟩ ?_) 
 rintro _ _ _ _ ⟨B, r3, Bp, cp, ps, rfl, rfl, rfl, rfl, hR, hk⟩
 iterate 4 refine pu rfl rfl rfl rfl rfl ?_
 refine ef rfl rfl (eAlloc rfl rfl rfl (fun p1a => ?_)) 
 refine ef rfl rfl (eStS rfl rfl rfl rfl rfl rfl ?_) 
 iterate 2 refine pu rfl rfl rfl rfl rfl ?_
 refine tr_seq ?_
 refine tr_seq ?_
 refine tr_region fun _ _ _ => ?_
 iterate 2 refine pu rfl rfl rfl rfl rfl ?_
 refine tr_cond_bool rfl (fun h2 => ?_) (fun h2 => ?_)
 · try simp only [zbA] at h2
   first | exact absurd trivial h2 | exact absurd rfl h2 | omega | (exact absurd h2 (by simp)) --done
 · try simp only [zbA] at h2
   refine tr_skip ?_
   refine tr_seq ?_
   refine tr_seq ?_
   refine tr_region fun _ _ _ => ?_
   refine st rfl rfl rfl rfl (rFld rfl rfl) ?_
   refine st rfl rfl rfl rfl (rLdF rfl rfl rfl) ?_
   refine st rfl rfl rfl rfl (rFld rfl rfl) ?_
   refine st rfl rfl rfl rfl (rLdF rfl rfl rfl) ?_
   refine ef rfl rfl (eCallV rfl rfl rfl (slc_EqualFunc _ _ _ r3 rfl _ _ _ rs hn (by omega) (hR.good.h8 (by omega))) ⟨rfl, rfl, rfl, trivial⟩ ?_) 
   refine st rfl rfl rfl rfl (rNotB rfl rfl) ?_
   refine tr_cond_bool rfl (fun h4 => ?_) (fun h4 => ?_)
   · try simp only [zbA] at h4
     exact absurd ((hR.form_iff hgd).2 hf) (by simpa using h4) --done
   · try simp only [zbA] at h4
     refine tr_skip ?_
     refine tr_seq ?_
     refine tr_region fun _ _ _ => ?_
     refine st rfl rfl rfl rfl (rLdS rfl rfl rfl) ?_
     refine ef rfl rfl (eCall1 rfl rfl rfl (fld_New_ok _ _ _ _ _ hl9 hF.out) ⟨rfl, trivial⟩ ?_) 
     rintro _ _ ⟨g, rfl, rfl, hg⟩
     iterate 5 refine pu rfl rfl rfl rfl rfl ?_
     refine tr_seq ?_
     refine tr_region fun _ _ _ => ?_
     refine pu rfl rfl rfl rfl rfl ?_
     refine st rfl rfl rfl rfl (rLdS rfl rfl rfl) ?_
     refine pu rfl rfl rfl rfl rfl ?_
     refine st rfl rfl rfl rfl (rBuild rfl rfl) ?_
     refine pu rfl rfl rfl rfl rfl ?_
     refine ef rfl rfl (eStS rfl rfl rfl rfl rfl rfl ?_) 
     refine pu rfl rfl rfl rfl rfl ?_
     have he := (hR.form_iff hgd).2 hf
     exact tr_ret ⟨trivial, _, _, (.cell rfl (cellS rfl) (.tmp rfl .nil)), ⟨_, _, rfl, g, Bp, cp, ps, rfl, rfl, rfl, hg, hR.piv he⟩, cs _ _, gfO_excl _ _ _, trivial, trivial⟩
theorem spc_CheckE_ent : Enters Tryz.prog 87 := enters_of Tryz.func87 (by kernel_rfl) (by kernel_rfl)
theorem spc_CheckE (p m : Int) (A : Option Addr) (c : Nat) (mod : List Int) (hl9 : mod.length ≤ 17592186044415) [hF : IsF p m mod] (w : Int) (Aa : Option Addr) (n ca : Nat) (rs : List RowM) (hn : n = rs.length) (h9 : rs.length ≤ 17592186044415) (h8 : ∀ r ∈ rs, r.xs.length ≤ 17592186044415) (hE : rowsC (pw p m) w (xss rs) ≠ 0) :
   Pure Tryz.prog 87 #[.agg #[.int .i64 p, .int .i64 m, .slice A mod.length c], .agg #[.int .i64 w, .slice Aa n ca]] [ro A (ints mod), ro Aa (hdrs rs), rowsR rs] (isV (.int .i64 (rowsC (pw p m) w (xss rs)))) := by
 refine pure_of (args := [.agg #[.int .i64 p, .int .i64 m, .slice A mod.length c], .agg #[.int .i64 w, .slice Aa n ca]]) 14 Tryz.func87 rfl rfl rfl spc_CheckE_ent ⟨id, id, id, trivial⟩ (fun w0 => ?_)
 refine tr_seq ?_
 refine tr_region fun _ _ _ => ?_
 refine ef rfl rfl (eBox rfl rfl rfl rfl rfl (fun p0 => ?_)) 
 refine ef rfl rfl (eBox rfl rfl rfl rfl rfl (fun p0a => ?_)) 
 refine pu rfl rfl rfl rfl rfl ?_
 refine tr_seq ?_
 refine tr_region fun _ _ _ => ?_
 refine st rfl rfl rfl rfl (rLdS rfl rfl rfl) ?_
 refine st rfl rfl rfl rfl (rLdS rfl rfl rfl) ?_
 refine ef rfl rfl (eCallV rfl rfl rfl (spc_openE _ _ _ _ _ hl9 w Aa _ ca rs hn h9 h8 hE) ⟨rfl, rfl, trivial⟩ ?_) 
 iterate 3 refine pu rfl rfl rfl rfl rfl ?_
 refine ef rfl rfl (eAlloc rfl rfl rfl (fun p1a => ?_)) 
 refine ef rfl rfl (eStS rfl rfl rfl rfl rfl rfl ?_) 
 refine pu rfl rfl rfl rfl rfl ?_
 refine tr_seq ?_
 refine tr_region fun _ _ _ => ?_
 iterate 2 refine pu rfl rfl rfl rfl rfl ?_
 exact tr_ret ⟨trivial, _, _, rfl, ⟨rfl, rfl⟩, CSub.nil _, trivial⟩
theorem spc_CheckF_ent : Enters Tryz.prog 87 := enters_of Tryz.func87 (by kernel_rfl) (by kernel_rfl)
theorem spc_CheckF (p m : Int) (A : Option Addr) (c : Nat) (mod : List Int) (hl9 : mod.length ≤ 17592186044415) [hF : IsF p m mod] (w : Int) (Aa : Option Addr) (n ca : Nat) (rs : List RowM) (hn : n = rs.length) (h9 : rs.length ≤ 17592186044415) (h8 : ∀ r ∈ rs, r.xs.length ≤ 17592186044415) (hE : rowsC (pw p m) w (xss rs) = 0) (hf : ¬ formP p m mod w.toNat rs) :
   Pure Tryz.prog 87 #[.agg #[.int .i64 p, .int .i64 m, .slice A mod.length c], .agg #[.int .i64 w, .slice Aa n ca]] [ro A (ints mod), ro Aa (hdrs rs), rowsR rs] (isV (.int .i64 5)) := by
 refine pure_of (args := [.agg #[.int .i64 p, .int .i64 m, .slice A mod.length c], .agg #[.int .i64 w, .slice Aa n ca]]) 14 Tryz.func87 rfl rfl rfl spc_CheckF_ent ⟨id, id, id, trivial⟩ (fun w0 => ?_)
 refine tr_seq ?_
 refine tr_region fun _ _ _ => ?_
 refine ef rfl rfl (eBox rfl rfl rfl rfl rfl (fun p0 => ?_)) 
 refine ef rfl rfl (eBox rfl rfl rfl rfl rfl (fun p0a => ?_)) 
 refine pu rfl rfl rfl rfl rfl ?_
 refine tr_seq ?_
 refine tr_region fun _ _ _ => ?_
 refine st rfl rfl rfl rfl (rLdS rfl rfl rfl) ?_
 refine st rfl rfl rfl rfl (rLdS rfl rfl rfl) ?_
 refine ef rfl rfl (eCallV rfl rfl rfl (spc_openF _ _ _ _ _ hl9 w Aa _ ca rs hn h9 h8 hE hf) ⟨rfl, rfl, trivial⟩ ?_) 
 iterate 3 refine pu rfl rfl rfl rfl rfl ?_
 refine ef rfl rfl (eAlloc rfl rfl rfl (fun p1a => ?_)) 
 refine ef rfl rfl (eStS rfl rfl rfl rfl rfl rfl ?_) 
 refine pu rfl rfl rfl rfl rfl ?_
 refine tr_seq ?_
 refine tr_region fun _ _ _ => ?_
 iterate 2 refine pu rfl rfl rfl rfl rfl ?_
 exact tr_ret ⟨trivial, _, _, rfl, ⟨rfl, rfl⟩, CSub.nil _, trivial⟩
theorem spc_CheckG_ent : Enters Tryz.prog 87 := enters_of Tryz.func87 (by kernel_rfl) (by kernel_rfl)
theorem spc_CheckG (p m : Int) (A : Option Addr) (c : Nat) (mod : List Int) (hl9 : mod.length ≤ 17592186044415) [hF : IsF p m mod] (w : Int) (Aa : Option Addr) (n ca : Nat) (rs : List RowM) (hn : n = rs.length) (h9 : rs.length ≤ 17592186044415) (h8 : ∀ r ∈ rs, r.xs.length ≤ 17592186044415) (hE : rowsC (pw p m) w (xss rs) = 0) (hf : formP p m mod w.toNat rs) :
   Pure Tryz.prog 87 #[.agg #[.int .i64 p, .int .i64 m, .slice A mod.length c], .agg #[.int .i64 w, .slice Aa n ca]] [ro A (ints mod), ro Aa (hdrs rs), rowsR rs] (isV (.int .i64 0)) := by
 refine pure_of (args := [.agg #[.int .i64 p, .int .i64 m, .slice A mod.length c], .agg #[.int .i64 w, .slice Aa n ca]]) 14 Tryz.func87 rfl rfl rfl spc_CheckG_ent ⟨id, id, id, trivial⟩ (fun w0 => ?_)
 refine tr_seq ?_
 refine tr_region fun _ _ _ => ?_
 refine ef rfl rfl (eBox rfl rfl rfl rfl rfl (fun p0 => ?_)) 
 refine ef rfl rfl (eBox rfl rfl rfl rfl rfl (fun p0a => ?_)) 
 refine pu rfl rfl rfl rfl rfl ?_
 refine tr_seq ?_
 refine tr_region fun _ _ _ => ?_
 refine st rfl rfl rfl rfl (rLdS rfl rfl rfl) ?_
 refine st rfl rfl rfl rfl (rLdS rfl rfl rfl) ?_
 refine ef rfl rfl (eCall2 rfl rfl rfl (spc_openG _ _ _ _ _ hl9 w Aa _ ca rs hn h9 h8 hE hf) ⟨rfl, rfl, trivial⟩ ?_) 
 rintro _ _ _ ⟨g, Bp, cp, ps, rfl, rfl, rfl, hg, hq⟩
 iterate 3 refine pu rfl rfl rfl rfl rfl ?_
 refine ef rfl rfl (eAlloc rfl rfl rfl (fun p1a => ?_)) 
 refine ef rfl rfl (eStS rfl rfl rfl rfl rfl rfl ?_) 
 refine pu rfl rfl rfl rfl rfl ?_
 refine tr_seq ?_
 refine tr_region fun _ _ _ => ?_
 iterate 2 refine pu rfl rfl rfl rfl rfl ?_
 exact tr_ret ⟨trivial, _, _, rfl, ⟨rfl, rfl⟩, CSub.nil _, trivial⟩
theorem code_gen_ent : Enters Tryz.prog 88 := enters_of Tryz.func88 (by kernel_rfl) (by kernel_rfl)
theorem code_gen (p m : Int) (A : Option Addr) (k c : Nat) (w : Int) (Aa : Option Addr) (n ca : Nat) :
   Pure Tryz.prog 88 #[.agg #[.int .i64 p, .int .i64 m, .slice A k c, .int .i64 w, .slice Aa n ca]] [] (isV (.agg #[.int .i64 w, .slice Aa n ca])) := by
 refine pure_ofC (args := [.agg #[.int .i64 p, .int .i64 m, .slice A k c, .int .i64 w, .slice Aa n ca]]) 8 Tryz.func88 rfl rfl rfl code_gen_ent trivial (fun w0 => ?_)
 refine tr_seq ?_
 refine tr_region fun _ _ _ => ?_
 refine ef rfl rfl (eBox rfl rfl rfl rfl rfl (fun p0 => ?_)) 
 refine ef rfl rfl (eAlloc rfl rfl rfl (fun p0a => ?_)) 
 refine tr_seq ?_
 refine tr_region fun _ _ _ => ?_
 refine st rfl rfl rfl rfl (rFld rfl rfl) ?_
 refine st rfl rfl rfl rfl (rLdF rfl rfl rfl) ?_
 refine st rfl rfl rfl rfl (rFld rfl rfl) ?_
 refine st rfl rfl rfl rfl (rLdF rfl rfl rfl) ?_
 refine st rfl rfl rfl rfl (rBuild rfl rfl) ?_
 refine ef rfl rfl (eStS rfl rfl rfl rfl rfl rfl ?_) 
 exact tr_ret ⟨trivial, _, _, (.cell rfl (cellS rfl) .nil), ⟨rfl, rfl⟩, CSub.nil _, trivial⟩
theorem code_lengthNo (n : Int) (h : n < 1 ∨ n > 64) : Pure Tryz.prog 86 #[.int .i64 n] [] (isV (.int .i64 4)) := by
 have := code_length n
 rwa [if_pos h] at this
theorem code_CheckNo_ent : Enters Tryz.prog 57 := enters_of Tryz.func57 (by kernel_rfl) (by kernel_rfl)
theorem code_CheckNo (p m : Int) (A : Option Addr) (c : Nat) (mod : List Int) (hl9 : mod.length ≤ 17592186044415) (hF : ¬ FldR p m mod) (w : Int) (Aa : Option Addr) (n ca : Nat) (rs : List RowM) (hn : n = rs.length) (h9 : rs.length ≤ 17592186044415) (h8 : ∀ r ∈ rs, r.xs.length ≤ 17592186044415) :
   Pure Tryz.prog 57 #[.agg #[.int .i64 p, .int .i64 m, .slice A mod.length c, .int .i64 w, .slice Aa n ca]] [ro A (ints mod), ro Aa (hdrs rs), rowsR rs] (isV (.int .i64 1)) := by
 have hch := chkF_no hF
 refine pure_of (args := [.agg #[.int .i64 p, .int .i64 m, .slice A mod.length c, .int .i64 w, .slice Aa n ca]]) 19 Tryz.func57 rfl rfl rfl code_CheckNo_ent ⟨id, id, id, trivial⟩ (fun w0 => ?_)
 refine tr_seq ?_
 refine tr_region fun _ _ _ => ?_
 refine ef rfl rfl (eBox rfl rfl rfl rfl rfl (fun p0 => ?_)) 
 refine pu rfl rfl rfl rfl rfl ?_
 refine tr_seq ?_
 refine tr_seq ?_
 refine tr_region fun _ _ _ => ?_
 refine st rfl rfl rfl rfl (rFld rfl rfl) ?_
 refine st rfl rfl rfl rfl (rLdSF rfl rfl) ?_
 refine ef rfl rfl (eCallV rfl rfl rfl (fld_Check _ _ _ _ _ hl9) ⟨rfl, trivial⟩ ?_) 
 refine pu rfl rfl rfl rfl rfl ?_
 refine tr_cond_bool rfl (fun h1 => ?_) (fun h1 => ?_)
 · try simp only [zbA] at h1
   refine tr_seq ?_
   refine tr_region fun _ _ _ => ?_
   refine pu rfl rfl rfl rfl rfl ?_
   exact tr_ret ⟨trivial, _, _, rfl, ⟨rfl, rfl⟩, CSub.nil _, trivial⟩
 · try simp only [zbA] at h1
   omega --done
theorem code_CheckL_ent : Enters Tryz.prog 57 := enters_of Tryz.func57 (by kernel_rfl) (by kernel_rfl)
theorem code_CheckL (p m : Int) (A : Option Addr) (c : Nat) (mod : List Int) (hl9 : mod.length ≤ 17592186044415) [hF : IsF p m mod] (w : Int) (Aa : Option Addr) (n ca : Nat) (rs : List RowM) (hn : n = rs.length) (h9 : rs.length ≤ 17592186044415) (h8 : ∀ r ∈ rs, r.xs.length ≤ 17592186044415) (hb : w < 1 ∨ w > 64) :
   Pure Tryz.prog 57 #[.agg #[.int .i64 p, .int .i64 m, .slice A mod.length c, .int .i64 w, .slice Aa n ca]] [ro A (ints mod), ro Aa (hdrs rs), rowsR rs] (isV (.int .i64 4)) := by
 have hch := chkF_ok hF.out
 refine pure_of (args := [.agg #[.int .i64 p, .int .i64 m, .slice A mod.length c, .int .i64 w, .slice Aa n ca]]) 19 Tryz.func57 rfl rfl rfl code_CheckL_ent ⟨id, id, id, trivial⟩ (fun w0 => ?_)
 refine tr_seq ?_
 refine tr_region fun _ _ _ => ?_
 refine ef rfl rfl (eBox rfl rfl rfl rfl rfl (fun p0 => ?_)) 
 refine pu rfl rfl rfl rfl rfl ?_
 refine tr_seq ?_
 refine tr_seq ?_
 refine tr_region fun _ _ _ => ?_
 refine st rfl rfl rfl rfl (rFld rfl rfl) ?_
 refine st rfl rfl rfl rfl (rLdSF rfl rfl) ?_
 refine ef rfl rfl (eCallV rfl rfl rfl (fld_Check _ _ _ _ _ hl9) ⟨rfl, trivial⟩ ?_) 
 refine pu rfl rfl rfl rfl rfl ?_
 refine tr_cond_bool rfl (fun h1 => ?_) (fun h1 => ?_)
 · try simp only [zbA] at h1
   omega --done
 · try simp only [zbA] at h1
   refine tr_skip ?_
   refine tr_seq ?_
   refine tr_seq ?_
   refine tr_region fun _ _ _ => ?_
   refine st rfl rfl rfl rfl (rFld rfl rfl) ?_
   refine st rfl rfl rfl rfl (rLdF rfl rfl rfl) ?_
   refine ef rfl rfl (eCallV rfl rfl rfl (code_lengthNo w hb) ⟨rfl, trivial⟩ ?_) 
   refine pu rfl rfl rfl rfl rfl ?_
   refine tr_seq ?_
   refine tr_region fun _ _ _ => ?_
   iterate 2 refine pu rfl rfl rfl rfl rfl ?_
   refine tr_cond_bool rfl (fun h4 => ?_) (fun h4 => ?_)
   · try simp only [zbA] at h4
     refine tr_seq ?_
     refine tr_region fun _ _ _ => ?_
     iterate 2 refine pu rfl rfl rfl rfl rfl ?_
     exact tr_ret ⟨trivial, _, _, rfl, ⟨rfl, rfl⟩, CSub.nil _, trivial⟩
   · try simp only [zbA] at h4
     first | exact absurd trivial h4 | exact absurd rfl h4 | omega | (exact absurd h4 (by simp)) --done
theorem code_CheckE_ent : Enters Tryz.prog 57 := enters_of Tryz.func57 (by kernel_rfl) (by kernel_rfl)
theorem code_CheckE (p m : Int) (A : Option Addr) (c : Nat) (mod : List Int) (hl9 : mod.length ≤ 17592186044415) [hF : IsF p m mod] (w : Int) (Aa : Option Addr) (n ca : Nat) (rs : List RowM) (hn : n = rs.length) (h9 : rs.length ≤ 17592186044415) (h8 : ∀ r ∈ rs, r.xs.length ≤ 17592186044415) (hb : ¬ (w < 1 ∨ w > 64)) (hE : rowsC (pw p m) w (xss rs) ≠ 0) :
   Pure Tryz.prog 57 #[.agg #[.int .i64 p, .int .i64 m, .slice A mod.length c, .int .i64 w, .slice Aa n ca]] [ro A (ints mod), ro Aa (hdrs rs), rowsR rs] (isV (.int .i64 (rowsC (pw p m) w (xss rs)))) := by
 have hch := chkF_ok hF.out
 refine pure_of (args := [.agg #[.int .i64 p, .int .i64 m, .slice A mod.length c, .int .i64 w, .slice Aa n ca]]) 19 Tryz.func57 rfl rfl rfl code_CheckE_ent ⟨id, id, id, trivial⟩ (fun w0 => ?_)
 refine tr_seq ?_
 refine tr_region fun _ _ _ => ?_
 refine ef rfl rfl (eBox rfl rfl rfl rfl rfl (fun p0 => ?_)) 
 refine pu rfl rfl rfl rfl rfl ?_
 refine tr_seq ?_
 refine tr_seq ?_
 refine tr_region fun _ _ _ => ?_
 refine st rfl rfl rfl rfl (rFld rfl rfl) ?_
 refine st rfl rfl rfl rfl (rLdSF rfl rfl) ?_
 refine ef rfl rfl (eCallV rfl rfl rfl (fld_Check _ _ _ _ _ hl9) ⟨rfl, trivial⟩ ?_) 
 refine pu rfl rfl rfl rfl rfl ?_
 refine tr_cond_bool rfl (fun h1 => ?_) (fun h1 => ?_)
 · try simp only [zbA] at h1
   omega --done
 · try simp only [zbA] at h1
   refine tr_skip ?_
   refine tr_seq ?_
   refine tr_seq ?_
   refine tr_region fun _ _ _ => ?_
   refine st rfl rfl rfl rfl (rFld rfl rfl) ?_
   refine st rfl rfl rfl rfl (rLdF rfl rfl rfl) ?_
   refine ef rfl rfl (eCallV rfl rfl rfl (code_lengthOk w (by omega) (by omega)) ⟨rfl, trivial⟩ ?_) 
   refine pu rfl rfl rfl rfl rfl ?_
   refine tr_seq ?_
   refine tr_region fun _ _ _ => ?_
   iterate 2 refine pu rfl rfl rfl rfl rfl ?_
   refine tr_cond_bool rfl (fun h4 => ?_) (fun h4 => ?_)
   · try simp only [zbA] at h4
     first | exact absurd trivial h4 | exact absurd rfl h4 | omega | (exact absurd h4 (by simp)) --done
   · try simp only [zbA] at h4
     refine tr_skip ?_
     refine tr_seq ?_
     refine tr_draw [0, 1, 2, 3, 4, 5] [] mixed (by kernel_rfl) fun _ _ _ => ?_
     refine st rfl rfl rfl rfl (rFld rfl rfl) ?_
     refine st rfl rfl rfl rfl (rLdSF rfl rfl) ?_
     refine st rfl rfl rfl rfl (rLdS rfl rfl rfl) ?_
     refine ef rfl rfl (eCallV rfl rfl rfl (code_gen _ _ _ _ _ _ _ _ _) ⟨rfl, trivial⟩ ?_) 
     refine ef rfl rfl (eCallV rfl rfl rfl (spc_CheckE _ _ _ _ _ hl9 w Aa _ ca rs hn h9 h8 hE) ⟨rfl, rfl, trivial⟩ ?_) 
     refine pu rfl rfl rfl rfl rfl ?_
     exact tr_ret ⟨trivial, _, _, rfl, ⟨rfl, rfl⟩, CSub.nil _, trivial⟩
theorem code_CheckF_ent : Enters Tryz.prog 57 := enters_of Tryz.func57 (by kernel_rfl) (by kernel_rfl)
theorem code_CheckF (p m : Int) (A : Option Addr) (c : Nat) (mod : List Int) (hl9 : mod.length ≤ 17592186044415) [hF : IsF p m mod] (w : Int) (Aa : Option Addr) (n ca : Nat) (rs : List RowM) (hn : n = rs.length) (h9 : rs.length ≤ 17592186044415) (h8 : ∀ r ∈ rs, r.xs.length ≤ 17592186044415) (hb : ¬ (w < 1 ∨ w > 64)) (hE : rowsC (pw p m) w (xss rs) = 0) (hf : ¬ formP p m mod w.toNat rs) :
   Pure Tryz.prog 57 #[.agg #[.int .i64 p, .int .i64 m, .slice A mod.length c, .int .i64 w, .slice Aa n ca]] [ro A (ints mod), ro Aa (hdrs rs), rowsR rs] (isV (.int .i64 5)) := by
 have hch := chkF_ok hF.out
 refine pure_of (args := [.agg #[.int .i64 p, .int .i64 m, .slice A mod.length c, .int .i64 w, .slice Aa n ca]]) 19 Tryz.func57 rfl rfl rfl code_CheckF_ent ⟨id, id, id, trivial⟩ (fun w0 => ?_)
 refine tr_seq ?_
 refine tr_region fun _ _ _ => ?_
 refine ef rfl rfl (eBox rfl rfl rfl rfl rfl (fun p0 => ?_)) 
 refine pu rfl rfl rfl rfl rfl ?_
 refine tr_seq ?_
 refine tr_seq ?_
 refine tr_region fun _ _ _ => ?_
 refine st rfl rfl rfl rfl (rFld rfl rfl) ?_
 refine st rfl rfl rfl rfl (rLdSF rfl rfl) ?_
 refine ef rfl rfl (eCallV rfl rfl rfl (fld_Check _ _ _ _ _ hl9) ⟨rfl, trivial⟩ ?_) 
 refine pu rfl rfl rfl rfl rfl ?_
 refine tr_cond_bool rfl (fun h1 => ?_) (fun h1 => ?_)
 · try simp only [zbA] at h1
   omega --done
 · try simp only [zbA] at h1
   refine tr_skip ?_
   refine tr_seq ?_
   refine tr_seq ?_
   refine tr_region fun _ _ _ => ?_
   refine st rfl rfl rfl rfl (rFld rfl rfl) ?_
   refine st rfl rfl rfl rfl (rLdF rfl rfl rfl) ?_
   refine ef rfl rfl (eCallV rfl rfl rfl (code_lengthOk w (by omega) (by omega)) ⟨rfl, trivial⟩ ?_) 
   refine pu rfl rfl rfl rfl rfl ?_
   refine tr_seq ?_
   refine tr_region fun _ _ _ => ?_
   iterate 2 refine pu rfl rfl rfl rfl rfl ?_
   refine tr_cond_bool rfl (fun h4 => ?_) (fun h4 => ?_)
   · try simp only [zbA] at h4
     first | exact absurd trivial h4 | exact absurd rfl h4 | omega | (exact absurd h4 (by simp)) --done
   · try simp only [zbA] at h4
     refine tr_skip ?_
     refine tr_seq ?_
     refine tr_draw [0, 1, 2, 3, 4, 5] [] mixed (by kernel_rfl) fun _ _ _ => ?_
     refine st rfl rfl rfl rfl (rFld rfl rfl) ?_
     refine st rfl rfl rfl rfl (rLdSF rfl rfl) ?_
     refine st rfl rfl rfl rfl (rLdS rfl rfl rfl) ?_
     refine ef rfl rfl (eCallV rfl rfl rfl (code_gen _ _ _ _ _ _ _ _ _) ⟨rfl, trivial⟩ ?_) 
     refine ef rfl rfl (eCallV rfl rfl rfl (spc_CheckF _ _ _ _ _ hl9 w Aa _ ca rs hn h9 h8 hE hf) ⟨rfl, rfl, trivial⟩ ?_) 
     refine pu rfl rfl rfl rfl rfl ?_
     exact tr_ret ⟨trivial, _, _, rfl, ⟨rfl, rfl⟩, CSub.nil _, trivial⟩
theorem code_CheckG_ent : Enters Tryz.prog 57 := enters_of Tryz.func57 (by kernel_rfl) (by kernel_rfl)
theorem code_CheckG (p m : Int) (A : Option Addr) (c : Nat) (mod : List Int) (hl9 : mod.length ≤ 17592186044415) [hF : IsF p m mod] (w : Int) (Aa : Option Addr) (n ca : Nat) (rs : List RowM) (hn : n = rs.length) (h9 : rs.length ≤ 17592186044415) (h8 : ∀ r ∈ rs, r.xs.length ≤ 17592186044415) (hb : ¬ (w < 1 ∨ w > 64)) (hE : rowsC (pw p m) w (xss rs) = 0) (hf : formP p m mod w.toNat rs) :
   Pure Tryz.prog 57 #[.agg #[.int .i64 p, .int .i64 m, .slice A mod.length c, .int .i64 w, .slice Aa n ca]] [ro A (ints mod), ro Aa (hdrs rs), rowsR rs] (isV (.int .i64 0)) := by
 have hch := chkF_ok hF.out
 refine pure_of (args := [.agg #[.int .i64 p, .int .i64 m, .slice A mod.length c, .int .i64 w, .slice Aa n ca]]) 19 Tryz.func57 rfl rfl rfl code_CheckG_ent ⟨id, id, id, trivial⟩ (fun w0 => ?_)
 refine tr_seq ?_
 refine tr_region fun _ _ _ => ?_
 refine ef rfl rfl (eBox rfl rfl rfl rfl rfl (fun p0 => ?_)) 
 refine pu rfl rfl rfl rfl rfl ?_
 refine tr_seq ?_
 refine tr_seq ?_
 refine tr_region fun _ _ _ => ?_
 refine st rfl rfl rfl rfl (rFld rfl rfl) ?_
 refine st rfl rfl rfl rfl (rLdSF rfl rfl) ?_
 refine ef rfl rfl (eCallV rfl rfl rfl (fld_Check _ _ _ _ _ hl9) ⟨rfl, trivial⟩ ?_) 
 refine pu rfl rfl rfl rfl rfl ?_
 refine tr_cond_bool rfl (fun h1 => ?_) (fun h1 => ?_)
 · try simp only [zbA] at h1
   omega --done
 · try simp only [zbA] at h1
   refine tr_skip ?_
   refine tr_seq ?_
   refine tr_seq ?_
   refine tr_region fun _ _ _ => ?_
   refine st rfl rfl rfl rfl (rFld rfl rfl) ?_
   refine st rfl rfl rfl rfl (rLdF rfl rfl rfl) ?_
   refine ef rfl rfl (eCallV rfl rfl rfl (code_lengthOk w (by omega) (by omega)) ⟨rfl, trivial⟩ ?_) 
   refine pu rfl rfl rfl rfl rfl ?_
   refine tr_seq ?_
   refine tr_region fun _ _ _ => ?_
   iterate 2 refine pu rfl rfl rfl rfl rfl ?_
   refine tr_cond_bool rfl (fun h4 => ?_) (fun h4 => ?_)
   · try simp only [zbA] at h4
     first | exact absurd trivial h4 | exact absurd rfl h4 | omega | (exact absurd h4 (by simp)) --done
   · try simp only [zbA] at h4
     refine tr_skip ?_
     refine tr_seq ?_
     refine tr_draw [0, 1, 2, 3, 4, 5] [] mixed (by kernel_rfl) fun _ _ _ => ?_
     refine st rfl rfl rfl rfl (rFld rfl rfl) ?_
     refine st rfl rfl rfl rfl (rLdSF rfl rfl) ?_
     refine st rfl rfl rfl rfl (rLdS rfl rfl rfl) ?_
     refine ef rfl rfl (eCallV rfl rfl rfl (code_gen _ _ _ _ _ _ _ _ _) ⟨rfl, trivial⟩ ?_) 
     refine ef rfl rfl (eCallV rfl rfl rfl (spc_CheckG _ _ _ _ _ hl9 w Aa _ ca rs hn h9 h8 hE hf) ⟨rfl, rfl, trivial⟩ ?_) 
     refine pu rfl rfl rfl rfl rfl ?_
     exact tr_ret ⟨trivial, _, _, rfl, ⟨rfl, rfl⟩, CSub.nil _, trivial⟩
theorem code_Check (p m : Int) (A : Option Addr) (c : Nat) (mod : List Int) (hl9 : mod.length ≤ 17592186044415) (w : Int) (Aa : Option Addr) (n ca : Nat) (rs : List RowM) (hn : n = rs.length) (h9 : rs.length ≤ 17592186044415) (h8 : ∀ r ∈ rs, r.xs.length ≤ 17592186044415) : Pure Tryz.prog 57 #[.agg #[.int .i64 p, .int .i64 m, .slice A mod.length c, .int .i64 w, .slice Aa n ca]] [ro A (ints mod), ro Aa (hdrs rs), rowsR rs] (isV (.int .i64 (codC p m mod w rs))) := by
 by_cases hF : FldR p m mod
 · haveI : IsF p m mod := ⟨hF⟩
   by_cases hb : w < 1 ∨ w > 64
   · rw [codC_ln hb]; exact code_CheckL p m A c mod hl9 w Aa n ca rs hn h9 h8 hb
   · by_cases hE : rowsC (pw p m) w (xss rs) = 0
     · by_cases hf : formP p m mod w.toNat rs
       · rw [codC_ok hb hE hf]; exact code_CheckG p m A c mod hl9 w Aa n ca rs hn h9 h8 hb hE hf
       · rw [codC_fm hb hE hf]; exact code_CheckF p m A c mod hl9 w Aa n ca rs hn h9 h8 hb hE hf
     · rw [codC_rw hb hE]; exact code_CheckE p m A c mod hl9 w Aa n ca rs hn h9 h8 hb hE
 · rw [codC_no w rs hF]; exact code_CheckNo p m A c mod hl9 hF w Aa n ca rs hn h9 h8
theorem ref_SCheckE_ent : Enters Tryz.prog 52 := enters_of Tryz.func52 (by kernel_rfl) (by kernel_rfl)
theorem ref_SCheckE (p m : Int) (A : Option Addr) (c : Nat) (mod : List Int) (hl9 : mod.length ≤ 17592186044415) [hF : IsF p m mod] (w : Int) (Aa : Option Addr) (n ca : Nat) (rs : List RowM) (hn : n = rs.length) (h9 : rs.length ≤ 17592186044415) (h8 : ∀ r ∈ rs, r.xs.length ≤ 17592186044415) (hE : rowsC (pw p m) w (xss rs) ≠ 0) :
   Pure Tryz.prog 52 #[.agg #[.int .i64 p, .int .i64 m, .slice A mod.length c], .agg #[.int .i64 w, .slice Aa n ca]] [ro A (ints mod), ro Aa (hdrs rs), rowsR rs] (isV (.int .i64 (rowsC (pw p m) w (xss rs)))) := by
 refine pure_of (args := [.agg #[.int .i64 p, .int .i64 m, .slice A mod.length c], .agg #[.int .i64 w, .slice Aa n ca]]) 28 Tryz.func52 rfl rfl rfl ref_SCheckE_ent ⟨id, id, id, trivial⟩ (fun w0 => ?_)
 refine tr_seq ?_
 refine tr_region fun _ _ _ => ?_
 refine ef rfl rfl (eBox rfl rfl rfl rfl rfl (fun p0 => ?_)) 
 refine ef rfl rfl (eBox rfl rfl rfl rfl rfl (fun p0a => ?_)) 
 refine pu rfl rfl rfl rfl rfl ?_
 refine tr_seq ?_
 refine tr_region fun _ _ _ => ?_
 refine st rfl rfl rfl rfl (rLdS rfl rfl rfl) ?_
 refine st rfl rfl rfl rfl (rLdS rfl rfl rfl) ?_
 refine ef rfl rfl (eCallV rfl rfl rfl (ref_RCheckOk _ _ _ _ _ hl9 hF.out (pw p m) hF.ord w Aa _ ca rs hn h9 h8) ⟨rfl, rfl, trivial⟩ ?_) 
 refine pu rfl rfl rfl rfl rfl ?_
 refine tr_seq ?_
 refine tr_seq ?_
 refine tr_region fun _ _ _ => ?_
 iterate 2 refine pu rfl rfl rfl rfl rfl ?_
 refine tr_cond_bool rfl (fun h2 => ?_) (fun h2 => ?_)
 · try simp only [zbA] at h2
   refine tr_seq ?_
   refine tr_region fun _ _ _ => ?_
   iterate 2 refine pu rfl rfl rfl rfl rfl ?_
   exact tr_ret ⟨trivial, _, _, rfl, ⟨rfl, rfl⟩, CSub.nil _, trivial⟩
 · try simp only [zbA] at h2
   omega --done
theorem ref_SCheckF_ent : Enters Tryz.prog 52 := enters_of Tryz.func52 (by kernel_rfl) (by kernel_rfl)
theorem ref_SCheckF (p m : Int) (A : Option Addr) (c : Nat) (mod : List Int) (hl9 : mod.length ≤ 17592186044415) [hF : IsF p m mod] (w : Int) (Aa : Option Addr) (n ca : Nat) (rs : List RowM) (hn : n = rs.length) (h9 : rs.length ≤ 17592186044415) (h8 : ∀ r ∈ rs, r.xs.length ≤ 17592186044415) (hE : rowsC (pw p m) w (xss rs) = 0) (hf : ¬ formP p m mod w.toNat rs) :
   Pure Tryz.prog 52 #[.agg #[.int .i64 p, .int .i64 m, .slice A mod.length c], .agg #[.int .i64 w, .slice Aa n ca]] [ro A (ints mod), ro Aa (hdrs rs), rowsR rs] (isV (.int .i64 5)) := by
 obtain ⟨hgd, hw0, hw9, hr9⟩ := rowsC_Gd (p := p) (m := m) hE
 refine pure_of (args := [.agg #[.int .i64 p, .int .i64 m, .slice A mod.length c], .agg #[.int .i64 w, .slice Aa n ca]]) 28 Tryz.func52 rfl rfl rfl ref_SCheckF_ent ⟨id, id, id, trivial⟩ (fun w0 => ?_)
 refine tr_seq ?_
 refine tr_region fun _ _ _ => ?_
 refine ef rfl rfl (eBox rfl rfl rfl rfl rfl (fun p0 => ?_)) 
 refine ef rfl rfl (eBox rfl rfl rfl rfl rfl (fun p0a => ?_)) 
 refine pu rfl rfl rfl rfl rfl ?_
 refine tr_seq ?_
 refine tr_region fun _ _ _ => ?_
 refine st rfl rfl rfl rfl (rLdS rfl rfl rfl) ?_
 refine st rfl rfl rfl rfl (rLdS rfl rfl rfl) ?_
 refine ef rfl rfl (eCallV rfl rfl rfl (ref_RCheckOk _ _ _ _ _ hl9 hF.out (pw p m) hF.ord w Aa _ ca rs hn h9 h8) ⟨rfl, rfl, trivial⟩ ?_) 
 refine pu rfl rfl rfl rfl rfl ?_
 refine tr_seq ?_
 refine tr_seq ?_
 refine tr_region fun _ _ _ => ?_
 iterate 2 refine pu rfl rfl rfl rfl rfl ?_
 refine tr_cond_bool rfl (fun h2 => ?_) (fun h2 => ?_)
 · try simp only [zbA] at h2
   omega --done
 · try simp only [zbA] at h2
   refine tr_skip ?_
   refine tr_seq ?_
   refine tr_region fun _ _ _ => ?_
   refine st rfl rfl rfl rfl (rLdS rfl rfl rfl) ?_
   refine st rfl rfl rfl rfl (rFld rfl rfl) ?_
   refine st rfl rfl rfl rfl (rLdF rfl rfl rfl) ?_
   refine st rfl rfl rfl rfl (rFld rfl rfl) ?_
   refine st rfl rfl rfl rfl (rLdF rfl rfl rfl) ?_
   refine ef rfl rfl (eCall3 rfl rfl rfl (ref_RCanon _ _ _ _ _ w hw0 (by omega) Aa _ ca rs hn (by omega) hgd) ⟨rfl, rfl, rfl, trivial⟩ ?_) 
   rintro _ _ _ _ ⟨r3, B, cg, Bp, cp, ps, rfl, rfl, rfl, rfl, hR, hk⟩
   iterate 5 refine pu rfl rfl rfl rfl rfl ?_
   refine tr_seq ?_
   refine tr_seq ?_
   refine tr_region fun _ _ _ => ?_
   refine pu rfl rfl rfl rfl rfl ?_
   refine st rfl rfl rfl rfl (rFld rfl rfl) ?_
   refine st rfl rfl rfl rfl (rLdF rfl rfl rfl) ?_
   refine ef rfl rfl (eCallV rfl rfl rfl (ref_SameRows _ _ _ r3 rfl _ _ _ rs hn (by omega) (hR.good.h8 (by omega))) ⟨rfl, rfl, trivial⟩ ?_) 
   refine st rfl rfl rfl rfl (rNotB rfl rfl) ?_
   refine tr_cond_bool rfl (fun h5 => ?_) (fun h5 => ?_)
   · try simp only [zbA] at h5
     refine tr_seq ?_
     refine tr_region fun _ _ _ => ?_
     refine pu rfl rfl rfl rfl rfl ?_
     exact tr_ret ⟨trivial, _, _, rfl, ⟨rfl, rfl⟩, CSub.nil _, trivial⟩
   · try simp only [zbA] at h5
     exact absurd ((hR.form_iff hgd).1 (by simpa [xss] using h5)) hf --done
theorem ref_SCheckG_ent : Enters Tryz.prog 52 := enters_of Tryz.func52 (by kernel_rfl) (by kernel_rfl)
theorem ref_SCheckG (p m : Int) (A : Option Addr) (c : Nat) (mod : List Int) (hl9 : mod.length ≤ 17592186044415) [hF : IsF p m mod] (w : Int) (Aa : Option Addr) (n ca : Nat) (rs : List RowM) (hn : n = rs.length) (h9 : rs.length ≤ 17592186044415) (h8 : ∀ r ∈ rs, r.xs.length ≤ 17592186044415) (hE : rowsC (pw p m) w (xss rs) = 0) (hf : formP p m mod w.toNat rs) :
   Pure Tryz.prog 52 #[.agg #[.int .i64 p, .int .i64 m, .slice A mod.length c], .agg #[.int .i64 w, .slice Aa n ca]] [ro A (ints mod), ro Aa (hdrs rs), rowsR rs] (isV (.int .i64 0)) := by
 obtain ⟨hgd, hw0, hw9, hr9⟩ := rowsC_Gd (p := p) (m := m) hE
 refine pure_of (args := [.agg #[.int .i64 p, .int .i64 m, .slice A mod.length c], .agg #[.int .i64 w, .slice Aa n ca]]) 28 Tryz.func52 rfl rfl rfl ref_SCheckG_ent ⟨id, id, id, trivial⟩ (fun w0 => ?_)
 refine tr_seq ?_
 refine tr_region fun _ _ _ => ?_
 refine ef rfl rfl (eBox rfl rfl rfl rfl rfl (fun p0 => ?_)) 
 refine ef rfl rfl (eBox rfl rfl rfl rfl rfl (fun p0a => ?_)) 
 refine pu rfl rfl rfl rfl rfl ?_
 refine tr_seq ?_
 refine tr_region fun _ _ _ => ?_
 refine st rfl rfl rfl rfl (rLdS rfl rfl rfl) ?_
 refine st rfl rfl rfl rfl (rLdS rfl rfl rfl) ?_
 refine ef rfl rfl (eCallV rfl rfl rfl (ref_RCheckOk _ _ _ _ _ hl9 hF.out (pw p m) hF.ord w Aa _ ca rs hn h9 h8) ⟨rfl, rfl, trivial⟩ ?_) 
 refine pu rfl rfl rfl rfl rfl ?_
 refine tr_seq ?_
 refine tr_seq ?_
 refine tr_region fun _ _ _ => ?_
 iterate 2 refine pu rfl rfl rfl rfl rfl ?_
 refine tr_cond_bool rfl (fun h2 => ?_) (fun h2 => ?_)
 · try simp only [zbA] at h2
   omega --done
 · try simp only [zbA] at h2
   refine tr_skip ?_
   refine tr_seq ?_
   refine tr_region fun _ _ _ => ?_
   refine st rfl rfl rfl rfl (rLdS rfl rfl rfl) ?_
   refine st rfl rfl rfl rfl (rFld rfl rfl) ?_
   refine st rfl rfl rfl rfl (rLdF rfl rfl rfl) ?_
   refine st rfl rfl rfl rfl (rFld rfl rfl) ?_
   refine st rfl rfl rfl rfl (rLdF rfl rfl rfl) ?_
   refine ef rfl rfl (eCall3 rfl rfl rfl (ref_RCanon _ _ _ _ _ w hw0 (by omega) Aa _ ca rs hn (by omega) hgd) ⟨rfl, rfl, rfl, trivial⟩ ?_) 
   rintro _ _ _ _ ⟨r3, B, cg, Bp, cp, ps, rfl, rfl, rfl, rfl, hR, hk⟩
   iterate 5 refine pu rfl rfl rfl rfl rfl ?_
   refine tr_seq ?_
   refine tr_seq ?_
   refine tr_region fun _ _ _ => ?_
   refine pu rfl rfl rfl rfl rfl ?_
   refine st rfl rfl rfl rfl (rFld rfl rfl) ?_
   refine st rfl rfl rfl rfl (rLdF rfl rfl rfl) ?_
   refine ef rfl rfl (eCallV rfl rfl rfl (ref_SameRows _ _ _ r3 rfl _ _ _ rs hn (by omega) (hR.good.h8 (by omega))) ⟨rfl, rfl, trivial⟩ ?_) 
   refine st rfl rfl rfl rfl (rNotB rfl rfl) ?_
   refine tr_cond_bool rfl (fun h5 => ?_) (fun h5 => ?_)
   · try simp only [zbA] at h5
     exact absurd ((hR.form_iff hgd).2 hf) (by simpa [xss] using h5) --done
   · try simp only [zbA] at h5
     refine tr_skip ?_
     refine tr_seq ?_
     refine tr_region fun _ _ _ => ?_
     refine pu rfl rfl rfl rfl rfl ?_
     exact tr_ret ⟨trivial, _, _, rfl, ⟨rfl, rfl⟩, CSub.nil _, trivial⟩
theorem ref_CCheckNo_ent : Enters Tryz.prog 22 := enters_of Tryz.func22 (by kernel_rfl) (by kernel_rfl)
theorem ref_CCheckNo (p m : Int) (A : Option Addr) (c : Nat) (mod : List Int) (hl9 : mod.length ≤ 17592186044415) (hF : ¬ FldR p m mod) (w : Int) (Aa : Option Addr) (n ca : Nat) (rs : List RowM) (hn : n = rs.length) (h9 : rs.length ≤ 17592186044415) (h8 : ∀ r ∈ rs, r.xs.length ≤ 17592186044415) :
   Pure Tryz.prog 22 #[.agg #[.int .i64 p, .int .i64 m, .slice A mod.length c, .int .i64 w, .slice Aa n ca]] [ro A (ints mod), ro Aa (hdrs rs), rowsR rs] (isV (.int .i64 1)) := by
 have hch := chkF_no hF
 refine pure_of (args := [.agg #[.int .i64 p, .int .i64 m, .slice A mod.length c, .int .i64 w, .slice Aa n ca]]) 26 Tryz.func22 rfl rfl rfl ref_CCheckNo_ent ⟨id, id, id, trivial⟩ (fun w0 => ?_)
 refine tr_seq ?_
 refine tr_region fun _ _ _ => ?_
 refine ef rfl rfl (eBox rfl rfl rfl rfl rfl (fun p0 => ?_)) 
 refine pu rfl rfl rfl rfl rfl ?_
 refine tr_seq ?_
 refine tr_region fun _ _ _ => ?_
 refine st rfl rfl rfl rfl (rFld rfl rfl) ?_
 refine st rfl rfl rfl rfl (rLdSF rfl rfl) ?_
 refine ef rfl rfl (eCallV rfl rfl rfl (ref_fldCheck _ _ _ _ _ hl9) ⟨rfl, trivial⟩ ?_) 
 refine pu rfl rfl rfl rfl rfl ?_
 refine tr_seq ?_
 refine tr_seq ?_
 refine tr_region fun _ _ _ => ?_
 iterate 2 refine pu rfl rfl rfl rfl rfl ?_
 refine tr_cond_bool rfl (fun h2 => ?_) (fun h2 => ?_)
 · try simp only [zbA] at h2
   refine tr_seq ?_
   refine tr_region fun _ _ _ => ?_
   iterate 2 refine pu rfl rfl rfl rfl rfl ?_
   exact tr_ret ⟨trivial, _, _, rfl, ⟨by rw [hch], rfl⟩, CSub.nil _, trivial⟩
 · try simp only [zbA] at h2
   omega --done
theorem ref_CCheckL_ent : Enters Tryz.prog 22 := enters_of Tryz.func22 (by kernel_rfl) (by kernel_rfl)
theorem ref_CCheckL (p m : Int) (A : Option Addr) (c : Nat) (mod : List Int) (hl9 : mod.length ≤ 17592186044415) [hF : IsF p m mod] (w : Int) (Aa : Option Addr) (n ca : Nat) (rs : List RowM) (hn : n = rs.length) (h9 : rs.length ≤ 17592186044415) (h8 : ∀ r ∈ rs, r.xs.length ≤ 17592186044415) (hb : w < 1 ∨ w > 64) :
   Pure Tryz.prog 22 #[.agg #[.int .i64 p, .int .i64 m, .slice A mod.length c, .int .i64 w, .slice Aa n ca]] [ro A (ints mod), ro Aa (hdrs rs), rowsR rs] (isV (.int .i64 4)) := by
 have hch := chkF_ok hF.out
 refine pure_of (args := [.agg #[.int .i64 p, .int .i64 m, .slice A mod.length c, .int .i64 w, .slice Aa n ca]]) 26 Tryz.func22 rfl rfl rfl ref_CCheckL_ent ⟨id, id, id, trivial⟩ (fun w0 => ?_)
 refine tr_seq ?_
 refine tr_region fun _ _ _ => ?_
 refine ef rfl rfl (eBox rfl rfl rfl rfl rfl (fun p0 => ?_)) 
 refine pu rfl rfl rfl rfl rfl ?_
 refine tr_seq ?_
 refine tr_region fun _ _ _ => ?_
 refine st rfl rfl rfl rfl (rFld rfl rfl) ?_
 refine st rfl rfl rfl rfl (rLdSF rfl rfl) ?_
 refine ef rfl rfl (eCallV rfl rfl rfl (ref_fldCheck _ _ _ _ _ hl9) ⟨rfl, trivial⟩ ?_) 
 refine pu rfl rfl rfl rfl rfl ?_
 refine tr_seq ?_
 refine tr_seq ?_
 refine tr_region fun _ _ _ => ?_
 iterate 2 refine pu rfl rfl rfl rfl rfl ?_
 refine tr_cond_bool rfl (fun h2 => ?_) (fun h2 => ?_)
 · try simp only [zbA] at h2
   omega --done
 · try simp only [zbA] at h2
   refine tr_skip ?_
   refine tr_seq ?_
   refine tr_seq ?_
   refine tr_region fun _ _ _ => ?_
   refine st rfl rfl rfl rfl (rFld rfl rfl) ?_
   refine st rfl rfl rfl rfl (rLdF rfl rfl rfl) ?_
   iterate 2 refine pu rfl rfl rfl rfl rfl ?_
   refine stg rfl rfl rfl rfl rfl (fun hb => by (have hq := hb; try simp only [zbA] at hq); exact rFld rfl rfl) ?_
   refine stg rfl rfl rfl rfl rfl (fun hb => by (have hq := hb; try simp only [zbA] at hq); exact rLdF rfl (evg rfl hb) rfl) ?_
   refine stg rfl rfl rfl rfl rfl (fun hb => by (have hq := hb; try simp only [zbA] at hq); exact rGtr rfl (evg rfl hb) rfl) ?_
   refine st rfl rfl rfl rfl (rOrB rfl rfl rfl rfl) ?_
   refine tr_cond_bool rfl (fun h4 => ?_) (fun h4 => ?_)
   · try simp only [zbA] at h4
     refine tr_seq ?_
     refine tr_region fun _ _ _ => ?_
     refine pu rfl rfl rfl rfl rfl ?_
     exact tr_ret ⟨trivial, _, _, rfl, ⟨rfl, rfl⟩, CSub.nil _, trivial⟩
   · try simp only [zbA] at h4
     omega --done
theorem ref_CCheckE_ent : Enters Tryz.prog 22 := enters_of Tryz.func22 (by kernel_rfl) (by kernel_rfl)
theorem ref_CCheckE (p m : Int) (A : Option Addr) (c : Nat) (mod : List Int) (hl9 : mod.length ≤ 17592186044415) [hF : IsF p m mod] (w : Int) (Aa : Option Addr) (n ca : Nat) (rs : List RowM) (hn : n = rs.length) (h9 : rs.length ≤ 17592186044415) (h8 : ∀ r ∈ rs, r.xs.length ≤ 17592186044415) (hb : ¬ (w < 1 ∨ w > 64)) (hE : rowsC (pw p m) w (xss rs) ≠ 0) :
   Pure Tryz.prog 22 #[.agg #[.int .i64 p, .int .i64 m, .slice A mod.length c, .int .i64 w, .slice Aa n ca]] [ro A (ints mod), ro Aa (hdrs rs), rowsR rs] (isV (.int .i64 (rowsC (pw p m) w (xss rs)))) := by
 have hch := chkF_ok hF.out
 refine pure_of (args := [.agg #[.int .i64 p, .int .i64 m, .slice A mod.length c, .int .i64 w, .slice Aa n ca]]) 26 Tryz.func22 rfl rfl rfl ref_CCheckE_ent ⟨id, id, id, trivial⟩ (fun w0 => ?_)
 refine tr_seq ?_
 refine tr_region fun _ _ _ => ?_
 refine ef rfl rfl (eBox rfl rfl rfl rfl rfl (fun p0 => ?_)) 
 refine pu rfl rfl rfl rfl rfl ?_
 refine tr_seq ?_
 refine tr_region fun _ _ _ => ?_
 refine st rfl rfl rfl rfl (rFld rfl rfl) ?_
 refine st rfl rfl rfl rfl (rLdSF rfl rfl) ?_
 refine ef rfl rfl (eCallV rfl rfl rfl (ref_fldCheck _ _ _ _ _ hl9) ⟨rfl, trivial⟩ ?_) 
 refine pu rfl rfl rfl rfl rfl ?_
 refine tr_seq ?_
 refine tr_seq ?_
 refine tr_region fun _ _ _ => ?_
 iterate 2 refine pu rfl rfl rfl rfl rfl ?_
 refine tr_cond_bool rfl (fun h2 => ?_) (fun h2 => ?_)
 · try simp only [zbA] at h2
   omega --done
 · try simp only [zbA] at h2
   refine tr_skip ?_
   refine tr_seq ?_
   refine tr_seq ?_
   refine tr_region fun _ _ _ => ?_
   refine st rfl rfl rfl rfl (rFld rfl rfl) ?_
   refine st rfl rfl rfl rfl (rLdF rfl rfl rfl) ?_
   iterate 2 refine pu rfl rfl rfl rfl rfl ?_
   refine stg rfl rfl rfl rfl rfl (fun hb => by (have hq := hb; try simp only [zbA] at hq); exact rFld rfl rfl) ?_
   refine stg rfl rfl rfl rfl rfl (fun hb => by (have hq := hb; try simp only [zbA] at hq); exact rLdF rfl (evg rfl hb) rfl) ?_
   refine stg rfl rfl rfl rfl rfl (fun hb => by (have hq := hb; try simp only [zbA] at hq); exact rGtr rfl (evg rfl hb) rfl) ?_
   refine st rfl rfl rfl rfl (rOrB rfl rfl rfl rfl) ?_
   refine tr_cond_bool rfl (fun h4 => ?_) (fun h4 => ?_)
   · try simp only [zbA] at h4
     omega --done
   · try simp only [zbA] at h4
     refine tr_skip ?_
     refine tr_seq ?_
     refine tr_region fun _ _ _ => ?_
     refine st rfl rfl rfl rfl (rFld rfl rfl) ?_
     refine st rfl rfl rfl rfl (rLdSF rfl rfl) ?_
     refine st rfl rfl rfl rfl (rFld rfl rfl) ?_
     refine st rfl rfl rfl rfl (rLdF rfl rfl rfl) ?_
     refine st rfl rfl rfl rfl (rFld rfl rfl) ?_
     refine st rfl rfl rfl rfl (rLdF rfl rfl rfl) ?_
     refine st rfl rfl rfl rfl (rBuild rfl rfl) ?_
     refine ef rfl rfl (eCallV rfl rfl rfl (ref_SCheckE _ _ _ _ _ hl9 w Aa _ ca rs hn h9 h8 hE) ⟨rfl, rfl, trivial⟩ ?_) 
     refine pu rfl rfl rfl rfl rfl ?_
     exact tr_ret ⟨trivial, _, _, rfl, ⟨rfl, rfl⟩, CSub.nil _, trivial⟩
theorem ref_CCheckF_ent : Enters Tryz.prog 22 := enters_of Tryz.func22 (by kernel_rfl) (by kernel_rfl)
theorem ref_CCheckF (p m : Int) (A : Option Addr) (c : Nat) (mod : List Int) (hl9 : mod.length ≤ 17592186044415) [hF : IsF p m mod] (w : Int) (Aa : Option Addr) (n ca : Nat) (rs : List RowM) (hn : n = rs.length) (h9 : rs.length ≤ 17592186044415) (h8 : ∀ r ∈ rs, r.xs.length ≤ 17592186044415) (hb : ¬ (w < 1 ∨ w > 64)) (hE : rowsC (pw p m) w (xss rs) = 0) (hf : ¬ formP p m mod w.toNat rs) :
   Pure Tryz.prog 22 #[.agg #[.int .i64 p, .int .i64 m, .slice A mod.length c, .int .i64 w, .slice Aa n ca]] [ro A (ints mod), ro Aa (hdrs rs), rowsR rs] (isV (.int .i64 5)) := by
 have hch := chkF_ok hF.out
 refine pure_of (args := [.agg #[.int .i64 p, .int .i64 m, .slice A mod.length c, .int .i64 w, .slice Aa n ca]]) 26 Tryz.func22 rfl rfl rfl ref_CCheckF_ent ⟨id, id, id, trivial⟩ (fun w0 => ?_)
 refine tr_seq ?_
 refine tr_region fun _ _ _ => ?_
 refine ef rfl rfl (eBox rfl rfl rfl rfl rfl (fun p0 => ?_)) 
 refine pu rfl rfl rfl rfl rfl ?_
 refine tr_seq ?_
 refine tr_region fun _ _ _ => ?_
 refine st rfl rfl rfl rfl (rFld rfl rfl) ?_
 refine st rfl rfl rfl rfl (rLdSF rfl rfl) ?_
 refine ef rfl rfl (eCallV rfl rfl rfl (ref_fldCheck _ _ _ _ _ hl9) ⟨rfl, trivial⟩ ?_) 
 refine pu rfl rfl rfl rfl rfl ?_
 refine tr_seq ?_
 refine tr_seq ?_
 refine tr_region fun _ _ _ => ?_
 iterate 2 refine pu rfl rfl rfl rfl rfl ?_
 refine tr_cond_bool rfl (fun h2 => ?_) (fun h2 => ?_)
 · try simp only [zbA] at h2
   omega --done
 · try simp only [zbA] at h2
   refine tr_skip ?_
   refine tr_seq ?_
   refine tr_seq ?_
   refine tr_region fun _ _ _ => ?_
   refine st rfl rfl rfl rfl (rFld rfl rfl) ?_
   refine st rfl rfl rfl rfl (rLdF rfl rfl rfl) ?_
   iterate 2 refine pu rfl rfl rfl rfl rfl ?_
   refine stg rfl rfl rfl rfl rfl (fun hb => by (have hq := hb; try simp only [zbA] at hq); exact rFld rfl rfl) ?_
   refine stg rfl rfl rfl rfl rfl (fun hb => by (have hq := hb; try simp only [zbA] at hq); exact rLdF rfl (evg rfl hb) rfl) ?_
   refine stg rfl rfl rfl rfl rfl (fun hb => by (have hq := hb; try simp only [zbA] at hq); exact rGtr rfl (evg rfl hb) rfl) ?_
   refine st rfl rfl rfl rfl (rOrB rfl rfl rfl rfl) ?_
   refine tr_cond_bool rfl (fun h4 => ?_) (fun h4 => ?_)
   · try simp only [zbA] at h4
     omega --done
   · try simp only [zbA] at h4
     refine tr_skip ?_
     refine tr_seq ?_
     refine tr_region fun _ _ _ => ?_
     refine st rfl rfl rfl rfl (rFld rfl rfl) ?_
     refine st rfl rfl rfl rfl (rLdSF rfl rfl) ?_
     refine st rfl rfl rfl rfl (rFld rfl rfl) ?_
     refine st rfl rfl rfl rfl (rLdF rfl rfl rfl) ?_
     refine st rfl rfl rfl rfl (rFld rfl rfl) ?_
     refine st rfl rfl rfl rfl (rLdF rfl rfl rfl) ?_
     refine st rfl rfl rfl rfl (rBuild rfl rfl) ?_
     refine ef rfl rfl (eCallV rfl rfl rfl (ref_SCheckF _ _ _ _ _ hl9 w Aa _ ca rs hn h9 h8 hE hf) ⟨rfl, rfl, trivial⟩ ?_) 
     refine pu rfl rfl rfl rfl rfl ?_
     exact tr_ret ⟨trivial, _, _, rfl, ⟨rfl, rfl⟩, CSub.nil _, trivial⟩
theorem ref_CCheckG_ent : Enters Tryz.prog 22 := enters_of Tryz.func22 (by kernel_rfl) (by kernel_rfl)
theorem ref_CCheckG (p m : Int) (A : Option Addr) (c : Nat) (mod : List Int) (hl9 : mod.length ≤ 17592186044415) [hF : IsF p m mod] (w : Int) (Aa : Option Addr) (n ca : Nat) (rs : List RowM) (hn : n = rs.length) (h9 : rs.length ≤ 17592186044415) (h8 : ∀ r ∈ rs, r.xs.length ≤ 17592186044415) (hb : ¬ (w < 1 ∨ w > 64)) (hE : rowsC (pw p m) w (xss rs) = 0) (hf : formP p m mod w.toNat rs) :
   Pure Tryz.prog 22 #[.agg #[.int .i64 p, .int .i64 m, .slice A mod.length c, .int .i64 w, .slice Aa n ca]] [ro A (ints mod), ro Aa (hdrs rs), rowsR rs] (isV (.int .i64 0)) := by
 have hch := chkF_ok hF.out
 refine pure_of (args := [.agg #[.int .i64 p, .int .i64 m, .slice A mod.length c, .int .i64 w, .slice Aa n ca]]) 26 Tryz.func22 rfl rfl rfl ref_CCheckG_ent ⟨id, id, id, trivial⟩ (fun w0 => ?_)
 refine tr_seq ?_
 refine tr_region fun _ _ _ => ?_
 refine ef rfl rfl (eBox rfl rfl rfl rfl rfl (fun p0 => ?_)) 
 refine pu rfl rfl rfl rfl rfl ?_
 refine tr_seq ?_
 refine tr_region fun _ _ _ => ?_
 refine st rfl rfl rfl rfl (rFld rfl rfl) ?_
 refine st rfl rfl rfl rfl (rLdSF rfl rfl) ?_
 refine ef rfl rfl (eCallV rfl rfl rfl (ref_fldCheck _ _ _ _ _ hl9) ⟨rfl, trivial⟩ ?_) 
 refine pu rfl rfl rfl rfl rfl ?_
 refine tr_seq ?_
 refine tr_seq ?_
 refine tr_region fun _ _ _ => ?_
 iterate 2 refine pu rfl rfl rfl rfl rfl ?_
 refine tr_cond_bool rfl (fun h2 => ?_) (fun h2 => ?_)
 · try simp only [zbA] at h2
   omega --done
 · try simp only [zbA] at h2
   refine tr_skip ?_
   refine tr_seq ?_
   refine tr_seq ?_
   refine tr_region fun _ _ _ => ?_
   refine st rfl rfl rfl rfl (rFld rfl rfl) ?_
   refine st rfl rfl rfl rfl (rLdF rfl rfl rfl) ?_
   iterate 2 refine pu rfl rfl rfl rfl rfl ?_
   refine stg rfl rfl rfl rfl rfl (fun hb => by (have hq := hb; try simp only [zbA] at hq); exact rFld rfl rfl) ?_
   refine stg rfl rfl rfl rfl rfl (fun hb => by (have hq := hb; try simp only [zbA] at hq); exact rLdF rfl (evg rfl hb) rfl) ?_
   refine stg rfl rfl rfl rfl rfl (fun hb => by (have hq := hb; try simp only [zbA] at hq); exact rGtr rfl (evg rfl hb) rfl) ?_
   refine st rfl rfl rfl rfl (rOrB rfl rfl rfl rfl) ?_
   refine tr_cond_bool rfl (fun h4 => ?_) (fun h4 => ?_)
   · try simp only [zbA] at h4
     omega --done
   · try simp only [zbA] at h4
     refine tr_skip ?_
     refine tr_seq ?_
     refine tr_region fun _ _ _ => ?_
     refine st rfl rfl rfl rfl (rFld rfl rfl) ?_
     refine st rfl rfl rfl rfl (rLdSF rfl rfl) ?_
     refine st rfl rfl rfl rfl (rFld rfl rfl) ?_
     refine st rfl rfl rfl rfl (rLdF rfl rfl rfl) ?_
     refine st rfl rfl rfl rfl (rFld rfl rfl) ?_
     refine st rfl rfl rfl rfl (rLdF rfl rfl rfl) ?_
     refine st rfl rfl rfl rfl (rBuild rfl rfl) ?_
     refine ef rfl rfl (eCallV rfl rfl rfl (ref_SCheckG _ _ _ _ _ hl9 w Aa _ ca rs hn h9 h8 hE hf) ⟨rfl, rfl, trivial⟩ ?_) 
     refine pu rfl rfl rfl rfl rfl ?_
     exact tr_ret ⟨trivial, _, _, rfl, ⟨rfl, rfl⟩, CSub.nil _, trivial⟩
theorem ref_CCheck (p m : Int) (A : Option Addr) (c : Nat) (mod : List Int) (hl9 : mod.length ≤ 17592186044415) (w : Int) (Aa : Option Addr) (n ca : Nat) (rs : List RowM) (hn : n = rs.length) (h9 : rs.length ≤ 17592186044415) (h8 : ∀ r ∈ rs, r.xs.length ≤ 17592186044415) : Pure Tryz.prog 22 #[.agg #[.int .i64 p, .int .i64 m, .slice A mod.length c, .int .i64 w, .slice Aa n ca]] [ro A (ints mod), ro Aa (hdrs rs), rowsR rs] (isV (.int .i64 (codC p m mod w rs))) := by
 by_cases hF : FldR p m mod
 · haveI : IsF p m mod := ⟨hF⟩
   by_cases hb : w < 1 ∨ w > 64
   · rw [codC_ln hb]; exact ref_CCheckL p m A c mod hl9 w Aa n ca rs hn h9 h8 hb
   · by_cases hE : rowsC (pw p m) w (xss rs) = 0
     · by_cases hf : formP p m mod w.toNat rs
       · rw [codC_ok hb hE hf]; exact ref_CCheckG p m A c mod hl9 w Aa n ca rs hn h9 h8 hb hE hf
       · rw [codC_fm hb hE hf]; exact ref_CCheckF p m A c mod hl9 w Aa n ca rs hn h9 h8 hb hE hf
     · rw [codC_rw hb hE]; exact ref_CCheckE p m A c mod hl9 w Aa n ca rs hn h9 h8 hb hE
 · rw [codC_no w rs hF]; exact ref_CCheckNo p m A c mod hl9 hF w Aa n ca rs hn h9 h8
end Go.Proofs.YtfdjdokdabmmdaaGreat

set_option maxRecDepth 100000
namespace Go.Proofs.YtfdjdokdabmmdaaGreat
open Go.RowKit
end Go.Proofs.YtfdjdokdabmmdaaGreat

set_option maxRecDepth 100000
namespace Go.Proofs.YtfdjdokdabmmdaaGreat
open Go.RowKit
theorem ref_MFew_ent : Enters Tryz.prog 50 := enters_of Tryz.func50 (by kernel_rfl) (by kernel_rfl)
theorem ref_MFew (Aa : Option Addr) (n ca : Nat) (rs : List RowM) (hn : n = rs.length) (h9 : rs.length ≤ 17592186044415) (h8 : ∀ r ∈ rs, r.xs.length ≤ 17592186044415) :
   Pure Tryz.prog 50 #[.agg #[.int .i64 0, .slice Aa n ca], .int .i64 4200] [ro Aa (hdrs rs), rowsR rs] (val (fun v => ∃ b : Bool, v = .bool b ∧ (b = true → ∀ r ∈ rs, r.xs.length ≤ 4200))) := by
 refine pure_of (args := [.agg #[.int .i64 0, .slice Aa n ca], .int .i64 4200]) 45 Tryz.func50 rfl rfl rfl ref_MFew_ent ⟨id, id, trivial⟩ (fun w0 => ?_)
 refine tr_seq ?_
 refine tr_region fun _ _ _ => ?_
 refine ef rfl rfl (eBox rfl rfl rfl rfl rfl (fun p0 => ?_)) 
 refine pu rfl rfl rfl rfl rfl ?_
 refine tr_seq ?_
 refine tr_seq ?_
 refine tr_region fun _ _ _ => ?_
 refine st rfl rfl rfl rfl (rFld rfl rfl) ?_
 refine st rfl rfl rfl rfl (rLdF rfl rfl rfl) ?_
 iterate 2 refine pu rfl rfl rfl rfl rfl ?_
 refine stg rfl rfl rfl rfl rfl (fun hb => by (have hq := hb; try simp only [zbA] at hq); exact rFld rfl rfl) ?_
 refine stg rfl rfl rfl rfl rfl (fun hb => by (have hq := hb; try simp only [zbA] at hq); exact rLdF rfl (evg rfl hb) rfl) ?_
 refine stg rfl rfl rfl rfl rfl (fun hb => by (have hq := hb; try simp only [zbA] at hq); exact rLen rfl (evg rfl hb)) ?_
 refine stg rfl rfl rfl rfl rfl (fun hb => by (have hq := hb; try simp only [zbA] at hq); exact rMove rfl rfl) ?_
 refine stg rfl rfl rfl rfl rfl (fun hb => by (have hq := hb; try simp only [zbA] at hq); exact rGtr rfl (evg rfl hb) (evg rfl hb)) ?_
 refine st rfl rfl rfl rfl (rOrB rfl rfl rfl rfl) ?_
 refine tr_cond_bool rfl (fun h1 => ?_) (fun h1 => ?_)
 · try simp only [zbA] at h1
   skip
   refine tr_seq ?_
   refine tr_region fun _ _ _ => ?_
   refine pu rfl rfl rfl rfl rfl ?_
   exact tr_ret ⟨trivial, _, _, rfl, ⟨rfl, false, rfl, fun h => by cases h⟩, CSub.nil _, trivial⟩
 · try simp only [zbA] at h1
   refine tr_skip ?_
   refine tr_seq ?_
   refine tr_region fun _ _ _ => ?_
   refine pu rfl rfl rfl rfl rfl ?_
   refine st rfl rfl rfl rfl (rFld rfl rfl) ?_
   refine st rfl rfl rfl rfl (rLdF rfl rfl rfl) ?_
   refine st rfl rfl rfl rfl (rLen rfl rfl) ?_
   refine st rfl rfl rfl rfl (rSub rfl rfl rfl (by omega) (by omega)) ?_
   refine pu rfl rfl rfl rfl rfl ?_
   refine tr_seq ?_
   refine tr_seq ?_
   refine tr_region fun _ _ _ => ?_
   refine pu rfl rfl rfl rfl rfl ?_
   refine tr_block ?_
   refine tr_loop2 (fun (k : Int) (lf : Int) => [(5, .int .i64 lf), (6, .int .i64 k), (2, .pointer (some p0))]) (fun (k : Int) (lf : Int) => [blk p0 67 [.int .i64 0, .slice Aa n ca], ro Aa (hdrs rs), rowsR rs]) (fun (k : Int) (lf : Int) => (0 ≤ k ∧ k ≤ n) ∧ (0 ≤ lf ∧ lf ≤ 4200) ∧ ∀ j : Nat, (j : Int) < k → (rs.getD j rowD).xs.length ≤ 4200) (fun (k : Int) (lf : Int) => (n - k).toNat) (0) (4200 - n) ⟨rfl, rfl, rfl, trivial⟩ (by first | exact cs _ _ | exact CSub.refl _) (⟨⟨by omega, by omega⟩, ⟨by omega, by omega⟩, fun j hj => by omega⟩) (fun k lf hI => ?_)
   obtain ⟨⟨hk0, hk1⟩, ⟨hf0, hf1⟩, hall⟩ := hI
   refine tr_seq ?_
   refine tr_seq ?_
   refine tr_region fun _ _ _ => ?_
   refine pu rfl rfl rfl rfl rfl ?_
   refine st rfl rfl rfl rfl (rFld rfl rfl) ?_
   refine st rfl rfl rfl rfl (rLdF rfl rfl rfl) ?_
   refine st rfl rfl rfl rfl (rLen rfl rfl) ?_
   refine pu rfl rfl rfl rfl rfl ?_
   refine tr_cond_bool rfl (fun h5 => ?_) (fun h5 => ?_)
   · try simp only [zbA] at h5
     refine tr_skip ?_
     refine tr_seq ?_
     refine tr_block ?_
     refine tr_seq ?_
     refine tr_seq ?_
     haveI : InB k.toNat rs.length := ⟨by omega⟩
     have hk8 := h8 _ (getD_mem (show k.toNat < rs.length by omega) rowD)
     refine tr_region fun _ _ _ => ?_
     refine st rfl rfl rfl rfl (rFld rfl rfl) ?_
     refine st rfl rfl rfl rfl (rLdF rfl rfl rfl) ?_
     refine pu rfl rfl rfl rfl rfl ?_
     refine st rfl rfl rfl rfl (rIdxR rfl rfl rfl (by omega) (by omega) (by omega)) ?_
     refine st rfl rfl rfl rfl (rLdR rfl rfl (by omega)) ?_
     refine st rfl rfl rfl rfl (rLen rfl rfl) ?_
     iterate 2 refine pu rfl rfl rfl rfl rfl ?_
     refine tr_cond_bool rfl (fun h7 => ?_) (fun h7 => ?_)
     · try simp only [zbA] at h7
       refine tr_seq ?_
       refine tr_region fun _ _ _ => ?_
       refine pu rfl rfl rfl rfl rfl ?_
       exact tr_ret ⟨trivial, _, _, rfl, ⟨rfl, false, rfl, fun h => by cases h⟩, CSub.nil _, trivial⟩
     · try simp only [zbA] at h7
       refine tr_skip ?_
       refine tr_region fun _ _ _ => ?_
       refine pu rfl rfl rfl rfl rfl ?_
       refine st rfl rfl rfl rfl (rFld rfl rfl) ?_
       refine st rfl rfl rfl rfl (rLdF rfl rfl rfl) ?_
       refine pu rfl rfl rfl rfl rfl ?_
       refine st rfl rfl rfl rfl (rIdxR rfl rfl rfl (by omega) (by omega) (by omega)) ?_
       refine st rfl rfl rfl rfl (rLdR rfl rfl (by omega)) ?_
       refine st rfl rfl rfl rfl (rLen rfl rfl) ?_
       refine st rfl rfl rfl rfl (rSub rfl rfl rfl (by omega) (by omega)) ?_
       refine pu rfl rfl rfl rfl rfl ?_
       refine tr_region fun _ _ _ => ?_
       refine pu rfl rfl rfl rfl rfl ?_
       refine st rfl rfl rfl rfl (rAdd rfl rfl rfl (by omega) (by omega)) ?_
       refine pu rfl rfl rfl rfl rfl ?_
       refine ⟨k + 1, lf - (rs.getD k.toNat rowD).xs.length, ⟨rfl, rfl, rfl, trivial⟩, by first | exact cs _ _ | exact CSub.refl _, ?_⟩
       refine ⟨⟨⟨by omega, by omega⟩, ⟨by omega, by omega⟩, fun j hj => ?_⟩, by omega⟩
       by_cases he : (j : Int) = k
       · have : j = k.toNat := by omega
         subst this; omega
       · exact hall j (by omega)
   · try simp only [zbA] at h5
     refine tr_exit ?_
     refine tr_seq ?_
     refine tr_region fun _ _ _ => ?_
     refine pu rfl rfl rfl rfl rfl ?_
     exact tr_ret ⟨trivial, _, _, rfl, ⟨rfl, true, rfl, fun _ => xss_all.1 (xss_get (φ := fun r => r.length ≤ 4200) fun j hj => hall j (by omega))⟩, CSub.nil _, trivial⟩
theorem ref_CFew_ent : Enters Tryz.prog 21 := enters_of Tryz.func21 (by kernel_rfl) (by kernel_rfl)
theorem ref_CFew (p m : Int) (A : Option Addr) (c : Nat) (mod : List Int) (hl9 : mod.length ≤ 17592186044415) (w : Int) (Aa : Option Addr) (n ca : Nat) (rs : List RowM) (hn : n = rs.length) (h9 : rs.length ≤ 17592186044415) (h8 : ∀ r ∈ rs, r.xs.length ≤ 17592186044415) :
   Pure Tryz.prog 21 #[.agg #[.int .i64 p, .int .i64 m, .slice A mod.length c, .int .i64 w, .slice Aa n ca], .int .i64 4200] [ro Aa (hdrs rs), rowsR rs] (val (fun v => ∃ b : Bool, v = .bool b ∧ (b = true → ∀ r ∈ rs, r.xs.length ≤ 4200))) := by
 refine pure_of (args := [.agg #[.int .i64 p, .int .i64 m, .slice A mod.length c, .int .i64 w, .slice Aa n ca], .int .i64 4200]) 10 Tryz.func21 rfl rfl rfl ref_CFew_ent ⟨id, id, trivial⟩ (fun w0 => ?_)
 refine tr_seq ?_
 refine tr_region fun _ _ _ => ?_
 refine ef rfl rfl (eBox rfl rfl rfl rfl rfl (fun p0 => ?_)) 
 refine pu rfl rfl rfl rfl rfl ?_
 refine tr_seq ?_
 refine tr_region fun _ _ _ => ?_
 refine st rfl rfl rfl rfl (rFld rfl rfl) ?_
 refine st rfl rfl rfl rfl (rLdF rfl rfl rfl) ?_
 refine st rfl rfl rfl rfl (rBuild rfl rfl) ?_
 refine pu rfl rfl rfl rfl rfl ?_
 refine ef rfl rfl (eCall0 rfl rfl rfl (ref_MFew Aa n ca rs hn h9 h8) ⟨rfl, rfl, trivial⟩ ?_) 
 rintro _ ⟨b, rfl, hb⟩
 refine pu rfl rfl rfl rfl rfl ?_
 exact tr_ret ⟨trivial, _, _, rfl, ⟨rfl, b, rfl, hb⟩, CSub.nil _, trivial⟩
end Go.Proofs.YtfdjdokdabmmdaaGreat

set_option maxRecDepth 100000
namespace Go.Proofs.YtfdjdokdabmmdaaGreat
open Go.RowKit
theorem ref_Combine_ent : Enters Tryz.prog 49 := enters_of Tryz.func49 (by kernel_rfl) (by kernel_rfl)
theorem ref_Combine (p m : Int) (A : Option Addr) (c : Nat) (mod : List Int) [hF : IsF p m mod] (X : Option Addr) (nx cx : Nat) (x : List Int) (hnx : nx = x.length) (w : Int) (hw0 : 0 ≤ w) (hw9 : w ≤ 1000) (Aa : Option Addr) (n ca : Nat) (rs : List RowM) (hn : n = rs.length) (hx : x.length = rs.length) (h9 : rs.length ≤ 1000000) (hgd : Gd (pw p m) w.toNat rs) :
   Pure Tryz.prog 49 #[.agg #[.int .i64 p, .int .i64 m, .slice A mod.length c], .slice X nx cx, .slice Aa n ca, .int .i64 w] [ro A (ints mod), ro X (ints x), ro Aa (hdrs rs), rowsR rs] (one (fun v ch => ∃ B cb o, v = .slice B o.length cb ∧ ch = ow B 3 cb (ints o) ∧ (o.length : Int) = w ∧ AllIn (pw p m) o ∧ (rw' o : Vc (El p m mod)) = Vc.cmb (fun i => el (x.getD i 0)) (vsR rs))) := by
 have hq2 := hF.q2
 refine pure_of (args := [.agg #[.int .i64 p, .int .i64 m, .slice A mod.length c], .slice X nx cx, .slice Aa n ca, .int .i64 w]) 42 Tryz.func49 rfl rfl rfl ref_Combine_ent ⟨id, id, id, id, trivial⟩ (fun w0 => ?_)
 refine tr_seq ?_
 refine tr_region fun _ _ _ => ?_
 refine ef rfl rfl (eBox rfl rfl rfl rfl rfl (fun p0 => ?_)) 
 refine pu rfl rfl rfl rfl rfl ?_
 refine tr_seq ?_
 refine tr_region fun _ _ _ => ?_
 refine pu rfl rfl rfl rfl rfl ?_
 refine ef rfl rfl (eMakeI rfl rfl rfl rfl rfl (by omega) (by omega) (by omega) (fun A1 => ?_)) 
 refine pu rfl rfl rfl rfl rfl ?_
 refine tr_seq ?_
 refine tr_seq ?_
 refine tr_region fun _ _ _ => ?_
 refine pu rfl rfl rfl rfl rfl ?_
 refine tr_block ?_
 refine tr_loop5 (fun (k : Int) (B : Option Addr) (cb : Nat) (no : Nat) (o : List Int) => [(9, .slice B no cb), (10, .int .i64 k), (1, .slice X nx cx), (2, .slice Aa n ca), (4, .pointer (some p0)), (8, .slice none 0 0)]) (fun (k : Int) (B : Option Addr) (cb : Nat) (no : Nat) (o : List Int) => [ow B 3 cb (ints o), blk p0 24 [.int .i64 p, .int .i64 m, .slice A mod.length c], ro A (ints mod), ro X (ints x), ro Aa (hdrs rs), rowsR rs]) (fun (k : Int) (B : Option Addr) (cb : Nat) (no : Nat) (o : List Int) => (0 ≤ k ∧ k ≤ n) ∧ no = o.length ∧ ((o.length : Int) = w ∧ AllIn (pw p m) o) ∧ (rw' o : Vc (El p m mod)) = Vc.cmb (Vc.upC (fun i => (el (x.getD i 0) : El p m mod)) k.toNat) (vsR rs)) (fun (k : Int) (B : Option Addr) (cb : Nat) (no : Nat) (o : List Int) => (n - k).toNat) (0) (A1) (w.toNat) (w.toNat) (List.replicate w.toNat 0) ⟨rfl, rfl, rfl, rfl, rfl, rfl, trivial⟩ (by first | exact cs _ _ | exact CSub.refl _) (⟨⟨by omega, by omega⟩, by simp, ⟨by simp; omega, allIn_rep (by omega) _⟩, by rw [Int.toNat_zero, Vc.cmb_up_zero]; exact Vc.ext fun j => by rw [rw_at, rep_get, el_zero]; rfl⟩) (fun k B cb no o hI => ?_)
 obtain ⟨⟨hk0, hk1⟩, hno, ⟨hol, hoi⟩, hoe⟩ := hI
 refine tr_seq ?_
 refine tr_seq ?_
 refine tr_region fun _ _ _ => ?_
 iterate 2 refine pu rfl rfl rfl rfl rfl ?_
 refine st rfl rfl rfl rfl (rLen rfl rfl) ?_
 iterate 2 refine pu rfl rfl rfl rfl rfl ?_
 refine stg rfl rfl rfl rfl rfl (fun hb => by (have hq := hb; try simp only [zbA] at hq); exact rMove rfl rfl) ?_
 refine stg rfl rfl rfl rfl rfl (fun hb => by (have hq := hb; try simp only [zbA] at hq); exact rMove rfl rfl) ?_
 refine stg rfl rfl rfl rfl rfl (fun hb => by (have hq := hb; try simp only [zbA] at hq); exact rLen rfl (evg rfl hb)) ?_
 refine stg rfl rfl rfl rfl rfl (fun hb => by (have hq := hb; try simp only [zbA] at hq); exact rLss rfl (evg rfl hb) (evg rfl hb)) ?_
 refine st rfl rfl rfl rfl (rAndB rfl rfl rfl rfl) ?_
 refine tr_cond_bool rfl (fun h3 => ?_) (fun h3 => ?_)
 · try simp only [zbA] at h3
   refine tr_skip ?_
   refine tr_seq ?_
   refine tr_block ?_
   refine tr_seq ?_
   haveI : InB k.toNat rs.length := ⟨by omega⟩
   have hgk := hgd.get (show k.toNat < rs.length by omega)
   have hgk1 := hgk.1
   refine tr_region fun _ _ _ => ?_
   iterate 2 refine pu rfl rfl rfl rfl rfl ?_
   refine st rfl rfl rfl rfl (rIdxI rfl rfl rfl (by omega) (by omega) (by omega)) ?_
   refine st rfl rfl rfl rfl (rLdI rfl rfl (by omega)) ?_
   refine pu rfl rfl rfl rfl rfl ?_
   refine tr_cond_bool rfl (fun h5 => ?_) (fun h5 => ?_)
   · try simp only [zbA] at h5
     refine tr_draw [0, 1, 2, 3, 4, 5, 6, 7, 8, 9, 10, 11] [] mixed (by kernel_rfl) fun _ _ _ => ?_
     refine st rfl rfl rfl rfl (rLdS rfl rfl rfl) ?_
     iterate 3 refine pu rfl rfl rfl rfl rfl ?_
     refine st rfl rfl rfl rfl (rIdxI rfl rfl rfl (by omega) (by omega) (by omega)) ?_
     refine st rfl rfl rfl rfl (rLdI rfl rfl (by omega)) ?_
     iterate 2 refine pu rfl rfl rfl rfl rfl ?_
     refine st rfl rfl rfl rfl (rIdxR rfl rfl rfl (by omega) (by omega) (by omega)) ?_
     refine st rfl rfl rfl rfl (rLdR rfl rfl (by omega)) ?_
     refine ef rfl rfl (eCall1 rfl rfl rfl (ref_AddTo _ _ _ _ _ B no cb o hno (by omega) _ _ _ _ (rs.getD k.toNat rowD).xs rfl (by omega) hoi) ⟨rfl, rfl, rfl, rfl, trivial⟩ ?_) 
     rintro _ _ ⟨B6, rfl, rfl⟩
     refine pu rfl rfl rfl rfl rfl ?_
     refine tr_region fun _ _ _ => ?_
     refine pu rfl rfl rfl rfl rfl ?_
     refine st rfl rfl rfl rfl (rAdd rfl rfl rfl (by omega) (by omega)) ?_
     refine pu rfl rfl rfl rfl rfl ?_
     refine ⟨k + 1, B6, no, no, addR (el (x.getD k.toNat 0) : El p m mod) o (rs.getD k.toNat rowD).xs, ⟨rfl, rfl, rfl, rfl, rfl, rfl, trivial⟩, by first | exact cs _ _ | exact CSub.refl _, ?_⟩
     refine ⟨⟨⟨by omega, by omega⟩, by simpa using hno, ⟨by simpa using hol, addR_in _ _ _⟩, ?_⟩, by omega⟩
     rw [show (k + 1).toNat = k.toNat + 1 by omega, Vc.cmb_up_succ _ (by rw [vsR_length]; omega), rw_addR _ _ _ (by omega), hoe, vsR_get]
   · try simp only [zbA] at h5
     refine tr_skip ?_
     refine tr_region fun _ _ _ => ?_
     refine pu rfl rfl rfl rfl rfl ?_
     refine st rfl rfl rfl rfl (rAdd rfl rfl rfl (by omega) (by omega)) ?_
     refine pu rfl rfl rfl rfl rfl ?_
     refine ⟨k + 1, B, cb, no, o, ⟨rfl, rfl, rfl, rfl, rfl, rfl, trivial⟩, by first | exact cs _ _ | exact CSub.refl _, ?_⟩
     have hz : x.getD k.toNat 0 = 0 := by omega
     refine ⟨⟨⟨by omega, by omega⟩, hno, ⟨hol, hoi⟩, ?_⟩, by omega⟩
     rw [show (k + 1).toNat = k.toNat + 1 by omega, Vc.cmb_up_succ _ (by rw [vsR_length]; omega), hoe, hz, el_zero, Vc.zero_sc, Vc.add_zero]
 · try simp only [zbA] at h3
   refine tr_exit ?_
   refine tr_seq ?_
   refine tr_region fun _ _ _ => ?_
   iterate 2 refine pu rfl rfl rfl rfl rfl ?_
   have hkn : k.toNat = rs.length := by omega
   rw [Vc.cmb_up_all _ (by rw [vsR_length]; omega)] at hoe
   subst hno
   exact tr_ret ⟨trivial, _, _, rfl, ⟨_, rfl, B, cb, o, rfl, rfl, hol, hoi, hoe⟩, cs _ _, trivial, trivial⟩
theorem Pure.anyG {P : Program} {f : FuncId} {args : Array Value} {G G' : List Chunk} {R : Value → List Chunk → Prop} (h : Pure P f args G R) (hG : ∀ w, (∀ c ∈ G', c.sat w) → ∀ c ∈ G, c.sat w) : Pure P f args G' R := ⟨h.ent, fun w hw => h.run w (hG w hw)⟩
end Go.Proofs.YtfdjdokdabmmdaaGreat

set_option maxRecDepth 100000
namespace Go.Proofs.YtfdjdokdabmmdaaGreat
open Go.RowKit
theorem ref_Of_ent : Enters Tryz.prog 18 := enters_of Tryz.func18 (by kernel_rfl) (by kernel_rfl)
theorem ref_Of (p m : Int) (A : Option Addr) (c : Nat) (mod : List Int) [hF : IsF p m mod] (w : Int) (Aa : Option Addr) (n ca : Nat) (rs : List RowM) (hn : n = rs.length) (h9 : rs.length ≤ 256) (hc : CodeOk p m mod w rs) (X : Option Addr) (nx cx : Nat) (l : List Int) (hnx : nx = l.length) (hl : l.length ≤ 17592186044415) :
   Pure Tryz.prog 18 #[.agg #[.int .i64 p, .int .i64 m, .slice A mod.length c, .int .i64 w, .slice Aa n ca], .slice X nx cx] [ro A (ints mod), ro Aa (hdrs rs), rowsR rs, ro X (ints l)] (one (fun v ch => ∃ B cb o, v = .slice B o.length cb ∧ ch = ow B 3 cb (ints o) ∧ (o.length : Int) = w ∧ AllIn (pw p m) o ∧ Vc.SpL (vsR rs : List (Vc (El p m mod))) (rw' o))) := by
 have hn1 := hc.n1
 have hn64 := hc.n64
 have hgd := hc.good
 have hq2 := hF.q2
 have hlen := hc.len
 refine pure_of (args := [.agg #[.int .i64 p, .int .i64 m, .slice A mod.length c, .int .i64 w, .slice Aa n ca], .slice X nx cx]) 41 Tryz.func18 rfl rfl rfl ref_Of_ent ⟨id, id, id, id, trivial⟩ (fun w0 => ?_)
 refine tr_seq ?_
 refine tr_region fun _ _ _ => ?_
 refine ef rfl rfl (eBox rfl rfl rfl rfl rfl (fun p0 => ?_)) 
 refine pu rfl rfl rfl rfl rfl ?_
 refine tr_seq ?_
 refine tr_region fun _ _ _ => ?_
 refine st rfl rfl rfl rfl (rFld rfl rfl) ?_
 refine st rfl rfl rfl rfl (rLdF rfl rfl rfl) ?_
 refine st rfl rfl rfl rfl (rLen rfl rfl) ?_
 refine ef rfl rfl (eMakeI rfl rfl rfl rfl rfl (by omega) (by omega) (by omega) (fun A1 => ?_)) 
 refine pu rfl rfl rfl rfl rfl ?_
 refine tr_seq ?_
 refine tr_seq ?_
 refine tr_region fun _ _ _ => ?_
 refine pu rfl rfl rfl rfl rfl ?_
 refine tr_block ?_
 refine tr_loop2 (fun (k : Int) (x : List Int) => [(5, .slice A1 n n), (6, .int .i64 k), (1, .slice X nx cx), (2, .pointer (some p0)), (4, .slice none 0 0)]) (fun (k : Int) (x : List Int) => [ow A1 3 n (ints x), blk p0 27 [.int .i64 p, .int .i64 m, .slice A mod.length c, .int .i64 w, .slice Aa n ca], ro A (ints mod), ro Aa (hdrs rs), rowsR rs, ro X (ints l)]) (fun (k : Int) (x : List Int) => (0 ≤ k ∧ k ≤ n) ∧ x.length = n) (fun (k : Int) (x : List Int) => (n - k).toNat) (0) (List.replicate n 0) ⟨rfl, rfl, rfl, rfl, rfl, trivial⟩ (by first | exact cs _ _ | exact CSub.refl _) (⟨⟨by omega, by omega⟩, by simp⟩) (fun k x hI => ?_)
 obtain ⟨⟨hk0, hk1⟩, hxl0⟩ := hI
 refine tr_seq ?_
 refine tr_seq ?_
 refine tr_region fun _ _ _ => ?_
 iterate 2 refine pu rfl rfl rfl rfl rfl ?_
 refine st rfl rfl rfl rfl (rLen rfl rfl) ?_
 iterate 2 refine pu rfl rfl rfl rfl rfl ?_
 refine stg rfl rfl rfl rfl rfl (fun hb => by (have hq := hb; try simp only [zbA] at hq); exact rMove rfl rfl) ?_
 refine stg rfl rfl rfl rfl rfl (fun hb => by (have hq := hb; try simp only [zbA] at hq); exact rMove rfl rfl) ?_
 refine stg rfl rfl rfl rfl rfl (fun hb => by (have hq := hb; try simp only [zbA] at hq); exact rLen rfl (evg rfl hb)) ?_
 refine stg rfl rfl rfl rfl rfl (fun hb => by (have hq := hb; try simp only [zbA] at hq); exact rLss rfl (evg rfl hb) (evg rfl hb)) ?_
 refine st rfl rfl rfl rfl (rAndB rfl rfl rfl rfl) ?_
 refine tr_cond_bool rfl (fun h3 => ?_) (fun h3 => ?_)
 · try simp only [zbA] at h3
   refine tr_skip ?_
   refine tr_seq ?_
   refine tr_block ?_
   refine tr_draw [0, 1, 2, 3, 4, 5, 6, 7, 8, 9] [10] mixed (by kernel_rfl) fun _ _ _ => ?_
   iterate 2 refine pu rfl rfl rfl rfl rfl ?_
   refine st rfl rfl rfl rfl (rFld rfl rfl) ?_
   refine st rfl rfl rfl rfl (rLdSF rfl rfl) ?_
   iterate 2 refine pu rfl rfl rfl rfl rfl ?_
   refine st rfl rfl rfl rfl (rIdxI rfl rfl rfl (by omega) (by omega) (by omega)) ?_
   refine st rfl rfl rfl rfl (rLdI rfl rfl (by omega)) ?_
   refine ef rfl rfl (eCallV rfl rfl rfl (ref_In _ _ _ _ _ _) ⟨rfl, rfl, trivial⟩ ?_) 
   refine st rfl rfl rfl rfl (rIdxI rfl rfl rfl (by omega) (by omega) (by omega)) ?_
   refine ef rfl rfl (eStI rfl rfl rfl rfl (by omega) ?_) 
   refine tr_region fun _ _ _ => ?_
   refine pu rfl rfl rfl rfl rfl ?_
   refine st rfl rfl rfl rfl (rAdd rfl rfl rfl (by omega) (by omega)) ?_
   refine pu rfl rfl rfl rfl rfl ?_
   refine ⟨k + 1, x.set k.toNat (inI (ordI p m) (l.getD k.toNat 0)), ⟨rfl, rfl, rfl, rfl, rfl, trivial⟩, by first | exact cs _ _ | exact CSub.refl _, ?_⟩
   exact ⟨⟨⟨by omega, by omega⟩, by simpa using hxl0⟩, by omega⟩
 · try simp only [zbA] at h3
   refine tr_exit ?_
   refine tr_seq ?_
   have hxn : n = x.length := by omega
   have hxl : x.length = rs.length := by omega
   refine tr_region fun _ _ _ => ?_
   refine st rfl rfl rfl rfl (rFld rfl rfl) ?_
   refine st rfl rfl rfl rfl (rLdSF rfl rfl) ?_
   refine pu rfl rfl rfl rfl rfl ?_
   refine st rfl rfl rfl rfl (rFld rfl rfl) ?_
   refine st rfl rfl rfl rfl (rLdF rfl rfl rfl) ?_
   refine st rfl rfl rfl rfl (rFld rfl rfl) ?_
   refine st rfl rfl rfl rfl (rLdF rfl rfl rfl) ?_
   refine ef rfl rfl (eCall1 rfl rfl rfl (ref_Combine _ _ _ _ _ A1 _ _ x hxn w (by omega) (by omega) Aa _ ca rs hn hxl (by omega) hgd) ⟨rfl, rfl, rfl, rfl, trivial⟩ ?_) 
   rintro _ _ ⟨Bo, cb, o, rfl, rfl, hol, hoi, hoe⟩
   refine pu rfl rfl rfl rfl rfl ?_
   exact tr_ret ⟨trivial, _, _, rfl, ⟨_, rfl, Bo, cb, o, rfl, rfl, by omega, hoi, hoe ▸ Vc.cmb_sp _ _⟩, cs _ _, trivial, trivial⟩
end Go.Proofs.YtfdjdokdabmmdaaGreat

namespace Go.Proofs.YtfdjdokdabmmdaaGreat
open Rg
namespace Vc
variable {K : Type} [Fd K]
def pk (S : List Nat) (u : Vc K) : Vc K := fun j => if j < S.length then u (S.getD j 0) else 0
theorem pk_at {S : List Nat} (u : Vc K) {j : Nat} (h : j < S.length) : pk S u j = u (S.getD j 0) := if_pos h
theorem pk_out {S : List Nat} (u : Vc K) {j : Nat} (h : S.length ≤ j) : pk S u j = 0 := if_neg (by omega)
theorem pk_zero (S : List Nat) : pk S (0 : Vc K) = 0 := ext fun j => by
 unfold pk; split <;> rfl
theorem pk_add (S : List Nat) (u v : Vc K) : pk S (u + v) = pk S u + pk S v := ext fun j => by
 rw [add_at]; unfold pk
 split
 · rfl
 · rw [Rg.add_zero]
theorem pk_sc (S : List Nat) (c : K) (u : Vc K) : pk S (sc c u) = sc c (pk S u) := ext fun j => by
 rw [sc_at]; unfold pk
 split
 · rfl
 · rw [mul_zero]
theorem pk_cmb (S : List Nat) (c : Nat → K) : ∀ R : List (Vc K), cmb c (R.map (pk S)) = pk S (cmb c R)
 | [] => (pk_zero S).symm
 | r :: R => by rw [List.map_cons, cmb, cmb, pk_add, pk_sc, pk_cmb S _ R]
theorem span_pk {S : List Nat} {R : List (Vc K)} {v : Vc K} : SpL (R.map (pk S)) v ↔ ∃ u, SpL R u ∧ pk S u = v := by
 constructor
 · intro h
   obtain ⟨c, rfl⟩ := sp_cmb h
   exact ⟨_, cmb_sp c R, (pk_cmb S c R).symm⟩
 · rintro ⟨u, h, rfl⟩
   obtain ⟨c, rfl⟩ := sp_cmb h
   rw [← pk_cmb]
   exact cmb_sp c _
def Ind (R : List (Vc K)) (S : List Nat) : Prop := ∀ j, j < S.length → ∃ u, SpL R u ∧ ∀ k, k < S.length → u (S.getD k 0) = if k = j then 1 else 0
theorem rise_ge {ps : List Nat} (h : ∀ i k, i < k → k < ps.length → ps.getD i 0 < ps.getD k 0) : ∀ i, i < ps.length → i ≤ ps.getD i 0
 | 0, _ => Nat.zero_le _
 | i + 1, hi => by
   have h1 := rise_ge h i (by omega)
   have h2 := h i (i + 1) (by omega) hi
   omega
theorem rise_le {ps : List Nat} (h : ∀ i k, i < k → k < ps.length → ps.getD i 0 < ps.getD k 0) {n : Nat} (hn : ∀ i, i < ps.length → ps.getD i 0 < n) : ∀ d i, i + d + 1 = ps.length → ps.getD i 0 + d < n
 | 0, i, hi => hn i (by omega)
 | d + 1, i, hi => by
   have h1 := rise_le h hn d (i + 1) (by omega)
   have h2 := h i (i + 1) (by omega) (by omega)
   omega
theorem ind_iff {R E : List (Vc K)} {S ps : List Nat} (h : Rr S.length E ps) (hs : ∀ u, SpL E u ↔ SpL (R.map (pk S)) u) : ps.length = S.length ↔ Ind R S := by
 constructor
 · intro hl j hj
   have hid : ∀ i, i < ps.length → ps.getD i 0 = i := fun i hi => by
     have h1 := rise_ge h.rise i hi
     have h2 := rise_le h.rise h.lt (ps.length - 1 - i) i (by omega)
     omega
   have hj' : j < ps.length := by omega
   have hE : SpL E (E.getD j 0) := .of (getD_eq_mem (by rw [← h.len]; exact hj') 0)
   obtain ⟨u, hu, he⟩ := span_pk.1 ((hs _).1 hE)
   refine ⟨u, hu, fun k hk => ?_⟩
   rw [← pk_at u hk, he]
   have hk' : k < ps.length := by omega
   by_cases e : k = j
   · subst e
     have := h.one k hk'
     rw [hid k hk'] at this
     rw [if_pos rfl, this]
   · have := h.off j k hj' hk' (Ne.symm e)
     rw [hid k hk'] at this
     rw [if_neg e, this]
 · intro hI
   have hmem : ∀ j, j < S.length → j ∈ ps := fun j hj => by
     obtain ⟨u, hu, he⟩ := hI j hj
     refine (h.lead_iff j).1 ⟨pk S u, (hs _).2 (span_pk.2 ⟨u, hu, rfl⟩), ?_, fun i hi => ?_⟩
     · rw [pk_at u hj, he j hj, if_pos rfl]; exact Fd.one_ne
     · rw [pk_at u (by omega), he i (by omega), if_neg (by omega)]
   have hall : ∀ j, j < S.length → j < ps.length ∧ ps.getD j 0 = j := by
     intro j
     induction j using Nat.strongRecOn with
     | _ j ih =>
       intro hj
       obtain ⟨i, hi, he⟩ := List.getElem_of_mem (hmem j hj)
       have hg : ps.getD i 0 = j := by rw [List.getD_eq_getElem?_getD, List.getElem?_eq_getElem hi]; exact he
       have h1 := rise_ge h.rise i hi
       by_cases e : i = j
       · subst e; exact ⟨hi, hg⟩
       · have := (ih i (by omega) (by omega)).2
         omega
   have h1 : S.length ≤ ps.length := Nat.le_of_not_lt fun hlt => by
     have := (hall ps.length hlt).1
     omega
   have h2 : ps.length ≤ S.length := Nat.le_of_not_lt fun hlt => by
     have a := rise_ge h.rise S.length hlt
     have b := h.lt S.length hlt
     omega
   omega
theorem getD_snocN (l : List Nat) (x j : Nat) : (l ++ [x]).getD j 0 = if j < l.length then l.getD j 0 else if j = l.length then x else 0 := by
 rw [List.getD_eq_getElem?_getD, List.getD_eq_getElem?_getD]
 split
 · rename_i h; rw [List.getElem?_append_left h]
 · rename_i h
   split
   · rename_i h2; subst h2; rw [List.getElem?_append_right (Nat.le_refl _)]; simp
   · rename_i h2; rw [List.getElem?_eq_none (by simp; omega)]; rfl
theorem getD_mapT (o ps : List Nat) (t k : Nat) (hk : k < t) (ht : t ≤ ps.length) : ((ps.take t).map fun p => o.getD p 0).getD k 0 = o.getD (ps.getD k 0) 0 := by
 rw [List.getD_eq_getElem?_getD, List.getElem?_map, List.getElem?_take, if_pos hk, List.getElem?_eq_getElem (by omega), List.getD_eq_getElem?_getD (l := ps), List.getElem?_eq_getElem (by omega)]
 rfl
theorem greedy {R E : List (Vc K)} {o ps : List Nat} (h : Rr o.length E ps) (hs : ∀ u, SpL E u ↔ SpL (R.map (pk o)) u) {t i : Nat} (hi : i < o.length) (ht : t ≤ ps.length)
   (hlow : ∀ k, k < t → ps.getD k 0 < i) (hup : ∀ k, t ≤ k → k < ps.length → i ≤ ps.getD k 0) :
   Ind R ((ps.take t).map (fun p => o.getD p 0) ++ [o.getD i 0]) ↔ t < ps.length ∧ ps.getD t 0 = i := by
 have hln : ((ps.take t).map (fun p => o.getD p 0)).length = t := by rw [List.length_map, List.length_take]; omega
 have hall : ((ps.take t).map (fun p => o.getD p 0) ++ [o.getD i 0]).length = t + 1 := by rw [List.length_append, hln]; rfl
 have hat : ∀ k, k < t → ((ps.take t).map (fun p => o.getD p 0) ++ [o.getD i 0]).getD k 0 = o.getD (ps.getD k 0) 0 := fun k hk => by
   rw [getD_snocN, hln, if_pos hk, getD_mapT _ _ _ _ hk ht]
 have hlast : ((ps.take t).map (fun p => o.getD p 0) ++ [o.getD i 0]).getD t 0 = o.getD i 0 := by
   rw [getD_snocN, hln, if_neg (by omega), if_pos rfl]
 constructor
 · intro hI
   obtain ⟨u, hu, he⟩ := hI t (by rw [hall]; omega)
   refine Classical.byContradiction fun hno => ?_
   have hv : SpL E (pk o u) := (hs _).2 (span_pk.2 ⟨u, hu, rfl⟩)
   have hz : pk o u i = 0 := by
     rw [h.eq hv, cmb_at _ 0]
     refine sm_none fun k hk => ?_
     have hk' : k < ps.length := by rw [h.len]; exact hk
     by_cases hkt : k < t
     · have h1 := he k (by rw [hall]; omega)
       rw [hat k hkt, if_neg (by omega)] at h1
       rw [pk_at u (h.lt k hk'), h1, zero_mul]
     · have h1 := hup k (by omega) hk'
       have h2 : i ≠ ps.getD k 0 := fun e => by
         by_cases hkk : k = t
         · subst hkk; exact hno ⟨hk', e.symm⟩
         · have := hup t (Nat.le_refl _) (by omega)
           have := h.rise t k (by omega) hk'
           omega
       rw [h.low k i hk' (by omega), mul_zero]
   have h1 := he t (by rw [hall]; omega)
   rw [hlast, if_pos rfl, ← pk_at u hi, hz] at h1
   exact Fd.one_ne h1.symm
 · rintro ⟨h1, h2⟩ j hj
   rw [hall] at hj
   have hj' : j < ps.length := by omega
   have hE : SpL E (E.getD j 0) := .of (getD_eq_mem (by rw [← h.len]; exact hj') 0)
   obtain ⟨u, hu, he⟩ := span_pk.1 ((hs _).1 hE)
   refine ⟨u, hu, fun k hk => ?_⟩
   rw [hall] at hk
   have hk' : k < ps.length := by omega
   have hg : ((ps.take t).map (fun p => o.getD p 0) ++ [o.getD i 0]).getD k 0 = o.getD (ps.getD k 0) 0 := by
     rcases Nat.lt_or_ge k t with hkt | hkt
     · exact hat k hkt
     · have : k = t := by omega
       subst this; rw [hlast, h2]
   rw [hg, ← pk_at u (h.lt k hk'), he]
   by_cases e : k = j
   · subst e; rw [if_pos rfl, h.one k hk']
   · rw [if_neg e, h.off j k hj' hk' (Ne.symm e)]
theorem ind_piv {R E : List (Vc K)} {o ps : List Nat} (h : Rr o.length E ps) (hs : ∀ u, SpL E u ↔ SpL (R.map (pk o)) u) : Ind R (ps.map fun p => o.getD p 0) := fun j hj => by
 rw [List.length_map] at hj
 have hE : SpL E (E.getD j 0) := .of (getD_eq_mem (by rw [← h.len]; exact hj) 0)
 obtain ⟨u, hu, he⟩ := span_pk.1 ((hs _).1 hE)
 refine ⟨u, hu, fun k hk => ?_⟩
 rw [List.length_map] at hk
 have hg : (ps.map fun p => o.getD p 0).getD k 0 = o.getD (ps.getD k 0) 0 := by
   have := getD_mapT o ps ps.length k hk (Nat.le_refl _)
   rwa [List.take_length] at this
 rw [hg, ← pk_at u (h.lt k hk), he]
 by_cases e : k = j
 · subst e; rw [if_pos rfl, h.one k hk]
 · rw [if_neg e, h.off j k hj hk (Ne.symm e)]
theorem pk_dim {n : Nat} {R E : List (Vc K)} {qs o ps : List Nat} (hR : Rr n R qs) (h : Rr o.length E ps) (hs : ∀ u, SpL E u ↔ SpL (R.map (pk o)) u) (ho : ∀ j, j < n → ∃ i, i < o.length ∧ o.getD i 0 = j) : ps.length = R.length := by
 have hd : ¬ Dep (R.map (pk o)) := fun ⟨c, ⟨i, hi, hc⟩, he⟩ => by
   rw [pk_cmb] at he
   have h0 : cmb c R = 0 := ext fun j => by
     rcases Nat.lt_or_ge j n with hj | hj
     · obtain ⟨i, hi, rfl⟩ := ho j hj
       have := congrFun he i
       rwa [pk_at _ hi] at this
     · exact hR.supp (cmb_sp c R) hj
   exact hR.indep ⟨c, ⟨i, by simpa using hi, hc⟩, h0⟩
 rw [h.len, h.dim hd hs, List.length_map]
end Vc
end Go.Proofs.YtfdjdokdabmmdaaGreat

namespace Go.Proofs.YtfdjdokdabmmdaaGreat
def ltO (r : Int → Int) (a b : Int) : Prop := r b < r a ∨ (r a = r b ∧ a < b)
theorem ltO.trans {r : Int → Int} {a b c : Int} (h : ltO r a b) (k : ltO r b c) : ltO r a c := by
 unfold ltO at *; omega
theorem ltO.ne {r : Int → Int} {a b : Int} (h : ltO r a b) : a ≠ b := fun e => by
 subst e; unfold ltO at h; omega
theorem ltO.asym {r : Int → Int} {a b : Int} (h : ltO r a b) : ¬ ltO r b a := by
 unfold ltO at *; omega
def gd (xs : List Int) : Nat → Int := fun k => xs.getD k 0
def Srt (r : Int → Int) (g : Nat → Int) (a b : Nat) : Prop := ∀ u v, a ≤ u → u < v → v < b → ltO r (g u) (g v)
def Tie (r : Int → Int) (g : Nat → Int) (a b : Nat) : Prop := ∀ u v, a ≤ u → u < v → v < b → r (g u) = r (g v) → g u < g v
def Frm (g g' : Nat → Int) (a b : Nat) : Prop := (∀ k, k < a ∨ b ≤ k → g' k = g k) ∧ ∀ k, a ≤ k → k < b → ∃ k', a ≤ k' ∧ k' < b ∧ g' k = g k'
theorem Frm.refl (g : Nat → Int) (a b : Nat) : Frm g g a b := ⟨fun _ _ => rfl, fun k h1 h2 => ⟨k, h1, h2, rfl⟩⟩
theorem Frm.trans {g g' g'' : Nat → Int} {a b : Nat} (h : Frm g g' a b) (h' : Frm g' g'' a b) : Frm g g'' a b :=
 ⟨fun k hk => (h'.1 k hk).trans (h.1 k hk), fun k h1 h2 => by
   obtain ⟨k', h3, h4, e⟩ := h'.2 k h1 h2
   obtain ⟨k'', h5, h6, e'⟩ := h.2 k' h3 h4
   exact ⟨k'', h5, h6, e.trans e'⟩⟩
theorem Frm.mono {g g' : Nat → Int} {a b c d : Nat} (h : Frm g g' a b) (h1 : c ≤ a) (h2 : b ≤ d) : Frm g g' c d :=
 ⟨fun k hk => h.1 k (by omega), fun k h3 h4 => by
   by_cases hk : a ≤ k ∧ k < b
   · obtain ⟨k', h5, h6, e⟩ := h.2 k hk.1 hk.2
     exact ⟨k', by omega, by omega, e⟩
   · exact ⟨k, h3, h4, h.1 k (by omega)⟩⟩
theorem Srt.tie {r : Int → Int} {g : Nat → Int} {a b : Nat} (h : Srt r g a b) : Tie r g a b := fun u v h1 h2 h3 e => by
 have := h u v h1 h2 h3
 unfold ltO at this; omega
theorem Srt.frm {r : Int → Int} {g g' : Nat → Int} {a b c d : Nat} (h : Srt r g a b) (k : Frm g g' c d) (hd : b ≤ c ∨ d ≤ a) : Srt r g' a b := fun u v h1 h2 h3 => by
 rw [k.1 u (by omega), k.1 v (by omega)]; exact h u v h1 h2 h3
theorem Srt.sub {r : Int → Int} {g : Nat → Int} {a b c d : Nat} (h : Srt r g a b) (h1 : a ≤ c) (h2 : d ≤ b) : Srt r g c d := fun u v h3 h4 h5 => h u v (by omega) h4 (by omega)
theorem Tie.sub {r : Int → Int} {g : Nat → Int} {a b c d : Nat} (h : Tie r g a b) (h1 : a ≤ c) (h2 : d ≤ b) : Tie r g c d := fun u v h3 h4 h5 => h u v (by omega) h4 (by omega)
theorem Tie.frm {r : Int → Int} {g g' : Nat → Int} {a b c d : Nat} (h : Tie r g a b) (k : Frm g g' c d) (hs : Tie r g' c d) (h1 : a ≤ c) (h2 : d ≤ b) : Tie r g' a b := fun u v h3 h4 h5 e => by
 by_cases hu : c ≤ u ∧ u < d
 · by_cases hv : v < d
   · exact hs u v hu.1 h4 hv e
   · obtain ⟨k', h6, h7, e'⟩ := k.2 u hu.1 hu.2
     rw [e', k.1 v (by omega)] at e ⊢
     exact h k' v (by omega) (by omega) h5 e
 · by_cases hv : c ≤ v ∧ v < d
   · obtain ⟨k', h6, h7, e'⟩ := k.2 v hv.1 hv.2
     rw [e', k.1 u (by omega)] at e ⊢
     exact h u k' h3 (by omega) (by omega) e
   · rw [k.1 u (by omega), k.1 v (by omega)] at e ⊢
     exact h u v h3 h4 h5 e
def swp (g : Nat → Int) (i j : Nat) : Nat → Int := fun k => if k = i then g j else if k = j then g i else g k
theorem swp_frm (g : Nat → Int) {i j a b : Nat} (hi : a ≤ i) (hi' : i < b) (hj : a ≤ j) (hj' : j < b) : Frm g (swp g i j) a b :=
 ⟨fun k hk => by unfold swp; rw [if_neg (by omega), if_neg (by omega)], fun k h1 h2 => by
   unfold swp
   split
   · exact ⟨j, hj, hj', rfl⟩
   · split
     · exact ⟨i, hi, hi', rfl⟩
     · exact ⟨k, h1, h2, rfl⟩⟩
def swL (xs : List Int) (i j : Nat) : List Int := (xs.set i (xs.getD j 0)).set j (xs.getD i 0)
theorem getD_setI (l : List Int) (i j : Nat) (v : Int) : (l.set i v).getD j 0 = if i = j ∧ j < l.length then v else l.getD j 0 := by
 rw [List.getD_eq_getElem?_getD, List.getElem?_set]
 split
 · rename_i h; subst h
   split
   · rename_i h; rw [if_pos ⟨rfl, h⟩]; rfl
   · rename_i h; rw [if_neg (fun e => h e.2), List.getD_eq_getElem?_getD, List.getElem?_eq_none (by omega)]
 · rename_i h; rw [if_neg (fun e => h e.1), List.getD_eq_getElem?_getD]
theorem gd_swL {xs : List Int} {i j : Nat} (hi : i < xs.length) (hj : j < xs.length) : gd (swL xs i j) = swp (gd xs) i j := funext fun k => by
 show ((xs.set i (xs.getD j 0)).set j (xs.getD i 0)).getD k 0 = if k = i then xs.getD j 0 else if k = j then xs.getD i 0 else xs.getD k 0
 rw [getD_setI, getD_setI, List.length_set]
 by_cases e1 : k = j
 · subst e1
   rw [if_pos ⟨rfl, hj⟩]
   by_cases e2 : k = i
   · subst e2; rw [if_pos rfl]
   · rw [if_neg e2, if_pos rfl]
 · rw [if_neg (fun e => e1 e.1.symm), if_neg e1]
   by_cases e2 : k = i
   · subst e2; rw [if_pos ⟨rfl, hi⟩, if_pos rfl]
   · rw [if_neg (fun e => e2 e.1.symm), if_neg e2]
theorem set_perm0 : ∀ (xs : List Int) (j : Nat) (a : Int), j < xs.length → (xs.getD j 0 :: xs.set j a).Perm (a :: xs)
 | x :: xs, 0, a, _ => by simpa using List.Perm.swap ..
 | x :: xs, j + 1, a, h => by
   have ih := set_perm0 xs j a (by simpa using h)
   rw [List.getD_cons_succ, List.set_cons_succ]
   exact (List.Perm.swap ..).trans ((ih.cons x).trans (List.Perm.swap ..))
theorem swL_perm : ∀ {xs : List Int} {i j : Nat}, i < xs.length → j < xs.length → (swL xs i j).Perm xs
 | x :: xs, 0, 0, _, _ => by simp [swL]
 | x :: xs, 0, j + 1, _, h => by
   have := set_perm0 xs j x (by simpa using h)
   simpa [swL] using this
 | x :: xs, i + 1, 0, h, _ => by
   have := set_perm0 xs i x (by simpa using h)
   simpa [swL] using this
 | x :: xs, i + 1, j + 1, h, k => by
   have := swL_perm (xs := xs) (i := i) (j := j) (by simpa using h) (by simpa using k)
   simpa [swL] using this
structure InsJ (r : Int → Int) (g : Nat → Int) (a b i j : Nat) : Prop where
 oth : ∀ u v, a ≤ u → u < v → v ≤ i → u ≠ j → v ≠ j → ltO r (g u) (g v)
 up : ∀ v, j < v → v ≤ i → ltO r (g j) (g v)
 low : ∀ u, a ≤ u → u < j → r (g u) = r (g j) → g u < g j
 tie : ∀ u v, a ≤ u → u < v → i < v → v < b → r (g u) = r (g v) → g u < g v
theorem InsJ.start {r : Int → Int} {g : Nat → Int} {a b i : Nat} (h : Srt r g a i) (k : Tie r g a b) (hi : i < b) : InsJ r g a b i i where
 oth u v h1 h2 h3 h4 h5 := h u v h1 h2 (by omega)
 up v h1 h2 := by omega
 low u h1 h2 e := k u i h1 h2 hi e
 tie u v h1 h2 h3 h4 e := k u v h1 h2 h4 e
theorem InsJ.step {r : Int → Int} {g : Nat → Int} {a b i j : Nat} (h : InsJ r g a b i j) (ha : a < j) (hji : j ≤ i) (hib : i < b) (hc : r (g (j - 1)) < r (g j)) : InsJ r (swp g j (j - 1)) a b i (j - 1) := by
 have ej : swp g j (j - 1) j = g (j - 1) := if_pos rfl
 have ej1 : swp g j (j - 1) (j - 1) = g j := by unfold swp; rw [if_neg (by omega), if_pos rfl]
 have eo : ∀ k, k ≠ j → k ≠ j - 1 → swp g j (j - 1) k = g k := fun k h1 h2 => by unfold swp; rw [if_neg h1, if_neg h2]
 refine ⟨fun u v h1 h2 h3 h4 h5 => ?_, fun v h1 h2 => ?_, fun u h1 h2 e => ?_, fun u v h1 h2 h3 h4 e => ?_⟩
 · by_cases hu : u = j
   · subst hu
     rw [ej, eo v (by omega) (by omega)]
     exact h.oth (u - 1) v (by omega) (by omega) h3 (by omega) (by omega)
   · by_cases hv : v = j
     · subst hv
       rw [ej, eo u (by omega) (by omega)]
       exact h.oth u (v - 1) h1 (by omega) (by omega) (by omega) (by omega)
     · rw [eo u hu h4, eo v hv h5]
       exact h.oth u v h1 h2 h3 hu hv
 · rw [ej1]
   by_cases hv : v = j
   · subst hv; rw [ej]; exact .inl hc
   · rw [eo v hv (by omega)]; exact h.up v (by omega) h2
 · rw [ej1, eo u (by omega) (by omega)] at e ⊢
   exact h.low u h1 (by omega) e
 · rw [eo v (by omega) (by omega)] at e ⊢
   by_cases hu : u = j
   · subst hu; rw [ej] at e ⊢; exact h.tie (u - 1) v (by omega) (by omega) h3 h4 e
   · by_cases hu1 : u = j - 1
     · subst hu1; rw [ej1] at e ⊢; exact h.tie j v (by omega) (by omega) h3 h4 e
     · rw [eo u hu hu1] at e ⊢; exact h.tie u v h1 h2 h3 h4 e
theorem InsJ.stop {r : Int → Int} {g : Nat → Int} {a b i j : Nat} (h : InsJ r g a b i j) (ha : a ≤ j) (hji : j ≤ i) (hib : i < b) (hc : j = a ∨ r (g j) ≤ r (g (j - 1))) : Srt r g a (i + 1) ∧ Tie r g a b := by
 have hs : Srt r g a (i + 1) := fun u v h1 h2 h3 => by
   by_cases hu : u = j
   · subst hu; exact h.up v h2 (by omega)
   · by_cases hv : v = j
     · subst hv
       have hl := h.low u h1 h2
       have hc' : r (g v) ≤ r (g (v - 1)) := hc.resolve_left (by omega)
       by_cases e : u = v - 1
       · subst e
         unfold ltO
         omega
       · have := h.oth u (v - 1) h1 (by omega) (by omega) hu (by omega)
         unfold ltO at this ⊢
         omega
     · exact h.oth u v h1 h2 (by omega) hu hv
 refine ⟨hs, fun u v h1 h2 h3 e => ?_⟩
 by_cases hv : v ≤ i
 · exact hs.tie u v h1 h2 (by omega) e
 · exact h.tie u v h1 h2 (by omega) h3 e
def swr (g : Nat → Int) (a b n : Nat) : Nat → Int := fun k => if a ≤ k ∧ k < a + n then g (k - a + b) else if b ≤ k ∧ k < b + n then g (k - b + a) else g k
theorem swr_zero (g : Nat → Int) (a b : Nat) : swr g a b 0 = g := funext fun k => by
 unfold swr; rw [if_neg (by omega), if_neg (by omega)]
theorem swr_succ (g : Nat → Int) {a b n : Nat} (h : a + n + 1 ≤ b) : swp (swr g a b n) (a + n) (b + n) = swr g a b (n + 1) := funext fun k => by
 unfold swp swr
 repeat' split
 all_goals first | rfl | omega | (congr 1; omega)
def rot (g : Nat → Int) (a m b : Nat) : Nat → Int := fun k => if a ≤ k ∧ k < a + (b - m) then g (k + (m - a)) else if a + (b - m) ≤ k ∧ k < b then g (k - (b - m)) else g k
theorem rot_frm (g : Nat → Int) {a m b : Nat} (h1 : a ≤ m) (h2 : m ≤ b) : Frm g (rot g a m b) a b :=
 ⟨fun k hk => by unfold rot; rw [if_neg (by omega), if_neg (by omega)], fun k h3 h4 => by
   unfold rot
   split
   · exact ⟨_, by omega, by omega, rfl⟩
   · split
     · exact ⟨_, by omega, by omega, rfl⟩
     · omega⟩
theorem rot_gt (g : Nat → Int) {m i j : Nat} (him : i ≤ m) (h : j < i) : rot (swr g (m - i) m j) (m - i + j) m (m + j) = rot g (m - i) m (m + j) := funext fun k => by
 unfold rot swr
 repeat' split
 all_goals first | rfl | omega | (congr 1; omega)
theorem rot_lt (g : Nat → Int) {m i j : Nat} (him : i ≤ m) (h : i < j) : rot (swr g (m - i) (m + j - i) i) (m - i) m (m + (j - i)) = rot g (m - i) m (m + j) := funext fun k => by
 unfold rot swr
 repeat' split
 all_goals first | rfl | omega | (congr 1; omega)
theorem rot_eq (g : Nat → Int) {m i : Nat} (him : i ≤ m) : swr g (m - i) m i = rot g (m - i) m (m + i) := funext fun k => by
 unfold rot swr
 repeat' split
 all_goals first | rfl | omega | (congr 1; omega)
theorem rot_id (g : Nat → Int) {a m b : Nat} (h : m = a ∨ b = m) (hab : a ≤ m) : rot g a m b = g := funext fun k => by
 unfold rot
 repeat' split
 all_goals first | rfl | omega | (congr 1; omega)
theorem rot_first_succ (g : Nat → Int) {a k : Nat} (h : a ≤ k) : swp (rot g a (a + 1) (k + 1)) k (k + 1) = rot g a (a + 1) (k + 2) := funext fun j => by
 unfold swp rot
 repeat' split
 all_goals first | rfl | omega | (congr 1; omega)
theorem rot_last_succ (g : Nat → Int) {k m : Nat} (h1 : 1 ≤ k) (h : k ≤ m) : swp (rot g k m (m + 1)) k (k - 1) = rot g (k - 1) m (m + 1) := funext fun j => by
 unfold swp rot
 repeat' split
 all_goals first | rfl | omega | (congr 1; omega)
structure SrtTo (r : Int → Int) (xs ys : List Int) (a b : Nat) : Prop where
 perm : ys.Perm xs
 frm : Frm (gd xs) (gd ys) a b
 srt : Srt r (gd ys) a b
theorem SrtTo.of_rot {r : Int → Int} {xs ys : List Int} {a b i j k : Nat} (hp : ys.Perm xs) (he : gd ys = rot (gd xs) i j k) (h1 : i ≤ j) (h2 : j ≤ k) (h3 : a ≤ i) (h4 : k ≤ b) (hs : Srt r (rot (gd xs) i j k) a b) : SrtTo r xs ys a b :=
 ⟨hp, by rw [he]; exact (rot_frm _ h1 h2).mono h3 h4, by rw [he]; exact hs⟩
def Blk (r : Int → Int) (g : Nat → Int) (bs n e : Nat) : Prop := ∀ a, bs ∣ a → a < e → a < n → Srt r g a (min (a + bs) n)
theorem blk_frm {r : Int → Int} {g g' : Nat → Int} {bs n e a b : Nat} (h : Blk r g bs n e) (k : Frm g g' a b) (hd : bs ∣ a) (he : e ≤ a) : Blk r g' bs n e := fun c hc hce hcn => by
 refine (h c hc hce hcn).frm k (.inl ?_)
 have : c + bs ≤ a := by
   obtain ⟨x, rfl⟩ := hc
   obtain ⟨y, rfl⟩ := hd
   have hxy : x < y := Nat.lt_of_not_le fun hle => by
     have := Nat.mul_le_mul_left bs hle; omega
   have := Nat.mul_le_mul_left bs (show x + 1 ≤ y from hxy)
   rw [Nat.mul_succ] at this; omega
 omega
theorem blk_push {r : Int → Int} {g : Nat → Int} {bs n a : Nat} (h : Blk r g bs n a) (hd : bs ∣ a) (hs : Srt r g a (min (a + bs) n)) : Blk r g bs n (a + bs) := fun c hc hce hcn => by
 by_cases h1 : c < a
 · exact h c hc h1 hcn
 · have : c = a := by
     have h2 : bs ∣ c - a := Nat.dvd_sub hc hd
     have := Nat.eq_zero_of_dvd_of_lt h2 (by omega)
     omega
   rw [this]; exact hs
def Crs (r : Int → Int) (g : Nat → Int) (a m b : Nat) : Prop := ∀ u v, a ≤ u → u < m → m ≤ v → v < b → r (g u) = r (g v) → g u < g v
theorem Tie.crs {r : Int → Int} {g : Nat → Int} {a b : Nat} (h : Tie r g a b) (m : Nat) : Crs r g a m b := fun u v h1 h2 h3 h4 e => h u v h1 (by omega) h4 e
theorem mrg_first {r : Int → Int} {g : Nat → Int} {a b i : Nat} (hs : Srt r g (a + 1) b) (hc : Crs r g a (a + 1) b) (hi : a + 1 ≤ i) (hib : i ≤ b) (h1 : ∀ u, a + 1 ≤ u → u < i → r (g a) < r (g u)) (h2 : ∀ u, i ≤ u → u < b → r (g u) ≤ r (g a)) :
   Srt r (rot g a (a + 1) i) a b := fun u v hu huv hv => by
 have e1 : ∀ k, a ≤ k → k + 1 < i → rot g a (a + 1) i k = g (k + 1) := fun k hk hk2 => by
   unfold rot; rw [if_pos (by omega)]; congr 1; omega
 have e2 : rot g a (a + 1) i (i - 1) = g a := by
   unfold rot; rw [if_neg (by omega), if_pos (by omega)]; congr 1; omega
 have e3 : ∀ k, i ≤ k → rot g a (a + 1) i k = g k := fun k hk => by
   unfold rot; rw [if_neg (by omega), if_neg (by omega)]
 by_cases hv1 : v + 1 < i
 · rw [e1 u hu (by omega), e1 v (by omega) hv1]; exact hs _ _ (by omega) (by omega) (by omega)
 · by_cases hv2 : v = i - 1
   · subst hv2
     rw [e1 u hu (by omega), e2]; exact .inl (h1 _ (by omega) (by omega))
   · rw [e3 v (by omega)]
     by_cases hu1 : u + 1 < i
     · rw [e1 u hu hu1]; exact hs _ _ (by omega) (by omega) hv
     · by_cases hu2 : u = i - 1
       · subst hu2
         rw [e2]
         have := h2 v (by omega) hv
         have := hc a v (Nat.le_refl _) (by omega) (by omega) hv
         unfold ltO; omega
       · rw [e3 u (by omega)]; exact hs _ _ (by omega) huv hv
theorem mrg_last {r : Int → Int} {g : Nat → Int} {a m i : Nat} (hs : Srt r g a m) (hc : Crs r g a m (m + 1)) (hi : a ≤ i) (him : i ≤ m) (h1 : ∀ u, a ≤ u → u < i → r (g m) ≤ r (g u)) (h2 : ∀ u, i ≤ u → u < m → r (g u) < r (g m)) :
   Srt r (rot g i m (m + 1)) a (m + 1) := fun u v hu huv hv => by
 have e1 : ∀ k, k < i → rot g i m (m + 1) k = g k := fun k hk => by
   unfold rot; rw [if_neg (by omega), if_neg (by omega)]
 have e2 : rot g i m (m + 1) i = g m := by
   unfold rot; rw [if_pos (by omega)]; congr 1; omega
 have e3 : ∀ k, i < k → k ≤ m → rot g i m (m + 1) k = g (k - 1) := fun k hk hk2 => by
   unfold rot; rw [if_neg (by omega), if_pos (by omega)]; congr 1; omega
 by_cases hu1 : u < i
 · rw [e1 u hu1]
   by_cases hv1 : v < i
   · rw [e1 v hv1]; exact hs _ _ hu huv (by omega)
   · by_cases hv2 : v = i
     · subst hv2
       rw [e2]
       have := h1 u hu hu1
       have := hc u m hu (by omega) (Nat.le_refl _) (by omega)
       unfold ltO; omega
     · rw [e3 v (by omega) (by omega)]; exact hs _ _ hu (by omega) (by omega)
 · by_cases hu2 : u = i
   · subst hu2
     rw [e2, e3 v (by omega) (by omega)]; exact .inl (h2 _ (by omega) (by omega))
   · rw [e3 u (by omega) (by omega), e3 v (by omega) (by omega)]; exact hs _ _ (by omega) (by omega) (by omega)
structure Half (r : Int → Int) (g : Nat → Int) (a s mid e b : Nat) : Prop where
 s1 : Srt r g a s
 s2 : Srt r g s mid
 s3 : Srt r g mid e
 s4 : Srt r g e b
 c1 : Crs r g a s mid
 c2 : Crs r g mid e b
 all : ∀ u v, a ≤ u → u < mid → mid ≤ v → v < b → ltO r (g u) (g v)
theorem half_of {r : Int → Int} {g : Nat → Int} {a m b mid s : Nat} (hA : Srt r g a m) (hB : Srt r g m b) (hc : Crs r g a m b) (ham : a ≤ m) (hmb : m ≤ b) (hmid : a ≤ mid) (hmidb : mid ≤ b)
   (hs : a ≤ s) (hsm : s ≤ m) (hse : mid + m ≤ s + b) (hsn : s ≤ mid)
   (hlo : s = a ∨ mid + m - s = b ∨ r (g (mid + m - s)) ≤ r (g (s - 1))) (hup : s = m ∨ mid + m - s = m ∨ r (g s) < r (g (mid + m - s - 1))) :
   Half r (rot g s m (mid + m - s)) a s mid (mid + m - s) b := by
 have e1 : ∀ k, k < s → rot g s m (mid + m - s) k = g k := fun k hk => by
   unfold rot; rw [if_neg (by omega), if_neg (by omega)]
 have e2 : ∀ k, s ≤ k → k < mid → rot g s m (mid + m - s) k = g (k + (m - s)) := fun k hk hk2 => by
   unfold rot; rw [if_pos (by omega)]
 have e3 : ∀ k, mid ≤ k → k < mid + m - s → rot g s m (mid + m - s) k = g (k - (mid - s)) := fun k hk hk2 => by
   unfold rot; rw [if_neg (by omega), if_pos (by omega)]; congr 1; omega
 have e4 : ∀ k, mid + m - s ≤ k → rot g s m (mid + m - s) k = g k := fun k hk => by
   unfold rot; rw [if_neg (by omega), if_neg (by omega)]
 -- the four parts one by one: A< = [a, s), B< = [m, e), A> = [s, m), B> = [e, b)
 have hAB : ∀ u v, a ≤ u → u < s → mid + m - s ≤ v → v < b → ltO r (g u) (g v) := fun u v h1 h2 h3 h4 => by
   have h5 : r (g (mid + m - s)) ≤ r (g (s - 1)) := (hlo.resolve_left (by omega)).resolve_left (by omega)
   have h6 : r (g v) ≤ r (g (mid + m - s)) := by
     by_cases e : v = mid + m - s
     · rw [e]; exact Int.le_refl _
     · have := hB (mid + m - s) v (by omega) (by omega) h4
       unfold ltO at this; omega
   have h7 : r (g (s - 1)) ≤ r (g u) := by
     by_cases e : u = s - 1
     · rw [e]; exact Int.le_refl _
     · have := hA u (s - 1) h1 (by omega) (by omega)
       unfold ltO at this; omega
   have h8 := hc u v h1 (by omega) (by omega) h4
   unfold ltO; omega
 have hBA : ∀ u v, m ≤ u → u < mid + m - s → s ≤ v → v < m → ltO r (g u) (g v) := fun u v h1 h2 h3 h4 => by
   have h5 : r (g s) < r (g (mid + m - s - 1)) := (hup.resolve_left (by omega)).resolve_left (by omega)
   have h6 : r (g v) ≤ r (g s) := by
     by_cases e : v = s
     · rw [e]; exact Int.le_refl _
     · have := hA s v (by omega) (by omega) h4
       unfold ltO at this; omega
   have h7 : r (g (mid + m - s - 1)) ≤ r (g u) := by
     by_cases e : u = mid + m - s - 1
     · rw [e]; exact Int.le_refl _
     · have := hB u (mid + m - s - 1) h1 (by omega) (by omega)
       unfold ltO at this; omega
   exact .inl (by omega)
 refine ⟨fun u v h1 h2 h3 => ?_, fun u v h1 h2 h3 => ?_, fun u v h1 h2 h3 => ?_, fun u v h1 h2 h3 => ?_, fun u v h1 h2 h3 h4 e => ?_, fun u v h1 h2 h3 h4 e => ?_, fun u v h1 h2 h3 h4 => ?_⟩
 · rw [e1 u (by omega), e1 v h3]; exact hA u v h1 h2 (by omega)
 · rw [e2 u h1 (by omega), e2 v (by omega) h3]; exact hB _ _ (by omega) (by omega) (by omega)
 · rw [e3 u h1 (by omega), e3 v (by omega) h3]; exact hA _ _ (by omega) (by omega) (by omega)
 · rw [e4 u h1, e4 v (by omega)]; exact hB u v (by omega) h2 h3
 · rw [e1 u h2, e2 v h3 h4] at e ⊢; exact hc _ _ h1 (by omega) (by omega) (by omega) e
 · rw [e3 u h1 h2, e4 v h3] at e ⊢; exact hc _ _ (by omega) (by omega) (by omega) h4 e
 · by_cases hu : u < s
   · rw [e1 u hu]
     by_cases hv : v < mid + m - s
     · rw [e3 v h3 hv]; exact hA _ _ h1 (by omega) (by omega)
     · rw [e4 v (by omega)]; exact hAB u v h1 hu (by omega) h4
   · rw [e2 u (by omega) h2]
     by_cases hv : v < mid + m - s
     · rw [e3 v h3 hv]; exact hBA _ _ (by omega) (by omega) (by omega) (by omega)
     · rw [e4 v (by omega)]; exact hB _ _ (by omega) (by omega) h4
theorem half_done {r : Int → Int} {g g' : Nat → Int} {a mid b : Nat} (hall : ∀ u v, a ≤ u → u < mid → mid ≤ v → v < b → ltO r (g u) (g v)) {g1 : Nat → Int} (h1 : Frm g g1 a mid) (h2 : Frm g1 g' mid b) (s1 : Srt r g1 a mid) (s2 : Srt r g' mid b) :
   Srt r g' a b := fun u v hu huv hv => by
 by_cases h3 : v < mid
 · rw [h2.1 u (by omega), h2.1 v (by omega)]; exact s1 u v hu huv h3
 · by_cases h4 : mid ≤ u
   · exact s2 u v h4 huv hv
   · obtain ⟨v', h5, h6, e⟩ := h2.2 v (by omega) hv
     obtain ⟨u', h7, h8, e'⟩ := h1.2 u hu (by omega)
     rw [h2.1 u (by omega), e, e', h1.1 v' (by omega)]
     exact hall u' v' h7 h8 h5 h6
theorem Srt.two {r : Int → Int} {g : Nat → Int} {a s b : Nat} (h1 : Srt r g a s) (h2 : Srt r g s b) (h : s ≤ a ∨ b ≤ s) : Srt r g a b := fun u v h3 h4 h5 => by
 rcases h with h | h
 · exact h2 u v (by omega) h4 h5
 · exact h1 u v h3 h4 (by omega)
theorem srt_pair {r : Int → Int} : ∀ {l : List Int}, Srt r (gd l) 0 l.length → l.Pairwise (ltO r)
 | [], _ => List.Pairwise.nil
 | x :: l, h => by
   refine List.pairwise_cons.2 ⟨fun y hy => ?_, srt_pair fun u v h1 h2 h3 => ?_⟩
   · obtain ⟨i, hi, rfl⟩ := List.getElem_of_mem hy
     have := h 0 (i + 1) (by omega) (by omega) (by simpa using hi)
     simpa [gd, List.getD_eq_getElem?_getD, hi] using this
   · have := h (u + 1) (v + 1) (by omega) (by omega) (by simpa using h3)
     simpa [gd] using this
theorem ord_one {r : Int → Int} : ∀ {a b : List Int}, a.Pairwise (ltO r) → b.Pairwise (ltO r) → a.Perm b → a = b
 | [], b, _, _, h => h.nil_eq
 | x :: a, [], _, _, h => by have := h.length_eq; simp at this
 | x :: a, y :: b, ha, hb, h => by
   obtain ⟨ha1, ha2⟩ := List.pairwise_cons.1 ha
   obtain ⟨hb1, hb2⟩ := List.pairwise_cons.1 hb
   have h1 : x ∈ y :: b := h.mem_iff.1 (List.mem_cons_self ..)
   have h2 : y ∈ x :: a := h.mem_iff.2 (List.mem_cons_self ..)
   have hxy : x = y := by
     rcases List.mem_cons.1 h1 with h3 | h3
     · exact h3
     · rcases List.mem_cons.1 h2 with h4 | h4
       · exact h4.symm
       · exact absurd (ha1 y h4) (hb1 x h3).asym
   subst hxy
   rw [ord_one ha2 hb2 h.cons_inv]
theorem perm_of : ∀ {a b : List Int}, a.Nodup → (∀ x ∈ a, x ∈ b) → b.length ≤ a.length → a.Perm b
 | [], b, _, _, h => by
   have : b = [] := List.eq_nil_of_length_eq_zero (by simpa using h)
   rw [this]
 | x :: a, b, hn, hs, hl => by
   obtain ⟨h1, h2⟩ := List.nodup_cons.1 hn
   have hx := hs x (List.mem_cons_self ..)
   have hp := List.perm_cons_erase hx
   have hlen := List.length_erase_of_mem hx
   have hb : 0 < b.length := List.length_pos_of_mem hx
   refine ((perm_of h2 (fun y hy => ?_) ?_).cons x).trans hp.symm
   · have hne : y ≠ x := fun e => h1 (e ▸ hy)
     exact (List.mem_erase_of_ne hne).2 (hs y (List.mem_cons_of_mem _ hy))
   · simp at hl; omega
def ixL (n : Nat) : List Int := (List.range n).map fun (i : Nat) => (i : Int)
theorem ixL_length (n : Nat) : (ixL n).length = n := by simp [ixL]
theorem mem_ixL {n : Nat} {x : Int} : x ∈ ixL n ↔ 0 ≤ x ∧ x < n := by
 unfold ixL
 rw [List.mem_map]
 constructor
 · rintro ⟨i, hi, rfl⟩; have := List.mem_range.1 hi; omega
 · intro h; exact ⟨x.toNat, List.mem_range.2 (by omega), by omega⟩
theorem pair_nodup {r : Int → Int} {l : List Int} (h : l.Pairwise (ltO r)) : l.Nodup := h.imp fun h => h.ne
structure OrdS (r : Int → Int) (n : Nat) (l : List Int) : Prop where
 len : l.length = n
 bd : ∀ x ∈ l, 0 ≤ x ∧ x < n
 pw : l.Pairwise (ltO r)
theorem OrdS.perm {r : Int → Int} {n : Nat} {l : List Int} (h : OrdS r n l) : l.Perm (ixL n) := perm_of (pair_nodup h.pw) (fun x hx => mem_ixL.2 (h.bd x hx)) (by rw [ixL_length, h.len]; exact Nat.le_refl _)
theorem OrdS.one {r : Int → Int} {n : Nat} {a b : List Int} (h : OrdS r n a) (k : OrdS r n b) : a = b := ord_one h.pw k.pw (h.perm.trans k.perm.symm)
theorem OrdS.of_sort {r : Int → Int} {n : Nat} {l l' : List Int} (hl : l.length = n) (hid : ∀ k, k < n → l.getD k 0 = (k : Int)) (hp : l'.Perm l) (hs : Srt r (gd l') 0 n) : OrdS r n l' := by
 have hlen : l'.length = n := by rw [hp.length_eq, hl]
 refine ⟨hlen, fun x hx => ?_, srt_pair (by rw [hlen]; exact hs)⟩
 obtain ⟨i, hi, rfl⟩ := List.getElem_of_mem (hp.mem_iff.1 hx)
 have := hid i (by omega)
 rw [List.getD_eq_getElem?_getD, List.getElem?_eq_getElem hi] at this
 have h2 : l[i] = (i : Int) := this
 omega
structure OrdJ (r : Int → Int) (n : Nat) (out : List Int) (us : List Bool) : Prop where
 ulen : us.length = n
 bd : ∀ x ∈ out, 0 ≤ x ∧ x < n
 pw : out.Pairwise (ltO r)
 us : ∀ k, k < n → (us.getD k false = true ↔ (k : Int) ∈ out)
 lt : ∀ x ∈ out, ∀ k : Nat, k < n → (k : Int) ∉ out → ltO r x k
theorem OrdJ.start (r : Int → Int) (n : Nat) : OrdJ r n [] (List.replicate n false) where
 ulen := by simp
 bd x h := by simp at h
 pw := .nil
 us k h := by simp [List.getD_eq_getElem?_getD, List.getElem?_replicate, h]
 lt x h := by simp at h
theorem OrdJ.some_left {r : Int → Int} {n : Nat} {out : List Int} {us : List Bool} (h : OrdJ r n out us) (hl : out.length < n) : ∃ k : Nat, k < n ∧ (k : Int) ∉ out := Classical.byContradiction fun hno => by
 have h1 : (ixL n).Perm out := perm_of (by
   unfold ixL; rw [List.Nodup, List.pairwise_map]
   exact List.pairwise_lt_range.imp fun h e => by omega) (fun x hx => by
   have := mem_ixL.1 hx
   refine Classical.byContradiction fun hx' => hno ⟨x.toNat, by omega, ?_⟩
   rwa [Int.toNat_of_nonneg this.1]) (by rw [ixL_length]; omega)
 have := h1.length_eq
 rw [ixL_length] at this
 omega
theorem OrdJ.push {r : Int → Int} {n : Nat} {out : List Int} {us : List Bool} (h : OrdJ r n out us) {b : Nat} (hb : b < n) (hnb : (b : Int) ∉ out) (hmin : ∀ k : Nat, k < n → (k : Int) ∉ out → k ≠ b → ltO r b k) : OrdJ r n (out ++ [(b : Int)]) (us.set b true) where
 ulen := by rw [List.length_set]; exact h.ulen
 bd x hx := by
   rcases List.mem_append.1 hx with hx | hx
   · exact h.bd x hx
   · rw [List.mem_singleton.1 hx]; omega
 pw := by
   rw [List.pairwise_append]
   refine ⟨h.pw, List.pairwise_singleton .., fun x hx y hy => ?_⟩
   rw [List.mem_singleton.1 hy]
   exact h.lt x hx b hb hnb
 us k hk := by
   rw [List.getD_eq_getElem?_getD, List.getElem?_set, List.mem_append, List.mem_singleton]
   by_cases e : b = k
   · subst e
     rw [if_pos rfl, if_pos (by rw [h.ulen]; exact hk)]
     simp
   · rw [if_neg e, ← List.getD_eq_getElem?_getD, h.us k hk]
     exact ⟨.inl, fun h' => h'.resolve_right (by omega)⟩
 lt x hx k hk hnk := by
   rw [List.mem_append, List.mem_singleton] at hnk
   rcases List.mem_append.1 hx with hx | hx
   · exact h.lt x hx k hk (fun h' => hnk (.inl h'))
   · rw [List.mem_singleton.1 hx]
     exact hmin k hk (fun h' => hnk (.inl h')) (fun e => hnk (.inr (by omega)))
theorem OrdJ.done {r : Int → Int} {n : Nat} {out : List Int} {us : List Bool} (h : OrdJ r n out us) (hl : out.length = n) : OrdS r n out := ⟨hl, h.bd, h.pw⟩
def BstJ (r : Int → Int) (us : List Bool) (i : Nat) (best : Int) : Prop :=
 (best = -1 ∧ ∀ k, k < i → us.getD k false = true) ∨ ∃ b : Nat, best = b ∧ b < i ∧ us.getD b false = false ∧ ∀ k, k < i → us.getD k false = false → k ≠ b → ltO r b k
theorem BstJ.start (r : Int → Int) (us : List Bool) : BstJ r us 0 (-1) := .inl ⟨rfl, fun k h => by omega⟩
theorem BstJ.used {r : Int → Int} {us : List Bool} {i : Nat} {best : Int} (h : BstJ r us i best) (hu : us.getD i false = true) : BstJ r us (i + 1) best := by
 rcases h with ⟨h1, h2⟩ | ⟨b, h1, h2, h3, h4⟩
 · refine .inl ⟨h1, fun k hk => ?_⟩
   by_cases e : k = i
   · rw [e]; exact hu
   · exact h2 k (by omega)
 · refine .inr ⟨b, h1, by omega, h3, fun k hk hf hne => ?_⟩
   by_cases e : k = i
   · rw [e, hu] at hf; cases hf
   · exact h4 k (by omega) hf hne
theorem BstJ.take {r : Int → Int} {us : List Bool} {i : Nat} {best : Int} (h : BstJ r us i best) (hu : us.getD i false = false) (hb : best < 0 ∨ r best < r i) : BstJ r us (i + 1) i := by
 refine .inr ⟨i, rfl, by omega, hu, fun k hk hf hne => ?_⟩
 rcases h with ⟨h1, h2⟩ | ⟨b, h1, h2, h3, h4⟩
 · rw [h2 k (by omega)] at hf; cases hf
 · subst h1
   have hb' : r b < r i := hb.resolve_left (by omega)
   by_cases e : k = b
   · rw [e]; exact .inl hb'
   · have := h4 k (by omega) hf e
     unfold ltO at this ⊢; omega
theorem BstJ.pass {r : Int → Int} {us : List Bool} {i : Nat} {best : Int} (h : BstJ r us i best) (hb : ¬ (best < 0 ∨ r best < r i)) : BstJ r us (i + 1) best := by
 rcases h with ⟨h1, h2⟩ | ⟨b, h1, h2, h3, h4⟩
 · exact absurd (.inl (by omega)) hb
 · refine .inr ⟨b, h1, by omega, h3, fun k hk hf hne => ?_⟩
   by_cases e : k = i
   · subst e; subst h1; unfold ltO; omega
   · exact h4 k (by omega) hf hne
end Go.Proofs.YtfdjdokdabmmdaaGreat

namespace Go.Proofs.YtfdjdokdabmmdaaGreat
def amin (r : List Int) : Nat → Nat
 | 0 => 0
 | k + 1 => if r.getD k 0 < r.getD (amin r k) 0 then k else amin r k
def sec (r : List Int) (b : Nat) : Nat → Int
 | 0 => -1
 | k + 1 => if k ≠ b ∧ (sec r b k < 0 ∨ r.getD k 0 < sec r b k) then r.getD k 0 else sec r b k
def hardI (r : List Int) : Nat := amin r r.length
def relI (r : List Int) : Int := sec r (hardI r) r.length - r.getD (hardI r) 0
theorem amin_lt {r : List Int} (h : 0 < r.length) : ∀ k, k ≤ r.length → amin r k < r.length
 | 0, _ => h
 | k + 1, hk => by
   have := amin_lt h k (by omega)
   rw [amin]; split <;> omega
theorem amin_min (r : List Int) : ∀ k j, j < k → r.getD (amin r k) 0 ≤ r.getD j 0
 | k + 1, j, hj => by
   rw [amin]
   have ih := amin_min r k
   split
   · rename_i h
     rcases Nat.lt_or_ge j k with h1 | h1
     · have := ih j h1; omega
     · have : j = k := by omega
       subst this; exact Int.le_refl _
   · rename_i h
     rcases Nat.lt_or_ge j k with h1 | h1
     · exact ih j h1
     · have : j = k := by omega
       subst this; omega
theorem hardI_lt {r : List Int} (h : 0 < r.length) : hardI r < r.length := amin_lt h _ (Nat.le_refl _)
theorem hardI_min {r : List Int} {j : Nat} (h : j < r.length) : r.getD (hardI r) 0 ≤ r.getD j 0 := amin_min r _ j h
theorem sec_bd {r : List Int} {b : Nat} {M : Int} (hr : ∀ x ∈ r, 0 ≤ x ∧ x ≤ M) (hM : 0 ≤ M) : ∀ k, k ≤ r.length → -1 ≤ sec r b k ∧ sec r b k ≤ M
 | 0, _ => by rw [sec]; omega
 | k + 1, hk => by
   have ih := sec_bd (b := b) hr hM k (by omega)
   have := hr (r.getD k 0) (by
     rw [List.getD_eq_getElem?_getD, List.getElem?_eq_getElem (by omega)]
     exact List.getElem_mem _)
   rw [sec]; split <;> omega
theorem sec_nn {r : List Int} {b : Nat} (hr : ∀ x ∈ r, 0 ≤ x) : ∀ k, k ≤ r.length → (∃ j, j < k ∧ j ≠ b) → 0 ≤ sec r b k
 | 0, _, h => by obtain ⟨j, hj, _⟩ := h; omega
 | k + 1, hk, h => by
   have h0 := hr (r.getD k 0) (by
     rw [List.getD_eq_getElem?_getD, List.getElem?_eq_getElem (by omega)]
     exact List.getElem_mem _)
   rw [sec]
   split
   · exact h0
   · rename_i hn
     by_cases hkb : k = b
     · obtain ⟨j, hj, hjb⟩ := h
       exact sec_nn hr k (by omega) ⟨j, by omega, hjb⟩
     · have : ¬ (sec r b k < 0 ∨ r.getD k 0 < sec r b k) := fun h2 => hn ⟨hkb, h2⟩
       omega
def ordR (q : Int) : List (List Int) → Int
 | [] => 0
 | r :: t => if (r.length : Int) ≠ q then 3 else if ∃ x ∈ r, x < 0 ∨ x > 2147483648 then 6 else ordR q t
theorem ordR_zero {q : Int} : ∀ {tb : List (List Int)}, ordR q tb = 0 → ∀ r ∈ tb, (r.length : Int) = q ∧ ∀ x ∈ r, 0 ≤ x ∧ x ≤ 2147483648
 | r :: t, h, s, hs => by
   rw [ordR] at h
   split at h
   · cases h
   · split at h
     · cases h
     · rename_i h1 h2
       rcases List.mem_cons.1 hs with rfl | hs
       · exact ⟨by omega, fun x hx => by
           have : ¬ (x < 0 ∨ x > 2147483648) := fun h3 => h2 ⟨x, hx, h3⟩
           omega⟩
       · exact ordR_zero h s hs
end Go.Proofs.YtfdjdokdabmmdaaGreat

namespace Go.Proofs.YtfdjdokdabmmdaaGreat
def bin : Nat → Nat → Nat
 | _, 0 => 1
 | 0, _ + 1 => 0
 | n + 1, k + 1 => bin n k + bin n (k + 1)
theorem bin_zero (n : Nat) : bin n 0 = 1 := by cases n <;> rfl
theorem bin_gt : ∀ n k, n < k → bin n k = 0
 | 0, k + 1, _ => rfl
 | n + 1, k + 1, h => by rw [bin, bin_gt n k (by omega), bin_gt n (k + 1) (by omega)]
theorem bin_self : ∀ n, bin n n = 1
 | 0 => rfl
 | n + 1 => by rw [bin, bin_self n, bin_gt n (n + 1) (by omega)]
theorem bin_abs : ∀ n k, (k + 1) * bin (n + 1) (k + 1) = (n + 1) * bin n k
 | 0, 0 => rfl
 | 0, k + 1 => by rw [bin_gt (0 + 1) (k + 1 + 1) (by omega), bin_gt 0 (k + 1) (by omega), Nat.mul_zero, Nat.mul_zero]
 | n + 1, 0 => by
   have ih := bin_abs n 0
   have e : bin (n + 1 + 1) (0 + 1) = bin (n + 1) 0 + bin (n + 1) (0 + 1) := rfl
   rw [e, bin_zero]
   rw [bin_zero] at ih
   omega
 | n + 1, k + 1 => by
   have h1 := bin_abs n k
   have h2 := bin_abs n (k + 1)
   rw [bin, Nat.mul_add, h2]
   have e : bin (n + 1) (k + 1) = bin n k + bin n (k + 1) := rfl
   have h3 : (k + 1 + 1) * bin (n + 1) (k + 1) = (n + 1) * bin n k + bin (n + 1) (k + 1) := by rw [Nat.add_mul (k + 1) 1, h1, Nat.one_mul]
   rw [h3, e, Nat.add_mul (n + 1) 1, Nat.one_mul, Nat.mul_add]
   omega
theorem bin_sym : ∀ s a b, a + b = s → bin s a = bin s b
 | 0, a, b, h => by
   have e1 : a = 0 := by omega
   have e2 : b = 0 := by omega
   rw [e1, e2]
 | s + 1, 0, b, h => by
   have e : b = s + 1 := by omega
   rw [e, bin_self, bin_zero]
 | s + 1, a + 1, 0, h => by
   have e : a + 1 = s + 1 := by omega
   rw [e, bin_self, bin_zero]
 | s + 1, a + 1, b + 1, h => by
   rw [bin, bin, bin_sym s a (b + 1) (by omega), bin_sym s (a + 1) b (by omega), Nat.add_comm]
def sbin (x n : Nat) : Nat → Nat
 | 0 => 0
 | j + 1 => sbin x n j + bin n j * x ^ j
theorem sbin_step (x n : Nat) : ∀ j, sbin x (n + 1) (j + 1) = sbin x n (j + 1) + x * sbin x n j
 | 0 => by simp [sbin, bin_zero]
 | j + 1 => by
   have ih := sbin_step x n j
   have e1 : sbin x (n + 1) (j + 1 + 1) = sbin x (n + 1) (j + 1) + bin (n + 1) (j + 1) * x ^ (j + 1) := rfl
   have e2 : sbin x n (j + 1 + 1) = sbin x n (j + 1) + bin n (j + 1) * x ^ (j + 1) := rfl
   have e3 : sbin x n (j + 1) = sbin x n j + bin n j * x ^ j := rfl
   have e4 : x * sbin x n (j + 1) = x * sbin x n j + bin n j * x ^ (j + 1) := by
     rw [e3, Nat.mul_add, Nat.pow_succ, Nat.mul_left_comm, Nat.mul_comm x (x ^ j)]
   have e5 : bin (n + 1) (j + 1) * x ^ (j + 1) = bin n j * x ^ (j + 1) + bin n (j + 1) * x ^ (j + 1) := by rw [bin, Nat.add_mul]
   omega
theorem sbin_le (x : Nat) : ∀ n j, sbin x n j ≤ (x + 1) ^ n
 | 0, j => by
   have : ∀ j, sbin x 0 (j + 1) = 1 := fun j => by
     induction j with
     | zero => simp [sbin, bin_zero]
     | succ j ih => rw [sbin, ih, bin_gt 0 (j + 1) (by omega), Nat.zero_mul]
   match j with
   | 0 => exact Nat.zero_le _
   | j + 1 => rw [this, Nat.pow_zero]; exact Nat.le_refl _
 | n + 1, 0 => Nat.zero_le _
 | n + 1, j + 1 => by
   have h1 := sbin_le x n (j + 1)
   have h2 := Nat.mul_le_mul_left x (sbin_le x n j)
   rw [sbin_step, Nat.pow_succ, Nat.mul_add, Nat.mul_one, Nat.mul_comm ((x + 1) ^ n) x]
   omega
theorem bin_le (n k : Nat) : bin n k ≤ 2 ^ n := by
 have h : sbin 1 n (k + 1) ≤ 2 ^ n := sbin_le 1 n (k + 1)
 have e : sbin 1 n (k + 1) = sbin 1 n k + bin n k * 1 ^ k := rfl
 rw [Nat.one_pow, Nat.mul_one] at e
 omega
end Go.Proofs.YtfdjdokdabmmdaaGreat

namespace Go.Proofs.YtfdjdokdabmmdaaGreat
open Go.RowKit
def lexLt (a b : List Int) : Prop := ∃ k, (∀ j, j < k → a.getD j 0 = b.getD j 0) ∧ a.getD k 0 < b.getD k 0
theorem lexLt.asym {a b : List Int} (h : lexLt a b) : ¬ lexLt b a := by
 rintro ⟨k', h1', h2'⟩
 obtain ⟨k, h1, h2⟩ := h
 rcases Nat.lt_trichotomy k k' with e | e | e
 · have := h1' k e; omega
 · subst e; omega
 · have := h1 k' e; omega
theorem lexLt.ne {a b : List Int} (h : lexLt a b) : a ≠ b := fun e => by
 subst e; exact h.asym h
theorem lex_total {a b : List Int} (hl : a.length = b.length) (hne : a ≠ b) : lexLt a b ∨ lexLt b a := by
 have : ∃ k, a.getD k 0 ≠ b.getD k 0 := Classical.byContradiction fun hno => hne (ext_getD hl fun j => Classical.byContradiction fun h => hno ⟨j, h⟩)
 obtain ⟨k, hk, hmin⟩ := nat_least this
 have hj : ∀ j, j < k → a.getD j 0 = b.getD j 0 := fun j hj => Classical.byContradiction fun h => hmin j hj h
 rcases Int.lt_or_gt_of_ne hk with h | h
 · exact .inl ⟨k, hj, h⟩
 · exact .inr ⟨k, fun j hj' => (hj j hj').symm, h⟩
def bet (cost : List Int → Int) (x y : List Int) : Prop := cost x < cost y ∨ (cost x = cost y ∧ lexLt x y)
def Bst (cost : List Int → Int) (S : List Int → Prop) (b : List Int) : Prop := S b ∧ ∀ y, S y → ¬ bet cost y b
theorem Bst.uniq {cost : List Int → Int} {S : List Int → Prop} {n : Nat} (hn : ∀ x, S x → x.length = n) {a b : List Int} (ha : Bst cost S a) (hb : Bst cost S b) : a = b := Classical.byContradiction fun hne => by
 have h1 := ha.2 b hb.1
 have h2 := hb.2 a ha.1
 unfold bet at h1 h2
 have e : cost a = cost b := by omega
 rcases lex_total (by rw [hn a ha.1, hn b hb.1]) hne with h | h
 · exact h2 (.inr ⟨e, h⟩)
 · exact h1 (.inr ⟨e.symm, h⟩)
theorem Bst.iff {cost : List Int → Int} {S T : List Int → Prop} {b : List Int} (h : Bst cost S b) (hi : ∀ x, S x ↔ T x) : Bst cost T b := ⟨(hi b).1 h.1, fun y hy => h.2 y ((hi y).2 hy)⟩
theorem Bst.le {cost : List Int → Int} {S : List Int → Prop} {b : List Int} (h : Bst cost S b) {y : List Int} (hy : S y) : cost b ≤ cost y := by
 have := h.2 y hy
 unfold bet at this
 omega
def StJ (cost : List Int → Int) (S : List Int → Prop) : Option (List Int) → Prop
 | none => ∀ y, ¬ S y
 | some b => Bst cost S b
theorem bet.trans {cost : List Int → Int} {x y z : List Int} (h : bet cost x y) (k : bet cost y z) : bet cost x z := by
 unfold bet at *
 rcases h with h | ⟨h, hl⟩
 · rcases k with k | ⟨k, _⟩ <;> exact .inl (by omega)
 · rcases k with k | ⟨k, kl⟩
   · exact .inl (by omega)
   · refine .inr ⟨by omega, ?_⟩
     obtain ⟨a, a1, a2⟩ := hl
     obtain ⟨b, b1, b2⟩ := kl
     rcases Nat.lt_trichotomy a b with e | e | e
     · exact ⟨a, fun j hj => (a1 j hj).trans (b1 j (by omega)), by rw [← b1 a e]; exact a2⟩
     · subst e; exact ⟨a, fun j hj => (a1 j hj).trans (b1 j hj), by omega⟩
     · exact ⟨b, fun j hj => (a1 j (by omega)).trans (b1 j hj), by rw [a1 b e]; exact b2⟩
theorem StJ.take {cost : List Int → Int} {S : List Int → Prop} {st : Option (List Int)} (h : StJ cost S st) {x : List Int} (hx : ∀ b, st = some b → bet cost x b) : StJ cost (fun y => S y ∨ y = x) (some x) := by
 refine ⟨.inr rfl, fun y hy hb => ?_⟩
 rcases hy with hy | rfl
 · match st, h, hx with
   | none, h, _ => exact h y hy
   | some b, h, hx => exact h.2 y hy (hb.trans (hx b rfl))
 · unfold bet at hb
   rcases hb with hb | ⟨_, hb⟩
   · omega
   · exact hb.ne rfl
theorem StJ.pass {cost : List Int → Int} {S : List Int → Prop} {b x : List Int} (h : StJ cost S (some b)) (hx : ¬ bet cost x b) : StJ cost (fun y => S y ∨ y = x) (some b) :=
 ⟨.inl h.1, fun y hy => by
   rcases hy with hy | rfl
   · exact h.2 y hy
   · exact hx⟩
theorem StJ.iff {cost : List Int → Int} {S T : List Int → Prop} {st : Option (List Int)} (h : StJ cost S st) (hi : ∀ x, S x ↔ T x) : StJ cost T st := by
 match st, h with
 | none, h => exact fun y hy => h y ((hi y).2 hy)
 | some b, h => exact Bst.iff h hi
section
variable {K : Type} [Fd K]
open Vc
inductive Rch (R : List (Vc K)) : Nat → Nat → Vc K → Vc K → Prop
 | stop (i more : Nat) (w : Vc K) : Rch R i more w w
 | skip {i more : Nat} {w x : Vc K} : i < R.length → Rch R (i + 1) more w x → Rch R i more w x
 | go {i more : Nat} {w x : Vc K} (a : K) : i < R.length → a ≠ 0 → Rch R (i + 1) more (w + sc a (R.getD i 0)) x → Rch R i (more + 1) w x
theorem Rch.late {R : List (Vc K)} {more : Nat} {w x : Vc K} : ∀ {i j : Nat}, i ≤ j → j ≤ R.length → Rch R j more w x → Rch R i more w x := by
 intro i j hij hj h
 obtain ⟨d, rfl⟩ := Nat.le.dest hij
 clear hij
 induction d with
 | zero => exact h
 | succ d ih => exact ih (by omega) (.skip (by omega) h)
theorem rch_iff {R : List (Vc K)} {i more : Nat} {w x : Vc K} : Rch R i more w x ↔ x = w ∨ ∃ t a, 1 ≤ more ∧ i ≤ t ∧ t < R.length ∧ a ≠ 0 ∧ Rch R (t + 1) (more - 1) (w + sc a (R.getD t 0)) x := by
 constructor
 · intro h
   induction h with
   | stop => exact .inl rfl
   | skip hi _ ih =>
     rcases ih with e | ⟨t, a, h1, h2, h3, h4, h5⟩
     · exact .inl e
     · exact .inr ⟨t, a, h1, by omega, h3, h4, h5⟩
   | @go i more w x a hi ha h _ => exact .inr ⟨i, a, by omega, Nat.le_refl _, hi, ha, h⟩
 · rintro (rfl | ⟨t, a, h1, h2, h3, h4, h5⟩)
   · exact .stop ..
   · obtain ⟨m, rfl⟩ : ∃ m, more = m + 1 := ⟨more - 1, by omega⟩
     exact .late h2 (by omega) (.go a h3 h4 h5)
def lcF (R : List (Vc K)) (c : Nat → K) : Nat → Nat → Vc K
 | _, 0 => 0
 | i, d + 1 => sc (c i) (R.getD i 0) + lcF R c (i + 1) d
open Classical in
noncomputable def cntG (c : Nat → K) : Nat → Nat → Nat
 | _, 0 => 0
 | i, d + 1 => (if c i = 0 then 0 else 1) + cntG c (i + 1) d
theorem rch_of {R : List (Vc K)} (c : Nat → K) : ∀ (d i more : Nat) (w : Vc K), i + d = R.length → cntG c i d ≤ more → Rch R i more w (w + lcF R c i d)
 | 0, i, more, w, _, _ => by rw [lcF, Vc.add_zero]; exact .stop ..
 | d + 1, i, more, w, hd, hc => by
   rw [cntG] at hc
   rw [lcF]
   by_cases h : c i = 0
   · rw [if_pos h] at hc
     rw [h, Vc.zero_sc, Vc.zero_add]
     exact .skip (by omega) (rch_of c d (i + 1) more w (by omega) (by omega))
   · rw [if_neg h] at hc
     obtain ⟨m, rfl⟩ : ∃ m, more = m + 1 := ⟨more - 1, by omega⟩
     rw [← Vc.add_assoc]
     exact .go (c i) (by omega) h (rch_of c d (i + 1) m _ (by omega) (by omega))
theorem lcF_congr {R : List (Vc K)} {c c' : Nat → K} : ∀ (d i : Nat), (∀ t, i ≤ t → c t = c' t) → lcF R c i d = lcF R c' i d ∧ cntG c i d = cntG c' i d
 | 0, _, _ => ⟨rfl, rfl⟩
 | d + 1, i, h => by
   have ih := lcF_congr (R := R) d (i + 1) fun t ht => h t (by omega)
   rw [lcF, lcF, cntG, cntG, h i (Nat.le_refl _), ih.1, ih.2]; exact ⟨rfl, rfl⟩
theorem of_rch {R : List (Vc K)} {i more : Nat} {w x : Vc K} (h : Rch R i more w x) (hi : i ≤ R.length) : ∃ c, x = w + lcF R c i (R.length - i) ∧ cntG c i (R.length - i) ≤ more := by
 induction h with
 | stop i more w =>
   have : ∀ d i, lcF R (fun _ => (0 : K)) i d = 0 ∧ cntG (fun _ => (0 : K)) i d = 0 := fun d => by
     induction d with
     | zero => exact fun i => ⟨rfl, rfl⟩
     | succ d ih =>
       intro i
       rw [lcF, cntG, (ih (i + 1)).1, (ih (i + 1)).2, Vc.zero_sc, Vc.zero_add, if_pos rfl]; exact ⟨rfl, rfl⟩
   exact ⟨fun _ => 0, by rw [(this _ i).1, Vc.add_zero], by rw [(this _ i).2]; omega⟩
 | @skip i more w x hi' _ ih =>
   obtain ⟨c, h1, h2⟩ := ih (by omega)
   have hc := lcF_congr (R := R) (c := fun t => if t = i then 0 else c t) (c' := c) (R.length - (i + 1)) (i + 1) fun t ht => if_neg (by omega)
   refine ⟨fun t => if t = i then 0 else c t, ?_, ?_⟩
   · rw [show R.length - i = R.length - (i + 1) + 1 by omega, lcF, if_pos rfl, Vc.zero_sc, Vc.zero_add, hc.1]; exact h1
   · rw [show R.length - i = R.length - (i + 1) + 1 by omega, cntG, if_pos rfl, if_pos rfl, hc.2]; omega
 | @go i more w x a hi' ha _ ih =>
   obtain ⟨c, h1, h2⟩ := ih (by omega)
   have hc := lcF_congr (R := R) (c := fun t => if t = i then a else c t) (c' := c) (R.length - (i + 1)) (i + 1) fun t ht => if_neg (by omega)
   refine ⟨fun t => if t = i then a else c t, ?_, ?_⟩
   · rw [show R.length - i = R.length - (i + 1) + 1 by omega, lcF, if_pos rfl, hc.1, ← Vc.add_assoc]; exact h1
   · rw [show R.length - i = R.length - (i + 1) + 1 by omega, cntG, if_pos rfl, if_neg ha, hc.2]; omega
theorem lcF_at (R : List (Vc K)) (c : Nat → K) (j : Nat) : ∀ d i, lcF R c i d j = Rg.sm d (fun t => c (i + t) * R.getD (i + t) 0 j)
 | 0, _ => rfl
 | d + 1, i => by
   rw [lcF, Vc.add_at, lcF_at R c j d (i + 1), Rg.sm_left]
   congr 1
   exact Rg.sm_congr fun t _ => by rw [show i + 1 + t = i + (t + 1) by omega]
theorem lcF_cmb (R : List (Vc K)) (c : Nat → K) : lcF R c 0 R.length = cmb c R := Vc.ext fun j => by
 rw [lcF_at, cmb_at _ 0]
 exact Rg.sm_congr fun t _ => by rw [Nat.zero_add]
end
theorem lexLt.cons {x : Int} {a b : List Int} (h : lexLt a b) : lexLt (x :: a) (x :: b) := by
 obtain ⟨k, h1, h2⟩ := h
 refine ⟨k + 1, fun j hj => ?_, by simpa using h2⟩
 match j with
 | 0 => rfl
 | j + 1 => simpa using h1 j (by omega)
section
variable {p m : Int} {mod : List Int} [hF : IsF p m mod]
open Vc
end
end Go.Proofs.YtfdjdokdabmmdaaGreat

namespace Go.Proofs.YtfdjdokdabmmdaaGreat
open Go.ChangeShapes Go.WideShapes Go.ChangeAt Go.RowKit
theorem get_ISSw {H : Type} {enc : TypeId × Value → H} {P : Program} {w : World} {b : Nat} {t e f : TypeId} {v : Value} {d : DataW H} {p : List MemPlace} (ht : P.underlying t = some (.slice e)) (he : P.underlying e = some (.slice f)) (hf : P.underlying f = some (.int .i64)) (hc : P.cellsOf e = 1) (hcf : P.cellsOf f = 1) (hb : P.bytesOf e = 24) (hbf : P.bytesOf f = 8) (hw : Light P t d) (hv : Value.okWide P w .any b t v) (h : DataW.Trod enc P w 0 (fun _ => true) true t v d p) :
   ∃ (A : Option Addr) (c : Nat) (rs : List RowM), v = .slice A rs.length c ∧ (ro A (hdrs rs)).sat w ∧ (rowsR rs).sat w ∧ rs.length ≤ 17592186044415 ∧ (∀ r ∈ rs, r.xs.length ≤ 17592186044415) ∧ ∀ r ∈ rs, r.xs.length ≤ r.cap := by
 obtain ⟨a0, l0, c0, rfl⟩ := okWide_slice ht hv
 obtain ⟨fuel, hf'⟩ := h
 obtain ⟨A, c, rs, h1, h2⟩ := open_ISSw ht he hf hc hcf hb hbf hw hf'
 simp [Value.cells] at h1
 exact ⟨A, c, rs, by rw [h1.1, h1.2.1, h1.2.2], h2⟩
end Go.Proofs.YtfdjdokdabmmdaaGreat

set_option maxRecDepth 100000
namespace Go.Proofs.YtfdjdokdabmmdaaGreat
open Go.RowKit
def RowOk (q : Int) (r : List Int) : Prop := (r.length : Int) = q ∧ ∀ x ∈ r, 0 ≤ x ∧ x ≤ 2147483648
theorem ordR_ok {q : Int} : ∀ {tb : List (List Int)}, (∀ r ∈ tb, RowOk q r) → ordR q tb = 0
 | [], _ => rfl
 | r :: tb, h => by
   have h1 := h r (List.mem_cons_self ..)
   rw [ordR, if_neg (fun k => k h1.1), if_neg (fun ⟨x, hx, hb⟩ => by have := h1.2 x hx; omega)]
   exact ordR_ok fun s hs => h s (List.mem_cons_of_mem _ hs)
theorem ordR_bad {q : Int} : ∀ {tb : List (List Int)} {k : Nat}, k < tb.length → (∀ j, j < k → RowOk q (tb.getD j [])) → ¬ RowOk q (tb.getD k []) → ordR q tb = if ((tb.getD k []).length : Int) ≠ q then 3 else 6
 | r :: tb, 0, _, _, h => by
   rw [List.getD_cons_zero] at h ⊢
   rw [ordR]
   by_cases h1 : (r.length : Int) = q
   · have hn : ¬ ((r.length : Int) ≠ q) := fun k => k h1
     rw [if_neg hn, if_neg hn, if_pos]
     refine Classical.byContradiction fun hno => h ⟨h1, fun x hx => ?_⟩
     have : ¬ (x < 0 ∨ x > 2147483648) := fun hb => hno ⟨x, hx, hb⟩
     omega
   · rw [if_pos h1, if_pos h1]
 | r :: tb, k + 1, hk, hall, h => by
   have h1 := hall 0 (by omega)
   rw [List.getD_cons_zero] at h1
   rw [List.getD_cons_succ] at h ⊢
   rw [ordR, if_neg (fun k => k h1.1), if_neg (fun ⟨x, hx, hb⟩ => by have := h1.2 x hx; omega)]
   exact ordR_bad (by simpa using hk) (fun j hj => by
     have := hall (j + 1) (by omega)
     rwa [List.getD_cons_succ] at this) h
def ordC (q w : Int) (tb : List (List Int)) : Int := if (tb.length : Int) ≠ w then 3 else ordR q tb
theorem ordC_len {q w : Int} {tb : List (List Int)} (h : (tb.length : Int) ≠ w) : ordC q w tb = 3 := if_pos h
theorem ordC_ok {q w : Int} {ts : List RowM} (h : (ts.length : Int) = w) (h1 : ∀ j : Nat, j < ts.length → RowOk q (ts.getD j rowD).xs) : ordC q w (xss ts) = 0 := by
 unfold ordC
 rw [xss_length, if_neg (fun k => k h)]
 exact ordR_ok (xss_get fun j hj => h1 j hj)
theorem ordC_bad {q w : Int} {ts : List RowM} (h : (ts.length : Int) = w) {k : Nat} (hk : k < ts.length) (hall : ∀ j : Nat, j < k → RowOk q (ts.getD j rowD).xs) (hb : ¬ RowOk q (ts.getD k rowD).xs) : ordC q w (xss ts) = if ((ts.getD k rowD).xs.length : Int) ≠ q then 3 else 6 := by
 unfold ordC
 rw [xss_length, if_neg (fun k => k h), ordR_bad (k := k) (by rw [xss_length]; exact hk) (fun j hj => by rw [xss_getD]; exact hall j hj) (by rw [xss_getD]; exact hb), xss_getD]
structure TabOk (q w : Int) (ts : List RowM) : Prop where
 len : (ts.length : Int) = w
 row : ∀ r ∈ ts, RowOk q r.xs
theorem ordC_zero {q w : Int} {ts : List RowM} (h : ordC q w (xss ts) = 0) : TabOk q w ts := by
 unfold ordC at h
 split at h
 · cases h
 · rename_i h1
   have h2 := ordR_zero h
   exact ⟨by rw [xss_length] at h1; omega, xss_all.1 fun r hr => h2 r hr⟩
theorem TabOk.zero {q w : Int} {ts : List RowM} (h : TabOk q w ts) : ordC q w (xss ts) = 0 := ordC_ok h.len fun j hj => h.row _ (getD_mem hj _)
theorem TabOk.get {q w : Int} {ts : List RowM} (h : TabOk q w ts) {j : Nat} (hj : j < ts.length) : RowOk q (ts.getD j rowD).xs := h.row _ (getD_mem hj _)
theorem RowOk.at {q : Int} {r : List Int} (h : RowOk q r) (j : Nat) : 0 ≤ r.getD j 0 ∧ r.getD j 0 ≤ 2147483648 := by
 by_cases hj : j < r.length
 · exact h.2 _ (getD_mem hj _)
 · rw [getD_out (by omega)]; omega
theorem ord_checkedG_ent : Enters Tryz.prog 30 := enters_of Tryz.func30 (by kernel_rfl) (by kernel_rfl)
theorem ord_checkedG (p m : Int) (A : Option Addr) (c : Nat) (mod : List Int) [hF : IsF p m mod] (w : Int) (Aa : Option Addr) (n ca : Nat) (rs : List RowM) (hn : n = rs.length) (h9 : rs.length ≤ 256) (hc : CodeOk p m mod w rs) (T : Option Addr) (nt ct : Nat) (ts : List RowM) (hnt : nt = ts.length) (t9 : ts.length ≤ 17592186044415) (t8 : ∀ r ∈ ts, r.xs.length ≤ 17592186044415) (ho : ordC (pw p m) w (xss ts) = 0) :
   Pure Tryz.prog 30 #[.agg #[.int .i64 p, .int .i64 m, .slice A mod.length c, .int .i64 w, .slice Aa n ca], .slice T nt ct] [ro A (ints mod), ro Aa (hdrs rs), rowsR rs, ro T (hdrs ts), rowsR ts] (one (fun v ch => ∃ g : GfM, v = .tuple #[.pointer (some g.p), .int .i64 0] ∧ ch = gfN g ∧ GOk g p m mod)) := by
 have hl9 := hF.short
 have hn1 := hc.n1
 have hn64 := hc.n64
 have hlen := hc.len
 have hgd := hc.good
 have h8 := hgd.h8 (N := 17592186044415) (by omega)
 have hck := hc.zero
 have hq2 := hF.q2
 have htl := (ordC_zero ho).len
 refine pure_of (args := [.agg #[.int .i64 p, .int .i64 m, .slice A mod.length c, .int .i64 w, .slice Aa n ca], .slice T nt ct]) 55 Tryz.func30 rfl rfl rfl ord_checkedG_ent ⟨id, id, id, id, id, trivial⟩ (fun w0 => ?_)
 refine tr_seq ?_
 refine tr_region fun _ _ _ => ?_
 refine ef rfl rfl (eBox rfl rfl rfl rfl rfl (fun p0 => ?_)) 
 iterate 2 refine pu rfl rfl rfl rfl rfl ?_
 refine tr_seq ?_
 refine tr_seq ?_
 refine tr_region fun _ _ _ => ?_
 refine st rfl rfl rfl rfl (rLdS rfl rfl rfl) ?_
 refine ef rfl rfl (eCallV rfl rfl rfl (code_Check _ _ _ _ _ (by omega) w Aa _ ca rs hn (by omega) h8) ⟨rfl, trivial⟩ ?_) 
 refine pu rfl rfl rfl rfl rfl ?_
 refine tr_seq ?_
 refine tr_region fun _ _ _ => ?_
 iterate 2 refine pu rfl rfl rfl rfl rfl ?_
 refine tr_cond_bool rfl (fun h2 => ?_) (fun h2 => ?_)
 · try simp only [zbA] at h2
   omega --done
 · try simp only [zbA] at h2
   refine tr_skip ?_
   refine tr_seq ?_
   refine tr_region fun _ _ _ => ?_
   refine st rfl rfl rfl rfl (rFld rfl rfl) ?_
   refine st rfl rfl rfl rfl (rLdSF rfl rfl) ?_
   refine ef rfl rfl (eCall1 rfl rfl rfl (fld_New_ok _ _ _ _ _ (by omega) hF.out) ⟨rfl, trivial⟩ ?_) 
   rintro _ _ ⟨g, rfl, rfl, hg⟩
   iterate 5 refine pu rfl rfl rfl rfl rfl ?_
   refine tr_seq ?_
   refine tr_seq ?_
   refine tr_region fun _ _ _ => ?_
   refine pu rfl rfl rfl rfl rfl ?_
   refine st rfl rfl rfl rfl (rLen rfl rfl) ?_
   refine st rfl rfl rfl rfl (rFld rfl rfl) ?_
   refine st rfl rfl rfl rfl (rLdF rfl rfl rfl) ?_
   refine pu rfl rfl rfl rfl rfl ?_
   refine tr_cond_bool rfl (fun h5 => ?_) (fun h5 => ?_)
   · try simp only [zbA] at h5
     omega --done
   · try simp only [zbA] at h5
     refine tr_skip ?_
     refine tr_seq ?_
     refine tr_seq ?_
     have hgq := hg.eq
     refine tr_region fun _ _ _ => ?_
     refine pu rfl rfl rfl rfl rfl ?_
     refine st rfl rfl rfl rfl (rLen rfl rfl) ?_
     refine pu rfl rfl rfl rfl rfl ?_
     refine tr_block ?_
     refine tr_loop1 (fun (k : Int) => [(31, .int .i64 k), (7, .pointer (some g.p)), (29, .slice T nt ct), (30, .int .i64 nt)]) (fun (k : Int) => [gfN g, blk p0 27 [.int .i64 p, .int .i64 m, .slice A mod.length c, .int .i64 w, .slice Aa n ca], ro A (ints mod), ro Aa (hdrs rs), rowsR rs, ro T (hdrs ts), rowsR ts]) (fun (k : Int) => (0 ≤ k ∧ k ≤ nt) ∧ ∀ j : Nat, (j : Int) < k → RowOk (pw p m) (ts.getD j rowD).xs) (fun (k : Int) => (nt - k).toNat) (0) ⟨rfl, rfl, rfl, rfl, trivial⟩ (by first | exact cs _ _ | exact CSub.refl _) (⟨⟨by omega, by omega⟩, fun j hj => by omega⟩) (fun k hI => ?_)
     obtain ⟨⟨hk0, hk1⟩, hall⟩ := hI
     refine tr_seq ?_
     refine tr_region fun _ _ _ => ?_
     refine pu rfl rfl rfl rfl rfl ?_
     refine tr_seq ?_
     refine tr_cond_bool rfl (fun h8 => ?_) (fun h8 => ?_)
     · try simp only [zbA] at h8
       refine tr_skip ?_
       refine tr_seq ?_
       refine tr_block ?_
       refine tr_seq ?_
       haveI : InB (k : Int).toNat ts.length := ⟨by omega⟩
       have htk := t8 _ (getD_mem (show (k : Int).toNat < ts.length by omega) rowD)
       refine tr_region fun _ _ _ => ?_
       refine st rfl rfl rfl rfl (rIdxR rfl rfl rfl (by omega) (by omega) (by omega)) ?_
       refine st rfl rfl rfl rfl (rLdR rfl rfl (by omega)) ?_
       refine pu rfl rfl rfl rfl rfl ?_
       refine tr_seq ?_
       refine tr_seq ?_
       refine tr_region fun _ _ _ => ?_
       refine pu rfl rfl rfl rfl rfl ?_
       refine st rfl rfl rfl rfl (rLen rfl rfl) ?_
       refine pu rfl rfl rfl rfl rfl ?_
       refine ef rfl rfl (eCallV rfl rfl rfl (gf_Order _) ⟨rfl, trivial⟩ ?_) 
       refine pu rfl rfl rfl rfl rfl ?_
       refine tr_cond_bool rfl (fun h10 => ?_) (fun h10 => ?_)
       · try simp only [zbA] at h10
         have hallN : ∀ j : Nat, j < k.toNat → RowOk (pw p m) (ts.getD j rowD).xs := fun j hj => hall j (by omega)
         have hbd := ordC_bad (w := w) (by omega) (show k.toNat < ts.length by omega) hallN (fun h => by have := h.1; omega)
         rw [if_pos (by omega)] at hbd
         omega --done
       · try simp only [zbA] at h10
         refine tr_skip ?_
         refine tr_seq ?_
         refine tr_region fun _ _ _ => ?_
         refine pu rfl rfl rfl rfl rfl ?_
         refine st rfl rfl rfl rfl (rLen rfl rfl) ?_
         refine pu rfl rfl rfl rfl rfl ?_
         refine tr_block ?_
         refine tr_loop1 (fun (j : Int) => [(42, .int .i64 j), (40, .slice (ts.getD k.toNat rowD).A (ts.getD k.toNat rowD).xs.length (ts.getD k.toNat rowD).cap), (41, .int .i64 (ts.getD k.toNat rowD).xs.length), (7, .pointer (some g.p)), (29, .slice T nt ct), (30, .int .i64 nt), (31, .int .i64 k), (37, .pointer (some g.p))]) (fun (j : Int) => [gfN g, blk p0 27 [.int .i64 p, .int .i64 m, .slice A mod.length c, .int .i64 w, .slice Aa n ca], ro A (ints mod), ro Aa (hdrs rs), rowsR rs, ro T (hdrs ts), rowsR ts]) (fun (j : Int) => (0 ≤ j ∧ j ≤ (ts.getD k.toNat rowD).xs.length) ∧ ∀ i : Nat, (i : Int) < j → 0 ≤ (ts.getD k.toNat rowD).xs.getD i 0 ∧ (ts.getD k.toNat rowD).xs.getD i 0 ≤ 2147483648) (fun (j : Int) => ((ts.getD k.toNat rowD).xs.length - j).toNat) (0) ⟨rfl, rfl, rfl, rfl, rfl, rfl, rfl, rfl, trivial⟩ (by first | exact cs _ _ | exact CSub.refl _) (⟨⟨by omega, by omega⟩, fun i hi => by omega⟩) (fun j hI => ?_)
         obtain ⟨⟨hj0, hj1⟩, hall2⟩ := hI
         refine tr_seq ?_
         refine tr_region fun _ _ _ => ?_
         refine pu rfl rfl rfl rfl rfl ?_
         refine tr_seq ?_
         refine tr_cond_bool rfl (fun h13 => ?_) (fun h13 => ?_)
         · try simp only [zbA] at h13
           refine tr_skip ?_
           refine tr_seq ?_
           refine tr_block ?_
           refine tr_seq ?_
           refine tr_region fun _ _ _ => ?_
           refine st rfl rfl rfl rfl (rIdxI rfl rfl rfl (by omega) (by omega) (by omega)) ?_
           refine st rfl rfl rfl rfl (rLdI rfl rfl (by omega)) ?_
           refine pu rfl rfl rfl rfl rfl ?_
           refine tr_seq ?_
           refine tr_region fun _ _ _ => ?_
           iterate 3 refine pu rfl rfl rfl rfl rfl ?_
           refine stg rfl rfl rfl rfl rfl (fun hb => by (have hq := hb; try simp only [zbA] at hq); exact rMove rfl rfl) ?_
           refine stg rfl rfl rfl rfl rfl (fun hb => by (have hq := hb; try simp only [zbA] at hq); exact rGtr rfl (evg rfl hb) rfl) ?_
           refine st rfl rfl rfl rfl (rOrB rfl rfl rfl rfl) ?_
           refine tr_cond_bool rfl (fun h15 => ?_) (fun h15 => ?_)
           · try simp only [zbA] at h15
             have hallN : ∀ j : Nat, j < k.toNat → RowOk (pw p m) (ts.getD j rowD).xs := fun j hj => hall j (by omega)
             have hbd := ordC_bad (w := w) (by omega) (show k.toNat < ts.length by omega) hallN (fun h => by have := h.at j.toNat; omega)
             rw [if_neg (by omega)] at hbd
             omega --done
           · try simp only [zbA] at h15
             refine tr_skip ?_
             refine tr_region fun _ _ _ => ?_
             refine st rfl rfl rfl rfl (rAdd rfl rfl rfl (by omega) (by omega)) ?_
             refine pu rfl rfl rfl rfl rfl ?_
             refine ⟨j + 1, ⟨rfl, rfl, rfl, rfl, rfl, rfl, rfl, rfl, trivial⟩, by first | exact cs _ _ | exact CSub.refl _, ?_⟩
             refine ⟨⟨⟨by omega, by omega⟩, fun i hi => ?_⟩, by omega⟩
             by_cases he : (i : Int) = j
             · have : i = j.toNat := by omega
               subst this; omega
             · exact hall2 i (by omega)
         · try simp only [zbA] at h13
           refine tr_exit ?_
           refine tr_region fun _ _ _ => ?_
           refine st rfl rfl rfl rfl (rAdd rfl rfl rfl (by omega) (by omega)) ?_
           refine pu rfl rfl rfl rfl rfl ?_
           refine ⟨k + 1, ⟨rfl, rfl, rfl, rfl, trivial⟩, by first | exact cs _ _ | exact CSub.refl _, ?_⟩
           refine ⟨⟨⟨by omega, by omega⟩, fun j hj => ?_⟩, by omega⟩
           by_cases he : (j : Int) = k
           · have : j = k.toNat := by omega
             subst this
             exact ⟨by omega, fun x hx => by
               obtain ⟨i, hi, rfl⟩ := List.getElem_of_mem hx
               have := hall2 i (by omega)
               rwa [List.getD_eq_getElem?_getD, List.getElem?_eq_getElem hi] at this⟩
           · exact hall j (by omega)
     · try simp only [zbA] at h8
       refine tr_exit ?_
       refine tr_seq ?_
       refine tr_region fun _ _ _ => ?_
       iterate 3 refine pu rfl rfl rfl rfl rfl ?_
       exact tr_ret ⟨trivial, _, _, rfl, ⟨_, rfl, g, rfl, rfl, hg⟩, cs _ _, ⟨trivial, trivial, trivial, trivial⟩, trivial⟩
theorem ref_OCheckE_ent : Enters Tryz.prog 6 := enters_of Tryz.func6 (by kernel_rfl) (by kernel_rfl)
theorem ref_OCheckE (p m : Int) (A : Option Addr) (c : Nat) (mod : List Int) (hl9 : mod.length ≤ 17592186044415) (w : Int) (Aa : Option Addr) (n ca : Nat) (rs : List RowM) (hn : n = rs.length) (h9 : rs.length ≤ 17592186044415) (h8 : ∀ r ∈ rs, r.xs.length ≤ 17592186044415) (he : codC p m mod w rs ≠ 0) (T : Option Addr) (nt ct : Nat) (ts : List RowM) (hnt : nt = ts.length) (t9 : ts.length ≤ 17592186044415) (t8 : ∀ r ∈ ts, r.xs.length ≤ 17592186044415) :
   Pure Tryz.prog 6 #[.agg #[.int .i64 p, .int .i64 m, .slice A mod.length c, .int .i64 w, .slice Aa n ca], .slice T nt ct] [ro A (ints mod), ro Aa (hdrs rs), rowsR rs, ro T (hdrs ts), rowsR ts] (isV (.int .i64 (codC p m mod w rs))) := by
 refine pure_of (args := [.agg #[.int .i64 p, .int .i64 m, .slice A mod.length c, .int .i64 w, .slice Aa n ca], .slice T nt ct]) 60 Tryz.func6 rfl rfl rfl ref_OCheckE_ent ⟨id, id, id, id, id, trivial⟩ (fun w0 => ?_)
 refine tr_seq ?_
 refine tr_region fun _ _ _ => ?_
 refine ef rfl rfl (eBox rfl rfl rfl rfl rfl (fun p0 => ?_)) 
 refine pu rfl rfl rfl rfl rfl ?_
 refine tr_seq ?_
 refine tr_region fun _ _ _ => ?_
 refine st rfl rfl rfl rfl (rLdS rfl rfl rfl) ?_
 refine ef rfl rfl (eCallV rfl rfl rfl (ref_CCheck p m A c mod hl9 w Aa n ca rs hn h9 h8) ⟨rfl, trivial⟩ ?_) 
 refine pu rfl rfl rfl rfl rfl ?_
 refine tr_seq ?_
 refine tr_seq ?_
 refine tr_region fun _ _ _ => ?_
 iterate 2 refine pu rfl rfl rfl rfl rfl ?_
 refine tr_cond_bool rfl (fun h2 => ?_) (fun h2 => ?_)
 · try simp only [zbA] at h2
   refine tr_seq ?_
   refine tr_region fun _ _ _ => ?_
   iterate 2 refine pu rfl rfl rfl rfl rfl ?_
   exact tr_ret ⟨trivial, _, _, rfl, ⟨rfl, rfl⟩, CSub.nil _, trivial⟩
 · try simp only [zbA] at h2
   omega --done
theorem ref_OCheck_ent : Enters Tryz.prog 6 := enters_of Tryz.func6 (by kernel_rfl) (by kernel_rfl)
theorem ref_OCheck (p m : Int) (A : Option Addr) (c : Nat) (mod : List Int) [hF : IsF p m mod] (w : Int) (Aa : Option Addr) (n ca : Nat) (rs : List RowM) (hn : n = rs.length) (h9 : rs.length ≤ 256) (hc : CodeOk p m mod w rs) (T : Option Addr) (nt ct : Nat) (ts : List RowM) (hnt : nt = ts.length) (t9 : ts.length ≤ 17592186044415) (t8 : ∀ r ∈ ts, r.xs.length ≤ 17592186044415) :
   Pure Tryz.prog 6 #[.agg #[.int .i64 p, .int .i64 m, .slice A mod.length c, .int .i64 w, .slice Aa n ca], .slice T nt ct] [ro A (ints mod), ro Aa (hdrs rs), rowsR rs, ro T (hdrs ts), rowsR ts] (isV (.int .i64 (ordC (pw p m) w (xss ts)))) := by
 have hl9 := hF.short
 have hn1 := hc.n1
 have hn64 := hc.n64
 have hlen := hc.len
 have hgd := hc.good
 have h8 := hgd.h8 (N := 17592186044415) (by omega)
 have hck := hc.zero
 have hq2 := hF.q2
 have hgq := hF.ord
 refine pure_of (args := [.agg #[.int .i64 p, .int .i64 m, .slice A mod.length c, .int .i64 w, .slice Aa n ca], .slice T nt ct]) 60 Tryz.func6 rfl rfl rfl ref_OCheck_ent ⟨id, id, id, id, id, trivial⟩ (fun w0 => ?_)
 refine tr_seq ?_
 refine tr_region fun _ _ _ => ?_
 refine ef rfl rfl (eBox rfl rfl rfl rfl rfl (fun p0 => ?_)) 
 refine pu rfl rfl rfl rfl rfl ?_
 refine tr_seq ?_
 refine tr_region fun _ _ _ => ?_
 refine st rfl rfl rfl rfl (rLdS rfl rfl rfl) ?_
 refine ef rfl rfl (eCallV rfl rfl rfl (ref_CCheck _ _ _ _ _ (by omega) w Aa _ ca rs hn (by omega) h8) ⟨rfl, trivial⟩ ?_) 
 refine pu rfl rfl rfl rfl rfl ?_
 refine tr_seq ?_
 refine tr_seq ?_
 refine tr_region fun _ _ _ => ?_
 iterate 2 refine pu rfl rfl rfl rfl rfl ?_
 refine tr_cond_bool rfl (fun h2 => ?_) (fun h2 => ?_)
 · try simp only [zbA] at h2
   omega --done
 · try simp only [zbA] at h2
   refine tr_skip ?_
   refine tr_seq ?_
   refine tr_seq ?_
   refine tr_region fun _ _ _ => ?_
   refine pu rfl rfl rfl rfl rfl ?_
   refine st rfl rfl rfl rfl (rLen rfl rfl) ?_
   refine st rfl rfl rfl rfl (rFld rfl rfl) ?_
   refine st rfl rfl rfl rfl (rLdF rfl rfl rfl) ?_
   refine pu rfl rfl rfl rfl rfl ?_
   refine tr_cond_bool rfl (fun h4 => ?_) (fun h4 => ?_)
   · try simp only [zbA] at h4
     refine tr_seq ?_
     refine tr_region fun _ _ _ => ?_
     refine pu rfl rfl rfl rfl rfl ?_
     exact tr_ret ⟨trivial, _, _, rfl, ⟨by rw [ordC_len (by rw [xss_length]; omega)], rfl⟩, CSub.nil _, trivial⟩
   · try simp only [zbA] at h4
     refine tr_skip ?_
     refine tr_seq ?_
     refine tr_seq ?_
     refine tr_region fun _ _ _ => ?_
     refine pu rfl rfl rfl rfl rfl ?_
     refine tr_block ?_
     refine tr_loop1 (fun (k : Int) => [(6, .int .i64 k), (1, .slice T nt ct), (2, .pointer (some p0))]) (fun (k : Int) => [blk p0 27 [.int .i64 p, .int .i64 m, .slice A mod.length c, .int .i64 w, .slice Aa n ca], ro A (ints mod), ro Aa (hdrs rs), rowsR rs, ro T (hdrs ts), rowsR ts]) (fun (k : Int) => (0 ≤ k ∧ k ≤ nt) ∧ ∀ j : Nat, (j : Int) < k → RowOk (pw p m) (ts.getD j rowD).xs) (fun (k : Int) => (nt - k).toNat) (0) ⟨rfl, rfl, rfl, trivial⟩ (by first | exact cs _ _ | exact CSub.refl _) (⟨⟨by omega, by omega⟩, fun j hj => by omega⟩) (fun k hI => ?_)
     obtain ⟨⟨hk0, hk1⟩, hall⟩ := hI
     refine tr_seq ?_
     refine tr_seq ?_
     refine tr_region fun _ _ _ => ?_
     iterate 2 refine pu rfl rfl rfl rfl rfl ?_
     refine st rfl rfl rfl rfl (rLen rfl rfl) ?_
     refine pu rfl rfl rfl rfl rfl ?_
     refine tr_cond_bool rfl (fun h7 => ?_) (fun h7 => ?_)
     · try simp only [zbA] at h7
       refine tr_skip ?_
       refine tr_seq ?_
       refine tr_block ?_
       refine tr_seq ?_
       refine tr_seq ?_
       haveI : InB (k : Int).toNat ts.length := ⟨by omega⟩
       have htk := t8 _ (getD_mem (show (k : Int).toNat < ts.length by omega) rowD)
       refine tr_draw [0, 1, 2, 3, 4, 5, 6, 7, 8] [] mixed (by kernel_rfl) fun _ _ _ => ?_
       iterate 2 refine pu rfl rfl rfl rfl rfl ?_
       refine st rfl rfl rfl rfl (rIdxR rfl rfl rfl (by omega) (by omega) (by omega)) ?_
       refine st rfl rfl rfl rfl (rLdR rfl rfl (by omega)) ?_
       refine st rfl rfl rfl rfl (rLen rfl rfl) ?_
       refine st rfl rfl rfl rfl (rFld rfl rfl) ?_
       refine st rfl rfl rfl rfl (rLdSF rfl rfl) ?_
       refine ef rfl rfl (eCallV rfl rfl rfl (ref_order p m A c mod) ⟨rfl, trivial⟩ ?_) 
       refine pu rfl rfl rfl rfl rfl ?_
       refine tr_cond_bool rfl (fun h9 => ?_) (fun h9 => ?_)
       · try simp only [zbA] at h9
         refine tr_seq ?_
         refine tr_region fun _ _ _ => ?_
         refine pu rfl rfl rfl rfl rfl ?_
         have hallN : ∀ j : Nat, j < k.toNat → RowOk (pw p m) (ts.getD j rowD).xs := fun j hj => hall j (by omega)
         have hbd := ordC_bad (w := w) (by omega) (show k.toNat < ts.length by omega) hallN (fun h => by have := h.1; omega)
         rw [if_pos (by omega)] at hbd
         exact tr_ret ⟨trivial, _, _, rfl, ⟨by rw [hbd], rfl⟩, CSub.nil _, trivial⟩
       · try simp only [zbA] at h9
         refine tr_skip ?_
         refine tr_seq ?_
         refine tr_region fun _ _ _ => ?_
         refine pu rfl rfl rfl rfl rfl ?_
         refine tr_block ?_
         refine tr_loop1 (fun (j : Int) => [(7, .int .i64 j), (1, .slice T nt ct), (2, .pointer (some p0)), (6, .int .i64 k), (18, .int .i64 k), (19, .slice T nt ct), (20, .int .i64 nt), (24, .slice T nt ct), (25, .int .i64 k), (30, .agg #[.int .i64 p, .int .i64 m, .slice A mod.length c])]) (fun (j : Int) => [blk p0 27 [.int .i64 p, .int .i64 m, .slice A mod.length c, .int .i64 w, .slice Aa n ca], ro A (ints mod), ro Aa (hdrs rs), rowsR rs, ro T (hdrs ts), rowsR ts]) (fun (j : Int) => (0 ≤ j ∧ j ≤ (ts.getD k.toNat rowD).xs.length) ∧ ∀ i : Nat, (i : Int) < j → 0 ≤ (ts.getD k.toNat rowD).xs.getD i 0 ∧ (ts.getD k.toNat rowD).xs.getD i 0 ≤ 2147483648) (fun (j : Int) => ((ts.getD k.toNat rowD).xs.length - j).toNat) (0) ⟨rfl, rfl, rfl, rfl, rfl, rfl, rfl, rfl, rfl, rfl, trivial⟩ (by first | exact cs _ _ | exact CSub.refl _) (⟨⟨by omega, by omega⟩, fun i hi => by omega⟩) (fun j hI => ?_)
         obtain ⟨⟨hj0, hj1⟩, hall2⟩ := hI
         refine tr_seq ?_
         refine tr_seq ?_
         haveI : InB (k : Int).toNat ts.length := ⟨by omega⟩
         have htk := t8 _ (getD_mem (show (k : Int).toNat < ts.length by omega) rowD)
         refine tr_region fun _ _ _ => ?_
         iterate 3 refine pu rfl rfl rfl rfl rfl ?_
         refine st rfl rfl rfl rfl (rIdxR rfl rfl rfl (by omega) (by omega) (by omega)) ?_
         refine st rfl rfl rfl rfl (rLdR rfl rfl (by omega)) ?_
         refine st rfl rfl rfl rfl (rLen rfl rfl) ?_
         refine pu rfl rfl rfl rfl rfl ?_
         refine tr_cond_bool rfl (fun h12 => ?_) (fun h12 => ?_)
         · try simp only [zbA] at h12
           refine tr_skip ?_
           refine tr_seq ?_
           refine tr_block ?_
           refine tr_seq ?_
           haveI : InB (k : Int).toNat ts.length := ⟨by omega⟩
           have htk := t8 _ (getD_mem (show (k : Int).toNat < ts.length by omega) rowD)
           refine tr_region fun _ _ _ => ?_
           iterate 2 refine pu rfl rfl rfl rfl rfl ?_
           refine st rfl rfl rfl rfl (rIdxR rfl rfl rfl (by omega) (by omega) (by omega)) ?_
           refine st rfl rfl rfl rfl (rLdR rfl rfl (by omega)) ?_
           refine pu rfl rfl rfl rfl rfl ?_
           refine st rfl rfl rfl rfl (rIdxI rfl rfl rfl (by omega) (by omega) (by omega)) ?_
           refine st rfl rfl rfl rfl (rLdI rfl rfl (by omega)) ?_
           iterate 2 refine pu rfl rfl rfl rfl rfl ?_
           refine stg rfl rfl rfl rfl rfl (fun hb => by (have hq := hb; try simp only [zbA] at hq); exact rMove rfl rfl) ?_
           refine stg rfl rfl rfl rfl rfl (fun hb => by (have hq := hb; try simp only [zbA] at hq); exact rMove rfl rfl) ?_
           refine stg rfl rfl rfl rfl rfl (fun hb => by (have hq := hb; try simp only [zbA] at hq); exact rIdxR rfl (evg rfl hb) (evg rfl hb) (by omega) (by omega) (by omega)) ?_
           refine stg rfl rfl rfl rfl rfl (fun hb => by (have hq := hb; try simp only [zbA] at hq); exact rLdR rfl (evg rfl hb) (by omega)) ?_
           refine stg rfl rfl rfl rfl rfl (fun hb => by (have hq := hb; try simp only [zbA] at hq); exact rMove rfl rfl) ?_
           refine stg rfl rfl rfl rfl rfl (fun hb => by (have hq := hb; try simp only [zbA] at hq); exact rIdxI rfl (evg rfl hb) (evg rfl hb) (by omega) (by omega) (by omega)) ?_
           refine stg rfl rfl rfl rfl rfl (fun hb => by (have hq := hb; try simp only [zbA] at hq); exact rLdI rfl (evg rfl hb) (by omega)) ?_
           refine stg rfl rfl rfl rfl rfl (fun hb => by (have hq := hb; try simp only [zbA] at hq); exact rGtr rfl (evg rfl hb) rfl) ?_
           refine st rfl rfl rfl rfl (rOrB rfl rfl rfl rfl) ?_
           refine tr_cond_bool rfl (fun h14 => ?_) (fun h14 => ?_)
           · try simp only [zbA] at h14
             refine tr_seq ?_
             refine tr_region fun _ _ _ => ?_
             refine pu rfl rfl rfl rfl rfl ?_
             have hallN : ∀ j : Nat, j < k.toNat → RowOk (pw p m) (ts.getD j rowD).xs := fun j hj => hall j (by omega)
             have hbd := ordC_bad (w := w) (by omega) (show k.toNat < ts.length by omega) hallN (fun h => by have := h.at j.toNat; omega)
             rw [if_neg (by omega)] at hbd
             exact tr_ret ⟨trivial, _, _, rfl, ⟨by rw [hbd], rfl⟩, CSub.nil _, trivial⟩
           · try simp only [zbA] at h14
             refine tr_skip ?_
             refine tr_region fun _ _ _ => ?_
             refine pu rfl rfl rfl rfl rfl ?_
             refine st rfl rfl rfl rfl (rAdd rfl rfl rfl (by omega) (by omega)) ?_
             refine pu rfl rfl rfl rfl rfl ?_
             refine ⟨j + 1, ⟨rfl, rfl, rfl, rfl, rfl, rfl, rfl, rfl, rfl, rfl, trivial⟩, by first | exact cs _ _ | exact CSub.refl _, ?_⟩
             refine ⟨⟨⟨by omega, by omega⟩, fun i hi => ?_⟩, by omega⟩
             by_cases he : (i : Int) = j
             · have : i = j.toNat := by omega
               subst this; omega
             · exact hall2 i (by omega)
         · try simp only [zbA] at h12
           refine tr_exit ?_
           refine tr_region fun _ _ _ => ?_
           refine pu rfl rfl rfl rfl rfl ?_
           refine st rfl rfl rfl rfl (rAdd rfl rfl rfl (by omega) (by omega)) ?_
           refine pu rfl rfl rfl rfl rfl ?_
           refine ⟨k + 1, ⟨rfl, rfl, rfl, trivial⟩, by first | exact cs _ _ | exact CSub.refl _, ?_⟩
           refine ⟨⟨⟨by omega, by omega⟩, fun j hj => ?_⟩, by omega⟩
           by_cases he : (j : Int) = k
           · have : j = k.toNat := by omega
             subst this
             exact ⟨by omega, fun x hx => by
               obtain ⟨i, hi, rfl⟩ := List.getElem_of_mem hx
               have := hall2 i (by omega)
               rwa [List.getD_eq_getElem?_getD, List.getElem?_eq_getElem hi] at this⟩
           · exact hall j (by omega)
     · try simp only [zbA] at h7
       refine tr_exit ?_
       refine tr_seq ?_
       refine tr_region fun _ _ _ => ?_
       refine pu rfl rfl rfl rfl rfl ?_
       have hok := ordC_ok (q := pw p m) (w := w) (ts := ts) (by omega) fun j hj => hall j (by omega)
       exact tr_ret ⟨trivial, _, _, rfl, ⟨by rw [hok], rfl⟩, CSub.nil _, trivial⟩
theorem law42_few_ent : Enters Tryz.prog 5 := enters_of Tryz.func5 (by kernel_rfl) (by kernel_rfl)
theorem law42_few (p m : Int) (A : Option Addr) (c : Nat) (mod : List Int) (hl9 : mod.length ≤ 17592186044415) (w : Int) (Aa : Option Addr) (n ca : Nat) (rs : List RowM) (hn : n = rs.length) (h9 : rs.length ≤ 17592186044415) (h8 : ∀ r ∈ rs, r.xs.length ≤ 17592186044415) (hl : rs.length ≤ 64) :
   Pure Tryz.prog 5 #[.agg #[.int .i64 p, .int .i64 m, .slice A mod.length c, .int .i64 w, .slice Aa n ca]] [ro Aa (hdrs rs), rowsR rs] (val (fun v => ∃ b : Bool, v = .bool b ∧ (b = true → rs.length ≤ 64 ∧ ∀ r ∈ rs, r.xs.length ≤ 4200))) := by
 refine pure_of (args := [.agg #[.int .i64 p, .int .i64 m, .slice A mod.length c, .int .i64 w, .slice Aa n ca]]) 11 Tryz.func5 rfl rfl rfl law42_few_ent ⟨id, id, trivial⟩ (fun w0 => ?_)
 refine tr_seq ?_
 refine tr_region fun _ _ _ => ?_
 refine ef rfl rfl (eBox rfl rfl rfl rfl rfl (fun p0 => ?_)) 
 refine pu rfl rfl rfl rfl rfl ?_
 refine tr_seq ?_
 refine tr_region fun _ _ _ => ?_
 refine st rfl rfl rfl rfl (rFld rfl rfl) ?_
 refine st rfl rfl rfl rfl (rLdF rfl rfl rfl) ?_
 refine st rfl rfl rfl rfl (rLen rfl rfl) ?_
 iterate 2 refine pu rfl rfl rfl rfl rfl ?_
 refine stT rfl rfl rfl (by simp; omega) rfl rfl (rLdS rfl rfl rfl) ?_
 refine efT rfl rfl rfl (by simp; omega) (eCall0 rfl rfl rfl (ref_CFew p m A c mod hl9 w Aa n ca rs hn h9 h8) ⟨rfl, rfl, trivial⟩ ?_) 
 rintro _ ⟨b, rfl, hb⟩
 refine st rfl rfl rfl rfl (rPick1 rfl rfl (by simp; omega) rfl) ?_
 refine pu rfl rfl rfl rfl rfl ?_
 exact tr_ret ⟨trivial, _, _, rfl, ⟨rfl, b, by simp, fun h => ⟨hl, hb h⟩⟩, CSub.nil _, trivial⟩
theorem law42_few0_ent : Enters Tryz.prog 5 := enters_of Tryz.func5 (by kernel_rfl) (by kernel_rfl)
theorem law42_few0 (p m : Int) (A : Option Addr) (c : Nat) (mod : List Int) (hl9 : mod.length ≤ 17592186044415) (w : Int) (Aa : Option Addr) (n ca : Nat) (rs : List RowM) (hn : n = rs.length) (h9 : rs.length ≤ 17592186044415) (h8 : ∀ r ∈ rs, r.xs.length ≤ 17592186044415) (hl : ¬ rs.length ≤ 64) :
   Pure Tryz.prog 5 #[.agg #[.int .i64 p, .int .i64 m, .slice A mod.length c, .int .i64 w, .slice Aa n ca]] [ro Aa (hdrs rs), rowsR rs] (val (fun v => ∃ b : Bool, v = .bool b ∧ (b = true → rs.length ≤ 64 ∧ ∀ r ∈ rs, r.xs.length ≤ 4200))) := by
 refine pure_of (args := [.agg #[.int .i64 p, .int .i64 m, .slice A mod.length c, .int .i64 w, .slice Aa n ca]]) 11 Tryz.func5 rfl rfl rfl law42_few0_ent ⟨id, id, trivial⟩ (fun w0 => ?_)
 refine tr_seq ?_
 refine tr_region fun _ _ _ => ?_
 refine ef rfl rfl (eBox rfl rfl rfl rfl rfl (fun p0 => ?_)) 
 refine pu rfl rfl rfl rfl rfl ?_
 refine tr_seq ?_
 refine tr_region fun _ _ _ => ?_
 refine st rfl rfl rfl rfl (rFld rfl rfl) ?_
 refine st rfl rfl rfl rfl (rLdF rfl rfl rfl) ?_
 refine st rfl rfl rfl rfl (rLen rfl rfl) ?_
 iterate 2 refine pu rfl rfl rfl rfl rfl ?_
 refine skF rfl rfl (by simp; omega) rfl rfl ?_
 refine skF rfl rfl (by simp; omega) rfl rfl ?_
 refine st rfl rfl rfl rfl (rPick0 rfl rfl (by simp; omega) rfl) ?_
 refine pu rfl rfl rfl rfl rfl ?_
 exact tr_ret ⟨trivial, _, _, rfl, ⟨rfl, false, by simp, fun h => by cases h⟩, CSub.nil _, trivial⟩
theorem law42_fewC (p m : Int) (A : Option Addr) (c : Nat) (mod : List Int) (hl9 : mod.length ≤ 17592186044415) (w : Int) (Aa : Option Addr) (n ca : Nat) (rs : List RowM) (hn : n = rs.length) (h9 : rs.length ≤ 17592186044415) (h8 : ∀ r ∈ rs, r.xs.length ≤ 17592186044415) : Pure Tryz.prog 5 #[.agg #[.int .i64 p, .int .i64 m, .slice A mod.length c, .int .i64 w, .slice Aa n ca]] [ro Aa (hdrs rs), rowsR rs] (val (fun v => ∃ b : Bool, v = .bool b ∧ (b = true → rs.length ≤ 64 ∧ ∀ r ∈ rs, r.xs.length ≤ 4200))) := by
 by_cases hl : rs.length ≤ 64
 · exact law42_few p m A c mod hl9 w Aa n ca rs hn h9 h8 hl
 · exact law42_few0 p m A c mod hl9 w Aa n ca rs hn h9 h8 hl
def hardL (ts : List RowM) : List Int := (xss ts).map fun r => (hardI r : Int)
def relL (ts : List RowM) : List Int := (xss ts).map relI
@[simp] theorem hardL_length (ts : List RowM) : (hardL ts).length = ts.length := by simp [hardL]
@[simp] theorem relL_length (ts : List RowM) : (relL ts).length = ts.length := by simp [relL]
theorem map_take1 {α : Type} (f : List Int → α) (ts : List RowM) {k : Nat} (hk : k < ts.length) : ((xss ts).map f).take (k + 1) = ((xss ts).map f).take k ++ [f (ts.getD k rowD).xs] := by
 rw [List.take_add_one, List.getElem?_map]
 have : (xss ts)[k]? = some (ts.getD k rowD).xs := by
   rw [xss, List.getElem?_map, List.getElem?_eq_getElem hk, List.getD_eq_getElem?_getD, List.getElem?_eq_getElem hk]; rfl
 rw [this]; rfl
theorem hardL_take (ts : List RowM) {k : Nat} (hk : k < ts.length) : (hardL ts).take (k + 1) = (hardL ts).take k ++ [(hardI (ts.getD k rowD).xs : Int)] := map_take1 _ ts hk
theorem relL_take (ts : List RowM) {k : Nat} (hk : k < ts.length) : (relL ts).take (k + 1) = (relL ts).take k ++ [relI (ts.getD k rowD).xs] := map_take1 _ ts hk
theorem hardL_getD (ts : List RowM) {k : Nat} (hk : k < ts.length) : (hardL ts).getD k 0 = (hardI (ts.getD k rowD).xs : Int) := by
 rw [hardL, List.getD_eq_getElem?_getD, List.getElem?_map, xss, List.getElem?_map, List.getElem?_eq_getElem hk, List.getD_eq_getElem?_getD, List.getElem?_eq_getElem hk]; rfl
theorem relL_getD (ts : List RowM) {k : Nat} (hk : k < ts.length) : (relL ts).getD k 0 = relI (ts.getD k rowD).xs := by
 rw [relL, List.getD_eq_getElem?_getD, List.getElem?_map, xss, List.getElem?_map, List.getElem?_eq_getElem hk, List.getD_eq_getElem?_getD, List.getElem?_eq_getElem hk]; rfl
theorem amin_yes {r : List Int} {k : Nat} (h : r.getD k 0 < r.getD (amin r k) 0) : amin r (k + 1) = k := by rw [amin, if_pos h]
theorem amin_no {r : List Int} {k : Nat} (h : ¬ r.getD k 0 < r.getD (amin r k) 0) : amin r (k + 1) = amin r k := by rw [amin, if_neg h]
theorem sec_yes {r : List Int} {b k : Nat} (h : k ≠ b ∧ (sec r b k < 0 ∨ r.getD k 0 < sec r b k)) : sec r b (k + 1) = r.getD k 0 := by rw [sec, if_pos h]
theorem sec_no {r : List Int} {b k : Nat} (h : ¬ (k ≠ b ∧ (sec r b k < 0 ∨ r.getD k 0 < sec r b k))) : sec r b (k + 1) = sec r b k := by rw [sec, if_neg h]
theorem ord_hard_ent : Enters Tryz.prog 38 := enters_of Tryz.func38 (by kernel_rfl) (by kernel_rfl)
theorem ord_hard (T : Option Addr) (nt ct : Nat) (ts : List RowM) (hnt : nt = ts.length) (q : Int) (hq2 : 2 ≤ q) (hq9 : q ≤ 256) (t64 : ts.length ≤ 64) (htr : ∀ r ∈ ts, RowOk q r.xs) :
   Pure Tryz.prog 38 #[.slice T nt ct] [ro T (hdrs ts), rowsR ts] (two (fun v c1 c2 => ∃ B cb D cd, v = .tuple #[.slice B (hardL ts).length cb, .slice D (relL ts).length cd] ∧ c1 = ow B 3 cb (ints (hardL ts)) ∧ c2 = ow D 3 cd (ints (relL ts)))) := by
 refine pure_of (args := [.slice T nt ct]) 70 Tryz.func38 rfl rfl rfl ord_hard_ent ⟨id, id, trivial⟩ (fun w0 => ?_)
 refine tr_seq ?_
 refine tr_region fun _ _ _ => ?_
 iterate 2 refine pu rfl rfl rfl rfl rfl ?_
 refine tr_seq ?_
 refine tr_seq ?_
 refine tr_region fun _ _ _ => ?_
 refine pu rfl rfl rfl rfl rfl ?_
 refine st rfl rfl rfl rfl (rLen rfl rfl) ?_
 refine pu rfl rfl rfl rfl rfl ?_
 refine tr_block ?_
 refine tr_nilI 3 ?_
 refine tr_nilI 3 ?_
 refine tr_loop7 (fun (k : Int) (B : Option Addr) (cb : Nat) (o : List Int) (D : Option Addr) (cd : Nat) (u : List Int) => [(2, .slice B o.length cb), (3, .slice D u.length cd), (14, .int .i64 k), (12, .slice T nt ct), (13, .int .i64 nt)]) (fun (k : Int) (B : Option Addr) (cb : Nat) (o : List Int) (D : Option Addr) (cd : Nat) (u : List Int) => [ow B 3 cb (ints o), ow D 3 cd (ints u), ro T (hdrs ts), rowsR ts]) (fun (k : Int) (B : Option Addr) (cb : Nat) (o : List Int) (D : Option Addr) (cd : Nat) (u : List Int) => (0 ≤ k ∧ k ≤ nt) ∧ o = (hardL ts).take k.toNat ∧ u = (relL ts).take k.toNat) (fun (k : Int) (B : Option Addr) (cb : Nat) (o : List Int) (D : Option Addr) (cd : Nat) (u : List Int) => (nt - k).toNat) (0) (none) (0) ([]) (none) (0) ([]) ⟨rfl, rfl, rfl, rfl, rfl, trivial⟩ (by first | exact cs _ _ | exact CSub.refl _) (⟨⟨by omega, by omega⟩, rfl, rfl⟩) (fun k B cb o D cd u hI => ?_)
 obtain ⟨⟨hk0, hk1⟩, ho, hu⟩ := hI
 have hol : o.length = k.toNat := by rw [ho, List.length_take, hardL_length]; omega
 have hul : u.length = k.toNat := by rw [hu, List.length_take, relL_length]; omega
 refine tr_seq ?_
 refine tr_region fun _ _ _ => ?_
 refine pu rfl rfl rfl rfl rfl ?_
 refine tr_seq ?_
 refine tr_cond_bool rfl (fun h2 => ?_) (fun h2 => ?_)
 · try simp only [zbA] at h2
   refine tr_skip ?_
   refine tr_seq ?_
   refine tr_block ?_
   refine tr_seq ?_
   haveI : InB k.toNat ts.length := ⟨by omega⟩
   have htk := htr _ (getD_mem (show k.toNat < ts.length by omega) rowD)
   have htl := htk.1
   have hpos : 0 < (ts.getD k.toNat rowD).xs.length := by omega
   refine tr_region fun _ _ _ => ?_
   refine st rfl rfl rfl rfl (rIdxR rfl rfl rfl (by omega) (by omega) (by omega)) ?_
   refine st rfl rfl rfl rfl (rLdR rfl rfl (by omega)) ?_
   refine pu rfl rfl rfl rfl rfl ?_
   refine tr_seq ?_
   refine tr_region fun _ _ _ => ?_
   refine pu rfl rfl rfl rfl rfl ?_
   refine tr_seq ?_
   refine tr_seq ?_
   refine tr_region fun _ _ _ => ?_
   refine pu rfl rfl rfl rfl rfl ?_
   refine st rfl rfl rfl rfl (rLen rfl rfl) ?_
   refine pu rfl rfl rfl rfl rfl ?_
   refine tr_block ?_
   refine tr_loop2 (fun (j : Int) (b : Int) => [(20, .int .i64 j), (6, .int .i64 b), (5, .slice (ts.getD k.toNat rowD).A (ts.getD k.toNat rowD).xs.length (ts.getD k.toNat rowD).cap), (18, .slice (ts.getD k.toNat rowD).A (ts.getD k.toNat rowD).xs.length (ts.getD k.toNat rowD).cap), (19, .int .i64 (ts.getD k.toNat rowD).xs.length), (2, .slice B o.length cb), (3, .slice D u.length cd), (12, .slice T nt ct), (13, .int .i64 nt), (14, .int .i64 k)]) (fun (j : Int) (b : Int) => [ow B 3 cb (ints o), ow D 3 cd (ints u), ro T (hdrs ts), rowsR ts]) (fun (j : Int) (b : Int) => (0 ≤ j ∧ j ≤ (ts.getD k.toNat rowD).xs.length) ∧ b = (amin (ts.getD k.toNat rowD).xs j.toNat : Int)) (fun (j : Int) (b : Int) => ((ts.getD k.toNat rowD).xs.length - j).toNat) (0) (0) ⟨rfl, rfl, rfl, rfl, rfl, rfl, rfl, rfl, rfl, rfl, trivial⟩ (by first | exact cs _ _ | exact CSub.refl _) (⟨⟨by omega, by omega⟩, rfl⟩) (fun j b hI => ?_)
   obtain ⟨⟨hj0, hj1⟩, hb⟩ := hI
   have hbl := amin_lt hpos j.toNat (by omega)
   refine tr_seq ?_
   refine tr_region fun _ _ _ => ?_
   refine pu rfl rfl rfl rfl rfl ?_
   refine tr_seq ?_
   refine tr_cond_bool rfl (fun h6 => ?_) (fun h6 => ?_)
   · try simp only [zbA] at h6
     refine tr_skip ?_
     refine tr_seq ?_
     refine tr_block ?_
     refine tr_seq ?_
     refine tr_region fun _ _ _ => ?_
     refine pu rfl rfl rfl rfl rfl ?_
     refine st rfl rfl rfl rfl (rIdxI rfl rfl rfl (by omega) (by omega) (by omega)) ?_
     refine st rfl rfl rfl rfl (rLdI rfl rfl (by omega)) ?_
     iterate 2 refine pu rfl rfl rfl rfl rfl ?_
     refine tr_seq ?_
     refine tr_region fun _ _ _ => ?_
     iterate 3 refine pu rfl rfl rfl rfl rfl ?_
     refine st rfl rfl rfl rfl (rIdxI rfl rfl rfl (by omega) (by omega) (by omega)) ?_
     refine st rfl rfl rfl rfl (rLdI rfl rfl (by omega)) ?_
     refine pu rfl rfl rfl rfl rfl ?_
     refine tr_cond_bool rfl (fun h8 => ?_) (fun h8 => ?_)
     · try simp only [zbA] at h8
       refine tr_region fun _ _ _ => ?_
       iterate 2 refine pu rfl rfl rfl rfl rfl ?_
       refine tr_region fun _ _ _ => ?_
       refine st rfl rfl rfl rfl (rAdd rfl rfl rfl (by omega) (by omega)) ?_
       refine pu rfl rfl rfl rfl rfl ?_
       refine ⟨j + 1, j, ⟨rfl, rfl, rfl, rfl, rfl, rfl, rfl, rfl, rfl, rfl, trivial⟩, by first | exact cs _ _ | exact CSub.refl _, ?_⟩
       exact ⟨⟨⟨by omega, by omega⟩, by rw [show (j + 1).toNat = j.toNat + 1 by omega, amin_yes (by rw [hb] at h8; simpa using h8)]; omega⟩, by omega⟩
     · try simp only [zbA] at h8
       refine tr_skip ?_
       refine tr_region fun _ _ _ => ?_
       refine st rfl rfl rfl rfl (rAdd rfl rfl rfl (by omega) (by omega)) ?_
       refine pu rfl rfl rfl rfl rfl ?_
       refine ⟨j + 1, b, ⟨rfl, rfl, rfl, rfl, rfl, rfl, rfl, rfl, rfl, rfl, trivial⟩, by first | exact cs _ _ | exact CSub.refl _, ?_⟩
       exact ⟨⟨⟨by omega, by omega⟩, by rw [show (j + 1).toNat = j.toNat + 1 by omega, amin_no (by rw [hb] at h8; simpa using h8)]; exact hb⟩, by omega⟩
   · try simp only [zbA] at h6
     refine tr_exit ?_
     refine tr_seq ?_
     refine tr_region fun _ _ _ => ?_
     refine pu rfl rfl rfl rfl rfl ?_
     refine tr_seq ?_
     refine tr_seq ?_
     refine tr_region fun _ _ _ => ?_
     refine pu rfl rfl rfl rfl rfl ?_
     refine st rfl rfl rfl rfl (rLen rfl rfl) ?_
     refine pu rfl rfl rfl rfl rfl ?_
     refine tr_block ?_
     refine tr_loop2 (fun (i : Int) (s : Int) => [(35, .int .i64 i), (9, .int .i64 s), (6, .int .i64 b), (5, .slice (ts.getD k.toNat rowD).A (ts.getD k.toNat rowD).xs.length (ts.getD k.toNat rowD).cap), (33, .slice (ts.getD k.toNat rowD).A (ts.getD k.toNat rowD).xs.length (ts.getD k.toNat rowD).cap), (34, .int .i64 (ts.getD k.toNat rowD).xs.length), (2, .slice B o.length cb), (3, .slice D u.length cd), (12, .slice T nt ct), (13, .int .i64 nt), (14, .int .i64 k), (18, .slice (ts.getD k.toNat rowD).A (ts.getD k.toNat rowD).xs.length (ts.getD k.toNat rowD).cap), (19, .int .i64 (ts.getD k.toNat rowD).xs.length), (20, .int .i64 j)]) (fun (i : Int) (s : Int) => [ow B 3 cb (ints o), ow D 3 cd (ints u), ro T (hdrs ts), rowsR ts]) (fun (i : Int) (s : Int) => (0 ≤ i ∧ i ≤ (ts.getD k.toNat rowD).xs.length) ∧ s = sec (ts.getD k.toNat rowD).xs b.toNat i.toNat) (fun (i : Int) (s : Int) => ((ts.getD k.toNat rowD).xs.length - i).toNat) (0) (-1) ⟨rfl, rfl, rfl, rfl, rfl, rfl, rfl, rfl, rfl, rfl, rfl, rfl, rfl, rfl, trivial⟩ (by first | exact cs _ _ | exact CSub.refl _) (⟨⟨by omega, by omega⟩, rfl⟩) (fun i s hI => ?_)
     obtain ⟨⟨hi0, hi1⟩, hs⟩ := hI
     have hsb := sec_bd (b := b.toNat) htk.2 (by omega) i.toNat (by omega)
     refine tr_seq ?_
     refine tr_region fun _ _ _ => ?_
     refine pu rfl rfl rfl rfl rfl ?_
     refine tr_seq ?_
     refine tr_cond_bool rfl (fun h13 => ?_) (fun h13 => ?_)
     · try simp only [zbA] at h13
       refine tr_skip ?_
       refine tr_seq ?_
       refine tr_block ?_
       refine tr_seq ?_
       refine tr_region fun _ _ _ => ?_
       refine pu rfl rfl rfl rfl rfl ?_
       refine st rfl rfl rfl rfl (rIdxI rfl rfl rfl (by omega) (by omega) (by omega)) ?_
       refine st rfl rfl rfl rfl (rLdI rfl rfl (by omega)) ?_
       iterate 2 refine pu rfl rfl rfl rfl rfl ?_
       refine tr_seq ?_
       refine tr_region fun _ _ _ => ?_
       iterate 4 refine pu rfl rfl rfl rfl rfl ?_
       refine stg rfl rfl rfl rfl rfl (fun hb => by (have hq := hb; try simp only [zbA] at hq); exact rMove rfl rfl) ?_
       refine stg rfl rfl rfl rfl rfl (fun hb => by (have hq := hb; try simp only [zbA] at hq); exact rLss rfl (evg rfl hb) rfl) ?_
       refine stg rfl rfl rfl rfl rfl (fun hb => by (have hq := hb; try simp only [zbA] at hq); exact rMove rfl (evg rfl hb)) ?_
       refine stg2 rfl rfl rfl rfl rfl (fun hb => by (have hq := hb; try simp only [zbA] at hq); exact rMove rfl rfl) ?_
       refine stg2 rfl rfl rfl rfl rfl (fun hb => by (have hq := hb; try simp only [zbA] at hq); exact rMove rfl rfl) ?_
       refine stg2 rfl rfl rfl rfl rfl (fun hb => by (have hq := hb; try simp only [zbA] at hq); exact rLss rfl (evg rfl hb) (evg rfl hb)) ?_
       refine stg rfl rfl rfl rfl rfl (fun hb => by (have hq := hb; try simp only [zbA] at hq); exact rOrB rfl (evg rfl hb) rfl (evgp rfl hb)) ?_
       refine st rfl rfl rfl rfl (rAndB rfl rfl rfl rfl) ?_
       refine tr_cond_bool rfl (fun h15 => ?_) (fun h15 => ?_)
       · try simp only [zbA] at h15
         refine tr_region fun _ _ _ => ?_
         iterate 2 refine pu rfl rfl rfl rfl rfl ?_
         refine tr_region fun _ _ _ => ?_
         refine st rfl rfl rfl rfl (rAdd rfl rfl rfl (by omega) (by omega)) ?_
         refine pu rfl rfl rfl rfl rfl ?_
         refine ⟨i + 1, (ts.getD k.toNat rowD).xs.getD i.toNat 0, ⟨rfl, rfl, rfl, rfl, rfl, rfl, rfl, rfl, rfl, rfl, rfl, rfl, rfl, rfl, trivial⟩, by first | exact cs _ _ | exact CSub.refl _, ?_⟩
         exact ⟨⟨⟨by omega, by omega⟩, by rw [show (i + 1).toNat = i.toNat + 1 by omega, sec_yes (by rw [← hs]; omega)]⟩, by omega⟩
       · try simp only [zbA] at h15
         refine tr_skip ?_
         refine tr_region fun _ _ _ => ?_
         refine st rfl rfl rfl rfl (rAdd rfl rfl rfl (by omega) (by omega)) ?_
         refine pu rfl rfl rfl rfl rfl ?_
         refine ⟨i + 1, s, ⟨rfl, rfl, rfl, rfl, rfl, rfl, rfl, rfl, rfl, rfl, rfl, rfl, rfl, rfl, trivial⟩, by first | exact cs _ _ | exact CSub.refl _, ?_⟩
         exact ⟨⟨⟨by omega, by omega⟩, by rw [show (i + 1).toNat = i.toNat + 1 by omega, sec_no (by rw [← hs]; omega)]; exact hs⟩, by omega⟩
     · try simp only [zbA] at h13
       refine tr_exit ?_
       refine tr_seq ?_
       refine tr_region fun _ _ _ => ?_
       iterate 2 refine pu rfl rfl rfl rfl rfl ?_
       refine ef rfl rfl (eLit1I rfl rfl rfl rfl (fun A18 => ?_)) 
       refine ef rfl rfl (eAppI rfl rfl rfl rfl rfl (by first | rfl | simp | omega) (by first | rfl | simp | omega) (by first | omega | (simp; omega)) (fun A18a c18a => ?_)) 
       refine pu rfl rfl rfl rfl rfl ?_
       have hrb := htk.at b.toNat
       have hsb := sec_bd (b := b.toNat) htk.2 (by omega) i.toNat (by omega)
       refine tr_region fun _ _ _ => ?_
       iterate 4 refine pu rfl rfl rfl rfl rfl ?_
       refine st rfl rfl rfl rfl (rIdxI rfl rfl rfl (by omega) (by omega) (by omega)) ?_
       refine st rfl rfl rfl rfl (rLdI rfl rfl (by omega)) ?_
       refine st rfl rfl rfl rfl (rSub rfl rfl rfl (by omega) (by omega)) ?_
       refine ef rfl rfl (eLit1I rfl rfl rfl rfl (fun A19 => ?_)) 
       refine ef rfl rfl (eAppI rfl rfl rfl rfl rfl (by first | rfl | simp | omega) (by first | rfl | simp | omega) (by first | omega | (simp; omega)) (fun A19a c19a => ?_)) 
       refine pu rfl rfl rfl rfl rfl ?_
       refine tr_region fun _ _ _ => ?_
       refine st rfl rfl rfl rfl (rAdd rfl rfl rfl (by omega) (by omega)) ?_
       refine pu rfl rfl rfl rfl rfl ?_
       refine ⟨k + 1, A18a, c18a, o ++ [b], A19a, c19a, u ++ [s - (ts.getD k.toNat rowD).xs.getD b.toNat 0], ⟨rfl, rfl, rfl, rfl, rfl, trivial⟩, by first | exact cs _ _ | exact CSub.refl _, ?_⟩
       have hkk : (k + 1).toNat = k.toNat + 1 := by omega
       have hbh : b = (hardI (ts.getD k.toNat rowD).xs : Int) := by rw [hb, show j.toNat = (ts.getD k.toNat rowD).xs.length by omega]; rfl
       have hsh : s - (ts.getD k.toNat rowD).xs.getD b.toNat 0 = relI (ts.getD k.toNat rowD).xs := by rw [hs, hbh, show i.toNat = (ts.getD k.toNat rowD).xs.length by omega]; rfl
       exact ⟨⟨⟨by omega, by omega⟩, by rw [hkk, hardL_take ts (by omega), ← ho, hbh], by rw [hkk, relL_take ts (by omega), ← hu, hsh]⟩, by omega⟩
 · try simp only [zbA] at h2
   refine tr_exit ?_
   refine tr_seq ?_
   refine tr_region fun _ _ _ => ?_
   iterate 4 refine pu rfl rfl rfl rfl rfl ?_
   have hkt : k.toNat = ts.length := by omega
   have ho2 : o = hardL ts := by rw [ho, hkt, ← hardL_length, List.take_length]
   have hu2 : u = relL ts := by rw [hu, hkt, ← relL_length, List.take_length]
   subst ho2 hu2
   exact tr_ret ⟨trivial, _, _, rfl, ⟨_, _, rfl, B, cb, D, cd, rfl, rfl, rfl⟩, cs _ _, trivial, trivial, trivial⟩
end Go.Proofs.YtfdjdokdabmmdaaGreat

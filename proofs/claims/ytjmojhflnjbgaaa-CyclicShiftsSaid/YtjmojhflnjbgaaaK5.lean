/-
  CYCLICSHIFTS, PART 5 OF 9. One sentence: the texts behind the law CyclicShifts, put together.
  Conditions: each theorem's own, written out in it.
-/
import Derived.Test.YtjmojhflnjbgaaaK4
set_option linter.unusedSimpArgs false
set_option linter.unusedVariables false
set_option linter.unusedSectionVars false
set_option linter.unusedSimpArgs false
set_option linter.unusedVariables false
set_option maxRecDepth 100000
namespace Go.Proofs.Ytjmojhflnjbgaaa
open Go.RowKit

noncomputable def entC (q : Int) (l : List Int) : Int := @ite _ (AllIn q l) (Classical.propDecidable _) 0 2
theorem entC_ok {q : Int} {l : List Int} (h : AllIn q l) : entC q l = 0 := by unfold entC; rw [if_pos h]
theorem entC_no {q : Int} {l : List Int} (h : ¬ AllIn q l) : entC q l = 2 := by unfold entC; rw [if_neg h]
theorem allIn_of_get {q : Int} {l : List Int} (h : ∀ j : Nat, j < l.length → 0 ≤ l.getD j 0 ∧ l.getD j 0 < q) : AllIn q l := fun z hz => by
  obtain ⟨j, hj, rfl⟩ := List.getElem_of_mem hz
  have := h j hj
  rw [List.getD_eq_getElem?_getD, List.getElem?_eq_getElem hj] at this
  exact this

theorem ref_Entries_ent : Enters Try.prog 30 := enters_of Try.func30 (by kernel_rfl) (by kernel_rfl)
theorem ref_Entries (p m : Int) (A : Option Addr) (c : Nat) (mod : List Int) (B : Option Addr) (n d : Nat) (l : List Int) (hn : n = l.length) (h9 : l.length ≤ 17592186044415) :
    Pure Try.prog 30 #[.agg #[.int .i64 p, .int .i64 m, .slice A mod.length c], .slice B n d] [ro A (ints mod), ro B (ints l)] (isV (.int .i64 (entC (ordI p m) l))) := by
  refine pure_of (args := [.agg #[.int .i64 p, .int .i64 m, .slice A mod.length c], .slice B n d]) 19 Try.func30 rfl rfl rfl ref_Entries_ent ⟨id, id, trivial⟩ (fun w0 => ?_)
  refine tr_seq ?_
  refine tr_region fun _ _ _ => ?_
  refine ef rfl rfl (eBox rfl rfl rfl rfl rfl (fun p0 => ?_)) 
  refine pu rfl rfl rfl rfl rfl ?_
  refine tr_seq ?_
  refine tr_seq ?_
  refine tr_region fun _ _ _ => ?_
  refine pu rfl rfl rfl rfl rfl ?_
  refine tr_block ?_
  refine tr_loop1 (fun (k : Int) => [(1, .slice B n d), (2, .pointer (some p0)), (5, .int .i64 k)]) (fun (k : Int) => [blk p0 36 [.int .i64 p, .int .i64 m, .slice A mod.length c], ro A (ints mod), ro B (ints l)]) (fun (k : Int) => (0 ≤ k ∧ k ≤ n) ∧ ∀ j : Nat, (j : Int) < k → 0 ≤ l.getD j 0 ∧ l.getD j 0 < ordI p m) (fun (k : Int) => (n - k).toNat) (0) ⟨rfl, rfl, rfl, trivial⟩ (by first | exact cs _ _ | exact CSub.refl _) (⟨⟨by omega, by omega⟩, fun j hj => by omega⟩) (fun k hI => ?_)
  obtain ⟨⟨hk0, hk1⟩, hall⟩ := hI
  refine tr_seq ?_
  refine tr_seq ?_
  refine tr_region fun _ _ _ => ?_
  iterate 2 refine pu rfl rfl rfl rfl rfl ?_
  refine st rfl rfl rfl rfl (rLen rfl rfl) ?_
  refine pu rfl rfl rfl rfl rfl ?_
  refine tr_cond_bool rfl (fun h2 => ?_) (fun h2 => ?_)
  · try simp only [zb1, zb2, zb3, zb4, zb5, zb6, zb7, zb8, zb9, zb10] at h2
    refine tr_skip ?_
    refine tr_seq ?_
    refine tr_block ?_
    refine tr_seq ?_
    refine tr_draw [0, 1, 2, 3, 4, 5, 6] [] mixed (by kernel_rfl) fun _ _ _ => ?_
    refine st rfl rfl rfl rfl (rLdS rfl rfl rfl) ?_
    iterate 2 refine pu rfl rfl rfl rfl rfl ?_
    refine st rfl rfl rfl rfl (rIdxI rfl rfl rfl (by omega) (by omega) (by omega)) ?_
    refine st rfl rfl rfl rfl (rLdI rfl rfl (by omega)) ?_
    refine ef rfl rfl (eCallV rfl rfl rfl (ref_Is _ _ _ _ _ _) ⟨rfl, rfl, trivial⟩ ?_) 
    refine st rfl rfl rfl rfl (rNotB rfl rfl) ?_
    refine tr_cond_bool rfl (fun h4 => ?_) (fun h4 => ?_)
    · try simp only [zb1, zb2, zb3, zb4, zb5, zb6, zb7, zb8, zb9, zb10] at h4
      refine tr_seq ?_
      refine tr_region fun _ _ _ => ?_
      refine pu rfl rfl rfl rfl rfl ?_
      have hno : ¬ AllIn (ordI p m) l := fun h => by
        have hb := h (l.getD k.toNat 0) (getD_mem (by omega) _)
        omega
      exact tr_ret ⟨trivial, _, _, rfl, ⟨by rw [entC_no hno], rfl⟩, CSub.nil _, trivial⟩
    · try simp only [zb1, zb2, zb3, zb4, zb5, zb6, zb7, zb8, zb9, zb10] at h4
      refine tr_skip ?_
      refine tr_region fun _ _ _ => ?_
      refine pu rfl rfl rfl rfl rfl ?_
      refine st rfl rfl rfl rfl (rAdd rfl rfl rfl (by omega) (by omega)) ?_
      refine pu rfl rfl rfl rfl rfl ?_
      refine ⟨k + 1, ⟨rfl, rfl, rfl, trivial⟩, by first | exact cs _ _ | exact CSub.refl _, ?_⟩
      refine ⟨⟨⟨by omega, by omega⟩, fun j hj => ?_⟩, by omega⟩
      by_cases he : (j : Int) = k
      · have : j = k.toNat := by omega
        subst this; omega
      · exact hall j (by omega)
  · try simp only [zb1, zb2, zb3, zb4, zb5, zb6, zb7, zb8, zb9, zb10] at h2
    refine tr_exit ?_
    refine tr_seq ?_
    refine tr_region fun _ _ _ => ?_
    refine pu rfl rfl rfl rfl rfl ?_
    have hok : AllIn (ordI p m) l := allIn_of_get fun j hj => hall j (by omega)
    exact tr_ret ⟨trivial, _, _, rfl, ⟨by rw [entC_ok hok], rfl⟩, CSub.nil _, trivial⟩

theorem ref_scale_ent : Enters Try.prog 206 := enters_of Try.func206 (by kernel_rfl) (by kernel_rfl)
theorem ref_scale (p m : Int) (A : Option Addr) (c : Nat) (mod : List Int) [hF : IsF p m mod] (x : Int) (B : Option Addr) (n d : Nat) (l : List Int) (hn : n = l.length) (h9 : l.length ≤ 1000000) :
    Pure Try.prog 206 #[.agg #[.int .i64 p, .int .i64 m, .slice A mod.length c], .int .i64 x, .slice B n d] [ro A (ints mod), ro B (ints l)] (one (fun v ch => ∃ C, v = .slice C n n ∧ ch = ow C 3 n (ints (sclR (el x : El p m mod) l)))) := by
  refine pure_of (args := [.agg #[.int .i64 p, .int .i64 m, .slice A mod.length c], .int .i64 x, .slice B n d]) 29 Try.func206 rfl rfl rfl ref_scale_ent ⟨id, id, trivial⟩ (fun w0 => ?_)
  refine tr_seq ?_
  refine tr_region fun _ _ _ => ?_
  refine ef rfl rfl (eBox rfl rfl rfl rfl rfl (fun p0 => ?_)) 
  refine pu rfl rfl rfl rfl rfl ?_
  refine tr_seq ?_
  refine tr_region fun _ _ _ => ?_
  refine pu rfl rfl rfl rfl rfl ?_
  refine st rfl rfl rfl rfl (rLen rfl rfl) ?_
  refine ef rfl rfl (eMakeI rfl rfl rfl rfl rfl (by omega) (by omega) (by omega) (fun A1 => ?_)) 
  refine pu rfl rfl rfl rfl rfl ?_
  simp only [Int.toNat_natCast]
  refine tr_seq ?_
  refine tr_seq ?_
  refine tr_region fun _ _ _ => ?_
  refine pu rfl rfl rfl rfl rfl ?_
  refine tr_block ?_
  refine tr_loop2 (fun (k : Int) (o : List Int) => [(1, .int .i64 x), (2, .slice B n d), (3, .pointer (some p0)), (7, .slice A1 n n), (8, .int .i64 k)]) (fun (k : Int) (o : List Int) => [ow A1 3 n (ints o), blk p0 36 [.int .i64 p, .int .i64 m, .slice A mod.length c], ro A (ints mod), ro B (ints l)]) (fun (k : Int) (o : List Int) => (0 ≤ k ∧ k ≤ n) ∧ o.length = n ∧ ∀ j : Nat, (j : Int) < k → o.getD j 0 = (el x * el (l.getD j 0) : El p m mod).1) (fun (k : Int) (o : List Int) => (n - k).toNat) (0) (List.replicate n 0) ⟨rfl, rfl, rfl, rfl, rfl, trivial⟩ (by first | exact cs _ _ | exact CSub.refl _) (⟨⟨by omega, by omega⟩, by simp, fun j hj => by omega⟩) (fun k o hI => ?_)
  obtain ⟨⟨hk0, hk1⟩, hol, ho⟩ := hI
  refine tr_seq ?_
  refine tr_seq ?_
  refine tr_region fun _ _ _ => ?_
  iterate 2 refine pu rfl rfl rfl rfl rfl ?_
  refine st rfl rfl rfl rfl (rLen rfl rfl) ?_
  refine pu rfl rfl rfl rfl rfl ?_
  refine tr_cond_bool rfl (fun h3 => ?_) (fun h3 => ?_)
  · try simp only [zb1, zb2, zb3, zb4, zb5, zb6, zb7, zb8, zb9, zb10] at h3
    refine tr_skip ?_
    refine tr_seq ?_
    refine tr_block ?_
    refine tr_draw [0, 1, 2, 3, 4, 5, 6, 7, 8, 9] [10] mixed (by kernel_rfl) fun _ _ _ => ?_
    iterate 2 refine pu rfl rfl rfl rfl rfl ?_
    refine st rfl rfl rfl rfl (rLdS rfl rfl rfl) ?_
    iterate 3 refine pu rfl rfl rfl rfl rfl ?_
    refine st rfl rfl rfl rfl (rIdxI rfl rfl rfl (by omega) (by omega) (by omega)) ?_
    refine st rfl rfl rfl rfl (rLdI rfl rfl (by omega)) ?_
    refine ef rfl rfl (eCallV rfl rfl rfl (ref_MulE _ _ _ _ _ _ _) ⟨rfl, rfl, rfl, trivial⟩ ?_) 
    refine st rfl rfl rfl rfl (rIdxI rfl rfl rfl (by omega) (by omega) (by omega)) ?_
    refine ef rfl rfl (eStI rfl rfl rfl rfl (by omega) ?_) 
    refine tr_region fun _ _ _ => ?_
    refine pu rfl rfl rfl rfl rfl ?_
    refine st rfl rfl rfl rfl (rAdd rfl rfl rfl (by omega) (by omega)) ?_
    refine pu rfl rfl rfl rfl rfl ?_
    refine ⟨k + 1, o.set k.toNat (el x * el (l.getD k.toNat 0) : El p m mod).1, ⟨rfl, rfl, rfl, rfl, rfl, trivial⟩, by first | exact cs _ _ | exact CSub.refl _, ?_⟩
    refine ⟨⟨⟨by omega, by omega⟩, by simpa using hol, fun j hj => ?_⟩, by omega⟩
    rw [getD_set]
    by_cases he : k.toNat = j
    · subst he; rw [if_pos ⟨rfl, by omega⟩]
    · rw [if_neg (fun e => he e.1)]; exact ho j (by omega)
  · try simp only [zb1, zb2, zb3, zb4, zb5, zb6, zb7, zb8, zb9, zb10] at h3
    refine tr_exit ?_
    refine tr_seq ?_
    refine tr_region fun _ _ _ => ?_
    iterate 2 refine pu rfl rfl rfl rfl rfl ?_
    have hfin : o = sclR (el x : El p m mod) l := by
      refine List.ext_getElem (by simp; omega) fun j h1 h2 => ?_
      have h3 := ho j (by omega)
      rw [List.getD_eq_getElem?_getD, List.getElem?_eq_getElem h1, List.getD_eq_getElem?_getD, List.getElem?_eq_getElem (show j < l.length by omega)] at h3
      simpa [sclR] using h3
    rw [← hfin]
    exact tr_ret ⟨trivial, _, _, rfl, ⟨_, rfl, _, rfl, rfl⟩, cs _ _, trivial, trivial⟩

theorem ref_AddTo_ent : Enters Try.prog 108 := enters_of Try.func108 (by kernel_rfl) (by kernel_rfl)
theorem ref_AddTo (p m : Int) (A : Option Addr) (c : Nat) (mod : List Int) [hF : IsF p m mod] (Aa : Option Addr) (na ca : Nat) (a : List Int) (hna : na = a.length) (ha9 : a.length ≤ 1000000) (x : Int) (B : Option Addr) (nb cb : Nat) (b : List Int) (hnb : nb = b.length) (hab : b.length = a.length) (hin : AllIn (pw p m) a) :
    Pure Try.prog 108 #[.agg #[.int .i64 p, .int .i64 m, .slice A mod.length c], .slice Aa na ca, .int .i64 x, .slice B nb cb] [ro A (ints mod), ro Aa (ints a), ro B (ints b)] (one (fun v ch => ∃ C, v = .slice C na na ∧ ch = ow C 3 na (ints (addR (el x : El p m mod) a b)))) := by
  refine pure_of (args := [.agg #[.int .i64 p, .int .i64 m, .slice A mod.length c], .slice Aa na ca, .int .i64 x, .slice B nb cb]) 49 Try.func108 rfl rfl rfl ref_AddTo_ent ⟨id, id, id, trivial⟩ (fun w0 => ?_)
  refine tr_seq ?_
  refine tr_region fun _ _ _ => ?_
  refine ef rfl rfl (eBox rfl rfl rfl rfl rfl (fun p0 => ?_)) 
  refine pu rfl rfl rfl rfl rfl ?_
  refine tr_seq ?_
  refine tr_region fun _ _ _ => ?_
  refine pu rfl rfl rfl rfl rfl ?_
  refine st rfl rfl rfl rfl (rLen rfl rfl) ?_
  refine ef rfl rfl (eMakeI rfl rfl rfl rfl rfl (by omega) (by omega) (by omega) (fun A1 => ?_)) 
  refine pu rfl rfl rfl rfl rfl ?_
  simp only [Int.toNat_natCast]
  refine tr_seq ?_
  refine tr_seq ?_
  refine tr_region fun _ _ _ => ?_
  refine pu rfl rfl rfl rfl rfl ?_
  refine tr_block ?_
  refine tr_loop2 (fun (k : Int) (o : List Int) => [(1, .slice Aa na ca), (2, .int .i64 x), (3, .slice B nb cb), (4, .pointer (some p0)), (9, .slice A1 na na), (10, .int .i64 k)]) (fun (k : Int) (o : List Int) => [ow A1 3 na (ints o), blk p0 36 [.int .i64 p, .int .i64 m, .slice A mod.length c], ro A (ints mod), ro Aa (ints a), ro B (ints b)]) (fun (k : Int) (o : List Int) => (0 ≤ k ∧ k ≤ na) ∧ o.length = na ∧ ∀ j : Nat, (j : Int) < k → o.getD j 0 = (el (a.getD j 0) + el x * el (b.getD j 0) : El p m mod).1) (fun (k : Int) (o : List Int) => (na - k).toNat) (0) (List.replicate na 0) ⟨rfl, rfl, rfl, rfl, rfl, rfl, trivial⟩ (by first | exact cs _ _ | exact CSub.refl _) (⟨⟨by omega, by omega⟩, by simp, fun j hj => by omega⟩) (fun k o hI => ?_)
  obtain ⟨⟨hk0, hk1⟩, hol, ho⟩ := hI
  have hsl : (o.set k.toNat (a.getD k.toNat 0)).length = na := by simpa using hol
  refine tr_seq ?_
  refine tr_seq ?_
  refine tr_region fun _ _ _ => ?_
  iterate 2 refine pu rfl rfl rfl rfl rfl ?_
  refine st rfl rfl rfl rfl (rLen rfl rfl) ?_
  refine pu rfl rfl rfl rfl rfl ?_
  refine tr_cond_bool rfl (fun h3 => ?_) (fun h3 => ?_)
  · try simp only [zb1, zb2, zb3, zb4, zb5, zb6, zb7, zb8, zb9, zb10] at h3
    refine tr_skip ?_
    refine tr_seq ?_
    refine tr_block ?_
    refine tr_seq ?_
    refine tr_region fun _ _ _ => ?_
    iterate 4 refine pu rfl rfl rfl rfl rfl ?_
    refine st rfl rfl rfl rfl (rIdxI rfl rfl rfl (by omega) (by omega) (by omega)) ?_
    refine st rfl rfl rfl rfl (rLdI rfl rfl (by omega)) ?_
    refine st rfl rfl rfl rfl (rIdxI rfl rfl rfl (by omega) (by omega) (by omega)) ?_
    refine ef rfl rfl (eStI rfl rfl rfl rfl (by omega) ?_) 
    refine tr_seq ?_
    refine tr_region fun _ _ _ => ?_
    iterate 2 refine pu rfl rfl rfl rfl rfl ?_
    refine st rfl rfl rfl rfl (rIdxI rfl rfl rfl (by omega) (by omega) (by omega)) ?_
    refine st rfl rfl rfl rfl (rLdI rfl rfl (by omega)) ?_
    refine pu rfl rfl rfl rfl rfl ?_
    refine tr_cond_bool rfl (fun h6 => ?_) (fun h6 => ?_)
    · try simp only [zb1, zb2, zb3, zb4, zb5, zb6, zb7, zb8, zb9, zb10] at h6
      refine tr_draw [0, 1, 2, 3, 4, 5, 6, 7, 8, 9, 10, 11, 12, 13, 14, 15] [16] mixed (by kernel_rfl) fun _ _ _ => ?_
      iterate 2 refine pu rfl rfl rfl rfl rfl ?_
      refine st rfl rfl rfl rfl (rLdS rfl rfl rfl) ?_
      iterate 2 refine pu rfl rfl rfl rfl rfl ?_
      refine st rfl rfl rfl rfl (rIdxI rfl rfl rfl (by omega) (by omega) (by omega)) ?_
      refine st rfl rfl rfl rfl (rLdI rfl rfl (by omega)) ?_
      refine st rfl rfl rfl rfl (rLdS rfl rfl rfl) ?_
      iterate 3 refine pu rfl rfl rfl rfl rfl ?_
      refine st rfl rfl rfl rfl (rIdxI rfl rfl rfl (by omega) (by omega) (by omega)) ?_
      refine st rfl rfl rfl rfl (rLdI rfl rfl (by omega)) ?_
      refine ef rfl rfl (eCallV rfl rfl rfl (ref_MulE _ _ _ _ _ _ _) ⟨rfl, rfl, rfl, trivial⟩ ?_) 
      refine ef rfl rfl (eCallV rfl rfl rfl (ref_AddE _ _ _ _ _ _ _) ⟨rfl, rfl, rfl, trivial⟩ ?_) 
      refine st rfl rfl rfl rfl (rIdxI rfl rfl rfl (by omega) (by omega) (by omega)) ?_
      refine ef rfl rfl (eStI rfl rfl rfl rfl (by omega) ?_) 
      refine tr_region fun _ _ _ => ?_
      refine pu rfl rfl rfl rfl rfl ?_
      refine st rfl rfl rfl rfl (rAdd rfl rfl rfl (by omega) (by omega)) ?_
      refine pu rfl rfl rfl rfl rfl ?_
      refine ⟨k + 1, (o.set k.toNat (a.getD k.toNat 0)).set k.toNat (el (a.getD k.toNat 0) + el (el x * el (b.getD k.toNat 0) : El p m mod).1 : El p m mod).1, ⟨rfl, rfl, rfl, rfl, rfl, rfl, trivial⟩, by first | exact cs _ _ | exact CSub.refl _, ?_⟩
      refine ⟨⟨⟨by omega, by omega⟩, by simpa using hol, fun j hj => ?_⟩, by omega⟩
      rw [getD_set, getD_set]
      by_cases he : k.toNat = j
      · subst he; rw [if_pos ⟨rfl, by omega⟩, el_of]
      · rw [if_neg (fun e => he e.1), if_neg (fun e => he e.1)]; exact ho j (by omega)
    · try simp only [zb1, zb2, zb3, zb4, zb5, zb6, zb7, zb8, zb9, zb10] at h6
      refine tr_skip ?_
      refine tr_region fun _ _ _ => ?_
      refine pu rfl rfl rfl rfl rfl ?_
      refine st rfl rfl rfl rfl (rAdd rfl rfl rfl (by omega) (by omega)) ?_
      refine pu rfl rfl rfl rfl rfl ?_
      refine ⟨k + 1, o.set k.toNat (a.getD k.toNat 0), ⟨rfl, rfl, rfl, rfl, rfl, rfl, trivial⟩, by first | exact cs _ _ | exact CSub.refl _, ?_⟩
      refine ⟨⟨⟨by omega, by omega⟩, by simpa using hol, fun j hj => ?_⟩, by omega⟩
      rw [getD_set]
      by_cases he : k.toNat = j
      · subst he
        have hb := hin.get (by have := hF.q2; omega) k.toNat
        rw [if_pos ⟨rfl, by omega⟩, show b.getD k.toNat 0 = 0 by omega, el_zero, Rg.mul_zero, Rg.add_zero, el_in hb]
      · rw [if_neg (fun e => he e.1)]; exact ho j (by omega)
  · try simp only [zb1, zb2, zb3, zb4, zb5, zb6, zb7, zb8, zb9, zb10] at h3
    refine tr_exit ?_
    refine tr_seq ?_
    refine tr_region fun _ _ _ => ?_
    iterate 2 refine pu rfl rfl rfl rfl rfl ?_
    have hfin : o = addR (el x : El p m mod) a b := ext_getD (by simp; omega) fun t => by
      by_cases ht : t < a.length
      · rw [addR_get _ _ _ ht, ho t (by omega)]
      · rw [getD_out (by omega), getD_out (by simp; omega)]
    rw [← hfin]
    exact tr_ret ⟨trivial, _, _, rfl, ⟨_, rfl, _, rfl, rfl⟩, cs _ _, trivial, trivial⟩

theorem ref_Copy_ent : Enters Try.prog 205 := enters_of Try.func205 (by kernel_rfl) (by kernel_rfl)
theorem ref_Copy (A : Option Addr) (n c : Nat) (rs : List RowM) (hn : n = rs.length) (h9 : rs.length ≤ 1000000) (h8 : ∀ r ∈ rs, r.xs.length ≤ 1000000) :
    Pure Try.prog 205 #[.slice A n c] [ro A (hdrs rs), rowsR rs] (two (fun v ca cb => ∃ B cap qs, v = .slice B qs.length cap ∧ ca = ow B 22 cap (hdrs qs) ∧ cb = rowsCh 3 qs ∧ qs.map (·.xs) = rs.map (·.xs))) := by
  refine pure_of (args := [.slice A n c]) 21 Try.func205 rfl rfl rfl ref_Copy_ent ⟨id, id, trivial⟩ (fun w0 => ?_)
  refine tr_seq ?_
  refine tr_region fun _ _ _ => ?_
  refine pu rfl rfl rfl rfl rfl ?_
  refine tr_seq ?_
  refine tr_region fun _ _ _ => ?_
  refine pu rfl rfl rfl rfl rfl ?_
  refine tr_seq ?_
  refine tr_seq ?_
  refine tr_region fun _ _ _ => ?_
  refine pu rfl rfl rfl rfl rfl ?_
  refine tr_block ?_
  refine tr_nilR 22 3 ?_
  refine tr_loop4 (fun (k : Int) (AQ : Option Addr) (cq : Nat) (qs : List RowM) => [(0, .slice A n c), (3, .slice AQ qs.length cq), (4, .int .i64 k)]) (fun (k : Int) (AQ : Option Addr) (cq : Nat) (qs : List RowM) => [ow AQ 22 cq (hdrs qs), rowsCh 3 qs, ro A (hdrs rs), rowsR rs]) (fun (k : Int) (AQ : Option Addr) (cq : Nat) (qs : List RowM) => (0 ≤ k ∧ k ≤ n) ∧ qs.map (·.xs) = (rs.take k.toNat).map (·.xs)) (fun (k : Int) (AQ : Option Addr) (cq : Nat) (qs : List RowM) => (n - k).toNat) (0) (none) (0) ([]) ⟨rfl, rfl, rfl, trivial⟩ (by first | exact cs _ _ | exact CSub.refl _) (⟨⟨by omega, by omega⟩, rfl⟩) (fun k AQ cq qs hI => ?_)
  obtain ⟨⟨hk0, hk1⟩, hq⟩ := hI
  have hql : qs.length ≤ n := by have := congrArg List.length hq; simp at this; omega
  refine tr_seq ?_
  refine tr_seq ?_
  refine tr_region fun _ _ _ => ?_
  iterate 2 refine pu rfl rfl rfl rfl rfl ?_
  refine st rfl rfl rfl rfl (rLen rfl rfl) ?_
  refine pu rfl rfl rfl rfl rfl ?_
  refine tr_cond_bool rfl (fun h3 => ?_) (fun h3 => ?_)
  · try simp only [zb1, zb2, zb3, zb4, zb5, zb6, zb7, zb8, zb9, zb10] at h3
    refine tr_skip ?_
    refine tr_seq ?_
    refine tr_block ?_
    haveI : InB k.toNat rs.length := ⟨by omega⟩
    have h8k := h8 _ (getD_mem (show k.toNat < rs.length by omega) rowD)
    have h8q : (rs[k.toNat]?.getD rowD).xs.length ≤ 1000000 := by rw [← List.getD_eq_getElem?_getD]; exact h8k
    refine tr_region fun _ _ _ => ?_
    refine pu rfl rfl rfl rfl rfl ?_
    refine ef rfl rfl (eLit0I rfl rfl rfl  (fun A5 => ?_)) 
    iterate 2 refine pu rfl rfl rfl rfl rfl ?_
    refine st rfl rfl rfl rfl (rIdxR rfl rfl rfl (by omega) (by omega) (by omega)) ?_
    refine st rfl rfl rfl rfl (rLdR rfl rfl (by omega)) ?_
    refine ef rfl rfl (eAppI rfl rfl rfl rfl rfl (by first | rfl | simp) (by first | rfl | simp) (by first | omega | (simp; omega)) (fun A5a c5a => ?_)) 
    refine ef rfl rfl (eLit1 rfl rfl rfl rfl rfl (fun A5b => ?_)) 
    refine ef rfl rfl (eAppR rfl rfl rfl rfl rfl (by first | rfl | simp) (by omega) (fun A5c c5c => ?_)) 
    refine pu rfl rfl rfl rfl rfl ?_
    refine tr_region fun _ _ _ => ?_
    refine pu rfl rfl rfl rfl rfl ?_
    refine st rfl rfl rfl rfl (rAdd rfl rfl rfl (by omega) (by omega)) ?_
    refine pu rfl rfl rfl rfl rfl ?_
    refine ⟨k + 1, A5c, c5c, qs ++ [⟨A5a, c5a, [] ++ (rs.getD k.toNat rowD).xs⟩], ⟨rfl, rfl, rfl, trivial⟩, by exact rows_app, ?_⟩
    refine ⟨⟨⟨by omega, by omega⟩, ?_⟩, by omega⟩
    rw [List.map_append, hq, show (k + 1).toNat = k.toNat + 1 by omega, List.take_add_one, List.getElem?_eq_getElem (show k.toNat < rs.length by omega), List.map_append]
    simp [List.getD_eq_getElem?_getD, show k.toNat < rs.length by omega]
  · try simp only [zb1, zb2, zb3, zb4, zb5, zb6, zb7, zb8, zb9, zb10] at h3
    refine tr_exit ?_
    refine tr_seq ?_
    refine tr_region fun _ _ _ => ?_
    iterate 2 refine pu rfl rfl rfl rfl rfl ?_
    have hkn : k.toNat = rs.length := by omega
    rw [hkn, List.take_length] at hq
    exact tr_ret ⟨trivial, _, _, rfl, ⟨_, _, rfl, AQ, cq, qs, rfl, rfl, rfl, hq⟩, cs _ _, trivial, trivial, trivial⟩

end Go.Proofs.Ytjmojhflnjbgaaa

set_option linter.unusedSimpArgs false
set_option linter.unusedVariables false
set_option maxRecDepth 100000
namespace Go.Proofs.Ytjmojhflnjbgaaa
open Go.RowKit

theorem ref_Eliminate_ent : Enters Try.prog 176 := enters_of Try.func176 (by kernel_rfl) (by kernel_rfl)
theorem ref_Eliminate (p m : Int) (A : Option Addr) (c : Nat) (mod : List Int) [hF : IsF p m mod] (w : Int) (hw0 : 0 ≤ w) (hw9 : w ≤ 1000000) (Aa : Option Addr) (n ca : Nat) (rs : List RowM) (hn : n = rs.length) (hr9 : rs.length ≤ 1000000) (hgd0 : Gd (pw p m) w.toNat rs) :
    Pure Try.prog 176 #[.agg #[.int .i64 p, .int .i64 m, .slice A mod.length c], .slice Aa n ca, .int .i64 w] [ro A (ints mod), ro Aa (hdrs rs), rowsR rs] (three (fun v ca cb cc => ∃ r2 B cb1 Bp cb2 ps qs, v = .tuple #[.slice B r2.length cb1, .slice Bp ps.length cb2] ∧ ca = ow B 22 cb1 (hdrs r2) ∧ cb = rowsCh 3 r2 ∧ cc = ow Bp 3 cb2 (ints ps) ∧ ps = qs.map Int.ofNat ∧ r2.length = rs.length ∧ Gd (pw p m) w.toNat r2 ∧ qs.length ≤ rs.length ∧ Vc.Rr w.toNat ((vsR r2 : List (Vc (El p m mod))).take qs.length) qs ∧ ∀ u, Vc.SpL ((vsR r2 : List (Vc (El p m mod))).take qs.length) u ↔ Vc.SpL (vsR rs) u)) := by
  have hq2 := hF.q2
  have hr8 : ∀ r ∈ rs, r.xs.length ≤ 1000000 := fun r hr => by have := (hgd0 r hr).1; omega
  refine pure_of (args := [.agg #[.int .i64 p, .int .i64 m, .slice A mod.length c], .slice Aa n ca, .int .i64 w]) 137 Try.func176 rfl rfl rfl ref_Eliminate_ent ⟨id, id, id, trivial⟩ (fun w0 => ?_)
  refine tr_seq ?_
  refine tr_region fun _ _ _ => ?_
  refine ef rfl rfl (eBox rfl rfl rfl rfl rfl (fun p0 => ?_)) 
  iterate 2 refine pu rfl rfl rfl rfl rfl ?_
  refine tr_seq ?_
  refine tr_region fun _ _ _ => ?_
  refine pu rfl rfl rfl rfl rfl ?_
  refine ef rfl rfl (eCall2 rfl rfl rfl (ref_Copy Aa n ca rs hn hr9 hr8) ⟨rfl, trivial⟩ ?_) 
  rintro _ _ _ ⟨B1, c1, qs1, rfl, rfl, rfl, hqs1⟩
  refine pu rfl rfl rfl rfl rfl ?_
  refine tr_seq ?_
  have hlq : qs1.length = n := by have := congrArg List.length hqs1; simp at this; omega
  rw [hlq]
  refine tr_region fun _ _ _ => ?_
  refine pu rfl rfl rfl rfl rfl ?_
  refine tr_seq ?_
  refine tr_region fun _ _ _ => ?_
  refine pu rfl rfl rfl rfl rfl ?_
  refine tr_seq ?_
  refine tr_seq ?_
  refine tr_region fun _ _ _ => ?_
  refine pu rfl rfl rfl rfl rfl ?_
  refine tr_block ?_
  refine tr_nilI 3 ?_
  refine tr_loop6 (fun (cc : Int) (k : Int) (ps : List Int) (AP : Option Addr) (cP : Nat) (r2 : List RowM) => [(2, .int .i64 w), (3, .pointer (some p0)), (8, .slice B1 n c1), (9, .slice AP ps.length cP), (10, .int .i64 k), (11, .int .i64 cc)]) (fun (cc : Int) (k : Int) (ps : List Int) (AP : Option Addr) (cP : Nat) (r2 : List RowM) => [ow AP 3 cP (ints ps), ow B1 22 c1 (hdrs r2), rowsCh 3 r2, blk p0 36 [.int .i64 p, .int .i64 m, .slice A mod.length c], ro A (ints mod)]) (fun (cc : Int) (k : Int) (ps : List Int) (AP : Option Addr) (cP : Nat) (r2 : List RowM) => (0 ≤ cc ∧ cc ≤ w) ∧ (r2.length = rs.length ∧ Gd (pw p m) w.toNat r2) ∧ ∃ qs, ps = qs.map Int.ofNat ∧ k = qs.length ∧ Vc.Eli (Vc.SpL (vsR rs : List (Vc (El p m mod)))) w.toNat (vsR r2) cc.toNat qs) (fun (cc : Int) (k : Int) (ps : List Int) (AP : Option Addr) (cP : Nat) (r2 : List RowM) => (w - cc).toNat) (0) (0) ([]) (none) (0) (qs1) ⟨rfl, rfl, rfl, rfl, rfl, rfl, trivial⟩ (by first | exact cs _ _ | exact CSub.refl _) (⟨⟨by omega, by omega⟩, ⟨by omega, Gd.of hqs1 hgd0⟩, [], rfl, rfl, by rw [← vsR_of hqs1]; exact Vc.Eli.start fun i j hi hj => by rw [vsR_at, getD_out (by rw [((Gd.of hqs1 hgd0).get (by simpa using hi)).1]; omega), el_zero]⟩) (fun cc k ps AP cP r2 hI => ?_)
  obtain ⟨⟨hc0, hc1⟩, ⟨hrl, hgd⟩, qs, hps, hkq, hE⟩ := hI
  have hpl : ps.length = qs.length := by rw [hps, List.length_map]
  have hEl := hE.len
  rw [vsR_length] at hEl
  refine tr_seq ?_
  refine tr_seq ?_
  refine tr_region fun _ _ _ => ?_
  iterate 4 refine pu rfl rfl rfl rfl rfl ?_
  refine stg rfl rfl rfl rfl rfl (fun hb => by (have hq := hb; try simp only [zb1, zb2, zb3, zb4, zb5, zb6, zb7, zb8, zb9, zb10] at hq); exact rMove rfl rfl) ?_
  refine stg rfl rfl rfl rfl rfl (fun hb => by (have hq := hb; try simp only [zb1, zb2, zb3, zb4, zb5, zb6, zb7, zb8, zb9, zb10] at hq); exact rMove rfl rfl) ?_
  refine stg rfl rfl rfl rfl rfl (fun hb => by (have hq := hb; try simp only [zb1, zb2, zb3, zb4, zb5, zb6, zb7, zb8, zb9, zb10] at hq); exact rLen rfl (evg rfl hb)) ?_
  refine stg rfl rfl rfl rfl rfl (fun hb => by (have hq := hb; try simp only [zb1, zb2, zb3, zb4, zb5, zb6, zb7, zb8, zb9, zb10] at hq); exact rLss rfl (evg rfl hb) (evg rfl hb)) ?_
  refine st rfl rfl rfl rfl (rAndB rfl rfl rfl rfl) ?_
  refine tr_cond_bool rfl (fun h5 => ?_) (fun h5 => ?_)
  · try simp only [zb1, zb2, zb3, zb4, zb5, zb6, zb7, zb8, zb9, zb10] at h5
    refine tr_skip ?_
    refine tr_seq ?_
    refine tr_block ?_
    refine tr_seq ?_
    refine tr_region fun _ _ _ => ?_
    iterate 2 refine pu rfl rfl rfl rfl rfl ?_
    refine tr_seq ?_
    refine tr_block ?_
    refine tr_loop1 (fun (ta : Int) => [(2, .int .i64 w), (3, .pointer (some p0)), (8, .slice B1 n c1), (9, .slice AP ps.length cP), (10, .int .i64 k), (11, .int .i64 cc), (12, .int .i64 ta)]) (fun (ta : Int) => [ow AP 3 cP (ints ps), ow B1 22 c1 (hdrs r2), rowsCh 3 r2, blk p0 36 [.int .i64 p, .int .i64 m, .slice A mod.length c], ro A (ints mod)]) (fun (ta : Int) => (k ≤ ta ∧ ta ≤ n) ∧ ∀ i : Nat, k ≤ i → (i : Int) < ta → (r2.getD i rowD).xs.getD cc.toNat 0 = 0) (fun (ta : Int) => (n - ta).toNat) (k) ⟨rfl, rfl, rfl, rfl, rfl, rfl, rfl, trivial⟩ (by first | exact cs _ _ | exact CSub.refl _) (⟨⟨by omega, by omega⟩, fun i h1 h2 => by omega⟩) (fun ta hI => ?_)
    obtain ⟨⟨ht0, ht1⟩, htz⟩ := hI
    refine tr_seq ?_
    refine tr_seq ?_
    refine tr_region fun _ _ _ => ?_
    iterate 2 refine pu rfl rfl rfl rfl rfl ?_
    refine st rfl rfl rfl rfl (rLen rfl rfl) ?_
    iterate 2 refine pu rfl rfl rfl rfl rfl ?_
    refine stg rfl rfl rfl rfl rfl (fun hb => by (have hq := hb; try simp only [zb1, zb2, zb3, zb4, zb5, zb6, zb7, zb8, zb9, zb10] at hq); exact rMove rfl rfl) ?_
    refine stg rfl rfl rfl rfl rfl (fun hb => by (have hq := hb; try simp only [zb1, zb2, zb3, zb4, zb5, zb6, zb7, zb8, zb9, zb10] at hq); exact rMove rfl rfl) ?_
    refine stg rfl rfl rfl rfl rfl (fun hb => by (have hq := hb; try simp only [zb1, zb2, zb3, zb4, zb5, zb6, zb7, zb8, zb9, zb10] at hq); exact rIdxR rfl (evg rfl hb) (evg rfl hb) (by omega) (by omega) (by omega)) ?_
    refine stg rfl rfl rfl rfl rfl (fun hb => by (have hq := hb; try simp only [zb1, zb2, zb3, zb4, zb5, zb6, zb7, zb8, zb9, zb10] at hq); exact rLdR rfl (evg rfl hb) (by omega)) ?_
    refine stg rfl rfl rfl rfl rfl (fun hb => by (have hq := hb; try simp only [zb1, zb2, zb3, zb4, zb5, zb6, zb7, zb8, zb9, zb10] at hq); exact rMove rfl rfl) ?_
    refine stg rfl rfl rfl rfl rfl (fun hb => by (have hq := hb; try simp only [zb1, zb2, zb3, zb4, zb5, zb6, zb7, zb8, zb9, zb10] at hq); exact (haveI : InB ta.toNat r2.length := ⟨by omega⟩; have hw := (hgd.get (show ta.toNat < r2.length by omega)).1; rIdxI rfl (evg rfl hb) (evg rfl hb) (by omega) (by omega) (by omega))) ?_
    refine stg rfl rfl rfl rfl rfl (fun hb => by (have hq := hb; try simp only [zb1, zb2, zb3, zb4, zb5, zb6, zb7, zb8, zb9, zb10] at hq); exact (haveI : InB ta.toNat r2.length := ⟨by omega⟩; have hw := (hgd.get (show ta.toNat < r2.length by omega)).1; rLdI rfl (evg rfl hb) (by omega))) ?_
    refine stg rfl rfl rfl rfl rfl (fun hb => by (have hq := hb; try simp only [zb1, zb2, zb3, zb4, zb5, zb6, zb7, zb8, zb9, zb10] at hq); exact rEql rfl (evg rfl hb) rfl) ?_
    refine st rfl rfl rfl rfl (rAndB rfl rfl rfl rfl) ?_
    refine tr_cond_bool rfl (fun h8 => ?_) (fun h8 => ?_)
    · try simp only [zb1, zb2, zb3, zb4, zb5, zb6, zb7, zb8, zb9, zb10] at h8
      refine tr_skip ?_
      refine tr_block ?_
      refine tr_region fun _ _ _ => ?_
      refine pu rfl rfl rfl rfl rfl ?_
      refine st rfl rfl rfl rfl (rAdd rfl rfl rfl (by omega) (by omega)) ?_
      refine pu rfl rfl rfl rfl rfl ?_
      refine ⟨ta + 1, ⟨rfl, rfl, rfl, rfl, rfl, rfl, rfl, trivial⟩, by first | exact cs _ _ | exact CSub.refl _, ?_⟩
      refine ⟨⟨⟨by omega, by omega⟩, fun i h1 h2 => ?_⟩, by omega⟩
      by_cases he : (i : Int) = ta
      · have : i = ta.toNat := by omega
        rw [this]; exact h8.2
      · exact htz i h1 (by omega)
    · try simp only [zb1, zb2, zb3, zb4, zb5, zb6, zb7, zb8, zb9, zb10] at h8
      refine tr_exit ?_
      refine tr_seq ?_
      refine tr_seq ?_
      refine tr_region fun _ _ _ => ?_
      iterate 2 refine pu rfl rfl rfl rfl rfl ?_
      refine st rfl rfl rfl rfl (rLen rfl rfl) ?_
      refine pu rfl rfl rfl rfl rfl ?_
      refine tr_cond_bool rfl (fun h10 => ?_) (fun h10 => ?_)
      · try simp only [zb1, zb2, zb3, zb4, zb5, zb6, zb7, zb8, zb9, zb10] at h10
        refine tr_exit ?_
        refine tr_region fun _ _ _ => ?_
        refine pu rfl rfl rfl rfl rfl ?_
        refine st rfl rfl rfl rfl (rAdd rfl rfl rfl (by omega) (by omega)) ?_
        refine pu rfl rfl rfl rfl rfl ?_
        refine ⟨cc + 1, k, ps, AP, cP, r2, ⟨rfl, rfl, rfl, rfl, rfl, rfl, trivial⟩, by first | exact cs _ _ | exact CSub.refl _, ?_⟩
        refine ⟨⟨⟨by omega, by omega⟩, ⟨hrl, hgd⟩, qs, hps, hkq, ?_⟩, by omega⟩
        rw [show (cc + 1).toNat = cc.toNat + 1 by omega]
        refine hE.skip fun i h1 h2 => ?_
        rw [vsR_length] at h2
        rw [vsR_at, htz i (by omega) (by omega), el_zero]
      · try simp only [zb1, zb2, zb3, zb4, zb5, zb6, zb7, zb8, zb9, zb10] at h10
        refine tr_skip ?_
        refine tr_seq ?_
        have hne : (r2.getD ta.toNat rowD).xs.getD cc.toNat 0 ≠ 0 := h8.resolve_left (fun h => h (by omega))
        have hkn : k.toNat = qs.length := by omega
        haveI : InB ta.toNat r2.length := ⟨by omega⟩
        haveI : InB k.toNat r2.length := ⟨by omega⟩
        refine tr_plan [] [(0, 0), (0, 1), (2, 2), (2, 3), (0, 4), (0, 5), (0, 6), (0, 7), (0, 8), (0, 9), (0, 10), (0, 11), (0, 12), (1, 13), (0, 14), (1, 15)] mixed (by kernel_rfl) fun _ _ _ => ?_
        iterate 2 refine pu rfl rfl rfl rfl rfl ?_
        refine stF rfl rfl rfl rfl (cs _ _) (rMove rfl rfl) ?_
        refine stF rfl rfl rfl rfl (cs _ _) (rMove rfl rfl) ?_
        iterate 2 refine pu rfl rfl rfl rfl rfl ?_
        refine st rfl rfl rfl rfl (rIdxR rfl rfl rfl (by omega) (by omega) (by omega)) ?_
        refine st rfl rfl rfl rfl (rLdR rfl rfl (by omega)) ?_
        iterate 2 refine pu rfl rfl rfl rfl rfl ?_
        refine st rfl rfl rfl rfl (rIdxR rfl rfl rfl (by omega) (by omega) (by omega)) ?_
        refine st rfl rfl rfl rfl (rLdR rfl rfl (by omega)) ?_
        refine st rfl rfl rfl rfl (rIdxR rfl rfl rfl (by omega) (by omega) (by omega)) ?_
        refine ef rfl rfl (eSt rfl rfl rfl rfl (by first | omega | (simp; omega)) rfl rfl ?_) 
        refine ⟨cs _ _, ?_⟩
        refine st rfl rfl rfl rfl (rIdx rfl rfl rfl (by omega) (by omega) (by simp; omega)) ?_
        refine ef rfl rfl (eSt rfl rfl rfl rfl (by first | omega | (simp; omega)) rfl rfl ?_) 
        refine ⟨cs _ _, ?_⟩
        have hh : ((hdrs r2).set k.toNat (.slice (r2.getD ta.toNat rowD).A (r2.getD ta.toNat rowD).xs.length (r2.getD ta.toNat rowD).cap)).set ta.toNat (.slice (r2.getD k.toNat rowD).A (r2.getD k.toNat rowD).xs.length (r2.getD k.toNat rowD).cap) = hdrs ((r2.set k.toNat (r2.getD ta.toNat rowD)).set ta.toNat (r2.getD k.toNat rowD)) := by rw [hdrs_set, hdrs_set]; rfl
        rw [hh]
        refine tr_chunks _ ((cs _ [rowsCh 3 r2, ow B1 22 c1 (hdrs ((r2.set k.toNat (r2.getD ta.toNat rowD)).set ta.toNat (r2.getD k.toNat rowD))), ow AP 3 cP (ints ps), blk p0 36 [.int .i64 p, .int .i64 m, .slice A mod.length c], ro A (ints mod)]).trans (rows_perm (swap_perm rowD r2 (i := k.toNat) (j := ta.toNat) (by omega) (by omega)) _)) ?_
        have hrl3 : ((r2.set k.toNat (r2.getD ta.toNat rowD)).set ta.toNat (r2.getD k.toNat rowD)).length = rs.length := by simpa using hrl
        have hgd3 := hgd.perm (swap_perm rowD r2 (i := k.toNat) (j := ta.toNat) (by omega) (by omega))
        have hE3 : Vc.Eli (Vc.SpL (vsR rs : List (Vc (El p m mod)))) w.toNat (vsR ((r2.set k.toNat (r2.getD ta.toNat rowD)).set ta.toNat (r2.getD k.toNat rowD))) cc.toNat qs := by
          have := hE.swap (a := ta.toNat) (by omega) (by rw [vsR_length]; omega)
          rw [← hkn, vsR_get, vsR_get] at this
          rw [vsR_set, vsR_set]; exact this
        have hne3 : (((r2.set k.toNat (r2.getD ta.toNat rowD)).set ta.toNat (r2.getD k.toNat rowD)).getD k.toNat rowD).xs.getD cc.toNat 0 ≠ 0 := by
          rw [row_set, row_set]
          by_cases e : ta.toNat = k.toNat
          · rw [if_pos ⟨e, by simp; omega⟩, ← e]; exact hne
          · rw [if_neg (fun x => e x.1), if_pos ⟨rfl, by omega⟩]; exact hne
        generalize (r2.set k.toNat (r2.getD ta.toNat rowD)).set ta.toNat (r2.getD k.toNat rowD) = r3 at hrl3 hgd3 hE3 hne3
        haveI : InB k.toNat r3.length := ⟨by omega⟩
        have hw3 := hgd3.get (show k.toNat < r3.length by omega)
        have hen := hw3.2.get (by omega) cc.toNat
        have hnz3 : (el ((r3.getD k.toNat rowD).xs.getD cc.toNat 0) : El p m mod) ≠ 0 := fun e => hne3 ((el_eq_zero hen).1 e)
        have hw31 := hw3.1
        refine tr_join (fun (q : (List RowM)) => match q with | r4 => [(2, .int .i64 w), (3, .pointer (some p0)), (8, .slice B1 n c1), (9, .slice AP ps.length cP), (10, .int .i64 k), (11, .int .i64 cc)]) (fun (q : (List RowM)) => match q with | r4 => [ow AP 3 cP (ints ps), ow B1 22 c1 (hdrs r4), rowsCh 3 r4, blk p0 36 [.int .i64 p, .int .i64 m, .slice A mod.length c], ro A (ints mod)]) (fun (q : (List RowM)) => match q with | r4 => (r4.length = rs.length ∧ Gd (pw p m) w.toNat r4) ∧ Vc.Eli (Vc.SpL (vsR rs : List (Vc (El p m mod)))) w.toNat (vsR r4) cc.toNat qs ∧ (r4.getD k.toNat rowD).xs.getD cc.toNat 0 = 1) ?_ ?_
        · refine tr_seq ?_
          refine tr_region fun _ _ _ => ?_
          iterate 2 refine pu rfl rfl rfl rfl rfl ?_
          refine st rfl rfl rfl rfl (rIdxR rfl rfl rfl (by omega) (by omega) (by omega)) ?_
          refine st rfl rfl rfl rfl (rLdR rfl rfl (by omega)) ?_
          refine pu rfl rfl rfl rfl rfl ?_
          refine st rfl rfl rfl rfl (rIdxI rfl rfl rfl (by omega) (by omega) (by omega)) ?_
          refine st rfl rfl rfl rfl (rLdI rfl rfl (by omega)) ?_
          refine pu rfl rfl rfl rfl rfl ?_
          refine tr_cond_bool rfl (fun h12 => ?_) (fun h12 => ?_)
          · try simp only [zb1, zb2, zb3, zb4, zb5, zb6, zb7, zb8, zb9, zb10] at h12
            refine tr_draw [0, 1, 2, 3, 4, 5, 6, 7, 8, 9, 10, 12, 13, 14, 15, 11, 16, 17] [18] mixed (by kernel_rfl) fun _ _ _ => ?_
            iterate 2 refine pu rfl rfl rfl rfl rfl ?_
            refine st rfl rfl rfl rfl (rLdS rfl rfl rfl) ?_
            refine st rfl rfl rfl rfl (rLdS rfl rfl rfl) ?_
            iterate 2 refine pu rfl rfl rfl rfl rfl ?_
            refine st rfl rfl rfl rfl (rIdxR rfl rfl rfl (by omega) (by omega) (by omega)) ?_
            refine st rfl rfl rfl rfl (rLdR rfl rfl (by omega)) ?_
            refine pu rfl rfl rfl rfl rfl ?_
            refine st rfl rfl rfl rfl (rIdxI rfl rfl rfl (by omega) (by omega) (by omega)) ?_
            refine st rfl rfl rfl rfl (rLdI rfl rfl (by omega)) ?_
            iterate 2 refine pu rfl rfl rfl rfl rfl ?_
            refine st rfl rfl rfl rfl (rIdxR rfl rfl rfl (by omega) (by omega) (by omega)) ?_
            refine st rfl rfl rfl rfl (rLdR rfl rfl (by omega)) ?_
            refine ef rfl rfl (eCallV rfl rfl rfl (ref_InvE _ _ _ _ _ _) ⟨rfl, rfl, trivial⟩ ?_) 
            refine ef rfl rfl (eCall1 rfl rfl rfl (ref_scale p m A c mod _ _ _ _ (r3.getD k.toNat rowD).xs rfl (by omega)) ⟨rfl, rfl, rfl, trivial⟩ ?_) 
            rintro _ _ ⟨B13, rfl, rfl⟩
            refine st rfl rfl rfl rfl (rIdxR rfl rfl rfl (by omega) (by omega) (by omega)) ?_
            refine ef rfl rfl (eSt rfl rfl rfl rfl (by first | omega | (simp; omega)) rfl rfl ?_) 
            refine ⟨(r3.set k.toNat (⟨B13, (r3.getD k.toNat rowD).xs.length, sclR (el ((Fd.inv (el ((r3.getD k.toNat rowD).xs.getD cc.toNat 0)) : El p m mod).1) : El p m mod) (r3.getD k.toNat rowD).xs⟩ : RowM)), ⟨rfl, rfl, rfl, rfl, rfl, rfl, trivial⟩, by dsimp only; rw [← (show (hdrs r3).set k.toNat (.slice B13 (r3.getD k.toNat rowD).xs.length (r3.getD k.toNat rowD).xs.length) = hdrs (r3.set k.toNat (⟨B13, (r3.getD k.toNat rowD).xs.length, sclR (el ((Fd.inv (el ((r3.getD k.toNat rowD).xs.getD cc.toNat 0)) : El p m mod).1) : El p m mod) (r3.getD k.toNat rowD).xs⟩ : RowM)) by rw [hdrs_set]; simp [RowM.hdr])]; exact (cs _ [rowsCh 3 r3, ow B13 3 (r3.getD k.toNat rowD).xs.length (ints (RowM.xs (⟨B13, (r3.getD k.toNat rowD).xs.length, sclR (el ((Fd.inv (el ((r3.getD k.toNat rowD).xs.getD cc.toNat 0)) : El p m mod).1) : El p m mod) (r3.getD k.toNat rowD).xs⟩ : RowM))), ow B1 22 c1 ((hdrs r3).set k.toNat (.slice B13 (r3.getD k.toNat rowD).xs.length (r3.getD k.toNat rowD).xs.length)), ow AP 3 cP (ints ps), blk p0 36 [.int .i64 p, .int .i64 m, .slice A mod.length c], ro A (ints mod)]).trans ((rows_put (r := (⟨B13, (r3.getD k.toNat rowD).xs.length, sclR (el ((Fd.inv (el ((r3.getD k.toNat rowD).xs.getD cc.toNat 0)) : El p m mod).1) : El p m mod) (r3.getD k.toNat rowD).xs⟩ : RowM)) (show k.toNat < r3.length by omega) _).trans (cs _ _)), ?_⟩
            refine ⟨⟨by simpa using hrl3, hgd3.set _ (by simpa using hw3.1) (sclR_in _ _)⟩, ?_, ?_⟩
            · have := hE3.scale (by rw [vsR_length]; omega) (Fd.inv_ne hnz3)
              rw [← hkn, vsR_get] at this
              rw [vsR_set, rw_sclR, el_of]; exact this
            · rw [row_set, if_pos ⟨rfl, by omega⟩]
              refine (val_of_el (mod := mod) (sclR_in _ _) cc.toNat trivial ?_)
              have := congrFun (rw_sclR (el ((Fd.inv (el ((r3.getD k.toNat rowD).xs.getD cc.toNat 0)) : El p m mod).1) : El p m mod) (r3.getD k.toNat rowD).xs) cc.toNat
              rw [rw_at, Vc.sc_at, rw_at, el_of] at this
              rw [el_of, this]; exact Fd.inv_mul _ hnz3
          · try simp only [zb1, zb2, zb3, zb4, zb5, zb6, zb7, zb8, zb9, zb10] at h12
            refine tr_skip ?_
            refine ⟨(r3), ⟨rfl, rfl, rfl, rfl, rfl, rfl, trivial⟩, by first | exact cs _ _ | exact CSub.refl _, ?_⟩
            exact ⟨⟨hrl3, hgd3⟩, hE3, by omega⟩
        · rintro r4 hI
          obtain ⟨⟨hrl4, hgd4⟩, hE4, hone4⟩ := hI
          refine tr_seq ?_
          refine tr_seq ?_
          refine tr_region fun _ _ _ => ?_
          refine pu rfl rfl rfl rfl rfl ?_
          refine tr_block ?_
          refine tr_loop2 (fun (i : Int) (r5 : List RowM) => [(2, .int .i64 w), (3, .pointer (some p0)), (8, .slice B1 n c1), (9, .slice AP ps.length cP), (10, .int .i64 k), (11, .int .i64 cc), (13, .int .i64 i)]) (fun (i : Int) (r5 : List RowM) => [ow AP 3 cP (ints ps), ow B1 22 c1 (hdrs r5), rowsCh 3 r5, blk p0 36 [.int .i64 p, .int .i64 m, .slice A mod.length c], ro A (ints mod)]) (fun (i : Int) (r5 : List RowM) => (0 ≤ i ∧ i ≤ n) ∧ (r5.length = rs.length ∧ Gd (pw p m) w.toNat r5) ∧ Vc.Eli (Vc.SpL (vsR rs : List (Vc (El p m mod)))) w.toNat (vsR r5) cc.toNat qs ∧ (r5.getD k.toNat rowD).xs.getD cc.toNat 0 = 1 ∧ ∀ t : Nat, (t : Int) < i → t ≠ k.toNat → (r5.getD t rowD).xs.getD cc.toNat 0 = 0) (fun (i : Int) (r5 : List RowM) => (n - i).toNat) (0) (r4) ⟨rfl, rfl, rfl, rfl, rfl, rfl, rfl, trivial⟩ (by first | exact cs _ _ | exact CSub.refl _) (⟨⟨by omega, by omega⟩, ⟨hrl4, hgd4⟩, hE4, hone4, fun t h1 h2 => by omega⟩) (fun i r5 hI => ?_)
          obtain ⟨⟨hi0, hi1⟩, ⟨hrl5, hgd5⟩, hE5, hone5, hz5⟩ := hI
          refine tr_seq ?_
          refine tr_seq ?_
          refine tr_region fun _ _ _ => ?_
          iterate 2 refine pu rfl rfl rfl rfl rfl ?_
          refine st rfl rfl rfl rfl (rLen rfl rfl) ?_
          refine pu rfl rfl rfl rfl rfl ?_
          refine tr_cond_bool rfl (fun h15 => ?_) (fun h15 => ?_)
          · try simp only [zb1, zb2, zb3, zb4, zb5, zb6, zb7, zb8, zb9, zb10] at h15
            refine tr_skip ?_
            refine tr_seq ?_
            refine tr_block ?_
            refine tr_seq ?_
            refine tr_region fun _ _ _ => ?_
            iterate 4 refine pu rfl rfl rfl rfl rfl ?_
            refine stg rfl rfl rfl rfl rfl (fun hb => by (have hq := hb; try simp only [zb1, zb2, zb3, zb4, zb5, zb6, zb7, zb8, zb9, zb10] at hq); exact rMove rfl rfl) ?_
            refine stg rfl rfl rfl rfl rfl (fun hb => by (have hq := hb; try simp only [zb1, zb2, zb3, zb4, zb5, zb6, zb7, zb8, zb9, zb10] at hq); exact rMove rfl rfl) ?_
            refine stg rfl rfl rfl rfl rfl (fun hb => by (have hq := hb; try simp only [zb1, zb2, zb3, zb4, zb5, zb6, zb7, zb8, zb9, zb10] at hq); exact rIdxR rfl (evg rfl hb) (evg rfl hb) (by omega) (by omega) (by omega)) ?_
            refine stg rfl rfl rfl rfl rfl (fun hb => by (have hq := hb; try simp only [zb1, zb2, zb3, zb4, zb5, zb6, zb7, zb8, zb9, zb10] at hq); exact rLdR rfl (evg rfl hb) (by omega)) ?_
            refine stg rfl rfl rfl rfl rfl (fun hb => by (have hq := hb; try simp only [zb1, zb2, zb3, zb4, zb5, zb6, zb7, zb8, zb9, zb10] at hq); exact rMove rfl rfl) ?_
            refine stg rfl rfl rfl rfl rfl (fun hb => by (have hq := hb; try simp only [zb1, zb2, zb3, zb4, zb5, zb6, zb7, zb8, zb9, zb10] at hq); exact (haveI : InB i.toNat r5.length := ⟨by omega⟩; have hw := (hgd5.get (show i.toNat < r5.length by omega)).1; rIdxI rfl (evg rfl hb) (evg rfl hb) (by omega) (by omega) (by omega))) ?_
            refine stg rfl rfl rfl rfl rfl (fun hb => by (have hq := hb; try simp only [zb1, zb2, zb3, zb4, zb5, zb6, zb7, zb8, zb9, zb10] at hq); exact (haveI : InB i.toNat r5.length := ⟨by omega⟩; have hw := (hgd5.get (show i.toNat < r5.length by omega)).1; rLdI rfl (evg rfl hb) (by omega))) ?_
            refine stg rfl rfl rfl rfl rfl (fun hb => by (have hq := hb; try simp only [zb1, zb2, zb3, zb4, zb5, zb6, zb7, zb8, zb9, zb10] at hq); exact rNeq rfl (evg rfl hb) rfl) ?_
            refine st rfl rfl rfl rfl (rAndB rfl rfl rfl rfl) ?_
            refine tr_cond_bool rfl (fun h17 => ?_) (fun h17 => ?_)
            · try simp only [zb1, zb2, zb3, zb4, zb5, zb6, zb7, zb8, zb9, zb10] at h17
              haveI : InB i.toNat r5.length := ⟨by omega⟩
              haveI : InB k.toNat r5.length := ⟨by omega⟩
              have hwi := hgd5.get (show i.toNat < r5.length by omega)
              have hwk := hgd5.get (show k.toNat < r5.length by omega)
              have hwi1 := hwi.1
              have hwk1 := hwk.1
              refine tr_draw [0, 1, 2, 3, 4, 5, 6, 7, 8, 9, 10, 11, 12, 13, 14, 16, 17, 18, 19, 15, 20, 21] [22] mixed (by kernel_rfl) fun _ _ _ => ?_
              iterate 2 refine pu rfl rfl rfl rfl rfl ?_
              refine st rfl rfl rfl rfl (rLdS rfl rfl rfl) ?_
              iterate 2 refine pu rfl rfl rfl rfl rfl ?_
              refine st rfl rfl rfl rfl (rIdxR rfl rfl rfl (by omega) (by omega) (by omega)) ?_
              refine st rfl rfl rfl rfl (rLdR rfl rfl (by omega)) ?_
              refine st rfl rfl rfl rfl (rLdS rfl rfl rfl) ?_
              iterate 2 refine pu rfl rfl rfl rfl rfl ?_
              refine st rfl rfl rfl rfl (rIdxR rfl rfl rfl (by omega) (by omega) (by omega)) ?_
              refine st rfl rfl rfl rfl (rLdR rfl rfl (by omega)) ?_
              refine pu rfl rfl rfl rfl rfl ?_
              refine st rfl rfl rfl rfl (rIdxI rfl rfl rfl (by omega) (by omega) (by omega)) ?_
              refine st rfl rfl rfl rfl (rLdI rfl rfl (by omega)) ?_
              iterate 2 refine pu rfl rfl rfl rfl rfl ?_
              refine st rfl rfl rfl rfl (rIdxR rfl rfl rfl (by omega) (by omega) (by omega)) ?_
              refine st rfl rfl rfl rfl (rLdR rfl rfl (by omega)) ?_
              refine ef rfl rfl (eCallV rfl rfl rfl (ref_NegE _ _ _ _ _ _) ⟨rfl, rfl, trivial⟩ ?_) 
              refine ef rfl rfl (eCall1 rfl rfl rfl (ref_AddTo p m A c mod _ _ _ (r5.getD i.toNat rowD).xs rfl (by omega) _ _ _ _ (r5.getD k.toNat rowD).xs rfl (by omega) hwi.2) ⟨rfl, rfl, rfl, rfl, trivial⟩ ?_) 
              rintro _ _ ⟨B18, rfl, rfl⟩
              refine st rfl rfl rfl rfl (rIdxR rfl rfl rfl (by omega) (by omega) (by omega)) ?_
              refine ef rfl rfl (eSt rfl rfl rfl rfl (by first | omega | (simp; omega)) rfl rfl ?_) 
              refine tr_region fun _ _ _ => ?_
              refine pu rfl rfl rfl rfl rfl ?_
              refine st rfl rfl rfl rfl (rAdd rfl rfl rfl (by omega) (by omega)) ?_
              refine pu rfl rfl rfl rfl rfl ?_
              refine ⟨i + 1, r5.set i.toNat (⟨B18, (r5.getD i.toNat rowD).xs.length, addR (el (-(el ((r5.getD i.toNat rowD).xs.getD cc.toNat 0)) : El p m mod).1 : El p m mod) (r5.getD i.toNat rowD).xs (r5.getD k.toNat rowD).xs⟩ : RowM), ⟨rfl, rfl, rfl, rfl, rfl, rfl, rfl, trivial⟩, by rw [← (show (hdrs r5).set i.toNat (.slice B18 (r5.getD i.toNat rowD).xs.length (r5.getD i.toNat rowD).xs.length) = hdrs (r5.set i.toNat (⟨B18, (r5.getD i.toNat rowD).xs.length, addR (el (-(el ((r5.getD i.toNat rowD).xs.getD cc.toNat 0)) : El p m mod).1 : El p m mod) (r5.getD i.toNat rowD).xs (r5.getD k.toNat rowD).xs⟩ : RowM)) by rw [hdrs_set]; simp [RowM.hdr])]; exact (cs _ [rowsCh 3 r5, ow B18 3 (r5.getD i.toNat rowD).xs.length (ints (RowM.xs (⟨B18, (r5.getD i.toNat rowD).xs.length, addR (el (-(el ((r5.getD i.toNat rowD).xs.getD cc.toNat 0)) : El p m mod).1 : El p m mod) (r5.getD i.toNat rowD).xs (r5.getD k.toNat rowD).xs⟩ : RowM))), ow B1 22 c1 ((hdrs r5).set i.toNat (.slice B18 (r5.getD i.toNat rowD).xs.length (r5.getD i.toNat rowD).xs.length)), ow AP 3 cP (ints ps), blk p0 36 [.int .i64 p, .int .i64 m, .slice A mod.length c], ro A (ints mod)]).trans ((rows_put (r := (⟨B18, (r5.getD i.toNat rowD).xs.length, addR (el (-(el ((r5.getD i.toNat rowD).xs.getD cc.toNat 0)) : El p m mod).1 : El p m mod) (r5.getD i.toNat rowD).xs (r5.getD k.toNat rowD).xs⟩ : RowM)) (show i.toNat < r5.length by omega) _).trans (cs _ _)), ?_⟩
              refine ⟨⟨⟨by omega, by omega⟩, ⟨by simpa using hrl5, hgd5.set _ (by simpa using hwi.1) (addR_in _ _ _)⟩, ?_, ?_, fun t h1 h2 => ?_⟩, by omega⟩
              · have := hE5.plus (by rw [vsR_length]; omega) (i := i.toNat) (by rw [vsR_length]; omega) (by omega) (-(el ((r5.getD i.toNat rowD).xs.getD cc.toNat 0) : El p m mod))
                rw [← hkn, vsR_get, vsR_get] at this
                rw [vsR_set, rw_addR _ _ _ (by omega), el_of]; exact this
              · rw [row_set, if_neg (by omega)]; exact hone5
              · rw [row_set]
                split
                · rename_i he
                  obtain ⟨rfl, he⟩ := he
                  show (addR _ _ _).getD cc.toNat 0 = 0
                  rw [addR_get _ _ _ (by omega), hone5, el_one, el_of]
                  exact congrArg Subtype.val (show (el ((r5.getD i.toNat rowD).xs.getD cc.toNat 0) + -el ((r5.getD i.toNat rowD).xs.getD cc.toNat 0) * 1 : El p m mod) = 0 by grind)
                · exact hz5 t (by omega) h2
            · try simp only [zb1, zb2, zb3, zb4, zb5, zb6, zb7, zb8, zb9, zb10] at h17
              refine tr_skip ?_
              refine tr_region fun _ _ _ => ?_
              refine pu rfl rfl rfl rfl rfl ?_
              refine st rfl rfl rfl rfl (rAdd rfl rfl rfl (by omega) (by omega)) ?_
              refine pu rfl rfl rfl rfl rfl ?_
              refine ⟨i + 1, r5, ⟨rfl, rfl, rfl, rfl, rfl, rfl, rfl, trivial⟩, by first | exact cs _ _ | exact CSub.refl _, ?_⟩
              refine ⟨⟨⟨by omega, by omega⟩, ⟨hrl5, hgd5⟩, hE5, hone5, fun t h1 h2 => ?_⟩, by omega⟩
              by_cases he : t = i.toNat
              · subst he
                have h3 : i ≠ k := by omega
                exact h17.resolve_left h3
              · exact hz5 t (by omega) h2
          · try simp only [zb1, zb2, zb3, zb4, zb5, zb6, zb7, zb8, zb9, zb10] at h15
            refine tr_exit ?_
            refine tr_seq ?_
            refine tr_region fun _ _ _ => ?_
            iterate 2 refine pu rfl rfl rfl rfl rfl ?_
            refine ef rfl rfl (eLit1I rfl rfl rfl rfl (fun A19 => ?_)) 
            refine ef rfl rfl (eAppI rfl rfl rfl rfl rfl (by first | rfl | simp) (by first | rfl | simp) (by first | omega | (simp; omega)) (fun A19a c19a => ?_)) 
            refine pu rfl rfl rfl rfl rfl ?_
            refine tr_region fun _ _ _ => ?_
            refine pu rfl rfl rfl rfl rfl ?_
            refine st rfl rfl rfl rfl (rAdd rfl rfl rfl (by omega) (by omega)) ?_
            refine pu rfl rfl rfl rfl rfl ?_
            refine tr_region fun _ _ _ => ?_
            refine pu rfl rfl rfl rfl rfl ?_
            refine st rfl rfl rfl rfl (rAdd rfl rfl rfl (by omega) (by omega)) ?_
            refine pu rfl rfl rfl rfl rfl ?_
            refine ⟨cc + 1, k + 1, ps ++ [cc], A19a, c19a, r5, ⟨rfl, rfl, rfl, rfl, rfl, rfl, trivial⟩, by first | exact cs _ _ | exact CSub.refl _, ?_⟩
            refine ⟨⟨⟨by omega, by omega⟩, ⟨hrl5, hgd5⟩, qs ++ [cc.toNat], ?_, by simp; omega, ?_⟩, by omega⟩
            · rw [hps, List.map_append]; simp; omega
            · rw [show (cc + 1).toNat = cc.toNat + 1 by omega]
              refine hE5.push (by rw [vsR_length]; omega) ?_ (fun t h1 h2 => ?_)
              · rw [vsR_at, ← hkn, hone5, el_one]
              · rw [vsR_length] at h1
                rw [vsR_at, hz5 t (by omega) (by omega), el_zero]
  · try simp only [zb1, zb2, zb3, zb4, zb5, zb6, zb7, zb8, zb9, zb10] at h5
    refine tr_exit ?_
    refine tr_seq ?_
    refine tr_region fun _ _ _ => ?_
    iterate 4 refine pu rfl rfl rfl rfl rfl ?_
    obtain ⟨hR1, hR2⟩ := hE.done (by rw [vsR_length]; omega) (by omega)
    exact tr_ret ⟨trivial, _, _, rfl, ⟨_, _, _, rfl, r2, B1, c1, AP, cP, ps, qs, by rw [show n = r2.length by omega], rfl, rfl, rfl, hps, hrl, hgd, by omega, hR1, hR2⟩, cs _ _, trivial, trivial, trivial, trivial⟩

end Go.Proofs.Ytjmojhflnjbgaaa

set_option linter.unusedSimpArgs false
set_option linter.unusedVariables false
set_option maxRecDepth 100000
namespace Go.Proofs.Ytjmojhflnjbgaaa
open Go.RowKit

theorem hdrs_take (A : Option Addr) (e : TypeId) (cap : Nat) (rs : List RowM) (k : Nat) (F : List Chunk) : CSub (ow A e cap (hdrs rs) :: F) (ow A e cap (hdrs (rs.take k)) :: F) := by
  have h := ow_shrink (e := e) (A := A) (cap := cap) (vs := hdrs (rs.take k)) (ws := hdrs (rs.drop k)) F
  rwa [← hdrs_append, List.take_append_drop] at h

theorem ref_RCanon_ent : Enters Try.prog 143 := enters_of Try.func143 (by kernel_rfl) (by kernel_rfl)
theorem ref_RCanon (p m : Int) (A : Option Addr) (c : Nat) (mod : List Int) [hF : IsF p m mod] (w : Int) (hw0 : 0 ≤ w) (hw9 : w ≤ 1000000) (Aa : Option Addr) (n ca : Nat) (rs : List RowM) (hn : n = rs.length) (hr9 : rs.length ≤ 1000000) (hgd0 : Gd (pw p m) w.toNat rs) :
    Pure Try.prog 143 #[.agg #[.int .i64 p, .int .i64 m, .slice A mod.length c], .slice Aa n ca, .int .i64 w] [ro A (ints mod), ro Aa (hdrs rs), rowsR rs] (three (fun v ca cb cc => ∃ r3 B cb1 Bp cb2 ps, v = .tuple #[.slice B r3.length cb1, .slice Bp ps.length cb2] ∧ ca = ow B 22 cb1 (hdrs r3) ∧ cb = rowsCh 3 r3 ∧ cc = ow Bp 3 cb2 (ints ps) ∧ RrOf p m mod w.toNat rs r3 ps ∧ r3.length ≤ rs.length)) := by
  refine pure_of (args := [.agg #[.int .i64 p, .int .i64 m, .slice A mod.length c], .slice Aa n ca, .int .i64 w]) 22 Try.func143 rfl rfl rfl ref_RCanon_ent ⟨id, id, id, trivial⟩ (fun w0 => ?_)
  refine tr_seq ?_
  refine tr_region fun _ _ _ => ?_
  refine ef rfl rfl (eBox rfl rfl rfl rfl rfl (fun p0 => ?_)) 
  iterate 2 refine pu rfl rfl rfl rfl rfl ?_
  refine tr_seq ?_
  refine tr_region fun _ _ _ => ?_
  refine st rfl rfl rfl rfl (rLdS rfl rfl rfl) ?_
  iterate 2 refine pu rfl rfl rfl rfl rfl ?_
  refine ef rfl rfl (eCall3 rfl rfl rfl (ref_Eliminate p m A c mod w hw0 hw9 Aa n ca rs hn hr9 hgd0) ⟨rfl, rfl, rfl, trivial⟩ ?_) 
  rintro _ _ _ _ ⟨r2, B1, cb1, Bp, cb2, ps, qs, rfl, rfl, rfl, rfl, hps, hrl, hgd, hql, hR1, hR2⟩
  iterate 5 refine pu rfl rfl rfl rfl rfl ?_
  refine tr_seq ?_
  refine tr_cap B1 22 cb1 (hdrs r2) fun hcap => ?_
  rw [hdrs_length] at hcap
  have hpl : ps.length = qs.length := by rw [hps, List.length_map]
  refine tr_region fun _ _ _ => ?_
  iterate 2 refine pu rfl rfl rfl rfl rfl ?_
  refine st rfl rfl rfl rfl (rLen rfl rfl) ?_
  refine st rfl rfl rfl rfl (rCutHi rfl rfl rfl (by omega) (by omega)) ?_
  iterate 3 refine pu rfl rfl rfl rfl rfl ?_
  simp only [Int.toNat_natCast]
  have htl : (r2.take ps.length).length = ps.length := by rw [List.length_take]; omega
  have hRr : RrOf p m mod w.toNat rs (r2.take ps.length) ps := by
    rw [vsR_take, ← hpl] at hR1 hR2
    exact ⟨hgd.take _, htl.symm, ⟨qs, hps, hR1⟩, hR2⟩
  exact tr_ret ⟨trivial, _, _, rfl, ⟨_, _, _, rfl, r2.take ps.length, B1, cb1, Bp, cb2, ps, by rw [htl], rfl, rfl, rfl, hRr, by omega⟩, (cs _ [ow B1 22 cb1 (hdrs r2), rowsCh 3 r2, ow Bp 3 cb2 (ints ps)]).trans ((hdrs_take _ _ _ _ _ _).trans (CSub.cons _ (rows_take _ _))), trivial, trivial, trivial, trivial⟩

end Go.Proofs.Ytjmojhflnjbgaaa

set_option linter.unusedSimpArgs false
set_option linter.unusedVariables false
set_option maxRecDepth 100000
namespace Go.Proofs.Ytjmojhflnjbgaaa
open Go.RowKit

section
variable {p m : Int} {mod : List Int} [hF : IsF p m mod]
theorem xn1_mn (n : Nat) (c : El p m mod) (i : Nat) : ∀ t : Nat, (xn1 n : Po (El p m mod)) ∣ Po.mn c (i + t * n) - Po.mn c i
  | 0 => ⟨0, by rw [Nat.zero_mul, Nat.add_zero]; grind⟩
  | t + 1 => by
    obtain ⟨h, hh⟩ := xn1_mn n c i t
    refine ⟨h + Po.mn c (i + t * n), ?_⟩
    have e := Po.mn_mul c 1 (i + t * n) n
    rw [Rg.mul_one, show i + t * n + n = i + (t + 1) * n by rw [Nat.add_mul]; omega] at e
    rw [← e]
    unfold xn1 at hh ⊢
    grind
theorem xn1_mod (n : Nat) (c : El p m mod) (i : Nat) : (xn1 n : Po (El p m mod)) ∣ Po.mn c i - Po.mn c (i % n) := by
  have h := xn1_mn n c (i % n) (i / n)
  rwa [Nat.mul_comm, Nat.mod_add_div] at h
end


end Go.Proofs.Ytjmojhflnjbgaaa

set_option linter.unusedSimpArgs false
set_option linter.unusedVariables false
set_option maxRecDepth 100000
namespace Go.Proofs.Ytjmojhflnjbgaaa
open Go.RowKit

open Classical in
/-- The error of rows as a matrix with w columns over q elements. -/
noncomputable def rowsC (q w : Int) (l : List (List Int)) : Int :=
  if ¬ (0 ≤ w ∧ w ≤ 256 ∧ l.length ≤ 256) then 3 else if ¬ ∀ r ∈ l, (r.length : Int) = w then 3 else if ∀ r ∈ l, AllIn q r then 0 else 2
theorem rowsC_shape {q w : Int} {l : List (List Int)} (h : ¬ (0 ≤ w ∧ w ≤ 256 ∧ l.length ≤ 256)) : rowsC q w l = 3 := by unfold rowsC; rw [if_pos h]
theorem rowsC_len {q w : Int} {l : List (List Int)} (h1 : ¬ ∀ r ∈ l, (r.length : Int) = w) : rowsC q w l = 3 := by
  unfold rowsC; split
  · rfl
  · rfl
theorem rowsC_ent {q w : Int} {l : List (List Int)} (h : 0 ≤ w ∧ w ≤ 256 ∧ l.length ≤ 256) (h1 : ∀ r ∈ l, (r.length : Int) = w) (h2 : ¬ ∀ r ∈ l, AllIn q r) : rowsC q w l = 2 := by
  unfold rowsC; rw [if_neg (fun k => k h), if_neg (fun k => k h1), if_neg h2]
theorem rowsC_ok {q w : Int} {l : List (List Int)} (h : 0 ≤ w ∧ w ≤ 256 ∧ l.length ≤ 256) (h1 : ∀ r ∈ l, (r.length : Int) = w) (h2 : ∀ r ∈ l, AllIn q r) : rowsC q w l = 0 := by
  unfold rowsC; rw [if_neg (fun k => k h), if_neg (fun k => k h1), if_pos h2]
theorem rowsC_zero {q w : Int} {l : List (List Int)} (h : rowsC q w l = 0) : (0 ≤ w ∧ w ≤ 256 ∧ l.length ≤ 256) ∧ (∀ r ∈ l, (r.length : Int) = w) ∧ ∀ r ∈ l, AllIn q r := by
  by_cases h1 : 0 ≤ w ∧ w ≤ 256 ∧ l.length ≤ 256
  · by_cases h2 : ∀ r ∈ l, (r.length : Int) = w
    · by_cases h3 : ∀ r ∈ l, AllIn q r
      · exact ⟨h1, h2, h3⟩
      · rw [rowsC_ent h1 h2 h3] at h; omega
    · rw [rowsC_len h2] at h; omega
  · rw [rowsC_shape h1] at h; omega
/-- The rows' entries alone. -/
def xss (rs : List RowM) : List (List Int) := rs.map (·.xs)
@[simp] theorem xss_length (rs : List RowM) : (xss rs).length = rs.length := by simp [xss]
theorem xss_all {rs : List RowM} {φ : List Int → Prop} : (∀ r ∈ xss rs, φ r) ↔ ∀ r ∈ rs, φ r.xs := by simp [xss]
theorem xss_get {rs : List RowM} {φ : List Int → Prop} (h : ∀ j : Nat, j < rs.length → φ (rs.getD j rowD).xs) : ∀ r ∈ xss rs, φ r := xss_all.2 fun r hr => by
  obtain ⟨j, hj, rfl⟩ := List.getElem_of_mem hr
  have := h j hj
  rwa [List.getD_eq_getElem?_getD, List.getElem?_eq_getElem hj] at this
theorem xss_no {rs : List RowM} {φ : List Int → Prop} {j : Nat} (hj : j < rs.length) (h : ¬ φ (rs.getD j rowD).xs) : ¬ ∀ r ∈ xss rs, φ r := fun k => h (xss_all.1 k _ (getD_mem hj _))
theorem Gd_iff {q w : Int} {rs : List RowM} (hw : 0 ≤ w) : Gd q w.toNat rs ↔ (∀ r ∈ xss rs, (r.length : Int) = w) ∧ ∀ r ∈ xss rs, AllIn q r := by
  rw [xss_all, xss_all]
  exact ⟨fun h => ⟨fun r hr => by have := (h r hr).1; omega, fun r hr => (h r hr).2⟩, fun h r hr => ⟨by have := h.1 r hr; omega, h.2 r hr⟩⟩

theorem mat_entriesC_ent : Enters Try.prog 219 := enters_of Try.func219 (by kernel_rfl) (by kernel_rfl)
theorem mat_entriesC (g : GfM) (q : Int) (hq : g.q = q) (A : Option Addr) (n c : Nat) (l : List Int) (hn : n = l.length) (h9 : l.length ≤ 17592186044415) :
    Pure Try.prog 219 #[.pointer (some g.p), .slice A n c] [gfR g, ro A (ints l)] (isV (.int .i64 (entC q l))) := by
  refine pure_of (args := [.pointer (some g.p), .slice A n c]) 18 Try.func219 rfl rfl rfl mat_entriesC_ent ⟨id, id, trivial⟩ (fun w0 => ?_)
  refine tr_seq ?_
  refine tr_region fun _ _ _ => ?_
  refine pu rfl rfl rfl rfl rfl ?_
  refine tr_seq ?_
  refine tr_seq ?_
  refine tr_region fun _ _ _ => ?_
  refine pu rfl rfl rfl rfl rfl ?_
  refine st rfl rfl rfl rfl (rLen rfl rfl) ?_
  refine pu rfl rfl rfl rfl rfl ?_
  refine tr_block ?_
  refine tr_loop1 (fun (k : Int) => [(9, .int .i64 k), (0, .pointer (some g.p)), (7, .slice A n c), (8, .int .i64 n)]) (fun (k : Int) => [gfR g, ro A (ints l)]) (fun (k : Int) => (0 ≤ k ∧ k ≤ n) ∧ ∀ j : Nat, (j : Int) < k → 0 ≤ l.getD j 0 ∧ l.getD j 0 < q) (fun (k : Int) => (n - k).toNat) (0) ⟨rfl, rfl, rfl, rfl, trivial⟩ (by first | exact cs _ _ | exact CSub.refl _) (⟨⟨by omega, by omega⟩, fun j hj => by omega⟩) (fun k hI => ?_)
  obtain ⟨⟨hk0, hk1⟩, hall⟩ := hI
  refine tr_seq ?_
  refine tr_region fun _ _ _ => ?_
  refine pu rfl rfl rfl rfl rfl ?_
  refine tr_seq ?_
  refine tr_cond_bool rfl (fun h2 => ?_) (fun h2 => ?_)
  · try simp only [zb1, zb2, zb3, zb4, zb5, zb6, zb7, zb8, zb9, zb10] at h2
    refine tr_skip ?_
    refine tr_seq ?_
    refine tr_block ?_
    refine tr_seq ?_
    refine tr_region fun _ _ _ => ?_
    refine st rfl rfl rfl rfl (rIdxI rfl rfl rfl (by omega) (by omega) (by omega)) ?_
    refine st rfl rfl rfl rfl (rLdI rfl rfl (by omega)) ?_
    refine pu rfl rfl rfl rfl rfl ?_
    refine tr_seq ?_
    refine tr_region fun _ _ _ => ?_
    iterate 2 refine pu rfl rfl rfl rfl rfl ?_
    refine ef rfl rfl (eCallV rfl rfl rfl (gf_Is _ _) ⟨rfl, rfl, trivial⟩ ?_) 
    refine st rfl rfl rfl rfl (rNotB rfl rfl) ?_
    refine tr_cond_bool rfl (fun h4 => ?_) (fun h4 => ?_)
    · try simp only [zb1, zb2, zb3, zb4, zb5, zb6, zb7, zb8, zb9, zb10] at h4
      refine tr_seq ?_
      refine tr_region fun _ _ _ => ?_
      refine pu rfl rfl rfl rfl rfl ?_
      have hno : ¬ AllIn q l := fun h => by
        have hb := h (l.getD k.toNat 0) (getD_mem (by omega) _)
        omega
      exact tr_ret ⟨trivial, _, _, rfl, ⟨by rw [entC_no hno], rfl⟩, CSub.nil _, trivial⟩
    · try simp only [zb1, zb2, zb3, zb4, zb5, zb6, zb7, zb8, zb9, zb10] at h4
      refine tr_skip ?_
      refine tr_region fun _ _ _ => ?_
      refine st rfl rfl rfl rfl (rAdd rfl rfl rfl (by omega) (by omega)) ?_
      refine pu rfl rfl rfl rfl rfl ?_
      refine ⟨k + 1, ⟨rfl, rfl, rfl, rfl, trivial⟩, by first | exact cs _ _ | exact CSub.refl _, ?_⟩
      refine ⟨⟨⟨by omega, by omega⟩, fun j hj => ?_⟩, by omega⟩
      by_cases he : (j : Int) = k
      · have : j = k.toNat := by omega
        subst this; omega
      · exact hall j (by omega)
  · try simp only [zb1, zb2, zb3, zb4, zb5, zb6, zb7, zb8, zb9, zb10] at h2
    refine tr_exit ?_
    refine tr_seq ?_
    refine tr_region fun _ _ _ => ?_
    refine pu rfl rfl rfl rfl rfl ?_
    have hok : AllIn q l := allIn_of_get fun j hj => hall j (by omega)
    exact tr_ret ⟨trivial, _, _, rfl, ⟨by rw [entC_ok hok], rfl⟩, CSub.nil _, trivial⟩

theorem entC_cases (q : Int) (l : List Int) : (AllIn q l ∧ entC q l = 0) ∨ (¬ AllIn q l ∧ entC q l = 2) := by
  by_cases h : AllIn q l
  · exact .inl ⟨h, entC_ok h⟩
  · exact .inr ⟨h, entC_no h⟩

theorem mat_checkC_ent : Enters Try.prog 201 := enters_of Try.func201 (by kernel_rfl) (by kernel_rfl)
theorem mat_checkC (g : GfM) (q : Int) (hq : g.q = q) (w : Int) (A : Option Addr) (n c : Nat) (rs : List RowM) (hn : n = rs.length) (h9 : rs.length ≤ 17592186044415) (h8 : ∀ r ∈ rs, r.xs.length ≤ 17592186044415) :
    Pure Try.prog 201 #[.pointer (some g.p), .agg #[.int .i64 w, .slice A n c]] [gfR g, ro A (hdrs rs), rowsR rs] (isV (.int .i64 (rowsC q w (xss rs)))) := by
  refine pure_of (args := [.pointer (some g.p), .agg #[.int .i64 w, .slice A n c]]) 51 Try.func201 rfl rfl rfl mat_checkC_ent ⟨id, id, id, trivial⟩ (fun w0 => ?_)
  refine tr_seq ?_
  refine tr_region fun _ _ _ => ?_
  refine ef rfl rfl (eBox rfl rfl rfl rfl rfl (fun p0 => ?_)) 
  refine pu rfl rfl rfl rfl rfl ?_
  refine tr_seq ?_
  refine tr_seq ?_
  refine tr_region fun _ _ _ => ?_
  refine st rfl rfl rfl rfl (rFld rfl rfl) ?_
  refine st rfl rfl rfl rfl (rLdF rfl rfl rfl) ?_
  iterate 2 refine pu rfl rfl rfl rfl rfl ?_
  refine stg rfl rfl rfl rfl rfl (fun hb => by (have hq := hb; try simp only [zb1, zb2, zb3, zb4, zb5, zb6, zb7, zb8, zb9, zb10] at hq); exact rFld rfl rfl) ?_
  refine stg rfl rfl rfl rfl rfl (fun hb => by (have hq := hb; try simp only [zb1, zb2, zb3, zb4, zb5, zb6, zb7, zb8, zb9, zb10] at hq); exact rLdF rfl (evg rfl hb) rfl) ?_
  refine stg rfl rfl rfl rfl rfl (fun hb => by (have hq := hb; try simp only [zb1, zb2, zb3, zb4, zb5, zb6, zb7, zb8, zb9, zb10] at hq); exact rGtr rfl (evg rfl hb) rfl) ?_
  refine st rfl rfl rfl rfl (rOrB rfl rfl rfl rfl) ?_
  refine pu rfl rfl rfl rfl rfl ?_
  refine stg rfl rfl rfl rfl rfl (fun hb => by (have hq := hb; try simp only [zb1, zb2, zb3, zb4, zb5, zb6, zb7, zb8, zb9, zb10] at hq); exact rFld rfl rfl) ?_
  refine stg rfl rfl rfl rfl rfl (fun hb => by (have hq := hb; try simp only [zb1, zb2, zb3, zb4, zb5, zb6, zb7, zb8, zb9, zb10] at hq); exact rLdF rfl (evg rfl hb) rfl) ?_
  refine stg rfl rfl rfl rfl rfl (fun hb => by (have hq := hb; try simp only [zb1, zb2, zb3, zb4, zb5, zb6, zb7, zb8, zb9, zb10] at hq); exact rLen rfl (evg rfl hb)) ?_
  refine stg rfl rfl rfl rfl rfl (fun hb => by (have hq := hb; try simp only [zb1, zb2, zb3, zb4, zb5, zb6, zb7, zb8, zb9, zb10] at hq); exact rGtr rfl (evg rfl hb) rfl) ?_
  refine st rfl rfl rfl rfl (rOrB rfl rfl rfl rfl) ?_
  refine tr_cond_bool rfl (fun h1 => ?_) (fun h1 => ?_)
  · try simp only [zb1, zb2, zb3, zb4, zb5, zb6, zb7, zb8, zb9, zb10] at h1
    refine tr_seq ?_
    refine tr_region fun _ _ _ => ?_
    refine pu rfl rfl rfl rfl rfl ?_
    exact tr_ret ⟨trivial, _, _, rfl, ⟨by rw [rowsC_shape (by rw [xss_length]; omega)], rfl⟩, CSub.nil _, trivial⟩
  · try simp only [zb1, zb2, zb3, zb4, zb5, zb6, zb7, zb8, zb9, zb10] at h1
    refine tr_skip ?_
    refine tr_seq ?_
    refine tr_seq ?_
    refine tr_region fun _ _ _ => ?_
    refine st rfl rfl rfl rfl (rFld rfl rfl) ?_
    refine st rfl rfl rfl rfl (rLdF rfl rfl rfl) ?_
    refine st rfl rfl rfl rfl (rLen rfl rfl) ?_
    refine pu rfl rfl rfl rfl rfl ?_
    refine tr_block ?_
    refine tr_loop1 (fun (k : Int) => [(27, .int .i64 k), (0, .pointer (some g.p)), (3, .pointer (some p0)), (25, .slice A n c), (26, .int .i64 n)]) (fun (k : Int) => [blk p0 106 [.int .i64 w, .slice A n c], gfR g, ro A (hdrs rs), rowsR rs]) (fun (k : Int) => (0 ≤ k ∧ k ≤ n) ∧ ∀ j : Nat, (j : Int) < k → ((rs.getD j rowD).xs.length : Int) = w) (fun (k : Int) => (n - k).toNat) (0) ⟨rfl, rfl, rfl, rfl, rfl, trivial⟩ (by first | exact cs _ _ | exact CSub.refl _) (⟨⟨by omega, by omega⟩, fun j hj => by omega⟩) (fun k hI => ?_)
    obtain ⟨⟨hk0, hk1⟩, hall⟩ := hI
    refine tr_seq ?_
    refine tr_region fun _ _ _ => ?_
    refine pu rfl rfl rfl rfl rfl ?_
    refine tr_seq ?_
    refine tr_cond_bool rfl (fun h4 => ?_) (fun h4 => ?_)
    · try simp only [zb1, zb2, zb3, zb4, zb5, zb6, zb7, zb8, zb9, zb10] at h4
      refine tr_skip ?_
      refine tr_seq ?_
      refine tr_block ?_
      refine tr_seq ?_
      haveI : InB k.toNat rs.length := ⟨by omega⟩
      have hk8 := h8 _ (getD_mem (show k.toNat < rs.length by omega) rowD)
      refine tr_region fun _ _ _ => ?_
      refine st rfl rfl rfl rfl (rIdxR rfl rfl rfl (by omega) (by omega) (by omega)) ?_
      refine st rfl rfl rfl rfl (rLdR rfl rfl (by omega)) ?_
      refine pu rfl rfl rfl rfl rfl ?_
      refine tr_seq ?_
      refine tr_region fun _ _ _ => ?_
      refine pu rfl rfl rfl rfl rfl ?_
      refine st rfl rfl rfl rfl (rLen rfl rfl) ?_
      refine st rfl rfl rfl rfl (rFld rfl rfl) ?_
      refine st rfl rfl rfl rfl (rLdF rfl rfl rfl) ?_
      refine pu rfl rfl rfl rfl rfl ?_
      refine tr_cond_bool rfl (fun h6 => ?_) (fun h6 => ?_)
      · try simp only [zb1, zb2, zb3, zb4, zb5, zb6, zb7, zb8, zb9, zb10] at h6
        refine tr_seq ?_
        refine tr_region fun _ _ _ => ?_
        refine pu rfl rfl rfl rfl rfl ?_
        have hno := xss_no (φ := fun r => (r.length : Int) = w) (show k.toNat < rs.length by omega) (by omega)
        exact tr_ret ⟨trivial, _, _, rfl, ⟨by rw [rowsC_len hno], rfl⟩, CSub.nil _, trivial⟩
      · try simp only [zb1, zb2, zb3, zb4, zb5, zb6, zb7, zb8, zb9, zb10] at h6
        refine tr_skip ?_
        refine tr_region fun _ _ _ => ?_
        refine st rfl rfl rfl rfl (rAdd rfl rfl rfl (by omega) (by omega)) ?_
        refine pu rfl rfl rfl rfl rfl ?_
        refine ⟨k + 1, ⟨rfl, rfl, rfl, rfl, rfl, trivial⟩, by first | exact cs _ _ | exact CSub.refl _, ?_⟩
        refine ⟨⟨⟨by omega, by omega⟩, fun j hj => ?_⟩, by omega⟩
        by_cases he : (j : Int) = k
        · have : j = k.toNat := by omega
          subst this; omega
        · exact hall j (by omega)
    · try simp only [zb1, zb2, zb3, zb4, zb5, zb6, zb7, zb8, zb9, zb10] at h4
      refine tr_exit ?_
      refine tr_seq ?_
      refine tr_seq ?_
      refine tr_region fun _ _ _ => ?_
      refine st rfl rfl rfl rfl (rFld rfl rfl) ?_
      refine st rfl rfl rfl rfl (rLdF rfl rfl rfl) ?_
      refine st rfl rfl rfl rfl (rLen rfl rfl) ?_
      refine pu rfl rfl rfl rfl rfl ?_
      refine tr_block ?_
      refine tr_loop1 (fun (k : Int) => [(40, .int .i64 k), (0, .pointer (some g.p)), (38, .slice A n c), (39, .int .i64 n)]) (fun (k : Int) => [blk p0 106 [.int .i64 w, .slice A n c], gfR g, ro A (hdrs rs), rowsR rs]) (fun (k : Int) => (0 ≤ k ∧ k ≤ n) ∧ ∀ j : Nat, (j : Int) < k → AllIn q (rs.getD j rowD).xs) (fun (k : Int) => (n - k).toNat) (0) ⟨rfl, rfl, rfl, rfl, trivial⟩ (by first | exact cs _ _ | exact CSub.refl _) (⟨⟨by omega, by omega⟩, fun j hj => by omega⟩) (fun k hI => ?_)
      have hlen : ∀ r ∈ xss rs, (r.length : Int) = w := xss_get fun j hj => hall j (by omega)
      clear hall
      obtain ⟨⟨hk0, hk1⟩, hall⟩ := hI
      refine tr_seq ?_
      refine tr_region fun _ _ _ => ?_
      refine pu rfl rfl rfl rfl rfl ?_
      refine tr_seq ?_
      refine tr_cond_bool rfl (fun h10 => ?_) (fun h10 => ?_)
      · try simp only [zb1, zb2, zb3, zb4, zb5, zb6, zb7, zb8, zb9, zb10] at h10
        refine tr_skip ?_
        refine tr_seq ?_
        refine tr_block ?_
        refine tr_seq ?_
        haveI : InB k.toNat rs.length := ⟨by omega⟩
        have hk8 := h8 _ (getD_mem (show k.toNat < rs.length by omega) rowD)
        refine tr_region fun _ _ _ => ?_
        refine st rfl rfl rfl rfl (rIdxR rfl rfl rfl (by omega) (by omega) (by omega)) ?_
        refine st rfl rfl rfl rfl (rLdR rfl rfl (by omega)) ?_
        refine pu rfl rfl rfl rfl rfl ?_
        refine tr_seq ?_
        refine tr_region fun _ _ _ => ?_
        iterate 2 refine pu rfl rfl rfl rfl rfl ?_
        refine ef rfl rfl (eCallV rfl rfl rfl (mat_entriesC g q hq _ _ _ (rs.getD k.toNat rowD).xs rfl hk8) ⟨rfl, rfl, trivial⟩ ?_) 
        refine pu rfl rfl rfl rfl rfl ?_
        refine tr_seq ?_
        refine tr_region fun _ _ _ => ?_
        iterate 2 refine pu rfl rfl rfl rfl rfl ?_
        refine tr_cond_bool rfl (fun h13 => ?_) (fun h13 => ?_)
        · try simp only [zb1, zb2, zb3, zb4, zb5, zb6, zb7, zb8, zb9, zb10] at h13
          have hek : ¬ AllIn q (rs.getD k.toNat rowD).xs := fun h => absurd (entC_ok h) (by omega)
          refine tr_seq ?_
          refine tr_region fun _ _ _ => ?_
          iterate 2 refine pu rfl rfl rfl rfl rfl ?_
          have hwb : 0 ≤ w ∧ w ≤ 256 ∧ (xss rs).length ≤ 256 := by rw [xss_length]; omega
          have hno := xss_no (φ := fun r => AllIn q r) (show k.toNat < rs.length by omega) hek
          exact tr_ret ⟨trivial, _, _, rfl, ⟨by rw [rowsC_ent hwb hlen hno, entC_no hek], rfl⟩, CSub.nil _, trivial⟩
        · try simp only [zb1, zb2, zb3, zb4, zb5, zb6, zb7, zb8, zb9, zb10] at h13
          have hek : AllIn q (rs.getD k.toNat rowD).xs := by
            rcases entC_cases q (rs.getD k.toNat rowD).xs with h | h
            · exact h.1
            · exact absurd h.2 (by omega)
          refine tr_skip ?_
          refine tr_region fun _ _ _ => ?_
          refine st rfl rfl rfl rfl (rAdd rfl rfl rfl (by omega) (by omega)) ?_
          refine pu rfl rfl rfl rfl rfl ?_
          refine ⟨k + 1, ⟨rfl, rfl, rfl, rfl, trivial⟩, by first | exact cs _ _ | exact CSub.refl _, ?_⟩
          refine ⟨⟨⟨by omega, by omega⟩, fun j hj => ?_⟩, by omega⟩
          by_cases he : (j : Int) = k
          · have : j = k.toNat := by omega
            subst this; exact hek
          · exact hall j (by omega)
      · try simp only [zb1, zb2, zb3, zb4, zb5, zb6, zb7, zb8, zb9, zb10] at h10
        refine tr_exit ?_
        refine tr_seq ?_
        refine tr_region fun _ _ _ => ?_
        refine pu rfl rfl rfl rfl rfl ?_
        have hwb : 0 ≤ w ∧ w ≤ 256 ∧ (xss rs).length ≤ 256 := by rw [xss_length]; omega
        have hall2 : ∀ r ∈ xss rs, AllIn q r := xss_get fun j hj => hall j (by omega)
        exact tr_ret ⟨trivial, _, _, rfl, ⟨by rw [rowsC_ok hwb hlen hall2], rfl⟩, CSub.nil _, trivial⟩

theorem ref_RCheckOk_ent : Enters Try.prog 152 := enters_of Try.func152 (by kernel_rfl) (by kernel_rfl)
theorem ref_RCheckOk (p m : Int) (A : Option Addr) (c : Nat) (mod : List Int) (hl9 : mod.length ≤ 17592186044415) (hF : FldR p m mod) (q : Int) (hq : ordI p m = q) (w : Int) (Aa : Option Addr) (n ca : Nat) (rs : List RowM) (hn : n = rs.length) (h9 : rs.length ≤ 17592186044415) (h8 : ∀ r ∈ rs, r.xs.length ≤ 17592186044415) :
    Pure Try.prog 152 #[.agg #[.int .i64 p, .int .i64 m, .slice A mod.length c], .agg #[.int .i64 w, .slice Aa n ca]] [ro A (ints mod), ro Aa (hdrs rs), rowsR rs] (isV (.int .i64 (rowsC q w (xss rs)))) := by
  refine pure_of (args := [.agg #[.int .i64 p, .int .i64 m, .slice A mod.length c], .agg #[.int .i64 w, .slice Aa n ca]]) 60 Try.func152 rfl rfl rfl ref_RCheckOk_ent ⟨id, id, id, trivial⟩ (fun w0 => ?_)
  refine tr_seq ?_
  refine tr_region fun _ _ _ => ?_
  refine ef rfl rfl (eBox rfl rfl rfl rfl rfl (fun p0 => ?_)) 
  refine ef rfl rfl (eBox rfl rfl rfl rfl rfl (fun p0a => ?_)) 
  refine pu rfl rfl rfl rfl rfl ?_
  refine tr_seq ?_
  refine tr_region fun _ _ _ => ?_
  refine st rfl rfl rfl rfl (rLdS rfl rfl rfl) ?_
  refine ef rfl rfl (eCallV rfl rfl rfl (ref_fldCheck _ _ _ _ _ hl9) ⟨rfl, trivial⟩ ?_) 
  refine pu rfl rfl rfl rfl rfl ?_
  refine tr_seq ?_
  refine tr_seq ?_
  refine tr_region fun _ _ _ => ?_
  iterate 2 refine pu rfl rfl rfl rfl rfl ?_
  refine tr_cond_bool rfl (fun h2 => ?_) (fun h2 => ?_)
  · try simp only [zb1, zb2, zb3, zb4, zb5, zb6, zb7, zb8, zb9, zb10] at h2
    rcases chkF_cases p m mod with h | h
    · omega
    · exact absurd hF h.1 --done
  · try simp only [zb1, zb2, zb3, zb4, zb5, zb6, zb7, zb8, zb9, zb10] at h2
    refine tr_skip ?_
    refine tr_seq ?_
    refine tr_seq ?_
    refine tr_region fun _ _ _ => ?_
    refine st rfl rfl rfl rfl (rFld rfl rfl) ?_
    refine st rfl rfl rfl rfl (rLdF rfl rfl rfl) ?_
    iterate 2 refine pu rfl rfl rfl rfl rfl ?_
    refine stg rfl rfl rfl rfl rfl (fun hb => by (have hq := hb; try simp only [zb1, zb2, zb3, zb4, zb5, zb6, zb7, zb8, zb9, zb10] at hq); exact rFld rfl rfl) ?_
    refine stg rfl rfl rfl rfl rfl (fun hb => by (have hq := hb; try simp only [zb1, zb2, zb3, zb4, zb5, zb6, zb7, zb8, zb9, zb10] at hq); exact rLdF rfl (evg rfl hb) rfl) ?_
    refine stg rfl rfl rfl rfl rfl (fun hb => by (have hq := hb; try simp only [zb1, zb2, zb3, zb4, zb5, zb6, zb7, zb8, zb9, zb10] at hq); exact rGtr rfl (evg rfl hb) rfl) ?_
    refine st rfl rfl rfl rfl (rOrB rfl rfl rfl rfl) ?_
    refine pu rfl rfl rfl rfl rfl ?_
    refine stg rfl rfl rfl rfl rfl (fun hb => by (have hq := hb; try simp only [zb1, zb2, zb3, zb4, zb5, zb6, zb7, zb8, zb9, zb10] at hq); exact rFld rfl rfl) ?_
    refine stg rfl rfl rfl rfl rfl (fun hb => by (have hq := hb; try simp only [zb1, zb2, zb3, zb4, zb5, zb6, zb7, zb8, zb9, zb10] at hq); exact rLdF rfl (evg rfl hb) rfl) ?_
    refine stg rfl rfl rfl rfl rfl (fun hb => by (have hq := hb; try simp only [zb1, zb2, zb3, zb4, zb5, zb6, zb7, zb8, zb9, zb10] at hq); exact rLen rfl (evg rfl hb)) ?_
    refine stg rfl rfl rfl rfl rfl (fun hb => by (have hq := hb; try simp only [zb1, zb2, zb3, zb4, zb5, zb6, zb7, zb8, zb9, zb10] at hq); exact rGtr rfl (evg rfl hb) rfl) ?_
    refine st rfl rfl rfl rfl (rOrB rfl rfl rfl rfl) ?_
    refine tr_cond_bool rfl (fun h4 => ?_) (fun h4 => ?_)
    · try simp only [zb1, zb2, zb3, zb4, zb5, zb6, zb7, zb8, zb9, zb10] at h4
      refine tr_seq ?_
      refine tr_region fun _ _ _ => ?_
      refine pu rfl rfl rfl rfl rfl ?_
      exact tr_ret ⟨trivial, _, _, rfl, ⟨by rw [rowsC_shape (by rw [xss_length]; omega)], rfl⟩, CSub.nil _, trivial⟩
    · try simp only [zb1, zb2, zb3, zb4, zb5, zb6, zb7, zb8, zb9, zb10] at h4
      refine tr_skip ?_
      refine tr_seq ?_
      refine tr_seq ?_
      refine tr_region fun _ _ _ => ?_
      refine pu rfl rfl rfl rfl rfl ?_
      refine tr_block ?_
      refine tr_loop1 (fun (k : Int) => [(6, .int .i64 k), (2, .pointer (some p0)), (3, .pointer (some p0a))]) (fun (k : Int) => [blk p0 36 [.int .i64 p, .int .i64 m, .slice A mod.length c], blk p0a 106 [.int .i64 w, .slice Aa n ca], ro A (ints mod), ro Aa (hdrs rs), rowsR rs]) (fun (k : Int) => (0 ≤ k ∧ k ≤ n) ∧ ∀ j : Nat, (j : Int) < k → ((rs.getD j rowD).xs.length : Int) = w) (fun (k : Int) => (n - k).toNat) (0) ⟨rfl, rfl, rfl, trivial⟩ (by first | exact cs _ _ | exact CSub.refl _) (⟨⟨by omega, by omega⟩, fun j hj => by omega⟩) (fun k hI => ?_)
      obtain ⟨⟨hk0, hk1⟩, hall⟩ := hI
      refine tr_seq ?_
      refine tr_seq ?_
      refine tr_region fun _ _ _ => ?_
      refine pu rfl rfl rfl rfl rfl ?_
      refine st rfl rfl rfl rfl (rFld rfl rfl) ?_
      refine st rfl rfl rfl rfl (rLdF rfl rfl rfl) ?_
      refine st rfl rfl rfl rfl (rLen rfl rfl) ?_
      refine pu rfl rfl rfl rfl rfl ?_
      refine tr_cond_bool rfl (fun h7 => ?_) (fun h7 => ?_)
      · try simp only [zb1, zb2, zb3, zb4, zb5, zb6, zb7, zb8, zb9, zb10] at h7
        refine tr_skip ?_
        refine tr_seq ?_
        refine tr_block ?_
        refine tr_seq ?_
        haveI : InB k.toNat rs.length := ⟨by omega⟩
        have hk8 := h8 _ (getD_mem (show k.toNat < rs.length by omega) rowD)
        refine tr_draw [0, 1, 2, 3, 4, 5, 6, 7, 8] [] mixed (by kernel_rfl) fun _ _ _ => ?_
        refine st rfl rfl rfl rfl (rFld rfl rfl) ?_
        refine st rfl rfl rfl rfl (rLdF rfl rfl rfl) ?_
        refine pu rfl rfl rfl rfl rfl ?_
        refine st rfl rfl rfl rfl (rIdxR rfl rfl rfl (by omega) (by omega) (by omega)) ?_
        refine st rfl rfl rfl rfl (rLdR rfl rfl (by omega)) ?_
        refine st rfl rfl rfl rfl (rLen rfl rfl) ?_
        refine st rfl rfl rfl rfl (rFld rfl rfl) ?_
        refine st rfl rfl rfl rfl (rLdF rfl rfl rfl) ?_
        refine pu rfl rfl rfl rfl rfl ?_
        refine tr_cond_bool rfl (fun h9 => ?_) (fun h9 => ?_)
        · try simp only [zb1, zb2, zb3, zb4, zb5, zb6, zb7, zb8, zb9, zb10] at h9
          refine tr_seq ?_
          refine tr_region fun _ _ _ => ?_
          refine pu rfl rfl rfl rfl rfl ?_
          have hno := xss_no (φ := fun r => (r.length : Int) = w) (show k.toNat < rs.length by omega) (by omega)
          exact tr_ret ⟨trivial, _, _, rfl, ⟨by rw [rowsC_len hno], rfl⟩, CSub.nil _, trivial⟩
        · try simp only [zb1, zb2, zb3, zb4, zb5, zb6, zb7, zb8, zb9, zb10] at h9
          refine tr_skip ?_
          refine tr_region fun _ _ _ => ?_
          refine pu rfl rfl rfl rfl rfl ?_
          refine st rfl rfl rfl rfl (rAdd rfl rfl rfl (by omega) (by omega)) ?_
          refine pu rfl rfl rfl rfl rfl ?_
          refine ⟨k + 1, ⟨rfl, rfl, rfl, trivial⟩, by first | exact cs _ _ | exact CSub.refl _, ?_⟩
          refine ⟨⟨⟨by omega, by omega⟩, fun j hj => ?_⟩, by omega⟩
          by_cases he : (j : Int) = k
          · have : j = k.toNat := by omega
            subst this; omega
          · exact hall j (by omega)
      · try simp only [zb1, zb2, zb3, zb4, zb5, zb6, zb7, zb8, zb9, zb10] at h7
        refine tr_exit ?_
        refine tr_seq ?_
        refine tr_seq ?_
        refine tr_region fun _ _ _ => ?_
        refine pu rfl rfl rfl rfl rfl ?_
        refine tr_block ?_
        refine tr_loop1 (fun (k : Int) => [(7, .int .i64 k), (2, .pointer (some p0)), (3, .pointer (some p0a))]) (fun (k : Int) => [blk p0 36 [.int .i64 p, .int .i64 m, .slice A mod.length c], blk p0a 106 [.int .i64 w, .slice Aa n ca], ro A (ints mod), ro Aa (hdrs rs), rowsR rs]) (fun (k : Int) => (0 ≤ k ∧ k ≤ n) ∧ ∀ j : Nat, (j : Int) < k → AllIn q (rs.getD j rowD).xs) (fun (k : Int) => (n - k).toNat) (0) ⟨rfl, rfl, rfl, trivial⟩ (by first | exact cs _ _ | exact CSub.refl _) (⟨⟨by omega, by omega⟩, fun j hj => by omega⟩) (fun k hI => ?_)
        have hlen : ∀ r ∈ xss rs, (r.length : Int) = w := xss_get fun j hj => hall j (by omega)
        clear hall
        obtain ⟨⟨hk0, hk1⟩, hall⟩ := hI
        refine tr_seq ?_
        refine tr_seq ?_
        refine tr_region fun _ _ _ => ?_
        refine pu rfl rfl rfl rfl rfl ?_
        refine st rfl rfl rfl rfl (rFld rfl rfl) ?_
        refine st rfl rfl rfl rfl (rLdF rfl rfl rfl) ?_
        refine st rfl rfl rfl rfl (rLen rfl rfl) ?_
        refine pu rfl rfl rfl rfl rfl ?_
        refine tr_cond_bool rfl (fun h12 => ?_) (fun h12 => ?_)
        · try simp only [zb1, zb2, zb3, zb4, zb5, zb6, zb7, zb8, zb9, zb10] at h12
          refine tr_skip ?_
          refine tr_seq ?_
          refine tr_block ?_
          refine tr_seq ?_
          haveI : InB k.toNat rs.length := ⟨by omega⟩
          have hk8 := h8 _ (getD_mem (show k.toNat < rs.length by omega) rowD)
          refine tr_draw [0, 1, 2, 3, 4, 5, 6, 7] [] mixed (by kernel_rfl) fun _ _ _ => ?_
          refine st rfl rfl rfl rfl (rLdS rfl rfl rfl) ?_
          refine st rfl rfl rfl rfl (rFld rfl rfl) ?_
          refine st rfl rfl rfl rfl (rLdF rfl rfl rfl) ?_
          refine pu rfl rfl rfl rfl rfl ?_
          refine st rfl rfl rfl rfl (rIdxR rfl rfl rfl (by omega) (by omega) (by omega)) ?_
          refine st rfl rfl rfl rfl (rLdR rfl rfl (by omega)) ?_
          refine ef rfl rfl (eCallV rfl rfl rfl (ref_Entries _ _ _ _ _ _ _ _ (rs.getD k.toNat rowD).xs rfl hk8) ⟨rfl, rfl, trivial⟩ ?_) 
          refine pu rfl rfl rfl rfl rfl ?_
          refine tr_seq ?_
          refine tr_region fun _ _ _ => ?_
          iterate 2 refine pu rfl rfl rfl rfl rfl ?_
          refine tr_cond_bool rfl (fun h15 => ?_) (fun h15 => ?_)
          · try simp only [zb1, zb2, zb3, zb4, zb5, zb6, zb7, zb8, zb9, zb10] at h15
            rw [hq] at h15
            have hek : ¬ AllIn q (rs.getD k.toNat rowD).xs := fun h => absurd (entC_ok h) (by omega)
            refine tr_seq ?_
            refine tr_region fun _ _ _ => ?_
            iterate 2 refine pu rfl rfl rfl rfl rfl ?_
            have hwb : 0 ≤ w ∧ w ≤ 256 ∧ (xss rs).length ≤ 256 := by rw [xss_length]; omega
            have hno := xss_no (φ := fun r => AllIn q r) (show k.toNat < rs.length by omega) hek
            exact tr_ret ⟨trivial, _, _, rfl, ⟨by rw [rowsC_ent hwb hlen hno, hq, entC_no hek], rfl⟩, CSub.nil _, trivial⟩
          · try simp only [zb1, zb2, zb3, zb4, zb5, zb6, zb7, zb8, zb9, zb10] at h15
            rw [hq] at h15
            have hek : AllIn q (rs.getD k.toNat rowD).xs := by
              rcases entC_cases q (rs.getD k.toNat rowD).xs with h | h
              · exact h.1
              · exact absurd h.2 (by omega)
            refine tr_skip ?_
            refine tr_region fun _ _ _ => ?_
            refine pu rfl rfl rfl rfl rfl ?_
            refine st rfl rfl rfl rfl (rAdd rfl rfl rfl (by omega) (by omega)) ?_
            refine pu rfl rfl rfl rfl rfl ?_
            refine ⟨k + 1, ⟨rfl, rfl, rfl, trivial⟩, by first | exact cs _ _ | exact CSub.refl _, ?_⟩
            refine ⟨⟨⟨by omega, by omega⟩, fun j hj => ?_⟩, by omega⟩
            by_cases he : (j : Int) = k
            · have : j = k.toNat := by omega
              subst this; exact hek
            · exact hall j (by omega)
        · try simp only [zb1, zb2, zb3, zb4, zb5, zb6, zb7, zb8, zb9, zb10] at h12
          refine tr_exit ?_
          refine tr_seq ?_
          refine tr_region fun _ _ _ => ?_
          refine pu rfl rfl rfl rfl rfl ?_
          have hwb : 0 ≤ w ∧ w ≤ 256 ∧ (xss rs).length ≤ 256 := by rw [xss_length]; omega
          have hall2 : ∀ r ∈ xss rs, AllIn q r := xss_get fun j hj => hall j (by omega)
          exact tr_ret ⟨trivial, _, _, rfl, ⟨by rw [rowsC_ok hwb hlen hall2], rfl⟩, CSub.nil _, trivial⟩

theorem ref_RCheckNo_ent : Enters Try.prog 152 := enters_of Try.func152 (by kernel_rfl) (by kernel_rfl)
theorem ref_RCheckNo (p m : Int) (A : Option Addr) (c : Nat) (mod : List Int) (hl9 : mod.length ≤ 17592186044415) (hF : ¬ FldR p m mod) (w : Int) (Aa : Option Addr) (n ca : Nat) (rs : List RowM) (hn : n = rs.length) (h9 : rs.length ≤ 17592186044415) :
    Pure Try.prog 152 #[.agg #[.int .i64 p, .int .i64 m, .slice A mod.length c], .agg #[.int .i64 w, .slice Aa n ca]] [ro A (ints mod), ro Aa (hdrs rs), rowsR rs] (isV (.int .i64 1)) := by
  have hc1 : chkF p m mod = 1 := (chkF_cases p m mod).elim (fun h => absurd h.1 hF) (·.2)
  refine pure_of (args := [.agg #[.int .i64 p, .int .i64 m, .slice A mod.length c], .agg #[.int .i64 w, .slice Aa n ca]]) 60 Try.func152 rfl rfl rfl ref_RCheckNo_ent ⟨id, id, id, trivial⟩ (fun w0 => ?_)
  refine tr_seq ?_
  refine tr_region fun _ _ _ => ?_
  refine ef rfl rfl (eBox rfl rfl rfl rfl rfl (fun p0 => ?_)) 
  refine ef rfl rfl (eBox rfl rfl rfl rfl rfl (fun p0a => ?_)) 
  refine pu rfl rfl rfl rfl rfl ?_
  refine tr_seq ?_
  refine tr_region fun _ _ _ => ?_
  refine st rfl rfl rfl rfl (rLdS rfl rfl rfl) ?_
  refine ef rfl rfl (eCallV rfl rfl rfl (ref_fldCheck _ _ _ _ _ hl9) ⟨rfl, trivial⟩ ?_) 
  refine pu rfl rfl rfl rfl rfl ?_
  refine tr_seq ?_
  refine tr_seq ?_
  refine tr_region fun _ _ _ => ?_
  iterate 2 refine pu rfl rfl rfl rfl rfl ?_
  refine tr_cond_bool rfl (fun h2 => ?_) (fun h2 => ?_)
  · try simp only [zb1, zb2, zb3, zb4, zb5, zb6, zb7, zb8, zb9, zb10] at h2
    refine tr_seq ?_
    refine tr_region fun _ _ _ => ?_
    iterate 2 refine pu rfl rfl rfl rfl rfl ?_
    exact tr_ret ⟨trivial, _, _, rfl, ⟨by rw [hc1], rfl⟩, CSub.nil _, trivial⟩
  · try simp only [zb1, zb2, zb3, zb4, zb5, zb6, zb7, zb8, zb9, zb10] at h2
    omega --done

end Go.Proofs.Ytjmojhflnjbgaaa

set_option linter.unusedSimpArgs false
set_option linter.unusedVariables false
namespace Go.Proofs.Ytjmojhflnjbgaaa
open Go.RowKit

section
variable {K : Type} [Fd K]
/-- A polynomial's coefficients as a word. -/
def pv (f : Po K) : Vc K := fun j => Po.cf f j
theorem pv_at (f : Po K) (j : Nat) : pv f j = Po.cf f j := rfl
/-- u is a word of n places, and d divides its polynomial. -/
def CyW (n : Nat) (d : Po K) (u : Vc K) : Prop := ∃ f : Po K, (∀ j, u j = Po.cf f j) ∧ Po.Sh f n ∧ d ∣ f
theorem CyW.zero (n : Nat) (d : Po K) : CyW n d 0 := ⟨0, fun _ => rfl, fun _ _ => rfl, Po.dvd_zero d⟩
theorem CyW.plus {n : Nat} {d : Po K} {u v : Vc K} (hu : CyW n d u) (hv : CyW n d v) (c : K) : CyW n d (u + Vc.sc c v) := by
  obtain ⟨f, h1, h2, h3⟩ := hu
  obtain ⟨g, k1, k2, k3⟩ := hv
  refine ⟨f + Po.C c * g, fun j => ?_, h2.add (fun j hj => ?_), Po.dvd_add h3 (Po.dvd_mul_ofL k3 _)⟩
  · rw [Vc.add_at, Vc.sc_at, Po.cf_add, Po.cf_C_mul, h1, k1]
  · rw [Po.cf_C_mul, k2 j hj, Fd.mul_zero]
theorem CyW.sp {n : Nat} {d : Po K} {V : List (Vc K)} (h : ∀ r ∈ V, CyW n d r) {u : Vc K} (hu : Vc.SpL V u) : CyW n d u :=
  hu.lift (CyW.zero n d) fun u c r hu hr => hu.plus (h r hr) c
theorem CyW.eq {n : Nat} {d : Po K} {u : Vc K} {f : Po K} (h : CyW n d u) (hf : ∀ j, u j = Po.cf f j) : Po.Sh f n ∧ d ∣ f := by
  obtain ⟨g, h1, h2, h3⟩ := h
  have : g = f := Po.ext fun j => by rw [← h1, hf]
  exact this ▸ ⟨h2, h3⟩
theorem mem_getD {V : List (Vc K)} {r : Vc K} (h : r ∈ V) : ∃ i, i < V.length ∧ V.getD i 0 = r := by
  obtain ⟨i, hi, rfl⟩ := List.getElem_of_mem h
  exact ⟨i, hi, by rw [List.getD_eq_getElem?_getD, List.getElem?_eq_getElem hi]; rfl⟩
theorem getD_memV {V : List (Vc K)} {i : Nat} (h : i < V.length) : V.getD i 0 ∈ V := by
  rw [List.getD_eq_getElem?_getD, List.getElem?_eq_getElem h]; exact List.getElem_mem h
/-- The multiples of d below degree n are the combinations of its first shifts. -/
theorem span_shifts {n e : Nat} {d : Po K} (hd : Po.len d = e + 1) (hen : e ≤ n) {V : List (Vc K)} (hV : V.length = n - e) (hr : ∀ i, i < n - e → ∀ j, V.getD i 0 j = Po.cf (Po.mn 1 i * d) j) (u : Vc K) : Vc.SpL V u ↔ CyW n d u := by
  constructor
  · refine CyW.sp fun r hr' => ?_
    obtain ⟨i, hi, rfl⟩ := mem_getD hr'
    refine ⟨Po.mn 1 i * d, hr i (by omega), ?_, Po.dvd_mulL d _⟩
    have := Po.Sh.mul (Po.mn_sh (1 : K) i) (hd ▸ Po.len_sh d)
    exact this.mono (by omega)
  · rintro ⟨f, hu, hf, h, rfl⟩
    have hd0 : d ≠ 0 := Po.len_pos_iff.1 (by omega)
    have key : ∀ (k : Nat) (h : Po K), k ≤ n - e → Po.Sh h k → ∀ v : Vc K, (∀ j, v j = Po.cf (d * h) j) → Vc.SpL V v := by
      intro k
      induction k with
      | zero =>
        intro h _ hs v hv
        have h0 : h = 0 := Po.ext fun j => hs j (Nat.zero_le j)
        have : v = 0 := Vc.ext fun j => by rw [hv, h0, Rg.mul_zero]; rfl
        rw [this]; exact Vc.Sp.zero
      | succ k ih =>
        intro h hk hs v hv
        have hs' : Po.Sh (h - Po.mn (Po.cf h k) k) k := fun j hj => by
          rw [Po.cf_sub, Po.cf_mn]
          by_cases hjk : j = k
          · rw [if_pos hjk, hjk, Rg.sub_self]
          · rw [if_neg hjk, hs j (by omega), Rg.sub_self]
        have h1 := ih (h - Po.mn (Po.cf h k) k) (by omega) hs' (pv (d * (h - Po.mn (Po.cf h k) k))) (fun _ => rfl)
        have h2 := Vc.Sp.add (Po.cf h k) h1 (getD_memV (V := V) (i := k) (by omega))
        have : v = pv (d * (h - Po.mn (Po.cf h k) k)) + Vc.sc (Po.cf h k) (V.getD k 0) := Vc.ext fun j => by
          rw [Vc.add_at, Vc.sc_at, pv_at, hr k (by omega), hv, ← Po.cf_C_mul, ← Po.cf_add]
          congr 1
          have : Po.mn (Po.cf h k) k = Po.C (Po.cf h k) * Po.mn 1 k := by
            have := Po.mn_mul (Po.cf h k) 1 0 k
            rw [Rg.mul_one, Nat.zero_add] at this
            exact this.symm
          rw [this]
          grind
        rw [this]; exact h2
    refine key (n - e) h (Nat.le_refl _) (fun j hj => ?_) u hu
    by_cases h0 : h = 0
    · rw [h0]; rfl
    · refine Po.cf_ge (Nat.le_trans ?_ hj)
      have h1 := Po.len_mul hd0 h0
      have h2 := Po.len_le hf
      omega
end
section
variable {p m : Int} {mod : List Int} [hF : IsF p m mod]
/-- The words of the multiples of g. -/
theorem span_words {n : Nat} (hn : 1 ≤ n) {g : Po (El p m mod)} {V : List (Vc (El p m mod))} (hV : V.length = n) (hr : ∀ i, i < n → ∀ j, V.getD i 0 j = Po.cf (Po.rem (Po.mn 1 i * g) (xn1 n)) j) (u : Vc (El p m mod)) :
    Vc.SpL V u ↔ CyW n (Po.gcd g (xn1 n)) u := by
  have hx := xn1_ne (p := p) (m := m) (mod := mod) hn
  have hl := xn1_len (p := p) (m := m) (mod := mod) hn
  have hG := Po.gcd_is g (xn1 n)
  have hsh : ∀ f : Po (El p m mod), Po.Sh (Po.rem f (xn1 n)) n := fun f => (Po.len_sh _).mono (by have := Po.rem_len f hx; omega)
  constructor
  · refine CyW.sp fun r hr' => ?_
    obtain ⟨i, hi, rfl⟩ := mem_getD hr'
    refine ⟨Po.rem (Po.mn 1 i * g) (xn1 n), hr i (by omega), hsh _, ?_⟩
    exact Po.dvd_of_sub (Po.dvd_mul_ofL hG.left _) (Po.dvd_trans hG.right (Po.rem_sub_dvd _ hx))
  · rintro ⟨f, hu, hf, h, rfl⟩
    obtain ⟨a, b, hab⟩ := hG.bez
    have key : ∀ h : Po (El p m mod), ∀ v : Vc (El p m mod), (∀ j, v j = Po.cf (Po.rem (h * g) (xn1 n)) j) → Vc.SpL V v := by
      intro h
      refine Po.ind (P := fun h => ∀ v : Vc (El p m mod), (∀ j, v j = Po.cf (Po.rem (h * g) (xn1 n)) j) → Vc.SpL V v) ?_ ?_ h
      · intro v hv
        have : v = 0 := Vc.ext fun j => by
          rw [hv, Rg.zero_mul, Po.rem_small (by rw [Po.len_zero]; omega)]; rfl
        rw [this]; exact Vc.Sp.zero
      · intro c k f ih v hv
        have hkn := Nat.mod_lt k (show 0 < n by omega)
        have h2 := Vc.Sp.add c (ih (pv (Po.rem (f * g) (xn1 n))) (fun _ => rfl)) (getD_memV (V := V) (i := k % n) (by omega))
        have e : Po.rem ((f + Po.mn c k) * g) (xn1 n) = Po.rem (f * g) (xn1 n) + Po.C c * Po.rem (Po.mn 1 (k % n) * g) (xn1 n) := by
          have hs : Po.Sh (Po.rem (f * g) (xn1 n) + Po.C c * Po.rem (Po.mn 1 (k % n) * g) (xn1 n)) n := (hsh _).add fun j hj => by rw [Po.cf_C_mul, hsh _ j hj, Fd.mul_zero]
          rw [← Po.rem_small (f := Po.rem (f * g) (xn1 n) + Po.C c * Po.rem (Po.mn 1 (k % n) * g) (xn1 n)) (g := xn1 n) (by have := Po.len_le hs; omega)]
          refine (Po.rem_eq_iff hx).2 ?_
          obtain ⟨x, h1⟩ := Po.rem_sub_dvd (f * g) hx
          obtain ⟨y, h2⟩ := Po.rem_sub_dvd (Po.mn 1 (k % n) * g) hx
          obtain ⟨z, h3⟩ := xn1_mod n c k
          have h4 : Po.mn c (k % n) = Po.C c * Po.mn (1 : El p m mod) (k % n) := by
            have := Po.mn_mul c 1 0 (k % n)
            rw [Rg.mul_one, Nat.zero_add] at this
            exact this.symm
          rw [h4] at h3
          refine ⟨x + Po.C c * y + z * g, ?_⟩
          have e1 : f * g = Po.rem (f * g) (xn1 n) + xn1 n * x := by grind
          have e2 : Po.mn 1 (k % n) * g = Po.rem (Po.mn 1 (k % n) * g) (xn1 n) + xn1 n * y := by grind
          have e3 : Po.mn c k = Po.C c * Po.mn 1 (k % n) + xn1 n * z := by grind
          rw [e3]
          generalize Po.rem (f * g) (xn1 n) = r1 at *
          generalize Po.rem (Po.mn 1 (k % n) * g) (xn1 n) = r2 at *
          grind
        have : v = pv (Po.rem (f * g) (xn1 n)) + Vc.sc c (V.getD (k % n) 0) := Vc.ext fun j => by
          rw [hv, e, Po.cf_add, Po.cf_C_mul, Vc.add_at, Vc.sc_at, pv_at, hr _ hkn]
        rw [this]; exact h2
    refine key (h * a) u fun j => ?_
    rw [hu]
    congr 1
    rw [← Po.rem_small (f := Po.gcd g (xn1 n) * h) (g := xn1 n) (by have := Po.len_le hf; omega)]
    refine (Po.rem_eq_iff hx).2 ⟨h * b, ?_⟩
    rw [← hab]
    grind
end
section
variable {K : Type} [Fd K]
/-- The first shifts of d. -/
def shfs (n e : Nat) (d : Po K) : List (Vc K) := (List.range (n - e)).map fun i => pv (Po.mn 1 i * d)
theorem shfs_length (n e : Nat) (d : Po K) : (shfs n e d).length = n - e := by simp [shfs]
theorem shfs_at {n e : Nat} {d : Po K} {i : Nat} (hi : i < n - e) (j : Nat) : (shfs n e d).getD i 0 j = Po.cf (Po.mn 1 i * d) j := by
  unfold shfs
  rw [List.getD_eq_getElem?_getD, List.getElem?_map, List.getElem?_range hi]
  rfl
theorem shfs_indep {n e : Nat} {d : Po K} (hd : Po.len d = e + 1) : ¬ Vc.Dep (shfs n e d) := fun ⟨c, ⟨i, hi, hc⟩, h0⟩ => by
  rw [shfs_length] at hi
  have key : ∀ t i : Nat, i < n - e → n - e ≤ i + t → c i = 0 := by
    intro t
    induction t with
    | zero => intro i hi ht; omega
    | succ t ih =>
      intro i hi ht
      have h1 := congrFun h0 (i + e)
      rw [Vc.cmb_at _ 0, shfs_length, Rg.sm_one (k := i) hi (fun k hk hne => by
        rw [shfs_at hk, Po.cf_mn_mul]
        rcases Nat.lt_or_gt_of_ne hne with h | h
        · rw [if_neg (by omega), Po.cf_ge (by omega), Fd.mul_zero, Fd.mul_zero]
        · rw [ih k hk (by omega), Fd.zero_mul]), shfs_at hi, Po.cf_mn_mul, if_neg (by omega), Rg.one_mul, show i + e - i = e by omega] at h1
      exact (Fd.mul_eq_zero h1).resolve_right (Po.lead_ne hd)
  exact hc (key (n - e) i hi (by omega))
theorem cyc_dim {n e : Nat} {d : Po K} (hd : Po.len d = e + 1) (hen : e ≤ n) {R : List (Vc K)} {ps : List Nat} (h : Vc.Rr n R ps) (hs : ∀ u, Vc.SpL R u ↔ CyW n d u) : R.length = n - e := by
  rw [h.dim (shfs_indep (n := n) hd) fun u => (hs u).trans (span_shifts hd hen (shfs_length n e d) (fun i hi j => shfs_at hi j) u).symm, shfs_length]
end
end Go.Proofs.Ytjmojhflnjbgaaa

set_option linter.unusedSimpArgs false
set_option linter.unusedVariables false
namespace Go.Proofs.Ytjmojhflnjbgaaa
open Go.RowKit

theorem getD_app1 {α : Type} (l : List α) (x d : α) (j : Nat) : (l ++ [x]).getD j d = if j = l.length then x else l.getD j d := by
  rw [List.getD_eq_getElem?_getD, List.getD_eq_getElem?_getD]
  by_cases h : j = l.length
  · subst h; simp
  · rw [if_neg h]
    rcases Nat.lt_or_gt_of_ne h with h | h
    · rw [List.getElem?_append_left h]
    · rw [List.getElem?_eq_none (by simp; omega), List.getElem?_eq_none (by omega)]
theorem Gd.snoc {q : Int} {w : Nat} {rs : List RowM} (h : Gd q w rs) {r : RowM} (h1 : r.xs.length = w) (h2 : AllIn q r.xs) : Gd q w (rs ++ [r]) := fun s hs => by
  rcases List.mem_append.1 hs with hs | hs
  · exact h s hs
  · rw [List.mem_singleton.1 hs]; exact ⟨h1, h2⟩
theorem Gd.nil (q : Int) (w : Nat) : Gd q w [] := fun r hr => by simp at hr
theorem Gd.app {q : Int} {w : Nat} {rs qs : List RowM} (h : Gd q w rs) (k : Gd q w qs) : Gd q w (rs ++ qs) := fun s hs => (List.mem_append.1 hs).elim (h s) (k s)
theorem xss_snoc (rs : List RowM) (r : RowM) : xss (rs ++ [r]) = xss rs ++ [r.xs] := by simp [xss]
theorem xss_app (rs qs : List RowM) : xss (rs ++ qs) = xss rs ++ xss qs := by simp [xss]
theorem xss_getD (rs : List RowM) (j : Nat) : (xss rs).getD j [] = (rs.getD j rowD).xs := by
  rw [List.getD_eq_getElem?_getD, List.getD_eq_getElem?_getD, xss, List.getElem?_map]
  cases rs[j]? <;> rfl
theorem Gd.xss {q : Int} {w : Nat} {rs qs : List RowM} (h : Gd q w rs) (he : xss rs = xss qs) : Gd q w qs := Gd.of (rs := rs) (qs := qs) he.symm h

section
variable {p m : Int} {mod : List Int} [hF : IsF p m mod]
theorem vsR_xss (rs : List RowM) : (vsR rs : List (Vc (El p m mod))) = (xss rs).map rw' := by simp [vsR, xss]
theorem vsR_app (rs qs : List RowM) : (vsR (rs ++ qs) : List (Vc (El p m mod))) = vsR rs ++ vsR qs := by simp [vsR]
theorem rw_pol (l : List Int) (j : Nat) : (rw' l : Vc (El p m mod)) j = Po.cf (pol l) j := rfl
theorem rw_inj2 {a b : List Int} (ha : AllIn (pw p m) a) (hb : AllIn (pw p m) b) (hl : a.length = b.length) (h : (rw' a : Vc (El p m mod)) = rw' b) : a = b := ext_getD hl fun j => by
  have hq := hF.q2
  exact el_inj (p := p) (m := m) (mod := mod) (ha.get (by omega) j) (hb.get (by omega) j) (congrFun h j)
theorem rows_inj {w : Nat} {rs qs : List RowM} (h1 : Gd (pw p m) w rs) (h2 : Gd (pw p m) w qs) (h : (vsR rs : List (Vc (El p m mod))) = vsR qs) : xss rs = xss qs := by
  have hl : rs.length = qs.length := by have := congrArg List.length h; simpa using this
  refine List.ext_getElem (by simpa using hl) fun j h3 h4 => ?_
  have h3' : j < rs.length := by simpa using h3
  have h4' : j < qs.length := by simpa using h4
  have e := congrArg (fun l => l.getD j 0) h
  simp only [vsR_get] at e
  have a := h1.get h3'
  have b := h2.get h4'
  have := rw_inj2 a.2 b.2 (a.1.trans b.1.symm) e
  rw [← xss_getD, ← xss_getD, List.getD_eq_getElem?_getD, List.getD_eq_getElem?_getD, List.getElem?_eq_getElem h3, List.getElem?_eq_getElem h4] at this
  exact this
end
/-- Canonical rows of width w, whose combinations are the words of W. -/
structure CdOf (p m : Int) (mod : List Int) [hF : IsF p m mod] (w : Nat) (rs : List RowM) (W : Vc (El p m mod) → Prop) : Prop where
  good : Gd (pw p m) w rs
  form : ∃ qs, Vc.Rr w (vsR rs : List (Vc (El p m mod))) qs
  span : ∀ u, Vc.SpL (vsR rs : List (Vc (El p m mod))) u ↔ W u
section
variable {p m : Int} {mod : List Int} [hF : IsF p m mod] {w : Nat} {rs qs r3 : List RowM} {W W' : Vc (El p m mod) → Prop}
theorem CdOf.uniq (h : CdOf p m mod w rs W) (k : CdOf p m mod w qs W) : xss rs = xss qs := by
  obtain ⟨a, ha⟩ := h.form
  obtain ⟨b, hb⟩ := k.form
  exact rows_inj h.good k.good (ha.uniq hb fun u => (h.span u).trans (k.span u).symm).1
theorem CdOf.iff (h : CdOf p m mod w rs W) (hi : ∀ u, W u ↔ W' u) : CdOf p m mod w rs W' := ⟨h.good, h.form, fun u => (h.span u).trans (hi u)⟩
theorem CdOf.eq (h : CdOf p m mod w rs W) (k : CdOf p m mod w qs W') (hi : ∀ u, W u ↔ W' u) : xss rs = xss qs := (h.iff hi).uniq k
theorem RrOf.cd {ps : List Int} (h : RrOf p m mod w rs r3 ps) (hi : ∀ u, Vc.SpL (vsR rs) u ↔ W u) : CdOf p m mod w r3 W := by
  obtain ⟨qs, _, hq⟩ := h.form
  exact ⟨h.good, ⟨qs, hq⟩, fun u => (h.span u).trans (hi u)⟩
theorem CdOf.xss (h : CdOf p m mod w rs W) (he : xss rs = xss qs) : CdOf p m mod w qs W := by
  have hv : (vsR rs : List (Vc (El p m mod))) = vsR qs := by rw [vsR_xss, vsR_xss, he]
  refine ⟨h.good.xss he, ?_, fun u => ?_⟩
  · rw [← hv]; exact h.form
  · rw [← hv]; exact h.span u
theorem Rr_le {K : Type} [Fd K] {n : Nat} {R : List (Vc K)} {ps : List Nat} (h : Vc.Rr n R ps) : R.length ≤ n := by
  rw [← h.len]
  have key : ∀ k : Nat, k < ps.length → k ≤ ps.getD k 0 := by
    intro k
    induction k with
    | zero => intro _; omega
    | succ k ih => intro hk; have := ih (by omega); have := h.rise k (k + 1) (by omega) hk; omega
  rcases Nat.eq_zero_or_pos ps.length with h0 | h0
  · omega
  · have := key (ps.length - 1) (by omega); have := h.lt (ps.length - 1) (by omega); omega
theorem CdOf.le (h : CdOf p m mod w rs W) : rs.length ≤ w := by
  obtain ⟨a, ha⟩ := h.form
  have := Rr_le ha
  simpa using this
end
/-- The rows are canonical. -/
def formP (p m : Int) (mod : List Int) [hF : IsF p m mod] (w : Nat) (rs : List RowM) : Prop := ∃ qs, Vc.Rr w (vsR rs : List (Vc (El p m mod))) qs
section
variable {p m : Int} {mod : List Int} [hF : IsF p m mod] {w : Nat} {rs r3 : List RowM}
theorem RrOf.form_iff {ps : List Int} (h : RrOf p m mod w rs r3 ps) (hg : Gd (pw p m) w rs) : xss r3 = xss rs ↔ formP p m mod w rs := by
  obtain ⟨qs, _, hq⟩ := h.form
  constructor
  · intro he
    refine ⟨qs, ?_⟩
    have hv : (vsR r3 : List (Vc (El p m mod))) = vsR rs := by rw [vsR_xss, vsR_xss, he]
    rw [← hv]; exact hq
  · rintro ⟨q2, h2⟩
    exact rows_inj h.good hg (hq.uniq h2 h.span).1
theorem RrOf.piv {ps : List Int} (h : RrOf p m mod w rs r3 ps) (he : xss r3 = xss rs) : ∃ qs, ps = qs.map Int.ofNat ∧ Vc.Rr w (vsR rs : List (Vc (El p m mod))) qs := by
  obtain ⟨qs, h1, hq⟩ := h.form
  refine ⟨qs, h1, ?_⟩
  have hv : (vsR r3 : List (Vc (El p m mod))) = vsR rs := by rw [vsR_xss, vsR_xss, he]
  rw [← hv]; exact hq
end
open Classical in
/-- The error of a code. -/
noncomputable def codC (p m : Int) (mod : List Int) (n : Int) (rs : List RowM) : Int :=
  if h : FldR p m mod then if n < 1 ∨ n > 64 then 4 else if rowsC (pw p m) n (xss rs) ≠ 0 then rowsC (pw p m) n (xss rs) else if @formP p m mod ⟨h⟩ n.toNat rs then 0 else 5 else 1
theorem codC_no {p m : Int} {mod : List Int} (n : Int) (rs : List RowM) (h : ¬ FldR p m mod) : codC p m mod n rs = 1 := by unfold codC; rw [dif_neg h]
section
variable {p m : Int} {mod : List Int} [hF : IsF p m mod] {n : Int} {rs : List RowM}
theorem codC_ln (hb : n < 1 ∨ n > 64) : codC p m mod n rs = 4 := by unfold codC; rw [dif_pos hF.out, if_pos hb]
theorem codC_rw (hb : ¬ (n < 1 ∨ n > 64)) (h : rowsC (pw p m) n (xss rs) ≠ 0) : codC p m mod n rs = rowsC (pw p m) n (xss rs) := by unfold codC; rw [dif_pos hF.out, if_neg hb, if_pos h]
theorem codC_fm (hb : ¬ (n < 1 ∨ n > 64)) (h : rowsC (pw p m) n (xss rs) = 0) (hf : ¬ formP p m mod n.toNat rs) : codC p m mod n rs = 5 := by unfold codC; rw [dif_pos hF.out, if_neg hb, if_neg (by omega), if_neg hf]
theorem codC_ok (hb : ¬ (n < 1 ∨ n > 64)) (h : rowsC (pw p m) n (xss rs) = 0) (hf : formP p m mod n.toNat rs) : codC p m mod n rs = 0 := by unfold codC; rw [dif_pos hF.out, if_neg hb, if_neg (by omega), if_pos hf]
theorem rowsC_Gd (h : rowsC (pw p m) n (xss rs) = 0) : Gd (pw p m) n.toNat rs ∧ 0 ≤ n ∧ n ≤ 256 ∧ rs.length ≤ 256 := by
  obtain ⟨h1, h2, h3⟩ := rowsC_zero h
  rw [xss_length] at h1
  exact ⟨(Gd_iff h1.1).2 ⟨h2, h3⟩, h1.1, h1.2.1, by omega⟩
end
/-- What is known of a code without an error. -/
structure CodeOk (p m : Int) (mod : List Int) [hF : IsF p m mod] (n : Int) (rs : List RowM) : Prop where
  n1 : 1 ≤ n
  n64 : n ≤ 64
  row : rowsC (pw p m) n (xss rs) = 0
  good : Gd (pw p m) n.toNat rs
  form : formP p m mod n.toNat rs
theorem CodeOk.cd {p m : Int} {mod : List Int} [hF : IsF p m mod] {n : Int} {rs : List RowM} (h : CodeOk p m mod n rs) : CdOf p m mod n.toNat rs (Vc.SpL (vsR rs)) := ⟨h.good, h.form, fun _ => Iff.rfl⟩
theorem CodeOk.len {p m : Int} {mod : List Int} [hF : IsF p m mod] {n : Int} {rs : List RowM} (h : CodeOk p m mod n rs) : rs.length ≤ 64 := by have := h.cd.le; have := h.n64; omega
theorem CodeOk.zero {p m : Int} {mod : List Int} [hF : IsF p m mod] {n : Int} {rs : List RowM} (h : CodeOk p m mod n rs) : codC p m mod n rs = 0 := codC_ok (by have := h.n1; have := h.n64; omega) h.row h.form
theorem codC_zero {p m : Int} {mod : List Int} {n : Int} {rs : List RowM} (h : codC p m mod n rs = 0) : ∃ hF : FldR p m mod, @CodeOk p m mod ⟨hF⟩ n rs := by
  by_cases hF : FldR p m mod
  · haveI : IsF p m mod := ⟨hF⟩
    refine ⟨hF, ?_⟩
    by_cases hb : n < 1 ∨ n > 64
    · rw [codC_ln hb] at h; omega
    · by_cases hr : rowsC (pw p m) n (xss rs) = 0
      · by_cases hf : formP p m mod n.toNat rs
        · exact ⟨by omega, by omega, hr, (rowsC_Gd hr).1, hf⟩
        · rw [codC_fm hb hr hf] at h; omega
      · rw [codC_rw hb hr] at h; omega
  · rw [codC_no n rs hF] at h; omega
theorem CdOf.ok {p m : Int} {mod : List Int} [hF : IsF p m mod] {n : Int} {rs : List RowM} {W : Vc (El p m mod) → Prop} (h : CdOf p m mod n.toNat rs W) (h1 : 1 ≤ n) (h2 : n ≤ 64) : CodeOk p m mod n rs :=
  ⟨h1, h2, rowsC_ok (by rw [xss_length]; have := h.le; omega) ((Gd_iff (by omega)).1 h.good).1 ((Gd_iff (by omega)).1 h.good).2, h.good, h.form⟩
/-! ### shifted rows -/
/-- The list gen, put behind k zeros into n places. -/
def shR (n : Nat) (gen : List Int) (k : Nat) : List Int := (List.replicate n 0).take k ++ gen.take (min gen.length (n - k)) ++ (List.replicate n 0).drop (k + min gen.length (n - k))
theorem shR_def (n : Nat) (gen : List Int) (k : Nat) : (List.replicate n 0).take k ++ gen.take (min gen.length (n - k)) ++ (List.replicate n 0).drop (k + min gen.length (n - k)) = shR n gen k := rfl
theorem shR_eq {n k : Nat} {gen : List Int} (h : k + gen.length ≤ n) : shR n gen k = List.replicate k 0 ++ gen ++ List.replicate (n - (k + gen.length)) 0 := by
  unfold shR
  rw [show min gen.length (n - k) = gen.length by omega, List.take_length, List.take_replicate, List.drop_replicate, show min k n = k by omega]
theorem shR_length {n k : Nat} {gen : List Int} (h : k + gen.length ≤ n) : (shR n gen k).length = n := by rw [shR_eq h]; simp; omega
theorem shR_in {q : Int} (hq : 1 ≤ q) {n k : Nat} {gen : List Int} (h : k + gen.length ≤ n) (hg : AllIn q gen) : AllIn q (shR n gen k) := fun c hc => by
  rw [shR_eq h] at hc
  rcases List.mem_append.1 hc with hc | hc
  · rcases List.mem_append.1 hc with hc | hc
    · rw [List.eq_of_mem_replicate hc]; omega
    · exact hg c hc
  · rw [List.eq_of_mem_replicate hc]; omega
theorem shR_getD {n k : Nat} {gen : List Int} (h : k + gen.length ≤ n) (j : Nat) : (shR n gen k).getD j 0 = if j < k then 0 else gen.getD (j - k) 0 := by
  rw [shR_eq h, List.getD_eq_getElem?_getD, List.getD_eq_getElem?_getD]
  by_cases h1 : j < k
  · rw [if_pos h1, List.append_assoc, List.getElem?_append_left (by simpa using h1)]
    simp [h1]
  · rw [if_neg h1, List.append_assoc, List.getElem?_append_right (by simp; omega), List.length_replicate]
    by_cases h2 : j - k < gen.length
    · rw [List.getElem?_append_left h2]
    · rw [List.getElem?_append_right (by omega), List.getElem?_eq_none (l := gen) (by omega), List.getElem?_replicate]
      split <;> rfl
section
variable {p m : Int} {mod : List Int} [hF : IsF p m mod]
theorem shR_cf {n k : Nat} {d : Po (El p m mod)} (h : k + (il d).length ≤ n) (j : Nat) : (rw' (shR n (il d) k) : Vc (El p m mod)) j = Po.cf (Po.mn 1 k * d) j := by
  rw [rw_at, shR_getD h, Po.cf_mn_mul]
  split
  · exact el_zero
  · rw [il_getD, el_of, Rg.one_mul]
theorem il_mul_le (a b : List Int) : (il ((pol a : Po (El p m mod)) * pol b)).length ≤ a.length + b.length := by
  rw [il_length]
  exact Po.len_le ((pol_sh a).mul ((pol_sh b).mono (by omega)))
end
end Go.Proofs.Ytjmojhflnjbgaaa

set_option linter.unusedSimpArgs false
set_option linter.unusedVariables false
namespace Go.Proofs.Ytjmojhflnjbgaaa
open Go.RowKit
theorem take_map_succ {α : Type} (f : Nat → α) (qs : List Nat) {k : Nat} (hk : k < qs.length) : (qs.take (k + 1)).map f = (qs.take k).map f ++ [f (qs.getD k 0)] := by
  rw [List.take_add_one, List.getElem?_eq_getElem hk, List.map_append, List.getD_eq_getElem?_getD, List.getElem?_eq_getElem hk]
  rfl
namespace Vc
variable {K : Type} [Fd K]
/-- The first k coefficients. -/
def upC (c : Nat → K) (k : Nat) : Nat → K := fun i => if i < k then c i else 0
theorem cmb_congr {c d : Nat → K} {V : List (Vc K)} (h : ∀ i, i < V.length → c i = d i) : cmb c V = cmb d V := ext fun j => by
  rw [cmb_at _ 0, cmb_at _ 0]
  exact Rg.sm_congr fun i hi => by rw [h i hi]
theorem cmb_up_zero (c : Nat → K) (V : List (Vc K)) : cmb (upC c 0) V = 0 := by
  rw [← cmb_zero V]; exact cmb_congr fun i _ => by unfold upC; rw [if_neg (by omega)]
theorem cmb_up_succ (c : Nat → K) {V : List (Vc K)} {k : Nat} (hk : k < V.length) : cmb (upC c (k + 1)) V = cmb (upC c k) V + sc (c k) (V.getD k 0) := by
  rw [← cmb_unit 0 V k hk, ← cmb_sc, ← cmb_add]
  refine cmb_congr fun i _ => ?_
  unfold upC
  rcases Nat.lt_trichotomy i k with h | h | h
  · rw [if_pos (by omega), if_pos h, if_neg (by omega), Fd.mul_zero, Fd.add_zero]
  · rw [if_pos (by omega), if_neg (by omega), if_pos h, Fd.mul_one, Rg.zero_add, h]
  · rw [if_neg (by omega), if_neg (by omega), if_neg (by omega), Fd.mul_zero, Fd.add_zero]
theorem cmb_up_all (c : Nat → K) {V : List (Vc K)} {k : Nat} (hk : V.length ≤ k) : cmb (upC c k) V = cmb c V := cmb_congr fun i hi => by unfold upC; rw [if_pos (by omega)]
theorem Rr.up_at {n : Nat} {R : List (Vc K)} {ps : List Nat} (h : Rr n R ps) (c : Nat → K) {k : Nat} (hk : k < ps.length) : cmb (upC c k) R (ps.getD k 0) = 0 := by
  rw [h.at_piv _ hk]; unfold upC; rw [if_neg (by omega)]
theorem Rr.mem_iff {n : Nat} {R : List (Vc K)} {ps : List Nat} (h : Rr n R ps) (u : Vc K) : SpL R u ↔ u - cmb (fun i => u (ps.getD i 0)) R = 0 := by
  constructor
  · intro hu
    have := h.eq hu
    exact ext fun j => by rw [sub_at, ← this]; exact Rg.sub_self _
  · intro h0
    have : u = cmb (fun i => u (ps.getD i 0)) R := ext fun j => by
      have := congrFun h0 j
      exact Rg.eq_of_sub this
    rw [this]; exact cmb_sp _ R
end Vc
section
variable {p m : Int} {mod : List Int} [hF : IsF p m mod]
/-- Whether a word is a combination of the rows. -/
noncomputable def memB (p m : Int) (mod : List Int) [hF : IsF p m mod] (rs : List RowM) (l : List Int) : Bool := @decide (Vc.SpL (vsR rs : List (Vc (El p m mod))) (rw' l)) (Classical.propDecidable _)
theorem memB_iff {rs : List RowM} {l : List Int} : memB p m mod rs l = true ↔ Vc.SpL (vsR rs : List (Vc (El p m mod))) (rw' l) := @decide_eq_true_iff _ (Classical.propDecidable _)
theorem rw_zero_iff {o : List Int} (ho : AllIn (pw p m) o) : (rw' o : Vc (El p m mod)) = 0 ↔ ∀ z ∈ o, z = 0 := by
  have hq := hF.q2
  constructor
  · intro h z hz
    obtain ⟨j, hj, rfl⟩ := List.getElem_of_mem hz
    have e : (el (o.getD j 0) : El p m mod) = 0 := congrFun h j
    rw [el_eq_zero (ho.get (by omega) j), List.getD_eq_getElem?_getD, List.getElem?_eq_getElem hj] at e
    exact e
  · intro h
    refine Vc.ext fun j => ?_
    have : o.getD j 0 = 0 := by
      rcases Nat.lt_or_ge j o.length with hj | hj
      · exact h _ (getD_mem hj 0)
      · exact getD_out hj
    rw [rw_at, this, el_zero]; rfl
/-- What is left of a word, and what that tells. -/
theorem memB_eq {n : Nat} {rs : List RowM} {qs : List Nat} (h : Vc.Rr n (vsR rs : List (Vc (El p m mod))) qs) {l o : List Int} (ho : AllIn (pw p m) o) (e : (rw' o : Vc (El p m mod)) = rw' l - Vc.cmb (fun i => rw' l (qs.getD i 0)) (vsR rs)) :
    memB p m mod rs l = true ↔ ∀ z ∈ o, z = 0 := by rw [memB_iff, h.mem_iff, ← e, rw_zero_iff ho]
theorem ofNat_getD (qs : List Nat) (k : Nat) : (qs.map Int.ofNat).getD k 0 = (qs.getD k 0 : Int) := by
  rw [List.getD_eq_getElem?_getD, List.getD_eq_getElem?_getD, List.getElem?_map]
  cases qs[k]? <;> rfl
end
end Go.Proofs.Ytjmojhflnjbgaaa

set_option linter.unusedSimpArgs false
set_option linter.unusedVariables false
namespace Go.Proofs.Ytjmojhflnjbgaaa
open Go.RowKit
/-- The place behind i in its block. -/
def nxI (m i : Nat) : Nat := i / m * m + (i % m + 1) % m
def pvI (m j : Nat) : Nat := j / m * m + (j % m + (m - 1)) % m
theorem blk_div {m q r : Nat} (hr : r < m) : (q * m + r) / m = q ∧ (q * m + r) % m = r := by
  rw [Nat.add_comm, Nat.mul_comm]
  exact ⟨by rw [Nat.add_mul_div_left _ _ (by omega), Nat.div_eq_of_lt hr]; omega, by rw [Nat.add_mul_mod_self_left, Nat.mod_eq_of_lt hr]⟩
theorem pv_nx {m : Nat} (hm : 1 ≤ m) (i : Nat) : pvI m (nxI m i) = i := by
  have h1 := Nat.mod_lt (i % m + 1) (show m > 0 by omega)
  have h2 := Nat.mod_lt i (show m > 0 by omega)
  have h3 := Nat.div_add_mod i m
  unfold pvI nxI
  rw [(blk_div h1).1, (blk_div h1).2]
  have : ((i % m + 1) % m + (m - 1)) % m = i % m := by
    by_cases h : i % m + 1 = m
    · rw [h, Nat.mod_self, Nat.zero_add, Nat.mod_eq_of_lt (by omega)]; omega
    · rw [Nat.mod_eq_of_lt (show i % m + 1 < m by omega), show i % m + 1 + (m - 1) = i % m + m by omega, Nat.add_mod_right, Nat.mod_eq_of_lt h2]
  rw [this, Nat.mul_comm]; exact h3
theorem nx_pv {m : Nat} (hm : 1 ≤ m) (j : Nat) : nxI m (pvI m j) = j := by
  have h1 := Nat.mod_lt (j % m + (m - 1)) (show m > 0 by omega)
  have h2 := Nat.mod_lt j (show m > 0 by omega)
  have h3 := Nat.div_add_mod j m
  unfold pvI nxI
  rw [(blk_div h1).1, (blk_div h1).2]
  have : ((j % m + (m - 1)) % m + 1) % m = j % m := by
    by_cases h : j % m = 0
    · rw [h, Nat.zero_add, Nat.mod_eq_of_lt (show m - 1 < m by omega), show m - 1 + 1 = m by omega, Nat.mod_self]
    · rw [show j % m + (m - 1) = (j % m - 1) + m by omega, Nat.add_mod_right, Nat.mod_eq_of_lt (show j % m - 1 < m by omega), show j % m - 1 + 1 = j % m by omega, Nat.mod_eq_of_lt h2]
  rw [this, Nat.mul_comm]; exact h3
theorem blk_lt {m n q r : Nat} (hd : m ∣ n) (hr : r < m) (hq : q * m < n) : q * m + r < n := by
  obtain ⟨k, rfl⟩ := hd
  have : q < k := by
    rcases Nat.lt_or_ge q k with h | h
    · exact h
    · have := Nat.mul_le_mul_right m h; rw [Nat.mul_comm m k] at hq; omega
  have := Nat.mul_le_mul_right m (show q + 1 ≤ k by omega)
  rw [Nat.mul_comm m k]
  rw [Nat.add_mul] at this
  omega
theorem nx_lt {m n i : Nat} (hm : 1 ≤ m) (hd : m ∣ n) (hi : i < n) : nxI m i < n := blk_lt hd (Nat.mod_lt _ (by omega)) (by have := Nat.div_mul_le_self i m; omega)
theorem pv_lt {m n j : Nat} (hm : 1 ≤ m) (hd : m ∣ n) (hj : j < n) : pvI m j < n := blk_lt hd (Nat.mod_lt _ (by omega)) (by have := Nat.div_mul_le_self j m; omega)
/-- The word whose blocks of m entries are turned. -/
def shF (m : Nat) (l : List Int) : List Int := (List.range l.length).map fun j => l.getD (pvI m j) 0
@[simp] theorem shF_length (m : Nat) (l : List Int) : (shF m l).length = l.length := by simp [shF]
theorem shF_get (m : Nat) (l : List Int) {j : Nat} (h : j < l.length) : (shF m l).getD j 0 = l.getD (pvI m j) 0 := by
  unfold shF; rw [List.getD_eq_getElem?_getD, List.getElem?_map, List.getElem?_range h]; rfl
theorem shF_in {q : Int} (hq : 1 ≤ q) {m : Nat} {l : List Int} (h : AllIn q l) : AllIn q (shF m l) := fun z hz => by
  unfold shF at hz
  obtain ⟨j, _, rfl⟩ := List.mem_map.1 hz
  exact h.get hq _
theorem shF_done {m : Nat} (hm : 1 ≤ m) {l o : List Int} (hd : m ∣ l.length) (ho : o.length = l.length) (h : ∀ i, i < l.length → o.getD (nxI m i) 0 = l.getD i 0) : o = shF m l := ext_getD (by rw [ho, shF_length]) fun j => by
  by_cases hj : j < l.length
  · rw [shF_get m l hj, ← h _ (pv_lt hm hd hj), nx_pv hm]
  · rw [getD_out (by omega), getD_out (by rw [shF_length]; omega)]
theorem shF_step {m : Nat} (hm : 1 ≤ m) {l o : List Int} {k : Nat} (hd : m ∣ l.length) (ho : o.length = l.length) (hk : k < l.length) (h : ∀ i, i < k → o.getD (nxI m i) 0 = l.getD i 0) {i : Nat} (hi : i < k + 1) : (o.set (nxI m k) (l.getD k 0)).getD (nxI m i) 0 = l.getD i 0 := by
  rw [getD_set]
  by_cases he : nxI m k = nxI m i
  · have : k = i := by rw [← pv_nx hm k, he, pv_nx hm]
    rw [if_pos ⟨he, by rw [← he, ho]; exact nx_lt hm hd hk⟩, this]
  · rw [if_neg (fun e => he e.1)]
    refine h i ?_
    rcases Nat.lt_or_ge i k with h1 | h1
    · exact h1
    · exact absurd (by rw [show i = k by omega]) he
theorem nx_int {m i : Int} (hm : 1 ≤ m) (hi : 0 ≤ i) : i / m * m + (i - i / m * m + 1) % m = (nxI m.toNat i.toNat : Int) := by
  obtain ⟨a, rfl⟩ := Int.eq_ofNat_of_zero_le (show 0 ≤ m by omega)
  obtain ⟨b, rfl⟩ := Int.eq_ofNat_of_zero_le hi
  have e : (b : Int) - (b : Int) / (a : Int) * (a : Int) = (b : Int) % (a : Int) := by
    rw [Int.emod_def, Int.mul_comm (a : Int)]
  rw [e]
  unfold nxI
  simp only [Int.toNat_natCast]
  push_cast
  rfl
theorem nx_full {n i : Nat} (hi : i < n) : nxI n i = (i + 1) % n := by
  unfold nxI
  rw [Nat.div_eq_of_lt hi, Nat.mod_eq_of_lt hi, Nat.zero_mul, Nat.zero_add]
theorem pv_full {n j : Nat} (hj : j < n) : pvI n j = (j + (n - 1)) % n := by
  unfold pvI
  rw [Nat.div_eq_of_lt hj, Nat.mod_eq_of_lt hj, Nat.zero_mul, Nat.zero_add]
theorem shF_one (l : List Int) : shF 1 l = l := ext_getD (shF_length _ _) fun j => by
  by_cases hj : j < l.length
  · rw [shF_get 1 l hj]; unfold pvI; simp [Nat.mod_one]
  · rw [getD_out (by rw [shF_length]; omega), getD_out (by omega)]
/-- Whether the turned rows are words. -/
noncomputable def closB (p m : Int) (mod : List Int) [hF : IsF p m mod] (k : Nat) (rs : List RowM) : Bool := rs.all fun r => memB p m mod rs (shF k r.xs)
section
variable {p m : Int} {mod : List Int} [hF : IsF p m mod] {k : Nat} {rs : List RowM}
theorem closB_iff : closB p m mod k rs = true ↔ ∀ r ∈ rs, memB p m mod rs (shF k r.xs) = true := List.all_eq_true
theorem closB_all (h : ∀ j : Nat, j < rs.length → memB p m mod rs (shF k (rs.getD j rowD).xs) = true) : closB p m mod k rs = true := closB_iff.2 fun r hr => by
  obtain ⟨j, hj, rfl⟩ := List.getElem_of_mem hr
  have := h j hj
  rwa [List.getD_eq_getElem?_getD, List.getElem?_eq_getElem hj] at this
theorem closB_no {j : Nat} (hj : j < rs.length) (h : memB p m mod rs (shF k (rs.getD j rowD).xs) = false) : closB p m mod k rs = false := by
  cases hc : closB p m mod k rs with
  | false => rfl
  | true => rw [closB_iff.1 hc _ (getD_mem hj rowD)] at h; cases h
theorem memB_self {r : RowM} (hr : r ∈ rs) : memB p m mod rs r.xs = true := memB_iff.2 (Vc.Sp.of (by rw [vsR_xss, xss, List.map_map]; exact List.mem_map.2 ⟨r, hr, rfl⟩))
theorem closB_one : closB p m mod 1 rs = true := closB_iff.2 fun r hr => by rw [shF_one]; exact memB_self hr
end
section
variable {K : Type} [Fd K]
def shV (k n : Nat) (u : Vc K) : Vc K := fun j => if j < n then u (pvI k j) else 0
theorem shV_at (k n : Nat) (u : Vc K) (j : Nat) : shV k n u j = if j < n then u (pvI k j) else 0 := rfl
theorem shV_zero (k n : Nat) : shV k n (0 : Vc K) = 0 := Vc.ext fun j => by rw [shV_at]; split <;> rfl
theorem shV_add (k n : Nat) (u v : Vc K) (c : K) : shV k n (u + Vc.sc c v) = shV k n u + Vc.sc c (shV k n v) := Vc.ext fun j => by
  rw [Vc.add_at, Vc.sc_at, shV_at, shV_at, shV_at]
  split
  · rw [Vc.add_at, Vc.sc_at]
  · rw [Fd.mul_zero, Fd.add_zero]
end
section
variable {p m : Int} {mod : List Int} [hF : IsF p m mod]
theorem rw_shF (k : Nat) (l : List Int) : (rw' (shF k l) : Vc (El p m mod)) = shV k l.length (rw' l) := Vc.ext fun j => by
  rw [rw_at, shV_at]
  by_cases hj : j < l.length
  · rw [if_pos hj, shF_get _ _ hj, rw_at]
  · rw [if_neg hj, getD_out (by rw [shF_length]; omega), el_zero]
theorem closB_word {k w : Nat} {rs : List RowM} (hg : Gd (pw p m) w rs) (h : closB p m mod k rs = true) {u : Vc (El p m mod)} (hu : Vc.SpL (vsR rs : List (Vc (El p m mod))) u) : Vc.SpL (vsR rs : List (Vc (El p m mod))) (shV k w u) := by
  refine hu.lift (Q := fun u => Vc.SpL (vsR rs : List (Vc (El p m mod))) (shV k w u)) (by rw [shV_zero]; exact Vc.Sp.zero) fun u c r hu hr => ?_
  rw [shV_add]
  have h1 : Vc.SpL (vsR rs : List (Vc (El p m mod))) (shV k w r) := by
    obtain ⟨r0, hr0, rfl⟩ := List.mem_map.1 hr
    have := memB_iff.1 (closB_iff.1 h r0 hr0)
    rwa [rw_shF, (hg r0 hr0).1] at this
  exact Vc.Sp.plus hu (h1.scale c)
end
end Go.Proofs.Ytjmojhflnjbgaaa

set_option linter.unusedSimpArgs false
set_option linter.unusedVariables false
set_option maxRecDepth 100000
namespace Go.Proofs.Ytjmojhflnjbgaaa
open Go.RowKit

theorem mat_openNo_ent : Enters Try.prog 171 := enters_of Try.func171 (by kernel_rfl) (by kernel_rfl)
theorem mat_openNo (p m : Int) (A : Option Addr) (c : Nat) (mod : List Int) (hl9 : mod.length ≤ 17592186044415) (hF : ¬ FldR p m mod) (L : Option Addr) (nl cl : Nat) :
    Pure Try.prog 171 #[.agg #[.int .i64 p, .int .i64 m, .slice A mod.length c], .slice L nl cl] [ro A (ints mod)] (isV (.tuple #[.pointer none, .int .i64 1])) := by
  refine pure_of (args := [.agg #[.int .i64 p, .int .i64 m, .slice A mod.length c], .slice L nl cl]) 32 Try.func171 rfl rfl rfl mat_openNo_ent ⟨id, trivial⟩ (fun w0 => ?_)
  refine tr_seq ?_
  refine tr_region fun _ _ _ => ?_
  refine ef rfl rfl (eBox rfl rfl rfl rfl rfl (fun p0 => ?_)) 
  iterate 2 refine pu rfl rfl rfl rfl rfl ?_
  refine tr_seq ?_
  refine tr_region fun _ _ _ => ?_
  refine st rfl rfl rfl rfl (rLdS rfl rfl rfl) ?_
  refine ef rfl rfl (eCallV rfl rfl rfl (fld_New_no _ _ _ _ _ hl9 hF) ⟨rfl, trivial⟩ ?_) 
  iterate 5 refine pu rfl rfl rfl rfl rfl ?_
  refine tr_seq ?_
  refine tr_seq ?_
  refine tr_region fun _ _ _ => ?_
  iterate 2 refine pu rfl rfl rfl rfl rfl ?_
  refine tr_cond_bool rfl (fun h2 => ?_) (fun h2 => ?_)
  · try simp only [zb1, zb2, zb3, zb4, zb5, zb6, zb7, zb8, zb9, zb10] at h2
    refine tr_seq ?_
    refine tr_region fun _ _ _ => ?_
    iterate 2 refine pu rfl rfl rfl rfl rfl ?_
    exact tr_ret ⟨trivial, _, _, rfl, ⟨rfl, rfl⟩, CSub.nil _, trivial⟩
  · try simp only [zb1, zb2, zb3, zb4, zb5, zb6, zb7, zb8, zb9, zb10] at h2
    omega --done

theorem mat_openE_ent : Enters Try.prog 171 := enters_of Try.func171 (by kernel_rfl) (by kernel_rfl)
theorem mat_openE (p m : Int) (A : Option Addr) (c : Nat) (mod : List Int) (hl9 : mod.length ≤ 17592186044415) [hF : IsF p m mod] (pl : Addr) (cl : Nat) (w : Int) (Aa : Option Addr) (n ca : Nat) (rs : List RowM) (hn : n = rs.length) (h9 : rs.length ≤ 17592186044415) (h8 : ∀ r ∈ rs, r.xs.length ≤ 17592186044415) (hE : rowsC (pw p m) w (xss rs) ≠ 0) :
    Pure Try.prog 171 #[.agg #[.int .i64 p, .int .i64 m, .slice A mod.length c], .slice (some pl) 1 cl] [ro A (ints mod), ro (some pl) [.int .i64 w, .slice Aa n ca], ro Aa (hdrs rs), rowsR rs] (isV (.tuple #[.pointer none, .int .i64 (rowsC (pw p m) w (xss rs))])) := by
  refine pure_of (args := [.agg #[.int .i64 p, .int .i64 m, .slice A mod.length c], .slice (some pl) 1 cl]) 32 Try.func171 rfl rfl rfl mat_openE_ent ⟨id, id, id, id, trivial⟩ (fun w0 => ?_)
  refine tr_seq ?_
  refine tr_region fun _ _ _ => ?_
  refine ef rfl rfl (eBox rfl rfl rfl rfl rfl (fun p0 => ?_)) 
  iterate 2 refine pu rfl rfl rfl rfl rfl ?_
  refine tr_seq ?_
  refine tr_region fun _ _ _ => ?_
  refine st rfl rfl rfl rfl (rLdS rfl rfl rfl) ?_
  refine ef rfl rfl (eCall1 rfl rfl rfl (fld_New_ok _ _ _ _ _ hl9 hF.out) ⟨rfl, trivial⟩ ?_) 
  rintro _ _ ⟨g, rfl, rfl, hg⟩
  iterate 5 refine pu rfl rfl rfl rfl rfl ?_
  refine tr_seq ?_
  refine tr_seq ?_
  refine tr_region fun _ _ _ => ?_
  iterate 2 refine pu rfl rfl rfl rfl rfl ?_
  refine tr_cond_bool rfl (fun h2 => ?_) (fun h2 => ?_)
  · try simp only [zb1, zb2, zb3, zb4, zb5, zb6, zb7, zb8, zb9, zb10] at h2
    first | exact absurd trivial h2 | exact absurd rfl h2 | omega | (exact absurd h2 (by simp)) --done
  · try simp only [zb1, zb2, zb3, zb4, zb5, zb6, zb7, zb8, zb9, zb10] at h2
    refine tr_skip ?_
    refine tr_seq ?_
    refine tr_seq ?_
    refine tr_region fun _ _ _ => ?_
    refine pu rfl rfl rfl rfl rfl ?_
    refine st rfl rfl rfl rfl (rLenS rfl rfl) ?_
    refine pu rfl rfl rfl rfl rfl ?_
    refine tr_block ?_
    refine tr_loop1 (fun (k : Int) => [(20, .int .i64 k), (6, .pointer (some g.p)), (18, .slice (some pl) 1 cl), (19, .int .i64 1)]) (fun (k : Int) => [gfN g, blk p0 36 [.int .i64 p, .int .i64 m, .slice A mod.length c], ro A (ints mod), ro (some pl) [.int .i64 w, .slice Aa n ca], ro Aa (hdrs rs), rowsR rs]) (fun (k : Int) => k = 0) (fun (k : Int) => (1 - k).toNat) (0) ⟨rfl, rfl, rfl, rfl, trivial⟩ (by first | exact cs _ _ | exact CSub.refl _) (rfl) (fun k hI => ?_)
    refine tr_seq ?_
    refine tr_region fun _ _ _ => ?_
    refine pu rfl rfl rfl rfl rfl ?_
    refine tr_seq ?_
    refine tr_cond_bool rfl (fun h5 => ?_) (fun h5 => ?_)
    · try simp only [zb1, zb2, zb3, zb4, zb5, zb6, zb7, zb8, zb9, zb10] at h5
      refine tr_skip ?_
      refine tr_seq ?_
      refine tr_block ?_
      refine tr_seq ?_
      refine tr_region fun _ _ _ => ?_
      refine st rfl rfl rfl rfl (rIdxS0 rfl rfl rfl (by omega) (by omega)) ?_
      refine st rfl rfl rfl rfl (rLdS rfl rfl rfl) ?_
      refine ef rfl rfl (eAlloc rfl rfl rfl (fun p6 => ?_)) 
      refine ef rfl rfl (eStS rfl rfl rfl rfl rfl rfl ?_) 
      refine tr_seq ?_
      refine tr_region fun _ _ _ => ?_
      refine pu rfl rfl rfl rfl rfl ?_
      refine st rfl rfl rfl rfl (rLdS rfl rfl rfl) ?_
      refine ef rfl rfl (eCallV rfl rfl rfl (mat_checkC g (pw p m) hg.eq w _ _ _ rs hn h9 h8) ⟨rfl, rfl, trivial⟩ ?_) 
      refine pu rfl rfl rfl rfl rfl ?_
      refine tr_seq ?_
      refine tr_region fun _ _ _ => ?_
      iterate 2 refine pu rfl rfl rfl rfl rfl ?_
      refine tr_cond_bool rfl (fun h8 => ?_) (fun h8 => ?_)
      · try simp only [zb1, zb2, zb3, zb4, zb5, zb6, zb7, zb8, zb9, zb10] at h8
        refine tr_seq ?_
        refine tr_region fun _ _ _ => ?_
        iterate 3 refine pu rfl rfl rfl rfl rfl ?_
        exact tr_ret ⟨trivial, _, _, rfl, ⟨rfl, rfl⟩, CSub.nil _, trivial⟩
      · try simp only [zb1, zb2, zb3, zb4, zb5, zb6, zb7, zb8, zb9, zb10] at h8
        omega --done
    · try simp only [zb1, zb2, zb3, zb4, zb5, zb6, zb7, zb8, zb9, zb10] at h5
      omega --done

theorem mat_openG_ent : Enters Try.prog 171 := enters_of Try.func171 (by kernel_rfl) (by kernel_rfl)
theorem mat_openG (p m : Int) (A : Option Addr) (c : Nat) (mod : List Int) (hl9 : mod.length ≤ 17592186044415) [hF : IsF p m mod] (pl : Addr) (cl : Nat) (w : Int) (Aa : Option Addr) (n ca : Nat) (rs : List RowM) (hn : n = rs.length) (h9 : rs.length ≤ 17592186044415) (h8 : ∀ r ∈ rs, r.xs.length ≤ 17592186044415) (hE : rowsC (pw p m) w (xss rs) = 0) :
    Pure Try.prog 171 #[.agg #[.int .i64 p, .int .i64 m, .slice A mod.length c], .slice (some pl) 1 cl] [ro A (ints mod), ro (some pl) [.int .i64 w, .slice Aa n ca], ro Aa (hdrs rs), rowsR rs] (one (fun v ch => ∃ g : GfM, v = .tuple #[.pointer (some g.p), .int .i64 0] ∧ ch = gfN g ∧ GOk g p m mod)) := by
  refine pure_of (args := [.agg #[.int .i64 p, .int .i64 m, .slice A mod.length c], .slice (some pl) 1 cl]) 32 Try.func171 rfl rfl rfl mat_openG_ent ⟨id, id, id, id, trivial⟩ (fun w0 => ?_)
  refine tr_seq ?_
  refine tr_region fun _ _ _ => ?_
  refine ef rfl rfl (eBox rfl rfl rfl rfl rfl (fun p0 => ?_)) 
  iterate 2 refine pu rfl rfl rfl rfl rfl ?_
  refine tr_seq ?_
  refine tr_region fun _ _ _ => ?_
  refine st rfl rfl rfl rfl (rLdS rfl rfl rfl) ?_
  refine ef rfl rfl (eCall1 rfl rfl rfl (fld_New_ok _ _ _ _ _ hl9 hF.out) ⟨rfl, trivial⟩ ?_) 
  rintro _ _ ⟨g, rfl, rfl, hg⟩
  iterate 5 refine pu rfl rfl rfl rfl rfl ?_
  refine tr_seq ?_
  refine tr_seq ?_
  refine tr_region fun _ _ _ => ?_
  iterate 2 refine pu rfl rfl rfl rfl rfl ?_
  refine tr_cond_bool rfl (fun h2 => ?_) (fun h2 => ?_)
  · try simp only [zb1, zb2, zb3, zb4, zb5, zb6, zb7, zb8, zb9, zb10] at h2
    first | exact absurd trivial h2 | exact absurd rfl h2 | omega | (exact absurd h2 (by simp)) --done
  · try simp only [zb1, zb2, zb3, zb4, zb5, zb6, zb7, zb8, zb9, zb10] at h2
    refine tr_skip ?_
    refine tr_seq ?_
    refine tr_seq ?_
    refine tr_region fun _ _ _ => ?_
    refine pu rfl rfl rfl rfl rfl ?_
    refine st rfl rfl rfl rfl (rLenS rfl rfl) ?_
    refine pu rfl rfl rfl rfl rfl ?_
    refine tr_block ?_
    refine tr_loop1 (fun (k : Int) => [(20, .int .i64 k), (6, .pointer (some g.p)), (18, .slice (some pl) 1 cl), (19, .int .i64 1)]) (fun (k : Int) => [gfN g, blk p0 36 [.int .i64 p, .int .i64 m, .slice A mod.length c], ro A (ints mod), ro (some pl) [.int .i64 w, .slice Aa n ca], ro Aa (hdrs rs), rowsR rs]) (fun (k : Int) => 0 ≤ k ∧ k ≤ 1) (fun (k : Int) => (1 - k).toNat) (0) ⟨rfl, rfl, rfl, rfl, trivial⟩ (by first | exact cs _ _ | exact CSub.refl _) (by omega) (fun k hI => ?_)
    refine tr_seq ?_
    refine tr_region fun _ _ _ => ?_
    refine pu rfl rfl rfl rfl rfl ?_
    refine tr_seq ?_
    refine tr_cond_bool rfl (fun h5 => ?_) (fun h5 => ?_)
    · try simp only [zb1, zb2, zb3, zb4, zb5, zb6, zb7, zb8, zb9, zb10] at h5
      refine tr_skip ?_
      refine tr_seq ?_
      refine tr_block ?_
      refine tr_seq ?_
      refine tr_region fun _ _ _ => ?_
      refine st rfl rfl rfl rfl (rIdxS0 rfl rfl rfl (by omega) (by omega)) ?_
      refine st rfl rfl rfl rfl (rLdS rfl rfl rfl) ?_
      refine ef rfl rfl (eAlloc rfl rfl rfl (fun p6 => ?_)) 
      refine ef rfl rfl (eStS rfl rfl rfl rfl rfl rfl ?_) 
      refine tr_seq ?_
      refine tr_region fun _ _ _ => ?_
      refine pu rfl rfl rfl rfl rfl ?_
      refine st rfl rfl rfl rfl (rLdS rfl rfl rfl) ?_
      refine ef rfl rfl (eCallV rfl rfl rfl (mat_checkC g (pw p m) hg.eq w _ _ _ rs hn h9 h8) ⟨rfl, rfl, trivial⟩ ?_) 
      refine pu rfl rfl rfl rfl rfl ?_
      refine tr_seq ?_
      refine tr_region fun _ _ _ => ?_
      iterate 2 refine pu rfl rfl rfl rfl rfl ?_
      refine tr_cond_bool rfl (fun h8 => ?_) (fun h8 => ?_)
      · try simp only [zb1, zb2, zb3, zb4, zb5, zb6, zb7, zb8, zb9, zb10] at h8
        omega --done
      · try simp only [zb1, zb2, zb3, zb4, zb5, zb6, zb7, zb8, zb9, zb10] at h8
        refine tr_skip ?_
        refine tr_region fun _ _ _ => ?_
        refine st rfl rfl rfl rfl (rAdd rfl rfl rfl (by omega) (by omega)) ?_
        refine pu rfl rfl rfl rfl rfl ?_
        refine ⟨k + 1, ⟨rfl, rfl, rfl, rfl, trivial⟩, by first | exact cs _ _ | exact CSub.refl _, ?_⟩
        omega
    · try simp only [zb1, zb2, zb3, zb4, zb5, zb6, zb7, zb8, zb9, zb10] at h5
      refine tr_exit ?_
      refine tr_seq ?_
      refine tr_region fun _ _ _ => ?_
      iterate 3 refine pu rfl rfl rfl rfl rfl ?_
      exact tr_ret ⟨trivial, _, _, rfl, ⟨_, rfl, g, rfl, rfl, hg⟩, cs _ _, ⟨trivial, trivial, trivial, trivial⟩, trivial⟩

theorem mat_CanonicalNo_ent : Enters Try.prog 130 := enters_of Try.func130 (by kernel_rfl) (by kernel_rfl)
theorem mat_CanonicalNo (p m : Int) (A : Option Addr) (c : Nat) (mod : List Int) (hl9 : mod.length ≤ 17592186044415) (hF : ¬ FldR p m mod) (w : Int) (Aa : Option Addr) (n ca : Nat) (rs : List RowM) (hn : n = rs.length) (h9 : rs.length ≤ 17592186044415) (h8 : ∀ r ∈ rs, r.xs.length ≤ 17592186044415) :
    Pure Try.prog 130 #[.agg #[.int .i64 p, .int .i64 m, .slice A mod.length c], .agg #[.int .i64 w, .slice Aa n ca]] [ro A (ints mod), ro Aa (hdrs rs), rowsR rs] (isV (.tuple #[.agg #[.int .i64 0, .slice none 0 0], .slice none 0 0, .int .i64 1])) := by
  refine pure_ofC (args := [.agg #[.int .i64 p, .int .i64 m, .slice A mod.length c], .agg #[.int .i64 w, .slice Aa n ca]]) 36 Try.func130 rfl rfl rfl mat_CanonicalNo_ent ⟨id, id, id, trivial⟩ (fun w0 => ?_)
  refine tr_seq ?_
  refine tr_region fun _ _ _ => ?_
  refine ef rfl rfl (eBox rfl rfl rfl rfl rfl (fun p0 => ?_)) 
  refine ef rfl rfl (eBox rfl rfl rfl rfl rfl (fun p0a => ?_)) 
  refine ef rfl rfl (eAlloc rfl rfl rfl (fun p0b => ?_)) 
  iterate 2 refine pu rfl rfl rfl rfl rfl ?_
  refine tr_seq ?_
  refine tr_region fun _ _ _ => ?_
  refine st rfl rfl rfl rfl (rLdS rfl rfl rfl) ?_
  refine st rfl rfl rfl rfl (rLdS rfl rfl rfl) ?_
  refine ef rfl rfl (eLitS rfl rfl rfl rfl (fun p1 => ?_)) 
  refine ef rfl rfl (eCallV rfl rfl rfl (mat_openNo _ _ _ _ _ hl9 hF _ _ _) ⟨rfl, rfl, trivial⟩ ?_) 
  iterate 5 refine pu rfl rfl rfl rfl rfl ?_
  refine tr_seq ?_
  refine tr_seq ?_
  refine tr_region fun _ _ _ => ?_
  iterate 2 refine pu rfl rfl rfl rfl rfl ?_
  refine tr_cond_bool rfl (fun h2 => ?_) (fun h2 => ?_)
  · try simp only [zb1, zb2, zb3, zb4, zb5, zb6, zb7, zb8, zb9, zb10] at h2
    refine tr_seq ?_
    refine tr_region fun _ _ _ => ?_
    refine st rfl rfl rfl rfl (rBuild rfl rfl) ?_
    refine pu rfl rfl rfl rfl rfl ?_
    refine ef rfl rfl (eStS rfl rfl rfl rfl rfl rfl ?_) 
    iterate 2 refine pu rfl rfl rfl rfl rfl ?_
    exact tr_ret ⟨trivial, _, _, (.cell rfl (cellS rfl) (.tmp rfl (.tmp rfl .nil))), ⟨rfl, rfl⟩, CSub.nil _, trivial⟩
  · try simp only [zb1, zb2, zb3, zb4, zb5, zb6, zb7, zb8, zb9, zb10] at h2
    omega --done

theorem mat_CanonicalE_ent : Enters Try.prog 130 := enters_of Try.func130 (by kernel_rfl) (by kernel_rfl)
theorem mat_CanonicalE (p m : Int) (A : Option Addr) (c : Nat) (mod : List Int) (hl9 : mod.length ≤ 17592186044415) [hF : IsF p m mod] (w : Int) (Aa : Option Addr) (n ca : Nat) (rs : List RowM) (hn : n = rs.length) (h9 : rs.length ≤ 17592186044415) (h8 : ∀ r ∈ rs, r.xs.length ≤ 17592186044415) (hE : rowsC (pw p m) w (xss rs) ≠ 0) :
    Pure Try.prog 130 #[.agg #[.int .i64 p, .int .i64 m, .slice A mod.length c], .agg #[.int .i64 w, .slice Aa n ca]] [ro A (ints mod), ro Aa (hdrs rs), rowsR rs] (isV (.tuple #[.agg #[.int .i64 0, .slice none 0 0], .slice none 0 0, .int .i64 (rowsC (pw p m) w (xss rs))])) := by
  refine pure_ofC (args := [.agg #[.int .i64 p, .int .i64 m, .slice A mod.length c], .agg #[.int .i64 w, .slice Aa n ca]]) 36 Try.func130 rfl rfl rfl mat_CanonicalE_ent ⟨id, id, id, trivial⟩ (fun w0 => ?_)
  refine tr_seq ?_
  refine tr_region fun _ _ _ => ?_
  refine ef rfl rfl (eBox rfl rfl rfl rfl rfl (fun p0 => ?_)) 
  refine ef rfl rfl (eBox rfl rfl rfl rfl rfl (fun p0a => ?_)) 
  refine ef rfl rfl (eAlloc rfl rfl rfl (fun p0b => ?_)) 
  iterate 2 refine pu rfl rfl rfl rfl rfl ?_
  refine tr_seq ?_
  refine tr_region fun _ _ _ => ?_
  refine st rfl rfl rfl rfl (rLdS rfl rfl rfl) ?_
  refine st rfl rfl rfl rfl (rLdS rfl rfl rfl) ?_
  refine ef rfl rfl (eLitS rfl rfl rfl rfl (fun p1 => ?_)) 
  refine ef rfl rfl (eCallV rfl rfl rfl (mat_openE _ _ _ _ _ hl9 _ _ w Aa _ ca rs hn h9 h8 hE) ⟨rfl, rfl, trivial⟩ ?_) 
  iterate 5 refine pu rfl rfl rfl rfl rfl ?_
  refine tr_seq ?_
  refine tr_seq ?_
  refine tr_region fun _ _ _ => ?_
  iterate 2 refine pu rfl rfl rfl rfl rfl ?_
  refine tr_cond_bool rfl (fun h2 => ?_) (fun h2 => ?_)
  · try simp only [zb1, zb2, zb3, zb4, zb5, zb6, zb7, zb8, zb9, zb10] at h2
    refine tr_seq ?_
    refine tr_region fun _ _ _ => ?_
    refine st rfl rfl rfl rfl (rBuild rfl rfl) ?_
    refine pu rfl rfl rfl rfl rfl ?_
    refine ef rfl rfl (eStS rfl rfl rfl rfl rfl rfl ?_) 
    iterate 2 refine pu rfl rfl rfl rfl rfl ?_
    exact tr_ret ⟨trivial, _, _, (.cell rfl (cellS rfl) (.tmp rfl (.tmp rfl .nil))), ⟨rfl, rfl⟩, CSub.nil _, trivial⟩
  · try simp only [zb1, zb2, zb3, zb4, zb5, zb6, zb7, zb8, zb9, zb10] at h2
    omega --done

theorem mat_CanonicalG_ent : Enters Try.prog 130 := enters_of Try.func130 (by kernel_rfl) (by kernel_rfl)
theorem mat_CanonicalG (p m : Int) (A : Option Addr) (c : Nat) (mod : List Int) (hl9 : mod.length ≤ 17592186044415) [hF : IsF p m mod] (w : Int) (Aa : Option Addr) (n ca : Nat) (rs : List RowM) (hn : n = rs.length) (h9 : rs.length ≤ 17592186044415) (h8 : ∀ r ∈ rs, r.xs.length ≤ 17592186044415) (hE : rowsC (pw p m) w (xss rs) = 0) :
    Pure Try.prog 130 #[.agg #[.int .i64 p, .int .i64 m, .slice A mod.length c], .agg #[.int .i64 w, .slice Aa n ca]] [ro A (ints mod), ro Aa (hdrs rs), rowsR rs] (three (fun v ca cb cc => ∃ B r3 Bp cp ps, v = .tuple #[.agg #[.int .i64 w, .slice B r3.length r3.length], .slice Bp ps.length cp, .int .i64 0] ∧ ca = rx B (hdrs r3) ∧ cb = rowsCh 3 r3 ∧ cc = ow Bp 3 cp (ints ps) ∧ RrOf p m mod w.toNat rs r3 ps ∧ r3.length ≤ rs.length)) := by
  obtain ⟨hb, hlen, hin⟩ := rowsC_zero hE
  rw [xss_length] at hb
  have hgd : Gd (pw p m) w.toNat rs := (Gd_iff hb.1).2 ⟨hlen, hin⟩
  refine pure_ofC (args := [.agg #[.int .i64 p, .int .i64 m, .slice A mod.length c], .agg #[.int .i64 w, .slice Aa n ca]]) 36 Try.func130 rfl rfl rfl mat_CanonicalG_ent ⟨id, id, id, trivial⟩ (fun w0 => ?_)
  refine tr_seq ?_
  refine tr_region fun _ _ _ => ?_
  refine ef rfl rfl (eBox rfl rfl rfl rfl rfl (fun p0 => ?_)) 
  refine ef rfl rfl (eBox rfl rfl rfl rfl rfl (fun p0a => ?_)) 
  refine ef rfl rfl (eAlloc rfl rfl rfl (fun p0b => ?_)) 
  iterate 2 refine pu rfl rfl rfl rfl rfl ?_
  refine tr_seq ?_
  refine tr_region fun _ _ _ => ?_
  refine st rfl rfl rfl rfl (rLdS rfl rfl rfl) ?_
  refine st rfl rfl rfl rfl (rLdS rfl rfl rfl) ?_
  refine ef rfl rfl (eLitS rfl rfl rfl rfl (fun p1 => ?_)) 
  refine ef rfl rfl (eCall1 rfl rfl rfl (mat_openG _ _ _ _ _ hl9 _ _ w Aa _ ca rs hn h9 h8 hE) ⟨rfl, rfl, trivial⟩ ?_) 
  rintro _ _ ⟨g, rfl, rfl, hg⟩
  iterate 5 refine pu rfl rfl rfl rfl rfl ?_
  refine tr_seq ?_
  refine tr_seq ?_
  refine tr_region fun _ _ _ => ?_
  iterate 2 refine pu rfl rfl rfl rfl rfl ?_
  refine tr_cond_bool rfl (fun h2 => ?_) (fun h2 => ?_)
  · try simp only [zb1, zb2, zb3, zb4, zb5, zb6, zb7, zb8, zb9, zb10] at h2
    first | exact absurd trivial h2 | exact absurd rfl h2 | omega | (exact absurd h2 (by simp)) --done
  · try simp only [zb1, zb2, zb3, zb4, zb5, zb6, zb7, zb8, zb9, zb10] at h2
    refine tr_skip ?_
    refine tr_seq ?_
    refine tr_region fun _ _ _ => ?_
    refine pu rfl rfl rfl rfl rfl ?_
    refine st rfl rfl rfl rfl (rFld rfl rfl) ?_
    refine st rfl rfl rfl rfl (rLdF rfl rfl rfl) ?_
    refine st rfl rfl rfl rfl (rFld rfl rfl) ?_
    refine st rfl rfl rfl rfl (rLdF rfl rfl rfl) ?_
    refine ef rfl rfl (eCall3 rfl rfl rfl (mat_canon g hg w (by omega) (by omega) _ _ _ rs hn (by omega) hgd) ⟨rfl, rfl, rfl, trivial⟩ ?_) 
    rintro _ _ _ _ ⟨B, r3, Bp, cp, ps, rfl, rfl, rfl, rfl, hR, hk⟩
    iterate 5 refine pu rfl rfl rfl rfl rfl ?_
    refine tr_seq ?_
    refine tr_region fun _ _ _ => ?_
    refine st rfl rfl rfl rfl (rFld rfl rfl) ?_
    refine st rfl rfl rfl rfl (rLdF rfl rfl rfl) ?_
    refine pu rfl rfl rfl rfl rfl ?_
    refine st rfl rfl rfl rfl (rBuild rfl rfl) ?_
    refine pu rfl rfl rfl rfl rfl ?_
    refine ef rfl rfl (eStS rfl rfl rfl rfl rfl rfl ?_) 
    iterate 2 refine pu rfl rfl rfl rfl rfl ?_
    exact tr_ret ⟨trivial, _, _, (.cell rfl (cellS rfl) (.tmp rfl (.tmp rfl .nil))), ⟨_, _, _, rfl, B, r3, Bp, cp, ps, rfl, rfl, rfl, rfl, hR, hk⟩, cs _ _, trivial, trivial, trivial, trivial⟩




theorem code_length_ent : Enters Try.prog 131 := enters_of Try.func131 (by kernel_rfl) (by kernel_rfl)
theorem code_length (n : Int) :
    Pure Try.prog 131 #[.int .i64 n] [] (isV (.int .i64 (if n < 1 ∨ n > 64 then 4 else 0))) := by
  refine pure_of (args := [.int .i64 n]) 9 Try.func131 rfl rfl rfl code_length_ent trivial (fun w0 => ?_)
  refine tr_seq ?_
  refine tr_region fun _ _ _ => ?_
  refine pu rfl rfl rfl rfl rfl ?_
  refine tr_seq ?_
  refine tr_seq ?_
  refine tr_region fun _ _ _ => ?_
  iterate 3 refine pu rfl rfl rfl rfl rfl ?_
  refine stg rfl rfl rfl rfl rfl (fun hb => by (have hq := hb; try simp only [zb1, zb2, zb3, zb4, zb5, zb6, zb7, zb8, zb9, zb10] at hq); exact rMove rfl rfl) ?_
  refine stg rfl rfl rfl rfl rfl (fun hb => by (have hq := hb; try simp only [zb1, zb2, zb3, zb4, zb5, zb6, zb7, zb8, zb9, zb10] at hq); exact rGtr rfl (evg rfl hb) rfl) ?_
  refine st rfl rfl rfl rfl (rOrB rfl rfl rfl rfl) ?_
  refine tr_cond_bool rfl (fun h1 => ?_) (fun h1 => ?_)
  · try simp only [zb1, zb2, zb3, zb4, zb5, zb6, zb7, zb8, zb9, zb10] at h1
    refine tr_seq ?_
    refine tr_region fun _ _ _ => ?_
    refine pu rfl rfl rfl rfl rfl ?_
    exact tr_ret ⟨trivial, _, _, rfl, ⟨by rw [if_pos (by omega)], rfl⟩, CSub.nil _, trivial⟩
  · try simp only [zb1, zb2, zb3, zb4, zb5, zb6, zb7, zb8, zb9, zb10] at h1
    refine tr_skip ?_
    refine tr_seq ?_
    refine tr_region fun _ _ _ => ?_
    refine pu rfl rfl rfl rfl rfl ?_
    exact tr_ret ⟨trivial, _, _, rfl, ⟨by rw [if_neg (by omega)], rfl⟩, CSub.nil _, trivial⟩

theorem code_lengthOk (n : Int) (h1 : 1 ≤ n) (h2 : n ≤ 64) : Pure Try.prog 131 #[.int .i64 n] [] (isV (.int .i64 0)) := by
  have := code_length n
  rwa [if_neg (by omega)] at this

theorem rowsC_gd {q w : Int} {rs : List RowM} (h0 : 0 ≤ w) (h1 : w ≤ 256) (h2 : rs.length ≤ 256) (h : Gd q w.toNat rs) : rowsC q w (xss rs) = 0 :=
  rowsC_ok (by rw [xss_length]; exact ⟨h0, h1, by omega⟩) ((Gd_iff h0).1 h).1 ((Gd_iff h0).1 h).2
theorem Gd.h8 {q : Int} {w N : Nat} {rs : List RowM} (h : Gd q w rs) (hw : w ≤ N) : ∀ r ∈ rs, r.xs.length ≤ N := fun r hr => by have := (h r hr).1; omega
theorem IsF.short {p m : Int} {mod : List Int} (hF : IsF p m mod) : mod.length ≤ 8 := by
  have h := hF.out.1.1
  have := h.m8
  rcases h.low with h1 | h1
  · rw [h1.2]; simp
  · have := h1.2; omega






end Go.Proofs.Ytjmojhflnjbgaaa

set_option linter.unusedSimpArgs false
set_option linter.unusedVariables false
set_option maxRecDepth 100000
namespace Go.Proofs.Ytjmojhflnjbgaaa
open Go.RowKit

theorem slc_Equal_ent : Enters Try.prog 214 := enters_of Try.func214 (by kernel_rfl) (by kernel_rfl)
theorem slc_Equal (A : Option Addr) (n c : Nat) (a : List Int) (hn : n = a.length) (B : Option Addr) (m d : Nat) (b : List Int) (hm : m = b.length) (h9 : a.length ≤ 17592186044415) :
    Pure Try.prog 214 #[.slice A n c, .slice B m d] [ro A (ints a), ro B (ints b)] (isV (.bool (decide (a = b)))) := by
  refine pure_of (args := [.slice A n c, .slice B m d]) 26 Try.func214 rfl rfl rfl slc_Equal_ent ⟨id, id, trivial⟩ (fun w0 => ?_)
  refine tr_seq ?_
  refine tr_region fun _ _ _ => ?_
  refine pu rfl rfl rfl rfl rfl ?_
  refine tr_seq ?_
  refine tr_seq ?_
  refine tr_region fun _ _ _ => ?_
  refine pu rfl rfl rfl rfl rfl ?_
  refine st rfl rfl rfl rfl (rLen rfl rfl) ?_
  refine pu rfl rfl rfl rfl rfl ?_
  refine st rfl rfl rfl rfl (rLen rfl rfl) ?_
  refine pu rfl rfl rfl rfl rfl ?_
  refine tr_cond_bool rfl (fun h1 => ?_) (fun h1 => ?_)
  · try simp only [zb1, zb2, zb3, zb4, zb5, zb6, zb7, zb8, zb9, zb10] at h1
    refine tr_seq ?_
    refine tr_region fun _ _ _ => ?_
    refine pu rfl rfl rfl rfl rfl ?_
    exact tr_ret ⟨trivial, _, _, rfl, ⟨by rw [decide_eq_false (fun h => by rw [h] at hn; omega)], rfl⟩, CSub.nil _, trivial⟩
  · try simp only [zb1, zb2, zb3, zb4, zb5, zb6, zb7, zb8, zb9, zb10] at h1
    refine tr_skip ?_
    refine tr_seq ?_
    refine tr_seq ?_
    refine tr_region fun _ _ _ => ?_
    refine pu rfl rfl rfl rfl rfl ?_
    refine st rfl rfl rfl rfl (rLen rfl rfl) ?_
    refine pu rfl rfl rfl rfl rfl ?_
    refine tr_block ?_
    refine tr_loop1 (fun (i : Nat) => [(13, .int .i64 i), (0, .slice A n c), (1, .slice B m d), (12, .int .i64 n)]) (fun (i : Nat) => [ro A (ints a), ro B (ints b)]) (fun (i : Nat) => i ≤ a.length ∧ a.take i = b.take i) (fun (i : Nat) => a.length - i) (0) ⟨rfl, rfl, rfl, rfl, trivial⟩ (by first | exact cs _ _ | exact CSub.refl _) (⟨by omega, rfl⟩) (fun i hI => ?_)
    obtain ⟨hi, ht⟩ := hI
    have hll : a.length = b.length := by omega
    refine tr_seq ?_
    refine tr_region fun _ _ _ => ?_
    refine pu rfl rfl rfl rfl rfl ?_
    refine tr_seq ?_
    refine tr_cond_bool rfl (fun h4 => ?_) (fun h4 => ?_)
    · try simp only [zb1, zb2, zb3, zb4, zb5, zb6, zb7, zb8, zb9, zb10] at h4
      refine tr_skip ?_
      refine tr_seq ?_
      refine tr_block ?_
      refine tr_seq ?_
      refine tr_region fun _ _ _ => ?_
      iterate 2 refine pu rfl rfl rfl rfl rfl ?_
      refine tr_seq ?_
      refine tr_draw [0, 1, 2, 3, 4, 5, 6, 7, 8] [] mixed (by kernel_rfl) fun _ _ _ => ?_
      iterate 2 refine pu rfl rfl rfl rfl rfl ?_
      refine st rfl rfl rfl rfl (rIdxI rfl rfl rfl (by omega) (by omega) (by omega)) ?_
      refine st rfl rfl rfl rfl (rLdI rfl rfl (by omega)) ?_
      iterate 2 refine pu rfl rfl rfl rfl rfl ?_
      refine st rfl rfl rfl rfl (rIdxI rfl rfl rfl (by omega) (by omega) (by omega)) ?_
      refine st rfl rfl rfl rfl (rLdI rfl rfl (by omega)) ?_
      refine pu rfl rfl rfl rfl rfl ?_
      refine tr_cond_bool rfl (fun h6 => ?_) (fun h6 => ?_)
      · try simp only [zb1, zb2, zb3, zb4, zb5, zb6, zb7, zb8, zb9, zb10] at h6
        refine tr_seq ?_
        refine tr_region fun _ _ _ => ?_
        refine pu rfl rfl rfl rfl rfl ?_
        exact tr_ret ⟨trivial, _, _, rfl, ⟨by rw [decide_eq_false (fun h => h6 (by rw [h]))], rfl⟩, CSub.nil _, trivial⟩
      · try simp only [zb1, zb2, zb3, zb4, zb5, zb6, zb7, zb8, zb9, zb10] at h6
        refine tr_skip ?_
        refine tr_region fun _ _ _ => ?_
        refine st rfl rfl rfl rfl (rAdd rfl rfl rfl (by omega) (by omega)) ?_
        refine pu rfl rfl rfl rfl rfl ?_
        refine ⟨i + 1, ⟨rfl, rfl, rfl, rfl, trivial⟩, by first | exact cs _ _ | exact CSub.refl _, ?_⟩
        exact ⟨⟨by omega, take_eq_next 0 a b hll (by omega) ht (by simpa using h6)⟩, by omega⟩
    · try simp only [zb1, zb2, zb3, zb4, zb5, zb6, zb7, zb8, zb9, zb10] at h4
      refine tr_exit ?_
      refine tr_seq ?_
      refine tr_region fun _ _ _ => ?_
      refine pu rfl rfl rfl rfl rfl ?_
      have hia : i = a.length := by omega
      rw [hia, List.take_length, hll, List.take_length] at ht
      exact tr_ret ⟨trivial, _, _, rfl, ⟨by rw [decide_eq_true ht], rfl⟩, CSub.nil _, trivial⟩

theorem slc_EqualF (r q : RowM) (h9 : r.xs.length ≤ 17592186044415) : Pure Try.prog 214 ([Value.slice r.A r.xs.length r.cap, Value.slice q.A q.xs.length q.cap] ++ []).toArray [ro r.A (ints r.xs), ro q.A (ints q.xs)] (isV (.bool (decide (r.xs = q.xs)))) :=
  slc_Equal _ _ _ r.xs rfl _ _ _ q.xs rfl h9

theorem slc_EqualFunc_ent : Enters Try.prog 213 := enters_of Try.func213 (by kernel_rfl) (by kernel_rfl)
theorem slc_EqualFunc (A : Option Addr) (n c : Nat) (rs : List RowM) (hn : n = rs.length) (B : Option Addr) (m d : Nat) (qs : List RowM) (hm : m = qs.length) (h9 : rs.length ≤ 17592186044415) (h8 : ∀ r ∈ rs, r.xs.length ≤ 17592186044415) :
    Pure Try.prog 213 #[.slice A n c, .slice B m d, .func (.func 214) #[] #[]] [ro A (hdrs rs), rowsR rs, ro B (hdrs qs), rowsR qs] (isV (.bool (decide (xss rs = xss qs)))) := by
  refine pure_of (args := [.slice A n c, .slice B m d, .func (.func 214) #[] #[]]) 32 Try.func213 rfl rfl rfl slc_EqualFunc_ent ⟨id, id, id, id, trivial⟩ (fun w0 => ?_)
  refine tr_seq ?_
  refine tr_region fun _ _ _ => ?_
  refine pu rfl rfl rfl rfl rfl ?_
  refine tr_seq ?_
  refine tr_seq ?_
  refine tr_region fun _ _ _ => ?_
  refine pu rfl rfl rfl rfl rfl ?_
  refine st rfl rfl rfl rfl (rLen rfl rfl) ?_
  refine pu rfl rfl rfl rfl rfl ?_
  refine st rfl rfl rfl rfl (rLen rfl rfl) ?_
  refine pu rfl rfl rfl rfl rfl ?_
  refine tr_cond_bool rfl (fun h1 => ?_) (fun h1 => ?_)
  · try simp only [zb1, zb2, zb3, zb4, zb5, zb6, zb7, zb8, zb9, zb10] at h1
    refine tr_seq ?_
    refine tr_region fun _ _ _ => ?_
    refine pu rfl rfl rfl rfl rfl ?_
    exact tr_ret ⟨trivial, _, _, rfl, ⟨by rw [decide_eq_false (fun h => by have := congrArg List.length h; simp at this; omega)], rfl⟩, CSub.nil _, trivial⟩
  · try simp only [zb1, zb2, zb3, zb4, zb5, zb6, zb7, zb8, zb9, zb10] at h1
    refine tr_skip ?_
    refine tr_seq ?_
    refine tr_seq ?_
    refine tr_region fun _ _ _ => ?_
    refine pu rfl rfl rfl rfl rfl ?_
    refine st rfl rfl rfl rfl (rLen rfl rfl) ?_
    refine pu rfl rfl rfl rfl rfl ?_
    refine tr_block ?_
    refine tr_loop1 (fun (i : Nat) => [(17, .int .i64 i), (1, .slice B m d), (2, .func (.func 214) #[] #[]), (15, .slice A n c), (16, .int .i64 n)]) (fun (i : Nat) => [ro A (hdrs rs), rowsR rs, ro B (hdrs qs), rowsR qs]) (fun (i : Nat) => i ≤ rs.length ∧ (xss rs).take i = (xss qs).take i) (fun (i : Nat) => rs.length - i) (0) ⟨rfl, rfl, rfl, rfl, rfl, trivial⟩ (by first | exact cs _ _ | exact CSub.refl _) (⟨by omega, rfl⟩) (fun i hI => ?_)
    obtain ⟨hi, ht⟩ := hI
    have hll : rs.length = qs.length := by omega
    refine tr_seq ?_
    refine tr_region fun _ _ _ => ?_
    refine pu rfl rfl rfl rfl rfl ?_
    refine tr_seq ?_
    refine tr_cond_bool rfl (fun h4 => ?_) (fun h4 => ?_)
    · try simp only [zb1, zb2, zb3, zb4, zb5, zb6, zb7, zb8, zb9, zb10] at h4
      refine tr_skip ?_
      refine tr_seq ?_
      refine tr_block ?_
      refine tr_seq ?_
      haveI : InB (i : Int).toNat rs.length := ⟨by omega⟩
      haveI : InB (i : Int).toNat qs.length := ⟨by omega⟩
      have hr8 := h8 _ (getD_mem (show (i : Int).toNat < rs.length by omega) rowD)
      refine tr_region fun _ _ _ => ?_
      refine pu rfl rfl rfl rfl rfl ?_
      refine st rfl rfl rfl rfl (rIdxR rfl rfl rfl (by omega) (by omega) (by omega)) ?_
      refine st rfl rfl rfl rfl (rLdR rfl rfl (by omega)) ?_
      iterate 2 refine pu rfl rfl rfl rfl rfl ?_
      refine tr_seq ?_
      refine tr_region fun _ _ _ => ?_
      iterate 2 refine pu rfl rfl rfl rfl rfl ?_
      refine st rfl rfl rfl rfl (rIdxR rfl rfl rfl (by omega) (by omega) (by omega)) ?_
      refine st rfl rfl rfl rfl (rLdR rfl rfl (by omega)) ?_
      refine pu rfl rfl rfl rfl rfl ?_
      refine tr_seq ?_
      refine tr_region fun _ _ _ => ?_
      iterate 3 refine pu rfl rfl rfl rfl rfl ?_
      refine ef rfl rfl (eCallFV rfl rfl rfl rfl (slc_EqualF (rs.getD (i : Int).toNat rowD) (qs.getD (i : Int).toNat rowD) hr8) ⟨rfl, rfl, trivial⟩ inferInstance ?_) 
      refine st rfl rfl rfl rfl (rNotB rfl rfl) ?_
      refine tr_cond_bool rfl (fun h7 => ?_) (fun h7 => ?_)
      · try simp only [zb1, zb2, zb3, zb4, zb5, zb6, zb7, zb8, zb9, zb10] at h7
        refine tr_seq ?_
        refine tr_region fun _ _ _ => ?_
        refine pu rfl rfl rfl rfl rfl ?_
        exact tr_ret ⟨trivial, _, _, rfl, ⟨by rw [decide_eq_false (fun h => by have := congrArg (fun l => l.getD i []) h; simp only [xss_getD] at this; simp only [Int.toNat_natCast] at h7; exact h7 this)], rfl⟩, CSub.nil _, trivial⟩
      · try simp only [zb1, zb2, zb3, zb4, zb5, zb6, zb7, zb8, zb9, zb10] at h7
        refine tr_skip ?_
        refine tr_region fun _ _ _ => ?_
        refine st rfl rfl rfl rfl (rAdd rfl rfl rfl (by omega) (by omega)) ?_
        refine pu rfl rfl rfl rfl rfl ?_
        refine ⟨i + 1, ⟨rfl, rfl, rfl, rfl, rfl, trivial⟩, by first | exact cs _ _ | exact CSub.refl _, ?_⟩
        exact ⟨⟨by omega, take_eq_next [] _ _ (by simpa using hll) (by rw [xss_length]; omega) ht (by rw [xss_getD, xss_getD]; simpa using h7)⟩, by omega⟩
    · try simp only [zb1, zb2, zb3, zb4, zb5, zb6, zb7, zb8, zb9, zb10] at h4
      refine tr_exit ?_
      refine tr_seq ?_
      refine tr_region fun _ _ _ => ?_
      refine pu rfl rfl rfl rfl rfl ?_
      have hia : i = rs.length := by omega
      rw [List.take_of_length_le (by rw [xss_length]; omega), List.take_of_length_le (by rw [xss_length]; omega)] at ht
      exact tr_ret ⟨trivial, _, _, rfl, ⟨by rw [decide_eq_true ht], rfl⟩, CSub.nil _, trivial⟩

theorem fld_CheckN_ent : Enters Try.prog 93 := enters_of Try.func93 (by kernel_rfl) (by kernel_rfl)
theorem fld_CheckN (p m : Int) (A : Option Addr) (c : Nat) (mod : List Int) (hl9 : mod.length ≤ 17592186044415) (hsh : bShp p m mod = false) :
    Pure Try.prog 93 #[.agg #[.int .i64 p, .int .i64 m, .slice A mod.length c]] [ro A (ints mod)] (isV (.int .i64 1)) := by
  refine pure_of (args := [.agg #[.int .i64 p, .int .i64 m, .slice A mod.length c]]) 16 Try.func93 rfl rfl rfl fld_CheckN_ent ⟨id, trivial⟩ (fun w0 => ?_)
  refine tr_seq ?_
  refine tr_region fun _ _ _ => ?_
  refine ef rfl rfl (eBox rfl rfl rfl rfl rfl (fun p0 => ?_)) 
  refine pu rfl rfl rfl rfl rfl ?_
  refine tr_seq ?_
  refine tr_seq ?_
  refine tr_draw [0, 1, 2, 3, 4, 5, 6, 7, 8, 9, 10, 11, 12] [] mixed (by kernel_rfl) fun _ _ _ => ?_
  refine st rfl rfl rfl rfl (rLdS rfl rfl rfl) ?_
  refine ef rfl rfl (eCallV rfl rfl rfl (fld_shape _ _ _ _ _ (by omega)) ⟨rfl, trivial⟩ ?_) 
  refine st rfl rfl rfl rfl (rNotB rfl rfl) ?_
  refine pu rfl rfl rfl rfl rfl ?_
  refine skF rfl rfl (by simp [hsh]) rfl rfl ?_
  refine skF rfl rfl (by simp [hsh]) rfl rfl ?_
  refine skF rfl rfl (by simp [hsh]) rfl rfl ?_
  refine skF rfl rfl (by simp [hsh]) rfl rfl ?_
  refine skF rfl rfl (by simp [hsh]) rfl rfl ?_
  refine skF rfl rfl (by simp [hsh]) rfl rfl ?_
  refine skF rfl rfl (by simp [hsh]) rfl rfl ?_
  refine skF rfl rfl (by simp [hsh]) rfl rfl ?_
  refine st rfl rfl rfl rfl (rPick1 rfl rfl (by simp [hsh]) rfl) ?_
  refine tr_cond_bool rfl (fun h1 => ?_) (fun h1 => ?_)
  · try simp only [zb1, zb2, zb3, zb4, zb5, zb6, zb7, zb8, zb9, zb10] at h1
    refine tr_seq ?_
    refine tr_region fun _ _ _ => ?_
    refine pu rfl rfl rfl rfl rfl ?_
    exact tr_ret ⟨trivial, _, _, rfl, ⟨rfl, rfl⟩, CSub.nil _, trivial⟩
  · try simp only [zb1, zb2, zb3, zb4, zb5, zb6, zb7, zb8, zb9, zb10] at h1
    first | exact absurd trivial h1 | exact absurd rfl h1 | omega | (exact absurd h1 (by simp)) --done

theorem fld_CheckS_ent : Enters Try.prog 93 := enters_of Try.func93 (by kernel_rfl) (by kernel_rfl)
theorem fld_CheckS (p m : Int) (A : Option Addr) (c : Nat) (mod : List Int) (hl9 : mod.length ≤ 17592186044415) (hsh : bShp p m mod = true) :
    Pure Try.prog 93 #[.agg #[.int .i64 p, .int .i64 m, .slice A mod.length c]] [ro A (ints mod)] (isV (.int .i64 (chkF p m mod))) := by
  have hs1 := ((bShp_iff p m mod).1 hsh).1
  have hs2 := (bShp_iff p m mod).1 hsh
  refine pure_of (args := [.agg #[.int .i64 p, .int .i64 m, .slice A mod.length c]]) 16 Try.func93 rfl rfl rfl fld_CheckS_ent ⟨id, trivial⟩ (fun w0 => ?_)
  refine tr_seq ?_
  refine tr_region fun _ _ _ => ?_
  refine ef rfl rfl (eBox rfl rfl rfl rfl rfl (fun p0 => ?_)) 
  refine pu rfl rfl rfl rfl rfl ?_
  refine tr_seq ?_
  refine tr_seq ?_
  refine tr_draw [0, 1, 2, 3, 4, 5, 6, 7, 8, 9, 10, 11, 12] [] mixed (by kernel_rfl) fun _ _ _ => ?_
  refine st rfl rfl rfl rfl (rLdS rfl rfl rfl) ?_
  refine ef rfl rfl (eCallV rfl rfl rfl (fld_shape _ _ _ _ _ (by omega)) ⟨rfl, trivial⟩ ?_) 
  refine st rfl rfl rfl rfl (rNotB rfl rfl) ?_
  refine pu rfl rfl rfl rfl rfl ?_
  refine stT rfl rfl rfl (by simp [hsh]) rfl rfl (rLdS rfl rfl rfl) ?_
  refine stT rfl rfl rfl (by simp [hsh]) rfl rfl (rFld rfl rfl) ?_
  refine stT rfl rfl rfl (by simp [hsh]) rfl rfl (rLdF rfl rfl rfl) ?_
  refine stT rfl rfl rfl (by simp [hsh]) rfl rfl (rFld rfl rfl) ?_
  refine stT rfl rfl rfl (by simp [hsh]) rfl rfl (rLdF rfl rfl rfl) ?_
  refine efT rfl rfl rfl (by simp [hsh]) (eCallV rfl rfl rfl (fld_order _ _) ⟨rfl, rfl, trivial⟩ ?_) 
  refine efT rfl rfl rfl (by simp [hsh]) (eCall1 rfl rfl rfl (fld_gen _ _ _ _ _ hs1 _ hs1.ord) ⟨rfl, rfl, trivial⟩ ?_) 
  rintro _ _ ⟨B, l, cb, rfl, hl, hn, rfl⟩
  refine stT rfl rfl rfl (by simp [hsh]) rfl rfl (rNilS rfl rfl rfl) ?_
  refine st rfl rfl rfl rfl (rPick0 rfl rfl (by simp [hsh]) rfl) ?_
  refine tr_cond_bool rfl (fun h1 => ?_) (fun h1 => ?_)
  · try simp only [zb1, zb2, zb3, zb4, zb5, zb6, zb7, zb8, zb9, zb10] at h1
    refine tr_emptyI (A := B) (xs := l) (fun hemp => ?_)
    have hl0 := hemp h1
    refine tr_seq ?_
    refine tr_region fun _ _ _ => ?_
    refine pu rfl rfl rfl rfl rfl ?_
    rw [hl0] at hl
    exact tr_ret ⟨trivial, _, _, rfl, ⟨by rw [chkF_no fun h => hl.nil (fldN_iff.2 h).2], rfl⟩, CSub.nil _, trivial⟩
  · try simp only [zb1, zb2, zb3, zb4, zb5, zb6, zb7, zb8, zb9, zb10] at h1
    refine tr_skip ?_
    refine tr_seq ?_
    refine tr_region fun _ _ _ => ?_
    refine pu rfl rfl rfl rfl rfl ?_
    have hgn : l ≠ [] := fun h => by
      rw [hn h] at h1
      simp at h1
    have hF : FldR p m mod := fldN_iff.1 ⟨hs2, by
      rcases hl with ⟨x, h⟩ | h
      · exact ⟨x, l, h⟩
      · exact absurd h.1 hgn⟩
    exact tr_ret ⟨trivial, _, _, rfl, ⟨by rw [chkF_ok hF], rfl⟩, CSub.nil _, trivial⟩

theorem fld_Check (p m : Int) (A : Option Addr) (c : Nat) (mod : List Int) (hl9 : mod.length ≤ 17592186044415) : Pure Try.prog 93 #[.agg #[.int .i64 p, .int .i64 m, .slice A mod.length c]] [ro A (ints mod)] (isV (.int .i64 (chkF p m mod))) := by
  cases hsh : bShp p m mod with
  | true => exact fld_CheckS p m A c mod hl9 hsh
  | false =>
    have h := fld_CheckN p m A c mod hl9 hsh
    rwa [← chkF_no (p := p) (m := m) (mod := mod) (fun h => by rw [bShp_true h.1] at hsh; cases hsh)] at h

theorem spc_openNo_ent : Enters Try.prog 189 := enters_of Try.func189 (by kernel_rfl) (by kernel_rfl)
theorem spc_openNo (p m : Int) (A : Option Addr) (c : Nat) (mod : List Int) (hl9 : mod.length ≤ 17592186044415) (hF : ¬ FldR p m mod) (w : Int) (Aa : Option Addr) (n ca : Nat) (rs : List RowM) (hn : n = rs.length) (h9 : rs.length ≤ 17592186044415) (h8 : ∀ r ∈ rs, r.xs.length ≤ 17592186044415) :
    Pure Try.prog 189 #[.agg #[.int .i64 p, .int .i64 m, .slice A mod.length c], .agg #[.int .i64 w, .slice Aa n ca]] [ro A (ints mod), ro Aa (hdrs rs), rowsR rs] (isV (.tuple #[.agg #[.pointer none, .int .i64 0, .slice none 0 0, .slice none 0 0], .int .i64 1])) := by
  refine pure_ofC (args := [.agg #[.int .i64 p, .int .i64 m, .slice A mod.length c], .agg #[.int .i64 w, .slice Aa n ca]]) 38 Try.func189 rfl rfl rfl spc_openNo_ent ⟨id, id, id, trivial⟩ (fun w0 => ?_)
  refine tr_seq ?_
  refine tr_region fun _ _ _ => ?_
  refine ef rfl rfl (eBox rfl rfl rfl rfl rfl (fun p0 => ?_)) 
  refine ef rfl rfl (eBox rfl rfl rfl rfl rfl (fun p0a => ?_)) 
  refine ef rfl rfl (eAlloc rfl rfl rfl (fun p0b => ?_)) 
  refine pu rfl rfl rfl rfl rfl ?_
  refine tr_seq ?_
  refine tr_region fun _ _ _ => ?_
  refine st rfl rfl rfl rfl (rLdS rfl rfl rfl) ?_
  refine st rfl rfl rfl rfl (rLdS rfl rfl rfl) ?_
  refine ef rfl rfl (eCallV rfl rfl rfl (mat_CanonicalNo _ _ _ _ _ hl9 hF w Aa _ ca rs hn h9 h8) ⟨rfl, rfl, trivial⟩ ?_) 
  iterate 4 refine pu rfl rfl rfl rfl rfl ?_
  refine ef rfl rfl (eAlloc rfl rfl rfl (fun p1a => ?_)) 
  refine ef rfl rfl (eStS rfl rfl rfl rfl rfl rfl ?_) 
  iterate 2 refine pu rfl rfl rfl rfl rfl ?_
  refine tr_seq ?_
  refine tr_seq ?_
  refine tr_region fun _ _ _ => ?_
  iterate 2 refine pu rfl rfl rfl rfl rfl ?_
  refine tr_cond_bool rfl (fun h2 => ?_) (fun h2 => ?_)
  · try simp only [zb1, zb2, zb3, zb4, zb5, zb6, zb7, zb8, zb9, zb10] at h2
    refine tr_seq ?_
    refine tr_region fun _ _ _ => ?_
    refine st rfl rfl rfl rfl (rBuild rfl rfl) ?_
    refine pu rfl rfl rfl rfl rfl ?_
    refine ef rfl rfl (eStS rfl rfl rfl rfl rfl rfl ?_) 
    refine pu rfl rfl rfl rfl rfl ?_
    exact tr_ret ⟨trivial, _, _, (.cell rfl (cellS rfl) (.tmp rfl .nil)), ⟨rfl, rfl⟩, CSub.nil _, trivial⟩
  · try simp only [zb1, zb2, zb3, zb4, zb5, zb6, zb7, zb8, zb9, zb10] at h2
    omega --done

theorem spc_openE_ent : Enters Try.prog 189 := enters_of Try.func189 (by kernel_rfl) (by kernel_rfl)
theorem spc_openE (p m : Int) (A : Option Addr) (c : Nat) (mod : List Int) (hl9 : mod.length ≤ 17592186044415) [hF : IsF p m mod] (w : Int) (Aa : Option Addr) (n ca : Nat) (rs : List RowM) (hn : n = rs.length) (h9 : rs.length ≤ 17592186044415) (h8 : ∀ r ∈ rs, r.xs.length ≤ 17592186044415) (hE : rowsC (pw p m) w (xss rs) ≠ 0) :
    Pure Try.prog 189 #[.agg #[.int .i64 p, .int .i64 m, .slice A mod.length c], .agg #[.int .i64 w, .slice Aa n ca]] [ro A (ints mod), ro Aa (hdrs rs), rowsR rs] (isV (.tuple #[.agg #[.pointer none, .int .i64 0, .slice none 0 0, .slice none 0 0], .int .i64 (rowsC (pw p m) w (xss rs))])) := by
  refine pure_ofC (args := [.agg #[.int .i64 p, .int .i64 m, .slice A mod.length c], .agg #[.int .i64 w, .slice Aa n ca]]) 38 Try.func189 rfl rfl rfl spc_openE_ent ⟨id, id, id, trivial⟩ (fun w0 => ?_)
  refine tr_seq ?_
  refine tr_region fun _ _ _ => ?_
  refine ef rfl rfl (eBox rfl rfl rfl rfl rfl (fun p0 => ?_)) 
  refine ef rfl rfl (eBox rfl rfl rfl rfl rfl (fun p0a => ?_)) 
  refine ef rfl rfl (eAlloc rfl rfl rfl (fun p0b => ?_)) 
  refine pu rfl rfl rfl rfl rfl ?_
  refine tr_seq ?_
  refine tr_region fun _ _ _ => ?_
  refine st rfl rfl rfl rfl (rLdS rfl rfl rfl) ?_
  refine st rfl rfl rfl rfl (rLdS rfl rfl rfl) ?_
  refine ef rfl rfl (eCallV rfl rfl rfl (mat_CanonicalE _ _ _ _ _ hl9 w Aa _ ca rs hn h9 h8 hE) ⟨rfl, rfl, trivial⟩ ?_) 
  iterate 4 refine pu rfl rfl rfl rfl rfl ?_
  refine ef rfl rfl (eAlloc rfl rfl rfl (fun p1a => ?_)) 
  refine ef rfl rfl (eStS rfl rfl rfl rfl rfl rfl ?_) 
  iterate 2 refine pu rfl rfl rfl rfl rfl ?_
  refine tr_seq ?_
  refine tr_seq ?_
  refine tr_region fun _ _ _ => ?_
  iterate 2 refine pu rfl rfl rfl rfl rfl ?_
  refine tr_cond_bool rfl (fun h2 => ?_) (fun h2 => ?_)
  · try simp only [zb1, zb2, zb3, zb4, zb5, zb6, zb7, zb8, zb9, zb10] at h2
    refine tr_seq ?_
    refine tr_region fun _ _ _ => ?_
    refine st rfl rfl rfl rfl (rBuild rfl rfl) ?_
    refine pu rfl rfl rfl rfl rfl ?_
    refine ef rfl rfl (eStS rfl rfl rfl rfl rfl rfl ?_) 
    refine pu rfl rfl rfl rfl rfl ?_
    exact tr_ret ⟨trivial, _, _, (.cell rfl (cellS rfl) (.tmp rfl .nil)), ⟨rfl, rfl⟩, CSub.nil _, trivial⟩
  · try simp only [zb1, zb2, zb3, zb4, zb5, zb6, zb7, zb8, zb9, zb10] at h2
    omega --done

theorem spc_openF_ent : Enters Try.prog 189 := enters_of Try.func189 (by kernel_rfl) (by kernel_rfl)
theorem spc_openF (p m : Int) (A : Option Addr) (c : Nat) (mod : List Int) (hl9 : mod.length ≤ 17592186044415) [hF : IsF p m mod] (w : Int) (Aa : Option Addr) (n ca : Nat) (rs : List RowM) (hn : n = rs.length) (h9 : rs.length ≤ 17592186044415) (h8 : ∀ r ∈ rs, r.xs.length ≤ 17592186044415) (hE : rowsC (pw p m) w (xss rs) = 0) (hf : ¬ formP p m mod w.toNat rs) :
    Pure Try.prog 189 #[.agg #[.int .i64 p, .int .i64 m, .slice A mod.length c], .agg #[.int .i64 w, .slice Aa n ca]] [ro A (ints mod), ro Aa (hdrs rs), rowsR rs] (isV (.tuple #[.agg #[.pointer none, .int .i64 0, .slice none 0 0, .slice none 0 0], .int .i64 5])) := by
  obtain ⟨hgd, hw0, hw9, hr9⟩ := rowsC_Gd (p := p) (m := m) hE
  refine pure_ofC (args := [.agg #[.int .i64 p, .int .i64 m, .slice A mod.length c], .agg #[.int .i64 w, .slice Aa n ca]]) 38 Try.func189 rfl rfl rfl spc_openF_ent ⟨id, id, id, trivial⟩ (fun w0 => ?_)
  refine tr_seq ?_
  refine tr_region fun _ _ _ => ?_
  refine ef rfl rfl (eBox rfl rfl rfl rfl rfl (fun p0 => ?_)) 
  refine ef rfl rfl (eBox rfl rfl rfl rfl rfl (fun p0a => ?_)) 
  refine ef rfl rfl (eAlloc rfl rfl rfl (fun p0b => ?_)) 
  refine pu rfl rfl rfl rfl rfl ?_
  refine tr_seq ?_
  refine tr_region fun _ _ _ => ?_
  refine st rfl rfl rfl rfl (rLdS rfl rfl rfl) ?_
  refine st rfl rfl rfl rfl (rLdS rfl rfl rfl) ?_
  refine ef rfl rfl (eCall3 rfl rfl rfl (mat_CanonicalG _ _ _ _ _ hl9 w Aa _ ca rs hn h9 h8 hE) ⟨rfl, rfl, trivial⟩ ?_) 
  rintro _ _ _ _ ⟨B, r3, Bp, cp, ps, rfl, rfl, rfl, rfl, hR, hk⟩
  iterate 4 refine pu rfl rfl rfl rfl rfl ?_
  refine ef rfl rfl (eAlloc rfl rfl rfl (fun p1a => ?_)) 
  refine ef rfl rfl (eStS rfl rfl rfl rfl rfl rfl ?_) 
  iterate 2 refine pu rfl rfl rfl rfl rfl ?_
  refine tr_seq ?_
  refine tr_seq ?_
  refine tr_region fun _ _ _ => ?_
  iterate 2 refine pu rfl rfl rfl rfl rfl ?_
  refine tr_cond_bool rfl (fun h2 => ?_) (fun h2 => ?_)
  · try simp only [zb1, zb2, zb3, zb4, zb5, zb6, zb7, zb8, zb9, zb10] at h2
    first | exact absurd trivial h2 | exact absurd rfl h2 | omega | (exact absurd h2 (by simp)) --done
  · try simp only [zb1, zb2, zb3, zb4, zb5, zb6, zb7, zb8, zb9, zb10] at h2
    refine tr_skip ?_
    refine tr_seq ?_
    refine tr_seq ?_
    refine tr_region fun _ _ _ => ?_
    refine st rfl rfl rfl rfl (rFld rfl rfl) ?_
    refine st rfl rfl rfl rfl (rLdF rfl rfl rfl) ?_
    refine st rfl rfl rfl rfl (rFld rfl rfl) ?_
    refine st rfl rfl rfl rfl (rLdF rfl rfl rfl) ?_
    refine ef rfl rfl (eCallV rfl rfl rfl (slc_EqualFunc _ _ _ r3 rfl _ _ _ rs hn (by omega) (hR.good.h8 (by omega))) ⟨rfl, rfl, rfl, trivial⟩ ?_) 
    refine st rfl rfl rfl rfl (rNotB rfl rfl) ?_
    refine tr_cond_bool rfl (fun h4 => ?_) (fun h4 => ?_)
    · try simp only [zb1, zb2, zb3, zb4, zb5, zb6, zb7, zb8, zb9, zb10] at h4
      refine tr_seq ?_
      refine tr_region fun _ _ _ => ?_
      refine st rfl rfl rfl rfl (rBuild rfl rfl) ?_
      refine ef rfl rfl (eStS rfl rfl rfl rfl rfl rfl ?_) 
      refine pu rfl rfl rfl rfl rfl ?_
      exact tr_ret ⟨trivial, _, _, (.cell rfl (cellS rfl) (.tmp rfl .nil)), ⟨rfl, rfl⟩, CSub.nil _, trivial⟩
    · try simp only [zb1, zb2, zb3, zb4, zb5, zb6, zb7, zb8, zb9, zb10] at h4
      exact absurd ((hR.form_iff hgd).1 (by simpa using h4)) hf --done

theorem spc_openG_ent : Enters Try.prog 189 := enters_of Try.func189 (by kernel_rfl) (by kernel_rfl)
theorem spc_openG (p m : Int) (A : Option Addr) (c : Nat) (mod : List Int) (hl9 : mod.length ≤ 17592186044415) [hF : IsF p m mod] (w : Int) (Aa : Option Addr) (n ca : Nat) (rs : List RowM) (hn : n = rs.length) (h9 : rs.length ≤ 17592186044415) (h8 : ∀ r ∈ rs, r.xs.length ≤ 17592186044415) (hE : rowsC (pw p m) w (xss rs) = 0) (hf : formP p m mod w.toNat rs) :
    Pure Try.prog 189 #[.agg #[.int .i64 p, .int .i64 m, .slice A mod.length c], .agg #[.int .i64 w, .slice Aa n ca]] [ro A (ints mod), ro Aa (hdrs rs), rowsR rs] (two (fun v c1 c2 => ∃ (g : GfM) (Bp : Option Addr) (cp : Nat) (ps : List Int), v = .tuple #[.agg #[.pointer (some g.p), .int .i64 w, .slice Aa n ca, .slice Bp ps.length cp], .int .i64 0] ∧ c1 = gfN g ∧ c2 = ow Bp 3 cp (ints ps) ∧ GOk g p m mod ∧ ∃ qs, ps = qs.map Int.ofNat ∧ Vc.Rr w.toNat (vsR rs : List (Vc (El p m mod))) qs)) := by
  obtain ⟨hgd, hw0, hw9, hr9⟩ := rowsC_Gd (p := p) (m := m) hE
  refine pure_ofC (args := [.agg #[.int .i64 p, .int .i64 m, .slice A mod.length c], .agg #[.int .i64 w, .slice Aa n ca]]) 38 Try.func189 rfl rfl rfl spc_openG_ent ⟨id, id, id, trivial⟩ (fun w0 => ?_)
  refine tr_seq ?_
  refine tr_region fun _ _ _ => ?_
  refine ef rfl rfl (eBox rfl rfl rfl rfl rfl (fun p0 => ?_)) 
  refine ef rfl rfl (eBox rfl rfl rfl rfl rfl (fun p0a => ?_)) 
  refine ef rfl rfl (eAlloc rfl rfl rfl (fun p0b => ?_)) 
  refine pu rfl rfl rfl rfl rfl ?_
  refine tr_seq ?_
  refine tr_region fun _ _ _ => ?_
  refine st rfl rfl rfl rfl (rLdS rfl rfl rfl) ?_
  refine st rfl rfl rfl rfl (rLdS rfl rfl rfl) ?_
  refine ef rfl rfl (eCall3 rfl rfl rfl (mat_CanonicalG _ _ _ _ _ hl9 w Aa _ ca rs hn h9 h8 hE) ⟨rfl, rfl, trivial⟩ ?_) 
  rintro _ _ _ _ ⟨B, r3, Bp, cp, ps, rfl, rfl, rfl, rfl, hR, hk⟩
  iterate 4 refine pu rfl rfl rfl rfl rfl ?_
  refine ef rfl rfl (eAlloc rfl rfl rfl (fun p1a => ?_)) 
  refine ef rfl rfl (eStS rfl rfl rfl rfl rfl rfl ?_) 
  iterate 2 refine pu rfl rfl rfl rfl rfl ?_
  refine tr_seq ?_
  refine tr_seq ?_
  refine tr_region fun _ _ _ => ?_
  iterate 2 refine pu rfl rfl rfl rfl rfl ?_
  refine tr_cond_bool rfl (fun h2 => ?_) (fun h2 => ?_)
  · try simp only [zb1, zb2, zb3, zb4, zb5, zb6, zb7, zb8, zb9, zb10] at h2
    first | exact absurd trivial h2 | exact absurd rfl h2 | omega | (exact absurd h2 (by simp)) --done
  · try simp only [zb1, zb2, zb3, zb4, zb5, zb6, zb7, zb8, zb9, zb10] at h2
    refine tr_skip ?_
    refine tr_seq ?_
    refine tr_seq ?_
    refine tr_region fun _ _ _ => ?_
    refine st rfl rfl rfl rfl (rFld rfl rfl) ?_
    refine st rfl rfl rfl rfl (rLdF rfl rfl rfl) ?_
    refine st rfl rfl rfl rfl (rFld rfl rfl) ?_
    refine st rfl rfl rfl rfl (rLdF rfl rfl rfl) ?_
    refine ef rfl rfl (eCallV rfl rfl rfl (slc_EqualFunc _ _ _ r3 rfl _ _ _ rs hn (by omega) (hR.good.h8 (by omega))) ⟨rfl, rfl, rfl, trivial⟩ ?_) 
    refine st rfl rfl rfl rfl (rNotB rfl rfl) ?_
    refine tr_cond_bool rfl (fun h4 => ?_) (fun h4 => ?_)
    · try simp only [zb1, zb2, zb3, zb4, zb5, zb6, zb7, zb8, zb9, zb10] at h4
      exact absurd ((hR.form_iff hgd).2 hf) (by simpa using h4) --done
    · try simp only [zb1, zb2, zb3, zb4, zb5, zb6, zb7, zb8, zb9, zb10] at h4
      refine tr_skip ?_
      refine tr_seq ?_
      refine tr_region fun _ _ _ => ?_
      refine st rfl rfl rfl rfl (rLdS rfl rfl rfl) ?_
      refine ef rfl rfl (eCall1 rfl rfl rfl (fld_New_ok _ _ _ _ _ hl9 hF.out) ⟨rfl, trivial⟩ ?_) 
      rintro _ _ ⟨g, rfl, rfl, hg⟩
      iterate 5 refine pu rfl rfl rfl rfl rfl ?_
      refine tr_seq ?_
      refine tr_region fun _ _ _ => ?_
      refine pu rfl rfl rfl rfl rfl ?_
      refine st rfl rfl rfl rfl (rLdS rfl rfl rfl) ?_
      refine pu rfl rfl rfl rfl rfl ?_
      refine st rfl rfl rfl rfl (rBuild rfl rfl) ?_
      refine pu rfl rfl rfl rfl rfl ?_
      refine ef rfl rfl (eStS rfl rfl rfl rfl rfl rfl ?_) 
      refine pu rfl rfl rfl rfl rfl ?_
      have he := (hR.form_iff hgd).2 hf
      exact tr_ret ⟨trivial, _, _, (.cell rfl (cellS rfl) (.tmp rfl .nil)), ⟨_, _, rfl, g, Bp, cp, ps, rfl, rfl, rfl, hg, hR.piv he⟩, cs _ _, gfO_excl _ _ _, trivial, trivial⟩

noncomputable def spcC (p m : Int) (mod : List Int) [hF : IsF p m mod] (w : Int) (rs : List RowM) : Int := open Classical in if rowsC (pw p m) w (xss rs) ≠ 0 then rowsC (pw p m) w (xss rs) else if formP p m mod w.toNat rs then 0 else 5

theorem spc_CheckNo_ent : Enters Try.prog 153 := enters_of Try.func153 (by kernel_rfl) (by kernel_rfl)
theorem spc_CheckNo (p m : Int) (A : Option Addr) (c : Nat) (mod : List Int) (hl9 : mod.length ≤ 17592186044415) (hF : ¬ FldR p m mod) (w : Int) (Aa : Option Addr) (n ca : Nat) (rs : List RowM) (hn : n = rs.length) (h9 : rs.length ≤ 17592186044415) (h8 : ∀ r ∈ rs, r.xs.length ≤ 17592186044415) :
    Pure Try.prog 153 #[.agg #[.int .i64 p, .int .i64 m, .slice A mod.length c], .agg #[.int .i64 w, .slice Aa n ca]] [ro A (ints mod), ro Aa (hdrs rs), rowsR rs] (isV (.int .i64 1)) := by
  refine pure_of (args := [.agg #[.int .i64 p, .int .i64 m, .slice A mod.length c], .agg #[.int .i64 w, .slice Aa n ca]]) 14 Try.func153 rfl rfl rfl spc_CheckNo_ent ⟨id, id, id, trivial⟩ (fun w0 => ?_)
  refine tr_seq ?_
  refine tr_region fun _ _ _ => ?_
  refine ef rfl rfl (eBox rfl rfl rfl rfl rfl (fun p0 => ?_)) 
  refine ef rfl rfl (eBox rfl rfl rfl rfl rfl (fun p0a => ?_)) 
  refine pu rfl rfl rfl rfl rfl ?_
  refine tr_seq ?_
  refine tr_region fun _ _ _ => ?_
  refine st rfl rfl rfl rfl (rLdS rfl rfl rfl) ?_
  refine st rfl rfl rfl rfl (rLdS rfl rfl rfl) ?_
  refine ef rfl rfl (eCallV rfl rfl rfl (spc_openNo _ _ _ _ _ hl9 hF w Aa _ ca rs hn h9 h8) ⟨rfl, rfl, trivial⟩ ?_) 
  iterate 3 refine pu rfl rfl rfl rfl rfl ?_
  refine ef rfl rfl (eAlloc rfl rfl rfl (fun p1a => ?_)) 
  refine ef rfl rfl (eStS rfl rfl rfl rfl rfl rfl ?_) 
  refine pu rfl rfl rfl rfl rfl ?_
  refine tr_seq ?_
  refine tr_region fun _ _ _ => ?_
  iterate 2 refine pu rfl rfl rfl rfl rfl ?_
  exact tr_ret ⟨trivial, _, _, rfl, ⟨rfl, rfl⟩, CSub.nil _, trivial⟩

theorem spc_CheckE_ent : Enters Try.prog 153 := enters_of Try.func153 (by kernel_rfl) (by kernel_rfl)
theorem spc_CheckE (p m : Int) (A : Option Addr) (c : Nat) (mod : List Int) (hl9 : mod.length ≤ 17592186044415) [hF : IsF p m mod] (w : Int) (Aa : Option Addr) (n ca : Nat) (rs : List RowM) (hn : n = rs.length) (h9 : rs.length ≤ 17592186044415) (h8 : ∀ r ∈ rs, r.xs.length ≤ 17592186044415) (hE : rowsC (pw p m) w (xss rs) ≠ 0) :
    Pure Try.prog 153 #[.agg #[.int .i64 p, .int .i64 m, .slice A mod.length c], .agg #[.int .i64 w, .slice Aa n ca]] [ro A (ints mod), ro Aa (hdrs rs), rowsR rs] (isV (.int .i64 (rowsC (pw p m) w (xss rs)))) := by
  refine pure_of (args := [.agg #[.int .i64 p, .int .i64 m, .slice A mod.length c], .agg #[.int .i64 w, .slice Aa n ca]]) 14 Try.func153 rfl rfl rfl spc_CheckE_ent ⟨id, id, id, trivial⟩ (fun w0 => ?_)
  refine tr_seq ?_
  refine tr_region fun _ _ _ => ?_
  refine ef rfl rfl (eBox rfl rfl rfl rfl rfl (fun p0 => ?_)) 
  refine ef rfl rfl (eBox rfl rfl rfl rfl rfl (fun p0a => ?_)) 
  refine pu rfl rfl rfl rfl rfl ?_
  refine tr_seq ?_
  refine tr_region fun _ _ _ => ?_
  refine st rfl rfl rfl rfl (rLdS rfl rfl rfl) ?_
  refine st rfl rfl rfl rfl (rLdS rfl rfl rfl) ?_
  refine ef rfl rfl (eCallV rfl rfl rfl (spc_openE _ _ _ _ _ hl9 w Aa _ ca rs hn h9 h8 hE) ⟨rfl, rfl, trivial⟩ ?_) 
  iterate 3 refine pu rfl rfl rfl rfl rfl ?_
  refine ef rfl rfl (eAlloc rfl rfl rfl (fun p1a => ?_)) 
  refine ef rfl rfl (eStS rfl rfl rfl rfl rfl rfl ?_) 
  refine pu rfl rfl rfl rfl rfl ?_
  refine tr_seq ?_
  refine tr_region fun _ _ _ => ?_
  iterate 2 refine pu rfl rfl rfl rfl rfl ?_
  exact tr_ret ⟨trivial, _, _, rfl, ⟨rfl, rfl⟩, CSub.nil _, trivial⟩

theorem spc_CheckF_ent : Enters Try.prog 153 := enters_of Try.func153 (by kernel_rfl) (by kernel_rfl)
theorem spc_CheckF (p m : Int) (A : Option Addr) (c : Nat) (mod : List Int) (hl9 : mod.length ≤ 17592186044415) [hF : IsF p m mod] (w : Int) (Aa : Option Addr) (n ca : Nat) (rs : List RowM) (hn : n = rs.length) (h9 : rs.length ≤ 17592186044415) (h8 : ∀ r ∈ rs, r.xs.length ≤ 17592186044415) (hE : rowsC (pw p m) w (xss rs) = 0) (hf : ¬ formP p m mod w.toNat rs) :
    Pure Try.prog 153 #[.agg #[.int .i64 p, .int .i64 m, .slice A mod.length c], .agg #[.int .i64 w, .slice Aa n ca]] [ro A (ints mod), ro Aa (hdrs rs), rowsR rs] (isV (.int .i64 5)) := by
  refine pure_of (args := [.agg #[.int .i64 p, .int .i64 m, .slice A mod.length c], .agg #[.int .i64 w, .slice Aa n ca]]) 14 Try.func153 rfl rfl rfl spc_CheckF_ent ⟨id, id, id, trivial⟩ (fun w0 => ?_)
  refine tr_seq ?_
  refine tr_region fun _ _ _ => ?_
  refine ef rfl rfl (eBox rfl rfl rfl rfl rfl (fun p0 => ?_)) 
  refine ef rfl rfl (eBox rfl rfl rfl rfl rfl (fun p0a => ?_)) 
  refine pu rfl rfl rfl rfl rfl ?_
  refine tr_seq ?_
  refine tr_region fun _ _ _ => ?_
  refine st rfl rfl rfl rfl (rLdS rfl rfl rfl) ?_
  refine st rfl rfl rfl rfl (rLdS rfl rfl rfl) ?_
  refine ef rfl rfl (eCallV rfl rfl rfl (spc_openF _ _ _ _ _ hl9 w Aa _ ca rs hn h9 h8 hE hf) ⟨rfl, rfl, trivial⟩ ?_) 
  iterate 3 refine pu rfl rfl rfl rfl rfl ?_
  refine ef rfl rfl (eAlloc rfl rfl rfl (fun p1a => ?_)) 
  refine ef rfl rfl (eStS rfl rfl rfl rfl rfl rfl ?_) 
  refine pu rfl rfl rfl rfl rfl ?_
  refine tr_seq ?_
  refine tr_region fun _ _ _ => ?_
  iterate 2 refine pu rfl rfl rfl rfl rfl ?_
  exact tr_ret ⟨trivial, _, _, rfl, ⟨rfl, rfl⟩, CSub.nil _, trivial⟩

theorem spc_CheckG_ent : Enters Try.prog 153 := enters_of Try.func153 (by kernel_rfl) (by kernel_rfl)
theorem spc_CheckG (p m : Int) (A : Option Addr) (c : Nat) (mod : List Int) (hl9 : mod.length ≤ 17592186044415) [hF : IsF p m mod] (w : Int) (Aa : Option Addr) (n ca : Nat) (rs : List RowM) (hn : n = rs.length) (h9 : rs.length ≤ 17592186044415) (h8 : ∀ r ∈ rs, r.xs.length ≤ 17592186044415) (hE : rowsC (pw p m) w (xss rs) = 0) (hf : formP p m mod w.toNat rs) :
    Pure Try.prog 153 #[.agg #[.int .i64 p, .int .i64 m, .slice A mod.length c], .agg #[.int .i64 w, .slice Aa n ca]] [ro A (ints mod), ro Aa (hdrs rs), rowsR rs] (isV (.int .i64 0)) := by
  refine pure_of (args := [.agg #[.int .i64 p, .int .i64 m, .slice A mod.length c], .agg #[.int .i64 w, .slice Aa n ca]]) 14 Try.func153 rfl rfl rfl spc_CheckG_ent ⟨id, id, id, trivial⟩ (fun w0 => ?_)
  refine tr_seq ?_
  refine tr_region fun _ _ _ => ?_
  refine ef rfl rfl (eBox rfl rfl rfl rfl rfl (fun p0 => ?_)) 
  refine ef rfl rfl (eBox rfl rfl rfl rfl rfl (fun p0a => ?_)) 
  refine pu rfl rfl rfl rfl rfl ?_
  refine tr_seq ?_
  refine tr_region fun _ _ _ => ?_
  refine st rfl rfl rfl rfl (rLdS rfl rfl rfl) ?_
  refine st rfl rfl rfl rfl (rLdS rfl rfl rfl) ?_
  refine ef rfl rfl (eCall2 rfl rfl rfl (spc_openG _ _ _ _ _ hl9 w Aa _ ca rs hn h9 h8 hE hf) ⟨rfl, rfl, trivial⟩ ?_) 
  rintro _ _ _ ⟨g, Bp, cp, ps, rfl, rfl, rfl, hg, hq⟩
  iterate 3 refine pu rfl rfl rfl rfl rfl ?_
  refine ef rfl rfl (eAlloc rfl rfl rfl (fun p1a => ?_)) 
  refine ef rfl rfl (eStS rfl rfl rfl rfl rfl rfl ?_) 
  refine pu rfl rfl rfl rfl rfl ?_
  refine tr_seq ?_
  refine tr_region fun _ _ _ => ?_
  iterate 2 refine pu rfl rfl rfl rfl rfl ?_
  exact tr_ret ⟨trivial, _, _, rfl, ⟨rfl, rfl⟩, CSub.nil _, trivial⟩

theorem code_gen_ent : Enters Try.prog 154 := enters_of Try.func154 (by kernel_rfl) (by kernel_rfl)
theorem code_gen (p m : Int) (A : Option Addr) (k c : Nat) (w : Int) (Aa : Option Addr) (n ca : Nat) :
    Pure Try.prog 154 #[.agg #[.int .i64 p, .int .i64 m, .slice A k c, .int .i64 w, .slice Aa n ca]] [] (isV (.agg #[.int .i64 w, .slice Aa n ca])) := by
  refine pure_ofC (args := [.agg #[.int .i64 p, .int .i64 m, .slice A k c, .int .i64 w, .slice Aa n ca]]) 8 Try.func154 rfl rfl rfl code_gen_ent trivial (fun w0 => ?_)
  refine tr_seq ?_
  refine tr_region fun _ _ _ => ?_
  refine ef rfl rfl (eBox rfl rfl rfl rfl rfl (fun p0 => ?_)) 
  refine ef rfl rfl (eAlloc rfl rfl rfl (fun p0a => ?_)) 
  refine tr_seq ?_
  refine tr_region fun _ _ _ => ?_
  refine st rfl rfl rfl rfl (rFld rfl rfl) ?_
  refine st rfl rfl rfl rfl (rLdF rfl rfl rfl) ?_
  refine st rfl rfl rfl rfl (rFld rfl rfl) ?_
  refine st rfl rfl rfl rfl (rLdF rfl rfl rfl) ?_
  refine st rfl rfl rfl rfl (rBuild rfl rfl) ?_
  refine ef rfl rfl (eStS rfl rfl rfl rfl rfl rfl ?_) 
  exact tr_ret ⟨trivial, _, _, (.cell rfl (cellS rfl) .nil), ⟨rfl, rfl⟩, CSub.nil _, trivial⟩

theorem code_lengthNo (n : Int) (h : n < 1 ∨ n > 64) : Pure Try.prog 131 #[.int .i64 n] [] (isV (.int .i64 4)) := by
  have := code_length n
  rwa [if_pos h] at this

theorem code_CheckNo_ent : Enters Try.prog 106 := enters_of Try.func106 (by kernel_rfl) (by kernel_rfl)
theorem code_CheckNo (p m : Int) (A : Option Addr) (c : Nat) (mod : List Int) (hl9 : mod.length ≤ 17592186044415) (hF : ¬ FldR p m mod) (w : Int) (Aa : Option Addr) (n ca : Nat) (rs : List RowM) (hn : n = rs.length) (h9 : rs.length ≤ 17592186044415) (h8 : ∀ r ∈ rs, r.xs.length ≤ 17592186044415) :
    Pure Try.prog 106 #[.agg #[.int .i64 p, .int .i64 m, .slice A mod.length c, .int .i64 w, .slice Aa n ca]] [ro A (ints mod), ro Aa (hdrs rs), rowsR rs] (isV (.int .i64 1)) := by
  have hch := chkF_no hF
  refine pure_of (args := [.agg #[.int .i64 p, .int .i64 m, .slice A mod.length c, .int .i64 w, .slice Aa n ca]]) 19 Try.func106 rfl rfl rfl code_CheckNo_ent ⟨id, id, id, trivial⟩ (fun w0 => ?_)
  refine tr_seq ?_
  refine tr_region fun _ _ _ => ?_
  refine ef rfl rfl (eBox rfl rfl rfl rfl rfl (fun p0 => ?_)) 
  refine pu rfl rfl rfl rfl rfl ?_
  refine tr_seq ?_
  refine tr_seq ?_
  refine tr_region fun _ _ _ => ?_
  refine st rfl rfl rfl rfl (rFld rfl rfl) ?_
  refine st rfl rfl rfl rfl (rLdSF rfl rfl) ?_
  refine ef rfl rfl (eCallV rfl rfl rfl (fld_Check _ _ _ _ _ hl9) ⟨rfl, trivial⟩ ?_) 
  refine pu rfl rfl rfl rfl rfl ?_
  refine tr_cond_bool rfl (fun h1 => ?_) (fun h1 => ?_)
  · try simp only [zb1, zb2, zb3, zb4, zb5, zb6, zb7, zb8, zb9, zb10] at h1
    refine tr_seq ?_
    refine tr_region fun _ _ _ => ?_
    refine pu rfl rfl rfl rfl rfl ?_
    exact tr_ret ⟨trivial, _, _, rfl, ⟨rfl, rfl⟩, CSub.nil _, trivial⟩
  · try simp only [zb1, zb2, zb3, zb4, zb5, zb6, zb7, zb8, zb9, zb10] at h1
    omega --done

theorem code_CheckL_ent : Enters Try.prog 106 := enters_of Try.func106 (by kernel_rfl) (by kernel_rfl)
theorem code_CheckL (p m : Int) (A : Option Addr) (c : Nat) (mod : List Int) (hl9 : mod.length ≤ 17592186044415) [hF : IsF p m mod] (w : Int) (Aa : Option Addr) (n ca : Nat) (rs : List RowM) (hn : n = rs.length) (h9 : rs.length ≤ 17592186044415) (h8 : ∀ r ∈ rs, r.xs.length ≤ 17592186044415) (hb : w < 1 ∨ w > 64) :
    Pure Try.prog 106 #[.agg #[.int .i64 p, .int .i64 m, .slice A mod.length c, .int .i64 w, .slice Aa n ca]] [ro A (ints mod), ro Aa (hdrs rs), rowsR rs] (isV (.int .i64 4)) := by
  have hch := chkF_ok hF.out
  refine pure_of (args := [.agg #[.int .i64 p, .int .i64 m, .slice A mod.length c, .int .i64 w, .slice Aa n ca]]) 19 Try.func106 rfl rfl rfl code_CheckL_ent ⟨id, id, id, trivial⟩ (fun w0 => ?_)
  refine tr_seq ?_
  refine tr_region fun _ _ _ => ?_
  refine ef rfl rfl (eBox rfl rfl rfl rfl rfl (fun p0 => ?_)) 
  refine pu rfl rfl rfl rfl rfl ?_
  refine tr_seq ?_
  refine tr_seq ?_
  refine tr_region fun _ _ _ => ?_
  refine st rfl rfl rfl rfl (rFld rfl rfl) ?_
  refine st rfl rfl rfl rfl (rLdSF rfl rfl) ?_
  refine ef rfl rfl (eCallV rfl rfl rfl (fld_Check _ _ _ _ _ hl9) ⟨rfl, trivial⟩ ?_) 
  refine pu rfl rfl rfl rfl rfl ?_
  refine tr_cond_bool rfl (fun h1 => ?_) (fun h1 => ?_)
  · try simp only [zb1, zb2, zb3, zb4, zb5, zb6, zb7, zb8, zb9, zb10] at h1
    omega --done
  · try simp only [zb1, zb2, zb3, zb4, zb5, zb6, zb7, zb8, zb9, zb10] at h1
    refine tr_skip ?_
    refine tr_seq ?_
    refine tr_seq ?_
    refine tr_region fun _ _ _ => ?_
    refine st rfl rfl rfl rfl (rFld rfl rfl) ?_
    refine st rfl rfl rfl rfl (rLdF rfl rfl rfl) ?_
    refine ef rfl rfl (eCallV rfl rfl rfl (code_lengthNo w hb) ⟨rfl, trivial⟩ ?_) 
    refine pu rfl rfl rfl rfl rfl ?_
    refine tr_seq ?_
    refine tr_region fun _ _ _ => ?_
    iterate 2 refine pu rfl rfl rfl rfl rfl ?_
    refine tr_cond_bool rfl (fun h4 => ?_) (fun h4 => ?_)
    · try simp only [zb1, zb2, zb3, zb4, zb5, zb6, zb7, zb8, zb9, zb10] at h4
      refine tr_seq ?_
      refine tr_region fun _ _ _ => ?_
      iterate 2 refine pu rfl rfl rfl rfl rfl ?_
      exact tr_ret ⟨trivial, _, _, rfl, ⟨rfl, rfl⟩, CSub.nil _, trivial⟩
    · try simp only [zb1, zb2, zb3, zb4, zb5, zb6, zb7, zb8, zb9, zb10] at h4
      first | exact absurd trivial h4 | exact absurd rfl h4 | omega | (exact absurd h4 (by simp)) --done

theorem code_CheckE_ent : Enters Try.prog 106 := enters_of Try.func106 (by kernel_rfl) (by kernel_rfl)
theorem code_CheckE (p m : Int) (A : Option Addr) (c : Nat) (mod : List Int) (hl9 : mod.length ≤ 17592186044415) [hF : IsF p m mod] (w : Int) (Aa : Option Addr) (n ca : Nat) (rs : List RowM) (hn : n = rs.length) (h9 : rs.length ≤ 17592186044415) (h8 : ∀ r ∈ rs, r.xs.length ≤ 17592186044415) (hb : ¬ (w < 1 ∨ w > 64)) (hE : rowsC (pw p m) w (xss rs) ≠ 0) :
    Pure Try.prog 106 #[.agg #[.int .i64 p, .int .i64 m, .slice A mod.length c, .int .i64 w, .slice Aa n ca]] [ro A (ints mod), ro Aa (hdrs rs), rowsR rs] (isV (.int .i64 (rowsC (pw p m) w (xss rs)))) := by
  have hch := chkF_ok hF.out
  refine pure_of (args := [.agg #[.int .i64 p, .int .i64 m, .slice A mod.length c, .int .i64 w, .slice Aa n ca]]) 19 Try.func106 rfl rfl rfl code_CheckE_ent ⟨id, id, id, trivial⟩ (fun w0 => ?_)
  refine tr_seq ?_
  refine tr_region fun _ _ _ => ?_
  refine ef rfl rfl (eBox rfl rfl rfl rfl rfl (fun p0 => ?_)) 
  refine pu rfl rfl rfl rfl rfl ?_
  refine tr_seq ?_
  refine tr_seq ?_
  refine tr_region fun _ _ _ => ?_
  refine st rfl rfl rfl rfl (rFld rfl rfl) ?_
  refine st rfl rfl rfl rfl (rLdSF rfl rfl) ?_
  refine ef rfl rfl (eCallV rfl rfl rfl (fld_Check _ _ _ _ _ hl9) ⟨rfl, trivial⟩ ?_) 
  refine pu rfl rfl rfl rfl rfl ?_
  refine tr_cond_bool rfl (fun h1 => ?_) (fun h1 => ?_)
  · try simp only [zb1, zb2, zb3, zb4, zb5, zb6, zb7, zb8, zb9, zb10] at h1
    omega --done
  · try simp only [zb1, zb2, zb3, zb4, zb5, zb6, zb7, zb8, zb9, zb10] at h1
    refine tr_skip ?_
    refine tr_seq ?_
    refine tr_seq ?_
    refine tr_region fun _ _ _ => ?_
    refine st rfl rfl rfl rfl (rFld rfl rfl) ?_
    refine st rfl rfl rfl rfl (rLdF rfl rfl rfl) ?_
    refine ef rfl rfl (eCallV rfl rfl rfl (code_lengthOk w (by omega) (by omega)) ⟨rfl, trivial⟩ ?_) 
    refine pu rfl rfl rfl rfl rfl ?_
    refine tr_seq ?_
    refine tr_region fun _ _ _ => ?_
    iterate 2 refine pu rfl rfl rfl rfl rfl ?_
    refine tr_cond_bool rfl (fun h4 => ?_) (fun h4 => ?_)
    · try simp only [zb1, zb2, zb3, zb4, zb5, zb6, zb7, zb8, zb9, zb10] at h4
      first | exact absurd trivial h4 | exact absurd rfl h4 | omega | (exact absurd h4 (by simp)) --done
    · try simp only [zb1, zb2, zb3, zb4, zb5, zb6, zb7, zb8, zb9, zb10] at h4
      refine tr_skip ?_
      refine tr_seq ?_
      refine tr_draw [0, 1, 2, 3, 4, 5] [] mixed (by kernel_rfl) fun _ _ _ => ?_
      refine st rfl rfl rfl rfl (rFld rfl rfl) ?_
      refine st rfl rfl rfl rfl (rLdSF rfl rfl) ?_
      refine st rfl rfl rfl rfl (rLdS rfl rfl rfl) ?_
      refine ef rfl rfl (eCallV rfl rfl rfl (code_gen _ _ _ _ _ _ _ _ _) ⟨rfl, trivial⟩ ?_) 
      refine ef rfl rfl (eCallV rfl rfl rfl (spc_CheckE _ _ _ _ _ hl9 w Aa _ ca rs hn h9 h8 hE) ⟨rfl, rfl, trivial⟩ ?_) 
      refine pu rfl rfl rfl rfl rfl ?_
      exact tr_ret ⟨trivial, _, _, rfl, ⟨rfl, rfl⟩, CSub.nil _, trivial⟩

theorem code_CheckF_ent : Enters Try.prog 106 := enters_of Try.func106 (by kernel_rfl) (by kernel_rfl)
theorem code_CheckF (p m : Int) (A : Option Addr) (c : Nat) (mod : List Int) (hl9 : mod.length ≤ 17592186044415) [hF : IsF p m mod] (w : Int) (Aa : Option Addr) (n ca : Nat) (rs : List RowM) (hn : n = rs.length) (h9 : rs.length ≤ 17592186044415) (h8 : ∀ r ∈ rs, r.xs.length ≤ 17592186044415) (hb : ¬ (w < 1 ∨ w > 64)) (hE : rowsC (pw p m) w (xss rs) = 0) (hf : ¬ formP p m mod w.toNat rs) :
    Pure Try.prog 106 #[.agg #[.int .i64 p, .int .i64 m, .slice A mod.length c, .int .i64 w, .slice Aa n ca]] [ro A (ints mod), ro Aa (hdrs rs), rowsR rs] (isV (.int .i64 5)) := by
  have hch := chkF_ok hF.out
  refine pure_of (args := [.agg #[.int .i64 p, .int .i64 m, .slice A mod.length c, .int .i64 w, .slice Aa n ca]]) 19 Try.func106 rfl rfl rfl code_CheckF_ent ⟨id, id, id, trivial⟩ (fun w0 => ?_)
  refine tr_seq ?_
  refine tr_region fun _ _ _ => ?_
  refine ef rfl rfl (eBox rfl rfl rfl rfl rfl (fun p0 => ?_)) 
  refine pu rfl rfl rfl rfl rfl ?_
  refine tr_seq ?_
  refine tr_seq ?_
  refine tr_region fun _ _ _ => ?_
  refine st rfl rfl rfl rfl (rFld rfl rfl) ?_
  refine st rfl rfl rfl rfl (rLdSF rfl rfl) ?_
  refine ef rfl rfl (eCallV rfl rfl rfl (fld_Check _ _ _ _ _ hl9) ⟨rfl, trivial⟩ ?_) 
  refine pu rfl rfl rfl rfl rfl ?_
  refine tr_cond_bool rfl (fun h1 => ?_) (fun h1 => ?_)
  · try simp only [zb1, zb2, zb3, zb4, zb5, zb6, zb7, zb8, zb9, zb10] at h1
    omega --done
  · try simp only [zb1, zb2, zb3, zb4, zb5, zb6, zb7, zb8, zb9, zb10] at h1
    refine tr_skip ?_
    refine tr_seq ?_
    refine tr_seq ?_
    refine tr_region fun _ _ _ => ?_
    refine st rfl rfl rfl rfl (rFld rfl rfl) ?_
    refine st rfl rfl rfl rfl (rLdF rfl rfl rfl) ?_
    refine ef rfl rfl (eCallV rfl rfl rfl (code_lengthOk w (by omega) (by omega)) ⟨rfl, trivial⟩ ?_) 
    refine pu rfl rfl rfl rfl rfl ?_
    refine tr_seq ?_
    refine tr_region fun _ _ _ => ?_
    iterate 2 refine pu rfl rfl rfl rfl rfl ?_
    refine tr_cond_bool rfl (fun h4 => ?_) (fun h4 => ?_)
    · try simp only [zb1, zb2, zb3, zb4, zb5, zb6, zb7, zb8, zb9, zb10] at h4
      first | exact absurd trivial h4 | exact absurd rfl h4 | omega | (exact absurd h4 (by simp)) --done
    · try simp only [zb1, zb2, zb3, zb4, zb5, zb6, zb7, zb8, zb9, zb10] at h4
      refine tr_skip ?_
      refine tr_seq ?_
      refine tr_draw [0, 1, 2, 3, 4, 5] [] mixed (by kernel_rfl) fun _ _ _ => ?_
      refine st rfl rfl rfl rfl (rFld rfl rfl) ?_
      refine st rfl rfl rfl rfl (rLdSF rfl rfl) ?_
      refine st rfl rfl rfl rfl (rLdS rfl rfl rfl) ?_
      refine ef rfl rfl (eCallV rfl rfl rfl (code_gen _ _ _ _ _ _ _ _ _) ⟨rfl, trivial⟩ ?_) 
      refine ef rfl rfl (eCallV rfl rfl rfl (spc_CheckF _ _ _ _ _ hl9 w Aa _ ca rs hn h9 h8 hE hf) ⟨rfl, rfl, trivial⟩ ?_) 
      refine pu rfl rfl rfl rfl rfl ?_
      exact tr_ret ⟨trivial, _, _, rfl, ⟨rfl, rfl⟩, CSub.nil _, trivial⟩

theorem code_CheckG_ent : Enters Try.prog 106 := enters_of Try.func106 (by kernel_rfl) (by kernel_rfl)
theorem code_CheckG (p m : Int) (A : Option Addr) (c : Nat) (mod : List Int) (hl9 : mod.length ≤ 17592186044415) [hF : IsF p m mod] (w : Int) (Aa : Option Addr) (n ca : Nat) (rs : List RowM) (hn : n = rs.length) (h9 : rs.length ≤ 17592186044415) (h8 : ∀ r ∈ rs, r.xs.length ≤ 17592186044415) (hb : ¬ (w < 1 ∨ w > 64)) (hE : rowsC (pw p m) w (xss rs) = 0) (hf : formP p m mod w.toNat rs) :
    Pure Try.prog 106 #[.agg #[.int .i64 p, .int .i64 m, .slice A mod.length c, .int .i64 w, .slice Aa n ca]] [ro A (ints mod), ro Aa (hdrs rs), rowsR rs] (isV (.int .i64 0)) := by
  have hch := chkF_ok hF.out
  refine pure_of (args := [.agg #[.int .i64 p, .int .i64 m, .slice A mod.length c, .int .i64 w, .slice Aa n ca]]) 19 Try.func106 rfl rfl rfl code_CheckG_ent ⟨id, id, id, trivial⟩ (fun w0 => ?_)
  refine tr_seq ?_
  refine tr_region fun _ _ _ => ?_
  refine ef rfl rfl (eBox rfl rfl rfl rfl rfl (fun p0 => ?_)) 
  refine pu rfl rfl rfl rfl rfl ?_
  refine tr_seq ?_
  refine tr_seq ?_
  refine tr_region fun _ _ _ => ?_
  refine st rfl rfl rfl rfl (rFld rfl rfl) ?_
  refine st rfl rfl rfl rfl (rLdSF rfl rfl) ?_
  refine ef rfl rfl (eCallV rfl rfl rfl (fld_Check _ _ _ _ _ hl9) ⟨rfl, trivial⟩ ?_) 
  refine pu rfl rfl rfl rfl rfl ?_
  refine tr_cond_bool rfl (fun h1 => ?_) (fun h1 => ?_)
  · try simp only [zb1, zb2, zb3, zb4, zb5, zb6, zb7, zb8, zb9, zb10] at h1
    omega --done
  · try simp only [zb1, zb2, zb3, zb4, zb5, zb6, zb7, zb8, zb9, zb10] at h1
    refine tr_skip ?_
    refine tr_seq ?_
    refine tr_seq ?_
    refine tr_region fun _ _ _ => ?_
    refine st rfl rfl rfl rfl (rFld rfl rfl) ?_
    refine st rfl rfl rfl rfl (rLdF rfl rfl rfl) ?_
    refine ef rfl rfl (eCallV rfl rfl rfl (code_lengthOk w (by omega) (by omega)) ⟨rfl, trivial⟩ ?_) 
    refine pu rfl rfl rfl rfl rfl ?_
    refine tr_seq ?_
    refine tr_region fun _ _ _ => ?_
    iterate 2 refine pu rfl rfl rfl rfl rfl ?_
    refine tr_cond_bool rfl (fun h4 => ?_) (fun h4 => ?_)
    · try simp only [zb1, zb2, zb3, zb4, zb5, zb6, zb7, zb8, zb9, zb10] at h4
      first | exact absurd trivial h4 | exact absurd rfl h4 | omega | (exact absurd h4 (by simp)) --done
    · try simp only [zb1, zb2, zb3, zb4, zb5, zb6, zb7, zb8, zb9, zb10] at h4
      refine tr_skip ?_
      refine tr_seq ?_
      refine tr_draw [0, 1, 2, 3, 4, 5] [] mixed (by kernel_rfl) fun _ _ _ => ?_
      refine st rfl rfl rfl rfl (rFld rfl rfl) ?_
      refine st rfl rfl rfl rfl (rLdSF rfl rfl) ?_
      refine st rfl rfl rfl rfl (rLdS rfl rfl rfl) ?_
      refine ef rfl rfl (eCallV rfl rfl rfl (code_gen _ _ _ _ _ _ _ _ _) ⟨rfl, trivial⟩ ?_) 
      refine ef rfl rfl (eCallV rfl rfl rfl (spc_CheckG _ _ _ _ _ hl9 w Aa _ ca rs hn h9 h8 hE hf) ⟨rfl, rfl, trivial⟩ ?_) 
      refine pu rfl rfl rfl rfl rfl ?_
      exact tr_ret ⟨trivial, _, _, rfl, ⟨rfl, rfl⟩, CSub.nil _, trivial⟩

theorem code_Check (p m : Int) (A : Option Addr) (c : Nat) (mod : List Int) (hl9 : mod.length ≤ 17592186044415) (w : Int) (Aa : Option Addr) (n ca : Nat) (rs : List RowM) (hn : n = rs.length) (h9 : rs.length ≤ 17592186044415) (h8 : ∀ r ∈ rs, r.xs.length ≤ 17592186044415) : Pure Try.prog 106 #[.agg #[.int .i64 p, .int .i64 m, .slice A mod.length c, .int .i64 w, .slice Aa n ca]] [ro A (ints mod), ro Aa (hdrs rs), rowsR rs] (isV (.int .i64 (codC p m mod w rs))) := by
  by_cases hF : FldR p m mod
  · haveI : IsF p m mod := ⟨hF⟩
    by_cases hb : w < 1 ∨ w > 64
    · rw [codC_ln hb]; exact code_CheckL p m A c mod hl9 w Aa n ca rs hn h9 h8 hb
    · by_cases hE : rowsC (pw p m) w (xss rs) = 0
      · by_cases hf : formP p m mod w.toNat rs
        · rw [codC_ok hb hE hf]; exact code_CheckG p m A c mod hl9 w Aa n ca rs hn h9 h8 hb hE hf
        · rw [codC_fm hb hE hf]; exact code_CheckF p m A c mod hl9 w Aa n ca rs hn h9 h8 hb hE hf
      · rw [codC_rw hb hE]; exact code_CheckE p m A c mod hl9 w Aa n ca rs hn h9 h8 hb hE
  · rw [codC_no w rs hF]; exact code_CheckNo p m A c mod hl9 hF w Aa n ca rs hn h9 h8

theorem ref_SCheckE_ent : Enters Try.prog 105 := enters_of Try.func105 (by kernel_rfl) (by kernel_rfl)
theorem ref_SCheckE (p m : Int) (A : Option Addr) (c : Nat) (mod : List Int) (hl9 : mod.length ≤ 17592186044415) [hF : IsF p m mod] (w : Int) (Aa : Option Addr) (n ca : Nat) (rs : List RowM) (hn : n = rs.length) (h9 : rs.length ≤ 17592186044415) (h8 : ∀ r ∈ rs, r.xs.length ≤ 17592186044415) (hE : rowsC (pw p m) w (xss rs) ≠ 0) :
    Pure Try.prog 105 #[.agg #[.int .i64 p, .int .i64 m, .slice A mod.length c], .agg #[.int .i64 w, .slice Aa n ca]] [ro A (ints mod), ro Aa (hdrs rs), rowsR rs] (isV (.int .i64 (rowsC (pw p m) w (xss rs)))) := by
  refine pure_of (args := [.agg #[.int .i64 p, .int .i64 m, .slice A mod.length c], .agg #[.int .i64 w, .slice Aa n ca]]) 28 Try.func105 rfl rfl rfl ref_SCheckE_ent ⟨id, id, id, trivial⟩ (fun w0 => ?_)
  refine tr_seq ?_
  refine tr_region fun _ _ _ => ?_
  refine ef rfl rfl (eBox rfl rfl rfl rfl rfl (fun p0 => ?_)) 
  refine ef rfl rfl (eBox rfl rfl rfl rfl rfl (fun p0a => ?_)) 
  refine pu rfl rfl rfl rfl rfl ?_
  refine tr_seq ?_
  refine tr_region fun _ _ _ => ?_
  refine st rfl rfl rfl rfl (rLdS rfl rfl rfl) ?_
  refine st rfl rfl rfl rfl (rLdS rfl rfl rfl) ?_
  refine ef rfl rfl (eCallV rfl rfl rfl (ref_RCheckOk _ _ _ _ _ hl9 hF.out (pw p m) hF.ord w Aa _ ca rs hn h9 h8) ⟨rfl, rfl, trivial⟩ ?_) 
  refine pu rfl rfl rfl rfl rfl ?_
  refine tr_seq ?_
  refine tr_seq ?_
  refine tr_region fun _ _ _ => ?_
  iterate 2 refine pu rfl rfl rfl rfl rfl ?_
  refine tr_cond_bool rfl (fun h2 => ?_) (fun h2 => ?_)
  · try simp only [zb1, zb2, zb3, zb4, zb5, zb6, zb7, zb8, zb9, zb10] at h2
    refine tr_seq ?_
    refine tr_region fun _ _ _ => ?_
    iterate 2 refine pu rfl rfl rfl rfl rfl ?_
    exact tr_ret ⟨trivial, _, _, rfl, ⟨rfl, rfl⟩, CSub.nil _, trivial⟩
  · try simp only [zb1, zb2, zb3, zb4, zb5, zb6, zb7, zb8, zb9, zb10] at h2
    omega --done

theorem ref_SCheckF_ent : Enters Try.prog 105 := enters_of Try.func105 (by kernel_rfl) (by kernel_rfl)
theorem ref_SCheckF (p m : Int) (A : Option Addr) (c : Nat) (mod : List Int) (hl9 : mod.length ≤ 17592186044415) [hF : IsF p m mod] (w : Int) (Aa : Option Addr) (n ca : Nat) (rs : List RowM) (hn : n = rs.length) (h9 : rs.length ≤ 17592186044415) (h8 : ∀ r ∈ rs, r.xs.length ≤ 17592186044415) (hE : rowsC (pw p m) w (xss rs) = 0) (hf : ¬ formP p m mod w.toNat rs) :
    Pure Try.prog 105 #[.agg #[.int .i64 p, .int .i64 m, .slice A mod.length c], .agg #[.int .i64 w, .slice Aa n ca]] [ro A (ints mod), ro Aa (hdrs rs), rowsR rs] (isV (.int .i64 5)) := by
  obtain ⟨hgd, hw0, hw9, hr9⟩ := rowsC_Gd (p := p) (m := m) hE
  refine pure_of (args := [.agg #[.int .i64 p, .int .i64 m, .slice A mod.length c], .agg #[.int .i64 w, .slice Aa n ca]]) 28 Try.func105 rfl rfl rfl ref_SCheckF_ent ⟨id, id, id, trivial⟩ (fun w0 => ?_)
  refine tr_seq ?_
  refine tr_region fun _ _ _ => ?_
  refine ef rfl rfl (eBox rfl rfl rfl rfl rfl (fun p0 => ?_)) 
  refine ef rfl rfl (eBox rfl rfl rfl rfl rfl (fun p0a => ?_)) 
  refine pu rfl rfl rfl rfl rfl ?_
  refine tr_seq ?_
  refine tr_region fun _ _ _ => ?_
  refine st rfl rfl rfl rfl (rLdS rfl rfl rfl) ?_
  refine st rfl rfl rfl rfl (rLdS rfl rfl rfl) ?_
  refine ef rfl rfl (eCallV rfl rfl rfl (ref_RCheckOk _ _ _ _ _ hl9 hF.out (pw p m) hF.ord w Aa _ ca rs hn h9 h8) ⟨rfl, rfl, trivial⟩ ?_) 
  refine pu rfl rfl rfl rfl rfl ?_
  refine tr_seq ?_
  refine tr_seq ?_
  refine tr_region fun _ _ _ => ?_
  iterate 2 refine pu rfl rfl rfl rfl rfl ?_
  refine tr_cond_bool rfl (fun h2 => ?_) (fun h2 => ?_)
  · try simp only [zb1, zb2, zb3, zb4, zb5, zb6, zb7, zb8, zb9, zb10] at h2
    omega --done
  · try simp only [zb1, zb2, zb3, zb4, zb5, zb6, zb7, zb8, zb9, zb10] at h2
    refine tr_skip ?_
    refine tr_seq ?_
    refine tr_region fun _ _ _ => ?_
    refine st rfl rfl rfl rfl (rLdS rfl rfl rfl) ?_
    refine st rfl rfl rfl rfl (rFld rfl rfl) ?_
    refine st rfl rfl rfl rfl (rLdF rfl rfl rfl) ?_
    refine st rfl rfl rfl rfl (rFld rfl rfl) ?_
    refine st rfl rfl rfl rfl (rLdF rfl rfl rfl) ?_
    refine ef rfl rfl (eCall3 rfl rfl rfl (ref_RCanon _ _ _ _ _ w hw0 (by omega) Aa _ ca rs hn (by omega) hgd) ⟨rfl, rfl, rfl, trivial⟩ ?_) 
    rintro _ _ _ _ ⟨r3, B, cg, Bp, cp, ps, rfl, rfl, rfl, rfl, hR, hk⟩
    iterate 5 refine pu rfl rfl rfl rfl rfl ?_
    refine tr_seq ?_
    refine tr_seq ?_
    refine tr_region fun _ _ _ => ?_
    refine pu rfl rfl rfl rfl rfl ?_
    refine st rfl rfl rfl rfl (rFld rfl rfl) ?_
    refine st rfl rfl rfl rfl (rLdF rfl rfl rfl) ?_
    refine ef rfl rfl (eCallV rfl rfl rfl (ref_SameRows _ _ _ r3 rfl _ _ _ rs hn (by omega) (hR.good.h8 (by omega))) ⟨rfl, rfl, trivial⟩ ?_) 
    refine st rfl rfl rfl rfl (rNotB rfl rfl) ?_
    refine tr_cond_bool rfl (fun h5 => ?_) (fun h5 => ?_)
    · try simp only [zb1, zb2, zb3, zb4, zb5, zb6, zb7, zb8, zb9, zb10] at h5
      refine tr_seq ?_
      refine tr_region fun _ _ _ => ?_
      refine pu rfl rfl rfl rfl rfl ?_
      exact tr_ret ⟨trivial, _, _, rfl, ⟨rfl, rfl⟩, CSub.nil _, trivial⟩
    · try simp only [zb1, zb2, zb3, zb4, zb5, zb6, zb7, zb8, zb9, zb10] at h5
      exact absurd ((hR.form_iff hgd).1 (by simpa [xss] using h5)) hf --done

theorem ref_SCheckG_ent : Enters Try.prog 105 := enters_of Try.func105 (by kernel_rfl) (by kernel_rfl)
theorem ref_SCheckG (p m : Int) (A : Option Addr) (c : Nat) (mod : List Int) (hl9 : mod.length ≤ 17592186044415) [hF : IsF p m mod] (w : Int) (Aa : Option Addr) (n ca : Nat) (rs : List RowM) (hn : n = rs.length) (h9 : rs.length ≤ 17592186044415) (h8 : ∀ r ∈ rs, r.xs.length ≤ 17592186044415) (hE : rowsC (pw p m) w (xss rs) = 0) (hf : formP p m mod w.toNat rs) :
    Pure Try.prog 105 #[.agg #[.int .i64 p, .int .i64 m, .slice A mod.length c], .agg #[.int .i64 w, .slice Aa n ca]] [ro A (ints mod), ro Aa (hdrs rs), rowsR rs] (isV (.int .i64 0)) := by
  obtain ⟨hgd, hw0, hw9, hr9⟩ := rowsC_Gd (p := p) (m := m) hE
  refine pure_of (args := [.agg #[.int .i64 p, .int .i64 m, .slice A mod.length c], .agg #[.int .i64 w, .slice Aa n ca]]) 28 Try.func105 rfl rfl rfl ref_SCheckG_ent ⟨id, id, id, trivial⟩ (fun w0 => ?_)
  refine tr_seq ?_
  refine tr_region fun _ _ _ => ?_
  refine ef rfl rfl (eBox rfl rfl rfl rfl rfl (fun p0 => ?_)) 
  refine ef rfl rfl (eBox rfl rfl rfl rfl rfl (fun p0a => ?_)) 
  refine pu rfl rfl rfl rfl rfl ?_
  refine tr_seq ?_
  refine tr_region fun _ _ _ => ?_
  refine st rfl rfl rfl rfl (rLdS rfl rfl rfl) ?_
  refine st rfl rfl rfl rfl (rLdS rfl rfl rfl) ?_
  refine ef rfl rfl (eCallV rfl rfl rfl (ref_RCheckOk _ _ _ _ _ hl9 hF.out (pw p m) hF.ord w Aa _ ca rs hn h9 h8) ⟨rfl, rfl, trivial⟩ ?_) 
  refine pu rfl rfl rfl rfl rfl ?_
  refine tr_seq ?_
  refine tr_seq ?_
  refine tr_region fun _ _ _ => ?_
  iterate 2 refine pu rfl rfl rfl rfl rfl ?_
  refine tr_cond_bool rfl (fun h2 => ?_) (fun h2 => ?_)
  · try simp only [zb1, zb2, zb3, zb4, zb5, zb6, zb7, zb8, zb9, zb10] at h2
    omega --done
  · try simp only [zb1, zb2, zb3, zb4, zb5, zb6, zb7, zb8, zb9, zb10] at h2
    refine tr_skip ?_
    refine tr_seq ?_
    refine tr_region fun _ _ _ => ?_
    refine st rfl rfl rfl rfl (rLdS rfl rfl rfl) ?_
    refine st rfl rfl rfl rfl (rFld rfl rfl) ?_
    refine st rfl rfl rfl rfl (rLdF rfl rfl rfl) ?_
    refine st rfl rfl rfl rfl (rFld rfl rfl) ?_
    refine st rfl rfl rfl rfl (rLdF rfl rfl rfl) ?_
    refine ef rfl rfl (eCall3 rfl rfl rfl (ref_RCanon _ _ _ _ _ w hw0 (by omega) Aa _ ca rs hn (by omega) hgd) ⟨rfl, rfl, rfl, trivial⟩ ?_) 
    rintro _ _ _ _ ⟨r3, B, cg, Bp, cp, ps, rfl, rfl, rfl, rfl, hR, hk⟩
    iterate 5 refine pu rfl rfl rfl rfl rfl ?_
    refine tr_seq ?_
    refine tr_seq ?_
    refine tr_region fun _ _ _ => ?_
    refine pu rfl rfl rfl rfl rfl ?_
    refine st rfl rfl rfl rfl (rFld rfl rfl) ?_
    refine st rfl rfl rfl rfl (rLdF rfl rfl rfl) ?_
    refine ef rfl rfl (eCallV rfl rfl rfl (ref_SameRows _ _ _ r3 rfl _ _ _ rs hn (by omega) (hR.good.h8 (by omega))) ⟨rfl, rfl, trivial⟩ ?_) 
    refine st rfl rfl rfl rfl (rNotB rfl rfl) ?_
    refine tr_cond_bool rfl (fun h5 => ?_) (fun h5 => ?_)
    · try simp only [zb1, zb2, zb3, zb4, zb5, zb6, zb7, zb8, zb9, zb10] at h5
      exact absurd ((hR.form_iff hgd).2 hf) (by simpa [xss] using h5) --done
    · try simp only [zb1, zb2, zb3, zb4, zb5, zb6, zb7, zb8, zb9, zb10] at h5
      refine tr_skip ?_
      refine tr_seq ?_
      refine tr_region fun _ _ _ => ?_
      refine pu rfl rfl rfl rfl rfl ?_
      exact tr_ret ⟨trivial, _, _, rfl, ⟨rfl, rfl⟩, CSub.nil _, trivial⟩

theorem ref_CCheckNo_ent : Enters Try.prog 50 := enters_of Try.func50 (by kernel_rfl) (by kernel_rfl)
theorem ref_CCheckNo (p m : Int) (A : Option Addr) (c : Nat) (mod : List Int) (hl9 : mod.length ≤ 17592186044415) (hF : ¬ FldR p m mod) (w : Int) (Aa : Option Addr) (n ca : Nat) (rs : List RowM) (hn : n = rs.length) (h9 : rs.length ≤ 17592186044415) (h8 : ∀ r ∈ rs, r.xs.length ≤ 17592186044415) :
    Pure Try.prog 50 #[.agg #[.int .i64 p, .int .i64 m, .slice A mod.length c, .int .i64 w, .slice Aa n ca]] [ro A (ints mod), ro Aa (hdrs rs), rowsR rs] (isV (.int .i64 1)) := by
  have hch := chkF_no hF
  refine pure_of (args := [.agg #[.int .i64 p, .int .i64 m, .slice A mod.length c, .int .i64 w, .slice Aa n ca]]) 26 Try.func50 rfl rfl rfl ref_CCheckNo_ent ⟨id, id, id, trivial⟩ (fun w0 => ?_)
  refine tr_seq ?_
  refine tr_region fun _ _ _ => ?_
  refine ef rfl rfl (eBox rfl rfl rfl rfl rfl (fun p0 => ?_)) 
  refine pu rfl rfl rfl rfl rfl ?_
  refine tr_seq ?_
  refine tr_region fun _ _ _ => ?_
  refine st rfl rfl rfl rfl (rFld rfl rfl) ?_
  refine st rfl rfl rfl rfl (rLdSF rfl rfl) ?_
  refine ef rfl rfl (eCallV rfl rfl rfl (ref_fldCheck _ _ _ _ _ hl9) ⟨rfl, trivial⟩ ?_) 
  refine pu rfl rfl rfl rfl rfl ?_
  refine tr_seq ?_
  refine tr_seq ?_
  refine tr_region fun _ _ _ => ?_
  iterate 2 refine pu rfl rfl rfl rfl rfl ?_
  refine tr_cond_bool rfl (fun h2 => ?_) (fun h2 => ?_)
  · try simp only [zb1, zb2, zb3, zb4, zb5, zb6, zb7, zb8, zb9, zb10] at h2
    refine tr_seq ?_
    refine tr_region fun _ _ _ => ?_
    iterate 2 refine pu rfl rfl rfl rfl rfl ?_
    exact tr_ret ⟨trivial, _, _, rfl, ⟨by rw [hch], rfl⟩, CSub.nil _, trivial⟩
  · try simp only [zb1, zb2, zb3, zb4, zb5, zb6, zb7, zb8, zb9, zb10] at h2
    omega --done

theorem ref_CCheckL_ent : Enters Try.prog 50 := enters_of Try.func50 (by kernel_rfl) (by kernel_rfl)
theorem ref_CCheckL (p m : Int) (A : Option Addr) (c : Nat) (mod : List Int) (hl9 : mod.length ≤ 17592186044415) [hF : IsF p m mod] (w : Int) (Aa : Option Addr) (n ca : Nat) (rs : List RowM) (hn : n = rs.length) (h9 : rs.length ≤ 17592186044415) (h8 : ∀ r ∈ rs, r.xs.length ≤ 17592186044415) (hb : w < 1 ∨ w > 64) :
    Pure Try.prog 50 #[.agg #[.int .i64 p, .int .i64 m, .slice A mod.length c, .int .i64 w, .slice Aa n ca]] [ro A (ints mod), ro Aa (hdrs rs), rowsR rs] (isV (.int .i64 4)) := by
  have hch := chkF_ok hF.out
  refine pure_of (args := [.agg #[.int .i64 p, .int .i64 m, .slice A mod.length c, .int .i64 w, .slice Aa n ca]]) 26 Try.func50 rfl rfl rfl ref_CCheckL_ent ⟨id, id, id, trivial⟩ (fun w0 => ?_)
  refine tr_seq ?_
  refine tr_region fun _ _ _ => ?_
  refine ef rfl rfl (eBox rfl rfl rfl rfl rfl (fun p0 => ?_)) 
  refine pu rfl rfl rfl rfl rfl ?_
  refine tr_seq ?_
  refine tr_region fun _ _ _ => ?_
  refine st rfl rfl rfl rfl (rFld rfl rfl) ?_
  refine st rfl rfl rfl rfl (rLdSF rfl rfl) ?_
  refine ef rfl rfl (eCallV rfl rfl rfl (ref_fldCheck _ _ _ _ _ hl9) ⟨rfl, trivial⟩ ?_) 
  refine pu rfl rfl rfl rfl rfl ?_
  refine tr_seq ?_
  refine tr_seq ?_
  refine tr_region fun _ _ _ => ?_
  iterate 2 refine pu rfl rfl rfl rfl rfl ?_
  refine tr_cond_bool rfl (fun h2 => ?_) (fun h2 => ?_)
  · try simp only [zb1, zb2, zb3, zb4, zb5, zb6, zb7, zb8, zb9, zb10] at h2
    omega --done
  · try simp only [zb1, zb2, zb3, zb4, zb5, zb6, zb7, zb8, zb9, zb10] at h2
    refine tr_skip ?_
    refine tr_seq ?_
    refine tr_seq ?_
    refine tr_region fun _ _ _ => ?_
    refine st rfl rfl rfl rfl (rFld rfl rfl) ?_
    refine st rfl rfl rfl rfl (rLdF rfl rfl rfl) ?_
    iterate 2 refine pu rfl rfl rfl rfl rfl ?_
    refine stg rfl rfl rfl rfl rfl (fun hb => by (have hq := hb; try simp only [zb1, zb2, zb3, zb4, zb5, zb6, zb7, zb8, zb9, zb10] at hq); exact rFld rfl rfl) ?_
    refine stg rfl rfl rfl rfl rfl (fun hb => by (have hq := hb; try simp only [zb1, zb2, zb3, zb4, zb5, zb6, zb7, zb8, zb9, zb10] at hq); exact rLdF rfl (evg rfl hb) rfl) ?_
    refine stg rfl rfl rfl rfl rfl (fun hb => by (have hq := hb; try simp only [zb1, zb2, zb3, zb4, zb5, zb6, zb7, zb8, zb9, zb10] at hq); exact rGtr rfl (evg rfl hb) rfl) ?_
    refine st rfl rfl rfl rfl (rOrB rfl rfl rfl rfl) ?_
    refine tr_cond_bool rfl (fun h4 => ?_) (fun h4 => ?_)
    · try simp only [zb1, zb2, zb3, zb4, zb5, zb6, zb7, zb8, zb9, zb10] at h4
      refine tr_seq ?_
      refine tr_region fun _ _ _ => ?_
      refine pu rfl rfl rfl rfl rfl ?_
      exact tr_ret ⟨trivial, _, _, rfl, ⟨rfl, rfl⟩, CSub.nil _, trivial⟩
    · try simp only [zb1, zb2, zb3, zb4, zb5, zb6, zb7, zb8, zb9, zb10] at h4
      omega --done

theorem ref_CCheckE_ent : Enters Try.prog 50 := enters_of Try.func50 (by kernel_rfl) (by kernel_rfl)
theorem ref_CCheckE (p m : Int) (A : Option Addr) (c : Nat) (mod : List Int) (hl9 : mod.length ≤ 17592186044415) [hF : IsF p m mod] (w : Int) (Aa : Option Addr) (n ca : Nat) (rs : List RowM) (hn : n = rs.length) (h9 : rs.length ≤ 17592186044415) (h8 : ∀ r ∈ rs, r.xs.length ≤ 17592186044415) (hb : ¬ (w < 1 ∨ w > 64)) (hE : rowsC (pw p m) w (xss rs) ≠ 0) :
    Pure Try.prog 50 #[.agg #[.int .i64 p, .int .i64 m, .slice A mod.length c, .int .i64 w, .slice Aa n ca]] [ro A (ints mod), ro Aa (hdrs rs), rowsR rs] (isV (.int .i64 (rowsC (pw p m) w (xss rs)))) := by
  have hch := chkF_ok hF.out
  refine pure_of (args := [.agg #[.int .i64 p, .int .i64 m, .slice A mod.length c, .int .i64 w, .slice Aa n ca]]) 26 Try.func50 rfl rfl rfl ref_CCheckE_ent ⟨id, id, id, trivial⟩ (fun w0 => ?_)
  refine tr_seq ?_
  refine tr_region fun _ _ _ => ?_
  refine ef rfl rfl (eBox rfl rfl rfl rfl rfl (fun p0 => ?_)) 
  refine pu rfl rfl rfl rfl rfl ?_
  refine tr_seq ?_
  refine tr_region fun _ _ _ => ?_
  refine st rfl rfl rfl rfl (rFld rfl rfl) ?_
  refine st rfl rfl rfl rfl (rLdSF rfl rfl) ?_
  refine ef rfl rfl (eCallV rfl rfl rfl (ref_fldCheck _ _ _ _ _ hl9) ⟨rfl, trivial⟩ ?_) 
  refine pu rfl rfl rfl rfl rfl ?_
  refine tr_seq ?_
  refine tr_seq ?_
  refine tr_region fun _ _ _ => ?_
  iterate 2 refine pu rfl rfl rfl rfl rfl ?_
  refine tr_cond_bool rfl (fun h2 => ?_) (fun h2 => ?_)
  · try simp only [zb1, zb2, zb3, zb4, zb5, zb6, zb7, zb8, zb9, zb10] at h2
    omega --done
  · try simp only [zb1, zb2, zb3, zb4, zb5, zb6, zb7, zb8, zb9, zb10] at h2
    refine tr_skip ?_
    refine tr_seq ?_
    refine tr_seq ?_
    refine tr_region fun _ _ _ => ?_
    refine st rfl rfl rfl rfl (rFld rfl rfl) ?_
    refine st rfl rfl rfl rfl (rLdF rfl rfl rfl) ?_
    iterate 2 refine pu rfl rfl rfl rfl rfl ?_
    refine stg rfl rfl rfl rfl rfl (fun hb => by (have hq := hb; try simp only [zb1, zb2, zb3, zb4, zb5, zb6, zb7, zb8, zb9, zb10] at hq); exact rFld rfl rfl) ?_
    refine stg rfl rfl rfl rfl rfl (fun hb => by (have hq := hb; try simp only [zb1, zb2, zb3, zb4, zb5, zb6, zb7, zb8, zb9, zb10] at hq); exact rLdF rfl (evg rfl hb) rfl) ?_
    refine stg rfl rfl rfl rfl rfl (fun hb => by (have hq := hb; try simp only [zb1, zb2, zb3, zb4, zb5, zb6, zb7, zb8, zb9, zb10] at hq); exact rGtr rfl (evg rfl hb) rfl) ?_
    refine st rfl rfl rfl rfl (rOrB rfl rfl rfl rfl) ?_
    refine tr_cond_bool rfl (fun h4 => ?_) (fun h4 => ?_)
    · try simp only [zb1, zb2, zb3, zb4, zb5, zb6, zb7, zb8, zb9, zb10] at h4
      omega --done
    · try simp only [zb1, zb2, zb3, zb4, zb5, zb6, zb7, zb8, zb9, zb10] at h4
      refine tr_skip ?_
      refine tr_seq ?_
      refine tr_region fun _ _ _ => ?_
      refine st rfl rfl rfl rfl (rFld rfl rfl) ?_
      refine st rfl rfl rfl rfl (rLdSF rfl rfl) ?_
      refine st rfl rfl rfl rfl (rFld rfl rfl) ?_
      refine st rfl rfl rfl rfl (rLdF rfl rfl rfl) ?_
      refine st rfl rfl rfl rfl (rFld rfl rfl) ?_
      refine st rfl rfl rfl rfl (rLdF rfl rfl rfl) ?_
      refine st rfl rfl rfl rfl (rBuild rfl rfl) ?_
      refine ef rfl rfl (eCallV rfl rfl rfl (ref_SCheckE _ _ _ _ _ hl9 w Aa _ ca rs hn h9 h8 hE) ⟨rfl, rfl, trivial⟩ ?_) 
      refine pu rfl rfl rfl rfl rfl ?_
      exact tr_ret ⟨trivial, _, _, rfl, ⟨rfl, rfl⟩, CSub.nil _, trivial⟩

theorem ref_CCheckF_ent : Enters Try.prog 50 := enters_of Try.func50 (by kernel_rfl) (by kernel_rfl)
theorem ref_CCheckF (p m : Int) (A : Option Addr) (c : Nat) (mod : List Int) (hl9 : mod.length ≤ 17592186044415) [hF : IsF p m mod] (w : Int) (Aa : Option Addr) (n ca : Nat) (rs : List RowM) (hn : n = rs.length) (h9 : rs.length ≤ 17592186044415) (h8 : ∀ r ∈ rs, r.xs.length ≤ 17592186044415) (hb : ¬ (w < 1 ∨ w > 64)) (hE : rowsC (pw p m) w (xss rs) = 0) (hf : ¬ formP p m mod w.toNat rs) :
    Pure Try.prog 50 #[.agg #[.int .i64 p, .int .i64 m, .slice A mod.length c, .int .i64 w, .slice Aa n ca]] [ro A (ints mod), ro Aa (hdrs rs), rowsR rs] (isV (.int .i64 5)) := by
  have hch := chkF_ok hF.out
  refine pure_of (args := [.agg #[.int .i64 p, .int .i64 m, .slice A mod.length c, .int .i64 w, .slice Aa n ca]]) 26 Try.func50 rfl rfl rfl ref_CCheckF_ent ⟨id, id, id, trivial⟩ (fun w0 => ?_)
  refine tr_seq ?_
  refine tr_region fun _ _ _ => ?_
  refine ef rfl rfl (eBox rfl rfl rfl rfl rfl (fun p0 => ?_)) 
  refine pu rfl rfl rfl rfl rfl ?_
  refine tr_seq ?_
  refine tr_region fun _ _ _ => ?_
  refine st rfl rfl rfl rfl (rFld rfl rfl) ?_
  refine st rfl rfl rfl rfl (rLdSF rfl rfl) ?_
  refine ef rfl rfl (eCallV rfl rfl rfl (ref_fldCheck _ _ _ _ _ hl9) ⟨rfl, trivial⟩ ?_) 
  refine pu rfl rfl rfl rfl rfl ?_
  refine tr_seq ?_
  refine tr_seq ?_
  refine tr_region fun _ _ _ => ?_
  iterate 2 refine pu rfl rfl rfl rfl rfl ?_
  refine tr_cond_bool rfl (fun h2 => ?_) (fun h2 => ?_)
  · try simp only [zb1, zb2, zb3, zb4, zb5, zb6, zb7, zb8, zb9, zb10] at h2
    omega --done
  · try simp only [zb1, zb2, zb3, zb4, zb5, zb6, zb7, zb8, zb9, zb10] at h2
    refine tr_skip ?_
    refine tr_seq ?_
    refine tr_seq ?_
    refine tr_region fun _ _ _ => ?_
    refine st rfl rfl rfl rfl (rFld rfl rfl) ?_
    refine st rfl rfl rfl rfl (rLdF rfl rfl rfl) ?_
    iterate 2 refine pu rfl rfl rfl rfl rfl ?_
    refine stg rfl rfl rfl rfl rfl (fun hb => by (have hq := hb; try simp only [zb1, zb2, zb3, zb4, zb5, zb6, zb7, zb8, zb9, zb10] at hq); exact rFld rfl rfl) ?_
    refine stg rfl rfl rfl rfl rfl (fun hb => by (have hq := hb; try simp only [zb1, zb2, zb3, zb4, zb5, zb6, zb7, zb8, zb9, zb10] at hq); exact rLdF rfl (evg rfl hb) rfl) ?_
    refine stg rfl rfl rfl rfl rfl (fun hb => by (have hq := hb; try simp only [zb1, zb2, zb3, zb4, zb5, zb6, zb7, zb8, zb9, zb10] at hq); exact rGtr rfl (evg rfl hb) rfl) ?_
    refine st rfl rfl rfl rfl (rOrB rfl rfl rfl rfl) ?_
    refine tr_cond_bool rfl (fun h4 => ?_) (fun h4 => ?_)
    · try simp only [zb1, zb2, zb3, zb4, zb5, zb6, zb7, zb8, zb9, zb10] at h4
      omega --done
    · try simp only [zb1, zb2, zb3, zb4, zb5, zb6, zb7, zb8, zb9, zb10] at h4
      refine tr_skip ?_
      refine tr_seq ?_
      refine tr_region fun _ _ _ => ?_
      refine st rfl rfl rfl rfl (rFld rfl rfl) ?_
      refine st rfl rfl rfl rfl (rLdSF rfl rfl) ?_
      refine st rfl rfl rfl rfl (rFld rfl rfl) ?_
      refine st rfl rfl rfl rfl (rLdF rfl rfl rfl) ?_
      refine st rfl rfl rfl rfl (rFld rfl rfl) ?_
      refine st rfl rfl rfl rfl (rLdF rfl rfl rfl) ?_
      refine st rfl rfl rfl rfl (rBuild rfl rfl) ?_
      refine ef rfl rfl (eCallV rfl rfl rfl (ref_SCheckF _ _ _ _ _ hl9 w Aa _ ca rs hn h9 h8 hE hf) ⟨rfl, rfl, trivial⟩ ?_) 
      refine pu rfl rfl rfl rfl rfl ?_
      exact tr_ret ⟨trivial, _, _, rfl, ⟨rfl, rfl⟩, CSub.nil _, trivial⟩

theorem ref_CCheckG_ent : Enters Try.prog 50 := enters_of Try.func50 (by kernel_rfl) (by kernel_rfl)
theorem ref_CCheckG (p m : Int) (A : Option Addr) (c : Nat) (mod : List Int) (hl9 : mod.length ≤ 17592186044415) [hF : IsF p m mod] (w : Int) (Aa : Option Addr) (n ca : Nat) (rs : List RowM) (hn : n = rs.length) (h9 : rs.length ≤ 17592186044415) (h8 : ∀ r ∈ rs, r.xs.length ≤ 17592186044415) (hb : ¬ (w < 1 ∨ w > 64)) (hE : rowsC (pw p m) w (xss rs) = 0) (hf : formP p m mod w.toNat rs) :
    Pure Try.prog 50 #[.agg #[.int .i64 p, .int .i64 m, .slice A mod.length c, .int .i64 w, .slice Aa n ca]] [ro A (ints mod), ro Aa (hdrs rs), rowsR rs] (isV (.int .i64 0)) := by
  have hch := chkF_ok hF.out
  refine pure_of (args := [.agg #[.int .i64 p, .int .i64 m, .slice A mod.length c, .int .i64 w, .slice Aa n ca]]) 26 Try.func50 rfl rfl rfl ref_CCheckG_ent ⟨id, id, id, trivial⟩ (fun w0 => ?_)
  refine tr_seq ?_
  refine tr_region fun _ _ _ => ?_
  refine ef rfl rfl (eBox rfl rfl rfl rfl rfl (fun p0 => ?_)) 
  refine pu rfl rfl rfl rfl rfl ?_
  refine tr_seq ?_
  refine tr_region fun _ _ _ => ?_
  refine st rfl rfl rfl rfl (rFld rfl rfl) ?_
  refine st rfl rfl rfl rfl (rLdSF rfl rfl) ?_
  refine ef rfl rfl (eCallV rfl rfl rfl (ref_fldCheck _ _ _ _ _ hl9) ⟨rfl, trivial⟩ ?_) 
  refine pu rfl rfl rfl rfl rfl ?_
  refine tr_seq ?_
  refine tr_seq ?_
  refine tr_region fun _ _ _ => ?_
  iterate 2 refine pu rfl rfl rfl rfl rfl ?_
  refine tr_cond_bool rfl (fun h2 => ?_) (fun h2 => ?_)
  · try simp only [zb1, zb2, zb3, zb4, zb5, zb6, zb7, zb8, zb9, zb10] at h2
    omega --done
  · try simp only [zb1, zb2, zb3, zb4, zb5, zb6, zb7, zb8, zb9, zb10] at h2
    refine tr_skip ?_
    refine tr_seq ?_
    refine tr_seq ?_
    refine tr_region fun _ _ _ => ?_
    refine st rfl rfl rfl rfl (rFld rfl rfl) ?_
    refine st rfl rfl rfl rfl (rLdF rfl rfl rfl) ?_
    iterate 2 refine pu rfl rfl rfl rfl rfl ?_
    refine stg rfl rfl rfl rfl rfl (fun hb => by (have hq := hb; try simp only [zb1, zb2, zb3, zb4, zb5, zb6, zb7, zb8, zb9, zb10] at hq); exact rFld rfl rfl) ?_
    refine stg rfl rfl rfl rfl rfl (fun hb => by (have hq := hb; try simp only [zb1, zb2, zb3, zb4, zb5, zb6, zb7, zb8, zb9, zb10] at hq); exact rLdF rfl (evg rfl hb) rfl) ?_
    refine stg rfl rfl rfl rfl rfl (fun hb => by (have hq := hb; try simp only [zb1, zb2, zb3, zb4, zb5, zb6, zb7, zb8, zb9, zb10] at hq); exact rGtr rfl (evg rfl hb) rfl) ?_
    refine st rfl rfl rfl rfl (rOrB rfl rfl rfl rfl) ?_
    refine tr_cond_bool rfl (fun h4 => ?_) (fun h4 => ?_)
    · try simp only [zb1, zb2, zb3, zb4, zb5, zb6, zb7, zb8, zb9, zb10] at h4
      omega --done
    · try simp only [zb1, zb2, zb3, zb4, zb5, zb6, zb7, zb8, zb9, zb10] at h4
      refine tr_skip ?_
      refine tr_seq ?_
      refine tr_region fun _ _ _ => ?_
      refine st rfl rfl rfl rfl (rFld rfl rfl) ?_
      refine st rfl rfl rfl rfl (rLdSF rfl rfl) ?_
      refine st rfl rfl rfl rfl (rFld rfl rfl) ?_
      refine st rfl rfl rfl rfl (rLdF rfl rfl rfl) ?_
      refine st rfl rfl rfl rfl (rFld rfl rfl) ?_
      refine st rfl rfl rfl rfl (rLdF rfl rfl rfl) ?_
      refine st rfl rfl rfl rfl (rBuild rfl rfl) ?_
      refine ef rfl rfl (eCallV rfl rfl rfl (ref_SCheckG _ _ _ _ _ hl9 w Aa _ ca rs hn h9 h8 hE hf) ⟨rfl, rfl, trivial⟩ ?_) 
      refine pu rfl rfl rfl rfl rfl ?_
      exact tr_ret ⟨trivial, _, _, rfl, ⟨rfl, rfl⟩, CSub.nil _, trivial⟩

theorem ref_CCheck (p m : Int) (A : Option Addr) (c : Nat) (mod : List Int) (hl9 : mod.length ≤ 17592186044415) (w : Int) (Aa : Option Addr) (n ca : Nat) (rs : List RowM) (hn : n = rs.length) (h9 : rs.length ≤ 17592186044415) (h8 : ∀ r ∈ rs, r.xs.length ≤ 17592186044415) : Pure Try.prog 50 #[.agg #[.int .i64 p, .int .i64 m, .slice A mod.length c, .int .i64 w, .slice Aa n ca]] [ro A (ints mod), ro Aa (hdrs rs), rowsR rs] (isV (.int .i64 (codC p m mod w rs))) := by
  by_cases hF : FldR p m mod
  · haveI : IsF p m mod := ⟨hF⟩
    by_cases hb : w < 1 ∨ w > 64
    · rw [codC_ln hb]; exact ref_CCheckL p m A c mod hl9 w Aa n ca rs hn h9 h8 hb
    · by_cases hE : rowsC (pw p m) w (xss rs) = 0
      · by_cases hf : formP p m mod w.toNat rs
        · rw [codC_ok hb hE hf]; exact ref_CCheckG p m A c mod hl9 w Aa n ca rs hn h9 h8 hb hE hf
        · rw [codC_fm hb hE hf]; exact ref_CCheckF p m A c mod hl9 w Aa n ca rs hn h9 h8 hb hE hf
      · rw [codC_rw hb hE]; exact ref_CCheckE p m A c mod hl9 w Aa n ca rs hn h9 h8 hb hE
  · rw [codC_no w rs hF]; exact ref_CCheckNo p m A c mod hl9 hF w Aa n ca rs hn h9 h8

end Go.Proofs.Ytjmojhflnjbgaaa

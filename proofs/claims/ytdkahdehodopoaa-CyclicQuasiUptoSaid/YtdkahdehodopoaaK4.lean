/-
  CYCLICQUASI, PART 4 OF 8. One sentence: the texts behind the law CyclicQuasi, put together.
  Conditions: each theorem's own, written out in it.
-/
import Derived.Test.YtdkahdehodopoaaK3
set_option linter.unusedSimpArgs false
set_option linter.unusedVariables false
set_option linter.unusedSectionVars false
set_option maxRecDepth 100000
namespace Go.Proofs.Ytdkahdehodopoaa
open Go.RowKit
noncomputable def entC (q : Int) (l : List Int) : Int := @ite _ (AllIn q l) (Classical.propDecidable _) 0 2
theorem entC_ok {q : Int} {l : List Int} (h : AllIn q l) : entC q l = 0 := by unfold entC; rw [if_pos h]
theorem entC_no {q : Int} {l : List Int} (h : ¬ AllIn q l) : entC q l = 2 := by unfold entC; rw [if_neg h]
theorem allIn_of_get {q : Int} {l : List Int} (h : ∀ j : Nat, j < l.length → 0 ≤ l.getD j 0 ∧ l.getD j 0 < q) : AllIn q l := fun z hz => by
 obtain ⟨j, hj, rfl⟩ := List.getElem_of_mem hz
 have := h j hj
 rw [List.getD_eq_getElem?_getD, List.getElem?_eq_getElem hj] at this
 exact this
theorem ref_Entries_ent : Enters Try.prog 23 := enters_of Try.func23 (by kernel_rfl) (by kernel_rfl)
theorem ref_Entries (p m : Int) (A : Option Addr) (c : Nat) (mod : List Int) (B : Option Addr) (n d : Nat) (l : List Int) (hn : n = l.length) (h9 : l.length ≤ 17592186044415) :
  Pure Try.prog 23 #[.agg #[.int .i64 p, .int .i64 m, .slice A mod.length c], .slice B n d] [ro A (ints mod), ro B (ints l)] (isV (.int .i64 (entC (ordI p m) l))) := by
 refine pure_of (args := [.agg #[.int .i64 p, .int .i64 m, .slice A mod.length c], .slice B n d]) 19 Try.func23 rfl rfl rfl ref_Entries_ent ⟨id, id, trivial⟩ (fun w0 => ?_)
 refine tS ?_
 refine tR fun _ _ _ => ?_
 refine eV (eBox rfl rfl rfl rfl rfl (fun p0 => ?_))
 refine pV ?_
 refine tS ?_
 refine tS ?_
 refine tR fun _ _ _ => ?_
 refine pV ?_
 refine tB ?_
 refine tr_loop1 (fun (k : Int) => [(1, .slice B n d), (2, .pointer (some p0)), (5, .int .i64 k)]) (fun (k : Int) => [blk p0 24 [.int .i64 p, .int .i64 m, .slice A mod.length c], ro A (ints mod), ro B (ints l)]) (fun (k : Int) => (0 ≤ k ∧ k ≤ n) ∧ ∀ j : Nat, (j : Int) < k → 0 ≤ l.getD j 0 ∧ l.getD j 0 < ordI p m) (fun (k : Int) => (n - k).toNat) (0) ⟨rfl, rfl, rfl, trivial⟩ (by first | exact cs _ _ | exact CSub.refl _) (⟨⟨by omega, by omega⟩, fun j hj => by omega⟩) (fun k hI => ?_)
 obtain ⟨⟨hk0, hk1⟩, hall⟩ := hI
 refine tS ?_
 refine tS ?_
 refine tR fun _ _ _ => ?_
 iterate 2 refine pV ?_
 refine sV (rLen rfl rfl) ?_
 refine pV ?_
 refine tC rfl (fun h2 => ?_) (fun h2 => ?_)
 ·try simp only [zbA] at h2
  refine tK ?_
  refine tS ?_
  refine tB ?_
  refine tS ?_
  refine tr_draw [0, 1, 2, 3, 4, 5, 6] [] mixed (by kernel_rfl) fun _ _ _ => ?_
  refine sV (rLdS rfl rfl rfl) ?_
  iterate 2 refine pV ?_
  refine sV (rIdxI rfl rfl rfl (by omega) (by omega) (by omega)) ?_
  refine sV (rLdI rfl rfl (by omega)) ?_
  refine eV (eCallV rfl rfl rfl (ref_Is _ _ _ _ _ _) ⟨rfl, rfl, trivial⟩ ?_)
  refine sV (rNotB rfl rfl) ?_
  refine tC rfl (fun h4 => ?_) (fun h4 => ?_)
  ·try simp only [zbA] at h4
   refine tS ?_
   refine tR fun _ _ _ => ?_
   refine pV ?_
   have hno : ¬ AllIn (ordI p m) l := fun h => by
    have hb := h (l.getD k.toNat 0) (getD_mem (by omega) _)
    omega
   exact tr_ret ⟨trivial, _, _, rfl, ⟨by rw [entC_no hno], rfl⟩, CSub.nil _, trivial⟩
  ·try simp only [zbA] at h4
   refine tK ?_
   refine tR fun _ _ _ => ?_
   refine pV ?_
   refine sV (rAdd rfl rfl rfl (by omega) (by omega)) ?_
   refine pV ?_
   refine ⟨k + 1, ⟨rfl, rfl, rfl, trivial⟩, by first | exact cs _ _ | exact CSub.refl _, ?_⟩
   refine ⟨⟨⟨by omega, by omega⟩, fun j hj => ?_⟩, by omega⟩
   by_cases he : (j : Int) = k
   ·have : j = k.toNat := by omega
    subst this; omega
   ·exact hall j (by omega)
 ·try simp only [zbA] at h2
  refine tE ?_
  refine tS ?_
  refine tR fun _ _ _ => ?_
  refine pV ?_
  have hok : AllIn (ordI p m) l := allIn_of_get fun j hj => hall j (by omega)
  exact tr_ret ⟨trivial, _, _, rfl, ⟨by rw [entC_ok hok], rfl⟩, CSub.nil _, trivial⟩
theorem ref_scale_ent : Enters Try.prog 108 := enters_of Try.func108 (by kernel_rfl) (by kernel_rfl)
theorem ref_scale (p m : Int) (A : Option Addr) (c : Nat) (mod : List Int) [hF : IsF p m mod] (x : Int) (B : Option Addr) (n d : Nat) (l : List Int) (hn : n = l.length) (h9 : l.length ≤ 1000000) :
  Pure Try.prog 108 #[.agg #[.int .i64 p, .int .i64 m, .slice A mod.length c], .int .i64 x, .slice B n d] [ro A (ints mod), ro B (ints l)] (one (fun v ch => ∃ C, v = .slice C n n ∧ ch = ow C 3 n (ints (sclR (el x : El p m mod) l)))) := by
 refine pure_of (args := [.agg #[.int .i64 p, .int .i64 m, .slice A mod.length c], .int .i64 x, .slice B n d]) 29 Try.func108 rfl rfl rfl ref_scale_ent ⟨id, id, trivial⟩ (fun w0 => ?_)
 refine tS ?_
 refine tR fun _ _ _ => ?_
 refine eV (eBox rfl rfl rfl rfl rfl (fun p0 => ?_))
 refine pV ?_
 refine tS ?_
 refine tR fun _ _ _ => ?_
 refine pV ?_
 refine sV (rLen rfl rfl) ?_
 refine eV (eMakeI rfl rfl rfl rfl rfl (by omega) (by omega) (by omega) (fun A1 => ?_))
 refine pV ?_
 simp only [Int.toNat_natCast]
 refine tS ?_
 refine tS ?_
 refine tR fun _ _ _ => ?_
 refine pV ?_
 refine tB ?_
 refine tr_loop2 (fun (k : Int) (o : List Int) => [(1, .int .i64 x), (2, .slice B n d), (3, .pointer (some p0)), (7, .slice A1 n n), (8, .int .i64 k)]) (fun (k : Int) (o : List Int) => [ow A1 3 n (ints o), blk p0 24 [.int .i64 p, .int .i64 m, .slice A mod.length c], ro A (ints mod), ro B (ints l)]) (fun (k : Int) (o : List Int) => (0 ≤ k ∧ k ≤ n) ∧ o.length = n ∧ ∀ j : Nat, (j : Int) < k → o.getD j 0 = (el x * el (l.getD j 0) : El p m mod).1) (fun (k : Int) (o : List Int) => (n - k).toNat) (0) (List.replicate n 0) ⟨rfl, rfl, rfl, rfl, rfl, trivial⟩ (by first | exact cs _ _ | exact CSub.refl _) (⟨⟨by omega, by omega⟩, by simp, fun j hj => by omega⟩) (fun k o hI => ?_)
 obtain ⟨⟨hk0, hk1⟩, hol, ho⟩ := hI
 refine tS ?_
 refine tS ?_
 refine tR fun _ _ _ => ?_
 iterate 2 refine pV ?_
 refine sV (rLen rfl rfl) ?_
 refine pV ?_
 refine tC rfl (fun h3 => ?_) (fun h3 => ?_)
 ·try simp only [zbA] at h3
  refine tK ?_
  refine tS ?_
  refine tB ?_
  refine tr_draw [0, 1, 2, 3, 4, 5, 6, 7, 8, 9] [10] mixed (by kernel_rfl) fun _ _ _ => ?_
  iterate 2 refine pV ?_
  refine sV (rLdS rfl rfl rfl) ?_
  iterate 3 refine pV ?_
  refine sV (rIdxI rfl rfl rfl (by omega) (by omega) (by omega)) ?_
  refine sV (rLdI rfl rfl (by omega)) ?_
  refine eV (eCallV rfl rfl rfl (ref_MulE _ _ _ _ _ _ _) ⟨rfl, rfl, rfl, trivial⟩ ?_)
  refine sV (rIdxI rfl rfl rfl (by omega) (by omega) (by omega)) ?_
  refine eV (eStI rfl rfl rfl rfl (by omega) ?_)
  refine tR fun _ _ _ => ?_
  refine pV ?_
  refine sV (rAdd rfl rfl rfl (by omega) (by omega)) ?_
  refine pV ?_
  refine ⟨k + 1, o.set k.toNat (el x * el (l.getD k.toNat 0) : El p m mod).1, ⟨rfl, rfl, rfl, rfl, rfl, trivial⟩, by first | exact cs _ _ | exact CSub.refl _, ?_⟩
  refine ⟨⟨⟨by omega, by omega⟩, by simpa using hol, fun j hj => ?_⟩, by omega⟩
  rw [getD_set]
  by_cases he : k.toNat = j
  ·subst he; rw [if_pos ⟨rfl, by omega⟩]
  ·rw [if_neg (fun e => he e.1)]; exact ho j (by omega)
 ·try simp only [zbA] at h3
  refine tE ?_
  refine tS ?_
  refine tR fun _ _ _ => ?_
  iterate 2 refine pV ?_
  have hfin : o = sclR (el x : El p m mod) l := by
   refine List.ext_getElem (by simp; omega) fun j h1 h2 => ?_
   have h3 := ho j (by omega)
   rw [List.getD_eq_getElem?_getD, List.getElem?_eq_getElem h1, List.getD_eq_getElem?_getD, List.getElem?_eq_getElem (show j < l.length by omega)] at h3
   simpa [sclR] using h3
  rw [← hfin]
  exact tr_ret ⟨trivial, _, _, rfl, ⟨_, rfl, _, rfl, rfl⟩, cs _ _, trivial, trivial⟩
theorem ref_AddTo_ent : Enters Try.prog 110 := enters_of Try.func110 (by kernel_rfl) (by kernel_rfl)
theorem ref_AddTo (p m : Int) (A : Option Addr) (c : Nat) (mod : List Int) [hF : IsF p m mod] (Aa : Option Addr) (na ca : Nat) (a : List Int) (hna : na = a.length) (ha9 : a.length ≤ 1000000) (x : Int) (B : Option Addr) (nb cb : Nat) (b : List Int) (hnb : nb = b.length) (hab : b.length = a.length) (hin : AllIn (pw p m) a) :
  Pure Try.prog 110 #[.agg #[.int .i64 p, .int .i64 m, .slice A mod.length c], .slice Aa na ca, .int .i64 x, .slice B nb cb] [ro A (ints mod), ro Aa (ints a), ro B (ints b)] (one (fun v ch => ∃ C, v = .slice C na na ∧ ch = ow C 3 na (ints (addR (el x : El p m mod) a b)))) := by
 refine pure_of (args := [.agg #[.int .i64 p, .int .i64 m, .slice A mod.length c], .slice Aa na ca, .int .i64 x, .slice B nb cb]) 49 Try.func110 rfl rfl rfl ref_AddTo_ent ⟨id, id, id, trivial⟩ (fun w0 => ?_)
 refine tS ?_
 refine tR fun _ _ _ => ?_
 refine eV (eBox rfl rfl rfl rfl rfl (fun p0 => ?_))
 refine pV ?_
 refine tS ?_
 refine tR fun _ _ _ => ?_
 refine pV ?_
 refine sV (rLen rfl rfl) ?_
 refine eV (eMakeI rfl rfl rfl rfl rfl (by omega) (by omega) (by omega) (fun A1 => ?_))
 refine pV ?_
 simp only [Int.toNat_natCast]
 refine tS ?_
 refine tS ?_
 refine tR fun _ _ _ => ?_
 refine pV ?_
 refine tB ?_
 refine tr_loop2 (fun (k : Int) (o : List Int) => [(1, .slice Aa na ca), (2, .int .i64 x), (3, .slice B nb cb), (4, .pointer (some p0)), (9, .slice A1 na na), (10, .int .i64 k)]) (fun (k : Int) (o : List Int) => [ow A1 3 na (ints o), blk p0 24 [.int .i64 p, .int .i64 m, .slice A mod.length c], ro A (ints mod), ro Aa (ints a), ro B (ints b)]) (fun (k : Int) (o : List Int) => (0 ≤ k ∧ k ≤ na) ∧ o.length = na ∧ ∀ j : Nat, (j : Int) < k → o.getD j 0 = (el (a.getD j 0) + el x * el (b.getD j 0) : El p m mod).1) (fun (k : Int) (o : List Int) => (na - k).toNat) (0) (List.replicate na 0) ⟨rfl, rfl, rfl, rfl, rfl, rfl, trivial⟩ (by first | exact cs _ _ | exact CSub.refl _) (⟨⟨by omega, by omega⟩, by simp, fun j hj => by omega⟩) (fun k o hI => ?_)
 obtain ⟨⟨hk0, hk1⟩, hol, ho⟩ := hI
 have hsl : (o.set k.toNat (a.getD k.toNat 0)).length = na := by simpa using hol
 refine tS ?_
 refine tS ?_
 refine tR fun _ _ _ => ?_
 iterate 2 refine pV ?_
 refine sV (rLen rfl rfl) ?_
 refine pV ?_
 refine tC rfl (fun h3 => ?_) (fun h3 => ?_)
 ·try simp only [zbA] at h3
  refine tK ?_
  refine tS ?_
  refine tB ?_
  refine tS ?_
  refine tR fun _ _ _ => ?_
  iterate 4 refine pV ?_
  refine sV (rIdxI rfl rfl rfl (by omega) (by omega) (by omega)) ?_
  refine sV (rLdI rfl rfl (by omega)) ?_
  refine sV (rIdxI rfl rfl rfl (by omega) (by omega) (by omega)) ?_
  refine eV (eStI rfl rfl rfl rfl (by omega) ?_)
  refine tS ?_
  refine tR fun _ _ _ => ?_
  iterate 2 refine pV ?_
  refine sV (rIdxI rfl rfl rfl (by omega) (by omega) (by omega)) ?_
  refine sV (rLdI rfl rfl (by omega)) ?_
  refine pV ?_
  refine tC rfl (fun h6 => ?_) (fun h6 => ?_)
  ·try simp only [zbA] at h6
   refine tr_draw [0, 1, 2, 3, 4, 5, 6, 7, 8, 9, 10, 11, 12, 13, 14, 15] [16] mixed (by kernel_rfl) fun _ _ _ => ?_
   iterate 2 refine pV ?_
   refine sV (rLdS rfl rfl rfl) ?_
   iterate 2 refine pV ?_
   refine sV (rIdxI rfl rfl rfl (by omega) (by omega) (by omega)) ?_
   refine sV (rLdI rfl rfl (by omega)) ?_
   refine sV (rLdS rfl rfl rfl) ?_
   iterate 3 refine pV ?_
   refine sV (rIdxI rfl rfl rfl (by omega) (by omega) (by omega)) ?_
   refine sV (rLdI rfl rfl (by omega)) ?_
   refine eV (eCallV rfl rfl rfl (ref_MulE _ _ _ _ _ _ _) ⟨rfl, rfl, rfl, trivial⟩ ?_)
   refine eV (eCallV rfl rfl rfl (ref_AddE _ _ _ _ _ _ _) ⟨rfl, rfl, rfl, trivial⟩ ?_)
   refine sV (rIdxI rfl rfl rfl (by omega) (by omega) (by omega)) ?_
   refine eV (eStI rfl rfl rfl rfl (by omega) ?_)
   refine tR fun _ _ _ => ?_
   refine pV ?_
   refine sV (rAdd rfl rfl rfl (by omega) (by omega)) ?_
   refine pV ?_
   refine ⟨k + 1, (o.set k.toNat (a.getD k.toNat 0)).set k.toNat (el (a.getD k.toNat 0) + el (el x * el (b.getD k.toNat 0) : El p m mod).1 : El p m mod).1, ⟨rfl, rfl, rfl, rfl, rfl, rfl, trivial⟩, by first | exact cs _ _ | exact CSub.refl _, ?_⟩
   refine ⟨⟨⟨by omega, by omega⟩, by simpa using hol, fun j hj => ?_⟩, by omega⟩
   rw [getD_set, getD_set]
   by_cases he : k.toNat = j
   ·subst he; rw [if_pos ⟨rfl, by omega⟩, el_of]
   ·rw [if_neg (fun e => he e.1), if_neg (fun e => he e.1)]; exact ho j (by omega)
  ·try simp only [zbA] at h6
   refine tK ?_
   refine tR fun _ _ _ => ?_
   refine pV ?_
   refine sV (rAdd rfl rfl rfl (by omega) (by omega)) ?_
   refine pV ?_
   refine ⟨k + 1, o.set k.toNat (a.getD k.toNat 0), ⟨rfl, rfl, rfl, rfl, rfl, rfl, trivial⟩, by first | exact cs _ _ | exact CSub.refl _, ?_⟩
   refine ⟨⟨⟨by omega, by omega⟩, by simpa using hol, fun j hj => ?_⟩, by omega⟩
   rw [getD_set]
   by_cases he : k.toNat = j
   ·subst he
    have hb := hin.get (by have := hF.q2; omega) k.toNat
    rw [if_pos ⟨rfl, by omega⟩, show b.getD k.toNat 0 = 0 by omega, el_zero, Rg.mul_zero, Rg.add_zero, el_in hb]
   ·rw [if_neg (fun e => he e.1)]; exact ho j (by omega)
 ·try simp only [zbA] at h3
  refine tE ?_
  refine tS ?_
  refine tR fun _ _ _ => ?_
  iterate 2 refine pV ?_
  have hfin : o = addR (el x : El p m mod) a b := ext_getD (by simp; omega) fun t => by
   by_cases ht : t < a.length
   ·rw [addR_get _ _ _ ht, ho t (by omega)]
   ·rw [getD_out (by omega), getD_out (by simp; omega)]
  rw [← hfin]
  exact tr_ret ⟨trivial, _, _, rfl, ⟨_, rfl, _, rfl, rfl⟩, cs _ _, trivial, trivial⟩
theorem ref_Copy_ent : Enters Try.prog 107 := enters_of Try.func107 (by kernel_rfl) (by kernel_rfl)
theorem ref_Copy (A : Option Addr) (n c : Nat) (rs : List RowM) (hn : n = rs.length) (h9 : rs.length ≤ 1000000) (h8 : ∀ r ∈ rs, r.xs.length ≤ 1000000) :
  Pure Try.prog 107 #[.slice A n c] [ro A (hdrs rs), rowsR rs] (two (fun v ca cb => ∃ B cap qs, v = .slice B qs.length cap ∧ ca = ow B 22 cap (hdrs qs) ∧ cb = rowsCh 3 qs ∧ qs.map (·.xs) = rs.map (·.xs))) := by
 refine pure_of (args := [.slice A n c]) 21 Try.func107 rfl rfl rfl ref_Copy_ent ⟨id, id, trivial⟩ (fun w0 => ?_)
 refine tS ?_
 refine tR fun _ _ _ => ?_
 refine pV ?_
 refine tS ?_
 refine tR fun _ _ _ => ?_
 refine pV ?_
 refine tS ?_
 refine tS ?_
 refine tR fun _ _ _ => ?_
 refine pV ?_
 refine tB ?_
 refine tr_nilR 22 3 ?_
 refine tr_loop4 (fun (k : Int) (AQ : Option Addr) (cq : Nat) (qs : List RowM) => [(0, .slice A n c), (3, .slice AQ qs.length cq), (4, .int .i64 k)]) (fun (k : Int) (AQ : Option Addr) (cq : Nat) (qs : List RowM) => [ow AQ 22 cq (hdrs qs), rowsCh 3 qs, ro A (hdrs rs), rowsR rs]) (fun (k : Int) (AQ : Option Addr) (cq : Nat) (qs : List RowM) => (0 ≤ k ∧ k ≤ n) ∧ qs.map (·.xs) = (rs.take k.toNat).map (·.xs)) (fun (k : Int) (AQ : Option Addr) (cq : Nat) (qs : List RowM) => (n - k).toNat) (0) (none) (0) ([]) ⟨rfl, rfl, rfl, trivial⟩ (by first | exact cs _ _ | exact CSub.refl _) (⟨⟨by omega, by omega⟩, rfl⟩) (fun k AQ cq qs hI => ?_)
 obtain ⟨⟨hk0, hk1⟩, hq⟩ := hI
 have hql : qs.length ≤ n := by have := congrArg List.length hq; simp at this; omega
 refine tS ?_
 refine tS ?_
 refine tR fun _ _ _ => ?_
 iterate 2 refine pV ?_
 refine sV (rLen rfl rfl) ?_
 refine pV ?_
 refine tC rfl (fun h3 => ?_) (fun h3 => ?_)
 ·try simp only [zbA] at h3
  refine tK ?_
  refine tS ?_
  refine tB ?_
  haveI : InB k.toNat rs.length := ⟨by omega⟩
  have h8k := h8 _ (getD_mem (show k.toNat < rs.length by omega) rowD)
  have h8q : (rs[k.toNat]?.getD rowD).xs.length ≤ 1000000 := by rw [← List.getD_eq_getElem?_getD]; exact h8k
  refine tR fun _ _ _ => ?_
  refine pV ?_
  refine eV (eLit0I rfl rfl rfl  (fun A5 => ?_))
  iterate 2 refine pV ?_
  refine sV (rIdxR rfl rfl rfl (by omega) (by omega) (by omega)) ?_
  refine sV (rLdR rfl rfl (by omega)) ?_
  refine eV (eAppI rfl rfl rfl rfl rfl (by first | rfl | simp) (by first | rfl | simp) (by first | omega | (simp; omega)) (fun A5a c5a => ?_))
  refine eV (eLit1 rfl rfl rfl rfl rfl (fun A5b => ?_))
  refine eV (eAppR rfl rfl rfl rfl rfl (by first | rfl | simp) (by omega) (fun A5c c5c => ?_))
  refine pV ?_
  refine tR fun _ _ _ => ?_
  refine pV ?_
  refine sV (rAdd rfl rfl rfl (by omega) (by omega)) ?_
  refine pV ?_
  refine ⟨k + 1, A5c, c5c, qs ++ [⟨A5a, c5a, [] ++ (rs.getD k.toNat rowD).xs⟩], ⟨rfl, rfl, rfl, trivial⟩, by exact rows_app, ?_⟩
  refine ⟨⟨⟨by omega, by omega⟩, ?_⟩, by omega⟩
  rw [List.map_append, hq, show (k + 1).toNat = k.toNat + 1 by omega, List.take_add_one, List.getElem?_eq_getElem (show k.toNat < rs.length by omega), List.map_append]
  simp [List.getD_eq_getElem?_getD, show k.toNat < rs.length by omega]
 ·try simp only [zbA] at h3
  refine tE ?_
  refine tS ?_
  refine tR fun _ _ _ => ?_
  iterate 2 refine pV ?_
  have hkn : k.toNat = rs.length := by omega
  rw [hkn, List.take_length] at hq
  exact tr_ret ⟨trivial, _, _, rfl, ⟨_, _, rfl, AQ, cq, qs, rfl, rfl, rfl, hq⟩, cs _ _, trivial, trivial, trivial⟩
end Go.Proofs.Ytdkahdehodopoaa

set_option maxRecDepth 100000
namespace Go.Proofs.Ytdkahdehodopoaa
open Go.RowKit
theorem ref_Eliminate_ent : Enters Try.prog 88 := enters_of Try.func88 (by kernel_rfl) (by kernel_rfl)
theorem ref_Eliminate (p m : Int) (A : Option Addr) (c : Nat) (mod : List Int) [hF : IsF p m mod] (w : Int) (hw0 : 0 ≤ w) (hw9 : w ≤ 1000000) (Aa : Option Addr) (n ca : Nat) (rs : List RowM) (hn : n = rs.length) (hr9 : rs.length ≤ 1000000) (hgd0 : Gd (pw p m) w.toNat rs) :
  Pure Try.prog 88 #[.agg #[.int .i64 p, .int .i64 m, .slice A mod.length c], .slice Aa n ca, .int .i64 w] [ro A (ints mod), ro Aa (hdrs rs), rowsR rs] (three (fun v ca cb cc => ∃ r2 B cb1 Bp cb2 ps qs, v = .tuple #[.slice B r2.length cb1, .slice Bp ps.length cb2] ∧ ca = ow B 22 cb1 (hdrs r2) ∧ cb = rowsCh 3 r2 ∧ cc = ow Bp 3 cb2 (ints ps) ∧ ps = qs.map Int.ofNat ∧ r2.length = rs.length ∧ Gd (pw p m) w.toNat r2 ∧ qs.length ≤ rs.length ∧ Vc.Rr w.toNat ((vsR r2 : List (Vc (El p m mod))).take qs.length) qs ∧ ∀ u, Vc.SpL ((vsR r2 : List (Vc (El p m mod))).take qs.length) u ↔ Vc.SpL (vsR rs) u)) := by
 have hq2 := hF.q2
 have hr8 : ∀ r ∈ rs, r.xs.length ≤ 1000000 := fun r hr => by have := (hgd0 r hr).1; omega
 refine pure_of (args := [.agg #[.int .i64 p, .int .i64 m, .slice A mod.length c], .slice Aa n ca, .int .i64 w]) 137 Try.func88 rfl rfl rfl ref_Eliminate_ent ⟨id, id, id, trivial⟩ (fun w0 => ?_)
 refine tS ?_
 refine tR fun _ _ _ => ?_
 refine eV (eBox rfl rfl rfl rfl rfl (fun p0 => ?_))
 iterate 2 refine pV ?_
 refine tS ?_
 refine tR fun _ _ _ => ?_
 refine pV ?_
 refine eV (eCall2 rfl rfl rfl (ref_Copy Aa n ca rs hn hr9 hr8) ⟨rfl, trivial⟩ ?_)
 rintro _ _ _ ⟨B1, c1, qs1, rfl, rfl, rfl, hqs1⟩
 refine pV ?_
 refine tS ?_
 have hlq : qs1.length = n := by have := congrArg List.length hqs1; simp at this; omega
 rw [hlq]
 refine tR fun _ _ _ => ?_
 refine pV ?_
 refine tS ?_
 refine tR fun _ _ _ => ?_
 refine pV ?_
 refine tS ?_
 refine tS ?_
 refine tR fun _ _ _ => ?_
 refine pV ?_
 refine tB ?_
 refine tr_nilI 3 ?_
 refine tr_loop6 (fun (cc : Int) (k : Int) (ps : List Int) (AP : Option Addr) (cP : Nat) (r2 : List RowM) => [(2, .int .i64 w), (3, .pointer (some p0)), (8, .slice B1 n c1), (9, .slice AP ps.length cP), (10, .int .i64 k), (11, .int .i64 cc)]) (fun (cc : Int) (k : Int) (ps : List Int) (AP : Option Addr) (cP : Nat) (r2 : List RowM) => [ow AP 3 cP (ints ps), ow B1 22 c1 (hdrs r2), rowsCh 3 r2, blk p0 24 [.int .i64 p, .int .i64 m, .slice A mod.length c], ro A (ints mod)]) (fun (cc : Int) (k : Int) (ps : List Int) (AP : Option Addr) (cP : Nat) (r2 : List RowM) => (0 ≤ cc ∧ cc ≤ w) ∧ (r2.length = rs.length ∧ Gd (pw p m) w.toNat r2) ∧ ∃ qs, ps = qs.map Int.ofNat ∧ k = qs.length ∧ Vc.Eli (Vc.SpL (vsR rs : List (Vc (El p m mod)))) w.toNat (vsR r2) cc.toNat qs) (fun (cc : Int) (k : Int) (ps : List Int) (AP : Option Addr) (cP : Nat) (r2 : List RowM) => (w - cc).toNat) (0) (0) ([]) (none) (0) (qs1) ⟨rfl, rfl, rfl, rfl, rfl, rfl, trivial⟩ (by first | exact cs _ _ | exact CSub.refl _) (⟨⟨by omega, by omega⟩, ⟨by omega, Gd.of hqs1 hgd0⟩, [], rfl, rfl, by rw [← vsR_of hqs1]; exact Vc.Eli.start fun i j hi hj => by rw [vsR_at, getD_out (by rw [((Gd.of hqs1 hgd0).get (by simpa using hi)).1]; omega), el_zero]⟩) (fun cc k ps AP cP r2 hI => ?_)
 obtain ⟨⟨hc0, hc1⟩, ⟨hrl, hgd⟩, qs, hps, hkq, hE⟩ := hI
 have hpl : ps.length = qs.length := by rw [hps, List.length_map]
 have hEl := hE.len
 rw [vsR_length] at hEl
 refine tS ?_
 refine tS ?_
 refine tR fun _ _ _ => ?_
 iterate 4 refine pV ?_
 refine stg rfl rfl rfl rfl rfl (fun hb => by (have hq := hb; try simp only [zbA] at hq); exact rMove rfl rfl) ?_
 refine stg rfl rfl rfl rfl rfl (fun hb => by (have hq := hb; try simp only [zbA] at hq); exact rMove rfl rfl) ?_
 refine stg rfl rfl rfl rfl rfl (fun hb => by (have hq := hb; try simp only [zbA] at hq); exact rLen rfl (evg rfl hb)) ?_
 refine stg rfl rfl rfl rfl rfl (fun hb => by (have hq := hb; try simp only [zbA] at hq); exact rLss rfl (evg rfl hb) (evg rfl hb)) ?_
 refine sV (rAndB rfl rfl rfl rfl) ?_
 refine tC rfl (fun h5 => ?_) (fun h5 => ?_)
 ·try simp only [zbA] at h5
  refine tK ?_
  refine tS ?_
  refine tB ?_
  refine tS ?_
  refine tR fun _ _ _ => ?_
  iterate 2 refine pV ?_
  refine tS ?_
  refine tB ?_
  refine tr_loop1 (fun (ta : Int) => [(2, .int .i64 w), (3, .pointer (some p0)), (8, .slice B1 n c1), (9, .slice AP ps.length cP), (10, .int .i64 k), (11, .int .i64 cc), (12, .int .i64 ta)]) (fun (ta : Int) => [ow AP 3 cP (ints ps), ow B1 22 c1 (hdrs r2), rowsCh 3 r2, blk p0 24 [.int .i64 p, .int .i64 m, .slice A mod.length c], ro A (ints mod)]) (fun (ta : Int) => (k ≤ ta ∧ ta ≤ n) ∧ ∀ i : Nat, k ≤ i → (i : Int) < ta → (r2.getD i rowD).xs.getD cc.toNat 0 = 0) (fun (ta : Int) => (n - ta).toNat) (k) ⟨rfl, rfl, rfl, rfl, rfl, rfl, rfl, trivial⟩ (by first | exact cs _ _ | exact CSub.refl _) (⟨⟨by omega, by omega⟩, fun i h1 h2 => by omega⟩) (fun ta hI => ?_)
  obtain ⟨⟨ht0, ht1⟩, htz⟩ := hI
  refine tS ?_
  refine tS ?_
  refine tR fun _ _ _ => ?_
  iterate 2 refine pV ?_
  refine sV (rLen rfl rfl) ?_
  iterate 2 refine pV ?_
  refine stg rfl rfl rfl rfl rfl (fun hb => by (have hq := hb; try simp only [zbA] at hq); exact rMove rfl rfl) ?_
  refine stg rfl rfl rfl rfl rfl (fun hb => by (have hq := hb; try simp only [zbA] at hq); exact rMove rfl rfl) ?_
  refine stg rfl rfl rfl rfl rfl (fun hb => by (have hq := hb; try simp only [zbA] at hq); exact rIdxR rfl (evg rfl hb) (evg rfl hb) (by omega) (by omega) (by omega)) ?_
  refine stg rfl rfl rfl rfl rfl (fun hb => by (have hq := hb; try simp only [zbA] at hq); exact rLdR rfl (evg rfl hb) (by omega)) ?_
  refine stg rfl rfl rfl rfl rfl (fun hb => by (have hq := hb; try simp only [zbA] at hq); exact rMove rfl rfl) ?_
  refine stg rfl rfl rfl rfl rfl (fun hb => by (have hq := hb; try simp only [zbA] at hq); exact (haveI : InB ta.toNat r2.length := ⟨by omega⟩; have hw := (hgd.get (show ta.toNat < r2.length by omega)).1; rIdxI rfl (evg rfl hb) (evg rfl hb) (by omega) (by omega) (by omega))) ?_
  refine stg rfl rfl rfl rfl rfl (fun hb => by (have hq := hb; try simp only [zbA] at hq); exact (haveI : InB ta.toNat r2.length := ⟨by omega⟩; have hw := (hgd.get (show ta.toNat < r2.length by omega)).1; rLdI rfl (evg rfl hb) (by omega))) ?_
  refine stg rfl rfl rfl rfl rfl (fun hb => by (have hq := hb; try simp only [zbA] at hq); exact rEql rfl (evg rfl hb) rfl) ?_
  refine sV (rAndB rfl rfl rfl rfl) ?_
  refine tC rfl (fun h8 => ?_) (fun h8 => ?_)
  ·try simp only [zbA] at h8
   refine tK ?_
   refine tB ?_
   refine tR fun _ _ _ => ?_
   refine pV ?_
   refine sV (rAdd rfl rfl rfl (by omega) (by omega)) ?_
   refine pV ?_
   refine ⟨ta + 1, ⟨rfl, rfl, rfl, rfl, rfl, rfl, rfl, trivial⟩, by first | exact cs _ _ | exact CSub.refl _, ?_⟩
   refine ⟨⟨⟨by omega, by omega⟩, fun i h1 h2 => ?_⟩, by omega⟩
   by_cases he : (i : Int) = ta
   ·have : i = ta.toNat := by omega
    rw [this]; exact h8.2
   ·exact htz i h1 (by omega)
  ·try simp only [zbA] at h8
   refine tE ?_
   refine tS ?_
   refine tS ?_
   refine tR fun _ _ _ => ?_
   iterate 2 refine pV ?_
   refine sV (rLen rfl rfl) ?_
   refine pV ?_
   refine tC rfl (fun h10 => ?_) (fun h10 => ?_)
   ·try simp only [zbA] at h10
    refine tE ?_
    refine tR fun _ _ _ => ?_
    refine pV ?_
    refine sV (rAdd rfl rfl rfl (by omega) (by omega)) ?_
    refine pV ?_
    refine ⟨cc + 1, k, ps, AP, cP, r2, ⟨rfl, rfl, rfl, rfl, rfl, rfl, trivial⟩, by first | exact cs _ _ | exact CSub.refl _, ?_⟩
    refine ⟨⟨⟨by omega, by omega⟩, ⟨hrl, hgd⟩, qs, hps, hkq, ?_⟩, by omega⟩
    rw [show (cc + 1).toNat = cc.toNat + 1 by omega]
    refine hE.skip fun i h1 h2 => ?_
    rw [vsR_length] at h2
    rw [vsR_at, htz i (by omega) (by omega), el_zero]
   ·try simp only [zbA] at h10
    refine tK ?_
    refine tS ?_
    have hne : (r2.getD ta.toNat rowD).xs.getD cc.toNat 0 ≠ 0 := h8.resolve_left (fun h => h (by omega))
    have hkn : k.toNat = qs.length := by omega
    haveI : InB ta.toNat r2.length := ⟨by omega⟩
    haveI : InB k.toNat r2.length := ⟨by omega⟩
    refine tr_plan [] [(0, 0), (0, 1), (2, 2), (2, 3), (0, 4), (0, 5), (0, 6), (0, 7), (0, 8), (0, 9), (0, 10), (0, 11), (0, 12), (1, 13), (0, 14), (1, 15)] mixed (by kernel_rfl) fun _ _ _ => ?_
    iterate 2 refine pV ?_
    refine stF rfl rfl rfl rfl (cs _ _) (rMove rfl rfl) ?_
    refine stF rfl rfl rfl rfl (cs _ _) (rMove rfl rfl) ?_
    iterate 2 refine pV ?_
    refine sV (rIdxR rfl rfl rfl (by omega) (by omega) (by omega)) ?_
    refine sV (rLdR rfl rfl (by omega)) ?_
    iterate 2 refine pV ?_
    refine sV (rIdxR rfl rfl rfl (by omega) (by omega) (by omega)) ?_
    refine sV (rLdR rfl rfl (by omega)) ?_
    refine sV (rIdxR rfl rfl rfl (by omega) (by omega) (by omega)) ?_
    refine eV (eSt rfl rfl rfl rfl (by first | omega | (simp; omega)) rfl rfl ?_)
    refine ⟨cs _ _, ?_⟩
    refine sV (rIdx rfl rfl rfl (by omega) (by omega) (by simp; omega)) ?_
    refine eV (eSt rfl rfl rfl rfl (by first | omega | (simp; omega)) rfl rfl ?_)
    refine ⟨cs _ _, ?_⟩
    have hh : ((hdrs r2).set k.toNat (.slice (r2.getD ta.toNat rowD).A (r2.getD ta.toNat rowD).xs.length (r2.getD ta.toNat rowD).cap)).set ta.toNat (.slice (r2.getD k.toNat rowD).A (r2.getD k.toNat rowD).xs.length (r2.getD k.toNat rowD).cap) = hdrs ((r2.set k.toNat (r2.getD ta.toNat rowD)).set ta.toNat (r2.getD k.toNat rowD)) := by rw [hdrs_set, hdrs_set]; rfl
    rw [hh]
    refine tr_chunks _ ((cs _ [rowsCh 3 r2, ow B1 22 c1 (hdrs ((r2.set k.toNat (r2.getD ta.toNat rowD)).set ta.toNat (r2.getD k.toNat rowD))), ow AP 3 cP (ints ps), blk p0 24 [.int .i64 p, .int .i64 m, .slice A mod.length c], ro A (ints mod)]).trans (rows_perm (swap_perm rowD r2 (i := k.toNat) (j := ta.toNat) (by omega) (by omega)) _)) ?_
    have hrl3 : ((r2.set k.toNat (r2.getD ta.toNat rowD)).set ta.toNat (r2.getD k.toNat rowD)).length = rs.length := by simpa using hrl
    have hgd3 := hgd.perm (swap_perm rowD r2 (i := k.toNat) (j := ta.toNat) (by omega) (by omega))
    have hE3 : Vc.Eli (Vc.SpL (vsR rs : List (Vc (El p m mod)))) w.toNat (vsR ((r2.set k.toNat (r2.getD ta.toNat rowD)).set ta.toNat (r2.getD k.toNat rowD))) cc.toNat qs := by
     have := hE.swap (a := ta.toNat) (by omega) (by rw [vsR_length]; omega)
     rw [← hkn, vsR_get, vsR_get] at this
     rw [vsR_set, vsR_set]; exact this
    have hne3 : (((r2.set k.toNat (r2.getD ta.toNat rowD)).set ta.toNat (r2.getD k.toNat rowD)).getD k.toNat rowD).xs.getD cc.toNat 0 ≠ 0 := by
     rw [row_set, row_set]
     by_cases e : ta.toNat = k.toNat
     ·rw [if_pos ⟨e, by simp; omega⟩, ← e]; exact hne
     ·rw [if_neg (fun x => e x.1), if_pos ⟨rfl, by omega⟩]; exact hne
    generalize (r2.set k.toNat (r2.getD ta.toNat rowD)).set ta.toNat (r2.getD k.toNat rowD) = r3 at hrl3 hgd3 hE3 hne3
    haveI : InB k.toNat r3.length := ⟨by omega⟩
    have hw3 := hgd3.get (show k.toNat < r3.length by omega)
    have hen := hw3.2.get (by omega) cc.toNat
    have hnz3 : (el ((r3.getD k.toNat rowD).xs.getD cc.toNat 0) : El p m mod) ≠ 0 := fun e => hne3 ((el_eq_zero hen).1 e)
    have hw31 := hw3.1
    refine tr_join (fun (q : (List RowM)) => match q with | r4 => [(2, .int .i64 w), (3, .pointer (some p0)), (8, .slice B1 n c1), (9, .slice AP ps.length cP), (10, .int .i64 k), (11, .int .i64 cc)]) (fun (q : (List RowM)) => match q with | r4 => [ow AP 3 cP (ints ps), ow B1 22 c1 (hdrs r4), rowsCh 3 r4, blk p0 24 [.int .i64 p, .int .i64 m, .slice A mod.length c], ro A (ints mod)]) (fun (q : (List RowM)) => match q with | r4 => (r4.length = rs.length ∧ Gd (pw p m) w.toNat r4) ∧ Vc.Eli (Vc.SpL (vsR rs : List (Vc (El p m mod)))) w.toNat (vsR r4) cc.toNat qs ∧ (r4.getD k.toNat rowD).xs.getD cc.toNat 0 = 1) ?_ ?_
    ·refine tS ?_
     refine tR fun _ _ _ => ?_
     iterate 2 refine pV ?_
     refine sV (rIdxR rfl rfl rfl (by omega) (by omega) (by omega)) ?_
     refine sV (rLdR rfl rfl (by omega)) ?_
     refine pV ?_
     refine sV (rIdxI rfl rfl rfl (by omega) (by omega) (by omega)) ?_
     refine sV (rLdI rfl rfl (by omega)) ?_
     refine pV ?_
     refine tC rfl (fun h12 => ?_) (fun h12 => ?_)
     ·try simp only [zbA] at h12
      refine tr_draw [0, 1, 2, 3, 4, 5, 6, 7, 8, 9, 10, 12, 13, 14, 15, 11, 16, 17] [18] mixed (by kernel_rfl) fun _ _ _ => ?_
      iterate 2 refine pV ?_
      refine sV (rLdS rfl rfl rfl) ?_
      refine sV (rLdS rfl rfl rfl) ?_
      iterate 2 refine pV ?_
      refine sV (rIdxR rfl rfl rfl (by omega) (by omega) (by omega)) ?_
      refine sV (rLdR rfl rfl (by omega)) ?_
      refine pV ?_
      refine sV (rIdxI rfl rfl rfl (by omega) (by omega) (by omega)) ?_
      refine sV (rLdI rfl rfl (by omega)) ?_
      iterate 2 refine pV ?_
      refine sV (rIdxR rfl rfl rfl (by omega) (by omega) (by omega)) ?_
      refine sV (rLdR rfl rfl (by omega)) ?_
      refine eV (eCallV rfl rfl rfl (ref_InvE _ _ _ _ _ _) ⟨rfl, rfl, trivial⟩ ?_)
      refine eV (eCall1 rfl rfl rfl (ref_scale p m A c mod _ _ _ _ (r3.getD k.toNat rowD).xs rfl (by omega)) ⟨rfl, rfl, rfl, trivial⟩ ?_)
      rintro _ _ ⟨B13, rfl, rfl⟩
      refine sV (rIdxR rfl rfl rfl (by omega) (by omega) (by omega)) ?_
      refine eV (eSt rfl rfl rfl rfl (by first | omega | (simp; omega)) rfl rfl ?_)
      refine ⟨(r3.set k.toNat (⟨B13, (r3.getD k.toNat rowD).xs.length, sclR (el ((Fd.inv (el ((r3.getD k.toNat rowD).xs.getD cc.toNat 0)) : El p m mod).1) : El p m mod) (r3.getD k.toNat rowD).xs⟩ : RowM)), ⟨rfl, rfl, rfl, rfl, rfl, rfl, trivial⟩, by dsimp only; rw [← (show (hdrs r3).set k.toNat (.slice B13 (r3.getD k.toNat rowD).xs.length (r3.getD k.toNat rowD).xs.length) = hdrs (r3.set k.toNat (⟨B13, (r3.getD k.toNat rowD).xs.length, sclR (el ((Fd.inv (el ((r3.getD k.toNat rowD).xs.getD cc.toNat 0)) : El p m mod).1) : El p m mod) (r3.getD k.toNat rowD).xs⟩ : RowM)) by rw [hdrs_set]; simp [RowM.hdr])]; exact (cs _ [rowsCh 3 r3, ow B13 3 (r3.getD k.toNat rowD).xs.length (ints (RowM.xs (⟨B13, (r3.getD k.toNat rowD).xs.length, sclR (el ((Fd.inv (el ((r3.getD k.toNat rowD).xs.getD cc.toNat 0)) : El p m mod).1) : El p m mod) (r3.getD k.toNat rowD).xs⟩ : RowM))), ow B1 22 c1 ((hdrs r3).set k.toNat (.slice B13 (r3.getD k.toNat rowD).xs.length (r3.getD k.toNat rowD).xs.length)), ow AP 3 cP (ints ps), blk p0 24 [.int .i64 p, .int .i64 m, .slice A mod.length c], ro A (ints mod)]).trans ((rows_put (r := (⟨B13, (r3.getD k.toNat rowD).xs.length, sclR (el ((Fd.inv (el ((r3.getD k.toNat rowD).xs.getD cc.toNat 0)) : El p m mod).1) : El p m mod) (r3.getD k.toNat rowD).xs⟩ : RowM)) (show k.toNat < r3.length by omega) _).trans (cs _ _)), ?_⟩
      refine ⟨⟨by simpa using hrl3, hgd3.set _ (by simpa using hw3.1) (sclR_in _ _)⟩, ?_, ?_⟩
      ·have := hE3.scale (by rw [vsR_length]; omega) (Fd.inv_ne hnz3)
       rw [← hkn, vsR_get] at this
       rw [vsR_set, rw_sclR, el_of]; exact this
      ·rw [row_set, if_pos ⟨rfl, by omega⟩]
       refine (val_of_el (mod := mod) (sclR_in _ _) cc.toNat trivial ?_)
       have := congrFun (rw_sclR (el ((Fd.inv (el ((r3.getD k.toNat rowD).xs.getD cc.toNat 0)) : El p m mod).1) : El p m mod) (r3.getD k.toNat rowD).xs) cc.toNat
       rw [rw_at, Vc.sc_at, rw_at, el_of] at this
       rw [el_of, this]; exact Fd.inv_mul _ hnz3
     ·try simp only [zbA] at h12
      refine tK ?_
      refine ⟨(r3), ⟨rfl, rfl, rfl, rfl, rfl, rfl, trivial⟩, by first | exact cs _ _ | exact CSub.refl _, ?_⟩
      exact ⟨⟨hrl3, hgd3⟩, hE3, by omega⟩
    ·rintro r4 hI
     obtain ⟨⟨hrl4, hgd4⟩, hE4, hone4⟩ := hI
     refine tS ?_
     refine tS ?_
     refine tR fun _ _ _ => ?_
     refine pV ?_
     refine tB ?_
     refine tr_loop2 (fun (i : Int) (r5 : List RowM) => [(2, .int .i64 w), (3, .pointer (some p0)), (8, .slice B1 n c1), (9, .slice AP ps.length cP), (10, .int .i64 k), (11, .int .i64 cc), (13, .int .i64 i)]) (fun (i : Int) (r5 : List RowM) => [ow AP 3 cP (ints ps), ow B1 22 c1 (hdrs r5), rowsCh 3 r5, blk p0 24 [.int .i64 p, .int .i64 m, .slice A mod.length c], ro A (ints mod)]) (fun (i : Int) (r5 : List RowM) => (0 ≤ i ∧ i ≤ n) ∧ (r5.length = rs.length ∧ Gd (pw p m) w.toNat r5) ∧ Vc.Eli (Vc.SpL (vsR rs : List (Vc (El p m mod)))) w.toNat (vsR r5) cc.toNat qs ∧ (r5.getD k.toNat rowD).xs.getD cc.toNat 0 = 1 ∧ ∀ t : Nat, (t : Int) < i → t ≠ k.toNat → (r5.getD t rowD).xs.getD cc.toNat 0 = 0) (fun (i : Int) (r5 : List RowM) => (n - i).toNat) (0) (r4) ⟨rfl, rfl, rfl, rfl, rfl, rfl, rfl, trivial⟩ (by first | exact cs _ _ | exact CSub.refl _) (⟨⟨by omega, by omega⟩, ⟨hrl4, hgd4⟩, hE4, hone4, fun t h1 h2 => by omega⟩) (fun i r5 hI => ?_)
     obtain ⟨⟨hi0, hi1⟩, ⟨hrl5, hgd5⟩, hE5, hone5, hz5⟩ := hI
     refine tS ?_
     refine tS ?_
     refine tR fun _ _ _ => ?_
     iterate 2 refine pV ?_
     refine sV (rLen rfl rfl) ?_
     refine pV ?_
     refine tC rfl (fun h15 => ?_) (fun h15 => ?_)
     ·try simp only [zbA] at h15
      refine tK ?_
      refine tS ?_
      refine tB ?_
      refine tS ?_
      refine tR fun _ _ _ => ?_
      iterate 4 refine pV ?_
      refine stg rfl rfl rfl rfl rfl (fun hb => by (have hq := hb; try simp only [zbA] at hq); exact rMove rfl rfl) ?_
      refine stg rfl rfl rfl rfl rfl (fun hb => by (have hq := hb; try simp only [zbA] at hq); exact rMove rfl rfl) ?_
      refine stg rfl rfl rfl rfl rfl (fun hb => by (have hq := hb; try simp only [zbA] at hq); exact rIdxR rfl (evg rfl hb) (evg rfl hb) (by omega) (by omega) (by omega)) ?_
      refine stg rfl rfl rfl rfl rfl (fun hb => by (have hq := hb; try simp only [zbA] at hq); exact rLdR rfl (evg rfl hb) (by omega)) ?_
      refine stg rfl rfl rfl rfl rfl (fun hb => by (have hq := hb; try simp only [zbA] at hq); exact rMove rfl rfl) ?_
      refine stg rfl rfl rfl rfl rfl (fun hb => by (have hq := hb; try simp only [zbA] at hq); exact (haveI : InB i.toNat r5.length := ⟨by omega⟩; have hw := (hgd5.get (show i.toNat < r5.length by omega)).1; rIdxI rfl (evg rfl hb) (evg rfl hb) (by omega) (by omega) (by omega))) ?_
      refine stg rfl rfl rfl rfl rfl (fun hb => by (have hq := hb; try simp only [zbA] at hq); exact (haveI : InB i.toNat r5.length := ⟨by omega⟩; have hw := (hgd5.get (show i.toNat < r5.length by omega)).1; rLdI rfl (evg rfl hb) (by omega))) ?_
      refine stg rfl rfl rfl rfl rfl (fun hb => by (have hq := hb; try simp only [zbA] at hq); exact rNeq rfl (evg rfl hb) rfl) ?_
      refine sV (rAndB rfl rfl rfl rfl) ?_
      refine tC rfl (fun h17 => ?_) (fun h17 => ?_)
      ·try simp only [zbA] at h17
       haveI : InB i.toNat r5.length := ⟨by omega⟩
       haveI : InB k.toNat r5.length := ⟨by omega⟩
       have hwi := hgd5.get (show i.toNat < r5.length by omega)
       have hwk := hgd5.get (show k.toNat < r5.length by omega)
       have hwi1 := hwi.1
       have hwk1 := hwk.1
       refine tr_draw [0, 1, 2, 3, 4, 5, 6, 7, 8, 9, 10, 11, 12, 13, 14, 16, 17, 18, 19, 15, 20, 21] [22] mixed (by kernel_rfl) fun _ _ _ => ?_
       iterate 2 refine pV ?_
       refine sV (rLdS rfl rfl rfl) ?_
       iterate 2 refine pV ?_
       refine sV (rIdxR rfl rfl rfl (by omega) (by omega) (by omega)) ?_
       refine sV (rLdR rfl rfl (by omega)) ?_
       refine sV (rLdS rfl rfl rfl) ?_
       iterate 2 refine pV ?_
       refine sV (rIdxR rfl rfl rfl (by omega) (by omega) (by omega)) ?_
       refine sV (rLdR rfl rfl (by omega)) ?_
       refine pV ?_
       refine sV (rIdxI rfl rfl rfl (by omega) (by omega) (by omega)) ?_
       refine sV (rLdI rfl rfl (by omega)) ?_
       iterate 2 refine pV ?_
       refine sV (rIdxR rfl rfl rfl (by omega) (by omega) (by omega)) ?_
       refine sV (rLdR rfl rfl (by omega)) ?_
       refine eV (eCallV rfl rfl rfl (ref_NegE _ _ _ _ _ _) ⟨rfl, rfl, trivial⟩ ?_)
       refine eV (eCall1 rfl rfl rfl (ref_AddTo p m A c mod _ _ _ (r5.getD i.toNat rowD).xs rfl (by omega) _ _ _ _ (r5.getD k.toNat rowD).xs rfl (by omega) hwi.2) ⟨rfl, rfl, rfl, rfl, trivial⟩ ?_)
       rintro _ _ ⟨B18, rfl, rfl⟩
       refine sV (rIdxR rfl rfl rfl (by omega) (by omega) (by omega)) ?_
       refine eV (eSt rfl rfl rfl rfl (by first | omega | (simp; omega)) rfl rfl ?_)
       refine tR fun _ _ _ => ?_
       refine pV ?_
       refine sV (rAdd rfl rfl rfl (by omega) (by omega)) ?_
       refine pV ?_
       refine ⟨i + 1, r5.set i.toNat (⟨B18, (r5.getD i.toNat rowD).xs.length, addR (el (-(el ((r5.getD i.toNat rowD).xs.getD cc.toNat 0)) : El p m mod).1 : El p m mod) (r5.getD i.toNat rowD).xs (r5.getD k.toNat rowD).xs⟩ : RowM), ⟨rfl, rfl, rfl, rfl, rfl, rfl, rfl, trivial⟩, by rw [← (show (hdrs r5).set i.toNat (.slice B18 (r5.getD i.toNat rowD).xs.length (r5.getD i.toNat rowD).xs.length) = hdrs (r5.set i.toNat (⟨B18, (r5.getD i.toNat rowD).xs.length, addR (el (-(el ((r5.getD i.toNat rowD).xs.getD cc.toNat 0)) : El p m mod).1 : El p m mod) (r5.getD i.toNat rowD).xs (r5.getD k.toNat rowD).xs⟩ : RowM)) by rw [hdrs_set]; simp [RowM.hdr])]; exact (cs _ [rowsCh 3 r5, ow B18 3 (r5.getD i.toNat rowD).xs.length (ints (RowM.xs (⟨B18, (r5.getD i.toNat rowD).xs.length, addR (el (-(el ((r5.getD i.toNat rowD).xs.getD cc.toNat 0)) : El p m mod).1 : El p m mod) (r5.getD i.toNat rowD).xs (r5.getD k.toNat rowD).xs⟩ : RowM))), ow B1 22 c1 ((hdrs r5).set i.toNat (.slice B18 (r5.getD i.toNat rowD).xs.length (r5.getD i.toNat rowD).xs.length)), ow AP 3 cP (ints ps), blk p0 24 [.int .i64 p, .int .i64 m, .slice A mod.length c], ro A (ints mod)]).trans ((rows_put (r := (⟨B18, (r5.getD i.toNat rowD).xs.length, addR (el (-(el ((r5.getD i.toNat rowD).xs.getD cc.toNat 0)) : El p m mod).1 : El p m mod) (r5.getD i.toNat rowD).xs (r5.getD k.toNat rowD).xs⟩ : RowM)) (show i.toNat < r5.length by omega) _).trans (cs _ _)), ?_⟩
       refine ⟨⟨⟨by omega, by omega⟩, ⟨by simpa using hrl5, hgd5.set _ (by simpa using hwi.1) (addR_in _ _ _)⟩, ?_, ?_, fun t h1 h2 => ?_⟩, by omega⟩
       ·have := hE5.plus (by rw [vsR_length]; omega) (i := i.toNat) (by rw [vsR_length]; omega) (by omega) (-(el ((r5.getD i.toNat rowD).xs.getD cc.toNat 0) : El p m mod))
        rw [← hkn, vsR_get, vsR_get] at this
        rw [vsR_set, rw_addR _ _ _ (by omega), el_of]; exact this
       ·rw [row_set, if_neg (by omega)]; exact hone5
       ·rw [row_set]
        split
        ·rename_i he
         obtain ⟨rfl, he⟩ := he
         show (addR _ _ _).getD cc.toNat 0 = 0
         rw [addR_get _ _ _ (by omega), hone5, el_one, el_of]
         exact congrArg Subtype.val (show (el ((r5.getD i.toNat rowD).xs.getD cc.toNat 0) + -el ((r5.getD i.toNat rowD).xs.getD cc.toNat 0) * 1 : El p m mod) = 0 by grind)
        ·exact hz5 t (by omega) h2
      ·try simp only [zbA] at h17
       refine tK ?_
       refine tR fun _ _ _ => ?_
       refine pV ?_
       refine sV (rAdd rfl rfl rfl (by omega) (by omega)) ?_
       refine pV ?_
       refine ⟨i + 1, r5, ⟨rfl, rfl, rfl, rfl, rfl, rfl, rfl, trivial⟩, by first | exact cs _ _ | exact CSub.refl _, ?_⟩
       refine ⟨⟨⟨by omega, by omega⟩, ⟨hrl5, hgd5⟩, hE5, hone5, fun t h1 h2 => ?_⟩, by omega⟩
       by_cases he : t = i.toNat
       ·subst he
        have h3 : i ≠ k := by omega
        exact h17.resolve_left h3
       ·exact hz5 t (by omega) h2
     ·try simp only [zbA] at h15
      refine tE ?_
      refine tS ?_
      refine tR fun _ _ _ => ?_
      iterate 2 refine pV ?_
      refine eV (eLit1I rfl rfl rfl rfl (fun A19 => ?_))
      refine eV (eAppI rfl rfl rfl rfl rfl (by first | rfl | simp) (by first | rfl | simp) (by first | omega | (simp; omega)) (fun A19a c19a => ?_))
      refine pV ?_
      refine tR fun _ _ _ => ?_
      refine pV ?_
      refine sV (rAdd rfl rfl rfl (by omega) (by omega)) ?_
      refine pV ?_
      refine tR fun _ _ _ => ?_
      refine pV ?_
      refine sV (rAdd rfl rfl rfl (by omega) (by omega)) ?_
      refine pV ?_
      refine ⟨cc + 1, k + 1, ps ++ [cc], A19a, c19a, r5, ⟨rfl, rfl, rfl, rfl, rfl, rfl, trivial⟩, by first | exact cs _ _ | exact CSub.refl _, ?_⟩
      refine ⟨⟨⟨by omega, by omega⟩, ⟨hrl5, hgd5⟩, qs ++ [cc.toNat], ?_, by simp; omega, ?_⟩, by omega⟩
      ·rw [hps, List.map_append]; simp; omega
      ·rw [show (cc + 1).toNat = cc.toNat + 1 by omega]
       refine hE5.push (by rw [vsR_length]; omega) ?_ (fun t h1 h2 => ?_)
       ·rw [vsR_at, ← hkn, hone5, el_one]
       ·rw [vsR_length] at h1
        rw [vsR_at, hz5 t (by omega) (by omega), el_zero]
 ·try simp only [zbA] at h5
  refine tE ?_
  refine tS ?_
  refine tR fun _ _ _ => ?_
  iterate 4 refine pV ?_
  obtain ⟨hR1, hR2⟩ := hE.done (by rw [vsR_length]; omega) (by omega)
  exact tr_ret ⟨trivial, _, _, rfl, ⟨_, _, _, rfl, r2, B1, c1, AP, cP, ps, qs, by rw [show n = r2.length by omega], rfl, rfl, rfl, hps, hrl, hgd, by omega, hR1, hR2⟩, cs _ _, trivial, trivial, trivial, trivial⟩
end Go.Proofs.Ytdkahdehodopoaa

set_option maxRecDepth 100000
namespace Go.Proofs.Ytdkahdehodopoaa
open Go.RowKit
theorem hdrs_take (A : Option Addr) (e : TypeId) (cap : Nat) (rs : List RowM) (k : Nat) (F : List Chunk) : CSub (ow A e cap (hdrs rs) :: F) (ow A e cap (hdrs (rs.take k)) :: F) := by
 have h := ow_shrink (e := e) (A := A) (cap := cap) (vs := hdrs (rs.take k)) (ws := hdrs (rs.drop k)) F
 rwa [← hdrs_append, List.take_append_drop] at h
theorem ref_RCanon_ent : Enters Try.prog 58 := enters_of Try.func58 (by kernel_rfl) (by kernel_rfl)
theorem ref_RCanon (p m : Int) (A : Option Addr) (c : Nat) (mod : List Int) [hF : IsF p m mod] (w : Int) (hw0 : 0 ≤ w) (hw9 : w ≤ 1000000) (Aa : Option Addr) (n ca : Nat) (rs : List RowM) (hn : n = rs.length) (hr9 : rs.length ≤ 1000000) (hgd0 : Gd (pw p m) w.toNat rs) :
  Pure Try.prog 58 #[.agg #[.int .i64 p, .int .i64 m, .slice A mod.length c], .slice Aa n ca, .int .i64 w] [ro A (ints mod), ro Aa (hdrs rs), rowsR rs] (three (fun v ca cb cc => ∃ r3 B cb1 Bp cb2 ps, v = .tuple #[.slice B r3.length cb1, .slice Bp ps.length cb2] ∧ ca = ow B 22 cb1 (hdrs r3) ∧ cb = rowsCh 3 r3 ∧ cc = ow Bp 3 cb2 (ints ps) ∧ RrOf p m mod w.toNat rs r3 ps ∧ r3.length ≤ rs.length)) := by
 refine pure_of (args := [.agg #[.int .i64 p, .int .i64 m, .slice A mod.length c], .slice Aa n ca, .int .i64 w]) 22 Try.func58 rfl rfl rfl ref_RCanon_ent ⟨id, id, id, trivial⟩ (fun w0 => ?_)
 refine tS ?_
 refine tR fun _ _ _ => ?_
 refine eV (eBox rfl rfl rfl rfl rfl (fun p0 => ?_))
 iterate 2 refine pV ?_
 refine tS ?_
 refine tR fun _ _ _ => ?_
 refine sV (rLdS rfl rfl rfl) ?_
 iterate 2 refine pV ?_
 refine eV (eCall3 rfl rfl rfl (ref_Eliminate p m A c mod w hw0 hw9 Aa n ca rs hn hr9 hgd0) ⟨rfl, rfl, rfl, trivial⟩ ?_)
 rintro _ _ _ _ ⟨r2, B1, cb1, Bp, cb2, ps, qs, rfl, rfl, rfl, rfl, hps, hrl, hgd, hql, hR1, hR2⟩
 iterate 5 refine pV ?_
 refine tS ?_
 refine tr_cap B1 22 cb1 (hdrs r2) fun hcap => ?_
 rw [hdrs_length] at hcap
 have hpl : ps.length = qs.length := by rw [hps, List.length_map]
 refine tR fun _ _ _ => ?_
 iterate 2 refine pV ?_
 refine sV (rLen rfl rfl) ?_
 refine sV (rCutHi rfl rfl rfl (by omega) (by omega)) ?_
 iterate 3 refine pV ?_
 simp only [Int.toNat_natCast]
 have htl : (r2.take ps.length).length = ps.length := by rw [List.length_take]; omega
 have hRr : RrOf p m mod w.toNat rs (r2.take ps.length) ps := by
  rw [vsR_take, ← hpl] at hR1 hR2
  exact ⟨hgd.take _, htl.symm, ⟨qs, hps, hR1⟩, hR2⟩
 exact tr_ret ⟨trivial, _, _, rfl, ⟨_, _, _, rfl, r2.take ps.length, B1, cb1, Bp, cb2, ps, by rw [htl], rfl, rfl, rfl, hRr, by omega⟩, (cs _ [ow B1 22 cb1 (hdrs r2), rowsCh 3 r2, ow Bp 3 cb2 (ints ps)]).trans ((hdrs_take _ _ _ _ _ _).trans (CSub.cons _ (rows_take _ _))), trivial, trivial, trivial, trivial⟩
end Go.Proofs.Ytdkahdehodopoaa

set_option maxRecDepth 100000
namespace Go.Proofs.Ytdkahdehodopoaa
open Go.RowKit
section
end
end Go.Proofs.Ytdkahdehodopoaa

set_option maxRecDepth 100000
namespace Go.Proofs.Ytdkahdehodopoaa
open Go.RowKit
open Classical in
noncomputable def rowsC (q w : Int) (l : List (List Int)) : Int :=
 if ¬ (0 ≤ w ∧ w ≤ 256 ∧ l.length ≤ 256) then 3 else if ¬ ∀ r ∈ l, (r.length : Int) = w then 3 else if ∀ r ∈ l, AllIn q r then 0 else 2
theorem rowsC_shape {q w : Int} {l : List (List Int)} (h : ¬ (0 ≤ w ∧ w ≤ 256 ∧ l.length ≤ 256)) : rowsC q w l = 3 := by unfold rowsC; rw [if_pos h]
theorem rowsC_len {q w : Int} {l : List (List Int)} (h1 : ¬ ∀ r ∈ l, (r.length : Int) = w) : rowsC q w l = 3 := by
 unfold rowsC; split
 ·rfl
 ·rfl
theorem rowsC_ent {q w : Int} {l : List (List Int)} (h : 0 ≤ w ∧ w ≤ 256 ∧ l.length ≤ 256) (h1 : ∀ r ∈ l, (r.length : Int) = w) (h2 : ¬ ∀ r ∈ l, AllIn q r) : rowsC q w l = 2 := by
 unfold rowsC; rw [if_neg (fun k => k h), if_neg (fun k => k h1), if_neg h2]
theorem rowsC_ok {q w : Int} {l : List (List Int)} (h : 0 ≤ w ∧ w ≤ 256 ∧ l.length ≤ 256) (h1 : ∀ r ∈ l, (r.length : Int) = w) (h2 : ∀ r ∈ l, AllIn q r) : rowsC q w l = 0 := by
 unfold rowsC; rw [if_neg (fun k => k h), if_neg (fun k => k h1), if_pos h2]
theorem rowsC_zero {q w : Int} {l : List (List Int)} (h : rowsC q w l = 0) : (0 ≤ w ∧ w ≤ 256 ∧ l.length ≤ 256) ∧ (∀ r ∈ l, (r.length : Int) = w) ∧ ∀ r ∈ l, AllIn q r := by
 by_cases h1 : 0 ≤ w ∧ w ≤ 256 ∧ l.length ≤ 256
 ·by_cases h2 : ∀ r ∈ l, (r.length : Int) = w
  ·by_cases h3 : ∀ r ∈ l, AllIn q r
   ·exact ⟨h1, h2, h3⟩
   ·rw [rowsC_ent h1 h2 h3] at h; omega
  ·rw [rowsC_len h2] at h; omega
 ·rw [rowsC_shape h1] at h; omega
def xss (rs : List RowM) : List (List Int) := rs.map (·.xs)
@[simp] theorem xss_length (rs : List RowM) : (xss rs).length = rs.length := by simp [xss]
theorem xss_all {rs : List RowM} {φ : List Int → Prop} : (∀ r ∈ xss rs, φ r) ↔ ∀ r ∈ rs, φ r.xs := by simp [xss]
theorem xss_get {rs : List RowM} {φ : List Int → Prop} (h : ∀ j : Nat, j < rs.length → φ (rs.getD j rowD).xs) : ∀ r ∈ xss rs, φ r := xss_all.2 fun r hr => by
 obtain ⟨j, hj, rfl⟩ := List.getElem_of_mem hr
 have := h j hj
 rwa [List.getD_eq_getElem?_getD, List.getElem?_eq_getElem hj] at this
theorem xss_no {rs : List RowM} {φ : List Int → Prop} {j : Nat} (hj : j < rs.length) (h : ¬ φ (rs.getD j rowD).xs) : ¬ ∀ r ∈ xss rs, φ r := fun k => h (xss_all.1 k _ (getD_mem hj _))
theorem Gd_iff {q w : Int} {rs : List RowM} (hw : 0 ≤ w) : Gd q w.toNat rs ↔ (∀ r ∈ xss rs, (r.length : Int) = w) ∧ ∀ r ∈ xss rs, AllIn q r := by
 rw [xss_all, xss_all]
 exact ⟨fun h => ⟨fun r hr => by have := (h r hr).1; omega, fun r hr => (h r hr).2⟩, fun h r hr => ⟨by have := h.1 r hr; omega, h.2 r hr⟩⟩
theorem mat_entriesC_ent : Enters Try.prog 122 := enters_of Try.func122 (by kernel_rfl) (by kernel_rfl)
theorem mat_entriesC (g : GfM) (q : Int) (hq : g.q = q) (A : Option Addr) (n c : Nat) (l : List Int) (hn : n = l.length) (h9 : l.length ≤ 17592186044415) :
  Pure Try.prog 122 #[.pointer (some g.p), .slice A n c] [gfR g, ro A (ints l)] (isV (.int .i64 (entC q l))) := by
 refine pure_of (args := [.pointer (some g.p), .slice A n c]) 18 Try.func122 rfl rfl rfl mat_entriesC_ent ⟨id, id, trivial⟩ (fun w0 => ?_)
 refine tS ?_
 refine tR fun _ _ _ => ?_
 refine pV ?_
 refine tS ?_
 refine tS ?_
 refine tR fun _ _ _ => ?_
 refine pV ?_
 refine sV (rLen rfl rfl) ?_
 refine pV ?_
 refine tB ?_
 refine tr_loop1 (fun (k : Int) => [(9, .int .i64 k), (0, .pointer (some g.p)), (7, .slice A n c), (8, .int .i64 n)]) (fun (k : Int) => [gfR g, ro A (ints l)]) (fun (k : Int) => (0 ≤ k ∧ k ≤ n) ∧ ∀ j : Nat, (j : Int) < k → 0 ≤ l.getD j 0 ∧ l.getD j 0 < q) (fun (k : Int) => (n - k).toNat) (0) ⟨rfl, rfl, rfl, rfl, trivial⟩ (by first | exact cs _ _ | exact CSub.refl _) (⟨⟨by omega, by omega⟩, fun j hj => by omega⟩) (fun k hI => ?_)
 obtain ⟨⟨hk0, hk1⟩, hall⟩ := hI
 refine tS ?_
 refine tR fun _ _ _ => ?_
 refine pV ?_
 refine tS ?_
 refine tC rfl (fun h2 => ?_) (fun h2 => ?_)
 ·try simp only [zbA] at h2
  refine tK ?_
  refine tS ?_
  refine tB ?_
  refine tS ?_
  refine tR fun _ _ _ => ?_
  refine sV (rIdxI rfl rfl rfl (by omega) (by omega) (by omega)) ?_
  refine sV (rLdI rfl rfl (by omega)) ?_
  refine pV ?_
  refine tS ?_
  refine tR fun _ _ _ => ?_
  iterate 2 refine pV ?_
  refine eV (eCallV rfl rfl rfl (gf_Is _ _) ⟨rfl, rfl, trivial⟩ ?_)
  refine sV (rNotB rfl rfl) ?_
  refine tC rfl (fun h4 => ?_) (fun h4 => ?_)
  ·try simp only [zbA] at h4
   refine tS ?_
   refine tR fun _ _ _ => ?_
   refine pV ?_
   have hno : ¬ AllIn q l := fun h => by
    have hb := h (l.getD k.toNat 0) (getD_mem (by omega) _)
    omega
   exact tr_ret ⟨trivial, _, _, rfl, ⟨by rw [entC_no hno], rfl⟩, CSub.nil _, trivial⟩
  ·try simp only [zbA] at h4
   refine tK ?_
   refine tR fun _ _ _ => ?_
   refine sV (rAdd rfl rfl rfl (by omega) (by omega)) ?_
   refine pV ?_
   refine ⟨k + 1, ⟨rfl, rfl, rfl, rfl, trivial⟩, by first | exact cs _ _ | exact CSub.refl _, ?_⟩
   refine ⟨⟨⟨by omega, by omega⟩, fun j hj => ?_⟩, by omega⟩
   by_cases he : (j : Int) = k
   ·have : j = k.toNat := by omega
    subst this; omega
   ·exact hall j (by omega)
 ·try simp only [zbA] at h2
  refine tE ?_
  refine tS ?_
  refine tR fun _ _ _ => ?_
  refine pV ?_
  have hok : AllIn q l := allIn_of_get fun j hj => hall j (by omega)
  exact tr_ret ⟨trivial, _, _, rfl, ⟨by rw [entC_ok hok], rfl⟩, CSub.nil _, trivial⟩
theorem entC_cases (q : Int) (l : List Int) : (AllIn q l ∧ entC q l = 0) ∨ (¬ AllIn q l ∧ entC q l = 2) := by
 by_cases h : AllIn q l
 ·exact .inl ⟨h, entC_ok h⟩
 ·exact .inr ⟨h, entC_no h⟩
theorem mat_checkC_ent : Enters Try.prog 103 := enters_of Try.func103 (by kernel_rfl) (by kernel_rfl)
theorem mat_checkC (g : GfM) (q : Int) (hq : g.q = q) (w : Int) (A : Option Addr) (n c : Nat) (rs : List RowM) (hn : n = rs.length) (h9 : rs.length ≤ 17592186044415) (h8 : ∀ r ∈ rs, r.xs.length ≤ 17592186044415) :
  Pure Try.prog 103 #[.pointer (some g.p), .agg #[.int .i64 w, .slice A n c]] [gfR g, ro A (hdrs rs), rowsR rs] (isV (.int .i64 (rowsC q w (xss rs)))) := by
 refine pure_of (args := [.pointer (some g.p), .agg #[.int .i64 w, .slice A n c]]) 51 Try.func103 rfl rfl rfl mat_checkC_ent ⟨id, id, id, trivial⟩ (fun w0 => ?_)
 refine tS ?_
 refine tR fun _ _ _ => ?_
 refine eV (eBox rfl rfl rfl rfl rfl (fun p0 => ?_))
 refine pV ?_
 refine tS ?_
 refine tS ?_
 refine tR fun _ _ _ => ?_
 refine sV (rFld rfl rfl) ?_
 refine sV (rLdF rfl rfl rfl) ?_
 iterate 2 refine pV ?_
 refine stg rfl rfl rfl rfl rfl (fun hb => by (have hq := hb; try simp only [zbA] at hq); exact rFld rfl rfl) ?_
 refine stg rfl rfl rfl rfl rfl (fun hb => by (have hq := hb; try simp only [zbA] at hq); exact rLdF rfl (evg rfl hb) rfl) ?_
 refine stg rfl rfl rfl rfl rfl (fun hb => by (have hq := hb; try simp only [zbA] at hq); exact rGtr rfl (evg rfl hb) rfl) ?_
 refine sV (rOrB rfl rfl rfl rfl) ?_
 refine pV ?_
 refine stg rfl rfl rfl rfl rfl (fun hb => by (have hq := hb; try simp only [zbA] at hq); exact rFld rfl rfl) ?_
 refine stg rfl rfl rfl rfl rfl (fun hb => by (have hq := hb; try simp only [zbA] at hq); exact rLdF rfl (evg rfl hb) rfl) ?_
 refine stg rfl rfl rfl rfl rfl (fun hb => by (have hq := hb; try simp only [zbA] at hq); exact rLen rfl (evg rfl hb)) ?_
 refine stg rfl rfl rfl rfl rfl (fun hb => by (have hq := hb; try simp only [zbA] at hq); exact rGtr rfl (evg rfl hb) rfl) ?_
 refine sV (rOrB rfl rfl rfl rfl) ?_
 refine tC rfl (fun h1 => ?_) (fun h1 => ?_)
 ·try simp only [zbA] at h1
  refine tS ?_
  refine tR fun _ _ _ => ?_
  refine pV ?_
  exact tr_ret ⟨trivial, _, _, rfl, ⟨by rw [rowsC_shape (by rw [xss_length]; omega)], rfl⟩, CSub.nil _, trivial⟩
 ·try simp only [zbA] at h1
  refine tK ?_
  refine tS ?_
  refine tS ?_
  refine tR fun _ _ _ => ?_
  refine sV (rFld rfl rfl) ?_
  refine sV (rLdF rfl rfl rfl) ?_
  refine sV (rLen rfl rfl) ?_
  refine pV ?_
  refine tB ?_
  refine tr_loop1 (fun (k : Int) => [(27, .int .i64 k), (0, .pointer (some g.p)), (3, .pointer (some p0)), (25, .slice A n c), (26, .int .i64 n)]) (fun (k : Int) => [blk p0 58 [.int .i64 w, .slice A n c], gfR g, ro A (hdrs rs), rowsR rs]) (fun (k : Int) => (0 ≤ k ∧ k ≤ n) ∧ ∀ j : Nat, (j : Int) < k → ((rs.getD j rowD).xs.length : Int) = w) (fun (k : Int) => (n - k).toNat) (0) ⟨rfl, rfl, rfl, rfl, rfl, trivial⟩ (by first | exact cs _ _ | exact CSub.refl _) (⟨⟨by omega, by omega⟩, fun j hj => by omega⟩) (fun k hI => ?_)
  obtain ⟨⟨hk0, hk1⟩, hall⟩ := hI
  refine tS ?_
  refine tR fun _ _ _ => ?_
  refine pV ?_
  refine tS ?_
  refine tC rfl (fun h4 => ?_) (fun h4 => ?_)
  ·try simp only [zbA] at h4
   refine tK ?_
   refine tS ?_
   refine tB ?_
   refine tS ?_
   haveI : InB k.toNat rs.length := ⟨by omega⟩
   have hk8 := h8 _ (getD_mem (show k.toNat < rs.length by omega) rowD)
   refine tR fun _ _ _ => ?_
   refine sV (rIdxR rfl rfl rfl (by omega) (by omega) (by omega)) ?_
   refine sV (rLdR rfl rfl (by omega)) ?_
   refine pV ?_
   refine tS ?_
   refine tR fun _ _ _ => ?_
   refine pV ?_
   refine sV (rLen rfl rfl) ?_
   refine sV (rFld rfl rfl) ?_
   refine sV (rLdF rfl rfl rfl) ?_
   refine pV ?_
   refine tC rfl (fun h6 => ?_) (fun h6 => ?_)
   ·try simp only [zbA] at h6
    refine tS ?_
    refine tR fun _ _ _ => ?_
    refine pV ?_
    have hno := xss_no (φ := fun r => (r.length : Int) = w) (show k.toNat < rs.length by omega) (by omega)
    exact tr_ret ⟨trivial, _, _, rfl, ⟨by rw [rowsC_len hno], rfl⟩, CSub.nil _, trivial⟩
   ·try simp only [zbA] at h6
    refine tK ?_
    refine tR fun _ _ _ => ?_
    refine sV (rAdd rfl rfl rfl (by omega) (by omega)) ?_
    refine pV ?_
    refine ⟨k + 1, ⟨rfl, rfl, rfl, rfl, rfl, trivial⟩, by first | exact cs _ _ | exact CSub.refl _, ?_⟩
    refine ⟨⟨⟨by omega, by omega⟩, fun j hj => ?_⟩, by omega⟩
    by_cases he : (j : Int) = k
    ·have : j = k.toNat := by omega
     subst this; omega
    ·exact hall j (by omega)
  ·try simp only [zbA] at h4
   refine tE ?_
   refine tS ?_
   refine tS ?_
   refine tR fun _ _ _ => ?_
   refine sV (rFld rfl rfl) ?_
   refine sV (rLdF rfl rfl rfl) ?_
   refine sV (rLen rfl rfl) ?_
   refine pV ?_
   refine tB ?_
   refine tr_loop1 (fun (k : Int) => [(40, .int .i64 k), (0, .pointer (some g.p)), (38, .slice A n c), (39, .int .i64 n)]) (fun (k : Int) => [blk p0 58 [.int .i64 w, .slice A n c], gfR g, ro A (hdrs rs), rowsR rs]) (fun (k : Int) => (0 ≤ k ∧ k ≤ n) ∧ ∀ j : Nat, (j : Int) < k → AllIn q (rs.getD j rowD).xs) (fun (k : Int) => (n - k).toNat) (0) ⟨rfl, rfl, rfl, rfl, trivial⟩ (by first | exact cs _ _ | exact CSub.refl _) (⟨⟨by omega, by omega⟩, fun j hj => by omega⟩) (fun k hI => ?_)
   have hlen : ∀ r ∈ xss rs, (r.length : Int) = w := xss_get fun j hj => hall j (by omega)
   clear hall
   obtain ⟨⟨hk0, hk1⟩, hall⟩ := hI
   refine tS ?_
   refine tR fun _ _ _ => ?_
   refine pV ?_
   refine tS ?_
   refine tC rfl (fun h10 => ?_) (fun h10 => ?_)
   ·try simp only [zbA] at h10
    refine tK ?_
    refine tS ?_
    refine tB ?_
    refine tS ?_
    haveI : InB k.toNat rs.length := ⟨by omega⟩
    have hk8 := h8 _ (getD_mem (show k.toNat < rs.length by omega) rowD)
    refine tR fun _ _ _ => ?_
    refine sV (rIdxR rfl rfl rfl (by omega) (by omega) (by omega)) ?_
    refine sV (rLdR rfl rfl (by omega)) ?_
    refine pV ?_
    refine tS ?_
    refine tR fun _ _ _ => ?_
    iterate 2 refine pV ?_
    refine eV (eCallV rfl rfl rfl (mat_entriesC g q hq _ _ _ (rs.getD k.toNat rowD).xs rfl hk8) ⟨rfl, rfl, trivial⟩ ?_)
    refine pV ?_
    refine tS ?_
    refine tR fun _ _ _ => ?_
    iterate 2 refine pV ?_
    refine tC rfl (fun h13 => ?_) (fun h13 => ?_)
    ·try simp only [zbA] at h13
     have hek : ¬ AllIn q (rs.getD k.toNat rowD).xs := fun h => absurd (entC_ok h) (by omega)
     refine tS ?_
     refine tR fun _ _ _ => ?_
     iterate 2 refine pV ?_
     have hwb : 0 ≤ w ∧ w ≤ 256 ∧ (xss rs).length ≤ 256 := by rw [xss_length]; omega
     have hno := xss_no (φ := fun r => AllIn q r) (show k.toNat < rs.length by omega) hek
     exact tr_ret ⟨trivial, _, _, rfl, ⟨by rw [rowsC_ent hwb hlen hno, entC_no hek], rfl⟩, CSub.nil _, trivial⟩
    ·try simp only [zbA] at h13
     have hek : AllIn q (rs.getD k.toNat rowD).xs := by
      rcases entC_cases q (rs.getD k.toNat rowD).xs with h | h
      ·exact h.1
      ·exact absurd h.2 (by omega)
     refine tK ?_
     refine tR fun _ _ _ => ?_
     refine sV (rAdd rfl rfl rfl (by omega) (by omega)) ?_
     refine pV ?_
     refine ⟨k + 1, ⟨rfl, rfl, rfl, rfl, trivial⟩, by first | exact cs _ _ | exact CSub.refl _, ?_⟩
     refine ⟨⟨⟨by omega, by omega⟩, fun j hj => ?_⟩, by omega⟩
     by_cases he : (j : Int) = k
     ·have : j = k.toNat := by omega
      subst this; exact hek
     ·exact hall j (by omega)
   ·try simp only [zbA] at h10
    refine tE ?_
    refine tS ?_
    refine tR fun _ _ _ => ?_
    refine pV ?_
    have hwb : 0 ≤ w ∧ w ≤ 256 ∧ (xss rs).length ≤ 256 := by rw [xss_length]; omega
    have hall2 : ∀ r ∈ xss rs, AllIn q r := xss_get fun j hj => hall j (by omega)
    exact tr_ret ⟨trivial, _, _, rfl, ⟨by rw [rowsC_ok hwb hlen hall2], rfl⟩, CSub.nil _, trivial⟩
end Go.Proofs.Ytdkahdehodopoaa

namespace Go.Proofs.Ytdkahdehodopoaa
open Go.RowKit
section
variable {K : Type} [Fd K]
def pv (f : Po K) : Vc K := fun j => Po.cf f j
end
section
end
section
end
end Go.Proofs.Ytdkahdehodopoaa

namespace Go.Proofs.Ytdkahdehodopoaa
open Go.RowKit
theorem Gd.nil (q : Int) (w : Nat) : Gd q w [] := fun r hr => by simp at hr
theorem Gd.app {q : Int} {w : Nat} {rs qs : List RowM} (h : Gd q w rs) (k : Gd q w qs) : Gd q w (rs ++ qs) := fun s hs => (List.mem_append.1 hs).elim (h s) (k s)
theorem xss_snoc (rs : List RowM) (r : RowM) : xss (rs ++ [r]) = xss rs ++ [r.xs] := by simp [xss]
theorem xss_getD (rs : List RowM) (j : Nat) : (xss rs).getD j [] = (rs.getD j rowD).xs := by
 rw [List.getD_eq_getElem?_getD, List.getD_eq_getElem?_getD, xss, List.getElem?_map]
 cases rs[j]? <;> rfl
theorem Gd.xss {q : Int} {w : Nat} {rs qs : List RowM} (h : Gd q w rs) (he : xss rs = xss qs) : Gd q w qs := Gd.of (rs := rs) (qs := qs) he.symm h
section
variable {p m : Int} {mod : List Int} [hF : IsF p m mod]
theorem vsR_xss (rs : List RowM) : (vsR rs : List (Vc (El p m mod))) = (xss rs).map rw' := by simp [vsR, xss]
theorem rw_inj2 {a b : List Int} (ha : AllIn (pw p m) a) (hb : AllIn (pw p m) b) (hl : a.length = b.length) (h : (rw' a : Vc (El p m mod)) = rw' b) : a = b := ext_getD hl fun j => by
 have hq := hF.q2
 exact el_inj (p := p) (m := m) (mod := mod) (ha.get (by omega) j) (hb.get (by omega) j) (congrFun h j)
theorem rows_inj {w : Nat} {rs qs : List RowM} (h1 : Gd (pw p m) w rs) (h2 : Gd (pw p m) w qs) (h : (vsR rs : List (Vc (El p m mod))) = vsR qs) : xss rs = xss qs := by
 have hl : rs.length = qs.length := by have := congrArg List.length h; simpa using this
 refine List.ext_getElem (by simpa using hl) fun j h3 h4 => ?_
 have h3' : j < rs.length := by simpa using h3
 have h4' : j < qs.length := by simpa using h4
 have e := congrArg (fun l => l.getD j 0) h
 simp only [vsR_get] at e
 have a := h1.get h3'
 have b := h2.get h4'
 have := rw_inj2 a.2 b.2 (a.1.trans b.1.symm) e
 rw [← xss_getD, ← xss_getD, List.getD_eq_getElem?_getD, List.getD_eq_getElem?_getD, List.getElem?_eq_getElem h3, List.getElem?_eq_getElem h4] at this
 exact this
end
structure CdOf (p m : Int) (mod : List Int) [hF : IsF p m mod] (w : Nat) (rs : List RowM) (W : Vc (El p m mod) → Prop) : Prop where
 good : Gd (pw p m) w rs
 form : ∃ qs, Vc.Rr w (vsR rs : List (Vc (El p m mod))) qs
 span : ∀ u, Vc.SpL (vsR rs : List (Vc (El p m mod))) u ↔ W u
section
variable {p m : Int} {mod : List Int} [hF : IsF p m mod] {w : Nat} {rs qs r3 : List RowM} {W W' : Vc (El p m mod) → Prop}
theorem CdOf.uniq (h : CdOf p m mod w rs W) (k : CdOf p m mod w qs W) : xss rs = xss qs := by
 obtain ⟨a, ha⟩ := h.form
 obtain ⟨b, hb⟩ := k.form
 exact rows_inj h.good k.good (ha.uniq hb fun u => (h.span u).trans (k.span u).symm).1
theorem CdOf.iff (h : CdOf p m mod w rs W) (hi : ∀ u, W u ↔ W' u) : CdOf p m mod w rs W' := ⟨h.good, h.form, fun u => (h.span u).trans (hi u)⟩
theorem CdOf.eq (h : CdOf p m mod w rs W) (k : CdOf p m mod w qs W') (hi : ∀ u, W u ↔ W' u) : xss rs = xss qs := (h.iff hi).uniq k
theorem RrOf.cd {ps : List Int} (h : RrOf p m mod w rs r3 ps) (hi : ∀ u, Vc.SpL (vsR rs) u ↔ W u) : CdOf p m mod w r3 W := by
 obtain ⟨qs, _, hq⟩ := h.form
 exact ⟨h.good, ⟨qs, hq⟩, fun u => (h.span u).trans (hi u)⟩
theorem CdOf.xss (h : CdOf p m mod w rs W) (he : xss rs = xss qs) : CdOf p m mod w qs W := by
 have hv : (vsR rs : List (Vc (El p m mod))) = vsR qs := by rw [vsR_xss, vsR_xss, he]
 refine ⟨h.good.xss he, ?_, fun u => ?_⟩
 ·rw [← hv]; exact h.form
 ·rw [← hv]; exact h.span u
theorem Rr_le {K : Type} [Fd K] {n : Nat} {R : List (Vc K)} {ps : List Nat} (h : Vc.Rr n R ps) : R.length ≤ n := by
 rw [← h.len]
 have key : ∀ k : Nat, k < ps.length → k ≤ ps.getD k 0 := by
  intro k
  induction k with
  | zero => intro _; omega
  | succ k ih => intro hk; have := ih (by omega); have := h.rise k (k + 1) (by omega) hk; omega
 rcases Nat.eq_zero_or_pos ps.length with h0 | h0
 ·omega
 ·have := key (ps.length - 1) (by omega); have := h.lt (ps.length - 1) (by omega); omega
theorem CdOf.le (h : CdOf p m mod w rs W) : rs.length ≤ w := by
 obtain ⟨a, ha⟩ := h.form
 have := Rr_le ha
 simpa using this
end
def formP (p m : Int) (mod : List Int) [hF : IsF p m mod] (w : Nat) (rs : List RowM) : Prop := ∃ qs, Vc.Rr w (vsR rs : List (Vc (El p m mod))) qs
section
end
open Classical in
noncomputable def codC (p m : Int) (mod : List Int) (n : Int) (rs : List RowM) : Int :=
 if h : FldR p m mod then if n < 1 ∨ n > 64 then 4 else if rowsC (pw p m) n (xss rs) ≠ 0 then rowsC (pw p m) n (xss rs) else if @formP p m mod ⟨h⟩ n.toNat rs then 0 else 5 else 1
section
variable {p m : Int} {mod : List Int} [hF : IsF p m mod] {n : Int} {rs : List RowM}
theorem codC_ok (hb : ¬ (n < 1 ∨ n > 64)) (h : rowsC (pw p m) n (xss rs) = 0) (hf : formP p m mod n.toNat rs) : codC p m mod n rs = 0 := by unfold codC; rw [dif_pos hF.out, if_neg hb, if_neg (by omega), if_pos hf]
theorem rowsC_Gd (h : rowsC (pw p m) n (xss rs) = 0) : Gd (pw p m) n.toNat rs ∧ 0 ≤ n ∧ n ≤ 256 ∧ rs.length ≤ 256 := by
 obtain ⟨h1, h2, h3⟩ := rowsC_zero h
 rw [xss_length] at h1
 exact ⟨(Gd_iff h1.1).2 ⟨h2, h3⟩, h1.1, h1.2.1, by omega⟩
end
structure CodeOk (p m : Int) (mod : List Int) [hF : IsF p m mod] (n : Int) (rs : List RowM) : Prop where
 n1 : 1 ≤ n
 n64 : n ≤ 64
 row : rowsC (pw p m) n (xss rs) = 0
 good : Gd (pw p m) n.toNat rs
 form : formP p m mod n.toNat rs
theorem CodeOk.cd {p m : Int} {mod : List Int} [hF : IsF p m mod] {n : Int} {rs : List RowM} (h : CodeOk p m mod n rs) : CdOf p m mod n.toNat rs (Vc.SpL (vsR rs)) := ⟨h.good, h.form, fun _ => Iff.rfl⟩
theorem CodeOk.len {p m : Int} {mod : List Int} [hF : IsF p m mod] {n : Int} {rs : List RowM} (h : CodeOk p m mod n rs) : rs.length ≤ 64 := by have := h.cd.le; have := h.n64; omega
theorem CodeOk.zero {p m : Int} {mod : List Int} [hF : IsF p m mod] {n : Int} {rs : List RowM} (h : CodeOk p m mod n rs) : codC p m mod n rs = 0 := codC_ok (by have := h.n1; have := h.n64; omega) h.row h.form
theorem CdOf.ok {p m : Int} {mod : List Int} [hF : IsF p m mod] {n : Int} {rs : List RowM} {W : Vc (El p m mod) → Prop} (h : CdOf p m mod n.toNat rs W) (h1 : 1 ≤ n) (h2 : n ≤ 64) : CodeOk p m mod n rs :=
 ⟨h1, h2, rowsC_ok (by rw [xss_length]; have := h.le; omega) ((Gd_iff (by omega)).1 h.good).1 ((Gd_iff (by omega)).1 h.good).2, h.good, h.form⟩
section
end
end Go.Proofs.Ytdkahdehodopoaa

namespace Go.Proofs.Ytdkahdehodopoaa
open Go.RowKit
namespace Vc
variable {K : Type} [Fd K]
theorem Rr.mem_iff {n : Nat} {R : List (Vc K)} {ps : List Nat} (h : Rr n R ps) (u : Vc K) : SpL R u ↔ u - cmb (fun i => u (ps.getD i 0)) R = 0 := by
 constructor
 ·intro hu
  have := h.eq hu
  exact ext fun j => by rw [sub_at, ← this]; exact Rg.sub_self _
 ·intro h0
  have : u = cmb (fun i => u (ps.getD i 0)) R := ext fun j => by
   have := congrFun h0 j
   exact Rg.eq_of_sub this
  rw [this]; exact cmb_sp _ R
end Vc
section
end
end Go.Proofs.Ytdkahdehodopoaa

namespace Go.Proofs.Ytdkahdehodopoaa
open Go.RowKit
def nxI (m i : Nat) : Nat := i / m * m + (i % m + 1) % m
def pvI (m j : Nat) : Nat := j / m * m + (j % m + (m - 1)) % m
theorem blk_div {m q r : Nat} (hr : r < m) : (q * m + r) / m = q ∧ (q * m + r) % m = r := by
 rw [Nat.add_comm, Nat.mul_comm]
 exact ⟨by rw [Nat.add_mul_div_left _ _ (by omega), Nat.div_eq_of_lt hr]; omega, by rw [Nat.add_mul_mod_self_left, Nat.mod_eq_of_lt hr]⟩
theorem pv_nx {m : Nat} (hm : 1 ≤ m) (i : Nat) : pvI m (nxI m i) = i := by
 have h1 := Nat.mod_lt (i % m + 1) (show m > 0 by omega)
 have h2 := Nat.mod_lt i (show m > 0 by omega)
 have h3 := Nat.div_add_mod i m
 unfold pvI nxI
 rw [(blk_div h1).1, (blk_div h1).2]
 have : ((i % m + 1) % m + (m - 1)) % m = i % m := by
  by_cases h : i % m + 1 = m
  ·rw [h, Nat.mod_self, Nat.zero_add, Nat.mod_eq_of_lt (by omega)]; omega
  ·rw [Nat.mod_eq_of_lt (show i % m + 1 < m by omega), show i % m + 1 + (m - 1) = i % m + m by omega, Nat.add_mod_right, Nat.mod_eq_of_lt h2]
 rw [this, Nat.mul_comm]; exact h3
theorem nx_pv {m : Nat} (hm : 1 ≤ m) (j : Nat) : nxI m (pvI m j) = j := by
 have h1 := Nat.mod_lt (j % m + (m - 1)) (show m > 0 by omega)
 have h2 := Nat.mod_lt j (show m > 0 by omega)
 have h3 := Nat.div_add_mod j m
 unfold pvI nxI
 rw [(blk_div h1).1, (blk_div h1).2]
 have : ((j % m + (m - 1)) % m + 1) % m = j % m := by
  by_cases h : j % m = 0
  ·rw [h, Nat.zero_add, Nat.mod_eq_of_lt (show m - 1 < m by omega), show m - 1 + 1 = m by omega, Nat.mod_self]
  ·rw [show j % m + (m - 1) = (j % m - 1) + m by omega, Nat.add_mod_right, Nat.mod_eq_of_lt (show j % m - 1 < m by omega), show j % m - 1 + 1 = j % m by omega, Nat.mod_eq_of_lt h2]
 rw [this, Nat.mul_comm]; exact h3
theorem blk_lt {m n q r : Nat} (hd : m ∣ n) (hr : r < m) (hq : q * m < n) : q * m + r < n := by
 obtain ⟨k, rfl⟩ := hd
 have : q < k := by
  rcases Nat.lt_or_ge q k with h | h
  ·exact h
  ·have := Nat.mul_le_mul_right m h; rw [Nat.mul_comm m k] at hq; omega
 have := Nat.mul_le_mul_right m (show q + 1 ≤ k by omega)
 rw [Nat.mul_comm m k]
 rw [Nat.add_mul] at this
 omega
theorem nx_lt {m n i : Nat} (hm : 1 ≤ m) (hd : m ∣ n) (hi : i < n) : nxI m i < n := blk_lt hd (Nat.mod_lt _ (by omega)) (by have := Nat.div_mul_le_self i m; omega)
theorem pv_lt {m n j : Nat} (hm : 1 ≤ m) (hd : m ∣ n) (hj : j < n) : pvI m j < n := blk_lt hd (Nat.mod_lt _ (by omega)) (by have := Nat.div_mul_le_self j m; omega)
def shF (m : Nat) (l : List Int) : List Int := (List.range l.length).map fun j => l.getD (pvI m j) 0
@[simp] theorem shF_length (m : Nat) (l : List Int) : (shF m l).length = l.length := by simp [shF]
theorem shF_get (m : Nat) (l : List Int) {j : Nat} (h : j < l.length) : (shF m l).getD j 0 = l.getD (pvI m j) 0 := by
 unfold shF; rw [List.getD_eq_getElem?_getD, List.getElem?_map, List.getElem?_range h]; rfl
theorem shF_in {q : Int} (hq : 1 ≤ q) {m : Nat} {l : List Int} (h : AllIn q l) : AllIn q (shF m l) := fun z hz => by
 unfold shF at hz
 obtain ⟨j, _, rfl⟩ := List.mem_map.1 hz
 exact h.get hq _
theorem shF_done {m : Nat} (hm : 1 ≤ m) {l o : List Int} (hd : m ∣ l.length) (ho : o.length = l.length) (h : ∀ i, i < l.length → o.getD (nxI m i) 0 = l.getD i 0) : o = shF m l := ext_getD (by rw [ho, shF_length]) fun j => by
 by_cases hj : j < l.length
 ·rw [shF_get m l hj, ← h _ (pv_lt hm hd hj), nx_pv hm]
 ·rw [getD_out (by omega), getD_out (by rw [shF_length]; omega)]
theorem shF_step {m : Nat} (hm : 1 ≤ m) {l o : List Int} {k : Nat} (hd : m ∣ l.length) (ho : o.length = l.length) (hk : k < l.length) (h : ∀ i, i < k → o.getD (nxI m i) 0 = l.getD i 0) {i : Nat} (hi : i < k + 1) : (o.set (nxI m k) (l.getD k 0)).getD (nxI m i) 0 = l.getD i 0 := by
 rw [getD_set]
 by_cases he : nxI m k = nxI m i
 ·have : k = i := by rw [← pv_nx hm k, he, pv_nx hm]
  rw [if_pos ⟨he, by rw [← he, ho]; exact nx_lt hm hd hk⟩, this]
 ·rw [if_neg (fun e => he e.1)]
  refine h i ?_
  rcases Nat.lt_or_ge i k with h1 | h1
  ·exact h1
  ·exact absurd (by rw [show i = k by omega]) he
theorem nx_int {m i : Int} (hm : 1 ≤ m) (hi : 0 ≤ i) : i / m * m + (i - i / m * m + 1) % m = (nxI m.toNat i.toNat : Int) := by
 obtain ⟨a, rfl⟩ := Int.eq_ofNat_of_zero_le (show 0 ≤ m by omega)
 obtain ⟨b, rfl⟩ := Int.eq_ofNat_of_zero_le hi
 have e : (b : Int) - (b : Int) / (a : Int) * (a : Int) = (b : Int) % (a : Int) := by
  rw [Int.emod_def, Int.mul_comm (a : Int)]
 rw [e]
 unfold nxI
 simp only [Int.toNat_natCast]
 push_cast
 rfl
theorem nx_full {n i : Nat} (hi : i < n) : nxI n i = (i + 1) % n := by
 unfold nxI
 rw [Nat.div_eq_of_lt hi, Nat.mod_eq_of_lt hi, Nat.zero_mul, Nat.zero_add]
section
end
section
end
section
end
end Go.Proofs.Ytdkahdehodopoaa

set_option maxRecDepth 100000
namespace Go.Proofs.Ytdkahdehodopoaa
open Go.RowKit
theorem mat_openE_ent : Enters Try.prog 83 := enters_of Try.func83 (by kernel_rfl) (by kernel_rfl)
theorem mat_openE (p m : Int) (A : Option Addr) (c : Nat) (mod : List Int) (hl9 : mod.length ≤ 17592186044415) [hF : IsF p m mod] (pl : Addr) (cl : Nat) (w : Int) (Aa : Option Addr) (n ca : Nat) (rs : List RowM) (hn : n = rs.length) (h9 : rs.length ≤ 17592186044415) (h8 : ∀ r ∈ rs, r.xs.length ≤ 17592186044415) (hE : rowsC (pw p m) w (xss rs) ≠ 0) :
  Pure Try.prog 83 #[.agg #[.int .i64 p, .int .i64 m, .slice A mod.length c], .slice (some pl) 1 cl] [ro A (ints mod), ro (some pl) [.int .i64 w, .slice Aa n ca], ro Aa (hdrs rs), rowsR rs] (isV (.tuple #[.pointer none, .int .i64 (rowsC (pw p m) w (xss rs))])) := by
 refine pure_of (args := [.agg #[.int .i64 p, .int .i64 m, .slice A mod.length c], .slice (some pl) 1 cl]) 32 Try.func83 rfl rfl rfl mat_openE_ent ⟨id, id, id, id, trivial⟩ (fun w0 => ?_)
 refine tS ?_
 refine tR fun _ _ _ => ?_
 refine eV (eBox rfl rfl rfl rfl rfl (fun p0 => ?_))
 iterate 2 refine pV ?_
 refine tS ?_
 refine tR fun _ _ _ => ?_
 refine sV (rLdS rfl rfl rfl) ?_
 refine eV (eCall1 rfl rfl rfl (fld_New_ok _ _ _ _ _ hl9 hF.out) ⟨rfl, trivial⟩ ?_)
 rintro _ _ ⟨g, rfl, rfl, hg⟩
 iterate 5 refine pV ?_
 refine tS ?_
 refine tS ?_
 refine tR fun _ _ _ => ?_
 iterate 2 refine pV ?_
 refine tC rfl (fun h2 => ?_) (fun h2 => ?_)
 ·try simp only [zbA] at h2
  first | exact absurd trivial h2 | exact absurd rfl h2 | omega | (exact absurd h2 (by simp)) --done
 ·try simp only [zbA] at h2
  refine tK ?_
  refine tS ?_
  refine tS ?_
  refine tR fun _ _ _ => ?_
  refine pV ?_
  refine sV (rLenS rfl rfl) ?_
  refine pV ?_
  refine tB ?_
  refine tr_loop1 (fun (k : Int) => [(20, .int .i64 k), (6, .pointer (some g.p)), (18, .slice (some pl) 1 cl), (19, .int .i64 1)]) (fun (k : Int) => [gfN g, blk p0 24 [.int .i64 p, .int .i64 m, .slice A mod.length c], ro A (ints mod), ro (some pl) [.int .i64 w, .slice Aa n ca], ro Aa (hdrs rs), rowsR rs]) (fun (k : Int) => k = 0) (fun (k : Int) => (1 - k).toNat) (0) ⟨rfl, rfl, rfl, rfl, trivial⟩ (by first | exact cs _ _ | exact CSub.refl _) (rfl) (fun k hI => ?_)
  refine tS ?_
  refine tR fun _ _ _ => ?_
  refine pV ?_
  refine tS ?_
  refine tC rfl (fun h5 => ?_) (fun h5 => ?_)
  ·try simp only [zbA] at h5
   refine tK ?_
   refine tS ?_
   refine tB ?_
   refine tS ?_
   refine tR fun _ _ _ => ?_
   refine sV (rIdxS0 rfl rfl rfl (by omega) (by omega)) ?_
   refine sV (rLdS rfl rfl rfl) ?_
   refine eV (eAlloc rfl rfl rfl (fun p6 => ?_))
   refine eV (eStS rfl rfl rfl rfl rfl rfl ?_)
   refine tS ?_
   refine tR fun _ _ _ => ?_
   refine pV ?_
   refine sV (rLdS rfl rfl rfl) ?_
   refine eV (eCallV rfl rfl rfl (mat_checkC g (pw p m) hg.eq w _ _ _ rs hn h9 h8) ⟨rfl, rfl, trivial⟩ ?_)
   refine pV ?_
   refine tS ?_
   refine tR fun _ _ _ => ?_
   iterate 2 refine pV ?_
   refine tC rfl (fun h8 => ?_) (fun h8 => ?_)
   ·try simp only [zbA] at h8
    refine tS ?_
    refine tR fun _ _ _ => ?_
    iterate 3 refine pV ?_
    exact tr_ret ⟨trivial, _, _, rfl, ⟨rfl, rfl⟩, CSub.nil _, trivial⟩
   ·try simp only [zbA] at h8
    omega --done
  ·try simp only [zbA] at h5
   omega --done
theorem mat_openG_ent : Enters Try.prog 83 := enters_of Try.func83 (by kernel_rfl) (by kernel_rfl)
theorem mat_openG (p m : Int) (A : Option Addr) (c : Nat) (mod : List Int) (hl9 : mod.length ≤ 17592186044415) [hF : IsF p m mod] (pl : Addr) (cl : Nat) (w : Int) (Aa : Option Addr) (n ca : Nat) (rs : List RowM) (hn : n = rs.length) (h9 : rs.length ≤ 17592186044415) (h8 : ∀ r ∈ rs, r.xs.length ≤ 17592186044415) (hE : rowsC (pw p m) w (xss rs) = 0) :
  Pure Try.prog 83 #[.agg #[.int .i64 p, .int .i64 m, .slice A mod.length c], .slice (some pl) 1 cl] [ro A (ints mod), ro (some pl) [.int .i64 w, .slice Aa n ca], ro Aa (hdrs rs), rowsR rs] (one (fun v ch => ∃ g : GfM, v = .tuple #[.pointer (some g.p), .int .i64 0] ∧ ch = gfN g ∧ GOk g p m mod)) := by
 refine pure_of (args := [.agg #[.int .i64 p, .int .i64 m, .slice A mod.length c], .slice (some pl) 1 cl]) 32 Try.func83 rfl rfl rfl mat_openG_ent ⟨id, id, id, id, trivial⟩ (fun w0 => ?_)
 refine tS ?_
 refine tR fun _ _ _ => ?_
 refine eV (eBox rfl rfl rfl rfl rfl (fun p0 => ?_))
 iterate 2 refine pV ?_
 refine tS ?_
 refine tR fun _ _ _ => ?_
 refine sV (rLdS rfl rfl rfl) ?_
 refine eV (eCall1 rfl rfl rfl (fld_New_ok _ _ _ _ _ hl9 hF.out) ⟨rfl, trivial⟩ ?_)
 rintro _ _ ⟨g, rfl, rfl, hg⟩
 iterate 5 refine pV ?_
 refine tS ?_
 refine tS ?_
 refine tR fun _ _ _ => ?_
 iterate 2 refine pV ?_
 refine tC rfl (fun h2 => ?_) (fun h2 => ?_)
 ·try simp only [zbA] at h2
  first | exact absurd trivial h2 | exact absurd rfl h2 | omega | (exact absurd h2 (by simp)) --done
 ·try simp only [zbA] at h2
  refine tK ?_
  refine tS ?_
  refine tS ?_
  refine tR fun _ _ _ => ?_
  refine pV ?_
  refine sV (rLenS rfl rfl) ?_
  refine pV ?_
  refine tB ?_
  refine tr_loop1 (fun (k : Int) => [(20, .int .i64 k), (6, .pointer (some g.p)), (18, .slice (some pl) 1 cl), (19, .int .i64 1)]) (fun (k : Int) => [gfN g, blk p0 24 [.int .i64 p, .int .i64 m, .slice A mod.length c], ro A (ints mod), ro (some pl) [.int .i64 w, .slice Aa n ca], ro Aa (hdrs rs), rowsR rs]) (fun (k : Int) => 0 ≤ k ∧ k ≤ 1) (fun (k : Int) => (1 - k).toNat) (0) ⟨rfl, rfl, rfl, rfl, trivial⟩ (by first | exact cs _ _ | exact CSub.refl _) (by omega) (fun k hI => ?_)
  refine tS ?_
  refine tR fun _ _ _ => ?_
  refine pV ?_
  refine tS ?_
  refine tC rfl (fun h5 => ?_) (fun h5 => ?_)
  ·try simp only [zbA] at h5
   refine tK ?_
   refine tS ?_
   refine tB ?_
   refine tS ?_
   refine tR fun _ _ _ => ?_
   refine sV (rIdxS0 rfl rfl rfl (by omega) (by omega)) ?_
   refine sV (rLdS rfl rfl rfl) ?_
   refine eV (eAlloc rfl rfl rfl (fun p6 => ?_))
   refine eV (eStS rfl rfl rfl rfl rfl rfl ?_)
   refine tS ?_
   refine tR fun _ _ _ => ?_
   refine pV ?_
   refine sV (rLdS rfl rfl rfl) ?_
   refine eV (eCallV rfl rfl rfl (mat_checkC g (pw p m) hg.eq w _ _ _ rs hn h9 h8) ⟨rfl, rfl, trivial⟩ ?_)
   refine pV ?_
   refine tS ?_
   refine tR fun _ _ _ => ?_
   iterate 2 refine pV ?_
   refine tC rfl (fun h8 => ?_) (fun h8 => ?_)
   ·try simp only [zbA] at h8
    omega --done
   ·try simp only [zbA] at h8
    refine tK ?_
    refine tR fun _ _ _ => ?_
    refine sV (rAdd rfl rfl rfl (by omega) (by omega)) ?_
    refine pV ?_
    refine ⟨k + 1, ⟨rfl, rfl, rfl, rfl, trivial⟩, by first | exact cs _ _ | exact CSub.refl _, ?_⟩
    omega
  ·try simp only [zbA] at h5
   refine tE ?_
   refine tS ?_
   refine tR fun _ _ _ => ?_
   iterate 3 refine pV ?_
   exact tr_ret ⟨trivial, _, _, rfl, ⟨_, rfl, g, rfl, rfl, hg⟩, cs _ _, ⟨trivial, trivial, trivial, trivial⟩, trivial⟩
theorem mat_CanonicalE_ent : Enters Try.prog 50 := enters_of Try.func50 (by kernel_rfl) (by kernel_rfl)
theorem mat_CanonicalE (p m : Int) (A : Option Addr) (c : Nat) (mod : List Int) (hl9 : mod.length ≤ 17592186044415) [hF : IsF p m mod] (w : Int) (Aa : Option Addr) (n ca : Nat) (rs : List RowM) (hn : n = rs.length) (h9 : rs.length ≤ 17592186044415) (h8 : ∀ r ∈ rs, r.xs.length ≤ 17592186044415) (hE : rowsC (pw p m) w (xss rs) ≠ 0) :
  Pure Try.prog 50 #[.agg #[.int .i64 p, .int .i64 m, .slice A mod.length c], .agg #[.int .i64 w, .slice Aa n ca]] [ro A (ints mod), ro Aa (hdrs rs), rowsR rs] (isV (.tuple #[.agg #[.int .i64 0, .slice none 0 0], .slice none 0 0, .int .i64 (rowsC (pw p m) w (xss rs))])) := by
 refine pure_ofC (args := [.agg #[.int .i64 p, .int .i64 m, .slice A mod.length c], .agg #[.int .i64 w, .slice Aa n ca]]) 36 Try.func50 rfl rfl rfl mat_CanonicalE_ent ⟨id, id, id, trivial⟩ (fun w0 => ?_)
 refine tS ?_
 refine tR fun _ _ _ => ?_
 refine eV (eBox rfl rfl rfl rfl rfl (fun p0 => ?_))
 refine eV (eBox rfl rfl rfl rfl rfl (fun p0a => ?_))
 refine eV (eAlloc rfl rfl rfl (fun p0b => ?_))
 iterate 2 refine pV ?_
 refine tS ?_
 refine tR fun _ _ _ => ?_
 refine sV (rLdS rfl rfl rfl) ?_
 refine sV (rLdS rfl rfl rfl) ?_
 refine eV (eLitS rfl rfl rfl rfl (fun p1 => ?_))
 refine eV (eCallV rfl rfl rfl (mat_openE _ _ _ _ _ hl9 _ _ w Aa _ ca rs hn h9 h8 hE) ⟨rfl, rfl, trivial⟩ ?_)
 iterate 5 refine pV ?_
 refine tS ?_
 refine tS ?_
 refine tR fun _ _ _ => ?_
 iterate 2 refine pV ?_
 refine tC rfl (fun h2 => ?_) (fun h2 => ?_)
 ·try simp only [zbA] at h2
  refine tS ?_
  refine tR fun _ _ _ => ?_
  refine sV (rBuild rfl rfl) ?_
  refine pV ?_
  refine eV (eStS rfl rfl rfl rfl rfl rfl ?_)
  iterate 2 refine pV ?_
  exact tr_ret ⟨trivial, _, _, (.cell rfl (cellS rfl) (.tmp rfl (.tmp rfl .nil))), ⟨rfl, rfl⟩, CSub.nil _, trivial⟩
 ·try simp only [zbA] at h2
  omega --done
theorem mat_CanonicalG_ent : Enters Try.prog 50 := enters_of Try.func50 (by kernel_rfl) (by kernel_rfl)
theorem mat_CanonicalG (p m : Int) (A : Option Addr) (c : Nat) (mod : List Int) (hl9 : mod.length ≤ 17592186044415) [hF : IsF p m mod] (w : Int) (Aa : Option Addr) (n ca : Nat) (rs : List RowM) (hn : n = rs.length) (h9 : rs.length ≤ 17592186044415) (h8 : ∀ r ∈ rs, r.xs.length ≤ 17592186044415) (hE : rowsC (pw p m) w (xss rs) = 0) :
  Pure Try.prog 50 #[.agg #[.int .i64 p, .int .i64 m, .slice A mod.length c], .agg #[.int .i64 w, .slice Aa n ca]] [ro A (ints mod), ro Aa (hdrs rs), rowsR rs] (three (fun v ca cb cc => ∃ B r3 Bp cp ps, v = .tuple #[.agg #[.int .i64 w, .slice B r3.length r3.length], .slice Bp ps.length cp, .int .i64 0] ∧ ca = rx B (hdrs r3) ∧ cb = rowsCh 3 r3 ∧ cc = ow Bp 3 cp (ints ps) ∧ RrOf p m mod w.toNat rs r3 ps ∧ r3.length ≤ rs.length)) := by
 obtain ⟨hb, hlen, hin⟩ := rowsC_zero hE
 rw [xss_length] at hb
 have hgd : Gd (pw p m) w.toNat rs := (Gd_iff hb.1).2 ⟨hlen, hin⟩
 refine pure_ofC (args := [.agg #[.int .i64 p, .int .i64 m, .slice A mod.length c], .agg #[.int .i64 w, .slice Aa n ca]]) 36 Try.func50 rfl rfl rfl mat_CanonicalG_ent ⟨id, id, id, trivial⟩ (fun w0 => ?_)
 refine tS ?_
 refine tR fun _ _ _ => ?_
 refine eV (eBox rfl rfl rfl rfl rfl (fun p0 => ?_))
 refine eV (eBox rfl rfl rfl rfl rfl (fun p0a => ?_))
 refine eV (eAlloc rfl rfl rfl (fun p0b => ?_))
 iterate 2 refine pV ?_
 refine tS ?_
 refine tR fun _ _ _ => ?_
 refine sV (rLdS rfl rfl rfl) ?_
 refine sV (rLdS rfl rfl rfl) ?_
 refine eV (eLitS rfl rfl rfl rfl (fun p1 => ?_))
 refine eV (eCall1 rfl rfl rfl (mat_openG _ _ _ _ _ hl9 _ _ w Aa _ ca rs hn h9 h8 hE) ⟨rfl, rfl, trivial⟩ ?_)
 rintro _ _ ⟨g, rfl, rfl, hg⟩
 iterate 5 refine pV ?_
 refine tS ?_
 refine tS ?_
 refine tR fun _ _ _ => ?_
 iterate 2 refine pV ?_
 refine tC rfl (fun h2 => ?_) (fun h2 => ?_)
 ·try simp only [zbA] at h2
  first | exact absurd trivial h2 | exact absurd rfl h2 | omega | (exact absurd h2 (by simp)) --done
 ·try simp only [zbA] at h2
  refine tK ?_
  refine tS ?_
  refine tR fun _ _ _ => ?_
  refine pV ?_
  refine sV (rFld rfl rfl) ?_
  refine sV (rLdF rfl rfl rfl) ?_
  refine sV (rFld rfl rfl) ?_
  refine sV (rLdF rfl rfl rfl) ?_
  refine eV (eCall3 rfl rfl rfl (mat_canon g hg w (by omega) (by omega) _ _ _ rs hn (by omega) hgd) ⟨rfl, rfl, rfl, trivial⟩ ?_)
  rintro _ _ _ _ ⟨B, r3, Bp, cp, ps, rfl, rfl, rfl, rfl, hR, hk⟩
  iterate 5 refine pV ?_
  refine tS ?_
  refine tR fun _ _ _ => ?_
  refine sV (rFld rfl rfl) ?_
  refine sV (rLdF rfl rfl rfl) ?_
  refine pV ?_
  refine sV (rBuild rfl rfl) ?_
  refine pV ?_
  refine eV (eStS rfl rfl rfl rfl rfl rfl ?_)
  iterate 2 refine pV ?_
  exact tr_ret ⟨trivial, _, _, (.cell rfl (cellS rfl) (.tmp rfl (.tmp rfl .nil))), ⟨_, _, _, rfl, B, r3, Bp, cp, ps, rfl, rfl, rfl, rfl, hR, hk⟩, cs _ _, trivial, trivial, trivial, trivial⟩
theorem code_own_ent : Enters Try.prog 85 := enters_of Try.func85 (by kernel_rfl) (by kernel_rfl)
theorem code_own (p m : Int) (A : Option Addr) (c : Nat) (mod : List Int) (hl9 : mod.length ≤ 1000000) :
  Pure Try.prog 85 #[.agg #[.int .i64 p, .int .i64 m, .slice A mod.length c]] [ro A (ints mod)] (one (fun v ch => ∃ B cb, v = .agg #[.int .i64 p, .int .i64 m, .slice B mod.length cb] ∧ ch = ow B 3 cb (ints mod))) := by
 refine pure_ofC (args := [.agg #[.int .i64 p, .int .i64 m, .slice A mod.length c]]) 8 Try.func85 rfl rfl rfl code_own_ent ⟨id, trivial⟩ (fun w0 => ?_)
 refine tS ?_
 refine tR fun _ _ _ => ?_
 refine eV (eBox rfl rfl rfl rfl rfl (fun p0 => ?_))
 refine eV (eAlloc rfl rfl rfl (fun p0a => ?_))
 refine tS ?_
 refine tR fun _ _ _ => ?_
 refine sV (rFld rfl rfl) ?_
 refine sV (rLdF rfl rfl rfl) ?_
 refine eV (eCall1 rfl rfl rfl (slc_Clone _ _ _ (by omega)) ⟨rfl, trivial⟩ ?_)
 rintro _ _ ⟨B1, c1, rfl, rfl⟩
 refine sV (rFld rfl rfl) ?_
 refine eV (eStF rfl rfl rfl rfl rfl (by simp) rfl rfl ?_)
 refine tS ?_
 refine tR fun _ _ _ => ?_
 refine sV (rLdS rfl rfl rfl) ?_
 refine eV (eStS rfl rfl rfl rfl rfl rfl ?_)
 exact tr_ret ⟨trivial, _, _, (.cell rfl (cellS rfl) .nil), ⟨_, rfl, B1, c1, rfl, rfl⟩, cs _ _, trivial, trivial⟩
theorem code_of_ent : Enters Try.prog 52 := enters_of Try.func52 (by kernel_rfl) (by kernel_rfl)
theorem code_of (p m : Int) (A : Option Addr) (c : Nat) (mod : List Int) (hl9 : mod.length ≤ 1000000) (w : Int) (Aa : Option Addr) (n ca : Nat) :
  Pure Try.prog 52 #[.agg #[.int .i64 p, .int .i64 m, .slice A mod.length c], .agg #[.int .i64 w, .slice Aa n ca], .int .i64 0] [ro A (ints mod)] (one (fun v ch => ∃ B cb, v = .tuple #[.agg #[.int .i64 p, .int .i64 m, .slice B mod.length cb, .int .i64 w, .slice Aa n ca], .int .i64 0] ∧ ch = ow B 3 cb (ints mod))) := by
 refine pure_ofC (args := [.agg #[.int .i64 p, .int .i64 m, .slice A mod.length c], .agg #[.int .i64 w, .slice Aa n ca], .int .i64 0]) 19 Try.func52 rfl rfl rfl code_of_ent ⟨id, trivial⟩ (fun w0 => ?_)
 refine tS ?_
 refine tR fun _ _ _ => ?_
 refine eV (eBox rfl rfl rfl rfl rfl (fun p0 => ?_))
 refine eV (eBox rfl rfl rfl rfl rfl (fun p0a => ?_))
 refine eV (eAlloc rfl rfl rfl (fun p0b => ?_))
 refine pV ?_
 refine tS ?_
 refine tS ?_
 refine tR fun _ _ _ => ?_
 iterate 2 refine pV ?_
 refine tC rfl (fun h1 => ?_) (fun h1 => ?_)
 ·try simp only [zbA] at h1
  first | exact absurd trivial h1 | exact absurd rfl h1 | omega | (exact absurd h1 (by simp)) --done
 ·try simp only [zbA] at h1
  refine tK ?_
  refine tS ?_
  refine tr_draw [0, 2, 3, 4, 5, 1, 6] [7, 8] mixed (by kernel_rfl) fun _ _ _ => ?_
  refine sV (rLdS rfl rfl rfl) ?_
  refine sV (rFld rfl rfl) ?_
  refine sV (rLdF rfl rfl rfl) ?_
  refine sV (rFld rfl rfl) ?_
  refine sV (rLdF rfl rfl rfl) ?_
  refine eV (eCall1 rfl rfl rfl (code_own _ _ _ _ _ (by omega)) ⟨rfl, trivial⟩ ?_)
  rintro _ _ ⟨B3, c3, rfl, rfl⟩
  refine sV (rBuild rfl rfl) ?_
  refine eV (eStS rfl rfl rfl rfl rfl rfl ?_)
  refine pV ?_
  exact tr_ret ⟨trivial, _, _, (.cell rfl (cellS rfl) (.tmp rfl .nil)), ⟨_, rfl, B3, c3, rfl, rfl⟩, cs _ _, trivial, trivial⟩
theorem code_ofE_ent : Enters Try.prog 52 := enters_of Try.func52 (by kernel_rfl) (by kernel_rfl)
theorem code_ofE (p m : Int) (A : Option Addr) (c : Nat) (mod : List Int) (hl9 : mod.length ≤ 17592186044415) (w : Int) (Aa : Option Addr) (n ca : Nat) (e : Int) (he : e ≠ 0) :
  Pure Try.prog 52 #[.agg #[.int .i64 p, .int .i64 m, .slice A mod.length c], .agg #[.int .i64 w, .slice Aa n ca], .int .i64 e] [] (isV (.tuple #[.agg #[.int .i64 0, .int .i64 0, .slice none 0 0, .int .i64 0, .slice none 0 0], .int .i64 e])) := by
 refine pure_ofC (args := [.agg #[.int .i64 p, .int .i64 m, .slice A mod.length c], .agg #[.int .i64 w, .slice Aa n ca], .int .i64 e]) 19 Try.func52 rfl rfl rfl code_ofE_ent trivial (fun w0 => ?_)
 refine tS ?_
 refine tR fun _ _ _ => ?_
 refine eV (eBox rfl rfl rfl rfl rfl (fun p0 => ?_))
 refine eV (eBox rfl rfl rfl rfl rfl (fun p0a => ?_))
 refine eV (eAlloc rfl rfl rfl (fun p0b => ?_))
 refine pV ?_
 refine tS ?_
 refine tS ?_
 refine tR fun _ _ _ => ?_
 iterate 2 refine pV ?_
 refine tC rfl (fun h1 => ?_) (fun h1 => ?_)
 ·try simp only [zbA] at h1
  refine tS ?_
  refine tR fun _ _ _ => ?_
  refine sV (rBuild rfl rfl) ?_
  refine pV ?_
  refine eV (eStS rfl rfl rfl rfl rfl rfl ?_)
  refine pV ?_
  exact tr_ret ⟨trivial, _, _, (.cell rfl (cellS rfl) (.tmp rfl .nil)), ⟨rfl, rfl⟩, CSub.nil _, trivial⟩
 ·try simp only [zbA] at h1
  exact absurd (by simpa using h1) he --done
theorem code_length_ent : Enters Try.prog 51 := enters_of Try.func51 (by kernel_rfl) (by kernel_rfl)
theorem code_length (n : Int) :
  Pure Try.prog 51 #[.int .i64 n] [] (isV (.int .i64 (if n < 1 ∨ n > 64 then 4 else 0))) := by
 refine pure_of (args := [.int .i64 n]) 9 Try.func51 rfl rfl rfl code_length_ent trivial (fun w0 => ?_)
 refine tS ?_
 refine tR fun _ _ _ => ?_
 refine pV ?_
 refine tS ?_
 refine tS ?_
 refine tR fun _ _ _ => ?_
 iterate 3 refine pV ?_
 refine stg rfl rfl rfl rfl rfl (fun hb => by (have hq := hb; try simp only [zbA] at hq); exact rMove rfl rfl) ?_
 refine stg rfl rfl rfl rfl rfl (fun hb => by (have hq := hb; try simp only [zbA] at hq); exact rGtr rfl (evg rfl hb) rfl) ?_
 refine sV (rOrB rfl rfl rfl rfl) ?_
 refine tC rfl (fun h1 => ?_) (fun h1 => ?_)
 ·try simp only [zbA] at h1
  refine tS ?_
  refine tR fun _ _ _ => ?_
  refine pV ?_
  exact tr_ret ⟨trivial, _, _, rfl, ⟨by rw [if_pos (by omega)], rfl⟩, CSub.nil _, trivial⟩
 ·try simp only [zbA] at h1
  refine tK ?_
  refine tS ?_
  refine tR fun _ _ _ => ?_
  refine pV ?_
  exact tr_ret ⟨trivial, _, _, rfl, ⟨by rw [if_neg (by omega)], rfl⟩, CSub.nil _, trivial⟩
theorem code_lengthOk (n : Int) (h1 : 1 ≤ n) (h2 : n ≤ 64) : Pure Try.prog 51 #[.int .i64 n] [] (isV (.int .i64 0)) := by
 have := code_length n
 rwa [if_neg (by omega)] at this
theorem rowsC_gd {q w : Int} {rs : List RowM} (h0 : 0 ≤ w) (h1 : w ≤ 256) (h2 : rs.length ≤ 256) (h : Gd q w.toNat rs) : rowsC q w (xss rs) = 0 :=
 rowsC_ok (by rw [xss_length]; exact ⟨h0, h1, by omega⟩) ((Gd_iff h0).1 h).1 ((Gd_iff h0).1 h).2
theorem Gd.h8 {q : Int} {w N : Nat} {rs : List RowM} (h : Gd q w rs) (hw : w ≤ N) : ∀ r ∈ rs, r.xs.length ≤ N := fun r hr => by have := (h r hr).1; omega
theorem IsF.short {p m : Int} {mod : List Int} (hF : IsF p m mod) : mod.length ≤ 8 := by
 have h := hF.out.1.1
 have := h.m8
 rcases h.low with h1 | h1
 ·rw [h1.2]; simp
 ·have := h1.2; omega
theorem code_New_ent : Enters Try.prog 21 := enters_of Try.func21 (by kernel_rfl) (by kernel_rfl)
theorem code_New (p m : Int) (A : Option Addr) (c : Nat) (mod : List Int) [hF : IsF p m mod] (w : Int) (Aa : Option Addr) (n ca : Nat) (rs : List RowM) (hn : n = rs.length) (h9 : rs.length ≤ 256) (hw1 : 1 ≤ w) (hw64 : w ≤ 64) (hgd : Gd (pw p m) w.toNat rs) :
  Pure Try.prog 21 #[.agg #[.int .i64 p, .int .i64 m, .slice A mod.length c], .agg #[.int .i64 w, .slice Aa n ca]] [ro A (ints mod), ro Aa (hdrs rs), rowsR rs] (three (fun v ca cb cc => ∃ Bm cm B r3, v = .tuple #[.agg #[.int .i64 p, .int .i64 m, .slice Bm mod.length cm, .int .i64 w, .slice B r3.length r3.length], .int .i64 0] ∧ ca = ow Bm 3 cm (ints mod) ∧ cb = rx B (hdrs r3) ∧ cc = rowsCh 3 r3 ∧ CdOf p m mod w.toNat r3 (fun u => Vc.SpL (vsR rs : List (Vc (El p m mod))) u))) := by
 have hl8 := hF.short
 have hE := rowsC_gd (by omega) (by omega) h9 hgd
 refine pure_ofC (args := [.agg #[.int .i64 p, .int .i64 m, .slice A mod.length c], .agg #[.int .i64 w, .slice Aa n ca]]) 27 Try.func21 rfl rfl rfl code_New_ent ⟨id, id, id, trivial⟩ (fun w0 => ?_)
 refine tS ?_
 refine tR fun _ _ _ => ?_
 refine eV (eBox rfl rfl rfl rfl rfl (fun p0 => ?_))
 refine eV (eBox rfl rfl rfl rfl rfl (fun p0a => ?_))
 refine eV (eAlloc rfl rfl rfl (fun p0b => ?_))
 refine pV ?_
 refine tS ?_
 refine tR fun _ _ _ => ?_
 refine sV (rLdS rfl rfl rfl) ?_
 refine sV (rLdS rfl rfl rfl) ?_
 refine eV (eCall3 rfl rfl rfl (mat_CanonicalG _ _ _ _ _ (by omega) w _ _ _ rs hn (by omega) (hgd.h8 (by omega)) hE) ⟨rfl, rfl, trivial⟩ ?_)
 rintro _ _ _ _ ⟨B, r3, Bp, cp, ps, rfl, rfl, rfl, rfl, hR, hk⟩
 iterate 4 refine pV ?_
 refine eV (eAlloc rfl rfl rfl (fun p1a => ?_))
 refine eV (eStS rfl rfl rfl rfl rfl rfl ?_)
 iterate 2 refine pV ?_
 refine tS ?_
 refine tS ?_
 refine tR fun _ _ _ => ?_
 iterate 2 refine pV ?_
 refine tC rfl (fun h2 => ?_) (fun h2 => ?_)
 ·try simp only [zbA] at h2
  refine tR fun _ _ _ => ?_
  refine sV (rFld rfl rfl) ?_
  refine sV (rLdF rfl rfl rfl) ?_
  refine eV (eCallV rfl rfl rfl (code_lengthOk w hw1 hw64) ⟨rfl, trivial⟩ ?_)
  refine pV ?_
  refine tS ?_
  refine tR fun _ _ _ => ?_
  refine sV (rLdS rfl rfl rfl) ?_
  refine sV (rLdS rfl rfl rfl) ?_
  refine pV ?_
  refine eV (eCall1 rfl rfl rfl (code_of _ _ _ _ _ (by omega) _ _ _ _) ⟨rfl, rfl, rfl, trivial⟩ ?_)
  rintro _ _ ⟨B4, c4, rfl, rfl⟩
  iterate 2 refine pV ?_
  refine eV (eStS rfl rfl rfl rfl rfl rfl ?_)
  refine pV ?_
  exact tr_ret ⟨trivial, _, _, (.cell rfl (cellS rfl) (.tmp rfl .nil)), ⟨_, _, _, rfl, B4, c4, B, r3, rfl, rfl, rfl, rfl, hR.cd fun u => Iff.rfl⟩, cs _ _, trivial, trivial, trivial, trivial⟩
 ·try simp only [zbA] at h2
  first | exact absurd trivial h2 | exact absurd rfl h2 | omega | (exact absurd h2 (by simp)) --done
theorem ref_CField_ent : Enters Try.prog 59 := enters_of Try.func59 (by kernel_rfl) (by kernel_rfl)
theorem ref_CField (p m : Int) (A : Option Addr) (c : Nat) (mod : List Int) (hl9 : mod.length ≤ 1000000) :
  Pure Try.prog 59 #[.agg #[.int .i64 p, .int .i64 m, .slice A mod.length c]] [ro A (ints mod)] (one (fun v ch => ∃ B cb, v = .agg #[.int .i64 p, .int .i64 m, .slice B mod.length cb] ∧ ch = ow B 3 cb (ints mod))) := by
 refine pure_ofC (args := [.agg #[.int .i64 p, .int .i64 m, .slice A mod.length c]]) 12 Try.func59 rfl rfl rfl ref_CField_ent ⟨id, trivial⟩ (fun w0 => ?_)
 refine tS ?_
 refine tR fun _ _ _ => ?_
 refine eV (eBox rfl rfl rfl rfl rfl (fun p0 => ?_))
 refine eV (eAlloc rfl rfl rfl (fun p0a => ?_))
 refine tS ?_
 refine tr_plan [blk p0 24 [.int .i64 p, .int .i64 m, .slice A mod.length c]] [(2, 0), (2, 1), (2, 2), (2, 3), (0, 5), (0, 6), (0, 4), (1, 7), (0, 8), (1, 9)] mixed (by kernel_rfl) fun _ _ _ => ?_
 refine stF rfl rfl rfl rfl (cs _ _) (rFld rfl rfl) ?_
 refine stF rfl rfl rfl rfl (cs _ _) (rLdF rfl rfl rfl) ?_
 refine stF rfl rfl rfl rfl (cs _ _) (rFld rfl rfl) ?_
 refine stF rfl rfl rfl rfl (cs _ _) (rLdF rfl rfl rfl) ?_
 refine sV (rFld rfl rfl) ?_
 refine sV (rLdF rfl rfl rfl) ?_
 refine eV (eLit0I rfl rfl rfl  (fun A1 => ?_))
 refine eV (eAppI rfl rfl rfl rfl rfl (by first | rfl | simp | omega) (by first | rfl | simp | omega) (by first | omega | (simp; omega)) (fun A1a c1a => ?_))
 refine ⟨cs _ _, ?_⟩
 refine sV (rBuild rfl rfl) ?_
 refine eV (eStS rfl rfl rfl rfl rfl rfl ?_)
 refine ⟨cs _ _, ?_⟩
 simp only [List.nil_append]
 exact tr_ret ⟨trivial, _, _, (.cell rfl (cellS rfl) .nil), ⟨_, rfl, A1a, c1a, rfl, rfl⟩, cs _ _, trivial, trivial⟩
theorem ref_Make_ent : Enters Try.prog 27 := enters_of Try.func27 (by kernel_rfl) (by kernel_rfl)
theorem ref_Make (p m : Int) (A : Option Addr) (c : Nat) (mod : List Int) [hF : IsF p m mod] (w : Int) (Aa : Option Addr) (n ca : Nat) (rs : List RowM) (hn : n = rs.length) (h9 : rs.length ≤ 1000000) (hw1 : 1 ≤ w) (hw64 : w ≤ 64) (hgd : Gd (pw p m) w.toNat rs) :
  Pure Try.prog 27 #[.agg #[.int .i64 p, .int .i64 m, .slice A mod.length c], .slice Aa n ca, .int .i64 w] [ro A (ints mod), ro Aa (hdrs rs), rowsR rs] (three (fun v ca cb cc => ∃ Bm cm B cg r3, v = .agg #[.int .i64 p, .int .i64 m, .slice Bm mod.length cm, .int .i64 w, .slice B r3.length cg] ∧ ca = ow Bm 3 cm (ints mod) ∧ cb = ow B 22 cg (hdrs r3) ∧ cc = rowsCh 3 r3 ∧ CdOf p m mod w.toNat r3 (fun u => Vc.SpL (vsR rs : List (Vc (El p m mod))) u))) := by
 have hl8 := hF.short
 refine pure_ofC (args := [.agg #[.int .i64 p, .int .i64 m, .slice A mod.length c], .slice Aa n ca, .int .i64 w]) 21 Try.func27 rfl rfl rfl ref_Make_ent ⟨id, id, id, trivial⟩ (fun w0 => ?_)
 refine tS ?_
 refine tR fun _ _ _ => ?_
 refine eV (eBox rfl rfl rfl rfl rfl (fun p0 => ?_))
 refine eV (eAlloc rfl rfl rfl (fun p0a => ?_))
 refine tS ?_
 refine tR fun _ _ _ => ?_
 refine sV (rLdS rfl rfl rfl) ?_
 iterate 2 refine pV ?_
 refine eV (eCall3 rfl rfl rfl (ref_RCanon _ _ _ _ _ w (by omega) (by omega) _ _ _ rs hn (by omega) hgd) ⟨rfl, rfl, rfl, trivial⟩ ?_)
 rintro _ _ _ _ ⟨r3, B, cg, Bp, cp, ps, rfl, rfl, rfl, rfl, hR, hk⟩
 iterate 5 refine pV ?_
 refine tS ?_
 refine tR fun _ _ _ => ?_
 refine sV (rLdS rfl rfl rfl) ?_
 refine eV (eCall1 rfl rfl rfl (ref_CField _ _ _ _ _ (by omega)) ⟨rfl, trivial⟩ ?_)
 rintro _ _ ⟨B2, c2, rfl, rfl⟩
 iterate 2 refine pV ?_
 refine sV (rBuild rfl rfl) ?_
 refine eV (eStS rfl rfl rfl rfl rfl rfl ?_)
 exact tr_ret ⟨trivial, _, _, (.cell rfl (cellS rfl) .nil), ⟨_, _, _, rfl, B2, c2, B, cg, r3, rfl, rfl, rfl, rfl, hR.cd fun u => Iff.rfl⟩, cs _ _, trivial, trivial, trivial, trivial⟩
theorem ref_FSame_ent : Enters Try.prog 24 := enters_of Try.func24 (by kernel_rfl) (by kernel_rfl)
theorem ref_FSame (p m : Int) (A : Option Addr) (c : Nat) (mod : List Int) (p2 m2 : Int) (A2 : Option Addr) (c2 : Nat) (mod2 : List Int) (hl9 : mod.length ≤ 17592186044415) :
  Pure Try.prog 24 #[.agg #[.int .i64 p, .int .i64 m, .slice A mod.length c], .agg #[.int .i64 p2, .int .i64 m2, .slice A2 mod2.length c2]] [ro A (ints mod), ro A2 (ints mod2)] (isV (.bool (decide (p = p2 ∧ m = m2 ∧ mod = mod2)))) := by
 refine pure_of (args := [.agg #[.int .i64 p, .int .i64 m, .slice A mod.length c], .agg #[.int .i64 p2, .int .i64 m2, .slice A2 mod2.length c2]]) 45 Try.func24 rfl rfl rfl ref_FSame_ent ⟨id, id, trivial⟩ (fun w0 => ?_)
 refine tS ?_
 refine tR fun _ _ _ => ?_
 refine eV (eBox rfl rfl rfl rfl rfl (fun p0 => ?_))
 refine eV (eBox rfl rfl rfl rfl rfl (fun p0a => ?_))
 refine pV ?_
 refine tS ?_
 refine tS ?_
 refine tR fun _ _ _ => ?_
 refine sV (rFld rfl rfl) ?_
 refine sV (rLdF rfl rfl rfl) ?_
 refine sV (rFld rfl rfl) ?_
 refine sV (rLdF rfl rfl rfl) ?_
 iterate 2 refine pV ?_
 refine stg rfl rfl rfl rfl rfl (fun hb => by (have hq := hb; try simp only [zbA] at hq); exact rFld rfl rfl) ?_
 refine stg rfl rfl rfl rfl rfl (fun hb => by (have hq := hb; try simp only [zbA] at hq); exact rLdF rfl (evg rfl hb) rfl) ?_
 refine stg rfl rfl rfl rfl rfl (fun hb => by (have hq := hb; try simp only [zbA] at hq); exact rFld rfl rfl) ?_
 refine stg rfl rfl rfl rfl rfl (fun hb => by (have hq := hb; try simp only [zbA] at hq); exact rLdF rfl (evg rfl hb) rfl) ?_
 refine stg rfl rfl rfl rfl rfl (fun hb => by (have hq := hb; try simp only [zbA] at hq); exact rNeq rfl (evg rfl hb) (evg rfl hb)) ?_
 refine sV (rOrB rfl rfl rfl rfl) ?_
 refine pV ?_
 refine stg rfl rfl rfl rfl rfl (fun hb => by (have hq := hb; try simp only [zbA] at hq); exact rFld rfl rfl) ?_
 refine stg rfl rfl rfl rfl rfl (fun hb => by (have hq := hb; try simp only [zbA] at hq); exact rLdF rfl (evg rfl hb) rfl) ?_
 refine stg rfl rfl rfl rfl rfl (fun hb => by (have hq := hb; try simp only [zbA] at hq); exact rLen rfl (evg rfl hb)) ?_
 refine stg rfl rfl rfl rfl rfl (fun hb => by (have hq := hb; try simp only [zbA] at hq); exact rFld rfl rfl) ?_
 refine stg rfl rfl rfl rfl rfl (fun hb => by (have hq := hb; try simp only [zbA] at hq); exact rLdF rfl (evg rfl hb) rfl) ?_
 refine stg rfl rfl rfl rfl rfl (fun hb => by (have hq := hb; try simp only [zbA] at hq); exact rLen rfl (evg rfl hb)) ?_
 refine stg rfl rfl rfl rfl rfl (fun hb => by (have hq := hb; try simp only [zbA] at hq); exact rNeq rfl (evg rfl hb) (evg rfl hb)) ?_
 refine sV (rOrB rfl rfl rfl rfl) ?_
 refine tC rfl (fun h1 => ?_) (fun h1 => ?_)
 ·try simp only [zbA] at h1
  refine tS ?_
  refine tR fun _ _ _ => ?_
  refine pV ?_
  exact tr_ret ⟨trivial, _, _, rfl, ⟨by rw [decide_eq_false (fun h => by obtain ⟨ha, hb, hc⟩ := h; rw [ha, hb, hc] at h1; omega)], rfl⟩, CSub.nil _, trivial⟩
 ·try simp only [zbA] at h1
  refine tK ?_
  refine tS ?_
  refine tS ?_
  refine tR fun _ _ _ => ?_
  refine pV ?_
  refine tB ?_
  refine tr_loop1 (fun (i : Nat) => [(5, .int .i64 i), (2, .pointer (some p0)), (3, .pointer (some p0a))]) (fun (i : Nat) => [blk p0 24 [.int .i64 p, .int .i64 m, .slice A mod.length c], blk p0a 24 [.int .i64 p2, .int .i64 m2, .slice A2 mod2.length c2], ro A (ints mod), ro A2 (ints mod2)]) (fun (i : Nat) => i ≤ mod.length ∧ mod.take i = mod2.take i) (fun (i : Nat) => mod.length - i) (0) ⟨rfl, rfl, rfl, trivial⟩ (by first | exact cs _ _ | exact CSub.refl _) (⟨by omega, rfl⟩) (fun i hI => ?_)
  obtain ⟨hi, ht⟩ := hI
  have hll : mod.length = mod2.length := by omega
  refine tS ?_
  refine tS ?_
  refine tR fun _ _ _ => ?_
  refine pV ?_
  refine sV (rFld rfl rfl) ?_
  refine sV (rLdF rfl rfl rfl) ?_
  refine sV (rLen rfl rfl) ?_
  refine pV ?_
  refine tC rfl (fun h4 => ?_) (fun h4 => ?_)
  ·try simp only [zbA] at h4
   refine tK ?_
   refine tS ?_
   refine tB ?_
   refine tS ?_
   refine tr_draw [0, 1, 2, 3, 4, 5, 6, 7, 8, 9, 10] [] mixed (by kernel_rfl) fun _ _ _ => ?_
   refine sV (rFld rfl rfl) ?_
   refine sV (rLdF rfl rfl rfl) ?_
   refine pV ?_
   refine sV (rIdxI rfl rfl rfl (by omega) (by omega) (by omega)) ?_
   refine sV (rLdI rfl rfl (by omega)) ?_
   refine sV (rFld rfl rfl) ?_
   refine sV (rLdF rfl rfl rfl) ?_
   refine pV ?_
   refine sV (rIdxI rfl rfl rfl (by omega) (by omega) (by omega)) ?_
   refine sV (rLdI rfl rfl (by omega)) ?_
   refine pV ?_
   refine tC rfl (fun h6 => ?_) (fun h6 => ?_)
   ·try simp only [zbA] at h6
    refine tS ?_
    refine tR fun _ _ _ => ?_
    refine pV ?_
    exact tr_ret ⟨trivial, _, _, rfl, ⟨by rw [decide_eq_false (fun h => h6 (by rw [h.2.2]))], rfl⟩, CSub.nil _, trivial⟩
   ·try simp only [zbA] at h6
    refine tK ?_
    refine tR fun _ _ _ => ?_
    refine pV ?_
    refine sV (rAdd rfl rfl rfl (by omega) (by omega)) ?_
    refine pV ?_
    refine ⟨i + 1, ⟨rfl, rfl, rfl, trivial⟩, by first | exact cs _ _ | exact CSub.refl _, ?_⟩
    exact ⟨⟨by omega, take_eq_next 0 mod mod2 hll (by omega) ht (by simpa using h6)⟩, by omega⟩
  ·try simp only [zbA] at h4
   refine tE ?_
   refine tS ?_
   refine tR fun _ _ _ => ?_
   refine pV ?_
   have hia : i = mod.length := by omega
   rw [hia, List.take_length, hll, List.take_length] at ht
   exact tr_ret ⟨trivial, _, _, rfl, ⟨by rw [decide_eq_true ⟨by omega, by omega, ht⟩], rfl⟩, CSub.nil _, trivial⟩
theorem ref_CSame_ent : Enters Try.prog 7 := enters_of Try.func7 (by kernel_rfl) (by kernel_rfl)
theorem ref_CSame (p m : Int) (A : Option Addr) (c : Nat) (mod : List Int) (hl9 : mod.length ≤ 17592186044415) (w : Int) (B : Option Addr) (n d : Nat) (rs : List RowM) (hn : n = rs.length) (h9 : rs.length ≤ 1000000000000) (h8 : ∀ r ∈ rs, r.xs.length ≤ 1000000000000) (p2 m2 : Int) (A2 : Option Addr) (c2 : Nat) (mod2 : List Int) (w2 : Int) (B2 : Option Addr) (n2 d2 : Nat) (qs : List RowM) (hn2 : n2 = qs.length) :
  Pure Try.prog 7 #[.agg #[.int .i64 p, .int .i64 m, .slice A mod.length c, .int .i64 w, .slice B n d], .agg #[.int .i64 p2, .int .i64 m2, .slice A2 mod2.length c2, .int .i64 w2, .slice B2 n2 d2]] [ro A (ints mod), ro B (hdrs rs), rowsR rs, ro A2 (ints mod2), ro B2 (hdrs qs), rowsR qs] (isV (.bool ((decide (p = p2 ∧ m = m2 ∧ mod = mod2) && decide (w = w2)) && decide (xss rs = xss qs)))) := by
 refine pure_of (args := [.agg #[.int .i64 p, .int .i64 m, .slice A mod.length c, .int .i64 w, .slice B n d], .agg #[.int .i64 p2, .int .i64 m2, .slice A2 mod2.length c2, .int .i64 w2, .slice B2 n2 d2]]) 24 Try.func7 rfl rfl rfl ref_CSame_ent ⟨id, id, id, id, id, id, trivial⟩ (fun w0 => ?_)
 refine tS ?_
 refine tR fun _ _ _ => ?_
 refine eV (eBox rfl rfl rfl rfl rfl (fun p0 => ?_))
 refine eV (eBox rfl rfl rfl rfl rfl (fun p0a => ?_))
 refine pV ?_
 refine tS ?_
 refine tR fun _ _ _ => ?_
 refine sV (rFld rfl rfl) ?_
 refine sV (rLdSF rfl rfl) ?_
 refine sV (rFld rfl rfl) ?_
 refine sV (rLdSF rfl rfl) ?_
 refine eV (eCallV rfl rfl rfl (ref_FSame _ _ _ _ _ _ _ _ _ _ hl9) ⟨rfl, rfl, trivial⟩ ?_)
 refine pV ?_
 refine stg rfl rfl rfl rfl rfl (fun hb => by (have hq := hb; try simp only [zbA] at hq); exact rFld rfl rfl) ?_
 refine stg rfl rfl rfl rfl rfl (fun hb => by (have hq := hb; try simp only [zbA] at hq); exact rLdF rfl (evg rfl hb) rfl) ?_
 refine stg rfl rfl rfl rfl rfl (fun hb => by (have hq := hb; try simp only [zbA] at hq); exact rFld rfl rfl) ?_
 refine stg rfl rfl rfl rfl rfl (fun hb => by (have hq := hb; try simp only [zbA] at hq); exact rLdF rfl (evg rfl hb) rfl) ?_
 refine stg rfl rfl rfl rfl rfl (fun hb => by (have hq := hb; try simp only [zbA] at hq); exact rEql rfl (evg rfl hb) (evg rfl hb)) ?_
 refine sV (rAndB rfl rfl rfl rfl) ?_
 refine pV ?_
 refine stg rfl rfl rfl rfl rfl (fun hb => by (have hq := hb; try simp only [zbA] at hq); exact rFld rfl rfl) ?_
 refine stg rfl rfl rfl rfl rfl (fun hb => by (have hq := hb; try simp only [zbA] at hq); exact rLdF rfl (evg rfl hb) rfl) ?_
 refine stg rfl rfl rfl rfl rfl (fun hb => by (have hq := hb; try simp only [zbA] at hq); exact rFld rfl rfl) ?_
 refine stg rfl rfl rfl rfl rfl (fun hb => by (have hq := hb; try simp only [zbA] at hq); exact rLdF rfl (evg rfl hb) rfl) ?_
 refine efg rfl rfl rfl rfl rfl (fun hb => by (have hq := hb; try simp only [zbA] at hq); exact eCallV rfl rfl rfl (ref_SameRows _ _ _ rs hn _ _ _ qs hn2 h9 h8) ⟨(evg rfl hb), (evg rfl hb), trivial⟩ ⟨rfl, rfl⟩) ?_
 refine sV (rAndB rfl rfl rfl rfl) ?_
 refine pV ?_
 exact tr_ret ⟨trivial, _, _, rfl, ⟨rfl, rfl⟩, CSub.nil _, trivial⟩
end Go.Proofs.Ytdkahdehodopoaa

set_option maxRecDepth 100000
namespace Go.Proofs.Ytdkahdehodopoaa
open Go.RowKit
theorem fld_CheckN_ent : Enters Try.prog 17 := enters_of Try.func17 (by kernel_rfl) (by kernel_rfl)
theorem fld_CheckN (p m : Int) (A : Option Addr) (c : Nat) (mod : List Int) (hl9 : mod.length ≤ 17592186044415) (hsh : bShp p m mod = false) :
  Pure Try.prog 17 #[.agg #[.int .i64 p, .int .i64 m, .slice A mod.length c]] [ro A (ints mod)] (isV (.int .i64 1)) := by
 refine pure_of (args := [.agg #[.int .i64 p, .int .i64 m, .slice A mod.length c]]) 16 Try.func17 rfl rfl rfl fld_CheckN_ent ⟨id, trivial⟩ (fun w0 => ?_)
 refine tS ?_
 refine tR fun _ _ _ => ?_
 refine eV (eBox rfl rfl rfl rfl rfl (fun p0 => ?_))
 refine pV ?_
 refine tS ?_
 refine tS ?_
 refine tr_draw [0, 1, 2, 3, 4, 5, 6, 7, 8, 9, 10, 11, 12] [] mixed (by kernel_rfl) fun _ _ _ => ?_
 refine sV (rLdS rfl rfl rfl) ?_
 refine eV (eCallV rfl rfl rfl (fld_shape _ _ _ _ _ (by omega)) ⟨rfl, trivial⟩ ?_)
 refine sV (rNotB rfl rfl) ?_
 refine pV ?_
 refine skF rfl rfl (by simp [hsh]) rfl rfl ?_
 refine skF rfl rfl (by simp [hsh]) rfl rfl ?_
 refine skF rfl rfl (by simp [hsh]) rfl rfl ?_
 refine skF rfl rfl (by simp [hsh]) rfl rfl ?_
 refine skF rfl rfl (by simp [hsh]) rfl rfl ?_
 refine skF rfl rfl (by simp [hsh]) rfl rfl ?_
 refine skF rfl rfl (by simp [hsh]) rfl rfl ?_
 refine skF rfl rfl (by simp [hsh]) rfl rfl ?_
 refine sV (rPick1 rfl rfl (by simp [hsh]) rfl) ?_
 refine tC rfl (fun h1 => ?_) (fun h1 => ?_)
 ·try simp only [zbA] at h1
  refine tS ?_
  refine tR fun _ _ _ => ?_
  refine pV ?_
  exact tr_ret ⟨trivial, _, _, rfl, ⟨rfl, rfl⟩, CSub.nil _, trivial⟩
 ·try simp only [zbA] at h1
  first | exact absurd trivial h1 | exact absurd rfl h1 | omega | (exact absurd h1 (by simp)) --done
theorem fld_CheckS_ent : Enters Try.prog 17 := enters_of Try.func17 (by kernel_rfl) (by kernel_rfl)
theorem fld_CheckS (p m : Int) (A : Option Addr) (c : Nat) (mod : List Int) (hl9 : mod.length ≤ 17592186044415) (hsh : bShp p m mod = true) :
  Pure Try.prog 17 #[.agg #[.int .i64 p, .int .i64 m, .slice A mod.length c]] [ro A (ints mod)] (isV (.int .i64 (chkF p m mod))) := by
 have hs1 := ((bShp_iff p m mod).1 hsh).1
 have hs2 := (bShp_iff p m mod).1 hsh
 refine pure_of (args := [.agg #[.int .i64 p, .int .i64 m, .slice A mod.length c]]) 16 Try.func17 rfl rfl rfl fld_CheckS_ent ⟨id, trivial⟩ (fun w0 => ?_)
 refine tS ?_
 refine tR fun _ _ _ => ?_
 refine eV (eBox rfl rfl rfl rfl rfl (fun p0 => ?_))
 refine pV ?_
 refine tS ?_
 refine tS ?_
 refine tr_draw [0, 1, 2, 3, 4, 5, 6, 7, 8, 9, 10, 11, 12] [] mixed (by kernel_rfl) fun _ _ _ => ?_
 refine sV (rLdS rfl rfl rfl) ?_
 refine eV (eCallV rfl rfl rfl (fld_shape _ _ _ _ _ (by omega)) ⟨rfl, trivial⟩ ?_)
 refine sV (rNotB rfl rfl) ?_
 refine pV ?_
 refine stT rfl rfl rfl (by simp [hsh]) rfl rfl (rLdS rfl rfl rfl) ?_
 refine stT rfl rfl rfl (by simp [hsh]) rfl rfl (rFld rfl rfl) ?_
 refine stT rfl rfl rfl (by simp [hsh]) rfl rfl (rLdF rfl rfl rfl) ?_
 refine stT rfl rfl rfl (by simp [hsh]) rfl rfl (rFld rfl rfl) ?_
 refine stT rfl rfl rfl (by simp [hsh]) rfl rfl (rLdF rfl rfl rfl) ?_
 refine efT rfl rfl rfl (by simp [hsh]) (eCallV rfl rfl rfl (fld_order _ _) ⟨rfl, rfl, trivial⟩ ?_)
 refine efT rfl rfl rfl (by simp [hsh]) (eCall1 rfl rfl rfl (fld_gen _ _ _ _ _ hs1 _ hs1.ord) ⟨rfl, rfl, trivial⟩ ?_)
 rintro _ _ ⟨B, l, cb, rfl, hl, hn, rfl⟩
 refine stT rfl rfl rfl (by simp [hsh]) rfl rfl (rNilS rfl rfl rfl) ?_
 refine sV (rPick0 rfl rfl (by simp [hsh]) rfl) ?_
 refine tC rfl (fun h1 => ?_) (fun h1 => ?_)
 ·try simp only [zbA] at h1
  refine tr_emptyI (A := B) (xs := l) (fun hemp => ?_)
  have hl0 := hemp h1
  refine tS ?_
  refine tR fun _ _ _ => ?_
  refine pV ?_
  rw [hl0] at hl
  exact tr_ret ⟨trivial, _, _, rfl, ⟨by rw [chkF_no fun h => hl.nil (fldN_iff.2 h).2], rfl⟩, CSub.nil _, trivial⟩
 ·try simp only [zbA] at h1
  refine tK ?_
  refine tS ?_
  refine tR fun _ _ _ => ?_
  refine pV ?_
  have hgn : l ≠ [] := fun h => by
   rw [hn h] at h1
   simp at h1
  have hF : FldR p m mod := fldN_iff.1 ⟨hs2, by
   rcases hl with ⟨x, h⟩ | h
   ·exact ⟨x, l, h⟩
   ·exact absurd h.1 hgn⟩
  exact tr_ret ⟨trivial, _, _, rfl, ⟨by rw [chkF_ok hF], rfl⟩, CSub.nil _, trivial⟩
theorem fld_Check (p m : Int) (A : Option Addr) (c : Nat) (mod : List Int) (hl9 : mod.length ≤ 17592186044415) : Pure Try.prog 17 #[.agg #[.int .i64 p, .int .i64 m, .slice A mod.length c]] [ro A (ints mod)] (isV (.int .i64 (chkF p m mod))) := by
 cases hsh : bShp p m mod with
 | true => exact fld_CheckS p m A c mod hl9 hsh
 | false =>
  have h := fld_CheckN p m A c mod hl9 hsh
  rwa [← chkF_no (p := p) (m := m) (mod := mod) (fun h => by rw [bShp_true h.1] at hsh; cases hsh)] at h
end Go.Proofs.Ytdkahdehodopoaa

set_option maxRecDepth 100000
namespace Go.Proofs.Ytdkahdehodopoaa
open Go.RowKit
end Go.Proofs.Ytdkahdehodopoaa

set_option maxRecDepth 100000
namespace Go.Proofs.Ytdkahdehodopoaa
open Go.RowKit
theorem cyc_shift_ent : Enters Try.prog 20 := enters_of Try.func20 (by kernel_rfl) (by kernel_rfl)
theorem cyc_shift (m : Int) (hm : 1 ≤ m) (hm9 : m ≤ 100000) (X : Option Addr) (nx cx : Nat) (l : List Int) (hnx : nx = l.length) (hl9 : l.length ≤ 100000) (hd : m.toNat ∣ l.length) :
  Pure Try.prog 20 #[.slice X nx cx, .int .i64 m] [ro X (ints l)] (one (fun v ch => ∃ B, v = .slice B l.length l.length ∧ ch = ow B 3 l.length (ints (shF m.toNat l)))) := by
 refine pure_of (args := [.slice X nx cx, .int .i64 m]) 37 Try.func20 rfl rfl rfl cyc_shift_ent ⟨id, trivial⟩ (fun w0 => ?_)
 refine tS ?_
 refine tR fun _ _ _ => ?_
 refine pV ?_
 refine tS ?_
 subst hnx
 refine tR fun _ _ _ => ?_
 refine pV ?_
 refine sV (rLen rfl rfl) ?_
 refine eV (eMakeI rfl rfl rfl rfl rfl (by omega) (by omega) (by omega) (fun A1 => ?_))
 refine pV ?_
 simp only [Int.toNat_natCast]
 refine tS ?_
 refine tS ?_
 refine tR fun _ _ _ => ?_
 refine pV ?_
 refine sV (rLen rfl rfl) ?_
 refine pV ?_
 refine tB ?_
 refine tr_loop2 (fun (k : Int) (o : List Int) => [(5, .slice A1 l.length l.length), (12, .int .i64 l.length), (13, .int .i64 k), (0, .slice X l.length cx), (1, .int .i64 m), (4, .slice none 0 0)]) (fun (k : Int) (o : List Int) => [ow A1 3 l.length (ints o), ro X (ints l)]) (fun (k : Int) (o : List Int) => (0 ≤ k ∧ k ≤ l.length) ∧ o.length = l.length ∧ ∀ i : Nat, (i : Int) < k → o.getD (nxI m.toNat i) 0 = l.getD i 0) (fun (k : Int) (o : List Int) => (l.length - k).toNat) (0) (List.replicate l.length 0) ⟨rfl, rfl, rfl, rfl, rfl, rfl, trivial⟩ (by first | exact cs _ _ | exact CSub.refl _) (⟨⟨by omega, by omega⟩, by simp, fun j hj => by omega⟩) (fun k o hI => ?_)
 obtain ⟨⟨hk0, hk1⟩, hol, ho⟩ := hI
 refine tS ?_
 refine tR fun _ _ _ => ?_
 refine pV ?_
 refine tS ?_
 refine tC rfl (fun h3 => ?_) (fun h3 => ?_)
 ·try simp only [zbA] at h3
  refine tK ?_
  refine tS ?_
  refine tB ?_
  refine tS ?_
  refine tR fun _ _ _ => ?_
  iterate 2 refine pV ?_
  refine tS ?_
  have hb0 : 0 ≤ k / m * m := Int.mul_nonneg (Int.ediv_nonneg hk0 (by omega)) (by omega)
  have hb1 : k / m * m ≤ k := Int.ediv_mul_le k (by omega)
  have hb2 := Int.emod_nonneg (k - k / m * m + 1) (show m ≠ 0 by omega)
  have hb3 := Int.emod_lt_of_pos (k - k / m * m + 1) (show 0 < m by omega)
  have hnx := nx_int hm hk0
  have hnl := nx_lt (m := m.toNat) (n := l.length) (i := k.toNat) (by omega) hd (by omega)
  refine tR fun _ _ _ => ?_
  iterate 2 refine pV ?_
  refine sV (rQuo rfl rfl rfl (by omega) (by omega)) ?_
  refine pV ?_
  refine sV (rMul rfl rfl rfl (by omega) (by omega)) ?_
  refine pV ?_
  refine tr_draw [0, 1, 2, 3, 4, 5, 6, 7, 8, 9, 10, 11, 12, 13] [14] mixed (by kernel_rfl) fun _ _ _ => ?_
  iterate 4 refine pV ?_
  refine sV (rSub rfl rfl rfl (by omega) (by omega)) ?_
  refine sV (rAdd rfl rfl rfl (by omega) (by omega)) ?_
  refine pV ?_
  refine sV (rRem rfl rfl rfl (by omega) (by omega)) ?_
  refine sV (rAdd rfl rfl rfl (by omega) (by omega)) ?_
  iterate 2 refine pV ?_
  refine sV (rIdxI rfl rfl rfl (by omega) (by omega) (by omega)) ?_
  refine sV (rLdI rfl rfl (by omega)) ?_
  refine sV (rIdxI rfl rfl rfl (by omega) (by omega) (by omega)) ?_
  refine eV (eStI rfl rfl rfl rfl (by omega) ?_)
  rw [hnx, Int.toNat_natCast]
  refine tR fun _ _ _ => ?_
  refine sV (rAdd rfl rfl rfl (by omega) (by omega)) ?_
  refine pV ?_
  refine ⟨k + 1, o.set (nxI m.toNat k.toNat) (l.getD k.toNat 0), ⟨rfl, rfl, rfl, rfl, rfl, rfl, trivial⟩, by first | exact cs _ _ | exact CSub.refl _, ?_⟩
  refine ⟨⟨⟨by omega, by omega⟩, by simpa using hol, fun i hi => ?_⟩, by omega⟩
  exact shF_step (m := m.toNat) (by omega) (hd) hol (by omega) (fun i hi => ho i (by omega)) (by omega)
 ·try simp only [zbA] at h3
  refine tE ?_
  refine tS ?_
  refine tR fun _ _ _ => ?_
  iterate 2 refine pV ?_
  have hfin : o = shF m.toNat l := shF_done (by omega) (hd) hol fun i hi => ho i (by omega)
  rw [← hfin]
  exact tr_ret ⟨trivial, _, _, rfl, ⟨_, rfl, A1, rfl, rfl⟩, cs _ _, trivial, trivial⟩
theorem ref_Shift_ent : Enters Try.prog 57 := enters_of Try.func57 (by kernel_rfl) (by kernel_rfl)
theorem ref_Shift (X : Option Addr) (nx cx : Nat) (l : List Int) (hnx : nx = l.length) (hl9 : l.length ≤ 100000) :
  Pure Try.prog 57 #[.slice X nx cx] [ro X (ints l)] (one (fun v ch => ∃ B, v = .slice B l.length l.length ∧ ch = ow B 3 l.length (ints (shF l.length l)))) := by
 refine pure_of (args := [.slice X nx cx]) 26 Try.func57 rfl rfl rfl ref_Shift_ent ⟨id, trivial⟩ (fun w0 => ?_)
 refine tS ?_
 refine tR fun _ _ _ => ?_
 refine pV ?_
 refine tS ?_
 subst hnx
 refine tR fun _ _ _ => ?_
 refine pV ?_
 refine sV (rLen rfl rfl) ?_
 refine eV (eMakeI rfl rfl rfl rfl rfl (by omega) (by omega) (by omega) (fun A1 => ?_))
 refine pV ?_
 simp only [Int.toNat_natCast]
 refine tS ?_
 refine tS ?_
 refine tR fun _ _ _ => ?_
 refine pV ?_
 refine tB ?_
 refine tr_loop2 (fun (k : Int) (o : List Int) => [(3, .slice A1 l.length l.length), (4, .int .i64 k), (0, .slice X l.length cx), (2, .slice none 0 0)]) (fun (k : Int) (o : List Int) => [ow A1 3 l.length (ints o), ro X (ints l)]) (fun (k : Int) (o : List Int) => (0 ≤ k ∧ k ≤ l.length) ∧ o.length = l.length ∧ ∀ i : Nat, (i : Int) < k → o.getD (nxI l.length i) 0 = l.getD i 0) (fun (k : Int) (o : List Int) => (l.length - k).toNat) (0) (List.replicate l.length 0) ⟨rfl, rfl, rfl, rfl, trivial⟩ (by first | exact cs _ _ | exact CSub.refl _) (⟨⟨by omega, by omega⟩, by simp, fun j hj => by omega⟩) (fun k o hI => ?_)
 obtain ⟨⟨hk0, hk1⟩, hol, ho⟩ := hI
 refine tS ?_
 refine tS ?_
 refine tR fun _ _ _ => ?_
 iterate 2 refine pV ?_
 refine sV (rLen rfl rfl) ?_
 refine pV ?_
 refine tC rfl (fun h3 => ?_) (fun h3 => ?_)
 ·try simp only [zbA] at h3
  refine tK ?_
  refine tS ?_
  refine tB ?_
  have hb2 := Int.emod_nonneg (k + 1) (show (l.length : Int) ≠ 0 by omega)
  have hb3 := Int.emod_lt_of_pos (k + 1) (show 0 < (l.length : Int) by omega)
  have hnx : ((k + 1) % (l.length : Int)).toNat = nxI l.length k.toNat := by
   rw [nx_full (by omega), ← Int.toNat_natCast (n := (k.toNat + 1) % l.length)]
   congr 1
   push_cast
   rw [Int.toNat_of_nonneg hk0]
  refine tr_draw [0, 1, 2, 3, 4, 5, 6, 7, 8, 9, 10] [11] mixed (by kernel_rfl) fun _ _ _ => ?_
  iterate 2 refine pV ?_
  refine sV (rAdd rfl rfl rfl (by omega) (by omega)) ?_
  refine pV ?_
  refine sV (rLen rfl rfl) ?_
  refine sV (rRem rfl rfl rfl (by omega) (by omega)) ?_
  iterate 2 refine pV ?_
  refine sV (rIdxI rfl rfl rfl (by omega) (by omega) (by omega)) ?_
  refine sV (rLdI rfl rfl (by omega)) ?_
  refine sV (rIdxI rfl rfl rfl (by omega) (by omega) (by omega)) ?_
  refine eV (eStI rfl rfl rfl rfl (by omega) ?_)
  rw [hnx]
  refine tR fun _ _ _ => ?_
  refine pV ?_
  refine sV (rAdd rfl rfl rfl (by omega) (by omega)) ?_
  refine pV ?_
  refine ⟨k + 1, o.set (nxI l.length k.toNat) (l.getD k.toNat 0), ⟨rfl, rfl, rfl, rfl, trivial⟩, by first | exact cs _ _ | exact CSub.refl _, ?_⟩
  refine ⟨⟨⟨by omega, by omega⟩, by simpa using hol, fun i hi => ?_⟩, by omega⟩
  exact shF_step (m := l.length) (by omega) (Nat.dvd_refl _) hol (by omega) (fun i hi => ho i (by omega)) (by omega)
 ·try simp only [zbA] at h3
  refine tE ?_
  refine tS ?_
  refine tR fun _ _ _ => ?_
  iterate 2 refine pV ?_
  by_cases hl0 : l.length = 0
  ·have hfin : o = shF l.length l := by
    have h1 : o = [] := List.length_eq_zero_iff.1 (by omega)
    have h2 : l = [] := List.length_eq_zero_iff.1 hl0
    rw [h1, h2]; rfl
   rw [← hfin]
   exact tr_ret ⟨trivial, _, _, rfl, ⟨_, rfl, A1, rfl, rfl⟩, cs _ _, trivial, trivial⟩
  have hfin : o = shF l.length l := shF_done (by omega) (Nat.dvd_refl _) hol fun i hi => ho i (by omega)
  rw [← hfin]
  exact tr_ret ⟨trivial, _, _, rfl, ⟨_, rfl, A1, rfl, rfl⟩, cs _ _, trivial, trivial⟩
theorem ref_ShiftW (w : Nat) (X : Option Addr) (nx cx : Nat) (l : List Int) (hnx : nx = l.length) (hl9 : l.length ≤ 100000) (hw : l.length = w) : Pure Try.prog 57 #[.slice X nx cx] [ro X (ints l)] (one (fun v ch => ∃ B, v = .slice B l.length l.length ∧ ch = ow B 3 l.length (ints (shF w l)))) := by
 subst hw
 exact ref_Shift X nx cx l hnx hl9
end Go.Proofs.Ytdkahdehodopoaa

set_option maxRecDepth 100000
namespace Go.Proofs.Ytdkahdehodopoaa
open Go.RowKit
theorem pv_add {m : Nat} (hm : 1 ≤ m) (q r : Nat) : pvI m (q * m + r) = q * m + pvI m r := by
 unfold pvI
 rw [Nat.add_comm (q * m) r, Nat.mul_comm q m, Nat.add_mul_div_left _ _ (show 0 < m by omega), Nat.add_mul_mod_self_left, Nat.add_mul, Nat.mul_comm q m]
 omega
theorem ref_Blocks_ent : Enters Try.prog 26 := enters_of Try.func26 (by kernel_rfl) (by kernel_rfl)
theorem ref_Blocks (X : Option Addr) (nx cx : Nat) (l : List Int) (hnx : nx = l.length) (hl9 : l.length ≤ 100000) (hcx : l.length ≤ cx) (m : Int) (hm : 1 ≤ m) (hm9 : m ≤ 100000) (hd : m.toNat ∣ l.length) :
  Pure Try.prog 26 #[.slice X nx cx, .int .i64 m] [ro X (ints l)] (one (fun v ch => ∃ B cb, v = .slice B (shF m.toNat l).length cb ∧ ch = ow B 3 cb (ints (shF m.toNat l)))) := by
 refine pure_of (args := [.slice X nx cx, .int .i64 m]) 24 Try.func26 rfl rfl rfl ref_Blocks_ent ⟨id, trivial⟩ (fun w0 => ?_)
 refine tS ?_
 refine tR fun _ _ _ => ?_
 refine pV ?_
 refine tS ?_
 refine tR fun _ _ _ => ?_
 refine pV ?_
 refine tS ?_
 refine tS ?_
 refine tR fun _ _ _ => ?_
 refine pV ?_
 refine tB ?_
 refine tr_nilI 3 ?_
 refine tr_loop4 (fun (k : Int) (D : Option Addr) (cd : Nat) (o : List Int) => [(5, .slice D o.length cd), (6, .int .i64 k), (0, .slice X nx cx), (1, .int .i64 m), (4, .slice none 0 0)]) (fun (k : Int) (D : Option Addr) (cd : Nat) (o : List Int) => [ow D 3 cd (ints o), ro X (ints l)]) (fun (k : Int) (D : Option Addr) (cd : Nat) (o : List Int) => (0 ≤ k ∧ k ≤ l.length) ∧ (o.length : Int) = k ∧ (∃ b : Nat, k.toNat = b * m.toNat) ∧ ∀ j : Nat, (j : Int) < k → o.getD j 0 = l.getD (pvI m.toNat j) 0) (fun (k : Int) (D : Option Addr) (cd : Nat) (o : List Int) => (l.length - k).toNat) (0) (none) (0) ([]) ⟨rfl, rfl, rfl, rfl, rfl, trivial⟩ (by first | exact cs _ _ | exact CSub.refl _) (⟨⟨by omega, by omega⟩, rfl, ⟨0, by omega⟩, fun j hj => by omega⟩) (fun k D cd o hI => ?_)
 obtain ⟨⟨hk0, hk1⟩, hol, hkb, ho⟩ := hI
 refine tS ?_
 refine tS ?_
 refine tR fun _ _ _ => ?_
 iterate 2 refine pV ?_
 refine sV (rLen rfl rfl) ?_
 refine pV ?_
 refine tC rfl (fun h3 => ?_) (fun h3 => ?_)
 ·try simp only [zbA] at h3
  refine tK ?_
  refine tS ?_
  refine tB ?_
  obtain ⟨b, hb⟩ := hkb
  have hkl : k.toNat + m.toNat ≤ l.length := by
   obtain ⟨c, hc⟩ := hd
   have h1 : b < c := by
    rcases Nat.lt_or_ge b c with h | h
    ·exact h
    ·have := Nat.mul_le_mul_right m.toNat h; rw [Nat.mul_comm m.toNat c] at hc; omega
   have h2 := Nat.mul_le_mul_right m.toNat (show b + 1 ≤ c by omega)
   rw [Nat.add_mul, Nat.mul_comm c] at h2
   omega
  refine tr_chunks _ ((cs _ [ro X (ints l), ow D 3 cd (ints o)]).trans (ro_partI k.toNat m.toNat cx (by omega) _)) ?_
  have hpl : ((l.drop k.toNat).take m.toNat).length = m.toNat := by rw [List.length_take, List.length_drop]; omega
  refine tR fun _ _ _ => ?_
  iterate 5 refine pV ?_
  refine sV (rAdd rfl rfl rfl (by omega) (by omega)) ?_
  refine sV (rCutLH rfl rfl rfl rfl (by omega) (by omega) (by omega)) ?_
  refine eV (eCall1 rfl rfl rfl (ref_ShiftW m.toNat _ _ _ ((l.drop k.toNat).take m.toNat) (by rw [hpl]; omega) (by omega) hpl) ⟨rfl, trivial⟩ ?_)
  rintro _ _ ⟨Bs, rfl, rfl⟩
  refine eV (eAppI rfl rfl rfl rfl rfl (by first | rfl | simp | omega) (by first | rfl | simp | omega) (by first | omega | (simp; omega)) (fun A5a c5a => ?_))
  refine pV ?_
  refine tR fun _ _ _ => ?_
  iterate 2 refine pV ?_
  refine sV (rAdd rfl rfl rfl (by omega) (by omega)) ?_
  refine pV ?_
  refine ⟨k + m, A5a, c5a, o ++ shF m.toNat ((l.drop k.toNat).take m.toNat), ⟨rfl, rfl, rfl, rfl, rfl, trivial⟩, by first | exact cs _ _ | exact CSub.refl _, ?_⟩
  refine ⟨⟨⟨by omega, by omega⟩, by rw [List.length_append, shF_length, hpl]; omega, ⟨b + 1, by rw [Nat.add_mul]; omega⟩, fun j hj => ?_⟩, by omega⟩
  rw [List.getD_eq_getElem?_getD]
  rcases Nat.lt_or_ge j o.length with h1 | h1
  ·rw [List.getElem?_append_left h1, ← List.getD_eq_getElem?_getD]; exact ho j (by omega)
  ·have hr : j - o.length < m.toNat := by omega
   have hp := pv_lt (m := m.toNat) (n := m.toNat) (j := j - o.length) (by omega) (Nat.dvd_refl _) hr
   rw [List.getElem?_append_right h1, ← List.getD_eq_getElem?_getD, shF_get _ _ (by rw [hpl]; exact hr)]
   rw [List.getD_eq_getElem?_getD, List.getElem?_take, if_pos hp, List.getElem?_drop, ← List.getD_eq_getElem?_getD]
   congr 1
   have := pv_add (m := m.toNat) (by omega) b (j - o.length)
   rw [show b * m.toNat + (j - o.length) = j by omega] at this
   omega
 ·try simp only [zbA] at h3
  refine tE ?_
  refine tS ?_
  refine tR fun _ _ _ => ?_
  iterate 2 refine pV ?_
  have hkl : k = l.length := by omega
  have hfin : o = shF m.toNat l := ext_getD (by rw [shF_length]; omega) fun j => by
   by_cases hj : j < l.length
   ·rw [shF_get _ _ hj]; exact ho j (by omega)
   ·rw [getD_out (by omega), getD_out (by rw [shF_length]; omega)]
  rw [← hfin]
  exact tr_ret ⟨trivial, _, _, rfl, ⟨_, rfl, D, cd, rfl, rfl⟩, cs _ _, trivial, trivial⟩
end Go.Proofs.Ytdkahdehodopoaa

namespace Go.Proofs.Ytdkahdehodopoaa
open Go.RowKit
end Go.Proofs.Ytdkahdehodopoaa

namespace Go.Proofs.Ytdkahdehodopoaa
open Go.RowKit
theorem row_ro {rs : List RowM} {r : RowM} (h : r ∈ rs) (F : List Chunk) : CSub (rowsR rs :: F) (ro r.A (ints r.xs) :: rowsR rs :: F) :=
 CSub.dup (c := rowsR rs) (d := ro r.A (ints r.xs)) ⟨fun w hs => hs r h, fun b hb => ⟨r, h, hb⟩, fun h => h⟩ (fun h => h) F
theorem ro_join {c1 c2 d : Chunk} (h1 : ¬ c1.excl) (h2 : ¬ c2.excl) (hd : ¬ d.excl) (hs : ∀ w, c1.sat w → c2.sat w → d.sat w) (hf : ∀ b, d.foot b → c1.foot b ∨ c2.foot b) (F : List Chunk) : CSub (c1 :: c2 :: F) (d :: F) := fun M w0 w Z hm => by
 have hsep := hm.sep
 simp only [List.cons_append, List.pairwise_cons] at hsep
 refine ⟨hm.upd, fun c hc => ?_, ?_, fun c hc hex b hb => ?_⟩
 ·rcases List.mem_cons.1 hc with rfl | hc
  ·exact hs w (hm.sat c1 (by simp)) (hm.sat c2 (by simp))
  ·exact hm.sat c (by simp only [List.cons_append, List.mem_cons]; exact .inr (.inr hc))
 ·simp only [List.cons_append, List.pairwise_cons]
  refine ⟨fun c hc hex b hb => ?_, hsep.2.2⟩
  rcases hf b hb with hb | hb
  ·exact hsep.1 c (List.mem_cons_of_mem _ hc) (hex.elim (fun h => absurd h hd) .inr) b hb
  ·exact hsep.2.1 c hc (hex.elim (fun h => absurd h hd) .inr) b hb
 ·rcases List.mem_cons.1 hc with rfl | hc
  ·exact absurd hex hd
  ·exact hm.own c (by simp only [List.cons_append, List.mem_cons]; exact .inr (.inr hc)) hex b hb
theorem rowsR_snoc {rs : List RowM} {r : RowM} (F : List Chunk) : CSub (rowsR rs :: ro r.A (ints r.xs) :: F) (rowsR (rs ++ [r]) :: F) :=
 ro_join (fun h => h) (fun h => h) (fun h => h) (fun w h1 h2 s hs => by
  rcases List.mem_append.1 hs with hs | hs
  ·exact h1 s hs
  ·simp only [List.mem_singleton] at hs
   subst hs; exact h2) (fun b hb => by
  obtain ⟨s, hs, hf⟩ := hb
  rcases List.mem_append.1 hs with hs | hs
  ·exact .inl ⟨s, hs, hf⟩
  ·simp only [List.mem_singleton] at hs
   subst hs; exact .inr hf) F
end Go.Proofs.Ytdkahdehodopoaa

namespace Go.Proofs.Ytdkahdehodopoaa
open Go.RowKit
section
variable {P : Program}
theorem zeroCells_one (z : Value) (m : Nat) : Builtin.zeroCells #[z] m = (List.replicate m z).toArray := by
 apply Array.ext
 ·simp [Builtin.zeroCells]
 ·intro j h1 h2
  simp [Builtin.zeroCells, Nat.mod_one]
theorem wrap_i64 {m : Nat} (h : m ≤ 17592186044416) : IntKind.i64.wrap (m : Int) = m := (IntWalk.i64_in _ ⟨by omega, by omega⟩)
theorem run_app_zeros (w : World) (t ti ty e : TypeId) (i : TypeInfo) (z : Value) (k : IntKind) (bytes : Nat) (ht : P.underlying t = some (.slice e)) (hti : P.underlying ti = some (.int k)) (hi : P.info? e = some i) (hz : i.zero = some z)
  (hsize : i.size = 1) (hby : i.bytes = bytes) (hzs : z.cells = #[z]) (ho : z.oneCell' = true) (v : Value) (n : Nat) (xs : List Value) (hown : w.ownsRow 0 e 1 v n xs) (m : Nat) (hm9 : m ≤ 17592186044416)
  (h63 : n + m ≤ maxLen) (hbytes : (n + m) * bytes ≤ 140737488355328) :
  ∃ v' w', (Builtin.append_ #[t, ti] ty #[v, .int .i64 m]).run P w = .ok v' w' ∧ w'.ownsRow 0 e 1 v' (n + m) (xs ++ List.replicate m z) ∧ w.grownBy w' v.ownBlock ∧ (v'.ownBlock = v.ownBlock ∨ v'.ownBlock = some w.heap.size) := by
 subst hby
 have hsmall : n + m ≤ 9223372036854775807 := by simp only [maxLen] at h63; omega
 have hwr := wrap_i64 hm9
 have hmb : ¬ ((m : Int) * (i.bytes : Int) > 281474976710656) := by
  have h1 : m * i.bytes ≤ (n + m) * i.bytes := Nat.mul_le_mul_right _ (by omega)
  have h2 : ((m * i.bytes : Nat) : Int) ≤ 140737488355328 := by omega
  rw [Int.natCast_mul] at h2
  omega
 have hlen : (xs ++ List.replicate m z).length = (n + m) * 1 := by rw [List.length_append, hown.1, List.length_replicate]; omega
 have hxl := hown.1
 have hzc : ∀ j, Builtin.zeroCells z.cells j = (List.replicate j z).toArray := fun j => by rw [hzs, zeroCells_one]
 -- what the growing arm leaves
 have grown : ∀ (old : Nat), old < n + m → ∀ (row : Option Nat),
   (w.drew.alloc (.cells (xs.toArray ++ (List.replicate m z).toArray ++ Builtin.zeroCells z.cells (grownCap w (n + m) old e - (n + m))) e)).ownsRow 0 e 1
    (.slice (some ⟨w.heap.size, 0, none⟩) (n + m) (grownCap w (n + m) old e)) (n + m) (xs ++ List.replicate m z) ∧
   w.grownBy (w.drew.alloc (.cells (xs.toArray ++ (List.replicate m z).toArray ++ Builtin.zeroCells z.cells (grownCap w (n + m) old e - (n + m))) e)) row := by
  intro old ho row
  have hge := grownCap_ge w (n + m) old e
  have hcm : grownCap w (n + m) old e ≤ maxLen := grownCap_le_maxLen w (n + m) old e h63
  refine ⟨⟨hlen, .inr ⟨w.heap.size, _, _, rfl, Nat.zero_le _, heap_alloc_new w.drew _, hge, hcm, ?_, ?_⟩⟩, ⟨rfl, rfl, rfl, by simp, fun k hk _ => heap_alloc_old w.drew _ hk⟩⟩
  ·rw [hzc]
   simp only [Array.size_append, List.size_toArray, List.length_replicate]
   omega
  ·simp only [Array.toList_append, List.append_assoc]
   rw [← List.append_assoc, ← hlen]
   exact List.take_left
 have happ : ∀ w' : World, ((if m * 1 = 0 then pure #[] else do pure (Builtin.zeroCells (← zeroValue e).cells m) : Sem (Array Value))).run P w' = .ok (List.replicate m z).toArray w' := fun w' => by
  by_cases h0 : m = 0
  ·subst h0; simp
  ·have : ¬ m * 1 = 0 := by omega
   rw [if_neg this]
   simp [zeroValue, typeInfo, hi, hz, hzc]
 have h63' : ¬ (9223372036854775807 < ((n : Int) + (m : Int))) := by omega
 have hm0 : ¬ ((m : Int) < 0) := by omega
 rcases hown.2 with ⟨rfl, rfl⟩ | ⟨g, cap, cur, rfl, hbg, hg, hnc, hcm, hcs, htake⟩
 ·have hx : xs = [] := List.eq_nil_of_length_eq_zero (by simpa using hown.1)
  subst hx
  by_cases hm : m = 0
  ·subst hm
   refine ⟨.slice none 0 0, w, ?_, World.ownsRow_nil w 0 e 1, ⟨rfl, rfl, rfl, Nat.le_refl _, fun _ _ _ => rfl⟩, Or.inl rfl⟩
   have hw0 : IntKind.i64.wrap 0 = 0 := by simpa using hwr
   simp [Builtin.append_, run_underlying ht, run_underlying hti, sizeOf, typeInfo, hi, asInt, asIntOf, hsize, hw0]
  ·have hgr := grown 0 (by omega) (Value.ownBlock (.slice none 0 0))
   refine ⟨_, _, ?_, hgr.1, hgr.2, Or.inr rfl⟩
   have hfit := growslice_fits (need := 0 + m) (old := 0) (by omega) hbytes
   have h48' : ¬ (281474976710656 < Builtin.nextslicecap m 0 * i.bytes) := by simp only [Nat.zero_add] at hfit; omega
   have h63'' : ¬ (9223372036854775807 < (m : Int)) := by omega
   simp [Builtin.append_, run_underlying ht, run_underlying hti, sizeOf, typeInfo, zeroValue, hi, hz, asInt, asIntOf, hsize, hwr, hm0, hmb, hm, h63'', h48', Question.forced, newRow, grownCap, hzc, run_firstCells_none, Builtin.firstCells]
 ·by_cases hroom : n + m ≤ cap
  ·have hfit : n * 1 + (List.replicate m z).length ≤ cur.size := by rw [List.length_replicate, hcs]; omega
   have hst := run_storeCells_at P g (n * 1) e (List.replicate m z) 0 cur w hg (by simpa using hfit) (fun u hu => by rw [List.eq_of_mem_replicate hu]; exact ho)
   simp only [Nat.add_zero] at hst
   refine ⟨_, w.setRow g (cur.toList.take (n * 1) ++ List.replicate m z ++ cur.toList.drop (n * 1 + (List.replicate m z).length)).toArray, ?_, ⟨hlen, .inr ⟨g, cap, (cur.toList.take (n * 1) ++ List.replicate m z ++ cur.toList.drop (n * 1 + (List.replicate m z).length)).toArray, rfl, hbg, setRow_heap w g cur _ e _ hg, hroom, hcm, ?_, ?_⟩⟩, ⟨rfl, rfl, rfl, by simp, fun k _ hk => setRow_other w g k _ (fun e => hk (by simp [Value.ownBlock, e]))⟩, Or.inl rfl⟩
   ·by_cases h0 : m = 0
    ·subst h0
     have hw0 : IntKind.i64.wrap 0 = 0 := by simpa using hwr
     simp only [Nat.mul_one, List.replicate_zero] at hst
     simp [Builtin.append_, run_underlying ht, run_underlying hti, sizeOf, typeInfo, hi, hz, asInt, asIntOf, hsize, hw0, hroom, hnc, Addr.add_lit, hst]
    ·simp only [Nat.mul_one] at hst
     simp [Builtin.append_, run_underlying ht, run_underlying hti, sizeOf, typeInfo, zeroValue, hi, hz, asInt, asIntOf, hsize, hwr, hroom, hm0, hmb, h0, hzc, Addr.add_lit, hst]
   ·simp only [List.size_toArray, List.length_append, List.length_take, List.length_drop, Array.length_toList]
    omega
   ·rw [htake, ← hlen]
    exact List.take_left
  ·have hgr := grown cap (by omega) (Value.ownBlock (.slice (some ⟨g, 0, none⟩) n cap))
   refine ⟨_, _, ?_, hgr.1, hgr.2, Or.inr rfl⟩
   have holds : ∀ j u, xs[j]? = some u → w.drew.cell? ((⟨g, 0, none⟩ : Addr).add j) = some u := by simpa using hown.cells (g := g) rfl
   have hfo := run_firstCells_some (P := P) w.drew 1 n ⟨g, 0, none⟩ n cap xs hown.1 holds
   have hfit := growslice_fits (need := n + m) (old := cap) (by omega) hbytes
   have h48' : ¬ (281474976710656 < Builtin.nextslicecap (n + m) cap * i.bytes) := by omega
   by_cases h0 : m = 0
   ·subst h0
    simp only [Nat.add_zero] at hroom
    exact absurd hnc hroom
   ·simp [Builtin.append_, run_underlying ht, run_underlying hti, sizeOf, typeInfo, zeroValue, hi, hz, asInt, asIntOf, hsize, hwr, hroom, hm0, hmb, h63', h48', h0, Question.forced, newRow, grownCap, hzc, hfo]
end
section
variable {P : Program} {N : NB} {M : Nat → Prop} {w0 : World} {L : Fr} {F F' : List Chunk} {K : Fr → List Chunk → Prop} {b : Bool} {o : Oper} {x y : Operand} {t ti e : TypeId} {z : Value} {bytes : Nat}
class InTy (P : Program) (t : TypeId) : Prop where
 und : ∃ k, P.underlying t = some (.int k)
theorem eAppZ {A : Option Addr} {n c m : Nat} {xs : List Int} (ho : o.op = .call { callee := .builtin .append, args := #[x, y], argTypes := #[t, ti] }) {d : Nat} (hdd : o.dst = some d) (hd : Nat.ble (d + 1) N.n = true) [h : SlTy P t e (.int .i64 0) 8] [hI : InTy P ti]
  (hx : ev L x = some (.slice A n c)) (hy : ev L y = some (.int .i64 m)) [hp : PkOw F A e c (ints xs) F'] (hn : n = xs.length) (hb : xs.length + m ≤ 17592186044416)
  (hK : ∀ (A' : Option Addr) (cap' : Nat), K (addL d (.slice A' (xs ++ List.replicate m 0).length cap') L) (ow A' e cap' (ints (xs ++ List.replicate m 0)) :: F')) : Eff P N M w0 false o L F K := fun a w hl hm => by
 subst hn
 obtain ⟨i, hi, hz, hs, hby⟩ := info_parts h.inf
 obtain ⟨k, hk⟩ := hI.und
 have hmp := hm.perm hp.perm
 have hown : w.ownsRow 0 e 1 (.slice A (ints xs).length c) (ints xs).length (ints xs) := hmp.sat _ (List.mem_cons_self ..)
 have hxl : (ints xs).length = xs.length := by simp
 obtain ⟨v', w', h1, h2, h3, h5⟩ := run_app_zeros (P := P) w t ti o.type e i (.int .i64 0) k 8 h.und hk hi hz hs hby rfl rfl _ _ _ hown m (by omega) (by simp only [maxLen]; omega) (by omega)
 have shape : ∃ A' cap', v' = .slice A' ((ints xs).length + m) cap' ∧ (∀ ad, A' = some ad → A = some ad ∨ ad.block = w.heap.size) := by
  rcases h2.2 with ⟨rfl, h0⟩ | ⟨g, cp, cur, rfl, _⟩
  ·exact ⟨none, 0, by rw [h0], fun ad h => by cases h⟩
  ·refine ⟨_, _, rfl, fun ad had => ?_⟩
   simp only [Option.some.injEq] at had
   subst had
   rcases h5 with h5 | h5
   ·left
    rcases hown.2 with ⟨h3, _⟩ | ⟨g', cp', cur', h3, _⟩
    ·rw [h3] at h5; simp [Value.ownBlock] at h5
    ·simp only [Value.slice.injEq] at h3
     obtain ⟨rfl, _⟩ := h3
     simp only [Value.ownBlock, Option.some.injEq] at h5
     rw [h5]
   ·right
    simpa [Value.ownBlock] using h5
 obtain ⟨A', cap', rfl, h4⟩ := shape
 have he : ints xs ++ List.replicate m (Value.int .i64 0) = ints (xs ++ List.replicate m 0) := by simp [ints]
 have hl2 : (ints xs).length + m = (xs ++ List.replicate m (0 : Int)).length := by simp
 have hl3 : (ints (xs ++ List.replicate m 0)).length = (xs ++ List.replicate m (0 : Int)).length := by simp
 rw [he, hl2] at h2
 rw [hl2] at h1
 have hrun : (execOp a.eval o).run P w = .ok (.value (.slice A' (xs ++ List.replicate m (0 : Int)).length cap')) w' := by
  rw [hxl] at h1
  simp only [execOp, ho, resolve, invoke, builtin, Sem.run_bind, Sem.run_pure, Result.andThen_ok, List.map_toArray, List.map_cons, List.map_nil, hl.eval hx, hl.eval hy, h1]
 simp only [Oper.wp, hrun, Oper.upon_value]
 refine ⟨fun hc => absurd hc (by simp), _, _, hl.add hdd hd _, ?_, hK A' cap'⟩
 refine hmp.change (by exact trivial) ⟨h3.os, h3.tape, h3.output, h3.size, fun k hk hc => h3.block k hk (fun hkb => hc ?_)⟩ (by show w'.ownsRow 0 e 1 (.slice A' (ints (xs ++ List.replicate m 0)).length cap') (ints (xs ++ List.replicate m 0)).length (ints (xs ++ List.replicate m 0)); rw [hl3]; exact h2) (fun b' hb' => ?_)
 ·cases A with
  | none => simp [Value.ownBlock] at hkb
  | some ad => exact ⟨ad, rfl, by simpa [Value.ownBlock] using hkb.symm⟩
 ·obtain ⟨ad, rfl, rfl⟩ := hb'
  rcases h4 ad rfl with h5 | h5
  ·exact .inl ⟨ad, h5, rfl⟩
  ·exact .inr (by omega)
end
def rowsX (rs : List RowM) : Chunk where
 foot b := ∃ r ∈ rs, (ro r.A (ints r.xs)).foot b
 excl := True
 sat w := ∀ r ∈ rs, (ro r.A (ints r.xs)).sat w
 loc w w' h hs := fun r hr => (ro r.A (ints r.xs)).loc w w' (fun b hb => h b ⟨r, hr, hb⟩) (hs r hr)
 cel w b hs hb := by
  obtain ⟨r, hr, hb⟩ := hb
  exact (ro r.A (ints r.xs)).cel w b (hs r hr) hb
theorem rowsX_weak {rs : List RowM} (F : List Chunk) : CSub (rowsX rs :: F) (rowsR rs :: F) :=
 CSub.weak (c := rowsX rs) (d := rowsR rs) ⟨fun w hs => hs, fun b hb => hb, fun h => h.elim⟩ F
instance HasRows.ofX (F : List Chunk) (rs : List RowM) : HasRows (rowsX rs :: F) rs := ⟨fun _ _ _ hm => hm.sat (rowsX rs) (List.mem_cons_self ..), fun b hb => ⟨_, List.mem_cons_self .., hb⟩⟩
end Go.Proofs.Ytdkahdehodopoaa

namespace Go.Proofs.Ytdkahdehodopoaa
open Go.RowKit
structure CubM where
 A : Option Addr
 cap : Nat
 rs : List RowM
def CubM.hdr (c : CubM) : Value := .slice c.A c.rs.length c.cap
def cubD : CubM := ⟨none, 0, []⟩
def cubH (cs : List CubM) : List Value := cs.map CubM.hdr
@[simp] theorem cubH_length (cs : List CubM) : (cubH cs).length = cs.length := by simp [cubH]
def cubR (cs : List CubM) : Chunk where
 foot b := ∃ c ∈ cs, (ro c.A (hdrs c.rs)).foot b ∨ (rowsR c.rs).foot b
 excl := False
 sat w := ∀ c ∈ cs, (ro c.A (hdrs c.rs)).sat w ∧ (rowsR c.rs).sat w
 loc w w' h hs := fun c hc => ⟨(ro c.A (hdrs c.rs)).loc w w' (fun b hb => h b ⟨c, hc, .inl hb⟩) (hs c hc).1, (rowsR c.rs).loc w w' (fun b hb => h b ⟨c, hc, .inr hb⟩) (hs c hc).2⟩
 cel w b hs hb := by
  obtain ⟨c, hc, hb | hb⟩ := hb
  ·exact (ro c.A (hdrs c.rs)).cel w b (hs c hc).1 hb
  ·exact (rowsR c.rs).cel w b (hs c hc).2 hb
theorem cub_out {cs : List CubM} {c : CubM} (h : c ∈ cs) (F : List Chunk) : CSub (cubR cs :: F) (ro c.A (hdrs c.rs) :: rowsR c.rs :: cubR cs :: F) :=
 (CSub.dup (c := cubR cs) (d := rowsR c.rs) ⟨fun w hs => (hs c h).2, fun b hb => ⟨c, h, .inr hb⟩, fun h => h⟩ (fun h => h) F).trans
  ((CSub.perm (List.Perm.swap ..)).trans ((CSub.dup (c := cubR cs) (d := ro c.A (hdrs c.rs)) ⟨fun w hs => (hs c h).1, fun b hb => ⟨c, h, .inl hb⟩, fun h => h⟩ (fun h => h) (rowsR c.rs :: F)).trans (CSub.cons _ (CSub.perm (List.Perm.swap ..)))))
class HasCub (F : List Chunk) (cs : List CubM) : Prop where
 has : ∀ (M : Nat → Prop) (w0 w : World), Mem M w0 w F → (cubR cs).sat w
 ft : ∀ b, (cubR cs).foot b → ∃ c ∈ F, c.foot b
instance HasCub.tail (c : Chunk) (F : List Chunk) (cs : List CubM) [h : HasCub F cs] : HasCub (c :: F) cs := ⟨fun M w0 w hm => h.has M w0 w hm.tail, fun b hb => by
 obtain ⟨d, hd, hf⟩ := h.ft b hb
 exact ⟨d, List.mem_cons_of_mem _ hd, hf⟩⟩
instance HasCub.of (F : List Chunk) (cs : List CubM) : HasCub (cubR cs :: F) cs := ⟨fun _ _ _ hm => hm.sat _ (List.mem_cons_self ..), fun b hb => ⟨_, List.mem_cons_self .., hb⟩⟩
instance Ent.cub (F : List Chunk) (cs : List CubM) (G : List Chunk) [h : HasCub F cs] [k : Ent F G] : Ent F (cubR cs :: G) := ⟨fun M w0 w hm c hc => by
 rcases List.mem_cons.1 hc with rfl | hc
 ·exact h.has M w0 w hm
 ·exact k.ent M w0 w hm c hc, fun g hg b hb => by
 rcases List.mem_cons.1 hg with rfl | hg
 ·exact h.ft b hb
 ·exact k.ft g hg b hb⟩
section
variable {P : Program} {N : NB} {M : Nat → Prop} {w0 : World} {L : Fr} {F F' : List Chunk} {K : Fr → List Chunk → Prop} {b : Bool} {o : Oper} {x y : Operand} {t e : TypeId} {z : Value} {bytes : Nat}
theorem rLdC {A : Option Addr} {j : Nat} {cs : List CubM} (ho : o.op = .load t x) [h : ScTy P t] (hx : ev L x = some (.pointer (some ((A.getD a0).add j)))) [hr : Rd F A (cubH cs)] (hj : j < cs.length) :
  Stl P N M w0 o L F (.slice (cs.getD j cubD).A (cs.getD j cubD).rs.length (cs.getD j cubD).cap) := rLdV ho (h := h) hx (hr := hr) (by
  rw [cubH, List.getElem?_map, List.getElem?_eq_getElem hj, List.getD_eq_getElem?_getD, List.getElem?_eq_getElem hj]; rfl)
theorem rCap {A : Option Addr} {n c : Nat} (ho : o.op = .call { callee := .builtin .cap, args := #[x], argTypes := #[t] }) [h : SlTy P t e z bytes] (hx : ev L x = some (.slice A n c)) : Stl P N M w0 o L F (.int .i64 c) := fun a w hl _ => by
 simp [execOp, ho, resolve, invoke, builtin, Builtin.cap_, hl.eval hx, run_und h.und, goInt]
end
def flat (rs : List RowM) : List Int := rs.flatMap RowM.xs
theorem flat_snoc (rs : List RowM) (r : RowM) : flat (rs ++ [r]) = flat rs ++ r.xs := by simp [flat]
theorem flat_take {rs : List RowM} {i : Nat} (h : i < rs.length) : flat (rs.take (i + 1)) = flat (rs.take i) ++ (rs.getD i rowD).xs := by
 rw [List.take_add_one, List.getElem?_eq_getElem h, Option.toList_some, flat_snoc, List.getD_eq_getElem?_getD, List.getElem?_eq_getElem h]; rfl
theorem flat_take_le (rs : List RowM) (i : Nat) : (flat (rs.take i)).length ≤ (flat rs).length := by
 conv => rhs; rw [← List.take_append_drop i rs]
 rw [flat, flat, List.flatMap_append, List.length_append]; omega
theorem flat_len {rs : List RowM} {m : Nat} (h : ∀ r ∈ rs, r.xs.length = m) : (flat rs).length = rs.length * m := by
 induction rs with
 | nil => simp [flat]
 | cons r rs ih =>
  rw [flat, List.flatMap_cons, List.length_append, h r (by simp), List.length_cons, Nat.add_mul, Nat.one_mul]
  have := ih fun s hs => h s (by simp [hs])
  rw [flat] at this; omega
end Go.Proofs.Ytdkahdehodopoaa

set_option maxRecDepth 100000
namespace Go.Proofs.Ytdkahdehodopoaa
open Go.RowKit
instance tySl3 : SlTy Try.prog 25 26 (.slice none 0 0) 24 := ⟨by kernel_rfl, by kernel_rfl, rfl⟩
instance inTyQ : InTy Try.prog 3 := ⟨_, undI⟩
theorem tr_nnH {P : Program} {N : NR} {M : Nat → Prop} {w0 : World} {L : Fr} {F : List Chunk} {A : Option Addr} {rs : List RowM} {c : Code} {Q : Exit → Fr → List Chunk → Prop} [hr : Rd F A (hdrs rs)] (h : (A = none → rs = []) → Tr P N M w0 c L F Q) : Tr P N M w0 c L F Q := fun ds M1 w1 hb a w hl hm => by
 refine h (fun hA => ?_) ds M1 w1 hb a w hl hm
 subst hA
 cases rs with
 | nil => rfl
 | cons r rs =>
  obtain ⟨ad, h1, _⟩ := hr.rd M1 w1 w hm 0 (by simp [hdrs])
  cases h1
theorem slc_Grow0_ent : Enters Try.prog 49 := enters_of Try.func49 (by kernel_rfl) (by kernel_rfl)
theorem slc_Grow0 (n : Int) (hn0 : 0 ≤ n) (hn9 : n ≤ 1000000000) :
  Pure Try.prog 49 #[.slice none 0 0, .int .i64 n] [] (one (fun v ch => ∃ B c, v = .slice B 0 c ∧ ch = ow B 3 c (ints []))) := by
 refine pure_of (args := [.slice none 0 0, .int .i64 n]) 27 Try.func49 rfl rfl rfl slc_Grow0_ent trivial (fun w0 => ?_)
 refine tS ?_
 refine tR fun _ _ _ => ?_
 refine pV ?_
 refine tS ?_
 refine tS ?_
 refine tR fun _ _ _ => ?_
 iterate 2 refine pV ?_
 refine tC rfl (fun h1 => ?_) (fun h1 => ?_)
 ·try simp only [zbA] at h1
  omega --done
 ·try simp only [zbA] at h1
  refine tK ?_
  refine tS ?_
  refine tS ?_
  refine tR fun _ _ _ => ?_
  iterate 2 refine pV ?_
  refine sV (rCap rfl rfl) ?_
  refine pV ?_
  refine sV (rLen rfl rfl) ?_
  refine sV (rSub rfl rfl rfl (by omega) (by omega)) ?_
  refine sV (rSub rfl rfl rfl (by omega) (by omega)) ?_
  refine pV ?_
  refine tS ?_
  refine tR fun _ _ _ => ?_
  iterate 2 refine pV ?_
  refine tC rfl (fun h4 => ?_) (fun h4 => ?_)
  ·try simp only [zbA] at h4
   refine tr_nilI 3 ?_
   refine tR fun _ _ _ => ?_
   iterate 2 refine pV ?_
   refine sV (rCap rfl rfl) ?_
   refine sV (rCutHi rfl rfl rfl (by omega) (by omega)) ?_
   refine pV ?_
   rw [show n - (((0 : Nat) : Int) - ((0 : Nat) : Int)) = ((n.toNat : Nat) : Int) by omega]
   refine eV (eAppZ (m := n.toNat) rfl rfl rfl rfl rfl rfl (by simp; omega) (fun A5 c5 => ?_))
   refine lst_sub (ow_shrink (vs := ints []) (ws := ints (List.replicate n.toNat 0)) []) ?_
   refine pV ?_
   refine sV (rLen rfl rfl) ?_
   refine sV (rCutHi rfl rfl rfl (by omega) (by omega)) ?_
   refine pV ?_
   refine tS ?_
   refine tR fun _ _ _ => ?_
   iterate 2 refine pV ?_
   exact tr_ret ⟨trivial, _, _, rfl, ⟨_, rfl, _, _, rfl, rfl⟩, cs _ _, trivial, trivial⟩
  ·try simp only [zbA] at h4
   refine tr_nilI 3 ?_
   refine tK ?_
   refine tS ?_
   refine tR fun _ _ _ => ?_
   iterate 2 refine pV ?_
   exact tr_ret ⟨trivial, _, _, rfl, ⟨_, rfl, _, _, rfl, rfl⟩, cs _ _, trivial, trivial⟩
theorem slc_CloneR_ent : Enters Try.prog 19 := enters_of Try.func19 (by kernel_rfl) (by kernel_rfl)
theorem slc_CloneR (X : Option Addr) (cx : Nat) (rs : List RowM) (h9 : rs.length ≤ 1000000) :
  Pure Try.prog 19 #[.slice X rs.length cx] [ro X (hdrs rs)] (one (fun v ch => ∃ B c, v = .slice B rs.length c ∧ ch = ow B 22 c (hdrs rs))) := by
 refine pure_of (args := [.slice X rs.length cx]) 8 Try.func19 rfl rfl rfl slc_CloneR_ent ⟨id, trivial⟩ (fun w0 => ?_)
 refine tS ?_
 refine tR fun _ _ _ => ?_
 refine pV ?_
 refine tS ?_
 refine tS ?_
 refine tr_nnH (A := X) (rs := rs) fun hnn => ?_
 refine tR fun _ _ _ => ?_
 refine pV ?_
 refine sV (rNilS rfl rfl rfl) ?_
 refine tC rfl (fun h1 => ?_) (fun h1 => ?_)
 ·try simp only [zbA] at h1
  have hr0 : rs = [] := hnn (Option.isNone_iff_eq_none.1 h1)
  subst hr0
  refine tr_nil 22 ?_
  refine tr_chunks _ (CSub.refl (ow none 22 0 (hdrs []) :: [ro X (hdrs [])])) ?_
  refine tS ?_
  refine tR fun _ _ _ => ?_
  refine pV ?_
  exact tr_ret ⟨trivial, _, _, rfl, ⟨_, rfl, _, _, rfl, rfl⟩, cs _ _, trivial, trivial⟩
 ·try simp only [zbA] at h1
  refine tK ?_
  refine tS ?_
  refine tR fun _ _ _ => ?_
  refine eV (eLit0 rfl rfl rfl  (fun A3 => ?_))
  refine pV ?_
  refine lst_sub (CSub.refl (ow A3 22 0 (hdrs []) :: [ro X (hdrs rs)])) ?_
  refine eV (eAppRR rs rfl rfl rfl rfl rfl rfl rfl (by simp; omega) (fun A3a c3a => ?_))
  refine pV ?_
  rw [List.nil_append]
  exact tr_ret ⟨trivial, _, _, rfl, ⟨_, rfl, _, _, rfl, rfl⟩, cs _ _, trivial, trivial⟩
theorem slc_Concat_ent : Enters Try.prog 18 := enters_of Try.func18 (by kernel_rfl) (by kernel_rfl)
theorem slc_Concat (X : Option Addr) (nx cx : Nat) (rs : List RowM) (hnx : nx = rs.length) (h9 : rs.length ≤ 1048576) (hf9 : (flat rs).length ≤ 1048576) :
  Pure Try.prog 18 #[.slice X nx cx] [ro X (hdrs rs), rowsR rs] (one (fun v ch => ∃ B c, v = .slice B (flat rs).length c ∧ ch = ow B 3 c (ints (flat rs)))) := by
 refine pure_of (args := [.slice X nx cx]) 36 Try.func18 rfl rfl rfl slc_Concat_ent ⟨id, id, trivial⟩ (fun w0 => ?_)
 refine tS ?_
 refine tR fun _ _ _ => ?_
 refine pV ?_
 refine tS ?_
 refine tR fun _ _ _ => ?_
 refine pV ?_
 refine tS ?_
 refine tS ?_
 refine tR fun _ _ _ => ?_
 refine pV ?_
 refine sV (rLen rfl rfl) ?_
 refine pV ?_
 refine tB ?_
 refine tr_loop2 (fun (i : Int) (s : Int) => [(3, .int .i64 s), (11, .int .i64 i), (0, .slice X nx cx), (2, .slice none 0 0), (9, .slice X nx cx), (10, .int .i64 nx)]) (fun (i : Int) (s : Int) => [ro X (hdrs rs), rowsR rs]) (fun (i : Int) (s : Int) => (0 ≤ i ∧ i ≤ rs.length) ∧ s = ((flat (rs.take i.toNat)).length : Int)) (fun (i : Int) (s : Int) => (rs.length - i).toNat) (0) (0) ⟨rfl, rfl, rfl, rfl, rfl, rfl, trivial⟩ (by first | exact cs _ _ | exact CSub.refl _) (⟨⟨by omega, by omega⟩, rfl⟩) (fun i s hI => ?_)
 obtain ⟨⟨hi0, hi1⟩, hs⟩ := hI
 refine tS ?_
 refine tR fun _ _ _ => ?_
 refine pV ?_
 refine tS ?_
 refine tC rfl (fun h3 => ?_) (fun h3 => ?_)
 ·try simp only [zbA] at h3
  refine tK ?_
  refine tS ?_
  refine tB ?_
  refine tS ?_
  haveI : InB i.toNat rs.length := ⟨by omega⟩
  have hft := flat_take (rs := rs) (i := i.toNat) (by omega)
  have hfl := flat_take_le rs (i.toNat + 1)
  have hfL := congrArg List.length hft
  rw [List.length_append] at hfL
  refine tR fun _ _ _ => ?_
  refine sV (rIdxR rfl rfl rfl (by omega) (by omega) (by omega)) ?_
  refine sV (rLdR rfl rfl (by omega)) ?_
  refine pV ?_
  refine tS ?_
  refine tR fun _ _ _ => ?_
  iterate 2 refine pV ?_
  refine sV (rLen rfl rfl) ?_
  refine sV (rAdd rfl rfl rfl (by omega) (by omega)) ?_
  refine pV ?_
  refine tS ?_
  refine tR fun _ _ _ => ?_
  iterate 2 refine pV ?_
  refine tC rfl (fun h6 => ?_) (fun h6 => ?_)
  ·try simp only [zbA] at h6
   omega --done
  ·try simp only [zbA] at h6
   refine tK ?_
   refine tR fun _ _ _ => ?_
   refine sV (rAdd rfl rfl rfl (by omega) (by omega)) ?_
   refine pV ?_
   refine ⟨i + 1, s + ((rs.getD i.toNat rowD).xs.length : Int), ⟨rfl, rfl, rfl, rfl, rfl, rfl, trivial⟩, by first | exact cs _ _ | exact CSub.refl _, ?_⟩
   exact ⟨⟨⟨by omega, by omega⟩, by rw [show (i + 1).toNat = i.toNat + 1 by omega]; omega⟩, by omega⟩
 ·try simp only [zbA] at h3
  refine tE ?_
  refine tS ?_
  have hie : i.toNat = rs.length := by omega
  rw [hie, List.take_length] at hs
  refine tR fun _ _ _ => ?_
  refine pV ?_
  refine eV (eCall1 rfl rfl rfl (slc_Grow0 s (by omega) (by omega)) ⟨rfl, rfl, trivial⟩ ?_)
  rintro _ _ ⟨B9, c9, rfl, rfl⟩
  refine pV ?_
  refine tS ?_
  refine tS ?_
  refine tR fun _ _ _ => ?_
  refine pV ?_
  refine sV (rLen rfl rfl) ?_
  refine pV ?_
  refine tB ?_
  refine tr_loop4 (fun (j : Int) (B : Option Addr) (cb : Nat) (o : List Int) => [(6, .slice B o.length cb), (27, .int .i64 j), (2, .slice none 0 0), (25, .slice X nx cx), (26, .int .i64 nx)]) (fun (j : Int) (B : Option Addr) (cb : Nat) (o : List Int) => [ow B 3 cb (ints o), ro X (hdrs rs), rowsR rs]) (fun (j : Int) (B : Option Addr) (cb : Nat) (o : List Int) => (0 ≤ j ∧ j ≤ rs.length) ∧ o = flat (rs.take j.toNat)) (fun (j : Int) (B : Option Addr) (cb : Nat) (o : List Int) => (rs.length - j).toNat) (0) (B9) (c9) ([]) ⟨rfl, rfl, rfl, rfl, rfl, trivial⟩ (by first | exact cs _ _ | exact CSub.refl _) (⟨⟨by omega, by omega⟩, rfl⟩) (fun j B cb o hI => ?_)
  obtain ⟨⟨hj0, hj1⟩, ho⟩ := hI
  have hol := flat_take_le rs j.toNat
  rw [← ho] at hol
  refine tS ?_
  refine tR fun _ _ _ => ?_
  refine pV ?_
  refine tS ?_
  refine tC rfl (fun h11 => ?_) (fun h11 => ?_)
  ·try simp only [zbA] at h11
   refine tK ?_
   refine tS ?_
   refine tB ?_
   refine tS ?_
   haveI : InB j.toNat rs.length := ⟨by omega⟩
   have hft := flat_take (rs := rs) (i := j.toNat) (by omega)
   have hfl := flat_take_le rs (j.toNat + 1)
   have hfL := congrArg List.length hft
   rw [List.length_append] at hfL
   refine tR fun _ _ _ => ?_
   refine sV (rIdxR rfl rfl rfl (by omega) (by omega) (by omega)) ?_
   refine sV (rLdR rfl rfl (by omega)) ?_
   refine pV ?_
   refine tR fun _ _ _ => ?_
   iterate 2 refine pV ?_
   refine eV (eAppI rfl rfl rfl rfl rfl (by first | rfl | simp | omega) (by first | rfl | simp | omega) (by first | omega | (simp; omega)) (fun A13 c13 => ?_))
   refine pV ?_
   refine tR fun _ _ _ => ?_
   refine sV (rAdd rfl rfl rfl (by omega) (by omega)) ?_
   refine pV ?_
   refine ⟨j + 1, A13, c13, o ++ (rs.getD j.toNat rowD).xs, ⟨rfl, rfl, rfl, rfl, rfl, trivial⟩, by first | exact cs _ _ | exact CSub.refl _, ?_⟩
   exact ⟨⟨⟨by omega, by omega⟩, by rw [show (j + 1).toNat = j.toNat + 1 by omega, hft, ho]⟩, by omega⟩
  ·try simp only [zbA] at h11
   refine tE ?_
   refine tS ?_
   refine tR fun _ _ _ => ?_
   iterate 2 refine pV ?_
   have hje : j.toNat = rs.length := by omega
   rw [hje, List.take_length] at ho
   subst ho
   exact tr_ret ⟨trivial, _, _, rfl, ⟨_, rfl, _, _, rfl, rfl⟩, cs _ _, trivial, trivial⟩
end Go.Proofs.Ytdkahdehodopoaa

namespace Go.Proofs.Ytdkahdehodopoaa
open Go.RowKit
def shIt (m : Nat) : Nat → List Int → List Int
 | 0, l => l
 | j + 1, l => shF m (shIt m j l)
theorem shIt_length (m : Nat) (l : List Int) : ∀ j, (shIt m j l).length = l.length
 | 0 => rfl
 | j + 1 => by rw [shIt, shF_length, shIt_length m l j]
theorem shIt_in {q : Int} (hq : 1 ≤ q) {m : Nat} {l : List Int} (h : AllIn q l) : ∀ j, AllIn q (shIt m j l)
 | 0 => h
 | j + 1 => shF_in hq (shIt_in hq h j)
def quL (m k : Nat) (l : List Int) : List (List Int) := (List.range k).map fun j => shIt m j l
theorem quL_succ (m k : Nat) (l : List Int) : quL m (k + 1) l = quL m k l ++ [shIt m k l] := by rw [quL, List.range_succ, List.map_append]; rfl
theorem quL_mem {m k : Nat} {l r : List Int} (h : r ∈ quL m k l) : ∃ j, r = shIt m j l := by
 obtain ⟨j, _, rfl⟩ := List.mem_map.1 h
 exact ⟨j, rfl⟩
def quX (m : Nat) (us : List CubM) : List (List Int) := us.flatMap fun c => quL m m (flat c.rs)
theorem quX_take {m : Nat} {us : List CubM} {i : Nat} (h : i < us.length) : quX m (us.take (i + 1)) = quX m (us.take i) ++ quL m m (flat (us.getD i cubD).rs) := by
 rw [List.take_add_one, List.getElem?_eq_getElem h, Option.toList_some, quX, List.flatMap_append, List.getD_eq_getElem?_getD, List.getElem?_eq_getElem h]; simp [quX]
def quS (k : Int) (us : List CubM) : Prop := ∀ c ∈ us, c.rs.length = (us.getD 0 cubD).rs.length ∧ ∀ r ∈ c.rs, (r.xs.length : Int) = k
def quI (q : Int) (us : List CubM) : Prop := ∀ c ∈ us, ∀ r ∈ c.rs, AllIn q r.xs
open Classical in
noncomputable def quE (p m : Int) (mod : List Int) (k : Int) (us : List CubM) : Int :=
 if ¬ FldR p m mod then 1 else if k < 1 then 6 else if us = [] then 3 else if ¬ quS k us then 3
 else if (us.getD 0 cubD).rs.length = 0 ∨ 64 < (us.getD 0 cubD).rs.length * k then 4 else if quI (pw p m) us then 0 else 2
section
variable {p m : Int} {mod : List Int} {k : Int} {us : List CubM}
theorem quE_no (h : ¬ FldR p m mod) : quE p m mod k us = 1 := by unfold quE; rw [if_pos h]
theorem quE_k (h : FldR p m mod) (h1 : k < 1) : quE p m mod k us = 6 := by unfold quE; rw [if_neg (by simpa using h), if_pos h1]
theorem quE_nil (h : FldR p m mod) (h1 : ¬ k < 1) (h2 : us = []) : quE p m mod k us = 3 := by unfold quE; rw [if_neg (by simpa using h), if_neg h1, if_pos h2]
theorem quE_shape (h : FldR p m mod) (h1 : ¬ k < 1) (h3 : ¬ quS k us) : quE p m mod k us = 3 := by
 unfold quE; rw [if_neg (by simpa using h), if_neg h1]
 by_cases h2 : us = []
 ·rw [if_pos h2]
 ·rw [if_neg h2, if_pos h3]
theorem quE_len (h : FldR p m mod) (h1 : ¬ k < 1) (h2 : us ≠ []) (h3 : quS k us) (h4 : (us.getD 0 cubD).rs.length = 0 ∨ 64 < (us.getD 0 cubD).rs.length * k) : quE p m mod k us = 4 := by
 unfold quE; rw [if_neg (by simpa using h), if_neg h1, if_neg h2, if_neg (by simpa using h3), if_pos h4]
theorem quE_ent (h : FldR p m mod) (h1 : ¬ k < 1) (h2 : us ≠ []) (h3 : quS k us) (h4 : ¬ ((us.getD 0 cubD).rs.length = 0 ∨ 64 < (us.getD 0 cubD).rs.length * k)) (h5 : ¬ quI (pw p m) us) : quE p m mod k us = 2 := by
 unfold quE; rw [if_neg (by simpa using h), if_neg h1, if_neg h2, if_neg (by simpa using h3), if_neg h4, if_neg h5]
theorem quE_ok (h : FldR p m mod) (h1 : ¬ k < 1) (h2 : us ≠ []) (h3 : quS k us) (h4 : ¬ ((us.getD 0 cubD).rs.length = 0 ∨ 64 < (us.getD 0 cubD).rs.length * k)) (h5 : quI (pw p m) us) : quE p m mod k us = 0 := by
 unfold quE; rw [if_neg (by simpa using h), if_neg h1, if_neg h2, if_neg (by simpa using h3), if_neg h4, if_pos h5]
structure QuOk (p m : Int) (mod : List Int) (k : Int) (us : List CubM) : Prop where
 fld : FldR p m mod
 k1 : 1 ≤ k
 ne : us ≠ []
 shape : quS k us
 len : 1 ≤ (us.getD 0 cubD).rs.length
 n64 : (us.getD 0 cubD).rs.length * k ≤ 64
 ent : quI (pw p m) us
theorem quE_zero (h : quE p m mod k us = 0) : QuOk p m mod k us := by
 by_cases h0 : FldR p m mod
 ·by_cases h1 : k < 1
  ·rw [quE_k h0 h1] at h; cases h
  ·by_cases h2 : us = []
   ·rw [quE_nil h0 h1 h2] at h; cases h
   ·by_cases h3 : quS k us
    ·by_cases h4 : (us.getD 0 cubD).rs.length = 0 ∨ 64 < (us.getD 0 cubD).rs.length * k
     ·rw [quE_len h0 h1 h2 h3 h4] at h; cases h
     ·by_cases h5 : quI (pw p m) us
      ·exact ⟨h0, by omega, h2, h3, by omega, by omega, h5⟩
      ·rw [quE_ent h0 h1 h2 h3 h4 h5] at h; cases h
    ·rw [quE_shape h0 h1 h3] at h; cases h
 ·rw [quE_no h0] at h; cases h
theorem QuOk.flat_len (h : QuOk p m mod k us) {c : CubM} (hc : c ∈ us) : ((flat c.rs).length : Int) = (us.getD 0 cubD).rs.length * k := by
 obtain ⟨h1, h2⟩ := h.shape c hc
 have hk := h.k1
 rw [Go.Proofs.Ytdkahdehodopoaa.flat_len (m := k.toNat) fun r hr => by have := h2 r hr; omega, h1, Int.natCast_mul, Int.toNat_of_nonneg (by omega)]
theorem flat_in {q : Int} {rs : List RowM} (h : ∀ r ∈ rs, AllIn q r.xs) : AllIn q (flat rs) := fun z hz => by
 obtain ⟨r, hr, hx⟩ := List.mem_flatMap.1 hz
 exact h r hr z hx
theorem flat_all {q : Int} {rs : List RowM} (h : AllIn q (flat rs)) : ∀ r ∈ rs, AllIn q r.xs := fun r hr z hz => h z (List.mem_flatMap.2 ⟨r, hr, hz⟩)
end
section
variable {p m : Int} {mod : List Int} [hF : IsF p m mod]
theorem spl_app {K : Type} [Fd K] {A A' B : List (Vc K)} (h : ∀ u, Vc.SpL A u → Vc.SpL A' u) {u : Vc K} (hu : Vc.SpL (A ++ B) u) : Vc.SpL (A' ++ B) u :=
 hu.mono fun r hr => (List.mem_append.1 hr).elim (fun hr => (h r (Vc.Sp.of hr)).mono fun s hs => Vc.Sp.of (List.mem_append_left _ hs)) (fun hr => Vc.Sp.of (List.mem_append_right _ hr))
theorem spl_app_iff {K : Type} [Fd K] {A A' B : List (Vc K)} (h : ∀ u, Vc.SpL A u ↔ Vc.SpL A' u) (u : Vc K) : Vc.SpL (A ++ B) u ↔ Vc.SpL (A' ++ B) u :=
 ⟨spl_app fun u hu => (h u).1 hu, spl_app fun u hu => (h u).2 hu⟩
noncomputable def quV (p m : Int) (mod : List Int) [IsF p m mod] (l : List (List Int)) : List (Vc (El p m mod)) := l.map rw'
theorem gd_of_xss {q : Int} {w : Nat} {rs qs : List RowM} {l : List (List Int)} (h : Gd q w rs) (hx : xss qs = xss rs ++ l) (hl : ∀ r ∈ l, r.length = w ∧ AllIn q r) : Gd q w qs := fun s hs => by
 have h1 : s.xs ∈ xss qs := List.mem_map.2 ⟨s, hs, rfl⟩
 rw [hx] at h1
 rcases List.mem_append.1 h1 with h1 | h1
 ·obtain ⟨r, hr, e⟩ := List.mem_map.1 h1
  rw [← e]; exact h r hr
 ·exact hl _ h1
end
end Go.Proofs.Ytdkahdehodopoaa

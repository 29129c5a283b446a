/-
  ORDEREDDECODES, PART 4 OF 10. One sentence: the texts behind the law OrderedDecodes, put together.
  Conditions: each theorem's own, written out in it.
-/
import Derived.Test.YtfdjdokdabmmdaaGreatK3
set_option linter.unusedSimpArgs false
set_option linter.unusedVariables false
set_option linter.unusedSectionVars false
set_option maxRecDepth 100000
namespace Go.Proofs.YtfdjdokdabmmdaaGreat
open Go.RowKit
theorem slc_Clone_ent : Enters Tryz.prog 72 := enters_of Tryz.func72 (by kernel_rfl) (by kernel_rfl)
theorem slc_Clone (A : Option Addr) (c : Nat) (l : List Int) (h9 : l.length ≤ 1000000) :
  Pure Tryz.prog 72 #[.slice A l.length c] [ro A (ints l)] (one (fun v ch => ∃ B cap, v = .slice B l.length cap ∧ ch = ow B 3 cap (ints l))) := by
 refine pure_of (args := [.slice A l.length c]) 8 Tryz.func72 rfl rfl rfl slc_Clone_ent ⟨id, trivial⟩ (fun w0 => ?_)
 refine tS ?_
 refine tR fun _ _ _ => ?_
 refine pV ?_
 refine tS ?_
 refine tS ?_
 refine tr_nn (A := A) (l := l) fun hnn => ?_
 refine tR fun _ _ _ => ?_
 refine pV ?_
 refine sV (rNilS rfl rfl rfl) ?_
 refine tC rfl (fun h1 => ?_) (fun h1 => ?_)
 ·try simp only [zbA] at h1
  refine tS ?_
  refine tR fun _ _ _ => ?_
  refine pV ?_
  have hl0 := hnn (Option.isNone_iff_eq_none.1 h1)
  subst hl0
  refine tr_nilI 3 ?_
  exact tr_ret ⟨trivial, _, _, rfl, ⟨_, rfl, none, 0, rfl, rfl⟩, cs _ _, trivial, trivial⟩
 ·try simp only [zbA] at h1
  refine tK ?_
  refine tS ?_
  refine tR fun _ _ _ => ?_
  refine eV (eLit0I rfl rfl rfl  (fun A3 => ?_))
  refine pV ?_
  refine eV (eAppI rfl rfl rfl rfl rfl (by first | rfl | simp) (by first | rfl | simp) (by first | omega | (simp; omega)) (fun A3a c3a => ?_))
  refine pV ?_
  simp only [List.nil_append]
  exact tr_ret ⟨trivial, _, _, rfl, ⟨_, rfl, A3a, c3a, rfl, rfl⟩, cs _ _, trivial, trivial⟩
theorem mat_clone_ent : Enters Tryz.prog 67 := enters_of Tryz.func67 (by kernel_rfl) (by kernel_rfl)
theorem mat_clone (A : Option Addr) (n c : Nat) (rs : List RowM) (hn : n = rs.length) (h9 : rs.length ≤ 1000000) (h8 : ∀ r ∈ rs, r.xs.length ≤ 1000000) :
  Pure Tryz.prog 67 #[.slice A n c] [ro A (hdrs rs), rowsR rs] (two (fun v ca cb => ∃ B cap qs, v = .slice B qs.length cap ∧ ca = ow B 22 cap (hdrs qs) ∧ cb = rowsCh 3 qs ∧ qs.map (·.xs) = rs.map (·.xs) ∧ qs.length ≤ cap)) := by
 refine pure_of (args := [.slice A n c]) 23 Tryz.func67 rfl rfl rfl mat_clone_ent ⟨id, id, trivial⟩ (fun w0 => ?_)
 refine tS ?_
 refine tR fun _ _ _ => ?_
 refine pV ?_
 refine tS ?_
 refine tR fun _ _ _ => ?_
 refine pV ?_
 refine sV (rLen rfl rfl) ?_
 refine eV (eMake rfl rfl rfl rfl rfl (by omega) (by omega) (by omega) (fun A1 => ?_))
 refine pV ?_
 rw [Int.toNat_natCast, hdrs_rep]
 refine tS ?_
 refine tS ?_
 refine tR fun _ _ _ => ?_
 refine pV ?_
 refine sV (rLen rfl rfl) ?_
 refine pV ?_
 refine tB ?_
 refine tr_loop2 (fun (k : Int) (qs : List RowM) => [(3, .slice A1 n n), (9, .slice A n c), (10, .int .i64 n), (11, .int .i64 k)]) (fun (k : Int) (qs : List RowM) => [ow A1 22 n (hdrs qs), rowsCh 3 qs, ro A (hdrs rs), rowsR rs]) (fun (k : Int) (qs : List RowM) => (0 ≤ k ∧ k ≤ n) ∧ qs.length = n ∧ ∀ j : Nat, (j : Int) < k → (qs.getD j rowD).xs = (rs.getD j rowD).xs) (fun (k : Int) (qs : List RowM) => (n - k).toNat) (0) (List.replicate n rowD) ⟨rfl, rfl, rfl, rfl, trivial⟩ (by exact (rows_rep 3 _ n).trans (cs _ _)) (⟨⟨by omega, by omega⟩, by simp, fun j hj => by omega⟩) (fun k qs hI => ?_)
 obtain ⟨⟨hk0, hk1⟩, hql, hq⟩ := hI
 refine tS ?_
 refine tR fun _ _ _ => ?_
 refine pV ?_
 refine tS ?_
 refine tC rfl (fun h3 => ?_) (fun h3 => ?_)
 ·try simp only [zbA] at h3
  refine tK ?_
  refine tS ?_
  refine tB ?_
  refine tS ?_
  haveI : InB k.toNat rs.length := ⟨by omega⟩
  refine tR fun _ _ _ => ?_
  refine pV ?_
  refine sV (rIdxR rfl rfl rfl (by omega) (by omega) (by omega)) ?_
  refine sV (rLdR rfl rfl (by omega)) ?_
  iterate 2 refine pV ?_
  refine tR fun _ _ _ => ?_
  iterate 3 refine pV ?_
  refine eV (eCall1 rfl rfl rfl (slc_Clone _ _ (rs.getD k.toNat rowD).xs (h8 _ (getD_mem (by omega) _))) ⟨rfl, trivial⟩ ?_)
  rintro _ _ ⟨B5, c5, rfl, rfl⟩
  refine sV (rIdxR rfl rfl rfl (by omega) (by omega) (by omega)) ?_
  refine eV (eSt rfl rfl rfl rfl (by first | omega | (simp; omega)) rfl rfl ?_)
  refine tR fun _ _ _ => ?_
  refine sV (rAdd rfl rfl rfl (by omega) (by omega)) ?_
  refine pV ?_
  refine ⟨k + 1, qs.set k.toNat ⟨B5, c5, (rs.getD k.toNat rowD).xs⟩, ⟨rfl, rfl, rfl, rfl, trivial⟩, by rw [hdrs_set]; exact (cs _ [rowsCh 3 qs, ow B5 3 c5 (ints (rs.getD k.toNat rowD).xs), ow A1 22 n ((hdrs qs).set k.toNat (.slice B5 (rs.getD k.toNat rowD).xs.length c5)), ro A (hdrs rs), rowsR rs]).trans ((rows_put (r := ⟨B5, c5, (rs.getD k.toNat rowD).xs⟩) (show k.toNat < qs.length by omega) _).trans (CSub.perm (List.Perm.swap ..))), ?_⟩
  refine ⟨⟨⟨by omega, by omega⟩, by simpa using hql, fun j hj => ?_⟩, by omega⟩
  rw [row_set]
  by_cases he : k.toNat = j
  ·subst he; rw [if_pos ⟨rfl, by omega⟩]
  ·rw [if_neg (fun e => he e.1)]; exact hq j (by omega)
 ·try simp only [zbA] at h3
  refine tE ?_
  refine tS ?_
  refine tR fun _ _ _ => ?_
  iterate 2 refine pV ?_
  have hm : qs.map (·.xs) = rs.map (·.xs) := by
   refine List.ext_getElem (by simp; omega) fun j h1 h2 => ?_
   have h3 := hq j (by simp at h1; omega)
   rw [List.getD_eq_getElem?_getD, List.getElem?_eq_getElem (by simpa using h1), List.getD_eq_getElem?_getD, List.getElem?_eq_getElem (by simpa using h2)] at h3
   simpa using h3
  exact tr_ret ⟨trivial, _, _, rfl, ⟨_, _, rfl, A1, n, qs, by rw [hql], rfl, rfl, hm, by omega⟩, cs _ _, trivial, trivial, trivial⟩
theorem vsR_of {p m : Int} {mod : List Int} [hF : IsF p m mod] {rs qs : List RowM} (h : qs.map (·.xs) = rs.map (·.xs)) : (vsR qs : List (Vc (El p m mod))) = vsR rs := by
 have e : ∀ l : List RowM, (vsR l : List (Vc (El p m mod))) = (l.map (·.xs)).map rw' := fun l => by rw [List.map_map]; rfl
 rw [e, e, h]
theorem Gd.of {q : Int} {w : Nat} {rs qs : List RowM} (h : qs.map (·.xs) = rs.map (·.xs)) (hg : Gd q w rs) : Gd q w qs := fun r hr => by
 have h1 : r.xs ∈ rs.map (·.xs) := by rw [← h]; exact List.mem_map.2 ⟨r, hr, rfl⟩
 obtain ⟨s, hs, he⟩ := List.mem_map.1 h1
 rw [← he]; exact hg s hs
theorem Gd.take {q : Int} {w : Nat} {rs : List RowM} (h : Gd q w rs) (k : Nat) : Gd q w (rs.take k) := fun r hr => h r (List.mem_of_mem_take hr)
theorem vsR_take {p m : Int} {mod : List Int} [hF : IsF p m mod] (rs : List RowM) (k : Nat) : (vsR rs : List (Vc (El p m mod))).take k = vsR (rs.take k) := by simp [vsR, List.map_take]
structure RrOf (p m : Int) (mod : List Int) [hF : IsF p m mod] (w : Nat) (rs r3 : List RowM) (ps : List Int) : Prop where
 good : Gd (pw p m) w r3
 len : ps.length = r3.length
 form : ∃ qs, ps = qs.map Int.ofNat ∧ Vc.Rr w (vsR r3 : List (Vc (El p m mod))) qs
 span : ∀ u, Vc.SpL (vsR r3 : List (Vc (El p m mod))) u ↔ Vc.SpL (vsR rs) u
theorem mat_canon_ent : Enters Tryz.prog 94 := enters_of Tryz.func94 (by kernel_rfl) (by kernel_rfl)
theorem mat_canon (g : GfM) {p m : Int} {mod : List Int} [hF : IsF p m mod] (hg : GOk g p m mod) (w : Int) (hw0 : 0 ≤ w) (hw9 : w ≤ 1000000) (A : Option Addr) (n c : Nat) (rs : List RowM) (hn : n = rs.length) (h9 : rs.length ≤ 1000000) (hgd : Gd (pw p m) w.toNat rs) :
  Pure Tryz.prog 94 #[.pointer (some g.p), .slice A n c, .int .i64 w] [gfR g, ro A (hdrs rs), rowsR rs] (three (fun v ca cb cc => ∃ B r3 Bp cp ps, v = .tuple #[.slice B r3.length r3.length, .slice Bp ps.length cp] ∧ ca = rx B (hdrs r3) ∧ cb = rowsCh 3 r3 ∧ cc = ow Bp 3 cp (ints ps) ∧ RrOf p m mod w.toNat rs r3 ps ∧ r3.length ≤ rs.length)) := by
 have h8 : ∀ r ∈ rs, r.xs.length ≤ 1000000 := fun r hr => by have := (hgd r hr).1; omega
 refine pure_of (args := [.pointer (some g.p), .slice A n c, .int .i64 w]) 27 Tryz.func94 rfl rfl rfl mat_canon_ent ⟨id, id, id, trivial⟩ (fun w0 => ?_)
 refine tS ?_
 refine tR fun _ _ _ => ?_
 iterate 2 refine pV ?_
 refine tS ?_
 refine tR fun _ _ _ => ?_
 refine pV ?_
 refine eV (eCall2 rfl rfl rfl (mat_clone A n c rs hn h9 h8) ⟨rfl, trivial⟩ ?_)
 rintro _ _ _ ⟨B1, c1, qs1, rfl, rfl, rfl, hqs1, hcap1⟩
 refine pV ?_
 have hlq : qs1.length = rs.length := by have := congrArg List.length hqs1; simpa using this
 refine tS ?_
 refine tR fun _ _ _ => ?_
 iterate 3 refine pV ?_
 refine eV (eCallM3 rfl rfl rfl (mat_eliminate g hg w hw0 hw9 B1 _ c1 qs1 rfl (by omega) (Gd.of hqs1 hgd)) ⟨rfl, rfl, rfl, rfl, trivial⟩ ?_)
 rintro _ _ _ _ ⟨rs2, Bp, cbp, ps, qs, dd, rfl, rfl, rfl, rfl, hps, hrl2, hgd2, hql, hR1, hR2⟩
 iterate 5 refine pV ?_
 refine tS ?_
 have hpl : ps.length = qs.length := by rw [hps, List.length_map]
 refine tR fun _ _ _ => ?_
 iterate 2 refine pV ?_
 refine sV (rLen rfl rfl) ?_
 refine pV ?_
 refine sV (rLen rfl rfl) ?_
 refine sV (rCut3 rfl rfl rfl rfl (by omega) (by omega)) ?_
 iterate 3 refine pV ?_
 simp only [Int.toNat_natCast]
 have htl : (rs2.take ps.length).length = ps.length := by rw [List.length_take]; omega
 have hRr : RrOf p m mod w.toNat rs (rs2.take ps.length) ps := by
  rw [vsR_take, ← hpl] at hR1 hR2
  refine ⟨hgd2.take _, htl.symm, ⟨qs, hps, hR1⟩, fun u => ?_⟩
  rw [hR2, vsR_of hqs1]
 exact tr_ret ⟨trivial, _, _, rfl, ⟨_, _, _, rfl, B1, rs2.take ps.length, Bp, cbp, ps, by rw [htl], rfl, rfl, rfl, hRr, by omega⟩, (cs _ [ow B1 22 c1 (hdrs rs2), rowsCh 3 rs2, ow Bp 3 cbp (ints ps)]).trans ((ow_rx _).trans ((rx_take _ _).trans (CSub.cons _ (rows_take _ _)))), trivial, trivial, trivial, trivial⟩
theorem mat_entries_ent : Enters Tryz.prog 69 := enters_of Tryz.func69 (by kernel_rfl) (by kernel_rfl)
theorem mat_entries (g : GfM) {p m : Int} {mod : List Int} [hF : IsF p m mod] (hg : GOk g p m mod) (A : Option Addr) (n c : Nat) (l : List Int) (hn : n = l.length) (h9 : l.length ≤ 1000000) (hin : AllIn (pw p m) l) :
  Pure Tryz.prog 69 #[.pointer (some g.p), .slice A n c] [gfR g, ro A (ints l)] (isV (.int .i64 0)) := by
 have heq := hg.eq
 refine pure_of (args := [.pointer (some g.p), .slice A n c]) 18 Tryz.func69 rfl rfl rfl mat_entries_ent ⟨id, id, trivial⟩ (fun w0 => ?_)
 refine tS ?_
 refine tR fun _ _ _ => ?_
 refine pV ?_
 refine tS ?_
 refine tS ?_
 refine tR fun _ _ _ => ?_
 refine pV ?_
 refine sV (rLen rfl rfl) ?_
 refine pV ?_
 refine tB ?_
 refine tr_loop1 (fun (k : Int) => [(0, .pointer (some g.p)), (7, .slice A n c), (8, .int .i64 n), (9, .int .i64 k)]) (fun (k : Int) => [gfR g, ro A (ints l)]) (fun (k : Int) => 0 ≤ k ∧ k ≤ n) (fun (k : Int) => (n - k).toNat) (0) ⟨rfl, rfl, rfl, rfl, trivial⟩ (by first | exact cs _ _ | exact CSub.refl _) (⟨by omega, by omega⟩) (fun k hI => ?_)
 obtain ⟨hk0, hk1⟩ := hI
 refine tS ?_
 refine tR fun _ _ _ => ?_
 refine pV ?_
 refine tS ?_
 refine tC rfl (fun h2 => ?_) (fun h2 => ?_)
 ·try simp only [zbA] at h2
  refine tK ?_
  refine tS ?_
  refine tB ?_
  refine tS ?_
  refine tR fun _ _ _ => ?_
  refine sV (rIdxI rfl rfl rfl (by omega) (by omega) (by omega)) ?_
  refine sV (rLdI rfl rfl (by omega)) ?_
  refine pV ?_
  refine tS ?_
  refine tR fun _ _ _ => ?_
  iterate 2 refine pV ?_
  refine eV (eCallV rfl rfl rfl (gf_Is _ _) ⟨rfl, rfl, trivial⟩ ?_)
  refine sV (rNotB rfl rfl) ?_
  refine tC rfl (fun h4 => ?_) (fun h4 => ?_)
  ·try simp only [zbA] at h4
   have hb := hin.get (by have := hF.q2; omega) k.toNat
   omega --done
  ·try simp only [zbA] at h4
   refine tK ?_
   refine tR fun _ _ _ => ?_
   refine sV (rAdd rfl rfl rfl (by omega) (by omega)) ?_
   refine pV ?_
   refine ⟨k + 1, ⟨rfl, rfl, rfl, rfl, trivial⟩, by first | exact cs _ _ | exact CSub.refl _, ?_⟩
   exact ⟨⟨by omega, by omega⟩, by omega⟩
 ·try simp only [zbA] at h2
  refine tE ?_
  refine tS ?_
  refine tR fun _ _ _ => ?_
  refine pV ?_
  exact tr_ret ⟨trivial, _, _, rfl, ⟨rfl, rfl⟩, CSub.nil _, trivial⟩
end Go.Proofs.YtfdjdokdabmmdaaGreat

set_option maxRecDepth 100000
namespace Go.Proofs.YtfdjdokdabmmdaaGreat
open Go.RowKit
noncomputable def entC (q : Int) (l : List Int) : Int := @ite _ (AllIn q l) (Classical.propDecidable _) 0 2
theorem entC_ok {q : Int} {l : List Int} (h : AllIn q l) : entC q l = 0 := by unfold entC; rw [if_pos h]
theorem entC_no {q : Int} {l : List Int} (h : ¬ AllIn q l) : entC q l = 2 := by unfold entC; rw [if_neg h]
theorem allIn_of_get {q : Int} {l : List Int} (h : ∀ j : Nat, j < l.length → 0 ≤ l.getD j 0 ∧ l.getD j 0 < q) : AllIn q l := fun z hz => by
 obtain ⟨j, hj, rfl⟩ := List.getElem_of_mem hz
 have := h j hj
 rw [List.getD_eq_getElem?_getD, List.getElem?_eq_getElem hj] at this
 exact this
theorem ref_Entries_ent : Enters Tryz.prog 76 := enters_of Tryz.func76 (by kernel_rfl) (by kernel_rfl)
theorem ref_Entries (p m : Int) (A : Option Addr) (c : Nat) (mod : List Int) (B : Option Addr) (n d : Nat) (l : List Int) (hn : n = l.length) (h9 : l.length ≤ 17592186044415) :
  Pure Tryz.prog 76 #[.agg #[.int .i64 p, .int .i64 m, .slice A mod.length c], .slice B n d] [ro A (ints mod), ro B (ints l)] (isV (.int .i64 (entC (ordI p m) l))) := by
 refine pure_of (args := [.agg #[.int .i64 p, .int .i64 m, .slice A mod.length c], .slice B n d]) 19 Tryz.func76 rfl rfl rfl ref_Entries_ent ⟨id, id, trivial⟩ (fun w0 => ?_)
 refine tS ?_
 refine tR fun _ _ _ => ?_
 refine eV (eBox rfl rfl rfl rfl rfl (fun p0 => ?_))
 refine pV ?_
 refine tS ?_
 refine tS ?_
 refine tR fun _ _ _ => ?_
 refine pV ?_
 refine tB ?_
 refine tr_loop1 (fun (k : Int) => [(1, .slice B n d), (2, .pointer (some p0)), (5, .int .i64 k)]) (fun (k : Int) => [blk p0 24 [.int .i64 p, .int .i64 m, .slice A mod.length c], ro A (ints mod), ro B (ints l)]) (fun (k : Int) => (0 ≤ k ∧ k ≤ n) ∧ ∀ j : Nat, (j : Int) < k → 0 ≤ l.getD j 0 ∧ l.getD j 0 < ordI p m) (fun (k : Int) => (n - k).toNat) (0) ⟨rfl, rfl, rfl, trivial⟩ (by first | exact cs _ _ | exact CSub.refl _) (⟨⟨by omega, by omega⟩, fun j hj => by omega⟩) (fun k hI => ?_)
 obtain ⟨⟨hk0, hk1⟩, hall⟩ := hI
 refine tS ?_
 refine tS ?_
 refine tR fun _ _ _ => ?_
 iterate 2 refine pV ?_
 refine sV (rLen rfl rfl) ?_
 refine pV ?_
 refine tC rfl (fun h2 => ?_) (fun h2 => ?_)
 ·try simp only [zbA] at h2
  refine tK ?_
  refine tS ?_
  refine tB ?_
  refine tS ?_
  refine tr_draw [0, 1, 2, 3, 4, 5, 6] [] mixed (by kernel_rfl) fun _ _ _ => ?_
  refine sV (rLdS rfl rfl rfl) ?_
  iterate 2 refine pV ?_
  refine sV (rIdxI rfl rfl rfl (by omega) (by omega) (by omega)) ?_
  refine sV (rLdI rfl rfl (by omega)) ?_
  refine eV (eCallV rfl rfl rfl (ref_Is _ _ _ _ _ _) ⟨rfl, rfl, trivial⟩ ?_)
  refine sV (rNotB rfl rfl) ?_
  refine tC rfl (fun h4 => ?_) (fun h4 => ?_)
  ·try simp only [zbA] at h4
   refine tS ?_
   refine tR fun _ _ _ => ?_
   refine pV ?_
   have hno : ¬ AllIn (ordI p m) l := fun h => by
    have hb := h (l.getD k.toNat 0) (getD_mem (by omega) _)
    omega
   exact tr_ret ⟨trivial, _, _, rfl, ⟨by rw [entC_no hno], rfl⟩, CSub.nil _, trivial⟩
  ·try simp only [zbA] at h4
   refine tK ?_
   refine tR fun _ _ _ => ?_
   refine pV ?_
   refine sV (rAdd rfl rfl rfl (by omega) (by omega)) ?_
   refine pV ?_
   refine ⟨k + 1, ⟨rfl, rfl, rfl, trivial⟩, by first | exact cs _ _ | exact CSub.refl _, ?_⟩
   refine ⟨⟨⟨by omega, by omega⟩, fun j hj => ?_⟩, by omega⟩
   by_cases he : (j : Int) = k
   ·have : j = k.toNat := by omega
    subst this; omega
   ·exact hall j (by omega)
 ·try simp only [zbA] at h2
  refine tE ?_
  refine tS ?_
  refine tR fun _ _ _ => ?_
  refine pV ?_
  have hok : AllIn (ordI p m) l := allIn_of_get fun j hj => hall j (by omega)
  exact tr_ret ⟨trivial, _, _, rfl, ⟨by rw [entC_ok hok], rfl⟩, CSub.nil _, trivial⟩
theorem ref_scale_ent : Enters Tryz.prog 108 := enters_of Tryz.func108 (by kernel_rfl) (by kernel_rfl)
theorem ref_scale (p m : Int) (A : Option Addr) (c : Nat) (mod : List Int) [hF : IsF p m mod] (x : Int) (B : Option Addr) (n d : Nat) (l : List Int) (hn : n = l.length) (h9 : l.length ≤ 1000000) :
  Pure Tryz.prog 108 #[.agg #[.int .i64 p, .int .i64 m, .slice A mod.length c], .int .i64 x, .slice B n d] [ro A (ints mod), ro B (ints l)] (one (fun v ch => ∃ C, v = .slice C n n ∧ ch = ow C 3 n (ints (sclR (el x : El p m mod) l)))) := by
 refine pure_of (args := [.agg #[.int .i64 p, .int .i64 m, .slice A mod.length c], .int .i64 x, .slice B n d]) 29 Tryz.func108 rfl rfl rfl ref_scale_ent ⟨id, id, trivial⟩ (fun w0 => ?_)
 refine tS ?_
 refine tR fun _ _ _ => ?_
 refine eV (eBox rfl rfl rfl rfl rfl (fun p0 => ?_))
 refine pV ?_
 refine tS ?_
 refine tR fun _ _ _ => ?_
 refine pV ?_
 refine sV (rLen rfl rfl) ?_
 refine eV (eMakeI rfl rfl rfl rfl rfl (by omega) (by omega) (by omega) (fun A1 => ?_))
 refine pV ?_
 simp only [Int.toNat_natCast]
 refine tS ?_
 refine tS ?_
 refine tR fun _ _ _ => ?_
 refine pV ?_
 refine tB ?_
 refine tr_loop2 (fun (k : Int) (o : List Int) => [(1, .int .i64 x), (2, .slice B n d), (3, .pointer (some p0)), (7, .slice A1 n n), (8, .int .i64 k)]) (fun (k : Int) (o : List Int) => [ow A1 3 n (ints o), blk p0 24 [.int .i64 p, .int .i64 m, .slice A mod.length c], ro A (ints mod), ro B (ints l)]) (fun (k : Int) (o : List Int) => (0 ≤ k ∧ k ≤ n) ∧ o.length = n ∧ ∀ j : Nat, (j : Int) < k → o.getD j 0 = (el x * el (l.getD j 0) : El p m mod).1) (fun (k : Int) (o : List Int) => (n - k).toNat) (0) (List.replicate n 0) ⟨rfl, rfl, rfl, rfl, rfl, trivial⟩ (by first | exact cs _ _ | exact CSub.refl _) (⟨⟨by omega, by omega⟩, by simp, fun j hj => by omega⟩) (fun k o hI => ?_)
 obtain ⟨⟨hk0, hk1⟩, hol, ho⟩ := hI
 refine tS ?_
 refine tS ?_
 refine tR fun _ _ _ => ?_
 iterate 2 refine pV ?_
 refine sV (rLen rfl rfl) ?_
 refine pV ?_
 refine tC rfl (fun h3 => ?_) (fun h3 => ?_)
 ·try simp only [zbA] at h3
  refine tK ?_
  refine tS ?_
  refine tB ?_
  refine tr_draw [0, 1, 2, 3, 4, 5, 6, 7, 8, 9] [10] mixed (by kernel_rfl) fun _ _ _ => ?_
  iterate 2 refine pV ?_
  refine sV (rLdS rfl rfl rfl) ?_
  iterate 3 refine pV ?_
  refine sV (rIdxI rfl rfl rfl (by omega) (by omega) (by omega)) ?_
  refine sV (rLdI rfl rfl (by omega)) ?_
  refine eV (eCallV rfl rfl rfl (ref_MulE _ _ _ _ _ _ _) ⟨rfl, rfl, rfl, trivial⟩ ?_)
  refine sV (rIdxI rfl rfl rfl (by omega) (by omega) (by omega)) ?_
  refine eV (eStI rfl rfl rfl rfl (by omega) ?_)
  refine tR fun _ _ _ => ?_
  refine pV ?_
  refine sV (rAdd rfl rfl rfl (by omega) (by omega)) ?_
  refine pV ?_
  refine ⟨k + 1, o.set k.toNat (el x * el (l.getD k.toNat 0) : El p m mod).1, ⟨rfl, rfl, rfl, rfl, rfl, trivial⟩, by first | exact cs _ _ | exact CSub.refl _, ?_⟩
  refine ⟨⟨⟨by omega, by omega⟩, by simpa using hol, fun j hj => ?_⟩, by omega⟩
  rw [getD_set]
  by_cases he : k.toNat = j
  ·subst he; rw [if_pos ⟨rfl, by omega⟩]
  ·rw [if_neg (fun e => he e.1)]; exact ho j (by omega)
 ·try simp only [zbA] at h3
  refine tE ?_
  refine tS ?_
  refine tR fun _ _ _ => ?_
  iterate 2 refine pV ?_
  have hfin : o = sclR (el x : El p m mod) l := by
   refine List.ext_getElem (by simp; omega) fun j h1 h2 => ?_
   have h3 := ho j (by omega)
   rw [List.getD_eq_getElem?_getD, List.getElem?_eq_getElem h1, List.getD_eq_getElem?_getD, List.getElem?_eq_getElem (show j < l.length by omega)] at h3
   simpa [sclR] using h3
  rw [← hfin]
  exact tr_ret ⟨trivial, _, _, rfl, ⟨_, rfl, _, rfl, rfl⟩, cs _ _, trivial, trivial⟩
theorem ref_AddTo_ent : Enters Tryz.prog 80 := enters_of Tryz.func80 (by kernel_rfl) (by kernel_rfl)
theorem ref_AddTo (p m : Int) (A : Option Addr) (c : Nat) (mod : List Int) [hF : IsF p m mod] (Aa : Option Addr) (na ca : Nat) (a : List Int) (hna : na = a.length) (ha9 : a.length ≤ 1000000) (x : Int) (B : Option Addr) (nb cb : Nat) (b : List Int) (hnb : nb = b.length) (hab : b.length = a.length) (hin : AllIn (pw p m) a) :
  Pure Tryz.prog 80 #[.agg #[.int .i64 p, .int .i64 m, .slice A mod.length c], .slice Aa na ca, .int .i64 x, .slice B nb cb] [ro A (ints mod), ro Aa (ints a), ro B (ints b)] (one (fun v ch => ∃ C, v = .slice C na na ∧ ch = ow C 3 na (ints (addR (el x : El p m mod) a b)))) := by
 refine pure_of (args := [.agg #[.int .i64 p, .int .i64 m, .slice A mod.length c], .slice Aa na ca, .int .i64 x, .slice B nb cb]) 49 Tryz.func80 rfl rfl rfl ref_AddTo_ent ⟨id, id, id, trivial⟩ (fun w0 => ?_)
 refine tS ?_
 refine tR fun _ _ _ => ?_
 refine eV (eBox rfl rfl rfl rfl rfl (fun p0 => ?_))
 refine pV ?_
 refine tS ?_
 refine tR fun _ _ _ => ?_
 refine pV ?_
 refine sV (rLen rfl rfl) ?_
 refine eV (eMakeI rfl rfl rfl rfl rfl (by omega) (by omega) (by omega) (fun A1 => ?_))
 refine pV ?_
 simp only [Int.toNat_natCast]
 refine tS ?_
 refine tS ?_
 refine tR fun _ _ _ => ?_
 refine pV ?_
 refine tB ?_
 refine tr_loop2 (fun (k : Int) (o : List Int) => [(1, .slice Aa na ca), (2, .int .i64 x), (3, .slice B nb cb), (4, .pointer (some p0)), (9, .slice A1 na na), (10, .int .i64 k)]) (fun (k : Int) (o : List Int) => [ow A1 3 na (ints o), blk p0 24 [.int .i64 p, .int .i64 m, .slice A mod.length c], ro A (ints mod), ro Aa (ints a), ro B (ints b)]) (fun (k : Int) (o : List Int) => (0 ≤ k ∧ k ≤ na) ∧ o.length = na ∧ ∀ j : Nat, (j : Int) < k → o.getD j 0 = (el (a.getD j 0) + el x * el (b.getD j 0) : El p m mod).1) (fun (k : Int) (o : List Int) => (na - k).toNat) (0) (List.replicate na 0) ⟨rfl, rfl, rfl, rfl, rfl, rfl, trivial⟩ (by first | exact cs _ _ | exact CSub.refl _) (⟨⟨by omega, by omega⟩, by simp, fun j hj => by omega⟩) (fun k o hI => ?_)
 obtain ⟨⟨hk0, hk1⟩, hol, ho⟩ := hI
 have hsl : (o.set k.toNat (a.getD k.toNat 0)).length = na := by simpa using hol
 refine tS ?_
 refine tS ?_
 refine tR fun _ _ _ => ?_
 iterate 2 refine pV ?_
 refine sV (rLen rfl rfl) ?_
 refine pV ?_
 refine tC rfl (fun h3 => ?_) (fun h3 => ?_)
 ·try simp only [zbA] at h3
  refine tK ?_
  refine tS ?_
  refine tB ?_
  refine tS ?_
  refine tR fun _ _ _ => ?_
  iterate 4 refine pV ?_
  refine sV (rIdxI rfl rfl rfl (by omega) (by omega) (by omega)) ?_
  refine sV (rLdI rfl rfl (by omega)) ?_
  refine sV (rIdxI rfl rfl rfl (by omega) (by omega) (by omega)) ?_
  refine eV (eStI rfl rfl rfl rfl (by omega) ?_)
  refine tS ?_
  refine tR fun _ _ _ => ?_
  iterate 2 refine pV ?_
  refine sV (rIdxI rfl rfl rfl (by omega) (by omega) (by omega)) ?_
  refine sV (rLdI rfl rfl (by omega)) ?_
  refine pV ?_
  refine tC rfl (fun h6 => ?_) (fun h6 => ?_)
  ·try simp only [zbA] at h6
   refine tr_draw [0, 1, 2, 3, 4, 5, 6, 7, 8, 9, 10, 11, 12, 13, 14, 15] [16] mixed (by kernel_rfl) fun _ _ _ => ?_
   iterate 2 refine pV ?_
   refine sV (rLdS rfl rfl rfl) ?_
   iterate 2 refine pV ?_
   refine sV (rIdxI rfl rfl rfl (by omega) (by omega) (by omega)) ?_
   refine sV (rLdI rfl rfl (by omega)) ?_
   refine sV (rLdS rfl rfl rfl) ?_
   iterate 3 refine pV ?_
   refine sV (rIdxI rfl rfl rfl (by omega) (by omega) (by omega)) ?_
   refine sV (rLdI rfl rfl (by omega)) ?_
   refine eV (eCallV rfl rfl rfl (ref_MulE _ _ _ _ _ _ _) ⟨rfl, rfl, rfl, trivial⟩ ?_)
   refine eV (eCallV rfl rfl rfl (ref_AddE _ _ _ _ _ _ _) ⟨rfl, rfl, rfl, trivial⟩ ?_)
   refine sV (rIdxI rfl rfl rfl (by omega) (by omega) (by omega)) ?_
   refine eV (eStI rfl rfl rfl rfl (by omega) ?_)
   refine tR fun _ _ _ => ?_
   refine pV ?_
   refine sV (rAdd rfl rfl rfl (by omega) (by omega)) ?_
   refine pV ?_
   refine ⟨k + 1, (o.set k.toNat (a.getD k.toNat 0)).set k.toNat (el (a.getD k.toNat 0) + el (el x * el (b.getD k.toNat 0) : El p m mod).1 : El p m mod).1, ⟨rfl, rfl, rfl, rfl, rfl, rfl, trivial⟩, by first | exact cs _ _ | exact CSub.refl _, ?_⟩
   refine ⟨⟨⟨by omega, by omega⟩, by simpa using hol, fun j hj => ?_⟩, by omega⟩
   rw [getD_set, getD_set]
   by_cases he : k.toNat = j
   ·subst he; rw [if_pos ⟨rfl, by omega⟩, el_of]
   ·rw [if_neg (fun e => he e.1), if_neg (fun e => he e.1)]; exact ho j (by omega)
  ·try simp only [zbA] at h6
   refine tK ?_
   refine tR fun _ _ _ => ?_
   refine pV ?_
   refine sV (rAdd rfl rfl rfl (by omega) (by omega)) ?_
   refine pV ?_
   refine ⟨k + 1, o.set k.toNat (a.getD k.toNat 0), ⟨rfl, rfl, rfl, rfl, rfl, rfl, trivial⟩, by first | exact cs _ _ | exact CSub.refl _, ?_⟩
   refine ⟨⟨⟨by omega, by omega⟩, by simpa using hol, fun j hj => ?_⟩, by omega⟩
   rw [getD_set]
   by_cases he : k.toNat = j
   ·subst he
    have hb := hin.get (by have := hF.q2; omega) k.toNat
    rw [if_pos ⟨rfl, by omega⟩, show b.getD k.toNat 0 = 0 by omega, el_zero, Rg.mul_zero, Rg.add_zero, el_in hb]
   ·rw [if_neg (fun e => he e.1)]; exact ho j (by omega)
 ·try simp only [zbA] at h3
  refine tE ?_
  refine tS ?_
  refine tR fun _ _ _ => ?_
  iterate 2 refine pV ?_
  have hfin : o = addR (el x : El p m mod) a b := ext_getD (by simp; omega) fun t => by
   by_cases ht : t < a.length
   ·rw [addR_get _ _ _ ht, ho t (by omega)]
   ·rw [getD_out (by omega), getD_out (by simp; omega)]
  rw [← hfin]
  exact tr_ret ⟨trivial, _, _, rfl, ⟨_, rfl, _, rfl, rfl⟩, cs _ _, trivial, trivial⟩
theorem ref_Copy_ent : Enters Tryz.prog 107 := enters_of Tryz.func107 (by kernel_rfl) (by kernel_rfl)
theorem ref_Copy (A : Option Addr) (n c : Nat) (rs : List RowM) (hn : n = rs.length) (h9 : rs.length ≤ 1000000) (h8 : ∀ r ∈ rs, r.xs.length ≤ 1000000) :
  Pure Tryz.prog 107 #[.slice A n c] [ro A (hdrs rs), rowsR rs] (two (fun v ca cb => ∃ B cap qs, v = .slice B qs.length cap ∧ ca = ow B 22 cap (hdrs qs) ∧ cb = rowsCh 3 qs ∧ qs.map (·.xs) = rs.map (·.xs))) := by
 refine pure_of (args := [.slice A n c]) 21 Tryz.func107 rfl rfl rfl ref_Copy_ent ⟨id, id, trivial⟩ (fun w0 => ?_)
 refine tS ?_
 refine tR fun _ _ _ => ?_
 refine pV ?_
 refine tS ?_
 refine tR fun _ _ _ => ?_
 refine pV ?_
 refine tS ?_
 refine tS ?_
 refine tR fun _ _ _ => ?_
 refine pV ?_
 refine tB ?_
 refine tr_nilR 22 3 ?_
 refine tr_loop4 (fun (k : Int) (AQ : Option Addr) (cq : Nat) (qs : List RowM) => [(0, .slice A n c), (3, .slice AQ qs.length cq), (4, .int .i64 k)]) (fun (k : Int) (AQ : Option Addr) (cq : Nat) (qs : List RowM) => [ow AQ 22 cq (hdrs qs), rowsCh 3 qs, ro A (hdrs rs), rowsR rs]) (fun (k : Int) (AQ : Option Addr) (cq : Nat) (qs : List RowM) => (0 ≤ k ∧ k ≤ n) ∧ qs.map (·.xs) = (rs.take k.toNat).map (·.xs)) (fun (k : Int) (AQ : Option Addr) (cq : Nat) (qs : List RowM) => (n - k).toNat) (0) (none) (0) ([]) ⟨rfl, rfl, rfl, trivial⟩ (by first | exact cs _ _ | exact CSub.refl _) (⟨⟨by omega, by omega⟩, rfl⟩) (fun k AQ cq qs hI => ?_)
 obtain ⟨⟨hk0, hk1⟩, hq⟩ := hI
 have hql : qs.length ≤ n := by have := congrArg List.length hq; simp at this; omega
 refine tS ?_
 refine tS ?_
 refine tR fun _ _ _ => ?_
 iterate 2 refine pV ?_
 refine sV (rLen rfl rfl) ?_
 refine pV ?_
 refine tC rfl (fun h3 => ?_) (fun h3 => ?_)
 ·try simp only [zbA] at h3
  refine tK ?_
  refine tS ?_
  refine tB ?_
  haveI : InB k.toNat rs.length := ⟨by omega⟩
  have h8k := h8 _ (getD_mem (show k.toNat < rs.length by omega) rowD)
  have h8q : (rs[k.toNat]?.getD rowD).xs.length ≤ 1000000 := by rw [← List.getD_eq_getElem?_getD]; exact h8k
  refine tR fun _ _ _ => ?_
  refine pV ?_
  refine eV (eLit0I rfl rfl rfl  (fun A5 => ?_))
  iterate 2 refine pV ?_
  refine sV (rIdxR rfl rfl rfl (by omega) (by omega) (by omega)) ?_
  refine sV (rLdR rfl rfl (by omega)) ?_
  refine eV (eAppI rfl rfl rfl rfl rfl (by first | rfl | simp) (by first | rfl | simp) (by first | omega | (simp; omega)) (fun A5a c5a => ?_))
  refine eV (eLit1 rfl rfl rfl rfl rfl (fun A5b => ?_))
  refine eV (eAppR rfl rfl rfl rfl rfl (by first | rfl | simp) (by omega) (fun A5c c5c => ?_))
  refine pV ?_
  refine tR fun _ _ _ => ?_
  refine pV ?_
  refine sV (rAdd rfl rfl rfl (by omega) (by omega)) ?_
  refine pV ?_
  refine ⟨k + 1, A5c, c5c, qs ++ [⟨A5a, c5a, [] ++ (rs.getD k.toNat rowD).xs⟩], ⟨rfl, rfl, rfl, trivial⟩, by exact rows_app, ?_⟩
  refine ⟨⟨⟨by omega, by omega⟩, ?_⟩, by omega⟩
  rw [List.map_append, hq, show (k + 1).toNat = k.toNat + 1 by omega, List.take_add_one, List.getElem?_eq_getElem (show k.toNat < rs.length by omega), List.map_append]
  simp [List.getD_eq_getElem?_getD, show k.toNat < rs.length by omega]
 ·try simp only [zbA] at h3
  refine tE ?_
  refine tS ?_
  refine tR fun _ _ _ => ?_
  iterate 2 refine pV ?_
  have hkn : k.toNat = rs.length := by omega
  rw [hkn, List.take_length] at hq
  exact tr_ret ⟨trivial, _, _, rfl, ⟨_, _, rfl, AQ, cq, qs, rfl, rfl, rfl, hq⟩, cs _ _, trivial, trivial, trivial⟩
end Go.Proofs.YtfdjdokdabmmdaaGreat

set_option maxRecDepth 100000
namespace Go.Proofs.YtfdjdokdabmmdaaGreat
open Go.RowKit
theorem ref_Eliminate_ent : Enters Tryz.prog 77 := enters_of Tryz.func77 (by kernel_rfl) (by kernel_rfl)
theorem ref_Eliminate (p m : Int) (A : Option Addr) (c : Nat) (mod : List Int) [hF : IsF p m mod] (w : Int) (hw0 : 0 ≤ w) (hw9 : w ≤ 1000000) (Aa : Option Addr) (n ca : Nat) (rs : List RowM) (hn : n = rs.length) (hr9 : rs.length ≤ 1000000) (hgd0 : Gd (pw p m) w.toNat rs) :
  Pure Tryz.prog 77 #[.agg #[.int .i64 p, .int .i64 m, .slice A mod.length c], .slice Aa n ca, .int .i64 w] [ro A (ints mod), ro Aa (hdrs rs), rowsR rs] (three (fun v ca cb cc => ∃ r2 B cb1 Bp cb2 ps qs, v = .tuple #[.slice B r2.length cb1, .slice Bp ps.length cb2] ∧ ca = ow B 22 cb1 (hdrs r2) ∧ cb = rowsCh 3 r2 ∧ cc = ow Bp 3 cb2 (ints ps) ∧ ps = qs.map Int.ofNat ∧ r2.length = rs.length ∧ Gd (pw p m) w.toNat r2 ∧ qs.length ≤ rs.length ∧ Vc.Rr w.toNat ((vsR r2 : List (Vc (El p m mod))).take qs.length) qs ∧ ∀ u, Vc.SpL ((vsR r2 : List (Vc (El p m mod))).take qs.length) u ↔ Vc.SpL (vsR rs) u)) := by
 have hq2 := hF.q2
 have hr8 : ∀ r ∈ rs, r.xs.length ≤ 1000000 := fun r hr => by have := (hgd0 r hr).1; omega
 refine pure_of (args := [.agg #[.int .i64 p, .int .i64 m, .slice A mod.length c], .slice Aa n ca, .int .i64 w]) 137 Tryz.func77 rfl rfl rfl ref_Eliminate_ent ⟨id, id, id, trivial⟩ (fun w0 => ?_)
 refine tS ?_
 refine tR fun _ _ _ => ?_
 refine eV (eBox rfl rfl rfl rfl rfl (fun p0 => ?_))
 iterate 2 refine pV ?_
 refine tS ?_
 refine tR fun _ _ _ => ?_
 refine pV ?_
 refine eV (eCall2 rfl rfl rfl (ref_Copy Aa n ca rs hn hr9 hr8) ⟨rfl, trivial⟩ ?_)
 rintro _ _ _ ⟨B1, c1, qs1, rfl, rfl, rfl, hqs1⟩
 refine pV ?_
 refine tS ?_
 have hlq : qs1.length = n := by have := congrArg List.length hqs1; simp at this; omega
 rw [hlq]
 refine tR fun _ _ _ => ?_
 refine pV ?_
 refine tS ?_
 refine tR fun _ _ _ => ?_
 refine pV ?_
 refine tS ?_
 refine tS ?_
 refine tR fun _ _ _ => ?_
 refine pV ?_
 refine tB ?_
 refine tr_nilI 3 ?_
 refine tr_loop6 (fun (cc : Int) (k : Int) (ps : List Int) (AP : Option Addr) (cP : Nat) (r2 : List RowM) => [(2, .int .i64 w), (3, .pointer (some p0)), (8, .slice B1 n c1), (9, .slice AP ps.length cP), (10, .int .i64 k), (11, .int .i64 cc)]) (fun (cc : Int) (k : Int) (ps : List Int) (AP : Option Addr) (cP : Nat) (r2 : List RowM) => [ow AP 3 cP (ints ps), ow B1 22 c1 (hdrs r2), rowsCh 3 r2, blk p0 24 [.int .i64 p, .int .i64 m, .slice A mod.length c], ro A (ints mod)]) (fun (cc : Int) (k : Int) (ps : List Int) (AP : Option Addr) (cP : Nat) (r2 : List RowM) => (0 ≤ cc ∧ cc ≤ w) ∧ (r2.length = rs.length ∧ Gd (pw p m) w.toNat r2) ∧ ∃ qs, ps = qs.map Int.ofNat ∧ k = qs.length ∧ Vc.Eli (Vc.SpL (vsR rs : List (Vc (El p m mod)))) w.toNat (vsR r2) cc.toNat qs) (fun (cc : Int) (k : Int) (ps : List Int) (AP : Option Addr) (cP : Nat) (r2 : List RowM) => (w - cc).toNat) (0) (0) ([]) (none) (0) (qs1) ⟨rfl, rfl, rfl, rfl, rfl, rfl, trivial⟩ (by first | exact cs _ _ | exact CSub.refl _) (⟨⟨by omega, by omega⟩, ⟨by omega, Gd.of hqs1 hgd0⟩, [], rfl, rfl, by rw [← vsR_of hqs1]; exact Vc.Eli.start fun i j hi hj => by rw [vsR_at, getD_out (by rw [((Gd.of hqs1 hgd0).get (by simpa using hi)).1]; omega), el_zero]⟩) (fun cc k ps AP cP r2 hI => ?_)
 obtain ⟨⟨hc0, hc1⟩, ⟨hrl, hgd⟩, qs, hps, hkq, hE⟩ := hI
 have hpl : ps.length = qs.length := by rw [hps, List.length_map]
 have hEl := hE.len
 rw [vsR_length] at hEl
 refine tS ?_
 refine tS ?_
 refine tR fun _ _ _ => ?_
 iterate 4 refine pV ?_
 refine stg rfl rfl rfl rfl rfl (fun hb => by (have hq := hb; try simp only [zbA] at hq); exact rMove rfl rfl) ?_
 refine stg rfl rfl rfl rfl rfl (fun hb => by (have hq := hb; try simp only [zbA] at hq); exact rMove rfl rfl) ?_
 refine stg rfl rfl rfl rfl rfl (fun hb => by (have hq := hb; try simp only [zbA] at hq); exact rLen rfl (evg rfl hb)) ?_
 refine stg rfl rfl rfl rfl rfl (fun hb => by (have hq := hb; try simp only [zbA] at hq); exact rLss rfl (evg rfl hb) (evg rfl hb)) ?_
 refine sV (rAndB rfl rfl rfl rfl) ?_
 refine tC rfl (fun h5 => ?_) (fun h5 => ?_)
 ·try simp only [zbA] at h5
  refine tK ?_
  refine tS ?_
  refine tB ?_
  refine tS ?_
  refine tR fun _ _ _ => ?_
  iterate 2 refine pV ?_
  refine tS ?_
  refine tB ?_
  refine tr_loop1 (fun (ta : Int) => [(2, .int .i64 w), (3, .pointer (some p0)), (8, .slice B1 n c1), (9, .slice AP ps.length cP), (10, .int .i64 k), (11, .int .i64 cc), (12, .int .i64 ta)]) (fun (ta : Int) => [ow AP 3 cP (ints ps), ow B1 22 c1 (hdrs r2), rowsCh 3 r2, blk p0 24 [.int .i64 p, .int .i64 m, .slice A mod.length c], ro A (ints mod)]) (fun (ta : Int) => (k ≤ ta ∧ ta ≤ n) ∧ ∀ i : Nat, k ≤ i → (i : Int) < ta → (r2.getD i rowD).xs.getD cc.toNat 0 = 0) (fun (ta : Int) => (n - ta).toNat) (k) ⟨rfl, rfl, rfl, rfl, rfl, rfl, rfl, trivial⟩ (by first | exact cs _ _ | exact CSub.refl _) (⟨⟨by omega, by omega⟩, fun i h1 h2 => by omega⟩) (fun ta hI => ?_)
  obtain ⟨⟨ht0, ht1⟩, htz⟩ := hI
  refine tS ?_
  refine tS ?_
  refine tR fun _ _ _ => ?_
  iterate 2 refine pV ?_
  refine sV (rLen rfl rfl) ?_
  iterate 2 refine pV ?_
  refine stg rfl rfl rfl rfl rfl (fun hb => by (have hq := hb; try simp only [zbA] at hq); exact rMove rfl rfl) ?_
  refine stg rfl rfl rfl rfl rfl (fun hb => by (have hq := hb; try simp only [zbA] at hq); exact rMove rfl rfl) ?_
  refine stg rfl rfl rfl rfl rfl (fun hb => by (have hq := hb; try simp only [zbA] at hq); exact rIdxR rfl (evg rfl hb) (evg rfl hb) (by omega) (by omega) (by omega)) ?_
  refine stg rfl rfl rfl rfl rfl (fun hb => by (have hq := hb; try simp only [zbA] at hq); exact rLdR rfl (evg rfl hb) (by omega)) ?_
  refine stg rfl rfl rfl rfl rfl (fun hb => by (have hq := hb; try simp only [zbA] at hq); exact rMove rfl rfl) ?_
  refine stg rfl rfl rfl rfl rfl (fun hb => by (have hq := hb; try simp only [zbA] at hq); exact (haveI : InB ta.toNat r2.length := ⟨by omega⟩; have hw := (hgd.get (show ta.toNat < r2.length by omega)).1; rIdxI rfl (evg rfl hb) (evg rfl hb) (by omega) (by omega) (by omega))) ?_
  refine stg rfl rfl rfl rfl rfl (fun hb => by (have hq := hb; try simp only [zbA] at hq); exact (haveI : InB ta.toNat r2.length := ⟨by omega⟩; have hw := (hgd.get (show ta.toNat < r2.length by omega)).1; rLdI rfl (evg rfl hb) (by omega))) ?_
  refine stg rfl rfl rfl rfl rfl (fun hb => by (have hq := hb; try simp only [zbA] at hq); exact rEql rfl (evg rfl hb) rfl) ?_
  refine sV (rAndB rfl rfl rfl rfl) ?_
  refine tC rfl (fun h8 => ?_) (fun h8 => ?_)
  ·try simp only [zbA] at h8
   refine tK ?_
   refine tB ?_
   refine tR fun _ _ _ => ?_
   refine pV ?_
   refine sV (rAdd rfl rfl rfl (by omega) (by omega)) ?_
   refine pV ?_
   refine ⟨ta + 1, ⟨rfl, rfl, rfl, rfl, rfl, rfl, rfl, trivial⟩, by first | exact cs _ _ | exact CSub.refl _, ?_⟩
   refine ⟨⟨⟨by omega, by omega⟩, fun i h1 h2 => ?_⟩, by omega⟩
   by_cases he : (i : Int) = ta
   ·have : i = ta.toNat := by omega
    rw [this]; exact h8.2
   ·exact htz i h1 (by omega)
  ·try simp only [zbA] at h8
   refine tE ?_
   refine tS ?_
   refine tS ?_
   refine tR fun _ _ _ => ?_
   iterate 2 refine pV ?_
   refine sV (rLen rfl rfl) ?_
   refine pV ?_
   refine tC rfl (fun h10 => ?_) (fun h10 => ?_)
   ·try simp only [zbA] at h10
    refine tE ?_
    refine tR fun _ _ _ => ?_
    refine pV ?_
    refine sV (rAdd rfl rfl rfl (by omega) (by omega)) ?_
    refine pV ?_
    refine ⟨cc + 1, k, ps, AP, cP, r2, ⟨rfl, rfl, rfl, rfl, rfl, rfl, trivial⟩, by first | exact cs _ _ | exact CSub.refl _, ?_⟩
    refine ⟨⟨⟨by omega, by omega⟩, ⟨hrl, hgd⟩, qs, hps, hkq, ?_⟩, by omega⟩
    rw [show (cc + 1).toNat = cc.toNat + 1 by omega]
    refine hE.skip fun i h1 h2 => ?_
    rw [vsR_length] at h2
    rw [vsR_at, htz i (by omega) (by omega), el_zero]
   ·try simp only [zbA] at h10
    refine tK ?_
    refine tS ?_
    have hne : (r2.getD ta.toNat rowD).xs.getD cc.toNat 0 ≠ 0 := h8.resolve_left (fun h => h (by omega))
    have hkn : k.toNat = qs.length := by omega
    haveI : InB ta.toNat r2.length := ⟨by omega⟩
    haveI : InB k.toNat r2.length := ⟨by omega⟩
    refine tr_plan [] [(0, 0), (0, 1), (2, 2), (2, 3), (0, 4), (0, 5), (0, 6), (0, 7), (0, 8), (0, 9), (0, 10), (0, 11), (0, 12), (1, 13), (0, 14), (1, 15)] mixed (by kernel_rfl) fun _ _ _ => ?_
    iterate 2 refine pV ?_
    refine stF rfl rfl rfl rfl (cs _ _) (rMove rfl rfl) ?_
    refine stF rfl rfl rfl rfl (cs _ _) (rMove rfl rfl) ?_
    iterate 2 refine pV ?_
    refine sV (rIdxR rfl rfl rfl (by omega) (by omega) (by omega)) ?_
    refine sV (rLdR rfl rfl (by omega)) ?_
    iterate 2 refine pV ?_
    refine sV (rIdxR rfl rfl rfl (by omega) (by omega) (by omega)) ?_
    refine sV (rLdR rfl rfl (by omega)) ?_
    refine sV (rIdxR rfl rfl rfl (by omega) (by omega) (by omega)) ?_
    refine eV (eSt rfl rfl rfl rfl (by first | omega | (simp; omega)) rfl rfl ?_)
    refine ⟨cs _ _, ?_⟩
    refine sV (rIdx rfl rfl rfl (by omega) (by omega) (by simp; omega)) ?_
    refine eV (eSt rfl rfl rfl rfl (by first | omega | (simp; omega)) rfl rfl ?_)
    refine ⟨cs _ _, ?_⟩
    have hh : ((hdrs r2).set k.toNat (.slice (r2.getD ta.toNat rowD).A (r2.getD ta.toNat rowD).xs.length (r2.getD ta.toNat rowD).cap)).set ta.toNat (.slice (r2.getD k.toNat rowD).A (r2.getD k.toNat rowD).xs.length (r2.getD k.toNat rowD).cap) = hdrs ((r2.set k.toNat (r2.getD ta.toNat rowD)).set ta.toNat (r2.getD k.toNat rowD)) := by rw [hdrs_set, hdrs_set]; rfl
    rw [hh]
    refine tr_chunks _ ((cs _ [rowsCh 3 r2, ow B1 22 c1 (hdrs ((r2.set k.toNat (r2.getD ta.toNat rowD)).set ta.toNat (r2.getD k.toNat rowD))), ow AP 3 cP (ints ps), blk p0 24 [.int .i64 p, .int .i64 m, .slice A mod.length c], ro A (ints mod)]).trans (rows_perm (swap_perm rowD r2 (i := k.toNat) (j := ta.toNat) (by omega) (by omega)) _)) ?_
    have hrl3 : ((r2.set k.toNat (r2.getD ta.toNat rowD)).set ta.toNat (r2.getD k.toNat rowD)).length = rs.length := by simpa using hrl
    have hgd3 := hgd.perm (swap_perm rowD r2 (i := k.toNat) (j := ta.toNat) (by omega) (by omega))
    have hE3 : Vc.Eli (Vc.SpL (vsR rs : List (Vc (El p m mod)))) w.toNat (vsR ((r2.set k.toNat (r2.getD ta.toNat rowD)).set ta.toNat (r2.getD k.toNat rowD))) cc.toNat qs := by
     have := hE.swap (a := ta.toNat) (by omega) (by rw [vsR_length]; omega)
     rw [← hkn, vsR_get, vsR_get] at this
     rw [vsR_set, vsR_set]; exact this
    have hne3 : (((r2.set k.toNat (r2.getD ta.toNat rowD)).set ta.toNat (r2.getD k.toNat rowD)).getD k.toNat rowD).xs.getD cc.toNat 0 ≠ 0 := by
     rw [row_set, row_set]
     by_cases e : ta.toNat = k.toNat
     ·rw [if_pos ⟨e, by simp; omega⟩, ← e]; exact hne
     ·rw [if_neg (fun x => e x.1), if_pos ⟨rfl, by omega⟩]; exact hne
    generalize (r2.set k.toNat (r2.getD ta.toNat rowD)).set ta.toNat (r2.getD k.toNat rowD) = r3 at hrl3 hgd3 hE3 hne3
    haveI : InB k.toNat r3.length := ⟨by omega⟩
    have hw3 := hgd3.get (show k.toNat < r3.length by omega)
    have hen := hw3.2.get (by omega) cc.toNat
    have hnz3 : (el ((r3.getD k.toNat rowD).xs.getD cc.toNat 0) : El p m mod) ≠ 0 := fun e => hne3 ((el_eq_zero hen).1 e)
    have hw31 := hw3.1
    refine tr_join (fun (q : (List RowM)) => match q with | r4 => [(2, .int .i64 w), (3, .pointer (some p0)), (8, .slice B1 n c1), (9, .slice AP ps.length cP), (10, .int .i64 k), (11, .int .i64 cc)]) (fun (q : (List RowM)) => match q with | r4 => [ow AP 3 cP (ints ps), ow B1 22 c1 (hdrs r4), rowsCh 3 r4, blk p0 24 [.int .i64 p, .int .i64 m, .slice A mod.length c], ro A (ints mod)]) (fun (q : (List RowM)) => match q with | r4 => (r4.length = rs.length ∧ Gd (pw p m) w.toNat r4) ∧ Vc.Eli (Vc.SpL (vsR rs : List (Vc (El p m mod)))) w.toNat (vsR r4) cc.toNat qs ∧ (r4.getD k.toNat rowD).xs.getD cc.toNat 0 = 1) ?_ ?_
    ·refine tS ?_
     refine tR fun _ _ _ => ?_
     iterate 2 refine pV ?_
     refine sV (rIdxR rfl rfl rfl (by omega) (by omega) (by omega)) ?_
     refine sV (rLdR rfl rfl (by omega)) ?_
     refine pV ?_
     refine sV (rIdxI rfl rfl rfl (by omega) (by omega) (by omega)) ?_
     refine sV (rLdI rfl rfl (by omega)) ?_
     refine pV ?_
     refine tC rfl (fun h12 => ?_) (fun h12 => ?_)
     ·try simp only [zbA] at h12
      refine tr_draw [0, 1, 2, 3, 4, 5, 6, 7, 8, 9, 10, 12, 13, 14, 15, 11, 16, 17] [18] mixed (by kernel_rfl) fun _ _ _ => ?_
      iterate 2 refine pV ?_
      refine sV (rLdS rfl rfl rfl) ?_
      refine sV (rLdS rfl rfl rfl) ?_
      iterate 2 refine pV ?_
      refine sV (rIdxR rfl rfl rfl (by omega) (by omega) (by omega)) ?_
      refine sV (rLdR rfl rfl (by omega)) ?_
      refine pV ?_
      refine sV (rIdxI rfl rfl rfl (by omega) (by omega) (by omega)) ?_
      refine sV (rLdI rfl rfl (by omega)) ?_
      iterate 2 refine pV ?_
      refine sV (rIdxR rfl rfl rfl (by omega) (by omega) (by omega)) ?_
      refine sV (rLdR rfl rfl (by omega)) ?_
      refine eV (eCallV rfl rfl rfl (ref_InvE _ _ _ _ _ _) ⟨rfl, rfl, trivial⟩ ?_)
      refine eV (eCall1 rfl rfl rfl (ref_scale p m A c mod _ _ _ _ (r3.getD k.toNat rowD).xs rfl (by omega)) ⟨rfl, rfl, rfl, trivial⟩ ?_)
      rintro _ _ ⟨B13, rfl, rfl⟩
      refine sV (rIdxR rfl rfl rfl (by omega) (by omega) (by omega)) ?_
      refine eV (eSt rfl rfl rfl rfl (by first | omega | (simp; omega)) rfl rfl ?_)
      refine ⟨(r3.set k.toNat (⟨B13, (r3.getD k.toNat rowD).xs.length, sclR (el ((Fd.inv (el ((r3.getD k.toNat rowD).xs.getD cc.toNat 0)) : El p m mod).1) : El p m mod) (r3.getD k.toNat rowD).xs⟩ : RowM)), ⟨rfl, rfl, rfl, rfl, rfl, rfl, trivial⟩, by dsimp only; rw [← (show (hdrs r3).set k.toNat (.slice B13 (r3.getD k.toNat rowD).xs.length (r3.getD k.toNat rowD).xs.length) = hdrs (r3.set k.toNat (⟨B13, (r3.getD k.toNat rowD).xs.length, sclR (el ((Fd.inv (el ((r3.getD k.toNat rowD).xs.getD cc.toNat 0)) : El p m mod).1) : El p m mod) (r3.getD k.toNat rowD).xs⟩ : RowM)) by rw [hdrs_set]; simp [RowM.hdr])]; exact (cs _ [rowsCh 3 r3, ow B13 3 (r3.getD k.toNat rowD).xs.length (ints (RowM.xs (⟨B13, (r3.getD k.toNat rowD).xs.length, sclR (el ((Fd.inv (el ((r3.getD k.toNat rowD).xs.getD cc.toNat 0)) : El p m mod).1) : El p m mod) (r3.getD k.toNat rowD).xs⟩ : RowM))), ow B1 22 c1 ((hdrs r3).set k.toNat (.slice B13 (r3.getD k.toNat rowD).xs.length (r3.getD k.toNat rowD).xs.length)), ow AP 3 cP (ints ps), blk p0 24 [.int .i64 p, .int .i64 m, .slice A mod.length c], ro A (ints mod)]).trans ((rows_put (r := (⟨B13, (r3.getD k.toNat rowD).xs.length, sclR (el ((Fd.inv (el ((r3.getD k.toNat rowD).xs.getD cc.toNat 0)) : El p m mod).1) : El p m mod) (r3.getD k.toNat rowD).xs⟩ : RowM)) (show k.toNat < r3.length by omega) _).trans (cs _ _)), ?_⟩
      refine ⟨⟨by simpa using hrl3, hgd3.set _ (by simpa using hw3.1) (sclR_in _ _)⟩, ?_, ?_⟩
      ·have := hE3.scale (by rw [vsR_length]; omega) (Fd.inv_ne hnz3)
       rw [← hkn, vsR_get] at this
       rw [vsR_set, rw_sclR, el_of]; exact this
      ·rw [row_set, if_pos ⟨rfl, by omega⟩]
       refine (val_of_el (mod := mod) (sclR_in _ _) cc.toNat trivial ?_)
       have := congrFun (rw_sclR (el ((Fd.inv (el ((r3.getD k.toNat rowD).xs.getD cc.toNat 0)) : El p m mod).1) : El p m mod) (r3.getD k.toNat rowD).xs) cc.toNat
       rw [rw_at, Vc.sc_at, rw_at, el_of] at this
       rw [el_of, this]; exact Fd.inv_mul _ hnz3
     ·try simp only [zbA] at h12
      refine tK ?_
      refine ⟨(r3), ⟨rfl, rfl, rfl, rfl, rfl, rfl, trivial⟩, by first | exact cs _ _ | exact CSub.refl _, ?_⟩
      exact ⟨⟨hrl3, hgd3⟩, hE3, by omega⟩
    ·rintro r4 hI
     obtain ⟨⟨hrl4, hgd4⟩, hE4, hone4⟩ := hI
     refine tS ?_
     refine tS ?_
     refine tR fun _ _ _ => ?_
     refine pV ?_
     refine tB ?_
     refine tr_loop2 (fun (i : Int) (r5 : List RowM) => [(2, .int .i64 w), (3, .pointer (some p0)), (8, .slice B1 n c1), (9, .slice AP ps.length cP), (10, .int .i64 k), (11, .int .i64 cc), (13, .int .i64 i)]) (fun (i : Int) (r5 : List RowM) => [ow AP 3 cP (ints ps), ow B1 22 c1 (hdrs r5), rowsCh 3 r5, blk p0 24 [.int .i64 p, .int .i64 m, .slice A mod.length c], ro A (ints mod)]) (fun (i : Int) (r5 : List RowM) => (0 ≤ i ∧ i ≤ n) ∧ (r5.length = rs.length ∧ Gd (pw p m) w.toNat r5) ∧ Vc.Eli (Vc.SpL (vsR rs : List (Vc (El p m mod)))) w.toNat (vsR r5) cc.toNat qs ∧ (r5.getD k.toNat rowD).xs.getD cc.toNat 0 = 1 ∧ ∀ t : Nat, (t : Int) < i → t ≠ k.toNat → (r5.getD t rowD).xs.getD cc.toNat 0 = 0) (fun (i : Int) (r5 : List RowM) => (n - i).toNat) (0) (r4) ⟨rfl, rfl, rfl, rfl, rfl, rfl, rfl, trivial⟩ (by first | exact cs _ _ | exact CSub.refl _) (⟨⟨by omega, by omega⟩, ⟨hrl4, hgd4⟩, hE4, hone4, fun t h1 h2 => by omega⟩) (fun i r5 hI => ?_)
     obtain ⟨⟨hi0, hi1⟩, ⟨hrl5, hgd5⟩, hE5, hone5, hz5⟩ := hI
     refine tS ?_
     refine tS ?_
     refine tR fun _ _ _ => ?_
     iterate 2 refine pV ?_
     refine sV (rLen rfl rfl) ?_
     refine pV ?_
     refine tC rfl (fun h15 => ?_) (fun h15 => ?_)
     ·try simp only [zbA] at h15
      refine tK ?_
      refine tS ?_
      refine tB ?_
      refine tS ?_
      refine tR fun _ _ _ => ?_
      iterate 4 refine pV ?_
      refine stg rfl rfl rfl rfl rfl (fun hb => by (have hq := hb; try simp only [zbA] at hq); exact rMove rfl rfl) ?_
      refine stg rfl rfl rfl rfl rfl (fun hb => by (have hq := hb; try simp only [zbA] at hq); exact rMove rfl rfl) ?_
      refine stg rfl rfl rfl rfl rfl (fun hb => by (have hq := hb; try simp only [zbA] at hq); exact rIdxR rfl (evg rfl hb) (evg rfl hb) (by omega) (by omega) (by omega)) ?_
      refine stg rfl rfl rfl rfl rfl (fun hb => by (have hq := hb; try simp only [zbA] at hq); exact rLdR rfl (evg rfl hb) (by omega)) ?_
      refine stg rfl rfl rfl rfl rfl (fun hb => by (have hq := hb; try simp only [zbA] at hq); exact rMove rfl rfl) ?_
      refine stg rfl rfl rfl rfl rfl (fun hb => by (have hq := hb; try simp only [zbA] at hq); exact (haveI : InB i.toNat r5.length := ⟨by omega⟩; have hw := (hgd5.get (show i.toNat < r5.length by omega)).1; rIdxI rfl (evg rfl hb) (evg rfl hb) (by omega) (by omega) (by omega))) ?_
      refine stg rfl rfl rfl rfl rfl (fun hb => by (have hq := hb; try simp only [zbA] at hq); exact (haveI : InB i.toNat r5.length := ⟨by omega⟩; have hw := (hgd5.get (show i.toNat < r5.length by omega)).1; rLdI rfl (evg rfl hb) (by omega))) ?_
      refine stg rfl rfl rfl rfl rfl (fun hb => by (have hq := hb; try simp only [zbA] at hq); exact rNeq rfl (evg rfl hb) rfl) ?_
      refine sV (rAndB rfl rfl rfl rfl) ?_
      refine tC rfl (fun h17 => ?_) (fun h17 => ?_)
      ·try simp only [zbA] at h17
       haveI : InB i.toNat r5.length := ⟨by omega⟩
       haveI : InB k.toNat r5.length := ⟨by omega⟩
       have hwi := hgd5.get (show i.toNat < r5.length by omega)
       have hwk := hgd5.get (show k.toNat < r5.length by omega)
       have hwi1 := hwi.1
       have hwk1 := hwk.1
       refine tr_draw [0, 1, 2, 3, 4, 5, 6, 7, 8, 9, 10, 11, 12, 13, 14, 16, 17, 18, 19, 15, 20, 21] [22] mixed (by kernel_rfl) fun _ _ _ => ?_
       iterate 2 refine pV ?_
       refine sV (rLdS rfl rfl rfl) ?_
       iterate 2 refine pV ?_
       refine sV (rIdxR rfl rfl rfl (by omega) (by omega) (by omega)) ?_
       refine sV (rLdR rfl rfl (by omega)) ?_
       refine sV (rLdS rfl rfl rfl) ?_
       iterate 2 refine pV ?_
       refine sV (rIdxR rfl rfl rfl (by omega) (by omega) (by omega)) ?_
       refine sV (rLdR rfl rfl (by omega)) ?_
       refine pV ?_
       refine sV (rIdxI rfl rfl rfl (by omega) (by omega) (by omega)) ?_
       refine sV (rLdI rfl rfl (by omega)) ?_
       iterate 2 refine pV ?_
       refine sV (rIdxR rfl rfl rfl (by omega) (by omega) (by omega)) ?_
       refine sV (rLdR rfl rfl (by omega)) ?_
       refine eV (eCallV rfl rfl rfl (ref_NegE _ _ _ _ _ _) ⟨rfl, rfl, trivial⟩ ?_)
       refine eV (eCall1 rfl rfl rfl (ref_AddTo p m A c mod _ _ _ (r5.getD i.toNat rowD).xs rfl (by omega) _ _ _ _ (r5.getD k.toNat rowD).xs rfl (by omega) hwi.2) ⟨rfl, rfl, rfl, rfl, trivial⟩ ?_)
       rintro _ _ ⟨B18, rfl, rfl⟩
       refine sV (rIdxR rfl rfl rfl (by omega) (by omega) (by omega)) ?_
       refine eV (eSt rfl rfl rfl rfl (by first | omega | (simp; omega)) rfl rfl ?_)
       refine tR fun _ _ _ => ?_
       refine pV ?_
       refine sV (rAdd rfl rfl rfl (by omega) (by omega)) ?_
       refine pV ?_
       refine ⟨i + 1, r5.set i.toNat (⟨B18, (r5.getD i.toNat rowD).xs.length, addR (el (-(el ((r5.getD i.toNat rowD).xs.getD cc.toNat 0)) : El p m mod).1 : El p m mod) (r5.getD i.toNat rowD).xs (r5.getD k.toNat rowD).xs⟩ : RowM), ⟨rfl, rfl, rfl, rfl, rfl, rfl, rfl, trivial⟩, by rw [← (show (hdrs r5).set i.toNat (.slice B18 (r5.getD i.toNat rowD).xs.length (r5.getD i.toNat rowD).xs.length) = hdrs (r5.set i.toNat (⟨B18, (r5.getD i.toNat rowD).xs.length, addR (el (-(el ((r5.getD i.toNat rowD).xs.getD cc.toNat 0)) : El p m mod).1 : El p m mod) (r5.getD i.toNat rowD).xs (r5.getD k.toNat rowD).xs⟩ : RowM)) by rw [hdrs_set]; simp [RowM.hdr])]; exact (cs _ [rowsCh 3 r5, ow B18 3 (r5.getD i.toNat rowD).xs.length (ints (RowM.xs (⟨B18, (r5.getD i.toNat rowD).xs.length, addR (el (-(el ((r5.getD i.toNat rowD).xs.getD cc.toNat 0)) : El p m mod).1 : El p m mod) (r5.getD i.toNat rowD).xs (r5.getD k.toNat rowD).xs⟩ : RowM))), ow B1 22 c1 ((hdrs r5).set i.toNat (.slice B18 (r5.getD i.toNat rowD).xs.length (r5.getD i.toNat rowD).xs.length)), ow AP 3 cP (ints ps), blk p0 24 [.int .i64 p, .int .i64 m, .slice A mod.length c], ro A (ints mod)]).trans ((rows_put (r := (⟨B18, (r5.getD i.toNat rowD).xs.length, addR (el (-(el ((r5.getD i.toNat rowD).xs.getD cc.toNat 0)) : El p m mod).1 : El p m mod) (r5.getD i.toNat rowD).xs (r5.getD k.toNat rowD).xs⟩ : RowM)) (show i.toNat < r5.length by omega) _).trans (cs _ _)), ?_⟩
       refine ⟨⟨⟨by omega, by omega⟩, ⟨by simpa using hrl5, hgd5.set _ (by simpa using hwi.1) (addR_in _ _ _)⟩, ?_, ?_, fun t h1 h2 => ?_⟩, by omega⟩
       ·have := hE5.plus (by rw [vsR_length]; omega) (i := i.toNat) (by rw [vsR_length]; omega) (by omega) (-(el ((r5.getD i.toNat rowD).xs.getD cc.toNat 0) : El p m mod))
        rw [← hkn, vsR_get, vsR_get] at this
        rw [vsR_set, rw_addR _ _ _ (by omega), el_of]; exact this
       ·rw [row_set, if_neg (by omega)]; exact hone5
       ·rw [row_set]
        split
        ·rename_i he
         obtain ⟨rfl, he⟩ := he
         show (addR _ _ _).getD cc.toNat 0 = 0
         rw [addR_get _ _ _ (by omega), hone5, el_one, el_of]
         exact congrArg Subtype.val (show (el ((r5.getD i.toNat rowD).xs.getD cc.toNat 0) + -el ((r5.getD i.toNat rowD).xs.getD cc.toNat 0) * 1 : El p m mod) = 0 by grind)
        ·exact hz5 t (by omega) h2
      ·try simp only [zbA] at h17
       refine tK ?_
       refine tR fun _ _ _ => ?_
       refine pV ?_
       refine sV (rAdd rfl rfl rfl (by omega) (by omega)) ?_
       refine pV ?_
       refine ⟨i + 1, r5, ⟨rfl, rfl, rfl, rfl, rfl, rfl, rfl, trivial⟩, by first | exact cs _ _ | exact CSub.refl _, ?_⟩
       refine ⟨⟨⟨by omega, by omega⟩, ⟨hrl5, hgd5⟩, hE5, hone5, fun t h1 h2 => ?_⟩, by omega⟩
       by_cases he : t = i.toNat
       ·subst he
        have h3 : i ≠ k := by omega
        exact h17.resolve_left h3
       ·exact hz5 t (by omega) h2
     ·try simp only [zbA] at h15
      refine tE ?_
      refine tS ?_
      refine tR fun _ _ _ => ?_
      iterate 2 refine pV ?_
      refine eV (eLit1I rfl rfl rfl rfl (fun A19 => ?_))
      refine eV (eAppI rfl rfl rfl rfl rfl (by first | rfl | simp) (by first | rfl | simp) (by first | omega | (simp; omega)) (fun A19a c19a => ?_))
      refine pV ?_
      refine tR fun _ _ _ => ?_
      refine pV ?_
      refine sV (rAdd rfl rfl rfl (by omega) (by omega)) ?_
      refine pV ?_
      refine tR fun _ _ _ => ?_
      refine pV ?_
      refine sV (rAdd rfl rfl rfl (by omega) (by omega)) ?_
      refine pV ?_
      refine ⟨cc + 1, k + 1, ps ++ [cc], A19a, c19a, r5, ⟨rfl, rfl, rfl, rfl, rfl, rfl, trivial⟩, by first | exact cs _ _ | exact CSub.refl _, ?_⟩
      refine ⟨⟨⟨by omega, by omega⟩, ⟨hrl5, hgd5⟩, qs ++ [cc.toNat], ?_, by simp; omega, ?_⟩, by omega⟩
      ·rw [hps, List.map_append]; simp; omega
      ·rw [show (cc + 1).toNat = cc.toNat + 1 by omega]
       refine hE5.push (by rw [vsR_length]; omega) ?_ (fun t h1 h2 => ?_)
       ·rw [vsR_at, ← hkn, hone5, el_one]
       ·rw [vsR_length] at h1
        rw [vsR_at, hz5 t (by omega) (by omega), el_zero]
 ·try simp only [zbA] at h5
  refine tE ?_
  refine tS ?_
  refine tR fun _ _ _ => ?_
  iterate 4 refine pV ?_
  obtain ⟨hR1, hR2⟩ := hE.done (by rw [vsR_length]; omega) (by omega)
  exact tr_ret ⟨trivial, _, _, rfl, ⟨_, _, _, rfl, r2, B1, c1, AP, cP, ps, qs, by rw [show n = r2.length by omega], rfl, rfl, rfl, hps, hrl, hgd, by omega, hR1, hR2⟩, cs _ _, trivial, trivial, trivial, trivial⟩
end Go.Proofs.YtfdjdokdabmmdaaGreat

set_option maxRecDepth 100000
namespace Go.Proofs.YtfdjdokdabmmdaaGreat
open Go.RowKit
theorem hdrs_take (A : Option Addr) (e : TypeId) (cap : Nat) (rs : List RowM) (k : Nat) (F : List Chunk) : CSub (ow A e cap (hdrs rs) :: F) (ow A e cap (hdrs (rs.take k)) :: F) := by
 have h := ow_shrink (e := e) (A := A) (cap := cap) (vs := hdrs (rs.take k)) (ws := hdrs (rs.drop k)) F
 rwa [← hdrs_append, List.take_append_drop] at h
theorem ref_RCanon_ent : Enters Tryz.prog 46 := enters_of Tryz.func46 (by kernel_rfl) (by kernel_rfl)
theorem ref_RCanon (p m : Int) (A : Option Addr) (c : Nat) (mod : List Int) [hF : IsF p m mod] (w : Int) (hw0 : 0 ≤ w) (hw9 : w ≤ 1000000) (Aa : Option Addr) (n ca : Nat) (rs : List RowM) (hn : n = rs.length) (hr9 : rs.length ≤ 1000000) (hgd0 : Gd (pw p m) w.toNat rs) :
  Pure Tryz.prog 46 #[.agg #[.int .i64 p, .int .i64 m, .slice A mod.length c], .slice Aa n ca, .int .i64 w] [ro A (ints mod), ro Aa (hdrs rs), rowsR rs] (three (fun v ca cb cc => ∃ r3 B cb1 Bp cb2 ps, v = .tuple #[.slice B r3.length cb1, .slice Bp ps.length cb2] ∧ ca = ow B 22 cb1 (hdrs r3) ∧ cb = rowsCh 3 r3 ∧ cc = ow Bp 3 cb2 (ints ps) ∧ RrOf p m mod w.toNat rs r3 ps ∧ r3.length ≤ rs.length)) := by
 refine pure_of (args := [.agg #[.int .i64 p, .int .i64 m, .slice A mod.length c], .slice Aa n ca, .int .i64 w]) 22 Tryz.func46 rfl rfl rfl ref_RCanon_ent ⟨id, id, id, trivial⟩ (fun w0 => ?_)
 refine tS ?_
 refine tR fun _ _ _ => ?_
 refine eV (eBox rfl rfl rfl rfl rfl (fun p0 => ?_))
 iterate 2 refine pV ?_
 refine tS ?_
 refine tR fun _ _ _ => ?_
 refine sV (rLdS rfl rfl rfl) ?_
 iterate 2 refine pV ?_
 refine eV (eCall3 rfl rfl rfl (ref_Eliminate p m A c mod w hw0 hw9 Aa n ca rs hn hr9 hgd0) ⟨rfl, rfl, rfl, trivial⟩ ?_)
 rintro _ _ _ _ ⟨r2, B1, cb1, Bp, cb2, ps, qs, rfl, rfl, rfl, rfl, hps, hrl, hgd, hql, hR1, hR2⟩
 iterate 5 refine pV ?_
 refine tS ?_
 refine tr_cap B1 22 cb1 (hdrs r2) fun hcap => ?_
 rw [hdrs_length] at hcap
 have hpl : ps.length = qs.length := by rw [hps, List.length_map]
 refine tR fun _ _ _ => ?_
 iterate 2 refine pV ?_
 refine sV (rLen rfl rfl) ?_
 refine sV (rCutHi rfl rfl rfl (by omega) (by omega)) ?_
 iterate 3 refine pV ?_
 simp only [Int.toNat_natCast]
 have htl : (r2.take ps.length).length = ps.length := by rw [List.length_take]; omega
 have hRr : RrOf p m mod w.toNat rs (r2.take ps.length) ps := by
  rw [vsR_take, ← hpl] at hR1 hR2
  exact ⟨hgd.take _, htl.symm, ⟨qs, hps, hR1⟩, hR2⟩
 exact tr_ret ⟨trivial, _, _, rfl, ⟨_, _, _, rfl, r2.take ps.length, B1, cb1, Bp, cb2, ps, by rw [htl], rfl, rfl, rfl, hRr, by omega⟩, (cs _ [ow B1 22 cb1 (hdrs r2), rowsCh 3 r2, ow Bp 3 cb2 (ints ps)]).trans ((hdrs_take _ _ _ _ _ _).trans (CSub.cons _ (rows_take _ _))), trivial, trivial, trivial, trivial⟩
end Go.Proofs.YtfdjdokdabmmdaaGreat

set_option maxRecDepth 100000
namespace Go.Proofs.YtfdjdokdabmmdaaGreat
open Go.RowKit
section
variable {p m : Int} {mod : List Int} [hF : IsF p m mod]
end
end Go.Proofs.YtfdjdokdabmmdaaGreat

set_option maxRecDepth 100000
namespace Go.Proofs.YtfdjdokdabmmdaaGreat
open Go.RowKit
open Classical in
noncomputable def rowsC (q w : Int) (l : List (List Int)) : Int :=
 if ¬ (0 ≤ w ∧ w ≤ 256 ∧ l.length ≤ 256) then 3 else if ¬ ∀ r ∈ l, (r.length : Int) = w then 3 else if ∀ r ∈ l, AllIn q r then 0 else 2
theorem rowsC_shape {q w : Int} {l : List (List Int)} (h : ¬ (0 ≤ w ∧ w ≤ 256 ∧ l.length ≤ 256)) : rowsC q w l = 3 := by unfold rowsC; rw [if_pos h]
theorem rowsC_len {q w : Int} {l : List (List Int)} (h1 : ¬ ∀ r ∈ l, (r.length : Int) = w) : rowsC q w l = 3 := by
 unfold rowsC; split
 ·rfl
 ·rfl
theorem rowsC_ent {q w : Int} {l : List (List Int)} (h : 0 ≤ w ∧ w ≤ 256 ∧ l.length ≤ 256) (h1 : ∀ r ∈ l, (r.length : Int) = w) (h2 : ¬ ∀ r ∈ l, AllIn q r) : rowsC q w l = 2 := by
 unfold rowsC; rw [if_neg (fun k => k h), if_neg (fun k => k h1), if_neg h2]
theorem rowsC_ok {q w : Int} {l : List (List Int)} (h : 0 ≤ w ∧ w ≤ 256 ∧ l.length ≤ 256) (h1 : ∀ r ∈ l, (r.length : Int) = w) (h2 : ∀ r ∈ l, AllIn q r) : rowsC q w l = 0 := by
 unfold rowsC; rw [if_neg (fun k => k h), if_neg (fun k => k h1), if_pos h2]
theorem rowsC_zero {q w : Int} {l : List (List Int)} (h : rowsC q w l = 0) : (0 ≤ w ∧ w ≤ 256 ∧ l.length ≤ 256) ∧ (∀ r ∈ l, (r.length : Int) = w) ∧ ∀ r ∈ l, AllIn q r := by
 by_cases h1 : 0 ≤ w ∧ w ≤ 256 ∧ l.length ≤ 256
 ·by_cases h2 : ∀ r ∈ l, (r.length : Int) = w
  ·by_cases h3 : ∀ r ∈ l, AllIn q r
   ·exact ⟨h1, h2, h3⟩
   ·rw [rowsC_ent h1 h2 h3] at h; omega
  ·rw [rowsC_len h2] at h; omega
 ·rw [rowsC_shape h1] at h; omega
def xss (rs : List RowM) : List (List Int) := rs.map (·.xs)
@[simp] theorem xss_length (rs : List RowM) : (xss rs).length = rs.length := by simp [xss]
theorem xss_all {rs : List RowM} {φ : List Int → Prop} : (∀ r ∈ xss rs, φ r) ↔ ∀ r ∈ rs, φ r.xs := by simp [xss]
theorem xss_get {rs : List RowM} {φ : List Int → Prop} (h : ∀ j : Nat, j < rs.length → φ (rs.getD j rowD).xs) : ∀ r ∈ xss rs, φ r := xss_all.2 fun r hr => by
 obtain ⟨j, hj, rfl⟩ := List.getElem_of_mem hr
 have := h j hj
 rwa [List.getD_eq_getElem?_getD, List.getElem?_eq_getElem hj] at this
theorem xss_no {rs : List RowM} {φ : List Int → Prop} {j : Nat} (hj : j < rs.length) (h : ¬ φ (rs.getD j rowD).xs) : ¬ ∀ r ∈ xss rs, φ r := fun k => h (xss_all.1 k _ (getD_mem hj _))
theorem Gd_iff {q w : Int} {rs : List RowM} (hw : 0 ≤ w) : Gd q w.toNat rs ↔ (∀ r ∈ xss rs, (r.length : Int) = w) ∧ ∀ r ∈ xss rs, AllIn q r := by
 rw [xss_all, xss_all]
 exact ⟨fun h => ⟨fun r hr => by have := (h r hr).1; omega, fun r hr => (h r hr).2⟩, fun h r hr => ⟨by have := h.1 r hr; omega, h.2 r hr⟩⟩
theorem mat_entriesC_ent : Enters Tryz.prog 69 := enters_of Tryz.func69 (by kernel_rfl) (by kernel_rfl)
theorem mat_entriesC (g : GfM) (q : Int) (hq : g.q = q) (A : Option Addr) (n c : Nat) (l : List Int) (hn : n = l.length) (h9 : l.length ≤ 17592186044415) :
  Pure Tryz.prog 69 #[.pointer (some g.p), .slice A n c] [gfR g, ro A (ints l)] (isV (.int .i64 (entC q l))) := by
 refine pure_of (args := [.pointer (some g.p), .slice A n c]) 18 Tryz.func69 rfl rfl rfl mat_entriesC_ent ⟨id, id, trivial⟩ (fun w0 => ?_)
 refine tS ?_
 refine tR fun _ _ _ => ?_
 refine pV ?_
 refine tS ?_
 refine tS ?_
 refine tR fun _ _ _ => ?_
 refine pV ?_
 refine sV (rLen rfl rfl) ?_
 refine pV ?_
 refine tB ?_
 refine tr_loop1 (fun (k : Int) => [(9, .int .i64 k), (0, .pointer (some g.p)), (7, .slice A n c), (8, .int .i64 n)]) (fun (k : Int) => [gfR g, ro A (ints l)]) (fun (k : Int) => (0 ≤ k ∧ k ≤ n) ∧ ∀ j : Nat, (j : Int) < k → 0 ≤ l.getD j 0 ∧ l.getD j 0 < q) (fun (k : Int) => (n - k).toNat) (0) ⟨rfl, rfl, rfl, rfl, trivial⟩ (by first | exact cs _ _ | exact CSub.refl _) (⟨⟨by omega, by omega⟩, fun j hj => by omega⟩) (fun k hI => ?_)
 obtain ⟨⟨hk0, hk1⟩, hall⟩ := hI
 refine tS ?_
 refine tR fun _ _ _ => ?_
 refine pV ?_
 refine tS ?_
 refine tC rfl (fun h2 => ?_) (fun h2 => ?_)
 ·try simp only [zbA] at h2
  refine tK ?_
  refine tS ?_
  refine tB ?_
  refine tS ?_
  refine tR fun _ _ _ => ?_
  refine sV (rIdxI rfl rfl rfl (by omega) (by omega) (by omega)) ?_
  refine sV (rLdI rfl rfl (by omega)) ?_
  refine pV ?_
  refine tS ?_
  refine tR fun _ _ _ => ?_
  iterate 2 refine pV ?_
  refine eV (eCallV rfl rfl rfl (gf_Is _ _) ⟨rfl, rfl, trivial⟩ ?_)
  refine sV (rNotB rfl rfl) ?_
  refine tC rfl (fun h4 => ?_) (fun h4 => ?_)
  ·try simp only [zbA] at h4
   refine tS ?_
   refine tR fun _ _ _ => ?_
   refine pV ?_
   have hno : ¬ AllIn q l := fun h => by
    have hb := h (l.getD k.toNat 0) (getD_mem (by omega) _)
    omega
   exact tr_ret ⟨trivial, _, _, rfl, ⟨by rw [entC_no hno], rfl⟩, CSub.nil _, trivial⟩
  ·try simp only [zbA] at h4
   refine tK ?_
   refine tR fun _ _ _ => ?_
   refine sV (rAdd rfl rfl rfl (by omega) (by omega)) ?_
   refine pV ?_
   refine ⟨k + 1, ⟨rfl, rfl, rfl, rfl, trivial⟩, by first | exact cs _ _ | exact CSub.refl _, ?_⟩
   refine ⟨⟨⟨by omega, by omega⟩, fun j hj => ?_⟩, by omega⟩
   by_cases he : (j : Int) = k
   ·have : j = k.toNat := by omega
    subst this; omega
   ·exact hall j (by omega)
 ·try simp only [zbA] at h2
  refine tE ?_
  refine tS ?_
  refine tR fun _ _ _ => ?_
  refine pV ?_
  have hok : AllIn q l := allIn_of_get fun j hj => hall j (by omega)
  exact tr_ret ⟨trivial, _, _, rfl, ⟨by rw [entC_ok hok], rfl⟩, CSub.nil _, trivial⟩
theorem entC_cases (q : Int) (l : List Int) : (AllIn q l ∧ entC q l = 0) ∨ (¬ AllIn q l ∧ entC q l = 2) := by
 by_cases h : AllIn q l
 ·exact .inl ⟨h, entC_ok h⟩
 ·exact .inr ⟨h, entC_no h⟩
theorem mat_checkC_ent : Enters Tryz.prog 95 := enters_of Tryz.func95 (by kernel_rfl) (by kernel_rfl)
theorem mat_checkC (g : GfM) (q : Int) (hq : g.q = q) (w : Int) (A : Option Addr) (n c : Nat) (rs : List RowM) (hn : n = rs.length) (h9 : rs.length ≤ 17592186044415) (h8 : ∀ r ∈ rs, r.xs.length ≤ 17592186044415) :
  Pure Tryz.prog 95 #[.pointer (some g.p), .agg #[.int .i64 w, .slice A n c]] [gfR g, ro A (hdrs rs), rowsR rs] (isV (.int .i64 (rowsC q w (xss rs)))) := by
 refine pure_of (args := [.pointer (some g.p), .agg #[.int .i64 w, .slice A n c]]) 51 Tryz.func95 rfl rfl rfl mat_checkC_ent ⟨id, id, id, trivial⟩ (fun w0 => ?_)
 refine tS ?_
 refine tR fun _ _ _ => ?_
 refine eV (eBox rfl rfl rfl rfl rfl (fun p0 => ?_))
 refine pV ?_
 refine tS ?_
 refine tS ?_
 refine tR fun _ _ _ => ?_
 refine sV (rFld rfl rfl) ?_
 refine sV (rLdF rfl rfl rfl) ?_
 iterate 2 refine pV ?_
 refine stg rfl rfl rfl rfl rfl (fun hb => by (have hq := hb; try simp only [zbA] at hq); exact rFld rfl rfl) ?_
 refine stg rfl rfl rfl rfl rfl (fun hb => by (have hq := hb; try simp only [zbA] at hq); exact rLdF rfl (evg rfl hb) rfl) ?_
 refine stg rfl rfl rfl rfl rfl (fun hb => by (have hq := hb; try simp only [zbA] at hq); exact rGtr rfl (evg rfl hb) rfl) ?_
 refine sV (rOrB rfl rfl rfl rfl) ?_
 refine pV ?_
 refine stg rfl rfl rfl rfl rfl (fun hb => by (have hq := hb; try simp only [zbA] at hq); exact rFld rfl rfl) ?_
 refine stg rfl rfl rfl rfl rfl (fun hb => by (have hq := hb; try simp only [zbA] at hq); exact rLdF rfl (evg rfl hb) rfl) ?_
 refine stg rfl rfl rfl rfl rfl (fun hb => by (have hq := hb; try simp only [zbA] at hq); exact rLen rfl (evg rfl hb)) ?_
 refine stg rfl rfl rfl rfl rfl (fun hb => by (have hq := hb; try simp only [zbA] at hq); exact rGtr rfl (evg rfl hb) rfl) ?_
 refine sV (rOrB rfl rfl rfl rfl) ?_
 refine tC rfl (fun h1 => ?_) (fun h1 => ?_)
 ·try simp only [zbA] at h1
  refine tS ?_
  refine tR fun _ _ _ => ?_
  refine pV ?_
  exact tr_ret ⟨trivial, _, _, rfl, ⟨by rw [rowsC_shape (by rw [xss_length]; omega)], rfl⟩, CSub.nil _, trivial⟩
 ·try simp only [zbA] at h1
  refine tK ?_
  refine tS ?_
  refine tS ?_
  refine tR fun _ _ _ => ?_
  refine sV (rFld rfl rfl) ?_
  refine sV (rLdF rfl rfl rfl) ?_
  refine sV (rLen rfl rfl) ?_
  refine pV ?_
  refine tB ?_
  refine tr_loop1 (fun (k : Int) => [(27, .int .i64 k), (0, .pointer (some g.p)), (3, .pointer (some p0)), (25, .slice A n c), (26, .int .i64 n)]) (fun (k : Int) => [blk p0 67 [.int .i64 w, .slice A n c], gfR g, ro A (hdrs rs), rowsR rs]) (fun (k : Int) => (0 ≤ k ∧ k ≤ n) ∧ ∀ j : Nat, (j : Int) < k → ((rs.getD j rowD).xs.length : Int) = w) (fun (k : Int) => (n - k).toNat) (0) ⟨rfl, rfl, rfl, rfl, rfl, trivial⟩ (by first | exact cs _ _ | exact CSub.refl _) (⟨⟨by omega, by omega⟩, fun j hj => by omega⟩) (fun k hI => ?_)
  obtain ⟨⟨hk0, hk1⟩, hall⟩ := hI
  refine tS ?_
  refine tR fun _ _ _ => ?_
  refine pV ?_
  refine tS ?_
  refine tC rfl (fun h4 => ?_) (fun h4 => ?_)
  ·try simp only [zbA] at h4
   refine tK ?_
   refine tS ?_
   refine tB ?_
   refine tS ?_
   haveI : InB k.toNat rs.length := ⟨by omega⟩
   have hk8 := h8 _ (getD_mem (show k.toNat < rs.length by omega) rowD)
   refine tR fun _ _ _ => ?_
   refine sV (rIdxR rfl rfl rfl (by omega) (by omega) (by omega)) ?_
   refine sV (rLdR rfl rfl (by omega)) ?_
   refine pV ?_
   refine tS ?_
   refine tR fun _ _ _ => ?_
   refine pV ?_
   refine sV (rLen rfl rfl) ?_
   refine sV (rFld rfl rfl) ?_
   refine sV (rLdF rfl rfl rfl) ?_
   refine pV ?_
   refine tC rfl (fun h6 => ?_) (fun h6 => ?_)
   ·try simp only [zbA] at h6
    refine tS ?_
    refine tR fun _ _ _ => ?_
    refine pV ?_
    have hno := xss_no (φ := fun r => (r.length : Int) = w) (show k.toNat < rs.length by omega) (by omega)
    exact tr_ret ⟨trivial, _, _, rfl, ⟨by rw [rowsC_len hno], rfl⟩, CSub.nil _, trivial⟩
   ·try simp only [zbA] at h6
    refine tK ?_
    refine tR fun _ _ _ => ?_
    refine sV (rAdd rfl rfl rfl (by omega) (by omega)) ?_
    refine pV ?_
    refine ⟨k + 1, ⟨rfl, rfl, rfl, rfl, rfl, trivial⟩, by first | exact cs _ _ | exact CSub.refl _, ?_⟩
    refine ⟨⟨⟨by omega, by omega⟩, fun j hj => ?_⟩, by omega⟩
    by_cases he : (j : Int) = k
    ·have : j = k.toNat := by omega
     subst this; omega
    ·exact hall j (by omega)
  ·try simp only [zbA] at h4
   refine tE ?_
   refine tS ?_
   refine tS ?_
   refine tR fun _ _ _ => ?_
   refine sV (rFld rfl rfl) ?_
   refine sV (rLdF rfl rfl rfl) ?_
   refine sV (rLen rfl rfl) ?_
   refine pV ?_
   refine tB ?_
   refine tr_loop1 (fun (k : Int) => [(40, .int .i64 k), (0, .pointer (some g.p)), (38, .slice A n c), (39, .int .i64 n)]) (fun (k : Int) => [blk p0 67 [.int .i64 w, .slice A n c], gfR g, ro A (hdrs rs), rowsR rs]) (fun (k : Int) => (0 ≤ k ∧ k ≤ n) ∧ ∀ j : Nat, (j : Int) < k → AllIn q (rs.getD j rowD).xs) (fun (k : Int) => (n - k).toNat) (0) ⟨rfl, rfl, rfl, rfl, trivial⟩ (by first | exact cs _ _ | exact CSub.refl _) (⟨⟨by omega, by omega⟩, fun j hj => by omega⟩) (fun k hI => ?_)
   have hlen : ∀ r ∈ xss rs, (r.length : Int) = w := xss_get fun j hj => hall j (by omega)
   clear hall
   obtain ⟨⟨hk0, hk1⟩, hall⟩ := hI
   refine tS ?_
   refine tR fun _ _ _ => ?_
   refine pV ?_
   refine tS ?_
   refine tC rfl (fun h10 => ?_) (fun h10 => ?_)
   ·try simp only [zbA] at h10
    refine tK ?_
    refine tS ?_
    refine tB ?_
    refine tS ?_
    haveI : InB k.toNat rs.length := ⟨by omega⟩
    have hk8 := h8 _ (getD_mem (show k.toNat < rs.length by omega) rowD)
    refine tR fun _ _ _ => ?_
    refine sV (rIdxR rfl rfl rfl (by omega) (by omega) (by omega)) ?_
    refine sV (rLdR rfl rfl (by omega)) ?_
    refine pV ?_
    refine tS ?_
    refine tR fun _ _ _ => ?_
    iterate 2 refine pV ?_
    refine eV (eCallV rfl rfl rfl (mat_entriesC g q hq _ _ _ (rs.getD k.toNat rowD).xs rfl hk8) ⟨rfl, rfl, trivial⟩ ?_)
    refine pV ?_
    refine tS ?_
    refine tR fun _ _ _ => ?_
    iterate 2 refine pV ?_
    refine tC rfl (fun h13 => ?_) (fun h13 => ?_)
    ·try simp only [zbA] at h13
     have hek : ¬ AllIn q (rs.getD k.toNat rowD).xs := fun h => absurd (entC_ok h) (by omega)
     refine tS ?_
     refine tR fun _ _ _ => ?_
     iterate 2 refine pV ?_
     have hwb : 0 ≤ w ∧ w ≤ 256 ∧ (xss rs).length ≤ 256 := by rw [xss_length]; omega
     have hno := xss_no (φ := fun r => AllIn q r) (show k.toNat < rs.length by omega) hek
     exact tr_ret ⟨trivial, _, _, rfl, ⟨by rw [rowsC_ent hwb hlen hno, entC_no hek], rfl⟩, CSub.nil _, trivial⟩
    ·try simp only [zbA] at h13
     have hek : AllIn q (rs.getD k.toNat rowD).xs := by
      rcases entC_cases q (rs.getD k.toNat rowD).xs with h | h
      ·exact h.1
      ·exact absurd h.2 (by omega)
     refine tK ?_
     refine tR fun _ _ _ => ?_
     refine sV (rAdd rfl rfl rfl (by omega) (by omega)) ?_
     refine pV ?_
     refine ⟨k + 1, ⟨rfl, rfl, rfl, rfl, trivial⟩, by first | exact cs _ _ | exact CSub.refl _, ?_⟩
     refine ⟨⟨⟨by omega, by omega⟩, fun j hj => ?_⟩, by omega⟩
     by_cases he : (j : Int) = k
     ·have : j = k.toNat := by omega
      subst this; exact hek
     ·exact hall j (by omega)
   ·try simp only [zbA] at h10
    refine tE ?_
    refine tS ?_
    refine tR fun _ _ _ => ?_
    refine pV ?_
    have hwb : 0 ≤ w ∧ w ≤ 256 ∧ (xss rs).length ≤ 256 := by rw [xss_length]; omega
    have hall2 : ∀ r ∈ xss rs, AllIn q r := xss_get fun j hj => hall j (by omega)
    exact tr_ret ⟨trivial, _, _, rfl, ⟨by rw [rowsC_ok hwb hlen hall2], rfl⟩, CSub.nil _, trivial⟩
theorem ref_RCheckOk_ent : Enters Tryz.prog 83 := enters_of Tryz.func83 (by kernel_rfl) (by kernel_rfl)
theorem ref_RCheckOk (p m : Int) (A : Option Addr) (c : Nat) (mod : List Int) (hl9 : mod.length ≤ 17592186044415) (hF : FldR p m mod) (q : Int) (hq : ordI p m = q) (w : Int) (Aa : Option Addr) (n ca : Nat) (rs : List RowM) (hn : n = rs.length) (h9 : rs.length ≤ 17592186044415) (h8 : ∀ r ∈ rs, r.xs.length ≤ 17592186044415) :
  Pure Tryz.prog 83 #[.agg #[.int .i64 p, .int .i64 m, .slice A mod.length c], .agg #[.int .i64 w, .slice Aa n ca]] [ro A (ints mod), ro Aa (hdrs rs), rowsR rs] (isV (.int .i64 (rowsC q w (xss rs)))) := by
 refine pure_of (args := [.agg #[.int .i64 p, .int .i64 m, .slice A mod.length c], .agg #[.int .i64 w, .slice Aa n ca]]) 60 Tryz.func83 rfl rfl rfl ref_RCheckOk_ent ⟨id, id, id, trivial⟩ (fun w0 => ?_)
 refine tS ?_
 refine tR fun _ _ _ => ?_
 refine eV (eBox rfl rfl rfl rfl rfl (fun p0 => ?_))
 refine eV (eBox rfl rfl rfl rfl rfl (fun p0a => ?_))
 refine pV ?_
 refine tS ?_
 refine tR fun _ _ _ => ?_
 refine sV (rLdS rfl rfl rfl) ?_
 refine eV (eCallV rfl rfl rfl (ref_fldCheck _ _ _ _ _ hl9) ⟨rfl, trivial⟩ ?_)
 refine pV ?_
 refine tS ?_
 refine tS ?_
 refine tR fun _ _ _ => ?_
 iterate 2 refine pV ?_
 refine tC rfl (fun h2 => ?_) (fun h2 => ?_)
 ·try simp only [zbA] at h2
  rcases chkF_cases p m mod with h | h
  ·omega
  ·exact absurd hF h.1 --done
 ·try simp only [zbA] at h2
  refine tK ?_
  refine tS ?_
  refine tS ?_
  refine tR fun _ _ _ => ?_
  refine sV (rFld rfl rfl) ?_
  refine sV (rLdF rfl rfl rfl) ?_
  iterate 2 refine pV ?_
  refine stg rfl rfl rfl rfl rfl (fun hb => by (have hq := hb; try simp only [zbA] at hq); exact rFld rfl rfl) ?_
  refine stg rfl rfl rfl rfl rfl (fun hb => by (have hq := hb; try simp only [zbA] at hq); exact rLdF rfl (evg rfl hb) rfl) ?_
  refine stg rfl rfl rfl rfl rfl (fun hb => by (have hq := hb; try simp only [zbA] at hq); exact rGtr rfl (evg rfl hb) rfl) ?_
  refine sV (rOrB rfl rfl rfl rfl) ?_
  refine pV ?_
  refine stg rfl rfl rfl rfl rfl (fun hb => by (have hq := hb; try simp only [zbA] at hq); exact rFld rfl rfl) ?_
  refine stg rfl rfl rfl rfl rfl (fun hb => by (have hq := hb; try simp only [zbA] at hq); exact rLdF rfl (evg rfl hb) rfl) ?_
  refine stg rfl rfl rfl rfl rfl (fun hb => by (have hq := hb; try simp only [zbA] at hq); exact rLen rfl (evg rfl hb)) ?_
  refine stg rfl rfl rfl rfl rfl (fun hb => by (have hq := hb; try simp only [zbA] at hq); exact rGtr rfl (evg rfl hb) rfl) ?_
  refine sV (rOrB rfl rfl rfl rfl) ?_
  refine tC rfl (fun h4 => ?_) (fun h4 => ?_)
  ·try simp only [zbA] at h4
   refine tS ?_
   refine tR fun _ _ _ => ?_
   refine pV ?_
   exact tr_ret ⟨trivial, _, _, rfl, ⟨by rw [rowsC_shape (by rw [xss_length]; omega)], rfl⟩, CSub.nil _, trivial⟩
  ·try simp only [zbA] at h4
   refine tK ?_
   refine tS ?_
   refine tS ?_
   refine tR fun _ _ _ => ?_
   refine pV ?_
   refine tB ?_
   refine tr_loop1 (fun (k : Int) => [(6, .int .i64 k), (2, .pointer (some p0)), (3, .pointer (some p0a))]) (fun (k : Int) => [blk p0 24 [.int .i64 p, .int .i64 m, .slice A mod.length c], blk p0a 67 [.int .i64 w, .slice Aa n ca], ro A (ints mod), ro Aa (hdrs rs), rowsR rs]) (fun (k : Int) => (0 ≤ k ∧ k ≤ n) ∧ ∀ j : Nat, (j : Int) < k → ((rs.getD j rowD).xs.length : Int) = w) (fun (k : Int) => (n - k).toNat) (0) ⟨rfl, rfl, rfl, trivial⟩ (by first | exact cs _ _ | exact CSub.refl _) (⟨⟨by omega, by omega⟩, fun j hj => by omega⟩) (fun k hI => ?_)
   obtain ⟨⟨hk0, hk1⟩, hall⟩ := hI
   refine tS ?_
   refine tS ?_
   refine tR fun _ _ _ => ?_
   refine pV ?_
   refine sV (rFld rfl rfl) ?_
   refine sV (rLdF rfl rfl rfl) ?_
   refine sV (rLen rfl rfl) ?_
   refine pV ?_
   refine tC rfl (fun h7 => ?_) (fun h7 => ?_)
   ·try simp only [zbA] at h7
    refine tK ?_
    refine tS ?_
    refine tB ?_
    refine tS ?_
    haveI : InB k.toNat rs.length := ⟨by omega⟩
    have hk8 := h8 _ (getD_mem (show k.toNat < rs.length by omega) rowD)
    refine tr_draw [0, 1, 2, 3, 4, 5, 6, 7, 8] [] mixed (by kernel_rfl) fun _ _ _ => ?_
    refine sV (rFld rfl rfl) ?_
    refine sV (rLdF rfl rfl rfl) ?_
    refine pV ?_
    refine sV (rIdxR rfl rfl rfl (by omega) (by omega) (by omega)) ?_
    refine sV (rLdR rfl rfl (by omega)) ?_
    refine sV (rLen rfl rfl) ?_
    refine sV (rFld rfl rfl) ?_
    refine sV (rLdF rfl rfl rfl) ?_
    refine pV ?_
    refine tC rfl (fun h9 => ?_) (fun h9 => ?_)
    ·try simp only [zbA] at h9
     refine tS ?_
     refine tR fun _ _ _ => ?_
     refine pV ?_
     have hno := xss_no (φ := fun r => (r.length : Int) = w) (show k.toNat < rs.length by omega) (by omega)
     exact tr_ret ⟨trivial, _, _, rfl, ⟨by rw [rowsC_len hno], rfl⟩, CSub.nil _, trivial⟩
    ·try simp only [zbA] at h9
     refine tK ?_
     refine tR fun _ _ _ => ?_
     refine pV ?_
     refine sV (rAdd rfl rfl rfl (by omega) (by omega)) ?_
     refine pV ?_
     refine ⟨k + 1, ⟨rfl, rfl, rfl, trivial⟩, by first | exact cs _ _ | exact CSub.refl _, ?_⟩
     refine ⟨⟨⟨by omega, by omega⟩, fun j hj => ?_⟩, by omega⟩
     by_cases he : (j : Int) = k
     ·have : j = k.toNat := by omega
      subst this; omega
     ·exact hall j (by omega)
   ·try simp only [zbA] at h7
    refine tE ?_
    refine tS ?_
    refine tS ?_
    refine tR fun _ _ _ => ?_
    refine pV ?_
    refine tB ?_
    refine tr_loop1 (fun (k : Int) => [(7, .int .i64 k), (2, .pointer (some p0)), (3, .pointer (some p0a))]) (fun (k : Int) => [blk p0 24 [.int .i64 p, .int .i64 m, .slice A mod.length c], blk p0a 67 [.int .i64 w, .slice Aa n ca], ro A (ints mod), ro Aa (hdrs rs), rowsR rs]) (fun (k : Int) => (0 ≤ k ∧ k ≤ n) ∧ ∀ j : Nat, (j : Int) < k → AllIn q (rs.getD j rowD).xs) (fun (k : Int) => (n - k).toNat) (0) ⟨rfl, rfl, rfl, trivial⟩ (by first | exact cs _ _ | exact CSub.refl _) (⟨⟨by omega, by omega⟩, fun j hj => by omega⟩) (fun k hI => ?_)
    have hlen : ∀ r ∈ xss rs, (r.length : Int) = w := xss_get fun j hj => hall j (by omega)
    clear hall
    obtain ⟨⟨hk0, hk1⟩, hall⟩ := hI
    refine tS ?_
    refine tS ?_
    refine tR fun _ _ _ => ?_
    refine pV ?_
    refine sV (rFld rfl rfl) ?_
    refine sV (rLdF rfl rfl rfl) ?_
    refine sV (rLen rfl rfl) ?_
    refine pV ?_
    refine tC rfl (fun h12 => ?_) (fun h12 => ?_)
    ·try simp only [zbA] at h12
     refine tK ?_
     refine tS ?_
     refine tB ?_
     refine tS ?_
     haveI : InB k.toNat rs.length := ⟨by omega⟩
     have hk8 := h8 _ (getD_mem (show k.toNat < rs.length by omega) rowD)
     refine tr_draw [0, 1, 2, 3, 4, 5, 6, 7] [] mixed (by kernel_rfl) fun _ _ _ => ?_
     refine sV (rLdS rfl rfl rfl) ?_
     refine sV (rFld rfl rfl) ?_
     refine sV (rLdF rfl rfl rfl) ?_
     refine pV ?_
     refine sV (rIdxR rfl rfl rfl (by omega) (by omega) (by omega)) ?_
     refine sV (rLdR rfl rfl (by omega)) ?_
     refine eV (eCallV rfl rfl rfl (ref_Entries _ _ _ _ _ _ _ _ (rs.getD k.toNat rowD).xs rfl hk8) ⟨rfl, rfl, trivial⟩ ?_)
     refine pV ?_
     refine tS ?_
     refine tR fun _ _ _ => ?_
     iterate 2 refine pV ?_
     refine tC rfl (fun h15 => ?_) (fun h15 => ?_)
     ·try simp only [zbA] at h15
      rw [hq] at h15
      have hek : ¬ AllIn q (rs.getD k.toNat rowD).xs := fun h => absurd (entC_ok h) (by omega)
      refine tS ?_
      refine tR fun _ _ _ => ?_
      iterate 2 refine pV ?_
      have hwb : 0 ≤ w ∧ w ≤ 256 ∧ (xss rs).length ≤ 256 := by rw [xss_length]; omega
      have hno := xss_no (φ := fun r => AllIn q r) (show k.toNat < rs.length by omega) hek
      exact tr_ret ⟨trivial, _, _, rfl, ⟨by rw [rowsC_ent hwb hlen hno, hq, entC_no hek], rfl⟩, CSub.nil _, trivial⟩
     ·try simp only [zbA] at h15
      rw [hq] at h15
      have hek : AllIn q (rs.getD k.toNat rowD).xs := by
       rcases entC_cases q (rs.getD k.toNat rowD).xs with h | h
       ·exact h.1
       ·exact absurd h.2 (by omega)
      refine tK ?_
      refine tR fun _ _ _ => ?_
      refine pV ?_
      refine sV (rAdd rfl rfl rfl (by omega) (by omega)) ?_
      refine pV ?_
      refine ⟨k + 1, ⟨rfl, rfl, rfl, trivial⟩, by first | exact cs _ _ | exact CSub.refl _, ?_⟩
      refine ⟨⟨⟨by omega, by omega⟩, fun j hj => ?_⟩, by omega⟩
      by_cases he : (j : Int) = k
      ·have : j = k.toNat := by omega
       subst this; exact hek
      ·exact hall j (by omega)
    ·try simp only [zbA] at h12
     refine tE ?_
     refine tS ?_
     refine tR fun _ _ _ => ?_
     refine pV ?_
     have hwb : 0 ≤ w ∧ w ≤ 256 ∧ (xss rs).length ≤ 256 := by rw [xss_length]; omega
     have hall2 : ∀ r ∈ xss rs, AllIn q r := xss_get fun j hj => hall j (by omega)
     exact tr_ret ⟨trivial, _, _, rfl, ⟨by rw [rowsC_ok hwb hlen hall2], rfl⟩, CSub.nil _, trivial⟩
end Go.Proofs.YtfdjdokdabmmdaaGreat

namespace Go.Proofs.YtfdjdokdabmmdaaGreat
open Go.RowKit
section
variable {K : Type} [Fd K]
def pv (f : Po K) : Vc K := fun j => Po.cf f j
end
section
variable {p m : Int} {mod : List Int} [hF : IsF p m mod]
end
section
variable {K : Type} [Fd K]
end
end Go.Proofs.YtfdjdokdabmmdaaGreat

namespace Go.Proofs.YtfdjdokdabmmdaaGreat
open Go.RowKit
theorem Gd.nil (q : Int) (w : Nat) : Gd q w [] := fun r hr => by simp at hr
theorem Gd.app {q : Int} {w : Nat} {rs qs : List RowM} (h : Gd q w rs) (k : Gd q w qs) : Gd q w (rs ++ qs) := fun s hs => (List.mem_append.1 hs).elim (h s) (k s)
theorem xss_snoc (rs : List RowM) (r : RowM) : xss (rs ++ [r]) = xss rs ++ [r.xs] := by simp [xss]
theorem xss_getD (rs : List RowM) (j : Nat) : (xss rs).getD j [] = (rs.getD j rowD).xs := by
 rw [List.getD_eq_getElem?_getD, List.getD_eq_getElem?_getD, xss, List.getElem?_map]
 cases rs[j]? <;> rfl
theorem Gd.xss {q : Int} {w : Nat} {rs qs : List RowM} (h : Gd q w rs) (he : xss rs = xss qs) : Gd q w qs := Gd.of (rs := rs) (qs := qs) he.symm h
section
variable {p m : Int} {mod : List Int} [hF : IsF p m mod]
theorem vsR_xss (rs : List RowM) : (vsR rs : List (Vc (El p m mod))) = (xss rs).map rw' := by simp [vsR, xss]
theorem rw_inj2 {a b : List Int} (ha : AllIn (pw p m) a) (hb : AllIn (pw p m) b) (hl : a.length = b.length) (h : (rw' a : Vc (El p m mod)) = rw' b) : a = b := ext_getD hl fun j => by
 have hq := hF.q2
 exact el_inj (p := p) (m := m) (mod := mod) (ha.get (by omega) j) (hb.get (by omega) j) (congrFun h j)
theorem rows_inj {w : Nat} {rs qs : List RowM} (h1 : Gd (pw p m) w rs) (h2 : Gd (pw p m) w qs) (h : (vsR rs : List (Vc (El p m mod))) = vsR qs) : xss rs = xss qs := by
 have hl : rs.length = qs.length := by have := congrArg List.length h; simpa using this
 refine List.ext_getElem (by simpa using hl) fun j h3 h4 => ?_
 have h3' : j < rs.length := by simpa using h3
 have h4' : j < qs.length := by simpa using h4
 have e := congrArg (fun l => l.getD j 0) h
 simp only [vsR_get] at e
 have a := h1.get h3'
 have b := h2.get h4'
 have := rw_inj2 a.2 b.2 (a.1.trans b.1.symm) e
 rw [← xss_getD, ← xss_getD, List.getD_eq_getElem?_getD, List.getD_eq_getElem?_getD, List.getElem?_eq_getElem h3, List.getElem?_eq_getElem h4] at this
 exact this
end
structure CdOf (p m : Int) (mod : List Int) [hF : IsF p m mod] (w : Nat) (rs : List RowM) (W : Vc (El p m mod) → Prop) : Prop where
 good : Gd (pw p m) w rs
 form : ∃ qs, Vc.Rr w (vsR rs : List (Vc (El p m mod))) qs
 span : ∀ u, Vc.SpL (vsR rs : List (Vc (El p m mod))) u ↔ W u
section
variable {p m : Int} {mod : List Int} [hF : IsF p m mod] {w : Nat} {rs qs r3 : List RowM} {W W' : Vc (El p m mod) → Prop}
theorem CdOf.uniq (h : CdOf p m mod w rs W) (k : CdOf p m mod w qs W) : xss rs = xss qs := by
 obtain ⟨a, ha⟩ := h.form
 obtain ⟨b, hb⟩ := k.form
 exact rows_inj h.good k.good (ha.uniq hb fun u => (h.span u).trans (k.span u).symm).1
theorem CdOf.iff (h : CdOf p m mod w rs W) (hi : ∀ u, W u ↔ W' u) : CdOf p m mod w rs W' := ⟨h.good, h.form, fun u => (h.span u).trans (hi u)⟩
theorem CdOf.eq (h : CdOf p m mod w rs W) (k : CdOf p m mod w qs W') (hi : ∀ u, W u ↔ W' u) : xss rs = xss qs := (h.iff hi).uniq k
theorem RrOf.cd {ps : List Int} (h : RrOf p m mod w rs r3 ps) (hi : ∀ u, Vc.SpL (vsR rs) u ↔ W u) : CdOf p m mod w r3 W := by
 obtain ⟨qs, _, hq⟩ := h.form
 exact ⟨h.good, ⟨qs, hq⟩, fun u => (h.span u).trans (hi u)⟩
theorem CdOf.xss (h : CdOf p m mod w rs W) (he : xss rs = xss qs) : CdOf p m mod w qs W := by
 have hv : (vsR rs : List (Vc (El p m mod))) = vsR qs := by rw [vsR_xss, vsR_xss, he]
 refine ⟨h.good.xss he, ?_, fun u => ?_⟩
 ·rw [← hv]; exact h.form
 ·rw [← hv]; exact h.span u
theorem Rr_le {K : Type} [Fd K] {n : Nat} {R : List (Vc K)} {ps : List Nat} (h : Vc.Rr n R ps) : R.length ≤ n := by
 rw [← h.len]
 have key : ∀ k : Nat, k < ps.length → k ≤ ps.getD k 0 := by
  intro k
  induction k with
  | zero => intro _; omega
  | succ k ih => intro hk; have := ih (by omega); have := h.rise k (k + 1) (by omega) hk; omega
 rcases Nat.eq_zero_or_pos ps.length with h0 | h0
 ·omega
 ·have := key (ps.length - 1) (by omega); have := h.lt (ps.length - 1) (by omega); omega
theorem CdOf.le (h : CdOf p m mod w rs W) : rs.length ≤ w := by
 obtain ⟨a, ha⟩ := h.form
 have := Rr_le ha
 simpa using this
end
def formP (p m : Int) (mod : List Int) [hF : IsF p m mod] (w : Nat) (rs : List RowM) : Prop := ∃ qs, Vc.Rr w (vsR rs : List (Vc (El p m mod))) qs
section
variable {p m : Int} {mod : List Int} [hF : IsF p m mod] {w : Nat} {rs r3 : List RowM}
theorem RrOf.form_iff {ps : List Int} (h : RrOf p m mod w rs r3 ps) (hg : Gd (pw p m) w rs) : xss r3 = xss rs ↔ formP p m mod w rs := by
 obtain ⟨qs, _, hq⟩ := h.form
 constructor
 ·intro he
  refine ⟨qs, ?_⟩
  have hv : (vsR r3 : List (Vc (El p m mod))) = vsR rs := by rw [vsR_xss, vsR_xss, he]
  rw [← hv]; exact hq
 ·rintro ⟨q2, h2⟩
  exact rows_inj h.good hg (hq.uniq h2 h.span).1
theorem RrOf.piv {ps : List Int} (h : RrOf p m mod w rs r3 ps) (he : xss r3 = xss rs) : ∃ qs, ps = qs.map Int.ofNat ∧ Vc.Rr w (vsR rs : List (Vc (El p m mod))) qs := by
 obtain ⟨qs, h1, hq⟩ := h.form
 refine ⟨qs, h1, ?_⟩
 have hv : (vsR r3 : List (Vc (El p m mod))) = vsR rs := by rw [vsR_xss, vsR_xss, he]
 rw [← hv]; exact hq
end
open Classical in
noncomputable def codC (p m : Int) (mod : List Int) (n : Int) (rs : List RowM) : Int :=
 if h : FldR p m mod then if n < 1 ∨ n > 64 then 4 else if rowsC (pw p m) n (xss rs) ≠ 0 then rowsC (pw p m) n (xss rs) else if @formP p m mod ⟨h⟩ n.toNat rs then 0 else 5 else 1
theorem codC_no {p m : Int} {mod : List Int} (n : Int) (rs : List RowM) (h : ¬ FldR p m mod) : codC p m mod n rs = 1 := by unfold codC; rw [dif_neg h]
section
variable {p m : Int} {mod : List Int} [hF : IsF p m mod] {n : Int} {rs : List RowM}
theorem codC_ln (hb : n < 1 ∨ n > 64) : codC p m mod n rs = 4 := by unfold codC; rw [dif_pos hF.out, if_pos hb]
theorem codC_rw (hb : ¬ (n < 1 ∨ n > 64)) (h : rowsC (pw p m) n (xss rs) ≠ 0) : codC p m mod n rs = rowsC (pw p m) n (xss rs) := by unfold codC; rw [dif_pos hF.out, if_neg hb, if_pos h]
theorem codC_fm (hb : ¬ (n < 1 ∨ n > 64)) (h : rowsC (pw p m) n (xss rs) = 0) (hf : ¬ formP p m mod n.toNat rs) : codC p m mod n rs = 5 := by unfold codC; rw [dif_pos hF.out, if_neg hb, if_neg (by omega), if_neg hf]
theorem codC_ok (hb : ¬ (n < 1 ∨ n > 64)) (h : rowsC (pw p m) n (xss rs) = 0) (hf : formP p m mod n.toNat rs) : codC p m mod n rs = 0 := by unfold codC; rw [dif_pos hF.out, if_neg hb, if_neg (by omega), if_pos hf]
theorem rowsC_Gd (h : rowsC (pw p m) n (xss rs) = 0) : Gd (pw p m) n.toNat rs ∧ 0 ≤ n ∧ n ≤ 256 ∧ rs.length ≤ 256 := by
 obtain ⟨h1, h2, h3⟩ := rowsC_zero h
 rw [xss_length] at h1
 exact ⟨(Gd_iff h1.1).2 ⟨h2, h3⟩, h1.1, h1.2.1, by omega⟩
end
structure CodeOk (p m : Int) (mod : List Int) [hF : IsF p m mod] (n : Int) (rs : List RowM) : Prop where
 n1 : 1 ≤ n
 n64 : n ≤ 64
 row : rowsC (pw p m) n (xss rs) = 0
 good : Gd (pw p m) n.toNat rs
 form : formP p m mod n.toNat rs
theorem CodeOk.cd {p m : Int} {mod : List Int} [hF : IsF p m mod] {n : Int} {rs : List RowM} (h : CodeOk p m mod n rs) : CdOf p m mod n.toNat rs (Vc.SpL (vsR rs)) := ⟨h.good, h.form, fun _ => Iff.rfl⟩
theorem CodeOk.len {p m : Int} {mod : List Int} [hF : IsF p m mod] {n : Int} {rs : List RowM} (h : CodeOk p m mod n rs) : rs.length ≤ 64 := by have := h.cd.le; have := h.n64; omega
theorem CodeOk.zero {p m : Int} {mod : List Int} [hF : IsF p m mod] {n : Int} {rs : List RowM} (h : CodeOk p m mod n rs) : codC p m mod n rs = 0 := codC_ok (by have := h.n1; have := h.n64; omega) h.row h.form
theorem codC_zero {p m : Int} {mod : List Int} {n : Int} {rs : List RowM} (h : codC p m mod n rs = 0) : ∃ hF : FldR p m mod, @CodeOk p m mod ⟨hF⟩ n rs := by
 by_cases hF : FldR p m mod
 ·haveI : IsF p m mod := ⟨hF⟩
  refine ⟨hF, ?_⟩
  by_cases hb : n < 1 ∨ n > 64
  ·rw [codC_ln hb] at h; omega
  ·by_cases hr : rowsC (pw p m) n (xss rs) = 0
   ·by_cases hf : formP p m mod n.toNat rs
    ·exact ⟨by omega, by omega, hr, (rowsC_Gd hr).1, hf⟩
    ·rw [codC_fm hb hr hf] at h; omega
   ·rw [codC_rw hb hr] at h; omega
 ·rw [codC_no n rs hF] at h; omega
theorem CdOf.ok {p m : Int} {mod : List Int} [hF : IsF p m mod] {n : Int} {rs : List RowM} {W : Vc (El p m mod) → Prop} (h : CdOf p m mod n.toNat rs W) (h1 : 1 ≤ n) (h2 : n ≤ 64) : CodeOk p m mod n rs :=
 ⟨h1, h2, rowsC_ok (by rw [xss_length]; have := h.le; omega) ((Gd_iff (by omega)).1 h.good).1 ((Gd_iff (by omega)).1 h.good).2, h.good, h.form⟩
section
variable {p m : Int} {mod : List Int} [hF : IsF p m mod]
end
end Go.Proofs.YtfdjdokdabmmdaaGreat

namespace Go.Proofs.YtfdjdokdabmmdaaGreat
open Go.RowKit
namespace Vc
variable {K : Type} [Fd K]
def upC (c : Nat → K) (k : Nat) : Nat → K := fun i => if i < k then c i else 0
theorem cmb_congr {c d : Nat → K} {V : List (Vc K)} (h : ∀ i, i < V.length → c i = d i) : cmb c V = cmb d V := ext fun j => by
 rw [cmb_at _ 0, cmb_at _ 0]
 exact Rg.sm_congr fun i hi => by rw [h i hi]
theorem cmb_up_zero (c : Nat → K) (V : List (Vc K)) : cmb (upC c 0) V = 0 := by
 rw [← cmb_zero V]; exact cmb_congr fun i _ => by unfold upC; rw [if_neg (by omega)]
theorem cmb_up_succ (c : Nat → K) {V : List (Vc K)} {k : Nat} (hk : k < V.length) : cmb (upC c (k + 1)) V = cmb (upC c k) V + sc (c k) (V.getD k 0) := by
 rw [← cmb_unit 0 V k hk, ← cmb_sc, ← cmb_add]
 refine cmb_congr fun i _ => ?_
 unfold upC
 rcases Nat.lt_trichotomy i k with h | h | h
 ·rw [if_pos (by omega), if_pos h, if_neg (by omega), Fd.mul_zero, Fd.add_zero]
 ·rw [if_pos (by omega), if_neg (by omega), if_pos h, Fd.mul_one, Rg.zero_add, h]
 ·rw [if_neg (by omega), if_neg (by omega), if_neg (by omega), Fd.mul_zero, Fd.add_zero]
theorem cmb_up_all (c : Nat → K) {V : List (Vc K)} {k : Nat} (hk : V.length ≤ k) : cmb (upC c k) V = cmb c V := cmb_congr fun i hi => by unfold upC; rw [if_pos (by omega)]
theorem Rr.mem_iff {n : Nat} {R : List (Vc K)} {ps : List Nat} (h : Rr n R ps) (u : Vc K) : SpL R u ↔ u - cmb (fun i => u (ps.getD i 0)) R = 0 := by
 constructor
 ·intro hu
  have := h.eq hu
  exact ext fun j => by rw [sub_at, ← this]; exact Rg.sub_self _
 ·intro h0
  have : u = cmb (fun i => u (ps.getD i 0)) R := ext fun j => by
   have := congrFun h0 j
   exact Rg.eq_of_sub this
  rw [this]; exact cmb_sp _ R
end Vc
section
variable {p m : Int} {mod : List Int} [hF : IsF p m mod]
theorem ofNat_getD (qs : List Nat) (k : Nat) : (qs.map Int.ofNat).getD k 0 = (qs.getD k 0 : Int) := by
 rw [List.getD_eq_getElem?_getD, List.getD_eq_getElem?_getD, List.getElem?_map]
 cases qs[k]? <;> rfl
end
end Go.Proofs.YtfdjdokdabmmdaaGreat

namespace Go.Proofs.YtfdjdokdabmmdaaGreat
open Go.RowKit
section
variable {p m : Int} {mod : List Int} [hF : IsF p m mod] {k : Nat} {rs : List RowM}
end
section
variable {K : Type} [Fd K]
end
section
variable {p m : Int} {mod : List Int} [hF : IsF p m mod]
end
end Go.Proofs.YtfdjdokdabmmdaaGreat

set_option maxRecDepth 100000
namespace Go.Proofs.YtfdjdokdabmmdaaGreat
open Go.RowKit
theorem mat_openE_ent : Enters Tryz.prog 64 := enters_of Tryz.func64 (by kernel_rfl) (by kernel_rfl)
theorem mat_openE (p m : Int) (A : Option Addr) (c : Nat) (mod : List Int) (hl9 : mod.length ≤ 17592186044415) [hF : IsF p m mod] (pl : Addr) (cl : Nat) (w : Int) (Aa : Option Addr) (n ca : Nat) (rs : List RowM) (hn : n = rs.length) (h9 : rs.length ≤ 17592186044415) (h8 : ∀ r ∈ rs, r.xs.length ≤ 17592186044415) (hE : rowsC (pw p m) w (xss rs) ≠ 0) :
  Pure Tryz.prog 64 #[.agg #[.int .i64 p, .int .i64 m, .slice A mod.length c], .slice (some pl) 1 cl] [ro A (ints mod), ro (some pl) [.int .i64 w, .slice Aa n ca], ro Aa (hdrs rs), rowsR rs] (isV (.tuple #[.pointer none, .int .i64 (rowsC (pw p m) w (xss rs))])) := by
 refine pure_of (args := [.agg #[.int .i64 p, .int .i64 m, .slice A mod.length c], .slice (some pl) 1 cl]) 32 Tryz.func64 rfl rfl rfl mat_openE_ent ⟨id, id, id, id, trivial⟩ (fun w0 => ?_)
 refine tS ?_
 refine tR fun _ _ _ => ?_
 refine eV (eBox rfl rfl rfl rfl rfl (fun p0 => ?_))
 iterate 2 refine pV ?_
 refine tS ?_
 refine tR fun _ _ _ => ?_
 refine sV (rLdS rfl rfl rfl) ?_
 refine eV (eCall1 rfl rfl rfl (fld_New_ok _ _ _ _ _ hl9 hF.out) ⟨rfl, trivial⟩ ?_)
 rintro _ _ ⟨g, rfl, rfl, hg⟩
 iterate 5 refine pV ?_
 refine tS ?_
 refine tS ?_
 refine tR fun _ _ _ => ?_
 iterate 2 refine pV ?_
 refine tC rfl (fun h2 => ?_) (fun h2 => ?_)
 ·try simp only [zbA] at h2
  first | exact absurd trivial h2 | exact absurd rfl h2 | omega | (exact absurd h2 (by simp)) --done
 ·try simp only [zbA] at h2
  refine tK ?_
  refine tS ?_
  refine tS ?_
  refine tR fun _ _ _ => ?_
  refine pV ?_
  refine sV (rLenS rfl rfl) ?_
  refine pV ?_
  refine tB ?_
  refine tr_loop1 (fun (k : Int) => [(20, .int .i64 k), (6, .pointer (some g.p)), (18, .slice (some pl) 1 cl), (19, .int .i64 1)]) (fun (k : Int) => [gfN g, blk p0 24 [.int .i64 p, .int .i64 m, .slice A mod.length c], ro A (ints mod), ro (some pl) [.int .i64 w, .slice Aa n ca], ro Aa (hdrs rs), rowsR rs]) (fun (k : Int) => k = 0) (fun (k : Int) => (1 - k).toNat) (0) ⟨rfl, rfl, rfl, rfl, trivial⟩ (by first | exact cs _ _ | exact CSub.refl _) (rfl) (fun k hI => ?_)
  refine tS ?_
  refine tR fun _ _ _ => ?_
  refine pV ?_
  refine tS ?_
  refine tC rfl (fun h5 => ?_) (fun h5 => ?_)
  ·try simp only [zbA] at h5
   refine tK ?_
   refine tS ?_
   refine tB ?_
   refine tS ?_
   refine tR fun _ _ _ => ?_
   refine sV (rIdxS0 rfl rfl rfl (by omega) (by omega)) ?_
   refine sV (rLdS rfl rfl rfl) ?_
   refine eV (eAlloc rfl rfl rfl (fun p6 => ?_))
   refine eV (eStS rfl rfl rfl rfl rfl rfl ?_)
   refine tS ?_
   refine tR fun _ _ _ => ?_
   refine pV ?_
   refine sV (rLdS rfl rfl rfl) ?_
   refine eV (eCallV rfl rfl rfl (mat_checkC g (pw p m) hg.eq w _ _ _ rs hn h9 h8) ⟨rfl, rfl, trivial⟩ ?_)
   refine pV ?_
   refine tS ?_
   refine tR fun _ _ _ => ?_
   iterate 2 refine pV ?_
   refine tC rfl (fun h8 => ?_) (fun h8 => ?_)
   ·try simp only [zbA] at h8
    refine tS ?_
    refine tR fun _ _ _ => ?_
    iterate 3 refine pV ?_
    exact tr_ret ⟨trivial, _, _, rfl, ⟨rfl, rfl⟩, CSub.nil _, trivial⟩
   ·try simp only [zbA] at h8
    omega --done
  ·try simp only [zbA] at h5
   omega --done
theorem mat_openG_ent : Enters Tryz.prog 64 := enters_of Tryz.func64 (by kernel_rfl) (by kernel_rfl)
theorem mat_openG (p m : Int) (A : Option Addr) (c : Nat) (mod : List Int) (hl9 : mod.length ≤ 17592186044415) [hF : IsF p m mod] (pl : Addr) (cl : Nat) (w : Int) (Aa : Option Addr) (n ca : Nat) (rs : List RowM) (hn : n = rs.length) (h9 : rs.length ≤ 17592186044415) (h8 : ∀ r ∈ rs, r.xs.length ≤ 17592186044415) (hE : rowsC (pw p m) w (xss rs) = 0) :
  Pure Tryz.prog 64 #[.agg #[.int .i64 p, .int .i64 m, .slice A mod.length c], .slice (some pl) 1 cl] [ro A (ints mod), ro (some pl) [.int .i64 w, .slice Aa n ca], ro Aa (hdrs rs), rowsR rs] (one (fun v ch => ∃ g : GfM, v = .tuple #[.pointer (some g.p), .int .i64 0] ∧ ch = gfN g ∧ GOk g p m mod)) := by
 refine pure_of (args := [.agg #[.int .i64 p, .int .i64 m, .slice A mod.length c], .slice (some pl) 1 cl]) 32 Tryz.func64 rfl rfl rfl mat_openG_ent ⟨id, id, id, id, trivial⟩ (fun w0 => ?_)
 refine tS ?_
 refine tR fun _ _ _ => ?_
 refine eV (eBox rfl rfl rfl rfl rfl (fun p0 => ?_))
 iterate 2 refine pV ?_
 refine tS ?_
 refine tR fun _ _ _ => ?_
 refine sV (rLdS rfl rfl rfl) ?_
 refine eV (eCall1 rfl rfl rfl (fld_New_ok _ _ _ _ _ hl9 hF.out) ⟨rfl, trivial⟩ ?_)
 rintro _ _ ⟨g, rfl, rfl, hg⟩
 iterate 5 refine pV ?_
 refine tS ?_
 refine tS ?_
 refine tR fun _ _ _ => ?_
 iterate 2 refine pV ?_
 refine tC rfl (fun h2 => ?_) (fun h2 => ?_)
 ·try simp only [zbA] at h2
  first | exact absurd trivial h2 | exact absurd rfl h2 | omega | (exact absurd h2 (by simp)) --done
 ·try simp only [zbA] at h2
  refine tK ?_
  refine tS ?_
  refine tS ?_
  refine tR fun _ _ _ => ?_
  refine pV ?_
  refine sV (rLenS rfl rfl) ?_
  refine pV ?_
  refine tB ?_
  refine tr_loop1 (fun (k : Int) => [(20, .int .i64 k), (6, .pointer (some g.p)), (18, .slice (some pl) 1 cl), (19, .int .i64 1)]) (fun (k : Int) => [gfN g, blk p0 24 [.int .i64 p, .int .i64 m, .slice A mod.length c], ro A (ints mod), ro (some pl) [.int .i64 w, .slice Aa n ca], ro Aa (hdrs rs), rowsR rs]) (fun (k : Int) => 0 ≤ k ∧ k ≤ 1) (fun (k : Int) => (1 - k).toNat) (0) ⟨rfl, rfl, rfl, rfl, trivial⟩ (by first | exact cs _ _ | exact CSub.refl _) (by omega) (fun k hI => ?_)
  refine tS ?_
  refine tR fun _ _ _ => ?_
  refine pV ?_
  refine tS ?_
  refine tC rfl (fun h5 => ?_) (fun h5 => ?_)
  ·try simp only [zbA] at h5
   refine tK ?_
   refine tS ?_
   refine tB ?_
   refine tS ?_
   refine tR fun _ _ _ => ?_
   refine sV (rIdxS0 rfl rfl rfl (by omega) (by omega)) ?_
   refine sV (rLdS rfl rfl rfl) ?_
   refine eV (eAlloc rfl rfl rfl (fun p6 => ?_))
   refine eV (eStS rfl rfl rfl rfl rfl rfl ?_)
   refine tS ?_
   refine tR fun _ _ _ => ?_
   refine pV ?_
   refine sV (rLdS rfl rfl rfl) ?_
   refine eV (eCallV rfl rfl rfl (mat_checkC g (pw p m) hg.eq w _ _ _ rs hn h9 h8) ⟨rfl, rfl, trivial⟩ ?_)
   refine pV ?_
   refine tS ?_
   refine tR fun _ _ _ => ?_
   iterate 2 refine pV ?_
   refine tC rfl (fun h8 => ?_) (fun h8 => ?_)
   ·try simp only [zbA] at h8
    omega --done
   ·try simp only [zbA] at h8
    refine tK ?_
    refine tR fun _ _ _ => ?_
    refine sV (rAdd rfl rfl rfl (by omega) (by omega)) ?_
    refine pV ?_
    refine ⟨k + 1, ⟨rfl, rfl, rfl, rfl, trivial⟩, by first | exact cs _ _ | exact CSub.refl _, ?_⟩
    omega
  ·try simp only [zbA] at h5
   refine tE ?_
   refine tS ?_
   refine tR fun _ _ _ => ?_
   iterate 3 refine pV ?_
   exact tr_ret ⟨trivial, _, _, rfl, ⟨_, rfl, g, rfl, rfl, hg⟩, cs _ _, ⟨trivial, trivial, trivial, trivial⟩, trivial⟩
theorem mat_CanonicalE_ent : Enters Tryz.prog 63 := enters_of Tryz.func63 (by kernel_rfl) (by kernel_rfl)
theorem mat_CanonicalE (p m : Int) (A : Option Addr) (c : Nat) (mod : List Int) (hl9 : mod.length ≤ 17592186044415) [hF : IsF p m mod] (w : Int) (Aa : Option Addr) (n ca : Nat) (rs : List RowM) (hn : n = rs.length) (h9 : rs.length ≤ 17592186044415) (h8 : ∀ r ∈ rs, r.xs.length ≤ 17592186044415) (hE : rowsC (pw p m) w (xss rs) ≠ 0) :
  Pure Tryz.prog 63 #[.agg #[.int .i64 p, .int .i64 m, .slice A mod.length c], .agg #[.int .i64 w, .slice Aa n ca]] [ro A (ints mod), ro Aa (hdrs rs), rowsR rs] (isV (.tuple #[.agg #[.int .i64 0, .slice none 0 0], .slice none 0 0, .int .i64 (rowsC (pw p m) w (xss rs))])) := by
 refine pure_ofC (args := [.agg #[.int .i64 p, .int .i64 m, .slice A mod.length c], .agg #[.int .i64 w, .slice Aa n ca]]) 36 Tryz.func63 rfl rfl rfl mat_CanonicalE_ent ⟨id, id, id, trivial⟩ (fun w0 => ?_)
 refine tS ?_
 refine tR fun _ _ _ => ?_
 refine eV (eBox rfl rfl rfl rfl rfl (fun p0 => ?_))
 refine eV (eBox rfl rfl rfl rfl rfl (fun p0a => ?_))
 refine eV (eAlloc rfl rfl rfl (fun p0b => ?_))
 iterate 2 refine pV ?_
 refine tS ?_
 refine tR fun _ _ _ => ?_
 refine sV (rLdS rfl rfl rfl) ?_
 refine sV (rLdS rfl rfl rfl) ?_
 refine eV (eLitS rfl rfl rfl rfl (fun p1 => ?_))
 refine eV (eCallV rfl rfl rfl (mat_openE _ _ _ _ _ hl9 _ _ w Aa _ ca rs hn h9 h8 hE) ⟨rfl, rfl, trivial⟩ ?_)
 iterate 5 refine pV ?_
 refine tS ?_
 refine tS ?_
 refine tR fun _ _ _ => ?_
 iterate 2 refine pV ?_
 refine tC rfl (fun h2 => ?_) (fun h2 => ?_)
 ·try simp only [zbA] at h2
  refine tS ?_
  refine tR fun _ _ _ => ?_
  refine sV (rBuild rfl rfl) ?_
  refine pV ?_
  refine eV (eStS rfl rfl rfl rfl rfl rfl ?_)
  iterate 2 refine pV ?_
  exact tr_ret ⟨trivial, _, _, (.cell rfl (cellS rfl) (.tmp rfl (.tmp rfl .nil))), ⟨rfl, rfl⟩, CSub.nil _, trivial⟩
 ·try simp only [zbA] at h2
  omega --done
theorem mat_CanonicalG_ent : Enters Tryz.prog 63 := enters_of Tryz.func63 (by kernel_rfl) (by kernel_rfl)
theorem mat_CanonicalG (p m : Int) (A : Option Addr) (c : Nat) (mod : List Int) (hl9 : mod.length ≤ 17592186044415) [hF : IsF p m mod] (w : Int) (Aa : Option Addr) (n ca : Nat) (rs : List RowM) (hn : n = rs.length) (h9 : rs.length ≤ 17592186044415) (h8 : ∀ r ∈ rs, r.xs.length ≤ 17592186044415) (hE : rowsC (pw p m) w (xss rs) = 0) :
  Pure Tryz.prog 63 #[.agg #[.int .i64 p, .int .i64 m, .slice A mod.length c], .agg #[.int .i64 w, .slice Aa n ca]] [ro A (ints mod), ro Aa (hdrs rs), rowsR rs] (three (fun v ca cb cc => ∃ B r3 Bp cp ps, v = .tuple #[.agg #[.int .i64 w, .slice B r3.length r3.length], .slice Bp ps.length cp, .int .i64 0] ∧ ca = rx B (hdrs r3) ∧ cb = rowsCh 3 r3 ∧ cc = ow Bp 3 cp (ints ps) ∧ RrOf p m mod w.toNat rs r3 ps ∧ r3.length ≤ rs.length)) := by
 obtain ⟨hb, hlen, hin⟩ := rowsC_zero hE
 rw [xss_length] at hb
 have hgd : Gd (pw p m) w.toNat rs := (Gd_iff hb.1).2 ⟨hlen, hin⟩
 refine pure_ofC (args := [.agg #[.int .i64 p, .int .i64 m, .slice A mod.length c], .agg #[.int .i64 w, .slice Aa n ca]]) 36 Tryz.func63 rfl rfl rfl mat_CanonicalG_ent ⟨id, id, id, trivial⟩ (fun w0 => ?_)
 refine tS ?_
 refine tR fun _ _ _ => ?_
 refine eV (eBox rfl rfl rfl rfl rfl (fun p0 => ?_))
 refine eV (eBox rfl rfl rfl rfl rfl (fun p0a => ?_))
 refine eV (eAlloc rfl rfl rfl (fun p0b => ?_))
 iterate 2 refine pV ?_
 refine tS ?_
 refine tR fun _ _ _ => ?_
 refine sV (rLdS rfl rfl rfl) ?_
 refine sV (rLdS rfl rfl rfl) ?_
 refine eV (eLitS rfl rfl rfl rfl (fun p1 => ?_))
 refine eV (eCall1 rfl rfl rfl (mat_openG _ _ _ _ _ hl9 _ _ w Aa _ ca rs hn h9 h8 hE) ⟨rfl, rfl, trivial⟩ ?_)
 rintro _ _ ⟨g, rfl, rfl, hg⟩
 iterate 5 refine pV ?_
 refine tS ?_
 refine tS ?_
 refine tR fun _ _ _ => ?_
 iterate 2 refine pV ?_
 refine tC rfl (fun h2 => ?_) (fun h2 => ?_)
 ·try simp only [zbA] at h2
  first | exact absurd trivial h2 | exact absurd rfl h2 | omega | (exact absurd h2 (by simp)) --done
 ·try simp only [zbA] at h2
  refine tK ?_
  refine tS ?_
  refine tR fun _ _ _ => ?_
  refine pV ?_
  refine sV (rFld rfl rfl) ?_
  refine sV (rLdF rfl rfl rfl) ?_
  refine sV (rFld rfl rfl) ?_
  refine sV (rLdF rfl rfl rfl) ?_
  refine eV (eCall3 rfl rfl rfl (mat_canon g hg w (by omega) (by omega) _ _ _ rs hn (by omega) hgd) ⟨rfl, rfl, rfl, trivial⟩ ?_)
  rintro _ _ _ _ ⟨B, r3, Bp, cp, ps, rfl, rfl, rfl, rfl, hR, hk⟩
  iterate 5 refine pV ?_
  refine tS ?_
  refine tR fun _ _ _ => ?_
  refine sV (rFld rfl rfl) ?_
  refine sV (rLdF rfl rfl rfl) ?_
  refine pV ?_
  refine sV (rBuild rfl rfl) ?_
  refine pV ?_
  refine eV (eStS rfl rfl rfl rfl rfl rfl ?_)
  iterate 2 refine pV ?_
  exact tr_ret ⟨trivial, _, _, (.cell rfl (cellS rfl) (.tmp rfl (.tmp rfl .nil))), ⟨_, _, _, rfl, B, r3, Bp, cp, ps, rfl, rfl, rfl, rfl, hR, hk⟩, cs _ _, trivial, trivial, trivial, trivial⟩
theorem code_length_ent : Enters Tryz.prog 86 := enters_of Tryz.func86 (by kernel_rfl) (by kernel_rfl)
theorem code_length (n : Int) :
  Pure Tryz.prog 86 #[.int .i64 n] [] (isV (.int .i64 (if n < 1 ∨ n > 64 then 4 else 0))) := by
 refine pure_of (args := [.int .i64 n]) 9 Tryz.func86 rfl rfl rfl code_length_ent trivial (fun w0 => ?_)
 refine tS ?_
 refine tR fun _ _ _ => ?_
 refine pV ?_
 refine tS ?_
 refine tS ?_
 refine tR fun _ _ _ => ?_
 iterate 3 refine pV ?_
 refine stg rfl rfl rfl rfl rfl (fun hb => by (have hq := hb; try simp only [zbA] at hq); exact rMove rfl rfl) ?_
 refine stg rfl rfl rfl rfl rfl (fun hb => by (have hq := hb; try simp only [zbA] at hq); exact rGtr rfl (evg rfl hb) rfl) ?_
 refine sV (rOrB rfl rfl rfl rfl) ?_
 refine tC rfl (fun h1 => ?_) (fun h1 => ?_)
 ·try simp only [zbA] at h1
  refine tS ?_
  refine tR fun _ _ _ => ?_
  refine pV ?_
  exact tr_ret ⟨trivial, _, _, rfl, ⟨by rw [if_pos (by omega)], rfl⟩, CSub.nil _, trivial⟩
 ·try simp only [zbA] at h1
  refine tK ?_
  refine tS ?_
  refine tR fun _ _ _ => ?_
  refine pV ?_
  exact tr_ret ⟨trivial, _, _, rfl, ⟨by rw [if_neg (by omega)], rfl⟩, CSub.nil _, trivial⟩
theorem code_lengthOk (n : Int) (h1 : 1 ≤ n) (h2 : n ≤ 64) : Pure Tryz.prog 86 #[.int .i64 n] [] (isV (.int .i64 0)) := by
 have := code_length n
 rwa [if_neg (by omega)] at this
theorem rowsC_gd {q w : Int} {rs : List RowM} (h0 : 0 ≤ w) (h1 : w ≤ 256) (h2 : rs.length ≤ 256) (h : Gd q w.toNat rs) : rowsC q w (xss rs) = 0 :=
 rowsC_ok (by rw [xss_length]; exact ⟨h0, h1, by omega⟩) ((Gd_iff h0).1 h).1 ((Gd_iff h0).1 h).2
theorem Gd.h8 {q : Int} {w N : Nat} {rs : List RowM} (h : Gd q w rs) (hw : w ≤ N) : ∀ r ∈ rs, r.xs.length ≤ N := fun r hr => by have := (h r hr).1; omega
theorem IsF.short {p m : Int} {mod : List Int} (hF : IsF p m mod) : mod.length ≤ 8 := by
 have h := hF.out.1.1
 have := h.m8
 rcases h.low with h1 | h1
 ·rw [h1.2]; simp
 ·have := h1.2; omega
end Go.Proofs.YtfdjdokdabmmdaaGreat

set_option maxRecDepth 100000
namespace Go.Proofs.YtfdjdokdabmmdaaGreat
open Go.RowKit
theorem slc_Equal_ent : Enters Tryz.prog 126 := enters_of Tryz.func126 (by kernel_rfl) (by kernel_rfl)
theorem slc_Equal (A : Option Addr) (n c : Nat) (a : List Int) (hn : n = a.length) (B : Option Addr) (m d : Nat) (b : List Int) (hm : m = b.length) (h9 : a.length ≤ 17592186044415) :
  Pure Tryz.prog 126 #[.slice A n c, .slice B m d] [ro A (ints a), ro B (ints b)] (isV (.bool (decide (a = b)))) := by
 refine pure_of (args := [.slice A n c, .slice B m d]) 26 Tryz.func126 rfl rfl rfl slc_Equal_ent ⟨id, id, trivial⟩ (fun w0 => ?_)
 refine tS ?_
 refine tR fun _ _ _ => ?_
 refine pV ?_
 refine tS ?_
 refine tS ?_
 refine tR fun _ _ _ => ?_
 refine pV ?_
 refine sV (rLen rfl rfl) ?_
 refine pV ?_
 refine sV (rLen rfl rfl) ?_
 refine pV ?_
 refine tC rfl (fun h1 => ?_) (fun h1 => ?_)
 ·try simp only [zbA] at h1
  refine tS ?_
  refine tR fun _ _ _ => ?_
  refine pV ?_
  exact tr_ret ⟨trivial, _, _, rfl, ⟨by rw [decide_eq_false (fun h => by rw [h] at hn; omega)], rfl⟩, CSub.nil _, trivial⟩
 ·try simp only [zbA] at h1
  refine tK ?_
  refine tS ?_
  refine tS ?_
  refine tR fun _ _ _ => ?_
  refine pV ?_
  refine sV (rLen rfl rfl) ?_
  refine pV ?_
  refine tB ?_
  refine tr_loop1 (fun (i : Nat) => [(13, .int .i64 i), (0, .slice A n c), (1, .slice B m d), (12, .int .i64 n)]) (fun (i : Nat) => [ro A (ints a), ro B (ints b)]) (fun (i : Nat) => i ≤ a.length ∧ a.take i = b.take i) (fun (i : Nat) => a.length - i) (0) ⟨rfl, rfl, rfl, rfl, trivial⟩ (by first | exact cs _ _ | exact CSub.refl _) (⟨by omega, rfl⟩) (fun i hI => ?_)
  obtain ⟨hi, ht⟩ := hI
  have hll : a.length = b.length := by omega
  refine tS ?_
  refine tR fun _ _ _ => ?_
  refine pV ?_
  refine tS ?_
  refine tC rfl (fun h4 => ?_) (fun h4 => ?_)
  ·try simp only [zbA] at h4
   refine tK ?_
   refine tS ?_
   refine tB ?_
   refine tS ?_
   refine tR fun _ _ _ => ?_
   iterate 2 refine pV ?_
   refine tS ?_
   refine tr_draw [0, 1, 2, 3, 4, 5, 6, 7, 8] [] mixed (by kernel_rfl) fun _ _ _ => ?_
   iterate 2 refine pV ?_
   refine sV (rIdxI rfl rfl rfl (by omega) (by omega) (by omega)) ?_
   refine sV (rLdI rfl rfl (by omega)) ?_
   iterate 2 refine pV ?_
   refine sV (rIdxI rfl rfl rfl (by omega) (by omega) (by omega)) ?_
   refine sV (rLdI rfl rfl (by omega)) ?_
   refine pV ?_
   refine tC rfl (fun h6 => ?_) (fun h6 => ?_)
   ·try simp only [zbA] at h6
    refine tS ?_
    refine tR fun _ _ _ => ?_
    refine pV ?_
    exact tr_ret ⟨trivial, _, _, rfl, ⟨by rw [decide_eq_false (fun h => h6 (by rw [h]))], rfl⟩, CSub.nil _, trivial⟩
   ·try simp only [zbA] at h6
    refine tK ?_
    refine tR fun _ _ _ => ?_
    refine sV (rAdd rfl rfl rfl (by omega) (by omega)) ?_
    refine pV ?_
    refine ⟨i + 1, ⟨rfl, rfl, rfl, rfl, trivial⟩, by first | exact cs _ _ | exact CSub.refl _, ?_⟩
    exact ⟨⟨by omega, take_eq_next 0 a b hll (by omega) ht (by simpa using h6)⟩, by omega⟩
  ·try simp only [zbA] at h4
   refine tE ?_
   refine tS ?_
   refine tR fun _ _ _ => ?_
   refine pV ?_
   have hia : i = a.length := by omega
   rw [hia, List.take_length, hll, List.take_length] at ht
   exact tr_ret ⟨trivial, _, _, rfl, ⟨by rw [decide_eq_true ht], rfl⟩, CSub.nil _, trivial⟩
theorem slc_EqualF (r q : RowM) (h9 : r.xs.length ≤ 17592186044415) : Pure Tryz.prog 126 ([Value.slice r.A r.xs.length r.cap, Value.slice q.A q.xs.length q.cap] ++ []).toArray [ro r.A (ints r.xs), ro q.A (ints q.xs)] (isV (.bool (decide (r.xs = q.xs)))) :=
 slc_Equal _ _ _ r.xs rfl _ _ _ q.xs rfl h9
theorem slc_EqualFunc_ent : Enters Tryz.prog 125 := enters_of Tryz.func125 (by kernel_rfl) (by kernel_rfl)
theorem slc_EqualFunc (A : Option Addr) (n c : Nat) (rs : List RowM) (hn : n = rs.length) (B : Option Addr) (m d : Nat) (qs : List RowM) (hm : m = qs.length) (h9 : rs.length ≤ 17592186044415) (h8 : ∀ r ∈ rs, r.xs.length ≤ 17592186044415) :
  Pure Tryz.prog 125 #[.slice A n c, .slice B m d, .func (.func 126) #[] #[]] [ro A (hdrs rs), rowsR rs, ro B (hdrs qs), rowsR qs] (isV (.bool (decide (xss rs = xss qs)))) := by
 refine pure_of (args := [.slice A n c, .slice B m d, .func (.func 126) #[] #[]]) 32 Tryz.func125 rfl rfl rfl slc_EqualFunc_ent ⟨id, id, id, id, trivial⟩ (fun w0 => ?_)
 refine tS ?_
 refine tR fun _ _ _ => ?_
 refine pV ?_
 refine tS ?_
 refine tS ?_
 refine tR fun _ _ _ => ?_
 refine pV ?_
 refine sV (rLen rfl rfl) ?_
 refine pV ?_
 refine sV (rLen rfl rfl) ?_
 refine pV ?_
 refine tC rfl (fun h1 => ?_) (fun h1 => ?_)
 ·try simp only [zbA] at h1
  refine tS ?_
  refine tR fun _ _ _ => ?_
  refine pV ?_
  exact tr_ret ⟨trivial, _, _, rfl, ⟨by rw [decide_eq_false (fun h => by have := congrArg List.length h; simp at this; omega)], rfl⟩, CSub.nil _, trivial⟩
 ·try simp only [zbA] at h1
  refine tK ?_
  refine tS ?_
  refine tS ?_
  refine tR fun _ _ _ => ?_
  refine pV ?_
  refine sV (rLen rfl rfl) ?_
  refine pV ?_
  refine tB ?_
  refine tr_loop1 (fun (i : Nat) => [(17, .int .i64 i), (1, .slice B m d), (2, .func (.func 126) #[] #[]), (15, .slice A n c), (16, .int .i64 n)]) (fun (i : Nat) => [ro A (hdrs rs), rowsR rs, ro B (hdrs qs), rowsR qs]) (fun (i : Nat) => i ≤ rs.length ∧ (xss rs).take i = (xss qs).take i) (fun (i : Nat) => rs.length - i) (0) ⟨rfl, rfl, rfl, rfl, rfl, trivial⟩ (by first | exact cs _ _ | exact CSub.refl _) (⟨by omega, rfl⟩) (fun i hI => ?_)
  obtain ⟨hi, ht⟩ := hI
  have hll : rs.length = qs.length := by omega
  refine tS ?_
  refine tR fun _ _ _ => ?_
  refine pV ?_
  refine tS ?_
  refine tC rfl (fun h4 => ?_) (fun h4 => ?_)
  ·try simp only [zbA] at h4
   refine tK ?_
   refine tS ?_
   refine tB ?_
   refine tS ?_
   haveI : InB (i : Int).toNat rs.length := ⟨by omega⟩
   haveI : InB (i : Int).toNat qs.length := ⟨by omega⟩
   have hr8 := h8 _ (getD_mem (show (i : Int).toNat < rs.length by omega) rowD)
   refine tR fun _ _ _ => ?_
   refine pV ?_
   refine sV (rIdxR rfl rfl rfl (by omega) (by omega) (by omega)) ?_
   refine sV (rLdR rfl rfl (by omega)) ?_
   iterate 2 refine pV ?_
   refine tS ?_
   refine tR fun _ _ _ => ?_
   iterate 2 refine pV ?_
   refine sV (rIdxR rfl rfl rfl (by omega) (by omega) (by omega)) ?_
   refine sV (rLdR rfl rfl (by omega)) ?_
   refine pV ?_
   refine tS ?_
   refine tR fun _ _ _ => ?_
   iterate 3 refine pV ?_
   refine eV (eCallFV rfl rfl rfl rfl (slc_EqualF (rs.getD (i : Int).toNat rowD) (qs.getD (i : Int).toNat rowD) hr8) ⟨rfl, rfl, trivial⟩ inferInstance ?_)
   refine sV (rNotB rfl rfl) ?_
   refine tC rfl (fun h7 => ?_) (fun h7 => ?_)
   ·try simp only [zbA] at h7
    refine tS ?_
    refine tR fun _ _ _ => ?_
    refine pV ?_
    exact tr_ret ⟨trivial, _, _, rfl, ⟨by rw [decide_eq_false (fun h => by have := congrArg (fun l => l.getD i []) h; simp only [xss_getD] at this; simp only [Int.toNat_natCast] at h7; exact h7 this)], rfl⟩, CSub.nil _, trivial⟩
   ·try simp only [zbA] at h7
    refine tK ?_
    refine tR fun _ _ _ => ?_
    refine sV (rAdd rfl rfl rfl (by omega) (by omega)) ?_
    refine pV ?_
    refine ⟨i + 1, ⟨rfl, rfl, rfl, rfl, rfl, trivial⟩, by first | exact cs _ _ | exact CSub.refl _, ?_⟩
    exact ⟨⟨by omega, take_eq_next [] _ _ (by simpa using hll) (by rw [xss_length]; omega) ht (by rw [xss_getD, xss_getD]; simpa using h7)⟩, by omega⟩
  ·try simp only [zbA] at h4
   refine tE ?_
   refine tS ?_
   refine tR fun _ _ _ => ?_
   refine pV ?_
   have hia : i = rs.length := by omega
   rw [List.take_of_length_le (by rw [xss_length]; omega), List.take_of_length_le (by rw [xss_length]; omega)] at ht
   exact tr_ret ⟨trivial, _, _, rfl, ⟨by rw [decide_eq_true ht], rfl⟩, CSub.nil _, trivial⟩
theorem fld_CheckN_ent : Enters Tryz.prog 85 := enters_of Tryz.func85 (by kernel_rfl) (by kernel_rfl)
theorem fld_CheckN (p m : Int) (A : Option Addr) (c : Nat) (mod : List Int) (hl9 : mod.length ≤ 17592186044415) (hsh : bShp p m mod = false) :
  Pure Tryz.prog 85 #[.agg #[.int .i64 p, .int .i64 m, .slice A mod.length c]] [ro A (ints mod)] (isV (.int .i64 1)) := by
 refine pure_of (args := [.agg #[.int .i64 p, .int .i64 m, .slice A mod.length c]]) 16 Tryz.func85 rfl rfl rfl fld_CheckN_ent ⟨id, trivial⟩ (fun w0 => ?_)
 refine tS ?_
 refine tR fun _ _ _ => ?_
 refine eV (eBox rfl rfl rfl rfl rfl (fun p0 => ?_))
 refine pV ?_
 refine tS ?_
 refine tS ?_
 refine tr_draw [0, 1, 2, 3, 4, 5, 6, 7, 8, 9, 10, 11, 12] [] mixed (by kernel_rfl) fun _ _ _ => ?_
 refine sV (rLdS rfl rfl rfl) ?_
 refine eV (eCallV rfl rfl rfl (fld_shape _ _ _ _ _ (by omega)) ⟨rfl, trivial⟩ ?_)
 refine sV (rNotB rfl rfl) ?_
 refine pV ?_
 refine skF rfl rfl (by simp [hsh]) rfl rfl ?_
 refine skF rfl rfl (by simp [hsh]) rfl rfl ?_
 refine skF rfl rfl (by simp [hsh]) rfl rfl ?_
 refine skF rfl rfl (by simp [hsh]) rfl rfl ?_
 refine skF rfl rfl (by simp [hsh]) rfl rfl ?_
 refine skF rfl rfl (by simp [hsh]) rfl rfl ?_
 refine skF rfl rfl (by simp [hsh]) rfl rfl ?_
 refine skF rfl rfl (by simp [hsh]) rfl rfl ?_
 refine sV (rPick1 rfl rfl (by simp [hsh]) rfl) ?_
 refine tC rfl (fun h1 => ?_) (fun h1 => ?_)
 ·try simp only [zbA] at h1
  refine tS ?_
  refine tR fun _ _ _ => ?_
  refine pV ?_
  exact tr_ret ⟨trivial, _, _, rfl, ⟨rfl, rfl⟩, CSub.nil _, trivial⟩
 ·try simp only [zbA] at h1
  first | exact absurd trivial h1 | exact absurd rfl h1 | omega | (exact absurd h1 (by simp)) --done
theorem fld_CheckS_ent : Enters Tryz.prog 85 := enters_of Tryz.func85 (by kernel_rfl) (by kernel_rfl)
theorem fld_CheckS (p m : Int) (A : Option Addr) (c : Nat) (mod : List Int) (hl9 : mod.length ≤ 17592186044415) (hsh : bShp p m mod = true) :
  Pure Tryz.prog 85 #[.agg #[.int .i64 p, .int .i64 m, .slice A mod.length c]] [ro A (ints mod)] (isV (.int .i64 (chkF p m mod))) := by
 have hs1 := ((bShp_iff p m mod).1 hsh).1
 have hs2 := (bShp_iff p m mod).1 hsh
 refine pure_of (args := [.agg #[.int .i64 p, .int .i64 m, .slice A mod.length c]]) 16 Tryz.func85 rfl rfl rfl fld_CheckS_ent ⟨id, trivial⟩ (fun w0 => ?_)
 refine tS ?_
 refine tR fun _ _ _ => ?_
 refine eV (eBox rfl rfl rfl rfl rfl (fun p0 => ?_))
 refine pV ?_
 refine tS ?_
 refine tS ?_
 refine tr_draw [0, 1, 2, 3, 4, 5, 6, 7, 8, 9, 10, 11, 12] [] mixed (by kernel_rfl) fun _ _ _ => ?_
 refine sV (rLdS rfl rfl rfl) ?_
 refine eV (eCallV rfl rfl rfl (fld_shape _ _ _ _ _ (by omega)) ⟨rfl, trivial⟩ ?_)
 refine sV (rNotB rfl rfl) ?_
 refine pV ?_
 refine stT rfl rfl rfl (by simp [hsh]) rfl rfl (rLdS rfl rfl rfl) ?_
 refine stT rfl rfl rfl (by simp [hsh]) rfl rfl (rFld rfl rfl) ?_
 refine stT rfl rfl rfl (by simp [hsh]) rfl rfl (rLdF rfl rfl rfl) ?_
 refine stT rfl rfl rfl (by simp [hsh]) rfl rfl (rFld rfl rfl) ?_
 refine stT rfl rfl rfl (by simp [hsh]) rfl rfl (rLdF rfl rfl rfl) ?_
 refine efT rfl rfl rfl (by simp [hsh]) (eCallV rfl rfl rfl (fld_order _ _) ⟨rfl, rfl, trivial⟩ ?_)
 refine efT rfl rfl rfl (by simp [hsh]) (eCall1 rfl rfl rfl (fld_gen _ _ _ _ _ hs1 _ hs1.ord) ⟨rfl, rfl, trivial⟩ ?_)
 rintro _ _ ⟨B, l, cb, rfl, hl, hn, rfl⟩
 refine stT rfl rfl rfl (by simp [hsh]) rfl rfl (rNilS rfl rfl rfl) ?_
 refine sV (rPick0 rfl rfl (by simp [hsh]) rfl) ?_
 refine tC rfl (fun h1 => ?_) (fun h1 => ?_)
 ·try simp only [zbA] at h1
  refine tr_emptyI (A := B) (xs := l) (fun hemp => ?_)
  have hl0 := hemp h1
  refine tS ?_
  refine tR fun _ _ _ => ?_
  refine pV ?_
  rw [hl0] at hl
  exact tr_ret ⟨trivial, _, _, rfl, ⟨by rw [chkF_no fun h => hl.nil (fldN_iff.2 h).2], rfl⟩, CSub.nil _, trivial⟩
 ·try simp only [zbA] at h1
  refine tK ?_
  refine tS ?_
  refine tR fun _ _ _ => ?_
  refine pV ?_
  have hgn : l ≠ [] := fun h => by
   rw [hn h] at h1
   simp at h1
  have hF : FldR p m mod := fldN_iff.1 ⟨hs2, by
   rcases hl with ⟨x, h⟩ | h
   ·exact ⟨x, l, h⟩
   ·exact absurd h.1 hgn⟩
  exact tr_ret ⟨trivial, _, _, rfl, ⟨by rw [chkF_ok hF], rfl⟩, CSub.nil _, trivial⟩
theorem fld_Check (p m : Int) (A : Option Addr) (c : Nat) (mod : List Int) (hl9 : mod.length ≤ 17592186044415) : Pure Tryz.prog 85 #[.agg #[.int .i64 p, .int .i64 m, .slice A mod.length c]] [ro A (ints mod)] (isV (.int .i64 (chkF p m mod))) := by
 cases hsh : bShp p m mod with
 | true => exact fld_CheckS p m A c mod hl9 hsh
 | false =>
  have h := fld_CheckN p m A c mod hl9 hsh
  rwa [← chkF_no (p := p) (m := m) (mod := mod) (fun h => by rw [bShp_true h.1] at hsh; cases hsh)] at h
theorem spc_openE_ent : Enters Tryz.prog 115 := enters_of Tryz.func115 (by kernel_rfl) (by kernel_rfl)
theorem spc_openE (p m : Int) (A : Option Addr) (c : Nat) (mod : List Int) (hl9 : mod.length ≤ 17592186044415) [hF : IsF p m mod] (w : Int) (Aa : Option Addr) (n ca : Nat) (rs : List RowM) (hn : n = rs.length) (h9 : rs.length ≤ 17592186044415) (h8 : ∀ r ∈ rs, r.xs.length ≤ 17592186044415) (hE : rowsC (pw p m) w (xss rs) ≠ 0) :
  Pure Tryz.prog 115 #[.agg #[.int .i64 p, .int .i64 m, .slice A mod.length c], .agg #[.int .i64 w, .slice Aa n ca]] [ro A (ints mod), ro Aa (hdrs rs), rowsR rs] (isV (.tuple #[.agg #[.pointer none, .int .i64 0, .slice none 0 0, .slice none 0 0], .int .i64 (rowsC (pw p m) w (xss rs))])) := by
 refine pure_ofC (args := [.agg #[.int .i64 p, .int .i64 m, .slice A mod.length c], .agg #[.int .i64 w, .slice Aa n ca]]) 38 Tryz.func115 rfl rfl rfl spc_openE_ent ⟨id, id, id, trivial⟩ (fun w0 => ?_)
 refine tS ?_
 refine tR fun _ _ _ => ?_
 refine eV (eBox rfl rfl rfl rfl rfl (fun p0 => ?_))
 refine eV (eBox rfl rfl rfl rfl rfl (fun p0a => ?_))
 refine eV (eAlloc rfl rfl rfl (fun p0b => ?_))
 refine pV ?_
 refine tS ?_
 refine tR fun _ _ _ => ?_
 refine sV (rLdS rfl rfl rfl) ?_
 refine sV (rLdS rfl rfl rfl) ?_
 refine eV (eCallV rfl rfl rfl (mat_CanonicalE _ _ _ _ _ hl9 w Aa _ ca rs hn h9 h8 hE) ⟨rfl, rfl, trivial⟩ ?_)
 iterate 4 refine pV ?_
 refine eV (eAlloc rfl rfl rfl (fun p1a => ?_))
 refine eV (eStS rfl rfl rfl rfl rfl rfl ?_)
 iterate 2 refine pV ?_
 refine tS ?_
 refine tS ?_
 refine tR fun _ _ _ => ?_
 iterate 2 refine pV ?_
 refine tC rfl (fun h2 => ?_) (fun h2 => ?_)
 ·try simp only [zbA] at h2
  refine tS ?_
  refine tR fun _ _ _ => ?_
  refine sV (rBuild rfl rfl) ?_
  refine pV ?_
  refine eV (eStS rfl rfl rfl rfl rfl rfl ?_)
  refine pV ?_
  exact tr_ret ⟨trivial, _, _, (.cell rfl (cellS rfl) (.tmp rfl .nil)), ⟨rfl, rfl⟩, CSub.nil _, trivial⟩
 ·try simp only [zbA] at h2
  omega --done
theorem spc_openF_ent : Enters Tryz.prog 115 := enters_of Tryz.func115 (by kernel_rfl) (by kernel_rfl)
theorem spc_openF (p m : Int) (A : Option Addr) (c : Nat) (mod : List Int) (hl9 : mod.length ≤ 17592186044415) [hF : IsF p m mod] (w : Int) (Aa : Option Addr) (n ca : Nat) (rs : List RowM) (hn : n = rs.length) (h9 : rs.length ≤ 17592186044415) (h8 : ∀ r ∈ rs, r.xs.length ≤ 17592186044415) (hE : rowsC (pw p m) w (xss rs) = 0) (hf : ¬ formP p m mod w.toNat rs) :
  Pure Tryz.prog 115 #[.agg #[.int .i64 p, .int .i64 m, .slice A mod.length c], .agg #[.int .i64 w, .slice Aa n ca]] [ro A (ints mod), ro Aa (hdrs rs), rowsR rs] (isV (.tuple #[.agg #[.pointer none, .int .i64 0, .slice none 0 0, .slice none 0 0], .int .i64 5])) := by
 obtain ⟨hgd, hw0, hw9, hr9⟩ := rowsC_Gd (p := p) (m := m) hE
 refine pure_ofC (args := [.agg #[.int .i64 p, .int .i64 m, .slice A mod.length c], .agg #[.int .i64 w, .slice Aa n ca]]) 38 Tryz.func115 rfl rfl rfl spc_openF_ent ⟨id, id, id, trivial⟩ (fun w0 => ?_)
 refine tS ?_
 refine tR fun _ _ _ => ?_
 refine eV (eBox rfl rfl rfl rfl rfl (fun p0 => ?_))
 refine eV (eBox rfl rfl rfl rfl rfl (fun p0a => ?_))
 refine eV (eAlloc rfl rfl rfl (fun p0b => ?_))
 refine pV ?_
 refine tS ?_
 refine tR fun _ _ _ => ?_
 refine sV (rLdS rfl rfl rfl) ?_
 refine sV (rLdS rfl rfl rfl) ?_
 refine eV (eCall3 rfl rfl rfl (mat_CanonicalG _ _ _ _ _ hl9 w Aa _ ca rs hn h9 h8 hE) ⟨rfl, rfl, trivial⟩ ?_)
 rintro _ _ _ _ ⟨B, r3, Bp, cp, ps, rfl, rfl, rfl, rfl, hR, hk⟩
 iterate 4 refine pV ?_
 refine eV (eAlloc rfl rfl rfl (fun p1a => ?_))
 refine eV (eStS rfl rfl rfl rfl rfl rfl ?_)
 iterate 2 refine pV ?_
 refine tS ?_
 refine tS ?_
 refine tR fun _ _ _ => ?_
 iterate 2 refine pV ?_
 refine tC rfl (fun h2 => ?_) (fun h2 => ?_)
 ·try simp only [zbA] at h2
  first | exact absurd trivial h2 | exact absurd rfl h2 | omega | (exact absurd h2 (by simp)) --done
 ·try simp only [zbA] at h2
  refine tK ?_
  refine tS ?_
  refine tS ?_
  refine tR fun _ _ _ => ?_
  refine sV (rFld rfl rfl) ?_
  refine sV (rLdF rfl rfl rfl) ?_
  refine sV (rFld rfl rfl) ?_
  refine sV (rLdF rfl rfl rfl) ?_
  refine eV (eCallV rfl rfl rfl (slc_EqualFunc _ _ _ r3 rfl _ _ _ rs hn (by omega) (hR.good.h8 (by omega))) ⟨rfl, rfl, rfl, trivial⟩ ?_)
  refine sV (rNotB rfl rfl) ?_
  refine tC rfl (fun h4 => ?_) (fun h4 => ?_)
  ·try simp only [zbA] at h4
   refine tS ?_
   refine tR fun _ _ _ => ?_
   refine sV (rBuild rfl rfl) ?_
   refine eV (eStS rfl rfl rfl rfl rfl rfl ?_)
   refine pV ?_
   exact tr_ret ⟨trivial, _, _, (.cell rfl (cellS rfl) (.tmp rfl .nil)), ⟨rfl, rfl⟩, CSub.nil _, trivial⟩
  ·try simp only [zbA] at h4
   exact absurd ((hR.form_iff hgd).1 (by simpa using h4)) hf --done
theorem spc_openG_ent : Enters Tryz.prog 115 := enters_of Tryz.func115 (by kernel_rfl) (by kernel_rfl)
theorem spc_openG (p m : Int) (A : Option Addr) (c : Nat) (mod : List Int) (hl9 : mod.length ≤ 17592186044415) [hF : IsF p m mod] (w : Int) (Aa : Option Addr) (n ca : Nat) (rs : List RowM) (hn : n = rs.length) (h9 : rs.length ≤ 17592186044415) (h8 : ∀ r ∈ rs, r.xs.length ≤ 17592186044415) (hE : rowsC (pw p m) w (xss rs) = 0) (hf : formP p m mod w.toNat rs) :
  Pure Tryz.prog 115 #[.agg #[.int .i64 p, .int .i64 m, .slice A mod.length c], .agg #[.int .i64 w, .slice Aa n ca]] [ro A (ints mod), ro Aa (hdrs rs), rowsR rs] (two (fun v c1 c2 => ∃ (g : GfM) (Bp : Option Addr) (cp : Nat) (ps : List Int), v = .tuple #[.agg #[.pointer (some g.p), .int .i64 w, .slice Aa n ca, .slice Bp ps.length cp], .int .i64 0] ∧ c1 = gfN g ∧ c2 = ow Bp 3 cp (ints ps) ∧ GOk g p m mod ∧ ∃ qs, ps = qs.map Int.ofNat ∧ Vc.Rr w.toNat (vsR rs : List (Vc (El p m mod))) qs)) := by
 obtain ⟨hgd, hw0, hw9, hr9⟩ := rowsC_Gd (p := p) (m := m) hE
 refine pure_ofC (args := [.agg #[.int .i64 p, .int .i64 m, .slice A mod.length c], .agg #[.int .i64 w, .slice Aa n ca]]) 38 Tryz.func115 rfl rfl rfl spc_openG_ent ⟨id, id, id, trivial⟩ (fun w0 => ?_)
 refine tS ?_
 refine tR fun _ _ _ => ?_
 refine eV (eBox rfl rfl rfl rfl rfl (fun p0 => ?_))
 refine eV (eBox rfl rfl rfl rfl rfl (fun p0a => ?_))
 refine eV (eAlloc rfl rfl rfl (fun p0b => ?_))
 refine pV ?_
 refine tS ?_
 refine tR fun _ _ _ => ?_
 refine sV (rLdS rfl rfl rfl) ?_
 refine sV (rLdS rfl rfl rfl) ?_
 refine eV (eCall3 rfl rfl rfl (mat_CanonicalG _ _ _ _ _ hl9 w Aa _ ca rs hn h9 h8 hE) ⟨rfl, rfl, trivial⟩ ?_)
 rintro _ _ _ _ ⟨B, r3, Bp, cp, ps, rfl, rfl, rfl, rfl, hR, hk⟩
 iterate 4 refine pV ?_
 refine eV (eAlloc rfl rfl rfl (fun p1a => ?_))
 refine eV (eStS rfl rfl rfl rfl rfl rfl ?_)
 iterate 2 refine pV ?_
 refine tS ?_
 refine tS ?_
 refine tR fun _ _ _ => ?_
 iterate 2 refine pV ?_
 refine tC rfl (fun h2 => ?_) (fun h2 => ?_)
 ·try simp only [zbA] at h2
  first | exact absurd trivial h2 | exact absurd rfl h2 | omega | (exact absurd h2 (by simp)) --done
 ·try simp only [zbA] at h2
  refine tK ?_
  refine tS ?_
  refine tS ?_
  refine tR fun _ _ _ => ?_
  refine sV (rFld rfl rfl) ?_
  refine sV (rLdF rfl rfl rfl) ?_
  refine sV (rFld rfl rfl) ?_
  refine sV (rLdF rfl rfl rfl) ?_
  refine eV (eCallV rfl rfl rfl (slc_EqualFunc _ _ _ r3 rfl _ _ _ rs hn (by omega) (hR.good.h8 (by omega))) ⟨rfl, rfl, rfl, trivial⟩ ?_)
  refine sV (rNotB rfl rfl) ?_
  refine tC rfl (fun h4 => ?_) (fun h4 => ?_)
  ·try simp only [zbA] at h4
   exact absurd ((hR.form_iff hgd).2 hf) (by simpa using h4) --done
  ·try simp only [zbA] at h4
   refine tK ?_
   refine tS ?_
   refine tR fun _ _ _ => ?_
   refine sV (rLdS rfl rfl rfl) ?_
   refine eV (eCall1 rfl rfl rfl (fld_New_ok _ _ _ _ _ hl9 hF.out) ⟨rfl, trivial⟩ ?_)
   rintro _ _ ⟨g, rfl, rfl, hg⟩
   iterate 5 refine pV ?_
   refine tS ?_
   refine tR fun _ _ _ => ?_
   refine pV ?_
   refine sV (rLdS rfl rfl rfl) ?_
   refine pV ?_
   refine sV (rBuild rfl rfl) ?_
   refine pV ?_
   refine eV (eStS rfl rfl rfl rfl rfl rfl ?_)
   refine pV ?_
   have he := (hR.form_iff hgd).2 hf
   exact tr_ret ⟨trivial, _, _, (.cell rfl (cellS rfl) (.tmp rfl .nil)), ⟨_, _, rfl, g, Bp, cp, ps, rfl, rfl, rfl, hg, hR.piv he⟩, cs _ _, gfO_excl _ _ _, trivial, trivial⟩
theorem spc_CheckE_ent : Enters Tryz.prog 87 := enters_of Tryz.func87 (by kernel_rfl) (by kernel_rfl)
theorem spc_CheckE (p m : Int) (A : Option Addr) (c : Nat) (mod : List Int) (hl9 : mod.length ≤ 17592186044415) [hF : IsF p m mod] (w : Int) (Aa : Option Addr) (n ca : Nat) (rs : List RowM) (hn : n = rs.length) (h9 : rs.length ≤ 17592186044415) (h8 : ∀ r ∈ rs, r.xs.length ≤ 17592186044415) (hE : rowsC (pw p m) w (xss rs) ≠ 0) :
  Pure Tryz.prog 87 #[.agg #[.int .i64 p, .int .i64 m, .slice A mod.length c], .agg #[.int .i64 w, .slice Aa n ca]] [ro A (ints mod), ro Aa (hdrs rs), rowsR rs] (isV (.int .i64 (rowsC (pw p m) w (xss rs)))) := by
 refine pure_of (args := [.agg #[.int .i64 p, .int .i64 m, .slice A mod.length c], .agg #[.int .i64 w, .slice Aa n ca]]) 14 Tryz.func87 rfl rfl rfl spc_CheckE_ent ⟨id, id, id, trivial⟩ (fun w0 => ?_)
 refine tS ?_
 refine tR fun _ _ _ => ?_
 refine eV (eBox rfl rfl rfl rfl rfl (fun p0 => ?_))
 refine eV (eBox rfl rfl rfl rfl rfl (fun p0a => ?_))
 refine pV ?_
 refine tS ?_
 refine tR fun _ _ _ => ?_
 refine sV (rLdS rfl rfl rfl) ?_
 refine sV (rLdS rfl rfl rfl) ?_
 refine eV (eCallV rfl rfl rfl (spc_openE _ _ _ _ _ hl9 w Aa _ ca rs hn h9 h8 hE) ⟨rfl, rfl, trivial⟩ ?_)
 iterate 3 refine pV ?_
 refine eV (eAlloc rfl rfl rfl (fun p1a => ?_))
 refine eV (eStS rfl rfl rfl rfl rfl rfl ?_)
 refine pV ?_
 refine tS ?_
 refine tR fun _ _ _ => ?_
 iterate 2 refine pV ?_
 exact tr_ret ⟨trivial, _, _, rfl, ⟨rfl, rfl⟩, CSub.nil _, trivial⟩
theorem spc_CheckF_ent : Enters Tryz.prog 87 := enters_of Tryz.func87 (by kernel_rfl) (by kernel_rfl)
theorem spc_CheckF (p m : Int) (A : Option Addr) (c : Nat) (mod : List Int) (hl9 : mod.length ≤ 17592186044415) [hF : IsF p m mod] (w : Int) (Aa : Option Addr) (n ca : Nat) (rs : List RowM) (hn : n = rs.length) (h9 : rs.length ≤ 17592186044415) (h8 : ∀ r ∈ rs, r.xs.length ≤ 17592186044415) (hE : rowsC (pw p m) w (xss rs) = 0) (hf : ¬ formP p m mod w.toNat rs) :
  Pure Tryz.prog 87 #[.agg #[.int .i64 p, .int .i64 m, .slice A mod.length c], .agg #[.int .i64 w, .slice Aa n ca]] [ro A (ints mod), ro Aa (hdrs rs), rowsR rs] (isV (.int .i64 5)) := by
 refine pure_of (args := [.agg #[.int .i64 p, .int .i64 m, .slice A mod.length c], .agg #[.int .i64 w, .slice Aa n ca]]) 14 Tryz.func87 rfl rfl rfl spc_CheckF_ent ⟨id, id, id, trivial⟩ (fun w0 => ?_)
 refine tS ?_
 refine tR fun _ _ _ => ?_
 refine eV (eBox rfl rfl rfl rfl rfl (fun p0 => ?_))
 refine eV (eBox rfl rfl rfl rfl rfl (fun p0a => ?_))
 refine pV ?_
 refine tS ?_
 refine tR fun _ _ _ => ?_
 refine sV (rLdS rfl rfl rfl) ?_
 refine sV (rLdS rfl rfl rfl) ?_
 refine eV (eCallV rfl rfl rfl (spc_openF _ _ _ _ _ hl9 w Aa _ ca rs hn h9 h8 hE hf) ⟨rfl, rfl, trivial⟩ ?_)
 iterate 3 refine pV ?_
 refine eV (eAlloc rfl rfl rfl (fun p1a => ?_))
 refine eV (eStS rfl rfl rfl rfl rfl rfl ?_)
 refine pV ?_
 refine tS ?_
 refine tR fun _ _ _ => ?_
 iterate 2 refine pV ?_
 exact tr_ret ⟨trivial, _, _, rfl, ⟨rfl, rfl⟩, CSub.nil _, trivial⟩
theorem spc_CheckG_ent : Enters Tryz.prog 87 := enters_of Tryz.func87 (by kernel_rfl) (by kernel_rfl)
theorem spc_CheckG (p m : Int) (A : Option Addr) (c : Nat) (mod : List Int) (hl9 : mod.length ≤ 17592186044415) [hF : IsF p m mod] (w : Int) (Aa : Option Addr) (n ca : Nat) (rs : List RowM) (hn : n = rs.length) (h9 : rs.length ≤ 17592186044415) (h8 : ∀ r ∈ rs, r.xs.length ≤ 17592186044415) (hE : rowsC (pw p m) w (xss rs) = 0) (hf : formP p m mod w.toNat rs) :
  Pure Tryz.prog 87 #[.agg #[.int .i64 p, .int .i64 m, .slice A mod.length c], .agg #[.int .i64 w, .slice Aa n ca]] [ro A (ints mod), ro Aa (hdrs rs), rowsR rs] (isV (.int .i64 0)) := by
 refine pure_of (args := [.agg #[.int .i64 p, .int .i64 m, .slice A mod.length c], .agg #[.int .i64 w, .slice Aa n ca]]) 14 Tryz.func87 rfl rfl rfl spc_CheckG_ent ⟨id, id, id, trivial⟩ (fun w0 => ?_)
 refine tS ?_
 refine tR fun _ _ _ => ?_
 refine eV (eBox rfl rfl rfl rfl rfl (fun p0 => ?_))
 refine eV (eBox rfl rfl rfl rfl rfl (fun p0a => ?_))
 refine pV ?_
 refine tS ?_
 refine tR fun _ _ _ => ?_
 refine sV (rLdS rfl rfl rfl) ?_
 refine sV (rLdS rfl rfl rfl) ?_
 refine eV (eCall2 rfl rfl rfl (spc_openG _ _ _ _ _ hl9 w Aa _ ca rs hn h9 h8 hE hf) ⟨rfl, rfl, trivial⟩ ?_)
 rintro _ _ _ ⟨g, Bp, cp, ps, rfl, rfl, rfl, hg, hq⟩
 iterate 3 refine pV ?_
 refine eV (eAlloc rfl rfl rfl (fun p1a => ?_))
 refine eV (eStS rfl rfl rfl rfl rfl rfl ?_)
 refine pV ?_
 refine tS ?_
 refine tR fun _ _ _ => ?_
 iterate 2 refine pV ?_
 exact tr_ret ⟨trivial, _, _, rfl, ⟨rfl, rfl⟩, CSub.nil _, trivial⟩
theorem code_gen_ent : Enters Tryz.prog 88 := enters_of Tryz.func88 (by kernel_rfl) (by kernel_rfl)
theorem code_gen (p m : Int) (A : Option Addr) (k c : Nat) (w : Int) (Aa : Option Addr) (n ca : Nat) :
  Pure Tryz.prog 88 #[.agg #[.int .i64 p, .int .i64 m, .slice A k c, .int .i64 w, .slice Aa n ca]] [] (isV (.agg #[.int .i64 w, .slice Aa n ca])) := by
 refine pure_ofC (args := [.agg #[.int .i64 p, .int .i64 m, .slice A k c, .int .i64 w, .slice Aa n ca]]) 8 Tryz.func88 rfl rfl rfl code_gen_ent trivial (fun w0 => ?_)
 refine tS ?_
 refine tR fun _ _ _ => ?_
 refine eV (eBox rfl rfl rfl rfl rfl (fun p0 => ?_))
 refine eV (eAlloc rfl rfl rfl (fun p0a => ?_))
 refine tS ?_
 refine tR fun _ _ _ => ?_
 refine sV (rFld rfl rfl) ?_
 refine sV (rLdF rfl rfl rfl) ?_
 refine sV (rFld rfl rfl) ?_
 refine sV (rLdF rfl rfl rfl) ?_
 refine sV (rBuild rfl rfl) ?_
 refine eV (eStS rfl rfl rfl rfl rfl rfl ?_)
 exact tr_ret ⟨trivial, _, _, (.cell rfl (cellS rfl) .nil), ⟨rfl, rfl⟩, CSub.nil _, trivial⟩
theorem code_lengthNo (n : Int) (h : n < 1 ∨ n > 64) : Pure Tryz.prog 86 #[.int .i64 n] [] (isV (.int .i64 4)) := by
 have := code_length n
 rwa [if_pos h] at this
theorem code_CheckNo_ent : Enters Tryz.prog 57 := enters_of Tryz.func57 (by kernel_rfl) (by kernel_rfl)
theorem code_CheckNo (p m : Int) (A : Option Addr) (c : Nat) (mod : List Int) (hl9 : mod.length ≤ 17592186044415) (hF : ¬ FldR p m mod) (w : Int) (Aa : Option Addr) (n ca : Nat) (rs : List RowM) (hn : n = rs.length) (h9 : rs.length ≤ 17592186044415) (h8 : ∀ r ∈ rs, r.xs.length ≤ 17592186044415) :
  Pure Tryz.prog 57 #[.agg #[.int .i64 p, .int .i64 m, .slice A mod.length c, .int .i64 w, .slice Aa n ca]] [ro A (ints mod), ro Aa (hdrs rs), rowsR rs] (isV (.int .i64 1)) := by
 have hch := chkF_no hF
 refine pure_of (args := [.agg #[.int .i64 p, .int .i64 m, .slice A mod.length c, .int .i64 w, .slice Aa n ca]]) 19 Tryz.func57 rfl rfl rfl code_CheckNo_ent ⟨id, id, id, trivial⟩ (fun w0 => ?_)
 refine tS ?_
 refine tR fun _ _ _ => ?_
 refine eV (eBox rfl rfl rfl rfl rfl (fun p0 => ?_))
 refine pV ?_
 refine tS ?_
 refine tS ?_
 refine tR fun _ _ _ => ?_
 refine sV (rFld rfl rfl) ?_
 refine sV (rLdSF rfl rfl) ?_
 refine eV (eCallV rfl rfl rfl (fld_Check _ _ _ _ _ hl9) ⟨rfl, trivial⟩ ?_)
 refine pV ?_
 refine tC rfl (fun h1 => ?_) (fun h1 => ?_)
 ·try simp only [zbA] at h1
  refine tS ?_
  refine tR fun _ _ _ => ?_
  refine pV ?_
  exact tr_ret ⟨trivial, _, _, rfl, ⟨rfl, rfl⟩, CSub.nil _, trivial⟩
 ·try simp only [zbA] at h1
  omega --done
theorem code_CheckL_ent : Enters Tryz.prog 57 := enters_of Tryz.func57 (by kernel_rfl) (by kernel_rfl)
theorem code_CheckL (p m : Int) (A : Option Addr) (c : Nat) (mod : List Int) (hl9 : mod.length ≤ 17592186044415) [hF : IsF p m mod] (w : Int) (Aa : Option Addr) (n ca : Nat) (rs : List RowM) (hn : n = rs.length) (h9 : rs.length ≤ 17592186044415) (h8 : ∀ r ∈ rs, r.xs.length ≤ 17592186044415) (hb : w < 1 ∨ w > 64) :
  Pure Tryz.prog 57 #[.agg #[.int .i64 p, .int .i64 m, .slice A mod.length c, .int .i64 w, .slice Aa n ca]] [ro A (ints mod), ro Aa (hdrs rs), rowsR rs] (isV (.int .i64 4)) := by
 have hch := chkF_ok hF.out
 refine pure_of (args := [.agg #[.int .i64 p, .int .i64 m, .slice A mod.length c, .int .i64 w, .slice Aa n ca]]) 19 Tryz.func57 rfl rfl rfl code_CheckL_ent ⟨id, id, id, trivial⟩ (fun w0 => ?_)
 refine tS ?_
 refine tR fun _ _ _ => ?_
 refine eV (eBox rfl rfl rfl rfl rfl (fun p0 => ?_))
 refine pV ?_
 refine tS ?_
 refine tS ?_
 refine tR fun _ _ _ => ?_
 refine sV (rFld rfl rfl) ?_
 refine sV (rLdSF rfl rfl) ?_
 refine eV (eCallV rfl rfl rfl (fld_Check _ _ _ _ _ hl9) ⟨rfl, trivial⟩ ?_)
 refine pV ?_
 refine tC rfl (fun h1 => ?_) (fun h1 => ?_)
 ·try simp only [zbA] at h1
  omega --done
 ·try simp only [zbA] at h1
  refine tK ?_
  refine tS ?_
  refine tS ?_
  refine tR fun _ _ _ => ?_
  refine sV (rFld rfl rfl) ?_
  refine sV (rLdF rfl rfl rfl) ?_
  refine eV (eCallV rfl rfl rfl (code_lengthNo w hb) ⟨rfl, trivial⟩ ?_)
  refine pV ?_
  refine tS ?_
  refine tR fun _ _ _ => ?_
  iterate 2 refine pV ?_
  refine tC rfl (fun h4 => ?_) (fun h4 => ?_)
  ·try simp only [zbA] at h4
   refine tS ?_
   refine tR fun _ _ _ => ?_
   iterate 2 refine pV ?_
   exact tr_ret ⟨trivial, _, _, rfl, ⟨rfl, rfl⟩, CSub.nil _, trivial⟩
  ·try simp only [zbA] at h4
   first | exact absurd trivial h4 | exact absurd rfl h4 | omega | (exact absurd h4 (by simp)) --done
theorem code_CheckE_ent : Enters Tryz.prog 57 := enters_of Tryz.func57 (by kernel_rfl) (by kernel_rfl)
theorem code_CheckE (p m : Int) (A : Option Addr) (c : Nat) (mod : List Int) (hl9 : mod.length ≤ 17592186044415) [hF : IsF p m mod] (w : Int) (Aa : Option Addr) (n ca : Nat) (rs : List RowM) (hn : n = rs.length) (h9 : rs.length ≤ 17592186044415) (h8 : ∀ r ∈ rs, r.xs.length ≤ 17592186044415) (hb : ¬ (w < 1 ∨ w > 64)) (hE : rowsC (pw p m) w (xss rs) ≠ 0) :
  Pure Tryz.prog 57 #[.agg #[.int .i64 p, .int .i64 m, .slice A mod.length c, .int .i64 w, .slice Aa n ca]] [ro A (ints mod), ro Aa (hdrs rs), rowsR rs] (isV (.int .i64 (rowsC (pw p m) w (xss rs)))) := by
 have hch := chkF_ok hF.out
 refine pure_of (args := [.agg #[.int .i64 p, .int .i64 m, .slice A mod.length c, .int .i64 w, .slice Aa n ca]]) 19 Tryz.func57 rfl rfl rfl code_CheckE_ent ⟨id, id, id, trivial⟩ (fun w0 => ?_)
 refine tS ?_
 refine tR fun _ _ _ => ?_
 refine eV (eBox rfl rfl rfl rfl rfl (fun p0 => ?_))
 refine pV ?_
 refine tS ?_
 refine tS ?_
 refine tR fun _ _ _ => ?_
 refine sV (rFld rfl rfl) ?_
 refine sV (rLdSF rfl rfl) ?_
 refine eV (eCallV rfl rfl rfl (fld_Check _ _ _ _ _ hl9) ⟨rfl, trivial⟩ ?_)
 refine pV ?_
 refine tC rfl (fun h1 => ?_) (fun h1 => ?_)
 ·try simp only [zbA] at h1
  omega --done
 ·try simp only [zbA] at h1
  refine tK ?_
  refine tS ?_
  refine tS ?_
  refine tR fun _ _ _ => ?_
  refine sV (rFld rfl rfl) ?_
  refine sV (rLdF rfl rfl rfl) ?_
  refine eV (eCallV rfl rfl rfl (code_lengthOk w (by omega) (by omega)) ⟨rfl, trivial⟩ ?_)
  refine pV ?_
  refine tS ?_
  refine tR fun _ _ _ => ?_
  iterate 2 refine pV ?_
  refine tC rfl (fun h4 => ?_) (fun h4 => ?_)
  ·try simp only [zbA] at h4
   first | exact absurd trivial h4 | exact absurd rfl h4 | omega | (exact absurd h4 (by simp)) --done
  ·try simp only [zbA] at h4
   refine tK ?_
   refine tS ?_
   refine tr_draw [0, 1, 2, 3, 4, 5] [] mixed (by kernel_rfl) fun _ _ _ => ?_
   refine sV (rFld rfl rfl) ?_
   refine sV (rLdSF rfl rfl) ?_
   refine sV (rLdS rfl rfl rfl) ?_
   refine eV (eCallV rfl rfl rfl (code_gen _ _ _ _ _ _ _ _ _) ⟨rfl, trivial⟩ ?_)
   refine eV (eCallV rfl rfl rfl (spc_CheckE _ _ _ _ _ hl9 w Aa _ ca rs hn h9 h8 hE) ⟨rfl, rfl, trivial⟩ ?_)
   refine pV ?_
   exact tr_ret ⟨trivial, _, _, rfl, ⟨rfl, rfl⟩, CSub.nil _, trivial⟩
theorem code_CheckF_ent : Enters Tryz.prog 57 := enters_of Tryz.func57 (by kernel_rfl) (by kernel_rfl)
theorem code_CheckF (p m : Int) (A : Option Addr) (c : Nat) (mod : List Int) (hl9 : mod.length ≤ 17592186044415) [hF : IsF p m mod] (w : Int) (Aa : Option Addr) (n ca : Nat) (rs : List RowM) (hn : n = rs.length) (h9 : rs.length ≤ 17592186044415) (h8 : ∀ r ∈ rs, r.xs.length ≤ 17592186044415) (hb : ¬ (w < 1 ∨ w > 64)) (hE : rowsC (pw p m) w (xss rs) = 0) (hf : ¬ formP p m mod w.toNat rs) :
  Pure Tryz.prog 57 #[.agg #[.int .i64 p, .int .i64 m, .slice A mod.length c, .int .i64 w, .slice Aa n ca]] [ro A (ints mod), ro Aa (hdrs rs), rowsR rs] (isV (.int .i64 5)) := by
 have hch := chkF_ok hF.out
 refine pure_of (args := [.agg #[.int .i64 p, .int .i64 m, .slice A mod.length c, .int .i64 w, .slice Aa n ca]]) 19 Tryz.func57 rfl rfl rfl code_CheckF_ent ⟨id, id, id, trivial⟩ (fun w0 => ?_)
 refine tS ?_
 refine tR fun _ _ _ => ?_
 refine eV (eBox rfl rfl rfl rfl rfl (fun p0 => ?_))
 refine pV ?_
 refine tS ?_
 refine tS ?_
 refine tR fun _ _ _ => ?_
 refine sV (rFld rfl rfl) ?_
 refine sV (rLdSF rfl rfl) ?_
 refine eV (eCallV rfl rfl rfl (fld_Check _ _ _ _ _ hl9) ⟨rfl, trivial⟩ ?_)
 refine pV ?_
 refine tC rfl (fun h1 => ?_) (fun h1 => ?_)
 ·try simp only [zbA] at h1
  omega --done
 ·try simp only [zbA] at h1
  refine tK ?_
  refine tS ?_
  refine tS ?_
  refine tR fun _ _ _ => ?_
  refine sV (rFld rfl rfl) ?_
  refine sV (rLdF rfl rfl rfl) ?_
  refine eV (eCallV rfl rfl rfl (code_lengthOk w (by omega) (by omega)) ⟨rfl, trivial⟩ ?_)
  refine pV ?_
  refine tS ?_
  refine tR fun _ _ _ => ?_
  iterate 2 refine pV ?_
  refine tC rfl (fun h4 => ?_) (fun h4 => ?_)
  ·try simp only [zbA] at h4
   first | exact absurd trivial h4 | exact absurd rfl h4 | omega | (exact absurd h4 (by simp)) --done
  ·try simp only [zbA] at h4
   refine tK ?_
   refine tS ?_
   refine tr_draw [0, 1, 2, 3, 4, 5] [] mixed (by kernel_rfl) fun _ _ _ => ?_
   refine sV (rFld rfl rfl) ?_
   refine sV (rLdSF rfl rfl) ?_
   refine sV (rLdS rfl rfl rfl) ?_
   refine eV (eCallV rfl rfl rfl (code_gen _ _ _ _ _ _ _ _ _) ⟨rfl, trivial⟩ ?_)
   refine eV (eCallV rfl rfl rfl (spc_CheckF _ _ _ _ _ hl9 w Aa _ ca rs hn h9 h8 hE hf) ⟨rfl, rfl, trivial⟩ ?_)
   refine pV ?_
   exact tr_ret ⟨trivial, _, _, rfl, ⟨rfl, rfl⟩, CSub.nil _, trivial⟩
theorem code_CheckG_ent : Enters Tryz.prog 57 := enters_of Tryz.func57 (by kernel_rfl) (by kernel_rfl)
theorem code_CheckG (p m : Int) (A : Option Addr) (c : Nat) (mod : List Int) (hl9 : mod.length ≤ 17592186044415) [hF : IsF p m mod] (w : Int) (Aa : Option Addr) (n ca : Nat) (rs : List RowM) (hn : n = rs.length) (h9 : rs.length ≤ 17592186044415) (h8 : ∀ r ∈ rs, r.xs.length ≤ 17592186044415) (hb : ¬ (w < 1 ∨ w > 64)) (hE : rowsC (pw p m) w (xss rs) = 0) (hf : formP p m mod w.toNat rs) :
  Pure Tryz.prog 57 #[.agg #[.int .i64 p, .int .i64 m, .slice A mod.length c, .int .i64 w, .slice Aa n ca]] [ro A (ints mod), ro Aa (hdrs rs), rowsR rs] (isV (.int .i64 0)) := by
 have hch := chkF_ok hF.out
 refine pure_of (args := [.agg #[.int .i64 p, .int .i64 m, .slice A mod.length c, .int .i64 w, .slice Aa n ca]]) 19 Tryz.func57 rfl rfl rfl code_CheckG_ent ⟨id, id, id, trivial⟩ (fun w0 => ?_)
 refine tS ?_
 refine tR fun _ _ _ => ?_
 refine eV (eBox rfl rfl rfl rfl rfl (fun p0 => ?_))
 refine pV ?_
 refine tS ?_
 refine tS ?_
 refine tR fun _ _ _ => ?_
 refine sV (rFld rfl rfl) ?_
 refine sV (rLdSF rfl rfl) ?_
 refine eV (eCallV rfl rfl rfl (fld_Check _ _ _ _ _ hl9) ⟨rfl, trivial⟩ ?_)
 refine pV ?_
 refine tC rfl (fun h1 => ?_) (fun h1 => ?_)
 ·try simp only [zbA] at h1
  omega --done
 ·try simp only [zbA] at h1
  refine tK ?_
  refine tS ?_
  refine tS ?_
  refine tR fun _ _ _ => ?_
  refine sV (rFld rfl rfl) ?_
  refine sV (rLdF rfl rfl rfl) ?_
  refine eV (eCallV rfl rfl rfl (code_lengthOk w (by omega) (by omega)) ⟨rfl, trivial⟩ ?_)
  refine pV ?_
  refine tS ?_
  refine tR fun _ _ _ => ?_
  iterate 2 refine pV ?_
  refine tC rfl (fun h4 => ?_) (fun h4 => ?_)
  ·try simp only [zbA] at h4
   first | exact absurd trivial h4 | exact absurd rfl h4 | omega | (exact absurd h4 (by simp)) --done
  ·try simp only [zbA] at h4
   refine tK ?_
   refine tS ?_
   refine tr_draw [0, 1, 2, 3, 4, 5] [] mixed (by kernel_rfl) fun _ _ _ => ?_
   refine sV (rFld rfl rfl) ?_
   refine sV (rLdSF rfl rfl) ?_
   refine sV (rLdS rfl rfl rfl) ?_
   refine eV (eCallV rfl rfl rfl (code_gen _ _ _ _ _ _ _ _ _) ⟨rfl, trivial⟩ ?_)
   refine eV (eCallV rfl rfl rfl (spc_CheckG _ _ _ _ _ hl9 w Aa _ ca rs hn h9 h8 hE hf) ⟨rfl, rfl, trivial⟩ ?_)
   refine pV ?_
   exact tr_ret ⟨trivial, _, _, rfl, ⟨rfl, rfl⟩, CSub.nil _, trivial⟩
theorem code_Check (p m : Int) (A : Option Addr) (c : Nat) (mod : List Int) (hl9 : mod.length ≤ 17592186044415) (w : Int) (Aa : Option Addr) (n ca : Nat) (rs : List RowM) (hn : n = rs.length) (h9 : rs.length ≤ 17592186044415) (h8 : ∀ r ∈ rs, r.xs.length ≤ 17592186044415) : Pure Tryz.prog 57 #[.agg #[.int .i64 p, .int .i64 m, .slice A mod.length c, .int .i64 w, .slice Aa n ca]] [ro A (ints mod), ro Aa (hdrs rs), rowsR rs] (isV (.int .i64 (codC p m mod w rs))) := by
 by_cases hF : FldR p m mod
 ·haveI : IsF p m mod := ⟨hF⟩
  by_cases hb : w < 1 ∨ w > 64
  ·rw [codC_ln hb]; exact code_CheckL p m A c mod hl9 w Aa n ca rs hn h9 h8 hb
  ·by_cases hE : rowsC (pw p m) w (xss rs) = 0
   ·by_cases hf : formP p m mod w.toNat rs
    ·rw [codC_ok hb hE hf]; exact code_CheckG p m A c mod hl9 w Aa n ca rs hn h9 h8 hb hE hf
    ·rw [codC_fm hb hE hf]; exact code_CheckF p m A c mod hl9 w Aa n ca rs hn h9 h8 hb hE hf
   ·rw [codC_rw hb hE]; exact code_CheckE p m A c mod hl9 w Aa n ca rs hn h9 h8 hb hE
 ·rw [codC_no w rs hF]; exact code_CheckNo p m A c mod hl9 hF w Aa n ca rs hn h9 h8
theorem ref_SCheckE_ent : Enters Tryz.prog 52 := enters_of Tryz.func52 (by kernel_rfl) (by kernel_rfl)
theorem ref_SCheckE (p m : Int) (A : Option Addr) (c : Nat) (mod : List Int) (hl9 : mod.length ≤ 17592186044415) [hF : IsF p m mod] (w : Int) (Aa : Option Addr) (n ca : Nat) (rs : List RowM) (hn : n = rs.length) (h9 : rs.length ≤ 17592186044415) (h8 : ∀ r ∈ rs, r.xs.length ≤ 17592186044415) (hE : rowsC (pw p m) w (xss rs) ≠ 0) :
  Pure Tryz.prog 52 #[.agg #[.int .i64 p, .int .i64 m, .slice A mod.length c], .agg #[.int .i64 w, .slice Aa n ca]] [ro A (ints mod), ro Aa (hdrs rs), rowsR rs] (isV (.int .i64 (rowsC (pw p m) w (xss rs)))) := by
 refine pure_of (args := [.agg #[.int .i64 p, .int .i64 m, .slice A mod.length c], .agg #[.int .i64 w, .slice Aa n ca]]) 28 Tryz.func52 rfl rfl rfl ref_SCheckE_ent ⟨id, id, id, trivial⟩ (fun w0 => ?_)
 refine tS ?_
 refine tR fun _ _ _ => ?_
 refine eV (eBox rfl rfl rfl rfl rfl (fun p0 => ?_))
 refine eV (eBox rfl rfl rfl rfl rfl (fun p0a => ?_))
 refine pV ?_
 refine tS ?_
 refine tR fun _ _ _ => ?_
 refine sV (rLdS rfl rfl rfl) ?_
 refine sV (rLdS rfl rfl rfl) ?_
 refine eV (eCallV rfl rfl rfl (ref_RCheckOk _ _ _ _ _ hl9 hF.out (pw p m) hF.ord w Aa _ ca rs hn h9 h8) ⟨rfl, rfl, trivial⟩ ?_)
 refine pV ?_
 refine tS ?_
 refine tS ?_
 refine tR fun _ _ _ => ?_
 iterate 2 refine pV ?_
 refine tC rfl (fun h2 => ?_) (fun h2 => ?_)
 ·try simp only [zbA] at h2
  refine tS ?_
  refine tR fun _ _ _ => ?_
  iterate 2 refine pV ?_
  exact tr_ret ⟨trivial, _, _, rfl, ⟨rfl, rfl⟩, CSub.nil _, trivial⟩
 ·try simp only [zbA] at h2
  omega --done
theorem ref_SCheckF_ent : Enters Tryz.prog 52 := enters_of Tryz.func52 (by kernel_rfl) (by kernel_rfl)
theorem ref_SCheckF (p m : Int) (A : Option Addr) (c : Nat) (mod : List Int) (hl9 : mod.length ≤ 17592186044415) [hF : IsF p m mod] (w : Int) (Aa : Option Addr) (n ca : Nat) (rs : List RowM) (hn : n = rs.length) (h9 : rs.length ≤ 17592186044415) (h8 : ∀ r ∈ rs, r.xs.length ≤ 17592186044415) (hE : rowsC (pw p m) w (xss rs) = 0) (hf : ¬ formP p m mod w.toNat rs) :
  Pure Tryz.prog 52 #[.agg #[.int .i64 p, .int .i64 m, .slice A mod.length c], .agg #[.int .i64 w, .slice Aa n ca]] [ro A (ints mod), ro Aa (hdrs rs), rowsR rs] (isV (.int .i64 5)) := by
 obtain ⟨hgd, hw0, hw9, hr9⟩ := rowsC_Gd (p := p) (m := m) hE
 refine pure_of (args := [.agg #[.int .i64 p, .int .i64 m, .slice A mod.length c], .agg #[.int .i64 w, .slice Aa n ca]]) 28 Tryz.func52 rfl rfl rfl ref_SCheckF_ent ⟨id, id, id, trivial⟩ (fun w0 => ?_)
 refine tS ?_
 refine tR fun _ _ _ => ?_
 refine eV (eBox rfl rfl rfl rfl rfl (fun p0 => ?_))
 refine eV (eBox rfl rfl rfl rfl rfl (fun p0a => ?_))
 refine pV ?_
 refine tS ?_
 refine tR fun _ _ _ => ?_
 refine sV (rLdS rfl rfl rfl) ?_
 refine sV (rLdS rfl rfl rfl) ?_
 refine eV (eCallV rfl rfl rfl (ref_RCheckOk _ _ _ _ _ hl9 hF.out (pw p m) hF.ord w Aa _ ca rs hn h9 h8) ⟨rfl, rfl, trivial⟩ ?_)
 refine pV ?_
 refine tS ?_
 refine tS ?_
 refine tR fun _ _ _ => ?_
 iterate 2 refine pV ?_
 refine tC rfl (fun h2 => ?_) (fun h2 => ?_)
 ·try simp only [zbA] at h2
  omega --done
 ·try simp only [zbA] at h2
  refine tK ?_
  refine tS ?_
  refine tR fun _ _ _ => ?_
  refine sV (rLdS rfl rfl rfl) ?_
  refine sV (rFld rfl rfl) ?_
  refine sV (rLdF rfl rfl rfl) ?_
  refine sV (rFld rfl rfl) ?_
  refine sV (rLdF rfl rfl rfl) ?_
  refine eV (eCall3 rfl rfl rfl (ref_RCanon _ _ _ _ _ w hw0 (by omega) Aa _ ca rs hn (by omega) hgd) ⟨rfl, rfl, rfl, trivial⟩ ?_)
  rintro _ _ _ _ ⟨r3, B, cg, Bp, cp, ps, rfl, rfl, rfl, rfl, hR, hk⟩
  iterate 5 refine pV ?_
  refine tS ?_
  refine tS ?_
  refine tR fun _ _ _ => ?_
  refine pV ?_
  refine sV (rFld rfl rfl) ?_
  refine sV (rLdF rfl rfl rfl) ?_
  refine eV (eCallV rfl rfl rfl (ref_SameRows _ _ _ r3 rfl _ _ _ rs hn (by omega) (hR.good.h8 (by omega))) ⟨rfl, rfl, trivial⟩ ?_)
  refine sV (rNotB rfl rfl) ?_
  refine tC rfl (fun h5 => ?_) (fun h5 => ?_)
  ·try simp only [zbA] at h5
   refine tS ?_
   refine tR fun _ _ _ => ?_
   refine pV ?_
   exact tr_ret ⟨trivial, _, _, rfl, ⟨rfl, rfl⟩, CSub.nil _, trivial⟩
  ·try simp only [zbA] at h5
   exact absurd ((hR.form_iff hgd).1 (by simpa [xss] using h5)) hf --done
theorem ref_SCheckG_ent : Enters Tryz.prog 52 := enters_of Tryz.func52 (by kernel_rfl) (by kernel_rfl)
theorem ref_SCheckG (p m : Int) (A : Option Addr) (c : Nat) (mod : List Int) (hl9 : mod.length ≤ 17592186044415) [hF : IsF p m mod] (w : Int) (Aa : Option Addr) (n ca : Nat) (rs : List RowM) (hn : n = rs.length) (h9 : rs.length ≤ 17592186044415) (h8 : ∀ r ∈ rs, r.xs.length ≤ 17592186044415) (hE : rowsC (pw p m) w (xss rs) = 0) (hf : formP p m mod w.toNat rs) :
  Pure Tryz.prog 52 #[.agg #[.int .i64 p, .int .i64 m, .slice A mod.length c], .agg #[.int .i64 w, .slice Aa n ca]] [ro A (ints mod), ro Aa (hdrs rs), rowsR rs] (isV (.int .i64 0)) := by
 obtain ⟨hgd, hw0, hw9, hr9⟩ := rowsC_Gd (p := p) (m := m) hE
 refine pure_of (args := [.agg #[.int .i64 p, .int .i64 m, .slice A mod.length c], .agg #[.int .i64 w, .slice Aa n ca]]) 28 Tryz.func52 rfl rfl rfl ref_SCheckG_ent ⟨id, id, id, trivial⟩ (fun w0 => ?_)
 refine tS ?_
 refine tR fun _ _ _ => ?_
 refine eV (eBox rfl rfl rfl rfl rfl (fun p0 => ?_))
 refine eV (eBox rfl rfl rfl rfl rfl (fun p0a => ?_))
 refine pV ?_
 refine tS ?_
 refine tR fun _ _ _ => ?_
 refine sV (rLdS rfl rfl rfl) ?_
 refine sV (rLdS rfl rfl rfl) ?_
 refine eV (eCallV rfl rfl rfl (ref_RCheckOk _ _ _ _ _ hl9 hF.out (pw p m) hF.ord w Aa _ ca rs hn h9 h8) ⟨rfl, rfl, trivial⟩ ?_)
 refine pV ?_
 refine tS ?_
 refine tS ?_
 refine tR fun _ _ _ => ?_
 iterate 2 refine pV ?_
 refine tC rfl (fun h2 => ?_) (fun h2 => ?_)
 ·try simp only [zbA] at h2
  omega --done
 ·try simp only [zbA] at h2
  refine tK ?_
  refine tS ?_
  refine tR fun _ _ _ => ?_
  refine sV (rLdS rfl rfl rfl) ?_
  refine sV (rFld rfl rfl) ?_
  refine sV (rLdF rfl rfl rfl) ?_
  refine sV (rFld rfl rfl) ?_
  refine sV (rLdF rfl rfl rfl) ?_
  refine eV (eCall3 rfl rfl rfl (ref_RCanon _ _ _ _ _ w hw0 (by omega) Aa _ ca rs hn (by omega) hgd) ⟨rfl, rfl, rfl, trivial⟩ ?_)
  rintro _ _ _ _ ⟨r3, B, cg, Bp, cp, ps, rfl, rfl, rfl, rfl, hR, hk⟩
  iterate 5 refine pV ?_
  refine tS ?_
  refine tS ?_
  refine tR fun _ _ _ => ?_
  refine pV ?_
  refine sV (rFld rfl rfl) ?_
  refine sV (rLdF rfl rfl rfl) ?_
  refine eV (eCallV rfl rfl rfl (ref_SameRows _ _ _ r3 rfl _ _ _ rs hn (by omega) (hR.good.h8 (by omega))) ⟨rfl, rfl, trivial⟩ ?_)
  refine sV (rNotB rfl rfl) ?_
  refine tC rfl (fun h5 => ?_) (fun h5 => ?_)
  ·try simp only [zbA] at h5
   exact absurd ((hR.form_iff hgd).2 hf) (by simpa [xss] using h5) --done
  ·try simp only [zbA] at h5
   refine tK ?_
   refine tS ?_
   refine tR fun _ _ _ => ?_
   refine pV ?_
   exact tr_ret ⟨trivial, _, _, rfl, ⟨rfl, rfl⟩, CSub.nil _, trivial⟩
theorem ref_CCheckNo_ent : Enters Tryz.prog 22 := enters_of Tryz.func22 (by kernel_rfl) (by kernel_rfl)
theorem ref_CCheckNo (p m : Int) (A : Option Addr) (c : Nat) (mod : List Int) (hl9 : mod.length ≤ 17592186044415) (hF : ¬ FldR p m mod) (w : Int) (Aa : Option Addr) (n ca : Nat) (rs : List RowM) (hn : n = rs.length) (h9 : rs.length ≤ 17592186044415) (h8 : ∀ r ∈ rs, r.xs.length ≤ 17592186044415) :
  Pure Tryz.prog 22 #[.agg #[.int .i64 p, .int .i64 m, .slice A mod.length c, .int .i64 w, .slice Aa n ca]] [ro A (ints mod), ro Aa (hdrs rs), rowsR rs] (isV (.int .i64 1)) := by
 have hch := chkF_no hF
 refine pure_of (args := [.agg #[.int .i64 p, .int .i64 m, .slice A mod.length c, .int .i64 w, .slice Aa n ca]]) 26 Tryz.func22 rfl rfl rfl ref_CCheckNo_ent ⟨id, id, id, trivial⟩ (fun w0 => ?_)
 refine tS ?_
 refine tR fun _ _ _ => ?_
 refine eV (eBox rfl rfl rfl rfl rfl (fun p0 => ?_))
 refine pV ?_
 refine tS ?_
 refine tR fun _ _ _ => ?_
 refine sV (rFld rfl rfl) ?_
 refine sV (rLdSF rfl rfl) ?_
 refine eV (eCallV rfl rfl rfl (ref_fldCheck _ _ _ _ _ hl9) ⟨rfl, trivial⟩ ?_)
 refine pV ?_
 refine tS ?_
 refine tS ?_
 refine tR fun _ _ _ => ?_
 iterate 2 refine pV ?_
 refine tC rfl (fun h2 => ?_) (fun h2 => ?_)
 ·try simp only [zbA] at h2
  refine tS ?_
  refine tR fun _ _ _ => ?_
  iterate 2 refine pV ?_
  exact tr_ret ⟨trivial, _, _, rfl, ⟨by rw [hch], rfl⟩, CSub.nil _, trivial⟩
 ·try simp only [zbA] at h2
  omega --done
theorem ref_CCheckL_ent : Enters Tryz.prog 22 := enters_of Tryz.func22 (by kernel_rfl) (by kernel_rfl)
theorem ref_CCheckL (p m : Int) (A : Option Addr) (c : Nat) (mod : List Int) (hl9 : mod.length ≤ 17592186044415) [hF : IsF p m mod] (w : Int) (Aa : Option Addr) (n ca : Nat) (rs : List RowM) (hn : n = rs.length) (h9 : rs.length ≤ 17592186044415) (h8 : ∀ r ∈ rs, r.xs.length ≤ 17592186044415) (hb : w < 1 ∨ w > 64) :
  Pure Tryz.prog 22 #[.agg #[.int .i64 p, .int .i64 m, .slice A mod.length c, .int .i64 w, .slice Aa n ca]] [ro A (ints mod), ro Aa (hdrs rs), rowsR rs] (isV (.int .i64 4)) := by
 have hch := chkF_ok hF.out
 refine pure_of (args := [.agg #[.int .i64 p, .int .i64 m, .slice A mod.length c, .int .i64 w, .slice Aa n ca]]) 26 Tryz.func22 rfl rfl rfl ref_CCheckL_ent ⟨id, id, id, trivial⟩ (fun w0 => ?_)
 refine tS ?_
 refine tR fun _ _ _ => ?_
 refine eV (eBox rfl rfl rfl rfl rfl (fun p0 => ?_))
 refine pV ?_
 refine tS ?_
 refine tR fun _ _ _ => ?_
 refine sV (rFld rfl rfl) ?_
 refine sV (rLdSF rfl rfl) ?_
 refine eV (eCallV rfl rfl rfl (ref_fldCheck _ _ _ _ _ hl9) ⟨rfl, trivial⟩ ?_)
 refine pV ?_
 refine tS ?_
 refine tS ?_
 refine tR fun _ _ _ => ?_
 iterate 2 refine pV ?_
 refine tC rfl (fun h2 => ?_) (fun h2 => ?_)
 ·try simp only [zbA] at h2
  omega --done
 ·try simp only [zbA] at h2
  refine tK ?_
  refine tS ?_
  refine tS ?_
  refine tR fun _ _ _ => ?_
  refine sV (rFld rfl rfl) ?_
  refine sV (rLdF rfl rfl rfl) ?_
  iterate 2 refine pV ?_
  refine stg rfl rfl rfl rfl rfl (fun hb => by (have hq := hb; try simp only [zbA] at hq); exact rFld rfl rfl) ?_
  refine stg rfl rfl rfl rfl rfl (fun hb => by (have hq := hb; try simp only [zbA] at hq); exact rLdF rfl (evg rfl hb) rfl) ?_
  refine stg rfl rfl rfl rfl rfl (fun hb => by (have hq := hb; try simp only [zbA] at hq); exact rGtr rfl (evg rfl hb) rfl) ?_
  refine sV (rOrB rfl rfl rfl rfl) ?_
  refine tC rfl (fun h4 => ?_) (fun h4 => ?_)
  ·try simp only [zbA] at h4
   refine tS ?_
   refine tR fun _ _ _ => ?_
   refine pV ?_
   exact tr_ret ⟨trivial, _, _, rfl, ⟨rfl, rfl⟩, CSub.nil _, trivial⟩
  ·try simp only [zbA] at h4
   omega --done
theorem ref_CCheckE_ent : Enters Tryz.prog 22 := enters_of Tryz.func22 (by kernel_rfl) (by kernel_rfl)
theorem ref_CCheckE (p m : Int) (A : Option Addr) (c : Nat) (mod : List Int) (hl9 : mod.length ≤ 17592186044415) [hF : IsF p m mod] (w : Int) (Aa : Option Addr) (n ca : Nat) (rs : List RowM) (hn : n = rs.length) (h9 : rs.length ≤ 17592186044415) (h8 : ∀ r ∈ rs, r.xs.length ≤ 17592186044415) (hb : ¬ (w < 1 ∨ w > 64)) (hE : rowsC (pw p m) w (xss rs) ≠ 0) :
  Pure Tryz.prog 22 #[.agg #[.int .i64 p, .int .i64 m, .slice A mod.length c, .int .i64 w, .slice Aa n ca]] [ro A (ints mod), ro Aa (hdrs rs), rowsR rs] (isV (.int .i64 (rowsC (pw p m) w (xss rs)))) := by
 have hch := chkF_ok hF.out
 refine pure_of (args := [.agg #[.int .i64 p, .int .i64 m, .slice A mod.length c, .int .i64 w, .slice Aa n ca]]) 26 Tryz.func22 rfl rfl rfl ref_CCheckE_ent ⟨id, id, id, trivial⟩ (fun w0 => ?_)
 refine tS ?_
 refine tR fun _ _ _ => ?_
 refine eV (eBox rfl rfl rfl rfl rfl (fun p0 => ?_))
 refine pV ?_
 refine tS ?_
 refine tR fun _ _ _ => ?_
 refine sV (rFld rfl rfl) ?_
 refine sV (rLdSF rfl rfl) ?_
 refine eV (eCallV rfl rfl rfl (ref_fldCheck _ _ _ _ _ hl9) ⟨rfl, trivial⟩ ?_)
 refine pV ?_
 refine tS ?_
 refine tS ?_
 refine tR fun _ _ _ => ?_
 iterate 2 refine pV ?_
 refine tC rfl (fun h2 => ?_) (fun h2 => ?_)
 ·try simp only [zbA] at h2
  omega --done
 ·try simp only [zbA] at h2
  refine tK ?_
  refine tS ?_
  refine tS ?_
  refine tR fun _ _ _ => ?_
  refine sV (rFld rfl rfl) ?_
  refine sV (rLdF rfl rfl rfl) ?_
  iterate 2 refine pV ?_
  refine stg rfl rfl rfl rfl rfl (fun hb => by (have hq := hb; try simp only [zbA] at hq); exact rFld rfl rfl) ?_
  refine stg rfl rfl rfl rfl rfl (fun hb => by (have hq := hb; try simp only [zbA] at hq); exact rLdF rfl (evg rfl hb) rfl) ?_
  refine stg rfl rfl rfl rfl rfl (fun hb => by (have hq := hb; try simp only [zbA] at hq); exact rGtr rfl (evg rfl hb) rfl) ?_
  refine sV (rOrB rfl rfl rfl rfl) ?_
  refine tC rfl (fun h4 => ?_) (fun h4 => ?_)
  ·try simp only [zbA] at h4
   omega --done
  ·try simp only [zbA] at h4
   refine tK ?_
   refine tS ?_
   refine tR fun _ _ _ => ?_
   refine sV (rFld rfl rfl) ?_
   refine sV (rLdSF rfl rfl) ?_
   refine sV (rFld rfl rfl) ?_
   refine sV (rLdF rfl rfl rfl) ?_
   refine sV (rFld rfl rfl) ?_
   refine sV (rLdF rfl rfl rfl) ?_
   refine sV (rBuild rfl rfl) ?_
   refine eV (eCallV rfl rfl rfl (ref_SCheckE _ _ _ _ _ hl9 w Aa _ ca rs hn h9 h8 hE) ⟨rfl, rfl, trivial⟩ ?_)
   refine pV ?_
   exact tr_ret ⟨trivial, _, _, rfl, ⟨rfl, rfl⟩, CSub.nil _, trivial⟩
theorem ref_CCheckF_ent : Enters Tryz.prog 22 := enters_of Tryz.func22 (by kernel_rfl) (by kernel_rfl)
theorem ref_CCheckF (p m : Int) (A : Option Addr) (c : Nat) (mod : List Int) (hl9 : mod.length ≤ 17592186044415) [hF : IsF p m mod] (w : Int) (Aa : Option Addr) (n ca : Nat) (rs : List RowM) (hn : n = rs.length) (h9 : rs.length ≤ 17592186044415) (h8 : ∀ r ∈ rs, r.xs.length ≤ 17592186044415) (hb : ¬ (w < 1 ∨ w > 64)) (hE : rowsC (pw p m) w (xss rs) = 0) (hf : ¬ formP p m mod w.toNat rs) :
  Pure Tryz.prog 22 #[.agg #[.int .i64 p, .int .i64 m, .slice A mod.length c, .int .i64 w, .slice Aa n ca]] [ro A (ints mod), ro Aa (hdrs rs), rowsR rs] (isV (.int .i64 5)) := by
 have hch := chkF_ok hF.out
 refine pure_of (args := [.agg #[.int .i64 p, .int .i64 m, .slice A mod.length c, .int .i64 w, .slice Aa n ca]]) 26 Tryz.func22 rfl rfl rfl ref_CCheckF_ent ⟨id, id, id, trivial⟩ (fun w0 => ?_)
 refine tS ?_
 refine tR fun _ _ _ => ?_
 refine eV (eBox rfl rfl rfl rfl rfl (fun p0 => ?_))
 refine pV ?_
 refine tS ?_
 refine tR fun _ _ _ => ?_
 refine sV (rFld rfl rfl) ?_
 refine sV (rLdSF rfl rfl) ?_
 refine eV (eCallV rfl rfl rfl (ref_fldCheck _ _ _ _ _ hl9) ⟨rfl, trivial⟩ ?_)
 refine pV ?_
 refine tS ?_
 refine tS ?_
 refine tR fun _ _ _ => ?_
 iterate 2 refine pV ?_
 refine tC rfl (fun h2 => ?_) (fun h2 => ?_)
 ·try simp only [zbA] at h2
  omega --done
 ·try simp only [zbA] at h2
  refine tK ?_
  refine tS ?_
  refine tS ?_
  refine tR fun _ _ _ => ?_
  refine sV (rFld rfl rfl) ?_
  refine sV (rLdF rfl rfl rfl) ?_
  iterate 2 refine pV ?_
  refine stg rfl rfl rfl rfl rfl (fun hb => by (have hq := hb; try simp only [zbA] at hq); exact rFld rfl rfl) ?_
  refine stg rfl rfl rfl rfl rfl (fun hb => by (have hq := hb; try simp only [zbA] at hq); exact rLdF rfl (evg rfl hb) rfl) ?_
  refine stg rfl rfl rfl rfl rfl (fun hb => by (have hq := hb; try simp only [zbA] at hq); exact rGtr rfl (evg rfl hb) rfl) ?_
  refine sV (rOrB rfl rfl rfl rfl) ?_
  refine tC rfl (fun h4 => ?_) (fun h4 => ?_)
  ·try simp only [zbA] at h4
   omega --done
  ·try simp only [zbA] at h4
   refine tK ?_
   refine tS ?_
   refine tR fun _ _ _ => ?_
   refine sV (rFld rfl rfl) ?_
   refine sV (rLdSF rfl rfl) ?_
   refine sV (rFld rfl rfl) ?_
   refine sV (rLdF rfl rfl rfl) ?_
   refine sV (rFld rfl rfl) ?_
   refine sV (rLdF rfl rfl rfl) ?_
   refine sV (rBuild rfl rfl) ?_
   refine eV (eCallV rfl rfl rfl (ref_SCheckF _ _ _ _ _ hl9 w Aa _ ca rs hn h9 h8 hE hf) ⟨rfl, rfl, trivial⟩ ?_)
   refine pV ?_
   exact tr_ret ⟨trivial, _, _, rfl, ⟨rfl, rfl⟩, CSub.nil _, trivial⟩
theorem ref_CCheckG_ent : Enters Tryz.prog 22 := enters_of Tryz.func22 (by kernel_rfl) (by kernel_rfl)
theorem ref_CCheckG (p m : Int) (A : Option Addr) (c : Nat) (mod : List Int) (hl9 : mod.length ≤ 17592186044415) [hF : IsF p m mod] (w : Int) (Aa : Option Addr) (n ca : Nat) (rs : List RowM) (hn : n = rs.length) (h9 : rs.length ≤ 17592186044415) (h8 : ∀ r ∈ rs, r.xs.length ≤ 17592186044415) (hb : ¬ (w < 1 ∨ w > 64)) (hE : rowsC (pw p m) w (xss rs) = 0) (hf : formP p m mod w.toNat rs) :
  Pure Tryz.prog 22 #[.agg #[.int .i64 p, .int .i64 m, .slice A mod.length c, .int .i64 w, .slice Aa n ca]] [ro A (ints mod), ro Aa (hdrs rs), rowsR rs] (isV (.int .i64 0)) := by
 have hch := chkF_ok hF.out
 refine pure_of (args := [.agg #[.int .i64 p, .int .i64 m, .slice A mod.length c, .int .i64 w, .slice Aa n ca]]) 26 Tryz.func22 rfl rfl rfl ref_CCheckG_ent ⟨id, id, id, trivial⟩ (fun w0 => ?_)
 refine tS ?_
 refine tR fun _ _ _ => ?_
 refine eV (eBox rfl rfl rfl rfl rfl (fun p0 => ?_))
 refine pV ?_
 refine tS ?_
 refine tR fun _ _ _ => ?_
 refine sV (rFld rfl rfl) ?_
 refine sV (rLdSF rfl rfl) ?_
 refine eV (eCallV rfl rfl rfl (ref_fldCheck _ _ _ _ _ hl9) ⟨rfl, trivial⟩ ?_)
 refine pV ?_
 refine tS ?_
 refine tS ?_
 refine tR fun _ _ _ => ?_
 iterate 2 refine pV ?_
 refine tC rfl (fun h2 => ?_) (fun h2 => ?_)
 ·try simp only [zbA] at h2
  omega --done
 ·try simp only [zbA] at h2
  refine tK ?_
  refine tS ?_
  refine tS ?_
  refine tR fun _ _ _ => ?_
  refine sV (rFld rfl rfl) ?_
  refine sV (rLdF rfl rfl rfl) ?_
  iterate 2 refine pV ?_
  refine stg rfl rfl rfl rfl rfl (fun hb => by (have hq := hb; try simp only [zbA] at hq); exact rFld rfl rfl) ?_
  refine stg rfl rfl rfl rfl rfl (fun hb => by (have hq := hb; try simp only [zbA] at hq); exact rLdF rfl (evg rfl hb) rfl) ?_
  refine stg rfl rfl rfl rfl rfl (fun hb => by (have hq := hb; try simp only [zbA] at hq); exact rGtr rfl (evg rfl hb) rfl) ?_
  refine sV (rOrB rfl rfl rfl rfl) ?_
  refine tC rfl (fun h4 => ?_) (fun h4 => ?_)
  ·try simp only [zbA] at h4
   omega --done
  ·try simp only [zbA] at h4
   refine tK ?_
   refine tS ?_
   refine tR fun _ _ _ => ?_
   refine sV (rFld rfl rfl) ?_
   refine sV (rLdSF rfl rfl) ?_
   refine sV (rFld rfl rfl) ?_
   refine sV (rLdF rfl rfl rfl) ?_
   refine sV (rFld rfl rfl) ?_
   refine sV (rLdF rfl rfl rfl) ?_
   refine sV (rBuild rfl rfl) ?_
   refine eV (eCallV rfl rfl rfl (ref_SCheckG _ _ _ _ _ hl9 w Aa _ ca rs hn h9 h8 hE hf) ⟨rfl, rfl, trivial⟩ ?_)
   refine pV ?_
   exact tr_ret ⟨trivial, _, _, rfl, ⟨rfl, rfl⟩, CSub.nil _, trivial⟩
theorem ref_CCheck (p m : Int) (A : Option Addr) (c : Nat) (mod : List Int) (hl9 : mod.length ≤ 17592186044415) (w : Int) (Aa : Option Addr) (n ca : Nat) (rs : List RowM) (hn : n = rs.length) (h9 : rs.length ≤ 17592186044415) (h8 : ∀ r ∈ rs, r.xs.length ≤ 17592186044415) : Pure Tryz.prog 22 #[.agg #[.int .i64 p, .int .i64 m, .slice A mod.length c, .int .i64 w, .slice Aa n ca]] [ro A (ints mod), ro Aa (hdrs rs), rowsR rs] (isV (.int .i64 (codC p m mod w rs))) := by
 by_cases hF : FldR p m mod
 ·haveI : IsF p m mod := ⟨hF⟩
  by_cases hb : w < 1 ∨ w > 64
  ·rw [codC_ln hb]; exact ref_CCheckL p m A c mod hl9 w Aa n ca rs hn h9 h8 hb
  ·by_cases hE : rowsC (pw p m) w (xss rs) = 0
   ·by_cases hf : formP p m mod w.toNat rs
    ·rw [codC_ok hb hE hf]; exact ref_CCheckG p m A c mod hl9 w Aa n ca rs hn h9 h8 hb hE hf
    ·rw [codC_fm hb hE hf]; exact ref_CCheckF p m A c mod hl9 w Aa n ca rs hn h9 h8 hb hE hf
   ·rw [codC_rw hb hE]; exact ref_CCheckE p m A c mod hl9 w Aa n ca rs hn h9 h8 hb hE
 ·rw [codC_no w rs hF]; exact ref_CCheckNo p m A c mod hl9 hF w Aa n ca rs hn h9 h8
end Go.Proofs.YtfdjdokdabmmdaaGreat

set_option maxRecDepth 100000
namespace Go.Proofs.YtfdjdokdabmmdaaGreat
open Go.RowKit
end Go.Proofs.YtfdjdokdabmmdaaGreat

set_option maxRecDepth 100000
namespace Go.Proofs.YtfdjdokdabmmdaaGreat
open Go.RowKit
theorem ref_MFew_ent : Enters Tryz.prog 50 := enters_of Tryz.func50 (by kernel_rfl) (by kernel_rfl)
theorem ref_MFew (Aa : Option Addr) (n ca : Nat) (rs : List RowM) (hn : n = rs.length) (h9 : rs.length ≤ 17592186044415) (h8 : ∀ r ∈ rs, r.xs.length ≤ 17592186044415) :
  Pure Tryz.prog 50 #[.agg #[.int .i64 0, .slice Aa n ca], .int .i64 4200] [ro Aa (hdrs rs), rowsR rs] (val (fun v => ∃ b : Bool, v = .bool b ∧ (b = true → ∀ r ∈ rs, r.xs.length ≤ 4200))) := by
 refine pure_of (args := [.agg #[.int .i64 0, .slice Aa n ca], .int .i64 4200]) 45 Tryz.func50 rfl rfl rfl ref_MFew_ent ⟨id, id, trivial⟩ (fun w0 => ?_)
 refine tS ?_
 refine tR fun _ _ _ => ?_
 refine eV (eBox rfl rfl rfl rfl rfl (fun p0 => ?_))
 refine pV ?_
 refine tS ?_
 refine tS ?_
 refine tR fun _ _ _ => ?_
 refine sV (rFld rfl rfl) ?_
 refine sV (rLdF rfl rfl rfl) ?_
 iterate 2 refine pV ?_
 refine stg rfl rfl rfl rfl rfl (fun hb => by (have hq := hb; try simp only [zbA] at hq); exact rFld rfl rfl) ?_
 refine stg rfl rfl rfl rfl rfl (fun hb => by (have hq := hb; try simp only [zbA] at hq); exact rLdF rfl (evg rfl hb) rfl) ?_
 refine stg rfl rfl rfl rfl rfl (fun hb => by (have hq := hb; try simp only [zbA] at hq); exact rLen rfl (evg rfl hb)) ?_
 refine stg rfl rfl rfl rfl rfl (fun hb => by (have hq := hb; try simp only [zbA] at hq); exact rMove rfl rfl) ?_
 refine stg rfl rfl rfl rfl rfl (fun hb => by (have hq := hb; try simp only [zbA] at hq); exact rGtr rfl (evg rfl hb) (evg rfl hb)) ?_
 refine sV (rOrB rfl rfl rfl rfl) ?_
 refine tC rfl (fun h1 => ?_) (fun h1 => ?_)
 ·try simp only [zbA] at h1
  skip
  refine tS ?_
  refine tR fun _ _ _ => ?_
  refine pV ?_
  exact tr_ret ⟨trivial, _, _, rfl, ⟨rfl, false, rfl, fun h => by cases h⟩, CSub.nil _, trivial⟩
 ·try simp only [zbA] at h1
  refine tK ?_
  refine tS ?_
  refine tR fun _ _ _ => ?_
  refine pV ?_
  refine sV (rFld rfl rfl) ?_
  refine sV (rLdF rfl rfl rfl) ?_
  refine sV (rLen rfl rfl) ?_
  refine sV (rSub rfl rfl rfl (by omega) (by omega)) ?_
  refine pV ?_
  refine tS ?_
  refine tS ?_
  refine tR fun _ _ _ => ?_
  refine pV ?_
  refine tB ?_
  refine tr_loop2 (fun (k : Int) (lf : Int) => [(5, .int .i64 lf), (6, .int .i64 k), (2, .pointer (some p0))]) (fun (k : Int) (lf : Int) => [blk p0 67 [.int .i64 0, .slice Aa n ca], ro Aa (hdrs rs), rowsR rs]) (fun (k : Int) (lf : Int) => (0 ≤ k ∧ k ≤ n) ∧ (0 ≤ lf ∧ lf ≤ 4200) ∧ ∀ j : Nat, (j : Int) < k → (rs.getD j rowD).xs.length ≤ 4200) (fun (k : Int) (lf : Int) => (n - k).toNat) (0) (4200 - n) ⟨rfl, rfl, rfl, trivial⟩ (by first | exact cs _ _ | exact CSub.refl _) (⟨⟨by omega, by omega⟩, ⟨by omega, by omega⟩, fun j hj => by omega⟩) (fun k lf hI => ?_)
  obtain ⟨⟨hk0, hk1⟩, ⟨hf0, hf1⟩, hall⟩ := hI
  refine tS ?_
  refine tS ?_
  refine tR fun _ _ _ => ?_
  refine pV ?_
  refine sV (rFld rfl rfl) ?_
  refine sV (rLdF rfl rfl rfl) ?_
  refine sV (rLen rfl rfl) ?_
  refine pV ?_
  refine tC rfl (fun h5 => ?_) (fun h5 => ?_)
  ·try simp only [zbA] at h5
   refine tK ?_
   refine tS ?_
   refine tB ?_
   refine tS ?_
   refine tS ?_
   haveI : InB k.toNat rs.length := ⟨by omega⟩
   have hk8 := h8 _ (getD_mem (show k.toNat < rs.length by omega) rowD)
   refine tR fun _ _ _ => ?_
   refine sV (rFld rfl rfl) ?_
   refine sV (rLdF rfl rfl rfl) ?_
   refine pV ?_
   refine sV (rIdxR rfl rfl rfl (by omega) (by omega) (by omega)) ?_
   refine sV (rLdR rfl rfl (by omega)) ?_
   refine sV (rLen rfl rfl) ?_
   iterate 2 refine pV ?_
   refine tC rfl (fun h7 => ?_) (fun h7 => ?_)
   ·try simp only [zbA] at h7
    refine tS ?_
    refine tR fun _ _ _ => ?_
    refine pV ?_
    exact tr_ret ⟨trivial, _, _, rfl, ⟨rfl, false, rfl, fun h => by cases h⟩, CSub.nil _, trivial⟩
   ·try simp only [zbA] at h7
    refine tK ?_
    refine tR fun _ _ _ => ?_
    refine pV ?_
    refine sV (rFld rfl rfl) ?_
    refine sV (rLdF rfl rfl rfl) ?_
    refine pV ?_
    refine sV (rIdxR rfl rfl rfl (by omega) (by omega) (by omega)) ?_
    refine sV (rLdR rfl rfl (by omega)) ?_
    refine sV (rLen rfl rfl) ?_
    refine sV (rSub rfl rfl rfl (by omega) (by omega)) ?_
    refine pV ?_
    refine tR fun _ _ _ => ?_
    refine pV ?_
    refine sV (rAdd rfl rfl rfl (by omega) (by omega)) ?_
    refine pV ?_
    refine ⟨k + 1, lf - (rs.getD k.toNat rowD).xs.length, ⟨rfl, rfl, rfl, trivial⟩, by first | exact cs _ _ | exact CSub.refl _, ?_⟩
    refine ⟨⟨⟨by omega, by omega⟩, ⟨by omega, by omega⟩, fun j hj => ?_⟩, by omega⟩
    by_cases he : (j : Int) = k
    ·have : j = k.toNat := by omega
     subst this; omega
    ·exact hall j (by omega)
  ·try simp only [zbA] at h5
   refine tE ?_
   refine tS ?_
   refine tR fun _ _ _ => ?_
   refine pV ?_
   exact tr_ret ⟨trivial, _, _, rfl, ⟨rfl, true, rfl, fun _ => xss_all.1 (xss_get (φ := fun r => r.length ≤ 4200) fun j hj => hall j (by omega))⟩, CSub.nil _, trivial⟩
theorem ref_CFew_ent : Enters Tryz.prog 21 := enters_of Tryz.func21 (by kernel_rfl) (by kernel_rfl)
theorem ref_CFew (p m : Int) (A : Option Addr) (c : Nat) (mod : List Int) (hl9 : mod.length ≤ 17592186044415) (w : Int) (Aa : Option Addr) (n ca : Nat) (rs : List RowM) (hn : n = rs.length) (h9 : rs.length ≤ 17592186044415) (h8 : ∀ r ∈ rs, r.xs.length ≤ 17592186044415) :
  Pure Tryz.prog 21 #[.agg #[.int .i64 p, .int .i64 m, .slice A mod.length c, .int .i64 w, .slice Aa n ca], .int .i64 4200] [ro Aa (hdrs rs), rowsR rs] (val (fun v => ∃ b : Bool, v = .bool b ∧ (b = true → ∀ r ∈ rs, r.xs.length ≤ 4200))) := by
 refine pure_of (args := [.agg #[.int .i64 p, .int .i64 m, .slice A mod.length c, .int .i64 w, .slice Aa n ca], .int .i64 4200]) 10 Tryz.func21 rfl rfl rfl ref_CFew_ent ⟨id, id, trivial⟩ (fun w0 => ?_)
 refine tS ?_
 refine tR fun _ _ _ => ?_
 refine eV (eBox rfl rfl rfl rfl rfl (fun p0 => ?_))
 refine pV ?_
 refine tS ?_
 refine tR fun _ _ _ => ?_
 refine sV (rFld rfl rfl) ?_
 refine sV (rLdF rfl rfl rfl) ?_
 refine sV (rBuild rfl rfl) ?_
 refine pV ?_
 refine eV (eCall0 rfl rfl rfl (ref_MFew Aa n ca rs hn h9 h8) ⟨rfl, rfl, trivial⟩ ?_)
 rintro _ ⟨b, rfl, hb⟩
 refine pV ?_
 exact tr_ret ⟨trivial, _, _, rfl, ⟨rfl, b, rfl, hb⟩, CSub.nil _, trivial⟩
end Go.Proofs.YtfdjdokdabmmdaaGreat

set_option maxRecDepth 100000
namespace Go.Proofs.YtfdjdokdabmmdaaGreat
open Go.RowKit
theorem ref_Combine_ent : Enters Tryz.prog 49 := enters_of Tryz.func49 (by kernel_rfl) (by kernel_rfl)
theorem ref_Combine (p m : Int) (A : Option Addr) (c : Nat) (mod : List Int) [hF : IsF p m mod] (X : Option Addr) (nx cx : Nat) (x : List Int) (hnx : nx = x.length) (w : Int) (hw0 : 0 ≤ w) (hw9 : w ≤ 1000) (Aa : Option Addr) (n ca : Nat) (rs : List RowM) (hn : n = rs.length) (hx : x.length = rs.length) (h9 : rs.length ≤ 1000000) (hgd : Gd (pw p m) w.toNat rs) :
  Pure Tryz.prog 49 #[.agg #[.int .i64 p, .int .i64 m, .slice A mod.length c], .slice X nx cx, .slice Aa n ca, .int .i64 w] [ro A (ints mod), ro X (ints x), ro Aa (hdrs rs), rowsR rs] (one (fun v ch => ∃ B cb o, v = .slice B o.length cb ∧ ch = ow B 3 cb (ints o) ∧ (o.length : Int) = w ∧ AllIn (pw p m) o ∧ (rw' o : Vc (El p m mod)) = Vc.cmb (fun i => el (x.getD i 0)) (vsR rs))) := by
 have hq2 := hF.q2
 refine pure_of (args := [.agg #[.int .i64 p, .int .i64 m, .slice A mod.length c], .slice X nx cx, .slice Aa n ca, .int .i64 w]) 42 Tryz.func49 rfl rfl rfl ref_Combine_ent ⟨id, id, id, id, trivial⟩ (fun w0 => ?_)
 refine tS ?_
 refine tR fun _ _ _ => ?_
 refine eV (eBox rfl rfl rfl rfl rfl (fun p0 => ?_))
 refine pV ?_
 refine tS ?_
 refine tR fun _ _ _ => ?_
 refine pV ?_
 refine eV (eMakeI rfl rfl rfl rfl rfl (by omega) (by omega) (by omega) (fun A1 => ?_))
 refine pV ?_
 refine tS ?_
 refine tS ?_
 refine tR fun _ _ _ => ?_
 refine pV ?_
 refine tB ?_
 refine tr_loop5 (fun (k : Int) (B : Option Addr) (cb : Nat) (no : Nat) (o : List Int) => [(9, .slice B no cb), (10, .int .i64 k), (1, .slice X nx cx), (2, .slice Aa n ca), (4, .pointer (some p0)), (8, .slice none 0 0)]) (fun (k : Int) (B : Option Addr) (cb : Nat) (no : Nat) (o : List Int) => [ow B 3 cb (ints o), blk p0 24 [.int .i64 p, .int .i64 m, .slice A mod.length c], ro A (ints mod), ro X (ints x), ro Aa (hdrs rs), rowsR rs]) (fun (k : Int) (B : Option Addr) (cb : Nat) (no : Nat) (o : List Int) => (0 ≤ k ∧ k ≤ n) ∧ no = o.length ∧ ((o.length : Int) = w ∧ AllIn (pw p m) o) ∧ (rw' o : Vc (El p m mod)) = Vc.cmb (Vc.upC (fun i => (el (x.getD i 0) : El p m mod)) k.toNat) (vsR rs)) (fun (k : Int) (B : Option Addr) (cb : Nat) (no : Nat) (o : List Int) => (n - k).toNat) (0) (A1) (w.toNat) (w.toNat) (List.replicate w.toNat 0) ⟨rfl, rfl, rfl, rfl, rfl, rfl, trivial⟩ (by first | exact cs _ _ | exact CSub.refl _) (⟨⟨by omega, by omega⟩, by simp, ⟨by simp; omega, allIn_rep (by omega) _⟩, by rw [Int.toNat_zero, Vc.cmb_up_zero]; exact Vc.ext fun j => by rw [rw_at, rep_get, el_zero]; rfl⟩) (fun k B cb no o hI => ?_)
 obtain ⟨⟨hk0, hk1⟩, hno, ⟨hol, hoi⟩, hoe⟩ := hI
 refine tS ?_
 refine tS ?_
 refine tR fun _ _ _ => ?_
 iterate 2 refine pV ?_
 refine sV (rLen rfl rfl) ?_
 iterate 2 refine pV ?_
 refine stg rfl rfl rfl rfl rfl (fun hb => by (have hq := hb; try simp only [zbA] at hq); exact rMove rfl rfl) ?_
 refine stg rfl rfl rfl rfl rfl (fun hb => by (have hq := hb; try simp only [zbA] at hq); exact rMove rfl rfl) ?_
 refine stg rfl rfl rfl rfl rfl (fun hb => by (have hq := hb; try simp only [zbA] at hq); exact rLen rfl (evg rfl hb)) ?_
 refine stg rfl rfl rfl rfl rfl (fun hb => by (have hq := hb; try simp only [zbA] at hq); exact rLss rfl (evg rfl hb) (evg rfl hb)) ?_
 refine sV (rAndB rfl rfl rfl rfl) ?_
 refine tC rfl (fun h3 => ?_) (fun h3 => ?_)
 ·try simp only [zbA] at h3
  refine tK ?_
  refine tS ?_
  refine tB ?_
  refine tS ?_
  haveI : InB k.toNat rs.length := ⟨by omega⟩
  have hgk := hgd.get (show k.toNat < rs.length by omega)
  have hgk1 := hgk.1
  refine tR fun _ _ _ => ?_
  iterate 2 refine pV ?_
  refine sV (rIdxI rfl rfl rfl (by omega) (by omega) (by omega)) ?_
  refine sV (rLdI rfl rfl (by omega)) ?_
  refine pV ?_
  refine tC rfl (fun h5 => ?_) (fun h5 => ?_)
  ·try simp only [zbA] at h5
   refine tr_draw [0, 1, 2, 3, 4, 5, 6, 7, 8, 9, 10, 11] [] mixed (by kernel_rfl) fun _ _ _ => ?_
   refine sV (rLdS rfl rfl rfl) ?_
   iterate 3 refine pV ?_
   refine sV (rIdxI rfl rfl rfl (by omega) (by omega) (by omega)) ?_
   refine sV (rLdI rfl rfl (by omega)) ?_
   iterate 2 refine pV ?_
   refine sV (rIdxR rfl rfl rfl (by omega) (by omega) (by omega)) ?_
   refine sV (rLdR rfl rfl (by omega)) ?_
   refine eV (eCall1 rfl rfl rfl (ref_AddTo _ _ _ _ _ B no cb o hno (by omega) _ _ _ _ (rs.getD k.toNat rowD).xs rfl (by omega) hoi) ⟨rfl, rfl, rfl, rfl, trivial⟩ ?_)
   rintro _ _ ⟨B6, rfl, rfl⟩
   refine pV ?_
   refine tR fun _ _ _ => ?_
   refine pV ?_
   refine sV (rAdd rfl rfl rfl (by omega) (by omega)) ?_
   refine pV ?_
   refine ⟨k + 1, B6, no, no, addR (el (x.getD k.toNat 0) : El p m mod) o (rs.getD k.toNat rowD).xs, ⟨rfl, rfl, rfl, rfl, rfl, rfl, trivial⟩, by first | exact cs _ _ | exact CSub.refl _, ?_⟩
   refine ⟨⟨⟨by omega, by omega⟩, by simpa using hno, ⟨by simpa using hol, addR_in _ _ _⟩, ?_⟩, by omega⟩
   rw [show (k + 1).toNat = k.toNat + 1 by omega, Vc.cmb_up_succ _ (by rw [vsR_length]; omega), rw_addR _ _ _ (by omega), hoe, vsR_get]
  ·try simp only [zbA] at h5
   refine tK ?_
   refine tR fun _ _ _ => ?_
   refine pV ?_
   refine sV (rAdd rfl rfl rfl (by omega) (by omega)) ?_
   refine pV ?_
   refine ⟨k + 1, B, cb, no, o, ⟨rfl, rfl, rfl, rfl, rfl, rfl, trivial⟩, by first | exact cs _ _ | exact CSub.refl _, ?_⟩
   have hz : x.getD k.toNat 0 = 0 := by omega
   refine ⟨⟨⟨by omega, by omega⟩, hno, ⟨hol, hoi⟩, ?_⟩, by omega⟩
   rw [show (k + 1).toNat = k.toNat + 1 by omega, Vc.cmb_up_succ _ (by rw [vsR_length]; omega), hoe, hz, el_zero, Vc.zero_sc, Vc.add_zero]
 ·try simp only [zbA] at h3
  refine tE ?_
  refine tS ?_
  refine tR fun _ _ _ => ?_
  iterate 2 refine pV ?_
  have hkn : k.toNat = rs.length := by omega
  rw [Vc.cmb_up_all _ (by rw [vsR_length]; omega)] at hoe
  subst hno
  exact tr_ret ⟨trivial, _, _, rfl, ⟨_, rfl, B, cb, o, rfl, rfl, hol, hoi, hoe⟩, cs _ _, trivial, trivial⟩
theorem Pure.anyG {P : Program} {f : FuncId} {args : Array Value} {G G' : List Chunk} {R : Value → List Chunk → Prop} (h : Pure P f args G R) (hG : ∀ w, (∀ c ∈ G', c.sat w) → ∀ c ∈ G, c.sat w) : Pure P f args G' R := ⟨h.ent, fun w hw => h.run w (hG w hw)⟩
end Go.Proofs.YtfdjdokdabmmdaaGreat

set_option maxRecDepth 100000
namespace Go.Proofs.YtfdjdokdabmmdaaGreat
open Go.RowKit
end Go.Proofs.YtfdjdokdabmmdaaGreat

namespace Go.Proofs.YtfdjdokdabmmdaaGreat
open Rg
namespace Vc
variable {K : Type} [Fd K]
def pk (S : List Nat) (u : Vc K) : Vc K := fun j => if j < S.length then u (S.getD j 0) else 0
theorem pk_at {S : List Nat} (u : Vc K) {j : Nat} (h : j < S.length) : pk S u j = u (S.getD j 0) := if_pos h
theorem pk_out {S : List Nat} (u : Vc K) {j : Nat} (h : S.length ≤ j) : pk S u j = 0 := if_neg (by omega)
theorem pk_zero (S : List Nat) : pk S (0 : Vc K) = 0 := ext fun j => by
 unfold pk; split <;> rfl
theorem pk_add (S : List Nat) (u v : Vc K) : pk S (u + v) = pk S u + pk S v := ext fun j => by
 rw [add_at]; unfold pk
 split
 ·rfl
 ·rw [Rg.add_zero]
theorem pk_sc (S : List Nat) (c : K) (u : Vc K) : pk S (sc c u) = sc c (pk S u) := ext fun j => by
 rw [sc_at]; unfold pk
 split
 ·rfl
 ·rw [mul_zero]
theorem pk_cmb (S : List Nat) (c : Nat → K) : ∀ R : List (Vc K), cmb c (R.map (pk S)) = pk S (cmb c R)
 | [] => (pk_zero S).symm
 | r :: R => by rw [List.map_cons, cmb, cmb, pk_add, pk_sc, pk_cmb S _ R]
theorem span_pk {S : List Nat} {R : List (Vc K)} {v : Vc K} : SpL (R.map (pk S)) v ↔ ∃ u, SpL R u ∧ pk S u = v := by
 constructor
 ·intro h
  obtain ⟨c, rfl⟩ := sp_cmb h
  exact ⟨_, cmb_sp c R, (pk_cmb S c R).symm⟩
 ·rintro ⟨u, h, rfl⟩
  obtain ⟨c, rfl⟩ := sp_cmb h
  rw [← pk_cmb]
  exact cmb_sp c _
def Ind (R : List (Vc K)) (S : List Nat) : Prop := ∀ j, j < S.length → ∃ u, SpL R u ∧ ∀ k, k < S.length → u (S.getD k 0) = if k = j then 1 else 0
theorem rise_ge {ps : List Nat} (h : ∀ i k, i < k → k < ps.length → ps.getD i 0 < ps.getD k 0) : ∀ i, i < ps.length → i ≤ ps.getD i 0
 | 0, _ => Nat.zero_le _
 | i + 1, hi => by
  have h1 := rise_ge h i (by omega)
  have h2 := h i (i + 1) (by omega) hi
  omega
theorem rise_le {ps : List Nat} (h : ∀ i k, i < k → k < ps.length → ps.getD i 0 < ps.getD k 0) {n : Nat} (hn : ∀ i, i < ps.length → ps.getD i 0 < n) : ∀ d i, i + d + 1 = ps.length → ps.getD i 0 + d < n
 | 0, i, hi => hn i (by omega)
 | d + 1, i, hi => by
  have h1 := rise_le h hn d (i + 1) (by omega)
  have h2 := h i (i + 1) (by omega) (by omega)
  omega
theorem ind_iff {R E : List (Vc K)} {S ps : List Nat} (h : Rr S.length E ps) (hs : ∀ u, SpL E u ↔ SpL (R.map (pk S)) u) : ps.length = S.length ↔ Ind R S := by
 constructor
 ·intro hl j hj
  have hid : ∀ i, i < ps.length → ps.getD i 0 = i := fun i hi => by
   have h1 := rise_ge h.rise i hi
   have h2 := rise_le h.rise h.lt (ps.length - 1 - i) i (by omega)
   omega
  have hj' : j < ps.length := by omega
  have hE : SpL E (E.getD j 0) := .of (getD_eq_mem (by rw [← h.len]; exact hj') 0)
  obtain ⟨u, hu, he⟩ := span_pk.1 ((hs _).1 hE)
  refine ⟨u, hu, fun k hk => ?_⟩
  rw [← pk_at u hk, he]
  have hk' : k < ps.length := by omega
  by_cases e : k = j
  ·subst e
   have := h.one k hk'
   rw [hid k hk'] at this
   rw [if_pos rfl, this]
  ·have := h.off j k hj' hk' (Ne.symm e)
   rw [hid k hk'] at this
   rw [if_neg e, this]
 ·intro hI
  have hmem : ∀ j, j < S.length → j ∈ ps := fun j hj => by
   obtain ⟨u, hu, he⟩ := hI j hj
   refine (h.lead_iff j).1 ⟨pk S u, (hs _).2 (span_pk.2 ⟨u, hu, rfl⟩), ?_, fun i hi => ?_⟩
   ·rw [pk_at u hj, he j hj, if_pos rfl]; exact Fd.one_ne
   ·rw [pk_at u (by omega), he i (by omega), if_neg (by omega)]
  have hall : ∀ j, j < S.length → j < ps.length ∧ ps.getD j 0 = j := by
   intro j
   induction j using Nat.strongRecOn with
   | _ j ih =>
    intro hj
    obtain ⟨i, hi, he⟩ := List.getElem_of_mem (hmem j hj)
    have hg : ps.getD i 0 = j := by rw [List.getD_eq_getElem?_getD, List.getElem?_eq_getElem hi]; exact he
    have h1 := rise_ge h.rise i hi
    by_cases e : i = j
    ·subst e; exact ⟨hi, hg⟩
    ·have := (ih i (by omega) (by omega)).2
     omega
  have h1 : S.length ≤ ps.length := Nat.le_of_not_lt fun hlt => by
   have := (hall ps.length hlt).1
   omega
  have h2 : ps.length ≤ S.length := Nat.le_of_not_lt fun hlt => by
   have a := rise_ge h.rise S.length hlt
   have b := h.lt S.length hlt
   omega
  omega
theorem getD_snocN (l : List Nat) (x j : Nat) : (l ++ [x]).getD j 0 = if j < l.length then l.getD j 0 else if j = l.length then x else 0 := by
 rw [List.getD_eq_getElem?_getD, List.getD_eq_getElem?_getD]
 split
 ·rename_i h; rw [List.getElem?_append_left h]
 ·rename_i h
  split
  ·rename_i h2; subst h2; rw [List.getElem?_append_right (Nat.le_refl _)]; simp
  ·rename_i h2; rw [List.getElem?_eq_none (by simp; omega)]; rfl
theorem getD_mapT (o ps : List Nat) (t k : Nat) (hk : k < t) (ht : t ≤ ps.length) : ((ps.take t).map fun p => o.getD p 0).getD k 0 = o.getD (ps.getD k 0) 0 := by
 rw [List.getD_eq_getElem?_getD, List.getElem?_map, List.getElem?_take, if_pos hk, List.getElem?_eq_getElem (by omega), List.getD_eq_getElem?_getD (l := ps), List.getElem?_eq_getElem (by omega)]
 rfl
theorem greedy {R E : List (Vc K)} {o ps : List Nat} (h : Rr o.length E ps) (hs : ∀ u, SpL E u ↔ SpL (R.map (pk o)) u) {t i : Nat} (hi : i < o.length) (ht : t ≤ ps.length)
  (hlow : ∀ k, k < t → ps.getD k 0 < i) (hup : ∀ k, t ≤ k → k < ps.length → i ≤ ps.getD k 0) :
  Ind R ((ps.take t).map (fun p => o.getD p 0) ++ [o.getD i 0]) ↔ t < ps.length ∧ ps.getD t 0 = i := by
 have hln : ((ps.take t).map (fun p => o.getD p 0)).length = t := by rw [List.length_map, List.length_take]; omega
 have hall : ((ps.take t).map (fun p => o.getD p 0) ++ [o.getD i 0]).length = t + 1 := by rw [List.length_append, hln]; rfl
 have hat : ∀ k, k < t → ((ps.take t).map (fun p => o.getD p 0) ++ [o.getD i 0]).getD k 0 = o.getD (ps.getD k 0) 0 := fun k hk => by
  rw [getD_snocN, hln, if_pos hk, getD_mapT _ _ _ _ hk ht]
 have hlast : ((ps.take t).map (fun p => o.getD p 0) ++ [o.getD i 0]).getD t 0 = o.getD i 0 := by
  rw [getD_snocN, hln, if_neg (by omega), if_pos rfl]
 constructor
 ·intro hI
  obtain ⟨u, hu, he⟩ := hI t (by rw [hall]; omega)
  refine Classical.byContradiction fun hno => ?_
  have hv : SpL E (pk o u) := (hs _).2 (span_pk.2 ⟨u, hu, rfl⟩)
  have hz : pk o u i = 0 := by
   rw [h.eq hv, cmb_at _ 0]
   refine sm_none fun k hk => ?_
   have hk' : k < ps.length := by rw [h.len]; exact hk
   by_cases hkt : k < t
   ·have h1 := he k (by rw [hall]; omega)
    rw [hat k hkt, if_neg (by omega)] at h1
    rw [pk_at u (h.lt k hk'), h1, zero_mul]
   ·have h1 := hup k (by omega) hk'
    have h2 : i ≠ ps.getD k 0 := fun e => by
     by_cases hkk : k = t
     ·subst hkk; exact hno ⟨hk', e.symm⟩
     ·have := hup t (Nat.le_refl _) (by omega)
      have := h.rise t k (by omega) hk'
      omega
    rw [h.low k i hk' (by omega), mul_zero]
  have h1 := he t (by rw [hall]; omega)
  rw [hlast, if_pos rfl, ← pk_at u hi, hz] at h1
  exact Fd.one_ne h1.symm
 ·rintro ⟨h1, h2⟩ j hj
  rw [hall] at hj
  have hj' : j < ps.length := by omega
  have hE : SpL E (E.getD j 0) := .of (getD_eq_mem (by rw [← h.len]; exact hj') 0)
  obtain ⟨u, hu, he⟩ := span_pk.1 ((hs _).1 hE)
  refine ⟨u, hu, fun k hk => ?_⟩
  rw [hall] at hk
  have hk' : k < ps.length := by omega
  have hg : ((ps.take t).map (fun p => o.getD p 0) ++ [o.getD i 0]).getD k 0 = o.getD (ps.getD k 0) 0 := by
   rcases Nat.lt_or_ge k t with hkt | hkt
   ·exact hat k hkt
   ·have : k = t := by omega
    subst this; rw [hlast, h2]
  rw [hg, ← pk_at u (h.lt k hk'), he]
  by_cases e : k = j
  ·subst e; rw [if_pos rfl, h.one k hk']
  ·rw [if_neg e, h.off j k hj' hk' (Ne.symm e)]
theorem ind_piv {R E : List (Vc K)} {o ps : List Nat} (h : Rr o.length E ps) (hs : ∀ u, SpL E u ↔ SpL (R.map (pk o)) u) : Ind R (ps.map fun p => o.getD p 0) := fun j hj => by
 rw [List.length_map] at hj
 have hE : SpL E (E.getD j 0) := .of (getD_eq_mem (by rw [← h.len]; exact hj) 0)
 obtain ⟨u, hu, he⟩ := span_pk.1 ((hs _).1 hE)
 refine ⟨u, hu, fun k hk => ?_⟩
 rw [List.length_map] at hk
 have hg : (ps.map fun p => o.getD p 0).getD k 0 = o.getD (ps.getD k 0) 0 := by
  have := getD_mapT o ps ps.length k hk (Nat.le_refl _)
  rwa [List.take_length] at this
 rw [hg, ← pk_at u (h.lt k hk), he]
 by_cases e : k = j
 ·subst e; rw [if_pos rfl, h.one k hk]
 ·rw [if_neg e, h.off j k hj hk (Ne.symm e)]
theorem pk_dim {n : Nat} {R E : List (Vc K)} {qs o ps : List Nat} (hR : Rr n R qs) (h : Rr o.length E ps) (hs : ∀ u, SpL E u ↔ SpL (R.map (pk o)) u) (ho : ∀ j, j < n → ∃ i, i < o.length ∧ o.getD i 0 = j) : ps.length = R.length := by
 have hd : ¬ Dep (R.map (pk o)) := fun ⟨c, ⟨i, hi, hc⟩, he⟩ => by
  rw [pk_cmb] at he
  have h0 : cmb c R = 0 := ext fun j => by
   rcases Nat.lt_or_ge j n with hj | hj
   ·obtain ⟨i, hi, rfl⟩ := ho j hj
    have := congrFun he i
    rwa [pk_at _ hi] at this
   ·exact hR.supp (cmb_sp c R) hj
  exact hR.indep ⟨c, ⟨i, by simpa using hi, hc⟩, h0⟩
 rw [h.len, h.dim hd hs, List.length_map]
end Vc
end Go.Proofs.YtfdjdokdabmmdaaGreat

namespace Go.Proofs.YtfdjdokdabmmdaaGreat
def ltO (r : Int → Int) (a b : Int) : Prop := r b < r a ∨ (r a = r b ∧ a < b)
theorem ltO.trans {r : Int → Int} {a b c : Int} (h : ltO r a b) (k : ltO r b c) : ltO r a c := by
 unfold ltO at *; omega
theorem ltO.ne {r : Int → Int} {a b : Int} (h : ltO r a b) : a ≠ b := fun e => by
 subst e; unfold ltO at h; omega
theorem ltO.asym {r : Int → Int} {a b : Int} (h : ltO r a b) : ¬ ltO r b a := by
 unfold ltO at *; omega
def gd (xs : List Int) : Nat → Int := fun k => xs.getD k 0
def Srt (r : Int → Int) (g : Nat → Int) (a b : Nat) : Prop := ∀ u v, a ≤ u → u < v → v < b → ltO r (g u) (g v)
def Tie (r : Int → Int) (g : Nat → Int) (a b : Nat) : Prop := ∀ u v, a ≤ u → u < v → v < b → r (g u) = r (g v) → g u < g v
def Frm (g g' : Nat → Int) (a b : Nat) : Prop := (∀ k, k < a ∨ b ≤ k → g' k = g k) ∧ ∀ k, a ≤ k → k < b → ∃ k', a ≤ k' ∧ k' < b ∧ g' k = g k'
theorem Frm.refl (g : Nat → Int) (a b : Nat) : Frm g g a b := ⟨fun _ _ => rfl, fun k h1 h2 => ⟨k, h1, h2, rfl⟩⟩
theorem Frm.trans {g g' g'' : Nat → Int} {a b : Nat} (h : Frm g g' a b) (h' : Frm g' g'' a b) : Frm g g'' a b :=
 ⟨fun k hk => (h'.1 k hk).trans (h.1 k hk), fun k h1 h2 => by
  obtain ⟨k', h3, h4, e⟩ := h'.2 k h1 h2
  obtain ⟨k'', h5, h6, e'⟩ := h.2 k' h3 h4
  exact ⟨k'', h5, h6, e.trans e'⟩⟩
theorem Frm.mono {g g' : Nat → Int} {a b c d : Nat} (h : Frm g g' a b) (h1 : c ≤ a) (h2 : b ≤ d) : Frm g g' c d :=
 ⟨fun k hk => h.1 k (by omega), fun k h3 h4 => by
  by_cases hk : a ≤ k ∧ k < b
  ·obtain ⟨k', h5, h6, e⟩ := h.2 k hk.1 hk.2
   exact ⟨k', by omega, by omega, e⟩
  ·exact ⟨k, h3, h4, h.1 k (by omega)⟩⟩
theorem Srt.tie {r : Int → Int} {g : Nat → Int} {a b : Nat} (h : Srt r g a b) : Tie r g a b := fun u v h1 h2 h3 e => by
 have := h u v h1 h2 h3
 unfold ltO at this; omega
theorem Srt.frm {r : Int → Int} {g g' : Nat → Int} {a b c d : Nat} (h : Srt r g a b) (k : Frm g g' c d) (hd : b ≤ c ∨ d ≤ a) : Srt r g' a b := fun u v h1 h2 h3 => by
 rw [k.1 u (by omega), k.1 v (by omega)]; exact h u v h1 h2 h3
theorem Srt.sub {r : Int → Int} {g : Nat → Int} {a b c d : Nat} (h : Srt r g a b) (h1 : a ≤ c) (h2 : d ≤ b) : Srt r g c d := fun u v h3 h4 h5 => h u v (by omega) h4 (by omega)
theorem Tie.sub {r : Int → Int} {g : Nat → Int} {a b c d : Nat} (h : Tie r g a b) (h1 : a ≤ c) (h2 : d ≤ b) : Tie r g c d := fun u v h3 h4 h5 => h u v (by omega) h4 (by omega)
theorem Tie.frm {r : Int → Int} {g g' : Nat → Int} {a b c d : Nat} (h : Tie r g a b) (k : Frm g g' c d) (hs : Tie r g' c d) (h1 : a ≤ c) (h2 : d ≤ b) : Tie r g' a b := fun u v h3 h4 h5 e => by
 by_cases hu : c ≤ u ∧ u < d
 ·by_cases hv : v < d
  ·exact hs u v hu.1 h4 hv e
  ·obtain ⟨k', h6, h7, e'⟩ := k.2 u hu.1 hu.2
   rw [e', k.1 v (by omega)] at e ⊢
   exact h k' v (by omega) (by omega) h5 e
 ·by_cases hv : c ≤ v ∧ v < d
  ·obtain ⟨k', h6, h7, e'⟩ := k.2 v hv.1 hv.2
   rw [e', k.1 u (by omega)] at e ⊢
   exact h u k' h3 (by omega) (by omega) e
  ·rw [k.1 u (by omega), k.1 v (by omega)] at e ⊢
   exact h u v h3 h4 h5 e
def swp (g : Nat → Int) (i j : Nat) : Nat → Int := fun k => if k = i then g j else if k = j then g i else g k
theorem swp_frm (g : Nat → Int) {i j a b : Nat} (hi : a ≤ i) (hi' : i < b) (hj : a ≤ j) (hj' : j < b) : Frm g (swp g i j) a b :=
 ⟨fun k hk => by unfold swp; rw [if_neg (by omega), if_neg (by omega)], fun k h1 h2 => by
  unfold swp
  split
  ·exact ⟨j, hj, hj', rfl⟩
  ·split
   ·exact ⟨i, hi, hi', rfl⟩
   ·exact ⟨k, h1, h2, rfl⟩⟩
def swL (xs : List Int) (i j : Nat) : List Int := (xs.set i (xs.getD j 0)).set j (xs.getD i 0)
theorem getD_setI (l : List Int) (i j : Nat) (v : Int) : (l.set i v).getD j 0 = if i = j ∧ j < l.length then v else l.getD j 0 := by
 rw [List.getD_eq_getElem?_getD, List.getElem?_set]
 split
 ·rename_i h; subst h
  split
  ·rename_i h; rw [if_pos ⟨rfl, h⟩]; rfl
  ·rename_i h; rw [if_neg (fun e => h e.2), List.getD_eq_getElem?_getD, List.getElem?_eq_none (by omega)]
 ·rename_i h; rw [if_neg (fun e => h e.1), List.getD_eq_getElem?_getD]
theorem gd_swL {xs : List Int} {i j : Nat} (hi : i < xs.length) (hj : j < xs.length) : gd (swL xs i j) = swp (gd xs) i j := funext fun k => by
 show ((xs.set i (xs.getD j 0)).set j (xs.getD i 0)).getD k 0 = if k = i then xs.getD j 0 else if k = j then xs.getD i 0 else xs.getD k 0
 rw [getD_setI, getD_setI, List.length_set]
 by_cases e1 : k = j
 ·subst e1
  rw [if_pos ⟨rfl, hj⟩]
  by_cases e2 : k = i
  ·subst e2; rw [if_pos rfl]
  ·rw [if_neg e2, if_pos rfl]
 ·rw [if_neg (fun e => e1 e.1.symm), if_neg e1]
  by_cases e2 : k = i
  ·subst e2; rw [if_pos ⟨rfl, hi⟩, if_pos rfl]
  ·rw [if_neg (fun e => e2 e.1.symm), if_neg e2]
theorem set_perm0 : ∀ (xs : List Int) (j : Nat) (a : Int), j < xs.length → (xs.getD j 0 :: xs.set j a).Perm (a :: xs)
 | x :: xs, 0, a, _ => by simpa using List.Perm.swap ..
 | x :: xs, j + 1, a, h => by
  have ih := set_perm0 xs j a (by simpa using h)
  rw [List.getD_cons_succ, List.set_cons_succ]
  exact (List.Perm.swap ..).trans ((ih.cons x).trans (List.Perm.swap ..))
theorem swL_perm : ∀ {xs : List Int} {i j : Nat}, i < xs.length → j < xs.length → (swL xs i j).Perm xs
 | x :: xs, 0, 0, _, _ => by simp [swL]
 | x :: xs, 0, j + 1, _, h => by
  have := set_perm0 xs j x (by simpa using h)
  simpa [swL] using this
 | x :: xs, i + 1, 0, h, _ => by
  have := set_perm0 xs i x (by simpa using h)
  simpa [swL] using this
 | x :: xs, i + 1, j + 1, h, k => by
  have := swL_perm (xs := xs) (i := i) (j := j) (by simpa using h) (by simpa using k)
  simpa [swL] using this
structure InsJ (r : Int → Int) (g : Nat → Int) (a b i j : Nat) : Prop where
 oth : ∀ u v, a ≤ u → u < v → v ≤ i → u ≠ j → v ≠ j → ltO r (g u) (g v)
 up : ∀ v, j < v → v ≤ i → ltO r (g j) (g v)
 low : ∀ u, a ≤ u → u < j → r (g u) = r (g j) → g u < g j
 tie : ∀ u v, a ≤ u → u < v → i < v → v < b → r (g u) = r (g v) → g u < g v
theorem InsJ.start {r : Int → Int} {g : Nat → Int} {a b i : Nat} (h : Srt r g a i) (k : Tie r g a b) (hi : i < b) : InsJ r g a b i i where
 oth u v h1 h2 h3 h4 h5 := h u v h1 h2 (by omega)
 up v h1 h2 := by omega
 low u h1 h2 e := k u i h1 h2 hi e
 tie u v h1 h2 h3 h4 e := k u v h1 h2 h4 e
theorem InsJ.step {r : Int → Int} {g : Nat → Int} {a b i j : Nat} (h : InsJ r g a b i j) (ha : a < j) (hji : j ≤ i) (hib : i < b) (hc : r (g (j - 1)) < r (g j)) : InsJ r (swp g j (j - 1)) a b i (j - 1) := by
 have ej : swp g j (j - 1) j = g (j - 1) := if_pos rfl
 have ej1 : swp g j (j - 1) (j - 1) = g j := by unfold swp; rw [if_neg (by omega), if_pos rfl]
 have eo : ∀ k, k ≠ j → k ≠ j - 1 → swp g j (j - 1) k = g k := fun k h1 h2 => by unfold swp; rw [if_neg h1, if_neg h2]
 refine ⟨fun u v h1 h2 h3 h4 h5 => ?_, fun v h1 h2 => ?_, fun u h1 h2 e => ?_, fun u v h1 h2 h3 h4 e => ?_⟩
 ·by_cases hu : u = j
  ·subst hu
   rw [ej, eo v (by omega) (by omega)]
   exact h.oth (u - 1) v (by omega) (by omega) h3 (by omega) (by omega)
  ·by_cases hv : v = j
   ·subst hv
    rw [ej, eo u (by omega) (by omega)]
    exact h.oth u (v - 1) h1 (by omega) (by omega) (by omega) (by omega)
   ·rw [eo u hu h4, eo v hv h5]
    exact h.oth u v h1 h2 h3 hu hv
 ·rw [ej1]
  by_cases hv : v = j
  ·subst hv; rw [ej]; exact .inl hc
  ·rw [eo v hv (by omega)]; exact h.up v (by omega) h2
 ·rw [ej1, eo u (by omega) (by omega)] at e ⊢
  exact h.low u h1 (by omega) e
 ·rw [eo v (by omega) (by omega)] at e ⊢
  by_cases hu : u = j
  ·subst hu; rw [ej] at e ⊢; exact h.tie (u - 1) v (by omega) (by omega) h3 h4 e
  ·by_cases hu1 : u = j - 1
   ·subst hu1; rw [ej1] at e ⊢; exact h.tie j v (by omega) (by omega) h3 h4 e
   ·rw [eo u hu hu1] at e ⊢; exact h.tie u v h1 h2 h3 h4 e
theorem InsJ.stop {r : Int → Int} {g : Nat → Int} {a b i j : Nat} (h : InsJ r g a b i j) (ha : a ≤ j) (hji : j ≤ i) (hib : i < b) (hc : j = a ∨ r (g j) ≤ r (g (j - 1))) : Srt r g a (i + 1) ∧ Tie r g a b := by
 have hs : Srt r g a (i + 1) := fun u v h1 h2 h3 => by
  by_cases hu : u = j
  ·subst hu; exact h.up v h2 (by omega)
  ·by_cases hv : v = j
   ·subst hv
    have hl := h.low u h1 h2
    have hc' : r (g v) ≤ r (g (v - 1)) := hc.resolve_left (by omega)
    by_cases e : u = v - 1
    ·subst e
     unfold ltO
     omega
    ·have := h.oth u (v - 1) h1 (by omega) (by omega) hu (by omega)
     unfold ltO at this ⊢
     omega
   ·exact h.oth u v h1 h2 (by omega) hu hv
 refine ⟨hs, fun u v h1 h2 h3 e => ?_⟩
 by_cases hv : v ≤ i
 ·exact hs.tie u v h1 h2 (by omega) e
 ·exact h.tie u v h1 h2 (by omega) h3 e
def swr (g : Nat → Int) (a b n : Nat) : Nat → Int := fun k => if a ≤ k ∧ k < a + n then g (k - a + b) else if b ≤ k ∧ k < b + n then g (k - b + a) else g k
theorem swr_zero (g : Nat → Int) (a b : Nat) : swr g a b 0 = g := funext fun k => by
 unfold swr; rw [if_neg (by omega), if_neg (by omega)]
theorem swr_succ (g : Nat → Int) {a b n : Nat} (h : a + n + 1 ≤ b) : swp (swr g a b n) (a + n) (b + n) = swr g a b (n + 1) := funext fun k => by
 unfold swp swr
 repeat' split
 all_goals first | rfl | omega | (congr 1; omega)
def rot (g : Nat → Int) (a m b : Nat) : Nat → Int := fun k => if a ≤ k ∧ k < a + (b - m) then g (k + (m - a)) else if a + (b - m) ≤ k ∧ k < b then g (k - (b - m)) else g k
theorem rot_frm (g : Nat → Int) {a m b : Nat} (h1 : a ≤ m) (h2 : m ≤ b) : Frm g (rot g a m b) a b :=
 ⟨fun k hk => by unfold rot; rw [if_neg (by omega), if_neg (by omega)], fun k h3 h4 => by
  unfold rot
  split
  ·exact ⟨_, by omega, by omega, rfl⟩
  ·split
   ·exact ⟨_, by omega, by omega, rfl⟩
   ·omega⟩
theorem rot_gt (g : Nat → Int) {m i j : Nat} (him : i ≤ m) (h : j < i) : rot (swr g (m - i) m j) (m - i + j) m (m + j) = rot g (m - i) m (m + j) := funext fun k => by
 unfold rot swr
 repeat' split
 all_goals first | rfl | omega | (congr 1; omega)
theorem rot_lt (g : Nat → Int) {m i j : Nat} (him : i ≤ m) (h : i < j) : rot (swr g (m - i) (m + j - i) i) (m - i) m (m + (j - i)) = rot g (m - i) m (m + j) := funext fun k => by
 unfold rot swr
 repeat' split
 all_goals first | rfl | omega | (congr 1; omega)
theorem rot_eq (g : Nat → Int) {m i : Nat} (him : i ≤ m) : swr g (m - i) m i = rot g (m - i) m (m + i) := funext fun k => by
 unfold rot swr
 repeat' split
 all_goals first | rfl | omega | (congr 1; omega)
theorem rot_id (g : Nat → Int) {a m b : Nat} (h : m = a ∨ b = m) (hab : a ≤ m) : rot g a m b = g := funext fun k => by
 unfold rot
 repeat' split
 all_goals first | rfl | omega | (congr 1; omega)
theorem rot_first_succ (g : Nat → Int) {a k : Nat} (h : a ≤ k) : swp (rot g a (a + 1) (k + 1)) k (k + 1) = rot g a (a + 1) (k + 2) := funext fun j => by
 unfold swp rot
 repeat' split
 all_goals first | rfl | omega | (congr 1; omega)
theorem rot_last_succ (g : Nat → Int) {k m : Nat} (h1 : 1 ≤ k) (h : k ≤ m) : swp (rot g k m (m + 1)) k (k - 1) = rot g (k - 1) m (m + 1) := funext fun j => by
 unfold swp rot
 repeat' split
 all_goals first | rfl | omega | (congr 1; omega)
structure SrtTo (r : Int → Int) (xs ys : List Int) (a b : Nat) : Prop where
 perm : ys.Perm xs
 frm : Frm (gd xs) (gd ys) a b
 srt : Srt r (gd ys) a b
theorem SrtTo.of_rot {r : Int → Int} {xs ys : List Int} {a b i j k : Nat} (hp : ys.Perm xs) (he : gd ys = rot (gd xs) i j k) (h1 : i ≤ j) (h2 : j ≤ k) (h3 : a ≤ i) (h4 : k ≤ b) (hs : Srt r (rot (gd xs) i j k) a b) : SrtTo r xs ys a b :=
 ⟨hp, by rw [he]; exact (rot_frm _ h1 h2).mono h3 h4, by rw [he]; exact hs⟩
def Blk (r : Int → Int) (g : Nat → Int) (bs n e : Nat) : Prop := ∀ a, bs ∣ a → a < e → a < n → Srt r g a (min (a + bs) n)
theorem blk_frm {r : Int → Int} {g g' : Nat → Int} {bs n e a b : Nat} (h : Blk r g bs n e) (k : Frm g g' a b) (hd : bs ∣ a) (he : e ≤ a) : Blk r g' bs n e := fun c hc hce hcn => by
 refine (h c hc hce hcn).frm k (.inl ?_)
 have : c + bs ≤ a := by
  obtain ⟨x, rfl⟩ := hc
  obtain ⟨y, rfl⟩ := hd
  have hxy : x < y := Nat.lt_of_not_le fun hle => by
   have := Nat.mul_le_mul_left bs hle; omega
  have := Nat.mul_le_mul_left bs (show x + 1 ≤ y from hxy)
  rw [Nat.mul_succ] at this; omega
 omega
theorem blk_push {r : Int → Int} {g : Nat → Int} {bs n a : Nat} (h : Blk r g bs n a) (hd : bs ∣ a) (hs : Srt r g a (min (a + bs) n)) : Blk r g bs n (a + bs) := fun c hc hce hcn => by
 by_cases h1 : c < a
 ·exact h c hc h1 hcn
 ·have : c = a := by
   have h2 : bs ∣ c - a := Nat.dvd_sub hc hd
   have := Nat.eq_zero_of_dvd_of_lt h2 (by omega)
   omega
  rw [this]; exact hs
def Crs (r : Int → Int) (g : Nat → Int) (a m b : Nat) : Prop := ∀ u v, a ≤ u → u < m → m ≤ v → v < b → r (g u) = r (g v) → g u < g v
theorem Tie.crs {r : Int → Int} {g : Nat → Int} {a b : Nat} (h : Tie r g a b) (m : Nat) : Crs r g a m b := fun u v h1 h2 h3 h4 e => h u v h1 (by omega) h4 e
theorem mrg_first {r : Int → Int} {g : Nat → Int} {a b i : Nat} (hs : Srt r g (a + 1) b) (hc : Crs r g a (a + 1) b) (hi : a + 1 ≤ i) (hib : i ≤ b) (h1 : ∀ u, a + 1 ≤ u → u < i → r (g a) < r (g u)) (h2 : ∀ u, i ≤ u → u < b → r (g u) ≤ r (g a)) :
  Srt r (rot g a (a + 1) i) a b := fun u v hu huv hv => by
 have e1 : ∀ k, a ≤ k → k + 1 < i → rot g a (a + 1) i k = g (k + 1) := fun k hk hk2 => by
  unfold rot; rw [if_pos (by omega)]; congr 1; omega
 have e2 : rot g a (a + 1) i (i - 1) = g a := by
  unfold rot; rw [if_neg (by omega), if_pos (by omega)]; congr 1; omega
 have e3 : ∀ k, i ≤ k → rot g a (a + 1) i k = g k := fun k hk => by
  unfold rot; rw [if_neg (by omega), if_neg (by omega)]
 by_cases hv1 : v + 1 < i
 ·rw [e1 u hu (by omega), e1 v (by omega) hv1]; exact hs _ _ (by omega) (by omega) (by omega)
 ·by_cases hv2 : v = i - 1
  ·subst hv2
   rw [e1 u hu (by omega), e2]; exact .inl (h1 _ (by omega) (by omega))
  ·rw [e3 v (by omega)]
   by_cases hu1 : u + 1 < i
   ·rw [e1 u hu hu1]; exact hs _ _ (by omega) (by omega) hv
   ·by_cases hu2 : u = i - 1
    ·subst hu2
     rw [e2]
     have := h2 v (by omega) hv
     have := hc a v (Nat.le_refl _) (by omega) (by omega) hv
     unfold ltO; omega
    ·rw [e3 u (by omega)]; exact hs _ _ (by omega) huv hv
theorem mrg_last {r : Int → Int} {g : Nat → Int} {a m i : Nat} (hs : Srt r g a m) (hc : Crs r g a m (m + 1)) (hi : a ≤ i) (him : i ≤ m) (h1 : ∀ u, a ≤ u → u < i → r (g m) ≤ r (g u)) (h2 : ∀ u, i ≤ u → u < m → r (g u) < r (g m)) :
  Srt r (rot g i m (m + 1)) a (m + 1) := fun u v hu huv hv => by
 have e1 : ∀ k, k < i → rot g i m (m + 1) k = g k := fun k hk => by
  unfold rot; rw [if_neg (by omega), if_neg (by omega)]
 have e2 : rot g i m (m + 1) i = g m := by
  unfold rot; rw [if_pos (by omega)]; congr 1; omega
 have e3 : ∀ k, i < k → k ≤ m → rot g i m (m + 1) k = g (k - 1) := fun k hk hk2 => by
  unfold rot; rw [if_neg (by omega), if_pos (by omega)]; congr 1; omega
 by_cases hu1 : u < i
 ·rw [e1 u hu1]
  by_cases hv1 : v < i
  ·rw [e1 v hv1]; exact hs _ _ hu huv (by omega)
  ·by_cases hv2 : v = i
   ·subst hv2
    rw [e2]
    have := h1 u hu hu1
    have := hc u m hu (by omega) (Nat.le_refl _) (by omega)
    unfold ltO; omega
   ·rw [e3 v (by omega) (by omega)]; exact hs _ _ hu (by omega) (by omega)
 ·by_cases hu2 : u = i
  ·subst hu2
   rw [e2, e3 v (by omega) (by omega)]; exact .inl (h2 _ (by omega) (by omega))
  ·rw [e3 u (by omega) (by omega), e3 v (by omega) (by omega)]; exact hs _ _ (by omega) (by omega) (by omega)
structure Half (r : Int → Int) (g : Nat → Int) (a s mid e b : Nat) : Prop where
 s1 : Srt r g a s
 s2 : Srt r g s mid
 s3 : Srt r g mid e
 s4 : Srt r g e b
 c1 : Crs r g a s mid
 c2 : Crs r g mid e b
 all : ∀ u v, a ≤ u → u < mid → mid ≤ v → v < b → ltO r (g u) (g v)
theorem half_of {r : Int → Int} {g : Nat → Int} {a m b mid s : Nat} (hA : Srt r g a m) (hB : Srt r g m b) (hc : Crs r g a m b) (ham : a ≤ m) (hmb : m ≤ b) (hmid : a ≤ mid) (hmidb : mid ≤ b)
  (hs : a ≤ s) (hsm : s ≤ m) (hse : mid + m ≤ s + b) (hsn : s ≤ mid)
  (hlo : s = a ∨ mid + m - s = b ∨ r (g (mid + m - s)) ≤ r (g (s - 1))) (hup : s = m ∨ mid + m - s = m ∨ r (g s) < r (g (mid + m - s - 1))) :
  Half r (rot g s m (mid + m - s)) a s mid (mid + m - s) b := by
 have e1 : ∀ k, k < s → rot g s m (mid + m - s) k = g k := fun k hk => by
  unfold rot; rw [if_neg (by omega), if_neg (by omega)]
 have e2 : ∀ k, s ≤ k → k < mid → rot g s m (mid + m - s) k = g (k + (m - s)) := fun k hk hk2 => by
  unfold rot; rw [if_pos (by omega)]
 have e3 : ∀ k, mid ≤ k → k < mid + m - s → rot g s m (mid + m - s) k = g (k - (mid - s)) := fun k hk hk2 => by
  unfold rot; rw [if_neg (by omega), if_pos (by omega)]; congr 1; omega
 have e4 : ∀ k, mid + m - s ≤ k → rot g s m (mid + m - s) k = g k := fun k hk => by
  unfold rot; rw [if_neg (by omega), if_neg (by omega)]
 -- the four parts one by one: A< = [a, s), B< = [m, e), A> = [s, m), B> = [e, b)
 have hAB : ∀ u v, a ≤ u → u < s → mid + m - s ≤ v → v < b → ltO r (g u) (g v) := fun u v h1 h2 h3 h4 => by
  have h5 : r (g (mid + m - s)) ≤ r (g (s - 1)) := (hlo.resolve_left (by omega)).resolve_left (by omega)
  have h6 : r (g v) ≤ r (g (mid + m - s)) := by
   by_cases e : v = mid + m - s
   ·rw [e]; exact Int.le_refl _
   ·have := hB (mid + m - s) v (by omega) (by omega) h4
    unfold ltO at this; omega
  have h7 : r (g (s - 1)) ≤ r (g u) := by
   by_cases e : u = s - 1
   ·rw [e]; exact Int.le_refl _
   ·have := hA u (s - 1) h1 (by omega) (by omega)
    unfold ltO at this; omega
  have h8 := hc u v h1 (by omega) (by omega) h4
  unfold ltO; omega
 have hBA : ∀ u v, m ≤ u → u < mid + m - s → s ≤ v → v < m → ltO r (g u) (g v) := fun u v h1 h2 h3 h4 => by
  have h5 : r (g s) < r (g (mid + m - s - 1)) := (hup.resolve_left (by omega)).resolve_left (by omega)
  have h6 : r (g v) ≤ r (g s) := by
   by_cases e : v = s
   ·rw [e]; exact Int.le_refl _
   ·have := hA s v (by omega) (by omega) h4
    unfold ltO at this; omega
  have h7 : r (g (mid + m - s - 1)) ≤ r (g u) := by
   by_cases e : u = mid + m - s - 1
   ·rw [e]; exact Int.le_refl _
   ·have := hB u (mid + m - s - 1) h1 (by omega) (by omega)
    unfold ltO at this; omega
  exact .inl (by omega)
 refine ⟨fun u v h1 h2 h3 => ?_, fun u v h1 h2 h3 => ?_, fun u v h1 h2 h3 => ?_, fun u v h1 h2 h3 => ?_, fun u v h1 h2 h3 h4 e => ?_, fun u v h1 h2 h3 h4 e => ?_, fun u v h1 h2 h3 h4 => ?_⟩
 ·rw [e1 u (by omega), e1 v h3]; exact hA u v h1 h2 (by omega)
 ·rw [e2 u h1 (by omega), e2 v (by omega) h3]; exact hB _ _ (by omega) (by omega) (by omega)
 ·rw [e3 u h1 (by omega), e3 v (by omega) h3]; exact hA _ _ (by omega) (by omega) (by omega)
 ·rw [e4 u h1, e4 v (by omega)]; exact hB u v (by omega) h2 h3
 ·rw [e1 u h2, e2 v h3 h4] at e ⊢; exact hc _ _ h1 (by omega) (by omega) (by omega) e
 ·rw [e3 u h1 h2, e4 v h3] at e ⊢; exact hc _ _ (by omega) (by omega) (by omega) h4 e
 ·by_cases hu : u < s
  ·rw [e1 u hu]
   by_cases hv : v < mid + m - s
   ·rw [e3 v h3 hv]; exact hA _ _ h1 (by omega) (by omega)
   ·rw [e4 v (by omega)]; exact hAB u v h1 hu (by omega) h4
  ·rw [e2 u (by omega) h2]
   by_cases hv : v < mid + m - s
   ·rw [e3 v h3 hv]; exact hBA _ _ (by omega) (by omega) (by omega) (by omega)
   ·rw [e4 v (by omega)]; exact hB _ _ (by omega) (by omega) h4
theorem half_done {r : Int → Int} {g g' : Nat → Int} {a mid b : Nat} (hall : ∀ u v, a ≤ u → u < mid → mid ≤ v → v < b → ltO r (g u) (g v)) {g1 : Nat → Int} (h1 : Frm g g1 a mid) (h2 : Frm g1 g' mid b) (s1 : Srt r g1 a mid) (s2 : Srt r g' mid b) :
  Srt r g' a b := fun u v hu huv hv => by
 by_cases h3 : v < mid
 ·rw [h2.1 u (by omega), h2.1 v (by omega)]; exact s1 u v hu huv h3
 ·by_cases h4 : mid ≤ u
  ·exact s2 u v h4 huv hv
  ·obtain ⟨v', h5, h6, e⟩ := h2.2 v (by omega) hv
   obtain ⟨u', h7, h8, e'⟩ := h1.2 u hu (by omega)
   rw [h2.1 u (by omega), e, e', h1.1 v' (by omega)]
   exact hall u' v' h7 h8 h5 h6
theorem Srt.two {r : Int → Int} {g : Nat → Int} {a s b : Nat} (h1 : Srt r g a s) (h2 : Srt r g s b) (h : s ≤ a ∨ b ≤ s) : Srt r g a b := fun u v h3 h4 h5 => by
 rcases h with h | h
 ·exact h2 u v (by omega) h4 h5
 ·exact h1 u v h3 h4 (by omega)
theorem srt_pair {r : Int → Int} : ∀ {l : List Int}, Srt r (gd l) 0 l.length → l.Pairwise (ltO r)
 | [], _ => List.Pairwise.nil
 | x :: l, h => by
  refine List.pairwise_cons.2 ⟨fun y hy => ?_, srt_pair fun u v h1 h2 h3 => ?_⟩
  ·obtain ⟨i, hi, rfl⟩ := List.getElem_of_mem hy
   have := h 0 (i + 1) (by omega) (by omega) (by simpa using hi)
   simpa [gd, List.getD_eq_getElem?_getD, hi] using this
  ·have := h (u + 1) (v + 1) (by omega) (by omega) (by simpa using h3)
   simpa [gd] using this
theorem ord_one {r : Int → Int} : ∀ {a b : List Int}, a.Pairwise (ltO r) → b.Pairwise (ltO r) → a.Perm b → a = b
 | [], b, _, _, h => h.nil_eq
 | x :: a, [], _, _, h => by have := h.length_eq; simp at this
 | x :: a, y :: b, ha, hb, h => by
  obtain ⟨ha1, ha2⟩ := List.pairwise_cons.1 ha
  obtain ⟨hb1, hb2⟩ := List.pairwise_cons.1 hb
  have h1 : x ∈ y :: b := h.mem_iff.1 (List.mem_cons_self ..)
  have h2 : y ∈ x :: a := h.mem_iff.2 (List.mem_cons_self ..)
  have hxy : x = y := by
   rcases List.mem_cons.1 h1 with h3 | h3
   ·exact h3
   ·rcases List.mem_cons.1 h2 with h4 | h4
    ·exact h4.symm
    ·exact absurd (ha1 y h4) (hb1 x h3).asym
  subst hxy
  rw [ord_one ha2 hb2 h.cons_inv]
theorem perm_of : ∀ {a b : List Int}, a.Nodup → (∀ x ∈ a, x ∈ b) → b.length ≤ a.length → a.Perm b
 | [], b, _, _, h => by
  have : b = [] := List.eq_nil_of_length_eq_zero (by simpa using h)
  rw [this]
 | x :: a, b, hn, hs, hl => by
  obtain ⟨h1, h2⟩ := List.nodup_cons.1 hn
  have hx := hs x (List.mem_cons_self ..)
  have hp := List.perm_cons_erase hx
  have hlen := List.length_erase_of_mem hx
  have hb : 0 < b.length := List.length_pos_of_mem hx
  refine ((perm_of h2 (fun y hy => ?_) ?_).cons x).trans hp.symm
  ·have hne : y ≠ x := fun e => h1 (e ▸ hy)
   exact (List.mem_erase_of_ne hne).2 (hs y (List.mem_cons_of_mem _ hy))
  ·simp at hl; omega
def ixL (n : Nat) : List Int := (List.range n).map fun (i : Nat) => (i : Int)
theorem ixL_length (n : Nat) : (ixL n).length = n := by simp [ixL]
theorem mem_ixL {n : Nat} {x : Int} : x ∈ ixL n ↔ 0 ≤ x ∧ x < n := by
 unfold ixL
 rw [List.mem_map]
 constructor
 ·rintro ⟨i, hi, rfl⟩; have := List.mem_range.1 hi; omega
 ·intro h; exact ⟨x.toNat, List.mem_range.2 (by omega), by omega⟩
theorem pair_nodup {r : Int → Int} {l : List Int} (h : l.Pairwise (ltO r)) : l.Nodup := h.imp fun h => h.ne
structure OrdS (r : Int → Int) (n : Nat) (l : List Int) : Prop where
 len : l.length = n
 bd : ∀ x ∈ l, 0 ≤ x ∧ x < n
 pw : l.Pairwise (ltO r)
theorem OrdS.perm {r : Int → Int} {n : Nat} {l : List Int} (h : OrdS r n l) : l.Perm (ixL n) := perm_of (pair_nodup h.pw) (fun x hx => mem_ixL.2 (h.bd x hx)) (by rw [ixL_length, h.len]; exact Nat.le_refl _)
theorem OrdS.one {r : Int → Int} {n : Nat} {a b : List Int} (h : OrdS r n a) (k : OrdS r n b) : a = b := ord_one h.pw k.pw (h.perm.trans k.perm.symm)
theorem OrdS.of_sort {r : Int → Int} {n : Nat} {l l' : List Int} (hl : l.length = n) (hid : ∀ k, k < n → l.getD k 0 = (k : Int)) (hp : l'.Perm l) (hs : Srt r (gd l') 0 n) : OrdS r n l' := by
 have hlen : l'.length = n := by rw [hp.length_eq, hl]
 refine ⟨hlen, fun x hx => ?_, srt_pair (by rw [hlen]; exact hs)⟩
 obtain ⟨i, hi, rfl⟩ := List.getElem_of_mem (hp.mem_iff.1 hx)
 have := hid i (by omega)
 rw [List.getD_eq_getElem?_getD, List.getElem?_eq_getElem hi] at this
 have h2 : l[i] = (i : Int) := this
 omega
structure OrdJ (r : Int → Int) (n : Nat) (out : List Int) (us : List Bool) : Prop where
 ulen : us.length = n
 bd : ∀ x ∈ out, 0 ≤ x ∧ x < n
 pw : out.Pairwise (ltO r)
 us : ∀ k, k < n → (us.getD k false = true ↔ (k : Int) ∈ out)
 lt : ∀ x ∈ out, ∀ k : Nat, k < n → (k : Int) ∉ out → ltO r x k
theorem OrdJ.start (r : Int → Int) (n : Nat) : OrdJ r n [] (List.replicate n false) where
 ulen := by simp
 bd x h := by simp at h
 pw := .nil
 us k h := by simp [List.getD_eq_getElem?_getD, List.getElem?_replicate, h]
 lt x h := by simp at h
theorem OrdJ.some_left {r : Int → Int} {n : Nat} {out : List Int} {us : List Bool} (h : OrdJ r n out us) (hl : out.length < n) : ∃ k : Nat, k < n ∧ (k : Int) ∉ out := Classical.byContradiction fun hno => by
 have h1 : (ixL n).Perm out := perm_of (by
  unfold ixL; rw [List.Nodup, List.pairwise_map]
  exact List.pairwise_lt_range.imp fun h e => by omega) (fun x hx => by
  have := mem_ixL.1 hx
  refine Classical.byContradiction fun hx' => hno ⟨x.toNat, by omega, ?_⟩
  rwa [Int.toNat_of_nonneg this.1]) (by rw [ixL_length]; omega)
 have := h1.length_eq
 rw [ixL_length] at this
 omega
theorem OrdJ.push {r : Int → Int} {n : Nat} {out : List Int} {us : List Bool} (h : OrdJ r n out us) {b : Nat} (hb : b < n) (hnb : (b : Int) ∉ out) (hmin : ∀ k : Nat, k < n → (k : Int) ∉ out → k ≠ b → ltO r b k) : OrdJ r n (out ++ [(b : Int)]) (us.set b true) where
 ulen := by rw [List.length_set]; exact h.ulen
 bd x hx := by
  rcases List.mem_append.1 hx with hx | hx
  ·exact h.bd x hx
  ·rw [List.mem_singleton.1 hx]; omega
 pw := by
  rw [List.pairwise_append]
  refine ⟨h.pw, List.pairwise_singleton .., fun x hx y hy => ?_⟩
  rw [List.mem_singleton.1 hy]
  exact h.lt x hx b hb hnb
 us k hk := by
  rw [List.getD_eq_getElem?_getD, List.getElem?_set, List.mem_append, List.mem_singleton]
  by_cases e : b = k
  ·subst e
   rw [if_pos rfl, if_pos (by rw [h.ulen]; exact hk)]
   simp
  ·rw [if_neg e, ← List.getD_eq_getElem?_getD, h.us k hk]
   exact ⟨.inl, fun h' => h'.resolve_right (by omega)⟩
 lt x hx k hk hnk := by
  rw [List.mem_append, List.mem_singleton] at hnk
  rcases List.mem_append.1 hx with hx | hx
  ·exact h.lt x hx k hk (fun h' => hnk (.inl h'))
  ·rw [List.mem_singleton.1 hx]
   exact hmin k hk (fun h' => hnk (.inl h')) (fun e => hnk (.inr (by omega)))
theorem OrdJ.done {r : Int → Int} {n : Nat} {out : List Int} {us : List Bool} (h : OrdJ r n out us) (hl : out.length = n) : OrdS r n out := ⟨hl, h.bd, h.pw⟩
def BstJ (r : Int → Int) (us : List Bool) (i : Nat) (best : Int) : Prop :=
 (best = -1 ∧ ∀ k, k < i → us.getD k false = true) ∨ ∃ b : Nat, best = b ∧ b < i ∧ us.getD b false = false ∧ ∀ k, k < i → us.getD k false = false → k ≠ b → ltO r b k
theorem BstJ.start (r : Int → Int) (us : List Bool) : BstJ r us 0 (-1) := .inl ⟨rfl, fun k h => by omega⟩
theorem BstJ.used {r : Int → Int} {us : List Bool} {i : Nat} {best : Int} (h : BstJ r us i best) (hu : us.getD i false = true) : BstJ r us (i + 1) best := by
 rcases h with ⟨h1, h2⟩ | ⟨b, h1, h2, h3, h4⟩
 ·refine .inl ⟨h1, fun k hk => ?_⟩
  by_cases e : k = i
  ·rw [e]; exact hu
  ·exact h2 k (by omega)
 ·refine .inr ⟨b, h1, by omega, h3, fun k hk hf hne => ?_⟩
  by_cases e : k = i
  ·rw [e, hu] at hf; cases hf
  ·exact h4 k (by omega) hf hne
theorem BstJ.take {r : Int → Int} {us : List Bool} {i : Nat} {best : Int} (h : BstJ r us i best) (hu : us.getD i false = false) (hb : best < 0 ∨ r best < r i) : BstJ r us (i + 1) i := by
 refine .inr ⟨i, rfl, by omega, hu, fun k hk hf hne => ?_⟩
 rcases h with ⟨h1, h2⟩ | ⟨b, h1, h2, h3, h4⟩
 ·rw [h2 k (by omega)] at hf; cases hf
 ·subst h1
  have hb' : r b < r i := hb.resolve_left (by omega)
  by_cases e : k = b
  ·rw [e]; exact .inl hb'
  ·have := h4 k (by omega) hf e
   unfold ltO at this ⊢; omega
theorem BstJ.pass {r : Int → Int} {us : List Bool} {i : Nat} {best : Int} (h : BstJ r us i best) (hb : ¬ (best < 0 ∨ r best < r i)) : BstJ r us (i + 1) best := by
 rcases h with ⟨h1, h2⟩ | ⟨b, h1, h2, h3, h4⟩
 ·exact absurd (.inl (by omega)) hb
 ·refine .inr ⟨b, h1, by omega, h3, fun k hk hf hne => ?_⟩
  by_cases e : k = i
  ·subst e; subst h1; unfold ltO; omega
  ·exact h4 k (by omega) hf hne
end Go.Proofs.YtfdjdokdabmmdaaGreat

namespace Go.Proofs.YtfdjdokdabmmdaaGreat
def amin (r : List Int) : Nat → Nat
 | 0 => 0
 | k + 1 => if r.getD k 0 < r.getD (amin r k) 0 then k else amin r k
def sec (r : List Int) (b : Nat) : Nat → Int
 | 0 => -1
 | k + 1 => if k ≠ b ∧ (sec r b k < 0 ∨ r.getD k 0 < sec r b k) then r.getD k 0 else sec r b k
def hardI (r : List Int) : Nat := amin r r.length
def relI (r : List Int) : Int := sec r (hardI r) r.length - r.getD (hardI r) 0
theorem amin_lt {r : List Int} (h : 0 < r.length) : ∀ k, k ≤ r.length → amin r k < r.length
 | 0, _ => h
 | k + 1, hk => by
  have := amin_lt h k (by omega)
  rw [amin]; split <;> omega
theorem amin_min (r : List Int) : ∀ k j, j < k → r.getD (amin r k) 0 ≤ r.getD j 0
 | k + 1, j, hj => by
  rw [amin]
  have ih := amin_min r k
  split
  ·rename_i h
   rcases Nat.lt_or_ge j k with h1 | h1
   ·have := ih j h1; omega
   ·have : j = k := by omega
    subst this; exact Int.le_refl _
  ·rename_i h
   rcases Nat.lt_or_ge j k with h1 | h1
   ·exact ih j h1
   ·have : j = k := by omega
    subst this; omega
theorem hardI_lt {r : List Int} (h : 0 < r.length) : hardI r < r.length := amin_lt h _ (Nat.le_refl _)
theorem hardI_min {r : List Int} {j : Nat} (h : j < r.length) : r.getD (hardI r) 0 ≤ r.getD j 0 := amin_min r _ j h
theorem sec_bd {r : List Int} {b : Nat} {M : Int} (hr : ∀ x ∈ r, 0 ≤ x ∧ x ≤ M) (hM : 0 ≤ M) : ∀ k, k ≤ r.length → -1 ≤ sec r b k ∧ sec r b k ≤ M
 | 0, _ => by rw [sec]; omega
 | k + 1, hk => by
  have ih := sec_bd (b := b) hr hM k (by omega)
  have := hr (r.getD k 0) (by
   rw [List.getD_eq_getElem?_getD, List.getElem?_eq_getElem (by omega)]
   exact List.getElem_mem _)
  rw [sec]; split <;> omega
theorem sec_nn {r : List Int} {b : Nat} (hr : ∀ x ∈ r, 0 ≤ x) : ∀ k, k ≤ r.length → (∃ j, j < k ∧ j ≠ b) → 0 ≤ sec r b k
 | 0, _, h => by obtain ⟨j, hj, _⟩ := h; omega
 | k + 1, hk, h => by
  have h0 := hr (r.getD k 0) (by
   rw [List.getD_eq_getElem?_getD, List.getElem?_eq_getElem (by omega)]
   exact List.getElem_mem _)
  rw [sec]
  split
  ·exact h0
  ·rename_i hn
   by_cases hkb : k = b
   ·obtain ⟨j, hj, hjb⟩ := h
    exact sec_nn hr k (by omega) ⟨j, by omega, hjb⟩
   ·have : ¬ (sec r b k < 0 ∨ r.getD k 0 < sec r b k) := fun h2 => hn ⟨hkb, h2⟩
    omega
def ordR (q : Int) : List (List Int) → Int
 | [] => 0
 | r :: t => if (r.length : Int) ≠ q then 3 else if ∃ x ∈ r, x < 0 ∨ x > 2147483648 then 6 else ordR q t
theorem ordR_zero {q : Int} : ∀ {tb : List (List Int)}, ordR q tb = 0 → ∀ r ∈ tb, (r.length : Int) = q ∧ ∀ x ∈ r, 0 ≤ x ∧ x ≤ 2147483648
 | r :: t, h, s, hs => by
  rw [ordR] at h
  split at h
  ·cases h
  ·split at h
   ·cases h
   ·rename_i h1 h2
    rcases List.mem_cons.1 hs with rfl | hs
    ·exact ⟨by omega, fun x hx => by
      have : ¬ (x < 0 ∨ x > 2147483648) := fun h3 => h2 ⟨x, hx, h3⟩
      omega⟩
    ·exact ordR_zero h s hs
end Go.Proofs.YtfdjdokdabmmdaaGreat

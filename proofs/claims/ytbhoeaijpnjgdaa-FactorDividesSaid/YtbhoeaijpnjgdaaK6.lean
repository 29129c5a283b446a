/-
  FACTORDIVIDES, PART 6 OF 9. One sentence: the texts behind the law FactorDivides, put together.
  Conditions: each theorem's own, written out in it.
-/
import Derived.Test.YtbhoeaijpnjgdaaK5
set_option linter.unusedSimpArgs false
set_option linter.unusedVariables false
set_option linter.unusedSectionVars false
set_option maxRecDepth 100000
set_option maxHeartbeats 1000000
namespace Go.Proofs.Ytbhoeaijpnjgdaa
open Go.RowKit
theorem Pure.sub {P : Program} {f : FuncId} {args : Array Value} {G G' : List Chunk} {R : Value → List Chunk → Prop} (h : Pure P f args G R) (hs : ∀ w, (∀ c ∈ G', c.sat w) → ∀ c ∈ G, c.sat w) : Pure P f args G' R := ⟨h.ent, fun w hg => h.run w (hs w hg)⟩
theorem fpr_add {p m : Int} {mod : List Int} [hF : IsF p m mod] {gs : List FacM} {Ls : List (Po (El p m mod) × Int)} (h : fpr gs = Ls.map fun x => (il x.1, x.2)) (B : Option Addr) (c : Nat) (P : Po (El p m mod)) (k : Int) : fpr (gs ++ [⟨⟨B, c, il P⟩, k⟩]) = (Ls ++ [(P, k)]).map fun x => (il x.1, x.2) := by
 rw [fpr_app, h, List.map_append]; rfl
theorem take_mapP {p m : Int} {mod : List Int} [hF : IsF p m mod] {ps : List (Po (El p m mod))} {k : Nat} (h : k < ps.length) (c : Int) : (ps.take (k + 1)).map (fun P => (P, c)) = (ps.take k).map (fun P => (P, c)) ++ [(ps.getD k 0, c)] := by
 rw [take_getD h 0, List.map_append]; rfl
theorem cmt_cmp_ent : Enters Try.prog 96 := enters_of Try.func96 (by kernel_rfl) (by kernel_rfl)
theorem cmt_cmp (g : GfM) (pg : Addr) (Ax : Option Addr) (nx cx : Nat) (kx : Int) (a : List Int) (hnx : nx = a.length) (ha : a.length ≤ 1000000) (Ay : Option Addr) (ny cy : Nat) (ky : Int) (b : List Int) (hny : ny = b.length) (hb : b.length ≤ 1000000) :
  Pure Try.prog 96 #[.agg #[.slice Ax nx cx, .int .i64 kx], .agg #[.slice Ay ny cy, .int .i64 ky], .pointer (some pg)] [ro (some pg) [.pointer (some g.p)], gfR g, ro Ax (ints a), ro Ay (ints b)] (isV (.int .i64 (cmpL (canL g.q a) (canL g.q b)))) := by
 refine pure_of (args := [.agg #[.slice Ax nx cx, .int .i64 kx], .agg #[.slice Ay ny cy, .int .i64 ky], .pointer (some pg)]) 12 Try.func96 rfl rfl rfl cmt_cmp_ent ⟨id, id, id, id, trivial⟩ (fun w0 => ?_)
 refine tS ?_
 refine tR fun _ _ _ => ?_
 refine eV (eBox rfl rfl rfl rfl rfl (fun p0 => ?_))
 refine eV (eBox rfl rfl rfl rfl rfl (fun p0a => ?_))
 refine pV ?_
 refine tS ?_
 refine tR fun _ _ _ => ?_
 refine sV (rLd0 rfl rfl) ?_
 refine sV (rFld rfl rfl) ?_
 refine sV (rLdF rfl rfl rfl) ?_
 refine sV (rFld rfl rfl) ?_
 refine sV (rLdF rfl rfl rfl) ?_
 refine eV (eCallV rfl rfl rfl (fac_Compare g Ax nx cx a hnx (by omega) Ay ny cy b hny (by omega)) ⟨rfl, rfl, rfl, trivial⟩ ?_)
 refine pV ?_
 exact tr_ret ⟨trivial, _, _, rfl, ⟨rfl, rfl⟩, CSub.nil _, trivial⟩
theorem fac_CompleteE_ent : Enters Try.prog 39 := enters_of Try.func39 (by kernel_rfl) (by kernel_rfl)
theorem fac_CompleteE (g : GfM) {p m : Int} {mod : List Int} [hF : IsF p m mod] (hg : GOk g p m mod) (A : Option Addr) (n c : Nat) (a : List Int) (hn : n = a.length) (ha9 : a.length ≤ 17592186044415) (he : facE (Po.len (pol a : Po (El p m mod))) ≠ 0) :
  Pure Try.prog 39 #[.pointer (some g.p), .slice A n c] [gfR g, ro A (ints a)] (isV (.tuple #[.int .i64 0, .slice none 0 0, .int .i64 (facE (Po.len (pol a : Po (El p m mod))))])) := by
 refine pure_of (args := [.pointer (some g.p), .slice A n c]) 61 Try.func39 rfl rfl rfl fac_CompleteE_ent ⟨id, id, trivial⟩ (fun w0 => ?_)
 refine tS ?_
 refine tR fun _ _ _ => ?_
 refine eV (eBox rfl rfl rfl rfl rfl (fun p0 => ?_))
 iterate 3 refine pV ?_
 refine tS ?_
 refine tR fun _ _ _ => ?_
 refine sV (rLd0 rfl rfl) ?_
 refine pV ?_
 refine eV (eCallV rfl rfl rfl (fac_enterE g hg A n c a hn ha9 he) ⟨rfl, rfl, trivial⟩ ?_)
 iterate 5 refine pV ?_
 refine tS ?_
 refine tS ?_
 refine tR fun _ _ _ => ?_
 iterate 2 refine pV ?_
 refine tC rfl (fun h2 => ?_) (fun h2 => ?_)
 ·try simp only [zbA] at h2
  refine tS ?_
  refine tR fun _ _ _ => ?_
  iterate 4 refine pV ?_
  exact tr_ret ⟨trivial, _, _, rfl, ⟨rfl, rfl⟩, CSub.nil _, trivial⟩
 ·try simp only [zbA] at h2
  omega --done
theorem fac_CompleteL_ent : Enters Try.prog 39 := enters_of Try.func39 (by kernel_rfl) (by kernel_rfl)
theorem fac_CompleteL (hlib : FacSort) (hnone : FacNone) (g : GfM) {p m : Int} {mod : List Int} [hF : IsF p m mod] (hg : GOk g p m mod) (A : Option Addr) (n c : Nat) (a : List Int) (hn : n = a.length) (ha9 : a.length ≤ 17592186044415) (he : facE (Po.len (pol a : Po (El p m mod))) = 0) :
  Pure Try.prog 39 #[.pointer (some g.p), .slice A n c] [gfR g, ro A (ints a)] (two (fun v ch ch2 => ∃ B cap gs, v = .tuple #[.int .i64 (Po.lead (pol a : Po (El p m mod))).1, .slice B gs.length cap, .int .i64 0] ∧ ch = ow2 B 64 cap (fcs gs) ∧ ch2 = rowsCh 3 (rws gs) ∧ CmI (Po.mon (pol a : Po (El p m mod))) gs ∧ RisF gs ∧ gs.length ≤ 257)) := by
 have hq2 := hF.q2
 have hgq := hg.eq
 have hil := il_length (pol a : Po (El p m mod))
 have hle := facE_ok he
 have h0 : (pol a : Po (El p m mod)) ≠ 0 := Po.len_pos_iff.1 (by omega)
 have hml := Po.mon_len (pol a : Po (El p m mod))
 have hm0 := Po.mon_ne h0
 have hmle := Po.mon_lead h0
 have hmil := il_length (Po.mon (pol a : Po (El p m mod)))
 refine pure_of (args := [.pointer (some g.p), .slice A n c]) 61 Try.func39 rfl rfl rfl fac_CompleteL_ent ⟨id, id, trivial⟩ (fun w0 => ?_)
 refine tS ?_
 refine tR fun _ _ _ => ?_
 refine eV (eBox rfl rfl rfl rfl rfl (fun p0 => ?_))
 iterate 3 refine pV ?_
 refine tS ?_
 refine tR fun _ _ _ => ?_
 refine sV (rLd0 rfl rfl) ?_
 refine pV ?_
 refine eV (eCall1 rfl rfl rfl (fac_enter g hg A n c a hn ha9 he) ⟨rfl, rfl, trivial⟩ ?_)
 rintro _ _ ⟨B1, c1, rfl, hc1, rfl⟩
 iterate 5 refine pV ?_
 refine tS ?_
 refine tS ?_
 refine tR fun _ _ _ => ?_
 iterate 2 refine pV ?_
 refine tC rfl (fun h2 => ?_) (fun h2 => ?_)
 ·try simp only [zbA] at h2
  first | exact absurd trivial h2 | exact absurd rfl h2 | omega | (exact absurd h2 (by simp)) --done
 ·try simp only [zbA] at h2
  refine tK ?_
  refine tS ?_
  refine tS ?_
  refine tr_draw [0, 1, 2, 6, 3, 4, 5] [] mixed (by kernel_rfl) fun _ _ _ => ?_
  refine sV (rLd0 rfl rfl) ?_
  refine sV (rLd0 rfl rfl) ?_
  iterate 2 refine pV ?_
  refine eV (eCall1 rfl rfl rfl (fac_monic g hg B1 _ c1 (il (pol a : Po (El p m mod))) rfl (by omega) (by rw [pol_il]; exact h0)) ⟨rfl, rfl, trivial⟩ ?_)
  rintro _ _ ⟨B4, c4, rfl, rfl⟩
  rw [pol_il]
  refine eV (eCall2 rfl rfl rfl (fac_sqf g hg B4 _ c4 (Po.mon (pol a : Po (El p m mod))) (by rw [il_length]) (Po.mon_lead h0) (by omega)) ⟨rfl, rfl, rfl, trivial⟩ ?_)
  rintro _ _ _ ⟨Bs, cs_, fs, rfl, rfl, rfl, hI0, hfl⟩
  refine sV (rLenS rfl rfl) ?_
  refine tB ?_
  refine tr_nilQ 64 3 ?_
  refine tr_loop5 (fun (j : Int) (Bg : Option Addr) (cg : Nat) (gs : List FacM) (Ls : List (Po (El p m mod) × Int)) => [(2, .pointer (some p0)), (25, .slice Bs fs.length cs_), (26, .int .i64 (fs.length : Nat)), (27, .int .i64 j), (5, .slice Bg gs.length cg), (7, .slice B1 (il (pol a : Po (El p m mod))).length c1), (4, .int .i64 0), (6, .int .i64 0)]) (fun (j : Int) (Bg : Option Addr) (cg : Nat) (gs : List FacM) (Ls : List (Po (El p m mod) × Int)) => [ow2 Bg 64 cg (fcs gs), rowsCh 3 (rws gs), ow2 Bs 64 cs_ (fcs fs), rowsR (rws fs), ow B1 3 c1 (ints (il (pol a : Po (El p m mod)))), blk p0 25 [.pointer (some g.p)], gfR g]) (fun (j : Int) (Bg : Option Addr) (cg : Nat) (gs : List FacM) (Ls : List (Po (El p m mod) × Int)) => (0 ≤ j ∧ j ≤ fs.length) ∧ (fpr gs = Ls.map fun x => (il x.1, x.2)) ∧ CmJ (Po.mon (pol a : Po (El p m mod))) fs j.toNat Ls ∧ gs.length ≤ 256 * j) (fun (j : Int) (Bg : Option Addr) (cg : Nat) (gs : List FacM) (Ls : List (Po (El p m mod) × Int)) => (fs.length - j).toNat) (0) (none) (0) ([]) ([]) ⟨rfl, rfl, rfl, rfl, rfl, rfl, rfl, rfl, trivial⟩ (by exact (cs _ [rowsCh 3 (rws fs), ow2 none 64 0 (fcs []), rowsCh 3 (rws []), ow2 Bs 64 cs_ (fcs fs), ow B1 3 c1 (ints (il (pol a : Po (El p m mod)))), blk p0 25 [.pointer (some g.p)], gfR g]).trans ((rows_weak _).trans (cs _ _))) (⟨⟨by omega, by omega⟩, rfl, CmJ.start, by simp⟩) (fun j Bg cg gs Ls hI => ?_)
  obtain ⟨⟨hj0, hj1⟩, hfp, hJ, hgb⟩ := hI
  refine tS ?_
  refine tR fun _ _ _ => ?_
  refine pV ?_
  refine tS ?_
  refine tC rfl (fun h5 => ?_) (fun h5 => ?_)
  ·try simp only [zbA] at h5
   refine tK ?_
   refine tS ?_
   refine tB ?_
   refine tS ?_
   have hjl : j.toNat < fs.length := by omega
   have hQm := getD_mem hjl facD
   obtain ⟨hQ1, hQ3, hQ2, hQ4, hQ5, hQ6, hQx⟩ := hI0.fc _ hQm
   have hQl := (hI0.le hmle _ hQm).1
   refine tR fun _ _ _ => ?_
   refine sV (rIdxT rfl rfl rfl (by omega) (by omega) (by simp; omega)) ?_
   refine sV (rLdT rfl rfl (by simp; omega)) ?_
   refine eV (eAlloc rfl rfl rfl (fun p6 => ?_))
   rw [fcs_get1 fs j.toNat hjl, fcs_get2 fs j.toNat hjl]
   rw [hQx]
   refine eV (eStS rfl rfl rfl rfl rfl rfl ?_)
   refine tr_chunks [ro (fs.getD j.toNat facD).r.A (ints (il (fcP p m mod (fs.getD j.toNat facD)))), blk p6 64 [.slice (fs.getD j.toNat facD).r.A (il (fcP p m mod (fs.getD j.toNat facD))).length (fs.getD j.toNat facD).r.cap, .int .i64 (fs.getD j.toNat facD).k], ow2 Bg 64 cg (fcs gs), rowsCh 3 (rws gs), ow2 Bs 64 cs_ (fcs fs), rowsR (rws fs), ow B1 3 c1 (ints (il (pol a : Po (El p m mod)))), blk p0 25 [.pointer (some g.p)], gfR g] (hQx ▸ (cs _ [rowsR (rws fs), blk p6 64 [.slice (fs.getD j.toNat facD).r.A (fs.getD j.toNat facD).r.xs.length (fs.getD j.toNat facD).r.cap, .int .i64 (fs.getD j.toNat facD).k], ow2 Bg 64 cg (fcs gs), rowsCh 3 (rws gs), ow2 Bs 64 cs_ (fcs fs), ow B1 3 c1 (ints (il (pol a : Po (El p m mod)))), blk p0 25 [.pointer (some g.p)], gfR g]).trans ((row_ro (rs := rws fs) (List.mem_map.2 ⟨_, getD_mem hjl facD, rfl⟩) _).trans (cs _ _))) ?_
   refine tS ?_
   refine tR fun _ _ _ => ?_
   refine sV (rLd0 rfl rfl) ?_
   refine sV (rFld rfl rfl) ?_
   refine sV (rLdF rfl rfl rfl) ?_
   refine eV (eCall2 rfl rfl rfl (fac_split g hg (fs.getD j.toNat facD).r.A (fs.getD j.toNat facD).r.cap (fcP p m mod (fs.getD j.toNat facD)) hQ1 hQ2 (by omega) hQ5) ⟨rfl, rfl, trivial⟩ ?_)
   rintro _ _ _ ⟨Bp, cp, rs, qs, ps, rfl, rfl, rfl, hal, hxs, hIr, hprd, hrl⟩
   refine sV (rLen rfl rfl) ?_
   refine pV ?_
   have hpsl := xss_len hxs
   refine tr_chunks [rowsR rs, ro (fs.getD j.toNat facD).r.A (ints (il (fcP p m mod (fs.getD j.toNat facD)))), ow Bp 22 cp (hdrs rs), blk p6 64 [.slice (fs.getD j.toNat facD).r.A (il (fcP p m mod (fs.getD j.toNat facD))).length (fs.getD j.toNat facD).r.cap, .int .i64 (fs.getD j.toNat facD).k], ow2 Bg 64 cg (fcs gs), rowsCh 3 (rws gs), ow2 Bs 64 cs_ (fcs fs), rowsR (rws fs), ow B1 3 c1 (ints (il (pol a : Po (El p m mod)))), blk p0 25 [.pointer (some g.p)], gfR g] ((cs _ [rowsCh 3 qs, ro (fs.getD j.toNat facD).r.A (ints (il (fcP p m mod (fs.getD j.toNat facD)))), ow Bp 22 cp (hdrs rs), blk p6 64 [.slice (fs.getD j.toNat facD).r.A (il (fcP p m mod (fs.getD j.toNat facD))).length (fs.getD j.toNat facD).r.cap, .int .i64 (fs.getD j.toNat facD).k], ow2 Bg 64 cg (fcs gs), rowsCh 3 (rws gs), ow2 Bs 64 cs_ (fcs fs), rowsR (rws fs), ow B1 3 c1 (ints (il (pol a : Po (El p m mod)))), blk p0 25 [.pointer (some g.p)], gfR g]).trans (al_sub hal 3 _)) ?_
   refine tB ?_
   refine tr_loop4 (fun (k : Int) (Bg : Option Addr) (cg : Nat) (gs : List FacM) => [(2, .pointer (some p0)), (9, .pointer (some p6)), (34, .slice Bp rs.length cp), (35, .int .i64 (rs.length : Nat)), (36, .int .i64 k), (5, .slice Bg gs.length cg), (4, .int .i64 0), (6, .int .i64 0), (7, .slice B1 (il (pol a : Po (El p m mod))).length c1), (25, .slice Bs fs.length cs_), (26, .int .i64 (fs.length : Nat)), (27, .int .i64 j)]) (fun (k : Int) (Bg : Option Addr) (cg : Nat) (gs : List FacM) => [ow2 Bg 64 cg (fcs gs), rowsCh 3 (rws gs), rowsR rs, ow Bp 22 cp (hdrs rs), blk p6 64 [.slice (fs.getD j.toNat facD).r.A (il (fcP p m mod (fs.getD j.toNat facD))).length (fs.getD j.toNat facD).r.cap, .int .i64 (fs.getD j.toNat facD).k], ow2 Bs 64 cs_ (fcs fs), rowsR (rws fs), ow B1 3 c1 (ints (il (pol a : Po (El p m mod)))), blk p0 25 [.pointer (some g.p)], gfR g]) (fun (k : Int) (Bg : Option Addr) (cg : Nat) (gs : List FacM) => (0 ≤ k ∧ k ≤ rs.length) ∧ (fpr gs = (Ls ++ (ps.take k.toNat).map fun P => (P, (fs.getD j.toNat facD).k)).map fun x => (il x.1, x.2)) ∧ gs.length ≤ 256 * j + k) (fun (k : Int) (Bg : Option Addr) (cg : Nat) (gs : List FacM) => (rs.length - k).toNat) (0) (Bg) (cg) (gs) ⟨rfl, rfl, rfl, rfl, rfl, rfl, rfl, rfl, rfl, rfl, rfl, rfl, trivial⟩ (by first | exact cs _ _ | exact CSub.refl _) (⟨⟨by omega, by omega⟩, by rw [show Int.toNat 0 = 0 from rfl, List.take_zero, List.map_nil, List.append_nil]; exact hfp, by omega⟩) (fun k Bg cg gs hI => ?_)
   obtain ⟨⟨hk0, hk1⟩, hfk, hgb2⟩ := hI
   refine tS ?_
   refine tR fun _ _ _ => ?_
   refine pV ?_
   refine tS ?_
   refine tC rfl (fun h8 => ?_) (fun h8 => ?_)
   ·try simp only [zbA] at h8
    refine tK ?_
    refine tS ?_
    refine tB ?_
    refine tS ?_
    haveI : InB k.toNat rs.length := ⟨by omega⟩
    have hpx := xss_at hxs (show k.toNat < rs.length by omega)
    have hpi := (hIr.mem _).1 (Vc.getD_eq_mem (show k.toNat < ps.length by omega) (0 : Po (El p m mod)))
    have hpl := Po.dvd_len hpi.2.2 (lead1_ne hQ1)
    have hpl2 := il_length (ps.getD k.toNat 0)
    have hpx2 := congrArg List.length hpx
    refine tR fun _ _ _ => ?_
    refine sV (rIdxR rfl rfl rfl (by omega) (by omega) (by omega)) ?_
    refine sV (rLdR rfl rfl (by omega)) ?_
    refine pV ?_
    refine tr_draw [0, 1, 2, 4, 5, 3, 6, 7] [8, 9] mixed (by kernel_rfl) fun _ _ _ => ?_
    refine pV ?_
    refine sV (rLd0 rfl rfl) ?_
    refine pV ?_
    refine sV (rFld rfl rfl) ?_
    refine sV (rLdF rfl rfl rfl) ?_
    refine eV (eCall1 rfl rfl rfl (fac_monic g hg (rs.getD k.toNat rowD).A _ (rs.getD k.toNat rowD).cap (rs.getD k.toNat rowD).xs rfl (by omega) (by rw [hpx, pol_il]; exact lead1_ne hpi.2.1)) ⟨rfl, rfl, trivial⟩ ?_)
    rintro _ _ ⟨Bm, cm, rfl, rfl⟩
    refine sV (rBuild rfl rfl) ?_
    rw [show Po.mon (pol (rs.getD k.toNat rowD).xs : Po (El p m mod)) = ps.getD k.toNat 0 by rw [hpx, pol_il, Po.mon_of_monic hpi.2.1]]
    refine eV (eLitS rfl rfl rfl rfl (fun p10 => ?_))
    refine eV (eApp2 rfl rfl rfl rfl rfl (by first | rfl | simp) rfl (by first | (simp; done) | (simp; omega)) (by first | (simp; done) | (simp; omega)) (fun A10a c10a => ?_))
    refine pV ?_
    rw [fcs_snoc, fcs_length]
    refine tR fun _ _ _ => ?_
    refine sV (rAdd rfl rfl rfl (by omega) (by omega)) ?_
    refine pV ?_
    refine ⟨k + 1, A10a, c10a, gs ++ [⟨⟨Bm, cm, il (ps.getD k.toNat 0)⟩, (fs.getD j.toNat facD).k⟩], ⟨rfl, rfl, rfl, rfl, rfl, rfl, rfl, rfl, rfl, rfl, rfl, rfl, trivial⟩, by rw [rws_app]; exact rows_app (r := ⟨Bm, cm, il (ps.getD k.toNat 0)⟩), ?_⟩
    refine ⟨⟨⟨by omega, by omega⟩, ?_, by simp; omega⟩, by omega⟩
    rw [show (k + 1).toNat = k.toNat + 1 by omega, take_mapP (by omega), ← List.append_assoc]
    exact fpr_add hfk _ _ _ _
   ·try simp only [zbA] at h8
    refine tE ?_
    refine tR fun _ _ _ => ?_
    refine sV (rAdd rfl rfl rfl (by omega) (by omega)) ?_
    refine pV ?_
    refine ⟨j + 1, Bg, cg, gs, Ls ++ ps.map fun P => (P, (fs.getD j.toNat facD).k), ⟨rfl, rfl, rfl, rfl, rfl, rfl, rfl, rfl, trivial⟩, by first | exact cs _ _ | exact CSub.refl _, ?_⟩
    refine ⟨⟨⟨by omega, by omega⟩, ?_, ?_, by omega⟩, by omega⟩
    ·rw [show k.toNat = ps.length by omega, List.take_length] at hfk; exact hfk
    ·rw [show (j + 1).toNat = j.toNat + 1 by omega]
     exact hJ.next hm0 hI0 hjl hIr
  ·try simp only [zbA] at h5
   refine tE ?_
   refine tS ?_
   have hjf : j.toNat = fs.length := by omega
   rw [hjf] at hJ
   have hC := hJ.done hm0 hI0 hfp
   have hgl := hC.cnt hmle
   have hfle := hC.le hm0
   have hcmp : ∀ x ∈ gs, ∀ y ∈ gs, Pure Try.prog 96 ([Value.agg #[x.r.hdr, .int .i64 x.k], Value.agg #[y.r.hdr, .int .i64 y.k]] ++ [(.pointer (some p0) : Value)]).toArray [ro (some p0) [.pointer (some g.p)], gfR g, rowsR (rws gs)] (isV (.int .i64 (cmpL x.r.xs y.r.xs))) := fun x hx y hy => by
    have h1 := hfle x hx
    have h2 := hfle y hy
    have e1 := (hC.fc hm0 hx).2.2.2.1
    have e2 := (hC.fc hm0 hy).2.2.2.1
    have h3 := (cmt_cmp g p0 x.r.A _ x.r.cap x.k x.r.xs rfl (by omega) y.r.A _ y.r.cap y.k y.r.xs rfl (by omega)).sub (G' := [ro (some p0) [.pointer (some g.p)], gfR g, rowsR (rws gs)]) fun w hw ch hch => by
     simp only [List.mem_cons, List.not_mem_nil, or_false] at hch
     rcases hch with rfl | rfl | rfl | rfl
     ·exact hw _ (by simp)
     ·exact hw _ (by simp)
     ·exact hw (rowsR (rws gs)) (by simp) _ (List.mem_map.2 ⟨x, hx, rfl⟩)
     ·exact hw (rowsR (rws gs)) (by simp) _ (List.mem_map.2 ⟨y, hy, rfl⟩)
    rw [e1, e2, hgq, canL_il rfl, canL_il rfl, ← e1, ← e2] at h3
    exact h3
   refine tR fun _ _ _ => ?_
   refine pV ?_
   refine sV (rFun rfl rfl rfl) ?_
   refine eV (eCallM1 rfl rfl rfl (slc_SortFac hlib hnone Bg _ cg gs rfl (by omega) 96 [.pointer (some p0)] [ro (some p0) [.pointer (some g.p)], gfR g, rowsR (rws gs)] ⟨id, id, id, trivial⟩ (fun x y => cmpL x.r.xs y.r.xs) hcmp (fun x _ => cmpL_irr _) (fun x _ y _ z _ h1 h2 => cmpL_trans h1 h2) (fun x _ y _ z _ h1 h2 => cmpL_ntr h1 h2)) ⟨rfl, rfl, trivial⟩ ?_)
   rintro _ _ ⟨hs, rfl, rfl, hperm, hsrt⟩
   refine tS ?_
   have hhl := hperm.length_eq
   refine tR fun _ _ _ => ?_
   iterate 2 refine pV ?_
   refine sV (rLen rfl rfl) ?_
   refine sV (rSub rfl rfl rfl (by omega) (by omega)) ?_
   refine sV (rIdxI rfl rfl rfl (by omega) (by omega) (by omega)) ?_
   refine sV (rLdI rfl rfl (by omega)) ?_
   iterate 4 refine pV ?_
   have hlv : (il (pol a : Po (El p m mod))).getD (((il (pol a : Po (El p m mod))).length : Int) - 1).toNat 0 = (Po.lead (pol a : Po (El p m mod))).1 := by
    rw [il_getD, hil, show ((Po.len (pol a : Po (El p m mod)) : Int) - 1).toNat = Po.len (pol a : Po (El p m mod)) - 1 by omega]; rfl
   rw [hlv, ← hhl]
   exact tr_ret ⟨trivial, _, _, rfl, ⟨_, _, rfl, Bg, cg, hs, rfl, rfl, rfl, hC.perm hperm, (hC.perm hperm).rise hsrt, by omega⟩, (cs _ [rowsCh 3 (rws gs), ow2 Bg 64 cg (fcs hs)]).trans ((rows_permM (rs := rws gs) (qs := rws hs) (hperm.symm.map FacM.r) _).trans (cs _ _)), trivial, trivial, trivial⟩
end Go.Proofs.Ytbhoeaijpnjgdaa

set_option maxRecDepth 100000
namespace Go.Proofs.Ytbhoeaijpnjgdaa
open Go.RowKit
theorem ref_Divides_ent : Enters Try.prog 40 := enters_of Try.func40 (by kernel_rfl) (by kernel_rfl)
theorem ref_Divides (p m : Int) (A : Option Addr) (c : Nat) (mod : List Int) [hF : IsF p m mod] (Xa : Option Addr) (na ca : Nat) (a : List Int) (hna : na = a.length) (ha9 : a.length ≤ 1000000) (Xb : Option Addr) (nb cb : Nat) (b : List Int) (hnb : nb = b.length) (hb9 : b.length ≤ 17592186044415) (hbl : (il (pol b : Po (El p m mod))).length ≤ 1000000) (h0 : (pol b : Po (El p m mod)) ≠ 0) :
  Pure Try.prog 40 #[.agg #[.int .i64 p, .int .i64 m, .slice A mod.length c], .slice Xb nb cb, .slice Xa na ca] [ro A (ints mod), ro Xb (ints b), ro Xa (ints a)] (isV (.bool (decide (((Po.len (Po.rem (pol a : Po (El p m mod)) (pol b : Po (El p m mod))) : Nat) : Int) = 0)))) := by
 have hil := il_length (Po.rem (pol a : Po (El p m mod)) (pol b : Po (El p m mod)))
 refine pure_of (args := [.agg #[.int .i64 p, .int .i64 m, .slice A mod.length c], .slice Xb nb cb, .slice Xa na ca]) 13 Try.func40 rfl rfl rfl ref_Divides_ent ⟨id, id, id, trivial⟩ (fun w0 => ?_)
 refine tS ?_
 refine tR fun _ _ _ => ?_
 refine eV (eBox rfl rfl rfl rfl rfl (fun p0 => ?_))
 refine pV ?_
 refine tS ?_
 refine tR fun _ _ _ => ?_
 refine sV (rLdS rfl rfl rfl) ?_
 iterate 2 refine pV ?_
 refine eV (eCall1 rfl rfl rfl (ref_PRem p m A c mod Xa na ca a hna ha9 Xb nb cb b hnb hb9 hbl h0) ⟨rfl, rfl, rfl, trivial⟩ ?_)
 rintro _ _ ⟨B1, c1, rfl, rfl⟩
 refine sV (rLen rfl rfl) ?_
 iterate 2 refine pV ?_
 exact tr_ret ⟨trivial, _, _, rfl, ⟨by rw [hil], rfl⟩, CSub.nil _, trivial⟩
end Go.Proofs.Ytbhoeaijpnjgdaa

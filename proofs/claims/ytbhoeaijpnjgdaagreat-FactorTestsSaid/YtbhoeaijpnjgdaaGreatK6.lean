/-
  FACTORTESTS, PART 6 OF 9. One sentence: the texts behind the law FactorTests, put together.
  Conditions: each theorem's own, written out in it.
-/
import Derived.Test.YtbhoeaijpnjgdaaGreatK5
set_option linter.unusedSimpArgs false
set_option linter.unusedVariables false
set_option linter.unusedSectionVars false
set_option maxRecDepth 100000
set_option maxHeartbeats 1000000
namespace Go.Proofs.YtbhoeaijpnjgdaaGreat
open Go.RowKit
section
variable {p m : Int} {mod : List Int} [hF : IsF p m mod]
theorem xss_at {rs : List RowM} {ps : List (Po (El p m mod))} (h : xss rs = ps.map (fun b => il b)) {i : Nat} (hi : i < rs.length) : (rs.getD i rowD).xs = il (ps.getD i 0) := by
 have hl := congrArg List.length h
 simp only [xss_length, List.length_map] at hl
 have := congrArg (fun l => l.getD i []) h
 simp only [xss, List.getD_eq_getElem?_getD, List.getElem?_map, List.getElem?_eq_getElem hi, List.getElem?_eq_getElem (show i < ps.length by omega)] at this
 rw [List.getD_eq_getElem?_getD, List.getElem?_eq_getElem hi, List.getD_eq_getElem?_getD, List.getElem?_eq_getElem (show i < ps.length by omega)]
 exact this
theorem xss_len {rs : List RowM} {ps : List (Po (El p m mod))} (h : xss rs = ps.map (fun b => il b)) : rs.length = ps.length := by
 have hl := congrArg List.length h
 simpa only [xss_length, List.length_map] using hl
theorem xss_add {rs : List RowM} {ps : List (Po (El p m mod))} (h : xss rs = ps.map (fun b => il b)) (A : Option Addr) (c : Nat) (d : Po (El p m mod)) : xss (rs ++ [⟨A, c, il d⟩]) = (ps ++ [d]).map (fun b => il b) := by
 rw [xss_snoc, h, List.map_append]; rfl
theorem pol_one_c (x : Int) : (pol [x] : Po (El p m mod)) = Po.C (el x) := pol_one_k x
theorem all_el {q : Int} (hq : q = pw p m) (c : El p m mod) : ∃ s ∈ upI q.toNat, (el s : El p m mod) = c := by
 have hb := El.bd c
 refine ⟨c.1, List.mem_map.2 ⟨c.1.toNat, List.mem_range.2 (by omega), by omega⟩, el_of c⟩
end
def Al (A : Option Addr) (c : Nat) (l : List Int) (qs rs : List RowM) : Prop := qs = rs ∨ (qs = [] ∧ rs = [⟨A, c, l⟩])
theorem al_sub {A : Option Addr} {c : Nat} {l : List Int} {qs rs : List RowM} (h : Al A c l qs rs) (e : TypeId) (F : List Chunk) : CSub (rowsCh e qs :: ro A (ints l) :: F) (rowsR rs :: ro A (ints l) :: F) := by
 rcases h with rfl | ⟨rfl, rfl⟩
 ·exact rows_weak _
 ·exact (CSub.drop _ _).trans ((ro_dup F).trans (rowsR_one (r := ⟨A, c, l⟩) _))
theorem fac_split_ent : Enters Tryz.prog 44 := enters_of Tryz.func44 (by kernel_rfl) (by kernel_rfl)
theorem fac_split (g : GfM) {p m : Int} {mod : List Int} [hF : IsF p m mod] (hg : GOk g p m mod) (A : Option Addr) (c0 : Nat) (f : Po (El p m mod)) (hl : Po.lead f = 1) (h2 : 2 ≤ Po.len f) (h9 : Po.len f ≤ 257) (hs : Po.Sf f) :
  Pure Tryz.prog 44 #[.pointer (some g.p), .slice A (il f).length c0] [gfR g, ro A (ints (il f))] (two (fun v ca cb => ∃ B cap rs qs, ∃ ps : List (Po (El p m mod)), v = .slice B rs.length cap ∧ ca = ow B 22 cap (hdrs rs) ∧ cb = rowsCh 3 qs ∧ Al A c0 (il f) qs rs ∧ xss rs = ps.map (fun b => il b) ∧ IrL f ps ∧ prd ps = f ∧ rs.length ≤ 256)) := by
 have hq2 := hF.q2
 have hq9 := hF.out.1.1.q
 have hgq := hg.eq
 have hf0 : f ≠ 0 := lead1_ne hl
 have hilf := il_length f
 refine pure_of (args := [.pointer (some g.p), .slice A (il f).length c0]) 70 Tryz.func44 rfl rfl rfl fac_split_ent ⟨id, id, trivial⟩ (fun w0 => ?_)
 refine tS ?_
 refine tR fun _ _ _ => ?_
 refine eV (eBox rfl rfl rfl rfl rfl (fun p0 => ?_))
 refine pV ?_
 refine tS ?_
 refine tR fun _ _ _ => ?_
 refine sV (rLd0 rfl rfl) ?_
 refine pV ?_
 refine eV (eCall2 rfl rfl rfl (fac_fixed g hg A (il f).length c0 (Po.len f - 1) f (by omega) (by omega) (by omega) hl h9) ⟨rfl, rfl, trivial⟩ ?_)
 rintro _ _ _ ⟨B1, cap1, os, rfl, rfl, rfl, bs, hbs, hB, hol⟩
 refine pV ?_
 refine tS ?_
 have hbl := xss_len hbs
 refine tR fun _ _ _ => ?_
 refine pV ?_
 refine eV (eLit1 rfl rfl rfl rfl rfl (fun A2 => ?_))
 refine pV ?_
 rw [show [Value.slice A (il f).length c0] = hdrs [(⟨A, c0, il f⟩ : RowM)] from rfl]
 refine tS ?_
 refine tS ?_
 refine tR fun _ _ _ => ?_
 refine pV ?_
 refine sV (rLen rfl rfl) ?_
 refine pV ?_
 refine tB ?_
 refine tr_loop6 (fun (i : Int) (Bp : Option Addr) (cp : Nat) (rs : List RowM) (qs : List RowM) (ps : List (Po (El p m mod))) => [(2, .pointer (some p0)), (6, .slice Bp rs.length cp), (5, .slice B1 os.length cap1), (20, .slice B1 os.length cap1), (21, .int .i64 (os.length : Nat)), (22, .int .i64 i), (4, .slice none 0 0)]) (fun (i : Int) (Bp : Option Addr) (cp : Nat) (rs : List RowM) (qs : List RowM) (ps : List (Po (El p m mod))) => [ow Bp 22 cp (hdrs rs), rowsCh 3 qs, ow B1 22 cap1 (hdrs os), rowsCh 3 os, blk p0 25 [.pointer (some g.p)], gfR g, ro A (ints (il f))]) (fun (i : Int) (Bp : Option Addr) (cp : Nat) (rs : List RowM) (qs : List RowM) (ps : List (Po (El p m mod))) => (0 ≤ i ∧ i ≤ os.length) ∧ Al A c0 (il f) qs rs ∧ xss rs = ps.map (fun b => il b) ∧ SpB f bs i.toNat ps) (fun (i : Int) (Bp : Option Addr) (cp : Nat) (rs : List RowM) (qs : List RowM) (ps : List (Po (El p m mod))) => (os.length - i).toNat) (0) (A2) (1) ([⟨A, c0, il f⟩]) ([]) ([f]) ⟨rfl, rfl, rfl, rfl, rfl, rfl, rfl, trivial⟩ (by exact (rows_nil 3 _).trans (cs _ _)) (⟨⟨by omega, by omega⟩, .inr ⟨rfl, rfl⟩, rfl, SpB.start hl h2⟩) (fun i Bp cp rs qs ps hI => ?_)
 obtain ⟨⟨hi0, hi1⟩, hal, hxs, hS⟩ := hI
 have hpsl := xss_len hxs
 have hple := hS.pts.le
 refine tS ?_
 refine tR fun _ _ _ => ?_
 refine pV ?_
 refine tS ?_
 refine tC rfl (fun h4 => ?_) (fun h4 => ?_)
 ·try simp only [zbA] at h4
  refine tK ?_
  refine tS ?_
  refine tB ?_
  refine tS ?_
  haveI : InB i.toNat os.length := ⟨by omega⟩
  have hvx := xss_at hbs (show i.toNat < os.length by omega)
  have hvm := hB.sub _ (Vc.getD_eq_mem (show i.toNat < bs.length by omega) 0)
  have hvl := il_length (bs.getD i.toNat 0)
  have hvl2 := congrArg List.length hvx
  refine tR fun _ _ _ => ?_
  refine sV (rIdxR rfl rfl rfl (by omega) (by omega) (by omega)) ?_
  refine sV (rLdR rfl rfl (by omega)) ?_
  refine eV (eAlloc rfl rfl rfl (fun p5 => ?_))
  refine eV (eSt0 rfl rfl rfl rfl rfl rfl ?_)
  refine tS ?_
  refine tS ?_
  refine tR fun _ _ _ => ?_
  refine pV ?_
  refine sV (rLen rfl rfl) ?_
  refine pV ?_
  refine sV (rLen rfl rfl) ?_
  refine pV ?_
  refine tC rfl (fun h6 => ?_) (fun h6 => ?_)
  ·try simp only [zbA] at h6
   refine tE ?_
   refine tS ?_
   refine tR fun _ _ _ => ?_
   iterate 2 refine pV ?_
   have hIr := hS.done hl hs hB (by omega)
   exact tr_ret ⟨trivial, _, _, rfl, ⟨_, _, rfl, Bp, cp, rs, qs, ps, rfl, rfl, rfl, hal, hxs, hIr, hS.pts.prod, by omega⟩, cs _ _, trivial, trivial, trivial⟩
  ·try simp only [zbA] at h6
   refine tK ?_
   refine tS ?_
   refine tS ?_
   refine tR fun _ _ _ => ?_
   refine sV (rLd0 rfl rfl) ?_
   refine sV (rLen rfl rfl) ?_
   refine pV ?_
   refine tC rfl (fun h7 => ?_) (fun h7 => ?_)
   ·try simp only [zbA] at h7
    refine tE ?_
    refine tR fun _ _ _ => ?_
    refine sV (rAdd rfl rfl rfl (by omega) (by omega)) ?_
    refine pV ?_
    refine ⟨i + 1, Bp, cp, rs, qs, ps, ⟨rfl, rfl, rfl, rfl, rfl, rfl, rfl, trivial⟩, by first | exact cs _ _ | exact CSub.refl _, ?_⟩
    refine ⟨⟨⟨by omega, by omega⟩, hal, hxs, ?_⟩, by omega⟩
    rw [show (i + 1).toNat = i.toNat + 1 by omega]
    exact hS.skip (by omega) (by omega)
   ·try simp only [zbA] at h7
    refine tK ?_
    refine tS ?_
    refine tR fun _ _ _ => ?_
    refine eV (eAlloc rfl rfl rfl (fun p8 => ?_))
    refine tS ?_
    refine tS ?_
    refine tr_chunks [rowsR rs, ro A (ints (il f)), ow Bp 22 cp (hdrs rs), blk p8 54 [.slice none 0 0], blk p5 22 [.slice (os.getD i.toNat rowD).A (os.getD i.toNat rowD).xs.length (os.getD i.toNat rowD).cap], ow B1 22 cap1 (hdrs os), rowsCh 3 os, blk p0 25 [.pointer (some g.p)], gfR g] ((cs _ [rowsCh 3 qs, ro A (ints (il f)), ow Bp 22 cp (hdrs rs), blk p8 54 [.slice none 0 0], blk p5 22 [.slice (os.getD i.toNat rowD).A (os.getD i.toNat rowD).xs.length (os.getD i.toNat rowD).cap], ow B1 22 cap1 (hdrs os), rowsCh 3 os, blk p0 25 [.pointer (some g.p)], gfR g]).trans (al_sub hal 3 _)) ?_
    refine tR fun _ _ _ => ?_
    refine pV ?_
    refine sV (rLen rfl rfl) ?_
    refine pV ?_
    refine tB ?_
    refine tr_nilR 22 3 ?_
    refine tr_loop5 (fun (k : Int) (Bn : Option Addr) (cn : Nat) (ns : List RowM) (nps : List (Po (El p m mod))) => [(2, .pointer (some p0)), (8, .pointer (some p5)), (9, .pointer (some p8)), (34, .slice Bp rs.length cp), (35, .int .i64 (rs.length : Nat)), (36, .int .i64 k), (4, .slice none 0 0), (5, .slice B1 os.length cap1), (6, .slice Bp rs.length cp), (20, .slice B1 os.length cap1), (21, .int .i64 (os.length : Nat)), (22, .int .i64 i), (26, .slice Bp rs.length cp), (27, .int .i64 rs.length), (28, .slice B1 os.length cap1), (29, .int .i64 os.length)]) (fun (k : Int) (Bn : Option Addr) (cn : Nat) (ns : List RowM) (nps : List (Po (El p m mod))) => [blk p8 54 [.slice Bn ns.length cn], ow Bn 22 cn (hdrs ns), rowsCh 3 ns, rowsR rs, ow Bp 22 cp (hdrs rs), blk p5 22 [.slice (os.getD i.toNat rowD).A (os.getD i.toNat rowD).xs.length (os.getD i.toNat rowD).cap], ow B1 22 cap1 (hdrs os), rowsCh 3 os, blk p0 25 [.pointer (some g.p)], gfR g, ro A (ints (il f))]) (fun (k : Int) (Bn : Option Addr) (cn : Nat) (ns : List RowM) (nps : List (Po (El p m mod))) => (0 ≤ k ∧ k ≤ rs.length) ∧ xss ns = nps.map (fun b => il b) ∧ SpP bs (bs.getD i.toNat 0) ps k.toNat nps) (fun (k : Int) (Bn : Option Addr) (cn : Nat) (ns : List RowM) (nps : List (Po (El p m mod))) => (rs.length - k).toNat) (0) (none) (0) ([]) ([]) ⟨rfl, rfl, rfl, rfl, rfl, rfl, rfl, rfl, rfl, rfl, rfl, rfl, rfl, rfl, rfl, rfl, trivial⟩ (by first | exact cs _ _ | exact CSub.refl _) (⟨⟨by omega, by omega⟩, rfl, SpP.start⟩) (fun k Bn cn ns nps hI => ?_)
    obtain ⟨⟨hk0, hk1⟩, hxn, hP⟩ := hI
    refine tS ?_
    refine tR fun _ _ _ => ?_
    refine pV ?_
    refine tS ?_
    refine tC rfl (fun h10 => ?_) (fun h10 => ?_)
    ·try simp only [zbA] at h10
     refine tK ?_
     refine tS ?_
     refine tB ?_
     refine tS ?_
     haveI : InB k.toNat rs.length := ⟨by omega⟩
     have hpx := xss_at hxs (show k.toNat < rs.length by omega)
     have hpm := Vc.getD_eq_mem (show k.toNat < ps.length by omega) (0 : Po (El p m mod))
     have hpe := hS.pts.each _ hpm
     have hpd := hS.pts.dvd hpm
     have hpl := Po.dvd_len hpd hf0
     have hg0 := lead1_ne hpe.1
     have hpl2 := il_length (ps.getD k.toNat 0)
     refine tR fun _ _ _ => ?_
     refine sV (rIdxR rfl rfl rfl (by omega) (by omega) (by omega)) ?_
     refine sV (rLdR rfl rfl (by omega)) ?_
     refine pV ?_
     refine tS ?_
     rw [hpx]
     refine tR fun _ _ _ => ?_
     refine pV ?_
     refine eV (eAlloc rfl rfl rfl (fun p12 => ?_))
     refine eV (eSt0 rfl rfl rfl rfl rfl rfl ?_)
     refine tr_chunks [ro (rs.getD k.toNat rowD).A (ints (il (ps.getD k.toNat 0))), blk p12 22 [.slice (rs.getD k.toNat rowD).A (il (ps.getD k.toNat 0)).length (rs.getD k.toNat rowD).cap], blk p8 54 [.slice Bn ns.length cn], ow Bn 22 cn (hdrs ns), rowsCh 3 ns, rowsR rs, ow Bp 22 cp (hdrs rs), blk p5 22 [.slice (os.getD i.toNat rowD).A (os.getD i.toNat rowD).xs.length (os.getD i.toNat rowD).cap], ow B1 22 cap1 (hdrs os), rowsCh 3 os, blk p0 25 [.pointer (some g.p)], gfR g, ro A (ints (il f))] (hpx ▸ (cs _ [rowsR rs, blk p12 22 [.slice (rs.getD k.toNat rowD).A (rs.getD k.toNat rowD).xs.length (rs.getD k.toNat rowD).cap], blk p8 54 [.slice Bn ns.length cn], ow Bn 22 cn (hdrs ns), rowsCh 3 ns, ow Bp 22 cp (hdrs rs), blk p5 22 [.slice (os.getD i.toNat rowD).A (os.getD i.toNat rowD).xs.length (os.getD i.toNat rowD).cap], ow B1 22 cap1 (hdrs os), rowsCh 3 os, blk p0 25 [.pointer (some g.p)], gfR g, ro A (ints (il f))]).trans ((row_ro (getD_mem (show k.toNat < rs.length by omega) rowD) _).trans (cs _ _))) ?_
     refine tS ?_
     refine tR fun _ _ _ => ?_
     refine sV (rLd0 rfl rfl) ?_
     refine eV (eCall1 rfl rfl rfl (gf_Elements _) ⟨rfl, trivial⟩ ?_)
     rintro _ _ ⟨B13, rfl, rfl⟩
     refine tB ?_
     refine tr_range (hseq := elems_gives (by omega) (by omega)) rfl gf_Elements1_ent rfl rfl rfl rfl rfl (fun (q : (Option Addr) × Nat × (List RowM) × (List (Po (El p m mod))) × (Option Addr) × Nat × (Po (El p m mod))) => match q with | (Bn, cn, ms, ds, Br, cr, rest) => [blk p12 22 [.slice Br (il rest).length cr], ro Br (ints (il rest)), blk p8 54 [.slice Bn ms.length cn], ow Bn 22 cn (hdrs ms), rowsCh 3 ms, rowsR rs, ow Bp 22 cp (hdrs rs), blk B13 25 [.pointer (some g.p)], blk p5 22 [.slice (os.getD i.toNat rowD).A (os.getD i.toNat rowD).xs.length (os.getD i.toNat rowD).cap], ow B1 22 cap1 (hdrs os), rowsCh 3 os, blk p0 25 [.pointer (some g.p)], gfR g, ro A (ints (il f))]) (fun (pre : List Int) (q : (Option Addr) × Nat × (List RowM) × (List (Po (El p m mod))) × (Option Addr) × Nat × (Po (El p m mod))) => match q with | (Bn, cn, ms, ds, Br, cr, rest) => xss ms = (nps ++ ds).map (fun b => il b) ∧ SpE (bs.getD i.toNat 0) (ps.getD k.toNat 0) pre ds rest ∧ 2 ≤ Po.len rest) (Bn, cn, ns, [], (rs.getD k.toNat rowD).A, (rs.getD k.toNat rowD).cap, (ps.getD k.toNat 0)) (by first | exact cs _ _ | exact CSub.refl _) (⟨by rw [List.append_nil]; exact hxn, SpE.start hpe.1, hpe.2⟩) ?_ ?_
     ·rintro pre x ⟨Bn, cn, ms, ds, Br, cr, rest⟩ l M0 W0 hlen hI
      obtain ⟨hx, hE, hr2⟩ := hI
      refine tB ?_
      refine tS ?_
      have hpv : (pol (os.getD i.toNat rowD).xs : Po (El p m mod)) = (bs.getD i.toNat 0) := by rw [hvx, pol_il]
      have hrl := il_length rest
      have hEl := hE.le hg0
      have hx1 := il_length (pol (os.getD i.toNat rowD).xs - pol [x] : Po (El p m mod))
      have hx2 := Po.len_sub (pol (os.getD i.toNat rowD).xs) (pol [x] : Po (El p m mod))
      have hx3 := Po.len_le (pol_sh (p := p) (m := m) (mod := mod) (os.getD i.toNat rowD).xs)
      have hx4 := Po.len_le (pol_sh (p := p) (m := m) (mod := mod) [x])
      have hx5 : [x].length = 1 := rfl
      refine tr_draw [0, 1, 2, 3, 4, 5, 6, 7, 8] [] mixed (by kernel_rfl) fun _ _ _ => ?_
      refine sV (rLd0 rfl rfl) ?_
      refine sV (rLd0 rfl rfl) ?_
      refine sV (rLd0 rfl rfl) ?_
      refine sV (rLd0 rfl rfl) ?_
      refine pV ?_
      refine eV (eLit1I rfl rfl rfl rfl (fun A15 => ?_))
      refine eV (eCall1 rfl rfl rfl (poly_Sub g hg (os.getD i.toNat rowD).A _ (os.getD i.toNat rowD).cap (os.getD i.toNat rowD).xs rfl (by omega) A15 1 1 [x] rfl (by simp)) ⟨rfl, rfl, rfl, trivial⟩ ?_)
      rintro _ _ ⟨Bs, cs_, rfl, rfl⟩
      refine eV (eCall1 rfl rfl rfl (poly_Gcd g hg Br _ cr (il rest) rfl (by omega) Bs _ cs_ (il (pol (os.getD i.toNat rowD).xs - pol [x])) rfl (by omega) (.inl (by rw [pol_il]; exact hE.ne))) ⟨rfl, rfl, rfl, trivial⟩ ?_)
      rintro _ _ ⟨Bd, cd, rfl, rfl⟩
      refine pV ?_
      rw [pol_il, pol_il, hpv, pol_one_c]
      have hdl := il_length (Po.gcd rest ((bs.getD i.toNat 0) - Po.C (el x)))
      have hdl2 := hE.gcd_le ((bs.getD i.toNat 0) - Po.C (el x))
      refine tS ?_
      refine tS ?_
      refine tR fun _ _ _ => ?_
      refine pV ?_
      refine sV (rLen rfl rfl) ?_
      refine pV ?_
      refine tC rfl (fun h16 => ?_) (fun h16 => ?_)
      ·try simp only [zbA] at h16
       refine tS ?_
       have hms := xss_len hx
       rw [List.length_append] at hms
       have hPl := hP.le hS.pts hf0
       have hyes := hE.yes (hs.of_dvd hpd) x (by omega)
       refine tR fun _ _ _ => ?_
       refine sV (rLd0 rfl rfl) ?_
       refine pV ?_
       refine eV (eLit1 rfl rfl rfl rfl rfl (fun A17 => ?_))
       refine eV (eAppR rfl rfl rfl rfl rfl (by first | rfl | simp | omega) (by omega) (fun A17a c17a => ?_))
       refine eV (eSt0 rfl rfl rfl rfl rfl rfl ?_)
       refine tR fun _ _ _ => ?_
       refine sV (rLd0 rfl rfl) ?_
       refine sV (rLd0 rfl rfl) ?_
       refine pV ?_
       refine eV (eCall1 rfl rfl rfl (fac_quo g hg Br _ cr (il rest) rfl (by omega) Bd _ cd (il (Po.gcd rest ((bs.getD i.toNat 0) - Po.C (el x)))) rfl (by omega) (by rw [pol_il]; exact hE.ne2 _)) ⟨rfl, rfl, rfl, trivial⟩ ?_)
       rintro _ _ ⟨Bq, cq, rfl, rfl⟩
       refine eV (eSt0 rfl rfl rfl rfl rfl rfl ?_)
       rw [pol_il, pol_il]
       have hql := il_length (Po.quo rest (Po.gcd rest ((bs.getD i.toNat 0) - Po.C (el x))))
       refine tr_chunks [blk p12 22 [.slice Bq (il (Po.quo rest (Po.gcd rest ((bs.getD i.toNat 0) - Po.C (el x))))).length cq], ro Bq (ints (il (Po.quo rest (Po.gcd rest ((bs.getD i.toNat 0) - Po.C (el x)))))), blk p8 54 [.slice A17a (ms ++ [(⟨Bd, cd, il (Po.gcd rest ((bs.getD i.toNat 0) - Po.C (el x)))⟩ : RowM)]).length c17a], ow A17a 22 c17a (hdrs (ms ++ [(⟨Bd, cd, il (Po.gcd rest ((bs.getD i.toNat 0) - Po.C (el x)))⟩ : RowM)])), rowsCh 3 (ms ++ [(⟨Bd, cd, il (Po.gcd rest ((bs.getD i.toNat 0) - Po.C (el x)))⟩ : RowM)]), rowsR rs, ow Bp 22 cp (hdrs rs), blk B13 25 [.pointer (some g.p)], blk p5 22 [.slice (os.getD i.toNat rowD).A (os.getD i.toNat rowD).xs.length (os.getD i.toNat rowD).cap], ow B1 22 cap1 (hdrs os), rowsCh 3 os, blk p0 25 [.pointer (some g.p)], gfR g, ro A (ints (il f))] ((cs _ [rowsCh 3 ms, ow Bd 3 cd (ints (il (Po.gcd rest ((bs.getD i.toNat 0) - Po.C (el x))))), ow Bq 3 cq (ints (il (Po.quo rest (Po.gcd rest ((bs.getD i.toNat 0) - Po.C (el x)))))), blk p12 22 [.slice Bq (il (Po.quo rest (Po.gcd rest ((bs.getD i.toNat 0) - Po.C (el x))))).length cq], blk p8 54 [.slice A17a (ms ++ [(⟨Bd, cd, il (Po.gcd rest ((bs.getD i.toNat 0) - Po.C (el x)))⟩ : RowM)]).length c17a], ow A17a 22 c17a (hdrs (ms ++ [(⟨Bd, cd, il (Po.gcd rest ((bs.getD i.toNat 0) - Po.C (el x)))⟩ : RowM)])), rowsR rs, ow Bp 22 cp (hdrs rs), blk B13 25 [.pointer (some g.p)], blk p5 22 [.slice (os.getD i.toNat rowD).A (os.getD i.toNat rowD).xs.length (os.getD i.toNat rowD).cap], ow B1 22 cap1 (hdrs os), rowsCh 3 os, blk p0 25 [.pointer (some g.p)], gfR g, ro A (ints (il f))]).trans ((rows_snoc (r := ⟨Bd, cd, il (Po.gcd rest ((bs.getD i.toNat 0) - Po.C (el x)))⟩) _).trans ((CSub.cons _ (ow_ro _)).trans (cs _ _)))) ?_
       refine tS ?_
       refine tR fun _ _ _ => ?_
       refine sV (rLd0 rfl rfl) ?_
       refine sV (rLen rfl rfl) ?_
       refine pV ?_
       refine tC rfl (fun h19 => ?_) (fun h19 => ?_)
       ·try simp only [zbA] at h19
        refine tE ?_
        intro hpre
        refine tR fun _ _ _ => ?_
        refine sV (rAdd rfl rfl rfl (by omega) (by omega)) ?_
        refine pV ?_
        refine ⟨k + 1, A17a, c17a, ms ++ [⟨Bd, cd, il (Po.gcd rest ((bs.getD i.toNat 0) - Po.C (el x)))⟩], nps ++ (ds ++ [(Po.gcd rest ((bs.getD i.toNat 0) - Po.C (el x)))]), ⟨rfl, rfl, rfl, rfl, rfl, rfl, rfl, rfl, rfl, rfl, rfl, rfl, rfl, rfl, rfl, rfl, trivial⟩, by first | exact cs _ _ | exact CSub.refl _, ?_⟩
        refine ⟨⟨⟨by omega, by omega⟩, by rw [← List.append_assoc]; exact xss_add hx _ _ _, ?_⟩, by omega⟩
        rw [show (k + 1).toNat = k.toNat + 1 by omega]
        exact hP.next (by omega) hyes.each (hyes.end1 (by omega))
       ·try simp only [zbA] at h19
        refine tK ?_
        refine ⟨(A17a, c17a, ms ++ [⟨Bd, cd, il (Po.gcd rest ((bs.getD i.toNat 0) - Po.C (el x)))⟩], ds ++ [(Po.gcd rest ((bs.getD i.toNat 0) - Po.C (el x)))], Bq, cq, Po.quo rest (Po.gcd rest ((bs.getD i.toNat 0) - Po.C (el x)))), by first | exact cs _ _ | exact CSub.refl _, ?_⟩
        exact ⟨by rw [← List.append_assoc]; exact xss_add hx _ _ _, hyes, by omega⟩
      ·try simp only [zbA] at h16
       refine tK ?_
       refine tS ?_
       refine tR fun _ _ _ => ?_
       refine sV (rLd0 rfl rfl) ?_
       refine sV (rLen rfl rfl) ?_
       refine pV ?_
       refine tC rfl (fun h19 => ?_) (fun h19 => ?_)
       ·try simp only [zbA] at h19
        refine tE ?_
        intro hpre
        refine tR fun _ _ _ => ?_
        refine sV (rAdd rfl rfl rfl (by omega) (by omega)) ?_
        refine pV ?_
        refine ⟨k + 1, Bn, cn, ms, nps ++ ds, ⟨rfl, rfl, rfl, rfl, rfl, rfl, rfl, rfl, rfl, rfl, rfl, rfl, rfl, rfl, rfl, rfl, trivial⟩, by first | exact cs _ _ | exact CSub.refl _, ?_⟩
        omega
       ·try simp only [zbA] at h19
        refine tK ?_
        refine ⟨(Bn, cn, ms, ds, Br, cr, rest), by first | exact cs _ _ | exact CSub.refl _, ?_⟩
        exact ⟨hx, hE.no' x (by omega), hr2⟩
     ·rintro ⟨Bn, cn, ms, ds, Br, cr, rest⟩ hI
      obtain ⟨hx, hE, hr2⟩ := hI
      refine tR fun _ _ _ => ?_
      refine sV (rAdd rfl rfl rfl (by omega) (by omega)) ?_
      refine pV ?_
      refine ⟨k + 1, Bn, cn, ms, nps ++ ds, ⟨rfl, rfl, rfl, rfl, rfl, rfl, rfl, rfl, rfl, rfl, rfl, rfl, rfl, rfl, rfl, rfl, trivial⟩, by first | exact cs _ _ | exact CSub.refl _, ?_⟩
      refine ⟨⟨⟨by omega, by omega⟩, hx, ?_⟩, by omega⟩
      rw [show (k + 1).toNat = k.toNat + 1 by omega]
      exact hP.next (by omega) hE.each (hE.end2 hvm.2 hpd (all_el hgq))
    ·try simp only [zbA] at h10
     refine tE ?_
     refine tR fun _ _ _ => ?_
     refine sV (rLd0 rfl rfl) ?_
     refine pV ?_
     refine tR fun _ _ _ => ?_
     refine sV (rAdd rfl rfl rfl (by omega) (by omega)) ?_
     refine pV ?_
     refine ⟨i + 1, Bn, cn, ns, ns, nps, ⟨rfl, rfl, rfl, rfl, rfl, rfl, rfl, trivial⟩, by first | exact cs _ _ | exact CSub.refl _, ?_⟩
     refine ⟨⟨⟨by omega, by omega⟩, .inl rfl, hxn, ?_⟩, by omega⟩
     rw [show (i + 1).toNat = i.toNat + 1 by omega]
     exact hS.next (by omega) (by rw [show ps.length = k.toNat by omega]; exact hP)
 ·try simp only [zbA] at h4
  refine tE ?_
  refine tS ?_
  refine tR fun _ _ _ => ?_
  iterate 2 refine pV ?_
  have hIr := hS.done hl hs hB (by omega)
  exact tr_ret ⟨trivial, _, _, rfl, ⟨_, _, rfl, Bp, cp, rs, qs, ps, rfl, rfl, rfl, hal, hxs, hIr, hS.pts.prod, by omega⟩, cs _ _, trivial, trivial, trivial⟩
end Go.Proofs.YtbhoeaijpnjgdaaGreat

namespace Go.Proofs.YtbhoeaijpnjgdaaGreat
open Go.RowKit
theorem cmpN_lt (a b : List Int) : ∀ n, cmpN a b n < 0 ↔ ∃ i, i < n ∧ a.getD i 0 < b.getD i 0 ∧ ∀ k, i < k → k < n → a.getD k 0 = b.getD k 0
 | 0 => ⟨fun h => by simp [cmpN] at h, fun ⟨i, h, _⟩ => by omega⟩
 | n + 1 => by
  have ih := cmpN_lt a b n
  simp only [cmpN]
  split
  ·rename_i h
   exact ⟨fun _ => ⟨n, by omega, h, fun k h1 h2 => by omega⟩, fun _ => by omega⟩
  ·rename_i h
   split
   ·rename_i h2
    refine ⟨fun h => by omega, fun ⟨i, h3, h4, h5⟩ => ?_⟩
    rcases Nat.lt_or_ge i n with e | e
    ·have := h5 n e (by omega)
     omega
    ·have : i = n := by omega
     subst this; omega
   ·rename_i h2
    rw [ih]
    constructor
    ·rintro ⟨i, h3, h4, h5⟩
     refine ⟨i, by omega, h4, fun k h6 h7 => ?_⟩
     rcases Nat.lt_or_ge k n with e | e
     ·exact h5 k h6 e
     ·have : k = n := by omega
      subst this; omega
    ·rintro ⟨i, h3, h4, h5⟩
     rcases Nat.lt_or_ge i n with e | e
     ·exact ⟨i, e, h4, fun k h6 h7 => h5 k h6 (by omega)⟩
     ·have : i = n := by omega
      subst this; omega
theorem cmpN_eq (a b : List Int) : ∀ n, cmpN a b n = 0 ↔ ∀ i, i < n → a.getD i 0 = b.getD i 0
 | 0 => ⟨fun _ i h => by omega, fun _ => rfl⟩
 | n + 1 => by
  have ih := cmpN_eq a b n
  simp only [cmpN]
  split
  ·rename_i h
   exact ⟨fun e => by omega, fun e => by have := e n (by omega); omega⟩
  ·split
   ·rename_i h
    exact ⟨fun e => by omega, fun e => by have := e n (by omega); omega⟩
   ·rw [ih]
    refine ⟨fun e i hi => ?_, fun e i hi => e i (by omega)⟩
    rcases Nat.lt_or_ge i n with h | h
    ·exact e i h
    ·have : i = n := by omega
     subst this; omega
theorem cmpL_eq (a b : List Int) : cmpL a b = 0 ↔ a = b := by
 constructor
 ·intro h
  unfold cmpL at h
  split at h
  ·omega
  ·split at h
   ·omega
   ·exact ext_getD (by omega) fun j => by
     have := (cmpN_eq a b a.length).1 h
     rcases Nat.lt_or_ge j a.length with e | e
     ·exact this j e
     ·rw [getD_out e, getD_out (by omega)]
 ·rintro rfl
  unfold cmpL
  rw [if_neg (by omega), if_neg (by omega)]
  exact (cmpN_eq a a a.length).2 fun i _ => rfl
theorem cmpL_lt (a b : List Int) : cmpL a b < 0 ↔ a.length < b.length ∨ (a.length = b.length ∧ ∃ i, i < a.length ∧ a.getD i 0 < b.getD i 0 ∧ ∀ k, i < k → k < a.length → a.getD k 0 = b.getD k 0) := by
 unfold cmpL
 split
 ·rename_i h; exact ⟨fun _ => .inl h, fun _ => by omega⟩
 ·split
  ·rename_i h; exact ⟨fun h => by omega, fun h => by omega⟩
  ·rename_i h1 h2
   rw [cmpN_lt]
   exact ⟨fun h => .inr ⟨by omega, h⟩, fun h => h.elim (fun h => absurd h h1) (fun h => h.2)⟩
theorem cmpL_trans {a b c : List Int} (h : cmpL a b < 0) (k : cmpL b c < 0) : cmpL a c < 0 := by
 rw [cmpL_lt] at *
 rcases h with h | ⟨h, i, h1, h2, h3⟩
 ·rcases k with k | ⟨k, _⟩
  ·exact .inl (by omega)
  ·exact .inl (by omega)
 ·rcases k with k | ⟨k, j, k1, k2, k3⟩
  ·exact .inl (by omega)
  ·refine .inr ⟨by omega, ?_⟩
   rcases Nat.lt_trichotomy i j with e | e | e
   ·exact ⟨j, by omega, by rw [h3 j e (by omega)]; exact k2, fun t t1 t2 => by rw [h3 t (by omega) t2]; exact k3 t t1 (by omega)⟩
   ·subst e
    exact ⟨i, h1, by omega, fun t t1 t2 => by rw [h3 t t1 t2]; exact k3 t t1 (by omega)⟩
   ·exact ⟨i, h1, by rw [← k3 i e (by omega)]; exact h2, fun t t1 t2 => by rw [h3 t t1 t2]; exact k3 t (by omega) (by omega)⟩
theorem cmpL_irr (a : List Int) : ¬ cmpL a a < 0 := by rw [(cmpL_eq a a).2 rfl]; omega
theorem cmpL_not {a b : List Int} : ¬ cmpL a b < 0 ↔ a = b ∨ cmpL b a < 0 := by
 have h1 := cmpL_neg a b
 have h2 := cmpL_eq a b
 constructor
 ·intro h
  by_cases e : cmpL a b = 0
  ·exact .inl (h2.1 e)
  ·exact .inr (by omega)
 ·rintro (rfl | h)
  ·exact cmpL_irr a
  ·omega
theorem cmpL_ntr {a b c : List Int} (h : ¬ cmpL a b < 0) (k : ¬ cmpL b c < 0) : ¬ cmpL a c < 0 := by
 rw [cmpL_not] at *
 rcases h with rfl | h
 ·exact k
 ·rcases k with rfl | k
  ·exact .inr h
  ·exact .inr (cmpL_trans k h)
theorem rise_eq {α : Type} {lt : α → α → Prop} (hirr : ∀ a, ¬ lt a a) (htr : ∀ a b c, lt a b → lt b c → lt a c) : ∀ {l k : List α}, l.Pairwise lt → k.Pairwise lt → (∀ x, x ∈ l ↔ x ∈ k) → l = k
 | [], [], _, _, _ => rfl
 | [], b :: k, _, _, h => absurd ((h b).2 (List.mem_cons_self ..)) (by simp)
 | a :: l, [], _, _, h => absurd ((h a).1 (List.mem_cons_self ..)) (by simp)
 | a :: l, b :: k, hl, hk, h => by
  have h1 := List.pairwise_cons.1 hl
  have h2 := List.pairwise_cons.1 hk
  have hab : a = b := by
   rcases List.mem_cons.1 ((h a).1 (List.mem_cons_self ..)) with e | e
   ·exact e
   ·rcases List.mem_cons.1 ((h b).2 (List.mem_cons_self ..)) with e2 | e2
    ·exact e2.symm
    ·exact absurd (htr _ _ _ (h2.1 a e) (h1.1 b e2)) (hirr b)
  subst hab
  have := rise_eq hirr htr h1.2 h2.2 fun x => by
   constructor
   ·intro hx
    rcases List.mem_cons.1 ((h x).1 (List.mem_cons_of_mem _ hx)) with e | e
    ·subst e; exact absurd (h1.1 x hx) (hirr x)
    ·exact e
   ·intro hx
    rcases List.mem_cons.1 ((h x).2 (List.mem_cons_of_mem _ hx)) with e | e
    ·subst e; exact absurd (h2.1 x hx) (hirr x)
    ·exact e
  rw [this]
def fpr (gs : List FacM) : List (List Int × Int) := gs.map fun e => (e.r.xs, e.k)
@[simp] theorem fpr_length (gs : List FacM) : (fpr gs).length = gs.length := by simp [fpr]
theorem fpr_app (gs hs : List FacM) : fpr (gs ++ hs) = fpr gs ++ fpr hs := by simp [fpr]
section
variable {p m : Int} {mod : List Int} [hF : IsF p m mod]
open Po
structure CmI (f : Po (El p m mod)) (gs : List FacM) : Prop where
 each : ∀ e ∈ gs, ∃ P : Po (El p m mod), e.r.xs = il P ∧ Ir P ∧ lead P = 1 ∧ P ∣ f ∧ e.k = ((mu P f : Nat) : Int)
 all : ∀ P : Po (El p m mod), Ir P → lead P = 1 → P ∣ f → ∃ e ∈ gs, e.r.xs = il P
 nd : (gs.map fun e => e.r.xs).Nodup
def RisF (gs : List FacM) : Prop := gs.Pairwise fun x y => cmpL x.r.xs y.r.xs < 0
theorem CmI.perm {f : Po (El p m mod)} {gs hs : List FacM} (h : CmI f gs) (hp : hs.Perm gs) : CmI f hs :=
 ⟨fun e he => h.each e (hp.mem_iff.1 he), fun P a b c => by
  obtain ⟨e, he, hx⟩ := h.all P a b c
  exact ⟨e, hp.mem_iff.2 he, hx⟩, (hp.map fun e => e.r.xs).nodup_iff.2 h.nd⟩
theorem CmI.rise {f : Po (El p m mod)} {gs : List FacM} (h : CmI f gs) (hs : gs.Pairwise fun x y => ¬ cmpL y.r.xs x.r.xs < 0) : RisF gs := by
 have h1 := List.pairwise_map.1 h.nd
 refine (hs.and h1).imp fun {x y} h => ?_
 rcases cmpL_not.1 h.1 with e | e
 ·exact absurd e.symm h.2
 ·exact e
theorem CmI.fc {f : Po (El p m mod)} {gs : List FacM} (h : CmI f gs) (hf : f ≠ 0) {e : FacM} (he : e ∈ gs) : Ir (fcP p m mod e) ∧ lead (fcP p m mod e) = 1 ∧ fcP p m mod e ∣ f ∧ e.r.xs = il (fcP p m mod e) ∧ e.k = ((mu (fcP p m mod e) f : Nat) : Int) ∧ 1 ≤ e.k := by
 obtain ⟨P, h1, h2, h3, h4, h5⟩ := h.each e he
 have eP : fcP p m mod e = P := by unfold fcP; rw [h1, pol_il]
 rw [eP]
 have := (mu_pos h2 hf).1 h4
 exact ⟨h2, h3, h4, h1, h5, by omega⟩
theorem CmI.uniq {f : Po (El p m mod)} (hf : f ≠ 0) {gs hs : List FacM} (h : CmI f gs) (k : CmI f hs) (hg : RisF gs) (hh : RisF hs) : fpr gs = fpr hs := by
 have hmem : ∀ {gs hs : List FacM}, CmI f gs → CmI f hs → ∀ x, x ∈ fpr gs → x ∈ fpr hs := fun {gs hs} h k x hx => by
  obtain ⟨e, he, rfl⟩ := List.mem_map.1 hx
  obtain ⟨h1, h2, h3, h4, h5, _⟩ := h.fc hf he
  obtain ⟨e', he', hx'⟩ := k.all _ h1 h2 h3
  obtain ⟨_, _, _, k4, k5, _⟩ := k.fc hf he'
  have : fcP p m mod e' = fcP p m mod e := by unfold fcP; rw [hx', pol_il]; rfl
  refine List.mem_map.2 ⟨e', he', ?_⟩
  rw [hx', h4, k5, h5, this]
 exact rise_eq (lt := fun (x y : List Int × Int) => cmpL x.1 y.1 < 0) (fun a => cmpL_irr _) (fun a b c => cmpL_trans) (List.pairwise_map.2 hg) (List.pairwise_map.2 hh) fun x => ⟨hmem h k x, hmem k h x⟩
structure CmJ (f : Po (El p m mod)) (fs : List FacM) (j : Nat) (Ls : List (Po (El p m mod) × Int)) : Prop where
 each : ∀ x ∈ Ls, Ir x.1 ∧ lead x.1 = 1 ∧ x.1 ∣ f ∧ x.2 = ((mu x.1 f : Nat) : Int) ∧ ∃ e ∈ fs.take j, e.k = x.2
 all : ∀ e ∈ fs.take j, ∀ P : Po (El p m mod), Ir P → lead P = 1 → mu P f = e.k.toNat → ∃ x ∈ Ls, x.1 = P
 nd : (Ls.map (·.1)).Nodup
variable {f : Po (El p m mod)} {fs : List FacM} {j : Nat} {Ls : List (Po (El p m mod) × Int)}
theorem CmJ.start : CmJ f fs 0 [] := ⟨fun x h => by simp at h, fun e h => by simp at h, .nil⟩
theorem CmJ.next (h : CmJ f fs j Ls) (hf : f ≠ 0) (hq : SqI f 1 (fun _ => True) fs) (hj : j < fs.length) {ps : List (Po (El p m mod))} (hI : IrL (fcP p m mod (fs.getD j facD)) ps) : CmJ f fs (j + 1) (Ls ++ ps.map fun P => (P, (fs.getD j facD).k)) := by
 have hm := getD_mem hj facD
 obtain ⟨_, h0, _, h1, _, h2, _⟩ := hq.fc _ hm
 have htk : fs.take (j + 1) = fs.take j ++ [fs.getD j facD] := take_getD hj facD
 have hne : ∀ e ∈ fs.take j, e.k ≠ (fs.getD j facD).k := fun e he hk => by
  have h3 := hq.nd
  rw [← List.take_append_drop (j + 1) fs, htk, List.map_append, List.map_append] at h3
  have h4 := (List.nodup_append.1 h3).1
  exact (List.nodup_append.1 h4).2.2 _ (List.mem_map.2 ⟨e, he, rfl⟩) _ (by simp) hk
 have hps : ∀ P ∈ ps, Ir P ∧ lead P = 1 ∧ P ∣ f ∧ mu P f = (fs.getD j facD).k.toNat := fun P hP => by
  obtain ⟨a, b, c⟩ := (hI.mem P).1 hP
  have := (h2 P a b).1 c
  exact ⟨a, b, (mu_pos a hf).2 (by omega), this⟩
 refine ⟨fun x hx => ?_, fun e he P a b c => ?_, ?_⟩
 ·rcases List.mem_append.1 hx with hx | hx
  ·obtain ⟨a, b, c, d, e, he, hk⟩ := h.each x hx
   exact ⟨a, b, c, d, e, by rw [htk]; exact List.mem_append_left _ he, hk⟩
  ·obtain ⟨P, hP, rfl⟩ := List.mem_map.1 hx
   obtain ⟨a, b, c, d⟩ := hps P hP
   exact ⟨a, b, c, by show (fs.getD j facD).k = _; rw [d]; omega, _, by rw [htk]; exact List.mem_append_right _ (List.mem_singleton.2 rfl), rfl⟩
 ·rw [htk] at he
  rcases List.mem_append.1 he with he | he
  ·obtain ⟨x, hx, e⟩ := h.all e he P a b c
   exact ⟨x, List.mem_append_left _ hx, e⟩
  ·rw [List.mem_singleton] at he
   subst he
   exact ⟨(P, _), List.mem_append_right _ (List.mem_map.2 ⟨P, (hI.mem P).2 ⟨a, b, (h2 P a b).2 c⟩, rfl⟩), rfl⟩
 ·rw [List.map_append, List.nodup_append]
  refine ⟨h.nd, ?_, fun P hP Q hQ e => ?_⟩
  ·rw [List.map_map]
   have : (ps.map ((fun x : Po (El p m mod) × Int => x.1) ∘ fun P => (P, (fs.getD j facD).k))) = ps := by
    conv => rhs; rw [← List.map_id ps]
    rfl
   rw [this]; exact hI.nd
  ·obtain ⟨x, hx, rfl⟩ := List.mem_map.1 hP
   rw [List.map_map] at hQ
   obtain ⟨R, hR, rfl⟩ := List.mem_map.1 hQ
   obtain ⟨_, _, _, d, e', he', hk⟩ := h.each x hx
   have d2 := (hps R hR).2.2.2
   have e3 : x.1 = R := e
   rw [← e3] at d2
   refine hne e' he' ?_
   rw [hk, d, d2]
   omega
theorem CmJ.done (h : CmJ f fs fs.length Ls) (hf : f ≠ 0) (hq : SqI f 1 (fun _ => True) fs) {gs : List FacM} (hg : fpr gs = Ls.map fun x => (il x.1, x.2)) : CmI f gs := by
 have hmem : ∀ e ∈ gs, ∃ x ∈ Ls, e.r.xs = il x.1 ∧ e.k = x.2 := fun e he => by
  have : (e.r.xs, e.k) ∈ fpr gs := List.mem_map.2 ⟨e, he, rfl⟩
  rw [hg] at this
  obtain ⟨x, hx, hxe⟩ := List.mem_map.1 this
  simp only [Prod.mk.injEq] at hxe
  exact ⟨x, hx, hxe.1.symm, hxe.2.symm⟩
 refine ⟨fun e he => ?_, fun P a b c => ?_, ?_⟩
 ·obtain ⟨x, hx, h1, h2⟩ := hmem e he
  obtain ⟨a, b, c, d, _⟩ := h.each x hx
  exact ⟨x.1, h1, a, b, c, by rw [h2, d]⟩
 ·have h1 := (mu_pos a hf).1 c
  obtain ⟨e, he, hk⟩ := hq.all P a b h1 trivial
  obtain ⟨x, hx, hxP⟩ := h.all e (by rw [List.take_length]; exact he) P a b (by rw [hk]; omega)
  have : (il x.1, x.2) ∈ fpr gs := by rw [hg]; exact List.mem_map.2 ⟨x, hx, rfl⟩
  obtain ⟨g, hgm, hge⟩ := List.mem_map.1 this
  simp only [Prod.mk.injEq] at hge
  exact ⟨g, hgm, by rw [hge.1, hxP]⟩
 ·have e1 : (gs.map fun e => e.r.xs) = (Ls.map (·.1)).map fun P => il P := by
   have := congrArg (fun l => l.map Prod.fst) hg
   simp only [fpr, List.map_map] at this
   rw [List.map_map]; exact this
  rw [e1]
  exact List.pairwise_map.2 (h.nd.imp fun hab e => hab (il_inj e))
open Classical in
theorem mu_ir {P Q : Po (El p m mod)} (hP : Ir P) (hQ : Ir Q) (h1 : lead P = 1) (h2 : lead Q = 1) : mu P Q = if P = Q then 1 else 0 := by
 by_cases e : P = Q
 ·subst e
  rw [if_pos rfl]
  refine mu_eq hP hP.ne (by rw [Rg.pow_one]; exact ⟨1, (Rg.mul_one _).symm⟩) fun hd => ?_
  have h3 := dvd_len hd hP.ne
  rw [len_powN hP.ne] at h3
  have := hP.two
  omega
 ·rw [if_neg e]
  refine mu_eq hP hQ.ne (one_dvd _) fun hd => e ?_
  rw [Nat.zero_add, Rg.pow_one] at hd
  exact hP.one hQ h1 h2 hd
theorem prF_mu3 {gs : List FacM} (h : ∀ e ∈ gs, lead (fcP p m mod e) = 1 ∧ 0 ≤ e.k ∧ Ir (fcP p m mod e) ∧ e.r.xs = il (fcP p m mod e)) (hnd : (gs.map fun e => e.r.xs).Nodup) {P : Po (El p m mod)} (hP : Ir P) (hl : lead P = 1) : ∀ n, n ≤ gs.length →
  (∀ j, j < n → (gs.getD j facD).r.xs = il P → mu P (prF p m mod 1 gs n) = (gs.getD j facD).k.toNat) ∧ ((∀ j, j < n → (gs.getD j facD).r.xs ≠ il P) → mu P (prF p m mod 1 gs n) = 0)
 | 0, _ => by
  have e : prF p m mod 1 gs 0 = (1 : Po (El p m mod)) := by show C (el 1) = 1; rw [el_one]; rfl
  exact ⟨fun j hj => by omega, fun _ => by rw [e, mu_one hP]⟩
 | n + 1, hn => by
  obtain ⟨ih1, ih2⟩ := prF_mu3 h hnd hP hl n (by omega)
  have hm := getD_mem (l := gs) (show n < gs.length by omega) facD
  have h1 := lead1_ne (prF_mu (fun e he => ⟨(h e he).1, (h e he).2.1⟩) n (by omega)).1
  obtain ⟨a, b, c, d⟩ := h _ hm
  have e : prF p m mod 1 gs (n + 1) = prF p m mod 1 gs n * Rg.pow (fcP p m mod (gs.getD n facD)) (gs.getD n facD).k.toNat := rfl
  have hdif : ∀ j, j < n → (gs.getD j facD).r.xs = il P → (gs.getD n facD).r.xs ≠ il P := fun j hj e1 e2 => by
   have h5 := List.pairwise_iff_getElem.1 hnd j n (by simp; omega) (by simp; omega) hj
   rw [List.getElem_map, List.getElem_map] at h5
   refine h5 ?_
   rw [List.getD_eq_getElem?_getD, List.getElem?_eq_getElem (show j < gs.length by omega)] at e1
   rw [List.getD_eq_getElem?_getD, List.getElem?_eq_getElem (show n < gs.length by omega)] at e2
   exact e1.trans e2.symm
  rw [e, mu_mul hP h1 (pow_ne0 c.ne _), mu_pow hP c.ne, mu_ir hP c hl a]
  have hiff : P = fcP p m mod (gs.getD n facD) ↔ (gs.getD n facD).r.xs = il P := ⟨fun e => by rw [d, ← e], fun e => by
   rw [d] at e; exact (il_inj e).symm⟩
  refine ⟨fun j hj hx => ?_, fun hno => ?_⟩
  ·rcases Nat.lt_or_ge j n with e1 | e1
   ·rw [ih1 j e1 hx, if_neg (fun e2 => hdif j e1 hx (hiff.1 e2)), Nat.mul_zero, Nat.add_zero]
   ·have : j = n := by omega
    subst this
    rw [ih2 fun i hi hxi => hdif i hi hxi hx, if_pos (hiff.2 hx), Nat.mul_one, Nat.zero_add]
  ·rw [ih2 fun i hi => hno i (by omega), if_neg (fun e2 => hno n (by omega) (hiff.1 e2)), Nat.mul_zero]
theorem CmI.prod {gs : List FacM} (h : CmI f gs) (hf : lead f = 1) : prF p m mod 1 gs gs.length = f ∧ fcT p m mod gs gs.length = (len f : Int) - 1 := by
 have hf0 := lead1_ne hf
 have hfc : ∀ e ∈ gs, lead (fcP p m mod e) = 1 ∧ 0 ≤ e.k := fun e he => by
  obtain ⟨_, b, _, _, _, d⟩ := h.fc hf0 he
  exact ⟨b, by omega⟩
 have h1 := prF_mu hfc gs.length (Nat.le_refl _)
 have e : prF p m mod 1 gs gs.length = f := eq_mu1 _ _ _ (Nat.le_refl _) h1.1 hf fun P hP hPl => by
  obtain ⟨h2, h3⟩ := prF_mu3 (fun e he => by
   obtain ⟨a, b, c, d, k, t⟩ := h.fc hf0 he
   exact ⟨b, by omega, a, d⟩) h.nd hP hPl gs.length (Nat.le_refl _)
  by_cases hd : P ∣ f
  ·obtain ⟨e, he, hx⟩ := h.all P hP hPl hd
   obtain ⟨j, hj, rfl⟩ := List.getElem_of_mem he
   have hg : gs.getD j facD = gs[j] := by rw [List.getD_eq_getElem?_getD, List.getElem?_eq_getElem hj]; rfl
   obtain ⟨_, _, _, d, k, _⟩ := h.fc hf0 (List.getElem_mem hj)
   rw [h2 j hj (by rw [hg]; exact hx), hg, k]
   have : fcP p m mod gs[j] = P := by unfold fcP; rw [hx, pol_il]
   rw [this]; omega
  ·have hz : mu P f = 0 := by
    have := mu_pos hP hf0
    have h5 : ¬ 1 ≤ mu P f := fun h => hd (this.2 h)
    omega
   rw [hz]
   refine h3 fun j hj hx => hd ?_
   obtain ⟨_, _, c, d, _⟩ := h.fc hf0 (getD_mem hj facD)
   have : fcP p m mod (gs.getD j facD) = P := by unfold fcP; rw [hx, pol_il]
   rw [← this]; exact c
 refine ⟨e, ?_⟩
 rw [e] at h1
 omega
theorem CmI.le {gs : List FacM} (h : CmI f gs) (hf : f ≠ 0) : ∀ e ∈ gs, e.r.xs.length ≤ len f ∧ 2 ≤ e.r.xs.length ∧ 1 ≤ e.k ∧ e.k ≤ len f := fun e he => by
 obtain ⟨a, b, c, d, k, t⟩ := h.fc hf he
 have h1 := dvd_len c hf
 have h2 := a.two
 rw [d, il_length]
 refine ⟨h1, h2, t, ?_⟩
 have h3 := dvd_len (mu_spec a hf).1 hf
 rw [len_powN a.ne] at h3
 have h4 : mu (fcP p m mod e) f * 1 ≤ mu (fcP p m mod e) f * (len (fcP p m mod e) - 1) := Nat.mul_le_mul_left _ (by omega)
 omega
theorem fcT_ge {gs : List FacM} (h : ∀ e ∈ gs, 2 ≤ len (fcP p m mod e) ∧ 1 ≤ e.k) : ∀ n : Nat, n ≤ gs.length → (n : Int) ≤ fcT p m mod gs n
 | 0, _ => Int.le_refl _
 | n + 1, hn => by
  have ih := fcT_ge h n (by omega)
  obtain ⟨a, b⟩ := h _ (getD_mem (show n < gs.length by omega) facD)
  rw [fcT_succ (by omega)]
  have h1 : 1 ≤ fcD p m mod (gs.getD n facD) := by unfold fcD; omega
  have h2 : (1 : Int) * 1 ≤ fcD p m mod (gs.getD n facD) * (gs.getD n facD).k := Int.mul_le_mul h1 b (by omega) (by omega)
  omega
theorem CmI.cnt {gs : List FacM} (h : CmI f gs) (hf : lead f = 1) : gs.length + 1 ≤ len f := by
 have h1 := (h.prod hf).2
 have h2 := fcT_ge (fun e he => by
  obtain ⟨a, _, _, _, _, b⟩ := h.fc (lead1_ne hf) he
  exact ⟨a.two, b⟩) gs.length (Nat.le_refl _)
 omega
theorem canL_il (hq : pw p m = pw p m) (P : Po (El p m mod)) : canL (pw p m) (il P) = il P := by rw [← il_pol (mod := mod), pol_il]
end
end Go.Proofs.YtbhoeaijpnjgdaaGreat

set_option maxRecDepth 100000
set_option maxHeartbeats 1000000
namespace Go.Proofs.YtbhoeaijpnjgdaaGreat
open Go.RowKit
theorem Pure.sub {P : Program} {f : FuncId} {args : Array Value} {G G' : List Chunk} {R : Value → List Chunk → Prop} (h : Pure P f args G R) (hs : ∀ w, (∀ c ∈ G', c.sat w) → ∀ c ∈ G, c.sat w) : Pure P f args G' R := ⟨h.ent, fun w hg => h.run w (hs w hg)⟩
theorem fpr_add {p m : Int} {mod : List Int} [hF : IsF p m mod] {gs : List FacM} {Ls : List (Po (El p m mod) × Int)} (h : fpr gs = Ls.map fun x => (il x.1, x.2)) (B : Option Addr) (c : Nat) (P : Po (El p m mod)) (k : Int) : fpr (gs ++ [⟨⟨B, c, il P⟩, k⟩]) = (Ls ++ [(P, k)]).map fun x => (il x.1, x.2) := by
 rw [fpr_app, h, List.map_append]; rfl
theorem take_mapP {p m : Int} {mod : List Int} [hF : IsF p m mod] {ps : List (Po (El p m mod))} {k : Nat} (h : k < ps.length) (c : Int) : (ps.take (k + 1)).map (fun P => (P, c)) = (ps.take k).map (fun P => (P, c)) ++ [(ps.getD k 0, c)] := by
 rw [take_getD h 0, List.map_append]; rfl
theorem cmt_cmp_ent : Enters Tryz.prog 45 := enters_of Tryz.func45 (by kernel_rfl) (by kernel_rfl)
theorem cmt_cmp (g : GfM) (pg : Addr) (Ax : Option Addr) (nx cx : Nat) (kx : Int) (a : List Int) (hnx : nx = a.length) (ha : a.length ≤ 1000000) (Ay : Option Addr) (ny cy : Nat) (ky : Int) (b : List Int) (hny : ny = b.length) (hb : b.length ≤ 1000000) :
  Pure Tryz.prog 45 #[.agg #[.slice Ax nx cx, .int .i64 kx], .agg #[.slice Ay ny cy, .int .i64 ky], .pointer (some pg)] [ro (some pg) [.pointer (some g.p)], gfR g, ro Ax (ints a), ro Ay (ints b)] (isV (.int .i64 (cmpL (canL g.q a) (canL g.q b)))) := by
 refine pure_of (args := [.agg #[.slice Ax nx cx, .int .i64 kx], .agg #[.slice Ay ny cy, .int .i64 ky], .pointer (some pg)]) 12 Tryz.func45 rfl rfl rfl cmt_cmp_ent ⟨id, id, id, id, trivial⟩ (fun w0 => ?_)
 refine tS ?_
 refine tR fun _ _ _ => ?_
 refine eV (eBox rfl rfl rfl rfl rfl (fun p0 => ?_))
 refine eV (eBox rfl rfl rfl rfl rfl (fun p0a => ?_))
 refine pV ?_
 refine tS ?_
 refine tR fun _ _ _ => ?_
 refine sV (rLd0 rfl rfl) ?_
 refine sV (rFld rfl rfl) ?_
 refine sV (rLdF rfl rfl rfl) ?_
 refine sV (rFld rfl rfl) ?_
 refine sV (rLdF rfl rfl rfl) ?_
 refine eV (eCallV rfl rfl rfl (fac_Compare g Ax nx cx a hnx (by omega) Ay ny cy b hny (by omega)) ⟨rfl, rfl, rfl, trivial⟩ ?_)
 refine pV ?_
 exact tr_ret ⟨trivial, _, _, rfl, ⟨rfl, rfl⟩, CSub.nil _, trivial⟩
theorem fac_CompleteL_ent : Enters Tryz.prog 16 := enters_of Tryz.func16 (by kernel_rfl) (by kernel_rfl)
theorem fac_CompleteL (hlib : FacSort) (hnone : FacNone) (g : GfM) {p m : Int} {mod : List Int} [hF : IsF p m mod] (hg : GOk g p m mod) (A : Option Addr) (n c : Nat) (a : List Int) (hn : n = a.length) (ha9 : a.length ≤ 17592186044415) (he : facE (Po.len (pol a : Po (El p m mod))) = 0) :
  Pure Tryz.prog 16 #[.pointer (some g.p), .slice A n c] [gfR g, ro A (ints a)] (two (fun v ch ch2 => ∃ B cap gs, v = .tuple #[.int .i64 (Po.lead (pol a : Po (El p m mod))).1, .slice B gs.length cap, .int .i64 0] ∧ ch = ow2 B 43 cap (fcs gs) ∧ ch2 = rowsCh 3 (rws gs) ∧ CmI (Po.mon (pol a : Po (El p m mod))) gs ∧ RisF gs ∧ gs.length ≤ 257)) := by
 have hq2 := hF.q2
 have hgq := hg.eq
 have hil := il_length (pol a : Po (El p m mod))
 have hle := facE_ok he
 have h0 : (pol a : Po (El p m mod)) ≠ 0 := Po.len_pos_iff.1 (by omega)
 have hml := Po.mon_len (pol a : Po (El p m mod))
 have hm0 := Po.mon_ne h0
 have hmle := Po.mon_lead h0
 have hmil := il_length (Po.mon (pol a : Po (El p m mod)))
 refine pure_of (args := [.pointer (some g.p), .slice A n c]) 61 Tryz.func16 rfl rfl rfl fac_CompleteL_ent ⟨id, id, trivial⟩ (fun w0 => ?_)
 refine tS ?_
 refine tR fun _ _ _ => ?_
 refine eV (eBox rfl rfl rfl rfl rfl (fun p0 => ?_))
 iterate 3 refine pV ?_
 refine tS ?_
 refine tR fun _ _ _ => ?_
 refine sV (rLd0 rfl rfl) ?_
 refine pV ?_
 refine eV (eCall1 rfl rfl rfl (fac_enter g hg A n c a hn ha9 he) ⟨rfl, rfl, trivial⟩ ?_)
 rintro _ _ ⟨B1, c1, rfl, hc1, rfl⟩
 iterate 5 refine pV ?_
 refine tS ?_
 refine tS ?_
 refine tR fun _ _ _ => ?_
 iterate 2 refine pV ?_
 refine tC rfl (fun h2 => ?_) (fun h2 => ?_)
 ·try simp only [zbA] at h2
  first | exact absurd trivial h2 | exact absurd rfl h2 | omega | (exact absurd h2 (by simp)) --done
 ·try simp only [zbA] at h2
  refine tK ?_
  refine tS ?_
  refine tS ?_
  refine tr_draw [0, 1, 2, 6, 3, 4, 5] [] mixed (by kernel_rfl) fun _ _ _ => ?_
  refine sV (rLd0 rfl rfl) ?_
  refine sV (rLd0 rfl rfl) ?_
  iterate 2 refine pV ?_
  refine eV (eCall1 rfl rfl rfl (fac_monic g hg B1 _ c1 (il (pol a : Po (El p m mod))) rfl (by omega) (by rw [pol_il]; exact h0)) ⟨rfl, rfl, trivial⟩ ?_)
  rintro _ _ ⟨B4, c4, rfl, rfl⟩
  rw [pol_il]
  refine eV (eCall2 rfl rfl rfl (fac_sqf g hg B4 _ c4 (Po.mon (pol a : Po (El p m mod))) (by rw [il_length]) (Po.mon_lead h0) (by omega)) ⟨rfl, rfl, rfl, trivial⟩ ?_)
  rintro _ _ _ ⟨Bs, cs_, fs, rfl, rfl, rfl, hI0, hfl⟩
  refine sV (rLenS rfl rfl) ?_
  refine tB ?_
  refine tr_nilQ 43 3 ?_
  refine tr_loop5 (fun (j : Int) (Bg : Option Addr) (cg : Nat) (gs : List FacM) (Ls : List (Po (El p m mod) × Int)) => [(2, .pointer (some p0)), (25, .slice Bs fs.length cs_), (26, .int .i64 (fs.length : Nat)), (27, .int .i64 j), (5, .slice Bg gs.length cg), (7, .slice B1 (il (pol a : Po (El p m mod))).length c1), (4, .int .i64 0), (6, .int .i64 0)]) (fun (j : Int) (Bg : Option Addr) (cg : Nat) (gs : List FacM) (Ls : List (Po (El p m mod) × Int)) => [ow2 Bg 43 cg (fcs gs), rowsCh 3 (rws gs), ow2 Bs 43 cs_ (fcs fs), rowsR (rws fs), ow B1 3 c1 (ints (il (pol a : Po (El p m mod)))), blk p0 25 [.pointer (some g.p)], gfR g]) (fun (j : Int) (Bg : Option Addr) (cg : Nat) (gs : List FacM) (Ls : List (Po (El p m mod) × Int)) => (0 ≤ j ∧ j ≤ fs.length) ∧ (fpr gs = Ls.map fun x => (il x.1, x.2)) ∧ CmJ (Po.mon (pol a : Po (El p m mod))) fs j.toNat Ls ∧ gs.length ≤ 256 * j) (fun (j : Int) (Bg : Option Addr) (cg : Nat) (gs : List FacM) (Ls : List (Po (El p m mod) × Int)) => (fs.length - j).toNat) (0) (none) (0) ([]) ([]) ⟨rfl, rfl, rfl, rfl, rfl, rfl, rfl, rfl, trivial⟩ (by exact (cs _ [rowsCh 3 (rws fs), ow2 none 43 0 (fcs []), rowsCh 3 (rws []), ow2 Bs 43 cs_ (fcs fs), ow B1 3 c1 (ints (il (pol a : Po (El p m mod)))), blk p0 25 [.pointer (some g.p)], gfR g]).trans ((rows_weak _).trans (cs _ _))) (⟨⟨by omega, by omega⟩, rfl, CmJ.start, by simp⟩) (fun j Bg cg gs Ls hI => ?_)
  obtain ⟨⟨hj0, hj1⟩, hfp, hJ, hgb⟩ := hI
  refine tS ?_
  refine tR fun _ _ _ => ?_
  refine pV ?_
  refine tS ?_
  refine tC rfl (fun h5 => ?_) (fun h5 => ?_)
  ·try simp only [zbA] at h5
   refine tK ?_
   refine tS ?_
   refine tB ?_
   refine tS ?_
   have hjl : j.toNat < fs.length := by omega
   have hQm := getD_mem hjl facD
   obtain ⟨hQ1, hQ3, hQ2, hQ4, hQ5, hQ6, hQx⟩ := hI0.fc _ hQm
   have hQl := (hI0.le hmle _ hQm).1
   refine tR fun _ _ _ => ?_
   refine sV (rIdxT rfl rfl rfl (by omega) (by omega) (by simp; omega)) ?_
   refine sV (rLdT rfl rfl (by simp; omega)) ?_
   refine eV (eAlloc rfl rfl rfl (fun p6 => ?_))
   rw [fcs_get1 fs j.toNat hjl, fcs_get2 fs j.toNat hjl]
   rw [hQx]
   refine eV (eStS rfl rfl rfl rfl rfl rfl ?_)
   refine tr_chunks [ro (fs.getD j.toNat facD).r.A (ints (il (fcP p m mod (fs.getD j.toNat facD)))), blk p6 43 [.slice (fs.getD j.toNat facD).r.A (il (fcP p m mod (fs.getD j.toNat facD))).length (fs.getD j.toNat facD).r.cap, .int .i64 (fs.getD j.toNat facD).k], ow2 Bg 43 cg (fcs gs), rowsCh 3 (rws gs), ow2 Bs 43 cs_ (fcs fs), rowsR (rws fs), ow B1 3 c1 (ints (il (pol a : Po (El p m mod)))), blk p0 25 [.pointer (some g.p)], gfR g] (hQx ▸ (cs _ [rowsR (rws fs), blk p6 43 [.slice (fs.getD j.toNat facD).r.A (fs.getD j.toNat facD).r.xs.length (fs.getD j.toNat facD).r.cap, .int .i64 (fs.getD j.toNat facD).k], ow2 Bg 43 cg (fcs gs), rowsCh 3 (rws gs), ow2 Bs 43 cs_ (fcs fs), ow B1 3 c1 (ints (il (pol a : Po (El p m mod)))), blk p0 25 [.pointer (some g.p)], gfR g]).trans ((row_ro (rs := rws fs) (List.mem_map.2 ⟨_, getD_mem hjl facD, rfl⟩) _).trans (cs _ _))) ?_
   refine tS ?_
   refine tR fun _ _ _ => ?_
   refine sV (rLd0 rfl rfl) ?_
   refine sV (rFld rfl rfl) ?_
   refine sV (rLdF rfl rfl rfl) ?_
   refine eV (eCall2 rfl rfl rfl (fac_split g hg (fs.getD j.toNat facD).r.A (fs.getD j.toNat facD).r.cap (fcP p m mod (fs.getD j.toNat facD)) hQ1 hQ2 (by omega) hQ5) ⟨rfl, rfl, trivial⟩ ?_)
   rintro _ _ _ ⟨Bp, cp, rs, qs, ps, rfl, rfl, rfl, hal, hxs, hIr, hprd, hrl⟩
   refine sV (rLen rfl rfl) ?_
   refine pV ?_
   have hpsl := xss_len hxs
   refine tr_chunks [rowsR rs, ro (fs.getD j.toNat facD).r.A (ints (il (fcP p m mod (fs.getD j.toNat facD)))), ow Bp 22 cp (hdrs rs), blk p6 43 [.slice (fs.getD j.toNat facD).r.A (il (fcP p m mod (fs.getD j.toNat facD))).length (fs.getD j.toNat facD).r.cap, .int .i64 (fs.getD j.toNat facD).k], ow2 Bg 43 cg (fcs gs), rowsCh 3 (rws gs), ow2 Bs 43 cs_ (fcs fs), rowsR (rws fs), ow B1 3 c1 (ints (il (pol a : Po (El p m mod)))), blk p0 25 [.pointer (some g.p)], gfR g] ((cs _ [rowsCh 3 qs, ro (fs.getD j.toNat facD).r.A (ints (il (fcP p m mod (fs.getD j.toNat facD)))), ow Bp 22 cp (hdrs rs), blk p6 43 [.slice (fs.getD j.toNat facD).r.A (il (fcP p m mod (fs.getD j.toNat facD))).length (fs.getD j.toNat facD).r.cap, .int .i64 (fs.getD j.toNat facD).k], ow2 Bg 43 cg (fcs gs), rowsCh 3 (rws gs), ow2 Bs 43 cs_ (fcs fs), rowsR (rws fs), ow B1 3 c1 (ints (il (pol a : Po (El p m mod)))), blk p0 25 [.pointer (some g.p)], gfR g]).trans (al_sub hal 3 _)) ?_
   refine tB ?_
   refine tr_loop4 (fun (k : Int) (Bg : Option Addr) (cg : Nat) (gs : List FacM) => [(2, .pointer (some p0)), (9, .pointer (some p6)), (34, .slice Bp rs.length cp), (35, .int .i64 (rs.length : Nat)), (36, .int .i64 k), (5, .slice Bg gs.length cg), (4, .int .i64 0), (6, .int .i64 0), (7, .slice B1 (il (pol a : Po (El p m mod))).length c1), (25, .slice Bs fs.length cs_), (26, .int .i64 (fs.length : Nat)), (27, .int .i64 j)]) (fun (k : Int) (Bg : Option Addr) (cg : Nat) (gs : List FacM) => [ow2 Bg 43 cg (fcs gs), rowsCh 3 (rws gs), rowsR rs, ow Bp 22 cp (hdrs rs), blk p6 43 [.slice (fs.getD j.toNat facD).r.A (il (fcP p m mod (fs.getD j.toNat facD))).length (fs.getD j.toNat facD).r.cap, .int .i64 (fs.getD j.toNat facD).k], ow2 Bs 43 cs_ (fcs fs), rowsR (rws fs), ow B1 3 c1 (ints (il (pol a : Po (El p m mod)))), blk p0 25 [.pointer (some g.p)], gfR g]) (fun (k : Int) (Bg : Option Addr) (cg : Nat) (gs : List FacM) => (0 ≤ k ∧ k ≤ rs.length) ∧ (fpr gs = (Ls ++ (ps.take k.toNat).map fun P => (P, (fs.getD j.toNat facD).k)).map fun x => (il x.1, x.2)) ∧ gs.length ≤ 256 * j + k) (fun (k : Int) (Bg : Option Addr) (cg : Nat) (gs : List FacM) => (rs.length - k).toNat) (0) (Bg) (cg) (gs) ⟨rfl, rfl, rfl, rfl, rfl, rfl, rfl, rfl, rfl, rfl, rfl, rfl, trivial⟩ (by first | exact cs _ _ | exact CSub.refl _) (⟨⟨by omega, by omega⟩, by rw [show Int.toNat 0 = 0 from rfl, List.take_zero, List.map_nil, List.append_nil]; exact hfp, by omega⟩) (fun k Bg cg gs hI => ?_)
   obtain ⟨⟨hk0, hk1⟩, hfk, hgb2⟩ := hI
   refine tS ?_
   refine tR fun _ _ _ => ?_
   refine pV ?_
   refine tS ?_
   refine tC rfl (fun h8 => ?_) (fun h8 => ?_)
   ·try simp only [zbA] at h8
    refine tK ?_
    refine tS ?_
    refine tB ?_
    refine tS ?_
    haveI : InB k.toNat rs.length := ⟨by omega⟩
    have hpx := xss_at hxs (show k.toNat < rs.length by omega)
    have hpi := (hIr.mem _).1 (Vc.getD_eq_mem (show k.toNat < ps.length by omega) (0 : Po (El p m mod)))
    have hpl := Po.dvd_len hpi.2.2 (lead1_ne hQ1)
    have hpl2 := il_length (ps.getD k.toNat 0)
    have hpx2 := congrArg List.length hpx
    refine tR fun _ _ _ => ?_
    refine sV (rIdxR rfl rfl rfl (by omega) (by omega) (by omega)) ?_
    refine sV (rLdR rfl rfl (by omega)) ?_
    refine pV ?_
    refine tr_draw [0, 1, 2, 4, 5, 3, 6, 7] [8, 9] mixed (by kernel_rfl) fun _ _ _ => ?_
    refine pV ?_
    refine sV (rLd0 rfl rfl) ?_
    refine pV ?_
    refine sV (rFld rfl rfl) ?_
    refine sV (rLdF rfl rfl rfl) ?_
    refine eV (eCall1 rfl rfl rfl (fac_monic g hg (rs.getD k.toNat rowD).A _ (rs.getD k.toNat rowD).cap (rs.getD k.toNat rowD).xs rfl (by omega) (by rw [hpx, pol_il]; exact lead1_ne hpi.2.1)) ⟨rfl, rfl, trivial⟩ ?_)
    rintro _ _ ⟨Bm, cm, rfl, rfl⟩
    refine sV (rBuild rfl rfl) ?_
    rw [show Po.mon (pol (rs.getD k.toNat rowD).xs : Po (El p m mod)) = ps.getD k.toNat 0 by rw [hpx, pol_il, Po.mon_of_monic hpi.2.1]]
    refine eV (eLitS rfl rfl rfl rfl (fun p10 => ?_))
    refine eV (eApp2 rfl rfl rfl rfl rfl (by first | rfl | simp) rfl (by first | (simp; done) | (simp; omega)) (by first | (simp; done) | (simp; omega)) (fun A10a c10a => ?_))
    refine pV ?_
    rw [fcs_snoc, fcs_length]
    refine tR fun _ _ _ => ?_
    refine sV (rAdd rfl rfl rfl (by omega) (by omega)) ?_
    refine pV ?_
    refine ⟨k + 1, A10a, c10a, gs ++ [⟨⟨Bm, cm, il (ps.getD k.toNat 0)⟩, (fs.getD j.toNat facD).k⟩], ⟨rfl, rfl, rfl, rfl, rfl, rfl, rfl, rfl, rfl, rfl, rfl, rfl, trivial⟩, by rw [rws_app]; exact rows_app (r := ⟨Bm, cm, il (ps.getD k.toNat 0)⟩), ?_⟩
    refine ⟨⟨⟨by omega, by omega⟩, ?_, by simp; omega⟩, by omega⟩
    rw [show (k + 1).toNat = k.toNat + 1 by omega, take_mapP (by omega), ← List.append_assoc]
    exact fpr_add hfk _ _ _ _
   ·try simp only [zbA] at h8
    refine tE ?_
    refine tR fun _ _ _ => ?_
    refine sV (rAdd rfl rfl rfl (by omega) (by omega)) ?_
    refine pV ?_
    refine ⟨j + 1, Bg, cg, gs, Ls ++ ps.map fun P => (P, (fs.getD j.toNat facD).k), ⟨rfl, rfl, rfl, rfl, rfl, rfl, rfl, rfl, trivial⟩, by first | exact cs _ _ | exact CSub.refl _, ?_⟩
    refine ⟨⟨⟨by omega, by omega⟩, ?_, ?_, by omega⟩, by omega⟩
    ·rw [show k.toNat = ps.length by omega, List.take_length] at hfk; exact hfk
    ·rw [show (j + 1).toNat = j.toNat + 1 by omega]
     exact hJ.next hm0 hI0 hjl hIr
  ·try simp only [zbA] at h5
   refine tE ?_
   refine tS ?_
   have hjf : j.toNat = fs.length := by omega
   rw [hjf] at hJ
   have hC := hJ.done hm0 hI0 hfp
   have hgl := hC.cnt hmle
   have hfle := hC.le hm0
   have hcmp : ∀ x ∈ gs, ∀ y ∈ gs, Pure Tryz.prog 45 ([Value.agg #[x.r.hdr, .int .i64 x.k], Value.agg #[y.r.hdr, .int .i64 y.k]] ++ [(.pointer (some p0) : Value)]).toArray [ro (some p0) [.pointer (some g.p)], gfR g, rowsR (rws gs)] (isV (.int .i64 (cmpL x.r.xs y.r.xs))) := fun x hx y hy => by
    have h1 := hfle x hx
    have h2 := hfle y hy
    have e1 := (hC.fc hm0 hx).2.2.2.1
    have e2 := (hC.fc hm0 hy).2.2.2.1
    have h3 := (cmt_cmp g p0 x.r.A _ x.r.cap x.k x.r.xs rfl (by omega) y.r.A _ y.r.cap y.k y.r.xs rfl (by omega)).sub (G' := [ro (some p0) [.pointer (some g.p)], gfR g, rowsR (rws gs)]) fun w hw ch hch => by
     simp only [List.mem_cons, List.not_mem_nil, or_false] at hch
     rcases hch with rfl | rfl | rfl | rfl
     ·exact hw _ (by simp)
     ·exact hw _ (by simp)
     ·exact hw (rowsR (rws gs)) (by simp) _ (List.mem_map.2 ⟨x, hx, rfl⟩)
     ·exact hw (rowsR (rws gs)) (by simp) _ (List.mem_map.2 ⟨y, hy, rfl⟩)
    rw [e1, e2, hgq, canL_il rfl, canL_il rfl, ← e1, ← e2] at h3
    exact h3
   refine tR fun _ _ _ => ?_
   refine pV ?_
   refine sV (rFun rfl rfl rfl) ?_
   refine eV (eCallM1 rfl rfl rfl (slc_SortFac hlib hnone Bg _ cg gs rfl (by omega) 45 [.pointer (some p0)] [ro (some p0) [.pointer (some g.p)], gfR g, rowsR (rws gs)] ⟨id, id, id, trivial⟩ (fun x y => cmpL x.r.xs y.r.xs) hcmp (fun x _ => cmpL_irr _) (fun x _ y _ z _ h1 h2 => cmpL_trans h1 h2) (fun x _ y _ z _ h1 h2 => cmpL_ntr h1 h2)) ⟨rfl, rfl, trivial⟩ ?_)
   rintro _ _ ⟨hs, rfl, rfl, hperm, hsrt⟩
   refine tS ?_
   have hhl := hperm.length_eq
   refine tR fun _ _ _ => ?_
   iterate 2 refine pV ?_
   refine sV (rLen rfl rfl) ?_
   refine sV (rSub rfl rfl rfl (by omega) (by omega)) ?_
   refine sV (rIdxI rfl rfl rfl (by omega) (by omega) (by omega)) ?_
   refine sV (rLdI rfl rfl (by omega)) ?_
   iterate 4 refine pV ?_
   have hlv : (il (pol a : Po (El p m mod))).getD (((il (pol a : Po (El p m mod))).length : Int) - 1).toNat 0 = (Po.lead (pol a : Po (El p m mod))).1 := by
    rw [il_getD, hil, show ((Po.len (pol a : Po (El p m mod)) : Int) - 1).toNat = Po.len (pol a : Po (El p m mod)) - 1 by omega]; rfl
   rw [hlv, ← hhl]
   exact tr_ret ⟨trivial, _, _, rfl, ⟨_, _, rfl, Bg, cg, hs, rfl, rfl, rfl, hC.perm hperm, (hC.perm hperm).rise hsrt, by omega⟩, (cs _ [rowsCh 3 (rws gs), ow2 Bg 43 cg (fcs hs)]).trans ((rows_permM (rs := rws gs) (qs := rws hs) (hperm.symm.map FacM.r) _).trans (cs _ _)), trivial, trivial, trivial⟩
end Go.Proofs.YtbhoeaijpnjgdaaGreat

set_option maxRecDepth 100000
namespace Go.Proofs.YtbhoeaijpnjgdaaGreat
open Go.RowKit
end Go.Proofs.YtbhoeaijpnjgdaaGreat

set_option maxRecDepth 100000
namespace Go.Proofs.YtbhoeaijpnjgdaaGreat
open Go.RowKit
theorem ref_PPowMod_ent : Enters Tryz.prog 48 := enters_of Tryz.func48 (by kernel_rfl) (by kernel_rfl)
theorem ref_PPowMod (p m : Int) (A : Option Addr) (c : Nat) (mod : List Int) [hF : IsF p m mod] (Xa : Option Addr) (na ca : Nat) (a : List Int) (hna : na = a.length) (ha9 : a.length ≤ 1000000) (k : Int) (hk0 : 0 ≤ k) (hk9 : k ≤ 1000000) (C : Option Addr) (nc d2 : Nat) (ml : List Int) (hnc : nc = ml.length) (hm9 : ml.length ≤ 1000000) (he : facE (Po.len (pol ml : Po (El p m mod))) = 0) :
  Pure Tryz.prog 48 #[.agg #[.int .i64 p, .int .i64 m, .slice A mod.length c], .slice Xa na ca, .int .i64 k, .slice C nc d2] [ro A (ints mod), ro Xa (ints a), ro C (ints ml)] (one (fun v ch => ∃ B cap, v = .slice B (il (Po.rem (Rg.pow (pol a : Po (El p m mod)) k.toNat) (pol ml : Po (El p m mod)))).length cap ∧ ch = ow B 3 cap (ints (il (Po.rem (Rg.pow (pol a : Po (El p m mod)) k.toNat) (pol ml : Po (El p m mod))))))) := by
 have hil := il_length (pol ml : Po (El p m mod))
 have hml := facE_ok he
 have hm0 := ne_of_len hml.1
 refine pure_of (args := [.agg #[.int .i64 p, .int .i64 m, .slice A mod.length c], .slice Xa na ca, .int .i64 k, .slice C nc d2]) 40 Tryz.func48 rfl rfl rfl ref_PPowMod_ent ⟨id, id, id, trivial⟩ (fun w0 => ?_)
 refine tS ?_
 refine tR fun _ _ _ => ?_
 refine eV (eBox rfl rfl rfl rfl rfl (fun p0 => ?_))
 refine pV ?_
 refine tS ?_
 refine tR fun _ _ _ => ?_
 refine sV (rLdS rfl rfl rfl) ?_
 refine eV (eLit1I rfl rfl rfl rfl (fun A1 => ?_))
 refine pV ?_
 refine eV (eCall1 rfl rfl rfl (ref_PRem p m A c mod A1 _ 1 [1] rfl (by simp) C nc d2 ml hnc (by omega) (by omega) hm0) ⟨rfl, rfl, rfl, trivial⟩ ?_)
 rintro _ _ ⟨B1a, c1a, rfl, rfl⟩
 refine pV ?_
 refine tS ?_
 refine tR fun _ _ _ => ?_
 refine sV (rLdS rfl rfl rfl) ?_
 iterate 2 refine pV ?_
 refine eV (eCall1 rfl rfl rfl (ref_PRem p m A c mod Xa _ ca a hna ha9 C nc d2 ml hnc (by omega) (by omega) hm0) ⟨rfl, rfl, rfl, trivial⟩ ?_)
 rintro _ _ ⟨B2, c2, rfl, rfl⟩
 refine pV ?_
 refine tS ?_
 refine tB ?_
 refine tr_loop7 (fun (t : Int) (Bx : Option Addr) (cx : Nat) (f : Po (El p m mod)) (By : Option Addr) (cy : Nat) (b : Po (El p m mod)) => [(2, .int .i64 t), (9, .slice Bx (il f).length cx), (1, .slice By (il b).length cy), (3, .slice C nc d2), (4, .pointer (some p0)), (8, .slice none 0 0)]) (fun (t : Int) (Bx : Option Addr) (cx : Nat) (f : Po (El p m mod)) (By : Option Addr) (cy : Nat) (b : Po (El p m mod)) => [ow Bx 3 cx (ints (il f)), ow By 3 cy (ints (il b)), blk p0 24 [.int .i64 p, .int .i64 m, .slice A mod.length c], ro A (ints mod), ro C (ints ml)]) (fun (t : Int) (Bx : Option Addr) (cx : Nat) (f : Po (El p m mod)) (By : Option Addr) (cy : Nat) (b : Po (El p m mod)) => (0 ≤ t ∧ t ≤ k) ∧ Po.len f < Po.len (pol ml : Po (El p m mod)) ∧ Po.len b < Po.len (pol ml : Po (El p m mod)) ∧ (pol ml : Po (El p m mod)) ∣ f * Rg.pow b t.toNat - Rg.pow (pol a : Po (El p m mod)) k.toNat) (fun (t : Int) (Bx : Option Addr) (cx : Nat) (f : Po (El p m mod)) (By : Option Addr) (cy : Nat) (b : Po (El p m mod)) => t.toNat) (k) (B1a) (c1a) ((Po.rem (pol [1]) (pol ml : Po (El p m mod)))) (B2) (c2) ((Po.rem (pol a : Po (El p m mod)) (pol ml : Po (El p m mod)))) ⟨rfl, rfl, rfl, rfl, rfl, rfl, trivial⟩ (by first | exact cs _ _ | exact CSub.refl _) (⟨⟨by omega, by omega⟩, Po.rem_len _ hm0, Po.rem_len _ hm0, by rw [pol_one1]; exact rem_pow_start hm0 _⟩) (fun t Bx cx f By cy b hI => ?_)
 obtain ⟨⟨ht0, ht9⟩, hfl, hbl, hd⟩ := hI
 refine tS ?_
 refine tS ?_
 refine tR fun _ _ _ => ?_
 iterate 2 refine pV ?_
 refine tC rfl (fun h3 => ?_) (fun h3 => ?_)
 ·try simp only [zbA] at h3
  refine tK ?_
  refine tB ?_
  refine tS ?_
  refine tS ?_
  have hilf := il_length f
  have hilb := il_length b
  have e13 : Po.len (pol (il f) : Po (El p m mod)) = (il f).length := by rw [pol_il, il_length]
  have e14 : Po.len (pol (il b) : Po (El p m mod)) = (il b).length := by rw [pol_il, il_length]
  have l1 := il_length (pol (il f) * pol (il b) : Po (El p m mod))
  have l2 := len_mul_le (pol (il f)) (pol (il b) : Po (El p m mod))
  have l3 := il_length (pol (il b) * pol (il b) : Po (El p m mod))
  have l4 := len_mul_le (pol (il b)) (pol (il b) : Po (El p m mod))
  refine tR fun _ _ _ => ?_
  refine pV ?_
  refine sV (rRem rfl rfl rfl (by omega) (by omega)) ?_
  refine pV ?_
  refine tC rfl (fun h4 => ?_) (fun h4 => ?_)
  ·try simp only [zbA] at h4
   refine tr_draw [0, 1, 2, 3, 5, 4, 6, 7] [] mixed (by kernel_rfl) fun _ _ _ => ?_
   refine sV (rLdS rfl rfl rfl) ?_
   refine sV (rLdS rfl rfl rfl) ?_
   iterate 3 refine pV ?_
   refine eV (eCall1 rfl rfl rfl (ref_PMulL p m A c mod Bx _ cx (il f) rfl (by omega) By _ cy (il b) rfl (by omega) (by rw [pol_il]; omega)) ⟨rfl, rfl, rfl, trivial⟩ ?_)
   rintro _ _ ⟨B5, c5, rfl, rfl⟩
   refine eV (eCall1 rfl rfl rfl (ref_PRem p m A c mod B5 _ c5 (il (pol (il f) * pol (il b) : Po (El p m mod))) rfl (by omega) C nc d2 ml hnc (by omega) (by omega) hm0) ⟨rfl, rfl, rfl, trivial⟩ ?_)
   rintro _ _ ⟨B5a, c5a, rfl, rfl⟩
   refine pV ?_
   rw [pol_il, pol_il, pol_il]
   refine tS ?_
   refine tr_draw [0, 1, 2, 3, 5, 4, 6, 7] [] mixed (by kernel_rfl) fun _ _ _ => ?_
   refine sV (rLdS rfl rfl rfl) ?_
   refine sV (rLdS rfl rfl rfl) ?_
   iterate 3 refine pV ?_
   refine eV (eCall1 rfl rfl rfl (ref_PMulL p m A c mod By _ cy (il b) rfl (by omega) By _ cy (il b) rfl (by omega) (by rw [pol_il]; omega)) ⟨rfl, rfl, rfl, trivial⟩ ?_)
   rintro _ _ ⟨B6, c6, rfl, rfl⟩
   refine eV (eCall1 rfl rfl rfl (ref_PRem p m A c mod B6 _ c6 (il (pol (il b) * pol (il b) : Po (El p m mod))) rfl (by omega) C nc d2 ml hnc (by omega) (by omega) hm0) ⟨rfl, rfl, rfl, trivial⟩ ?_)
   rintro _ _ ⟨B6a, c6a, rfl, rfl⟩
   refine pV ?_
   rw [pol_il, pol_il]
   refine tR fun _ _ _ => ?_
   refine pV ?_
   refine sV (rQuo rfl rfl rfl (by omega) (by omega)) ?_
   refine pV ?_
   refine ⟨t / 2, B5a, c5a, (Po.rem (f * b) (pol ml : Po (El p m mod))), B6a, c6a, (Po.rem (b * b) (pol ml : Po (El p m mod))), ⟨rfl, rfl, rfl, rfl, rfl, rfl, trivial⟩, by first | exact cs _ _ | exact CSub.refl _, ?_⟩
   exact ⟨⟨⟨by omega, by omega⟩, Po.rem_len _ hm0, Po.rem_len _ hm0, by rw [show (t / 2).toNat = t.toNat / 2 by omega]; exact (rem_pow_step hm0 hd).1 (by omega)⟩, by omega⟩
  ·try simp only [zbA] at h4
   refine tK ?_
   refine tS ?_
   refine tr_draw [0, 1, 2, 3, 5, 4, 6, 7] [] mixed (by kernel_rfl) fun _ _ _ => ?_
   refine sV (rLdS rfl rfl rfl) ?_
   refine sV (rLdS rfl rfl rfl) ?_
   iterate 3 refine pV ?_
   refine eV (eCall1 rfl rfl rfl (ref_PMulL p m A c mod By _ cy (il b) rfl (by omega) By _ cy (il b) rfl (by omega) (by rw [pol_il]; omega)) ⟨rfl, rfl, rfl, trivial⟩ ?_)
   rintro _ _ ⟨B6, c6, rfl, rfl⟩
   refine eV (eCall1 rfl rfl rfl (ref_PRem p m A c mod B6 _ c6 (il (pol (il b) * pol (il b) : Po (El p m mod))) rfl (by omega) C nc d2 ml hnc (by omega) (by omega) hm0) ⟨rfl, rfl, rfl, trivial⟩ ?_)
   rintro _ _ ⟨B6a, c6a, rfl, rfl⟩
   refine pV ?_
   rw [pol_il, pol_il]
   refine tR fun _ _ _ => ?_
   refine pV ?_
   refine sV (rQuo rfl rfl rfl (by omega) (by omega)) ?_
   refine pV ?_
   refine ⟨t / 2, Bx, cx, f, B6a, c6a, (Po.rem (b * b) (pol ml : Po (El p m mod))), ⟨rfl, rfl, rfl, rfl, rfl, rfl, trivial⟩, by first | exact cs _ _ | exact CSub.refl _, ?_⟩
   exact ⟨⟨⟨by omega, by omega⟩, hfl, Po.rem_len _ hm0, by rw [show (t / 2).toNat = t.toNat / 2 by omega]; exact (rem_pow_step hm0 hd).2 (by omega)⟩, by omega⟩
 ·try simp only [zbA] at h3
  refine tE ?_
  refine tS ?_
  refine tR fun _ _ _ => ?_
  iterate 2 refine pV ?_
  have htz : t.toNat = 0 := by omega
  rw [htz] at hd
  have hfe := rem_uniq hm0 hfl (show (pol ml : Po (El p m mod)) ∣ f - Rg.pow (pol a : Po (El p m mod)) k.toNat by
   have e : f * Rg.pow b 0 = f := by show f * 1 = f; grind
   rw [e] at hd; exact hd)
  subst hfe
  exact tr_ret ⟨trivial, _, _, rfl, ⟨_, rfl, Bx, cx, rfl, rfl⟩, cs _ _, trivial, trivial⟩
section
variable {p m : Int} {mod : List Int} [hF : IsF p m mod]
theorem irr_low {P : Po (El p m mod)} (h : Po.len P < 2) : irB P = false := irB_no fun hi => by have := hi.two; omega
theorem xq_step {P f : Po (El p m mod)} {i : Nat} (hP : P ≠ 0) (h : P ∣ f - Rg.pow Po.X ((pw p m).toNat ^ i)) : Po.rem (Rg.pow f (pw p m).toNat) P = Po.rem (Rg.pow Po.X ((pw p m).toNat ^ (i + 1))) P := by
 rw [Po.rem_eq_iff hP]
 have := fpow_congr h (pw p m).toNat
 rwa [← Rg.pow_mul, ← Nat.pow_succ] at this
theorem gcd_half {P : Po (El p m mod)} (hP : P ≠ 0) (i : Nat) : Po.gcd P (Po.rem (Rg.pow Po.X ((pw p m).toNat ^ i)) P - Po.X) = Po.gcd P (xq p m mod i) := gcd_sub_xq hP i
theorem rem_back {P f : Po (El p m mod)} (hP : P ≠ 0) : P ∣ Po.rem f P - f := by
 obtain ⟨z, hz⟩ := Po.rem_sub_dvd f hP
 exact ⟨-z, by rw [Rg.mul_neg, ← hz]; grind⟩
end
theorem ref_Irreducible_ent : Enters Tryz.prog 19 := enters_of Tryz.func19 (by kernel_rfl) (by kernel_rfl)
theorem ref_Irreducible (p m : Int) (A : Option Addr) (c : Nat) (mod : List Int) [hF : IsF p m mod] (Xa : Option Addr) (na ca : Nat) (a : List Int) (hna : na = a.length) (ha9 : a.length ≤ 17592186044415) (h9 : Po.len (pol a : Po (El p m mod)) ≤ 257) :
  Pure Tryz.prog 19 #[.agg #[.int .i64 p, .int .i64 m, .slice A mod.length c], .slice Xa na ca] [ro A (ints mod), ro Xa (ints a)] (isV (.bool (irB (pol a : Po (El p m mod))))) := by
 have hq2 := hF.q2
 have hq9 := hF.out.1.1.q
 have hord := hF.ord
 have hil := il_length (pol a : Po (El p m mod))
 refine pure_of (args := [.agg #[.int .i64 p, .int .i64 m, .slice A mod.length c], .slice Xa na ca]) 37 Tryz.func19 rfl rfl rfl ref_Irreducible_ent ⟨id, id, trivial⟩ (fun w0 => ?_)
 refine tS ?_
 refine tR fun _ _ _ => ?_
 refine eV (eBox rfl rfl rfl rfl rfl (fun p0 => ?_))
 refine pV ?_
 refine tS ?_
 refine tR fun _ _ _ => ?_
 refine sV (rLdS rfl rfl rfl) ?_
 refine pV ?_
 refine eV (eCall1 rfl rfl rfl (ref_CanonE p m A c mod Xa na ca a hna ha9) ⟨rfl, rfl, trivial⟩ ?_)
 rintro _ _ ⟨B1, c1, rfl, rfl⟩
 refine pV ?_
 refine tS ?_
 refine tS ?_
 refine tR fun _ _ _ => ?_
 refine pV ?_
 refine sV (rLen rfl rfl) ?_
 refine pV ?_
 refine tC rfl (fun h2 => ?_) (fun h2 => ?_)
 ·try simp only [zbA] at h2
  refine tS ?_
  refine tR fun _ _ _ => ?_
  refine pV ?_
  exact tr_ret ⟨trivial, _, _, rfl, ⟨by rw [irr_low (by omega)], rfl⟩, CSub.nil _, trivial⟩
 ·try simp only [zbA] at h2
  refine tK ?_
  refine tS ?_
  have hfe : facE (Po.len (pol a : Po (El p m mod))) = 0 := by rw [facE, if_neg (by omega), if_neg (by omega)]
  have hm0 := ne_of_len (facE_ok hfe).1
  refine tR fun _ _ _ => ?_
  refine eV (eLit2I rfl rfl rfl rfl rfl (fun A4 => ?_))
  refine pV ?_
  refine tS ?_
  refine tS ?_
  refine tR fun _ _ _ => ?_
  refine pV ?_
  refine tB ?_
  refine tr_loop4 (fun (i : Int) (Bl : Option Addr) (cl : Nat) (l : List Int) => [(5, .slice Bl l.length cl), (6, .int .i64 i), (1, .slice B1 (il (pol a : Po (El p m mod))).length c1), (2, .pointer (some p0))]) (fun (i : Int) (Bl : Option Addr) (cl : Nat) (l : List Int) => [ow Bl 3 cl (ints l), ow B1 3 c1 (ints (il (pol a : Po (El p m mod)))), blk p0 24 [.int .i64 p, .int .i64 m, .slice A mod.length c], ro A (ints mod)]) (fun (i : Int) (Bl : Option Addr) (cl : Nat) (l : List Int) => (1 ≤ i ∧ 2 * i ≤ Po.len (pol a : Po (El p m mod)) + 2) ∧ l.length ≤ 300 ∧ (pol a : Po (El p m mod)) ∣ pol l - Rg.pow Po.X ((pw p m).toNat ^ (i - 1).toNat) ∧ ∀ j : Nat, 1 ≤ j → (j : Int) < i → Po.gcd (pol a : Po (El p m mod)) (xq p m mod j) = 1) (fun (i : Int) (Bl : Option Addr) (cl : Nat) (l : List Int) => (Po.len (pol a : Po (El p m mod)) + 2 - 2 * i).toNat) (1) (A4) (2) ([0, 1]) ⟨rfl, rfl, rfl, rfl, trivial⟩ (by first | exact cs _ _ | exact CSub.refl _) (⟨⟨by omega, by omega⟩, by simp, by rw [pol_X01, show ((1 : Int) - 1).toNat = 0 from rfl, Nat.pow_zero, show Rg.pow (Po.X : Po (El p m mod)) 1 = Po.X from Rg.one_mul _, Rg.sub_self]; exact Po.dvd_zero _, fun j h1 h2 => by omega⟩) (fun i Bl cl l hI => ?_)
  obtain ⟨⟨hi0, hi1⟩, hll, hl, hall⟩ := hI
  refine tS ?_
  refine tS ?_
  refine tR fun _ _ _ => ?_
  refine pV ?_
  refine sV (rMul rfl rfl rfl (by omega) (by omega)) ?_
  refine pV ?_
  refine sV (rLen rfl rfl) ?_
  refine pV ?_
  refine tC rfl (fun h6 => ?_) (fun h6 => ?_)
  ·try simp only [zbA] at h6
   refine tK ?_
   refine tS ?_
   refine tB ?_
   refine tS ?_
   refine tr_draw [0, 1, 2, 4, 3, 5, 6] [] mixed (by kernel_rfl) fun _ _ _ => ?_
   refine sV (rLdS rfl rfl rfl) ?_
   refine pV ?_
   refine sV (rLdS rfl rfl rfl) ?_
   refine pV ?_
   refine eV (eCallV rfl rfl rfl (ref_order p m A c mod) ⟨rfl, trivial⟩ ?_)
   rw [hord]
   refine eV (eCall1 rfl rfl rfl (ref_PPowMod p m A c mod Bl _ cl l rfl (by omega) (pw p m) (by omega) (by omega) B1 _ c1 (il (pol a : Po (El p m mod))) rfl (by omega) (by rw [pol_il]; exact hfe)) ⟨rfl, rfl, rfl, rfl, trivial⟩ ?_)
   rintro _ _ ⟨B8, c8, rfl, rfl⟩
   refine pV ?_
   rw [pol_il, xq_step hm0 hl, show (i - 1).toNat + 1 = i.toNat by omega]
   refine tS ?_
   have hiln := il_length (Po.rem (Rg.pow Po.X ((pw p m).toNat ^ i.toNat)) (pol a : Po (El p m mod)))
   have hlrn := Po.rem_len (Rg.pow Po.X ((pw p m).toNat ^ i.toNat)) hm0
   have hs1 := il_length (pol (il (Po.rem (Rg.pow Po.X ((pw p m).toNat ^ i.toNat)) (pol a : Po (El p m mod)))) - pol [0, 1] : Po (El p m mod))
   have hs2 := Po.len_sub (pol (il (Po.rem (Rg.pow Po.X ((pw p m).toNat ^ i.toNat)) (pol a : Po (El p m mod))))) (pol [0, 1] : Po (El p m mod))
   have hs3 : Po.len (pol (il (Po.rem (Rg.pow Po.X ((pw p m).toNat ^ i.toNat)) (pol a : Po (El p m mod)))) : Po (El p m mod)) = Po.len (Po.rem (Rg.pow Po.X ((pw p m).toNat ^ i.toNat)) (pol a : Po (El p m mod))) := by rw [pol_il]
   have hs4 : Po.len (pol [0, 1] : Po (El p m mod)) ≤ 2 := Po.len_le (pol_sh [0, 1])
   have hs5 := il_length (Po.gcd (pol (il (pol a : Po (El p m mod)))) (pol (il (pol (il (Po.rem (Rg.pow Po.X ((pw p m).toNat ^ i.toNat)) (pol a : Po (El p m mod)))) - pol [0, 1] : Po (El p m mod)))) : Po (El p m mod))
   have hs6 := gcd_len (p := p) (m := m) (mod := mod) (f := pol (il (pol (il (Po.rem (Rg.pow Po.X ((pw p m).toNat ^ i.toNat)) (pol a : Po (El p m mod)))) - pol [0, 1] : Po (El p m mod)))) (show (pol (il (pol a : Po (El p m mod))) : Po (El p m mod)) ≠ 0 by rw [pol_il]; exact hm0)
   have hs7 : Po.len (pol (il (pol a : Po (El p m mod))) : Po (El p m mod)) = Po.len (pol a : Po (El p m mod)) := by rw [pol_il]
   have hge : (Po.gcd (pol (il (pol a : Po (El p m mod)))) (pol (il (pol (il (Po.rem (Rg.pow Po.X ((pw p m).toNat ^ i.toNat)) (pol a : Po (El p m mod)))) - pol [0, 1] : Po (El p m mod)))) : Po (El p m mod)) = Po.gcd (pol a : Po (El p m mod)) (xq p m mod i.toNat) := by rw [pol_il, pol_il, pol_il, pol_X01]; exact gcd_half hm0 _
   have hpg : Po.len (pol (il (Po.gcd (pol (il (pol a : Po (El p m mod)))) (pol (il (pol (il (Po.rem (Rg.pow Po.X ((pw p m).toNat ^ i.toNat)) (pol a : Po (El p m mod)))) - pol [0, 1] : Po (El p m mod)))) : Po (El p m mod))) : Po (El p m mod)) = Po.len (Po.gcd (pol (il (pol a : Po (El p m mod)))) (pol (il (pol (il (Po.rem (Rg.pow Po.X ((pw p m).toNat ^ i.toNat)) (pol a : Po (El p m mod)))) - pol [0, 1] : Po (El p m mod)))) : Po (El p m mod)) := by rw [pol_il]
   refine tr_draw [0, 1, 2, 3, 4, 5, 6, 7, 8, 9] [] mixed (by kernel_rfl) fun _ _ _ => ?_
   refine sV (rLdS rfl rfl rfl) ?_
   refine sV (rLdS rfl rfl rfl) ?_
   refine pV ?_
   refine sV (rLdS rfl rfl rfl) ?_
   refine pV ?_
   refine eV (eLit2I rfl rfl rfl rfl rfl (fun A9 => ?_))
   refine eV (eCall1 rfl rfl rfl (ref_PSub p m A c mod B8 _ c8 (il (Po.rem (Rg.pow Po.X ((pw p m).toNat ^ i.toNat)) (pol a : Po (El p m mod)))) rfl (by omega) A9 _ 2 [0, 1] rfl (by simp)) ⟨rfl, rfl, rfl, trivial⟩ ?_)
   rintro _ _ ⟨Bs, cs_, rfl, rfl⟩
   refine eV (eCall1 rfl rfl rfl (ref_PGcd p m A c mod B1 _ c1 (il (pol a : Po (El p m mod))) rfl (by omega) Bs _ cs_ (il (pol (il (Po.rem (Rg.pow Po.X ((pw p m).toNat ^ i.toNat)) (pol a : Po (El p m mod)))) - pol [0, 1])) rfl (by omega)) ⟨rfl, rfl, rfl, trivial⟩ ?_)
   rintro _ _ ⟨Bg, cg, rfl, rfl⟩
   refine eV (eCallV rfl rfl rfl (ref_PDegree p m A c mod Bg _ cg (il (Po.gcd (pol (il (pol a : Po (El p m mod)))) (pol (il (pol (il (Po.rem (Rg.pow Po.X ((pw p m).toNat ^ i.toNat)) (pol a : Po (El p m mod)))) - pol [0, 1] : Po (El p m mod)))) : Po (El p m mod))) rfl (by omega)) ⟨rfl, rfl, trivial⟩ ?_)
   refine pV ?_
   refine tC rfl (fun h9 => ?_) (fun h9 => ?_)
   ·try simp only [zbA] at h9
    refine tS ?_
    refine tR fun _ _ _ => ?_
    refine pV ?_
    have hno : irB (pol a : Po (El p m mod)) = false := irB_no fun hi => by
     have := (half_test (n := Po.len (pol a : Po (El p m mod)) - 1) (by omega) (by omega)).1 hi i.toNat (by omega) (by omega)
     rw [hpg, hge, this, Po.len_one] at h9
     omega
    exact tr_ret ⟨trivial, _, _, rfl, ⟨by rw [hno], rfl⟩, CSub.nil _, trivial⟩
   ·try simp only [zbA] at h9
    refine tK ?_
    refine tR fun _ _ _ => ?_
    refine pV ?_
    refine sV (rAdd rfl rfl rfl (by omega) (by omega)) ?_
    refine pV ?_
    refine ⟨i + 1, B8, c8, il (Po.rem (Rg.pow Po.X ((pw p m).toNat ^ i.toNat)) (pol a : Po (El p m mod))), ⟨rfl, rfl, rfl, rfl, trivial⟩, by first | exact cs _ _ | exact CSub.refl _, ?_⟩
    refine ⟨⟨⟨by omega, by omega⟩, by omega, ?_, fun j h1 h2 => ?_⟩, by omega⟩
    ·rw [pol_il, show (i + 1 - 1).toNat = i.toNat by omega]; exact rem_back hm0
    ·by_cases e : (j : Int) < i
     ·exact hall j h1 e
     ·rw [show j = i.toNat by omega]
      refine Po.gcd_one_of hm0 ?_
      rw [← hge]; omega
  ·try simp only [zbA] at h6
   refine tE ?_
   refine tS ?_
   refine tR fun _ _ _ => ?_
   refine pV ?_
   have hyes : irB (pol a : Po (El p m mod)) = true := irB_iff.2 ((half_test (n := Po.len (pol a : Po (El p m mod)) - 1) (by omega) (by omega)).2 fun j h1 h2 => hall j h1 (by omega))
   exact tr_ret ⟨trivial, _, _, rfl, ⟨by rw [hyes], rfl⟩, CSub.nil _, trivial⟩
end Go.Proofs.YtbhoeaijpnjgdaaGreat

namespace Go.Proofs.YtbhoeaijpnjgdaaGreat
open Go.RowKit
def isArN (P : Program) (t : TypeId) : Option (Nat × TypeId) :=
 match P.underlying t with
 | some (.array n e) => if isSc P e then some (n, e) else none
 | _ => none
class ArTy (P : Program) (t : TypeId) (n : outParam Nat) (e : outParam TypeId) : Prop where
 ar : isArN P t = some (n, e)
 inf : (P.info? t).map (·.size) = some n
theorem ArTy.und {P : Program} {t e : TypeId} {n : Nat} (h : ArTy P t n e) : P.underlying t = some (.array n e) ∧ isSc P e = true := by
 have h0 := h.ar
 unfold isArN at h0
 split at h0
 ·rename_i n' e' hu
  split at h0
  ·rename_i hs
   simp only [Option.some.injEq, Prod.mk.injEq] at h0
   obtain ⟨rfl, rfl⟩ := h0
   exact ⟨hu, hs⟩
  ·cases h0
 ·cases h0
section
variable {P : Program} {N : NB} {M : Nat → Prop} {w0 : World} {L : Fr} {F F' : List Chunk} {K : Fr → List Chunk → Prop} {b : Bool} {o : Oper} {v : Value} {x y : Operand} {t e et : TypeId}
theorem rBuildA {ps : List (Nat × Operand)} {us : List (Nat × Value)} {zs cells : List Value} {n : Nat} (ho : o.op = .build t ps.toArray) (hx : evp L ps = some us) [h : ArTy P t n et] [hz : ZrTy P t zs] (hf : Instr.fill (fun i => some (i * 1, 1)) zs.toArray us = some cells.toArray) : Stl P N M w0 o L F (.agg cells.toArray) := fun a w hl hm => by
 have h1 : (ps.toArray.map fun p => (p.1, a.eval p.2)) = us.toArray := by simp [evp_ok hl ps us hx]
 obtain ⟨z, hz1, hz2⟩ := hz.zr
 have hzr : (zeroValue t).run P w = .ok z w := by
  cases hi : P.info? t with
  | none => simp [hi] at hz1
  | some i => simp only [hi, Option.bind_some] at hz1; simp [zeroValue, typeInfo, hi, hz1]
 have hsz : (sizeOf et).run P w = .ok 1 w := run_size1 (scTy_of h.und.2).inf w
 simp only [Nat.mul_one] at hf
 have h2 : (Instr.build t us.toArray).run P w = .ok (.agg cells.toArray) w := by
  simp only [Instr.build, Sem.run_bind, hzr, Result.andThen_ok, run_und h.und.1, hsz, hz2]
  simp [hf]
 have h3 : execOp a.eval o = (do pure (.value (← Instr.build t us.toArray))) := by
  rw [← h1]
  simp only [execOp, ho]
 rw [h3]
 simp only [Sem.run_bind, h2, Result.andThen_ok, Sem.run_pure]
theorem eStA {tq : TypeId} {p : Addr} {vs us : List Value} {n : Nat} (ho : o.op = .store t x y) (hd : o.dst = none) [h : ArTy P t n et] (hx : ev L x = some (.pointer (some p))) (hy : ev L y = some (.agg us.toArray)) [hp : PkBlk F p tq vs F'] (h1 : vs.length = n) (h2 : us.length = n) (hv : us.all (·.oneCell') = true)
  (hK : K L (blk p tq us :: F')) : Eff P N M w0 false o L F K := eff_skip hd fun a w hl hm => by
 have hmp := hm.perm hp.perm
 have hb : (blk p tq vs).sat w := hmp.sat _ (List.mem_cons_self ..)
 have hrun := run_storeCells_from (P := P) p.block tq us 0 vs.toArray w hb.2 (by simp; omega) (fun u hu => List.all_eq_true.1 hv u hu)
 simp only [List.take_zero, List.nil_append] at hrun
 refine ⟨w.setRow p.block us.toArray, ?_, _, hmp.change (by exact trivial) (d := blk p tq us) ⟨rfl, rfl, rfl, by simp [World.setRow], fun k hk hc => setRow_other w p.block k us.toArray (fun e => hc e.symm)⟩ ⟨hb.1, setRow_heap w p.block _ _ _ _ hb.2⟩ (fun b hb => .inl hb), hK⟩
 have hpe : (⟨p.block, 0, none⟩ : Addr) = p := hb.1.symm
 rw [hpe] at hrun
 have hsz : (sizeOf t).run P w = .ok n w := run_size1 h.inf w
 have hst : (Instr.storeAt t (.pointer (some p)) (.agg us.toArray)).run P w = .ok () (w.setRow p.block us.toArray) := by
  simp only [Instr.storeAt, Instr.sureAddr, Sem.run_bind, Sem.run_pure, Result.andThen_ok, storeVar, hsz, Value.cells]
  simp [h2, hrun]
 simp only [execOp, ho, hl.eval hx, hl.eval hy, Sem.run_bind, hst, Result.andThen_ok, Sem.run_pure]
theorem cellA {p : Addr} {n : Nat} {vs : List Value} [h : ArTy P t n et] [hr : Rd F (some p) vs] (hn : vs.length = n) : CellV P F p t (.agg vs.toArray) := ⟨fun M w0 w hm => by
 have hu := h.und.1
 have hs := hr.rd M w0 w hm
 have hag : (isAgg t).run P w = .ok true w := by simp [isAgg, run_und hu]
 have hld : (loadCells p n).run P w = .ok vs.toArray w := by
  subst hn
  have := loadCellsFrom_ok (P := P) (w := w) (ad := p) vs 0 #[] (fun j hj => by
   obtain ⟨ad, h1, hc⟩ := hs j hj
   simp only [Option.some.injEq] at h1
   subst h1
   simpa using hc)
  simpa [loadCells] using this
 simp [loadVar, hag, run_size1 h.inf, hld]⟩
theorem rIndexA {l : List Int} {i : Int} {n : Nat} (ho : o.op = .index t x y) [h : ArTy P t n et] (hx : ev L x = some (.agg (ints l).toArray)) (hy : ev L y = some (.int .i64 i)) (hn : l.length = n) (h0 : 0 ≤ i) (h1 : i < n) : Stl P N M w0 o L F (.int .i64 (l.getD i.toNat 0)) := fun a w hl hm => by
 obtain ⟨hu, hs⟩ := h.und
 have hsz : (sizeOf et).run P w = .ok 1 w := run_size1 (scTy_of hs).inf w
 obtain ⟨d, hd, hnn⟩ := (scTy_of hs).und
 have hag : (isAgg et).run P w = .ok false w := by
  simp only [isAgg, Sem.run_bind, run_und hd, Result.andThen_ok]
  cases d <;> first | exact hnn.elim | rfl
 have hlt : i.toNat < l.length := by omega
 have hv : (ints l)[i.toNat]? = some (.int .i64 (l[i.toNat]?.getD 0)) := by
  simp [ints, List.getElem?_map, List.getElem?_eq_getElem hlt]
 simp only [execOp, ho, hl.eval hx, hl.eval hy, Sem.run_bind]
 simp [Instr.index, asIntOf, run_und hu, h0, h1, hsz, part, hag, hv]
end
end Go.Proofs.YtbhoeaijpnjgdaaGreat

namespace Go.Proofs.YtbhoeaijpnjgdaaGreat
structure LeastD (n d : Nat) : Prop where
 two : 2 ≤ d
 dvd : d ∣ n
 le : ∀ u, 2 ≤ u → u ∣ n → d ≤ u
theorem LeastD.uniq {n d e : Nat} (h : LeastD n d) (k : LeastD n e) : d = e := Nat.le_antisymm (h.le e k.two k.dvd) (k.le d h.two h.dvd)
theorem mod_of {n u : Nat} (h : u ∣ n) : (n : Int) % (u : Int) = 0 := by
 obtain ⟨k, rfl⟩ := h
 rw [Int.natCast_mul]; exact Int.mul_emod_right _ _
theorem dvd_of {n : Nat} {d : Int} (hd : 0 < d) (h : (n : Int) % d = 0) : d.toNat ∣ n := by
 have h1 : d ∣ (n : Int) := Int.dvd_of_emod_eq_zero h
 have h2 : ((d.toNat : Nat) : Int) = d := by omega
 rw [← h2] at h1
 exact Int.natCast_dvd_natCast.1 h1
def No235 (n : Nat) : Prop := (n : Int) % 2 ≠ 0 ∧ (n : Int) % 3 ≠ 0 ∧ (n : Int) % 5 ≠ 0
theorem least_low {n d : Nat} (hd : 2 ≤ d) (h : d ∣ n) (hno : ∀ u, 2 ≤ u → u < d → ¬ u ∣ n) : LeastD n d := ⟨hd, h, fun u h1 h2 => Nat.le_of_not_lt fun h3 => hno u h1 h3 h2⟩
theorem least_self {n d : Nat} (hn : 2 ≤ n) (hlt : n < d * d) (hno : ∀ u, 2 ≤ u → u < d → ¬ u ∣ n) : LeastD n n := ⟨hn, Nat.dvd_refl n, fun u h1 h2 => Nat.le_of_not_lt fun h3 => by
 obtain ⟨v, rfl⟩ := h2
 have hv : 2 ≤ v := by
  rcases Nat.lt_or_ge v 2 with h | h
  ·have : v = 0 ∨ v = 1 := by omega
   rcases this with rfl | rfl <;> omega
  ·exact h
 have hu : d ≤ u := Nat.le_of_not_lt fun h => hno u h1 h (Nat.dvd_mul_right ..)
 have hv2 : d ≤ v := Nat.le_of_not_lt fun h => hno v hv h (Nat.dvd_mul_left ..)
 have := Nat.mul_le_mul hu hv2
 omega⟩
theorem no_16 {n : Nat} {d : Nat} (h : No235 n) (hd : d = 7 ∨ (d = 11 ∧ (n : Int) % 7 ≠ 0) ∨ (d = 13 ∧ (n : Int) % 7 ≠ 0 ∧ (n : Int) % 11 ≠ 0) ∨ (d = 17 ∧ (n : Int) % 7 ≠ 0 ∧ (n : Int) % 11 ≠ 0 ∧ (n : Int) % 13 ≠ 0)) : ∀ u, 2 ≤ u → u < d → ¬ u ∣ n := fun u h1 h2 h3 => by
 obtain ⟨a, b, c⟩ := h
 have h4 := mod_of h3
 have hu : u ≤ 16 := by omega
 have : u = 2 ∨ u = 3 ∨ u = 4 ∨ u = 5 ∨ u = 6 ∨ u = 7 ∨ u = 8 ∨ u = 9 ∨ u = 10 ∨ u = 11 ∨ u = 12 ∨ u = 13 ∨ u = 14 ∨ u = 15 ∨ u = 16 := by omega
 rcases this with rfl | rfl | rfl | rfl | rfl | rfl | rfl | rfl | rfl | rfl | rfl | rfl | rfl | rfl | rfl <;> omega
open Classical in
noncomputable def leastN (n : Nat) : Nat := if h : ∃ d, LeastD n d then Classical.choose h else n
theorem leastN_eq {n d : Nat} (h : LeastD n d) : leastN n = d := by
 have he : ∃ d, LeastD n d := ⟨d, h⟩
 unfold leastN
 rw [dif_pos he]
 exact (Classical.choose_spec he).uniq h
theorem leastN_of {n : Nat} (h : 2 ≤ n) : LeastD n (leastN n) := by
 have key : ∀ d, (∃ e, LeastD n e) ∨ ∀ u, 2 ≤ u → u < d → ¬ u ∣ n := fun d => by
  induction d with
  | zero => exact .inr fun u _ h => by omega
  | succ d ih =>
   rcases ih with h | h
   ·exact .inl h
   ·by_cases hd : 2 ≤ d ∧ d ∣ n
    ·exact .inl ⟨d, least_low hd.1 hd.2 h⟩
    ·refine .inr fun u h1 h2 h3 => ?_
     rcases Nat.lt_or_eq_of_le (Nat.le_of_lt_succ h2) with e | e
     ·exact h u h1 e h3
     ·subst e; exact hd ⟨h1, h3⟩
 have he : ∃ d, LeastD n d := by
  rcases key (n + 1) with h1 | h1
  ·exact h1
  ·exact absurd (Nat.dvd_refl n) (h1 n h (by omega))
 unfold leastN
 rw [dif_pos he]
 exact Classical.choose_spec he
def isPr (r : Nat) : Prop := 2 ≤ r ∧ ∀ u, 2 ≤ u → u ∣ r → u = r
theorem LeastD.prime {n d : Nat} (h : LeastD n d) : isPr d := ⟨h.two, fun u h1 h2 => Nat.le_antisymm (Nat.le_of_dvd (by have := h.two; omega) h2) (h.le u h1 (Nat.dvd_trans h2 h.dvd))⟩
theorem pr_mul {r a b : Nat} (hr : isPr r) (h : r ∣ a * b) : r ∣ a ∨ r ∣ b := by
 have hr2 := hr.1
 by_cases h0 : a % r = 0
 ·exact .inl (Nat.dvd_of_mod_eq_zero h0)
 ·right
  refine prime_dvd hr2 (fun d h1 h2 h3 => by have := hr.2 d h1 h3; omega) (a := a % r) (by omega) (Nat.mod_lt _ (by omega)) ?_
  have e : a * b = r * (a / r * b) + a % r * b := by
   conv => lhs; rw [← Nat.div_add_mod a r]
   rw [Nat.add_mul, Nat.mul_assoc]
  rw [e] at h
  exact (Nat.dvd_add_right (Nat.dvd_mul_right ..)).1 h
theorem pr_pow {r a : Nat} (hr : isPr r) : ∀ n, r ∣ a ^ n → r ∣ a
 | 0, h => by rw [Nat.pow_zero] at h; have := Nat.le_of_dvd (by omega) h; have := hr.1; omega
 | n + 1, h => by
  rw [Nat.pow_succ] at h
  rcases pr_mul hr h with h | h
  ·exact pr_pow hr n h
  ·exact h
theorem two_le_pow {a e : Nat} (h : 2 ≤ a) (he : 1 ≤ e) : 2 ≤ a ^ e := by have := Nat.pow_le_pow_right (n := a) (by omega) he; rw [Nat.pow_one] at this; omega
def fprod : List (Int × Int) → Nat
 | [] => 1
 | q :: ps => q.1.toNat ^ q.2.toNat * fprod ps
theorem fprod_app (a b : List (Int × Int)) : fprod (a ++ b) = fprod a * fprod b := by
 induction a with
 | nil => exact (Nat.one_mul _).symm
 | cons x a ih => rw [List.cons_append, fprod, fprod, ih, Nat.mul_assoc]
structure PrF (n : Nat) (ps : List (Int × Int)) : Prop where
 each : ∀ q ∈ ps, isPr q.1.toNat ∧ 0 ≤ q.1 ∧ 1 ≤ q.2
 srt : ps.Pairwise fun x y => x.1 < y.1
 prod : fprod ps = n
theorem pr_fprod {r : Nat} (hr : isPr r) : ∀ {ps : List (Int × Int)}, (∀ q ∈ ps, isPr q.1.toNat ∧ 0 ≤ q.1 ∧ 1 ≤ q.2) → r ∣ fprod ps → ∃ q ∈ ps, q.1 = (r : Int)
 | [], _, h => by
  change r ∣ 1 at h
  have := Nat.le_of_dvd (by omega) h
  have := hr.1
  omega
 | q :: ps, hq, h => by
  rw [fprod] at h
  rcases pr_mul hr h with h | h
  ·have h1 := pr_pow hr _ h
   have h2 := (hq q (List.mem_cons_self ..))
   have h3 := h2.1.2 r hr.1 h1
   exact ⟨q, List.mem_cons_self .., by omega⟩
  ·obtain ⟨x, hx, e⟩ := pr_fprod hr (fun x hx => hq x (List.mem_cons_of_mem _ hx)) h
   exact ⟨x, List.mem_cons_of_mem _ hx, e⟩
theorem fprod_dvd : ∀ {ps : List (Int × Int)} {q : Int × Int}, q ∈ ps → 1 ≤ q.2 → q.1.toNat ∣ fprod ps
 | x :: ps, q, h, h1 => by
  rw [fprod]
  rcases List.mem_cons.1 h with rfl | h
  ·obtain ⟨e, he⟩ : ∃ e, q.2.toNat = e + 1 := ⟨q.2.toNat - 1, by omega⟩
   rw [he, Nat.pow_succ, Nat.mul_comm (q.1.toNat ^ e), Nat.mul_assoc]
   exact Nat.dvd_mul_right ..
  ·exact Nat.dvd_trans (fprod_dvd h h1) (Nat.dvd_mul_left ..)
theorem PrF.prL {n : Nat} {ps : List (Int × Int)} (h : PrF n ps) : PrL n ps := by
 refine ⟨fun q hq => by have := (h.each q hq).1.1; omega, fun r => ⟨?_, ?_⟩⟩
 ·rintro ⟨q, hq, e⟩
  obtain ⟨a, b, c⟩ := h.each q hq
  have er : r = q.1.toNat := by omega
  subst er
  exact ⟨a.1, a.2, by rw [← h.prod]; exact fprod_dvd hq c⟩
 ·rintro ⟨a, b, c⟩
  exact pr_fprod ⟨a, b⟩ h.each (by rw [h.prod]; exact c)
structure FacJ (n t : Nat) (ps : List (Int × Int)) : Prop where
 each : ∀ q ∈ ps, isPr q.1.toNat ∧ 0 ≤ q.1 ∧ 1 ≤ q.2
 srt : ps.Pairwise fun x y => x.1 < y.1
 prod : fprod ps * t = n
 lt : ∀ q ∈ ps, ∀ u : Nat, 2 ≤ u → u ∣ t → q.1 < (u : Int)
theorem FacJ.start (n : Nat) : FacJ n n [] := ⟨fun q h => by simp at h, .nil, Nat.one_mul _, fun q h => by simp at h⟩
theorem FacJ.next {n t u e : Nat} {ps : List (Int × Int)} (h : FacJ n t ps) (ht : 2 ≤ t) (hu : u * leastN t ^ e = t) (he : 1 ≤ e) (hn : ¬ leastN t ∣ u) : FacJ n u (ps ++ [((leastN t : Int), (e : Int))]) := by
 have hl := leastN_of ht
 refine ⟨fun q hq => ?_, List.pairwise_append.2 ⟨h.srt, List.pairwise_singleton _ _, fun x hx y hy => ?_⟩, ?_, fun q hq v h1 h2 => ?_⟩
 ·rcases List.mem_append.1 hq with hq | hq
  ·exact h.each q hq
  ·rw [List.mem_singleton] at hq
   subst hq
   exact ⟨hl.prime, by show (0 : Int) ≤ ((leastN t : Nat) : Int); omega, by show (1 : Int) ≤ (e : Int); omega⟩
 ·rw [List.mem_singleton] at hy
  subst hy
  exact h.lt x hx _ hl.two hl.dvd
 ·rw [fprod_app, fprod, fprod, Nat.mul_one, Nat.mul_assoc, ← h.prod]
  congr 1
  show (leastN t : Int).toNat ^ (e : Int).toNat * u = t
  rw [Int.toNat_natCast, Int.toNat_natCast, Nat.mul_comm]; exact hu
 ·have hut : u ∣ t := ⟨_, hu.symm⟩
  rcases List.mem_append.1 hq with hq | hq
  ·exact h.lt q hq v h1 (Nat.dvd_trans h2 hut)
  ·rw [List.mem_singleton] at hq
   subst hq
   have h3 := hl.le v h1 (Nat.dvd_trans h2 hut)
   have h4 : leastN t ≠ v := fun e => hn (by rw [e]; exact h2)
   show ((leastN t : Nat) : Int) < (v : Int)
   omega
theorem FacJ.done {n : Nat} {ps : List (Int × Int)} (h : FacJ n 1 ps) : PrF n ps := ⟨h.each, h.srt, by have := h.prod; rwa [Nat.mul_one] at this⟩
end Go.Proofs.YtbhoeaijpnjgdaaGreat

set_option maxRecDepth 100000
set_option maxHeartbeats 1000000
namespace Go.Proofs.YtbhoeaijpnjgdaaGreat
open Go.RowKit
instance tyAr8 : ArTy Tryz.prog 162 8 3 := ⟨by kernel_rfl, by kernel_rfl⟩
instance zrAr8 : ZrTy Tryz.prog 162 [.int .i64 0, .int .i64 0, .int .i64 0, .int .i64 0, .int .i64 0, .int .i64 0, .int .i64 0, .int .i64 0] := ⟨.agg #[.int .i64 0, .int .i64 0, .int .i64 0, .int .i64 0, .int .i64 0, .int .i64 0, .int .i64 0, .int .i64 0], by kernel_rfl, rfl⟩
theorem num_wheel_ent : Enters Tryz.prog 152 := enters_of Tryz.func152 (by kernel_rfl) (by kernel_rfl)
theorem num_wheel  :
  Pure Tryz.prog 152 #[] [] (isV (.agg (ints [1, 7, 11, 13, 17, 19, 23, 29]).toArray)) := by
 refine pure_ofC (args := []) 2 Tryz.func152 rfl rfl rfl num_wheel_ent trivial (fun w0 => ?_)
 refine tS ?_
 refine tR fun _ _ _ => ?_
 refine eV (eAlloc rfl rfl rfl (fun p0 => ?_))
 refine tS ?_
 refine tR fun _ _ _ => ?_
 refine sV (rBuildA (cells := ints [1, 7, 11, 13, 17, 19, 23, 29]) rfl rfl rfl) ?_
 refine eV (eStA rfl rfl rfl rfl (by rfl) (by rfl) (by rfl) ?_)
 exact tr_ret ⟨trivial, _, _, (.cell rfl (cellA rfl) .nil), ⟨rfl, rfl⟩, CSub.nil _, trivial⟩
theorem num_least_ent : Enters Tryz.prog 101 := enters_of Tryz.func101 (by kernel_rfl) (by kernel_rfl)
theorem num_least (n : Int) (hn2 : 2 ≤ n) (hn9 : n ≤ 256) :
  Pure Tryz.prog 101 #[.int .i64 n] [] (isV (.int .i64 (leastN n.toNat : Nat))) := by
 have hnn : ((n.toNat : Nat) : Int) = n := by omega
 refine pure_of (args := [.int .i64 n]) 46 Tryz.func101 rfl rfl rfl num_least_ent trivial (fun w0 => ?_)
 refine tS ?_
 refine tR fun _ _ _ => ?_
 refine pV ?_
 refine tr_scope ?_
 refine tS ?_
 refine tS ?_
 refine tR fun _ _ _ => ?_
 refine eV (eLit3I rfl rfl rfl rfl rfl rfl (fun A1 => ?_))
 refine sV (rLen rfl rfl) ?_
 refine pV ?_
 refine tB ?_
 refine tr_loop1 (fun (k : Int) => [(12, .int .i64 k), (10, .slice A1 3 3), (11, .int .i64 3), (0, .int .i64 n)]) (fun (k : Int) => [ow A1 3 3 (ints [2, 3, 5])]) (fun (k : Int) => (0 ≤ k ∧ k ≤ 3) ∧ ∀ z : Nat, (z : Int) < k → n % ([2, 3, 5] : List Int).getD z 0 ≠ 0) (fun (k : Int) => (3 - k).toNat) (0) ⟨rfl, rfl, rfl, rfl, trivial⟩ (by first | exact cs _ _ | exact CSub.refl _) (⟨⟨by omega, by omega⟩, fun z hz => by omega⟩) (fun k hI => ?_)
 obtain ⟨⟨hk0, hk1⟩, hall⟩ := hI
 refine tS ?_
 refine tR fun _ _ _ => ?_
 refine pV ?_
 refine tS ?_
 refine tC rfl (fun h2 => ?_) (fun h2 => ?_)
 ·try simp only [zbA] at h2
  refine tK ?_
  refine tS ?_
  refine tB ?_
  refine tS ?_
  refine tR fun _ _ _ => ?_
  refine sV (rIdxI rfl rfl rfl (by omega) (by omega) (by simp; omega)) ?_
  refine sV (rLdI rfl rfl (by simp; omega)) ?_
  refine pV ?_
  refine tS ?_
  have hD : (k = 0 ∧ ([2, 3, 5] : List Int).getD k.toNat 0 = 2) ∨ (k = 1 ∧ ([2, 3, 5] : List Int).getD k.toNat 0 = 3) ∨ (k = 2 ∧ ([2, 3, 5] : List Int).getD k.toNat 0 = 5) := by
   have h3 : k = 0 ∨ k = 1 ∨ k = 2 := by omega
   rcases h3 with rfl | rfl | rfl <;> simp
  generalize ([2, 3, 5] : List Int).getD k.toNat 0 = D at hD ⊢
  refine tR fun _ _ _ => ?_
  iterate 2 refine pV ?_
  refine sV (rRem rfl rfl rfl (by omega) (by omega)) ?_
  refine pV ?_
  refine tC rfl (fun h4 => ?_) (fun h4 => ?_)
  ·try simp only [zbA] at h4
   refine tS ?_
   refine tR fun _ _ _ => ?_
   iterate 2 refine pV ?_
   have hdv : D.toNat ∣ n.toNat := dvd_of (by omega) (by rw [hnn]; exact h4)
   have hls : LeastD n.toNat D.toNat := by
    rcases hD with ⟨rfl, rfl⟩ | ⟨rfl, rfl⟩ | ⟨rfl, rfl⟩
    ·exact least_low (by decide) hdv fun u h1 h2 => by omega
    ·refine least_low (by decide) hdv fun u h1 h2 h3 => ?_
     have q0 := hall 0 (by omega)
     simp at q0
     have := mod_of h3
     have : u = 2 := by omega
     subst this
     omega
    ·refine least_low (by decide) hdv fun u h1 h2 h3 => ?_
     have q0 := hall 0 (by omega)
     have q1 := hall 1 (by omega)
     simp at q0 q1
     have := mod_of h3
     have : u = 2 ∨ u = 3 ∨ u = 4 := by omega
     rcases this with rfl | rfl | rfl <;> omega
   exact tr_ret ⟨trivial, _, _, rfl, ⟨by rw [leastN_eq hls, show ((D.toNat : Nat) : Int) = D by omega], rfl⟩, CSub.nil _, trivial⟩
  ·try simp only [zbA] at h4
   refine tK ?_
   refine tR fun _ _ _ => ?_
   refine sV (rAdd rfl rfl rfl (by omega) (by omega)) ?_
   refine pV ?_
   refine ⟨k + 1, ⟨rfl, rfl, rfl, rfl, trivial⟩, by first | exact cs _ _ | exact CSub.refl _, ?_⟩
   refine ⟨⟨⟨by omega, by omega⟩, fun z hz => ?_⟩, by omega⟩
   by_cases e : (z : Int) < k
   ·exact hall z e
   ·rcases hD with ⟨rfl, rfl⟩ | ⟨rfl, rfl⟩ | ⟨rfl, rfl⟩
    ·rw [show z = 0 by omega]; exact h4
    ·rw [show z = 1 by omega]; exact h4
    ·rw [show z = 2 by omega]; exact h4
 ·try simp only [zbA] at h2
  refine tE ?_
  refine tS ?_
  have h235 : No235 n.toNat := by
   have q0 := hall 0 (by omega)
   have q1 := hall 1 (by omega)
   have q2 := hall 2 (by omega)
   simp at q0 q1 q2
   unfold No235
   rw [hnn]
   omega
  refine tR fun _ _ _ => ?_
  iterate 2 refine pV ?_
  refine tS ?_
  refine tr_label ?_
  refine tS ?_
  refine tS ?_
  refine tR fun _ _ _ => ?_
  refine pV ?_
  refine tB ?_
  refine tr_loop1 (fun (bs : Int) => [(6, .int .i64 bs), (5, .int .i64 n), (0, .int .i64 n)]) (fun (bs : Int) => []) (fun (bs : Int) => bs = 0) (fun (bs : Int) => 0) (0) ⟨rfl, rfl, rfl, trivial⟩ (by exact CSub.nil _) (rfl) (fun bs hI => ?_)
  subst hI
  refine tS ?_
  refine tB ?_
  refine tS ?_
  refine tR fun _ _ _ => ?_
  refine eV (eCallV rfl rfl rfl (num_wheel) trivial ?_)
  refine pV ?_
  refine tB ?_
  refine tr_loop1 (fun (i : Int) => [(26, .int .i64 i), (25, .agg (ints [1, 7, 11, 13, 17, 19, 23, 29]).toArray), (6, .int .i64 0), (5, .int .i64 n), (0, .int .i64 n)]) (fun (i : Int) => []) (fun (i : Int) => (0 ≤ i ∧ i ≤ 4) ∧ (2 ≤ i → n % 7 ≠ 0) ∧ (3 ≤ i → n % 11 ≠ 0) ∧ (4 ≤ i → n % 13 ≠ 0)) (fun (i : Int) => (4 - i).toNat) (0) ⟨rfl, rfl, rfl, rfl, rfl, trivial⟩ (by exact CSub.nil _) (⟨⟨by omega, by omega⟩, fun h => by omega, fun h => by omega, fun h => by omega⟩) (fun i hI => ?_)
  obtain ⟨⟨hi0, hi1⟩, g7, g11, g13⟩ := hI
  refine tS ?_
  refine tR fun _ _ _ => ?_
  refine pV ?_
  refine tS ?_
  refine tC rfl (fun h11 => ?_) (fun h11 => ?_)
  ·try simp only [zbA] at h11
   refine tK ?_
   refine tS ?_
   refine tB ?_
   refine tS ?_
   refine tR fun _ _ _ => ?_
   refine sV (rIndexA rfl rfl rfl rfl (by omega) (by omega)) ?_
   refine pV ?_
   refine tS ?_
   have hW : (i = 0 ∧ ([1, 7, 11, 13, 17, 19, 23, 29] : List Int).getD i.toNat 0 = 1) ∨ (i = 1 ∧ ([1, 7, 11, 13, 17, 19, 23, 29] : List Int).getD i.toNat 0 = 7) ∨ (i = 2 ∧ ([1, 7, 11, 13, 17, 19, 23, 29] : List Int).getD i.toNat 0 = 11) ∨ (i = 3 ∧ ([1, 7, 11, 13, 17, 19, 23, 29] : List Int).getD i.toNat 0 = 13) ∨ (i = 4 ∧ ([1, 7, 11, 13, 17, 19, 23, 29] : List Int).getD i.toNat 0 = 17) := by
    have h3 : i = 0 ∨ i = 1 ∨ i = 2 ∨ i = 3 ∨ i = 4 := by omega
    rcases h3 with rfl | rfl | rfl | rfl | rfl <;> simp
   generalize ([1, 7, 11, 13, 17, 19, 23, 29] : List Int).getD i.toNat 0 = W at hW ⊢
   refine tR fun _ _ _ => ?_
   iterate 2 refine pV ?_
   refine sV (rAdd rfl rfl rfl (by omega) (by omega)) ?_
   refine pV ?_
   rw [show (0 : Int) + W = W by omega]
   refine tS ?_
   refine tS ?_
   refine tR fun _ _ _ => ?_
   iterate 2 refine pV ?_
   refine tC rfl (fun h14 => ?_) (fun h14 => ?_)
   ·try simp only [zbA] at h14
    refine tE ?_
    refine tR fun _ _ _ => ?_
    refine sV (rAdd rfl rfl rfl (by omega) (by omega)) ?_
    refine pV ?_
    refine ⟨i + 1, ⟨rfl, rfl, rfl, rfl, rfl, trivial⟩, by first | exact cs _ _ | exact CSub.refl _, ?_⟩
    exact ⟨⟨⟨by omega, by omega⟩, fun h => by omega, fun h => by omega, fun h => by omega⟩, by omega⟩
   ·try simp only [zbA] at h14
    refine tK ?_
    refine tS ?_
    refine tS ?_
    have hsq : (i = 0 ∧ W * W = 1) ∨ (i = 1 ∧ W * W = 49) ∨ (i = 2 ∧ W * W = 121) ∨ (i = 3 ∧ W * W = 169) ∨ (i = 4 ∧ W * W = 289) := by
     rcases hW with ⟨_, rfl⟩ | ⟨_, rfl⟩ | ⟨_, rfl⟩ | ⟨_, rfl⟩ | ⟨_, rfl⟩ <;> omega
    refine tR fun _ _ _ => ?_
    iterate 2 refine pV ?_
    refine sV (rMul rfl rfl rfl (by omega) (by omega)) ?_
    iterate 2 refine pV ?_
    refine tC rfl (fun h15 => ?_) (fun h15 => ?_)
    ·try simp only [zbA] at h15
     refine tE ?_
     refine tS ?_
     refine tR fun _ _ _ => ?_
     iterate 2 refine pV ?_
     have hWn : W = 7 ∨ (W = 11 ∧ n % 7 ≠ 0) ∨ (W = 13 ∧ n % 7 ≠ 0 ∧ n % 11 ≠ 0) ∨ (W = 17 ∧ n % 7 ≠ 0 ∧ n % 11 ≠ 0 ∧ n % 13 ≠ 0) := by omega
     have hno := no_16 (n := n.toNat) (d := W.toNat) h235 (by rw [hnn]; omega)
     have hWW : ((W.toNat * W.toNat : Nat) : Int) = W * W := by rw [Int.natCast_mul, Int.toNat_of_nonneg (by omega)]
     first
      | (have hls : LeastD n.toNat W.toNat := least_low (by omega) (dvd_of (by omega) (by rw [hnn]; exact h16)) hno; exact tr_ret ⟨trivial, _, _, rfl, ⟨by rw [leastN_eq hls, show ((W.toNat : Nat) : Int) = W by omega], rfl⟩, CSub.nil _, trivial⟩)
      | (have hls : LeastD n.toNat n.toNat := least_self (d := W.toNat) (by omega) (by omega) hno; exact tr_ret ⟨trivial, _, _, rfl, ⟨by rw [leastN_eq hls, hnn], rfl⟩, CSub.nil _, trivial⟩)
    ·try simp only [zbA] at h15
     refine tK ?_
     refine tS ?_
     refine tR fun _ _ _ => ?_
     iterate 2 refine pV ?_
     refine sV (rRem rfl rfl rfl (by omega) (by omega)) ?_
     refine pV ?_
     refine tC rfl (fun h16 => ?_) (fun h16 => ?_)
     ·try simp only [zbA] at h16
      refine tS ?_
      refine tR fun _ _ _ => ?_
      iterate 2 refine pV ?_
      refine tE ?_
      refine tS ?_
      refine tR fun _ _ _ => ?_
      iterate 2 refine pV ?_
      have hWn : W = 7 ∨ (W = 11 ∧ n % 7 ≠ 0) ∨ (W = 13 ∧ n % 7 ≠ 0 ∧ n % 11 ≠ 0) ∨ (W = 17 ∧ n % 7 ≠ 0 ∧ n % 11 ≠ 0 ∧ n % 13 ≠ 0) := by omega
      have hno := no_16 (n := n.toNat) (d := W.toNat) h235 (by rw [hnn]; omega)
      have hWW : ((W.toNat * W.toNat : Nat) : Int) = W * W := by rw [Int.natCast_mul, Int.toNat_of_nonneg (by omega)]
      first
       | (have hls : LeastD n.toNat W.toNat := least_low (by omega) (dvd_of (by omega) (by rw [hnn]; exact h16)) hno; exact tr_ret ⟨trivial, _, _, rfl, ⟨by rw [leastN_eq hls, show ((W.toNat : Nat) : Int) = W by omega], rfl⟩, CSub.nil _, trivial⟩)
       | (have hls : LeastD n.toNat n.toNat := least_self (d := W.toNat) (by omega) (by omega) hno; exact tr_ret ⟨trivial, _, _, rfl, ⟨by rw [leastN_eq hls, hnn], rfl⟩, CSub.nil _, trivial⟩)
     ·try simp only [zbA] at h16
      refine tK ?_
      refine tR fun _ _ _ => ?_
      refine sV (rAdd rfl rfl rfl (by omega) (by omega)) ?_
      refine pV ?_
      refine ⟨i + 1, ⟨rfl, rfl, rfl, rfl, rfl, trivial⟩, by first | exact cs _ _ | exact CSub.refl _, ?_⟩
      rcases hW with ⟨rfl, rfl⟩ | ⟨rfl, rfl⟩ | ⟨rfl, rfl⟩ | ⟨rfl, rfl⟩ | ⟨rfl, rfl⟩
      ·omega
      ·exact ⟨⟨⟨by omega, by omega⟩, fun _ => h16, fun h => by omega, fun h => by omega⟩, by omega⟩
      ·exact ⟨⟨⟨by omega, by omega⟩, fun _ => g7 (by omega), fun _ => h16, fun h => by omega⟩, by omega⟩
      ·exact ⟨⟨⟨by omega, by omega⟩, fun _ => g7 (by omega), fun _ => g11 (by omega), fun _ => h16⟩, by omega⟩
      ·omega
  ·try simp only [zbA] at h11
   omega --done
theorem num_FactorX_ent : Enters Tryz.prog 55 := enters_of Tryz.func55 (by kernel_rfl) (by kernel_rfl)
theorem num_FactorX (n : Int) (hn1 : 1 ≤ n) (hn9 : n ≤ 256) :
  Pure Tryz.prog 55 #[.int .i64 n] [] (one (fun v ch => ∃ B c ps, v = .tuple #[.slice B ps.length c, .int .i64 0] ∧ ch = ow2 B 93 c (pws ps) ∧ PrF n.toNat ps ∧ ps.length ≤ 256)) := by
 have hnn : ((n.toNat : Nat) : Int) = n := by omega
 refine pure_of (args := [.int .i64 n]) 32 Tryz.func55 rfl rfl rfl num_FactorX_ent trivial (fun w0 => ?_)
 refine tS ?_
 refine tR fun _ _ _ => ?_
 iterate 2 refine pV ?_
 refine tS ?_
 refine tS ?_
 refine tR fun _ _ _ => ?_
 refine pV ?_
 refine eV (eCallV rfl rfl rfl (num_in n 1) ⟨rfl, rfl, trivial⟩ ?_)
 refine sV (rNotB rfl rfl) ?_
 refine tC rfl (fun h1 => ?_) (fun h1 => ?_)
 ·try simp only [zbA] at h1
  simp at h1
  omega --done
 ·try simp only [zbA] at h1
  refine tK ?_
  refine tS ?_
  refine tR fun _ _ _ => ?_
  refine pV ?_
  refine tS ?_
  refine tB ?_
  refine tr_nil2 93 ?_
  refine tr_loop4 (fun (t : Int) (B : Option Addr) (cb : Nat) (ps : List (Int × Int)) => [(0, .int .i64 t), (4, .slice B ps.length cb), (2, .slice none 0 0), (3, .int .i64 0)]) (fun (t : Int) (B : Option Addr) (cb : Nat) (ps : List (Int × Int)) => [ow2 B 93 cb (pws ps)]) (fun (t : Int) (B : Option Addr) (cb : Nat) (ps : List (Int × Int)) => (1 ≤ t ∧ t ≤ n) ∧ FacJ n.toNat t.toNat ps ∧ ps.length + t ≤ 256) (fun (t : Int) (B : Option Addr) (cb : Nat) (ps : List (Int × Int)) => t.toNat) (n) (none) (0) ([]) ⟨rfl, rfl, rfl, rfl, trivial⟩ (by first | exact cs _ _ | exact CSub.refl _) (⟨⟨by omega, by omega⟩, FacJ.start _, by simp; omega⟩) (fun t B cb ps hI => ?_)
  obtain ⟨⟨ht1, ht9⟩, hJ, hpl⟩ := hI
  refine tS ?_
  refine tS ?_
  refine tR fun _ _ _ => ?_
  iterate 2 refine pV ?_
  refine tC rfl (fun h4 => ?_) (fun h4 => ?_)
  ·try simp only [zbA] at h4
   refine tK ?_
   refine tB ?_
   refine tS ?_
   refine tR fun _ _ _ => ?_
   refine pV ?_
   refine eV (eCallV rfl rfl rfl (num_least t (by omega) (by omega)) ⟨rfl, trivial⟩ ?_)
   refine pV ?_
   refine tS ?_
   have hlt := leastN_of (n := t.toNat) (by omega)
   have hl2 := hlt.two
   have hld := Nat.le_of_dvd (by omega) hlt.dvd
   have htt : ((t.toNat : Nat) : Int) = t := by omega
   refine tR fun _ _ _ => ?_
   refine pV ?_
   refine sV (rBuild rfl rfl) ?_
   refine eV (eAlloc rfl rfl rfl (fun p6 => ?_))
   refine eV (eStS rfl rfl rfl rfl rfl rfl ?_)
   refine tS ?_
   refine tB ?_
   refine tr_loop2 (fun (u : Int) (e : Int) => [(0, .int .i64 u), (4, .slice B ps.length cb), (5, .int .i64 ((leastN t.toNat : Nat) : Int)), (2, .slice none 0 0), (3, .int .i64 0), (6, .pointer (some p6))]) (fun (u : Int) (e : Int) => [blk p6 93 [.int .i64 ((leastN t.toNat : Nat) : Int), .int .i64 e], ow2 B 93 cb (pws ps)]) (fun (u : Int) (e : Int) => (1 ≤ u ∧ u ≤ t) ∧ (0 ≤ e ∧ e + u ≤ t) ∧ u.toNat * leastN t.toNat ^ e.toNat = t.toNat) (fun (u : Int) (e : Int) => u.toNat) (t) (0) ⟨rfl, rfl, rfl, rfl, rfl, rfl, trivial⟩ (by first | exact cs _ _ | exact CSub.refl _) (⟨⟨by omega, by omega⟩, ⟨by omega, by omega⟩, by rw [show Int.toNat 0 = 0 from rfl, Nat.pow_zero, Nat.mul_one]⟩) (fun u e hI => ?_)
   obtain ⟨⟨hu1, hu9⟩, ⟨he0, he9⟩, hue⟩ := hI
   refine tS ?_
   refine tS ?_
   refine tR fun _ _ _ => ?_
   iterate 2 refine pV ?_
   refine sV (rRem rfl rfl rfl (by omega) (by omega)) ?_
   refine pV ?_
   refine tC rfl (fun h7 => ?_) (fun h7 => ?_)
   ·try simp only [zbA] at h7
    refine tK ?_
    refine tB ?_
    refine tS ?_
    refine tR fun _ _ _ => ?_
    refine sV (rFld rfl rfl) ?_
    refine sV (rLdF rfl rfl rfl) ?_
    refine sV (rAdd rfl rfl rfl (by omega) (by omega)) ?_
    refine sV (rFld rfl rfl) ?_
    refine eV (eStF rfl rfl rfl rfl rfl (by simp) rfl rfl ?_)
    refine tR fun _ _ _ => ?_
    iterate 2 refine pV ?_
    refine sV (rQuo rfl rfl rfl (by omega) (by omega)) ?_
    refine pV ?_
    refine ⟨u / ((leastN t.toNat : Nat) : Int), e + 1, ⟨rfl, rfl, rfl, rfl, rfl, rfl, trivial⟩, by first | exact cs _ _ | exact CSub.refl _, ?_⟩
    have hdu : leastN t.toNat ∣ u.toNat := by
     have := dvd_of (n := u.toNat) (d := ((leastN t.toNat : Nat) : Int)) (by omega) (by rw [show ((u.toNat : Nat) : Int) = u by omega]; exact h7)
     rwa [Int.toNat_natCast] at this
    obtain ⟨w, hw⟩ := hdu
    have hq : u / ((leastN t.toNat : Nat) : Int) = (w : Int) := by
     have : u = ((leastN t.toNat : Nat) : Int) * (w : Int) := by rw [← Int.natCast_mul, ← hw]; omega
     rw [this]; exact Int.mul_ediv_cancel_left _ (by omega)
    rw [hq]
    have hw1 : 1 ≤ w := Nat.one_le_iff_ne_zero.2 fun e0 => by rw [e0, Nat.mul_zero] at hw; omega
    have hw2 : 2 * w ≤ u.toNat := by rw [hw]; exact Nat.mul_le_mul_right _ hl2
    refine ⟨⟨⟨by omega, by omega⟩, ⟨by omega, by omega⟩, ?_⟩, by omega⟩
    rw [show (e + 1).toNat = e.toNat + 1 by omega, Int.toNat_natCast, Nat.pow_succ]
    refine Eq.trans ?_ hue
    rw [hw, Nat.mul_comm (leastN t.toNat ^ e.toNat), ← Nat.mul_assoc, Nat.mul_comm w]
   ·try simp only [zbA] at h7
    refine tE ?_
    have hnd : ¬ leastN t.toNat ∣ u.toNat := fun hd => h7 (by have := mod_of hd; rw [show ((u.toNat : Nat) : Int) = u by omega] at this; exact this)
    have he1 : 1 ≤ e.toNat := Nat.one_le_iff_ne_zero.2 fun e0 => hnd (by rw [e0, Nat.pow_zero, Nat.mul_one] at hue; rw [hue]; exact hlt.dvd)
    have hfn := hJ.next (by omega) hue he1 hnd
    refine tR fun _ _ _ => ?_
    refine pV ?_
    refine sV (rLdS rfl rfl rfl) ?_
    refine eV (eLitS rfl rfl rfl rfl (fun p10 => ?_))
    refine eV (eApp2 rfl rfl rfl rfl rfl (by first | rfl | simp | omega) rfl (by first | (simp; done) | (simp; omega)) (by first | (simp; done) | (simp; omega)) (fun A10a c10a => ?_))
    refine pV ?_
    rw [show pws ps ++ [((Value.int .i64 ((leastN t.toNat : Nat) : Int) : Value), (Value.int .i64 e : Value))] = pws (ps ++ [(((leastN t.toNat : Nat) : Int), e)]) by rw [pws_app]; rfl, pws_length]
    refine ⟨u, A10a, c10a, ps ++ [(((leastN t.toNat : Nat) : Int), e)], ⟨rfl, rfl, rfl, rfl, trivial⟩, by first | exact cs _ _ | exact CSub.refl _, ?_⟩
    rw [show ((e.toNat : Nat) : Int) = e by omega] at hfn
    have h3 : u.toNat * 2 ≤ u.toNat * leastN t.toNat ^ e.toNat := Nat.mul_le_mul_left _ (two_le_pow hl2 he1)
    refine ⟨⟨⟨by omega, by omega⟩, hfn, ?_⟩, by omega⟩
    simp only [List.length_append, List.length_singleton]
    omega
  ·try simp only [zbA] at h4
   refine tE ?_
   refine tS ?_
   refine tR fun _ _ _ => ?_
   iterate 3 refine pV ?_
   have ht : t.toNat = 1 := by omega
   rw [ht] at hJ
   exact tr_ret ⟨trivial, _, _, rfl, ⟨_, rfl, B, cb, ps, rfl, rfl, hJ.done, by omega⟩, cs _ _, trivial, trivial⟩
theorem fac_IrrX_ent : Enters Tryz.prog 23 := enters_of Tryz.func23 (by kernel_rfl) (by kernel_rfl)
theorem fac_IrrX (g : GfM) {p m : Int} {mod : List Int} [hF : IsF p m mod] (hg : GOk g p m mod) (A : Option Addr) (n c : Nat) (a : List Int) (hn : n = a.length) (ha9 : a.length ≤ 17592186044415) (he : facE (Po.len (pol a : Po (El p m mod))) = 0) (N : Nat) (hN : Po.len (pol a : Po (El p m mod)) = N + 1) (h1 : 1 ≤ N) (h9N : N ≤ 256) :
  Pure Tryz.prog 23 #[.pointer (some g.p), .slice A n c] [gfR g, ro A (ints a)] (isV (.tuple #[.bool (irB (pol a : Po (El p m mod))), .int .i64 0])) := by
 have h1N := h1
 have hil := il_length (pol a : Po (El p m mod))
 have hle := facE_ok he
 have hm0 := ne_of_len hle.1
 have hil0 := il_length (Po.rem Po.X (pol a : Po (El p m mod)))
 have hlr0 := Po.rem_len (Po.X : Po (El p m mod)) hm0
 refine pure_of (args := [.pointer (some g.p), .slice A n c]) 85 Tryz.func23 rfl rfl rfl fac_IrrX_ent ⟨id, id, trivial⟩ (fun w0 => ?_)
 refine tS ?_
 refine tR fun _ _ _ => ?_
 iterate 2 refine pV ?_
 refine tS ?_
 refine tR fun _ _ _ => ?_
 iterate 2 refine pV ?_
 refine eV (eCall1 rfl rfl rfl (fac_enter g hg A n c a hn ha9 he) ⟨rfl, rfl, trivial⟩ ?_)
 rintro _ _ ⟨B1, c1, rfl, hc1, rfl⟩
 iterate 5 refine pV ?_
 refine tS ?_
 refine tS ?_
 refine tR fun _ _ _ => ?_
 iterate 2 refine pV ?_
 refine tC rfl (fun h2 => ?_) (fun h2 => ?_)
 ·try simp only [zbA] at h2
  first | exact absurd trivial h2 | exact absurd rfl h2 | omega | (exact absurd h2 (by simp)) --done
 ·try simp only [zbA] at h2
  refine tK ?_
  refine tS ?_
  refine tR fun _ _ _ => ?_
  refine pV ?_
  refine sV (rLen rfl rfl) ?_
  refine sV (rSub rfl rfl rfl (by omega) (by omega)) ?_
  refine pV ?_
  rw [show ((il (pol a : Po (El p m mod))).length : Int) - 1 = (N : Int) by omega]
  refine tS ?_
  refine tS ?_
  refine tR fun _ _ _ => ?_
  iterate 2 refine pV ?_
  refine tC rfl (fun h5 => ?_) (fun h5 => ?_)
  ·try simp only [zbA] at h5
   omega --done
  ·try simp only [zbA] at h5
   refine tK ?_
   refine tS ?_
   refine tR fun _ _ _ => ?_
   refine pV ?_
   refine eV (eCall1 rfl rfl rfl (num_FactorX (N : Int) (by omega) (by omega)) ⟨rfl, trivial⟩ ?_)
   rintro _ _ ⟨B7, c7, ps, rfl, rfl, hprf, hpl⟩
   iterate 5 refine pV ?_
   refine tS ?_
   refine tR fun _ _ _ => ?_
   refine eV (eLit2I rfl rfl rfl rfl rfl (fun A8 => ?_))
   refine pV ?_
   refine tS ?_
   have hps : PrL N ps := by have := hprf.prL; rwa [Int.toNat_natCast] at this
   refine tR fun _ _ _ => ?_
   iterate 3 refine pV ?_
   refine eV (eCall2 rfl rfl rfl (poly_DivMod g hg A8 _ 2 [0, 1] rfl (by simp) B1 _ c1 (il (pol a : Po (El p m mod))) rfl (by omega) (by rw [pol_il]; exact hm0)) ⟨rfl, rfl, rfl, trivial⟩ ?_)
   rintro _ _ _ ⟨Q9, q9, B9, c9, rfl, rfl, rfl⟩
   iterate 7 refine pV ?_
   rw [pol_il, pol_X01]
   refine tS ?_
   refine tR fun _ _ _ => ?_
   iterate 2 refine pV ?_
   refine tS ?_
   refine tS ?_
   refine tr_chunks [ro B9 (ints (il (Po.rem Po.X (pol a : Po (El p m mod))))), ro B9 (ints (il (Po.rem Po.X (pol a : Po (El p m mod))))), ow A8 3 2 (ints [0, 1]), ow2 B7 93 c7 (pws ps), ow B1 3 c1 (ints (il (pol a : Po (El p m mod)))), gfR g] ((cs _ [ow B9 3 c9 (ints (il (Po.rem Po.X (pol a : Po (El p m mod))))), ow A8 3 2 (ints [0, 1]), ow2 B7 93 c7 (pws ps), ow B1 3 c1 (ints (il (pol a : Po (El p m mod)))), gfR g]).trans ((ow_ro _).trans (ro_dup _))) ?_
   refine tR fun _ _ _ => ?_
   refine pV ?_
   refine tB ?_
   refine tr_loop4 (fun (i : Int) (Bh : Option Addr) (ch : Nat) (f : Po (El p m mod)) => [(13, .slice Bh (il f).length ch), (15, .slice B9 (il (Po.rem Po.X (pol a : Po (El p m mod)))).length c9), (16, .int .i64 i), (8, .int .i64 N), (11, .slice A8 2 2), (0, .pointer (some g.p)), (6, .slice B1 (il (pol a : Po (El p m mod))).length c1), (9, .slice B7 ps.length c7)]) (fun (i : Int) (Bh : Option Addr) (ch : Nat) (f : Po (El p m mod)) => [ro Bh (ints (il f)), ro B9 (ints (il (Po.rem Po.X (pol a : Po (El p m mod))))), ow A8 3 2 (ints [0, 1]), ow2 B7 93 c7 (pws ps), ow B1 3 c1 (ints (il (pol a : Po (El p m mod)))), gfR g]) (fun (i : Int) (Bh : Option Addr) (ch : Nat) (f : Po (El p m mod)) => (1 ≤ i ∧ i ≤ N + 1) ∧ f = (Po.rem (Rg.pow Po.X ((pw p m).toNat ^ (i - 1).toNat)) (pol a : Po (El p m mod))) ∧ ∀ z : Nat, z < ps.length → ((N : Int) / (ps.getD z (0, 0)).1) < i → Po.gcd (pol a : Po (El p m mod)) (xq p m mod ((N : Int) / (ps.getD z (0, 0)).1).toNat) = 1) (fun (i : Int) (Bh : Option Addr) (ch : Nat) (f : Po (El p m mod)) => (N + 1 - i).toNat) (1) (B9) (c9) ((Po.rem Po.X (pol a : Po (El p m mod)))) ⟨rfl, rfl, rfl, rfl, rfl, rfl, rfl, rfl, trivial⟩ (by first | exact cs _ _ | exact CSub.refl _) (⟨⟨by omega, by omega⟩, by rw [show ((1 : Int) - 1).toNat = 0 from rfl, Nat.pow_zero, show Rg.pow (Po.X : Po (El p m mod)) 1 = Po.X from Rg.one_mul _], fun z hz hlt => absurd hlt (by have := nq_pos hps h1N hz; omega)⟩) (fun i Bh ch f hI => ?_)
   obtain ⟨⟨hi0, hi1⟩, rfl, hall⟩ := hI
   refine tS ?_
   refine tS ?_
   refine tR fun _ _ _ => ?_
   iterate 3 refine pV ?_
   refine tC rfl (fun h12 => ?_) (fun h12 => ?_)
   ·try simp only [zbA] at h12
    refine tK ?_
    refine tS ?_
    refine tB ?_
    refine tS ?_
    have hilh := il_length (Po.rem (Rg.pow Po.X ((pw p m).toNat ^ (i - 1).toNat)) (pol a : Po (El p m mod)))
    have hlrh := Po.rem_len (Rg.pow Po.X ((pw p m).toNat ^ (i - 1).toNat)) hm0
    have hiln := il_length (Po.rem (Rg.pow Po.X ((pw p m).toNat ^ i.toNat)) (pol a : Po (El p m mod)))
    have hlrn := Po.rem_len (Rg.pow Po.X ((pw p m).toNat ^ i.toNat)) hm0
    refine tR fun _ _ _ => ?_
    iterate 3 refine pV ?_
    refine eV (eCall1 rfl rfl rfl (fac_frobenius g hg Bh _ ch (il (Po.rem (Rg.pow Po.X ((pw p m).toNat ^ (i - 1).toNat)) (pol a : Po (El p m mod)))) rfl (by omega) B1 _ c1 (il (pol a : Po (El p m mod))) rfl (by omega) (by rw [pol_il]; exact he)) ⟨rfl, rfl, rfl, trivial⟩ ?_)
    rintro _ _ ⟨B14, c14, rfl, rfl⟩
    refine pV ?_
    rw [pol_il, pol_il, rem_next hm0, show (i - 1).toNat + 1 = i.toNat by omega]
    refine tS ?_
    refine tR fun _ _ _ => ?_
    refine pV ?_
    refine sV (rLenS rfl rfl) ?_
    refine pV ?_
    refine tB ?_
    refine tr_loop1 (fun (j : Int) => [(59, .int .i64 j), (57, .slice B7 ps.length c7), (58, .int .i64 ps.length), (0, .pointer (some g.p)), (6, .slice B1 (il (pol a : Po (El p m mod))).length c1), (8, .int .i64 N), (9, .slice B7 ps.length c7), (11, .slice A8 2 2), (13, .slice B14 (il (Po.rem (Rg.pow Po.X ((pw p m).toNat ^ i.toNat)) (pol a : Po (El p m mod)))).length c14), (15, .slice B9 (il (Po.rem Po.X (pol a : Po (El p m mod)))).length c9), (16, .int .i64 i), (48, .int .i64 i), (49, .int .i64 N), (56, .slice B14 (il (Po.rem (Rg.pow Po.X ((pw p m).toNat ^ i.toNat)) (pol a : Po (El p m mod)))).length c14)]) (fun (j : Int) => [ow B14 3 c14 (ints (il (Po.rem (Rg.pow Po.X ((pw p m).toNat ^ i.toNat)) (pol a : Po (El p m mod))))), ro B9 (ints (il (Po.rem Po.X (pol a : Po (El p m mod))))), ow A8 3 2 (ints [0, 1]), ow2 B7 93 c7 (pws ps), ow B1 3 c1 (ints (il (pol a : Po (El p m mod)))), gfR g]) (fun (j : Int) => (0 ≤ j ∧ j ≤ ps.length) ∧ ∀ z : Nat, (z : Int) < j → ((N : Int) / (ps.getD z (0, 0)).1) = i → Po.gcd (pol a : Po (El p m mod)) (xq p m mod i.toNat) = 1) (fun (j : Int) => (ps.length - j).toNat) (0) ⟨rfl, rfl, rfl, rfl, rfl, rfl, rfl, rfl, rfl, rfl, rfl, rfl, rfl, rfl, trivial⟩ (by first | exact cs _ _ | exact CSub.refl _) (⟨⟨by omega, by omega⟩, fun z hz => by omega⟩) (fun j hI => ?_)
    obtain ⟨⟨hj0, hj1⟩, hj⟩ := hI
    refine tS ?_
    refine tR fun _ _ _ => ?_
    refine pV ?_
    refine tS ?_
    refine tC rfl (fun h16 => ?_) (fun h16 => ?_)
    ·try simp only [zbA] at h16
     refine tK ?_
     refine tS ?_
     refine tB ?_
     refine tS ?_
     have hjl : j.toNat < ps.length := by omega
     have hat := prL_at hps hjl
     refine tR fun _ _ _ => ?_
     refine sV (rIdxT rfl rfl rfl (by omega) (by omega) (by simp; omega)) ?_
     refine sV (rLdT rfl rfl (by simp; omega)) ?_
     refine eV (eAlloc rfl rfl rfl (fun p17 => ?_))
     rw [pws_get1 ps j.toNat hjl, pws_get2 ps j.toNat hjl]
     refine eV (eStS rfl rfl rfl rfl rfl rfl ?_)
     refine tS ?_
     by_cases hs : ((N : Int) / (ps.getD j.toNat (0, 0)).1) = i
     ·refine tR fun _ _ _ => ?_
      refine pV ?_
      refine sV (rFld rfl rfl) ?_
      refine sV (rLdF rfl rfl rfl) ?_
      refine sV (rQuo rfl rfl rfl (by omega) (by omega)) ?_
      iterate 3 refine pV ?_
      refine stT rfl rfl rfl (by first | exact decide_eq_true hs | (rw [decide_eq_true hs]; rfl)) rfl rfl (rMove rfl rfl) ?_
      refine stT rfl rfl rfl (by first | exact decide_eq_true hs | (rw [decide_eq_true hs]; rfl)) rfl rfl (rMove rfl rfl) ?_
      refine stT rfl rfl rfl (by first | exact decide_eq_true hs | (rw [decide_eq_true hs]; rfl)) rfl rfl (rMove rfl rfl) ?_
      refine stT rfl rfl rfl (by first | exact decide_eq_true hs | (rw [decide_eq_true hs]; rfl)) rfl rfl (rMove rfl rfl) ?_
      refine stT rfl rfl rfl (by first | exact decide_eq_true hs | (rw [decide_eq_true hs]; rfl)) rfl rfl (rMove rfl rfl) ?_
      refine stT rfl rfl rfl (by first | exact decide_eq_true hs | (rw [decide_eq_true hs]; rfl)) rfl rfl (rMove rfl rfl) ?_
      refine efT rfl rfl rfl (by first | exact decide_eq_true hs | (rw [decide_eq_true hs]; rfl)) (eCall1 rfl rfl rfl (poly_Sub g hg B14 _ c14 (il (Po.rem (Rg.pow Po.X ((pw p m).toNat ^ i.toNat)) (pol a : Po (El p m mod)))) rfl (by omega) A8 _ 2 [0, 1] rfl (by simp)) ⟨rfl, rfl, rfl, trivial⟩ ?_)
      rintro _ _ ⟨B18, c18, rfl, rfl⟩
      have hs1 := il_length (pol (il (Po.rem (Rg.pow Po.X ((pw p m).toNat ^ i.toNat)) (pol a : Po (El p m mod)))) - pol [0, 1] : Po (El p m mod))
      have hs2 := Po.len_sub (pol (il (Po.rem (Rg.pow Po.X ((pw p m).toNat ^ i.toNat)) (pol a : Po (El p m mod))))) (pol [0, 1] : Po (El p m mod))
      have hs3 : Po.len (pol (il (Po.rem (Rg.pow Po.X ((pw p m).toNat ^ i.toNat)) (pol a : Po (El p m mod)))) : Po (El p m mod)) = Po.len (Po.rem (Rg.pow Po.X ((pw p m).toNat ^ i.toNat)) (pol a : Po (El p m mod))) := by rw [pol_il]
      have hs4 : Po.len (pol [0, 1] : Po (El p m mod)) ≤ 2 := Po.len_le (pol_sh [0, 1])
      refine efT rfl rfl rfl (by first | exact decide_eq_true hs | (rw [decide_eq_true hs]; rfl)) (eCall1 rfl rfl rfl (poly_Gcd g hg B1 _ c1 (il (pol a : Po (El p m mod))) rfl (by omega) B18 _ c18 (il (pol (il (Po.rem (Rg.pow Po.X ((pw p m).toNat ^ i.toNat)) (pol a : Po (El p m mod)))) - pol [0, 1])) rfl (by omega) (.inl (by rw [pol_il]; exact hm0))) ⟨rfl, rfl, rfl, trivial⟩ ?_)
      rintro _ _ ⟨B18a, c18a, rfl, rfl⟩
      have hs5 := il_length (Po.gcd (pol (il (pol a : Po (El p m mod)))) (pol (il (pol (il (Po.rem (Rg.pow Po.X ((pw p m).toNat ^ i.toNat)) (pol a : Po (El p m mod)))) - pol [0, 1] : Po (El p m mod)))) : Po (El p m mod))
      have hs6 := gcd_len (p := p) (m := m) (mod := mod) (f := pol (il (pol (il (Po.rem (Rg.pow Po.X ((pw p m).toNat ^ i.toNat)) (pol a : Po (El p m mod)))) - pol [0, 1] : Po (El p m mod)))) (show (pol (il (pol a : Po (El p m mod))) : Po (El p m mod)) ≠ 0 by rw [pol_il]; exact hm0)
      have hs7 : Po.len (pol (il (pol a : Po (El p m mod))) : Po (El p m mod)) = Po.len (pol a : Po (El p m mod)) := by rw [pol_il]
      refine efT rfl rfl rfl (by first | exact decide_eq_true hs | (rw [decide_eq_true hs]; rfl)) (eCallV rfl rfl rfl (poly_Degree g hg B18a _ c18a (il (Po.gcd (pol (il (pol a : Po (El p m mod)))) (pol (il (pol (il (Po.rem (Rg.pow Po.X ((pw p m).toNat ^ i.toNat)) (pol a : Po (El p m mod)))) - pol [0, 1] : Po (El p m mod)))) : Po (El p m mod))) rfl (by omega)) ⟨rfl, rfl, trivial⟩ ?_)
      refine stT rfl rfl rfl (by first | exact decide_eq_true hs | (rw [decide_eq_true hs]; rfl)) rfl rfl (rGtr rfl rfl rfl) ?_
      refine sV (rPick1 rfl rfl (by first | exact decide_eq_true hs | (rw [decide_eq_true hs]; rfl)) rfl) ?_
      refine tC rfl (fun h18 => ?_) (fun h18 => ?_)
      ·try simp only [zbA] at h18
       refine tS ?_
       refine tR fun _ _ _ => ?_
       iterate 2 refine pV ?_
       rcases Classical.em (((N : Int) / (ps.getD j.toNat (0, 0)).1) = i) with hs3 | hs3
       ·first
         | exact absurd hs3 hs
         | (have hno : irB (pol a : Po (El p m mod)) = false := irr_no hN h1N hps hjl (by rw [hs3]; intro h1; rw [pol_il, pol_il, pol_il, pol_il, pol_X01, gcd_sub_xq hm0, h1, Po.len_one] at h18; omega); exact tr_ret ⟨trivial, _, _, rfl, ⟨by rw [hno], rfl⟩, CSub.nil _, trivial⟩)
       ·exfalso; first | exact hs3 hs | (simp at h18; done) | exact absurd h18 (by simp)
      ·try simp only [zbA] at h18
       refine tK ?_
       refine tR fun _ _ _ => ?_
       refine sV (rAdd rfl rfl rfl (by omega) (by omega)) ?_
       refine pV ?_
       refine ⟨j + 1, ⟨rfl, rfl, rfl, rfl, rfl, rfl, rfl, rfl, rfl, rfl, rfl, rfl, rfl, rfl, trivial⟩, by first | exact cs _ _ | exact CSub.refl _, ?_⟩
       refine ⟨⟨⟨by omega, by omega⟩, fun z hz hq => ?_⟩, by omega⟩
       by_cases hzj : (z : Int) < j
       ·exact hj z hzj hq
       ·have hg1 : Po.len (Po.gcd (pol a : Po (El p m mod)) (xq p m mod i.toNat)) ≤ 1 := by
         rw [pol_il, pol_il, pol_il, pol_il, pol_X01, gcd_sub_xq hm0] at h18
         omega
        exact Po.gcd_one_of hm0 hg1
     ·refine tR fun _ _ _ => ?_
      refine pV ?_
      refine sV (rFld rfl rfl) ?_
      refine sV (rLdF rfl rfl rfl) ?_
      refine sV (rQuo rfl rfl rfl (by omega) (by omega)) ?_
      iterate 3 refine pV ?_
      refine skF rfl rfl (by first | exact decide_eq_false hs | (rw [decide_eq_false hs]; rfl)) rfl rfl ?_
      refine skF rfl rfl (by first | exact decide_eq_false hs | (rw [decide_eq_false hs]; rfl)) rfl rfl ?_
      refine skF rfl rfl (by first | exact decide_eq_false hs | (rw [decide_eq_false hs]; rfl)) rfl rfl ?_
      refine skF rfl rfl (by first | exact decide_eq_false hs | (rw [decide_eq_false hs]; rfl)) rfl rfl ?_
      refine skF rfl rfl (by first | exact decide_eq_false hs | (rw [decide_eq_false hs]; rfl)) rfl rfl ?_
      refine skF rfl rfl (by first | exact decide_eq_false hs | (rw [decide_eq_false hs]; rfl)) rfl rfl ?_
      refine skF rfl rfl (by first | exact decide_eq_false hs | (rw [decide_eq_false hs]; rfl)) rfl rfl ?_
      have hs1 := il_length (pol (il (Po.rem (Rg.pow Po.X ((pw p m).toNat ^ i.toNat)) (pol a : Po (El p m mod)))) - pol [0, 1] : Po (El p m mod))
      have hs2 := Po.len_sub (pol (il (Po.rem (Rg.pow Po.X ((pw p m).toNat ^ i.toNat)) (pol a : Po (El p m mod))))) (pol [0, 1] : Po (El p m mod))
      have hs3 : Po.len (pol (il (Po.rem (Rg.pow Po.X ((pw p m).toNat ^ i.toNat)) (pol a : Po (El p m mod)))) : Po (El p m mod)) = Po.len (Po.rem (Rg.pow Po.X ((pw p m).toNat ^ i.toNat)) (pol a : Po (El p m mod))) := by rw [pol_il]
      have hs4 : Po.len (pol [0, 1] : Po (El p m mod)) ≤ 2 := Po.len_le (pol_sh [0, 1])
      refine skF rfl rfl (by first | exact decide_eq_false hs | (rw [decide_eq_false hs]; rfl)) rfl rfl ?_
      have hs5 := il_length (Po.gcd (pol (il (pol a : Po (El p m mod)))) (pol (il (pol (il (Po.rem (Rg.pow Po.X ((pw p m).toNat ^ i.toNat)) (pol a : Po (El p m mod)))) - pol [0, 1] : Po (El p m mod)))) : Po (El p m mod))
      have hs6 := gcd_len (p := p) (m := m) (mod := mod) (f := pol (il (pol (il (Po.rem (Rg.pow Po.X ((pw p m).toNat ^ i.toNat)) (pol a : Po (El p m mod)))) - pol [0, 1] : Po (El p m mod)))) (show (pol (il (pol a : Po (El p m mod))) : Po (El p m mod)) ≠ 0 by rw [pol_il]; exact hm0)
      have hs7 : Po.len (pol (il (pol a : Po (El p m mod))) : Po (El p m mod)) = Po.len (pol a : Po (El p m mod)) := by rw [pol_il]
      refine skF rfl rfl (by first | exact decide_eq_false hs | (rw [decide_eq_false hs]; rfl)) rfl rfl ?_
      refine skF rfl rfl (by first | exact decide_eq_false hs | (rw [decide_eq_false hs]; rfl)) rfl rfl ?_
      refine sV (rPick0 rfl rfl (by first | exact decide_eq_false hs | (rw [decide_eq_false hs]; rfl)) rfl) ?_
      refine tC rfl (fun h18 => ?_) (fun h18 => ?_)
      ·try simp only [zbA] at h18
       refine tS ?_
       refine tR fun _ _ _ => ?_
       iterate 2 refine pV ?_
       rcases Classical.em (((N : Int) / (ps.getD j.toNat (0, 0)).1) = i) with hs3 | hs3
       ·first
         | exact absurd hs3 hs
         | (have hno : irB (pol a : Po (El p m mod)) = false := irr_no hN h1N hps hjl (by rw [hs3]; intro h1; rw [pol_il, pol_il, pol_il, pol_il, pol_X01, gcd_sub_xq hm0, h1, Po.len_one] at h18; omega); exact tr_ret ⟨trivial, _, _, rfl, ⟨by rw [hno], rfl⟩, CSub.nil _, trivial⟩)
       ·exfalso; first | exact hs3 hs | (simp at h18; done) | exact absurd h18 (by simp)
      ·try simp only [zbA] at h18
       refine tK ?_
       refine tR fun _ _ _ => ?_
       refine sV (rAdd rfl rfl rfl (by omega) (by omega)) ?_
       refine pV ?_
       refine ⟨j + 1, ⟨rfl, rfl, rfl, rfl, rfl, rfl, rfl, rfl, rfl, rfl, rfl, rfl, rfl, rfl, trivial⟩, by first | exact cs _ _ | exact CSub.refl _, ?_⟩
       refine ⟨⟨⟨by omega, by omega⟩, fun z hz hq => ?_⟩, by omega⟩
       by_cases hzj : (z : Int) < j
       ·exact hj z hzj hq
       ·rw [show z = j.toNat by omega] at hq; exact absurd hq hs
    ·try simp only [zbA] at h16
     refine tE ?_
     refine tR fun _ _ _ => ?_
     refine pV ?_
     refine sV (rAdd rfl rfl rfl (by omega) (by omega)) ?_
     refine pV ?_
     refine ⟨i + 1, B14, c14, (Po.rem (Rg.pow Po.X ((pw p m).toNat ^ i.toNat)) (pol a : Po (El p m mod))), ⟨rfl, rfl, rfl, rfl, rfl, rfl, rfl, rfl, trivial⟩, by exact (cs _ [ow B14 3 c14 (ints (il (Po.rem (Rg.pow Po.X ((pw p m).toNat ^ i.toNat)) (pol a : Po (El p m mod))))), ro B9 (ints (il (Po.rem Po.X (pol a : Po (El p m mod))))), ow A8 3 2 (ints [0, 1]), ow2 B7 93 c7 (pws ps), ow B1 3 c1 (ints (il (pol a : Po (El p m mod)))), gfR g]).trans (ow_ro _), ?_⟩
     refine ⟨⟨⟨by omega, by omega⟩, by rw [show (i + 1 - 1).toNat = i.toNat by omega], fun z hz hlt => ?_⟩, by omega⟩
     by_cases hq : ((N : Int) / (ps.getD z (0, 0)).1) = i
     ·rw [hq]; exact hj z (by omega) hq
     ·exact hall z hz (by omega)
   ·try simp only [zbA] at h12
    refine tE ?_
    refine tS ?_
    have hiN : i = N + 1 := by omega
    have hilh := il_length (Po.rem (Rg.pow Po.X ((pw p m).toNat ^ (i - 1).toNat)) (pol a : Po (El p m mod)))
    have hlrh := Po.rem_len (Rg.pow Po.X ((pw p m).toNat ^ (i - 1).toNat)) hm0
    refine tR fun _ _ _ => ?_
    iterate 2 refine pV ?_
    refine eV (eCallV rfl rfl rfl (slc_Equal Bh _ ch (il (Po.rem (Rg.pow Po.X ((pw p m).toNat ^ (i - 1).toNat)) (pol a : Po (El p m mod)))) rfl B9 _ c9 (il (Po.rem Po.X (pol a : Po (El p m mod)))) rfl (by omega)) ⟨rfl, rfl, trivial⟩ ?_)
    iterate 2 refine pV ?_
    have hyes := irr_yes hN h1N hps (fun z hz => hall z hz (by have := nq_le hps h1N hz; omega))
    rw [show (i - 1).toNat = N by omega, hyes]
    exact tr_ret ⟨trivial, _, _, rfl, ⟨rfl, rfl⟩, CSub.nil _, trivial⟩
theorem fac_Irr0_ent : Enters Tryz.prog 23 := enters_of Tryz.func23 (by kernel_rfl) (by kernel_rfl)
theorem fac_Irr0 (g : GfM) {p m : Int} {mod : List Int} [hF : IsF p m mod] (hg : GOk g p m mod) (A : Option Addr) (n c : Nat) (a : List Int) (hn : n = a.length) (ha9 : a.length ≤ 17592186044415) (he : facE (Po.len (pol a : Po (El p m mod))) = 0) (hN : Po.len (pol a : Po (El p m mod)) = 1) :
  Pure Tryz.prog 23 #[.pointer (some g.p), .slice A n c] [gfR g, ro A (ints a)] (isV (.tuple #[.bool false, .int .i64 0])) := by
 have hil := il_length (pol a : Po (El p m mod))
 refine pure_of (args := [.pointer (some g.p), .slice A n c]) 85 Tryz.func23 rfl rfl rfl fac_Irr0_ent ⟨id, id, trivial⟩ (fun w0 => ?_)
 refine tS ?_
 refine tR fun _ _ _ => ?_
 iterate 2 refine pV ?_
 refine tS ?_
 refine tR fun _ _ _ => ?_
 iterate 2 refine pV ?_
 refine eV (eCall1 rfl rfl rfl (fac_enter g hg A n c a hn ha9 he) ⟨rfl, rfl, trivial⟩ ?_)
 rintro _ _ ⟨B1, c1, rfl, hc1, rfl⟩
 iterate 5 refine pV ?_
 refine tS ?_
 refine tS ?_
 refine tR fun _ _ _ => ?_
 iterate 2 refine pV ?_
 refine tC rfl (fun h2 => ?_) (fun h2 => ?_)
 ·try simp only [zbA] at h2
  first | exact absurd trivial h2 | exact absurd rfl h2 | omega | (exact absurd h2 (by simp)) --done
 ·try simp only [zbA] at h2
  refine tK ?_
  refine tS ?_
  refine tR fun _ _ _ => ?_
  refine pV ?_
  refine sV (rLen rfl rfl) ?_
  refine sV (rSub rfl rfl rfl (by omega) (by omega)) ?_
  refine pV ?_
  refine tS ?_
  refine tS ?_
  refine tR fun _ _ _ => ?_
  iterate 2 refine pV ?_
  refine tC rfl (fun h5 => ?_) (fun h5 => ?_)
  ·try simp only [zbA] at h5
   refine tS ?_
   refine tR fun _ _ _ => ?_
   iterate 2 refine pV ?_
   exact tr_ret ⟨trivial, _, _, rfl, ⟨rfl, rfl⟩, CSub.nil _, trivial⟩
  ·try simp only [zbA] at h5
   omega --done
theorem fac_IrrE_ent : Enters Tryz.prog 23 := enters_of Tryz.func23 (by kernel_rfl) (by kernel_rfl)
theorem fac_IrrE (g : GfM) {p m : Int} {mod : List Int} [hF : IsF p m mod] (hg : GOk g p m mod) (A : Option Addr) (n c : Nat) (a : List Int) (hn : n = a.length) (ha9 : a.length ≤ 17592186044415) (he : facE (Po.len (pol a : Po (El p m mod))) ≠ 0) :
  Pure Tryz.prog 23 #[.pointer (some g.p), .slice A n c] [gfR g, ro A (ints a)] (isV (.tuple #[.bool false, .int .i64 (facE (Po.len (pol a : Po (El p m mod))))])) := by
 refine pure_of (args := [.pointer (some g.p), .slice A n c]) 85 Tryz.func23 rfl rfl rfl fac_IrrE_ent ⟨id, id, trivial⟩ (fun w0 => ?_)
 refine tS ?_
 refine tR fun _ _ _ => ?_
 iterate 2 refine pV ?_
 refine tS ?_
 refine tR fun _ _ _ => ?_
 iterate 2 refine pV ?_
 refine eV (eCallV rfl rfl rfl (fac_enterE g hg A n c a hn ha9 he) ⟨rfl, rfl, trivial⟩ ?_)
 iterate 5 refine pV ?_
 refine tS ?_
 refine tS ?_
 refine tR fun _ _ _ => ?_
 iterate 2 refine pV ?_
 refine tC rfl (fun h2 => ?_) (fun h2 => ?_)
 ·try simp only [zbA] at h2
  refine tS ?_
  refine tR fun _ _ _ => ?_
  iterate 3 refine pV ?_
  exact tr_ret ⟨trivial, _, _, rfl, ⟨rfl, rfl⟩, CSub.nil _, trivial⟩
 ·try simp only [zbA] at h2
  omega --done
end Go.Proofs.YtbhoeaijpnjgdaaGreat

/-
  ORDEREDDECODES, PART 6 OF 10. One sentence: the texts behind the law OrderedDecodes, put together.
  Conditions: each theorem's own, written out in it.
-/
import Derived.Test.YtfdjdokdabmmdaaGreatK5
set_option linter.unusedSimpArgs false
set_option linter.unusedVariables false
set_option linter.unusedSectionVars false
set_option maxRecDepth 100000
namespace Go.Proofs.YtfdjdokdabmmdaaGreat
open Go.RowKit
theorem qs_le {K : Type} [Fd K] {n : Nat} {R : List (Vc K)} {qs : List Nat} (h : Vc.Rr n R qs) : qs.length ≤ n := by
 rcases Nat.eq_zero_or_pos qs.length with h0 | h0
 ·omega
 ·have a := Vc.rise_ge h.rise (qs.length - 1) (by omega)
  have b := h.lt (qs.length - 1) (by omega)
  omega
section
variable {p m : Int} {mod : List Int} [hF : IsF p m mod]
theorem BasOf.le {rs : List RowM} {o bs : List Int} (h : BasOf p m mod rs o bs) : bs.length ≤ o.length := by
 obtain ⟨E, qs, h1, h2, rfl⟩ := h
 rw [List.length_map]; exact qs_le h1
theorem BasOf.of_rr {w : Nat} {rs rc r3 : List RowM} {o ps : List Int} (ho : o.length = w) (hc : xss rc = (xss rs).map (pkL o)) (h : RrOf p m mod w rc r3 ps) : BasOf p m mod rs o (ps.map fun q => o.getD q.toNat 0) := by
 obtain ⟨qs, hp, hr⟩ := h.form
 refine ⟨_, qs, by rw [ho]; exact hr, fun u => ?_, ?_⟩
 ·rw [h.span u, vsR_pk hc]
 ·rw [hp, List.map_map]; rfl
theorem BasOf.mem {rs : List RowM} {o bs : List Int} (h : BasOf p m mod rs o bs) {x : Int} (hx : x ∈ bs) : x ∈ o := by
 obtain ⟨E, qs, h1, h2, rfl⟩ := h
 obtain ⟨q, hq, rfl⟩ := List.mem_map.1 hx
 obtain ⟨j, hj, rfl⟩ := List.getElem_of_mem hq
 have := h1.lt j hj
 rw [List.getD_eq_getElem?_getD, List.getElem?_eq_getElem hj] at this
 exact getD_mem this 0
end
theorem take_mapQ {o ps : List Int} {k : Nat} (h : k < ps.length) : ((ps.take (k + 1)).map fun q => o.getD q.toNat 0) = ((ps.take k).map fun q => o.getD q.toNat 0) ++ [o.getD (ps.getD k 0).toNat 0] := by
 rw [List.take_add_one, List.getElem?_eq_getElem h, List.map_append, List.getD_eq_getElem?_getD (l := ps), List.getElem?_eq_getElem h]; rfl
theorem ord_basis1_ent : Enters Tryz.prog 62 := enters_of Tryz.func62 (by kernel_rfl) (by kernel_rfl)
theorem ord_basis1 (x y : Int) (pp : Addr) (D : Option Addr) (cd : Nat) (ts : List RowM) (q : Int) (hq2 : 2 ≤ q) (htr : ∀ r ∈ ts, RowOk q r.xs) (hx : 0 ≤ x ∧ x < ts.length) (hy : 0 ≤ y ∧ y < ts.length) :
  Pure Tryz.prog 62 #[.int .i64 x, .int .i64 y, .pointer (some pp)] [ro (some pp) [.slice D (relL ts).length cd], ro D (ints (relL ts))] (isV (.int .i64 (rlF ts y - rlF ts x))) := by
 have hl := relL_length ts
 have h1 := rlF_bd htr hq2 x
 have h2 := rlF_bd htr hq2 y
 unfold rlF at h1 h2
 refine pure_of (args := [.int .i64 x, .int .i64 y, .pointer (some pp)]) 15 Tryz.func62 rfl rfl rfl ord_basis1_ent ⟨id, id, trivial⟩ (fun w0 => ?_)
 refine tS ?_
 refine tR fun _ _ _ => ?_
 refine pV ?_
 refine tS ?_
 refine tr_draw [0, 1, 2, 3, 4, 5, 6, 7, 8, 9] [] mixed (by kernel_rfl) fun _ _ _ => ?_
 refine sV (rLd0 rfl rfl) ?_
 refine pV ?_
 refine sV (rIdxI rfl rfl rfl (by omega) (by omega) (by omega)) ?_
 refine sV (rLdI rfl rfl (by omega)) ?_
 refine sV (rLd0 rfl rfl) ?_
 refine pV ?_
 refine sV (rIdxI rfl rfl rfl (by omega) (by omega) (by omega)) ?_
 refine sV (rLdI rfl rfl (by omega)) ?_
 refine sV (rSub rfl rfl rfl (by omega) (by omega)) ?_
 refine pV ?_
 exact tr_ret ⟨trivial, _, _, rfl, ⟨rfl, rfl⟩, CSub.nil _, trivial⟩
theorem ord_basis_ent : Enters Tryz.prog 34 := enters_of Tryz.func34 (by kernel_rfl) (by kernel_rfl)
theorem ord_basis (p m : Int) (A : Option Addr) (c : Nat) (mod : List Int) [hF : IsF p m mod] (w : Int) (Aa : Option Addr) (n ca : Nat) (rs : List RowM) (hn : n = rs.length) (h9 : rs.length ≤ 256) (hc : CodeOk p m mod w rs) (T : Option Addr) (nt ct : Nat) (ts : List RowM) (hnt : nt = ts.length) (htab : TabOk (pw p m) w ts) :
  Pure Tryz.prog 34 #[.agg #[.int .i64 p, .int .i64 m, .slice A mod.length c, .int .i64 w, .slice Aa n ca], .slice T nt ct] [ro A (ints mod), ro Aa (hdrs rs), rowsR rs, ro T (hdrs ts), rowsR ts] (one (fun v ch => ∃ B cb bs o, v = .slice B bs.length cb ∧ ch = ow B 3 cb (ints bs) ∧ OrdS (rlF ts) ts.length o ∧ BasOf p m mod rs o bs)) := by
 have hl9 := hF.short
 have hn1 := hc.n1
 have hn64 := hc.n64
 have hlen := hc.len
 have hgd := hc.good
 have h8 := hgd.h8 (N := 17592186044415) (by omega)
 have hck := hc.zero
 have hq2 := hF.q2
 have htl := htab.len
 have hq256 := hF.out.1.1.q
 have hrll := relL_length ts
 refine pure_of (args := [.agg #[.int .i64 p, .int .i64 m, .slice A mod.length c, .int .i64 w, .slice Aa n ca], .slice T nt ct]) 73 Tryz.func34 rfl rfl rfl ord_basis_ent ⟨id, id, id, id, id, trivial⟩ (fun w0 => ?_)
 refine tS ?_
 refine tR fun _ _ _ => ?_
 refine eV (eBox rfl rfl rfl rfl rfl (fun p0 => ?_))
 refine pV ?_
 refine tS ?_
 refine tR fun _ _ _ => ?_
 refine pV ?_
 refine eV (eCall2 rfl rfl rfl (ord_hard T nt ct ts hnt (pw p m) hq2 hq256 (by omega) htab.row) ⟨rfl, trivial⟩ ?_)
 rintro _ _ _ ⟨B1, c1, D1, d1, rfl, rfl, rfl⟩
 iterate 3 refine pV ?_
 refine eV (eAlloc rfl rfl rfl (fun p1a => ?_))
 refine pV ?_
 refine eV (eSt0 rfl rfl rfl rfl rfl rfl ?_)
 refine tS ?_
 refine tR fun _ _ _ => ?_
 refine sV (rFld rfl rfl) ?_
 refine sV (rLdF rfl rfl rfl) ?_
 refine eV (eMakeI rfl rfl rfl rfl rfl (by omega) (by omega) (by omega) (fun A2 => ?_))
 refine pV ?_
 refine tS ?_
 refine tS ?_
 refine tR fun _ _ _ => ?_
 refine pV ?_
 refine sV (rLen rfl rfl) ?_
 refine pV ?_
 refine tB ?_
 refine tr_loop2 (fun (k : Int) (o : List Int) => [(7, .slice A2 w.toNat w.toNat), (6, .pointer (some p1a)), (27, .int .i64 k), (2, .pointer (some p0)), (4, .slice none 0 0), (26, .int .i64 w.toNat)]) (fun (k : Int) (o : List Int) => [ow A2 3 w.toNat (ints o), blk p1a 22 [.slice D1 (relL ts).length d1], ow D1 3 d1 (ints (relL ts)), blk p0 27 [.int .i64 p, .int .i64 m, .slice A mod.length c, .int .i64 w, .slice Aa n ca], ro A (ints mod), ro Aa (hdrs rs), rowsR rs, ro T (hdrs ts), rowsR ts]) (fun (k : Int) (o : List Int) => (0 ≤ k ∧ k ≤ w) ∧ o.length = w.toNat ∧ ∀ j : Nat, (j : Int) < k → o.getD j 0 = (j : Int)) (fun (k : Int) (o : List Int) => (w - k).toNat) (0) (List.replicate w.toNat 0) ⟨rfl, rfl, rfl, rfl, rfl, rfl, trivial⟩ (by first | exact cs _ _ | exact CSub.refl _) (⟨⟨by omega, by omega⟩, by simp, fun j hj => by omega⟩) (fun k o hI => ?_)
 obtain ⟨⟨hk0, hk1⟩, hol, ho⟩ := hI
 refine tS ?_
 refine tR fun _ _ _ => ?_
 refine pV ?_
 refine tS ?_
 refine tC rfl (fun h4 => ?_) (fun h4 => ?_)
 ·try simp only [zbA] at h4
  refine tK ?_
  refine tS ?_
  refine tB ?_
  refine tS ?_
  refine tR fun _ _ _ => ?_
  iterate 2 refine pV ?_
  refine tR fun _ _ _ => ?_
  iterate 3 refine pV ?_
  refine sV (rIdxI rfl rfl rfl (by omega) (by omega) (by omega)) ?_
  refine eV (eStI rfl rfl rfl rfl (by omega) ?_)
  refine tR fun _ _ _ => ?_
  refine sV (rAdd rfl rfl rfl (by omega) (by omega)) ?_
  refine pV ?_
  refine ⟨k + 1, o.set k.toNat k, ⟨rfl, rfl, rfl, rfl, rfl, rfl, trivial⟩, by first | exact cs _ _ | exact CSub.refl _, ?_⟩
  refine ⟨⟨⟨by omega, by omega⟩, by simpa using hol, fun j hj => ?_⟩, by omega⟩
  rw [getD_set]
  by_cases he : k.toNat = j
  ·rw [if_pos ⟨he, by omega⟩]; omega
  ·rw [if_neg (fun h => he h.1)]; exact ho j (by omega)
 ·try simp only [zbA] at h4
  refine tE ?_
  refine tS ?_
  have hkw : k = w := by omega
  have hob : ∀ x ∈ o, 0 ≤ x ∧ x < ts.length := fun x hx => by
   obtain ⟨j, hj, rfl⟩ := List.getElem_of_mem hx
   have := ho j (by omega)
   rw [List.getD_eq_getElem?_getD, List.getElem?_eq_getElem hj] at this
   have h2 : o[j] = (j : Int) := this
   omega
  have htie : Tie (rlF ts) (gd o) 0 o.length := fun u v h1 h2 h3 _ => by
   have a := ho u (by omega)
   have b := ho v (by omega)
   show o.getD u 0 < o.getD v 0
   omega
  refine tR fun _ _ _ => ?_
  refine pV ?_
  refine sV (rFun rfl rfl rfl) ?_
  refine eV (eCallM1 rfl rfl rfl (slc_SortStab A2 _ _ o (by omega) (by omega) _ [.pointer (some p1a)] [ro (some p1a) [.slice D1 (relL ts).length d1], ro D1 (ints (relL ts))] (rlF ts) (fun x => by have := rlF_bd htab.row hq2 x; omega) (fun x hx y hy => ord_basis1 x y p1a D1 d1 ts (pw p m) hq2 htab.row (hob x hx) (hob y hy)) htie) ⟨rfl, rfl, trivial⟩ ?_)
  rintro _ _ ⟨rfl, o2, rfl, hpo, hso⟩
  refine tS ?_
  have hol2 := hpo.length_eq
  have hob2 : ∀ i ∈ o2, 0 ≤ i ∧ i < w := fun i hi => by have := hob i (hpo.mem_iff.1 hi); omega
  have hO : OrdS (rlF ts) ts.length o2 := OrdS.of_sort (l := o) (by omega) (fun k hk => ho k (by omega)) hpo (by rw [show ts.length = o.length by omega]; exact hso)
  refine tR fun _ _ _ => ?_
  refine sV (rFld rfl rfl) ?_
  refine sV (rLdSF rfl rfl) ?_
  refine sV (rFld rfl rfl) ?_
  refine sV (rLdF rfl rfl rfl) ?_
  refine sV (rFld rfl rfl) ?_
  refine sV (rLdF rfl rfl rfl) ?_
  refine sV (rBuild rfl rfl) ?_
  refine pV ?_
  refine eV (eCall2 rfl rfl rfl (mat_Columns p m A c mod w Aa n ca rs hn h9 hc A2 _ _ o2 (by omega) (by omega) hob2) ⟨rfl, rfl, rfl, trivial⟩ ?_)
  rintro _ _ _ ⟨Bc, cc, rc, rfl, rfl, rfl, hrc⟩
  iterate 3 refine pV ?_
  refine eV (eAlloc rfl rfl rfl (fun p9a => ?_))
  refine eV (eStS rfl rfl rfl rfl rfl rfl ?_)
  refine pV ?_
  refine tS ?_
  have hrcl : rc.length = rs.length := by have := congrArg List.length hrc; simpa using this
  have hgc := gd_pk (by omega) hgd hrc
  have hEc : rowsC (pw p m) (w.toNat : Int) (xss rc) = 0 := rowsC_gd (by omega) (by omega) (by omega) (by rw [Int.toNat_natCast, show w.toNat = o2.length by omega]; exact hgc)
  refine tR fun _ _ _ => ?_
  refine sV (rFld rfl rfl) ?_
  refine sV (rLdSF rfl rfl) ?_
  refine sV (rLdS rfl rfl rfl) ?_
  refine eV (eCall3 rfl rfl rfl (mat_CanonicalG _ _ _ _ _ (by omega) (w.toNat : Int) Bc _ cc rc rfl (by omega) (hgc.h8 (by omega)) hEc) ⟨rfl, rfl, trivial⟩ ?_)
  rintro _ _ _ _ ⟨Bk, r3, Bp, cp, ps, rfl, rfl, rfl, rfl, hR, hk⟩
  iterate 4 refine pV ?_
  refine eV (eAlloc rfl rfl rfl (fun p10a => ?_))
  refine eV (eStS rfl rfl rfl rfl rfl rfl ?_)
  iterate 2 refine pV ?_
  refine tS ?_
  refine tR fun _ _ _ => ?_
  refine pV ?_
  refine tS ?_
  refine tS ?_
  rw [Int.toNat_natCast] at hR
  obtain ⟨qs, hpq, hrq⟩ := hR.form
  have hpl : ps.length = qs.length := by rw [hpq, List.length_map]
  have hql := qs_le hrq
  have hpk : ∀ j, j < ps.length → 0 ≤ ps.getD j 0 ∧ ps.getD j 0 < o2.length := fun j hj => by
   have := hrq.lt j (by omega)
   rw [hpq, ofNat_getD]; omega
  refine tR fun _ _ _ => ?_
  refine pV ?_
  refine sV (rLen rfl rfl) ?_
  refine pV ?_
  refine tB ?_
  refine tr_nilI 3 ?_
  refine tr_loop4 (fun (k2 : Int) (B : Option Addr) (cb : Nat) (l : List Int) => [(7, .slice A2 w.toNat w.toNat), (14, .slice B l.length cb), (58, .slice Bp ps.length cp), (59, .int .i64 ps.length), (60, .int .i64 k2), (4, .slice none 0 0)]) (fun (k2 : Int) (B : Option Addr) (cb : Nat) (l : List Int) => [ow B 3 cb (ints l), ow Bp 3 cp (ints ps), ow A2 3 w.toNat (ints o2), blk p1a 22 [.slice D1 (relL ts).length d1], ow D1 3 d1 (ints (relL ts)), blk p0 27 [.int .i64 p, .int .i64 m, .slice A mod.length c, .int .i64 w, .slice Aa n ca], ro A (ints mod), ro Aa (hdrs rs), rowsR rs, ro T (hdrs ts), rowsR ts]) (fun (k2 : Int) (B : Option Addr) (cb : Nat) (l : List Int) => (0 ≤ k2 ∧ k2 ≤ ps.length) ∧ l = (ps.take k2.toNat).map fun q => o2.getD q.toNat 0) (fun (k2 : Int) (B : Option Addr) (cb : Nat) (l : List Int) => (ps.length - k2).toNat) (0) (none) (0) ([]) ⟨rfl, rfl, rfl, rfl, rfl, rfl, trivial⟩ (by first | exact cs _ _ | exact CSub.refl _) (⟨⟨by omega, by omega⟩, rfl⟩) (fun k2 B cb l hI => ?_)
  obtain ⟨⟨hk20, hk21⟩, hl⟩ := hI
  have hll : l.length = k2.toNat := by rw [hl, List.length_map, List.length_take]; omega
  refine tS ?_
  refine tR fun _ _ _ => ?_
  refine pV ?_
  refine tS ?_
  refine tC rfl (fun h13 => ?_) (fun h13 => ?_)
  ·try simp only [zbA] at h13
   refine tK ?_
   refine tS ?_
   refine tB ?_
   refine tS ?_
   skip
   refine tR fun _ _ _ => ?_
   refine sV (rIdxI rfl rfl rfl (by omega) (by omega) (by omega)) ?_
   refine sV (rLdI rfl rfl (by omega)) ?_
   refine pV ?_
   have hpb := hpk k2.toNat (by omega)
   refine tR fun _ _ _ => ?_
   iterate 3 refine pV ?_
   refine sV (rIdxI rfl rfl rfl (by omega) (by omega) (by omega)) ?_
   refine sV (rLdI rfl rfl (by omega)) ?_
   refine eV (eLit1I rfl rfl rfl rfl (fun A15 => ?_))
   refine eV (eAppI rfl rfl rfl rfl rfl (by first | rfl | simp | omega) (by first | rfl | simp | omega) (by first | omega | (simp; omega)) (fun A15a c15a => ?_))
   refine pV ?_
   refine tR fun _ _ _ => ?_
   refine sV (rAdd rfl rfl rfl (by omega) (by omega)) ?_
   refine pV ?_
   refine ⟨k2 + 1, A15a, c15a, l ++ [o2.getD (ps.getD k2.toNat 0).toNat 0], ⟨rfl, rfl, rfl, rfl, rfl, rfl, trivial⟩, by first | exact cs _ _ | exact CSub.refl _, ?_⟩
   exact ⟨⟨⟨by omega, by omega⟩, by rw [show (k2 + 1).toNat = k2.toNat + 1 by omega, take_mapQ (by omega), ← hl]⟩, by omega⟩
  ·try simp only [zbA] at h13
   refine tE ?_
   refine tS ?_
   refine tR fun _ _ _ => ?_
   iterate 2 refine pV ?_
   have hkp : ps.take k2.toNat = ps := List.take_of_length_le (by omega)
   rw [hkp] at hl
   have hBO := BasOf.of_rr (show o2.length = w.toNat by omega) hrc hR
   rw [← hl] at hBO
   exact tr_ret ⟨trivial, _, _, rfl, ⟨_, rfl, B, cb, l, o2, rfl, rfl, hO, hBO⟩, cs _ _, trivial, trivial⟩
end Go.Proofs.YtfdjdokdabmmdaaGreat

namespace Go.Proofs.YtfdjdokdabmmdaaGreat
open Go.RowKit
end Go.Proofs.YtfdjdokdabmmdaaGreat

namespace Go.Proofs.YtfdjdokdabmmdaaGreat
open Go.RowKit
section
variable {p m : Int} {mod : List Int} [hF : IsF p m mod]
theorem BasOf.dim {rs : List RowM} {r : Int → Int} {n : Nat} {o bs : List Int} (hO : OrdS r n o) (hf : formP p m mod n rs) (h : BasOf p m mod rs o bs) : bs.length = rs.length := by
 obtain ⟨E, qs, h1, h2, rfl⟩ := h
 obtain ⟨qq, hq⟩ := hf
 rw [List.length_map, Vc.pk_dim (o := o.map Int.toNat) hq (by rw [List.length_map]; exact h1) h2 (fun j hj => ?_), vsR_length]
 have hm := hO.perm.mem_iff.2 (mem_ixL.2 (show 0 ≤ (j : Int) ∧ (j : Int) < n by omega))
 obtain ⟨z, hz, he⟩ := List.getElem_of_mem hm
 refine ⟨z, by rw [List.length_map]; exact hz, ?_⟩
 rw [toN_getD, List.getD_eq_getElem?_getD, List.getElem?_eq_getElem hz]
 show (o[z]).toNat = j
 omega
theorem BasOf.ind {rs : List RowM} {o bs : List Int} (h : BasOf p m mod rs o bs) : indB p m mod rs bs = true := by
 obtain ⟨E, qs, h1, h2, rfl⟩ := h
 rw [indB_iff]
 have := Vc.ind_piv (R := (vsR rs : List (Vc (El p m mod)))) (o := o.map Int.toNat) (ps := qs) (by rw [List.length_map]; exact h1) h2
 rw [List.map_map]
 have e : (Int.toNat ∘ fun q => o.getD q 0) = fun q => (o.map Int.toNat).getD q 0 := funext fun q => (toN_getD o q).symm
 rw [e]; exact this
end
end Go.Proofs.YtfdjdokdabmmdaaGreat

set_option maxRecDepth 100000
namespace Go.Proofs.YtfdjdokdabmmdaaGreat
open Go.RowKit
theorem hardL_in {q : Int} {ts : List RowM} (hq : 2 ≤ q) (htr : ∀ r ∈ ts, RowOk q r.xs) : AllIn q (hardL ts) := fun x hx => by
 obtain ⟨r, hr, rfl⟩ := List.mem_map.1 hx
 obtain ⟨r', hr', rfl⟩ := List.mem_map.1 hr
 have h := (htr r' hr').1
 have := hardI_lt (r := r'.xs) (by omega)
 omega
end Go.Proofs.YtfdjdokdabmmdaaGreat

set_option maxRecDepth 100000
namespace Go.Proofs.YtfdjdokdabmmdaaGreat
open Go.RowKit
end Go.Proofs.YtfdjdokdabmmdaaGreat

namespace Go.Proofs.YtfdjdokdabmmdaaGreat
open Go.RowKit
end Go.Proofs.YtfdjdokdabmmdaaGreat

set_option maxRecDepth 100000
namespace Go.Proofs.YtfdjdokdabmmdaaGreat
open Go.RowKit
def cntC (q : Int) (k : Nat) (most : Int) : Int := if q ^ k ≤ 65536 ∧ q ^ k ≤ most then q ^ k else 0
theorem pow_le_of {q : Int} (hq : 1 ≤ q) {i k : Nat} (h : i ≤ k) : q ^ i ≤ q ^ k := by
 obtain ⟨d, rfl⟩ := Nat.le.dest h
 rw [Int.pow_add]
 have h1 : 0 < q ^ i := Int.pow_pos (by omega)
 have h2 : 0 < q ^ d := Int.pow_pos (by omega)
 have := Int.mul_le_mul_of_nonneg_left (show 1 ≤ q ^ d by omega) (Int.le_of_lt h1)
 omega
theorem pow_big {q B : Int} (hq : 1 ≤ q) {i k : Nat} (h : i < k) (hb : q ^ i > B / q) : B < q ^ k := by
 have h1 : B < q ^ i * q := by
  have h2 := Int.lt_mul_of_ediv_lt (by omega : 0 < q) hb
  exact h2
 have := pow_le_of hq (show i + 1 ≤ k from h)
 rw [Int.pow_succ] at this
 omega
theorem digM_getD (q i : Int) : ∀ (k j : Nat), j < k → (digM q k i).getD j 0 = i / q ^ (k - 1 - j) % q
 | k + 1, 0, _ => by rw [digM, List.getD_cons_zero]; rfl
 | k + 1, j + 1, h => by rw [digM, List.getD_cons_succ, digM_getD q i k j (by omega), show k + 1 - 1 - (j + 1) = k - 1 - j by omega]
section
variable {p m : Int} {mod : List Int} [hF : IsF p m mod]
noncomputable def wordZ (p m : Int) (mod : List Int) [hF : IsF p m mod] (w : Nat) (rs : List RowM) (z : Int) : List Int := (List.range w).map fun j => (Vc.cmb (fun i => el ((digM (pw p m) rs.length z).getD i 0)) (vsR rs : List (Vc (El p m mod))) j).1
theorem wordZ_length (w : Nat) (rs : List RowM) (z : Int) : (wordZ p m mod w rs z).length = w := by simp [wordZ]
theorem wordZ_in (w : Nat) (rs : List RowM) (z : Int) : AllIn (pw p m) (wordZ p m mod w rs z) := fun x hx => by
 obtain ⟨j, _, rfl⟩ := List.mem_map.1 hx
 exact El.bd _
theorem cmb_out {w : Nat} {rs : List RowM} (hg : Gd (pw p m) w rs) (c : Nat → El p m mod) {j : Nat} (hj : w ≤ j) : Vc.cmb c (vsR rs) j = 0 := by
 rw [Vc.cmb_at _ 0]
 refine Rg.sm_none fun i hi => ?_
 rw [vsR_length] at hi
 rw [vsR_at, getD_out (by have := (hg.get hi).1; omega), el_zero, Rg.mul_zero]
theorem wordZ_vec {w : Nat} {rs : List RowM} (hg : Gd (pw p m) w rs) (z : Int) : (rw' (wordZ p m mod w rs z) : Vc (El p m mod)) = Vc.cmb (fun i => el ((digM (pw p m) rs.length z).getD i 0)) (vsR rs) := Vc.ext fun j => by
 rw [rw_at]
 by_cases hj : j < w
 ·have : (wordZ p m mod w rs z).getD j 0 = (Vc.cmb (fun i => el ((digM (pw p m) rs.length z).getD i 0)) (vsR rs : List (Vc (El p m mod))) j).1 := by
   unfold wordZ
   rw [List.getD_eq_getElem?_getD, List.getElem?_map, List.getElem?_range hj]; rfl
  rw [this, el_of]
 ·rw [getD_out (by rw [wordZ_length]; omega), el_zero, cmb_out hg _ (by omega)]
theorem wordZ_eq {w : Nat} {rs : List RowM} (hg : Gd (pw p m) w rs) {z : Int} {o : List Int} (hl : o.length = w) (hi : AllIn (pw p m) o) (he : (rw' o : Vc (El p m mod)) = Vc.cmb (fun i => el ((digM (pw p m) rs.length z).getD i 0)) (vsR rs)) : o = wordZ p m mod w rs z :=
 rw_inj hi (wordZ_in w rs z) (by rw [hl, wordZ_length]) (he.trans (wordZ_vec hg z).symm)
theorem wordZ_cw {w : Nat} {rs : List RowM} (hg : Gd (pw p m) w rs) (z : Int) : Vc.SpL (vsR rs : List (Vc (El p m mod))) (rw' (wordZ p m mod w rs z)) := by rw [wordZ_vec hg]; exact Vc.cmb_sp _ _
theorem cw_index {w : Nat} {rs : List RowM} (hg : Gd (pw p m) w rs) {o : List Int} (hl : o.length = w) (hi : AllIn (pw p m) o) (h : Vc.SpL (vsR rs : List (Vc (El p m mod))) (rw' o)) : ∃ z, 0 ≤ z ∧ z < pw p m ^ rs.length ∧ o = wordZ p m mod w rs z := by
 obtain ⟨c, hc⟩ := Vc.sp_cmb h
 have hx : AllIn (pw p m) ((List.range rs.length).map fun i => (c i).1) := fun x hx => by
  obtain ⟨j, _, rfl⟩ := List.mem_map.1 hx
  exact El.bd _
 obtain ⟨z, z0, z1, z2⟩ := digM_surj hF.q2 _ hx
 rw [List.length_map, List.length_range] at z1 z2
 refine ⟨z, z0, z1, wordZ_eq hg hl hi ?_⟩
 rw [hc, z2]
 refine Vc.ext fun j => ?_
 rw [Vc.cmb_at _ 0, Vc.cmb_at _ 0]
 refine Rg.sm_congr fun i hi => ?_
 rw [vsR_length] at hi
 have e : ((List.range rs.length).map fun i => (c i).1).getD i 0 = (c i).1 := by
  rw [List.getD_eq_getElem?_getD, List.getElem?_map, List.getElem?_range hi]; rfl
 show _ = el (((List.range rs.length).map fun i => (c i).1).getD i 0) * _
 rw [e, el_of]
end
section
variable {p m : Int} {mod : List Int} [hF : IsF p m mod]
end
theorem digM_fill {q i : Int} {k : Nat} {x : List Int} (hl : x.length = k) (h : ∀ j : Nat, j < k → x.getD j 0 = i / q ^ (k - 1 - j) % q) : x = digM q k i := ext_getD (by rw [hl, digM_length]) fun j => by
 by_cases hj : j < k
 ·rw [h j hj, digM_getD q i k j hj]
 ·rw [getD_out (by omega), getD_out (by rw [digM_length]; omega)]
theorem ref_Exp_ent : Enters Tryz.prog 75 := enters_of Tryz.func75 (by kernel_rfl) (by kernel_rfl)
theorem ref_Exp (q k : Int) (hq2 : 2 ≤ q) (hq9 : q ≤ 256) (hk0 : 0 ≤ k) (hk9 : k ≤ 1000) :
  Pure Tryz.prog 75 #[.int .i64 q, .int .i64 k, .int .i64 65536] [] (isV (.tuple #[.int .i64 (if q ^ k.toNat ≤ 65536 then q ^ k.toNat else 0), .int .i64 (if q ^ k.toNat ≤ 65536 then 0 else 8)])) := by
 refine pure_of (args := [.int .i64 q, .int .i64 k, .int .i64 65536]) 47 Tryz.func75 rfl rfl rfl ref_Exp_ent trivial (fun w0 => ?_)
 refine tS ?_
 refine tR fun _ _ _ => ?_
 iterate 2 refine pV ?_
 refine tS ?_
 refine tS ?_
 refine tR fun _ _ _ => ?_
 iterate 3 refine pV ?_
 refine stg rfl rfl rfl rfl rfl (fun hb => by (have hq := hb; try simp only [zbA] at hq); exact rMove rfl rfl) ?_
 refine stg rfl rfl rfl rfl rfl (fun hb => by (have hq := hb; try simp only [zbA] at hq); exact rLss rfl (evg rfl hb) rfl) ?_
 refine sV (rOrB rfl rfl rfl rfl) ?_
 refine pV ?_
 refine stg rfl rfl rfl rfl rfl (fun hb => by (have hq := hb; try simp only [zbA] at hq); exact rMove rfl rfl) ?_
 refine stg rfl rfl rfl rfl rfl (fun hb => by (have hq := hb; try simp only [zbA] at hq); exact rLss rfl (evg rfl hb) rfl) ?_
 refine sV (rOrB rfl rfl rfl rfl) ?_
 refine tC rfl (fun h1 => ?_) (fun h1 => ?_)
 ·try simp only [zbA] at h1
  omega --done
 ·try simp only [zbA] at h1
  refine tK ?_
  refine tS ?_
  refine tS ?_
  refine tR fun _ _ _ => ?_
  iterate 3 refine pV ?_
  refine stg rfl rfl rfl rfl rfl (fun hb => by (have hq := hb; try simp only [zbA] at hq); exact rMove rfl rfl) ?_
  refine stg rfl rfl rfl rfl rfl (fun hb => by (have hq := hb; try simp only [zbA] at hq); exact rGtr rfl (evg rfl hb) rfl) ?_
  refine sV (rAndB rfl rfl rfl rfl) ?_
  refine tC rfl (fun h3 => ?_) (fun h3 => ?_)
  ·try simp only [zbA] at h3
   omega --done
  ·try simp only [zbA] at h3
   refine tK ?_
   refine tS ?_
   refine tR fun _ _ _ => ?_
   refine pV ?_
   refine tS ?_
   refine tS ?_
   refine tR fun _ _ _ => ?_
   refine pV ?_
   refine tB ?_
   refine tr_loop2 (fun (i : Int) (o : Int) => [(9, .int .i64 i), (8, .int .i64 o), (0, .int .i64 q), (1, .int .i64 k), (2, .int .i64 65536)]) (fun (i : Int) (o : Int) => []) (fun (i : Int) (o : Int) => (0 ≤ i ∧ i ≤ k) ∧ (1 ≤ o ∧ o ≤ 65536) ∧ o = q ^ i.toNat) (fun (i : Int) (o : Int) => (k - i).toNat) (0) (1) ⟨rfl, rfl, rfl, rfl, rfl, trivial⟩ (by first | exact cs _ _ | exact CSub.refl _) (⟨⟨by omega, by omega⟩, ⟨by omega, by omega⟩, by simp⟩) (fun i o hI => ?_)
   obtain ⟨⟨hi0, hi1⟩, ⟨ho0, ho1⟩, ho⟩ := hI
   refine tS ?_
   refine tS ?_
   refine tR fun _ _ _ => ?_
   iterate 4 refine pV ?_
   refine stg rfl rfl rfl rfl rfl (fun hb => by (have hq := hb; try simp only [zbA] at hq); exact rMove rfl rfl) ?_
   refine stg rfl rfl rfl rfl rfl (fun hb => by (have hq := hb; try simp only [zbA] at hq); exact rGtr rfl (evg rfl hb) rfl) ?_
   refine sV (rAndB rfl rfl rfl rfl) ?_
   refine tC rfl (fun h7 => ?_) (fun h7 => ?_)
   ·try simp only [zbA] at h7
    refine tK ?_
    refine tS ?_
    refine tB ?_
    refine tS ?_
    refine tS ?_
    refine tR fun _ _ _ => ?_
    iterate 3 refine pV ?_
    refine sV (rQuo rfl rfl rfl (by omega) (by omega)) ?_
    refine pV ?_
    refine tC rfl (fun h9 => ?_) (fun h9 => ?_)
    ·try simp only [zbA] at h9
     refine tS ?_
     refine tR fun _ _ _ => ?_
     iterate 2 refine pV ?_
     have hbg := pow_big (q := q) (B := 65536) (by omega) (show i.toNat < k.toNat by omega) (by rw [← ho]; omega)
     exact tr_ret ⟨trivial, _, _, rfl, ⟨by rw [if_neg (by omega), if_neg (by omega)], rfl⟩, CSub.nil _, trivial⟩
    ·try simp only [zbA] at h9
     refine tK ?_
     have hmq : o * q ≤ 65536 := by
      have := Int.mul_le_of_le_ediv (by omega : 0 < q) (by omega : o ≤ 65536 / q)
      exact this
     have hmq0 : 0 < o * q := Int.mul_pos (by omega) (by omega)
     refine tR fun _ _ _ => ?_
     iterate 2 refine pV ?_
     refine sV (rMul rfl rfl rfl (by omega) (by omega)) ?_
     refine pV ?_
     refine tR fun _ _ _ => ?_
     refine pV ?_
     refine sV (rAdd rfl rfl rfl (by omega) (by omega)) ?_
     refine pV ?_
     refine ⟨i + 1, o * q, ⟨rfl, rfl, rfl, rfl, rfl, trivial⟩, by first | exact cs _ _ | exact CSub.refl _, ?_⟩
     exact ⟨⟨⟨by omega, by omega⟩, ⟨by omega, by omega⟩, by rw [show (i + 1).toNat = i.toNat + 1 by omega, Int.pow_succ, ho]⟩, by omega⟩
   ·try simp only [zbA] at h7
    refine tE ?_
    refine tS ?_
    refine tS ?_
    refine tR fun _ _ _ => ?_
    iterate 3 refine pV ?_
    refine tC rfl (fun h12 => ?_) (fun h12 => ?_)
    ·try simp only [zbA] at h12
     omega --done
    ·try simp only [zbA] at h12
     refine tK ?_
     refine tS ?_
     refine tR fun _ _ _ => ?_
     iterate 3 refine pV ?_
     have hik : i = k := by omega
     subst hik
     exact tr_ret ⟨trivial, _, _, rfl, ⟨by rw [← ho, if_pos ho1, if_pos ho1], rfl⟩, CSub.nil _, trivial⟩
theorem ref_CSize_ent : Enters Tryz.prog 41 := enters_of Tryz.func41 (by kernel_rfl) (by kernel_rfl)
theorem ref_CSize (p m : Int) (A : Option Addr) (c : Nat) (mod : List Int) [hF : IsF p m mod] (w : Int) (Aa : Option Addr) (n ca : Nat) (rs : List RowM) (hn : n = rs.length) (h9 : rs.length ≤ 256) (hc : CodeOk p m mod w rs) :
  Pure Tryz.prog 41 #[.agg #[.int .i64 p, .int .i64 m, .slice A mod.length c, .int .i64 w, .slice Aa n ca]] [ro A (ints mod), ro Aa (hdrs rs), rowsR rs] (isV (.tuple #[.int .i64 (if pw p m ^ rs.length ≤ 65536 then pw p m ^ rs.length else 0), .int .i64 (if pw p m ^ rs.length ≤ 65536 then 0 else 8)])) := by
 have hl9 := hF.short
 have hn1 := hc.n1
 have hn64 := hc.n64
 have hlen := hc.len
 have hgd := hc.good
 have h8 := hgd.h8 (N := 17592186044415) (by omega)
 have hck := hc.zero
 have hq2 := hF.q2
 have hq256 := hF.out.1.1.q
 have hord := hF.ord
 refine pure_of (args := [.agg #[.int .i64 p, .int .i64 m, .slice A mod.length c, .int .i64 w, .slice Aa n ca]]) 19 Tryz.func41 rfl rfl rfl ref_CSize_ent ⟨id, id, id, trivial⟩ (fun w0 => ?_)
 refine tS ?_
 refine tR fun _ _ _ => ?_
 refine eV (eBox rfl rfl rfl rfl rfl (fun p0 => ?_))
 iterate 2 refine pV ?_
 refine tS ?_
 refine tR fun _ _ _ => ?_
 refine sV (rLdS rfl rfl rfl) ?_
 refine eV (eCallV rfl rfl rfl (ref_CCheck _ _ _ _ _ (by omega) w Aa _ ca rs hn (by omega) h8) ⟨rfl, trivial⟩ ?_)
 refine pV ?_
 refine tS ?_
 refine tS ?_
 refine tR fun _ _ _ => ?_
 iterate 2 refine pV ?_
 refine tC rfl (fun h2 => ?_) (fun h2 => ?_)
 ·try simp only [zbA] at h2
  omega --done
 ·try simp only [zbA] at h2
  refine tK ?_
  refine tS ?_
  refine tr_draw [0, 1, 3, 4, 5, 2, 6, 7, 8, 9, 10] [] mixed (by kernel_rfl) fun _ _ _ => ?_
  refine sV (rFld rfl rfl) ?_
  refine sV (rLdSF rfl rfl) ?_
  refine sV (rFld rfl rfl) ?_
  refine sV (rLdF rfl rfl rfl) ?_
  refine sV (rLen rfl rfl) ?_
  refine eV (eCallV rfl rfl rfl (ref_order p m A c mod) ⟨rfl, trivial⟩ ?_)
  rw [hord]
  refine eV (eCallV rfl rfl rfl (ref_Exp (pw p m) n hq2 (by omega) (by omega) (by omega)) ⟨rfl, rfl, rfl, trivial⟩ ?_)
  iterate 4 refine pV ?_
  exact tr_ret ⟨trivial, _, _, rfl, ⟨by rw [hn]; rfl, rfl⟩, CSub.nil _, trivial⟩
theorem ref_CCount_ent : Enters Tryz.prog 9 := enters_of Tryz.func9 (by kernel_rfl) (by kernel_rfl)
theorem ref_CCount (p m : Int) (A : Option Addr) (c : Nat) (mod : List Int) [hF : IsF p m mod] (w : Int) (Aa : Option Addr) (n ca : Nat) (rs : List RowM) (hn : n = rs.length) (h9 : rs.length ≤ 256) (hc : CodeOk p m mod w rs) (most : Int) :
  Pure Tryz.prog 9 #[.agg #[.int .i64 p, .int .i64 m, .slice A mod.length c, .int .i64 w, .slice Aa n ca], .int .i64 most] [ro A (ints mod), ro Aa (hdrs rs), rowsR rs] (isV (.int .i64 (cntC (pw p m) rs.length most))) := by
 have hl9 := hF.short
 have hn1 := hc.n1
 have hn64 := hc.n64
 have hlen := hc.len
 have hgd := hc.good
 have h8 := hgd.h8 (N := 17592186044415) (by omega)
 have hck := hc.zero
 have hq2 := hF.q2
 refine pure_of (args := [.agg #[.int .i64 p, .int .i64 m, .slice A mod.length c, .int .i64 w, .slice Aa n ca], .int .i64 most]) 20 Tryz.func9 rfl rfl rfl ref_CCount_ent ⟨id, id, id, trivial⟩ (fun w0 => ?_)
 refine tS ?_
 refine tR fun _ _ _ => ?_
 refine eV (eBox rfl rfl rfl rfl rfl (fun p0 => ?_))
 refine pV ?_
 refine tS ?_
 refine tR fun _ _ _ => ?_
 refine sV (rLdS rfl rfl rfl) ?_
 refine eV (eCallV rfl rfl rfl (ref_CSize p m A c mod w Aa n ca rs hn h9 hc) ⟨rfl, trivial⟩ ?_)
 iterate 5 refine pV ?_
 refine tS ?_
 refine tS ?_
 refine tR fun _ _ _ => ?_
 iterate 3 refine pV ?_
 refine stg rfl rfl rfl rfl rfl (fun hb => by (have hq := hb; try simp only [zbA] at hq); exact rMove rfl rfl) ?_
 refine stg rfl rfl rfl rfl rfl (fun hb => by (have hq := hb; try simp only [zbA] at hq); exact rMove rfl rfl) ?_
 refine stg rfl rfl rfl rfl rfl (fun hb => by (have hq := hb; try simp only [zbA] at hq); exact rGtr rfl (evg rfl hb) (evg rfl hb)) ?_
 refine sV (rOrB rfl rfl rfl rfl) ?_
 refine tC rfl (fun h2 => ?_) (fun h2 => ?_)
 ·try simp only [zbA] at h2
  have hz : cntC (pw p m) rs.length most = 0 := by
   unfold cntC
   split
   ·rename_i hcc
    rw [if_pos hcc.1, if_pos hcc.1] at h2
    omega
   ·rfl
  refine tS ?_
  refine tR fun _ _ _ => ?_
  refine pV ?_
  exact tr_ret ⟨trivial, _, _, rfl, ⟨by rw [hz], rfl⟩, CSub.nil _, trivial⟩
 ·try simp only [zbA] at h2
  have hz : (if pw p m ^ rs.length ≤ 65536 then pw p m ^ rs.length else 0) = cntC (pw p m) rs.length most := by
   unfold cntC
   by_cases hcc : pw p m ^ rs.length ≤ 65536
   ·rw [if_pos hcc, if_pos hcc] at h2
    rw [if_pos hcc, if_pos ⟨hcc, by omega⟩]
   ·rw [if_neg hcc, if_neg hcc] at h2
    omega
  refine tK ?_
  refine tS ?_
  refine tR fun _ _ _ => ?_
  iterate 2 refine pV ?_
  exact tr_ret ⟨trivial, _, _, rfl, ⟨by rw [hz], rfl⟩, CSub.nil _, trivial⟩
theorem ref_CAt_ent : Enters Tryz.prog 43 := enters_of Tryz.func43 (by kernel_rfl) (by kernel_rfl)
theorem ref_CAt (p m : Int) (A : Option Addr) (c : Nat) (mod : List Int) [hF : IsF p m mod] (w : Int) (Aa : Option Addr) (n ca : Nat) (rs : List RowM) (hn : n = rs.length) (h9 : rs.length ≤ 256) (hc : CodeOk p m mod w rs) (z : Int) (hz0 : 0 ≤ z) (hz9 : z ≤ 1000000000) :
  Pure Tryz.prog 43 #[.agg #[.int .i64 p, .int .i64 m, .slice A mod.length c, .int .i64 w, .slice Aa n ca], .int .i64 z] [ro A (ints mod), ro Aa (hdrs rs), rowsR rs] (one (fun v ch => ∃ B cb, v = .slice B (wordZ p m mod w.toNat rs z).length cb ∧ ch = ow B 3 cb (ints (wordZ p m mod w.toNat rs z)))) := by
 have hl9 := hF.short
 have hn1 := hc.n1
 have hn64 := hc.n64
 have hlen := hc.len
 have hgd := hc.good
 have h8 := hgd.h8 (N := 17592186044415) (by omega)
 have hck := hc.zero
 have hq2 := hF.q2
 have hq256 := hF.out.1.1.q
 have hord := hF.ord
 refine pure_of (args := [.agg #[.int .i64 p, .int .i64 m, .slice A mod.length c, .int .i64 w, .slice Aa n ca], .int .i64 z]) 39 Tryz.func43 rfl rfl rfl ref_CAt_ent ⟨id, id, id, trivial⟩ (fun w0 => ?_)
 refine tS ?_
 refine tR fun _ _ _ => ?_
 refine eV (eBox rfl rfl rfl rfl rfl (fun p0 => ?_))
 refine pV ?_
 refine tS ?_
 refine tR fun _ _ _ => ?_
 refine sV (rFld rfl rfl) ?_
 refine sV (rLdSF rfl rfl) ?_
 refine eV (eCallV rfl rfl rfl (ref_order p m A c mod) ⟨rfl, trivial⟩ ?_)
 refine pV ?_
 rw [hord]
 refine tS ?_
 refine tR fun _ _ _ => ?_
 refine sV (rFld rfl rfl) ?_
 refine sV (rLdF rfl rfl rfl) ?_
 refine sV (rLen rfl rfl) ?_
 refine eV (eMakeI rfl rfl rfl rfl rfl (by omega) (by omega) (by omega) (fun A2 => ?_))
 refine pV ?_
 simp only [Int.toNat_natCast]
 refine tS ?_
 refine tS ?_
 refine tR fun _ _ _ => ?_
 refine pV ?_
 refine sV (rLen rfl rfl) ?_
 refine sV (rSub rfl rfl rfl (by omega) (by omega)) ?_
 refine pV ?_
 refine tB ?_
 refine tr_loop3 (fun (i : Int) (x : List Int) (y : Int) => [(1, .int .i64 y), (5, .int .i64 (pw p m)), (6, .slice A2 n n), (7, .int .i64 i), (2, .pointer (some p0)), (4, .slice none 0 0)]) (fun (i : Int) (x : List Int) (y : Int) => [ow A2 3 n (ints x), blk p0 27 [.int .i64 p, .int .i64 m, .slice A mod.length c, .int .i64 w, .slice Aa n ca], ro A (ints mod), ro Aa (hdrs rs), rowsR rs]) (fun (i : Int) (x : List Int) (y : Int) => (-1 ≤ i ∧ i < n) ∧ x.length = rs.length ∧ (∀ j : Nat, i < j → j < rs.length → x.getD j 0 = z / pw p m ^ (rs.length - 1 - j) % pw p m) ∧ y = z / pw p m ^ (rs.length - 1 - i).toNat) (fun (i : Int) (x : List Int) (y : Int) => (i + 1).toNat) ((n : Int) - 1) (List.replicate n 0) (z) ⟨rfl, rfl, rfl, rfl, rfl, rfl, trivial⟩ (by first | exact cs _ _ | exact CSub.refl _) (⟨⟨by omega, by omega⟩, by simp; omega, fun j h1 h2 => by omega, by rw [show ((rs.length : Int) - 1 - ((n : Int) - 1)).toNat = 0 by omega, Int.pow_zero, Int.ediv_one]⟩) (fun i x y hI => ?_)
 obtain ⟨⟨hi0, hi1⟩, hxl, hx, hy⟩ := hI
 refine tS ?_
 refine tS ?_
 refine tR fun _ _ _ => ?_
 iterate 2 refine pV ?_
 refine tC rfl (fun h4 => ?_) (fun h4 => ?_)
 ·try simp only [zbA] at h4
  refine tK ?_
  refine tS ?_
  refine tB ?_
  refine tS ?_
  have hzz : 0 ≤ y := by rw [hy]; exact Int.ediv_nonneg hz0 (Int.le_of_lt (Int.pow_pos (by omega)))
  have hzl : y ≤ z := by rw [hy]; exact Int.ediv_le_self _ hz0
  refine tR fun _ _ _ => ?_
  iterate 4 refine pV ?_
  refine sV (rRem rfl rfl rfl (by omega) (by omega)) ?_
  refine sV (rIdxI rfl rfl rfl (by omega) (by omega) (by omega)) ?_
  refine eV (eStI rfl rfl rfl rfl (by omega) ?_)
  refine tR fun _ _ _ => ?_
  iterate 2 refine pV ?_
  refine sV (rQuo rfl rfl rfl (by omega) (by omega)) ?_
  refine pV ?_
  refine tR fun _ _ _ => ?_
  refine pV ?_
  refine sV (rSub rfl rfl rfl (by omega) (by omega)) ?_
  refine pV ?_
  refine ⟨i - 1, x.set i.toNat (y % pw p m), y / pw p m, ⟨rfl, rfl, rfl, rfl, rfl, rfl, trivial⟩, by first | exact cs _ _ | exact CSub.refl _, ?_⟩
  refine ⟨⟨⟨by omega, by omega⟩, by simpa using hxl, fun j h1 h2 => ?_, ?_⟩, by omega⟩
  ·rw [getD_set]
   by_cases he : i.toNat = j
   ·rw [if_pos ⟨he, by omega⟩, hy, show ((rs.length : Int) - 1 - i).toNat = rs.length - 1 - j by omega]
   ·rw [if_neg (fun h => he h.1)]; exact hx j (by omega) h2
  ·rw [show ((rs.length : Int) - 1 - (i - 1)).toNat = ((rs.length : Int) - 1 - i).toNat + 1 by omega, Int.pow_succ, hy]
   exact Int.ediv_ediv_of_nonneg (Int.le_of_lt (Int.pow_pos (by omega)))
 ·try simp only [zbA] at h4
  refine tE ?_
  refine tS ?_
  have hxd := digM_fill (q := pw p m) (i := z) hxl fun j hj => hx j (by omega) hj
  refine tR fun _ _ _ => ?_
  refine sV (rFld rfl rfl) ?_
  refine sV (rLdSF rfl rfl) ?_
  refine pV ?_
  refine sV (rFld rfl rfl) ?_
  refine sV (rLdF rfl rfl rfl) ?_
  refine sV (rFld rfl rfl) ?_
  refine sV (rLdF rfl rfl rfl) ?_
  refine eV (eCall1 rfl rfl rfl (ref_Combine p m A c mod A2 _ _ x (by omega) w (by omega) (by omega) Aa n ca rs hn hxl (by omega) hgd) ⟨rfl, rfl, rfl, rfl, trivial⟩ ?_)
  rintro _ _ ⟨Bo, cb, o, rfl, rfl, hol, hoi, hoe⟩
  refine pV ?_
  rw [hxd] at hoe
  have how := wordZ_eq hgd (by omega) hoi hoe
  subst how
  exact tr_ret ⟨trivial, _, _, rfl, ⟨_, rfl, Bo, cb, rfl, rfl⟩, cs _ _, trivial, trivial⟩
end Go.Proofs.YtfdjdokdabmmdaaGreat

set_option maxRecDepth 100000
namespace Go.Proofs.YtfdjdokdabmmdaaGreat
open Go.RowKit
end Go.Proofs.YtfdjdokdabmmdaaGreat

namespace Go.Proofs.YtfdjdokdabmmdaaGreat
open Go.RowKit
section
variable {P : Program} {N : NB} {M : Nat → Prop} {w0 : World} {L : Fr} {F : List Chunk} {o : Oper} {v : Value} {x y : Operand} {t t' : TypeId}
theorem rAddU {m n : Int} (ho : o.op = .binOp .add t x y t') (hx : ev L x = some (.int .u64 m)) (hy : ev L y = some (.int .u64 n)) (h1 : 0 ≤ m + n) (h2 : m + n ≤ 18446744073709551615) : Stl P N M w0 o L F (.int .u64 (m + n)) :=
 stl_pure fun a hl => by simp [execOp, ho, hl.eval hx, hl.eval hy, eqGuard, binOp, Op.intArith, IntWalk.u64_in _ ⟨h1, h2⟩]
theorem rMulU {m n : Int} (ho : o.op = .binOp .mul t x y t') (hx : ev L x = some (.int .u64 m)) (hy : ev L y = some (.int .u64 n)) (h1 : 0 ≤ m * n) (h2 : m * n ≤ 18446744073709551615) : Stl P N M w0 o L F (.int .u64 (m * n)) :=
 stl_pure fun a hl => by simp [execOp, ho, hl.eval hx, hl.eval hy, eqGuard, binOp, Op.intArith, IntWalk.u64_in _ ⟨h1, h2⟩]
theorem rQuoU {m n : Int} (ho : o.op = .binOp .quo t x y t') (hx : ev L x = some (.int .u64 m)) (hy : ev L y = some (.int .u64 n)) (h1 : 0 ≤ m ∧ m ≤ 18446744073709551615) (h2 : 1 ≤ n) : Stl P N M w0 o L F (.int .u64 (m / n)) :=
 stl_pure fun a hl => by
  have hn : n ≠ 0 := by omega
  simp [execOp, ho, hl.eval hx, hl.eval hy, eqGuard, binOp, Op.intDiv, hn, IntWalk.u64_quo m n ⟨h1.1, h1.2, h2⟩]
theorem rRemU {m n : Int} (ho : o.op = .binOp .rem t x y t') (hx : ev L x = some (.int .u64 m)) (hy : ev L y = some (.int .u64 n)) (h1 : 0 ≤ m) (h2 : 1 ≤ n) : Stl P N M w0 o L F (.int .u64 (m % n)) :=
 stl_pure fun a hl => by
  have hn : n ≠ 0 := by omega
  simp [execOp, ho, hl.eval hx, hl.eval hy, eqGuard, binOp, Op.intDiv, hn, IntWalk.rem_in m n h1]
theorem rShrZ {k' : IntKind} {m : Int} (ho : o.op = .binOp .shr t x y t') (hx : ev L x = some (.int .u64 m)) (hy : ev L y = some (.int k' 32)) (h1 : 0 ≤ m) (h2 : m < 4294967296) : Stl P N M w0 o L F (.int .u64 0) :=
 stl_pure fun a hl => by
  have h3 : m.fdiv 4294967296 = 0 := by rw [Int.fdiv_eq_ediv_of_nonneg _ (by omega)]; omega
  have h4 : min (32 : Int).toNat IntKind.u64.bits = 32 := by rfl
  have h5 : (2 : Int) ^ 32 = 4294967296 := by rfl
  simp only [execOp, ho, hl.eval hx, hl.eval hy, eqGuard, binOp, Op.shift, h4, h5, h3]
  rfl
theorem rAndLow {m : Int} (ho : o.op = .binOp .and t x y t') (hx : ev L x = some (.int .u64 m)) (hy : ev L y = some (.int .u64 4294967295)) (h1 : 0 ≤ m) (h2 : m < 4294967296) : Stl P N M w0 o L F (.int .u64 m) :=
 stl_pure fun a hl => by
  have h3 : (BitVec.ofInt IntKind.u64.bits m &&& BitVec.ofInt IntKind.u64.bits 4294967295).toNat = m.toNat := by
   rw [BitVec.toNat_and, BitVec.toNat_ofInt, BitVec.toNat_ofInt]
   have e1 : (m % ((2 ^ IntKind.u64.bits : Nat) : Int)).toNat = m.toNat := by
    rw [Int.emod_eq_of_lt h1 (by simp [IntKind.bits]; omega)]
   have e2 : ((4294967295 : Int) % ((2 ^ IntKind.u64.bits : Nat) : Int)).toNat = 2 ^ 32 - 1 := by rfl
   rw [e1, e2, Nat.and_two_pow_sub_one_eq_mod, Nat.mod_eq_of_lt (by omega)]
  have h4 : ((m.toNat : Nat) : Int) = m := Int.toNat_of_nonneg h1
  simp only [execOp, ho, hl.eval hx, hl.eval hy, eqGuard, binOp, Op.intBits, h3, h4, IntWalk.u64_in m ⟨h1, by omega⟩]
  rfl
end
end Go.Proofs.YtfdjdokdabmmdaaGreat

set_option maxRecDepth 100000
namespace Go.Proofs.YtfdjdokdabmmdaaGreat
open Go.RowKit
theorem undU64 : Tryz.prog.underlying 53 = some (.int .u64) := by kernel_rfl
theorem bits_Mul64_ent : Enters Tryz.prog 59 := enters_of Tryz.func59 (by kernel_rfl) (by kernel_rfl)
theorem bits_Mul64 (a b : Int) (ha : 0 ≤ a) (ha9 : a < 4294967296) (hb : 0 ≤ b) (hb9 : b < 4294967296) (hab0 : 0 ≤ a * b) (hab : a * b < 4294967296) :
  Pure Tryz.prog 59 #[.int .u64 a, .int .u64 b] [] (isV (.tuple #[.int .u64 0, .int .u64 (a * b)])) := by
 refine pure_of (args := [.int .u64 a, .int .u64 b]) 51 Tryz.func59 rfl rfl rfl bits_Mul64_ent trivial (fun w0 => ?_)
 refine tS ?_
 refine tR fun _ _ _ => ?_
 iterate 2 refine pV ?_
 refine tS ?_
 refine tR fun _ _ _ => ?_
 refine pV ?_
 refine sV (rAndLow rfl rfl rfl (by omega) (by omega)) ?_
 refine pV ?_
 refine tS ?_
 refine tR fun _ _ _ => ?_
 refine pV ?_
 refine sV (rShrZ rfl rfl rfl (by omega) (by omega)) ?_
 refine pV ?_
 refine tS ?_
 refine tR fun _ _ _ => ?_
 refine pV ?_
 refine sV (rAndLow rfl rfl rfl (by omega) (by omega)) ?_
 refine pV ?_
 refine tS ?_
 refine tR fun _ _ _ => ?_
 refine pV ?_
 refine sV (rShrZ rfl rfl rfl (by omega) (by omega)) ?_
 refine pV ?_
 refine tS ?_
 refine tR fun _ _ _ => ?_
 iterate 2 refine pV ?_
 refine sV (rMulU rfl rfl rfl (by omega) (by omega)) ?_
 refine pV ?_
 refine tS ?_
 refine tR fun _ _ _ => ?_
 iterate 2 refine pV ?_
 refine sV (rMulU rfl rfl rfl (by omega) (by omega)) ?_
 refine pV ?_
 refine sV (rShrZ rfl rfl rfl (by omega) (by omega)) ?_
 refine sV (rAddU rfl rfl rfl (by omega) (by omega)) ?_
 refine pV ?_
 refine tS ?_
 refine tR fun _ _ _ => ?_
 refine pV ?_
 refine sV (rAndLow rfl rfl rfl (by omega) (by omega)) ?_
 refine pV ?_
 refine tS ?_
 refine tR fun _ _ _ => ?_
 refine pV ?_
 refine sV (rShrZ rfl rfl rfl (by omega) (by omega)) ?_
 refine pV ?_
 refine tS ?_
 refine tR fun _ _ _ => ?_
 iterate 3 refine pV ?_
 refine sV (rMulU rfl rfl rfl (by omega) (by omega)) ?_
 refine sV (rAddU rfl rfl rfl (by omega) (by omega)) ?_
 refine pV ?_
 refine tS ?_
 refine tR fun _ _ _ => ?_
 iterate 2 refine pV ?_
 refine sV (rMulU rfl rfl rfl (by omega) (by omega)) ?_
 refine pV ?_
 refine sV (rAddU rfl rfl rfl (by omega) (by omega)) ?_
 refine pV ?_
 refine sV (rShrZ rfl rfl rfl (by omega) (by omega)) ?_
 refine sV (rAddU rfl rfl rfl (by omega) (by omega)) ?_
 refine pV ?_
 refine tS ?_
 refine tR fun _ _ _ => ?_
 iterate 2 refine pV ?_
 refine sV (rMulU rfl rfl rfl (by omega) (by omega)) ?_
 refine pV ?_
 exact tr_ret ⟨trivial, _, _, rfl, ⟨by simp, rfl⟩, CSub.nil _, trivial⟩
theorem bits_Div64_ent : Enters Tryz.prog 60 := enters_of Tryz.func60 (by kernel_rfl) (by kernel_rfl)
theorem bits_Div64 (a b : Int) (ha : 0 ≤ a) (ha9 : a < 4294967296) (hb : 1 ≤ b) (hb9 : b < 4294967296) :
  Pure Tryz.prog 60 #[.int .u64 0, .int .u64 a, .int .u64 b] [] (isV (.tuple #[.int .u64 (a / b), .int .u64 (a % b)])) := by
 refine pure_of (args := [.int .u64 0, .int .u64 a, .int .u64 b]) 135 Tryz.func60 rfl rfl rfl bits_Div64_ent trivial (fun w0 => ?_)
 refine tS ?_
 refine tR fun _ _ _ => ?_
 iterate 2 refine pV ?_
 refine tS ?_
 refine tS ?_
 refine tR fun _ _ _ => ?_
 refine pV ?_
 refine sV (rEqlK rfl rfl rfl) ?_
 refine tC rfl (fun h1 => ?_) (fun h1 => ?_)
 ·try simp only [zbA] at h1
  omega --done
 ·try simp only [zbA] at h1
  refine tK ?_
  refine tS ?_
  refine tS ?_
  refine tR fun _ _ _ => ?_
  iterate 2 refine pV ?_
  refine sV (rLeqK rfl rfl rfl) ?_
  refine tC rfl (fun h3 => ?_) (fun h3 => ?_)
  ·try simp only [zbA] at h3
   omega --done
  ·try simp only [zbA] at h3
   refine tK ?_
   refine tS ?_
   refine tS ?_
   refine tR fun _ _ _ => ?_
   refine pV ?_
   refine sV (rEqlK rfl rfl rfl) ?_
   refine tC rfl (fun h5 => ?_) (fun h5 => ?_)
   ·try simp only [zbA] at h5
    refine tS ?_
    refine tr_draw [0, 1, 2, 3, 4, 5, 6, 7] [] mixed (by kernel_rfl) fun _ _ _ => ?_
    iterate 2 refine pV ?_
    refine sV (rQuoU rfl rfl rfl ⟨by omega, by omega⟩ (by omega)) ?_
    iterate 2 refine pV ?_
    refine sV (rRemU rfl rfl rfl (by omega) (by omega)) ?_
    iterate 2 refine pV ?_
    exact tr_ret ⟨trivial, _, _, rfl, ⟨rfl, rfl⟩, CSub.nil _, trivial⟩
   ·try simp only [zbA] at h5
    simp at h5 --done
theorem num_Choose_ent : Enters Tryz.prog 31 := enters_of Tryz.func31 (by kernel_rfl) (by kernel_rfl)
theorem num_Choose (n k : Int) (hk0 : 0 ≤ k) (hkn : k ≤ n) (hn9 : n ≤ 16) :
  Pure Tryz.prog 31 #[.int .i64 n, .int .i64 k, .int .i64 65536] [] (isV (.tuple #[.int .i64 (bin n.toNat k.toNat : Int), .int .i64 0])) := by
 refine pure_of (args := [.int .i64 n, .int .i64 k, .int .i64 65536]) 70 Tryz.func31 rfl rfl rfl num_Choose_ent trivial (fun w0 => ?_)
 refine tS ?_
 refine tR fun _ _ _ => ?_
 iterate 2 refine pV ?_
 refine tS ?_
 refine tS ?_
 refine tR fun _ _ _ => ?_
 iterate 3 refine pV ?_
 refine stg rfl rfl rfl rfl rfl (fun hb => by (have hq := hb; try simp only [zbA] at hq); exact rMove rfl rfl) ?_
 refine stg rfl rfl rfl rfl rfl (fun hb => by (have hq := hb; try simp only [zbA] at hq); exact rLss rfl (evg rfl hb) rfl) ?_
 refine sV (rOrB rfl rfl rfl rfl) ?_
 refine pV ?_
 refine stg rfl rfl rfl rfl rfl (fun hb => by (have hq := hb; try simp only [zbA] at hq); exact rMove rfl rfl) ?_
 refine stg rfl rfl rfl rfl rfl (fun hb => by (have hq := hb; try simp only [zbA] at hq); exact rLss rfl (evg rfl hb) rfl) ?_
 refine sV (rOrB rfl rfl rfl rfl) ?_
 refine tC rfl (fun h1 => ?_) (fun h1 => ?_)
 ·try simp only [zbA] at h1
  omega --done
 ·try simp only [zbA] at h1
  refine tK ?_
  refine tS ?_
  refine tS ?_
  refine tR fun _ _ _ => ?_
  iterate 3 refine pV ?_
  refine tC rfl (fun h3 => ?_) (fun h3 => ?_)
  ·try simp only [zbA] at h3
   omega --done
  ·try simp only [zbA] at h3
   refine tK ?_
   refine tS ?_
   refine tS ?_
   refine tR fun _ _ _ => ?_
   iterate 2 refine pV ?_
   refine tC rfl (fun h5 => ?_) (fun h5 => ?_)
   ·try simp only [zbA] at h5
    omega --done
   ·try simp only [zbA] at h5
    refine tK ?_
    refine tS ?_
    refine tR fun _ _ _ => ?_
    iterate 3 refine pV ?_
    refine sV (rSub rfl rfl rfl (by omega) (by omega)) ?_
    refine sV (rMin rfl rfl rfl) ?_
    refine pV ?_
    refine tS ?_
    refine tR fun _ _ _ => ?_
    refine pV ?_
    refine tS ?_
    refine tS ?_
    refine tR fun _ _ _ => ?_
    refine pV ?_
    refine tB ?_
    refine tr_loop2 (fun (i : Int) (o : Int) => [(1, .int .i64 (min k (n - k))), (9, .int .i64 i), (8, .int .i64 o), (0, .int .i64 n), (2, .int .i64 65536)]) (fun (i : Int) (o : Int) => []) (fun (i : Int) (o : Int) => (1 ≤ i ∧ i ≤ min k (n - k) + 1) ∧ (0 ≤ o ∧ o ≤ 65536) ∧ o = (bin ((n - min k (n - k)).toNat + (i - 1).toNat) (i - 1).toNat : Int)) (fun (i : Int) (o : Int) => (min k (n - k) + 1 - i).toNat) (1) (1) ⟨rfl, rfl, rfl, rfl, rfl, trivial⟩ (by first | exact cs _ _ | exact CSub.refl _) (⟨⟨by omega, by omega⟩, ⟨by omega, by omega⟩, by rw [show ((1 : Int) - 1).toNat = 0 by rfl, bin_zero]; rfl⟩) (fun i o hI => ?_)
    obtain ⟨⟨hi0, hi1⟩, ⟨ho0, ho1⟩, ho⟩ := hI
    refine tS ?_
    refine tS ?_
    refine tR fun _ _ _ => ?_
    iterate 3 refine pV ?_
    refine tC rfl (fun h10 => ?_) (fun h10 => ?_)
    ·try simp only [zbA] at h10
     refine tK ?_
     refine tS ?_
     refine tB ?_
     refine tS ?_
     have habs := bin_abs ((n - min k (n - k)).toNat + (i - 1).toNat) ((i - 1).toNat)
     have hbl := bin_le ((n - min k (n - k)).toNat + (i - 1).toNat + 1) ((i - 1).toNat + 1)
     have hpl : 2 ^ ((n - min k (n - k)).toNat + (i - 1).toNat + 1) ≤ 2 ^ 16 := Nat.pow_le_pow_right (by omega) (by omega)
     have hmul : o * (n - min k (n - k) + i) = (bin ((n - min k (n - k)).toNat + (i - 1).toNat + 1) ((i - 1).toNat + 1) : Int) * i := by
      have e1 : (((n - min k (n - k)).toNat + (i - 1).toNat + 1 : Nat) : Int) = n - min k (n - k) + i := by omega
      have e2 : (((i - 1).toNat + 1 : Nat) : Int) = i := by omega
      have e3 := congrArg (fun z : Nat => (z : Int)) habs
      simp only [Int.natCast_mul] at e3
      rw [e1, e2, ← ho] at e3
      rw [Int.mul_comm o, ← e3, Int.mul_comm]
     have hq : o * (n - min k (n - k) + i) / i = (bin ((n - min k (n - k)).toNat + (i - 1).toNat + 1) ((i - 1).toNat + 1) : Int) := by rw [hmul, Int.mul_ediv_cancel _ (by omega)]
     have hb16 : (bin ((n - min k (n - k)).toNat + (i - 1).toNat + 1) ((i - 1).toNat + 1) : Int) ≤ 65536 := by omega
     have hm0 : 0 ≤ o * (n - min k (n - k) + i) := Int.mul_nonneg (by omega) (by omega)
     have hm9 : o * (n - min k (n - k) + i) ≤ 65536 * 16 := by
      rw [hmul]; exact Int.mul_le_mul hb16 (by omega) (by omega) (by omega)
     refine tR fun _ _ _ => ?_
     refine pV ?_
     refine sV (rConv rfl undI undU64 rfl (IntWalk.u64_in _ ⟨by omega, by omega⟩)) ?_
     iterate 2 refine pV ?_
     refine sV (rSub rfl rfl rfl (by omega) (by omega)) ?_
     refine pV ?_
     refine sV (rAdd rfl rfl rfl (by omega) (by omega)) ?_
     refine sV (rConv rfl undI undU64 rfl (IntWalk.u64_in _ ⟨by omega, by omega⟩)) ?_
     refine eV (eCallV rfl rfl rfl (bits_Mul64 o (n - min k (n - k) + i) (by omega) (by omega) (by omega) (by omega) (by omega) (by omega)) ⟨rfl, rfl, trivial⟩ ?_)
     iterate 5 refine pV ?_
     refine tS ?_
     refine tS ?_
     refine tR fun _ _ _ => ?_
     iterate 2 refine pV ?_
     refine sV (rConv rfl undI undU64 rfl (IntWalk.u64_in _ ⟨by omega, by omega⟩)) ?_
     refine sV (rGeqK rfl rfl rfl) ?_
     refine tC rfl (fun h13 => ?_) (fun h13 => ?_)
     ·try simp only [zbA] at h13
      omega --done
     ·try simp only [zbA] at h13
      refine tK ?_
      refine tS ?_
      refine tR fun _ _ _ => ?_
      iterate 3 refine pV ?_
      refine sV (rConv rfl undI undU64 rfl (IntWalk.u64_in _ ⟨by omega, by omega⟩)) ?_
      refine eV (eCallV rfl rfl rfl (bits_Div64 (o * (n - min k (n - k) + i)) i (by omega) (by omega) (by omega) (by omega)) ⟨rfl, rfl, rfl, trivial⟩ ?_)
      iterate 5 refine pV ?_
      refine tS ?_
      refine tS ?_
      refine tR fun _ _ _ => ?_
      iterate 2 refine pV ?_
      refine sV (rConv rfl undI undU64 rfl (IntWalk.u64_in _ ⟨by omega, by omega⟩)) ?_
      refine sV (rGtrK rfl rfl rfl) ?_
      refine tC rfl (fun h16 => ?_) (fun h16 => ?_)
      ·try simp only [zbA] at h16
       omega --done
      ·try simp only [zbA] at h16
       refine tK ?_
       refine tR fun _ _ _ => ?_
       refine pV ?_
       refine sV (rConv rfl undU64 undI rfl (IntWalk.i64_in _ ⟨by omega, by omega⟩)) ?_
       refine pV ?_
       refine tR fun _ _ _ => ?_
       refine pV ?_
       refine sV (rAdd rfl rfl rfl (by omega) (by omega)) ?_
       refine pV ?_
       refine ⟨i + 1, o * (n - min k (n - k) + i) / i, ⟨rfl, rfl, rfl, rfl, rfl, trivial⟩, by first | exact cs _ _ | exact CSub.refl _, ?_⟩
       exact ⟨⟨⟨by omega, by omega⟩, ⟨by omega, by omega⟩, by rw [hq, show (i + 1 - 1).toNat = (i - 1).toNat + 1 by omega]; rfl⟩, by omega⟩
    ·try simp only [zbA] at h10
     refine tE ?_
     refine tS ?_
     refine tR fun _ _ _ => ?_
     iterate 3 refine pV ?_
     have hik : i = min k (n - k) + 1 := by omega
     have hfin : o = (bin n.toNat k.toNat : Int) := by
      rw [ho, hik, show (min k (n - k) + 1 - 1).toNat = (min k (n - k)).toNat by omega, show (n - min k (n - k)).toNat + (min k (n - k)).toNat = n.toNat by omega]
      rcases Int.le_total k (n - k) with h | h
      ·rw [Int.min_eq_left h]
      ·rw [Int.min_eq_right h, bin_sym n.toNat (n - k).toNat k.toNat (by omega)]
     exact tr_ret ⟨trivial, _, _, rfl, ⟨by rw [hfin], rfl⟩, CSub.nil _, trivial⟩
theorem num_Exp_ent : Enters Tryz.prog 32 := enters_of Tryz.func32 (by kernel_rfl) (by kernel_rfl)
theorem num_Exp (b e : Int) (hb1 : 1 ≤ b) (hb9 : b ≤ 65536) (he0 : 0 ≤ e) (he9 : e ≤ 1000) (hbe : b ^ e.toNat ≤ 65536) :
  Pure Tryz.prog 32 #[.int .i64 b, .int .i64 e, .int .i64 65536] [] (isV (.tuple #[.int .i64 (b ^ e.toNat), .int .i64 0])) := by
 refine pure_of (args := [.int .i64 b, .int .i64 e, .int .i64 65536]) 44 Tryz.func32 rfl rfl rfl num_Exp_ent trivial (fun w0 => ?_)
 refine tS ?_
 refine tR fun _ _ _ => ?_
 iterate 2 refine pV ?_
 refine tS ?_
 refine tS ?_
 refine tR fun _ _ _ => ?_
 iterate 3 refine pV ?_
 refine stg rfl rfl rfl rfl rfl (fun hb => by (have hq := hb; try simp only [zbA] at hq); exact rMove rfl rfl) ?_
 refine stg rfl rfl rfl rfl rfl (fun hb => by (have hq := hb; try simp only [zbA] at hq); exact rLss rfl (evg rfl hb) rfl) ?_
 refine sV (rOrB rfl rfl rfl rfl) ?_
 refine pV ?_
 refine stg rfl rfl rfl rfl rfl (fun hb => by (have hq := hb; try simp only [zbA] at hq); exact rMove rfl rfl) ?_
 refine stg rfl rfl rfl rfl rfl (fun hb => by (have hq := hb; try simp only [zbA] at hq); exact rLss rfl (evg rfl hb) rfl) ?_
 refine sV (rOrB rfl rfl rfl rfl) ?_
 refine tC rfl (fun h1 => ?_) (fun h1 => ?_)
 ·try simp only [zbA] at h1
  omega --done
 ·try simp only [zbA] at h1
  refine tK ?_
  refine tS ?_
  refine tS ?_
  refine tR fun _ _ _ => ?_
  iterate 3 refine pV ?_
  refine stg rfl rfl rfl rfl rfl (fun hb => by (have hq := hb; try simp only [zbA] at hq); exact rMove rfl rfl) ?_
  refine stg rfl rfl rfl rfl rfl (fun hb => by (have hq := hb; try simp only [zbA] at hq); exact rGtr rfl (evg rfl hb) rfl) ?_
  refine sV (rAndB rfl rfl rfl rfl) ?_
  refine tC rfl (fun h3 => ?_) (fun h3 => ?_)
  ·try simp only [zbA] at h3
   omega --done
  ·try simp only [zbA] at h3
   refine tK ?_
   refine tS ?_
   refine tS ?_
   refine tR fun _ _ _ => ?_
   iterate 2 refine pV ?_
   refine tC rfl (fun h5 => ?_) (fun h5 => ?_)
   ·try simp only [zbA] at h5
    omega --done
   ·try simp only [zbA] at h5
    refine tK ?_
    refine tS ?_
    refine tR fun _ _ _ => ?_
    refine pV ?_
    refine tS ?_
    refine tB ?_
    refine tr_loop2 (fun (t : Int) (o : Int) => [(1, .int .i64 t), (8, .int .i64 o), (0, .int .i64 b), (2, .int .i64 65536)]) (fun (t : Int) (o : Int) => []) (fun (t : Int) (o : Int) => (0 ≤ t ∧ t ≤ e) ∧ (1 ≤ o ∧ o ≤ 65536) ∧ o = b ^ (e - t).toNat) (fun (t : Int) (o : Int) => t.toNat) (e) (1) ⟨rfl, rfl, rfl, rfl, trivial⟩ (by first | exact cs _ _ | exact CSub.refl _) (⟨⟨by omega, by omega⟩, ⟨by omega, by omega⟩, by rw [show (e - e).toNat = 0 by omega, Int.pow_zero]⟩) (fun t o hI => ?_)
    obtain ⟨⟨ht0, ht1⟩, ⟨ho0, ho1⟩, ho⟩ := hI
    refine tS ?_
    refine tS ?_
    refine tR fun _ _ _ => ?_
    iterate 3 refine pV ?_
    refine stg rfl rfl rfl rfl rfl (fun hb => by (have hq := hb; try simp only [zbA] at hq); exact rMove rfl rfl) ?_
    refine stg rfl rfl rfl rfl rfl (fun hb => by (have hq := hb; try simp only [zbA] at hq); exact rGtr rfl (evg rfl hb) rfl) ?_
    refine sV (rAndB rfl rfl rfl rfl) ?_
    refine tC rfl (fun h8 => ?_) (fun h8 => ?_)
    ·try simp only [zbA] at h8
     refine tK ?_
     refine tS ?_
     refine tB ?_
     refine tS ?_
     refine tS ?_
     have hob : o * b ≤ 65536 := by
      have h1 := pow_le_of hb1 (show (e - t).toNat + 1 ≤ e.toNat by omega)
      rw [Int.pow_succ, ← ho] at h1
      omega
     have hob0 : 0 < o * b := Int.mul_pos (by omega) (by omega)
     have hdv : o ≤ 65536 / b := Int.le_ediv_of_mul_le (by omega) hob
     refine tR fun _ _ _ => ?_
     iterate 3 refine pV ?_
     refine sV (rQuo rfl rfl rfl (by omega) (by omega)) ?_
     refine pV ?_
     refine tC rfl (fun h10 => ?_) (fun h10 => ?_)
     ·try simp only [zbA] at h10
      omega --done
     ·try simp only [zbA] at h10
      refine tK ?_
      refine tR fun _ _ _ => ?_
      iterate 2 refine pV ?_
      refine sV (rMul rfl rfl rfl (by omega) (by omega)) ?_
      refine pV ?_
      refine tR fun _ _ _ => ?_
      refine pV ?_
      refine sV (rSub rfl rfl rfl (by omega) (by omega)) ?_
      refine pV ?_
      refine ⟨t - 1, o * b, ⟨rfl, rfl, rfl, rfl, trivial⟩, by first | exact cs _ _ | exact CSub.refl _, ?_⟩
      exact ⟨⟨⟨by omega, by omega⟩, ⟨by omega, by omega⟩, by rw [show (e - (t - 1)).toNat = (e - t).toNat + 1 by omega, Int.pow_succ, ho]⟩, by omega⟩
    ·try simp only [zbA] at h8
     refine tE ?_
     refine tS ?_
     refine tR fun _ _ _ => ?_
     iterate 3 refine pV ?_
     have hfin : o = b ^ e.toNat := by
      rw [ho]
      by_cases h1 : b = 1
      ·rw [h1, Int.one_pow, Int.one_pow]
      ·rw [show (e - t).toNat = e.toNat by omega]
     exact tr_ret ⟨trivial, _, _, rfl, ⟨by rw [hfin], rfl⟩, CSub.nil _, trivial⟩
end Go.Proofs.YtfdjdokdabmmdaaGreat

set_option maxRecDepth 100000
set_option maxHeartbeats 1000000
namespace Go.Proofs.YtfdjdokdabmmdaaGreat
open Go.RowKit
def four (R : Value → Chunk → Chunk → Chunk → Chunk → Prop) : Value → List Chunk → Prop := fun u Fo => ∃ c d e f, Fo = [c, d, e, f] ∧ R u c d e f
def five (R : Value → Chunk → Chunk → Chunk → Chunk → Chunk → Prop) : Value → List Chunk → Prop := fun u Fo => ∃ c d e f g, Fo = [c, d, e, f, g] ∧ R u c d e f g
section
variable {P : Program} {N : NB} {M : Nat → Prop} {w0 : World} {L : Fr} {F F' : List Chunk} {K : Fr → List Chunk → Prop} {b : Bool} {o : Oper} {v : Value} {x y : Operand} {t t' : TypeId}
theorem eCallM5 {f : FuncId} {xs : List Operand} {tys : Array TypeId} {vals : List Value} {H G : List Chunk} {R : Value → Chunk → Chunk → Chunk → Chunk → Chunk → Prop} (ho : o.op = .call { callee := .value (.func f), args := xs.toArray, argTypes := tys }) {d : Nat} (hdd : o.dst = some d) (hd : Nat.ble (d + 1) N.n = true)
  (hs : Mut P f vals.toArray H G (five R)) (hx : EvL L xs vals) [hp : PkS F H F'] [he : Ent F' G] (hK : ∀ v c e g h i, R v c e g h i → K (addL d v L) (c :: e :: g :: h :: i :: F')) (hG : NoEx G := by repeat' (first | exact trivial | exact id | refine ⟨?_, ?_⟩)) (hH : AllEx H := by repeat' (first | exact trivial | refine ⟨?_, ?_⟩)) : Eff P N M w0 false o L F K :=
 eCallM ho hdd hd hs hx (hp := hp) (he := he) (fun u Fo ⟨c, e, g, h, i, h1, h2⟩ => by subst h1; exact hK u c e g h i h2) hG hH
theorem eCallF4 {f : FuncId} {z : Operand} {xs : List Operand} {tys : Array TypeId} {vals lb : List Value} {H G : List Chunk} {R : Value → Chunk → Chunk → Chunk → Chunk → Prop} (ho : o.op = .call { callee := .value z, args := xs.toArray, argTypes := tys }) {d : Nat} (hdd : o.dst = some d) (hd : Nat.ble (d + 1) N.n = true)
  (hz : ev L z = some (.func (.func f) #[] lb.toArray)) (hs : Mut P f (vals ++ lb).toArray H G (four R)) (hx : EvL L xs vals) [hp : PkS F H F'] [he : Ent F' G] (hK : ∀ v c e g h, R v c e g h → K (addL d v L) (c :: e :: g :: h :: F')) (hG : NoEx G := by repeat' (first | exact trivial | exact id | refine ⟨?_, ?_⟩)) (hH : AllEx H := by repeat' (first | exact trivial | refine ⟨?_, ?_⟩)) : Eff P N M w0 false o L F K :=
 eCallF ho hdd hd hz hs hx (hp := hp) (he := he) (fun u Fo ⟨c, e, g, h, h1, h2⟩ => by subst h1; exact hK u c e g h h2) hG hH
end
section
variable {K : Type} [Fd K]
def LinB (V0 V U : List (Vc K)) : Prop := ∀ j, j < V.length → Vc.cmb (fun i => U.getD j 0 i) V0 = V.getD j 0
theorem LinB.set {V0 V U : List (Vc K)} (h : LinB V0 V U) (hl : U.length = V.length) {i : Nat} {v u : Vc K} (hu : Vc.cmb (fun i => u i) V0 = v) : LinB V0 (V.set i v) (U.set i u) := fun j hj => by
 rw [List.length_set] at hj
 rw [Vc.getD_setV, Vc.getD_setV]
 by_cases he : i = j
 ·rw [if_pos ⟨he, by omega⟩, if_pos ⟨he, hj⟩]; exact hu
 ·rw [if_neg (fun e => he e.1), if_neg (fun e => he e.1)]; exact h j hj
theorem LinB.scale {V0 V U : List (Vc K)} (h : LinB V0 V U) (hl : U.length = V.length) {k : Nat} (hk : k < V.length) (e : K) : LinB V0 (V.set k (Vc.sc e (V.getD k 0))) (U.set k (Vc.sc e (U.getD k 0))) := h.set hl (by
 have := Vc.cmb_sc e (fun i => U.getD k 0 i) V0
 rw [h k hk] at this; exact this)
theorem LinB.plus {V0 V U : List (Vc K)} (h : LinB V0 V U) (hl : U.length = V.length) {i k : Nat} (hi : i < V.length) (hk : k < V.length) (f : K) : LinB V0 (V.set i (V.getD i 0 + Vc.sc f (V.getD k 0))) (U.set i (U.getD i 0 + Vc.sc f (U.getD k 0))) := h.set hl (by
 have h1 := Vc.cmb_add (fun j => U.getD i 0 j) (fun j => f * U.getD k 0 j) V0
 rw [Vc.cmb_sc f (fun j => U.getD k 0 j) V0, h i hi, h k hk] at h1; exact h1)
theorem LinB.swap {V0 V U : List (Vc K)} (h : LinB V0 V U) (hl : U.length = V.length) {a k : Nat} (ha : a < V.length) (hk : k < V.length) : LinB V0 ((V.set k (V.getD a 0)).set a (V.getD k 0)) ((U.set k (U.getD a 0)).set a (U.getD k 0)) :=
 (h.set hl (h a ha)).set (by simpa using hl) (h k hk)
end
theorem elim_each4_ent : Enters Tryz.prog 96 := enters_of Tryz.func96 (by kernel_rfl) (by kernel_rfl)
theorem elim_each4 (A : Option Addr) (n cp : Nat) (rs : List RowM) (hn : n = rs.length) (B : Option Addr) (n2 cq : Nat) (us : List RowM) (hn2 : n2 = us.length) (hn21 : 1 ≤ n2) (ff : FuncId) (lb : List Value) (p5 p7 : Addr) (Gc : List Chunk) (hGc : NoEx Gc) (Φ Ψ : Value → Chunk → Chunk → Prop) (hf : Mut Tryz.prog ff ([(.slice A n cp : Value)] ++ lb).toArray [ow A 22 cp (hdrs rs), rowsCh 3 rs] Gc (two Φ)) (hf2 : Mut Tryz.prog ff ([(.slice B n2 cq : Value)] ++ lb).toArray [ow B 22 cq (hdrs us), rowsCh 3 us] Gc (two Ψ)) (hex : ∀ u c d, Φ u c d → AllEx [c, d]) (hex2 : ∀ u c d, Ψ u c d → AllEx [c, d]) :
  Mut Tryz.prog 96 #[.func (.func ff) #[] lb.toArray, .pointer (some p5), .pointer (some p7)] [ow A 22 cp (hdrs rs), rowsCh 3 rs, ow B 22 cq (hdrs us), rowsCh 3 us] [ro (some p5) [.slice A n cp], ro (some p7) [.slice B n2 cq], bun Gc] (four (fun v ca cb cc cd => v = .tuple #[] ∧ (∃ u, Φ u ca cb) ∧ ∃ u, Ψ u cc cd)) := by
 refine mut_of (args := [.func (.func ff) #[] lb.toArray, .pointer (some p5), .pointer (some p7)]) 13 (F := [ow A 22 cp (hdrs rs), rowsCh 3 rs, ow B 22 cq (hdrs us), rowsCh 3 us, ro (some p5) [.slice A n cp], ro (some p7) [.slice B n2 cq], bun Gc]) rfl Tryz.func96 rfl rfl rfl elim_each4_ent (fun w0 => ?_)
 refine tS ?_
 refine tR fun _ _ _ => ?_
 refine pV ?_
 refine sV (rLd0 rfl rfl) ?_
 refine eV (eCallF2 rfl rfl rfl rfl (hf) ⟨rfl, trivial⟩ ?_ hGc)
 rintro _ _ _ hΦ
 refine tS ?_
 refine tR fun _ _ _ => ?_
 refine sV (rLd0 rfl rfl) ?_
 refine sV (rLen rfl rfl) ?_
 refine pV ?_
 refine tC rfl (fun h1 => ?_) (fun h1 => ?_)
 ·try simp only [zbA] at h1
  refine tR fun _ _ _ => ?_
  refine pV ?_
  refine sV (rLd0 rfl rfl) ?_
  refine eV (eCallF2 rfl rfl rfl rfl (hf2) ⟨rfl, trivial⟩ ?_ hGc)
  rintro _ _ _ hΨ
  exact ⟨trivial, _, _, .nil, ⟨_, _, _, _, rfl, rfl, ⟨_, hΦ⟩, _, hΨ⟩, cs _ _, (hex _ _ _ hΦ).1, (hex _ _ _ hΦ).2.1, hex2 _ _ _ hΨ⟩
 ·try simp only [zbA] at h1
  omega --done
theorem elim_each4V (A : Option Addr) (n cp : Nat) (rs : List RowM) (hn : n = rs.length) (B : Option Addr) (n2 cq : Nat) (us : List RowM) (hn2 : n2 = us.length) (hn21 : 1 ≤ n2) (ff : FuncId) (lb : List Value) (p5 p7 : Addr) (Gc : List Chunk) (hGc : NoEx Gc) (Φ Ψ : Value → Chunk → Chunk → Prop) (hf : Mut Tryz.prog ff ([(.slice A n cp : Value)] ++ lb).toArray [ow A 22 cp (hdrs rs), rowsCh 3 rs] Gc (two Φ)) (hf2 : Mut Tryz.prog ff ([(.slice B n2 cq : Value)] ++ lb).toArray [ow B 22 cq (hdrs us), rowsCh 3 us] Gc (two Ψ)) (hex : ∀ u c d, Φ u c d → AllEx [c, d]) (hex2 : ∀ u c d, Ψ u c d → AllEx [c, d]) :
  Mut Tryz.prog 96 ([(.func (.func ff) #[] lb.toArray : Value)] ++ [(.pointer (some p5) : Value), .pointer (some p7)]).toArray [ow A 22 cp (hdrs rs), rowsCh 3 rs, ow B 22 cq (hdrs us), rowsCh 3 us] [ro (some p5) [.slice A n cp], ro (some p7) [.slice B n2 cq], bun Gc] (four (fun v ca cb cc cd => v = .tuple #[] ∧ (∃ u, Φ u ca cb) ∧ ∃ u, Ψ u cc cd)) :=
 elim_each4 A n cp rs hn B n2 cq us hn2 hn21 ff lb p5 p7 Gc hGc Φ Ψ hf hf2 hex hex2
theorem mat_eliminateB_ent : Enters Tryz.prog 66 := enters_of Tryz.func66 (by kernel_rfl) (by kernel_rfl)
theorem mat_eliminateB (g : GfM) {p m : Int} {mod : List Int} [hF : IsF p m mod] (hg : GOk g p m mod) (w : Int) (hw0 : 0 ≤ w) (hw9 : w ≤ 1000000) (A : Option Addr) (n cp : Nat) (rs : List RowM) (hn : n = rs.length) (hr9 : rs.length ≤ 1000000) (hgd0 : Gd (pw p m) w.toNat rs) (v : Int) (hv0 : 0 ≤ v) (hv9 : v ≤ 1000000) (B : Option Addr) (n2 cq : Nat) (us : List RowM) (hn2 : n2 = us.length) (hul0 : us.length = rs.length) (hug0 : Gd (pw p m) v.toNat us) (hlin0 : LinB (vsR rs : List (Vc (El p m mod))) (vsR rs) (vsR us)) :
  Mut Tryz.prog 66 #[.pointer (some g.p), .slice A n cp, .int .i64 w, .slice B n2 cq] [ow A 22 cp (hdrs rs), rowsCh 3 rs, ow B 22 cq (hdrs us), rowsCh 3 us] [gfR g] (five (fun z ca cb cc cd ce => ∃ rs2 us2 AP cP ps qs d, z = .tuple #[.slice AP ps.length cP, .int .i64 d] ∧ ca = ow A 22 cp (hdrs rs2) ∧ cb = rowsCh 3 rs2 ∧ cc = ow B 22 cq (hdrs us2) ∧ cd = rowsCh 3 us2 ∧ ce = ow AP 3 cP (ints ps) ∧ us2.length = rs.length ∧ Gd (pw p m) v.toNat us2 ∧ LinB (vsR rs : List (Vc (El p m mod))) (vsR rs2) (vsR us2) ∧ ps = qs.map Int.ofNat ∧ rs2.length = rs.length ∧ Gd (pw p m) w.toNat rs2 ∧ qs.length ≤ rs.length ∧ Vc.Rr w.toNat ((vsR rs2 : List (Vc (El p m mod))).take qs.length) qs ∧ ∀ u, Vc.SpL ((vsR rs2 : List (Vc (El p m mod))).take qs.length) u ↔ Vc.SpL (vsR rs) u)) := by
 have hq2 := hF.q2
 refine mut_of (args := [.pointer (some g.p), .slice A n cp, .int .i64 w, .slice B n2 cq]) 125 (F := [ow A 22 cp (hdrs rs), rowsCh 3 rs, ow B 22 cq (hdrs us), rowsCh 3 us, gfR g]) rfl Tryz.func66 rfl rfl rfl mat_eliminateB_ent (fun w0 => ?_)
 refine tS ?_
 refine tR fun _ _ _ => ?_
 refine eV (eBox rfl rfl rfl rfl rfl (fun p0 => ?_))
 refine eV (eBox rfl rfl rfl rfl rfl (fun p0a => ?_))
 refine eV (eBox rfl rfl rfl rfl rfl (fun p0b => ?_))
 iterate 2 refine pV ?_
 refine tS ?_
 refine tR fun _ _ _ => ?_
 refine pV ?_
 refine tS ?_
 refine tR fun _ _ _ => ?_
 refine sV (rFun rfl rfl rfl) ?_
 refine pV ?_
 refine tS ?_
 refine tR fun _ _ _ => ?_
 refine pV ?_
 refine tS ?_
 refine tS ?_
 refine tR fun _ _ _ => ?_
 refine pV ?_
 refine tB ?_
 refine tr_nilI 3 ?_
 refine tr_loop7 (fun (c : Int) (ps : List Int) (AP : Option Addr) (cP : Nat) (r2 : List RowM) (u2 : List RowM) (dd : Int) => [(2, .int .i64 w), (4, .pointer (some p0)), (5, .pointer (some p0a)), (10, .int .i64 dd), (11, .func (.func 96) #[] [.pointer (some p0a), .pointer (some p0b)].toArray), (12, .slice AP ps.length cP), (13, .int .i64 c)]) (fun (c : Int) (ps : List Int) (AP : Option Addr) (cP : Nat) (r2 : List RowM) (u2 : List RowM) (dd : Int) => [ow AP 3 cP (ints ps), ow A 22 cp (hdrs r2), rowsCh 3 r2, ow B 22 cq (hdrs u2), rowsCh 3 u2, blk p0b 25 [.slice B n2 cq], blk p0a 25 [.slice A n cp], blk p0 57 [.pointer (some g.p)], gfR g]) (fun (c : Int) (ps : List Int) (AP : Option Addr) (cP : Nat) (r2 : List RowM) (u2 : List RowM) (dd : Int) => (0 ≤ c ∧ c ≤ w) ∧ (r2.length = rs.length ∧ Gd (pw p m) w.toNat r2 ∧ u2.length = rs.length ∧ Gd (pw p m) v.toNat u2 ∧ LinB (vsR rs : List (Vc (El p m mod))) (vsR r2) (vsR u2)) ∧ ∃ qs, ps = qs.map Int.ofNat ∧ Vc.Eli (Vc.SpL (vsR rs : List (Vc (El p m mod)))) w.toNat (vsR r2) c.toNat qs) (fun (c : Int) (ps : List Int) (AP : Option Addr) (cP : Nat) (r2 : List RowM) (u2 : List RowM) (dd : Int) => (w - c).toNat) (0) ([]) (none) (0) (rs) (us) (1) ⟨rfl, rfl, rfl, rfl, rfl, rfl, rfl, trivial⟩ (by first | exact cs _ _ | exact CSub.refl _) (⟨⟨by omega, by omega⟩, ⟨rfl, hgd0, hul0, hug0, hlin0⟩, [], rfl, Vc.Eli.start fun i j hi hj => by rw [vsR_at, getD_out (by rw [(hgd0.get (by simpa using hi)).1]; omega), el_zero]⟩) (fun c ps AP cP r2 u2 dd hI => ?_)
 obtain ⟨⟨hc0, hc1⟩, ⟨hrl, hgd, hul, hug, hlin⟩, qs, hps, hE⟩ := hI
 have hpl : ps.length = qs.length := by rw [hps, List.length_map]
 have hEl := hE.len
 rw [vsR_length] at hEl
 refine tS ?_
 refine tS ?_
 refine tR fun _ _ _ => ?_
 iterate 4 refine pV ?_
 refine stg rfl rfl rfl rfl rfl (fun hb => by (have hq := hb; try simp only [zbA] at hq); exact rMove rfl rfl) ?_
 refine stg rfl rfl rfl rfl rfl (fun hb => by (have hq := hb; try simp only [zbA] at hq); exact rLen rfl (evg rfl hb)) ?_
 refine stg rfl rfl rfl rfl rfl (fun hb => by (have hq := hb; try simp only [zbA] at hq); exact rLd0 rfl rfl) ?_
 refine stg rfl rfl rfl rfl rfl (fun hb => by (have hq := hb; try simp only [zbA] at hq); exact rLen rfl (evg rfl hb)) ?_
 refine stg rfl rfl rfl rfl rfl (fun hb => by (have hq := hb; try simp only [zbA] at hq); exact rLss rfl (evg rfl hb) (evg rfl hb)) ?_
 refine sV (rAndB rfl rfl rfl rfl) ?_
 refine tC rfl (fun h5 => ?_) (fun h5 => ?_)
 ·try simp only [zbA] at h5
  refine tK ?_
  refine tS ?_
  refine tB ?_
  refine tS ?_
  refine tR fun _ _ _ => ?_
  refine pV ?_
  refine sV (rLen rfl rfl) ?_
  refine eV (eAlloc rfl rfl rfl (fun p7 => ?_))
  refine eV (eSt0 rfl rfl rfl rfl rfl rfl ?_)
  generalize hk : ((ps.length : Nat) : Int) = k
  refine tS ?_
  refine tR fun _ _ _ => ?_
  refine sV (rLd0 rfl rfl) ?_
  refine eV (eAlloc rfl rfl rfl (fun p8 => ?_))
  refine eV (eSt0 rfl rfl rfl rfl rfl rfl ?_)
  refine tS ?_
  refine tB ?_
  refine tr_loop1 (fun (ta : Int) => [(2, .int .i64 w), (4, .pointer (some p0)), (5, .pointer (some p0a)), (10, .int .i64 dd), (11, .func (.func 96) #[] [.pointer (some p0a), .pointer (some p0b)].toArray), (12, .slice AP ps.length cP), (13, .int .i64 c), (14, .pointer (some p7)), (15, .pointer (some p8))]) (fun (ta : Int) => [blk p8 3 [.int .i64 ta], blk p7 3 [.int .i64 k], ow AP 3 cP (ints ps), ow A 22 cp (hdrs r2), rowsCh 3 r2, ow B 22 cq (hdrs u2), rowsCh 3 u2, blk p0b 25 [.slice B n2 cq], blk p0a 25 [.slice A n cp], blk p0 57 [.pointer (some g.p)], gfR g]) (fun (ta : Int) => (k ≤ ta ∧ ta ≤ rs.length) ∧ ∀ i : Nat, k ≤ i → (i : Int) < ta → (r2.getD i rowD).xs.getD c.toNat 0 = 0) (fun (ta : Int) => (rs.length - ta).toNat) (k) ⟨rfl, rfl, rfl, rfl, rfl, rfl, rfl, rfl, rfl, trivial⟩ (by first | exact cs _ _ | exact CSub.refl _) (⟨⟨by omega, by omega⟩, fun i h1 h2 => by omega⟩) (fun ta hI => ?_)
  obtain ⟨⟨ht0, ht1⟩, htz⟩ := hI
  refine tS ?_
  refine tS ?_
  refine tR fun _ _ _ => ?_
  refine sV (rLd0 rfl rfl) ?_
  refine sV (rLd0 rfl rfl) ?_
  refine sV (rLen rfl rfl) ?_
  iterate 2 refine pV ?_
  refine stg rfl rfl rfl rfl rfl (fun hb => by (have hq := hb; try simp only [zbA] at hq); exact rLd0 rfl rfl) ?_
  refine stg rfl rfl rfl rfl rfl (fun hb => by (have hq := hb; try simp only [zbA] at hq); exact rLd0 rfl rfl) ?_
  refine stg rfl rfl rfl rfl rfl (fun hb => by (have hq := hb; try simp only [zbA] at hq); exact rIdxR rfl (evg rfl hb) (evg rfl hb) (by omega) (by omega) (by omega)) ?_
  refine stg rfl rfl rfl rfl rfl (fun hb => by (have hq := hb; try simp only [zbA] at hq); exact rLdR rfl (evg rfl hb) (by omega)) ?_
  refine stg rfl rfl rfl rfl rfl (fun hb => by (have hq := hb; try simp only [zbA] at hq); exact rMove rfl rfl) ?_
  refine stg rfl rfl rfl rfl rfl (fun hb => by (have hq := hb; try simp only [zbA] at hq); exact (haveI : InB ta.toNat r2.length := ⟨by omega⟩; have hw := (hgd.get (show ta.toNat < r2.length by omega)).1; rIdxI rfl (evg rfl hb) (evg rfl hb) (by omega) (by omega) (by omega))) ?_
  refine stg rfl rfl rfl rfl rfl (fun hb => by (have hq := hb; try simp only [zbA] at hq); exact (haveI : InB ta.toNat r2.length := ⟨by omega⟩; have hw := (hgd.get (show ta.toNat < r2.length by omega)).1; rLdI rfl (evg rfl hb) (by omega))) ?_
  refine stg rfl rfl rfl rfl rfl (fun hb => by (have hq := hb; try simp only [zbA] at hq); exact rEql rfl (evg rfl hb) rfl) ?_
  refine sV (rAndB rfl rfl rfl rfl) ?_
  refine tC rfl (fun h9 => ?_) (fun h9 => ?_)
  ·try simp only [zbA] at h9
   refine tK ?_
   refine tB ?_
   refine tR fun _ _ _ => ?_
   refine sV (rLd0 rfl rfl) ?_
   refine sV (rAdd rfl rfl rfl (by omega) (by omega)) ?_
   refine eV (eSt0 rfl rfl rfl rfl rfl rfl ?_)
   refine ⟨ta + 1, ⟨rfl, rfl, rfl, rfl, rfl, rfl, rfl, rfl, rfl, trivial⟩, by first | exact cs _ _ | exact CSub.refl _, ?_⟩
   refine ⟨⟨⟨by omega, by omega⟩, fun i h1 h2 => ?_⟩, by omega⟩
   by_cases he : (i : Int) = ta
   ·have : i = ta.toNat := by omega
    rw [this]; exact h9.2
   ·exact htz i h1 (by omega)
  ·try simp only [zbA] at h9
   refine tE ?_
   refine tS ?_
   refine tS ?_
   refine tR fun _ _ _ => ?_
   refine sV (rLd0 rfl rfl) ?_
   refine sV (rLd0 rfl rfl) ?_
   refine sV (rLen rfl rfl) ?_
   refine pV ?_
   refine tC rfl (fun h11 => ?_) (fun h11 => ?_)
   ·try simp only [zbA] at h11
    refine tE ?_
    refine tR fun _ _ _ => ?_
    refine pV ?_
    refine sV (rAdd rfl rfl rfl (by omega) (by omega)) ?_
    refine pV ?_
    refine ⟨c + 1, ps, AP, cP, r2, u2, dd, ⟨rfl, rfl, rfl, rfl, rfl, rfl, rfl, trivial⟩, by first | exact cs _ _ | exact CSub.refl _, ?_⟩
    refine ⟨⟨⟨by omega, by omega⟩, ⟨hrl, hgd, hul, hug, hlin⟩, qs, hps, ?_⟩, by omega⟩
    rw [show (c + 1).toNat = c.toNat + 1 by omega]
    refine hE.skip fun i h1 h2 => ?_
    rw [vsR_length] at h2
    rw [vsR_at, htz i (by omega) (by omega), el_zero]
   ·try simp only [zbA] at h11
    refine tK ?_
    refine tr_join (fun (q : (List RowM) × (List RowM) × Int) => match q with | (r3, u3, d2) => [(2, .int .i64 w), (4, .pointer (some p0)), (5, .pointer (some p0a)), (10, .int .i64 d2), (11, .func (.func 96) #[] [.pointer (some p0a), .pointer (some p0b)].toArray), (12, .slice AP ps.length cP), (13, .int .i64 c), (14, .pointer (some p7)), (15, .pointer (some p8))]) (fun (q : (List RowM) × (List RowM) × Int) => match q with | (r3, u3, d2) => [blk p8 3 [.int .i64 ta], blk p7 3 [.int .i64 k], ow AP 3 cP (ints ps), ow A 22 cp (hdrs r3), rowsCh 3 r3, ow B 22 cq (hdrs u3), rowsCh 3 u3, blk p0b 25 [.slice B n2 cq], blk p0a 25 [.slice A n cp], blk p0 57 [.pointer (some g.p)], gfR g]) (fun (q : (List RowM) × (List RowM) × Int) => match q with | (r3, u3, d2) => (r3.length = rs.length ∧ Gd (pw p m) w.toNat r3 ∧ u3.length = rs.length ∧ Gd (pw p m) v.toNat u3 ∧ LinB (vsR rs : List (Vc (El p m mod))) (vsR r3) (vsR u3)) ∧ Vc.Eli (Vc.SpL (vsR rs : List (Vc (El p m mod)))) w.toNat (vsR r3) c.toNat qs ∧ (r3.getD k.toNat rowD).xs.getD c.toNat 0 ≠ 0) ?_ ?_
    ·refine tS ?_
     have hne : (r2.getD ta.toNat rowD).xs.getD c.toNat 0 ≠ 0 := h9.resolve_left (fun h => h (by omega))
     have hkq : k.toNat = qs.length := by omega
     refine tR fun _ _ _ => ?_
     refine sV (rLd0 rfl rfl) ?_
     refine sV (rLd0 rfl rfl) ?_
     refine pV ?_
     refine tC rfl (fun h12 => ?_) (fun h12 => ?_)
     ·try simp only [zbA] at h12
      refine tS ?_
      refine tR fun _ _ _ => ?_
      refine pV ?_
      refine sV (rFun rfl rfl rfl) ?_
      refine eV (eCallF4 rfl rfl rfl rfl (elim_each4V A n cp r2 (by omega) B n2 cq u2 (by omega) (by omega) 97 [.pointer (some p8), .pointer (some p7)] p0a p0b [ro (some p8) [.int .i64 ta], ro (some p7) [.int .i64 k]] ⟨id, id, trivial⟩ _ _ (elim_swap A n cp r2 (by omega) p8 p7 ta k (by omega) (by omega)) (elim_swap B n2 cq u2 (by omega) p8 p7 ta k (by omega) (by omega)) (fun _ _ _ h => by obtain ⟨_, rfl, rfl⟩ := h; exact ⟨trivial, trivial, trivial⟩) (fun _ _ _ h => by obtain ⟨_, rfl, rfl⟩ := h; exact ⟨trivial, trivial, trivial⟩)) ⟨rfl, trivial⟩ ?_)
      rintro _ _ _ _ _ ⟨rfl, ⟨_, _, rfl, rfl⟩, _, _, rfl, rfl⟩
      refine tR fun _ _ _ => ?_
      refine sV (rLd0 rfl rfl) ?_
      refine pV ?_
      refine eV (eCallV rfl rfl rfl (gf_NegE g hg _) ⟨rfl, rfl, trivial⟩ ?_)
      refine pV ?_
      refine ⟨((r2.set k.toNat (r2.getD ta.toNat rowD)).set ta.toNat (r2.getD k.toNat rowD), (u2.set k.toNat (u2.getD ta.toNat rowD)).set ta.toNat (u2.getD k.toNat rowD), (-(el dd : El p m mod)).1), ⟨rfl, rfl, rfl, rfl, rfl, rfl, rfl, rfl, rfl, trivial⟩, by first | exact cs _ _ | exact CSub.refl _, ?_⟩
      refine ⟨⟨by simpa using hrl, hgd.perm (swap_perm rowD r2 (by omega) (by omega)), by simpa using hul, hug.perm (swap_perm rowD u2 (by omega) (by omega)), ?_⟩, ?_, ?_⟩
      ·have := hlin.swap (a := ta.toNat) (k := k.toNat) (by rw [vsR_length, vsR_length]; omega) (by rw [vsR_length]; omega) (by rw [vsR_length]; omega)
       rw [vsR_get, vsR_get, vsR_get, vsR_get] at this
       rw [vsR_set, vsR_set, vsR_set, vsR_set]; exact this
      ·have := hE.swap (a := ta.toNat) (by omega) (by rw [vsR_length]; omega)
       rw [← hkq, vsR_get, vsR_get] at this
       rw [vsR_set, vsR_set]; exact this
      ·rw [row_set, if_neg (by omega), row_set, if_pos ⟨rfl, by omega⟩]; exact hne
     ·try simp only [zbA] at h12
      refine tK ?_
      refine ⟨(r2, u2, dd), ⟨rfl, rfl, rfl, rfl, rfl, rfl, rfl, rfl, rfl, trivial⟩, by first | exact cs _ _ | exact CSub.refl _, ?_⟩
      exact ⟨⟨hrl, hgd, hul, hug, hlin⟩, hE, by rw [show k = ta by omega]; exact hne⟩
    ·rintro ⟨r3, u3, d2⟩ hI
     obtain ⟨⟨hrl3, hgd3, hul3, hug3, hlin3⟩, hE3, hne3⟩ := hI
     have hkq : k.toNat = qs.length := by omega
     refine tS ?_
     haveI : InB k.toNat r3.length := ⟨by omega⟩
     have hw3 := hgd3.get (show k.toNat < r3.length by omega)
     have hw3u := hug3.get (show k.toNat < u3.length by omega)
     have hw3u1 := hw3u.1
     have hen := hw3.2.get (by omega) c.toNat
     have hnz3 : (el ((r3.getD k.toNat rowD).xs.getD c.toNat 0) : El p m mod) ≠ 0 := fun e => hne3 ((el_eq_zero hen).1 e)
     have hw31 := hw3.1
     refine tr_draw [0, 1, 2, 3, 4, 5, 6, 7, 8, 9, 10] [] mixed (by kernel_rfl) fun _ _ _ => ?_
     refine sV (rLd0 rfl rfl) ?_
     refine pV ?_
     refine sV (rLd0 rfl rfl) ?_
     refine sV (rLd0 rfl rfl) ?_
     refine sV (rIdxR rfl rfl rfl (by omega) (by omega) (by omega)) ?_
     refine sV (rLdR rfl rfl (by omega)) ?_
     refine pV ?_
     refine sV (rIdxI rfl rfl rfl (by omega) (by omega) (by omega)) ?_
     refine sV (rLdI rfl rfl (by omega)) ?_
     refine eV (eCallV rfl rfl rfl (gf_MulE g hg _ _) ⟨rfl, rfl, rfl, trivial⟩ ?_)
     refine pV ?_
     generalize (el d2 * el ((r3.getD k.toNat rowD).xs.getD c.toNat 0) : El p m mod).1 = d3
     refine tr_join (fun (q : (List RowM) × (List RowM)) => match q with | (r4, u4) => [(2, .int .i64 w), (4, .pointer (some p0)), (5, .pointer (some p0a)), (10, .int .i64 d3), (11, .func (.func 96) #[] [.pointer (some p0a), .pointer (some p0b)].toArray), (12, .slice AP ps.length cP), (13, .int .i64 c), (14, .pointer (some p7))]) (fun (q : (List RowM) × (List RowM)) => match q with | (r4, u4) => [blk p7 3 [.int .i64 k], ow AP 3 cP (ints ps), ow A 22 cp (hdrs r4), rowsCh 3 r4, ow B 22 cq (hdrs u4), rowsCh 3 u4, blk p0b 25 [.slice B n2 cq], blk p0a 25 [.slice A n cp], blk p0 57 [.pointer (some g.p)], gfR g]) (fun (q : (List RowM) × (List RowM)) => match q with | (r4, u4) => (r4.length = rs.length ∧ Gd (pw p m) w.toNat r4 ∧ u4.length = rs.length ∧ Gd (pw p m) v.toNat u4 ∧ LinB (vsR rs : List (Vc (El p m mod))) (vsR r4) (vsR u4)) ∧ Vc.Eli (Vc.SpL (vsR rs : List (Vc (El p m mod)))) w.toNat (vsR r4) c.toNat qs ∧ (r4.getD k.toNat rowD).xs.getD c.toNat 0 = 1) ?_ ?_
     ·refine tr_mid (fun (q : Addr) => match q with | pi => [(2, .int .i64 w), (4, .pointer (some p0)), (5, .pointer (some p0a)), (10, .int .i64 d3), (11, .func (.func 96) #[] [.pointer (some p0a), .pointer (some p0b)].toArray), (12, .slice AP ps.length cP), (13, .int .i64 c), (14, .pointer (some p7)), (15, .pointer (some p8)), (16, .pointer (some pi)), (17, .int .i64 0)]) (fun (q : Addr) => match q with | pi => [blk pi 3 [.int .i64 (Fd.inv (el ((r3.getD k.toNat rowD).xs.getD c.toNat 0) : El p m mod)).1], blk p8 3 [.int .i64 ta], blk p7 3 [.int .i64 k], ow AP 3 cP (ints ps), ow A 22 cp (hdrs r3), rowsCh 3 r3, ow B 22 cq (hdrs u3), rowsCh 3 u3, blk p0b 25 [.slice B n2 cq], blk p0a 25 [.slice A n cp], blk p0 57 [.pointer (some g.p)], gfR g]) ?_ ?_
      ·refine tr_planT [] (.one 0 0 (.one 0 1 (.one 0 2 (.one 0 3 (.one 0 4 (.one 0 5 (.one 0 6 (.one 0 7 (.two 8 (.one 0 9 (.one 0 10 (.one 2 11 (.one 0 12 (.one 1 13 (.one 0 14 .nil)))))) 12 (.one 0 8 (.one 0 9 (.one 0 10 (.one 2 11 (.one 1 13 (.one 0 14 .nil))))))))))))))) mixed (by kernel_rfl) fun _ _ _ => ?_
       refine sV (rLd0 rfl rfl) ?_
       refine sV (rLd0 rfl rfl) ?_
       refine sV (rLd0 rfl rfl) ?_
       refine sV (rIdxR rfl rfl rfl (by omega) (by omega) (by omega)) ?_
       refine sV (rLdR rfl rfl (by omega)) ?_
       refine pV ?_
       refine sV (rIdxI rfl rfl rfl (by omega) (by omega) (by omega)) ?_
       refine sV (rLdI rfl rfl (by omega)) ?_
       refine ⟨?_, ?_⟩
       ·refine eV (eCallV rfl rfl rfl (gf_InvE g hg _ hnz3) ⟨rfl, rfl, trivial⟩ ?_)
        iterate 2 refine pV ?_
        refine stF rfl rfl rfl rfl (cs _ _) (rExt rfl rfl rfl) ?_
        refine eV (eAlloc rfl rfl rfl (fun p16a => ?_))
        refine eV (eSt0 rfl rfl rfl rfl rfl rfl ?_)
        refine ⟨cs _ _, ?_⟩
        refine pV ?_
        exact ⟨rfl, (p16a), ⟨rfl, rfl, rfl, rfl, rfl, rfl, rfl, rfl, rfl, rfl, rfl, trivial⟩, by first | exact cs _ _ | exact CSub.refl _⟩
       ·refine eV (eAlloc rfl rfl rfl (fun p16a => ?_))
        refine eV (eCallV rfl rfl rfl (gf_InvE g hg _ hnz3) ⟨rfl, rfl, trivial⟩ ?_)
        iterate 2 refine pV ?_
        refine stF rfl rfl rfl rfl (cs _ _) (rExt rfl rfl rfl) ?_
        refine eV (eSt0 rfl rfl rfl rfl rfl rfl ?_)
        refine ⟨cs _ _, ?_⟩
        refine pV ?_
        exact ⟨rfl, (p16a), ⟨rfl, rfl, rfl, rfl, rfl, rfl, rfl, rfl, rfl, rfl, rfl, trivial⟩, by first | exact cs _ _ | exact CSub.refl _⟩
      ·rintro pi
       refine tS ?_
       refine tR fun _ _ _ => ?_
       iterate 3 refine pV ?_
       refine stg rfl rfl rfl rfl rfl (fun hb => by (have hq := hb; try simp only [zbA] at hq); exact rLd0 rfl rfl) ?_
       refine stg rfl rfl rfl rfl rfl (fun hb => by (have hq := hb; try simp only [zbA] at hq); exact rNeq rfl (evg rfl hb) rfl) ?_
       refine sV (rAndB rfl rfl rfl rfl) ?_
       refine tC rfl (fun h17 => ?_) (fun h17 => ?_)
       ·try simp only [zbA] at h17
        refine tR fun _ _ _ => ?_
        refine pV ?_
        refine sV (rFun rfl rfl rfl) ?_
        refine eV (eCallF4 rfl rfl rfl rfl (elim_each4V A n cp r3 (by omega) B n2 cq u3 (by omega) (by omega) 101 [.pointer (some p0), .pointer (some pi), .pointer (some p7)] p0a p0b [ro (some p0) [.pointer (some g.p)], ro (some pi) [.int .i64 (Fd.inv (el ((r3.getD k.toNat rowD).xs.getD c.toNat 0) : El p m mod)).1], ro (some p7) [.int .i64 k], gfR g] ⟨id, id, id, id, trivial⟩ _ _ (elim_scale g hg A n cp r3 (by omega) p0 pi p7 _ k (by omega) (by omega)) (elim_scale g hg B n2 cq u3 (by omega) p0 pi p7 _ k (by omega) (by omega)) (fun _ _ _ h => by obtain ⟨_, _, rfl, rfl⟩ := h; exact ⟨trivial, trivial, trivial⟩) (fun _ _ _ h => by obtain ⟨_, _, rfl, rfl⟩ := h; exact ⟨trivial, trivial, trivial⟩)) ⟨rfl, trivial⟩ ?_)
        rintro _ _ _ _ _ ⟨rfl, ⟨_, B18, _, rfl, rfl⟩, _, C18, _, rfl, rfl⟩
        refine ⟨(r3.set k.toNat (⟨B18, (r3.getD k.toNat rowD).xs.length, sclR (el ((Fd.inv (el ((r3.getD k.toNat rowD).xs.getD c.toNat 0) : El p m mod)).1) : El p m mod) (r3.getD k.toNat rowD).xs⟩ : RowM), u3.set k.toNat (⟨C18, (u3.getD k.toNat rowD).xs.length, sclR (el ((Fd.inv (el ((r3.getD k.toNat rowD).xs.getD c.toNat 0) : El p m mod)).1) : El p m mod) (u3.getD k.toNat rowD).xs⟩ : RowM)), ⟨rfl, rfl, rfl, rfl, rfl, rfl, rfl, rfl, trivial⟩, by first | exact cs _ _ | exact CSub.refl _, ?_⟩
        refine ⟨⟨by simpa using hrl3, hgd3.set _ (by simpa using hw3.1) (sclR_in _ _), by simpa using hul3, hug3.set _ (by simpa using hw3u.1) (sclR_in _ _), ?_⟩, ?_, ?_⟩
        ·have := hlin3.scale (by rw [vsR_length, vsR_length]; omega) (k := k.toNat) (by rw [vsR_length]; omega) (Fd.inv (el ((r3.getD k.toNat rowD).xs.getD c.toNat 0) : El p m mod))
         rw [vsR_get, vsR_get] at this
         rw [vsR_set, vsR_set, rw_sclR, rw_sclR, el_of]; exact this
        ·have := hE3.scale (by rw [vsR_length]; omega) (Fd.inv_ne hnz3)
         rw [← hkq, vsR_get] at this
         rw [vsR_set, rw_sclR, el_of]; exact this
        ·rw [row_set, if_pos ⟨rfl, by omega⟩]
         refine (val_of_el (mod := mod) (sclR_in _ _) c.toNat trivial ?_)
         have := congrFun (rw_sclR (el ((Fd.inv (el ((r3.getD k.toNat rowD).xs.getD c.toNat 0) : El p m mod)).1) : El p m mod) (r3.getD k.toNat rowD).xs) c.toNat
         rw [rw_at, Vc.sc_at, rw_at, el_of] at this
         rw [el_of, this]; exact Fd.inv_mul _ hnz3
       ·try simp only [zbA] at h17
        refine tK ?_
        refine ⟨(r3, u3), ⟨rfl, rfl, rfl, rfl, rfl, rfl, rfl, rfl, trivial⟩, by first | exact cs _ _ | exact CSub.refl _, ?_⟩
        refine ⟨⟨hrl3, hgd3, hul3, hug3, hlin3⟩, hE3, ?_⟩
        have hone : ((Fd.inv (el ((r3.getD k.toNat rowD).xs.getD c.toNat 0) : El p m mod)).1) = 1 := by simpa using h17
        refine val_of_el (mod := mod) hw3.2 c.toNat trivial ?_
        have h1 : (Fd.inv (el ((r3.getD k.toNat rowD).xs.getD c.toNat 0) : El p m mod)) = 1 := El.ext hone
        have h2 := Fd.mul_inv _ hnz3
        rw [h1, Rg.mul_one] at h2
        exact h2
     ·rintro ⟨r4, u4⟩ hI
      obtain ⟨⟨hrl4, hgd4, hul4, hug4, hlin4⟩, hE4, hone4⟩ := hI
      refine tS ?_
      refine tS ?_
      refine tR fun _ _ _ => ?_
      refine sV (rLd0 rfl rfl) ?_
      refine sV (rLen rfl rfl) ?_
      refine pV ?_
      refine tB ?_
      refine tr_loop3 (fun (i : Int) (r5 : List RowM) (u5 : List RowM) => [(2, .int .i64 w), (4, .pointer (some p0)), (5, .pointer (some p0a)), (10, .int .i64 d3), (11, .func (.func 96) #[] [.pointer (some p0a), .pointer (some p0b)].toArray), (12, .slice AP ps.length cP), (13, .int .i64 c), (14, .pointer (some p7)), (97, .int .i64 n), (98, .int .i64 i)]) (fun (i : Int) (r5 : List RowM) (u5 : List RowM) => [blk p7 3 [.int .i64 k], ow AP 3 cP (ints ps), ow A 22 cp (hdrs r5), rowsCh 3 r5, ow B 22 cq (hdrs u5), rowsCh 3 u5, blk p0b 25 [.slice B n2 cq], blk p0a 25 [.slice A n cp], blk p0 57 [.pointer (some g.p)], gfR g]) (fun (i : Int) (r5 : List RowM) (u5 : List RowM) => (0 ≤ i ∧ i ≤ n) ∧ (r5.length = rs.length ∧ Gd (pw p m) w.toNat r5 ∧ u5.length = rs.length ∧ Gd (pw p m) v.toNat u5 ∧ LinB (vsR rs : List (Vc (El p m mod))) (vsR r5) (vsR u5)) ∧ Vc.Eli (Vc.SpL (vsR rs : List (Vc (El p m mod)))) w.toNat (vsR r5) c.toNat qs ∧ (r5.getD k.toNat rowD).xs.getD c.toNat 0 = 1 ∧ ∀ t : Nat, (t : Int) < i → t ≠ k.toNat → (r5.getD t rowD).xs.getD c.toNat 0 = 0) (fun (i : Int) (r5 : List RowM) (u5 : List RowM) => (n - i).toNat) (0) (r4) (u4) ⟨rfl, rfl, rfl, rfl, rfl, rfl, rfl, rfl, rfl, rfl, trivial⟩ (by first | exact cs _ _ | exact CSub.refl _) (⟨⟨by omega, by omega⟩, ⟨hrl4, hgd4, hul4, hug4, hlin4⟩, hE4, hone4, fun t h1 h2 => by omega⟩) (fun i r5 u5 hI => ?_)
      obtain ⟨⟨hi0, hi1⟩, ⟨hrl5, hgd5, hul5, hug5, hlin5⟩, hE5, hone5, hz5⟩ := hI
      refine tS ?_
      refine tR fun _ _ _ => ?_
      refine pV ?_
      refine tS ?_
      refine tC rfl (fun h20 => ?_) (fun h20 => ?_)
      ·try simp only [zbA] at h20
       refine tK ?_
       refine tS ?_
       refine tB ?_
       refine tS ?_
       refine tR fun _ _ _ => ?_
       refine pV ?_
       refine eV (eAlloc rfl rfl rfl (fun p21 => ?_))
       refine eV (eSt0 rfl rfl rfl rfl rfl rfl ?_)
       refine tS ?_
       haveI : InB i.toNat r5.length := ⟨by omega⟩
       have hwi := hgd5.get (show i.toNat < r5.length by omega)
       have hwk := hgd5.get (show k.toNat < r5.length by omega)
       have hwi1 := hwi.1
       have hwk1 := hwk.1
       have hui := hug5.get (show i.toNat < u5.length by omega)
       have huk := hug5.get (show k.toNat < u5.length by omega)
       have hui1 := hui.1
       have huk1 := huk.1
       refine tR fun _ _ _ => ?_
       refine sV (rLd0 rfl rfl) ?_
       refine sV (rLd0 rfl rfl) ?_
       refine sV (rIdxR rfl rfl rfl (by omega) (by omega) (by omega)) ?_
       refine sV (rLdR rfl rfl (by omega)) ?_
       refine pV ?_
       refine sV (rIdxI rfl rfl rfl (by omega) (by omega) (by omega)) ?_
       refine sV (rLdI rfl rfl (by omega)) ?_
       refine eV (eAlloc rfl rfl rfl (fun p22 => ?_))
       refine eV (eSt0 rfl rfl rfl rfl rfl rfl ?_)
       refine tS ?_
       refine tR fun _ _ _ => ?_
       refine sV (rLd0 rfl rfl) ?_
       refine sV (rLd0 rfl rfl) ?_
       iterate 2 refine pV ?_
       refine stg rfl rfl rfl rfl rfl (fun hb => by (have hq := hb; try simp only [zbA] at hq); exact rLd0 rfl rfl) ?_
       refine stg rfl rfl rfl rfl rfl (fun hb => by (have hq := hb; try simp only [zbA] at hq); exact rNeq rfl (evg rfl hb) rfl) ?_
       refine sV (rAndB rfl rfl rfl rfl) ?_
       refine tC rfl (fun h23 => ?_) (fun h23 => ?_)
       ·try simp only [zbA] at h23
        refine tR fun _ _ _ => ?_
        refine pV ?_
        refine sV (rFun rfl rfl rfl) ?_
        refine eV (eCallF4 rfl rfl rfl rfl (elim_each4V A n cp r5 (by omega) B n2 cq u5 (by omega) (by omega) 102 [.pointer (some p0), .pointer (some p21), .pointer (some p22), .pointer (some p7)] p0a p0b [ro (some p0) [.pointer (some g.p)], ro (some p21) [.int .i64 i], ro (some p22) [.int .i64 ((r5.getD i.toNat rowD).xs.getD c.toNat 0)], ro (some p7) [.int .i64 k], gfR g] ⟨id, id, id, id, id, trivial⟩ _ _ (elim_add g hg A n cp r5 (by omega) p0 p21 p22 p7 _ i k (by omega) (by omega) (by omega) (by omega) (by omega) hwi.2) (elim_add g hg B n2 cq u5 (by omega) p0 p21 p22 p7 _ i k (by omega) (by omega) (by omega) (by omega) (by omega) hui.2) (fun _ _ _ h => by obtain ⟨_, rfl, rfl⟩ := h; exact ⟨trivial, trivial, trivial⟩) (fun _ _ _ h => by obtain ⟨_, rfl, rfl⟩ := h; exact ⟨trivial, trivial, trivial⟩)) ⟨rfl, trivial⟩ ?_)
        rintro _ _ _ _ _ ⟨rfl, ⟨_, _, rfl, rfl⟩, _, _, rfl, rfl⟩
        refine tR fun _ _ _ => ?_
        refine sV (rAdd rfl rfl rfl (by omega) (by omega)) ?_
        refine pV ?_
        refine ⟨i + 1, r5.set i.toNat (⟨(r5.getD i.toNat rowD).A, (r5.getD i.toNat rowD).cap, addR (-(el ((r5.getD i.toNat rowD).xs.getD c.toNat 0) : El p m mod)) (r5.getD i.toNat rowD).xs (r5.getD k.toNat rowD).xs⟩ : RowM), u5.set i.toNat (⟨(u5.getD i.toNat rowD).A, (u5.getD i.toNat rowD).cap, addR (-(el ((r5.getD i.toNat rowD).xs.getD c.toNat 0) : El p m mod)) (u5.getD i.toNat rowD).xs (u5.getD k.toNat rowD).xs⟩ : RowM), ⟨rfl, rfl, rfl, rfl, rfl, rfl, rfl, rfl, rfl, rfl, trivial⟩, by first | exact cs _ _ | exact CSub.refl _, ?_⟩
        refine ⟨⟨⟨by omega, by omega⟩, ⟨by simpa using hrl5, hgd5.set _ (by simpa using hwi.1) (addR_in _ _ _), by simpa using hul5, hug5.set _ (by simpa using hui.1) (addR_in _ _ _), ?_⟩, ?_, ?_, fun t h1 h2 => ?_⟩, by omega⟩
        ·have := hlin5.plus (by rw [vsR_length, vsR_length]; omega) (i := i.toNat) (k := k.toNat) (by rw [vsR_length]; omega) (by rw [vsR_length]; omega) (-(el ((r5.getD i.toNat rowD).xs.getD c.toNat 0) : El p m mod))
         rw [vsR_get, vsR_get, vsR_get, vsR_get] at this
         rw [vsR_set, vsR_set, rw_addR _ _ _ (by omega), rw_addR _ _ _ (by omega)]; exact this
        ·have := hE5.plus (by rw [vsR_length]; omega) (i := i.toNat) (by rw [vsR_length]; omega) (by omega) (-(el ((r5.getD i.toNat rowD).xs.getD c.toNat 0) : El p m mod))
         rw [← hkq, vsR_get, vsR_get] at this
         rw [vsR_set, rw_addR _ _ _ (by omega)]; exact this
        ·rw [row_set, if_neg (by omega)]; exact hone5
        ·rw [row_set]
         split
         ·rename_i he
          obtain ⟨rfl, he⟩ := he
          show (addR _ _ _).getD c.toNat 0 = 0
          rw [addR_get _ _ _ (by omega), hone5, el_one]
          exact congrArg Subtype.val (show (el ((r5.getD i.toNat rowD).xs.getD c.toNat 0) + -el ((r5.getD i.toNat rowD).xs.getD c.toNat 0) * 1 : El p m mod) = 0 by grind)
         ·exact hz5 t (by omega) h2
       ·try simp only [zbA] at h23
        refine tK ?_
        refine tR fun _ _ _ => ?_
        refine sV (rAdd rfl rfl rfl (by omega) (by omega)) ?_
        refine pV ?_
        refine ⟨i + 1, r5, u5, ⟨rfl, rfl, rfl, rfl, rfl, rfl, rfl, rfl, rfl, rfl, trivial⟩, by first | exact cs _ _ | exact CSub.refl _, ?_⟩
        refine ⟨⟨⟨by omega, by omega⟩, ⟨hrl5, hgd5, hul5, hug5, hlin5⟩, hE5, hone5, fun t h1 h2 => ?_⟩, by omega⟩
        by_cases he : t = i.toNat
        ·subst he
         have h3 : i ≠ k := by omega
         exact h23.resolve_left h3
        ·exact hz5 t (by omega) h2
      ·try simp only [zbA] at h20
       refine tE ?_
       refine tR fun _ _ _ => ?_
       iterate 2 refine pV ?_
       refine eV (eLit1I rfl rfl rfl rfl (fun A26 => ?_))
       refine eV (eAppI rfl rfl rfl rfl rfl (by first | rfl | simp | omega) (by first | rfl | simp | omega) (by first | omega | (simp; omega)) (fun A26a c26a => ?_))
       refine pV ?_
       refine tR fun _ _ _ => ?_
       refine pV ?_
       refine sV (rAdd rfl rfl rfl (by omega) (by omega)) ?_
       refine pV ?_
       refine ⟨c + 1, ps ++ [c], A26a, c26a, r5, u5, d3, ⟨rfl, rfl, rfl, rfl, rfl, rfl, rfl, trivial⟩, by first | exact cs _ _ | exact CSub.refl _, ?_⟩
       refine ⟨⟨⟨by omega, by omega⟩, ⟨hrl5, hgd5, hul5, hug5, hlin5⟩, qs ++ [c.toNat], ?_, ?_⟩, by omega⟩
       ·rw [hps, List.map_append]; simp; omega
       ·rw [show (c + 1).toNat = c.toNat + 1 by omega]
        refine hE5.push (by rw [vsR_length]; omega) ?_ (fun t h1 h2 => ?_)
        ·rw [vsR_at, ← hkq, hone5, el_one]
        ·rw [vsR_length] at h1
         rw [vsR_at, hz5 t (by omega) (by omega), el_zero]
 ·try simp only [zbA] at h5
  refine tE ?_
  refine tS ?_
  refine tR fun _ _ _ => ?_
  iterate 4 refine pV ?_
  obtain ⟨hR1, hR2⟩ := hE.done (by rw [vsR_length]; omega) (by omega)
  exact tr_ret ⟨trivial, _, _, (.tmp rfl (.tmp rfl .nil)), ⟨_, _, _, _, _, rfl, r2, u2, AP, cP, ps, qs, dd, rfl, rfl, rfl, rfl, rfl, rfl, hul, hug, hlin, hps, hrl, hgd, by omega, hR1, hR2⟩, cs _ _, trivial, trivial, trivial, trivial, trivial, trivial⟩
end Go.Proofs.YtfdjdokdabmmdaaGreat

namespace Go.Proofs.YtfdjdokdabmmdaaGreat
open Go.RowKit
def pk2 {α : Type} (k : Int) (a b : α) : α := if k = 0 then a else b
section
variable {P : Program} {N : NB} {M : Nat → Prop} {w0 : World} {L : Fr} {F F' : List Chunk} {K : Fr → List Chunk → Prop} {b : Bool} {o : Oper} {v : Value} {x y : Operand} {t t' e : TypeId} {k : Nat}
theorem rIdxS2 {p : Addr} {n c : Nat} {i : Int} (ho : o.op = .indexAddr t x y) [h : SsTy P t e 2] (hx : ev L x = some (.slice (some p) n c)) (hy : ev L y = some (.int .i64 i)) (h0 : 0 ≤ i) (h1 : i < n) : Stl P N M w0 o L F (.pointer (some (p.add (i.toNat * 2)))) := fun a w hl hm => by
 have h2 : ¬ (i < 0 ∨ (n : Int) ≤ i) := by omega
 simp [execOp, ho, hl.eval hx, hl.eval hy, Instr.indexAt, asIntOf, run_und h.und, h0, h1, run_size1 h.size, Addr.add]
theorem rLdS2 {p : Addr} {i : Int} {u0 u1 u2 u3 : Value} (ho : o.op = .load t x) [h : AgTy P t 2] (hx : ev L x = some (.pointer (some (p.add (i.toNat * 2))))) [hr : Rd F (some p) [u0, u1, u2, u3]] (h0 : 0 ≤ i) (h1 : i < 2) : Stl P N M w0 o L F (.agg #[pk2 i u0 u2, pk2 i u1 u3]) := by
 by_cases he : i = 0
 ·subst he
  haveI : SubL [u0, u1, u2, u3] 0 2 [u0, u1] := inferInstance
  exact rLdSF (j := 0) ho hx
 ·have e1 : i = 1 := by omega
  subst e1
  haveI : SubL [u0, u1, u2, u3] 2 2 [u2, u3] := inferInstance
  exact rLdSF (j := 2) ho hx
theorem run_litS2 (w : World) {v v' u0 u1 u2 u3 : Value} {z0 z1 : Value} (h : SsTy P t e 2) (hz : ZrTy P e [z0, z1]) (hv : v.cells = #[u0, u1]) (hv' : v'.cells = #[u2, u3]) :
  (Instr.buildSlice t 2 #[(0, v), (1, v')]).run P w = .ok (.slice (some ⟨w.heap.size, 0, none⟩) 2 2) (w.alloc (.cells #[u0, u1, u2, u3] e)) := by
 obtain ⟨z, hz1, hz2⟩ := hz.zr
 have hzz : (zeroValue e).run P w = .ok z w := by
  cases hi : P.info? e with
  | none => simp [hi] at hz1
  | some i =>
   simp [hi] at hz1
   simp [zeroValue, typeInfo, hi, hz1]
 have hsz := run_size1 h.size w
 unfold Instr.buildSlice
 simp only [Sem.run_bind, run_und h.und, Result.andThen_ok, hsz]
 simp [newRow, newObj, Sem.run, Instr.fill, hzz, hz2, hv, hv', Array.range_succ, range0]
theorem eLitS2 {u0 u1 u2 u3 z0 z1 : Value} (ho : o.op = .buildSlice t 2 #[(0, x), (1, y)]) {d : Nat} (hdd : o.dst = some d) (hd : Nat.ble (d + 1) N.n = true) [h : SsTy P t e 2] [hz : ZrTy P e [z0, z1]] (hx : ev L x = some (.agg #[u0, u1])) (hy : ev L y = some (.agg #[u2, u3])) (hK : ∀ p : Addr, K (addL d (.slice (some p) 2 2) L) (blk p e [u0, u1, u2, u3] :: F)) : Eff P N M w0 b o L F K := eff_value hdd hd fun a w hl hm => by
 have h1 := run_litS2 (P := P) (t := t) (v := .agg #[u0, u1]) (v' := .agg #[u2, u3]) (u0 := u0) (u1 := u1) (u2 := u2) (u3 := u3) w h hz rfl rfl
 refine ⟨.slice (some ⟨w.heap.size, 0, none⟩) 2 2, w.alloc (.cells #[u0, u1, u2, u3] e), ?_, alloc_ext w _, _, hm.add (G := [blk ⟨w.heap.size, 0, none⟩ e [u0, u1, u2, u3]]) (alloc_ext w _) (fun c hc => ?_) (List.pairwise_singleton _ _), hK _⟩
 ·simp only [execOp, ho, Sem.run_bind]
  simp [hl.eval hx, hl.eval hy, h1]
 ·simp only [List.mem_singleton] at hc
  subst hc
  exact ⟨newBlk w e [u0, u1, u2, u3], fun b hb => by simp only [blk] at hb; omega⟩
theorem rLdRs {A rA : Option Addr} {j cap : Nat} {rs : List RowM} {xs : List Int} {n : Nat} (ho : o.op = .load t x) [h : ScTy P t] (hx : ev L x = some (.pointer (some ((A.getD a0).add j)))) [hr : Rd F A (hdrs (rs.set j ⟨rA, cap, xs⟩))] (hj : j < rs.length) (hn : xs.length = n) : Stl P N M w0 o L F (.slice rA n cap) := by
 have h1 := rLdR (P := P) (w0 := w0) (M := M) (N := N) ho (h := h) hx (hr := hr) (by rw [List.length_set]; exact hj)
 have e : (rs.set j ⟨rA, cap, xs⟩).getD j rowD = ⟨rA, cap, xs⟩ := by rw [List.getD_eq_getElem?_getD, List.getElem?_set, if_pos rfl, if_pos hj]; rfl
 rw [e] at h1
 subst hn
 exact h1
end
end Go.Proofs.YtfdjdokdabmmdaaGreat

set_option maxRecDepth 100000
namespace Go.Proofs.YtfdjdokdabmmdaaGreat
open Go.RowKit
def unR (n j : Nat) : List Int := (List.replicate n 0).set j 1
theorem unR_length (n j : Nat) : (unR n j).length = n := by simp [unR]
theorem unR_getD {n j : Nat} (h : j < n) (i : Nat) : (unR n j).getD i 0 = if i = j then 1 else 0 := by
 unfold unR
 rw [getD_set]
 by_cases e : i = j
 ·rw [if_pos ⟨e.symm, by simp; omega⟩, if_pos e]
 ·rw [if_neg (fun h => e h.1.symm), if_neg e, List.getD_eq_getElem?_getD, List.getElem?_replicate]; split <;> rfl
theorem unit_put {A5 A1 : Option Addr} {n k : Nat} {qs : List RowM} (hk : k < qs.length) : CSub [rowsCh 3 qs, ow A5 3 n (ints (unR n k)), ow A1 22 n (hdrs (qs.set k ⟨A5, n, List.replicate n 0⟩))] [ow A1 22 n (hdrs (qs.set k ⟨A5, n, unR n k⟩)), rowsCh 3 (qs.set k ⟨A5, n, unR n k⟩)] := by
 have e : hdrs (qs.set k ⟨A5, n, List.replicate n 0⟩) = hdrs (qs.set k ⟨A5, n, unR n k⟩) := by
  rw [hdrs_set, hdrs_set]
  simp [unR, RowM.hdr]
 rw [e]
 exact (rows_put (r := ⟨A5, n, unR n k⟩) hk _).trans (CSub.perm (List.Perm.swap ..))
theorem unR_in {q : Int} (hq : 2 ≤ q) (n j : Nat) : AllIn q (unR n j) := fun x hx => by
 rcases List.mem_or_eq_of_mem_set hx with h | h
 ·rw [List.eq_of_mem_replicate h]; omega
 ·omega
theorem row_app (qs : List RowM) (r : RowM) (j : Nat) : (qs ++ [r]).getD j rowD = if j < qs.length then qs.getD j rowD else if j = qs.length then r else rowD := by
 rw [List.getD_eq_getElem?_getD, List.getElem?_append]
 by_cases h : j < qs.length
 ·rw [if_pos h, if_pos h, List.getD_eq_getElem?_getD]
 ·rw [if_neg h, if_neg h]
  by_cases e : j = qs.length
  ·rw [if_pos e, e, Nat.sub_self]; rfl
  ·rw [if_neg e, List.getElem?_eq_none (by simp; omega)]; rfl
section
variable {K : Type} [Fd K]
theorem rr_id {n : Nat} {R : List (Vc K)} {qs : List Nat} (h : Vc.Rr n R qs) (hl : qs.length = n) : ∀ j, j < n → qs.getD j 0 = j := by
 have h1 : ∀ j, j < n → j ≤ qs.getD j 0 := fun j => by
  induction j with
  | zero => exact fun _ => Nat.zero_le _
  | succ j ih =>
   intro hj
   have := ih (by omega)
   have := h.rise j (j + 1) (by omega) (by omega)
   omega
 have h2 : ∀ d j, j + d + 1 = n → qs.getD j 0 ≤ j := fun d => by
  induction d with
  | zero => exact fun j hj => by have := h.lt j (by omega); omega
  | succ d ih =>
   intro j hj
   have := ih (j + 1) (by omega)
   have := h.rise j (j + 1) (by omega) (by omega)
   omega
 intro j hj
 have := h1 j hj
 have := h2 (n - 1 - j) j (by omega)
 omega
end
theorem unit_lin {p m : Int} {mod : List Int} [hF : IsF p m mod] (hq : 2 ≤ pw p m) {n : Nat} {vs us : List RowM} (hv : vs.length = n) (hl : us.length = n) (hu : ∀ j : Nat, j < n → (us.getD j rowD).xs = unR n j) : LinB (vsR vs : List (Vc (El p m mod))) (vsR vs) (vsR us) := fun j hj => by
 rw [vsR_length] at hj
 have e := Vc.cmb_unit (0 : Vc (El p m mod)) (vsR vs) j (by rw [vsR_length]; exact hj)
 rw [← e]
 refine Vc.cmb_congr fun i _ => ?_
 show (vsR us : List (Vc (El p m mod))).getD j 0 i = _
 rw [vsR_at, hu j (by omega), unR_getD (by omega)]
 by_cases h : i = j
 ·rw [if_pos h, if_pos h, el_one]
 ·rw [if_neg h, if_neg h, el_zero]
theorem mat_unit_ent : Enters Tryz.prog 65 := enters_of Tryz.func65 (by kernel_rfl) (by kernel_rfl)
theorem mat_unit (n : Nat) (hn9 : n ≤ 1000000) :
  Pure Tryz.prog 65 #[.int .i64 n] [] (two (fun v ca cb => ∃ B rs, v = .slice B n n ∧ ca = ow B 22 n (hdrs rs) ∧ cb = rowsCh 3 rs ∧ rs.length = n ∧ ∀ j : Nat, j < n → (rs.getD j rowD).xs = unR n j)) := by
 refine pure_of (args := [.int .i64 n]) 25 Tryz.func65 rfl rfl rfl mat_unit_ent trivial (fun w0 => ?_)
 refine tS ?_
 refine tR fun _ _ _ => ?_
 refine pV ?_
 refine tS ?_
 refine tR fun _ _ _ => ?_
 refine pV ?_
 refine eV (eMake rfl rfl rfl rfl rfl (by omega) (by omega) (by omega) (fun A1 => ?_))
 refine pV ?_
 rw [Int.toNat_natCast, hdrs_rep]
 refine tS ?_
 refine tS ?_
 refine tR fun _ _ _ => ?_
 refine pV ?_
 refine sV (rLen rfl rfl) ?_
 refine pV ?_
 refine tB ?_
 refine tr_loop2 (fun (k : Int) (qs : List RowM) => [(3, .slice A1 n n), (9, .int .i64 k), (0, .int .i64 n), (2, .slice none 0 0), (8, .int .i64 n)]) (fun (k : Int) (qs : List RowM) => [ow A1 22 n (hdrs qs), rowsCh 3 qs]) (fun (k : Int) (qs : List RowM) => (0 ≤ k ∧ k ≤ n) ∧ qs.length = n ∧ ∀ j : Nat, (j : Int) < k → (qs.getD j rowD).xs = unR n j) (fun (k : Int) (qs : List RowM) => (n - k).toNat) (0) (List.replicate n rowD) ⟨rfl, rfl, rfl, rfl, rfl, trivial⟩ (by exact (rows_rep 3 _ n).trans (cs _ _)) (⟨⟨by omega, by omega⟩, by simp, fun j hj => by omega⟩) (fun k qs hI => ?_)
 obtain ⟨⟨hk0, hk1⟩, hql, hq⟩ := hI
 refine tS ?_
 refine tR fun _ _ _ => ?_
 refine pV ?_
 refine tS ?_
 refine tC rfl (fun h3 => ?_) (fun h3 => ?_)
 ·try simp only [zbA] at h3
  refine tK ?_
  refine tS ?_
  refine tB ?_
  refine tS ?_
  refine tR fun _ _ _ => ?_
  iterate 2 refine pV ?_
  refine tS ?_
  refine tR fun _ _ _ => ?_
  iterate 3 refine pV ?_
  refine eV (eMakeI rfl rfl rfl rfl rfl (by omega) (by omega) (by omega) (fun A5 => ?_))
  simp only [Int.toNat_natCast]
  refine sV (rIdxR rfl rfl rfl (by omega) (by omega) (by omega)) ?_
  refine eV (eSt rfl rfl rfl rfl (by first | omega | (simp; omega)) rfl rfl ?_)
  have e5 : (hdrs qs).set k.toNat (.slice A5 n n) = hdrs (qs.set k.toNat ⟨A5, n, (List.replicate n 0)⟩) := by rw [hdrs_set]; simp [RowM.hdr]
  rw [e5]
  have hls : (qs.set k.toNat ⟨A5, n, (List.replicate n 0)⟩).length = qs.length := List.length_set ..
  have hrl : (List.replicate n (0 : Int)).length = n := List.length_replicate
  refine tR fun _ _ _ => ?_
  iterate 2 refine pV ?_
  refine sV (rIdxR rfl rfl rfl (by omega) (by omega) (by omega)) ?_
  refine sV (rLdRs rfl rfl (by omega) List.length_replicate) ?_
  refine pV ?_
  refine sV (rIdxI rfl rfl rfl (by omega) (by omega) (by omega)) ?_
  refine eV (eStI rfl rfl rfl rfl (by omega) ?_)
  refine tR fun _ _ _ => ?_
  refine sV (rAdd rfl rfl rfl (by omega) (by omega)) ?_
  refine pV ?_
  refine ⟨k + 1, qs.set k.toNat ⟨A5, n, unR n k.toNat⟩, ⟨rfl, rfl, rfl, rfl, rfl, trivial⟩, by exact (cs _ [rowsCh 3 qs, ow A5 3 n (ints ((List.replicate n 0).set k.toNat 1)), ow A1 22 n (hdrs (qs.set k.toNat ⟨A5, n, (List.replicate n 0)⟩))]).trans (unit_put (by omega)), ?_⟩
  refine ⟨⟨⟨by omega, by omega⟩, by simpa using hql, fun j hj => ?_⟩, by omega⟩
  rw [row_set]
  by_cases he : k.toNat = j
  ·subst he; rw [if_pos ⟨rfl, by omega⟩]
  ·rw [if_neg (fun e => he e.1)]; exact hq j (by omega)
 ·try simp only [zbA] at h3
  refine tE ?_
  refine tS ?_
  refine tR fun _ _ _ => ?_
  iterate 2 refine pV ?_
  exact tr_ret ⟨trivial, _, _, rfl, ⟨_, _, rfl, A1, qs, rfl, rfl, rfl, hql, fun j hj => hq j (by omega)⟩, cs _ _, trivial, trivial, trivial⟩
theorem mat_vec_ent : Enters Tryz.prog 68 := enters_of Tryz.func68 (by kernel_rfl) (by kernel_rfl)
theorem mat_vec (g : GfM) {p m : Int} {mod : List Int} [hF : IsF p m mod] (hg : GOk g p m mod) (w : Int) (hw0 : 0 ≤ w) (hw9 : w ≤ 1000) (Aa : Option Addr) (n ca : Nat) (rs : List RowM) (hn : n = rs.length) (X : Option Addr) (nx cx : Nat) (x : List Int) (hnx : nx = x.length) (hx : x.length = rs.length) (h9 : rs.length ≤ 1000000) (hgd : Gd (pw p m) w.toNat rs) :
  Pure Tryz.prog 68 #[.pointer (some g.p), .slice X nx cx, .slice Aa n ca, .int .i64 w] [gfR g, ro X (ints x), ro Aa (hdrs rs), rowsR rs] (one (fun v ch => ∃ B cb o, v = .slice B o.length cb ∧ ch = ow B 3 cb (ints o) ∧ (o.length : Int) = w ∧ AllIn (pw p m) o ∧ (rw' o : Vc (El p m mod)) = Vc.cmb (fun i => el (x.getD i 0)) (vsR rs))) := by
 have hq2 := hF.q2
 refine pure_of (args := [.pointer (some g.p), .slice X nx cx, .slice Aa n ca, .int .i64 w]) 33 Tryz.func68 rfl rfl rfl mat_vec_ent ⟨id, id, id, id, trivial⟩ (fun w0 => ?_)
 refine tS ?_
 refine tR fun _ _ _ => ?_
 refine pV ?_
 refine tS ?_
 refine tR fun _ _ _ => ?_
 refine pV ?_
 refine eV (eMakeI rfl rfl rfl rfl rfl (by omega) (by omega) (by omega) (fun A1 => ?_))
 refine pV ?_
 refine tS ?_
 refine tS ?_
 refine tR fun _ _ _ => ?_
 refine pV ?_
 refine sV (rLen rfl rfl) ?_
 refine pV ?_
 refine tB ?_
 refine tr_loop5 (fun (k : Int) (B : Option Addr) (cb : Nat) (no : Nat) (o : List Int) => [(9, .slice B no cb), (16, .int .i64 k), (14, .slice X nx cx), (15, .int .i64 nx), (0, .pointer (some g.p)), (2, .slice Aa n ca), (8, .slice none 0 0)]) (fun (k : Int) (B : Option Addr) (cb : Nat) (no : Nat) (o : List Int) => [ow B 3 cb (ints o), gfR g, ro X (ints x), ro Aa (hdrs rs), rowsR rs]) (fun (k : Int) (B : Option Addr) (cb : Nat) (no : Nat) (o : List Int) => (0 ≤ k ∧ k ≤ nx) ∧ no = o.length ∧ ((o.length : Int) = w ∧ AllIn (pw p m) o) ∧ (rw' o : Vc (El p m mod)) = Vc.cmb (Vc.upC (fun i => (el (x.getD i 0) : El p m mod)) k.toNat) (vsR rs)) (fun (k : Int) (B : Option Addr) (cb : Nat) (no : Nat) (o : List Int) => (nx - k).toNat) (0) (A1) (w.toNat) (w.toNat) (List.replicate w.toNat 0) ⟨rfl, rfl, rfl, rfl, rfl, rfl, rfl, trivial⟩ (by first | exact cs _ _ | exact CSub.refl _) (⟨⟨by omega, by omega⟩, by simp, ⟨by simp; omega, allIn_rep (by omega) _⟩, by rw [Int.toNat_zero, Vc.cmb_up_zero]; exact Vc.ext fun j => by rw [rw_at, rep_get, el_zero]; rfl⟩) (fun k B cb no o hI => ?_)
 obtain ⟨⟨hk0, hk1⟩, hno, ⟨hol, hoi⟩, hoe⟩ := hI
 refine tS ?_
 refine tR fun _ _ _ => ?_
 refine pV ?_
 refine tS ?_
 refine tC rfl (fun h3 => ?_) (fun h3 => ?_)
 ·try simp only [zbA] at h3
  refine tK ?_
  refine tS ?_
  refine tB ?_
  refine tS ?_
  haveI : InB k.toNat rs.length := ⟨by omega⟩
  have hgk := hgd.get (show k.toNat < rs.length by omega)
  have hgk1 := hgk.1
  subst hno
  refine tR fun _ _ _ => ?_
  refine pV ?_
  refine sV (rIdxI rfl rfl rfl (by omega) (by omega) (by omega)) ?_
  refine sV (rLdI rfl rfl (by omega)) ?_
  iterate 2 refine pV ?_
  refine tS ?_
  refine tR fun _ _ _ => ?_
  iterate 2 refine pV ?_
  refine tC rfl (fun h5 => ?_) (fun h5 => ?_)
  ·try simp only [zbA] at h5
   refine tR fun _ _ _ => ?_
   iterate 5 refine pV ?_
   refine sV (rIdxR rfl rfl rfl (by omega) (by omega) (by omega)) ?_
   refine sV (rLdR rfl rfl (by omega)) ?_
   refine eV (eCallM1 rfl rfl rfl (mat_add g hg B cb o (x.getD k.toNat 0) (rs.getD k.toNat rowD).A (rs.getD k.toNat rowD).cap (rs.getD k.toNat rowD).xs (by omega) (by omega) hoi) ⟨rfl, rfl, rfl, rfl, trivial⟩ ?_)
   rintro _ _ ⟨rfl, rfl⟩
   refine tR fun _ _ _ => ?_
   refine sV (rAdd rfl rfl rfl (by omega) (by omega)) ?_
   refine pV ?_
   refine ⟨k + 1, B, cb, o.length, addR (el (x.getD k.toNat 0) : El p m mod) o (rs.getD k.toNat rowD).xs, ⟨rfl, rfl, rfl, rfl, rfl, rfl, rfl, trivial⟩, by first | exact cs _ _ | exact CSub.refl _, ?_⟩
   refine ⟨⟨⟨by omega, by omega⟩, by simp, ⟨by simpa using hol, addR_in _ _ _⟩, ?_⟩, by omega⟩
   rw [show (k + 1).toNat = k.toNat + 1 by omega, Vc.cmb_up_succ _ (by rw [vsR_length]; omega), rw_addR _ _ _ (by omega), hoe, vsR_get]
  ·try simp only [zbA] at h5
   refine tK ?_
   refine tR fun _ _ _ => ?_
   refine sV (rAdd rfl rfl rfl (by omega) (by omega)) ?_
   refine pV ?_
   refine ⟨k + 1, B, cb, o.length, o, ⟨rfl, rfl, rfl, rfl, rfl, rfl, rfl, trivial⟩, by first | exact cs _ _ | exact CSub.refl _, ?_⟩
   have hz : x.getD k.toNat 0 = 0 := by omega
   refine ⟨⟨⟨by omega, by omega⟩, rfl, ⟨hol, hoi⟩, ?_⟩, by omega⟩
   rw [show (k + 1).toNat = k.toNat + 1 by omega, Vc.cmb_up_succ _ (by rw [vsR_length]; omega), hoe, hz, el_zero, Vc.zero_sc, Vc.add_zero]
 ·try simp only [zbA] at h3
  refine tE ?_
  refine tS ?_
  refine tR fun _ _ _ => ?_
  iterate 2 refine pV ?_
  have hkn : k.toNat = rs.length := by omega
  rw [hkn, Vc.cmb_up_all _ (by rw [vsR_length]; omega)] at hoe
  subst hno
  exact tr_ret ⟨trivial, _, _, rfl, ⟨_, rfl, B, cb, o, rfl, rfl, hol, hoi, hoe⟩, cs _ _, trivial, trivial⟩
theorem gd_row {p m w : Int} {rs : List RowM} (h0 : 0 ≤ w) (h1 : w ≤ 256) (h2 : rs.length ≤ 256) (h : Gd (pw p m) w.toNat rs) : rowsC (pw p m) w (xss rs) = 0 := rowsC_gd h0 h1 h2 h
theorem mat_Vec_ent : Enters Tryz.prog 39 := enters_of Tryz.func39 (by kernel_rfl) (by kernel_rfl)
theorem mat_Vec (p m : Int) (A : Option Addr) (c : Nat) (mod : List Int) [hF : IsF p m mod] (w : Int) (hw0 : 0 ≤ w) (hw9 : w ≤ 256) (Aa : Option Addr) (n ca : Nat) (rs : List RowM) (hn : n = rs.length) (X : Option Addr) (nx cx : Nat) (x : List Int) (hnx : nx = x.length) (hx : x.length = rs.length) (hxi : AllIn (pw p m) x) (h9 : rs.length ≤ 256) (hgd : Gd (pw p m) w.toNat rs) :
  Pure Tryz.prog 39 #[.agg #[.int .i64 p, .int .i64 m, .slice A mod.length c], .slice X nx cx, .agg #[.int .i64 w, .slice Aa n ca]] [ro A (ints mod), ro Aa (hdrs rs), rowsR rs, ro X (ints x)] (one (fun v ch => ∃ B cb o, v = .tuple #[.slice B o.length cb, .int .i64 0] ∧ ch = ow B 3 cb (ints o) ∧ (o.length : Int) = w ∧ AllIn (pw p m) o ∧ (rw' o : Vc (El p m mod)) = Vc.cmb (fun i => el (x.getD i 0)) (vsR rs))) := by
 have hrow := gd_row hw0 hw9 h9 hgd
 have h8 := hgd.h8 (N := 17592186044415) (by omega)
 have hml := hF.short
 refine pure_of (args := [.agg #[.int .i64 p, .int .i64 m, .slice A mod.length c], .slice X nx cx, .agg #[.int .i64 w, .slice Aa n ca]]) 40 Tryz.func39 rfl rfl rfl mat_Vec_ent ⟨id, id, id, id, trivial⟩ (fun w0 => ?_)
 refine tS ?_
 refine tR fun _ _ _ => ?_
 refine eV (eBox rfl rfl rfl rfl rfl (fun p0 => ?_))
 refine eV (eBox rfl rfl rfl rfl rfl (fun p0a => ?_))
 iterate 2 refine pV ?_
 refine tS ?_
 refine tR fun _ _ _ => ?_
 refine sV (rLdS rfl rfl rfl) ?_
 refine sV (rLdS rfl rfl rfl) ?_
 refine eV (eLitS rfl rfl rfl rfl (fun p1 => ?_))
 refine eV (eCall1 rfl rfl rfl (mat_openG _ _ _ _ _ (by omega) _ _ w Aa _ ca rs hn (by omega) h8 hrow) ⟨rfl, rfl, trivial⟩ ?_)
 rintro _ _ ⟨g, rfl, rfl, hg⟩
 iterate 5 refine pV ?_
 refine tS ?_
 refine tS ?_
 refine tR fun _ _ _ => ?_
 iterate 2 refine pV ?_
 refine tC rfl (fun h2 => ?_) (fun h2 => ?_)
 ·try simp only [zbA] at h2
  first | exact absurd trivial h2 | exact absurd rfl h2 | omega | (exact absurd h2 (by simp)) --done
 ·try simp only [zbA] at h2
  refine tK ?_
  refine tS ?_
  refine tS ?_
  refine tR fun _ _ _ => ?_
  refine pV ?_
  refine sV (rLen rfl rfl) ?_
  refine sV (rFld rfl rfl) ?_
  refine sV (rLdF rfl rfl rfl) ?_
  refine sV (rLen rfl rfl) ?_
  refine pV ?_
  refine tC rfl (fun h4 => ?_) (fun h4 => ?_)
  ·try simp only [zbA] at h4
   omega --done
  ·try simp only [zbA] at h4
   refine tK ?_
   refine tS ?_
   refine tS ?_
   refine tR fun _ _ _ => ?_
   iterate 2 refine pV ?_
   refine eV (eCallV rfl rfl rfl (mat_entries g hg X _ _ x hnx (by omega) hxi) ⟨rfl, rfl, trivial⟩ ?_)
   refine pV ?_
   refine tS ?_
   refine tR fun _ _ _ => ?_
   iterate 2 refine pV ?_
   refine tC rfl (fun h7 => ?_) (fun h7 => ?_)
   ·try simp only [zbA] at h7
    first | exact absurd trivial h7 | exact absurd rfl h7 | omega | (exact absurd h7 (by simp)) --done
   ·try simp only [zbA] at h7
    refine tK ?_
    refine tS ?_
    refine tR fun _ _ _ => ?_
    iterate 2 refine pV ?_
    refine sV (rFld rfl rfl) ?_
    refine sV (rLdF rfl rfl rfl) ?_
    refine sV (rFld rfl rfl) ?_
    refine sV (rLdF rfl rfl rfl) ?_
    refine eV (eCall1 rfl rfl rfl (mat_vec g hg w hw0 (by omega) Aa _ ca rs hn X _ _ x hnx hx (by omega) hgd) ⟨rfl, rfl, rfl, rfl, trivial⟩ ?_)
    rintro _ _ ⟨Bo, cb, o, rfl, rfl, hol, hoi, hoe⟩
    iterate 2 refine pV ?_
    exact tr_ret ⟨trivial, _, _, rfl, ⟨_, rfl, Bo, cb, o, rfl, rfl, hol, hoi, hoe⟩, cs _ _, trivial, trivial⟩
theorem mat_check2 (g : GfM) (q : Int) (hq : g.q = q) (k : Int) (w : Int) (Aa : Option Addr) (n ca : Nat) (rs : List RowM) (hn : n = rs.length) (h9 : rs.length ≤ 17592186044415) (h8 : ∀ r ∈ rs, r.xs.length ≤ 17592186044415) (w2 : Int) (Ab : Option Addr) (n2 cb : Nat) (rs2 : List RowM) (hn2 : n2 = rs2.length) (h92 : rs2.length ≤ 17592186044415) (h82 : ∀ r ∈ rs2, r.xs.length ≤ 17592186044415) (hE : rowsC q w (xss rs) = 0) (hE2 : rowsC q w2 (xss rs2) = 0) :
  Pure Tryz.prog 95 #[.pointer (some g.p), .agg #[pk2 k (.int .i64 w) (.int .i64 w2), pk2 k (.slice Aa n ca) (.slice Ab n2 cb)]] [gfR g, ro Aa (hdrs rs), rowsR rs, ro Ab (hdrs rs2), rowsR rs2] (isV (.int .i64 0)) := by
 by_cases e : k = 0
 ·have h := mat_checkC g q hq w Aa n ca rs hn h9 h8
  rw [hE] at h
  have e1 : ∀ {α : Type} (a b : α), pk2 k a b = a := fun a b => if_pos e
  rw [e1, e1]
  exact Pure.anyG h fun w hw c hc => hw c (by simp only [List.mem_cons, List.not_mem_nil, or_false] at hc ⊢; rcases hc with h | h | h <;> simp [h])
 ·have h := mat_checkC g q hq w2 Ab n2 cb rs2 hn2 h92 h82
  rw [hE2] at h
  have e1 : ∀ {α : Type} (a b : α), pk2 k a b = b := fun a b => if_neg e
  rw [e1, e1]
  exact Pure.anyG h fun w hw c hc => hw c (by simp only [List.mem_cons, List.not_mem_nil, or_false] at hc ⊢; rcases hc with h | h | h <;> simp [h])
theorem mat_openG2_ent : Enters Tryz.prog 64 := enters_of Tryz.func64 (by kernel_rfl) (by kernel_rfl)
theorem mat_openG2 (p m : Int) (A : Option Addr) (c : Nat) (mod : List Int) (hl9 : mod.length ≤ 17592186044415) [hF : IsF p m mod] (pl : Addr) (cl : Nat) (w : Int) (Aa : Option Addr) (n ca : Nat) (rs : List RowM) (hn : n = rs.length) (h9 : rs.length ≤ 17592186044415) (h8 : ∀ r ∈ rs, r.xs.length ≤ 17592186044415) (w2 : Int) (Ab : Option Addr) (n2 cb : Nat) (rs2 : List RowM) (hn2 : n2 = rs2.length) (h92 : rs2.length ≤ 17592186044415) (h82 : ∀ r ∈ rs2, r.xs.length ≤ 17592186044415) (hE : rowsC (pw p m) w (xss rs) = 0) (hE2 : rowsC (pw p m) w2 (xss rs2) = 0) :
  Pure Tryz.prog 64 #[.agg #[.int .i64 p, .int .i64 m, .slice A mod.length c], .slice (some pl) 2 cl] [ro A (ints mod), ro (some pl) [.int .i64 w, .slice Aa n ca, .int .i64 w2, .slice Ab n2 cb], ro Aa (hdrs rs), rowsR rs, ro Ab (hdrs rs2), rowsR rs2] (one (fun v ch => ∃ g : GfM, v = .tuple #[.pointer (some g.p), .int .i64 0] ∧ ch = gfN g ∧ GOk g p m mod)) := by
 refine pure_of (args := [.agg #[.int .i64 p, .int .i64 m, .slice A mod.length c], .slice (some pl) 2 cl]) 32 Tryz.func64 rfl rfl rfl mat_openG2_ent ⟨id, id, id, id, id, id, trivial⟩ (fun w0 => ?_)
 refine tS ?_
 refine tR fun _ _ _ => ?_
 refine eV (eBox rfl rfl rfl rfl rfl (fun p0 => ?_))
 iterate 2 refine pV ?_
 refine tS ?_
 refine tR fun _ _ _ => ?_
 refine sV (rLdS rfl rfl rfl) ?_
 refine eV (eCall1 rfl rfl rfl (fld_New_ok _ _ _ _ _ hl9 hF.out) ⟨rfl, trivial⟩ ?_)
 rintro _ _ ⟨g, rfl, rfl, hg⟩
 iterate 5 refine pV ?_
 refine tS ?_
 refine tS ?_
 refine tR fun _ _ _ => ?_
 iterate 2 refine pV ?_
 refine tC rfl (fun h2 => ?_) (fun h2 => ?_)
 ·try simp only [zbA] at h2
  first | exact absurd trivial h2 | exact absurd rfl h2 | omega | (exact absurd h2 (by simp)) --done
 ·try simp only [zbA] at h2
  refine tK ?_
  refine tS ?_
  refine tS ?_
  refine tR fun _ _ _ => ?_
  refine pV ?_
  refine sV (rLenS rfl rfl) ?_
  refine pV ?_
  refine tB ?_
  refine tr_loop1 (fun (k : Int) => [(20, .int .i64 k), (6, .pointer (some g.p)), (18, .slice (some pl) 2 cl), (19, .int .i64 2)]) (fun (k : Int) => [gfN g, blk p0 24 [.int .i64 p, .int .i64 m, .slice A mod.length c], ro A (ints mod), ro (some pl) [.int .i64 w, .slice Aa n ca, .int .i64 w2, .slice Ab n2 cb], ro Aa (hdrs rs), rowsR rs, ro Ab (hdrs rs2), rowsR rs2]) (fun (k : Int) => 0 ≤ k ∧ k ≤ 2) (fun (k : Int) => (2 - k).toNat) (0) ⟨rfl, rfl, rfl, rfl, trivial⟩ (by first | exact cs _ _ | exact CSub.refl _) (by omega) (fun k hI => ?_)
  refine tS ?_
  refine tR fun _ _ _ => ?_
  refine pV ?_
  refine tS ?_
  refine tC rfl (fun h5 => ?_) (fun h5 => ?_)
  ·try simp only [zbA] at h5
   refine tK ?_
   refine tS ?_
   refine tB ?_
   refine tS ?_
   refine tR fun _ _ _ => ?_
   refine sV (rIdxS2 rfl rfl rfl (by omega) (by omega)) ?_
   refine sV (rLdS2 rfl rfl (by omega) (by omega)) ?_
   refine eV (eAlloc rfl rfl rfl (fun p6 => ?_))
   refine eV (eStS rfl rfl rfl rfl rfl (by by_cases e : k = 0 <;> simp only [pk2, e, if_true, if_false] <;> rfl) ?_)
   refine tS ?_
   refine tR fun _ _ _ => ?_
   refine pV ?_
   refine sV (rLdS rfl rfl rfl) ?_
   refine eV (eCallV rfl rfl rfl (mat_check2 g (pw p m) hg.eq k w _ _ _ rs hn h9 h8 w2 _ _ _ rs2 hn2 h92 h82 hE hE2) ⟨rfl, rfl, trivial⟩ ?_)
   refine pV ?_
   refine tS ?_
   refine tR fun _ _ _ => ?_
   iterate 2 refine pV ?_
   refine tC rfl (fun h8 => ?_) (fun h8 => ?_)
   ·try simp only [zbA] at h8
    first | exact absurd trivial h8 | exact absurd rfl h8 | omega | (exact absurd h8 (by simp)) --done
   ·try simp only [zbA] at h8
    refine tK ?_
    refine tR fun _ _ _ => ?_
    refine sV (rAdd rfl rfl rfl (by omega) (by omega)) ?_
    refine pV ?_
    refine ⟨k + 1, ⟨rfl, rfl, rfl, rfl, trivial⟩, by first | exact cs _ _ | exact CSub.refl _, ?_⟩
    omega
  ·try simp only [zbA] at h5
   refine tE ?_
   refine tS ?_
   refine tR fun _ _ _ => ?_
   iterate 3 refine pV ?_
   exact tr_ret ⟨trivial, _, _, rfl, ⟨_, rfl, g, rfl, rfl, hg⟩, cs _ _, ⟨trivial, trivial, trivial, trivial⟩, trivial⟩
theorem mat_Mul_ent : Enters Tryz.prog 37 := enters_of Tryz.func37 (by kernel_rfl) (by kernel_rfl)
theorem mat_Mul (p m : Int) (A : Option Addr) (c : Nat) (mod : List Int) [hF : IsF p m mod] (w : Int) (Aa : Option Addr) (n ca : Nat) (rs : List RowM) (hn : n = rs.length) (w2 : Int) (Ab : Option Addr) (n2 cb : Nat) (rs2 : List RowM) (hn2 : n2 = rs2.length) (hwn : w = n2) (hw0 : 0 ≤ w) (hw9 : w ≤ 256) (hw20 : 0 ≤ w2) (hw29 : w2 ≤ 256) (h9 : rs.length ≤ 256) (h92 : rs2.length ≤ 256) (hgd : Gd (pw p m) w.toNat rs) (hgd2 : Gd (pw p m) w2.toNat rs2) :
  Pure Tryz.prog 37 #[.agg #[.int .i64 p, .int .i64 m, .slice A mod.length c], .agg #[.int .i64 w, .slice Aa n ca], .agg #[.int .i64 w2, .slice Ab n2 cb]] [ro A (ints mod), ro Aa (hdrs rs), rowsR rs, ro Ab (hdrs rs2), rowsR rs2] (two (fun v ch1 ch2 => ∃ B cc qs, v = .tuple #[.agg #[.int .i64 w2, .slice B qs.length cc], .int .i64 0] ∧ ch1 = ow B 22 cc (hdrs qs) ∧ ch2 = rowsCh 3 qs ∧ qs.length = rs.length ∧ Gd (pw p m) w2.toNat qs ∧ ∀ j : Nat, j < rs.length → (vsR qs).getD j 0 = Vc.cmb (fun i => el (((rs.getD j rowD).xs).getD i 0)) (vsR rs2 : List (Vc (El p m mod))))) := by
 have hrow := gd_row hw0 hw9 h9 hgd
 have hrow2 := gd_row hw20 hw29 h92 hgd2
 have h8 := hgd.h8 (N := 17592186044415) (by omega)
 have h82 := hgd2.h8 (N := 17592186044415) (by omega)
 have hml := hF.short
 have hq2 := hF.q2
 refine pure_ofC (args := [.agg #[.int .i64 p, .int .i64 m, .slice A mod.length c], .agg #[.int .i64 w, .slice Aa n ca], .agg #[.int .i64 w2, .slice Ab n2 cb]]) 56 Tryz.func37 rfl rfl rfl mat_Mul_ent ⟨id, id, id, id, id, trivial⟩ (fun w0 => ?_)
 refine tS ?_
 refine tR fun _ _ _ => ?_
 refine eV (eBox rfl rfl rfl rfl rfl (fun p0 => ?_))
 refine eV (eBox rfl rfl rfl rfl rfl (fun p0a => ?_))
 refine eV (eBox rfl rfl rfl rfl rfl (fun p0b => ?_))
 refine eV (eAlloc rfl rfl rfl (fun p0c => ?_))
 refine pV ?_
 refine tS ?_
 refine tR fun _ _ _ => ?_
 refine sV (rLdS rfl rfl rfl) ?_
 refine sV (rLdS rfl rfl rfl) ?_
 refine sV (rLdS rfl rfl rfl) ?_
 refine eV (eLitS2 rfl rfl rfl rfl rfl (fun p1 => ?_))
 refine eV (eCall1 rfl rfl rfl (mat_openG2 _ _ _ _ _ (by omega) _ _ w Aa _ ca rs hn (by omega) h8 w2 Ab _ cb rs2 hn2 (by omega) h82 hrow hrow2) ⟨rfl, rfl, trivial⟩ ?_)
 rintro _ _ ⟨g, rfl, rfl, hg⟩
 iterate 5 refine pV ?_
 refine tS ?_
 refine tS ?_
 refine tR fun _ _ _ => ?_
 iterate 2 refine pV ?_
 refine tC rfl (fun h2 => ?_) (fun h2 => ?_)
 ·try simp only [zbA] at h2
  first | exact absurd trivial h2 | exact absurd rfl h2 | omega | (exact absurd h2 (by simp)) --done
 ·try simp only [zbA] at h2
  refine tK ?_
  refine tS ?_
  refine tS ?_
  refine tR fun _ _ _ => ?_
  refine sV (rFld rfl rfl) ?_
  refine sV (rLdF rfl rfl rfl) ?_
  refine sV (rFld rfl rfl) ?_
  refine sV (rLdF rfl rfl rfl) ?_
  refine sV (rLen rfl rfl) ?_
  refine pV ?_
  refine tC rfl (fun h4 => ?_) (fun h4 => ?_)
  ·try simp only [zbA] at h4
   omega --done
  ·try simp only [zbA] at h4
   refine tK ?_
   refine tS ?_
   refine tR fun _ _ _ => ?_
   refine sV (rFld rfl rfl) ?_
   refine sV (rLdF rfl rfl rfl) ?_
   refine sV (rBuild rfl rfl) ?_
   refine eV (eAlloc rfl rfl rfl (fun p6 => ?_))
   refine eV (eStS rfl rfl rfl rfl rfl rfl ?_)
   refine tS ?_
   refine tS ?_
   refine tR fun _ _ _ => ?_
   refine sV (rFld rfl rfl) ?_
   refine sV (rLdF rfl rfl rfl) ?_
   refine sV (rLen rfl rfl) ?_
   refine pV ?_
   refine tB ?_
   refine tr_nilR 22 3 ?_
   refine tr_loop4 (fun (k : Int) (AQ : Option Addr) (c2 : Nat) (qs : List RowM) => [(10, .pointer (some p6)), (38, .int .i64 k), (36, .slice Aa n ca), (37, .int .i64 n), (5, .pointer (some p0b)), (6, .pointer (some p0c)), (7, .int .i64 0), (8, .pointer (some g.p))]) (fun (k : Int) (AQ : Option Addr) (c2 : Nat) (qs : List RowM) => [ow AQ 22 c2 (hdrs qs), rowsCh 3 qs, blk p6 67 [.int .i64 w2, .slice AQ qs.length c2], blk p0c 67 [.int .i64 0, .slice none 0 0], gfN g, blk p0 24 [.int .i64 p, .int .i64 m, .slice A mod.length c], blk p0a 67 [.int .i64 w, .slice Aa n ca], blk p0b 67 [.int .i64 w2, .slice Ab n2 cb], ro A (ints mod), ro Aa (hdrs rs), rowsR rs, ro Ab (hdrs rs2), rowsR rs2]) (fun (k : Int) (AQ : Option Addr) (c2 : Nat) (qs : List RowM) => (0 ≤ k ∧ k ≤ n) ∧ qs.length = k.toNat ∧ Gd (pw p m) w2.toNat qs ∧ ∀ j : Nat, (j : Int) < k → (vsR qs).getD j 0 = Vc.cmb (fun i => el (((rs.getD j rowD).xs).getD i 0)) (vsR rs2 : List (Vc (El p m mod)))) (fun (k : Int) (AQ : Option Addr) (c2 : Nat) (qs : List RowM) => (n - k).toNat) (0) (none) (0) ([]) ⟨rfl, rfl, rfl, rfl, rfl, rfl, rfl, rfl, trivial⟩ (by first | exact cs _ _ | exact CSub.refl _) (⟨⟨by omega, by omega⟩, rfl, Gd.nil _ _, fun j hj => by omega⟩) (fun k AQ c2 qs hI => ?_)
   obtain ⟨⟨hk0, hk1⟩, hql, hqg, hqe⟩ := hI
   refine tS ?_
   refine tR fun _ _ _ => ?_
   refine pV ?_
   refine tS ?_
   refine tC rfl (fun h8 => ?_) (fun h8 => ?_)
   ·try simp only [zbA] at h8
    refine tK ?_
    refine tS ?_
    refine tB ?_
    refine tS ?_
    haveI : InB k.toNat rs.length := ⟨by omega⟩
    have hgk := hgd.get (show k.toNat < rs.length by omega)
    have hgk1 := hgk.1
    refine tR fun _ _ _ => ?_
    refine sV (rIdxR rfl rfl rfl (by omega) (by omega) (by omega)) ?_
    refine sV (rLdR rfl rfl (by omega)) ?_
    refine pV ?_
    refine tr_draw [0, 1, 2, 3, 4, 5, 6, 7, 8, 9] [10, 11, 12] mixed (by kernel_rfl) fun _ _ _ => ?_
    refine sV (rFld rfl rfl) ?_
    refine sV (rLdF rfl rfl rfl) ?_
    iterate 2 refine pV ?_
    refine sV (rFld rfl rfl) ?_
    refine sV (rLdF rfl rfl rfl) ?_
    refine sV (rFld rfl rfl) ?_
    refine sV (rLdF rfl rfl rfl) ?_
    refine eV (eCall1 rfl rfl rfl (mat_vec g hg w2 hw20 (by omega) Ab _ cb rs2 hn2 (rs.getD k.toNat rowD).A _ _ (rs.getD k.toNat rowD).xs rfl (by omega) (by omega) hgd2) ⟨rfl, rfl, rfl, rfl, trivial⟩ ?_)
    rintro _ _ ⟨Bo, co, o, rfl, rfl, hol, hoi, hoe⟩
    refine eV (eLit1 rfl rfl rfl rfl rfl (fun A10a => ?_))
    refine eV (eAppRn o rfl rfl rfl rfl rfl rfl (by first | rfl | simp) (by omega) (fun A10a c10a => ?_))
    refine sV (rFld rfl rfl) ?_
    refine eV (eStF rfl rfl rfl rfl rfl (by simp) rfl rfl ?_)
    simp only [List.set_cons_succ, List.set_cons_zero]
    refine tR fun _ _ _ => ?_
    refine sV (rAdd rfl rfl rfl (by omega) (by omega)) ?_
    refine pV ?_
    refine ⟨k + 1, A10a, c10a, qs ++ [⟨Bo, co, o⟩], ⟨rfl, rfl, rfl, rfl, rfl, rfl, rfl, rfl, trivial⟩, by exact rows_app, ?_⟩
    refine ⟨⟨⟨by omega, by omega⟩, by rw [List.length_append, hql]; simp; omega, ?_, fun j hj => ?_⟩, by omega⟩
    ·intro r hr
     rcases List.mem_append.1 hr with hr | hr
     ·exact hqg r hr
     ·rw [List.mem_singleton.1 hr]; exact ⟨by show o.length = _; omega, hoi⟩
    ·rw [vsR_get, row_app]
     by_cases he : j < qs.length
     ·rw [if_pos he, ← vsR_get]; exact hqe j (by omega)
     ·rw [if_neg he, if_pos (by omega), show j = k.toNat by omega]; exact hoe
   ·try simp only [zbA] at h8
    refine tE ?_
    refine tS ?_
    refine tR fun _ _ _ => ?_
    refine sV (rLdS rfl rfl rfl) ?_
    refine eV (eStS rfl rfl rfl rfl rfl rfl ?_)
    refine pV ?_
    exact tr_ret ⟨trivial, _, _, (.cell rfl (cellS rfl) (.tmp rfl .nil)), ⟨_, _, rfl, AQ, c2, qs, rfl, rfl, rfl, by omega, hqg, fun j hj => hqe j (by omega)⟩, cs _ _, trivial, trivial, trivial⟩
theorem mat_Inverse_ent : Enters Tryz.prog 36 := enters_of Tryz.func36 (by kernel_rfl) (by kernel_rfl)
theorem mat_Inverse (p m : Int) (A : Option Addr) (c : Nat) (mod : List Int) [hF : IsF p m mod] (w : Int) (Aa : Option Addr) (n ca : Nat) (rs : List RowM) (hn : n = rs.length) (hwn : w = n) (h9 : rs.length ≤ 256) (hgd : Gd (pw p m) w.toNat rs) (hful : ∀ (V : List (Vc (El p m mod))) qs, Vc.Rr n V qs → (∀ u, Vc.SpL V u ↔ Vc.SpL (vsR rs) u) → n ≤ qs.length) :
  Pure Tryz.prog 36 #[.agg #[.int .i64 p, .int .i64 m, .slice A mod.length c], .agg #[.int .i64 w, .slice Aa n ca]] [ro A (ints mod), ro Aa (hdrs rs), rowsR rs] (two (fun v ch1 ch2 => ∃ B us, v = .tuple #[.agg #[.int .i64 w, .slice B n n], .int .i64 0] ∧ ch1 = ow B 22 n (hdrs us) ∧ ch2 = rowsCh 3 us ∧ us.length = n ∧ Gd (pw p m) w.toNat us ∧ ∀ j t : Nat, j < n → t < n → Vc.cmb (fun i => (el ((us.getD j rowD).xs.getD i 0) : El p m mod)) (vsR rs) t = if t = j then 1 else 0)) := by
 have hrow := gd_row (w := w) (by omega) (by omega) h9 hgd
 have h8 := hgd.h8 (N := 17592186044415) (by omega)
 have h8b := hgd.h8 (N := 1000000) (by omega)
 have hml := hF.short
 have hq2 := hF.q2
 refine pure_ofC (args := [.agg #[.int .i64 p, .int .i64 m, .slice A mod.length c], .agg #[.int .i64 w, .slice Aa n ca]]) 53 Tryz.func36 rfl rfl rfl mat_Inverse_ent ⟨id, id, id, trivial⟩ (fun w0 => ?_)
 refine tS ?_
 refine tR fun _ _ _ => ?_
 refine eV (eBox rfl rfl rfl rfl rfl (fun p0 => ?_))
 refine eV (eBox rfl rfl rfl rfl rfl (fun p0a => ?_))
 refine eV (eAlloc rfl rfl rfl (fun p0b => ?_))
 refine pV ?_
 refine tS ?_
 refine tR fun _ _ _ => ?_
 refine sV (rLdS rfl rfl rfl) ?_
 refine sV (rLdS rfl rfl rfl) ?_
 refine eV (eLitS rfl rfl rfl rfl (fun p1 => ?_))
 refine eV (eCall1 rfl rfl rfl (mat_openG _ _ _ _ _ (by omega) _ _ w Aa _ ca rs hn (by omega) h8 hrow) ⟨rfl, rfl, trivial⟩ ?_)
 rintro _ _ ⟨g, rfl, rfl, hg⟩
 iterate 5 refine pV ?_
 refine tS ?_
 refine tS ?_
 refine tR fun _ _ _ => ?_
 iterate 2 refine pV ?_
 refine tC rfl (fun h2 => ?_) (fun h2 => ?_)
 ·try simp only [zbA] at h2
  first | exact absurd trivial h2 | exact absurd rfl h2 | omega | (exact absurd h2 (by simp)) --done
 ·try simp only [zbA] at h2
  refine tK ?_
  refine tS ?_
  refine tS ?_
  refine tR fun _ _ _ => ?_
  refine sV (rFld rfl rfl) ?_
  refine sV (rLdF rfl rfl rfl) ?_
  refine sV (rLen rfl rfl) ?_
  refine sV (rFld rfl rfl) ?_
  refine sV (rLdF rfl rfl rfl) ?_
  refine pV ?_
  refine tC rfl (fun h4 => ?_) (fun h4 => ?_)
  ·try simp only [zbA] at h4
   omega --done
  ·try simp only [zbA] at h4
   refine tK ?_
   refine tS ?_
   subst hwn
   refine tR fun _ _ _ => ?_
   refine sV (rFld rfl rfl) ?_
   refine sV (rLdF rfl rfl rfl) ?_
   refine eV (eCall2 rfl rfl rfl (mat_unit n (by omega)) ⟨rfl, trivial⟩ ?_)
   rintro _ _ _ ⟨B6, us, rfl, rfl, rfl, hul, hux⟩
   refine pV ?_
   refine tS ?_
   have hug : Gd (pw p m) (n : Int).toNat us := fun r hr => by
    obtain ⟨j, hj, rfl⟩ := List.getElem_of_mem hr
    have h1 := hux j (by omega)
    rw [List.getD_eq_getElem?_getD, List.getElem?_eq_getElem hj] at h1
    have h2 : us[j].xs = unR n j := h1
    rw [h2]
    exact ⟨by rw [unR_length]; omega, unR_in hq2 _ _⟩
   refine tr_plan [] [(0, 0), (0, 1), (0, 2), (0, 4), (0, 5), (0, 6), (0, 3), (1, 7), (0, 8), (0, 9), (0, 10), (0, 11), (0, 12)] mixed (by kernel_rfl) fun _ _ _ => ?_
   refine pV ?_
   refine sV (rFld rfl rfl) ?_
   refine sV (rLdF rfl rfl rfl) ?_
   refine sV (rFld rfl rfl) ?_
   refine sV (rLdF rfl rfl rfl) ?_
   refine pV ?_
   refine eV (eCall2 rfl rfl rfl (mat_clone Aa n ca rs hn (by omega) h8b) ⟨rfl, trivial⟩ ?_)
   rintro _ _ _ ⟨B7, c7, qs7, rfl, rfl, rfl, hqs7, hcap7⟩
   have hlq : qs7.length = rs.length := by have := congrArg List.length hqs7; simpa using this
   refine eV (eCallM5 rfl rfl rfl (mat_eliminateB g hg n (by omega) (by omega) B7 _ c7 qs7 rfl (by omega) (Gd.of hqs7 hgd) n (by omega) (by omega) B6 n n us hul.symm (by omega) hug (unit_lin hq2 (by omega) hul hux)) ⟨rfl, rfl, rfl, rfl, trivial⟩ ?_)
   rintro _ _ _ _ _ _ ⟨rs2, us2, AP, cP, ps, qs, dd, rfl, rfl, rfl, rfl, rfl, rfl, hul2, hug2, hlin2, hps, hrl2, hgd2, hql, hR1, hR2⟩
   refine ⟨cs _ _, ?_⟩
   iterate 5 refine pV ?_
   refine tS ?_
   refine tS ?_
   have hpl : ps.length = qs.length := by rw [hps, List.length_map]
   rw [vsR_of hqs7] at hR2 hlin2
   rw [Int.toNat_natCast] at hR1
   have hfl := hful _ qs hR1 hR2
   refine tR fun _ _ _ => ?_
   refine pV ?_
   refine sV (rLen rfl rfl) ?_
   refine sV (rFld rfl rfl) ?_
   refine sV (rLdF rfl rfl rfl) ?_
   refine pV ?_
   refine tC rfl (fun h8 => ?_) (fun h8 => ?_)
   ·try simp only [zbA] at h8
    omega --done
   ·try simp only [zbA] at h8
    refine tK ?_
    refine tS ?_
    refine tR fun _ _ _ => ?_
    refine sV (rFld rfl rfl) ?_
    refine sV (rLdF rfl rfl rfl) ?_
    refine pV ?_
    refine sV (rBuild rfl rfl) ?_
    refine eV (eStS rfl rfl rfl rfl rfl rfl ?_)
    refine pV ?_
    have hqn : qs.length = n := by omega
    refine tr_ret ⟨trivial, _, _, (.cell rfl (cellS rfl) (.tmp rfl .nil)), ⟨_, _, rfl, B6, us2, rfl, rfl, rfl, by omega, hug2, fun j t hj ht => ?_⟩, cs _ _, trivial, trivial, trivial⟩
    have h1 := hlin2 j (by rw [vsR_length]; omega)
    have hj2 : Vc.cmb (fun i => (el ((us2.getD j rowD).xs.getD i 0) : El p m mod)) (vsR rs) = (vsR rs2).getD j 0 := by
     rw [← h1]; exact Vc.cmb_congr fun i _ => by rw [vsR_at]
    rw [hj2]
    rw [List.take_of_length_le (by rw [vsR_length]; omega)] at hR1
    have hid := rr_id hR1 hqn
    have a1 := hR1.one j (by omega)
    rw [hid j hj] at a1
    by_cases he : t = j
    ·rw [if_pos he, he]; exact a1
    ·rw [if_neg he]
     have a2 := hR1.off j t (by omega) (by omega) (fun e => he e.symm)
     rw [hid t ht] at a2
     exact a2
end Go.Proofs.YtfdjdokdabmmdaaGreat

set_option maxRecDepth 100000
namespace Go.Proofs.YtfdjdokdabmmdaaGreat
open Go.RowKit
theorem cmp_isNaN_ent : Enters Tryz.prog 122 := enters_of Tryz.func122 (by kernel_rfl) (by kernel_rfl)
theorem cmp_isNaN (a : Int) :
  Pure Tryz.prog 122 #[.int .i64 a] [] (isV (.bool false)) := by
 refine pure_of (args := [.int .i64 a]) 6 Tryz.func122 rfl rfl rfl cmp_isNaN_ent trivial (fun w0 => ?_)
 refine tS ?_
 refine tR fun _ _ _ => ?_
 refine pV ?_
 refine tS ?_
 refine tR fun _ _ _ => ?_
 iterate 4 refine pV ?_
 exact tr_ret ⟨trivial, _, _, rfl, ⟨by simp, rfl⟩, CSub.nil _, trivial⟩
theorem cmp_Compare_ent : Enters Tryz.prog 105 := enters_of Tryz.func105 (by kernel_rfl) (by kernel_rfl)
theorem cmp_Compare (a b : Int) :
  Pure Tryz.prog 105 #[.int .i64 a, .int .i64 b] [] (isV (.int .i64 (if a < b then -1 else if a > b then 1 else 0))) := by
 refine pure_of (args := [.int .i64 a, .int .i64 b]) 20 Tryz.func105 rfl rfl rfl cmp_Compare_ent trivial (fun w0 => ?_)
 refine tS ?_
 refine tR fun _ _ _ => ?_
 refine pV ?_
 refine tS ?_
 refine tR fun _ _ _ => ?_
 refine pV ?_
 refine eV (eCallV rfl rfl rfl (cmp_isNaN a) ⟨rfl, trivial⟩ ?_)
 refine pV ?_
 refine tS ?_
 refine tR fun _ _ _ => ?_
 refine pV ?_
 refine eV (eCallV rfl rfl rfl (cmp_isNaN b) ⟨rfl, trivial⟩ ?_)
 refine pV ?_
 refine tS ?_
 refine tS ?_
 refine tR fun _ _ _ => ?_
 refine pV ?_
 refine tC rfl (fun h3 => ?_) (fun h3 => ?_)
 ·try simp only [zbA] at h3
  simp at h3 --done
 ·try simp only [zbA] at h3
  refine tK ?_
  refine tS ?_
  refine tS ?_
  refine tR fun _ _ _ => ?_
  refine pV ?_
  refine tC rfl (fun h7 => ?_) (fun h7 => ?_)
  ·try simp only [zbA] at h7
   simp at h7 --done
  ·try simp only [zbA] at h7
   refine tK ?_
   refine tS ?_
   refine tS ?_
   refine tR fun _ _ _ => ?_
   iterate 3 refine pV ?_
   refine tC rfl (fun h9 => ?_) (fun h9 => ?_)
   ·try simp only [zbA] at h9
    refine tS ?_
    refine tR fun _ _ _ => ?_
    refine pV ?_
    exact tr_ret ⟨trivial, _, _, rfl, ⟨by rw [if_pos (by omega)], rfl⟩, CSub.nil _, trivial⟩
   ·try simp only [zbA] at h9
    refine tK ?_
    refine tS ?_
    refine tS ?_
    refine tR fun _ _ _ => ?_
    iterate 3 refine pV ?_
    refine tC rfl (fun h11 => ?_) (fun h11 => ?_)
    ·try simp only [zbA] at h11
     refine tS ?_
     refine tR fun _ _ _ => ?_
     refine pV ?_
     exact tr_ret ⟨trivial, _, _, rfl, ⟨by rw [if_neg (by omega), if_pos (by omega)], rfl⟩, CSub.nil _, trivial⟩
    ·try simp only [zbA] at h11
     refine tK ?_
     refine tS ?_
     refine tR fun _ _ _ => ?_
     refine pV ?_
     exact tr_ret ⟨trivial, _, _, rfl, ⟨by rw [if_neg (by omega), if_neg (by omega)], rfl⟩, CSub.nil _, trivial⟩
def cmpG : List Int → List Int → Int
 | [], [] => 0
 | [], _ :: _ => -1
 | _ :: _, [] => 1
 | x :: a, y :: b => if x < y then -1 else if x > y then 1 else cmpG a b
theorem lexLt_cons {x y : Int} {a b : List Int} : lexLt (x :: a) (y :: b) ↔ x < y ∨ (x = y ∧ lexLt a b) := by
 constructor
 ·rintro ⟨k, h1, h2⟩
  match k with
  | 0 => exact .inl h2
  | k + 1 => exact .inr ⟨h1 0 (by omega), k, fun j hj => h1 (j + 1) (by omega), h2⟩
 ·rintro (h | ⟨rfl, h⟩)
  ·exact ⟨0, fun j hj => by omega, h⟩
  ·exact h.cons
theorem cmpG_lex : ∀ a b : List Int, a.length = b.length → (cmpG a b < 0 ↔ lexLt a b)
 | [], [], _ => ⟨fun h => by rw [cmpG] at h; omega, fun ⟨k, _, h⟩ => by simp at h⟩
 | x :: a, y :: b, h => by
  have ih := cmpG_lex a b (by simpa using h)
  rw [lexLt_cons, cmpG, ← ih]
  by_cases h1 : x < y
  ·rw [if_pos h1]; exact ⟨fun _ => .inl h1, fun _ => by omega⟩
  ·rw [if_neg h1]
   by_cases h2 : x > y
   ·rw [if_pos h2]; exact ⟨fun h => by omega, fun h => by omega⟩
   ·rw [if_neg h2]; exact ⟨fun h => .inr ⟨by omega, h⟩, fun h => by rcases h with h | h; exact absurd h h1; exact h.2⟩
theorem drop_cons (a : List Int) {k : Nat} (h : k < a.length) : a.drop k = a.getD k 0 :: a.drop (k + 1) := by
 rw [List.drop_eq_getElem_cons h, List.getD_eq_getElem?_getD, List.getElem?_eq_getElem h]; rfl
theorem slc_Compare_ent : Enters Tryz.prog 71 := enters_of Tryz.func71 (by kernel_rfl) (by kernel_rfl)
theorem slc_Compare (Ax : Option Addr) (na ca : Nat) (a : List Int) (hna : na = a.length) (Bx : Option Addr) (nb cb : Nat) (b : List Int) (hnb : nb = b.length) (h9 : a.length ≤ 1000000) (h9b : b.length ≤ 1000000) :
  Pure Tryz.prog 71 #[.slice Ax na ca, .slice Bx nb cb] [ro Ax (ints a), ro Bx (ints b)] (isV (.int .i64 (cmpG a b))) := by
 refine pure_of (args := [.slice Ax na ca, .slice Bx nb cb]) 36 Tryz.func71 rfl rfl rfl slc_Compare_ent ⟨id, id, trivial⟩ (fun w0 => ?_)
 refine tS ?_
 refine tR fun _ _ _ => ?_
 refine pV ?_
 refine tS ?_
 refine tS ?_
 refine tR fun _ _ _ => ?_
 refine pV ?_
 refine sV (rLen rfl rfl) ?_
 refine pV ?_
 refine tB ?_
 refine tr_loop1 (fun (k : Int) => [(11, .int .i64 k), (9, .slice Ax na ca), (10, .int .i64 na), (0, .slice Ax na ca), (1, .slice Bx nb cb)]) (fun (k : Int) => [ro Ax (ints a), ro Bx (ints b)]) (fun (k : Int) => (0 ≤ k ∧ k ≤ na ∧ k ≤ nb) ∧ cmpG (a.drop k.toNat) (b.drop k.toNat) = cmpG a b) (fun (k : Int) => (na - k).toNat) (0) ⟨rfl, rfl, rfl, rfl, rfl, trivial⟩ (by first | exact cs _ _ | exact CSub.refl _) (⟨⟨by omega, by omega, by omega⟩, rfl⟩) (fun k hI => ?_)
 obtain ⟨⟨hk0, hk1, hk2⟩, hj⟩ := hI
 refine tS ?_
 refine tR fun _ _ _ => ?_
 refine pV ?_
 refine tS ?_
 refine tC rfl (fun h2 => ?_) (fun h2 => ?_)
 ·try simp only [zbA] at h2
  refine tK ?_
  refine tS ?_
  refine tB ?_
  refine tS ?_
  refine tR fun _ _ _ => ?_
  refine pV ?_
  refine sV (rIdxI rfl rfl rfl (by omega) (by omega) (by omega)) ?_
  refine sV (rLdI rfl rfl (by omega)) ?_
  iterate 2 refine pV ?_
  refine tS ?_
  refine tS ?_
  refine tR fun _ _ _ => ?_
  iterate 2 refine pV ?_
  refine sV (rLen rfl rfl) ?_
  refine pV ?_
  refine tC rfl (fun h4 => ?_) (fun h4 => ?_)
  ·try simp only [zbA] at h4
   refine tS ?_
   refine tR fun _ _ _ => ?_
   refine pV ?_
   rw [drop_cons a (by omega), List.drop_of_length_le (show b.length ≤ k.toNat by omega), cmpG] at hj
   exact tr_ret ⟨trivial, _, _, rfl, ⟨by rw [hj], rfl⟩, CSub.nil _, trivial⟩
  ·try simp only [zbA] at h4
   refine tK ?_
   refine tS ?_
   refine tR fun _ _ _ => ?_
   iterate 2 refine pV ?_
   refine sV (rIdxI rfl rfl rfl (by omega) (by omega) (by omega)) ?_
   refine sV (rLdI rfl rfl (by omega)) ?_
   refine pV ?_
   refine tS ?_
   refine tR fun _ _ _ => ?_
   iterate 2 refine pV ?_
   refine eV (eCallV rfl rfl rfl (cmp_Compare (a.getD k.toNat 0) (b.getD k.toNat 0)) ⟨rfl, rfl, trivial⟩ ?_)
   refine pV ?_
   refine tS ?_
   refine tR fun _ _ _ => ?_
   iterate 2 refine pV ?_
   refine tC rfl (fun h8 => ?_) (fun h8 => ?_)
   ·try simp only [zbA] at h8
    refine tS ?_
    refine tR fun _ _ _ => ?_
    iterate 2 refine pV ?_
    rw [drop_cons a (by omega), drop_cons b (by omega), cmpG] at hj
    have hv : (if a.getD k.toNat 0 < b.getD k.toNat 0 then -1 else if a.getD k.toNat 0 > b.getD k.toNat 0 then 1 else 0 : Int) = cmpG a b := by
     rw [← hj]
     by_cases h1 : a.getD k.toNat 0 < b.getD k.toNat 0
     ·rw [if_pos h1, if_pos h1]
     ·by_cases h2 : a.getD k.toNat 0 > b.getD k.toNat 0
      ·rw [if_neg h1, if_neg h1, if_pos h2, if_pos h2]
      ·rw [if_neg h1, if_neg h2] at h8; exact absurd rfl h8
    exact tr_ret ⟨trivial, _, _, rfl, ⟨by rw [hv], rfl⟩, CSub.nil _, trivial⟩
   ·try simp only [zbA] at h8
    refine tK ?_
    refine tR fun _ _ _ => ?_
    refine sV (rAdd rfl rfl rfl (by omega) (by omega)) ?_
    refine pV ?_
    refine ⟨k + 1, ⟨rfl, rfl, rfl, rfl, rfl, trivial⟩, by first | exact cs _ _ | exact CSub.refl _, ?_⟩
    refine ⟨⟨⟨by omega, by omega, by omega⟩, ?_⟩, by omega⟩
    rw [drop_cons a (by omega), drop_cons b (by omega), cmpG] at hj
    rw [show (k + 1).toNat = k.toNat + 1 by omega, ← hj]
    by_cases h1 : a.getD k.toNat 0 < b.getD k.toNat 0
    ·rw [if_pos h1] at h8; simp at h8
    ·by_cases h2 : a.getD k.toNat 0 > b.getD k.toNat 0
     ·rw [if_neg h1, if_pos h2] at h8; simp at h8
     ·rw [if_neg h1, if_neg h2]
 ·try simp only [zbA] at h2
  refine tE ?_
  refine tS ?_
  refine tS ?_
  refine tR fun _ _ _ => ?_
  refine pV ?_
  refine sV (rLen rfl rfl) ?_
  refine pV ?_
  refine sV (rLen rfl rfl) ?_
  refine pV ?_
  refine tC rfl (fun h11 => ?_) (fun h11 => ?_)
  ·try simp only [zbA] at h11
   refine tS ?_
   refine tR fun _ _ _ => ?_
   refine pV ?_
   rw [List.drop_of_length_le (show a.length ≤ k.toNat by omega), drop_cons b (by omega), cmpG] at hj
   exact tr_ret ⟨trivial, _, _, rfl, ⟨by rw [← hj], rfl⟩, CSub.nil _, trivial⟩
  ·try simp only [zbA] at h11
   refine tK ?_
   refine tS ?_
   refine tR fun _ _ _ => ?_
   refine pV ?_
   rw [List.drop_of_length_le (show a.length ≤ k.toNat by omega), List.drop_of_length_le (show b.length ≤ k.toNat by omega), cmpG] at hj
   exact tr_ret ⟨trivial, _, _, rfl, ⟨by rw [← hj], rfl⟩, CSub.nil _, trivial⟩
end Go.Proofs.YtfdjdokdabmmdaaGreat

set_option maxRecDepth 100000
namespace Go.Proofs.YtfdjdokdabmmdaaGreat
open Go.RowKit
instance tySr0 : FdTy Tryz.prog 65 0 0 := ⟨by kernel_rfl⟩
instance tySr1 : FdTy Tryz.prog 65 1 1 := ⟨by kernel_rfl⟩
instance tySr2 : FdTy Tryz.prog 65 2 2 := ⟨by kernel_rfl⟩
instance tySr3 : FdTy Tryz.prog 65 3 3 := ⟨by kernel_rfl⟩
instance tySr4 : FdTy Tryz.prog 65 4 4 := ⟨by kernel_rfl⟩
structure DnS (cost : List Int → Int) (n : Nat) (S : List Int → Prop) (b : List Int) (c : Int) : Prop where
 len : b.length = n
 cst : c = cost b
 best : Bst cost S b
theorem DnS.iff {cost : List Int → Int} {n : Nat} {S T : List Int → Prop} {b : List Int} {c : Int} (h : DnS cost n S b c) (hi : ∀ x, S x ↔ T x) : DnS cost n T b c := ⟨h.len, h.cst, h.best.iff hi⟩
def FrS (cost : List Int → Int) (n : Nat) (S : List Int → Prop) (B : Option Addr) (b : List Int) (c : Int) : Prop := (B = none ∧ b = [] ∧ ∀ y, ¬ S y) ∨ DnS cost n S b c
theorem FrS.take {cost : List Int → Int} {n : Nat} {S : List Int → Prop} {B : Option Addr} {b w : List Int} {c : Int} (h : FrS cost n S B b c) (hw : w.length = n) (hn : 1 ≤ n) (hc : (B = none ∨ cost w < c) ∨ (cost w = c ∧ cmpG w b < 0)) (hbn : B = none → b = []) : DnS cost n (fun y => S y ∨ y = w) w (cost w) := by
 refine ⟨hw, rfl, ?_⟩
 rcases h with ⟨h1, h2, h3⟩ | h
 ·exact StJ.take (st := none) h3 (fun b hb => by cases hb)
 ·refine StJ.take (st := some b) h.best (fun b' hb => ?_)
  cases hb
  rcases hc with (hc | hc) | ⟨hc, hl⟩
  ·have := h.len
   rw [hbn hc] at this
   simp at this; omega
  ·exact .inl (by rw [← h.cst]; exact hc)
  ·exact .inr ⟨by rw [← h.cst]; exact hc, (cmpG_lex _ _ (by rw [hw, h.len])).1 hl⟩
theorem FrS.pass {cost : List Int → Int} {n : Nat} {S : List Int → Prop} {B : Option Addr} {b w : List Int} {c : Int} (h : FrS cost n S B b c) (hw : w.length = n) (hc : ¬ ((B = none ∨ cost w < c) ∨ (cost w = c ∧ cmpG w b < 0))) : DnS cost n (fun y => S y ∨ y = w) b c := by
 rcases h with ⟨h1, h2, h3⟩ | h
 ·exact absurd (.inl (.inl h1)) hc
 ·refine ⟨h.len, h.cst, StJ.pass h.best fun hb => hc ?_⟩
  rcases hb with hb | ⟨hb, hl⟩
  ·exact .inl (.inr (by rw [h.cst]; exact hb))
  ·exact .inr ⟨by rw [h.cst]; exact hb, (cmpG_lex _ _ (by rw [hw, h.len])).2 hl⟩
def RcW (p m : Int) (mod : List Int) [hF : IsF p m mod] (n : Nat) (ss : List RowM) (i more : Nat) (w : Vc (El p m mod)) (y : List Int) : Prop := y.length = n ∧ AllIn (pw p m) y ∧ Rch (vsR ss) i more w (rw' y)
def Vis (p m : Int) (mod : List Int) [hF : IsF p m mod] (n : Nat) (ss : List RowM) (S0 : List Int → Prop) (w : List Int) (i more t : Nat) (z : Int) (y : List Int) : Prop :=
 (S0 y ∨ y = w) ∨ (∃ (t' : Nat) (a : El p m mod), i ≤ t' ∧ t' < t ∧ a ≠ 0 ∧ RcW p m mod n ss (t' + 1) (more - 1) (rw' w + Vc.sc a ((vsR ss).getD t' 0)) y) ∨ ∃ a : El p m mod, a ≠ 0 ∧ a.1 < z ∧ RcW p m mod n ss (t + 1) (more - 1) (rw' w + Vc.sc a ((vsR ss).getD t 0)) y
section
variable {p m : Int} {mod : List Int} [hF : IsF p m mod] {n : Nat} {ss : List RowM} {S0 : List Int → Prop} {w : List Int} {i more t : Nat} {z : Int}
theorem el_pos {a : El p m mod} (h : a ≠ 0) : 1 ≤ a.1 := by
 have h1 := El.bd a
 have h2 : a.1 ≠ 0 := fun e => h ((val_zero_iff a).1 e)
 omega
theorem vis_start (y : List Int) : (S0 y ∨ y = w) ↔ Vis p m mod n ss S0 w i more i 1 y := by
 constructor
 ·exact .inl
 ·rintro (h | ⟨t', a, h1, h2, _⟩ | ⟨a, h1, h2, _⟩)
  ·exact h
  ·omega
  ·have := el_pos h1; omega
theorem vis_next (hi : i ≤ t) (hz : z = pw p m) (y : List Int) : Vis p m mod n ss S0 w i more t z y ↔ Vis p m mod n ss S0 w i more (t + 1) 1 y := by
 constructor
 ·rintro (h | ⟨t', a, h1, h2, h3, h4⟩ | ⟨a, h1, h2, h3⟩)
  ·exact .inl h
  ·exact .inr (.inl ⟨t', a, h1, by omega, h3, h4⟩)
  ·exact .inr (.inl ⟨t, a, hi, by omega, h1, h3⟩)
 ·rintro (h | ⟨t', a, h1, h2, h3, h4⟩ | ⟨a, h1, h2, h3⟩)
  ·exact .inl h
  ·by_cases e : t' = t
   ·subst e; exact .inr (.inr ⟨a, h3, by rw [hz]; exact (El.bd a).2, h4⟩)
   ·exact .inr (.inl ⟨t', a, h1, by omega, h3, h4⟩)
  ·have := el_pos h1; omega
theorem vis_add (h1 : 1 ≤ z) (h2 : z < pw p m) (y : List Int) : (Vis p m mod n ss S0 w i more t z y ∨ RcW p m mod n ss (t + 1) (more - 1) (rw' w + Vc.sc (el z) ((vsR ss).getD t 0)) y) ↔ Vis p m mod n ss S0 w i more t (z + 1) y := by
 have hb : 0 ≤ z ∧ z < pw p m := ⟨by omega, h2⟩
 constructor
 ·rintro ((h | h | ⟨a, h1, h2, h3⟩) | h)
  ·exact .inl h
  ·exact .inr (.inl h)
  ·exact .inr (.inr ⟨a, h1, by omega, h3⟩)
  ·exact .inr (.inr ⟨el z, fun e => by have := (el_eq_zero hb).1 e; omega, by rw [el_in hb]; omega, h⟩)
 ·rintro (h | h | ⟨a, h3, h4, h5⟩)
  ·exact .inl (.inl h)
  ·exact .inl (.inr (.inl h))
  ·by_cases e : a.1 = z
   ·right
    have e2 : a = el z := by rw [← e, el_of]
    rw [← e2]; exact h5
   ·exact .inl (.inr (.inr ⟨a, h3, by omega, h5⟩))
theorem vis_end (hm : 1 ≤ more) (hi : i ≤ ss.length) (hwl : w.length = n) (hwi : AllIn (pw p m) w) (y : List Int) : Vis p m mod n ss S0 w i more ss.length 1 y ↔ (S0 y ∨ RcW p m mod n ss i more (rw' w) y) := by
 constructor
 ·rintro ((h | rfl) | ⟨t', a, h1, h2, h3, h4, h5, h6⟩ | ⟨a, h1, h2, _⟩)
  ·exact .inl h
  ·exact .inr ⟨hwl, hwi, .stop ..⟩
  ·exact .inr ⟨h4, h5, rch_iff.2 (.inr ⟨t', a, hm, h1, by rw [vsR_length]; exact h2, h3, h6⟩)⟩
  ·have := el_pos h1; omega
 ·rintro (h | ⟨h1, h2, h3⟩)
  ·exact .inl (.inl h)
  ·rcases rch_iff.1 h3 with h3 | ⟨t', a, h4, h5, h6, h7, h8⟩
   ·exact .inl (.inr (rw_inj h2 hwi (by rw [h1, hwl]) h3))
   ·rw [vsR_length] at h6
    exact .inr (.inl ⟨t', a, h5, h6, h7, h1, h2, h8⟩)
theorem vis_zero (hwl : w.length = n) (hwi : AllIn (pw p m) w) (y : List Int) : (S0 y ∨ y = w) ↔ (S0 y ∨ RcW p m mod n ss i 0 (rw' w) y) := by
 constructor
 ·rintro (h | rfl)
  ·exact .inl h
  ·exact .inr ⟨hwl, hwi, .stop ..⟩
 ·rintro (h | ⟨h1, h2, h3⟩)
  ·exact .inl h
  ·rcases rch_iff.1 h3 with h3 | ⟨_, _, h4, _⟩
   ·exact .inr (rw_inj h2 hwi (by rw [h1, hwl]) h3)
   ·omega
end
end Go.Proofs.YtfdjdokdabmmdaaGreat

set_option maxRecDepth 100000
set_option maxHeartbeats 1000000
namespace Go.Proofs.YtfdjdokdabmmdaaGreat
open Go.RowKit
theorem no_take {B : Option Addr} {x c d : Int} (h : (B.isSome = true ∧ c ≤ x) ∧ (¬ x = c ∨ 0 ≤ d)) : ¬ ((B = none ∨ x < c) ∨ (x = c ∧ d < 0)) := by
 obtain ⟨⟨a1, a2⟩, a3⟩ := h
 rintro ((h | h) | ⟨h, h'⟩)
 ·rw [h] at a1; simp at a1
 ·omega
 ·rcases a3 with a3 | a3
  ·exact a3 h
  ·omega
theorem ord_fromS_ent : Enters Tryz.prog 40 := enters_of Tryz.func40 (by kernel_rfl) (by kernel_rfl)
theorem ord_fromS (ps : Addr) (g : GfM) {p m : Int} {mod : List Int} [hF : IsF p m mod] (hg : GOk g p m mod) (T : Option Addr) (nt ct : Nat) (ts : List RowM) (hnt : nt = ts.length) (t64 : ts.length ≤ 64) (htr : ∀ r ∈ ts, RowOk (pw p m) r.xs) (hn1 : 1 ≤ ts.length) (Sa : Option Addr) (ns cS : Nat) (ss : List RowM) (hns : ns = ss.length) (s64 : ss.length ≤ 64) (hsg : Gd (pw p m) ts.length ss) (more : Int) (hm0 : 0 ≤ more) (hm9 : more ≤ 64) (ih : 1 ≤ more → ∀ (W' : Option Addr) (nw' cw' : Nat) (u : List Int) (hnw' : nw' = u.length) (hul : u.length = ts.length) (hui : AllIn (pw p m) u) (i' : Int) (hi0' : 0 ≤ i') (hi9' : i' ≤ ss.length) (B' : Option Addr) (cb' : Nat) (b' : List Int) (c' : Int) (S' : List Int → Prop) (hs' : FrS (cstL (xss ts)) ts.length S' B' b' c'), Mut Tryz.prog 40 #[.pointer (some ps), .slice W' nw' cw', .int .i64 i', .int .i64 (more - 1)] [blk ps 65 [.pointer (some g.p), .slice T nt ct, .slice Sa ns cS, .slice B' b'.length cb', .int .i64 c'], ow B' 3 cb' (ints b')] [gfR g, ro T (hdrs ts), rowsR ts, ro Sa (hdrs ss), rowsR ss, ro W' (ints u)] (two (fun v ca cb => v = .tuple #[] ∧ ∃ (B2 : Option Addr) (cb2 : Nat) (b2 : List Int) (c2 : Int), ca = blk ps 65 [.pointer (some g.p), .slice T nt ct, .slice Sa ns cS, .slice B2 b2.length cb2, .int .i64 c2] ∧ cb = ow B2 3 cb2 (ints b2) ∧ DnS (cstL (xss ts)) ts.length (fun y => S' y ∨ RcW p m mod ts.length ss i'.toNat (more - 1).toNat (rw' u) y) b2 c2))) (W : Option Addr) (cw : Nat) (w : List Int) (hwl : w.length = ts.length) (hwi : AllIn (pw p m) w) (i : Int) (hi0 : 0 ≤ i) (hi9 : i ≤ ss.length) (Bb : Option Addr) (cb : Nat) (b : List Int) (c : Int) (S0 : List Int → Prop) (hs : FrS (cstL (xss ts)) ts.length S0 Bb b c) :
  Mut Tryz.prog 40 #[.pointer (some ps), .slice W w.length cw, .int .i64 i, .int .i64 more] [blk ps 65 [.pointer (some g.p), .slice T nt ct, .slice Sa ns cS, .slice Bb b.length cb, .int .i64 c], ow Bb 3 cb (ints b)] [gfR g, ro T (hdrs ts), rowsR ts, ro Sa (hdrs ss), rowsR ss, ro W (ints w)] (two (fun v ca cb => v = .tuple #[] ∧ ∃ (B2 : Option Addr) (cb2 : Nat) (b2 : List Int) (c2 : Int), ca = blk ps 65 [.pointer (some g.p), .slice T nt ct, .slice Sa ns cS, .slice B2 b2.length cb2, .int .i64 c2] ∧ cb = ow B2 3 cb2 (ints b2) ∧ DnS (cstL (xss ts)) ts.length (fun y => S0 y ∨ RcW p m mod ts.length ss i.toNat more.toNat (rw' w) y) b2 c2)) := by
 have hq2 := hF.q2
 have hq256 := hF.out.1.1.q
 have hgq := hg.eq
 have hbl : b.length ≤ 64 := by
  rcases hs with ⟨_, h, _⟩ | h
  ·rw [h]; simp
  ·rw [h.len]; exact t64
 refine mut_of (args := [.pointer (some ps), .slice W w.length cw, .int .i64 i, .int .i64 more]) 119 (F := [blk ps 65 [.pointer (some g.p), .slice T nt ct, .slice Sa ns cS, .slice Bb b.length cb, .int .i64 c], ow Bb 3 cb (ints b), gfR g, ro T (hdrs ts), rowsR ts, ro Sa (hdrs ss), rowsR ss, ro W (ints w)]) rfl Tryz.func40 rfl rfl rfl ord_fromS_ent (fun w0 => ?_)
 refine tr_join (fun (q : (Option Addr) × Nat × (List Int) × Int) => match q with | (B, cB, b1, c1) => [(0, .pointer (some ps)), (1, .slice W w.length cw), (3, .int .i64 more), (2, .int .i64 i)]) (fun (q : (Option Addr) × Nat × (List Int) × Int) => match q with | (B, cB, b1, c1) => [blk ps 65 [.pointer (some g.p), .slice T nt ct, .slice Sa ns cS, .slice B b1.length cB, .int .i64 c1], ow B 3 cB (ints b1), gfR g, ro T (hdrs ts), rowsR ts, ro Sa (hdrs ss), rowsR ss, ro W (ints w)]) (fun (q : (Option Addr) × Nat × (List Int) × Int) => match q with | (B, cB, b1, c1) => DnS (cstL (xss ts)) ts.length (fun y => S0 y ∨ y = w) b1 c1) ?_ ?_
 ·refine tS ?_
  refine tr_nn (A := Bb) (l := b) fun hbn => ?_
  refine tR fun _ _ _ => ?_
  refine pV ?_
  refine sV (rNil rfl rfl) ?_
  refine sV (rFld rfl rfl) ?_
  refine sV (rLdF rfl rfl rfl) ?_
  refine pV ?_
  refine eV (eCallV rfl rfl rfl (ord_total T nt ct ts hnt (pw p m) hq2 hq256 t64 htr W _ cw w rfl hwl hwi) ⟨rfl, rfl, trivial⟩ ?_)
  refine pV ?_
  refine tS ?_
  refine tR fun _ _ _ => ?_
  refine pV ?_
  refine sV (rNil rfl rfl) ?_
  refine sV (rFld rfl rfl) ?_
  refine sV (rLdF rfl rfl rfl) ?_
  refine sV (rNilS rfl rfl rfl) ?_
  refine pV ?_
  refine stg rfl rfl rfl rfl rfl (fun hb => by (have hq := hb; try simp only [zbA] at hq); exact rMove rfl rfl) ?_
  refine stg rfl rfl rfl rfl rfl (fun hb => by (have hq := hb; try simp only [zbA] at hq); exact rMove rfl rfl) ?_
  refine stg rfl rfl rfl rfl rfl (fun hb => by (have hq := hb; try simp only [zbA] at hq); exact rNil rfl (evg rfl hb)) ?_
  refine stg rfl rfl rfl rfl rfl (fun hb => by (have hq := hb; try simp only [zbA] at hq); exact rFld rfl (evg rfl hb)) ?_
  refine stg rfl rfl rfl rfl rfl (fun hb => by (have hq := hb; try simp only [zbA] at hq); exact rLdF rfl (evg rfl hb) rfl) ?_
  refine stg rfl rfl rfl rfl rfl (fun hb => by (have hq := hb; try simp only [zbA] at hq); exact rLss rfl (evg rfl hb) (evg rfl hb)) ?_
  refine sV (rOrB rfl rfl rfl rfl) ?_
  refine pV ?_
  refine stg rfl rfl rfl rfl rfl (fun hb => by (have hq := hb; try simp only [zbA] at hq); exact rMove rfl rfl) ?_
  refine stg rfl rfl rfl rfl rfl (fun hb => by (have hq := hb; try simp only [zbA] at hq); exact rMove rfl rfl) ?_
  refine stg rfl rfl rfl rfl rfl (fun hb => by (have hq := hb; try simp only [zbA] at hq); exact rNil rfl (evg rfl hb)) ?_
  refine stg rfl rfl rfl rfl rfl (fun hb => by (have hq := hb; try simp only [zbA] at hq); exact rFld rfl (evg rfl hb)) ?_
  refine stg rfl rfl rfl rfl rfl (fun hb => by (have hq := hb; try simp only [zbA] at hq); exact rLdF rfl (evg rfl hb) rfl) ?_
  refine stg rfl rfl rfl rfl rfl (fun hb => by (have hq := hb; try simp only [zbA] at hq); exact rEql rfl (evg rfl hb) (evg rfl hb)) ?_
  refine stg rfl rfl rfl rfl rfl (fun hb => by (have hq := hb; try simp only [zbA] at hq); exact rMove rfl (evg rfl hb)) ?_
  refine stg2 rfl rfl rfl rfl rfl (fun hb => by (have hq := hb; try simp only [zbA] at hq); exact rMove rfl rfl) ?_
  refine stg2 rfl rfl rfl rfl rfl (fun hb => by (have hq := hb; try simp only [zbA] at hq); exact rMove rfl rfl) ?_
  refine stg2 rfl rfl rfl rfl rfl (fun hb => by (have hq := hb; try simp only [zbA] at hq); exact rNil rfl (evg rfl hb)) ?_
  refine stg2 rfl rfl rfl rfl rfl (fun hb => by (have hq := hb; try simp only [zbA] at hq); exact rFld rfl (evg rfl hb)) ?_
  refine stg2 rfl rfl rfl rfl rfl (fun hb => by (have hq := hb; try simp only [zbA] at hq); exact rLdF rfl (evg rfl hb) rfl) ?_
  refine efg2 rfl rfl rfl rfl rfl (fun hb => by (have hq := hb; try simp only [zbA] at hq); exact eCallV rfl rfl rfl (slc_Compare W _ cw w rfl Bb _ cb b rfl (by omega) (by omega)) ⟨(evg rfl hb), (evg rfl hb), trivial⟩ ⟨rfl, rfl⟩) ?_
  refine stg2 rfl rfl rfl rfl rfl (fun hb => by (have hq := hb; try simp only [zbA] at hq); exact rLss rfl (evg rfl hb) rfl) ?_
  refine stg rfl rfl rfl rfl rfl (fun hb => by (have hq := hb; try simp only [zbA] at hq); exact rAndB rfl (evg rfl hb) (evgp rfl hb) rfl) ?_
  refine sV (rOrB rfl rfl rfl rfl) ?_
  refine tC rfl (fun h1 => ?_) (fun h1 => ?_)
  ·try simp only [zbA] at h1
   refine tR fun _ _ _ => ?_
   iterate 3 refine pV ?_
   refine eV (eCall1 rfl rfl rfl (slc_Clone W cw w (by omega)) ⟨rfl, trivial⟩ ?_)
   rintro _ _ ⟨B2, c2, rfl, rfl⟩
   refine pV ?_
   refine sV (rNil rfl rfl) ?_
   refine sV (rFld rfl rfl) ?_
   refine eV (eStF rfl rfl rfl rfl rfl (by simp) rfl rfl ?_)
   refine sV (rNil rfl rfl) ?_
   refine sV (rFld rfl rfl) ?_
   refine eV (eStF rfl rfl rfl rfl rfl (by simp) rfl rfl ?_)
   simp only [List.set_cons_succ, List.set_cons_zero]
   refine ⟨(B2, c2, w, cstL (xss ts) w), ⟨rfl, rfl, rfl, rfl, trivial⟩, by first | exact cs _ _ | exact CSub.refl _, ?_⟩
   exact hs.take hwl hn1 (by simpa using h1) hbn
  ·try simp only [zbA] at h1
   refine tK ?_
   refine ⟨(Bb, cb, b, c), ⟨rfl, rfl, rfl, rfl, trivial⟩, by first | exact cs _ _ | exact CSub.refl _, ?_⟩
   exact hs.pass hwl (no_take (by simpa using h1))
 ·rintro ⟨B, cB, b1, c1⟩ hI
  have hd0 := hI
  refine tS ?_
  refine tS ?_
  refine tR fun _ _ _ => ?_
  iterate 2 refine pV ?_
  refine tC rfl (fun h3 => ?_) (fun h3 => ?_)
  ·try simp only [zbA] at h3
   have hm : more = 0 := by omega
   subst hm
   exact tr_ret ⟨trivial, _, _, .nil, ⟨_, _, rfl, rfl, B, cB, b1, c1, rfl, rfl, hd0.iff fun y => vis_zero hwl hwi y⟩, cs _ _, trivial, trivial, trivial⟩
  ·try simp only [zbA] at h3
   refine tK ?_
   refine tB ?_
   refine tr_loop5 (fun (t : Int) (B : Option Addr) (cB : Nat) (b1 : List Int) (c1 : Int) => [(0, .pointer (some ps)), (1, .slice W w.length cw), (3, .int .i64 more), (2, .int .i64 t)]) (fun (t : Int) (B : Option Addr) (cB : Nat) (b1 : List Int) (c1 : Int) => [blk ps 65 [.pointer (some g.p), .slice T nt ct, .slice Sa ns cS, .slice B b1.length cB, .int .i64 c1], ow B 3 cB (ints b1), gfR g, ro T (hdrs ts), rowsR ts, ro Sa (hdrs ss), rowsR ss, ro W (ints w)]) (fun (t : Int) (B : Option Addr) (cB : Nat) (b1 : List Int) (c1 : Int) => (i ≤ t ∧ t ≤ ss.length) ∧ DnS (cstL (xss ts)) ts.length (Vis p m mod ts.length ss S0 w i.toNat more.toNat t.toNat 1) b1 c1) (fun (t : Int) (B : Option Addr) (cB : Nat) (b1 : List Int) (c1 : Int) => (ss.length - t).toNat) (i) (B) (cB) (b1) (c1) ⟨rfl, rfl, rfl, rfl, trivial⟩ (by first | exact cs _ _ | exact CSub.refl _) (⟨⟨by omega, by omega⟩, hd0.iff fun y => vis_start y⟩) (fun t B cB b1 c1 hI => ?_)
   obtain ⟨⟨ht0, ht1⟩, hd1⟩ := hI
   refine tS ?_
   refine tS ?_
   refine tR fun _ _ _ => ?_
   iterate 2 refine pV ?_
   refine sV (rNil rfl rfl) ?_
   refine sV (rFld rfl rfl) ?_
   refine sV (rLdF rfl rfl rfl) ?_
   refine sV (rLen rfl rfl) ?_
   refine pV ?_
   refine tC rfl (fun h4 => ?_) (fun h4 => ?_)
   ·try simp only [zbA] at h4
    refine tK ?_
    refine tS ?_
    refine tB ?_
    refine tS ?_
    refine tR fun _ _ _ => ?_
    refine pV ?_
    refine tB ?_
    refine tr_loop5 (fun (z : Int) (B : Option Addr) (cB : Nat) (b1 : List Int) (c1 : Int) => [(0, .pointer (some ps)), (1, .slice W w.length cw), (3, .int .i64 more), (2, .int .i64 t), (9, .int .i64 z)]) (fun (z : Int) (B : Option Addr) (cB : Nat) (b1 : List Int) (c1 : Int) => [blk ps 65 [.pointer (some g.p), .slice T nt ct, .slice Sa ns cS, .slice B b1.length cB, .int .i64 c1], ow B 3 cB (ints b1), gfR g, ro T (hdrs ts), rowsR ts, ro Sa (hdrs ss), rowsR ss, ro W (ints w)]) (fun (z : Int) (B : Option Addr) (cB : Nat) (b1 : List Int) (c1 : Int) => (1 ≤ z ∧ z ≤ pw p m) ∧ DnS (cstL (xss ts)) ts.length (Vis p m mod ts.length ss S0 w i.toNat more.toNat t.toNat z) b1 c1) (fun (z : Int) (B : Option Addr) (cB : Nat) (b1 : List Int) (c1 : Int) => (pw p m - z).toNat) (1) (B) (cB) (b1) (c1) ⟨rfl, rfl, rfl, rfl, rfl, trivial⟩ (by first | exact cs _ _ | exact CSub.refl _) (⟨⟨by omega, by omega⟩, hd1⟩) (fun z B cB b1 c1 hI => ?_)
    obtain ⟨⟨hz0, hz1⟩, hd2⟩ := hI
    refine tS ?_
    refine tS ?_
    refine tR fun _ _ _ => ?_
    iterate 2 refine pV ?_
    refine sV (rNil rfl rfl) ?_
    refine sV (rFld rfl rfl) ?_
    refine sV (rLdF rfl rfl rfl) ?_
    refine eV (eCallV rfl rfl rfl (gf_Order g) ⟨rfl, trivial⟩ ?_)
    refine pV ?_
    refine tC rfl (fun h7 => ?_) (fun h7 => ?_)
    ·try simp only [zbA] at h7
     refine tK ?_
     refine tS ?_
     refine tB ?_
     refine tS ?_
     haveI : InB t.toNat ss.length := ⟨by omega⟩
     have hgt := hsg.get (show t.toNat < ss.length by omega)
     have hgt1 := hgt.1
     refine tr_draw [0, 1, 2, 3, 4, 5, 6, 7, 8, 9, 10, 11, 12, 13] [] mixed (by kernel_rfl) fun _ _ _ => ?_
     refine pV ?_
     refine sV (rNil rfl rfl) ?_
     refine sV (rFld rfl rfl) ?_
     refine sV (rLdF rfl rfl rfl) ?_
     iterate 2 refine pV ?_
     refine sV (rNil rfl rfl) ?_
     refine sV (rFld rfl rfl) ?_
     refine sV (rLdF rfl rfl rfl) ?_
     refine pV ?_
     refine sV (rIdxR rfl rfl rfl (by omega) (by omega) (by omega)) ?_
     refine sV (rLdR rfl rfl (by omega)) ?_
     refine eV (eCall1 rfl rfl rfl (gf_ScaleE g hg z (ss.getD t.toNat rowD).A _ (ss.getD t.toNat rowD).cap (ss.getD t.toNat rowD).xs rfl (by omega)) ⟨rfl, rfl, rfl, trivial⟩ ?_)
     rintro _ _ ⟨B9, rfl, rfl⟩
     refine pV ?_
     refine tS ?_
     refine tS ?_
     refine tR fun _ _ _ => ?_
     refine pV ?_
     refine sV (rLen rfl rfl) ?_
     refine pV ?_
     refine tB ?_
     refine tr_loop2 (fun (r : Int) (y : List Int) => [(0, .pointer (some ps)), (1, .slice W w.length cw), (3, .int .i64 more), (2, .int .i64 t), (9, .int .i64 z), (10, .slice B9 (ss.getD t.toNat rowD).xs.length (ss.getD t.toNat rowD).xs.length), (91, .int .i64 (ss.getD t.toNat rowD).xs.length), (92, .int .i64 r)]) (fun (r : Int) (y : List Int) => [ow B9 3 (ss.getD t.toNat rowD).xs.length (ints y), blk ps 65 [.pointer (some g.p), .slice T nt ct, .slice Sa ns cS, .slice B b1.length cB, .int .i64 c1], ow B 3 cB (ints b1), gfR g, ro T (hdrs ts), rowsR ts, ro Sa (hdrs ss), rowsR ss, ro W (ints w)]) (fun (r : Int) (y : List Int) => (0 ≤ r ∧ r ≤ ts.length) ∧ y.length = ts.length ∧ (∀ e : Nat, (e : Int) < r → y.getD e 0 = (el ((sclR (el z : El p m mod) (ss.getD t.toNat rowD).xs).getD e 0) + el (w.getD e 0) : El p m mod).1) ∧ ∀ e : Nat, r ≤ e → y.getD e 0 = (sclR (el z : El p m mod) (ss.getD t.toNat rowD).xs).getD e 0) (fun (r : Int) (y : List Int) => (ts.length - r).toNat) (0) ((sclR (el z : El p m mod) (ss.getD t.toNat rowD).xs)) ⟨rfl, rfl, rfl, rfl, rfl, rfl, rfl, rfl, trivial⟩ (by first | exact cs _ _ | exact CSub.refl _) (⟨⟨by omega, by omega⟩, by rw [sclR_length]; omega, fun e he => by omega, fun e he => rfl⟩) (fun r y hI => ?_)
     obtain ⟨⟨hr0, hr1⟩, hyl, hy1, hy2⟩ := hI
     refine tS ?_
     refine tR fun _ _ _ => ?_
     refine pV ?_
     refine tS ?_
     refine tC rfl (fun h11 => ?_) (fun h11 => ?_)
     ·try simp only [zbA] at h11
      refine tK ?_
      refine tS ?_
      refine tB ?_
      refine tS ?_
      refine tR fun _ _ _ => ?_
      iterate 2 refine pV ?_
      refine tr_draw [0, 1, 2, 3, 4, 5, 6, 7, 8, 9, 10, 11, 12, 13, 14, 15] [16] mixed (by kernel_rfl) fun _ _ _ => ?_
      iterate 3 refine pV ?_
      refine sV (rNil rfl rfl) ?_
      refine sV (rFld rfl rfl) ?_
      refine sV (rLdF rfl rfl rfl) ?_
      iterate 2 refine pV ?_
      refine sV (rIdxI rfl rfl rfl (by omega) (by omega) (by omega)) ?_
      refine sV (rLdI rfl rfl (by omega)) ?_
      iterate 2 refine pV ?_
      refine sV (rIdxI rfl rfl rfl (by omega) (by omega) (by omega)) ?_
      refine sV (rLdI rfl rfl (by omega)) ?_
      refine eV (eCallV rfl rfl rfl (gf_AddE g hg _ _) ⟨rfl, rfl, rfl, trivial⟩ ?_)
      refine sV (rIdxI rfl rfl rfl (by omega) (by omega) (by omega)) ?_
      refine eV (eStI rfl rfl rfl rfl (by omega) ?_)
      refine tR fun _ _ _ => ?_
      refine sV (rAdd rfl rfl rfl (by omega) (by omega)) ?_
      refine pV ?_
      refine ⟨r + 1, y.set r.toNat (el (y.getD r.toNat 0) + el (w.getD r.toNat 0) : El p m mod).1, ⟨rfl, rfl, rfl, rfl, rfl, rfl, rfl, rfl, trivial⟩, by first | exact cs _ _ | exact CSub.refl _, ?_⟩
      refine ⟨⟨⟨by omega, by omega⟩, by simpa using hyl, fun e he => ?_, fun e he => ?_⟩, by omega⟩
      ·rw [getD_set]
       by_cases h : r.toNat = e
       ·subst h; rw [if_pos ⟨rfl, by omega⟩, hy2 _ (by omega)]
       ·rw [if_neg (fun h' => h h'.1)]; exact hy1 e (by omega)
      ·rw [getD_set, if_neg (by omega)]; exact hy2 e (by omega)
     ·try simp only [zbA] at h11
      refine tE ?_
      have hre : r.toNat = ts.length := by omega
      have hyi : AllIn (pw p m) y := fun x hx => by
       obtain ⟨e, he, rfl⟩ := List.getElem_of_mem hx
       have h1 := hy1 e (by omega)
       rw [List.getD_eq_getElem?_getD, List.getElem?_eq_getElem he] at h1
       have h2 : y[e] = (el ((sclR (el z : El p m mod) (ss.getD t.toNat rowD).xs).getD e 0) + el (w.getD e 0) : El p m mod).1 := h1
       rw [h2]; exact El.bd _
      have hyv : (rw' y : Vc (El p m mod)) = rw' w + Vc.sc (el z) ((vsR ss).getD t.toNat 0) := Vc.ext fun e => by
       rw [rw_at, Vc.add_at, vsR_get, ← rw_sclR, rw_at, rw_at]
       by_cases he : e < ts.length
       ·rw [hy1 e (by omega), el_of, Rg.add_comm]
       ·rw [getD_out (l := y) (by omega), getD_out (l := w) (by omega), getD_out (by rw [sclR_length]; omega), el_zero, Rg.add_zero]
      refine tR fun _ _ _ => ?_
      iterate 3 refine pV ?_
      refine sV (rAdd rfl rfl rfl (by omega) (by omega)) ?_
      refine pV ?_
      refine sV (rSub rfl rfl rfl (by omega) (by omega)) ?_
      refine eV (eCallM2 rfl rfl rfl (ih (by omega) B9 _ _ y (by omega) (by omega) hyi (t + 1) (by omega) (by omega) B cB b1 c1 _ (.inr hd2)) ⟨rfl, rfl, rfl, rfl, trivial⟩ ?_)
      rintro _ _ _ ⟨rfl, B5, c5, b5, v5, rfl, rfl, hd5⟩
      refine tR fun _ _ _ => ?_
      refine pV ?_
      refine sV (rAdd rfl rfl rfl (by omega) (by omega)) ?_
      refine pV ?_
      refine ⟨z + 1, B5, c5, b5, v5, ⟨rfl, rfl, rfl, rfl, rfl, trivial⟩, by first | exact cs _ _ | exact CSub.refl _, ?_⟩
      refine ⟨⟨⟨by omega, by omega⟩, ?_⟩, by omega⟩
      rw [hyv, show (t + 1).toNat = t.toNat + 1 by omega, show (more - 1).toNat = more.toNat - 1 by omega] at hd5
      exact hd5.iff fun y => vis_add (by omega) (by omega) y
    ·try simp only [zbA] at h7
     refine tE ?_
     refine tR fun _ _ _ => ?_
     refine pV ?_
     refine sV (rAdd rfl rfl rfl (by omega) (by omega)) ?_
     refine pV ?_
     refine ⟨t + 1, B, cB, b1, c1, ⟨rfl, rfl, rfl, rfl, trivial⟩, by first | exact cs _ _ | exact CSub.refl _, ?_⟩
     refine ⟨⟨⟨by omega, by omega⟩, ?_⟩, by omega⟩
     rw [show (t + 1).toNat = t.toNat + 1 by omega]
     exact hd2.iff fun y => vis_next (by omega) (by omega) y
   ·try simp only [zbA] at h4
    refine tE ?_
    have htt : t.toNat = ss.length := by omega
    rw [htt] at hd1
    exact ⟨trivial, _, _, .nil, ⟨_, _, rfl, rfl, B, cB, b1, c1, rfl, rfl, hd1.iff fun y => vis_end (by omega) (by omega) hwl hwi y⟩, cs _ _, trivial, trivial, trivial⟩
theorem ord_from (ps : Addr) (g : GfM) {p m : Int} {mod : List Int} [hF : IsF p m mod] (hg : GOk g p m mod) (T : Option Addr) (nt ct : Nat) (ts : List RowM) (hnt : nt = ts.length) (t64 : ts.length ≤ 64) (htr : ∀ r ∈ ts, RowOk (pw p m) r.xs) (hn1 : 1 ≤ ts.length) (Sa : Option Addr) (ns cS : Nat) (ss : List RowM) (hns : ns = ss.length) (s64 : ss.length ≤ 64) (hsg : Gd (pw p m) ts.length ss) : ∀ (k : Nat), k ≤ 64 → ∀ (W : Option Addr) (nw cw : Nat) (w : List Int) (hnw : nw = w.length) (hwl : w.length = ts.length) (hwi : AllIn (pw p m) w) (i : Int) (hi0 : 0 ≤ i) (hi9 : i ≤ ss.length) (Bb : Option Addr) (cb : Nat) (b : List Int) (c : Int) (S0 : List Int → Prop) (hs : FrS (cstL (xss ts)) ts.length S0 Bb b c), Mut Tryz.prog 40 #[.pointer (some ps), .slice W nw cw, .int .i64 i, .int .i64 (k : Int)] [blk ps 65 [.pointer (some g.p), .slice T nt ct, .slice Sa ns cS, .slice Bb b.length cb, .int .i64 c], ow Bb 3 cb (ints b)] [gfR g, ro T (hdrs ts), rowsR ts, ro Sa (hdrs ss), rowsR ss, ro W (ints w)] (two (fun v ca cb => v = .tuple #[] ∧ ∃ (B2 : Option Addr) (cb2 : Nat) (b2 : List Int) (c2 : Int), ca = blk ps 65 [.pointer (some g.p), .slice T nt ct, .slice Sa ns cS, .slice B2 b2.length cb2, .int .i64 c2] ∧ cb = ow B2 3 cb2 (ints b2) ∧ DnS (cstL (xss ts)) ts.length (fun y => S0 y ∨ RcW p m mod ts.length ss i.toNat (k : Int).toNat (rw' w) y) b2 c2)) := fun k => by
 induction k with
 | zero =>
  intro _ W nw cw w hnw hwl hwi i hi0 hi9 Bb cb b c S0 hs
  subst hnw
  exact ord_fromS ps g hg T nt ct ts hnt t64 htr hn1 Sa ns cS ss hns s64 hsg 0 (by omega) (by omega) (fun h => absurd h (by omega)) W cw w hwl hwi i hi0 hi9 Bb cb b c S0 hs
 | succ k ih =>
  intro hk W nw cw w hnw hwl hwi i hi0 hi9 Bb cb b c S0 hs
  subst hnw
  refine ord_fromS ps g hg T nt ct ts hnt t64 htr hn1 Sa ns cS ss hns s64 hsg ((k + 1 : Nat) : Int) (by omega) (by omega) (fun _ => ?_) W cw w hwl hwi i hi0 hi9 Bb cb b c S0 hs
  have e : (((k + 1 : Nat) : Int) - 1) = (k : Int) := by omega
  rw [e]
  exact ih (by omega)
end Go.Proofs.YtfdjdokdabmmdaaGreat

namespace Go.Proofs.YtfdjdokdabmmdaaGreat
open Go.RowKit
section
variable {K : Type} [Fd K]
open Vc
theorem cntG_congr {c c' : Nat → K} : ∀ (d i : Nat), (∀ t, i ≤ t → t < i + d → c t = c' t) → cntG c i d = cntG c' i d
 | 0, _, _ => rfl
 | d + 1, i, h => by
  rw [cntG, cntG, h i (Nat.le_refl _) (by omega), cntG_congr d (i + 1) fun t h1 h2 => h t (by omega) (by omega)]
open Classical in
theorem cntG_snoc (c : Nat → K) : ∀ (d i : Nat), cntG c i (d + 1) = cntG c i d + (if c (i + d) = 0 then 0 else 1)
 | 0, i => by rw [cntG, cntG, Nat.add_zero, Nat.add_comm]; rfl
 | d + 1, i => by
  rw [cntG, cntG_snoc c d (i + 1), show cntG c i (d + 1) = (if c i = 0 then 0 else 1) + cntG c (i + 1) d from rfl, show i + 1 + d = i + (d + 1) by omega, Nat.add_assoc]
structure Sys (R V : List (Vc K)) (S : List Nat) : Prop where
 len : V.length = S.length
 rl : R.length = S.length
 sp : ∀ j, j < V.length → SpL R (V.getD j 0)
 one : ∀ j t, j < V.length → t < S.length → V.getD j 0 (S.getD t 0) = if t = j then 1 else 0
variable {R V : List (Vc K)} {S : List Nat}
theorem Sys.at (h : Sys R V S) (c : Nat → K) {t : Nat} (ht : t < S.length) : cmb c V (S.getD t 0) = c t := by
 have hl := h.len
 rw [cmb_at _ 0, Rg.sm_one (k := t) (by omega) (fun i hi hne => by rw [h.one i t hi ht, if_neg (fun e => hne e.symm), Rg.mul_zero]), h.one t t (by omega) ht, if_pos rfl, Rg.mul_one]
theorem Sys.cmb_in (h : Sys R V S) (c : Nat → K) : SpL R (cmb c V) := (cmb_sp c V).mono fun r hr => by
 obtain ⟨j, hj, rfl⟩ := List.getElem_of_mem hr
 have := h.sp j hj
 rwa [List.getD_eq_getElem?_getD, List.getElem?_eq_getElem hj] at this
theorem Sys.zero (h : Sys R V S) {v : Vc K} (hv : SpL R v) (h0 : ∀ t, t < S.length → v (S.getD t 0) = 0) : v = 0 := by
 have hl := h.len
 have hr := h.rl
 have hd := dep_of_more R (v :: V) (fun r hr => by
  rcases List.mem_cons.1 hr with rfl | hr
  ·exact hv
  ·obtain ⟨j, hj, rfl⟩ := List.getElem_of_mem hr
   have := h.sp j hj
   rwa [List.getD_eq_getElem?_getD, List.getElem?_eq_getElem hj] at this) (by simp; omega)
 obtain ⟨c, ⟨i, hi, hc⟩, he⟩ := hd
 rw [cmb] at he
 have hct : ∀ t, t < S.length → c (t + 1) = 0 := fun t ht => by
  have h1 := congrFun he (S.getD t 0)
  rw [add_at, sc_at, h0 t ht, Rg.mul_zero, h.at _ ht, Rg.zero_add] at h1
  exact h1
 have hz : cmb (fun i => c (i + 1)) V = 0 := by
  rw [cmb_congr (d := fun _ => (0 : K)) fun i hi => hct i (by omega)]; exact cmb_zero V
 rw [hz, add_zero] at he
 have hc0 : c 0 ≠ 0 := by
  match i, hi, hc with
  | 0, _, hc => exact hc
  | i + 1, hi, hc => exact absurd (hct i (by simp at hi; omega)) hc
 exact ext fun j => by
  have h1 := congrFun he j
  rw [sc_at] at h1
  rcases Fd.mul_eq_zero h1 with h2 | h2
  ·exact absurd h2 hc0
  ·exact h2
theorem Sys.eq (h : Sys R V S) {y : Vc K} (hy : SpL R y) : y = cmb (fun t => y (S.getD t 0)) V := by
 have h1 := h.zero (v := y - cmb (fun t => y (S.getD t 0)) V) (Sp.minus hy (h.cmb_in _)) fun t ht => by
  rw [sub_at, h.at _ ht, Rg.sub_self]
 exact ext fun j => by
  have h2 := congrFun h1 j
  rw [sub_at] at h2
  exact Rg.eq_of_sub h2
theorem Sys.rch (h : Sys R V S) {h0 : Nat → K} {r : Nat} {y : Vc K} : Rch V 0 r (cmb h0 V) y ↔ SpL R y ∧ cntG (fun t => y (S.getD t 0) - h0 t) 0 S.length ≤ r := by
 have hl := h.len
 constructor
 ·intro hr
  obtain ⟨c, h1, h2⟩ := of_rch hr (Nat.zero_le _)
  rw [Nat.sub_zero, lcF_cmb] at h1
  rw [Nat.sub_zero, hl] at h2
  rw [h1]
  refine ⟨(h.cmb_in h0).plus (h.cmb_in c), ?_⟩
  rw [cntG_congr (c' := c) S.length 0 fun t _ ht => ?_]
  ·exact h2
  ·rw [add_at, h.at _ (by omega), h.at _ (by omega)]
   grind
 ·rintro ⟨h1, h2⟩
  have e : y = cmb h0 V + cmb (fun t => y (S.getD t 0) - h0 t) V := by
   rw [← cmb_add]
   have e2 := h.eq h1
   refine e2.trans (cmb_congr fun i _ => ?_)
   grind
  have h3 := rch_of (R := V) (fun t => y (S.getD t 0) - h0 t) V.length 0 r (cmb h0 V) (Nat.zero_add _) (by rw [hl]; exact h2)
  rw [lcF_cmb, ← e] at h3
  exact h3
end
def difT (bs y h : List Int) : Nat → Nat
 | 0 => 0
 | k + 1 => difT bs y h k + if y.getD (bs.getD k 0).toNat 0 ≠ h.getD (bs.getD k 0).toNat 0 then 1 else 0
theorem difT_le (bs y h : List Int) : ∀ k, difT bs y h k ≤ k
 | 0 => Nat.le_refl _
 | k + 1 => by
  have := difT_le bs y h k
  rw [difT]; split <;> omega
section
variable {p m : Int} {mod : List Int} [hF : IsF p m mod]
theorem difT_cnt {bs y h : List Int} (hy : AllIn (pw p m) y) (hh : AllIn (pw p m) h) : ∀ k, k ≤ bs.length → cntG (fun t => (rw' y : Vc (El p m mod)) ((bs.map Int.toNat).getD t 0) - el (h.getD (bs.getD t 0).toNat 0)) 0 k = difT bs y h k
 | 0, _ => rfl
 | k + 1, hk => by
  have hq := hF.q2
  rw [cntG_snoc, difT_cnt hy hh k (by omega), difT, Nat.zero_add, rw_at, toN_getD]
  have e1 := el_in (p := p) (m := m) (mod := mod) (hy.get (by omega) (bs.getD k 0).toNat)
  have e2 := el_in (p := p) (m := m) (mod := mod) (hh.get (by omega) (bs.getD k 0).toNat)
  by_cases e : y.getD (bs.getD k 0).toNat 0 = h.getD (bs.getD k 0).toNat 0
  ·rw [e, Rg.sub_self, if_pos rfl, if_neg (fun h' => h' rfl)]
  ·have hz : ¬ ((el (y.getD (bs.getD k 0).toNat 0) : El p m mod) - el (h.getD (bs.getD k 0).toNat 0) = 0) := fun h0 => e (by
    have h1 := Rg.eq_of_sub h0
    rw [← e1, ← e2, h1])
   rw [if_neg hz, if_pos e]
def Cand (p m : Int) (mod : List Int) [hF : IsF p m mod] (rs : List RowM) (n : Nat) (bs h : List Int) (r : Nat) (y : List Int) : Prop := y.length = n ∧ AllIn (pw p m) y ∧ Vc.SpL (vsR rs : List (Vc (El p m mod))) (rw' y) ∧ difT bs y h bs.length ≤ r
theorem rc_cand {rs ss : List RowM} {n : Nat} {bs h w : List Int} {r : Nat} (hS : Sys (vsR rs : List (Vc (El p m mod))) (vsR ss) (bs.map Int.toNat)) (hh : AllIn (pw p m) h) (hw : (rw' w : Vc (El p m mod)) = Vc.cmb (fun t => el (h.getD (bs.getD t 0).toNat 0)) (vsR ss)) (y : List Int) :
  RcW p m mod n ss 0 r (rw' w) y ↔ Cand p m mod rs n bs h r y := by
 unfold RcW Cand
 rw [hw]
 constructor
 ·rintro ⟨h1, h2, h3⟩
  obtain ⟨h4, h5⟩ := hS.rch.1 h3
  rw [List.length_map, difT_cnt h2 hh _ (Nat.le_refl _)] at h5
  exact ⟨h1, h2, h4, h5⟩
 ·rintro ⟨h1, h2, h4, h5⟩
  refine ⟨h1, h2, hS.rch.2 ⟨h4, ?_⟩⟩
  rw [List.length_map, difT_cnt h2 hh _ (Nat.le_refl _)]
  exact h5
end
end Go.Proofs.YtfdjdokdabmmdaaGreat

set_option maxRecDepth 100000
set_option maxHeartbeats 1000000
namespace Go.Proofs.YtfdjdokdabmmdaaGreat
open Go.RowKit
instance bdSr : BdTy Tryz.prog 65 [.pointer none, .slice none 0 0, .slice none 0 0, .slice none 0 0, .int .i64 0] [(0, 1), (1, 1), (2, 1), (3, 1), (4, 1)] := bdTy_of (z := .agg #[.pointer none, .slice none 0 0, .slice none 0 0, .slice none 0 0, .int .i64 0]) (by kernel_rfl) (by kernel_rfl) (by kernel_rfl) rfl
theorem cnt_facts {q : Int} {n i : Nat} (hq2 : 2 ≤ q) (hN : q.toNat ^ n ≤ 65536) (hi : i ≤ n) : n ≤ 16 ∧ (q - 1) ^ i = (((q.toNat - 1) ^ i : Nat) : Int) ∧ (q.toNat - 1) ^ i ≤ 65536 ∧ sbin (q.toNat - 1) n (i + 1) = sbin (q.toNat - 1) n i + bin n i * (q.toNat - 1) ^ i ∧ sbin (q.toNat - 1) n (i + 1) ≤ 65536 := by
 have h1 : 2 ^ n ≤ q.toNat ^ n := Nat.pow_le_pow_left (by omega) n
 refine ⟨?_, ?_, ?_, rfl, ?_⟩
 ·rcases Nat.lt_or_ge 16 n with h | h
  ·have : 2 ^ 17 ≤ 2 ^ n := Nat.pow_le_pow_right (by omega) h
   omega
  ·exact h
 ·rw [Int.natCast_pow, show ((q.toNat - 1 : Nat) : Int) = q - 1 by omega]
 ·have a := Nat.pow_le_pow_left (show q.toNat - 1 ≤ q.toNat by omega) i
  have b := Nat.pow_le_pow_right (show 0 < q.toNat by omega) hi
  omega
 ·have a := sbin_le (q.toNat - 1) n (i + 1)
  rw [show q.toNat - 1 + 1 = q.toNat by omega] at a
  omega
section
variable {p m : Int} {mod : List Int} [hF : IsF p m mod]
theorem sys_of {rs rc us ss : List RowM} {bs : List Int} (hrc : xss rc = (xss rs).map (pkL bs)) (hbl : bs.length = rs.length) (hsl : ss.length = rs.length)
  (hinv : ∀ j t : Nat, j < rs.length → t < rs.length → Vc.cmb (fun i => (el ((us.getD j rowD).xs.getD i 0) : El p m mod)) (vsR rc) t = if t = j then 1 else 0)
  (hss : ∀ j : Nat, j < rs.length → (vsR ss : List (Vc (El p m mod))).getD j 0 = Vc.cmb (fun i => el ((us.getD j rowD).xs.getD i 0)) (vsR rs)) : Sys (vsR rs : List (Vc (El p m mod))) (vsR ss) (bs.map Int.toNat) := by
 refine ⟨by rw [vsR_length, List.length_map]; omega, by rw [vsR_length, List.length_map]; omega, fun j hj => ?_, fun j t hj ht => ?_⟩
 ·rw [vsR_length] at hj
  rw [hss j (by omega)]; exact Vc.cmb_sp _ _
 ·rw [vsR_length] at hj
  rw [List.length_map] at ht
  have h := hinv j t (by omega) (by omega)
  rw [vsR_pk hrc, Vc.pk_cmb, Vc.pk_at _ (by rw [List.length_map]; exact ht)] at h
  rw [hss j (by omega)]; exact h
theorem ful_of {rs rc : List RowM} {bs : List Int} (hrc : xss rc = (xss rs).map (pkL bs)) (hi : Vc.Ind (vsR rs : List (Vc (El p m mod))) (bs.map Int.toNat)) {n : Nat} (hn : n = bs.length) : ∀ (V : List (Vc (El p m mod))) (qs : List Nat), Vc.Rr n V qs → (∀ u, Vc.SpL V u ↔ Vc.SpL (vsR rc) u) → n ≤ qs.length := fun V qs h1 h2 => by
 subst hn
 have h3 := (Vc.ind_iff (S := bs.map Int.toNat) (R := vsR rs) (by rw [List.length_map]; exact h1) (fun u => by rw [← vsR_pk hrc]; exact h2 u)).2 hi
 rw [List.length_map] at h3
 omega
end
theorem ord_Decode1_ent : Enters Tryz.prog 8 := enters_of Tryz.func8 (by kernel_rfl) (by kernel_rfl)
theorem ord_Decode1 (p m : Int) (A : Option Addr) (c : Nat) (mod : List Int) [hF : IsF p m mod] (w : Int) (Aa : Option Addr) (n ca : Nat) (rs : List RowM) (hn : n = rs.length) (h9 : rs.length ≤ 256) (hc : CodeOk p m mod w rs) (T : Option Addr) (nt ct : Nat) (ts : List RowM) (hnt : nt = ts.length) (t9 : ts.length ≤ 17592186044415) (t8 : ∀ r ∈ ts, r.xs.length ≤ 17592186044415) (ho : ordC (pw p m) w (xss ts) = 0) (r : Nat) (hr : r ≤ n) (hN : (pw p m).toNat ^ rs.length ≤ 65536) (hk : 1 ≤ n) :
  Pure Tryz.prog 8 #[.agg #[.int .i64 p, .int .i64 m, .slice A mod.length c, .int .i64 w, .slice Aa n ca], .slice T nt ct, .int .i64 r] [ro A (ints mod), ro Aa (hdrs rs), rowsR rs, ro T (hdrs ts), rowsR ts] (one (fun v ch => ∃ B cb2 o bs, v = .tuple #[.slice B o.length cb2, .int .i64 0] ∧ ch = ow B 3 cb2 (ints o) ∧ bs.length = rs.length ∧ (1 ≤ rs.length → ∃ ob, OrdS (rlF ts) ts.length ob ∧ BasOf p m mod rs ob bs) ∧ o.length = ts.length ∧ Bst (cstL (xss ts)) (Cand p m mod rs ts.length bs (hardL ts) r) o)) := by
 have h9c := h9
 have hq2 := hF.q2
 have hq256 := hF.out.1.1.q
 have htab := ordC_zero ho
 have htl := htab.len
 have hgd := hc.good
 have hn64 := hc.n64
 have hn1 := hc.n1
 have hlen := hc.len
 have hml := hF.short
 have hform := hc.form
 have hk16 := (cnt_facts (i := 0) hq2 hN (Nat.zero_le _)).1
 refine pure_of (args := [.agg #[.int .i64 p, .int .i64 m, .slice A mod.length c, .int .i64 w, .slice Aa n ca], .slice T nt ct, .int .i64 r]) 173 Tryz.func8 rfl rfl rfl ord_Decode1_ent ⟨id, id, id, id, id, trivial⟩ (fun w0 => ?_)
 refine tS ?_
 refine tR fun _ _ _ => ?_
 refine eV (eBox rfl rfl rfl rfl rfl (fun p0 => ?_))
 iterate 2 refine pV ?_
 refine tS ?_
 refine tR fun _ _ _ => ?_
 refine sV (rLdS rfl rfl rfl) ?_
 refine pV ?_
 refine eV (eCall1 rfl rfl rfl (ord_checkedG p m A c mod w Aa n ca rs hn h9 hc T nt ct ts hnt t9 t8 ho) ⟨rfl, rfl, trivial⟩ ?_)
 rintro _ _ ⟨g, rfl, rfl, hg⟩
 iterate 5 refine pV ?_
 refine tS ?_
 refine tS ?_
 refine tR fun _ _ _ => ?_
 iterate 2 refine pV ?_
 refine tC rfl (fun h2 => ?_) (fun h2 => ?_)
 ·try simp only [zbA] at h2
  first | exact absurd trivial h2 | exact absurd rfl h2 | omega | (exact absurd h2 (by simp)) --done
 ·try simp only [zbA] at h2
  refine tK ?_
  refine tS ?_
  refine tR fun _ _ _ => ?_
  refine sV (rFld rfl rfl) ?_
  refine sV (rLdF rfl rfl rfl) ?_
  refine sV (rLen rfl rfl) ?_
  refine pV ?_
  refine tS ?_
  refine tS ?_
  refine tR fun _ _ _ => ?_
  iterate 3 refine pV ?_
  refine stg rfl rfl rfl rfl rfl (fun hb => by (have hq := hb; try simp only [zbA] at hq); exact rMove rfl rfl) ?_
  refine stg rfl rfl rfl rfl rfl (fun hb => by (have hq := hb; try simp only [zbA] at hq); exact rMove rfl rfl) ?_
  refine stg rfl rfl rfl rfl rfl (fun hb => by (have hq := hb; try simp only [zbA] at hq); exact rGtr rfl (evg rfl hb) (evg rfl hb)) ?_
  refine sV (rOrB rfl rfl rfl rfl) ?_
  refine tC rfl (fun h5 => ?_) (fun h5 => ?_)
  ·try simp only [zbA] at h5
   omega --done
  ·try simp only [zbA] at h5
   refine tK ?_
   refine tS ?_
   refine tR fun _ _ _ => ?_
   refine pV ?_
   refine tS ?_
   refine tS ?_
   refine tR fun _ _ _ => ?_
   refine pV ?_
   refine sV (rAdd rfl rfl rfl (by omega) (by omega)) ?_
   refine pV ?_
   refine tB ?_
   refine tr_loop2 (fun (i : Int) (o : Int) => [(11, .int .i64 o), (52, .int .i64 (r + 1)), (53, .int .i64 i), (1, .slice T nt ct), (2, .int .i64 r), (3, .pointer (some p0)), (8, .pointer (some g.p)), (10, .int .i64 n)]) (fun (i : Int) (o : Int) => [gfN g, blk p0 27 [.int .i64 p, .int .i64 m, .slice A mod.length c, .int .i64 w, .slice Aa n ca], ro A (ints mod), ro Aa (hdrs rs), rowsR rs, ro T (hdrs ts), rowsR ts]) (fun (i : Int) (o : Int) => (0 ≤ i ∧ i ≤ r + 1) ∧ o = (sbin ((pw p m).toNat - 1) n i.toNat : Int)) (fun (i : Int) (o : Int) => (r + 1 - i).toNat) (0) (0) ⟨rfl, rfl, rfl, rfl, rfl, rfl, rfl, rfl, trivial⟩ (by first | exact cs _ _ | exact CSub.refl _) (⟨⟨by omega, by omega⟩, rfl⟩) (fun i o hI => ?_)
   obtain ⟨⟨hi0, hi1⟩, ho2⟩ := hI
   refine tS ?_
   refine tR fun _ _ _ => ?_
   refine pV ?_
   refine tS ?_
   refine tC rfl (fun h9 => ?_) (fun h9 => ?_)
   ·try simp only [zbA] at h9
    refine tK ?_
    refine tS ?_
    refine tB ?_
    refine tS ?_
    refine tR fun _ _ _ => ?_
    iterate 2 refine pV ?_
    refine tS ?_
    have hgq := hg.eq
    obtain ⟨_, hf1, hf2, hf3, hf4⟩ := cnt_facts (q := pw p m) (n := n) (i := i.toNat) hq2 (by rw [hn]; exact hN) (by omega)
    refine tR fun _ _ _ => ?_
    iterate 2 refine pV ?_
    refine eV (eCallV rfl rfl rfl (num_Choose n i (by omega) (by omega) (by omega)) ⟨rfl, rfl, rfl, trivial⟩ ?_)
    iterate 5 refine pV ?_
    refine tS ?_
    refine tR fun _ _ _ => ?_
    refine pV ?_
    refine eV (eCallV rfl rfl rfl (gf_Order g) ⟨rfl, trivial⟩ ?_)
    rw [hgq]
    refine sV (rSub rfl rfl rfl (by omega) (by omega)) ?_
    refine pV ?_
    refine eV (eCallV rfl rfl rfl (num_Exp (pw p m - 1) i (by omega) (by omega) (by omega) (by omega) (by omega)) ⟨rfl, rfl, rfl, trivial⟩ ?_)
    iterate 5 refine pV ?_
    refine tS ?_
    refine tS ?_
    have hmu : (bin (n : Int).toNat i.toNat : Int) * (pw p m - 1) ^ i.toNat = ((bin n i.toNat * (pw p m).toNat.pred ^ i.toNat : Nat) : Int) := by
     rw [hf1, Int.toNat_natCast, Int.natCast_mul]; rfl
    have hmu2 : bin n i.toNat * (pw p m).toNat.pred ^ i.toNat = bin n i.toNat * ((pw p m).toNat - 1) ^ i.toNat := rfl
    refine tR fun _ _ _ => ?_
    iterate 3 refine pV ?_
    refine stg rfl rfl rfl rfl rfl (fun hb => by (have hq := hb; try simp only [zbA] at hq); exact rMove rfl rfl) ?_
    refine stg rfl rfl rfl rfl rfl (fun hb => by (have hq := hb; try simp only [zbA] at hq); exact rNeq rfl (evg rfl hb) rfl) ?_
    refine sV (rOrB rfl rfl rfl rfl) ?_
    refine pV ?_
    refine stg rfl rfl rfl rfl rfl (fun hb => by (have hq := hb; try simp only [zbA] at hq); exact rMove rfl rfl) ?_
    refine stg rfl rfl rfl rfl rfl (fun hb => by (have hq := hb; try simp only [zbA] at hq); exact rMove rfl rfl) ?_
    refine stg rfl rfl rfl rfl rfl (fun hb => by (have hq := hb; try simp only [zbA] at hq); exact rMul rfl (evg rfl hb) (evg rfl hb) (by omega) (by omega)) ?_
    refine stg rfl rfl rfl rfl rfl (fun hb => by (have hq := hb; try simp only [zbA] at hq); exact rMove rfl rfl) ?_
    refine stg rfl rfl rfl rfl rfl (fun hb => by (have hq := hb; try simp only [zbA] at hq); exact rSub rfl rfl (evg rfl hb) (by omega) (by omega)) ?_
    refine stg rfl rfl rfl rfl rfl (fun hb => by (have hq := hb; try simp only [zbA] at hq); exact rGtr rfl (evg rfl hb) (evg rfl hb)) ?_
    refine sV (rOrB rfl rfl rfl rfl) ?_
    refine tC rfl (fun h13 => ?_) (fun h13 => ?_)
    ·try simp only [zbA] at h13
     have h14 := h13.resolve_left (fun h => by rcases h with h | h <;> exact h trivial)
     omega --done
    ·try simp only [zbA] at h13
     refine tK ?_
     refine tR fun _ _ _ => ?_
     iterate 3 refine pV ?_
     refine sV (rMul rfl rfl rfl (by omega) (by omega)) ?_
     refine sV (rAdd rfl rfl rfl (by omega) (by omega)) ?_
     refine pV ?_
     refine tR fun _ _ _ => ?_
     refine sV (rAdd rfl rfl rfl (by omega) (by omega)) ?_
     refine pV ?_
     refine ⟨i + 1, o + (bin (n : Int).toNat i.toNat : Int) * (pw p m - 1) ^ i.toNat, ⟨rfl, rfl, rfl, rfl, rfl, rfl, rfl, rfl, trivial⟩, by first | exact cs _ _ | exact CSub.refl _, ?_⟩
     exact ⟨⟨⟨by omega, by omega⟩, by rw [show (i + 1).toNat = i.toNat + 1 by omega]; omega⟩, by omega⟩
   ·try simp only [zbA] at h9
    refine tE ?_
    refine tS ?_
    refine tR fun _ _ _ => ?_
    iterate 2 refine pV ?_
    refine sV (rBuild rfl rfl) ?_
    refine eV (eBox rfl rfl rfl rfl rfl (fun p17 => ?_))
    refine pV ?_
    refine tS ?_
    refine tR fun _ _ _ => ?_
    refine sV (rFld rfl rfl) ?_
    refine sV (rLdF rfl rfl rfl) ?_
    refine eV (eMakeI rfl rfl rfl rfl rfl (by omega) (by omega) (by omega) (fun A18 => ?_))
    refine pV ?_
    refine tS ?_
    refine tS ?_
    refine tR fun _ _ _ => ?_
    iterate 2 refine pV ?_
    refine tC rfl (fun h19 => ?_) (fun h19 => ?_)
    ·try simp only [zbA] at h19
     refine tS ?_
     refine tR fun _ _ _ => ?_
     refine sV (rLdS rfl rfl rfl) ?_
     refine pV ?_
     refine eV (eCall1 rfl rfl rfl (ord_basis p m A c mod w Aa n ca rs hn h9c hc T nt ct ts hnt htab) ⟨rfl, rfl, trivial⟩ ?_)
     rintro _ _ ⟨B20, c20, bs, ob, rfl, rfl, hO, hB⟩
     refine pV ?_
     refine tS ?_
     have hbl : bs.length = rs.length := hB.dim hO (show formP p m mod ts.length rs by rw [show ts.length = w.toNat by omega]; exact hform)
     have hind := indB_iff.1 hB.ind
     have hbb : ∀ b ∈ bs, 0 ≤ b ∧ b < w := fun b hb => by
      obtain ⟨E, qs, h1, h2, rfl⟩ := hB
      obtain ⟨q, hq, rfl⟩ := List.mem_map.1 hb
      have h3 := hO.bd
      obtain ⟨z, hz, rfl⟩ := List.getElem_of_mem hq
      have h4 := h1.lt z hz
      rw [List.getD_eq_getElem?_getD, List.getElem?_eq_getElem hz] at h4
      have h5 := h3 _ (getD_mem (show qs[z] < ob.length from h4) 0)
      omega
     refine tR fun _ _ _ => ?_
     refine sV (rFld rfl rfl) ?_
     refine sV (rLdF rfl rfl rfl) ?_
     refine sV (rFld rfl rfl) ?_
     refine sV (rLdF rfl rfl rfl) ?_
     refine sV (rBuild rfl rfl) ?_
     refine eV (eAlloc rfl rfl rfl (fun p21 => ?_))
     refine eV (eStS rfl rfl rfl rfl rfl rfl ?_)
     refine tS ?_
     refine tR fun _ _ _ => ?_
     refine sV (rFld rfl rfl) ?_
     refine sV (rLdSF rfl rfl) ?_
     refine sV (rLdS rfl rfl rfl) ?_
     refine pV ?_
     refine eV (eCall2 rfl rfl rfl (mat_Columns p m A c mod w Aa n ca rs hn h9c hc B20 _ c20 bs rfl (by omega) hbb) ⟨rfl, rfl, rfl, trivial⟩ ?_)
     rintro _ _ _ ⟨Bc, cc, rc, rfl, rfl, rfl, hrc⟩
     iterate 3 refine pV ?_
     refine eV (eAlloc rfl rfl rfl (fun p22a => ?_))
     refine eV (eStS rfl rfl rfl rfl rfl rfl ?_)
     refine pV ?_
     refine tS ?_
     have hrcl : rc.length = rs.length := by have := congrArg List.length hrc; simpa using this
     have hgc : Gd (pw p m) ((bs.length : Nat) : Int).toNat rc := by rw [Int.toNat_natCast]; exact gd_pk (by omega) hgd hrc
     refine tR fun _ _ _ => ?_
     refine sV (rFld rfl rfl) ?_
     refine sV (rLdSF rfl rfl) ?_
     refine sV (rLdS rfl rfl rfl) ?_
     refine eV (eCall2 rfl rfl rfl (mat_Inverse p m A c mod bs.length Bc _ cc rc rfl (by omega) (by omega) hgc (ful_of hrc hind (by omega))) ⟨rfl, rfl, trivial⟩ ?_)
     rintro _ _ _ ⟨Bi, us, rfl, rfl, rfl, hul, hug, hinv⟩
     iterate 3 refine pV ?_
     refine eV (eAlloc rfl rfl rfl (fun p23a => ?_))
     refine eV (eStS rfl rfl rfl rfl rfl rfl ?_)
     refine pV ?_
     refine tS ?_
     refine tS ?_
     refine tR fun _ _ _ => ?_
     iterate 2 refine pV ?_
     refine tC rfl (fun h24 => ?_) (fun h24 => ?_)
     ·try simp only [zbA] at h24
      first | exact absurd trivial h24 | exact absurd rfl h24 | omega | (exact absurd h24 (by simp)) --done
     ·try simp only [zbA] at h24
      refine tK ?_
      refine tS ?_
      refine tR fun _ _ _ => ?_
      refine sV (rFld rfl rfl) ?_
      refine sV (rLdSF rfl rfl) ?_
      refine sV (rLdS rfl rfl rfl) ?_
      refine sV (rLdS rfl rfl rfl) ?_
      refine eV (eCall2 rfl rfl rfl (mat_Mul p m A c mod bs.length Bi _ rc.length us hul.symm w Aa n ca rs hn (by omega) (by omega) (by omega) (by omega) (by omega) (by omega) (by omega) hug hgd) ⟨rfl, rfl, rfl, trivial⟩ ?_)
      rintro _ _ _ ⟨Bm, cm, ss, rfl, rfl, rfl, hsl, hsg, hss⟩
      iterate 3 refine pV ?_
      refine eV (eAlloc rfl rfl rfl (fun p26a => ?_))
      refine eV (eStS rfl rfl rfl rfl rfl rfl ?_)
      refine pV ?_
      refine tS ?_
      refine tR fun _ _ _ => ?_
      refine pV ?_
      refine sV (rFld rfl rfl) ?_
      refine sV (rLdF rfl rfl rfl) ?_
      refine sV (rNil rfl rfl) ?_
      refine sV (rFld rfl rfl) ?_
      refine eV (eStF rfl rfl rfl rfl rfl (by simp) rfl rfl ?_)
      simp only [List.set_cons_succ, List.set_cons_zero]
      refine tS ?_
      refine tR fun _ _ _ => ?_
      refine pV ?_
      refine eV (eCall2 rfl rfl rfl (ord_hard T nt ct ts hnt (pw p m) hq2 hq256 (by omega) htab.row) ⟨rfl, trivial⟩ ?_)
      rintro _ _ _ ⟨B28, c28, D28, d28, rfl, rfl, rfl⟩
      iterate 5 refine pV ?_
      refine tS ?_
      have hsys := sys_of hrc hbl (by omega) (fun j t hj ht => hinv j t (by omega) (by omega)) (fun j hj => hss j (by omega))
      have hhl := hardL_length ts
      have hhi := hardL_in (by omega) htab.row
      refine tR fun _ _ _ => ?_
      refine pV ?_
      refine tS ?_
      refine tS ?_
      refine tR fun _ _ _ => ?_
      refine pV ?_
      refine sV (rLen rfl rfl) ?_
      refine pV ?_
      refine tB ?_
      refine tr_nilI 3 ?_
      refine tr_loop4 (fun (k2 : Int) (AL : Option Addr) (cl : Nat) (l : List Int) => [(29, .slice AL l.length cl), (143, .slice B20 bs.length c20), (144, .int .i64 bs.length), (145, .int .i64 k2), (2, .int .i64 r), (3, .pointer (some p0)), (17, .pointer (some p17)), (25, .pointer (some p26a)), (27, .slice B28 (hardL ts).length c28)]) (fun (k2 : Int) (AL : Option Addr) (cl : Nat) (l : List Int) => [ow AL 3 cl (ints l), ow B20 3 c20 (ints bs), blk p17 65 [.pointer (some g.p), .slice T nt ct, .slice Bm ss.length cm, .slice none 0 0, .int .i64 0], ow Bm 22 cm (hdrs ss), rowsCh 3 ss, blk p26a 67 [.int .i64 w, .slice Bm ss.length cm], ow B28 3 c28 (ints (hardL ts)), gfN g, blk p0 27 [.int .i64 p, .int .i64 m, .slice A mod.length c, .int .i64 w, .slice Aa n ca], ro A (ints mod), ro Aa (hdrs rs), rowsR rs, ro T (hdrs ts), rowsR ts]) (fun (k2 : Int) (AL : Option Addr) (cl : Nat) (l : List Int) => (0 ≤ k2 ∧ k2 ≤ bs.length) ∧ l = (bs.take k2.toNat).map fun b => (hardL ts).getD b.toNat 0) (fun (k2 : Int) (AL : Option Addr) (cl : Nat) (l : List Int) => (bs.length - k2).toNat) (0) (none) (0) ([]) ⟨rfl, rfl, rfl, rfl, rfl, rfl, rfl, rfl, rfl, trivial⟩ (by first | exact cs _ _ | exact CSub.refl _) (⟨⟨by omega, by omega⟩, rfl⟩) (fun k2 AL cl l hI => ?_)
      obtain ⟨⟨hk20, hk21⟩, hl2⟩ := hI
      have hl3 : l.length = k2.toNat := by rw [hl2, List.length_map, List.length_take]; omega
      refine tS ?_
      refine tR fun _ _ _ => ?_
      refine pV ?_
      refine tS ?_
      refine tC rfl (fun h31 => ?_) (fun h31 => ?_)
      ·try simp only [zbA] at h31
       refine tK ?_
       refine tS ?_
       refine tB ?_
       refine tS ?_
       refine tR fun _ _ _ => ?_
       refine sV (rIdxI rfl rfl rfl (by omega) (by omega) (by omega)) ?_
       refine sV (rLdI rfl rfl (by omega)) ?_
       refine pV ?_
       have hbk := hbb _ (getD_mem (show k2.toNat < bs.length by omega) 0)
       refine tR fun _ _ _ => ?_
       iterate 3 refine pV ?_
       refine sV (rIdxI rfl rfl rfl (by omega) (by omega) (by omega)) ?_
       refine sV (rLdI rfl rfl (by omega)) ?_
       refine eV (eLit1I rfl rfl rfl rfl (fun A33 => ?_))
       refine eV (eAppI rfl rfl rfl rfl rfl (by first | rfl | simp | omega) (by first | rfl | simp | omega) (by first | omega | (simp; omega)) (fun A33a c33a => ?_))
       refine pV ?_
       refine tR fun _ _ _ => ?_
       refine sV (rAdd rfl rfl rfl (by omega) (by omega)) ?_
       refine pV ?_
       refine ⟨k2 + 1, A33a, c33a, l ++ [(hardL ts).getD (bs.getD k2.toNat 0).toNat 0], ⟨rfl, rfl, rfl, rfl, rfl, rfl, rfl, rfl, rfl, trivial⟩, by first | exact cs _ _ | exact CSub.refl _, ?_⟩
       exact ⟨⟨⟨by omega, by omega⟩, by rw [show (k2 + 1).toNat = k2.toNat + 1 by omega, take_mapQ (by omega), ← hl2]⟩, by omega⟩
      ·try simp only [zbA] at h31
       refine tE ?_
       have hbk2 : bs.take k2.toNat = bs := List.take_of_length_le (by omega)
       rw [hbk2] at hl2
       have hll : l.length = bs.length := by rw [hl2, List.length_map]
       have hlg : ∀ t, t < bs.length → l.getD t 0 = (hardL ts).getD (bs.getD t 0).toNat 0 := fun t ht => by
        rw [hl2, List.getD_eq_getElem?_getD, List.getElem?_map, List.getElem?_eq_getElem ht, List.getD_eq_getElem?_getD (l := bs), List.getElem?_eq_getElem ht]; rfl
       have hli : AllIn (pw p m) l := fun x hx => by
        rw [hl2] at hx
        obtain ⟨b, _, rfl⟩ := List.mem_map.1 hx
        exact hhi.get (by omega) _
       refine tR fun _ _ _ => ?_
       refine sV (rFld rfl rfl) ?_
       refine sV (rLdSF rfl rfl) ?_
       refine pV ?_
       refine sV (rLdS rfl rfl rfl) ?_
       refine eV (eCall1 rfl rfl rfl (mat_Vec p m A c mod w (by omega) (by omega) Bm _ cm ss rfl AL _ cl l rfl (by omega) hli (by omega) hsg) ⟨rfl, rfl, rfl, trivial⟩ ?_)
       rintro _ _ ⟨Bo, co, w0, rfl, rfl, hol, hoi, hoe⟩
       iterate 4 refine pV ?_
       refine tS ?_
       have hfr := ord_from p17 g hg T nt ct ts hnt (by omega) htab.row (by omega) Bm _ cm ss rfl (by omega) (by rw [show ts.length = w.toNat by omega]; exact hsg) r (by omega) Bo _ co w0 rfl (by omega) hoi 0 (by omega) (by omega) none 0 [] 0 (fun _ => False) (.inl ⟨rfl, rfl, fun y h => h⟩)
       simp only [List.length_nil] at hfr
       refine tr_nilI 3 ?_
       refine tR fun _ _ _ => ?_
       iterate 3 refine pV ?_
       refine eV (eCallM2 rfl rfl rfl (hfr) ⟨rfl, rfl, rfl, rfl, trivial⟩ ?_)
       rintro _ _ _ ⟨rfl, B2, cb2, b2, c2, rfl, rfl, hd⟩
       refine tS ?_
       refine tR fun _ _ _ => ?_
       refine pV ?_
       refine sV (rNil rfl rfl) ?_
       refine sV (rFld rfl rfl) ?_
       refine sV (rLdF rfl rfl rfl) ?_
       iterate 2 refine pV ?_
       have hw0 : (rw' w0 : Vc (El p m mod)) = Vc.cmb (fun t => el ((hardL ts).getD (bs.getD t 0).toNat 0)) (vsR ss) := by
        rw [hoe]; exact Vc.cmb_congr fun i hi => by rw [hlg i (by rw [vsR_length] at hi; omega)]
       refine tr_ret ⟨trivial, _, _, rfl, ⟨_, rfl, B2, cb2, b2, bs, rfl, rfl, hbl, fun _ => ⟨ob, hO, hB⟩, hd.len, hd.best.iff fun y => ?_⟩, cs _ _, trivial, trivial⟩
       have e : (r : Int).toNat = r := Int.toNat_natCast r
       have e0 : (0 : Int).toNat = 0 := rfl
       rw [false_or]
       exact rc_cand (n := ts.length) (r := r) hsys hhi hw0 y
    ·try simp only [zbA] at h19
     omega --done
theorem ord_Decode0_ent : Enters Tryz.prog 8 := enters_of Tryz.func8 (by kernel_rfl) (by kernel_rfl)
theorem ord_Decode0 (p m : Int) (A : Option Addr) (c : Nat) (mod : List Int) [hF : IsF p m mod] (w : Int) (Aa : Option Addr) (n ca : Nat) (rs : List RowM) (hn : n = rs.length) (h9 : rs.length ≤ 256) (hc : CodeOk p m mod w rs) (T : Option Addr) (nt ct : Nat) (ts : List RowM) (hnt : nt = ts.length) (t9 : ts.length ≤ 17592186044415) (t8 : ∀ r ∈ ts, r.xs.length ≤ 17592186044415) (ho : ordC (pw p m) w (xss ts) = 0) (r : Nat) (hr : r ≤ n) (hN : (pw p m).toNat ^ rs.length ≤ 65536) (hk : n = 0) :
  Pure Tryz.prog 8 #[.agg #[.int .i64 p, .int .i64 m, .slice A mod.length c, .int .i64 w, .slice Aa n ca], .slice T nt ct, .int .i64 r] [ro A (ints mod), ro Aa (hdrs rs), rowsR rs, ro T (hdrs ts), rowsR ts] (one (fun v ch => ∃ B cb2 o bs, v = .tuple #[.slice B o.length cb2, .int .i64 0] ∧ ch = ow B 3 cb2 (ints o) ∧ bs.length = rs.length ∧ (1 ≤ rs.length → ∃ ob, OrdS (rlF ts) ts.length ob ∧ BasOf p m mod rs ob bs) ∧ o.length = ts.length ∧ Bst (cstL (xss ts)) (Cand p m mod rs ts.length bs (hardL ts) r) o)) := by
 have h9c := h9
 have hq2 := hF.q2
 have hq256 := hF.out.1.1.q
 have htab := ordC_zero ho
 have htl := htab.len
 have hgd := hc.good
 have hn64 := hc.n64
 have hn1 := hc.n1
 have hlen := hc.len
 have hml := hF.short
 have hform := hc.form
 have hk16 := (cnt_facts (i := 0) hq2 hN (Nat.zero_le _)).1
 refine pure_of (args := [.agg #[.int .i64 p, .int .i64 m, .slice A mod.length c, .int .i64 w, .slice Aa n ca], .slice T nt ct, .int .i64 r]) 173 Tryz.func8 rfl rfl rfl ord_Decode0_ent ⟨id, id, id, id, id, trivial⟩ (fun w0 => ?_)
 refine tS ?_
 refine tR fun _ _ _ => ?_
 refine eV (eBox rfl rfl rfl rfl rfl (fun p0 => ?_))
 iterate 2 refine pV ?_
 refine tS ?_
 refine tR fun _ _ _ => ?_
 refine sV (rLdS rfl rfl rfl) ?_
 refine pV ?_
 refine eV (eCall1 rfl rfl rfl (ord_checkedG p m A c mod w Aa n ca rs hn h9 hc T nt ct ts hnt t9 t8 ho) ⟨rfl, rfl, trivial⟩ ?_)
 rintro _ _ ⟨g, rfl, rfl, hg⟩
 iterate 5 refine pV ?_
 refine tS ?_
 refine tS ?_
 refine tR fun _ _ _ => ?_
 iterate 2 refine pV ?_
 refine tC rfl (fun h2 => ?_) (fun h2 => ?_)
 ·try simp only [zbA] at h2
  first | exact absurd trivial h2 | exact absurd rfl h2 | omega | (exact absurd h2 (by simp)) --done
 ·try simp only [zbA] at h2
  refine tK ?_
  refine tS ?_
  refine tR fun _ _ _ => ?_
  refine sV (rFld rfl rfl) ?_
  refine sV (rLdF rfl rfl rfl) ?_
  refine sV (rLen rfl rfl) ?_
  refine pV ?_
  refine tS ?_
  refine tS ?_
  refine tR fun _ _ _ => ?_
  iterate 3 refine pV ?_
  refine stg rfl rfl rfl rfl rfl (fun hb => by (have hq := hb; try simp only [zbA] at hq); exact rMove rfl rfl) ?_
  refine stg rfl rfl rfl rfl rfl (fun hb => by (have hq := hb; try simp only [zbA] at hq); exact rMove rfl rfl) ?_
  refine stg rfl rfl rfl rfl rfl (fun hb => by (have hq := hb; try simp only [zbA] at hq); exact rGtr rfl (evg rfl hb) (evg rfl hb)) ?_
  refine sV (rOrB rfl rfl rfl rfl) ?_
  refine tC rfl (fun h5 => ?_) (fun h5 => ?_)
  ·try simp only [zbA] at h5
   omega --done
  ·try simp only [zbA] at h5
   refine tK ?_
   refine tS ?_
   refine tR fun _ _ _ => ?_
   refine pV ?_
   refine tS ?_
   refine tS ?_
   refine tR fun _ _ _ => ?_
   refine pV ?_
   refine sV (rAdd rfl rfl rfl (by omega) (by omega)) ?_
   refine pV ?_
   refine tB ?_
   refine tr_loop2 (fun (i : Int) (o : Int) => [(11, .int .i64 o), (52, .int .i64 (r + 1)), (53, .int .i64 i), (1, .slice T nt ct), (2, .int .i64 r), (3, .pointer (some p0)), (8, .pointer (some g.p)), (10, .int .i64 n)]) (fun (i : Int) (o : Int) => [gfN g, blk p0 27 [.int .i64 p, .int .i64 m, .slice A mod.length c, .int .i64 w, .slice Aa n ca], ro A (ints mod), ro Aa (hdrs rs), rowsR rs, ro T (hdrs ts), rowsR ts]) (fun (i : Int) (o : Int) => (0 ≤ i ∧ i ≤ r + 1) ∧ o = (sbin ((pw p m).toNat - 1) n i.toNat : Int)) (fun (i : Int) (o : Int) => (r + 1 - i).toNat) (0) (0) ⟨rfl, rfl, rfl, rfl, rfl, rfl, rfl, rfl, trivial⟩ (by first | exact cs _ _ | exact CSub.refl _) (⟨⟨by omega, by omega⟩, rfl⟩) (fun i o hI => ?_)
   obtain ⟨⟨hi0, hi1⟩, ho2⟩ := hI
   refine tS ?_
   refine tR fun _ _ _ => ?_
   refine pV ?_
   refine tS ?_
   refine tC rfl (fun h9 => ?_) (fun h9 => ?_)
   ·try simp only [zbA] at h9
    refine tK ?_
    refine tS ?_
    refine tB ?_
    refine tS ?_
    refine tR fun _ _ _ => ?_
    iterate 2 refine pV ?_
    refine tS ?_
    have hgq := hg.eq
    obtain ⟨_, hf1, hf2, hf3, hf4⟩ := cnt_facts (q := pw p m) (n := n) (i := i.toNat) hq2 (by rw [hn]; exact hN) (by omega)
    refine tR fun _ _ _ => ?_
    iterate 2 refine pV ?_
    refine eV (eCallV rfl rfl rfl (num_Choose n i (by omega) (by omega) (by omega)) ⟨rfl, rfl, rfl, trivial⟩ ?_)
    iterate 5 refine pV ?_
    refine tS ?_
    refine tR fun _ _ _ => ?_
    refine pV ?_
    refine eV (eCallV rfl rfl rfl (gf_Order g) ⟨rfl, trivial⟩ ?_)
    rw [hgq]
    refine sV (rSub rfl rfl rfl (by omega) (by omega)) ?_
    refine pV ?_
    refine eV (eCallV rfl rfl rfl (num_Exp (pw p m - 1) i (by omega) (by omega) (by omega) (by omega) (by omega)) ⟨rfl, rfl, rfl, trivial⟩ ?_)
    iterate 5 refine pV ?_
    refine tS ?_
    refine tS ?_
    have hmu : (bin (n : Int).toNat i.toNat : Int) * (pw p m - 1) ^ i.toNat = ((bin n i.toNat * (pw p m).toNat.pred ^ i.toNat : Nat) : Int) := by
     rw [hf1, Int.toNat_natCast, Int.natCast_mul]; rfl
    have hmu2 : bin n i.toNat * (pw p m).toNat.pred ^ i.toNat = bin n i.toNat * ((pw p m).toNat - 1) ^ i.toNat := rfl
    refine tR fun _ _ _ => ?_
    iterate 3 refine pV ?_
    refine stg rfl rfl rfl rfl rfl (fun hb => by (have hq := hb; try simp only [zbA] at hq); exact rMove rfl rfl) ?_
    refine stg rfl rfl rfl rfl rfl (fun hb => by (have hq := hb; try simp only [zbA] at hq); exact rNeq rfl (evg rfl hb) rfl) ?_
    refine sV (rOrB rfl rfl rfl rfl) ?_
    refine pV ?_
    refine stg rfl rfl rfl rfl rfl (fun hb => by (have hq := hb; try simp only [zbA] at hq); exact rMove rfl rfl) ?_
    refine stg rfl rfl rfl rfl rfl (fun hb => by (have hq := hb; try simp only [zbA] at hq); exact rMove rfl rfl) ?_
    refine stg rfl rfl rfl rfl rfl (fun hb => by (have hq := hb; try simp only [zbA] at hq); exact rMul rfl (evg rfl hb) (evg rfl hb) (by omega) (by omega)) ?_
    refine stg rfl rfl rfl rfl rfl (fun hb => by (have hq := hb; try simp only [zbA] at hq); exact rMove rfl rfl) ?_
    refine stg rfl rfl rfl rfl rfl (fun hb => by (have hq := hb; try simp only [zbA] at hq); exact rSub rfl rfl (evg rfl hb) (by omega) (by omega)) ?_
    refine stg rfl rfl rfl rfl rfl (fun hb => by (have hq := hb; try simp only [zbA] at hq); exact rGtr rfl (evg rfl hb) (evg rfl hb)) ?_
    refine sV (rOrB rfl rfl rfl rfl) ?_
    refine tC rfl (fun h13 => ?_) (fun h13 => ?_)
    ·try simp only [zbA] at h13
     have h14 := h13.resolve_left (fun h => by rcases h with h | h <;> exact h trivial)
     omega --done
    ·try simp only [zbA] at h13
     refine tK ?_
     refine tR fun _ _ _ => ?_
     iterate 3 refine pV ?_
     refine sV (rMul rfl rfl rfl (by omega) (by omega)) ?_
     refine sV (rAdd rfl rfl rfl (by omega) (by omega)) ?_
     refine pV ?_
     refine tR fun _ _ _ => ?_
     refine sV (rAdd rfl rfl rfl (by omega) (by omega)) ?_
     refine pV ?_
     refine ⟨i + 1, o + (bin (n : Int).toNat i.toNat : Int) * (pw p m - 1) ^ i.toNat, ⟨rfl, rfl, rfl, rfl, rfl, rfl, rfl, rfl, trivial⟩, by first | exact cs _ _ | exact CSub.refl _, ?_⟩
     exact ⟨⟨⟨by omega, by omega⟩, by rw [show (i + 1).toNat = i.toNat + 1 by omega]; omega⟩, by omega⟩
   ·try simp only [zbA] at h9
    refine tE ?_
    refine tS ?_
    refine tR fun _ _ _ => ?_
    iterate 2 refine pV ?_
    refine sV (rBuild rfl rfl) ?_
    refine eV (eBox rfl rfl rfl rfl rfl (fun p17 => ?_))
    refine pV ?_
    refine tS ?_
    refine tR fun _ _ _ => ?_
    refine sV (rFld rfl rfl) ?_
    refine sV (rLdF rfl rfl rfl) ?_
    refine eV (eMakeI rfl rfl rfl rfl rfl (by omega) (by omega) (by omega) (fun A18 => ?_))
    refine pV ?_
    refine tS ?_
    refine tS ?_
    refine tR fun _ _ _ => ?_
    iterate 2 refine pV ?_
    refine tC rfl (fun h19 => ?_) (fun h19 => ?_)
    ·try simp only [zbA] at h19
     omega --done
    ·try simp only [zbA] at h19
     refine tK ?_
     refine tS ?_
     have hfr := ord_from p17 g hg T nt ct ts hnt (by omega) htab.row (by omega) none 0 0 [] rfl (by simp) (Gd.nil _ _) r (by omega) A18 w.toNat w.toNat (List.replicate w.toNat 0) (by simp) (by simp; omega) (allIn_rep (by omega) _) 0 (by omega) (by omega) none 0 [] 0 (fun _ => False) (.inl ⟨rfl, rfl, fun y h => h⟩)
     simp only [List.length_nil] at hfr
     refine tr_nilI 3 ?_
     refine tr_nilR 22 3 ?_
     refine tR fun _ _ _ => ?_
     iterate 3 refine pV ?_
     refine eV (eCallM2 rfl rfl rfl (hfr) ⟨rfl, rfl, rfl, rfl, trivial⟩ ?_)
     rintro _ _ _ ⟨rfl, B2, cb2, b2, c2, rfl, rfl, hd⟩
     refine tS ?_
     refine tR fun _ _ _ => ?_
     refine pV ?_
     refine sV (rNil rfl rfl) ?_
     refine sV (rFld rfl rfl) ?_
     refine sV (rLdF rfl rfl rfl) ?_
     iterate 2 refine pV ?_
     have hrs : rs = [] := List.length_eq_zero_iff.1 (by omega)
     have hsys : Sys (vsR rs : List (Vc (El p m mod))) (vsR []) (([] : List Int).map Int.toNat) := by
      rw [hrs]
      exact ⟨rfl, rfl, fun j hj => by simp at hj, fun j t hj => by simp at hj⟩
     have hw0 : (rw' (List.replicate w.toNat 0) : Vc (El p m mod)) = Vc.cmb (fun t => el ((hardL ts).getD (([] : List Int).getD t 0).toNat 0)) (vsR []) := Vc.ext fun j => by rw [rw_at, rep_get, el_zero]; rfl
     refine tr_ret ⟨trivial, _, _, rfl, ⟨_, rfl, B2, cb2, b2, [], rfl, rfl, by rw [hrs]; rfl, fun h => by omega, hd.len, hd.best.iff fun y => ?_⟩, cs _ _, trivial, trivial⟩
     rw [false_or]
     exact rc_cand (n := ts.length) (r := r) hsys (hardL_in hq2 htab.row) hw0 y
theorem ord_Decode (p m : Int) (A : Option Addr) (c : Nat) (mod : List Int) [hF : IsF p m mod] (w : Int) (Aa : Option Addr) (n ca : Nat) (rs : List RowM) (hn : n = rs.length) (h9 : rs.length ≤ 256) (hc : CodeOk p m mod w rs) (T : Option Addr) (nt ct : Nat) (ts : List RowM) (hnt : nt = ts.length) (t9 : ts.length ≤ 17592186044415) (t8 : ∀ r ∈ ts, r.xs.length ≤ 17592186044415) (ho : ordC (pw p m) w (xss ts) = 0) (r : Nat) (hr : r ≤ n) (hN : (pw p m).toNat ^ rs.length ≤ 65536) : Pure Tryz.prog 8 #[.agg #[.int .i64 p, .int .i64 m, .slice A mod.length c, .int .i64 w, .slice Aa n ca], .slice T nt ct, .int .i64 r] [ro A (ints mod), ro Aa (hdrs rs), rowsR rs, ro T (hdrs ts), rowsR ts] (one (fun v ch => ∃ B cb2 o bs, v = .tuple #[.slice B o.length cb2, .int .i64 0] ∧ ch = ow B 3 cb2 (ints o) ∧ bs.length = rs.length ∧ (1 ≤ rs.length → ∃ ob, OrdS (rlF ts) ts.length ob ∧ BasOf p m mod rs ob bs) ∧ o.length = ts.length ∧ Bst (cstL (xss ts)) (Cand p m mod rs ts.length bs (hardL ts) r) o)) := by
 by_cases hk : 1 ≤ n
 ·exact ord_Decode1 p m A c mod w Aa n ca rs hn h9 hc T nt ct ts hnt t9 t8 ho r hr hN hk
 ·exact ord_Decode0 p m A c mod w Aa n ca rs hn h9 hc T nt ct ts hnt t9 t8 ho r hr hN (by omega)
end Go.Proofs.YtfdjdokdabmmdaaGreat

namespace Go.Proofs.YtfdjdokdabmmdaaGreat
open Go.RowKit
def vN : List Int → Int
 | [] => 0
 | x :: l => x + 4294967296 * vN l
def Lm (l : List Int) : Prop := ∀ x ∈ l, 0 ≤ x ∧ x < 4294967296
theorem Lm.get {l : List Int} (h : Lm l) (j : Nat) : 0 ≤ l.getD j 0 ∧ l.getD j 0 < 4294967296 := by
 by_cases hj : j < l.length
 ·exact h _ (getD_mem hj 0)
 ·rw [getD_out (by omega)]; omega
theorem Lm.of {l : List Int} (h : ∀ j, j < l.length → 0 ≤ l.getD j 0 ∧ l.getD j 0 < 4294967296) : Lm l := fun x hx => by
 obtain ⟨j, hj, rfl⟩ := List.getElem_of_mem hx
 have := h j hj
 rwa [List.getD_eq_getElem?_getD, List.getElem?_eq_getElem hj] at this
theorem vN_nn : ∀ {l : List Int}, Lm l → 0 ≤ vN l
 | [], _ => Int.le_refl _
 | x :: l, h => by
  have h1 := h x (List.mem_cons_self ..)
  have h2 := vN_nn (l := l) fun y hy => h y (List.mem_cons_of_mem _ hy)
  rw [vN]; omega
theorem vN_lt : ∀ {l : List Int}, Lm l → vN l < 4294967296 ^ l.length
 | [], _ => by simp [vN]
 | x :: l, h => by
  have h1 := h x (List.mem_cons_self ..)
  have h2 := vN_lt (l := l) fun y hy => h y (List.mem_cons_of_mem _ hy)
  rw [vN, List.length_cons, Int.pow_succ]
  omega
theorem vN_app : ∀ a b : List Int, vN (a ++ b) = vN a + 4294967296 ^ a.length * vN b
 | [], b => by simp [vN]
 | x :: a, b => by
  rw [List.cons_append, vN, vN, vN_app a b, List.length_cons, Int.pow_succ, Int.mul_add, Int.add_assoc, ← Int.mul_assoc, Int.mul_comm 4294967296 (4294967296 ^ a.length)]
theorem vN_zeros : ∀ n : Nat, vN (List.replicate n 0) = 0
 | 0 => rfl
 | n + 1 => by rw [List.replicate_succ, vN, vN_zeros n]; rfl
theorem vN_take {l : List Int} {k : Nat} (hk : k < l.length) : vN (l.take (k + 1)) = vN (l.take k) + 4294967296 ^ k * l.getD k 0 := by
 have e : l.take (k + 1) = l.take k ++ [l.getD k 0] := by
  rw [List.take_add_one, List.getD_eq_getElem?_getD, List.getElem?_eq_getElem hk]; rfl
 rw [e, vN_app, List.length_take, Nat.min_eq_left (by omega)]
 simp [vN]
theorem vN_cut {l : List Int} : ∀ {k : Nat}, (∀ j, k ≤ j → l.getD j 0 = 0) → vN (l.take k) = vN l := fun {k} h => by
 have e : l.drop k = List.replicate (l.length - k) 0 := by
  refine List.ext_getElem (by simp) fun i h1 h2 => ?_
  rw [List.getElem_drop, List.getElem_replicate]
  have := h (k + i) (by omega)
  rw [List.getD_eq_getElem?_getD, List.getElem?_eq_getElem (by simp at h1; omega)] at this
  exact this
 have h2 := vN_app (l.take k) (l.drop k)
 rw [List.take_append_drop, e, vN_zeros, Int.mul_zero, Int.add_zero] at h2
 exact h2.symm
theorem vN_set : ∀ {l : List Int} {k : Nat} {x : Int}, k < l.length → vN (l.set k x) = vN l + 4294967296 ^ k * (x - l.getD k 0)
 | [], k, x, h => by simp at h
 | y :: l, 0, x, _ => by
  rw [List.set_cons_zero, vN, vN, List.getD_cons_zero, Int.pow_zero]; omega
 | y :: l, k + 1, x, h => by
  rw [List.set_cons_succ, vN, vN, List.getD_cons_succ, vN_set (l := l) (k := k) (x := x) (by simpa using h), Int.pow_succ, Int.mul_add, Int.add_assoc, Int.mul_comm (4294967296 ^ k) 4294967296, Int.mul_assoc]
end Go.Proofs.YtfdjdokdabmmdaaGreat

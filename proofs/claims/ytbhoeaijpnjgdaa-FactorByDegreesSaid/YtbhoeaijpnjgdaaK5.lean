/-
  FACTORBYDEGREES, PART 5 OF 9. One sentence: the texts behind the law FactorByDegrees, put together.
  Conditions: each theorem's own, written out in it.
-/
import Derived.Calls
import Derived.Sort.Grow
import Derived.Shelf.SlSortCmp.InsertionK
import Derived.Sort.OwnSorted
import Derived.Test.YtbhoeaijpnjgdaaShelfF
import Derived.Shelf.SlSortCmp.WholeK
import Derived.Shelf.SlSortCmp.NoneTotal
import Derived.Test.YtbhoeaijpnjgdaaK4
set_option linter.unusedSimpArgs false
set_option linter.unusedVariables false
set_option linter.unusedSectionVars false
set_option maxRecDepth 100000
namespace Go.Proofs.Ytbhoeaijpnjgdaa
open Go.RowKit
theorem ref_PMulL_ent : Enters Try.prog 60 := enters_of Try.func60 (by kernel_rfl) (by kernel_rfl)
theorem ref_PMulL (p m : Int) (A : Option Addr) (c : Nat) (mod : List Int) [hF : IsF p m mod] (B : Option Addr) (nb d : Nat) (a : List Int) (hnb : nb = a.length) (ha9 : a.length ≤ 1000000000) (C : Option Addr) (nc e : Nat) (b : List Int) (hnc : nc = b.length) (hb9 : b.length ≤ 17592186044415) (hbl : (il (pol b : Po (El p m mod))).length ≤ 1000000000) :
  Pure Try.prog 60 #[.agg #[.int .i64 p, .int .i64 m, .slice A mod.length c], .slice B nb d, .slice C nc e] [ro A (ints mod), ro B (ints a), ro C (ints b)] (one (fun v ch => ∃ B cap, v = .slice B (il ((pol a : Po (El p m mod)) * (pol b : Po (El p m mod)))).length cap ∧ ch = ow B 3 cap (ints (il ((pol a : Po (El p m mod)) * (pol b : Po (El p m mod))))))) := by
 have hq2 := hF.q2
 have hla := il_le (p := p) (m := m) (mod := mod) a
 have hlb := il_le (p := p) (m := m) (mod := mod) b
 refine pure_of (args := [.agg #[.int .i64 p, .int .i64 m, .slice A mod.length c], .slice B nb d, .slice C nc e]) 60 Try.func60 rfl rfl rfl ref_PMulL_ent ⟨id, id, id, trivial⟩ (fun w0 => ?_)
 refine tS ?_
 refine tR fun _ _ _ => ?_
 refine eV (eBox rfl rfl rfl rfl rfl (fun p0 => ?_))
 refine pV ?_
 refine tS ?_
 refine tR fun _ _ _ => ?_
 refine sV (rLdS rfl rfl rfl) ?_
 refine pV ?_
 refine eV (eCall1 rfl rfl rfl (ref_CanonE _ _ _ _ _ _ _ _ _ (by first | omega | rfl | simp) (by omega)) ⟨rfl, rfl, trivial⟩ ?_)
 rintro _ _ ⟨B1, c1, rfl, rfl⟩
 refine pV ?_
 refine tS ?_
 refine tR fun _ _ _ => ?_
 refine sV (rLdS rfl rfl rfl) ?_
 refine pV ?_
 refine eV (eCall1 rfl rfl rfl (ref_CanonE _ _ _ _ _ _ _ _ _ (by first | omega | rfl | simp) (by omega)) ⟨rfl, rfl, trivial⟩ ?_)
 rintro _ _ ⟨B2, c2, rfl, rfl⟩
 refine pV ?_
 refine tS ?_
 refine tR fun _ _ _ => ?_
 refine pV ?_
 refine sV (rLen rfl rfl) ?_
 refine pV ?_
 refine sV (rLen rfl rfl) ?_
 refine sV (rAdd rfl rfl rfl (by omega) (by omega)) ?_
 refine eV (eMakeI rfl rfl rfl rfl rfl (by omega) (by omega) (by omega) (fun A3 => ?_))
 refine pV ?_
 generalize hN : (((il (pol a : Po (El p m mod))).length : Int) + (il (pol b : Po (El p m mod))).length).toNat = N
 refine tS ?_
 refine tS ?_
 refine tR fun _ _ _ => ?_
 refine pV ?_
 refine tB ?_
 refine tr_loop2 (fun (i : Int) (o : List Int) => [(1, .slice B1 (il (pol a : Po (El p m mod))).length c1), (2, .slice B2 (il (pol b : Po (El p m mod))).length c2), (3, .pointer (some p0)), (7, .slice A3 N N), (8, .int .i64 i)]) (fun (i : Int) (o : List Int) => [ow A3 3 N (ints o), ow B2 3 c2 (ints (il (pol b : Po (El p m mod)))), ow B1 3 c1 (ints (il (pol a : Po (El p m mod)))), blk p0 24 [.int .i64 p, .int .i64 m, .slice A mod.length c], ro A (ints mod)]) (fun (i : Int) (o : List Int) => (0 ≤ i ∧ i ≤ (il (pol a : Po (El p m mod))).length) ∧ o.length = N ∧ (pol o : Po (El p m mod)) = pol ((il (pol a : Po (El p m mod))).take i.toNat) * (pol b : Po (El p m mod))) (fun (i : Int) (o : List Int) => (((il (pol a : Po (El p m mod))).length : Int) - i).toNat) (0) (List.replicate N 0) ⟨rfl, rfl, rfl, rfl, rfl, trivial⟩ (by first | exact cs _ _ | exact CSub.refl _) (⟨⟨by omega, by omega⟩, by simp, by rw [pol_rep, Int.toNat_zero, pol_take_zero]; grind⟩) (fun i o hI => ?_)
 obtain ⟨⟨hi0, hi1⟩, hol, ho⟩ := hI
 refine tS ?_
 refine tS ?_
 refine tR fun _ _ _ => ?_
 iterate 2 refine pV ?_
 refine sV (rLen rfl rfl) ?_
 refine pV ?_
 refine tC rfl (fun h5 => ?_) (fun h5 => ?_)
 ·try simp only [zbA] at h5
  refine tK ?_
  refine tS ?_
  refine tB ?_
  refine tS ?_
  refine tR fun _ _ _ => ?_
  refine pV ?_
  refine tB ?_
  refine tr_loop2 (fun (j : Int) (o2 : List Int) => [(1, .slice B1 (il (pol a : Po (El p m mod))).length c1), (2, .slice B2 (il (pol b : Po (El p m mod))).length c2), (3, .pointer (some p0)), (7, .slice A3 N N), (8, .int .i64 i), (9, .int .i64 j)]) (fun (j : Int) (o2 : List Int) => [ow A3 3 N (ints o2), ow B2 3 c2 (ints (il (pol b : Po (El p m mod)))), ow B1 3 c1 (ints (il (pol a : Po (El p m mod)))), blk p0 24 [.int .i64 p, .int .i64 m, .slice A mod.length c], ro A (ints mod)]) (fun (j : Int) (o2 : List Int) => (0 ≤ j ∧ j ≤ (il (pol b : Po (El p m mod))).length) ∧ o2.length = N ∧ (pol o2 : Po (El p m mod)) = pol ((il (pol a : Po (El p m mod))).take i.toNat) * (pol b : Po (El p m mod)) + Po.mn (el ((il (pol a : Po (El p m mod))).getD i.toNat 0)) i.toNat * pol ((il (pol b : Po (El p m mod))).take j.toNat)) (fun (j : Int) (o2 : List Int) => (((il (pol b : Po (El p m mod))).length : Int) - j).toNat) (0) (o) ⟨rfl, rfl, rfl, rfl, rfl, rfl, trivial⟩ (by first | exact cs _ _ | exact CSub.refl _) (⟨⟨by omega, by omega⟩, hol, by rw [ho, Int.toNat_zero, pol_take_zero]; grind⟩) (fun j o2 hI => ?_)
  obtain ⟨⟨hj0, hj1⟩, ho2l, ho2⟩ := hI
  refine tS ?_
  refine tS ?_
  refine tR fun _ _ _ => ?_
  iterate 2 refine pV ?_
  refine sV (rLen rfl rfl) ?_
  refine pV ?_
  refine tC rfl (fun h8 => ?_) (fun h8 => ?_)
  ·try simp only [zbA] at h8
   refine tK ?_
   refine tS ?_
   refine tB ?_
   refine tr_draw [0, 1, 2, 3, 4, 5, 6, 7, 8, 9, 10, 11, 12, 13, 14, 15, 16, 17, 18, 19, 20, 21, 22] [23] mixed (by kernel_rfl) fun _ _ _ => ?_
   iterate 3 refine pV ?_
   refine sV (rAdd rfl rfl rfl (by omega) (by omega)) ?_
   refine sV (rLdS rfl rfl rfl) ?_
   iterate 3 refine pV ?_
   refine sV (rAdd rfl rfl rfl (by omega) (by omega)) ?_
   refine sV (rIdxI rfl rfl rfl (by omega) (by omega) (by omega)) ?_
   refine sV (rLdI rfl rfl (by omega)) ?_
   refine sV (rLdS rfl rfl rfl) ?_
   iterate 2 refine pV ?_
   refine sV (rIdxI rfl rfl rfl (by omega) (by omega) (by omega)) ?_
   refine sV (rLdI rfl rfl (by omega)) ?_
   iterate 2 refine pV ?_
   refine sV (rIdxI rfl rfl rfl (by omega) (by omega) (by omega)) ?_
   refine sV (rLdI rfl rfl (by omega)) ?_
   refine eV (eCallV rfl rfl rfl (ref_MulE _ _ _ _ _ _ _) ⟨rfl, rfl, rfl, trivial⟩ ?_)
   refine eV (eCallV rfl rfl rfl (ref_AddE _ _ _ _ _ _ _) ⟨rfl, rfl, rfl, trivial⟩ ?_)
   refine sV (rIdxI rfl rfl rfl (by omega) (by omega) (by omega)) ?_
   refine eV (eStI rfl rfl rfl rfl (by omega) ?_)
   refine tR fun _ _ _ => ?_
   refine pV ?_
   refine sV (rAdd rfl rfl rfl (by omega) (by omega)) ?_
   refine pV ?_
   refine ⟨j + 1, o2.set (i + j).toNat (el (o2.getD (i + j).toNat 0) + el ((el ((il (pol a : Po (El p m mod))).getD i.toNat 0) * el ((il (pol b : Po (El p m mod))).getD j.toNat 0) : El p m mod)).1 : El p m mod).1, ⟨rfl, rfl, rfl, rfl, rfl, rfl, trivial⟩, by first | exact cs _ _ | exact CSub.refl _, ?_⟩
   refine ⟨⟨⟨by omega, by omega⟩, by simpa using ho2l, ?_⟩, by omega⟩
   rw [pol_set_add (d := (el ((il (pol a : Po (El p m mod))).getD i.toNat 0) * el ((il (pol b : Po (El p m mod))).getD j.toNat 0) : El p m mod)) o2 (by omega) (by rw [el_of, el_of]), ho2, show (j + 1).toNat = j.toNat + 1 by omega, pol_take_succ, show (i + j).toNat = i.toNat + j.toNat by omega]
   have e1 := Po.mn_mul (el ((il (pol a : Po (El p m mod))).getD i.toNat 0) : El p m mod) (el ((il (pol b : Po (El p m mod))).getD j.toNat 0)) i.toNat j.toNat
   grind
  ·try simp only [zbA] at h8
   refine tE ?_
   refine tR fun _ _ _ => ?_
   refine pV ?_
   refine sV (rAdd rfl rfl rfl (by omega) (by omega)) ?_
   refine pV ?_
   refine ⟨i + 1, o2, ⟨rfl, rfl, rfl, rfl, rfl, trivial⟩, by first | exact cs _ _ | exact CSub.refl _, ?_⟩
   have hjn : j = (il (pol b : Po (El p m mod))).length := by omega
   rw [hjn, Int.toNat_natCast, List.take_length, pol_il] at ho2
   refine ⟨⟨⟨by omega, by omega⟩, ho2l, ?_⟩, by omega⟩
   rw [ho2, show (i + 1).toNat = i.toNat + 1 by omega, pol_take_succ]
   grind
 ·try simp only [zbA] at h5
  refine tE ?_
  refine tS ?_
  refine tR fun _ _ _ => ?_
  refine sV (rLdS rfl rfl rfl) ?_
  refine pV ?_
  refine eV (eCall1 rfl rfl rfl (ref_CanonE _ _ _ _ _ _ _ _ o (by omega) (by omega)) ⟨rfl, rfl, trivial⟩ ?_)
  rintro _ _ ⟨B11, c11, rfl, rfl⟩
  refine pV ?_
  have hin : i = (il (pol a : Po (El p m mod))).length := by omega
  rw [hin, Int.toNat_natCast, List.take_length, pol_il] at ho
  rw [ho]
  exact tr_ret ⟨trivial, _, _, rfl, ⟨_, rfl, _, _, rfl, rfl⟩, cs _ _, trivial, trivial⟩
theorem ref_SameInts6_ent : Enters Try.prog 23 := enters_of Try.func23 (by kernel_rfl) (by kernel_rfl)
theorem ref_SameInts6 (X : Option Addr) (nx cx : Nat) (l : List Int) (hnx : nx = l.length) (Y : Option Addr) (ny cy : Nat) (y : List Int) (hny : ny = y.length) (h9 : l.length ≤ 17592186044415) :
  Pure Try.prog 23 #[.slice X nx cx, .slice Y ny cy] [ro X (ints l), ro Y (ints y)] (isV (.bool (decide (l = y)))) := by
 refine pure_of (args := [.slice X nx cx, .slice Y ny cy]) 26 Try.func23 rfl rfl rfl ref_SameInts6_ent ⟨id, id, trivial⟩ (fun w0 => ?_)
 refine tS ?_
 refine tR fun _ _ _ => ?_
 refine pV ?_
 refine tS ?_
 refine tS ?_
 refine tR fun _ _ _ => ?_
 refine pV ?_
 refine sV (rLen rfl rfl) ?_
 refine pV ?_
 refine sV (rLen rfl rfl) ?_
 refine pV ?_
 refine tC rfl (fun h1 => ?_) (fun h1 => ?_)
 ·try simp only [zbA] at h1
  refine tS ?_
  refine tR fun _ _ _ => ?_
  refine pV ?_
  exact tr_ret ⟨trivial, _, _, rfl, ⟨by rw [decide_eq_false (fun h => by rw [h] at hnx; omega)], rfl⟩, CSub.nil _, trivial⟩
 ·try simp only [zbA] at h1
  refine tK ?_
  refine tS ?_
  refine tS ?_
  refine tR fun _ _ _ => ?_
  refine pV ?_
  refine tB ?_
  refine tr_loop1 (fun (i : Nat) => [(5, .int .i64 i), (0, .slice X nx cx), (1, .slice Y ny cy)]) (fun (i : Nat) => [ro X (ints l), ro Y (ints y)]) (fun (i : Nat) => i ≤ l.length ∧ l.take i = y.take i) (fun (i : Nat) => l.length - i) (0) ⟨rfl, rfl, rfl, trivial⟩ (by first | exact cs _ _ | exact CSub.refl _) (⟨by omega, rfl⟩) (fun i hI => ?_)
  obtain ⟨hi, ht⟩ := hI
  have hll : l.length = y.length := by omega
  refine tS ?_
  refine tS ?_
  refine tR fun _ _ _ => ?_
  iterate 2 refine pV ?_
  refine sV (rLen rfl rfl) ?_
  refine pV ?_
  refine tC rfl (fun h4 => ?_) (fun h4 => ?_)
  ·try simp only [zbA] at h4
   refine tK ?_
   refine tS ?_
   refine tB ?_
   refine tS ?_
   refine tr_draw [0, 1, 2, 3, 4, 5, 6, 7, 8] [] mixed (by kernel_rfl) fun _ _ _ => ?_
   iterate 2 refine pV ?_
   refine sV (rIdxI rfl rfl rfl (by omega) (by omega) (by omega)) ?_
   refine sV (rLdI rfl rfl (by omega)) ?_
   iterate 2 refine pV ?_
   refine sV (rIdxI rfl rfl rfl (by omega) (by omega) (by omega)) ?_
   refine sV (rLdI rfl rfl (by omega)) ?_
   refine pV ?_
   refine tC rfl (fun h6 => ?_) (fun h6 => ?_)
   ·try simp only [zbA] at h6
    refine tS ?_
    refine tR fun _ _ _ => ?_
    refine pV ?_
    exact tr_ret ⟨trivial, _, _, rfl, ⟨by rw [decide_eq_false (fun h => h6 (by rw [h]))], rfl⟩, CSub.nil _, trivial⟩
   ·try simp only [zbA] at h6
    refine tK ?_
    refine tR fun _ _ _ => ?_
    refine pV ?_
    refine sV (rAdd rfl rfl rfl (by omega) (by omega)) ?_
    refine pV ?_
    refine ⟨i + 1, ⟨rfl, rfl, rfl, trivial⟩, by first | exact cs _ _ | exact CSub.refl _, ?_⟩
    exact ⟨⟨by omega, take_eq_next 0 l y hll (by omega) ht (by simpa using h6)⟩, by omega⟩
  ·try simp only [zbA] at h4
   refine tE ?_
   refine tS ?_
   refine tR fun _ _ _ => ?_
   refine pV ?_
   have hia : i = l.length := by omega
   rw [hia, List.take_length, hll, List.take_length] at ht
   exact tr_ret ⟨trivial, _, _, rfl, ⟨by rw [decide_eq_true ht], rfl⟩, CSub.nil _, trivial⟩
end Go.Proofs.Ytbhoeaijpnjgdaa

namespace Go.Proofs.Ytbhoeaijpnjgdaa
open Go.RowKit
section
variable {p m : Int} {mod : List Int} [hF : IsF p m mod]
open Po
theorem quo_eq {f g : Po (El p m mod)} (hg : g ≠ 0) (h : g ∣ f) : f = quo f g * g := (quo_mul hg h).symm
end
end Go.Proofs.Ytbhoeaijpnjgdaa

set_option maxRecDepth 100000
namespace Go.Proofs.Ytbhoeaijpnjgdaa
open Go.RowKit
def fd1 (P : Program) (t : TypeId) (f : Nat) : Option Nat :=
 match P.underlying t with
 | some (.struct fs) => match fs[f]? with
  | some fd => if isSc P fd.type then some fd.offset else none
  | none => none
 | _ => none
class F1Ty (P : Program) (t : TypeId) (f : Nat) (off : outParam Nat) : Prop where
 off : fd1 P t f = some off
section
variable {P : Program} {N : NB} {M : Nat → Prop} {w0 : World} {L : Fr} {F : List Chunk} {o : Oper} {x : Operand} {t : TypeId}
theorem rField {f off : Nat} {vs : List Value} {v : Value} (ho : o.op = .field t x f) [h : F1Ty P t f off] (hx : ev L x = some (.agg vs.toArray)) (hv : vs[off]? = some v) : Stl P N M w0 o L F v := fun a w hl hm => by
 have h0 := h.off
 unfold fd1 at h0
 split at h0
 ·rename_i fs hu
  split at h0
  ·rename_i fd hf
   split at h0
   ·rename_i hs
    obtain ⟨d, hd, hn⟩ := (scTy_of hs).und
    have hag : (isAgg fd.type).run P w = .ok false w := by
     simp only [isAgg, Sem.run_bind, run_und hd, Result.andThen_ok]
     cases d <;> first | exact hn.elim | rfl
    simp only [Option.some.injEq] at h0
    subst h0
    have hv' : vs.toArray[fd.offset]? = some v := by simpa using hv
    simp [execOp, ho, hl.eval hx, Instr.field, run_und hu, hf, asAgg, part, hag, hv]
   ·cases h0
  ·cases h0
 ·cases h0
end
section
variable {P : Program} {N : NR} {M : Nat → Prop} {w0 : World} {L : Fr} {F : List Chunk}
theorem tr_nilQ (t e : TypeId) {c : Code} {Q : Exit → Fr → List Chunk → Prop} (h : Tr P N M w0 c L (ow2 none t 0 (fcs []) :: rowsCh e (rws []) :: F) Q) : Tr P N M w0 c L F Q := fun ds M1 w1 hb a w hl hm => h ds M1 w1 hb a w hl (nil_mem2 t ((rows_nil e F).mem hm))
end
theorem fcs_snoc (fs : List FacM) (A : Option Addr) (c : Nat) (l : List Int) (k : Int) : fcs fs ++ [((Value.slice A l.length c : Value), (Value.int .i64 k : Value))] = fcs (fs ++ [⟨⟨A, c, l⟩, k⟩]) := by rw [fcs_app]; rfl
instance tyF10 : F1Ty Try.prog 24 0 0 := ⟨by kernel_rfl⟩
theorem p_le_q {p m : Int} {mod : List Int} (hF : IsF p m mod) : p ≤ pw p m := by
 have hm1 := hF.out.1.1.m1
 have hp2 := hF.p2
 have hq := qp_mul hF
 rw [Nat.mul_comm] at hq
 have h1 : 1 ≤ (pw p m).toNat / p.toNat := by
  refine Nat.one_le_iff_ne_zero.2 fun e => ?_
  rw [e] at hq
  have := hF.q2
  omega
 have h2 : p.toNat * 1 ≤ p.toNat * ((pw p m).toNat / p.toNat) := Nat.mul_le_mul_left _ h1
 omega
section
variable {p m : Int} {mod : List Int} [hF : IsF p m mod]
theorem gk_mod {g : GfM} (hg : GOk g p m mod) : g.mod.length ≤ 1000000 := by
 have h1 := hF.out.1.1.m8
 rw [hg.emod]
 rcases hF.out.1.1.low with h | h
 ·rw [h.2]; simp
 ·omega
theorem nc_el (k : Nat) : (el ((k : Int) % p) : El p m mod) = Rg.nc k := by rw [← nc_val (m := m) (mod := mod), el_of]
theorem nc_el2 {i : Int} (h : 0 ≤ i) : (el ((i + 1) % p) : El p m mod) = Rg.nc (i.toNat + 1) := by
 rw [show i + 1 = ((i.toNat + 1 : Nat) : Int) by omega, nc_el]
end
theorem poly_Derivative_ent : Enters Try.prog 51 := enters_of Try.func51 (by kernel_rfl) (by kernel_rfl)
theorem poly_Derivative (g : GfM) {p m : Int} {mod : List Int} [hF : IsF p m mod] (hg : GOk g p m mod) (A : Option Addr) (n c : Nat) (a : List Int) (hn : n = a.length) (ha9 : a.length ≤ 1000000) :
  Pure Try.prog 51 #[.pointer (some g.p), .slice A n c] [gfR g, ro A (ints a)] (one (fun v ch => ∃ B cap, v = .slice B (il (dP (pol a : Po (El p m mod)))).length cap ∧ ch = ow B 3 cap (ints (il (dP (pol a : Po (El p m mod))))))) := by
 have hq2 := hF.q2
 have hp2 := hF.p2
 have hgm := gk_mod hg
 refine pure_of (args := [.pointer (some g.p), .slice A n c]) 40 Try.func51 rfl rfl rfl poly_Derivative_ent ⟨id, id, trivial⟩ (fun w0 => ?_)
 refine tS ?_
 refine tR fun _ _ _ => ?_
 refine pV ?_
 refine tS ?_
 refine tS ?_
 refine tR fun _ _ _ => ?_
 refine pV ?_
 refine sV (rLen rfl rfl) ?_
 refine pV ?_
 refine tC rfl (fun h1 => ?_) (fun h1 => ?_)
 ·try simp only [zbA] at h1
  refine tS ?_
  refine tR fun _ _ _ => ?_
  refine pV ?_
  have hz : (pol a : Po (El p m mod)) = 0 := by rw [List.eq_nil_of_length_eq_zero (l := a) (by omega)]; exact pol_nil
  refine tr_nilI 3 ?_
  rw [hz, show dP (0 : Po (El p m mod)) = 0 from Po.ext fun j => by rw [cf_dP, Po.cf_zero, Rg.mul_zero, Po.cf_zero], il_zero]
  exact tr_ret ⟨trivial, _, _, rfl, ⟨_, rfl, none, 0, rfl, rfl⟩, cs _ _, trivial, trivial⟩
 ·try simp only [zbA] at h1
  refine tK ?_
  refine tS ?_
  refine tR fun _ _ _ => ?_
  refine pV ?_
  refine sV (rLen rfl rfl) ?_
  refine sV (rSub rfl rfl rfl (by omega) (by omega)) ?_
  refine eV (eMakeI rfl rfl rfl rfl rfl (by omega) (by omega) (by omega) (fun A3 => ?_))
  refine pV ?_
  rw [show ((n : Int) - 1).toNat = n - 1 by omega]
  refine tS ?_
  refine tR fun _ _ _ => ?_
  refine pV ?_
  refine eV (eCall1 rfl rfl rfl (gf_Field g hgm) ⟨rfl, trivial⟩ ?_)
  rintro _ _ ⟨Bf, cf, rfl, rfl⟩
  refine sV (rField rfl rfl rfl) ?_
  refine pV ?_
  rw [hg.eP]
  refine tS ?_
  refine tS ?_
  refine tR fun _ _ _ => ?_
  refine pV ?_
  refine sV (rLen rfl rfl) ?_
  refine pV ?_
  refine tB ?_
  refine tr_loop2 (fun (i : Int) (o : List Int) => [(5, .slice A3 (n - 1) (n - 1)), (20, .int .i64 i), (6, .int .i64 p), (19, .int .i64 ((n - 1 : Nat) : Int)), (0, .pointer (some g.p)), (1, .slice A n c), (4, .slice none 0 0)]) (fun (i : Int) (o : List Int) => [ow A3 3 (n - 1) (ints o), gfR g, ro A (ints a)]) (fun (i : Int) (o : List Int) => (0 ≤ i ∧ i ≤ n - 1) ∧ (o.length = n - 1 ∧ AllIn (pw p m) o) ∧ ∀ j : Nat, (j : Int) < i → (el (o.getD j 0) : El p m mod) = Rg.nc (j + 1) * el (a.getD (j + 1) 0)) (fun (i : Int) (o : List Int) => (n - i).toNat) (0) (List.replicate (n - 1) 0) ⟨rfl, rfl, rfl, rfl, rfl, rfl, rfl, trivial⟩ (by first | exact cs _ _ | exact CSub.refl _) (⟨⟨by omega, by omega⟩, ⟨by simp, allIn_rep (by omega) _⟩, fun j hj => by omega⟩) (fun i o hI => ?_)
  obtain ⟨⟨hi0, hi1⟩, ⟨hol, hoi⟩, ho⟩ := hI
  refine tS ?_
  refine tR fun _ _ _ => ?_
  refine pV ?_
  refine tS ?_
  refine tC rfl (fun h6 => ?_) (fun h6 => ?_)
  ·try simp only [zbA] at h6
   refine tK ?_
   refine tS ?_
   refine tB ?_
   refine tS ?_
   refine tR fun _ _ _ => ?_
   iterate 2 refine pV ?_
   refine tr_draw [0, 1, 2, 3, 4, 5, 6, 7, 8, 9, 10, 11, 12, 13] [14] mixed (by kernel_rfl) fun _ _ _ => ?_
   iterate 4 refine pV ?_
   refine sV (rAdd rfl rfl rfl (by omega) (by omega)) ?_
   refine pV ?_
   refine sV (rRem rfl rfl rfl (by omega) (by omega)) ?_
   iterate 2 refine pV ?_
   refine sV (rAdd rfl rfl rfl (by omega) (by omega)) ?_
   refine sV (rIdxI rfl rfl rfl (by omega) (by omega) (by omega)) ?_
   refine sV (rLdI rfl rfl (by omega)) ?_
   refine eV (eCallV rfl rfl rfl (gf_MulE g hg _ _) ⟨rfl, rfl, rfl, trivial⟩ ?_)
   rw [nc_el2 (by omega)]
   refine sV (rIdxI rfl rfl rfl (by omega) (by omega) (by omega)) ?_
   refine eV (eStI rfl rfl rfl rfl (by omega) ?_)
   refine tR fun _ _ _ => ?_
   refine sV (rAdd rfl rfl rfl (by omega) (by omega)) ?_
   refine pV ?_
   refine ⟨i + 1, o.set i.toNat (Rg.nc (i.toNat + 1) * el (a.getD (i + 1).toNat 0) : El p m mod).1, ⟨rfl, rfl, rfl, rfl, rfl, rfl, rfl, trivial⟩, by first | exact cs _ _ | exact CSub.refl _, ?_⟩
   refine ⟨⟨⟨by omega, by omega⟩, ⟨by simpa using hol, hoi.set (El.bd _) _⟩, fun j hj => ?_⟩, by omega⟩
   rw [getD_set]
   by_cases he : i.toNat = j
   ·subst he; rw [if_pos ⟨rfl, by omega⟩, el_of, show (i + 1).toNat = i.toNat + 1 by omega]
   ·rw [if_neg (fun e => he e.1)]; exact ho j (by omega)
  ·try simp only [zbA] at h6
   refine tE ?_
   refine tS ?_
   refine tR fun _ _ _ => ?_
   refine pV ?_
   refine eV (eCallV rfl rfl rfl (poly_trim _ _ _ o (by omega) (by omega) (by omega)) ⟨rfl, trivial⟩ ?_)
   refine pV ?_
   have hp : (pol o : Po (El p m mod)) = dP (pol a) := Po.ext fun j => by
    rw [cf_dP, cf_pol, cf_pol]
    by_cases h : (j : Int) < i
    ·exact ho j h
    ·rw [getD_out (l := a) (by omega), getD_out (l := o) (by omega), el_zero, Rg.mul_zero]
   rw [← hp, il_trim hoi]
   exact tr_ret ⟨trivial, _, _, rfl, ⟨_, rfl, A3, n - 1, rfl, rfl⟩, (cs _ [ow A3 3 (n - 1) (ints o)]).trans (shrink_trim _ _), trivial, trivial⟩
theorem fac_quo_ent : Enters Try.prog 55 := enters_of Try.func55 (by kernel_rfl) (by kernel_rfl)
theorem fac_quo (g : GfM) {p m : Int} {mod : List Int} [hF : IsF p m mod] (hg : GOk g p m mod) (A : Option Addr) (n c : Nat) (a : List Int) (hn : n = a.length) (ha9 : a.length ≤ 1000000) (B : Option Addr) (k d : Nat) (b : List Int) (hk : k = b.length) (hb9 : b.length ≤ 1000000) (h0 : (pol b : Po (El p m mod)) ≠ 0) :
  Pure Try.prog 55 #[.pointer (some g.p), .slice A n c, .slice B k d] [gfR g, ro A (ints a), ro B (ints b)] (one (fun v ch => ∃ B cap, v = .slice B (il (Po.quo (pol a : Po (El p m mod)) (pol b : Po (El p m mod)))).length cap ∧ ch = ow B 3 cap (ints (il (Po.quo (pol a : Po (El p m mod)) (pol b : Po (El p m mod))))))) := by
 refine pure_of (args := [.pointer (some g.p), .slice A n c, .slice B k d]) 19 Try.func55 rfl rfl rfl fac_quo_ent ⟨id, id, id, trivial⟩ (fun w0 => ?_)
 refine tS ?_
 refine tR fun _ _ _ => ?_
 refine pV ?_
 refine tS ?_
 refine tR fun _ _ _ => ?_
 iterate 3 refine pV ?_
 refine eV (eCall2 rfl rfl rfl (poly_DivMod g hg A n c a hn (by omega) B k d b hk (by omega) h0) ⟨rfl, rfl, rfl, trivial⟩ ?_)
 rintro _ _ _ ⟨B1, c1, B2, c2, rfl, rfl, rfl⟩
 iterate 7 refine pV ?_
 refine tS ?_
 refine tR fun _ _ _ => ?_
 iterate 2 refine pV ?_
 exact tr_ret ⟨trivial, _, _, rfl, ⟨_, rfl, B1, c1, rfl, rfl⟩, cs _ _, trivial, trivial⟩
section
variable {p m : Int} {mod : List Int} [hF : IsF p m mod]
open Po
theorem quo_le {f g : Po (El p m mod)} (hg : g ≠ 0) : len (quo f g) ≤ len f := by
 by_cases hk : quo f g = 0
 ·rw [hk, len_zero]; omega
 ·have h1 := Po.div_eq f hg
  have h2 := Po.rem_len f hg
  have h3 := Po.len_mul hk hg
  have h5 := Po.len_pos hk
  have e : Po.quo f g * g = f - Po.rem f g := by grind
  have h4 := Po.len_sub f (Po.rem f g)
  rw [← e] at h4
  omega
end
end Go.Proofs.Ytbhoeaijpnjgdaa

namespace Go.Proofs.Ytbhoeaijpnjgdaa
open Go
end Go.Proofs.Ytbhoeaijpnjgdaa

set_option maxRecDepth 100000
namespace Go.Proofs.Ytbhoeaijpnjgdaa
open Go Go.RowKit Go.Sort
end Go.Proofs.Ytbhoeaijpnjgdaa

set_option maxRecDepth 100000
namespace Go.Proofs.Ytbhoeaijpnjgdaa
open Go.RowKit
theorem rows_permM {e : TypeId} {rs qs : List RowM} (h : rs.Perm qs) (F : List Chunk) : CSub (rowsCh e rs :: F) (rowsCh e qs :: F) := fun M w0 w Z hm => by
 have hfoot : ∀ b, (rowsCh e qs).foot b ↔ (rowsCh e rs).foot b := fun b => ⟨fun ⟨r, hr, hb⟩ => ⟨r, h.mem_iff.2 hr, hb⟩, fun ⟨r, hr, hb⟩ => ⟨r, h.mem_iff.1 hr, hb⟩⟩
 obtain ⟨h1, h2⟩ := List.pairwise_cons.1 hm.sep
 refine ⟨hm.upd, fun c hc => ?_, List.pairwise_cons.2 ⟨fun c hc hex b hb => h1 c hc hex b ((hfoot b).1 hb), h2⟩, fun c hc hex b hb => ?_⟩
 ·rcases List.mem_cons.1 hc with rfl | hc
  ·obtain ⟨s1, s2⟩ := hm.sat _ (List.mem_cons_self ..)
   exact ⟨fun r hr => s1 r (h.mem_iff.2 hr), h.pairwise s2 (fun hxy b hb hb2 => hxy b hb2 hb)⟩
  ·exact hm.sat c (List.mem_cons_of_mem _ hc)
 ·rcases List.mem_cons.1 hc with rfl | hc
  ·exact hm.own _ (List.mem_cons_self ..) trivial b ((hfoot b).1 hb)
  ·exact hm.own c (List.mem_cons_of_mem _ hc) hex b hb
section
open Po
end
end Go.Proofs.Ytbhoeaijpnjgdaa

set_option maxRecDepth 100000
namespace Go.Proofs.Ytbhoeaijpnjgdaa
open Go.RowKit
def fewB (l : Nat) : Bool := decide (l ≤ 25) || decide (facE l ≠ 0)
section
variable {p m : Int} {mod : List Int} [hF : IsF p m mod]
theorem nc_mod {x : Int} (h : 0 ≤ x) : (Rg.nc (x % p).toNat : El p m mod) = Rg.nc x.toNat := El.ext (by
 have hp := hF.p2
 have h1 := Int.emod_nonneg x (show p ≠ 0 by omega)
 rw [nc_val, nc_val, Int.toNat_of_nonneg h1, Int.toNat_of_nonneg h, Int.emod_emod_of_dvd _ (Int.dvd_refl p)])
end
theorem ref_times_ent : Enters Try.prog 94 := enters_of Try.func94 (by kernel_rfl) (by kernel_rfl)
theorem ref_times (p m : Int) (A : Option Addr) (c : Nat) (mod : List Int) [hF : IsF p m mod] (x y : Int) (hx : 0 ≤ x) :
  Pure Try.prog 94 #[.agg #[.int .i64 p, .int .i64 m, .slice A mod.length c], .int .i64 x, .int .i64 y] [ro A (ints mod)] (isV (.int .i64 (Rg.nc x.toNat * el y : El p m mod).1)) := by
 have hp2 := hF.p2
 have hx1 := Int.emod_nonneg x (show p ≠ 0 by omega)
 have hx2 := Int.emod_lt_of_pos x (show 0 < p by omega)
 have hp9 := hF.out.1.1.p9
 refine pure_of (args := [.agg #[.int .i64 p, .int .i64 m, .slice A mod.length c], .int .i64 x, .int .i64 y]) 22 Try.func94 rfl rfl rfl ref_times_ent ⟨id, trivial⟩ (fun w0 => ?_)
 refine tS ?_
 refine tR fun _ _ _ => ?_
 refine eV (eBox rfl rfl rfl rfl rfl (fun p0 => ?_))
 refine pV ?_
 refine tS ?_
 refine tR fun _ _ _ => ?_
 refine pV ?_
 refine tS ?_
 refine tS ?_
 refine tR fun _ _ _ => ?_
 refine pV ?_
 refine tB ?_
 refine tr_loop2 (fun (k : Int) (s : Int) => [(8, .int .i64 k), (7, .int .i64 s), (1, .int .i64 x), (2, .int .i64 y), (3, .pointer (some p0)), (6, .int .i64 0)]) (fun (k : Int) (s : Int) => [blk p0 24 [.int .i64 p, .int .i64 m, .slice A mod.length c], ro A (ints mod)]) (fun (k : Int) (s : Int) => (0 ≤ k ∧ k ≤ x % p) ∧ s = (Rg.nc k.toNat * el y : El p m mod).1) (fun (k : Int) (s : Int) => (x % p - k).toNat) (0) (0) ⟨rfl, rfl, rfl, rfl, rfl, rfl, trivial⟩ (by first | exact cs _ _ | exact CSub.refl _) (⟨⟨by omega, by omega⟩, by rw [show Int.toNat 0 = 0 from rfl, show (Rg.nc 0 : El p m mod) = 0 from rfl, Fd.zero_mul]; rfl⟩) (fun k s hI => ?_)
 obtain ⟨⟨hk0, hk1⟩, hs⟩ := hI
 refine tS ?_
 refine tS ?_
 refine tR fun _ _ _ => ?_
 iterate 2 refine pV ?_
 refine sV (rFld rfl rfl) ?_
 refine sV (rLdF rfl rfl rfl) ?_
 refine sV (rRem rfl rfl rfl (by omega) (by omega)) ?_
 refine pV ?_
 refine tC rfl (fun h3 => ?_) (fun h3 => ?_)
 ·try simp only [zbA] at h3
  refine tK ?_
  refine tS ?_
  refine tB ?_
  refine tR fun _ _ _ => ?_
  refine sV (rLdS rfl rfl rfl) ?_
  iterate 2 refine pV ?_
  refine eV (eCallV rfl rfl rfl (ref_AddE p m A c mod _ _) ⟨rfl, rfl, rfl, trivial⟩ ?_)
  refine pV ?_
  refine tR fun _ _ _ => ?_
  refine pV ?_
  refine sV (rAdd rfl rfl rfl (by omega) (by omega)) ?_
  refine pV ?_
  refine ⟨k + 1, (el s + el y : El p m mod).1, ⟨rfl, rfl, rfl, rfl, rfl, rfl, trivial⟩, by first | exact cs _ _ | exact CSub.refl _, ?_⟩
  refine ⟨⟨⟨by omega, by omega⟩, ?_⟩, by omega⟩
  rw [hs, el_of, show (k + 1).toNat = k.toNat + 1 by omega, Rg.nc_succ, Rg.add_mul, Rg.one_mul]
 ·try simp only [zbA] at h3
  refine tE ?_
  refine tS ?_
  refine tR fun _ _ _ => ?_
  iterate 2 refine pV ?_
  exact tr_ret ⟨trivial, _, _, rfl, ⟨by rw [hs, show k.toNat = (x % p).toNat by omega, nc_mod hx], rfl⟩, CSub.nil _, trivial⟩
theorem ref_Derivative_ent : Enters Try.prog 38 := enters_of Try.func38 (by kernel_rfl) (by kernel_rfl)
theorem ref_Derivative (p m : Int) (A : Option Addr) (c : Nat) (mod : List Int) [hF : IsF p m mod] (Xa : Option Addr) (na ca : Nat) (a : List Int) (hna : na = a.length) (ha9 : a.length ≤ 1000000) :
  Pure Try.prog 38 #[.agg #[.int .i64 p, .int .i64 m, .slice A mod.length c], .slice Xa na ca] [ro A (ints mod), ro Xa (ints a)] (one (fun v ch => ∃ B cap, v = .slice B (il (dP (pol a : Po (El p m mod)))).length cap ∧ ch = ow B 3 cap (ints (il (dP (pol a : Po (El p m mod))))))) := by
 refine pure_of (args := [.agg #[.int .i64 p, .int .i64 m, .slice A mod.length c], .slice Xa na ca]) 35 Try.func38 rfl rfl rfl ref_Derivative_ent ⟨id, id, trivial⟩ (fun w0 => ?_)
 refine tS ?_
 refine tR fun _ _ _ => ?_
 refine eV (eBox rfl rfl rfl rfl rfl (fun p0 => ?_))
 refine pV ?_
 refine tS ?_
 refine tS ?_
 refine tR fun _ _ _ => ?_
 refine pV ?_
 refine sV (rLen rfl rfl) ?_
 refine pV ?_
 refine tC rfl (fun h1 => ?_) (fun h1 => ?_)
 ·try simp only [zbA] at h1
  refine tS ?_
  refine tR fun _ _ _ => ?_
  refine pV ?_
  have hz : (pol a : Po (El p m mod)) = 0 := by rw [List.eq_nil_of_length_eq_zero (l := a) (by omega)]; exact pol_nil
  refine tr_nilI 3 ?_
  rw [hz, show dP (0 : Po (El p m mod)) = 0 from Po.ext fun j => by rw [cf_dP, Po.cf_zero, Rg.mul_zero, Po.cf_zero], il_zero]
  exact tr_ret ⟨trivial, _, _, rfl, ⟨_, rfl, none, 0, rfl, rfl⟩, cs _ _, trivial, trivial⟩
 ·try simp only [zbA] at h1
  refine tK ?_
  refine tS ?_
  refine tR fun _ _ _ => ?_
  refine pV ?_
  refine sV (rLen rfl rfl) ?_
  refine sV (rSub rfl rfl rfl (by omega) (by omega)) ?_
  refine eV (eMakeI rfl rfl rfl rfl rfl (by omega) (by omega) (by omega) (fun A3 => ?_))
  refine pV ?_
  rw [show ((na : Int) - 1).toNat = na - 1 by omega]
  refine tS ?_
  refine tS ?_
  refine tR fun _ _ _ => ?_
  refine pV ?_
  refine tB ?_
  refine tr_loop2 (fun (k : Int) (o : List Int) => [(5, .slice A3 (na - 1) (na - 1)), (6, .int .i64 k), (1, .slice Xa na ca), (2, .pointer (some p0)), (4, .slice none 0 0)]) (fun (k : Int) (o : List Int) => [ow A3 3 (na - 1) (ints o), blk p0 24 [.int .i64 p, .int .i64 m, .slice A mod.length c], ro A (ints mod), ro Xa (ints a)]) (fun (k : Int) (o : List Int) => (0 ≤ k ∧ k ≤ na - 1) ∧ o.length = na - 1 ∧ ∀ j : Nat, (j : Int) < k → (el (o.getD j 0) : El p m mod) = Rg.nc (j + 1) * el (a.getD (j + 1) 0)) (fun (k : Int) (o : List Int) => (na - k).toNat) (0) (List.replicate (na - 1) 0) ⟨rfl, rfl, rfl, rfl, rfl, trivial⟩ (by first | exact cs _ _ | exact CSub.refl _) (⟨⟨by omega, by omega⟩, by simp, fun j hj => by omega⟩) (fun k o hI => ?_)
  obtain ⟨⟨hk0, hk1⟩, hol, ho⟩ := hI
  refine tS ?_
  refine tS ?_
  refine tR fun _ _ _ => ?_
  iterate 2 refine pV ?_
  refine sV (rLen rfl rfl) ?_
  refine pV ?_
  refine tC rfl (fun h5 => ?_) (fun h5 => ?_)
  ·try simp only [zbA] at h5
   refine tK ?_
   refine tS ?_
   refine tB ?_
   refine tr_draw [0, 1, 2, 3, 4, 5, 6, 7, 8, 9, 10, 11] [12] mixed (by kernel_rfl) fun _ _ _ => ?_
   iterate 2 refine pV ?_
   refine sV (rLdS rfl rfl rfl) ?_
   refine pV ?_
   refine sV (rAdd rfl rfl rfl (by omega) (by omega)) ?_
   iterate 2 refine pV ?_
   refine sV (rAdd rfl rfl rfl (by omega) (by omega)) ?_
   refine sV (rIdxI rfl rfl rfl (by omega) (by omega) (by omega)) ?_
   refine sV (rLdI rfl rfl (by omega)) ?_
   refine eV (eCallV rfl rfl rfl (ref_times p m A c mod (k + 1) _ (by omega)) ⟨rfl, rfl, rfl, trivial⟩ ?_)
   refine sV (rIdxI rfl rfl rfl (by omega) (by omega) (by omega)) ?_
   refine eV (eStI rfl rfl rfl rfl (by omega) ?_)
   refine tR fun _ _ _ => ?_
   refine pV ?_
   refine sV (rAdd rfl rfl rfl (by omega) (by omega)) ?_
   refine pV ?_
   refine ⟨k + 1, o.set k.toNat (Rg.nc (k + 1).toNat * el (a.getD (k + 1).toNat 0) : El p m mod).1, ⟨rfl, rfl, rfl, rfl, rfl, trivial⟩, by first | exact cs _ _ | exact CSub.refl _, ?_⟩
   refine ⟨⟨⟨by omega, by omega⟩, by simpa using hol, fun j hj => ?_⟩, by omega⟩
   rw [getD_set]
   by_cases he : k.toNat = j
   ·subst he; rw [if_pos ⟨rfl, by omega⟩, el_of, show (k + 1).toNat = k.toNat + 1 by omega]
   ·rw [if_neg (fun e => he e.1)]; exact ho j (by omega)
  ·try simp only [zbA] at h5
   refine tE ?_
   refine tS ?_
   refine tR fun _ _ _ => ?_
   refine sV (rLdS rfl rfl rfl) ?_
   refine pV ?_
   refine eV (eCall1 rfl rfl rfl (ref_CanonE _ _ _ _ _ _ _ _ o (by omega) (by omega)) ⟨rfl, rfl, trivial⟩ ?_)
   rintro _ _ ⟨B8, c8, rfl, rfl⟩
   refine pV ?_
   have hp : (pol o : Po (El p m mod)) = dP (pol a) := pol_at fun j => by
    rw [cf_dP, cf_pol]
    by_cases hj : (j : Int) < k
    ·exact ho j hj
    ·rw [getD_out (l := o) (by omega), getD_out (l := a) (by omega), el_zero, Fd.mul_zero]
   rw [hp]
   exact tr_ret ⟨trivial, _, _, rfl, ⟨_, rfl, B8, c8, rfl, rfl⟩, cs _ _, trivial, trivial⟩
theorem ref_PMonicL_ent : Enters Try.prog 36 := enters_of Try.func36 (by kernel_rfl) (by kernel_rfl)
theorem ref_PMonicL (p m : Int) (A : Option Addr) (c : Nat) (mod : List Int) [hF : IsF p m mod] (Xa : Option Addr) (na ca : Nat) (a : List Int) (hna : na = a.length) (ha9 : a.length ≤ 17592186044415) (hal : (il (pol a : Po (El p m mod))).length ≤ 1000000) :
  Pure Try.prog 36 #[.agg #[.int .i64 p, .int .i64 m, .slice A mod.length c], .slice Xa na ca] [ro A (ints mod), ro Xa (ints a)] (one (fun v ch => ∃ B cap, v = .slice B (il (Po.mon (pol a : Po (El p m mod)))).length cap ∧ ch = ow B 3 cap (ints (il (Po.mon (pol a : Po (El p m mod))))))) := by
 have hil := il_le (p := p) (m := m) (mod := mod) a
 refine pure_of (args := [.agg #[.int .i64 p, .int .i64 m, .slice A mod.length c], .slice Xa na ca]) 23 Try.func36 rfl rfl rfl ref_PMonicL_ent ⟨id, id, trivial⟩ (fun w0 => ?_)
 refine tS ?_
 refine tR fun _ _ _ => ?_
 refine eV (eBox rfl rfl rfl rfl rfl (fun p0 => ?_))
 refine pV ?_
 refine tS ?_
 refine tR fun _ _ _ => ?_
 refine sV (rLdS rfl rfl rfl) ?_
 refine pV ?_
 refine eV (eCall1 rfl rfl rfl (ref_CanonE _ _ _ _ _ _ _ _ a hna (by omega)) ⟨rfl, rfl, trivial⟩ ?_)
 rintro _ _ ⟨B1, c1, rfl, rfl⟩
 refine pV ?_
 refine tS ?_
 refine tS ?_
 refine tR fun _ _ _ => ?_
 refine pV ?_
 refine sV (rLen rfl rfl) ?_
 refine pV ?_
 refine tC rfl (fun h2 => ?_) (fun h2 => ?_)
 ·try simp only [zbA] at h2
  refine tS ?_
  refine tR fun _ _ _ => ?_
  iterate 2 refine pV ?_
  have h0 : (pol a : Po (El p m mod)) = 0 := Po.eq_zero_of_len (by rw [← il_length]; omega)
  rw [show Po.mon (pol a : Po (El p m mod)) = pol a by rw [h0, Po.mon_zero]]
  exact tr_ret ⟨trivial, _, _, rfl, ⟨_, rfl, B1, c1, rfl, rfl⟩, cs _ _, trivial, trivial⟩
 ·try simp only [zbA] at h2
  refine tK ?_
  refine tS ?_
  refine tr_draw [0, 1, 2, 3, 4, 5, 6, 7, 9, 8, 10, 11] [] mixed (by kernel_rfl) fun _ _ _ => ?_
  refine sV (rLdS rfl rfl rfl) ?_
  refine sV (rLdS rfl rfl rfl) ?_
  iterate 2 refine pV ?_
  refine sV (rLen rfl rfl) ?_
  refine sV (rSub rfl rfl rfl (by omega) (by omega)) ?_
  refine sV (rIdxI rfl rfl rfl (by omega) (by omega) (by omega)) ?_
  refine sV (rLdI rfl rfl (by omega)) ?_
  refine pV ?_
  refine eV (eCallV rfl rfl rfl (ref_InvE _ _ _ _ _ _) ⟨rfl, rfl, trivial⟩ ?_)
  refine eV (eCall1 rfl rfl rfl (ref_PScale _ _ _ _ _ _ B1 _ _ (il (pol a : Po (El p m mod))) rfl (by omega)) ⟨rfl, rfl, rfl, trivial⟩ ?_)
  rintro _ _ ⟨Br, cr, rfl, rfl⟩
  refine pV ?_
  have hp : Po.C (el (Fd.inv (el ((il (pol a : Po (El p m mod))).getD ((il (pol a : Po (El p m mod))).length - 1 : Int).toNat 0)) : El p m mod).1) * (pol (il (pol a : Po (El p m mod))) : Po (El p m mod)) = Po.mon (pol a) := by
   rw [el_of, pol_il, il_getD, el_of]
   unfold Po.mon Po.lead
   rw [il_length, show ((Po.len (pol a : Po (El p m mod)) : Int) - 1).toNat = Po.len (pol a : Po (El p m mod)) - 1 by omega]
  rw [hp]
  exact tr_ret ⟨trivial, _, _, rfl, ⟨_, rfl, Br, cr, rfl, rfl⟩, cs _ _, trivial, trivial⟩
theorem law06_few_ent : Enters Try.prog 13 := enters_of Try.func13 (by kernel_rfl) (by kernel_rfl)
theorem law06_few (p m : Int) (A : Option Addr) (c : Nat) (mod : List Int) [hF : IsF p m mod] (Xa : Option Addr) (na ca : Nat) (a : List Int) (hna : na = a.length) (ha9 : a.length ≤ 17592186044415) :
  Pure Try.prog 13 #[.agg #[.int .i64 p, .int .i64 m, .slice A mod.length c], .slice Xa na ca] [ro A (ints mod), ro Xa (ints a)] (isV (.bool (fewB (Po.len (pol a : Po (El p m mod)))))) := by
 refine pure_of (args := [.agg #[.int .i64 p, .int .i64 m, .slice A mod.length c], .slice Xa na ca]) 15 Try.func13 rfl rfl rfl law06_few_ent ⟨id, id, trivial⟩ (fun w0 => ?_)
 refine tS ?_
 refine tR fun _ _ _ => ?_
 refine eV (eBox rfl rfl rfl rfl rfl (fun p0 => ?_))
 refine pV ?_
 refine tS ?_
 by_cases hs : (Po.len (pol a : Po (El p m mod))) ≤ 25
 ·refine tR fun _ _ _ => ?_
  refine sV (rLdS rfl rfl rfl) ?_
  refine pV ?_
  refine eV (eCallV rfl rfl rfl (ref_PDegree p m A c mod Xa na ca a hna ha9) ⟨rfl, rfl, trivial⟩ ?_)
  iterate 2 refine pV ?_
  refine skF rfl rfl (by first | exact decide_eq_true (by omega) | (rw [decide_eq_true (show ((Po.len (pol a : Po (El p m mod))) : Int) - 1 ≤ 24 by omega)]; rfl)) rfl rfl ?_
  refine skF rfl rfl (by first | exact decide_eq_true (by omega) | (rw [decide_eq_true (show ((Po.len (pol a : Po (El p m mod))) : Int) - 1 ≤ 24 by omega)]; rfl)) rfl rfl ?_
  refine skF rfl rfl (by first | exact decide_eq_true (by omega) | (rw [decide_eq_true (show ((Po.len (pol a : Po (El p m mod))) : Int) - 1 ≤ 24 by omega)]; rfl)) rfl rfl ?_
  refine skF rfl rfl (by first | exact decide_eq_true (by omega) | (rw [decide_eq_true (show ((Po.len (pol a : Po (El p m mod))) : Int) - 1 ≤ 24 by omega)]; rfl)) rfl rfl ?_
  refine sV (rPick1 rfl rfl (by first | exact decide_eq_true (by omega) | (rw [decide_eq_true (show ((Po.len (pol a : Po (El p m mod))) : Int) - 1 ≤ 24 by omega)]; rfl)) rfl) ?_
  refine pV ?_
  exact tr_ret ⟨trivial, _, _, rfl, ⟨by unfold fewB; simp; omega, rfl⟩, CSub.nil _, trivial⟩
 ·refine tR fun _ _ _ => ?_
  refine sV (rLdS rfl rfl rfl) ?_
  refine pV ?_
  refine eV (eCallV rfl rfl rfl (ref_PDegree p m A c mod Xa na ca a hna ha9) ⟨rfl, rfl, trivial⟩ ?_)
  iterate 2 refine pV ?_
  refine stT rfl rfl rfl (by first | exact decide_eq_false (by omega) | (rw [decide_eq_false (show ¬ (((Po.len (pol a : Po (El p m mod))) : Int) - 1 ≤ 24) by omega)]; rfl)) rfl rfl (rLdS rfl rfl rfl) ?_
  refine stT rfl rfl rfl (by first | exact decide_eq_false (by omega) | (rw [decide_eq_false (show ¬ (((Po.len (pol a : Po (El p m mod))) : Int) - 1 ≤ 24) by omega)]; rfl)) rfl rfl (rMove rfl rfl) ?_
  refine efT rfl rfl rfl (by first | exact decide_eq_false (by omega) | (rw [decide_eq_false (show ¬ (((Po.len (pol a : Po (El p m mod))) : Int) - 1 ≤ 24) by omega)]; rfl)) (eCallV rfl rfl rfl (ref_Right p m A c mod Xa na ca a hna ha9) ⟨rfl, rfl, trivial⟩ ?_)
  refine stT rfl rfl rfl (by first | exact decide_eq_false (by omega) | (rw [decide_eq_false (show ¬ (((Po.len (pol a : Po (El p m mod))) : Int) - 1 ≤ 24) by omega)]; rfl)) rfl rfl (rNeq rfl rfl rfl) ?_
  refine sV (rPick0 rfl rfl (by first | exact decide_eq_false (by omega) | (rw [decide_eq_false (show ¬ (((Po.len (pol a : Po (El p m mod))) : Int) - 1 ≤ 24) by omega)]; rfl)) rfl) ?_
  refine pV ?_
  exact tr_ret ⟨trivial, _, _, rfl, ⟨by unfold fewB; simp; omega, rfl⟩, CSub.nil _, trivial⟩
end Go.Proofs.Ytbhoeaijpnjgdaa

namespace Go.Proofs.Ytbhoeaijpnjgdaa
open Go Go.RowKit Go.Sort Go.Shelf
end Go.Proofs.Ytbhoeaijpnjgdaa

namespace Go.Proofs.Ytbhoeaijpnjgdaa
open Go.RowKit
section
variable {p m : Int} {mod : List Int} [hF : IsF p m mod]
open Po
theorem lead1_ne {f : Po (El p m mod)} (h : lead f = 1) : f ≠ 0 := fun e => by
 rw [e] at h
 exact Fd.one_ne (K := El p m mod) (h.symm.trans (by unfold Po.lead; exact Po.cf_zero _))
theorem mu_pos {P f : Po (El p m mod)} (hP : Ir P) (hf : f ≠ 0) : P ∣ f ↔ 1 ≤ mu P f := by
 have := mu_le_iff hP hf 1
 rwa [Rg.pow_one] at this
theorem len_one_of_mu {g : Po (El p m mod)} (hg : g ≠ 0) (h : ∀ P, Ir P → lead P = 1 → mu P g = 0) : len g = 1 := by
 have h1 := len_pos hg
 refine Nat.le_antisymm (Nat.le_of_not_lt fun hl => ?_) h1
 obtain ⟨P, hP, hPl, hd⟩ := ir_ex hl
 have := (mu_pos hP hg).1 hd
 have := h P hP hPl
 omega
theorem one_of_len {f : Po (El p m mod)} (h : lead f = 1) (hl : len f = 1) : f = 1 := Po.ext fun j => by
 unfold lead at h
 rw [hl] at h
 by_cases hj : j = 0
 ·subst hj
  rw [h]; rfl
 ·rw [cf_ge (by omega), cf_ge (by rw [len_one]; omega)]
theorem eq_mu1 : ∀ (N : Nat) (f g : Po (El p m mod)), len f ≤ N → lead f = 1 → lead g = 1 → (∀ P, Ir P → lead P = 1 → mu P f = mu P g) → f = g
 | 0, f, g, hN, hf, hg, h => absurd (len_pos (lead1_ne hf)) (by omega)
 | N + 1, f, g, hN, hf, hg, h => by
  have hf0 := lead1_ne hf
  have hg0 := lead1_ne hg
  by_cases hl : 2 ≤ len f
  ·obtain ⟨P, hP, hPl, hd⟩ := ir_ex hl
   have h1 := (mu_pos hP hf0).1 hd
   rw [h P hP hPl] at h1
   obtain ⟨a, ha⟩ := hd
   obtain ⟨b, hb⟩ := (mu_pos hP hg0).2 h1
   have ha0 : a ≠ 0 := fun e => hf0 (by rw [ha, e, Rg.mul_zero])
   have hb0 : b ≠ 0 := fun e => hg0 (by rw [hb, e, Rg.mul_zero])
   have hla : lead a = 1 := by rw [ha, lead_mul hP.ne ha0, hPl, Rg.one_mul] at hf; exact hf
   have hlb : lead b = 1 := by rw [hb, lead_mul hP.ne hb0, hPl, Rg.one_mul] at hg; exact hg
   have hlen := len_mul hP.ne ha0
   have hP2 := hP.two
   have := len_pos ha0
   rw [← ha] at hlen
   have e := eq_mu1 N a b (by omega) hla hlb fun Q hQ hQl => by
    have h2 := h Q hQ hQl
    rw [ha, hb, mu_mul hQ hP.ne ha0, mu_mul hQ hP.ne hb0] at h2
    omega
   rw [ha, hb, e]
  ·have hl1 : len f = 1 := by have := len_pos hf0; omega
   have hf1 := one_of_len hf hl1
   have hg1 := one_of_len hg (len_one_of_mu hg0 fun P hP hPl => by rw [← h P hP hPl, hf1, mu_one hP])
   rw [hf1, hg1]
theorem prF_mu {fs : List FacM} (h : ∀ e ∈ fs, lead (fcP p m mod e) = 1 ∧ 0 ≤ e.k) : ∀ n, n ≤ fs.length → lead (prF p m mod 1 fs n) = 1 ∧ ((len (prF p m mod 1 fs n) : Nat) : Int) = fcT p m mod fs n + 1
 | 0, _ => by
  have e : prF p m mod 1 fs 0 = (1 : Po (El p m mod)) := by show C (el 1) = 1; rw [el_one]; rfl
  rw [e]
  refine ⟨?_, ?_⟩
  ·unfold lead; rw [len_one]; rfl
  ·rw [len_one]; rfl
 | n + 1, hn => by
  obtain ⟨h1, h2⟩ := prF_mu h n (by omega)
  have hm := getD_mem (l := fs) (show n < fs.length by omega) facD
  obtain ⟨h3, h4⟩ := h _ hm
  have e : prF p m mod 1 fs (n + 1) = prF p m mod 1 fs n * Rg.pow (fcP p m mod (fs.getD n facD)) (fs.getD n facD).k.toNat := rfl
  have hQ0 := lead1_ne h3
  have hlp : lead (Rg.pow (fcP p m mod (fs.getD n facD)) (fs.getD n facD).k.toNat) = 1 := by
   generalize (fs.getD n facD).k.toNat = k
   induction k with
   | zero => show lead (1 : Po (El p m mod)) = 1; unfold lead; rw [len_one]; rfl
   | succ k ih => rw [Rg.pow_succ, lead_mul (pow_ne0 hQ0 k) hQ0, ih, h3, Rg.one_mul]
  refine ⟨by rw [e, lead_mul (lead1_ne h1) (lead1_ne hlp), h1, hlp, Rg.one_mul], ?_⟩
  have hl := len_mul (lead1_ne h1) (lead1_ne hlp)
  rw [← e, len_powN hQ0] at hl
  have hq := len_pos hQ0
  have h5 := len_pos (lead1_ne h1)
  rw [fcT_succ (by omega)]
  have h6 : fcD p m mod (fs.getD n facD) = ((len (fcP p m mod (fs.getD n facD)) - 1 : Nat) : Int) := by unfold fcD; omega
  have h7 : ((fs.getD n facD).k.toNat * (len (fcP p m mod (fs.getD n facD)) - 1) : Nat) = fcD p m mod (fs.getD n facD) * (fs.getD n facD).k := by
   rw [h6, Int.natCast_mul, Int.toNat_of_nonneg h4, Int.mul_comm]
  omega
theorem sf_der {Q : Po (El p m mod)} (hQ : Q ≠ 0) (h : Sf Q) : len (Po.gcd Q (dP Q)) = 1 := len_one_of_mu (gcd_ne (.inl hQ)) fun P hP hPl => by
 have h1 := (sf_iff_mu hQ).1 h P hP
 have hp := hF.p2
 rw [mu_gcd_dP hP hQ]
 rcases Nat.eq_zero_or_pos (mu P Q) with e | e
 ·rw [e]; simp
 ·have e2 : mu P Q = 1 := by omega
  rw [e2, if_neg (by rw [show ((1 : Nat) : Int) % p = 1 from Int.emod_eq_of_lt (by omega) (by omega)]; omega)]
end
end Go.Proofs.Ytbhoeaijpnjgdaa

namespace Go.Proofs.Ytbhoeaijpnjgdaa
open Go.RowKit
section
variable {K : Type} [Fd K]
open Vc
def lpV (n : Nat) (u : Vc K) : Po K := ⟨fun j => if j < n then u j else 0, n, fun j hj => if_neg (by omega)⟩
def rpV (n : Nat) (u : Vc K) : Po K := ⟨fun j => if j < n then u (n + j) else 0, n, fun j hj => if_neg (by omega)⟩
theorem cf_lpV (n : Nat) (u : Vc K) (j : Nat) : Po.cf (lpV n u) j = if j < n then u j else 0 := rfl
theorem cf_rpV (n : Nat) (u : Vc K) (j : Nat) : Po.cf (rpV n u) j = if j < n then u (n + j) else 0 := rfl
theorem lpV_len (n : Nat) (u : Vc K) : Po.len (lpV n u) ≤ n := Po.len_le fun j hj => if_neg (by omega)
theorem rpV_len (n : Nat) (u : Vc K) : Po.len (rpV n u) ≤ n := Po.len_le fun j hj => if_neg (by omega)
theorem lpV_add (n : Nat) (u v : Vc K) (c : K) : lpV n (u + sc c v) = lpV n u + Po.C c * lpV n v := Po.ext fun j => by
 rw [Po.cf_add, Po.cf_C_mul, cf_lpV, cf_lpV, cf_lpV]
 by_cases h : j < n
 ·rw [if_pos h, if_pos h, if_pos h]; rfl
 ·rw [if_neg h, if_neg h, if_neg h, Fd.mul_zero, Rg.add_zero]
theorem rpV_add (n : Nat) (u v : Vc K) (c : K) : rpV n (u + sc c v) = rpV n u + Po.C c * rpV n v := Po.ext fun j => by
 rw [Po.cf_add, Po.cf_C_mul, cf_rpV, cf_rpV, cf_rpV]
 by_cases h : j < n
 ·rw [if_pos h, if_pos h, if_pos h]; rfl
 ·rw [if_neg h, if_neg h, if_neg h, Fd.mul_zero, Rg.add_zero]
theorem lpV_zero (n : Nat) : lpV n (0 : Vc K) = 0 := Po.ext fun j => by rw [cf_lpV, Po.cf_zero]; split <;> rfl
theorem rpV_zero (n : Nat) : rpV n (0 : Vc K) = 0 := Po.ext fun j => by rw [cf_rpV, Po.cf_zero]; split <;> rfl
theorem cmb_erase : ∀ (V : List (Vc K)) (i : Nat) (c : Nat → K), i < V.length → ∃ u, SpL (V.eraseIdx i) u ∧ cmb c V = sc (c i) (V.getD i 0) + u
 | v :: V, 0, c, _ => ⟨cmb (fun i => c (i + 1)) V, cmb_sp _ V, rfl⟩
 | v :: V, i + 1, c, h => by
  obtain ⟨u, h1, h2⟩ := cmb_erase V i (fun i => c (i + 1)) (by simpa using h)
  refine ⟨u + sc (c 0) v, .add _ (h1.mono fun r hr => .of (List.mem_cons_of_mem _ hr)) (List.mem_cons_self ..), ?_⟩
  rw [cmb, h2]
  show sc (c 0) v + (sc (c (i + 1)) (V.getD i 0) + u) = sc (c (i + 1)) (V.getD i 0) + (u + sc (c 0) v)
  ac_rfl
theorem indep_of_span {V T : List (Vc K)} (hl : V.length ≤ T.length) (hT : ¬ Dep T) (hs : ∀ t ∈ T, SpL V t) : ¬ Dep V := fun ⟨c, ⟨i, hi, hc⟩, h0⟩ => hT (by
 obtain ⟨u, h1, h2⟩ := cmb_erase V i c hi
 rw [h0] at h2
 have hVi : SpL (V.eraseIdx i) (V.getD i 0) := by
  have e : V.getD i 0 = sc (-(Fd.inv (c i))) u := Vc.ext fun j => by
   have h3 := congrFun h2 j
   rw [zero_at, add_at, sc_at] at h3
   rw [sc_at]
   have h4 := Fd.inv_mul (c i) hc
   have h5 : V.getD i 0 j = Fd.inv (c i) * (c i * V.getD i 0 j) := by rw [← Rg.mul_assoc, h4, Rg.one_mul]
   rw [h5]
   have h6 : c i * V.getD i 0 j = -(u j) := by grind
   rw [h6]; grind
  rw [e]; exact h1.scale _
 refine dep_of_more (V.eraseIdx i) T (fun t ht => (hs t ht).mono fun r hr => ?_) (by rw [List.length_eraseIdx]; split <;> omega)
 obtain ⟨j, hj, rfl⟩ := List.getElem_of_mem hr
 by_cases hij : j = i
 ·subst hij
  rw [List.getD_eq_getElem?_getD, List.getElem?_eq_getElem hj] at hVi
  exact hVi
 ·exact .of (List.mem_eraseIdx_iff_getElem.2 ⟨j, hj, hij, rfl⟩))
theorem cmb_drop : ∀ (a : Nat) (c : Nat → K) (V : List (Vc K)), a ≤ V.length → (∀ i, i < a → c i = 0) → cmb c V = cmb (fun i => c (a + i)) (V.drop a)
 | 0, c, V, _, _ => by simp
 | a + 1, c, v :: V, h, hz => by
  rw [cmb, hz 0 (by omega), zero_sc, zero_add, List.drop_succ_cons, cmb_drop a (fun i => c (i + 1)) V (by simpa using h) (fun i hi => hz (i + 1) (by omega))]
  congr 1
  funext i
  congr 1
  omega
end
section
variable {p m : Int} {mod : List Int} [hF : IsF p m mod]
open Po Vc
noncomputable def phiP (v : Po (El p m mod)) : Po (El p m mod) := Rg.pow v (pw p m).toNat - v
theorem phiP_add (u v : Po (El p m mod)) : phiP (u + v) = phiP u + phiP v := by
 unfold phiP
 have := frobQ u v 1
 rw [Nat.pow_one] at this
 rw [this]; grind
theorem phiP_C (c : El p m mod) (u : Po (El p m mod)) : phiP (C c * u) = C c * phiP u := by
 unfold phiP
 have hcp : ∀ k, Rg.pow (C c : Po (El p m mod)) k = C (Rg.pow c k) := fun k => by
  induction k with
  | zero => exact C_one.symm
  | succ k ih => rw [Rg.pow_succ, Rg.pow_succ, ih, C_mul]
 rw [Rg.mul_pow, hcp, all_pow]; grind
theorem phiP_zero : phiP (0 : Po (El p m mod)) = 0 := by
 have hq := hF.q2
 unfold phiP
 rw [Rg.zero_pow (by omega), Rg.sub_self]
def Gr (f : Po (El p m mod)) (n : Nat) (u : Vc (El p m mod)) : Prop := (∀ j, n + n ≤ j → u j = 0) ∧ f ∣ phiP (rpV n u) - lpV n u
theorem Gr.add {f : Po (El p m mod)} {n : Nat} {u v : Vc (El p m mod)} (h : Gr f n u) (k : Gr f n v) (c : El p m mod) : Gr f n (u + sc c v) := by
 refine ⟨fun j hj => by rw [add_at, sc_at, h.1 j hj, k.1 j hj, Fd.mul_zero, Rg.add_zero], ?_⟩
 rw [rpV_add, lpV_add, phiP_add, phiP_C]
 have := dvd_add h.2 (dvd_mul_ofL k.2 (C c))
 rwa [show phiP (rpV n u) - lpV n u + C c * (phiP (rpV n v) - lpV n v) = phiP (rpV n u) + C c * phiP (rpV n v) - (lpV n u + C c * lpV n v) by grind] at this
theorem Gr.zero (f : Po (El p m mod)) (n : Nat) : Gr f n 0 := ⟨fun _ _ => rfl, by rw [rpV_zero, lpV_zero, phiP_zero, Rg.sub_self]; exact dvd_zero f⟩
theorem Gr.span {f : Po (El p m mod)} {n : Nat} {V : List (Vc (El p m mod))} (h : ∀ v ∈ V, Gr f n v) {u : Vc (El p m mod)} (hu : SpL V u) : Gr f n u := Sp.lift hu (Gr.zero f n) fun u c r h1 h2 => h1.add (h r h2) c
theorem Gr.eq {f : Po (El p m mod)} {n : Nat} (hf : len f = n + 1) {u v : Vc (El p m mod)} (h : Gr f n u) (k : Gr f n v) (he : rpV n u = rpV n v) : u = v := by
 have h1 := dvd_sub h.2 k.2
 rw [he, show phiP (rpV n v) - lpV n u - (phiP (rpV n v) - lpV n v) = lpV n v - lpV n u by grind] at h1
 have h2 : lpV n v - lpV n u = 0 := Classical.byContradiction fun hne => by
  have := dvd_len h1 hne
  have h3 := len_sub (lpV n v) (lpV n u)
  have := lpV_len n v
  have := lpV_len n u
  omega
 refine Vc.ext fun j => ?_
 rcases Nat.lt_or_ge j n with hj | hj
 ·have h3 := congrArg (fun g => cf g j) h2
  simp only [cf_sub, cf_zero, cf_lpV, if_pos hj] at h3
  grind
 ·rcases Nat.lt_or_ge j (n + n) with hj2 | hj2
  ·have h3 := congrArg (fun g => cf g (j - n)) he
   simp only [cf_rpV, if_pos (show j - n < n by omega), show n + (j - n) = j by omega] at h3
   exact h3
  ·rw [h.1 j hj2, k.1 j hj2]
theorem cmb_at_drop (c : Nat → El p m mod) (R : List (Vc (El p m mod))) (j : Nat) : cmb c R j = Rg.sm R.length (fun i => c i * (R.getD i 0) j) := cmb_at c 0 R j
structure Sta (f : Po (El p m mod)) (n : Nat) (V : List (Vc (El p m mod))) : Prop where
 len : V.length = n
 gr : ∀ v ∈ V, Gr f n v
 one : ∀ i j, i < n → j < n → V.getD i 0 (n + j) = if i = j then 1 else 0
theorem Sta.cmb {f : Po (El p m mod)} {n : Nat} {V : List (Vc (El p m mod))} (h : Sta f n V) (c : Nat → El p m mod) {j : Nat} (hj : j < n) : cmb c V (n + j) = c j := by
 rw [cmb_at_drop, h.len, Rg.sm_one hj (fun i hi hne => by rw [h.one i j hi hj, if_neg hne, Fd.mul_zero]), h.one j j hj hj, if_pos rfl, Rg.mul_one]
theorem Sta.span {f : Po (El p m mod)} {n : Nat} {V : List (Vc (El p m mod))} (h : Sta f n V) (hf : Po.len f = n + 1) (u : Vc (El p m mod)) : SpL V u ↔ Gr f n u := by
 refine ⟨Gr.span h.gr, fun hu => ?_⟩
 have e : u = Vc.cmb (fun k => u (n + k)) V := Gr.eq hf hu (Gr.span h.gr (cmb_sp _ V)) (Po.ext fun j => by
  rw [cf_rpV, cf_rpV]
  by_cases hj : j < n
  ·rw [if_pos hj, if_pos hj, h.cmb _ hj]
  ·rw [if_neg hj, if_neg hj])
 rw [e]; exact cmb_sp _ V
theorem Sta.ind {f : Po (El p m mod)} {n : Nat} {V : List (Vc (El p m mod))} (h : Sta f n V) : ¬ Dep V := fun ⟨c, ⟨i, hi, hc⟩, h0⟩ => hc (by
 rw [h.len] at hi
 rw [← h.cmb c hi, h0]; rfl)
structure Fwd (f : Po (El p m mod)) (n : Nat) (V : List (Vc (El p m mod))) (c a : Nat) : Prop where
 len : V.length = n
 sp : ∀ u, SpL V u ↔ Gr f n u
 zer : ∀ i j, a ≤ i → i < n → j < c → V.getD i 0 j = 0
 piv : ∀ i, i < a → ∃ d, d < n ∧ V.getD i 0 d ≠ 0 ∧ ∀ k, i < k → k < n → V.getD k 0 d = 0
variable {f : Po (El p m mod)} {n c a : Nat} {V : List (Vc (El p m mod))}
theorem Sta.fwd (h : Sta f n V) (hf : Po.len f = n + 1) : Fwd f n V 0 0 := ⟨h.len, h.span hf, fun i j _ _ hj => absurd hj (Nat.not_lt_zero _), fun i hi => absurd hi (Nat.not_lt_zero _)⟩
theorem Fwd.skip (h : Fwd f n V c a) (hz : ∀ i, a ≤ i → i < n → V.getD i 0 c = 0) : Fwd f n V (c + 1) a :=
 ⟨h.len, h.sp, fun i j h1 h2 h3 => by
  rcases Nat.lt_or_eq_of_le (Nat.le_of_lt_succ h3) with e | e
  ·exact h.zer i j h1 h2 e
  ·rw [e]; exact hz i h1 h2, h.piv⟩
theorem Fwd.swap (h : Fwd f n V c a) {k : Nat} (hk : a ≤ k) (hkn : k < n) : Fwd f n ((V.set a (V.getD k 0)).set k (V.getD a 0)) c a := by
 have hl := h.len
 have hg : ∀ i, ((V.set a (V.getD k 0)).set k (V.getD a 0)).getD i 0 = if i = k then V.getD a 0 else if i = a then V.getD k 0 else V.getD i 0 := fun i => by
  rw [getD_setV, getD_setV, List.length_set]
  by_cases e1 : i = k
  ·subst e1; rw [if_pos ⟨rfl, by omega⟩, if_pos rfl]
  ·rw [if_neg (fun e => e1 e.1.symm), if_neg e1]
   by_cases e2 : i = a
   ·subst e2; rw [if_pos ⟨rfl, by omega⟩, if_pos rfl]
   ·rw [if_neg (fun e => e2 e.1.symm), if_neg e2]
 refine ⟨by simpa using hl, fun u => ?_, fun i j h1 h2 h3 => ?_, fun i hi => ?_⟩
 ·rw [← h.sp u]
  refine (span_perm (swap_perm 0 V (by omega) (by omega)) u).symm
 ·rw [hg]
  split
  ·exact h.zer a j (Nat.le_refl _) (by omega) h3
  ·split
   ·exact h.zer k j hk hkn h3
   ·exact h.zer i j h1 h2 h3
 ·obtain ⟨d, d1, d2, d3⟩ := h.piv i hi
  refine ⟨d, d1, by rw [hg, if_neg (by omega), if_neg (by omega)]; exact d2, fun q q1 q2 => ?_⟩
  rw [hg]
  split
  ·exact d3 a hi (by omega)
  ·split
   ·exact d3 k (by omega) hkn
   ·exact d3 q q1 q2
theorem Fwd.plus (h : Fwd f n V c a) {i : Nat} (hi : a < i) (hin : i < n) (e : El p m mod) : Fwd f n (V.set i (V.getD i 0 + sc e (V.getD a 0))) c a := by
 have hl := h.len
 have hg : ∀ q, (V.set i (V.getD i 0 + sc e (V.getD a 0))).getD q 0 = if q = i then V.getD i 0 + sc e (V.getD a 0) else V.getD q 0 := fun q => by
  rw [getD_setV]
  by_cases e1 : q = i
  ·subst e1; rw [if_pos ⟨rfl, by omega⟩, if_pos rfl]
  ·rw [if_neg (fun e => e1 e.1.symm), if_neg e1]
 refine ⟨by simpa using hl, fun u => ?_, fun q j h1 h2 h3 => ?_, fun q hq => ?_⟩
 ·rw [← h.sp u]
  refine (span_set (by omega) ((Sp.of (getD_eq_mem (by omega) 0)).plus ((Sp.of (getD_eq_mem (by omega) 0)).scale e)) ?_ u).symm
  have m1 : SpL (V.set i (V.getD i 0 + sc e (V.getD a 0))) (V.getD i 0 + sc e (V.getD a 0)) := .of (by
   have := getD_eq_mem (l := V.set i (V.getD i 0 + sc e (V.getD a 0))) (i := i) (by simp; omega) 0
   rwa [hg, if_pos rfl] at this)
  have m2 : SpL (V.set i (V.getD i 0 + sc e (V.getD a 0))) (V.getD a 0) := .of (by
   have := getD_eq_mem (l := V.set i (V.getD i 0 + sc e (V.getD a 0))) (i := a) (by simp; omega) 0
   rwa [hg, if_neg (by omega)] at this)
  have := m1.plus (m2.scale (-e))
  have e2 : V.getD i 0 + sc e (V.getD a 0) + sc (-e) (V.getD a 0) = V.getD i 0 := Vc.ext fun j => by rw [add_at, add_at, sc_at, sc_at]; grind
  rwa [e2] at this
 ·rw [hg]
  split
  ·rw [add_at, sc_at, h.zer i j (by omega) hin h3, h.zer a j (Nat.le_refl _) (by omega) h3, Fd.mul_zero, Rg.add_zero]
  ·exact h.zer q j h1 h2 h3
 ·obtain ⟨d, d1, d2, d3⟩ := h.piv q hq
  refine ⟨d, d1, by rw [hg, if_neg (by omega)]; exact d2, fun r r1 r2 => ?_⟩
  rw [hg]
  split
  ·rw [add_at, sc_at, d3 i (by omega) hin, d3 a hq (by omega), Fd.mul_zero, Rg.add_zero]
  ·exact d3 r r1 r2
theorem Fwd.push (h : Fwd f n V c a) (hcn : c < n) (han : a < n) (h1 : V.getD a 0 c ≠ 0) (h0 : ∀ i, a < i → i < n → V.getD i 0 c = 0) : Fwd f n V (c + 1) (a + 1) :=
 ⟨h.len, h.sp, fun i j i1 i2 i3 => by
  rcases Nat.lt_or_eq_of_le (Nat.le_of_lt_succ i3) with e | e
  ·exact h.zer i j (by omega) i2 e
  ·rw [e]; exact h0 i (by omega) i2, fun i hi => by
  rcases Nat.lt_or_eq_of_le (Nat.le_of_lt_succ hi) with e | e
  ·exact h.piv i e
  ·subst e; exact ⟨c, hcn, h1, h0⟩⟩
theorem cmb_rp (n : Nat) : ∀ (c : Nat → El p m mod) (L : List (Vc (El p m mod))), cmb c ((L.map (rpV n)).map vcP) = vcP (rpV n (cmb c L))
 | c, [] => by
  rw [List.map_nil, List.map_nil]
  show (0 : Vc (El p m mod)) = vcP (rpV n 0)
  rw [rpV_zero]; rfl
 | c, u :: L => by
  rw [List.map_cons, List.map_cons, cmb, cmb_rp n _ L, cmb, add_comm (sc (c 0) u), rpV_add]
  refine Vc.ext fun j => ?_
  show c 0 * cf (rpV n u) j + cf (rpV n _) j = cf (_ + C (c 0) * rpV n u) j
  rw [cf_add, cf_C_mul]
  grind
theorem dep_drop {a : Nat} (ha : a ≤ V.length) (h : Dep (V.drop a)) : Dep V := by
 obtain ⟨c, ⟨i, hi, hc⟩, h0⟩ := h
 rw [List.length_drop] at hi
 refine ⟨fun k => if k < a then 0 else c (k - a), ⟨a + i, by omega, by show (if a + i < a then (0 : El p m mod) else c (a + i - a)) ≠ 0; rw [if_neg (by omega), show a + i - a = i by omega]; exact hc⟩, ?_⟩
 rw [cmb_drop a _ V ha (fun k hk => if_pos hk)]
 have e : (fun i => if a + i < a then (0 : El p m mod) else c (a + i - a)) = c := funext fun k => by rw [if_neg (by omega), show a + k - a = k by omega]
 rw [e]; exact h0
theorem Fwd.done (h : Fwd f n V c a) (hf : Po.len f = n + 1) {T : List (Vc (El p m mod))} (hT : Sta f n T) (hc : n ≤ c ∨ n ≤ a) (han : a ≤ n) : Bss f ((V.drop a).map (rpV n)) := by
 have hl := h.len
 have hV : ¬ Dep V := indep_of_span (by rw [hl, hT.len]; exact Nat.le_refl _) hT.ind fun t ht => (h.sp t).2 (hT.gr t ht)
 have hgr : ∀ v ∈ V, Gr f n v := fun v hv => (h.sp v).1 (.of hv)
 refine ⟨fun v hv => ?_, fun hd => ?_, fun v hv hfx => ?_⟩
 ·obtain ⟨u, hu, rfl⟩ := List.mem_map.1 hv
  obtain ⟨i, hi, rfl⟩ := List.getElem_of_mem hu
  rw [List.length_drop] at hi
  have hg : (V.drop a)[i]'(by rw [List.length_drop]; exact hi) = V.getD (a + i) 0 := by
   rw [List.getElem_drop, List.getD_eq_getElem?_getD, List.getElem?_eq_getElem (show a + i < V.length by omega)]; rfl
  rw [hg]
  refine ⟨by have := rpV_len n (V.getD (a + i) 0); omega, ?_⟩
  have h1 := (hgr _ (getD_eq_mem (l := V) (show a + i < V.length by omega) 0)).2
  have h2 : lpV n (V.getD (a + i) 0) = 0 := Po.ext fun j => by
   rw [cf_lpV, cf_zero]
   split
   ·rename_i hj
    rcases hc with hc | hc
    ·exact h.zer (a + i) j (by omega) (by omega) (by omega)
    ·omega
   ·rfl
  rw [h2, show phiP (rpV n (V.getD (a + i) 0)) - 0 = phiP (rpV n (V.getD (a + i) 0)) by grind] at h1
  exact h1
 ·obtain ⟨e, ⟨i, hi, hne⟩, h0⟩ := hd
  rw [List.length_map, List.length_map] at hi
  rw [cmb_rp] at h0
  have h1 : rpV n (cmb e (V.drop a)) = rpV n 0 := vcP_inj (by rw [h0, rpV_zero]; rfl)
  have h2 := Gr.eq hf (Gr.span (fun v hv => hgr v (List.mem_of_mem_drop hv)) (cmb_sp e (V.drop a))) (Gr.zero f n) h1
  exact hV (dep_drop (by omega) ⟨e, ⟨i, hi, hne⟩, h2⟩)
 ·have hlv : Po.len v ≤ n := by omega
  have hcf : ∀ j, n ≤ j → cf v j = 0 := fun j hj => cf_ge (by omega)
  let u : Vc (El p m mod) := fun j => if j < n then 0 else cf v (j - n)
  have hru : rpV n u = v := Po.ext fun j => by
   rw [cf_rpV]
   by_cases hj : j < n
   ·rw [if_pos hj]
    show (if n + j < n then (0 : El p m mod) else cf v (n + j - n)) = _
    rw [if_neg (by omega), show n + j - n = j by omega]
   ·rw [if_neg hj, hcf j (by omega)]
  have hlu : lpV n u = 0 := Po.ext fun j => by
   rw [cf_lpV, cf_zero]
   split
   ·rename_i hj
    exact if_pos hj
   ·rfl
  have hu : Gr f n u := ⟨fun j hj => by
   show (if j < n then (0 : El p m mod) else cf v (j - n)) = 0
   rw [if_neg (by omega), hcf _ (by omega)], by
   rw [hru, hlu, show phiP v - 0 = phiP v by grind]; exact hfx⟩
  obtain ⟨e, he⟩ := sp_cmb ((h.sp u).2 hu)
  have hz : ∀ i, i < a → e i = 0 := fun i => by
   induction i using Nat.strongRecOn with
   | ind i ih =>
    intro hi
    obtain ⟨d, d1, d2, d3⟩ := h.piv i hi
    have h1 : u d = 0 := if_pos d1
    rw [he, cmb_at_drop, hl, Rg.sm_one (show i < n by omega) (fun k hk hne => by
     rcases Nat.lt_or_gt_of_ne hne with e1 | e1
     ·rw [ih k e1 (by omega), Fd.zero_mul]
     ·rw [d3 k e1 hk, Fd.mul_zero])] at h1
    exact (Fd.mul_eq_zero h1).resolve_right d2
  rw [cmb_drop a e V (by omega) hz] at he
  refine ⟨fun i => e (a + i), vcP_inj ?_⟩
  rw [vcP_smC, cmb_rp, ← he, hru]
end
end Go.Proofs.Ytbhoeaijpnjgdaa

namespace Go.Proofs.Ytbhoeaijpnjgdaa
open Go.RowKit
section
variable {p m : Int} {mod : List Int} [hF : IsF p m mod]
open Po
theorem pow_mn (i : Nat) : ∀ k, Rg.pow (mn 1 i : Po (El p m mod)) k = mn 1 (i * k)
 | 0 => by rw [Nat.mul_zero]; rfl
 | k + 1 => by rw [Rg.pow_succ, pow_mn i k, mn_mul, Rg.mul_one, Nat.mul_succ]
theorem phiP_mn (i : Nat) : phiP (mn 1 i : Po (El p m mod)) = mn 1 (i * (pw p m).toNat) - mn 1 i := by
 unfold phiP
 rw [pow_mn]
theorem gr_row {f : Po (El p m mod)} (hf : f ≠ 0) {n i : Nat} {u : Vc (El p m mod)} (h0 : ∀ j, n + n ≤ j → u j = 0) (h1 : lpV n u = xk f (i * (pw p m).toNat) - mn 1 i) (h2 : rpV n u = mn 1 i) : Gr f n u := ⟨h0, by
 rw [h1, h2, phiP_mn]
 obtain ⟨z, hz⟩ := Po.rem_sub_dvd (mn 1 (i * (pw p m).toNat)) hf
 unfold xk
 refine ⟨z, ?_⟩
 rw [← hz]
 generalize (mn 1 (i * (pw p m).toNat) : Po (El p m mod)).rem f = r
 generalize (mn 1 (i * (pw p m).toNat) : Po (El p m mod)) = t
 generalize (mn 1 i : Po (El p m mod)) = s
 grind⟩
theorem xk_add {f : Po (El p m mod)} (hf : f ≠ 0) (a b : Nat) : Po.rem (xk f a * xk f b) f = xk f (a + b) := by
 unfold xk
 rw [rem_eq_iff hf]
 have e : (mn 1 (a + b) : Po (El p m mod)) = mn 1 a * mn 1 b := by rw [mn_mul, Rg.mul_one]
 rw [e]
 obtain ⟨y, hy⟩ := Po.rem_sub_dvd (mn 1 a : Po (El p m mod)) hf
 obtain ⟨z, hz⟩ := Po.rem_sub_dvd (mn 1 b : Po (El p m mod)) hf
 generalize (mn 1 a : Po (El p m mod)).rem f = r at *
 generalize (mn 1 b : Po (El p m mod)).rem f = t at *
 generalize (mn 1 a : Po (El p m mod)) = u at *
 generalize (mn 1 b : Po (El p m mod)) = v at *
 refine ⟨-(y * t) - u * z, ?_⟩
 have h1 : r = u - f * y := by grind
 have h2 : t = v - f * z := by grind
 rw [h1, h2]; grind
end
end Go.Proofs.Ytbhoeaijpnjgdaa

namespace Go.Proofs.Ytbhoeaijpnjgdaa
open Po
section
variable {p m : Int} {mod : List Int} [hF : IsF p m mod]
theorem nodup_prd {K : Type} [Fd K] : ∀ {Qs : List (Po K)}, (∀ Q ∈ Qs, Ir Q) → Sf (prd Qs) → Qs.Nodup
 | [], _, _ => .nil
 | Q :: Qs, h, hs => by
  rw [prd] at hs
  refine List.nodup_cons.2 ⟨fun hm => hs Q (h Q (List.mem_cons_self ..)) (mul_dvd_mul (prd_dvd hm) Q), nodup_prd (fun R hR => h R (List.mem_cons_of_mem _ hR)) (hs.of_dvd (dvd_mulL _ _))⟩
theorem irL_prd {K : Type} [Fd K] {Qs : List (Po K)} (h : ∀ Q ∈ Qs, Ir Q ∧ lead Q = 1) (hs : Sf (prd Qs)) : IrL (prd Qs) Qs :=
 ⟨nodup_prd (fun Q hQ => (h Q hQ).1) hs, fun P => ⟨fun hP => ⟨(h P hP).1, (h P hP).2, prd_dvd hP⟩, fun ⟨h1, h2, h3⟩ => by
  obtain ⟨Q, hQ, hd⟩ := ir_dvd_prd h1 h3
  rw [h1.one (h Q hQ).1 h2 (h Q hQ).2 hd]; exact hQ⟩⟩
variable {f v g rest : Po (El p m mod)} {pre : List Int} {ds : List (Po (El p m mod))}
theorem prd_one : ∀ {l : List (Po (El p m mod))} (x : Po (El p m mod)), prd (l ++ [x]) = prd l * x := fun x => by rw [prd_append, prd, prd, Rg.mul_one]
theorem quo_mon (hr : lead rest = 1) {d : Po (El p m mod)} (hd : d ∣ rest) (hl : lead d = 1) : lead (quo rest d) = 1 := by
 have h0 := lead_one_ne hr
 have hd0 := lead_one_ne hl
 have e := quo_mul hd0 hd
 have hq : quo rest d ≠ 0 := fun h => h0 (by rw [← e, h, Rg.zero_mul])
 have := lead_mul hq hd0
 rw [e, hr, hl, Rg.mul_one] at this
 exact this.symm
variable {B ps ns : List (Po (El p m mod))} {i : Nat}
theorem take_getD {α : Type} {l : List α} {i : Nat} (h : i < l.length) (z : α) : l.take (i + 1) = l.take i ++ [l.getD i z] := by
 rw [List.take_add_one, List.getElem?_eq_getElem h, List.getD_eq_getElem?_getD, List.getElem?_eq_getElem h]; rfl
end
end Go.Proofs.Ytbhoeaijpnjgdaa

namespace Go.Proofs.Ytbhoeaijpnjgdaa
open Go.RowKit
theorem tr_capR {P : Program} {N : NR} {M : Nat → Prop} {w0 : World} {L : Fr} {F F' : List Chunk} (e : TypeId) (rs : List RowM) {c : Code} {Q : Exit → Fr → List Chunk → Prop} [hp : Pk F (rowsCh e rs) F'] (h : (∀ r ∈ rs, r.xs.length ≤ r.cap) → Tr P N M w0 c L F Q) : Tr P N M w0 c L F Q := fun ds M1 w1 hb a w hl hm => by
 refine h (fun r hr => ?_) ds M1 w1 hb a w hl hm
 have h1 : w.ownsRow 0 e 1 (.slice r.A (ints r.xs).length r.cap) (ints r.xs).length (ints r.xs) := ((hm.perm hp.perm).sat _ (List.mem_cons_self ..)).1 r hr
 have hi : (ints r.xs).length = r.xs.length := by simp
 rcases h1 with ⟨h1, h2 | ⟨g, c, cur, hv, hb, hh, hc, hm, hs, ht⟩⟩
 ·omega
 ·simp only [Value.slice.injEq] at hv
  omega
end Go.Proofs.Ytbhoeaijpnjgdaa

set_option maxRecDepth 100000
set_option maxHeartbeats 1000000
namespace Go.Proofs.Ytbhoeaijpnjgdaa
open Go.RowKit
section
variable {p m : Int} {mod : List Int} [hF : IsF p m mod]
open Po Vc
structure RowS (f : Po (El p m mod)) (n j : Nat) (xs : List Int) : Prop where
 len : xs.length = 2 * n
 good : AllIn (pw p m) xs
 lo : ∀ t, t < n → (el (xs.getD t 0) : El p m mod) = cf (xk f (j * (pw p m).toNat)) t - (if t = j then 1 else 0)
 hi : ∀ t, t < n → (el (xs.getD (n + t) 0) : El p m mod) = if t = j then 1 else 0
theorem cf_mn1 (j t : Nat) : cf (mn 1 j : Po (El p m mod)) t = if t = j then 1 else 0 := cf_mn 1 j t
theorem RowS.gr {f : Po (El p m mod)} (hf : f ≠ 0) {n j : Nat} (hl : Po.len f = n + 1) (hj : j < n) {xs : List Int} (h : RowS f n j xs) : Gr f n (rw' xs) := by
 have hx := rem_len (mn 1 (j * (pw p m).toNat) : Po (El p m mod)) hf
 have hx2 : Po.len (xk f (j * (pw p m).toNat)) ≤ n := by unfold xk; omega
 refine gr_row (i := j) hf (fun t ht => ?_) (Po.ext fun t => ?_) (Po.ext fun t => ?_)
 ·rw [rw_at, getD_out (by rw [h.len]; omega), el_zero]
 ·rw [cf_lpV, cf_sub, cf_mn1]
  by_cases ht : t < n
  ·rw [if_pos ht, rw_at, h.lo t ht]
  ·rw [if_neg ht, cf_ge (by omega), if_neg (by omega), Rg.sub_self]
 ·rw [cf_rpV, cf_mn1]
  by_cases ht : t < n
  ·rw [if_pos ht, rw_at, h.hi t ht]
  ·rw [if_neg ht, if_neg (by omega)]
theorem rowS_sta {f : Po (El p m mod)} (hf : f ≠ 0) {n : Nat} (hl : len f = n + 1) {rs : List RowM} (hn : rs.length = n) (h : ∀ j, j < n → RowS f n j (rs.getD j rowD).xs) : Sta f n (vsR rs) ∧ Gd (pw p m) (2 * n) rs := by
 refine ⟨⟨by rw [vsR_length]; exact hn, fun v hv => ?_, fun i j hi hj => ?_⟩, fun r hr => ?_⟩
 ·obtain ⟨r, hr, rfl⟩ := List.mem_map.1 hv
  obtain ⟨i, hi, rfl⟩ := List.getElem_of_mem hr
  have := h i (by omega)
  rw [List.getD_eq_getElem?_getD, List.getElem?_eq_getElem hi] at this
  exact this.gr hf hl (by omega)
 ·rw [vsR_get, rw_at, (h i hi).hi j hj]
  by_cases e : i = j
  ·rw [if_pos e, if_pos e.symm]
  ·rw [if_neg e, if_neg (fun h => e h.symm)]
 ·obtain ⟨i, hi, rfl⟩ := List.getElem_of_mem hr
  have := h i (by omega)
  rw [List.getD_eq_getElem?_getD, List.getElem?_eq_getElem hi] at this
  exact ⟨this.len, this.good⟩
theorem row_part {c : Nat} {mm : El p m mod} {x r s : List Int} (hl : x.length = r.length) (hs : s.length = r.length) (hr : AllIn (pw p m) r) (h : ∀ t, t < r.length → x.getD t 0 = if c ≤ t then (el (r.getD t 0) - mm * el (s.getD t 0) : El p m mod).1 else r.getD t 0) (hz : ∀ t, t < c → (el (s.getD t 0) : El p m mod) = 0) : x = addR (-mm) r s := ext_getD (by simpa using hl) fun t => by
 have hq := hF.q2
 by_cases ht : t < r.length
 ·rw [addR_get _ _ _ ht, h t ht]
  by_cases hc : c ≤ t
  ·rw [if_pos hc]; congr 1; grind
  ·rw [if_neg hc, hz t (by omega), Rg.mul_zero, Rg.add_zero]
   exact (el_in (hr.get (by omega) t)).symm
 ·rw [getD_out (by omega), getD_out (by simp; omega)]
theorem xss_drop_rp {n : Nat} {f : Po (El p m mod)} {rs : List RowM} (a : Nat) : ((vsR rs : List (Vc (El p m mod))).drop a).map (rpV n) = (rs.drop a).map fun r => rpV n (rw' r.xs) := by
 unfold vsR; rw [← List.map_drop, List.map_map]; rfl
theorem pol_drop {n : Nat} {xs : List Int} (h : xs.length = 2 * n) : (pol (xs.drop n) : Po (El p m mod)) = rpV n (rw' xs) := Po.ext fun j => by
 rw [cf_pol, cf_rpV, rw_at]
 by_cases hj : j < n
 ·rw [if_pos hj, List.getD_eq_getElem?_getD, List.getElem?_drop, ← List.getD_eq_getElem?_getD]
 ·rw [if_neg hj, getD_out (by simp; omega), el_zero]
end
end Go.Proofs.Ytbhoeaijpnjgdaa

set_option maxRecDepth 100000
set_option maxHeartbeats 1000000
namespace Go.Proofs.Ytbhoeaijpnjgdaa
open Go.RowKit
section
variable {p m : Int} {mod : List Int} [hF : IsF p m mod]
theorem pol_one_c (x : Int) : (pol [x] : Po (El p m mod)) = Po.C (el x) := pol_one_k x
end
def Al (A : Option Addr) (c : Nat) (l : List Int) (qs rs : List RowM) : Prop := qs = rs ∨ (qs = [] ∧ rs = [⟨A, c, l⟩])
end Go.Proofs.Ytbhoeaijpnjgdaa

namespace Go.Proofs.Ytbhoeaijpnjgdaa
open Go.RowKit
theorem cmpN_lt (a b : List Int) : ∀ n, cmpN a b n < 0 ↔ ∃ i, i < n ∧ a.getD i 0 < b.getD i 0 ∧ ∀ k, i < k → k < n → a.getD k 0 = b.getD k 0
 | 0 => ⟨fun h => by simp [cmpN] at h, fun ⟨i, h, _⟩ => by omega⟩
 | n + 1 => by
  have ih := cmpN_lt a b n
  simp only [cmpN]
  split
  ·rename_i h
   exact ⟨fun _ => ⟨n, by omega, h, fun k h1 h2 => by omega⟩, fun _ => by omega⟩
  ·rename_i h
   split
   ·rename_i h2
    refine ⟨fun h => by omega, fun ⟨i, h3, h4, h5⟩ => ?_⟩
    rcases Nat.lt_or_ge i n with e | e
    ·have := h5 n e (by omega)
     omega
    ·have : i = n := by omega
     subst this; omega
   ·rename_i h2
    rw [ih]
    constructor
    ·rintro ⟨i, h3, h4, h5⟩
     refine ⟨i, by omega, h4, fun k h6 h7 => ?_⟩
     rcases Nat.lt_or_ge k n with e | e
     ·exact h5 k h6 e
     ·have : k = n := by omega
      subst this; omega
    ·rintro ⟨i, h3, h4, h5⟩
     rcases Nat.lt_or_ge i n with e | e
     ·exact ⟨i, e, h4, fun k h6 h7 => h5 k h6 (by omega)⟩
     ·have : i = n := by omega
      subst this; omega
theorem cmpN_eq (a b : List Int) : ∀ n, cmpN a b n = 0 ↔ ∀ i, i < n → a.getD i 0 = b.getD i 0
 | 0 => ⟨fun _ i h => by omega, fun _ => rfl⟩
 | n + 1 => by
  have ih := cmpN_eq a b n
  simp only [cmpN]
  split
  ·rename_i h
   exact ⟨fun e => by omega, fun e => by have := e n (by omega); omega⟩
  ·split
   ·rename_i h
    exact ⟨fun e => by omega, fun e => by have := e n (by omega); omega⟩
   ·rw [ih]
    refine ⟨fun e i hi => ?_, fun e i hi => e i (by omega)⟩
    rcases Nat.lt_or_ge i n with h | h
    ·exact e i h
    ·have : i = n := by omega
     subst this; omega
theorem cmpL_eq (a b : List Int) : cmpL a b = 0 ↔ a = b := by
 constructor
 ·intro h
  unfold cmpL at h
  split at h
  ·omega
  ·split at h
   ·omega
   ·exact ext_getD (by omega) fun j => by
     have := (cmpN_eq a b a.length).1 h
     rcases Nat.lt_or_ge j a.length with e | e
     ·exact this j e
     ·rw [getD_out e, getD_out (by omega)]
 ·rintro rfl
  unfold cmpL
  rw [if_neg (by omega), if_neg (by omega)]
  exact (cmpN_eq a a a.length).2 fun i _ => rfl
theorem cmpL_lt (a b : List Int) : cmpL a b < 0 ↔ a.length < b.length ∨ (a.length = b.length ∧ ∃ i, i < a.length ∧ a.getD i 0 < b.getD i 0 ∧ ∀ k, i < k → k < a.length → a.getD k 0 = b.getD k 0) := by
 unfold cmpL
 split
 ·rename_i h; exact ⟨fun _ => .inl h, fun _ => by omega⟩
 ·split
  ·rename_i h; exact ⟨fun h => by omega, fun h => by omega⟩
  ·rename_i h1 h2
   rw [cmpN_lt]
   exact ⟨fun h => .inr ⟨by omega, h⟩, fun h => h.elim (fun h => absurd h h1) (fun h => h.2)⟩
theorem cmpL_trans {a b c : List Int} (h : cmpL a b < 0) (k : cmpL b c < 0) : cmpL a c < 0 := by
 rw [cmpL_lt] at *
 rcases h with h | ⟨h, i, h1, h2, h3⟩
 ·rcases k with k | ⟨k, _⟩
  ·exact .inl (by omega)
  ·exact .inl (by omega)
 ·rcases k with k | ⟨k, j, k1, k2, k3⟩
  ·exact .inl (by omega)
  ·refine .inr ⟨by omega, ?_⟩
   rcases Nat.lt_trichotomy i j with e | e | e
   ·exact ⟨j, by omega, by rw [h3 j e (by omega)]; exact k2, fun t t1 t2 => by rw [h3 t (by omega) t2]; exact k3 t t1 (by omega)⟩
   ·subst e
    exact ⟨i, h1, by omega, fun t t1 t2 => by rw [h3 t t1 t2]; exact k3 t t1 (by omega)⟩
   ·exact ⟨i, h1, by rw [← k3 i e (by omega)]; exact h2, fun t t1 t2 => by rw [h3 t t1 t2]; exact k3 t (by omega) (by omega)⟩
theorem cmpL_irr (a : List Int) : ¬ cmpL a a < 0 := by rw [(cmpL_eq a a).2 rfl]; omega
theorem cmpL_not {a b : List Int} : ¬ cmpL a b < 0 ↔ a = b ∨ cmpL b a < 0 := by
 have h1 := cmpL_neg a b
 have h2 := cmpL_eq a b
 constructor
 ·intro h
  by_cases e : cmpL a b = 0
  ·exact .inl (h2.1 e)
  ·exact .inr (by omega)
 ·rintro (rfl | h)
  ·exact cmpL_irr a
  ·omega
theorem rise_eq {α : Type} {lt : α → α → Prop} (hirr : ∀ a, ¬ lt a a) (htr : ∀ a b c, lt a b → lt b c → lt a c) : ∀ {l k : List α}, l.Pairwise lt → k.Pairwise lt → (∀ x, x ∈ l ↔ x ∈ k) → l = k
 | [], [], _, _, _ => rfl
 | [], b :: k, _, _, h => absurd ((h b).2 (List.mem_cons_self ..)) (by simp)
 | a :: l, [], _, _, h => absurd ((h a).1 (List.mem_cons_self ..)) (by simp)
 | a :: l, b :: k, hl, hk, h => by
  have h1 := List.pairwise_cons.1 hl
  have h2 := List.pairwise_cons.1 hk
  have hab : a = b := by
   rcases List.mem_cons.1 ((h a).1 (List.mem_cons_self ..)) with e | e
   ·exact e
   ·rcases List.mem_cons.1 ((h b).2 (List.mem_cons_self ..)) with e2 | e2
    ·exact e2.symm
    ·exact absurd (htr _ _ _ (h2.1 a e) (h1.1 b e2)) (hirr b)
  subst hab
  have := rise_eq hirr htr h1.2 h2.2 fun x => by
   constructor
   ·intro hx
    rcases List.mem_cons.1 ((h x).1 (List.mem_cons_of_mem _ hx)) with e | e
    ·subst e; exact absurd (h1.1 x hx) (hirr x)
    ·exact e
   ·intro hx
    rcases List.mem_cons.1 ((h x).2 (List.mem_cons_of_mem _ hx)) with e | e
    ·subst e; exact absurd (h2.1 x hx) (hirr x)
    ·exact e
  rw [this]
def fpr (gs : List FacM) : List (List Int × Int) := gs.map fun e => (e.r.xs, e.k)
@[simp] theorem fpr_length (gs : List FacM) : (fpr gs).length = gs.length := by simp [fpr]
section
variable {p m : Int} {mod : List Int} [hF : IsF p m mod]
open Po
structure CmI (f : Po (El p m mod)) (gs : List FacM) : Prop where
 each : ∀ e ∈ gs, ∃ P : Po (El p m mod), e.r.xs = il P ∧ Ir P ∧ lead P = 1 ∧ P ∣ f ∧ e.k = ((mu P f : Nat) : Int)
 all : ∀ P : Po (El p m mod), Ir P → lead P = 1 → P ∣ f → ∃ e ∈ gs, e.r.xs = il P
 nd : (gs.map fun e => e.r.xs).Nodup
def RisF (gs : List FacM) : Prop := gs.Pairwise fun x y => cmpL x.r.xs y.r.xs < 0
theorem CmI.perm {f : Po (El p m mod)} {gs hs : List FacM} (h : CmI f gs) (hp : hs.Perm gs) : CmI f hs :=
 ⟨fun e he => h.each e (hp.mem_iff.1 he), fun P a b c => by
  obtain ⟨e, he, hx⟩ := h.all P a b c
  exact ⟨e, hp.mem_iff.2 he, hx⟩, (hp.map fun e => e.r.xs).nodup_iff.2 h.nd⟩
theorem CmI.fc {f : Po (El p m mod)} {gs : List FacM} (h : CmI f gs) (hf : f ≠ 0) {e : FacM} (he : e ∈ gs) : Ir (fcP p m mod e) ∧ lead (fcP p m mod e) = 1 ∧ fcP p m mod e ∣ f ∧ e.r.xs = il (fcP p m mod e) ∧ e.k = ((mu (fcP p m mod e) f : Nat) : Int) ∧ 1 ≤ e.k := by
 obtain ⟨P, h1, h2, h3, h4, h5⟩ := h.each e he
 have eP : fcP p m mod e = P := by unfold fcP; rw [h1, pol_il]
 rw [eP]
 have := (mu_pos h2 hf).1 h4
 exact ⟨h2, h3, h4, h1, h5, by omega⟩
theorem CmI.uniq {f : Po (El p m mod)} (hf : f ≠ 0) {gs hs : List FacM} (h : CmI f gs) (k : CmI f hs) (hg : RisF gs) (hh : RisF hs) : fpr gs = fpr hs := by
 have hmem : ∀ {gs hs : List FacM}, CmI f gs → CmI f hs → ∀ x, x ∈ fpr gs → x ∈ fpr hs := fun {gs hs} h k x hx => by
  obtain ⟨e, he, rfl⟩ := List.mem_map.1 hx
  obtain ⟨h1, h2, h3, h4, h5, _⟩ := h.fc hf he
  obtain ⟨e', he', hx'⟩ := k.all _ h1 h2 h3
  obtain ⟨_, _, _, k4, k5, _⟩ := k.fc hf he'
  have : fcP p m mod e' = fcP p m mod e := by unfold fcP; rw [hx', pol_il]; rfl
  refine List.mem_map.2 ⟨e', he', ?_⟩
  rw [hx', h4, k5, h5, this]
 exact rise_eq (lt := fun (x y : List Int × Int) => cmpL x.1 y.1 < 0) (fun a => cmpL_irr _) (fun a b c => cmpL_trans) (List.pairwise_map.2 hg) (List.pairwise_map.2 hh) fun x => ⟨hmem h k x, hmem k h x⟩
variable {f : Po (El p m mod)} {fs : List FacM} {j : Nat} {Ls : List (Po (El p m mod) × Int)}
open Classical in
theorem mu_ir {P Q : Po (El p m mod)} (hP : Ir P) (hQ : Ir Q) (h1 : lead P = 1) (h2 : lead Q = 1) : mu P Q = if P = Q then 1 else 0 := by
 by_cases e : P = Q
 ·subst e
  rw [if_pos rfl]
  refine mu_eq hP hP.ne (by rw [Rg.pow_one]; exact ⟨1, (Rg.mul_one _).symm⟩) fun hd => ?_
  have h3 := dvd_len hd hP.ne
  rw [len_powN hP.ne] at h3
  have := hP.two
  omega
 ·rw [if_neg e]
  refine mu_eq hP hQ.ne (one_dvd _) fun hd => e ?_
  rw [Nat.zero_add, Rg.pow_one] at hd
  exact hP.one hQ h1 h2 hd
theorem prF_mu3 {gs : List FacM} (h : ∀ e ∈ gs, lead (fcP p m mod e) = 1 ∧ 0 ≤ e.k ∧ Ir (fcP p m mod e) ∧ e.r.xs = il (fcP p m mod e)) (hnd : (gs.map fun e => e.r.xs).Nodup) {P : Po (El p m mod)} (hP : Ir P) (hl : lead P = 1) : ∀ n, n ≤ gs.length →
  (∀ j, j < n → (gs.getD j facD).r.xs = il P → mu P (prF p m mod 1 gs n) = (gs.getD j facD).k.toNat) ∧ ((∀ j, j < n → (gs.getD j facD).r.xs ≠ il P) → mu P (prF p m mod 1 gs n) = 0)
 | 0, _ => by
  have e : prF p m mod 1 gs 0 = (1 : Po (El p m mod)) := by show C (el 1) = 1; rw [el_one]; rfl
  exact ⟨fun j hj => by omega, fun _ => by rw [e, mu_one hP]⟩
 | n + 1, hn => by
  obtain ⟨ih1, ih2⟩ := prF_mu3 h hnd hP hl n (by omega)
  have hm := getD_mem (l := gs) (show n < gs.length by omega) facD
  have h1 := lead1_ne (prF_mu (fun e he => ⟨(h e he).1, (h e he).2.1⟩) n (by omega)).1
  obtain ⟨a, b, c, d⟩ := h _ hm
  have e : prF p m mod 1 gs (n + 1) = prF p m mod 1 gs n * Rg.pow (fcP p m mod (gs.getD n facD)) (gs.getD n facD).k.toNat := rfl
  have hdif : ∀ j, j < n → (gs.getD j facD).r.xs = il P → (gs.getD n facD).r.xs ≠ il P := fun j hj e1 e2 => by
   have h5 := List.pairwise_iff_getElem.1 hnd j n (by simp; omega) (by simp; omega) hj
   rw [List.getElem_map, List.getElem_map] at h5
   refine h5 ?_
   rw [List.getD_eq_getElem?_getD, List.getElem?_eq_getElem (show j < gs.length by omega)] at e1
   rw [List.getD_eq_getElem?_getD, List.getElem?_eq_getElem (show n < gs.length by omega)] at e2
   exact e1.trans e2.symm
  rw [e, mu_mul hP h1 (pow_ne0 c.ne _), mu_pow hP c.ne, mu_ir hP c hl a]
  have hiff : P = fcP p m mod (gs.getD n facD) ↔ (gs.getD n facD).r.xs = il P := ⟨fun e => by rw [d, ← e], fun e => by
   rw [d] at e; exact (il_inj e).symm⟩
  refine ⟨fun j hj hx => ?_, fun hno => ?_⟩
  ·rcases Nat.lt_or_ge j n with e1 | e1
   ·rw [ih1 j e1 hx, if_neg (fun e2 => hdif j e1 hx (hiff.1 e2)), Nat.mul_zero, Nat.add_zero]
   ·have : j = n := by omega
    subst this
    rw [ih2 fun i hi hxi => hdif i hi hxi hx, if_pos (hiff.2 hx), Nat.mul_one, Nat.zero_add]
  ·rw [ih2 fun i hi => hno i (by omega), if_neg (fun e2 => hno n (by omega) (hiff.1 e2)), Nat.mul_zero]
theorem CmI.prod {gs : List FacM} (h : CmI f gs) (hf : lead f = 1) : prF p m mod 1 gs gs.length = f ∧ fcT p m mod gs gs.length = (len f : Int) - 1 := by
 have hf0 := lead1_ne hf
 have hfc : ∀ e ∈ gs, lead (fcP p m mod e) = 1 ∧ 0 ≤ e.k := fun e he => by
  obtain ⟨_, b, _, _, _, d⟩ := h.fc hf0 he
  exact ⟨b, by omega⟩
 have h1 := prF_mu hfc gs.length (Nat.le_refl _)
 have e : prF p m mod 1 gs gs.length = f := eq_mu1 _ _ _ (Nat.le_refl _) h1.1 hf fun P hP hPl => by
  obtain ⟨h2, h3⟩ := prF_mu3 (fun e he => by
   obtain ⟨a, b, c, d, k, t⟩ := h.fc hf0 he
   exact ⟨b, by omega, a, d⟩) h.nd hP hPl gs.length (Nat.le_refl _)
  by_cases hd : P ∣ f
  ·obtain ⟨e, he, hx⟩ := h.all P hP hPl hd
   obtain ⟨j, hj, rfl⟩ := List.getElem_of_mem he
   have hg : gs.getD j facD = gs[j] := by rw [List.getD_eq_getElem?_getD, List.getElem?_eq_getElem hj]; rfl
   obtain ⟨_, _, _, d, k, _⟩ := h.fc hf0 (List.getElem_mem hj)
   rw [h2 j hj (by rw [hg]; exact hx), hg, k]
   have : fcP p m mod gs[j] = P := by unfold fcP; rw [hx, pol_il]
   rw [this]; omega
  ·have hz : mu P f = 0 := by
    have := mu_pos hP hf0
    have h5 : ¬ 1 ≤ mu P f := fun h => hd (this.2 h)
    omega
   rw [hz]
   refine h3 fun j hj hx => hd ?_
   obtain ⟨_, _, c, d, _⟩ := h.fc hf0 (getD_mem hj facD)
   have : fcP p m mod (gs.getD j facD) = P := by unfold fcP; rw [hx, pol_il]
   rw [← this]; exact c
 refine ⟨e, ?_⟩
 rw [e] at h1
 omega
theorem CmI.le {gs : List FacM} (h : CmI f gs) (hf : f ≠ 0) : ∀ e ∈ gs, e.r.xs.length ≤ len f ∧ 2 ≤ e.r.xs.length ∧ 1 ≤ e.k ∧ e.k ≤ len f := fun e he => by
 obtain ⟨a, b, c, d, k, t⟩ := h.fc hf he
 have h1 := dvd_len c hf
 have h2 := a.two
 rw [d, il_length]
 refine ⟨h1, h2, t, ?_⟩
 have h3 := dvd_len (mu_spec a hf).1 hf
 rw [len_powN a.ne] at h3
 have h4 : mu (fcP p m mod e) f * 1 ≤ mu (fcP p m mod e) f * (len (fcP p m mod e) - 1) := Nat.mul_le_mul_left _ (by omega)
 omega
theorem fcT_ge {gs : List FacM} (h : ∀ e ∈ gs, 2 ≤ len (fcP p m mod e) ∧ 1 ≤ e.k) : ∀ n : Nat, n ≤ gs.length → (n : Int) ≤ fcT p m mod gs n
 | 0, _ => Int.le_refl _
 | n + 1, hn => by
  have ih := fcT_ge h n (by omega)
  obtain ⟨a, b⟩ := h _ (getD_mem (show n < gs.length by omega) facD)
  rw [fcT_succ (by omega)]
  have h1 : 1 ≤ fcD p m mod (gs.getD n facD) := by unfold fcD; omega
  have h2 : (1 : Int) * 1 ≤ fcD p m mod (gs.getD n facD) * (gs.getD n facD).k := Int.mul_le_mul h1 b (by omega) (by omega)
  omega
theorem CmI.cnt {gs : List FacM} (h : CmI f gs) (hf : lead f = 1) : gs.length + 1 ≤ len f := by
 have h1 := (h.prod hf).2
 have h2 := fcT_ge (fun e he => by
  obtain ⟨a, _, _, _, _, b⟩ := h.fc (lead1_ne hf) he
  exact ⟨a.two, b⟩) gs.length (Nat.le_refl _)
 omega
theorem canL_il (hq : pw p m = pw p m) (P : Po (El p m mod)) : canL (pw p m) (il P) = il P := by rw [← il_pol (mod := mod), pol_il]
end
end Go.Proofs.Ytbhoeaijpnjgdaa

set_option maxRecDepth 100000
set_option maxHeartbeats 1000000
namespace Go.Proofs.Ytbhoeaijpnjgdaa
open Go.RowKit
theorem Pure.sub {P : Program} {f : FuncId} {args : Array Value} {G G' : List Chunk} {R : Value → List Chunk → Prop} (h : Pure P f args G R) (hs : ∀ w, (∀ c ∈ G', c.sat w) → ∀ c ∈ G, c.sat w) : Pure P f args G' R := ⟨h.ent, fun w hg => h.run w (hs w hg)⟩
end Go.Proofs.Ytbhoeaijpnjgdaa

set_option maxRecDepth 100000
namespace Go.Proofs.Ytbhoeaijpnjgdaa
open Go.RowKit
theorem ref_Divides_ent : Enters Try.prog 40 := enters_of Try.func40 (by kernel_rfl) (by kernel_rfl)
theorem ref_Divides (p m : Int) (A : Option Addr) (c : Nat) (mod : List Int) [hF : IsF p m mod] (Xa : Option Addr) (na ca : Nat) (a : List Int) (hna : na = a.length) (ha9 : a.length ≤ 1000000) (Xb : Option Addr) (nb cb : Nat) (b : List Int) (hnb : nb = b.length) (hb9 : b.length ≤ 17592186044415) (hbl : (il (pol b : Po (El p m mod))).length ≤ 1000000) (h0 : (pol b : Po (El p m mod)) ≠ 0) :
  Pure Try.prog 40 #[.agg #[.int .i64 p, .int .i64 m, .slice A mod.length c], .slice Xb nb cb, .slice Xa na ca] [ro A (ints mod), ro Xb (ints b), ro Xa (ints a)] (isV (.bool (decide (((Po.len (Po.rem (pol a : Po (El p m mod)) (pol b : Po (El p m mod))) : Nat) : Int) = 0)))) := by
 have hil := il_length (Po.rem (pol a : Po (El p m mod)) (pol b : Po (El p m mod)))
 refine pure_of (args := [.agg #[.int .i64 p, .int .i64 m, .slice A mod.length c], .slice Xb nb cb, .slice Xa na ca]) 13 Try.func40 rfl rfl rfl ref_Divides_ent ⟨id, id, id, trivial⟩ (fun w0 => ?_)
 refine tS ?_
 refine tR fun _ _ _ => ?_
 refine eV (eBox rfl rfl rfl rfl rfl (fun p0 => ?_))
 refine pV ?_
 refine tS ?_
 refine tR fun _ _ _ => ?_
 refine sV (rLdS rfl rfl rfl) ?_
 iterate 2 refine pV ?_
 refine eV (eCall1 rfl rfl rfl (ref_PRem p m A c mod Xa na ca a hna ha9 Xb nb cb b hnb hb9 hbl h0) ⟨rfl, rfl, rfl, trivial⟩ ?_)
 rintro _ _ ⟨B1, c1, rfl, rfl⟩
 refine sV (rLen rfl rfl) ?_
 iterate 2 refine pV ?_
 exact tr_ret ⟨trivial, _, _, rfl, ⟨by rw [hil], rfl⟩, CSub.nil _, trivial⟩
end Go.Proofs.Ytbhoeaijpnjgdaa

set_option maxRecDepth 100000
namespace Go.Proofs.Ytbhoeaijpnjgdaa
open Go.RowKit
theorem ref_PPowMod_ent : Enters Try.prog 151 := enters_of Try.func151 (by kernel_rfl) (by kernel_rfl)
theorem ref_PPowMod (p m : Int) (A : Option Addr) (c : Nat) (mod : List Int) [hF : IsF p m mod] (Xa : Option Addr) (na ca : Nat) (a : List Int) (hna : na = a.length) (ha9 : a.length ≤ 1000000) (k : Int) (hk0 : 0 ≤ k) (hk9 : k ≤ 1000000) (C : Option Addr) (nc d2 : Nat) (ml : List Int) (hnc : nc = ml.length) (hm9 : ml.length ≤ 1000000) (he : facE (Po.len (pol ml : Po (El p m mod))) = 0) :
  Pure Try.prog 151 #[.agg #[.int .i64 p, .int .i64 m, .slice A mod.length c], .slice Xa na ca, .int .i64 k, .slice C nc d2] [ro A (ints mod), ro Xa (ints a), ro C (ints ml)] (one (fun v ch => ∃ B cap, v = .slice B (il (Po.rem (Rg.pow (pol a : Po (El p m mod)) k.toNat) (pol ml : Po (El p m mod)))).length cap ∧ ch = ow B 3 cap (ints (il (Po.rem (Rg.pow (pol a : Po (El p m mod)) k.toNat) (pol ml : Po (El p m mod))))))) := by
 have hil := il_length (pol ml : Po (El p m mod))
 have hml := facE_ok he
 have hm0 := ne_of_len hml.1
 refine pure_of (args := [.agg #[.int .i64 p, .int .i64 m, .slice A mod.length c], .slice Xa na ca, .int .i64 k, .slice C nc d2]) 40 Try.func151 rfl rfl rfl ref_PPowMod_ent ⟨id, id, id, trivial⟩ (fun w0 => ?_)
 refine tS ?_
 refine tR fun _ _ _ => ?_
 refine eV (eBox rfl rfl rfl rfl rfl (fun p0 => ?_))
 refine pV ?_
 refine tS ?_
 refine tR fun _ _ _ => ?_
 refine sV (rLdS rfl rfl rfl) ?_
 refine eV (eLit1I rfl rfl rfl rfl (fun A1 => ?_))
 refine pV ?_
 refine eV (eCall1 rfl rfl rfl (ref_PRem p m A c mod A1 _ 1 [1] rfl (by simp) C nc d2 ml hnc (by omega) (by omega) hm0) ⟨rfl, rfl, rfl, trivial⟩ ?_)
 rintro _ _ ⟨B1a, c1a, rfl, rfl⟩
 refine pV ?_
 refine tS ?_
 refine tR fun _ _ _ => ?_
 refine sV (rLdS rfl rfl rfl) ?_
 iterate 2 refine pV ?_
 refine eV (eCall1 rfl rfl rfl (ref_PRem p m A c mod Xa _ ca a hna ha9 C nc d2 ml hnc (by omega) (by omega) hm0) ⟨rfl, rfl, rfl, trivial⟩ ?_)
 rintro _ _ ⟨B2, c2, rfl, rfl⟩
 refine pV ?_
 refine tS ?_
 refine tB ?_
 refine tr_loop7 (fun (t : Int) (Bx : Option Addr) (cx : Nat) (f : Po (El p m mod)) (By : Option Addr) (cy : Nat) (b : Po (El p m mod)) => [(2, .int .i64 t), (9, .slice Bx (il f).length cx), (1, .slice By (il b).length cy), (3, .slice C nc d2), (4, .pointer (some p0)), (8, .slice none 0 0)]) (fun (t : Int) (Bx : Option Addr) (cx : Nat) (f : Po (El p m mod)) (By : Option Addr) (cy : Nat) (b : Po (El p m mod)) => [ow Bx 3 cx (ints (il f)), ow By 3 cy (ints (il b)), blk p0 24 [.int .i64 p, .int .i64 m, .slice A mod.length c], ro A (ints mod), ro C (ints ml)]) (fun (t : Int) (Bx : Option Addr) (cx : Nat) (f : Po (El p m mod)) (By : Option Addr) (cy : Nat) (b : Po (El p m mod)) => (0 ≤ t ∧ t ≤ k) ∧ Po.len f < Po.len (pol ml : Po (El p m mod)) ∧ Po.len b < Po.len (pol ml : Po (El p m mod)) ∧ (pol ml : Po (El p m mod)) ∣ f * Rg.pow b t.toNat - Rg.pow (pol a : Po (El p m mod)) k.toNat) (fun (t : Int) (Bx : Option Addr) (cx : Nat) (f : Po (El p m mod)) (By : Option Addr) (cy : Nat) (b : Po (El p m mod)) => t.toNat) (k) (B1a) (c1a) ((Po.rem (pol [1]) (pol ml : Po (El p m mod)))) (B2) (c2) ((Po.rem (pol a : Po (El p m mod)) (pol ml : Po (El p m mod)))) ⟨rfl, rfl, rfl, rfl, rfl, rfl, trivial⟩ (by first | exact cs _ _ | exact CSub.refl _) (⟨⟨by omega, by omega⟩, Po.rem_len _ hm0, Po.rem_len _ hm0, by rw [pol_one1]; exact rem_pow_start hm0 _⟩) (fun t Bx cx f By cy b hI => ?_)
 obtain ⟨⟨ht0, ht9⟩, hfl, hbl, hd⟩ := hI
 refine tS ?_
 refine tS ?_
 refine tR fun _ _ _ => ?_
 iterate 2 refine pV ?_
 refine tC rfl (fun h3 => ?_) (fun h3 => ?_)
 ·try simp only [zbA] at h3
  refine tK ?_
  refine tB ?_
  refine tS ?_
  refine tS ?_
  have hilf := il_length f
  have hilb := il_length b
  have e13 : Po.len (pol (il f) : Po (El p m mod)) = (il f).length := by rw [pol_il, il_length]
  have e14 : Po.len (pol (il b) : Po (El p m mod)) = (il b).length := by rw [pol_il, il_length]
  have l1 := il_length (pol (il f) * pol (il b) : Po (El p m mod))
  have l2 := len_mul_le (pol (il f)) (pol (il b) : Po (El p m mod))
  have l3 := il_length (pol (il b) * pol (il b) : Po (El p m mod))
  have l4 := len_mul_le (pol (il b)) (pol (il b) : Po (El p m mod))
  refine tR fun _ _ _ => ?_
  refine pV ?_
  refine sV (rRem rfl rfl rfl (by omega) (by omega)) ?_
  refine pV ?_
  refine tC rfl (fun h4 => ?_) (fun h4 => ?_)
  ·try simp only [zbA] at h4
   refine tr_draw [0, 1, 2, 3, 5, 4, 6, 7] [] mixed (by kernel_rfl) fun _ _ _ => ?_
   refine sV (rLdS rfl rfl rfl) ?_
   refine sV (rLdS rfl rfl rfl) ?_
   iterate 3 refine pV ?_
   refine eV (eCall1 rfl rfl rfl (ref_PMulL p m A c mod Bx _ cx (il f) rfl (by omega) By _ cy (il b) rfl (by omega) (by rw [pol_il]; omega)) ⟨rfl, rfl, rfl, trivial⟩ ?_)
   rintro _ _ ⟨B5, c5, rfl, rfl⟩
   refine eV (eCall1 rfl rfl rfl (ref_PRem p m A c mod B5 _ c5 (il (pol (il f) * pol (il b) : Po (El p m mod))) rfl (by omega) C nc d2 ml hnc (by omega) (by omega) hm0) ⟨rfl, rfl, rfl, trivial⟩ ?_)
   rintro _ _ ⟨B5a, c5a, rfl, rfl⟩
   refine pV ?_
   rw [pol_il, pol_il, pol_il]
   refine tS ?_
   refine tr_draw [0, 1, 2, 3, 5, 4, 6, 7] [] mixed (by kernel_rfl) fun _ _ _ => ?_
   refine sV (rLdS rfl rfl rfl) ?_
   refine sV (rLdS rfl rfl rfl) ?_
   iterate 3 refine pV ?_
   refine eV (eCall1 rfl rfl rfl (ref_PMulL p m A c mod By _ cy (il b) rfl (by omega) By _ cy (il b) rfl (by omega) (by rw [pol_il]; omega)) ⟨rfl, rfl, rfl, trivial⟩ ?_)
   rintro _ _ ⟨B6, c6, rfl, rfl⟩
   refine eV (eCall1 rfl rfl rfl (ref_PRem p m A c mod B6 _ c6 (il (pol (il b) * pol (il b) : Po (El p m mod))) rfl (by omega) C nc d2 ml hnc (by omega) (by omega) hm0) ⟨rfl, rfl, rfl, trivial⟩ ?_)
   rintro _ _ ⟨B6a, c6a, rfl, rfl⟩
   refine pV ?_
   rw [pol_il, pol_il]
   refine tR fun _ _ _ => ?_
   refine pV ?_
   refine sV (rQuo rfl rfl rfl (by omega) (by omega)) ?_
   refine pV ?_
   refine ⟨t / 2, B5a, c5a, (Po.rem (f * b) (pol ml : Po (El p m mod))), B6a, c6a, (Po.rem (b * b) (pol ml : Po (El p m mod))), ⟨rfl, rfl, rfl, rfl, rfl, rfl, trivial⟩, by first | exact cs _ _ | exact CSub.refl _, ?_⟩
   exact ⟨⟨⟨by omega, by omega⟩, Po.rem_len _ hm0, Po.rem_len _ hm0, by rw [show (t / 2).toNat = t.toNat / 2 by omega]; exact (rem_pow_step hm0 hd).1 (by omega)⟩, by omega⟩
  ·try simp only [zbA] at h4
   refine tK ?_
   refine tS ?_
   refine tr_draw [0, 1, 2, 3, 5, 4, 6, 7] [] mixed (by kernel_rfl) fun _ _ _ => ?_
   refine sV (rLdS rfl rfl rfl) ?_
   refine sV (rLdS rfl rfl rfl) ?_
   iterate 3 refine pV ?_
   refine eV (eCall1 rfl rfl rfl (ref_PMulL p m A c mod By _ cy (il b) rfl (by omega) By _ cy (il b) rfl (by omega) (by rw [pol_il]; omega)) ⟨rfl, rfl, rfl, trivial⟩ ?_)
   rintro _ _ ⟨B6, c6, rfl, rfl⟩
   refine eV (eCall1 rfl rfl rfl (ref_PRem p m A c mod B6 _ c6 (il (pol (il b) * pol (il b) : Po (El p m mod))) rfl (by omega) C nc d2 ml hnc (by omega) (by omega) hm0) ⟨rfl, rfl, rfl, trivial⟩ ?_)
   rintro _ _ ⟨B6a, c6a, rfl, rfl⟩
   refine pV ?_
   rw [pol_il, pol_il]
   refine tR fun _ _ _ => ?_
   refine pV ?_
   refine sV (rQuo rfl rfl rfl (by omega) (by omega)) ?_
   refine pV ?_
   refine ⟨t / 2, Bx, cx, f, B6a, c6a, (Po.rem (b * b) (pol ml : Po (El p m mod))), ⟨rfl, rfl, rfl, rfl, rfl, rfl, trivial⟩, by first | exact cs _ _ | exact CSub.refl _, ?_⟩
   exact ⟨⟨⟨by omega, by omega⟩, hfl, Po.rem_len _ hm0, by rw [show (t / 2).toNat = t.toNat / 2 by omega]; exact (rem_pow_step hm0 hd).2 (by omega)⟩, by omega⟩
 ·try simp only [zbA] at h3
  refine tE ?_
  refine tS ?_
  refine tR fun _ _ _ => ?_
  iterate 2 refine pV ?_
  have htz : t.toNat = 0 := by omega
  rw [htz] at hd
  have hfe := rem_uniq hm0 hfl (show (pol ml : Po (El p m mod)) ∣ f - Rg.pow (pol a : Po (El p m mod)) k.toNat by
   have e : f * Rg.pow b 0 = f := by show f * 1 = f; grind
   rw [e] at hd; exact hd)
  subst hfe
  exact tr_ret ⟨trivial, _, _, rfl, ⟨_, rfl, Bx, cx, rfl, rfl⟩, cs _ _, trivial, trivial⟩
section
variable {p m : Int} {mod : List Int} [hF : IsF p m mod]
theorem xq_step {P f : Po (El p m mod)} {i : Nat} (hP : P ≠ 0) (h : P ∣ f - Rg.pow Po.X ((pw p m).toNat ^ i)) : Po.rem (Rg.pow f (pw p m).toNat) P = Po.rem (Rg.pow Po.X ((pw p m).toNat ^ (i + 1))) P := by
 rw [Po.rem_eq_iff hP]
 have := fpow_congr h (pw p m).toNat
 rwa [← Rg.pow_mul, ← Nat.pow_succ] at this
theorem gcd_half {P : Po (El p m mod)} (hP : P ≠ 0) (i : Nat) : Po.gcd P (Po.rem (Rg.pow Po.X ((pw p m).toNat ^ i)) P - Po.X) = Po.gcd P (xq p m mod i) := gcd_sub_xq hP i
theorem rem_back {P f : Po (El p m mod)} (hP : P ≠ 0) : P ∣ Po.rem f P - f := by
 obtain ⟨z, hz⟩ := Po.rem_sub_dvd f hP
 exact ⟨-z, by rw [Rg.mul_neg, ← hz]; grind⟩
end
end Go.Proofs.Ytbhoeaijpnjgdaa

namespace Go.Proofs.Ytbhoeaijpnjgdaa
open Go.RowKit
theorem fpr_at {fs gs : List FacM} (h : fpr fs = fpr gs) (j : Nat) : (fs.getD j facD).r.xs = (gs.getD j facD).r.xs ∧ (fs.getD j facD).k = (gs.getD j facD).k := by
 have hg : ∀ l : List FacM, ((l.getD j facD).r.xs, (l.getD j facD).k) = (fpr l).getD j ([], 0) := fun l => by
  unfold fpr
  rw [List.getD_eq_getElem?_getD, List.getD_eq_getElem?_getD, List.getElem?_map]
  cases l[j]? <;> rfl
 have := (hg fs).trans ((congrArg (fun l => l.getD j ([], 0)) h).trans (hg gs).symm)
 simpa only [Prod.mk.injEq] using this
theorem fpr_eq {fs gs : List FacM} (hl : fs.length = gs.length) (h : ∀ j, j < fs.length → (fs.getD j facD).r.xs = (gs.getD j facD).r.xs ∧ (fs.getD j facD).k = (gs.getD j facD).k) : fpr fs = fpr gs := by
 apply List.ext_getElem (by simpa using hl)
 intro j h1 h2
 have h1' : j < fs.length := by simpa using h1
 have h2' : j < gs.length := by simpa using h2
 have := h j h1'
 rw [List.getD_eq_getElem?_getD, List.getElem?_eq_getElem h1', List.getD_eq_getElem?_getD, List.getElem?_eq_getElem h2'] at this
 simp only [Option.getD_some] at this
 simp only [fpr, List.getElem_map]
 rw [this.1, this.2]
section
open Po
end
end Go.Proofs.Ytbhoeaijpnjgdaa

set_option maxRecDepth 100000
namespace Go.Proofs.Ytbhoeaijpnjgdaa
open Go.RowKit
theorem ref_Same6_ent : Enters Try.prog 19 := enters_of Try.func19 (by kernel_rfl) (by kernel_rfl)
theorem ref_Same6 (X : Option Addr) (nx cx : Nat) (fs : List FacM) (hnx : nx = fs.length) (Y : Option Addr) (ny cy : Nat) (gs : List FacM) (hny : ny = gs.length) (hf9 : fs.length ≤ 17592186044415) (hg9 : gs.length ≤ 17592186044415) (hx9 : ∀ f ∈ fs, f.r.xs.length ≤ 17592186044415) :
  Pure Try.prog 19 #[.slice X nx cx, .slice Y ny cy] [ro X (prs (fcs fs)), rowsR (rws fs), ro Y (prs (fcs gs)), rowsR (rws gs)] (isV (.bool (decide (fpr fs = fpr gs)))) := by
 refine pure_of (args := [.slice X nx cx, .slice Y ny cy]) 42 Try.func19 rfl rfl rfl ref_Same6_ent ⟨id, id, id, id, trivial⟩ (fun w0 => ?_)
 refine tS ?_
 refine tR fun _ _ _ => ?_
 refine pV ?_
 refine tS ?_
 refine tS ?_
 refine tR fun _ _ _ => ?_
 refine pV ?_
 refine sV (rLenS rfl rfl) ?_
 refine pV ?_
 refine sV (rLenS rfl rfl) ?_
 refine pV ?_
 refine tC rfl (fun h1 => ?_) (fun h1 => ?_)
 ·try simp only [zbA] at h1
  refine tS ?_
  refine tR fun _ _ _ => ?_
  refine pV ?_
  exact tr_ret ⟨trivial, _, _, rfl, ⟨by rw [decide_eq_false (fun h => absurd (by have := congrArg List.length h; simpa using this) (show ¬ fs.length = gs.length by omega))], rfl⟩, CSub.nil _, trivial⟩
 ·try simp only [zbA] at h1
  refine tK ?_
  refine tS ?_
  refine tS ?_
  refine tR fun _ _ _ => ?_
  refine pV ?_
  refine tB ?_
  refine tr_loop1 (fun (k : Int) => [(5, .int .i64 k), (0, .slice X nx cx), (1, .slice Y ny cy)]) (fun (k : Int) => [ro X (prs (fcs fs)), rowsR (rws fs), ro Y (prs (fcs gs)), rowsR (rws gs)]) (fun (k : Int) => (0 ≤ k ∧ k ≤ fs.length) ∧ ∀ j : Nat, (j : Int) < k → (fs.getD j facD).r.xs = (gs.getD j facD).r.xs ∧ (fs.getD j facD).k = (gs.getD j facD).k) (fun (k : Int) => ((fs.length : Int) - k).toNat) (0) ⟨rfl, rfl, rfl, trivial⟩ (by first | exact cs _ _ | exact CSub.refl _) (⟨⟨by omega, by omega⟩, fun j hj => by omega⟩) (fun k hI => ?_)
  obtain ⟨⟨hk0, hk1⟩, hall⟩ := hI
  refine tS ?_
  refine tS ?_
  refine tR fun _ _ _ => ?_
  iterate 2 refine pV ?_
  refine sV (rLenS rfl rfl) ?_
  refine pV ?_
  refine tC rfl (fun h4 => ?_) (fun h4 => ?_)
  ·try simp only [zbA] at h4
   refine tK ?_
   refine tS ?_
   refine tB ?_
   refine tS ?_
   have hj1 : k.toNat < fs.length := by omega
   have hj2 : k.toNat < gs.length := by omega
   haveI : InB k.toNat fs.length := ⟨hj1⟩
   haveI : InB k.toNat gs.length := ⟨hj2⟩
   by_cases hs : (fs.getD k.toNat facD).k = (gs.getD k.toNat facD).k
   ·refine tr_draw [0, 1, 2, 3, 4, 5, 6, 7, 8, 9, 10, 11, 12, 13, 14, 15, 16, 17, 18, 19, 20, 21, 22, 23, 24] [] mixed (by kernel_rfl) fun _ _ _ => ?_
    iterate 2 refine pV ?_
    refine sV (rIdxT rfl rfl rfl (by omega) (by omega) (by simp; omega)) ?_
    refine sV (rFld rfl rfl) ?_
    refine sV (rLdG1 rfl rfl (by omega)) ?_
    iterate 2 refine pV ?_
    refine sV (rIdxT rfl rfl rfl (by omega) (by omega) (by simp; omega)) ?_
    refine sV (rFld rfl rfl) ?_
    refine sV (rLdG1 rfl rfl (by omega)) ?_
    iterate 2 refine pV ?_
    refine stT rfl rfl rfl (by first | exact decide_eq_false (by first | exact fun h => h hs | (simp; exact hs)) | (rw [decide_eq_false (by first | exact fun h => h hs | (simp; exact hs))]; rfl) | (simp; exact hs) | simp [hs]) rfl rfl (rMove rfl rfl) ?_
    refine stT rfl rfl rfl (by first | exact decide_eq_false (by first | exact fun h => h hs | (simp; exact hs)) | (rw [decide_eq_false (by first | exact fun h => h hs | (simp; exact hs))]; rfl) | (simp; exact hs) | simp [hs]) rfl rfl (rMove rfl rfl) ?_
    refine stT rfl rfl rfl (by first | exact decide_eq_false (by first | exact fun h => h hs | (simp; exact hs)) | (rw [decide_eq_false (by first | exact fun h => h hs | (simp; exact hs))]; rfl) | (simp; exact hs) | simp [hs]) rfl rfl (rIdxT rfl rfl rfl (by omega) (by omega) (by simp; omega)) ?_
    refine stT rfl rfl rfl (by first | exact decide_eq_false (by first | exact fun h => h hs | (simp; exact hs)) | (rw [decide_eq_false (by first | exact fun h => h hs | (simp; exact hs))]; rfl) | (simp; exact hs) | simp [hs]) rfl rfl (rFld rfl rfl) ?_
    refine stT rfl rfl rfl (by first | exact decide_eq_false (by first | exact fun h => h hs | (simp; exact hs)) | (rw [decide_eq_false (by first | exact fun h => h hs | (simp; exact hs))]; rfl) | (simp; exact hs) | simp [hs]) rfl rfl (rLdG0 rfl rfl (by omega)) ?_
    refine stT rfl rfl rfl (by first | exact decide_eq_false (by first | exact fun h => h hs | (simp; exact hs)) | (rw [decide_eq_false (by first | exact fun h => h hs | (simp; exact hs))]; rfl) | (simp; exact hs) | simp [hs]) rfl rfl (rMove rfl rfl) ?_
    refine stT rfl rfl rfl (by first | exact decide_eq_false (by first | exact fun h => h hs | (simp; exact hs)) | (rw [decide_eq_false (by first | exact fun h => h hs | (simp; exact hs))]; rfl) | (simp; exact hs) | simp [hs]) rfl rfl (rMove rfl rfl) ?_
    refine stT rfl rfl rfl (by first | exact decide_eq_false (by first | exact fun h => h hs | (simp; exact hs)) | (rw [decide_eq_false (by first | exact fun h => h hs | (simp; exact hs))]; rfl) | (simp; exact hs) | simp [hs]) rfl rfl (rIdxT rfl rfl rfl (by omega) (by omega) (by simp; omega)) ?_
    refine stT rfl rfl rfl (by first | exact decide_eq_false (by first | exact fun h => h hs | (simp; exact hs)) | (rw [decide_eq_false (by first | exact fun h => h hs | (simp; exact hs))]; rfl) | (simp; exact hs) | simp [hs]) rfl rfl (rFld rfl rfl) ?_
    refine stT rfl rfl rfl (by first | exact decide_eq_false (by first | exact fun h => h hs | (simp; exact hs)) | (rw [decide_eq_false (by first | exact fun h => h hs | (simp; exact hs))]; rfl) | (simp; exact hs) | simp [hs]) rfl rfl (rLdG0 rfl rfl (by omega)) ?_
    refine efT rfl rfl rfl (by first | exact decide_eq_false (by first | exact fun h => h hs | (simp; exact hs)) | (rw [decide_eq_false (by first | exact fun h => h hs | (simp; exact hs))]; rfl) | (simp; exact hs) | simp [hs]) (eCallV rfl rfl rfl (ref_SameInts6 (fs.getD k.toNat facD).r.A _ (fs.getD k.toNat facD).r.cap (fs.getD k.toNat facD).r.xs rfl (gs.getD k.toNat facD).r.A _ (gs.getD k.toNat facD).r.cap (gs.getD k.toNat facD).r.xs rfl (hx9 _ (getD_mem hj1 facD))) ⟨rfl, rfl, trivial⟩ ?_)
    refine stT rfl rfl rfl (by first | exact decide_eq_false (by first | exact fun h => h hs | (simp; exact hs)) | (rw [decide_eq_false (by first | exact fun h => h hs | (simp; exact hs))]; rfl) | (simp; exact hs) | simp [hs]) rfl rfl (rNotB rfl rfl) ?_
    refine sV (rPick0 rfl rfl (by first | exact decide_eq_false (by first | exact fun h => h hs | (simp; exact hs)) | (rw [decide_eq_false (by first | exact fun h => h hs | (simp; exact hs))]; rfl) | (simp; exact hs) | simp [hs]) rfl) ?_
    refine tC rfl (fun h6 => ?_) (fun h6 => ?_)
    ·try simp only [zbA] at h6
     refine tS ?_
     refine tR fun _ _ _ => ?_
     refine pV ?_
     have hne : ¬ fpr fs = fpr gs := fun h => by
      have h1 := fpr_at h k.toNat
      first
       | exact hs h1.2
       | (rw [h1.1] at h6; simp at h6)
     exact tr_ret ⟨trivial, _, _, rfl, ⟨by rw [decide_eq_false hne], rfl⟩, CSub.nil _, trivial⟩
    ·try simp only [zbA] at h6
     refine tK ?_
     refine tR fun _ _ _ => ?_
     refine pV ?_
     refine sV (rAdd rfl rfl rfl (by omega) (by omega)) ?_
     refine pV ?_
     refine ⟨k + 1, ⟨rfl, rfl, rfl, trivial⟩, by first | exact cs _ _ | exact CSub.refl _, ?_⟩
     refine ⟨⟨⟨by omega, by omega⟩, fun j hj => ?_⟩, by omega⟩
     by_cases e : (j : Int) < k
     ·exact hall j e
     ·rw [show j = k.toNat by omega]; exact ⟨by simpa using h6, hs⟩
   ·refine tr_draw [0, 1, 2, 3, 4, 5, 6, 7, 8, 9, 10, 11, 12, 13, 14, 15, 16, 17, 18, 19, 20, 21, 22, 23, 24] [] mixed (by kernel_rfl) fun _ _ _ => ?_
    iterate 2 refine pV ?_
    refine sV (rIdxT rfl rfl rfl (by omega) (by omega) (by simp; omega)) ?_
    refine sV (rFld rfl rfl) ?_
    refine sV (rLdG1 rfl rfl (by omega)) ?_
    iterate 2 refine pV ?_
    refine sV (rIdxT rfl rfl rfl (by omega) (by omega) (by simp; omega)) ?_
    refine sV (rFld rfl rfl) ?_
    refine sV (rLdG1 rfl rfl (by omega)) ?_
    iterate 2 refine pV ?_
    refine skF rfl rfl (by first | exact decide_eq_true (by first | exact hs | simpa using hs) | (rw [decide_eq_true (by first | exact hs | simpa using hs)]; rfl) | (simp; exact hs) | simp [hs]) rfl rfl ?_
    refine skF rfl rfl (by first | exact decide_eq_true (by first | exact hs | simpa using hs) | (rw [decide_eq_true (by first | exact hs | simpa using hs)]; rfl) | (simp; exact hs) | simp [hs]) rfl rfl ?_
    refine skF rfl rfl (by first | exact decide_eq_true (by first | exact hs | simpa using hs) | (rw [decide_eq_true (by first | exact hs | simpa using hs)]; rfl) | (simp; exact hs) | simp [hs]) rfl rfl ?_
    refine skF rfl rfl (by first | exact decide_eq_true (by first | exact hs | simpa using hs) | (rw [decide_eq_true (by first | exact hs | simpa using hs)]; rfl) | (simp; exact hs) | simp [hs]) rfl rfl ?_
    refine skF rfl rfl (by first | exact decide_eq_true (by first | exact hs | simpa using hs) | (rw [decide_eq_true (by first | exact hs | simpa using hs)]; rfl) | (simp; exact hs) | simp [hs]) rfl rfl ?_
    refine skF rfl rfl (by first | exact decide_eq_true (by first | exact hs | simpa using hs) | (rw [decide_eq_true (by first | exact hs | simpa using hs)]; rfl) | (simp; exact hs) | simp [hs]) rfl rfl ?_
    refine skF rfl rfl (by first | exact decide_eq_true (by first | exact hs | simpa using hs) | (rw [decide_eq_true (by first | exact hs | simpa using hs)]; rfl) | (simp; exact hs) | simp [hs]) rfl rfl ?_
    refine skF rfl rfl (by first | exact decide_eq_true (by first | exact hs | simpa using hs) | (rw [decide_eq_true (by first | exact hs | simpa using hs)]; rfl) | (simp; exact hs) | simp [hs]) rfl rfl ?_
    refine skF rfl rfl (by first | exact decide_eq_true (by first | exact hs | simpa using hs) | (rw [decide_eq_true (by first | exact hs | simpa using hs)]; rfl) | (simp; exact hs) | simp [hs]) rfl rfl ?_
    refine skF rfl rfl (by first | exact decide_eq_true (by first | exact hs | simpa using hs) | (rw [decide_eq_true (by first | exact hs | simpa using hs)]; rfl) | (simp; exact hs) | simp [hs]) rfl rfl ?_
    refine skF rfl rfl (by first | exact decide_eq_true (by first | exact hs | simpa using hs) | (rw [decide_eq_true (by first | exact hs | simpa using hs)]; rfl) | (simp; exact hs) | simp [hs]) rfl rfl ?_
    refine skF rfl rfl (by first | exact decide_eq_true (by first | exact hs | simpa using hs) | (rw [decide_eq_true (by first | exact hs | simpa using hs)]; rfl) | (simp; exact hs) | simp [hs]) rfl rfl ?_
    refine sV (rPick1 rfl rfl (by first | exact decide_eq_true (by first | exact hs | simpa using hs) | (rw [decide_eq_true (by first | exact hs | simpa using hs)]; rfl) | (simp; exact hs) | simp [hs]) rfl) ?_
    refine tC rfl (fun h6 => ?_) (fun h6 => ?_)
    ·try simp only [zbA] at h6
     refine tS ?_
     refine tR fun _ _ _ => ?_
     refine pV ?_
     have hne : ¬ fpr fs = fpr gs := fun h => by
      have h1 := fpr_at h k.toNat
      first
       | exact hs h1.2
       | (rw [h1.1] at h6; simp at h6)
     exact tr_ret ⟨trivial, _, _, rfl, ⟨by rw [decide_eq_false hne], rfl⟩, CSub.nil _, trivial⟩
    ·try simp only [zbA] at h6
     refine tK ?_
     refine tR fun _ _ _ => ?_
     refine pV ?_
     refine sV (rAdd rfl rfl rfl (by omega) (by omega)) ?_
     refine pV ?_
     refine ⟨k + 1, ⟨rfl, rfl, rfl, trivial⟩, by first | exact cs _ _ | exact CSub.refl _, ?_⟩
     exact absurd h6 (by simp)
  ·try simp only [zbA] at h4
   refine tE ?_
   refine tS ?_
   refine tR fun _ _ _ => ?_
   refine pV ?_
   have heq : fpr fs = fpr gs := fpr_eq (by omega) fun j hj => hall j (by omega)
   exact tr_ret ⟨trivial, _, _, rfl, ⟨by rw [decide_eq_true heq], rfl⟩, CSub.nil _, trivial⟩
end Go.Proofs.Ytbhoeaijpnjgdaa

namespace Go.Proofs.Ytbhoeaijpnjgdaa
open Go.RowKit
section
variable {p m : Int} {mod : List Int} [hF : IsF p m mod]
open Po
structure Rad (f r : Po (El p m mod)) : Prop where
 mon : lead r = 1
 sf : Sf r
 dv : ∀ P, Ir P → lead P = 1 → (P ∣ r ↔ P ∣ f)
theorem Rad.uniq {f r s : Po (El p m mod)} (h : Rad f r) (k : Rad f s) : r = s :=
 h.sf.eq k.sf h.mon k.mon (lead1_ne h.mon) (lead1_ne k.mon) fun P a b => (h.dv P a b).trans (k.dv P a b).symm
theorem Rad.le {f r : Po (El p m mod)} (h : Rad f r) (hf : f ≠ 0) : len r ≤ len f := dvd_len (h.sf.dvd (lead1_ne h.mon) fun P a b c => (h.dv P a b).1 c) hf
theorem rad_one {f : Po (El p m mod)} (h : len f = 1) : Rad f 1 := by
 have h1 : (1 : Po (El p m mod)) ≠ 0 := one_ne
 refine ⟨by unfold lead; rw [len_one]; rfl, fun P hP hd => ?_, fun P hP _ => ⟨fun hd => absurd hd (hP.not_one len_one), fun hd => absurd hd (hP.not_one h)⟩⟩
 have := dvd_trans (dvd_mul P P) hd
 exact hP.not_one len_one this
theorem rad_mon {f r : Po (El p m mod)} (h : Rad (mon f) r) : Rad f r := ⟨h.mon, h.sf, fun P a b => (h.dv P a b).trans ⟨fun hd => dvd_trans hd (mon_dvd f), fun hd => dvd_trans hd (dvd_mon f)⟩⟩
theorem rad_root {f r : Po (El p m mod)} (hd : dP f = 0) (hf : f ≠ 0) (h : Rad (rtP f) r) : Rad f r := ⟨h.mon, h.sf, fun P a b => by
 rw [h.dv P a b, mu_pos a (rtP_ne hd hf), mu_pos a hf, mu_rtP a hd hf]
 have hp := hF.p2
 constructor
 ·intro h1
  have h2 : 1 * 1 ≤ p.toNat * mu P (rtP f) := Nat.mul_le_mul (by omega) h1
  omega
 ·intro h1
  refine Classical.byContradiction fun hn => ?_
  have : mu P (rtP f) = 0 := by omega
  rw [this, Nat.mul_zero] at h1
  omega⟩
structure RadW (f w rest : Po (El p m mod)) : Prop where
 mw : lead w = 1
 sw : Sf w
 dw : ∀ P, Ir P → lead P = 1 → P ∣ w → P ∣ f
 mr : lead rest = 1
 dr : ∀ P, Ir P → lead P = 1 → P ∣ rest → P ∣ f
 wr : ∀ P, Ir P → lead P = 1 → P ∣ f → ¬ P ∣ w → P ∣ rest
theorem radW_start {f : Po (El p m mod)} (hf : lead f = 1) : RadW f (quo f (Po.gcd f (dP f))) (Po.gcd f (dP f)) := by
 have hf0 := lead1_ne hf
 have hg := gcd_is f (dP f)
 have hgm : lead (Po.gcd f (dP f)) = 1 := gcd_monic (.inl hf0)
 have e := quo_eq (lead1_ne hgm) hg.left
 obtain ⟨h1, h2⟩ := sf_rad hf0 e
 have hmw : lead (quo f (Po.gcd f (dP f))) = 1 := quo_mon hf hg.left hgm
 have hw0 := lead1_ne hmw
 refine ⟨hmw, h1, fun P a b c => dvd_trans c ⟨_, e⟩, hgm, fun P a b c => dvd_trans c hg.left, fun P a b c d => ?_⟩
 have h3 := h2 P a
 have h4 : ¬ 1 ≤ mu P (quo f (Po.gcd f (dP f))) := fun h => d ((mu_pos a hw0).2 h)
 have h5 : ((mu P f : Nat) : Int) % p = 0 := Classical.byContradiction fun hn => by
  rw [if_neg hn] at h3; omega
 rw [mu_pos a (lead1_ne hgm), mu_gcd_dP a hf0, if_pos h5]
 exact (mu_pos a hf0).1 c
theorem RadW.step {f w rest : Po (El p m mod)} (h : RadW f w rest) : RadW f w (quo rest (Po.gcd rest w)) := by
 have h0 := lead1_ne h.mr
 have hg := gcd_is rest w
 have hgm : lead (Po.gcd rest w) = 1 := gcd_monic (.inl h0)
 have e := quo_eq (lead1_ne hgm) hg.left
 have hqd : quo rest (Po.gcd rest w) ∣ rest := ⟨_, e⟩
 refine ⟨h.mw, h.sw, h.dw, quo_mon h.mr hg.left hgm, fun P a b c => h.dr P a b (dvd_trans c hqd), fun P a b c d => ?_⟩
 have h1 := h.wr P a b c d
 rw [e] at h1
 exact (a.prime h1).resolve_right fun hd => d (dvd_trans hd hg.right)
theorem RadW.le {f w rest : Po (El p m mod)} (h : RadW f w rest) (hl : 2 ≤ len (Po.gcd rest w)) : len (quo rest (Po.gcd rest w)) < len rest := by
 have h0 := lead1_ne h.mr
 have hg := gcd_is rest w
 have hg0 := gcd_ne (g := w) (.inl h0)
 have e := quo_eq hg0 hg.left
 have hq : quo rest (Po.gcd rest w) ≠ 0 := fun hz => h0 (by rw [e, hz, Rg.zero_mul])
 have := len_mul hq hg0
 rw [← e] at this
 omega
theorem RadW.done {f w rest r : Po (El p m mod)} (h : RadW f w rest) (hl : ¬ 2 ≤ len (Po.gcd rest w)) (hr : Rad rest r) : Rad f (w * r) := by
 have hg := gcd_is rest w
 have hno : ∀ P, Ir P → P ∣ rest → ¬ P ∣ w := fun P a b c => by
  have h1 := hg.great b c
  have h2 := dvd_len h1 (gcd_ne (.inl (lead1_ne h.mr)))
  have := a.two
  omega
 refine ⟨by rw [lead_mul (lead1_ne h.mw) (lead1_ne hr.mon), h.mw, hr.mon, Rg.mul_one], h.sw.mul hr.sf fun P a b c => ?_, fun P a b => ?_⟩
 ·obtain ⟨hm, hml⟩ := a.mon
  have h1 : Po.mon P ∣ r := dvd_trans (mon_dvd P) c
  have h2 := (hr.dv _ hm hml).1 h1
  exact hno _ hm h2 (dvd_trans (mon_dvd P) b)
 ·constructor
  ·intro hd
   rcases a.prime hd with hd | hd
   ·exact h.dw P a b hd
   ·exact h.dr P a b ((hr.dv P a b).1 hd)
  ·intro hd
   by_cases hw : P ∣ w
   ·exact dvd_trans hw (dvd_mul _ _)
   ·exact dvd_mul_ofL ((hr.dv P a b).2 (h.wr P a b hd hw)) w
theorem dP_len_lt {f : Po (El p m mod)} (hf : f ≠ 0) (hd : dP f ≠ 0) : len (Po.gcd f (dP f)) < len f := by
 have h1 := dvd_len (gcd_is f (dP f)).right hd
 have h2 := len_dP f
 have := len_pos hf
 omega
theorem irl_one {f : Po (El p m mod)} (h : Ir f) (hl : lead f = 1) : IrL f [f] := by
 have := irL_prd (Qs := [f]) (fun Q hQ => by
  rw [List.mem_singleton] at hQ
  subst hQ; exact ⟨h, hl⟩) (by rw [prd, prd, Rg.mul_one]; exact h.sf)
 rwa [prd, prd, Rg.mul_one] at this
theorem irl_app {f g : Po (El p m mod)} {ps qs : List (Po (El p m mod))} (hs : Sf (f * g)) (h : IrL f ps) (k : IrL g qs) : IrL (f * g) (ps ++ qs) := by
 refine ⟨List.nodup_append.2 ⟨h.nd, k.nd, fun P hP Q hQ e => ?_⟩, fun P => ?_⟩
 ·subst e
  obtain ⟨a, _, c⟩ := (h.mem P).1 hP
  obtain ⟨_, _, d⟩ := (k.mem P).1 hQ
  exact hs P a (dvd_mul2 c d)
 ·rw [List.mem_append, h.mem, k.mem]
  constructor
  ·rintro (⟨a, b, c⟩ | ⟨a, b, c⟩)
   ·exact ⟨a, b, dvd_trans c (dvd_mul _ _)⟩
   ·exact ⟨a, b, dvd_mul_ofL c f⟩
  ·rintro ⟨a, b, c⟩
   rcases a.prime c with c | c
   ·exact .inl ⟨a, b, c⟩
   ·exact .inr ⟨a, b, c⟩
theorem ir_of_bss {f : Po (El p m mod)} (hf : lead f = 1) (hs : Sf f) (h2 : 2 ≤ len f) {B : List (Po (El p m mod))} (hB : Bss f B) (h1 : B.length = 1) : Ir f := by
 obtain ⟨Ps, a, b⟩ := irL_ex (len f) f (Nat.le_refl _) hf hs
 have hl := bss_len hf hs hB a
 match Ps, a, b, hl with
 | [P], a, b, _ =>
  rw [prd, prd, Rg.mul_one] at b
  rw [← b]; exact ((a.mem P).1 (List.mem_cons_self ..)).1
 | [], _, _, hl => rw [h1] at hl; exact absurd hl (by simp)
 | _ :: _ :: _, _, _, hl => rw [h1] at hl; simp only [List.length_cons] at hl; omega
theorem bss_splits {f : Po (El p m mod)} (hf : lead f = 1) (hs : Sf f) (h2 : 2 ≤ len f) {B : List (Po (El p m mod))} (hB : Bss f B) (h1 : B.length ≠ 1) : ∃ v ∈ B, 2 ≤ len v ∧ ∃ c : El p m mod, 2 ≤ len (Po.gcd f (v - C c)) ∧ len (Po.gcd f (v - C c)) < len f := by
 have hf0 := lead1_ne hf
 obtain ⟨P, hP, hPl, hPf⟩ := ir_ex h2
 have hni : ¬ Ir f := fun hi => h1 (by
  have := bss_len hf hs hB (irl_one hi hf)
  simpa using this)
 obtain ⟨k, hk⟩ := hPf
 have hk0 : k ≠ 0 := fun e => hf0 (by rw [hk, e, Rg.mul_zero])
 have hlk := len_mul hP.ne hk0
 rw [← hk] at hlk
 have hk2 : 2 ≤ len k := Classical.byContradiction fun hlt => by
  have hk1 := len_pos hk0
  have h3 : len P = len f := by omega
  have h4 : f ∣ P := dvd_of_len ⟨k, hk⟩ hf0 (by omega)
  have := monic_eq ⟨k, hk⟩ h4 hPl hf
  exact hni (this ▸ hP)
 obtain ⟨Q, hQ, hQl, hQk⟩ := ir_ex hk2
 have hQf : Q ∣ f := by rw [hk]; exact dvd_mul_ofL hQk P
 have hPf : P ∣ f := ⟨k, hk⟩
 have hQP : ¬ Q ∣ P := fun hd => hs P hP (by
  rw [hk]; exact mul_dvd_mul (dvd_trans (hQ.assoc hP hd) hQk) P)
 obtain ⟨v, hv, hno⟩ := bss_sep hf hs hB hP hQ hPf hQf hQP
 obtain ⟨c, hc⟩ := fxd_const (hB.sub v hv).2 hP hPf
 refine ⟨v, hv, Classical.byContradiction fun hlt => ?_, c, ?_, ?_⟩
 ·have e : v = C (cf v 0) := Po.ext fun j => by
   rw [cf_mn]
   by_cases hj : j = 0
   ·rw [if_pos hj, hj]
   ·rw [if_neg hj, cf_ge (by omega)]
  refine hno (cf v 0) ⟨?_, ?_⟩
  ·rw [← e, Rg.sub_self]; exact dvd_zero P
  ·rw [← e, Rg.sub_self]; exact dvd_zero Q
 ·have h3 := (gcd_is f (v - C c)).great hPf hc
  have h4 := dvd_len h3 (gcd_ne (.inl hf0))
  have := hP.two
  omega
 ·have h3 := dvd_len (gcd_is f (v - C c)).left hf0
  rcases Nat.lt_or_eq_of_le h3 with h | h
  ·exact h
  ·exfalso
   have h4 : f ∣ Po.gcd f (v - C c) := dvd_of_len (gcd_is f (v - C c)).left hf0 (by omega)
   exact hno c ⟨hc, dvd_trans hQf (dvd_trans h4 (gcd_is f (v - C c)).right)⟩
theorem gcd_quo_mul {f w : Po (El p m mod)} (hf : lead f = 1) : lead (Po.gcd f w) = 1 ∧ lead (quo f (Po.gcd f w)) = 1 ∧ Po.gcd f w * quo f (Po.gcd f w) = f := by
 have hf0 := lead1_ne hf
 have hg := gcd_is f w
 have hgm : lead (Po.gcd f w) = 1 := gcd_monic (.inl hf0)
 exact ⟨hgm, quo_mon hf hg.left hgm, by rw [Rg.mul_comm]; exact quo_mul (lead1_ne hgm) hg.left⟩
end
end Go.Proofs.Ytbhoeaijpnjgdaa

set_option maxRecDepth 100000
namespace Go.Proofs.Ytbhoeaijpnjgdaa
open Go.RowKit
theorem ref_div6_ent : Enters Try.prog 59 := enters_of Try.func59 (by kernel_rfl) (by kernel_rfl)
theorem ref_div6 (p m : Int) (A : Option Addr) (c : Nat) (mod : List Int) [hF : IsF p m mod] (Xa : Option Addr) (na ca : Nat) (a : List Int) (hna : na = a.length) (ha9 : a.length ≤ 1000000) (Xb : Option Addr) (nb cb : Nat) (b : List Int) (hnb : nb = b.length) (hb9 : b.length ≤ 17592186044415) (hbl : (il (pol b : Po (El p m mod))).length ≤ 1000000) (h0 : (pol b : Po (El p m mod)) ≠ 0) :
  Pure Try.prog 59 #[.agg #[.int .i64 p, .int .i64 m, .slice A mod.length c], .slice Xa na ca, .slice Xb nb cb] [ro A (ints mod), ro Xa (ints a), ro Xb (ints b)] (one (fun v ch => ∃ B cap, v = .slice B (il (Po.quo (pol a : Po (El p m mod)) (pol b : Po (El p m mod)))).length cap ∧ ch = ow B 3 cap (ints (il (Po.quo (pol a : Po (El p m mod)) (pol b : Po (El p m mod))))))) := by
 refine pure_of (args := [.agg #[.int .i64 p, .int .i64 m, .slice A mod.length c], .slice Xa na ca, .slice Xb nb cb]) 17 Try.func59 rfl rfl rfl ref_div6_ent ⟨id, id, id, trivial⟩ (fun w0 => ?_)
 refine tS ?_
 refine tR fun _ _ _ => ?_
 refine eV (eBox rfl rfl rfl rfl rfl (fun p0 => ?_))
 refine pV ?_
 refine tS ?_
 refine tR fun _ _ _ => ?_
 refine sV (rLdS rfl rfl rfl) ?_
 iterate 2 refine pV ?_
 refine eV (eCall2 rfl rfl rfl (ref_PDivModL p m A c mod Xa na ca a hna (by omega) Xb nb cb b hnb hb9 hbl h0) ⟨rfl, rfl, rfl, trivial⟩ ?_)
 rintro _ _ _ ⟨Q1, q1, B1, c1, rfl, rfl, rfl⟩
 iterate 5 refine pV ?_
 refine tS ?_
 refine tR fun _ _ _ => ?_
 iterate 2 refine pV ?_
 exact tr_ret ⟨trivial, _, _, rfl, ⟨_, rfl, Q1, q1, rfl, rfl⟩, cs _ _, trivial, trivial⟩
theorem ref_root6_ent : Enters Try.prog 114 := enters_of Try.func114 (by kernel_rfl) (by kernel_rfl)
theorem ref_root6 (p m : Int) (A : Option Addr) (c : Nat) (mod : List Int) [hF : IsF p m mod] (X : Option Addr) (n cx : Nat) (a : List Int) (hn : n = a.length) (hn1 : 1 ≤ n) (hn9 : n ≤ 1000000) :
  Pure Try.prog 114 #[.agg #[.int .i64 p, .int .i64 m, .slice A mod.length c], .slice X n cx] [ro A (ints mod), ro X (ints a)] (one (fun v ch => ∃ B o, v = .slice B o.length o.length ∧ ch = ow B 3 o.length (ints o) ∧ (pol o : Po (El p m mod)) = rtP (pol a : Po (El p m mod)) ∧ o.length ≤ n)) := by
 have hq2 := hF.q2
 have hp2 := hF.p2
 have hq9 := hF.out.1.1.q
 have hord := hF.ord
 have hpq := p_le_q hF
 have hqd : (pw p m / p).toNat = (pw p m).toNat / p.toNat := by
  obtain ⟨a, ha⟩ := Int.eq_ofNat_of_zero_le (show 0 ≤ pw p m by omega)
  obtain ⟨b, hb⟩ := Int.eq_ofNat_of_zero_le (show 0 ≤ p by omega)
  rw [ha, hb, ← Int.natCast_ediv]
  simp only [Int.toNat_natCast]
 have hd0 : 0 ≤ pw p m / p := Int.ediv_nonneg (by omega) (by omega)
 have hd9 : pw p m / p ≤ pw p m := Int.ediv_le_self _ (by omega)
 have hz0 : 0 ≤ ((n : Int) - 1) / p := Int.ediv_nonneg (by omega) (by omega)
 have hz9 : ((n : Int) - 1) / p ≤ (n : Int) - 1 := Int.ediv_le_self _ (by omega)
 have hzm : p * (((n : Int) - 1) / p) ≤ (n : Int) - 1 := Int.mul_ediv_self_le (by omega)
 have hzl : (n : Int) - 1 < p * (((n : Int) - 1) / p + 1) := by
  have := Int.lt_mul_ediv_self_add (x := (n : Int) - 1) (show 0 < p by omega)
  rw [Int.mul_add, Int.mul_one]; omega
 generalize hz : ((n : Int) - 1) / p = z at *
 have hzn : ((z + 1).toNat : Int) = z + 1 := by omega
 refine pure_of (args := [.agg #[.int .i64 p, .int .i64 m, .slice A mod.length c], .slice X n cx]) 42 Try.func114 rfl rfl rfl ref_root6_ent ⟨id, id, trivial⟩ (fun w0 => ?_)
 refine tS ?_
 refine tR fun _ _ _ => ?_
 refine eV (eBox rfl rfl rfl rfl rfl (fun p0 => ?_))
 refine pV ?_
 refine tS ?_
 refine tR fun _ _ _ => ?_
 refine pV ?_
 refine sV (rLen rfl rfl) ?_
 refine sV (rSub rfl rfl rfl (by omega) (by omega)) ?_
 refine sV (rFld rfl rfl) ?_
 refine sV (rLdF rfl rfl rfl) ?_
 refine sV (rQuo rfl rfl rfl (by omega) (by omega)) ?_
 refine sV (rAdd rfl rfl rfl (by omega) (by omega)) ?_
 rw [hz]
 refine eV (eMakeI rfl rfl rfl rfl rfl (by omega) (by omega) (by omega) (fun A1 => ?_))
 refine pV ?_
 refine tS ?_
 refine tS ?_
 refine tR fun _ _ _ => ?_
 refine pV ?_
 refine tB ?_
 refine tr_loop2 (fun (k : Int) (o : List Int) => [(5, .slice A1 (z + 1).toNat (z + 1).toNat), (6, .int .i64 k), (1, .slice X n cx), (2, .pointer (some p0)), (4, .slice none 0 0)]) (fun (k : Int) (o : List Int) => [ow A1 3 (z + 1).toNat (ints o), blk p0 24 [.int .i64 p, .int .i64 m, .slice A mod.length c], ro A (ints mod), ro X (ints a)]) (fun (k : Int) (o : List Int) => (0 ≤ k ∧ k ≤ z + 1) ∧ o.length = (z + 1).toNat ∧ ∀ j : Nat, (j : Int) < k → o.getD j 0 = (Rg.pow (el (a.getD (j * p.toNat) 0) : El p m mod) ((pw p m).toNat / p.toNat)).1) (fun (k : Int) (o : List Int) => (z + 1 - k).toNat) (0) (List.replicate (z + 1).toNat 0) ⟨rfl, rfl, rfl, rfl, rfl, trivial⟩ (by first | exact cs _ _ | exact CSub.refl _) (⟨⟨by omega, by omega⟩, by simp, fun j hj => by omega⟩) (fun k o hI => ?_)
 obtain ⟨⟨hk0, hk1⟩, hol, ho⟩ := hI
 refine tS ?_
 refine tS ?_
 refine tR fun _ _ _ => ?_
 iterate 2 refine pV ?_
 refine sV (rLen rfl rfl) ?_
 refine pV ?_
 refine tC rfl (fun h3 => ?_) (fun h3 => ?_)
 ·try simp only [zbA] at h3
  refine tK ?_
  refine tS ?_
  refine tB ?_
  have hkp : 0 ≤ k * p ∧ k * p ≤ p * z := ⟨Int.mul_nonneg (by omega) (by omega), by rw [Int.mul_comm]; exact Int.mul_le_mul_of_nonneg_left (by omega) (by omega)⟩
  refine tr_plan [] [(0, 0), (0, 1), (0, 2), (0, 3), (0, 4), (0, 5), (0, 6), (0, 7), (0, 8), (0, 9), (0, 10), (0, 12), (0, 13), (0, 11), (0, 14), (0, 15), (0, 16), (0, 17), (2, 18), (0, 19), (1, 20)] mixed (by kernel_rfl) fun _ _ _ => ?_
  iterate 2 refine pV ?_
  refine sV (rLdS rfl rfl rfl) ?_
  iterate 2 refine pV ?_
  refine sV (rFld rfl rfl) ?_
  refine sV (rLdF rfl rfl rfl) ?_
  refine sV (rMul rfl rfl rfl (by omega) (by omega)) ?_
  refine sV (rIdxI rfl rfl rfl (by omega) (by omega) (by omega)) ?_
  refine sV (rLdI rfl rfl (by omega)) ?_
  refine sV (rLdS rfl rfl rfl) ?_
  refine sV (rFld rfl rfl) ?_
  refine sV (rLdF rfl rfl rfl) ?_
  refine eV (eCallV rfl rfl rfl (ref_order p m A c mod) ⟨rfl, trivial⟩ ?_)
  rw [hord]
  refine sV (rQuo rfl rfl rfl (by omega) (by omega)) ?_
  refine eV (eCallV rfl rfl rfl (ref_PowE p m A c mod (a.getD (k * p).toNat 0) (pw p m / p) hd0 (by omega)) ⟨rfl, rfl, rfl, trivial⟩ ?_)
  iterate 2 refine pV ?_
  refine stF rfl rfl rfl rfl (cs _ _) (rExt rfl rfl rfl) ?_
  refine sV (rIdxI rfl rfl rfl (by omega) (by omega) (by omega)) ?_
  refine eV (eStI rfl rfl rfl rfl (by omega) ?_)
  refine ⟨cs _ _, ?_⟩
  refine tR fun _ _ _ => ?_
  refine pV ?_
  refine sV (rAdd rfl rfl rfl (by omega) (by omega)) ?_
  refine pV ?_
  refine ⟨k + 1, o.set k.toNat (Rg.pow (el (a.getD (k * p).toNat 0) : El p m mod) (pw p m / p).toNat).1, ⟨rfl, rfl, rfl, rfl, rfl, trivial⟩, by first | exact cs _ _ | exact CSub.refl _, ?_⟩
  refine ⟨⟨⟨by omega, by omega⟩, by simpa using hol, fun j hj => ?_⟩, by omega⟩
  rw [getD_set]
  by_cases he : k.toNat = j
  ·subst he
   have e1 : (k * p).toNat = k.toNat * p.toNat := by
    have h2 : ((k.toNat * p.toNat : Nat) : Int) = k * p := by rw [Int.natCast_mul, Int.toNat_of_nonneg (by omega), Int.toNat_of_nonneg (by omega)]
    omega
   rw [if_pos ⟨rfl, by omega⟩, hqd, e1]
  ·rw [if_neg (fun e => he e.1)]; exact ho j (by omega)
 ·try simp only [zbA] at h3
  refine tE ?_
  refine tS ?_
  refine tR fun _ _ _ => ?_
  iterate 2 refine pV ?_
  have hp : (pol o : Po (El p m mod)) = rtP (pol a) := Po.ext fun j => by
   show el (o.getD j 0) = Rg.pow (Po.cf (pol a) (j * p.toNat)) ((pw p m).toNat / p.toNat)
   by_cases h : j < o.length
   ·rw [ho j (by omega), el_of, cf_pol]
   ·have h1 : p * (z + 1) ≤ p * (j : Int) := Int.mul_le_mul_of_nonneg_left (by omega) (by omega)
    have h2 : ((j * p.toNat : Nat) : Int) = p * (j : Int) := by rw [Int.natCast_mul, Int.toNat_of_nonneg (by omega), Int.mul_comm]
    have h4 : 0 < (pw p m).toNat / p.toNat := Nat.div_pos (by omega) (by omega)
    rw [getD_out (l := o) (by omega), cf_pol, getD_out (l := a) (by omega), el_zero, Rg.zero_pow h4]
  rw [← hol]
  exact tr_ret ⟨trivial, _, _, rfl, ⟨_, rfl, A1, o, rfl, rfl, hp, by omega⟩, cs _ _, trivial, trivial⟩
theorem ref_RadicalB_ent : Enters Try.prog 56 := enters_of Try.func56 (by kernel_rfl) (by kernel_rfl)
theorem ref_RadicalB (p m : Int) (A : Option Addr) (c : Nat) (mod : List Int) [hF : IsF p m mod] (Xa : Option Addr) (na ca : Nat) (a : List Int) (hna : na = a.length) (ha9 : a.length ≤ 17592186044415) (h1 : 1 ≤ Po.len (pol a : Po (El p m mod))) (h9 : Po.len (pol a : Po (El p m mod)) ≤ 257) (ih : ∀ (X2 : Option Addr) (n2 c2 : Nat) (b : List Int), n2 = b.length → b.length ≤ 17592186044415 → 1 ≤ Po.len (pol b : Po (El p m mod)) → Po.len (pol b : Po (El p m mod)) < Po.len (pol a : Po (El p m mod)) → Pure Try.prog 56 #[.agg #[.int .i64 p, .int .i64 m, .slice A mod.length c], .slice X2 n2 c2] [ro A (ints mod), ro X2 (ints b)] (one (fun v ch => ∃ B cap r, v = .slice B (il r).length cap ∧ ch = ow B 3 cap (ints (il (r : Po (El p m mod)))) ∧ Rad (pol b : Po (El p m mod)) r))) :
  Pure Try.prog 56 #[.agg #[.int .i64 p, .int .i64 m, .slice A mod.length c], .slice Xa na ca] [ro A (ints mod), ro Xa (ints a)] (one (fun v ch => ∃ B cap r, v = .slice B (il r).length cap ∧ ch = ow B 3 cap (ints (il (r : Po (El p m mod)))) ∧ Rad (pol a : Po (El p m mod)) r)) := by
 have hq2 := hF.q2
 have hil := il_length (pol a : Po (El p m mod))
 have h0 : (pol a : Po (El p m mod)) ≠ 0 := Po.len_pos_iff.1 (by omega)
 have hml := Po.mon_len (pol a : Po (El p m mod))
 have hm1 := Po.mon_lead h0
 have hm0 := lead1_ne hm1
 have hmil := il_length (Po.mon (pol a : Po (El p m mod)))
 have hdl := len_dP (Po.mon (pol a : Po (El p m mod)))
 have hdil := il_length (dP (Po.mon (pol a : Po (El p m mod))))
 have hgl := Po.dvd_len (Po.gcd_is (Po.mon (pol a : Po (El p m mod))) (dP (Po.mon (pol a : Po (El p m mod))))).left hm0
 have hgil := il_length (Po.gcd (Po.mon (pol a : Po (El p m mod))) (dP (Po.mon (pol a : Po (El p m mod)))))
 have hst := radW_start hm1
 have hwl := quo_le (f := (Po.mon (pol a : Po (El p m mod)))) (lead1_ne hst.mr)
 have hwil := il_length (Po.quo (Po.mon (pol a : Po (El p m mod))) (Po.gcd (Po.mon (pol a : Po (El p m mod))) (dP (Po.mon (pol a : Po (El p m mod))))))
 refine pure_of (args := [.agg #[.int .i64 p, .int .i64 m, .slice A mod.length c], .slice Xa na ca]) 56 Try.func56 rfl rfl rfl ref_RadicalB_ent ⟨id, id, trivial⟩ (fun w0 => ?_)
 refine tS ?_
 refine tR fun _ _ _ => ?_
 refine eV (eBox rfl rfl rfl rfl rfl (fun p0 => ?_))
 refine pV ?_
 refine tS ?_
 refine tR fun _ _ _ => ?_
 refine sV (rLdS rfl rfl rfl) ?_
 refine pV ?_
 refine eV (eCall1 rfl rfl rfl (ref_PMonicL p m A c mod Xa _ ca a hna ha9 (by omega)) ⟨rfl, rfl, trivial⟩ ?_)
 rintro _ _ ⟨B1, c1, rfl, rfl⟩
 refine pV ?_
 refine tS ?_
 refine tS ?_
 refine tR fun _ _ _ => ?_
 refine pV ?_
 refine sV (rLen rfl rfl) ?_
 refine pV ?_
 refine tC rfl (fun h2 => ?_) (fun h2 => ?_)
 ·try simp only [zbA] at h2
  refine tS ?_
  refine tR fun _ _ _ => ?_
  iterate 2 refine pV ?_
  have hF1 : (Po.mon (pol a : Po (El p m mod))) = 1 := Po.monic_one hm1 (by omega)
  exact tr_ret ⟨trivial, _, _, rfl, ⟨_, rfl, B1, c1, (Po.mon (pol a : Po (El p m mod))), rfl, rfl, by rw [hF1]; exact rad_one (by omega)⟩, cs _ _, trivial, trivial⟩
 ·try simp only [zbA] at h2
  refine tK ?_
  refine tS ?_
  refine tR fun _ _ _ => ?_
  refine sV (rLdS rfl rfl rfl) ?_
  refine pV ?_
  refine eV (eCall1 rfl rfl rfl (ref_Derivative p m A c mod B1 _ c1 (il (Po.mon (pol a : Po (El p m mod)))) rfl (by omega)) ⟨rfl, rfl, trivial⟩ ?_)
  rintro _ _ ⟨B4, c4, rfl, rfl⟩
  refine pV ?_
  rw [pol_il]
  refine tS ?_
  refine tS ?_
  refine tR fun _ _ _ => ?_
  refine pV ?_
  refine sV (rLen rfl rfl) ?_
  refine pV ?_
  refine tC rfl (fun h5 => ?_) (fun h5 => ?_)
  ·try simp only [zbA] at h5
   refine tS ?_
   have hd0 : dP (Po.mon (pol a : Po (El p m mod))) = 0 := il_eq_nil.1 (List.eq_nil_of_length_eq_zero (by omega))
   have hrl := rtP_len hd0 (by omega)
   refine tr_draw [0, 1, 2, 3, 4, 5] [] mixed (by kernel_rfl) fun _ _ _ => ?_
   refine sV (rLdS rfl rfl rfl) ?_
   refine sV (rLdS rfl rfl rfl) ?_
   refine pV ?_
   refine eV (eCall1 rfl rfl rfl (ref_root6 p m A c mod B1 _ c1 (il (Po.mon (pol a : Po (El p m mod)))) rfl (by omega) (by omega)) ⟨rfl, rfl, trivial⟩ ?_)
   rintro _ _ ⟨B6, o, rfl, rfl, ho, hol⟩
   rw [pol_il] at ho
   have hoh : 1 ≤ Po.len (pol o : Po (El p m mod)) ∧ Po.len (pol o : Po (El p m mod)) < Po.len (pol a : Po (El p m mod)) := by rw [ho]; omega
   refine eV (eCall1 rfl rfl rfl (ih B6 _ o.length o rfl (by omega) hoh.1 hoh.2) ⟨rfl, rfl, trivial⟩ ?_)
   rintro _ _ ⟨B6r, c6r, r, rfl, rfl, hrad⟩
   refine pV ?_
   exact tr_ret ⟨trivial, _, _, rfl, ⟨_, rfl, B6r, c6r, r, rfl, rfl, rad_mon (rad_root hd0 hm0 (by rw [ho] at hrad; exact hrad))⟩, cs _ _, trivial, trivial⟩
  ·try simp only [zbA] at h5
   refine tK ?_
   refine tS ?_
   have hd1 : dP (Po.mon (pol a : Po (El p m mod))) ≠ 0 := fun e => by rw [e, il_zero] at h5; exact h5 rfl
   have hglt := dP_len_lt hm0 hd1
   refine tR fun _ _ _ => ?_
   refine sV (rLdS rfl rfl rfl) ?_
   iterate 2 refine pV ?_
   refine eV (eCall1 rfl rfl rfl (ref_PGcd p m A c mod B1 _ c1 (il (Po.mon (pol a : Po (El p m mod)))) rfl (by omega) B4 _ c4 (il (dP (Po.mon (pol a : Po (El p m mod))))) rfl (by omega)) ⟨rfl, rfl, rfl, trivial⟩ ?_)
   rintro _ _ ⟨B7, c7, rfl, rfl⟩
   refine pV ?_
   rw [pol_il, pol_il]
   refine tS ?_
   refine tR fun _ _ _ => ?_
   refine sV (rLdS rfl rfl rfl) ?_
   iterate 2 refine pV ?_
   refine eV (eCall1 rfl rfl rfl (ref_div6 p m A c mod B1 _ c1 (il (Po.mon (pol a : Po (El p m mod)))) rfl (by omega) B7 _ c7 (il (Po.gcd (Po.mon (pol a : Po (El p m mod))) (dP (Po.mon (pol a : Po (El p m mod)))))) rfl (by omega) (by rw [pol_il]; omega) (by rw [pol_il]; exact lead1_ne hst.mr)) ⟨rfl, rfl, rfl, trivial⟩ ?_)
   rintro _ _ ⟨B8, c8, rfl, rfl⟩
   refine pV ?_
   rw [pol_il, pol_il]
   refine tS ?_
   refine tR fun _ _ _ => ?_
   refine sV (rLdS rfl rfl rfl) ?_
   iterate 2 refine pV ?_
   refine eV (eCall1 rfl rfl rfl (ref_PGcd p m A c mod B7 _ c7 (il (Po.gcd (Po.mon (pol a : Po (El p m mod))) (dP (Po.mon (pol a : Po (El p m mod)))))) rfl (by omega) B8 _ c8 (il (Po.quo (Po.mon (pol a : Po (El p m mod))) (Po.gcd (Po.mon (pol a : Po (El p m mod))) (dP (Po.mon (pol a : Po (El p m mod))))))) rfl (by omega)) ⟨rfl, rfl, rfl, trivial⟩ ?_)
   rintro _ _ ⟨B9, c9, rfl, rfl⟩
   refine pV ?_
   rw [pol_il, pol_il]
   refine tS ?_
   refine tB ?_
   refine tr_loop5 (fun (Br : Option Addr) (cr : Nat) (rest : Po (El p m mod)) (Bh : Option Addr) (ch : Nat) => [(6, .slice Br (il rest).length cr), (8, .slice Bh (il (Po.gcd rest (Po.quo (Po.mon (pol a : Po (El p m mod))) (Po.gcd (Po.mon (pol a : Po (El p m mod))) (dP (Po.mon (pol a : Po (El p m mod)))))))).length ch), (7, .slice B8 (il (Po.quo (Po.mon (pol a : Po (El p m mod))) (Po.gcd (Po.mon (pol a : Po (El p m mod))) (dP (Po.mon (pol a : Po (El p m mod))))))).length c8), (2, .pointer (some p0)), (4, .slice none 0 0)]) (fun (Br : Option Addr) (cr : Nat) (rest : Po (El p m mod)) (Bh : Option Addr) (ch : Nat) => [ow Br 3 cr (ints (il rest)), ow Bh 3 ch (ints (il (Po.gcd rest (Po.quo (Po.mon (pol a : Po (El p m mod))) (Po.gcd (Po.mon (pol a : Po (El p m mod))) (dP (Po.mon (pol a : Po (El p m mod))))))))), ow B8 3 c8 (ints (il (Po.quo (Po.mon (pol a : Po (El p m mod))) (Po.gcd (Po.mon (pol a : Po (El p m mod))) (dP (Po.mon (pol a : Po (El p m mod)))))))), blk p0 24 [.int .i64 p, .int .i64 m, .slice A mod.length c], ro A (ints mod)]) (fun (Br : Option Addr) (cr : Nat) (rest : Po (El p m mod)) (Bh : Option Addr) (ch : Nat) => RadW (Po.mon (pol a : Po (El p m mod))) (Po.quo (Po.mon (pol a : Po (El p m mod))) (Po.gcd (Po.mon (pol a : Po (El p m mod))) (dP (Po.mon (pol a : Po (El p m mod)))))) rest ∧ Po.len rest ≤ Po.len (Po.gcd (Po.mon (pol a : Po (El p m mod))) (dP (Po.mon (pol a : Po (El p m mod)))))) (fun (Br : Option Addr) (cr : Nat) (rest : Po (El p m mod)) (Bh : Option Addr) (ch : Nat) => Po.len rest) (B7) (c7) ((Po.gcd (Po.mon (pol a : Po (El p m mod))) (dP (Po.mon (pol a : Po (El p m mod)))))) (B9) (c9) ⟨rfl, rfl, rfl, rfl, rfl, trivial⟩ (by first | exact cs _ _ | exact CSub.refl _) (⟨hst, Nat.le_refl _⟩) (fun Br cr rest Bh ch hI => ?_)
   obtain ⟨hW, hrl0⟩ := hI
   have hri := il_length rest
   have hgi := il_length (Po.gcd rest (Po.quo (Po.mon (pol a : Po (El p m mod))) (Po.gcd (Po.mon (pol a : Po (El p m mod))) (dP (Po.mon (pol a : Po (El p m mod)))))))
   have hgr := Po.dvd_len (Po.gcd_is rest (Po.quo (Po.mon (pol a : Po (El p m mod))) (Po.gcd (Po.mon (pol a : Po (El p m mod))) (dP (Po.mon (pol a : Po (El p m mod))))))).left (lead1_ne hW.mr)
   refine tS ?_
   refine tS ?_
   refine tR fun _ _ _ => ?_
   refine pV ?_
   refine sV (rLen rfl rfl) ?_
   refine pV ?_
   refine tC rfl (fun h10 => ?_) (fun h10 => ?_)
   ·try simp only [zbA] at h10
    refine tK ?_
    refine tB ?_
    refine tS ?_
    have hlt := hW.le (by omega)
    have hqi := il_length (Po.quo rest (Po.gcd rest (Po.quo (Po.mon (pol a : Po (El p m mod))) (Po.gcd (Po.mon (pol a : Po (El p m mod))) (dP (Po.mon (pol a : Po (El p m mod))))))))
    refine tR fun _ _ _ => ?_
    refine sV (rLdS rfl rfl rfl) ?_
    iterate 2 refine pV ?_
    refine eV (eCall1 rfl rfl rfl (ref_div6 p m A c mod Br _ cr (il rest) rfl (by omega) Bh _ ch (il (Po.gcd rest (Po.quo (Po.mon (pol a : Po (El p m mod))) (Po.gcd (Po.mon (pol a : Po (El p m mod))) (dP (Po.mon (pol a : Po (El p m mod)))))))) rfl (by omega) (by rw [pol_il]; omega) (by rw [pol_il]; exact Po.gcd_ne (.inl (lead1_ne hW.mr)))) ⟨rfl, rfl, rfl, trivial⟩ ?_)
    rintro _ _ ⟨Bq, cq, rfl, rfl⟩
    refine pV ?_
    rw [pol_il, pol_il]
    refine tR fun _ _ _ => ?_
    refine sV (rLdS rfl rfl rfl) ?_
    iterate 2 refine pV ?_
    refine eV (eCall1 rfl rfl rfl (ref_PGcd p m A c mod Bq _ cq (il (Po.quo rest (Po.gcd rest (Po.quo (Po.mon (pol a : Po (El p m mod))) (Po.gcd (Po.mon (pol a : Po (El p m mod))) (dP (Po.mon (pol a : Po (El p m mod))))))))) rfl (by omega) B8 _ c8 (il (Po.quo (Po.mon (pol a : Po (El p m mod))) (Po.gcd (Po.mon (pol a : Po (El p m mod))) (dP (Po.mon (pol a : Po (El p m mod))))))) rfl (by omega)) ⟨rfl, rfl, rfl, trivial⟩ ?_)
    rintro _ _ ⟨Bg, cg, rfl, rfl⟩
    refine pV ?_
    rw [pol_il, pol_il]
    refine ⟨Bq, cq, Po.quo rest (Po.gcd rest (Po.quo (Po.mon (pol a : Po (El p m mod))) (Po.gcd (Po.mon (pol a : Po (El p m mod))) (dP (Po.mon (pol a : Po (El p m mod))))))), Bg, cg, ⟨rfl, rfl, rfl, rfl, rfl, trivial⟩, by first | exact cs _ _ | exact CSub.refl _, ?_⟩
    exact ⟨⟨hW.step, by omega⟩, by omega⟩
   ·try simp only [zbA] at h10
    refine tE ?_
    refine tS ?_
    refine tr_draw [0, 1, 2, 3, 4, 5, 6] [] mixed (by kernel_rfl) fun _ _ _ => ?_
    refine sV (rLdS rfl rfl rfl) ?_
    refine pV ?_
    refine sV (rLdS rfl rfl rfl) ?_
    refine pV ?_
    refine eV (eCall1 rfl rfl rfl (ih Br _ cr (il rest) rfl (by omega) (by rw [pol_il]; exact Po.len_pos (lead1_ne hW.mr)) (by rw [pol_il]; omega)) ⟨rfl, rfl, trivial⟩ ?_)
    rintro _ _ ⟨Bz, cz, r, rfl, rfl, hrad⟩
    rw [pol_il] at hrad
    have hrl2 := hrad.le (lead1_ne hW.mr)
    have hril := il_length r
    refine eV (eCall1 rfl rfl rfl (ref_PMulL p m A c mod B8 _ c8 (il (Po.quo (Po.mon (pol a : Po (El p m mod))) (Po.gcd (Po.mon (pol a : Po (El p m mod))) (dP (Po.mon (pol a : Po (El p m mod))))))) rfl (by omega) Bz _ cz (il r) rfl (by omega) (by rw [pol_il]; omega)) ⟨rfl, rfl, rfl, trivial⟩ ?_)
    rintro _ _ ⟨Bm, cm, rfl, rfl⟩
    rw [pol_il, pol_il]
    refine pV ?_
    exact tr_ret ⟨trivial, _, _, rfl, ⟨_, rfl, Bm, cm, _, rfl, rfl, rad_mon (hW.done (by omega) hrad)⟩, cs _ _, trivial, trivial⟩
theorem ref_RadicalN (p m : Int) (A : Option Addr) (c : Nat) (mod : List Int) [hF : IsF p m mod] : ∀ (N : Nat) (X : Option Addr) (n cx : Nat) (a : List Int), Po.len (pol a : Po (El p m mod)) ≤ N → n = a.length → a.length ≤ 17592186044415 → 1 ≤ Po.len (pol a : Po (El p m mod)) → Po.len (pol a : Po (El p m mod)) ≤ 257 → Pure Try.prog 56 #[.agg #[.int .i64 p, .int .i64 m, .slice A mod.length c], .slice X n cx] [ro A (ints mod), ro X (ints a)] (one (fun v ch => ∃ B cap r, v = .slice B (il r).length cap ∧ ch = ow B 3 cap (ints (il (r : Po (El p m mod)))) ∧ Rad (pol a : Po (El p m mod)) r))
 | 0, X, n, cx, a, hN, hn, ha9, h1, h9 => absurd h1 (by omega)
 | N + 1, X, n, cx, a, hN, hn, ha9, h1, h9 => ref_RadicalB p m A c mod X n cx a hn ha9 h1 h9 fun X2 n2 c2 b h2 h3 h4 h5 => ref_RadicalN p m A c mod N X2 n2 c2 b (by omega) h2 h3 h4 (by omega)
theorem ref_Radical (p m : Int) (A : Option Addr) (c : Nat) (mod : List Int) [hF : IsF p m mod] (Xa : Option Addr) (na ca : Nat) (a : List Int) (hna : na = a.length) (ha9 : a.length ≤ 17592186044415) (h1 : 1 ≤ Po.len (pol a : Po (El p m mod))) (h9 : Po.len (pol a : Po (El p m mod)) ≤ 257) : Pure Try.prog 56 #[.agg #[.int .i64 p, .int .i64 m, .slice A mod.length c], .slice Xa na ca] [ro A (ints mod), ro Xa (ints a)] (one (fun v ch => ∃ B cap r, v = .slice B (il r).length cap ∧ ch = ow B 3 cap (ints (il (r : Po (El p m mod)))) ∧ Rad (pol a : Po (El p m mod)) r)) := ref_RadicalN p m A c mod _ Xa na ca a (Nat.le_refl _) hna ha9 h1 h9
end Go.Proofs.Ytbhoeaijpnjgdaa

namespace Go.Proofs.Ytbhoeaijpnjgdaa
open Go.RowKit
section
variable {P : Program}
theorem zeroCells_one (z : Value) (m : Nat) : Builtin.zeroCells #[z] m = (List.replicate m z).toArray := by
 apply Array.ext
 ·simp [Builtin.zeroCells]
 ·intro j h1 h2
  simp [Builtin.zeroCells, Nat.mod_one]
theorem wrap_i64 {m : Nat} (h : m ≤ 17592186044416) : IntKind.i64.wrap (m : Int) = m := (IntWalk.i64_in _ ⟨by omega, by omega⟩)
theorem run_app_zeros (w : World) (t ti ty e : TypeId) (i : TypeInfo) (z : Value) (k : IntKind) (bytes : Nat) (ht : P.underlying t = some (.slice e)) (hti : P.underlying ti = some (.int k)) (hi : P.info? e = some i) (hz : i.zero = some z)
  (hsize : i.size = 1) (hby : i.bytes = bytes) (hzs : z.cells = #[z]) (ho : z.oneCell' = true) (v : Value) (n : Nat) (xs : List Value) (hown : w.ownsRow 0 e 1 v n xs) (m : Nat) (hm9 : m ≤ 17592186044416)
  (h63 : n + m ≤ maxLen) (hbytes : (n + m) * bytes ≤ 140737488355328) :
  ∃ v' w', (Builtin.append_ #[t, ti] ty #[v, .int .i64 m]).run P w = .ok v' w' ∧ w'.ownsRow 0 e 1 v' (n + m) (xs ++ List.replicate m z) ∧ w.grownBy w' v.ownBlock ∧ (v'.ownBlock = v.ownBlock ∨ v'.ownBlock = some w.heap.size) := by
 subst hby
 have hsmall : n + m ≤ 9223372036854775807 := by simp only [maxLen] at h63; omega
 have hwr := wrap_i64 hm9
 have hmb : ¬ ((m : Int) * (i.bytes : Int) > 281474976710656) := by
  have h1 : m * i.bytes ≤ (n + m) * i.bytes := Nat.mul_le_mul_right _ (by omega)
  have h2 : ((m * i.bytes : Nat) : Int) ≤ 140737488355328 := by omega
  rw [Int.natCast_mul] at h2
  omega
 have hlen : (xs ++ List.replicate m z).length = (n + m) * 1 := by rw [List.length_append, hown.1, List.length_replicate]; omega
 have hxl := hown.1
 have hzc : ∀ j, Builtin.zeroCells z.cells j = (List.replicate j z).toArray := fun j => by rw [hzs, zeroCells_one]
 -- what the growing arm leaves
 have grown : ∀ (old : Nat), old < n + m → ∀ (row : Option Nat),
   (w.drew.alloc (.cells (xs.toArray ++ (List.replicate m z).toArray ++ Builtin.zeroCells z.cells (grownCap w (n + m) old e - (n + m))) e)).ownsRow 0 e 1
    (.slice (some ⟨w.heap.size, 0, none⟩) (n + m) (grownCap w (n + m) old e)) (n + m) (xs ++ List.replicate m z) ∧
   w.grownBy (w.drew.alloc (.cells (xs.toArray ++ (List.replicate m z).toArray ++ Builtin.zeroCells z.cells (grownCap w (n + m) old e - (n + m))) e)) row := by
  intro old ho row
  have hge := grownCap_ge w (n + m) old e
  have hcm : grownCap w (n + m) old e ≤ maxLen := grownCap_le_maxLen w (n + m) old e h63
  refine ⟨⟨hlen, .inr ⟨w.heap.size, _, _, rfl, Nat.zero_le _, heap_alloc_new w.drew _, hge, hcm, ?_, ?_⟩⟩, ⟨rfl, rfl, rfl, by simp, fun k hk _ => heap_alloc_old w.drew _ hk⟩⟩
  ·rw [hzc]
   simp only [Array.size_append, List.size_toArray, List.length_replicate]
   omega
  ·simp only [Array.toList_append, List.append_assoc]
   rw [← List.append_assoc, ← hlen]
   exact List.take_left
 have happ : ∀ w' : World, ((if m * 1 = 0 then pure #[] else do pure (Builtin.zeroCells (← zeroValue e).cells m) : Sem (Array Value))).run P w' = .ok (List.replicate m z).toArray w' := fun w' => by
  by_cases h0 : m = 0
  ·subst h0; simp
  ·have : ¬ m * 1 = 0 := by omega
   rw [if_neg this]
   simp [zeroValue, typeInfo, hi, hz, hzc]
 have h63' : ¬ (9223372036854775807 < ((n : Int) + (m : Int))) := by omega
 have hm0 : ¬ ((m : Int) < 0) := by omega
 rcases hown.2 with ⟨rfl, rfl⟩ | ⟨g, cap, cur, rfl, hbg, hg, hnc, hcm, hcs, htake⟩
 ·have hx : xs = [] := List.eq_nil_of_length_eq_zero (by simpa using hown.1)
  subst hx
  by_cases hm : m = 0
  ·subst hm
   refine ⟨.slice none 0 0, w, ?_, World.ownsRow_nil w 0 e 1, ⟨rfl, rfl, rfl, Nat.le_refl _, fun _ _ _ => rfl⟩, Or.inl rfl⟩
   have hw0 : IntKind.i64.wrap 0 = 0 := by simpa using hwr
   simp [Builtin.append_, run_underlying ht, run_underlying hti, sizeOf, typeInfo, hi, asInt, asIntOf, hsize, hw0]
  ·have hgr := grown 0 (by omega) (Value.ownBlock (.slice none 0 0))
   refine ⟨_, _, ?_, hgr.1, hgr.2, Or.inr rfl⟩
   have hfit := growslice_fits (need := 0 + m) (old := 0) (by omega) hbytes
   have h48' : ¬ (281474976710656 < Builtin.nextslicecap m 0 * i.bytes) := by simp only [Nat.zero_add] at hfit; omega
   have h63'' : ¬ (9223372036854775807 < (m : Int)) := by omega
   simp [Builtin.append_, run_underlying ht, run_underlying hti, sizeOf, typeInfo, zeroValue, hi, hz, asInt, asIntOf, hsize, hwr, hm0, hmb, hm, h63'', h48', Question.forced, newRow, grownCap, hzc, run_firstCells_none, Builtin.firstCells]
 ·by_cases hroom : n + m ≤ cap
  ·have hfit : n * 1 + (List.replicate m z).length ≤ cur.size := by rw [List.length_replicate, hcs]; omega
   have hst := run_storeCells_at P g (n * 1) e (List.replicate m z) 0 cur w hg (by simpa using hfit) (fun u hu => by rw [List.eq_of_mem_replicate hu]; exact ho)
   simp only [Nat.add_zero] at hst
   refine ⟨_, w.setRow g (cur.toList.take (n * 1) ++ List.replicate m z ++ cur.toList.drop (n * 1 + (List.replicate m z).length)).toArray, ?_, ⟨hlen, .inr ⟨g, cap, (cur.toList.take (n * 1) ++ List.replicate m z ++ cur.toList.drop (n * 1 + (List.replicate m z).length)).toArray, rfl, hbg, setRow_heap w g cur _ e _ hg, hroom, hcm, ?_, ?_⟩⟩, ⟨rfl, rfl, rfl, by simp, fun k _ hk => setRow_other w g k _ (fun e => hk (by simp [Value.ownBlock, e]))⟩, Or.inl rfl⟩
   ·by_cases h0 : m = 0
    ·subst h0
     have hw0 : IntKind.i64.wrap 0 = 0 := by simpa using hwr
     simp only [Nat.mul_one, List.replicate_zero] at hst
     simp [Builtin.append_, run_underlying ht, run_underlying hti, sizeOf, typeInfo, hi, hz, asInt, asIntOf, hsize, hw0, hroom, hnc, Addr.add_lit, hst]
    ·simp only [Nat.mul_one] at hst
     simp [Builtin.append_, run_underlying ht, run_underlying hti, sizeOf, typeInfo, zeroValue, hi, hz, asInt, asIntOf, hsize, hwr, hroom, hm0, hmb, h0, hzc, Addr.add_lit, hst]
   ·simp only [List.size_toArray, List.length_append, List.length_take, List.length_drop, Array.length_toList]
    omega
   ·rw [htake, ← hlen]
    exact List.take_left
  ·have hgr := grown cap (by omega) (Value.ownBlock (.slice (some ⟨g, 0, none⟩) n cap))
   refine ⟨_, _, ?_, hgr.1, hgr.2, Or.inr rfl⟩
   have holds : ∀ j u, xs[j]? = some u → w.drew.cell? ((⟨g, 0, none⟩ : Addr).add j) = some u := by simpa using hown.cells (g := g) rfl
   have hfo := run_firstCells_some (P := P) w.drew 1 n ⟨g, 0, none⟩ n cap xs hown.1 holds
   have hfit := growslice_fits (need := n + m) (old := cap) (by omega) hbytes
   have h48' : ¬ (281474976710656 < Builtin.nextslicecap (n + m) cap * i.bytes) := by omega
   by_cases h0 : m = 0
   ·subst h0
    simp only [Nat.add_zero] at hroom
    exact absurd hnc hroom
   ·simp [Builtin.append_, run_underlying ht, run_underlying hti, sizeOf, typeInfo, zeroValue, hi, hz, asInt, asIntOf, hsize, hwr, hroom, hm0, hmb, h63', h48', h0, Question.forced, newRow, grownCap, hzc, hfo]
end
section
variable {P : Program} {N : NB} {M : Nat → Prop} {w0 : World} {L : Fr} {F F' : List Chunk} {K : Fr → List Chunk → Prop} {b : Bool} {o : Oper} {x y : Operand} {t ti e : TypeId} {z : Value} {bytes : Nat}
class InTy (P : Program) (t : TypeId) : Prop where
 und : ∃ k, P.underlying t = some (.int k)
theorem eAppZ {A : Option Addr} {n c m : Nat} {xs : List Int} (ho : o.op = .call { callee := .builtin .append, args := #[x, y], argTypes := #[t, ti] }) {d : Nat} (hdd : o.dst = some d) (hd : Nat.ble (d + 1) N.n = true) [h : SlTy P t e (.int .i64 0) 8] [hI : InTy P ti]
  (hx : ev L x = some (.slice A n c)) (hy : ev L y = some (.int .i64 m)) [hp : PkOw F A e c (ints xs) F'] (hn : n = xs.length) (hb : xs.length + m ≤ 17592186044416)
  (hK : ∀ (A' : Option Addr) (cap' : Nat), K (addL d (.slice A' (xs ++ List.replicate m 0).length cap') L) (ow A' e cap' (ints (xs ++ List.replicate m 0)) :: F')) : Eff P N M w0 false o L F K := fun a w hl hm => by
 subst hn
 obtain ⟨i, hi, hz, hs, hby⟩ := info_parts h.inf
 obtain ⟨k, hk⟩ := hI.und
 have hmp := hm.perm hp.perm
 have hown : w.ownsRow 0 e 1 (.slice A (ints xs).length c) (ints xs).length (ints xs) := hmp.sat _ (List.mem_cons_self ..)
 have hxl : (ints xs).length = xs.length := by simp
 obtain ⟨v', w', h1, h2, h3, h5⟩ := run_app_zeros (P := P) w t ti o.type e i (.int .i64 0) k 8 h.und hk hi hz hs hby rfl rfl _ _ _ hown m (by omega) (by simp only [maxLen]; omega) (by omega)
 have shape : ∃ A' cap', v' = .slice A' ((ints xs).length + m) cap' ∧ (∀ ad, A' = some ad → A = some ad ∨ ad.block = w.heap.size) := by
  rcases h2.2 with ⟨rfl, h0⟩ | ⟨g, cp, cur, rfl, _⟩
  ·exact ⟨none, 0, by rw [h0], fun ad h => by cases h⟩
  ·refine ⟨_, _, rfl, fun ad had => ?_⟩
   simp only [Option.some.injEq] at had
   subst had
   rcases h5 with h5 | h5
   ·left
    rcases hown.2 with ⟨h3, _⟩ | ⟨g', cp', cur', h3, _⟩
    ·rw [h3] at h5; simp [Value.ownBlock] at h5
    ·simp only [Value.slice.injEq] at h3
     obtain ⟨rfl, _⟩ := h3
     simp only [Value.ownBlock, Option.some.injEq] at h5
     rw [h5]
   ·right
    simpa [Value.ownBlock] using h5
 obtain ⟨A', cap', rfl, h4⟩ := shape
 have he : ints xs ++ List.replicate m (Value.int .i64 0) = ints (xs ++ List.replicate m 0) := by simp [ints]
 have hl2 : (ints xs).length + m = (xs ++ List.replicate m (0 : Int)).length := by simp
 have hl3 : (ints (xs ++ List.replicate m 0)).length = (xs ++ List.replicate m (0 : Int)).length := by simp
 rw [he, hl2] at h2
 rw [hl2] at h1
 have hrun : (execOp a.eval o).run P w = .ok (.value (.slice A' (xs ++ List.replicate m (0 : Int)).length cap')) w' := by
  rw [hxl] at h1
  simp only [execOp, ho, resolve, invoke, builtin, Sem.run_bind, Sem.run_pure, Result.andThen_ok, List.map_toArray, List.map_cons, List.map_nil, hl.eval hx, hl.eval hy, h1]
 simp only [Oper.wp, hrun, Oper.upon_value]
 refine ⟨fun hc => absurd hc (by simp), _, _, hl.add hdd hd _, ?_, hK A' cap'⟩
 refine hmp.change (by exact trivial) ⟨h3.os, h3.tape, h3.output, h3.size, fun k hk hc => h3.block k hk (fun hkb => hc ?_)⟩ (by show w'.ownsRow 0 e 1 (.slice A' (ints (xs ++ List.replicate m 0)).length cap') (ints (xs ++ List.replicate m 0)).length (ints (xs ++ List.replicate m 0)); rw [hl3]; exact h2) (fun b' hb' => ?_)
 ·cases A with
  | none => simp [Value.ownBlock] at hkb
  | some ad => exact ⟨ad, rfl, by simpa [Value.ownBlock] using hkb.symm⟩
 ·obtain ⟨ad, rfl, rfl⟩ := hb'
  rcases h4 ad rfl with h5 | h5
  ·exact .inl ⟨ad, h5, rfl⟩
  ·exact .inr (by omega)
theorem eLit0R (ho : o.op = .buildSlice t 0 #[]) {d : Nat} (hdd : o.dst = some d) (hd : Nat.ble (d + 1) N.n = true) [h : SlTy P t e z bytes] (hK : ∀ A : Option Addr, K (addL d (.slice A (([] : List RowM).length) 0) L) (ow A e 0 (hdrs []) :: F)) : Eff P N M w0 b o L F K := eLit0 ho hdd hd (h := h) hK
end
theorem ro_cut_sat {A : Option Addr} {l : List Int} {w : World} (i c : Nat) (hc : l.length ≤ c) (h : (ro A (ints l)).sat w) : (ro (cutA A i c) (ints (l.drop i))).sat w := by
 by_cases hi : i < c
 ·intro j hj
  have e : ints (l.drop i) = (ints l).drop i := by simp [ints, List.map_drop]
  have hj' : j < ((ints l).drop i).length := by rw [← e]; exact hj
  rw [List.length_drop] at hj'
  obtain ⟨ad, h1, h2⟩ := h (i + j) (by omega)
  subst h1
  refine ⟨ad.add i, by rw [cutA, if_pos hi]; rfl, ?_⟩
  rw [add_add, h2]
  congr 1
  simp only [e, List.getElem_drop]
 ·intro j hj
  have h0 : l.drop i = [] := List.drop_eq_nil_of_le (by omega)
  rw [h0] at hj
  simp [ints] at hj
theorem ro_cut_foot {A : Option Addr} {l : List Int} (i c : Nat) (hc : l.length ≤ c) {b : Nat} (hb : (ro (cutA A i c) (ints (l.drop i))).foot b) : (ro A (ints l)).foot b := by
 obtain ⟨hne, ad, h1, h2⟩ := hb
 by_cases hi : i < c
 ·rw [cutA, if_pos hi] at h1
  cases A with
  | none => cases h1
  | some a0 =>
   simp only [shA, Option.map_some, Option.some.injEq] at h1
   refine ⟨fun e => hne ?_, a0, rfl, ?_⟩
   ·have : l = [] := by simpa [ints] using e
    rw [this]; simp [ints]
   ·rw [← h2, ← h1, block_add]
 ·exact absurd (by rw [List.drop_eq_nil_of_le (by omega)]; rfl) hne
def rowsX (rs : List RowM) : Chunk where
 foot b := ∃ r ∈ rs, (ro r.A (ints r.xs)).foot b
 excl := True
 sat w := ∀ r ∈ rs, (ro r.A (ints r.xs)).sat w
 loc w w' h hs := fun r hr => (ro r.A (ints r.xs)).loc w w' (fun b hb => h b ⟨r, hr, hb⟩) (hs r hr)
 cel w b hs hb := by
  obtain ⟨r, hr, hb⟩ := hb
  exact (ro r.A (ints r.xs)).cel w b (hs r hr) hb
def cutR (n : Nat) (r : RowM) : RowM := ⟨cutA r.A n r.cap, r.cap - n, r.xs.drop n⟩
theorem rowsX_cut {e : TypeId} {rs qs : List RowM} (n : Nat) (h : ∀ r ∈ rs, r.xs.length ≤ r.cap) (hq : ∀ q ∈ qs, ∃ r ∈ rs, q = cutR n r) (F : List Chunk) : CSub (rowsCh e rs :: F) (rowsX qs :: F) :=
 CSub.weak (c := rowsCh e rs) (d := rowsX qs) ⟨fun w hs q hm => by
  obtain ⟨r, hr, rfl⟩ := hq q hm
  exact ro_cut_sat n r.cap (h r hr) (ow_reads (hs.1 r hr)), fun b hb => by
  obtain ⟨q, hm, hf⟩ := hb
  obtain ⟨r, hr, rfl⟩ := hq q hm
  have h1 := ro_cut_foot n r.cap (h r hr) hf
  exact ⟨r, hr, h1.2⟩, fun _ => trivial⟩ F
theorem rowsX_weak {rs : List RowM} (F : List Chunk) : CSub (rowsX rs :: F) (rowsR rs :: F) :=
 CSub.weak (c := rowsX rs) (d := rowsR rs) ⟨fun w hs => hs, fun b hb => hb, fun h => h.elim⟩ F
instance HasRows.ofX (F : List Chunk) (rs : List RowM) : HasRows (rowsX rs :: F) rs := ⟨fun _ _ _ hm => hm.sat (rowsX rs) (List.mem_cons_self ..), fun b hb => ⟨_, List.mem_cons_self .., hb⟩⟩
end Go.Proofs.Ytbhoeaijpnjgdaa

set_option maxRecDepth 100000
set_option maxHeartbeats 1000000
namespace Go.Proofs.Ytbhoeaijpnjgdaa
open Go.RowKit
theorem drop_getDR {α : Type} (l : List α) (a i : Nat) (d : α) : (l.drop a).getD i d = l.getD (a + i) d := by rw [List.getD_eq_getElem?_getD, List.getElem?_drop, ← List.getD_eq_getElem?_getD]
theorem map_getD {α β : Type} (f : α → β) {l : List α} {i : Nat} (h : i < l.length) (d : α) {z : β} : (l.map f).getD i z = f (l.getD i d) := by rw [List.getD_eq_getElem?_getD, List.getElem?_map, List.getElem?_eq_getElem h, List.getD_eq_getElem?_getD, List.getElem?_eq_getElem h]; rfl
instance tyInI : InTy Try.prog 3 := ⟨⟨.i64, by kernel_rfl⟩⟩
section
variable {p m : Int} {mod : List Int} [hF : IsF p m mod]
open Po Vc
structure RowL (f : Po (El p m mod)) (n j : Nat) (xs : List Int) : Prop where
 len : xs.length = n
 good : AllIn (pw p m) xs
 lo : ∀ t, t < n → (el (xs.getD t 0) : El p m mod) = cf (xk f (j * (pw p m).toNat)) t - (if t = j then 1 else 0)
theorem RowL.row {f : Po (El p m mod)} {n j : Nat} {xs : List Int} (h : RowL f n j xs) (hj : j < n) : RowS f n j ((xs ++ List.replicate n 0).set (n + j) 1) := by
 have hq := hF.q2
 have hl := h.len
 have hg : AllIn (pw p m) (xs ++ List.replicate n 0) := fun x hx => by
  rcases List.mem_append.1 hx with hx | hx
  ·exact h.good x hx
  ·rw [List.eq_of_mem_replicate hx]; omega
 have hget : ∀ t, (xs ++ List.replicate n (0 : Int)).getD t 0 = xs.getD t 0 := fun t => by
  rw [List.getD_eq_getElem?_getD, List.getElem?_append]
  by_cases ht : t < xs.length
  ·rw [if_pos ht, List.getD_eq_getElem?_getD]
  ·rw [if_neg ht, List.getElem?_replicate, getD_out (by omega)]
   split <;> rfl
 refine ⟨by simp; omega, hg.set (by omega) _, fun t ht => ?_, fun t ht => ?_⟩
 ·rw [getD_set, if_neg (by omega), hget]; exact h.lo t ht
 ·rw [getD_set]
  by_cases e : j = t
  ·rw [if_pos ⟨by omega, by simp; omega⟩, el_one, if_pos e.symm]
  ·rw [if_neg (by omega), hget, getD_out (by omega), el_zero, if_neg (fun x => e x.symm)]
def PolR (os : List RowM) (bs : List (Po (El p m mod))) : Prop := os.length = bs.length ∧ ∀ i, i < os.length → (pol (os.getD i rowD).xs : Po (El p m mod)) = bs.getD i 0 ∧ (os.getD i rowD).xs.length ≤ 256
end
theorem ref_SubE_ent : Enters Try.prog 152 := enters_of Try.func152 (by kernel_rfl) (by kernel_rfl)
theorem ref_SubE (p m : Int) (A : Option Addr) (c : Nat) (mod : List Int) [hF : IsF p m mod] (x y : Int) :
  Pure Try.prog 152 #[.agg #[.int .i64 p, .int .i64 m, .slice A mod.length c], .int .i64 x, .int .i64 y] [ro A (ints mod)] (isV (.int .i64 (el x - el y : El p m mod).1)) := by
 refine pure_of (args := [.agg #[.int .i64 p, .int .i64 m, .slice A mod.length c], .int .i64 x, .int .i64 y]) 13 Try.func152 rfl rfl rfl ref_SubE_ent ⟨id, trivial⟩ (fun w0 => ?_)
 refine tS ?_
 refine tR fun _ _ _ => ?_
 refine eV (eBox rfl rfl rfl rfl rfl (fun p0 => ?_))
 refine pV ?_
 refine tS ?_
 refine tr_draw [0, 1, 2, 3, 4, 5, 6] [] mixed (by kernel_rfl) fun _ _ _ => ?_
 refine sV (rLdS rfl rfl rfl) ?_
 refine pV ?_
 refine sV (rLdS rfl rfl rfl) ?_
 refine pV ?_
 refine eV (eCallV rfl rfl rfl (ref_NegE p m A c mod _) ⟨rfl, rfl, trivial⟩ ?_)
 refine eV (eCallV rfl rfl rfl (ref_AddE p m A c mod _ _) ⟨rfl, rfl, rfl, trivial⟩ ?_)
 refine pV ?_
 exact tr_ret ⟨trivial, _, _, rfl, ⟨by rw [el_of, ← Rg.sub_def], rfl⟩, CSub.nil _, trivial⟩
theorem ref_null6_ent : Enters Try.prog 153 := enters_of Try.func153 (by kernel_rfl) (by kernel_rfl)
theorem ref_null6 (p m : Int) (A : Option Addr) (c : Nat) (mod : List Int) [hF : IsF p m mod] (X : Option Addr) (cx N : Nat) (rs0 : List RowM) (f : Po (El p m mod)) (hr0 : rs0.length = N) (hN : Po.len f = N + 1) (hN1 : 1 ≤ N) (hl : Po.lead f = 1) (h9 : Po.len f ≤ 257) (hrows : ∀ j, j < N → RowL f N j (rs0.getD j rowD).xs) :
  Pure Try.prog 153 #[.agg #[.int .i64 p, .int .i64 m, .slice A mod.length c], .slice X N cx] [ro A (ints mod), ro X (hdrs rs0), rowsR rs0] (two (fun v ca cb => ∃ B cap os, ∃ bs : List (Po (El p m mod)), v = .slice B os.length cap ∧ ca = ow B 22 cap (hdrs os) ∧ cb = rowsX os ∧ PolR os bs ∧ Bss f bs ∧ os.length ≤ 256)) := by
 have hq2 := hF.q2
 have hq9 := hF.out.1.1.q
 have hf0 : f ≠ 0 := lead1_ne hl
 refine pure_of (args := [.agg #[.int .i64 p, .int .i64 m, .slice A mod.length c], .slice X N cx]) 159 Try.func153 rfl rfl rfl ref_null6_ent ⟨id, id, id, trivial⟩ (fun w0 => ?_)
 refine tS ?_
 refine tR fun _ _ _ => ?_
 refine eV (eBox rfl rfl rfl rfl rfl (fun p0 => ?_))
 refine pV ?_
 refine tS ?_
 refine tR fun _ _ _ => ?_
 refine pV ?_
 refine sV (rLen rfl rfl) ?_
 refine pV ?_
 refine tS ?_
 refine tR fun _ _ _ => ?_
 refine pV ?_
 refine eV (eMake rfl rfl rfl rfl rfl (by omega) (by omega) (by omega) (fun A2 => ?_))
 refine pV ?_
 rw [Int.toNat_natCast, hdrs_rep]
 refine tS ?_
 refine tS ?_
 refine tR fun _ _ _ => ?_
 refine pV ?_
 refine tB ?_
 refine tr_loop2 (fun (i : Int) (rs : List RowM) => [(5, .int .i64 (N : Int)), (6, .slice A2 N N), (7, .int .i64 i), (1, .slice X N cx), (2, .pointer (some p0)), (4, .slice none 0 0)]) (fun (i : Int) (rs : List RowM) => [ow A2 22 N (hdrs rs), rowsCh 3 rs, blk p0 24 [.int .i64 p, .int .i64 m, .slice A mod.length c], ro A (ints mod), ro X (hdrs rs0), rowsR rs0]) (fun (i : Int) (rs : List RowM) => (0 ≤ i ∧ i ≤ N) ∧ rs.length = N ∧ ∀ j, j < i.toNat → RowS f N j (rs.getD j rowD).xs) (fun (i : Int) (rs : List RowM) => (N - i).toNat) (0) (List.replicate N rowD) ⟨rfl, rfl, rfl, rfl, rfl, rfl, trivial⟩ (by exact (rows_rep 3 _ N).trans (cs _ _)) (⟨⟨by omega, by omega⟩, by simp, fun j hj => absurd hj (by omega)⟩) (fun i rs hI => ?_)
 obtain ⟨⟨hi0, hi1⟩, hrl, hrs⟩ := hI
 refine tS ?_
 refine tS ?_
 refine tR fun _ _ _ => ?_
 iterate 3 refine pV ?_
 refine tC rfl (fun h4 => ?_) (fun h4 => ?_)
 ·try simp only [zbA] at h4
  refine tK ?_
  refine tS ?_
  refine tB ?_
  refine tS ?_
  haveI : InB i.toNat rs0.length := ⟨by omega⟩
  have hri := hrows i.toNat (by omega)
  have hri1 := hri.len
  refine tR fun _ _ _ => ?_
  iterate 2 refine pV ?_
  refine eV (eLit0I rfl rfl rfl (fun A6 => ?_))
  iterate 2 refine pV ?_
  refine sV (rIdxR rfl rfl rfl (by omega) (by omega) (by omega)) ?_
  refine sV (rLdR rfl rfl (by omega)) ?_
  refine eV (eAppI rfl rfl rfl rfl rfl rfl rfl (by rw [List.length_nil]; omega) (fun A6a c6a => ?_))
  refine pV ?_
  rw [List.nil_append]
  refine eV (eAppZ rfl rfl rfl rfl rfl (by first | rfl | simp | omega) (by omega) (fun A6b c6b => ?_))
  refine sV (rIdxR rfl rfl rfl (by omega) (by omega) (by omega)) ?_
  refine eV (eSt rfl rfl rfl rfl (by first | omega | (simp; omega)) rfl rfl ?_)
  obtain ⟨X1, hX1⟩ : ∃ X1, X1 = ((rs0.getD i.toNat rowD).xs ++ List.replicate N 0) := ⟨_, rfl⟩
  have hX1l : X1.length = 2 * N := by rw [hX1, List.length_append, List.length_replicate]; omega
  rw [← hX1]
  have e5 : (hdrs rs).set i.toNat (.slice A6b X1.length c6b) = hdrs (rs.set i.toNat ⟨A6b, c6b, X1⟩) := by rw [hdrs_set]; simp [RowM.hdr]
  rw [e5]
  haveI : InB i.toNat (rs.set i.toNat ⟨A6b, c6b, X1⟩).length := ⟨by rw [List.length_set]; omega⟩
  have hgt : (rs.set i.toNat (⟨A6b, c6b, X1⟩ : RowM)).getD i.toNat rowD = ⟨A6b, c6b, X1⟩ := by rw [row_set, if_pos ⟨rfl, by omega⟩]
  have hrsl : (rs.set i.toNat (⟨A6b, c6b, X1⟩ : RowM)).length = N := by rw [List.length_set]; exact hrl
  refine tR fun _ _ _ => ?_
  iterate 2 refine pV ?_
  refine sV (rIdxR rfl rfl rfl (by omega) (by omega) (by omega)) ?_
  refine sV (rLdR rfl rfl (by omega)) ?_
  rw [hgt]
  simp only
  iterate 2 refine pV ?_
  refine sV (rAdd rfl rfl rfl (by omega) (by omega)) ?_
  refine sV (rIdxI rfl rfl rfl (by omega) (by omega) (by omega)) ?_
  rw [show ((N : Int) + i).toNat = N + i.toNat by omega]
  refine eV (eStI rfl rfl rfl rfl (by omega) ?_)
  have hR : RowS f N i.toNat (X1.set (N + i.toNat) 1) := by rw [hX1]; exact hri.row (by omega)
  have hset : hdrs (rs.set i.toNat ⟨A6b, c6b, X1⟩) = hdrs (rs.set i.toNat ⟨A6b, c6b, X1.set (N + i.toNat) 1⟩) := by rw [hdrs_set, hdrs_set]; simp [RowM.hdr]
  rw [hset]
  refine tR fun _ _ _ => ?_
  refine pV ?_
  refine sV (rAdd rfl rfl rfl (by omega) (by omega)) ?_
  refine pV ?_
  refine ⟨i + 1, rs.set i.toNat ⟨A6b, c6b, X1.set (N + i.toNat) 1⟩, ⟨rfl, rfl, rfl, rfl, rfl, rfl, trivial⟩, by exact (cs _ [rowsCh 3 rs, ow A6b 3 c6b (ints (X1.set (N + i.toNat) 1)), ow A2 22 N (hdrs (rs.set i.toNat ⟨A6b, c6b, X1.set (N + i.toNat) 1⟩)), blk p0 24 [.int .i64 p, .int .i64 m, .slice A mod.length c], ro A (ints mod), ro X (hdrs rs0), rowsR rs0]).trans ((rows_put (r := ⟨A6b, c6b, X1.set (N + i.toNat) 1⟩) (show i.toNat < rs.length by omega) _).trans (cs _ _)), ?_⟩
  refine ⟨⟨⟨by omega, by omega⟩, by simpa using hrl, fun j hj => ?_⟩, by omega⟩
  rw [row_set]
  by_cases he : i.toNat = j
  ·rw [if_pos ⟨he, by omega⟩, ← he]; exact hR
  ·rw [if_neg (fun e => he e.1)]; exact hrs j (by omega)
 ·try simp only [zbA] at h4
  refine tE ?_
  refine tS ?_
  obtain ⟨hst, hgd0⟩ := rowS_sta hf0 hN hrl (fun j hj => hrs j (by omega))
  refine tR fun _ _ _ => ?_
  refine pV ?_
  refine tS ?_
  refine tS ?_
  refine tR fun _ _ _ => ?_
  refine pV ?_
  refine tB ?_
  refine tr_loop3 (fun (cc : Int) (a : Int) (rs : List RowM) => [(5, .int .i64 (N : Int)), (6, .slice A2 N N), (8, .int .i64 a), (9, .int .i64 cc), (2, .pointer (some p0)), (4, .slice none 0 0)]) (fun (cc : Int) (a : Int) (rs : List RowM) => [ow A2 22 N (hdrs rs), rowsCh 3 rs, blk p0 24 [.int .i64 p, .int .i64 m, .slice A mod.length c], ro A (ints mod), ro X (hdrs rs0), rowsR rs0]) (fun (cc : Int) (a : Int) (rs : List RowM) => (0 ≤ cc ∧ cc ≤ N) ∧ (0 ≤ a ∧ a ≤ cc) ∧ (rs.length = N ∧ Gd (pw p m) (2 * N) rs) ∧ Fwd f N (vsR rs) cc.toNat a.toNat) (fun (cc : Int) (a : Int) (rs : List RowM) => (N - cc).toNat) (0) (0) (rs) ⟨rfl, rfl, rfl, rfl, rfl, rfl, trivial⟩ (by first | exact cs _ _ | exact CSub.refl _) (⟨⟨by omega, by omega⟩, ⟨by omega, by omega⟩, ⟨hrl, hgd0⟩, hst.fwd hN⟩) (fun cc a rs hI => ?_)
  obtain ⟨⟨hc0, hc1⟩, ⟨ha0, ha1⟩, ⟨hrl, hgd⟩, hW⟩ := hI
  refine tS ?_
  refine tS ?_
  refine tR fun _ _ _ => ?_
  iterate 3 refine pV ?_
  refine tC rfl (fun h10 => ?_) (fun h10 => ?_)
  ·try simp only [zbA] at h10
   refine tK ?_
   refine tS ?_
   refine tB ?_
   refine tS ?_
   refine tR fun _ _ _ => ?_
   iterate 2 refine pV ?_
   refine tS ?_
   refine tB ?_
   refine tr_loop1 (fun (k : Int) => [(5, .int .i64 (N : Int)), (6, .slice A2 N N), (8, .int .i64 a), (9, .int .i64 cc), (10, .int .i64 k), (2, .pointer (some p0)), (4, .slice none 0 0), (45, .int .i64 cc), (46, .int .i64 (N : Int)), (50, .int .i64 a)]) (fun (k : Int) => [ow A2 22 N (hdrs rs), rowsCh 3 rs, blk p0 24 [.int .i64 p, .int .i64 m, .slice A mod.length c], ro A (ints mod), ro X (hdrs rs0), rowsR rs0]) (fun (k : Int) => (a ≤ k ∧ k ≤ N) ∧ ∀ i : Nat, a ≤ (i : Int) → (i : Int) < k → (rs.getD i rowD).xs.getD cc.toNat 0 = 0) (fun (k : Int) => (N - k).toNat) (a) ⟨rfl, rfl, rfl, rfl, rfl, rfl, rfl, rfl, rfl, rfl, trivial⟩ (by first | exact cs _ _ | exact CSub.refl _) (⟨⟨by omega, by omega⟩, fun i h1 h2 => by omega⟩) (fun k hI => ?_)
   obtain ⟨⟨hk0, hk1⟩, hkz⟩ := hI
   refine tS ?_
   refine tS ?_
   refine tR fun _ _ _ => ?_
   iterate 4 refine pV ?_
   refine stg rfl rfl rfl rfl rfl (fun hb => by (have hq := hb; try simp only [zbA] at hq); exact rMove rfl rfl) ?_
   refine stg rfl rfl rfl rfl rfl (fun hb => by (have hq := hb; try simp only [zbA] at hq); exact rMove rfl rfl) ?_
   refine stg rfl rfl rfl rfl rfl (fun hb => by (have hq := hb; try simp only [zbA] at hq); exact rIdxR rfl (evg rfl hb) (evg rfl hb) (by omega) (by omega) (by omega)) ?_
   refine stg rfl rfl rfl rfl rfl (fun hb => by (have hq := hb; try simp only [zbA] at hq); exact rLdR rfl (evg rfl hb) (by omega)) ?_
   refine stg rfl rfl rfl rfl rfl (fun hb => by (have hq := hb; try simp only [zbA] at hq); exact rMove rfl rfl) ?_
   refine stg rfl rfl rfl rfl rfl (fun hb => by (have hq := hb; try simp only [zbA] at hq); exact (haveI : InB k.toNat rs.length := ⟨by omega⟩; have hw := (hgd.get (show k.toNat < rs.length by omega)).1; rIdxI rfl (evg rfl hb) (evg rfl hb) (by omega) (by omega) (by omega))) ?_
   refine stg rfl rfl rfl rfl rfl (fun hb => by (have hq := hb; try simp only [zbA] at hq); exact (haveI : InB k.toNat rs.length := ⟨by omega⟩; have hw := (hgd.get (show k.toNat < rs.length by omega)).1; rLdI rfl (evg rfl hb) (by omega))) ?_
   refine stg rfl rfl rfl rfl rfl (fun hb => by (have hq := hb; try simp only [zbA] at hq); exact rEql rfl (evg rfl hb) rfl) ?_
   refine sV (rAndB rfl rfl rfl rfl) ?_
   refine tC rfl (fun h13 => ?_) (fun h13 => ?_)
   ·try simp only [zbA] at h13
    refine tK ?_
    refine tB ?_
    refine tR fun _ _ _ => ?_
    refine pV ?_
    refine sV (rAdd rfl rfl rfl (by omega) (by omega)) ?_
    refine pV ?_
    refine ⟨k + 1, ⟨rfl, rfl, rfl, rfl, rfl, rfl, rfl, rfl, rfl, rfl, trivial⟩, by first | exact cs _ _ | exact CSub.refl _, ?_⟩
    refine ⟨⟨⟨by omega, by omega⟩, fun i h1 h2 => ?_⟩, by omega⟩
    by_cases he : (i : Int) = k
    ·have : i = k.toNat := by omega
     rw [this]; exact h13.2
    ·exact hkz i h1 (by omega)
   ·try simp only [zbA] at h13
    refine tE ?_
    refine tS ?_
    refine tS ?_
    refine tR fun _ _ _ => ?_
    iterate 3 refine pV ?_
    refine tC rfl (fun h15 => ?_) (fun h15 => ?_)
    ·try simp only [zbA] at h15
     refine tE ?_
     refine tR fun _ _ _ => ?_
     refine pV ?_
     refine sV (rAdd rfl rfl rfl (by omega) (by omega)) ?_
     refine pV ?_
     refine ⟨cc + 1, a, rs, ⟨rfl, rfl, rfl, rfl, rfl, rfl, trivial⟩, by first | exact cs _ _ | exact CSub.refl _, ?_⟩
     refine ⟨⟨⟨by omega, by omega⟩, ⟨ha0, by omega⟩, ⟨hrl, hgd⟩, ?_⟩, by omega⟩
     rw [show (cc + 1).toNat = cc.toNat + 1 by omega]
     exact hW.skip fun i h1 h2 => by rw [vsR_at, hkz i (by omega) (by omega), el_zero]
    ·try simp only [zbA] at h15
     refine tK ?_
     refine tS ?_
     have hne : (rs.getD k.toNat rowD).xs.getD cc.toNat 0 ≠ 0 := h13.resolve_left (fun h => h (by omega))
     haveI : InB k.toNat rs.length := ⟨by omega⟩
     haveI : InB a.toNat rs.length := ⟨by omega⟩
     refine tR fun _ _ _ => ?_
     iterate 2 refine pV ?_
     refine sV (rIdxR rfl rfl rfl (by omega) (by omega) (by omega)) ?_
     refine sV (rLdR rfl rfl (by omega)) ?_
     refine pV ?_
     refine tS ?_
     refine tR fun _ _ _ => ?_
     iterate 4 refine pV ?_
     refine sV (rIdxR rfl rfl rfl (by omega) (by omega) (by omega)) ?_
     refine sV (rLdR rfl rfl (by omega)) ?_
     refine sV (rIdxR rfl rfl rfl (by omega) (by omega) (by omega)) ?_
     refine eV (eSt rfl rfl rfl rfl (by first | omega | (simp; omega)) rfl rfl ?_)
     refine tS ?_
     have hgk : ((hdrs rs).set k.toNat (.slice (rs.getD a.toNat rowD).A (rs.getD a.toNat rowD).xs.length (rs.getD a.toNat rowD).cap)) = hdrs (rs.set k.toNat (rs.getD a.toNat rowD)) := by rw [hdrs_set]; rfl
     rw [hgk]
     have hrsl : (rs.set k.toNat (rs.getD a.toNat rowD)).length = N := by rw [List.length_set]; exact hrl
     refine tR fun _ _ _ => ?_
     iterate 3 refine pV ?_
     refine sV (rIdxR rfl rfl rfl (by omega) (by omega) (by omega)) ?_
     refine eV (eSt rfl rfl rfl rfl (by first | omega | (simp; omega)) rfl rfl ?_)
     have hh : (hdrs (rs.set k.toNat (rs.getD a.toNat rowD))).set a.toNat (.slice (rs.getD k.toNat rowD).A (rs.getD k.toNat rowD).xs.length (rs.getD k.toNat rowD).cap) = hdrs ((rs.set k.toNat (rs.getD a.toNat rowD)).set a.toNat (rs.getD k.toNat rowD)) := (hdrs_set _ _ _).symm
     rw [hh]
     refine tr_chunks _ ((cs _ [rowsCh 3 rs, ow A2 22 N (hdrs ((rs.set k.toNat (rs.getD a.toNat rowD)).set a.toNat (rs.getD k.toNat rowD))), blk p0 24 [.int .i64 p, .int .i64 m, .slice A mod.length c], ro A (ints mod), ro X (hdrs rs0), rowsR rs0]).trans (rows_perm (swap_perm rowD rs (i := k.toNat) (j := a.toNat) (by omega) (by omega)) _)) ?_
     have hrl3 : ((rs.set k.toNat (rs.getD a.toNat rowD)).set a.toNat (rs.getD k.toNat rowD)).length = N := by simpa using hrl
     have hgd3 := hgd.perm (swap_perm rowD rs (i := k.toNat) (j := a.toNat) (by omega) (by omega))
     have hW3 : Fwd f N (vsR ((rs.set k.toNat (rs.getD a.toNat rowD)).set a.toNat (rs.getD k.toNat rowD))) cc.toNat a.toNat := by
      have := hW.swap (k := k.toNat) (by omega) (by omega)
      rw [vsR_get, vsR_get] at this
      rw [vsR_set, vsR_set]
      by_cases e : k.toNat = a.toNat
      ·rw [e] at this ⊢; exact this
      ·rw [List.set_comm _ _ e]; exact this
     have hne3 : (((rs.set k.toNat (rs.getD a.toNat rowD)).set a.toNat (rs.getD k.toNat rowD)).getD a.toNat rowD).xs.getD cc.toNat 0 ≠ 0 := by
      rw [row_set, if_pos ⟨rfl, by simp; omega⟩]; exact hne
     generalize (rs.set k.toNat (rs.getD a.toNat rowD)).set a.toNat (rs.getD k.toNat rowD) = r3 at hrl3 hgd3 hW3 hne3
     refine tS ?_
     refine tS ?_
     refine tR fun _ _ _ => ?_
     refine pV ?_
     refine sV (rAdd rfl rfl rfl (by omega) (by omega)) ?_
     refine pV ?_
     refine tB ?_
     refine tr_loop2 (fun (i : Int) (r5 : List RowM) => [(5, .int .i64 (N : Int)), (6, .slice A2 N N), (8, .int .i64 a), (9, .int .i64 cc), (12, .int .i64 i), (2, .pointer (some p0)), (4, .slice none 0 0), (10, .int .i64 k), (45, .int .i64 cc), (46, .int .i64 (N : Int)), (50, .int .i64 a), (51, .int .i64 k), (52, .int .i64 (N : Int)), (66, .int .i64 k), (67, .int .i64 (N : Int)), (69, .slice A2 N N), (70, .int .i64 k), (73, .slice A2 N N), (74, .int .i64 k), (75, .slice A2 N N), (76, .int .i64 a), (80, .slice A2 N N), (81, .int .i64 a), (84, .int .i64 a)]) (fun (i : Int) (r5 : List RowM) => [ow A2 22 N (hdrs r5), rowsCh 3 r5, blk p0 24 [.int .i64 p, .int .i64 m, .slice A mod.length c], ro A (ints mod), ro X (hdrs rs0), rowsR rs0]) (fun (i : Int) (r5 : List RowM) => (a + 1 ≤ i ∧ i ≤ N) ∧ (r5.length = N ∧ Gd (pw p m) (2 * N) r5) ∧ Fwd f N (vsR r5) cc.toNat a.toNat ∧ (r5.getD a.toNat rowD).xs.getD cc.toNat 0 ≠ 0 ∧ ∀ t : Nat, a < (t : Int) → (t : Int) < i → (r5.getD t rowD).xs.getD cc.toNat 0 = 0) (fun (i : Int) (r5 : List RowM) => (N - i).toNat) (a + 1) (r3) ⟨rfl, rfl, rfl, rfl, rfl, rfl, rfl, rfl, rfl, rfl, rfl, rfl, rfl, rfl, rfl, rfl, rfl, rfl, rfl, rfl, rfl, rfl, rfl, rfl, trivial⟩ (by first | exact cs _ _ | exact CSub.refl _) (⟨⟨by omega, by omega⟩, ⟨hrl3, hgd3⟩, hW3, hne3, fun t h1 h2 => by omega⟩) (fun i r5 hI => ?_)
     obtain ⟨⟨hi0, hi1⟩, ⟨hrl5, hgd5⟩, hW5, hne5, hz5⟩ := hI
     refine tS ?_
     refine tS ?_
     refine tR fun _ _ _ => ?_
     iterate 3 refine pV ?_
     refine tC rfl (fun h20 => ?_) (fun h20 => ?_)
     ·try simp only [zbA] at h20
      refine tK ?_
      refine tS ?_
      refine tB ?_
      refine tS ?_
      haveI : InB i.toNat r5.length := ⟨by omega⟩
      haveI : InB a.toNat r5.length := ⟨by omega⟩
      have hwi := hgd5.get (show i.toNat < r5.length by omega)
      have hwa := hgd5.get (show a.toNat < r5.length by omega)
      have hwi1 := hwi.1
      have hwa1 := hwa.1
      have hena := hwa.2.get (by omega) cc.toNat
      have hnz5 : (el ((r5.getD a.toNat rowD).xs.getD cc.toNat 0) : El p m mod) ≠ 0 := fun e => hne5 ((el_eq_zero hena).1 e)
      refine tr_draw [0, 1, 2, 3, 4, 5, 6, 7, 8, 9, 10, 11, 12, 13, 14, 15, 16, 17, 18] [] mixed (by kernel_rfl) fun _ _ _ => ?_
      refine sV (rLdS rfl rfl rfl) ?_
      iterate 2 refine pV ?_
      refine sV (rIdxR rfl rfl rfl (by omega) (by omega) (by omega)) ?_
      refine sV (rLdR rfl rfl (by omega)) ?_
      refine pV ?_
      refine sV (rIdxI rfl rfl rfl (by omega) (by omega) (by omega)) ?_
      refine sV (rLdI rfl rfl (by omega)) ?_
      refine sV (rLdS rfl rfl rfl) ?_
      iterate 2 refine pV ?_
      refine sV (rIdxR rfl rfl rfl (by omega) (by omega) (by omega)) ?_
      refine sV (rLdR rfl rfl (by omega)) ?_
      refine pV ?_
      refine sV (rIdxI rfl rfl rfl (by omega) (by omega) (by omega)) ?_
      refine sV (rLdI rfl rfl (by omega)) ?_
      refine eV (eCallV rfl rfl rfl (ref_InvE p m A c mod _) ⟨rfl, rfl, trivial⟩ ?_)
      refine eV (eCallV rfl rfl rfl (ref_MulE p m A c mod _ _) ⟨rfl, rfl, rfl, trivial⟩ ?_)
      refine pV ?_
      rw [el_of]
      refine tS ?_
      refine tR fun _ _ _ => ?_
      refine pV ?_
      refine tr_chunks _ (((cs _ [rowsCh 3 r5, ow A2 22 N (hdrs r5), blk p0 24 [.int .i64 p, .int .i64 m, .slice A mod.length c], ro A (ints mod), ro X (hdrs rs0), rowsR rs0]).trans (rows_out (show i.toNat < r5.length by omega) _) : CSub _ [ow (r5.getD i.toNat rowD).A 3 (r5.getD i.toNat rowD).cap (ints (r5.getD i.toNat rowD).xs), rowsCh 3 (r5.eraseIdx i.toNat), ow A2 22 N (hdrs r5), blk p0 24 [.int .i64 p, .int .i64 m, .slice A mod.length c], ro A (ints mod), ro X (hdrs rs0), rowsR rs0])) ?_
      haveI : RowIn (r5.getD a.toNat rowD) (r5.eraseIdx i.toNat) := ⟨mem_erase (by omega) (by omega)⟩
      refine tB ?_
      refine tr_loop2 (fun (j : Int) (x : List Int) => [(5, .int .i64 (N : Int)), (6, .slice A2 N N), (8, .int .i64 a), (9, .int .i64 cc), (12, .int .i64 i), (13, .int .i64 (el ((r5.getD i.toNat rowD).xs.getD cc.toNat 0) * Fd.inv (el ((r5.getD a.toNat rowD).xs.getD cc.toNat 0)) : El p m mod).1), (14, .int .i64 j), (2, .pointer (some p0)), (4, .slice none 0 0), (10, .int .i64 k), (45, .int .i64 cc), (46, .int .i64 (N : Int)), (50, .int .i64 a), (51, .int .i64 k), (52, .int .i64 (N : Int)), (66, .int .i64 k), (67, .int .i64 (N : Int)), (69, .slice A2 N N), (70, .int .i64 k), (73, .slice A2 N N), (74, .int .i64 k), (75, .slice A2 N N), (76, .int .i64 a), (80, .slice A2 N N), (81, .int .i64 a), (84, .int .i64 a), (86, .int .i64 i), (87, .int .i64 (N : Int)), (91, .agg #[.int .i64 p, .int .i64 m, .slice A mod.length c]), (92, .slice A2 N N), (93, .int .i64 i), (96, .int .i64 cc), (99, .agg #[.int .i64 p, .int .i64 m, .slice A mod.length c]), (100, .slice A2 N N), (101, .int .i64 a), (104, .int .i64 cc)]) (fun (j : Int) (x : List Int) => [ow (r5.getD i.toNat rowD).A 3 (r5.getD i.toNat rowD).cap (ints x), rowsCh 3 (r5.eraseIdx i.toNat), ow A2 22 N (hdrs r5), blk p0 24 [.int .i64 p, .int .i64 m, .slice A mod.length c], ro A (ints mod), ro X (hdrs rs0), rowsR rs0]) (fun (j : Int) (x : List Int) => (0 ≤ j ∧ j ≤ 2 * N) ∧ x.length = 2 * N ∧ ∀ t : Nat, t < 2 * N → x.getD t 0 = if (t : Int) < j then (el ((r5.getD i.toNat rowD).xs.getD t 0) - (el ((r5.getD i.toNat rowD).xs.getD cc.toNat 0) * Fd.inv (el ((r5.getD a.toNat rowD).xs.getD cc.toNat 0)) : El p m mod) * el ((r5.getD a.toNat rowD).xs.getD t 0) : El p m mod).1 else (r5.getD i.toNat rowD).xs.getD t 0) (fun (j : Int) (x : List Int) => (2 * N - j).toNat) (0) ((r5.getD i.toNat rowD).xs) ⟨rfl, rfl, rfl, rfl, rfl, rfl, rfl, rfl, rfl, rfl, rfl, rfl, rfl, rfl, rfl, rfl, rfl, rfl, rfl, rfl, rfl, rfl, rfl, rfl, rfl, rfl, rfl, rfl, rfl, rfl, rfl, rfl, rfl, rfl, rfl, rfl, trivial⟩ (by first | exact cs _ _ | exact CSub.refl _) (⟨⟨by omega, by omega⟩, hwi.1, fun t ht => by rw [if_neg (by omega)]⟩) (fun j x hI => ?_)
      obtain ⟨⟨hj0, hj1⟩, hxl2, hx⟩ := hI
      refine tS ?_
      refine tS ?_
      refine tR fun _ _ _ => ?_
      iterate 2 refine pV ?_
      refine sV (rMul rfl rfl rfl (by omega) (by omega)) ?_
      refine pV ?_
      refine tC rfl (fun h24 => ?_) (fun h24 => ?_)
      ·try simp only [zbA] at h24
       refine tK ?_
       refine tS ?_
       refine tB ?_
       refine tr_draw [0, 1, 2, 3, 4, 5, 6, 7, 8, 9, 10, 11, 12, 13, 14, 15, 16, 17, 18, 19, 20, 21, 22, 23, 24] [25] mixed (by kernel_rfl) fun _ _ _ => ?_
       iterate 2 refine pV ?_
       refine sV (rIdxR rfl rfl rfl (by omega) (by omega) (by omega)) ?_
       refine sV (rLdR rfl rfl (by omega)) ?_
       refine pV ?_
       refine sV (rLdS rfl rfl rfl) ?_
       iterate 2 refine pV ?_
       refine sV (rIdxR rfl rfl rfl (by omega) (by omega) (by omega)) ?_
       refine sV (rLdR rfl rfl (by omega)) ?_
       refine pV ?_
       refine sV (rIdxI rfl rfl rfl (by omega) (by omega) (by omega)) ?_
       refine sV (rLdI rfl rfl (by omega)) ?_
       refine sV (rLdS rfl rfl rfl) ?_
       iterate 3 refine pV ?_
       refine sV (rIdxR rfl rfl rfl (by omega) (by omega) (by omega)) ?_
       refine sV (rLdR rfl rfl (by omega)) ?_
       refine pV ?_
       refine sV (rIdxI rfl rfl rfl (by omega) (by omega) (by omega)) ?_
       refine sV (rLdI rfl rfl (by omega)) ?_
       refine eV (eCallV rfl rfl rfl (ref_MulE p m A c mod _ _) ⟨rfl, rfl, rfl, trivial⟩ ?_)
       refine eV (eCallV rfl rfl rfl (ref_SubE p m A c mod _ _) ⟨rfl, rfl, rfl, trivial⟩ ?_)
       refine sV (rIdxI rfl rfl rfl (by omega) (by omega) (by omega)) ?_
       refine eV (eStI rfl rfl rfl rfl (by omega) ?_)
       refine tR fun _ _ _ => ?_
       refine pV ?_
       refine sV (rAdd rfl rfl rfl (by omega) (by omega)) ?_
       refine pV ?_
       refine ⟨j + 1, x.set j.toNat (el (x.getD j.toNat 0) - el (el ((el ((r5.getD i.toNat rowD).xs.getD cc.toNat 0) * Fd.inv (el ((r5.getD a.toNat rowD).xs.getD cc.toNat 0)) : El p m mod)).1 * el ((r5.getD a.toNat rowD).xs.getD j.toNat 0) : El p m mod).1 : El p m mod).1, ⟨rfl, rfl, rfl, rfl, rfl, rfl, rfl, rfl, rfl, rfl, rfl, rfl, rfl, rfl, rfl, rfl, rfl, rfl, rfl, rfl, rfl, rfl, rfl, rfl, rfl, rfl, rfl, rfl, rfl, rfl, rfl, rfl, rfl, rfl, rfl, rfl, trivial⟩, by first | exact cs _ _ | exact CSub.refl _, ?_⟩
       refine ⟨⟨⟨by omega, by omega⟩, by simpa using hxl2, fun t ht => ?_⟩, by omega⟩
       rw [getD_set]
       by_cases he : j.toNat = t
       ·subst he
        rw [if_pos ⟨rfl, by omega⟩, if_pos (by omega), hx _ (by omega), if_neg (by omega), el_of, el_of]
       ·rw [if_neg (fun e => he e.1), hx t ht]
        by_cases hct : (t : Int) < j
        ·rw [if_pos hct, if_pos (by omega)]
        ·rw [if_neg hct, if_neg (by omega)]
      ·try simp only [zbA] at h24
       have hset : hdrs (r5.set i.toNat (⟨(r5.getD i.toNat rowD).A, (r5.getD i.toNat rowD).cap, x⟩ : RowM)) = hdrs r5 := by
        have e1 : RowM.hdr (⟨(r5.getD i.toNat rowD).A, (r5.getD i.toNat rowD).cap, x⟩ : RowM) = RowM.hdr (r5.getD i.toNat rowD) := by simp only [RowM.hdr]; rw [hxl2, hwi1]
        rw [hdrs_set, e1, ← hdrs_set]
        congr 1
        rw [List.getD_eq_getElem?_getD, List.getElem?_eq_getElem (show i.toNat < r5.length by omega)]
        exact List.set_getElem_self _
       refine tE ?_
       refine tR fun _ _ _ => ?_
       refine pV ?_
       refine sV (rAdd rfl rfl rfl (by omega) (by omega)) ?_
       refine pV ?_
       refine ⟨i + 1, r5.set i.toNat (⟨(r5.getD i.toNat rowD).A, (r5.getD i.toNat rowD).cap, x⟩ : RowM), ⟨rfl, rfl, rfl, rfl, rfl, rfl, rfl, rfl, rfl, rfl, rfl, rfl, rfl, rfl, rfl, rfl, rfl, rfl, rfl, rfl, rfl, rfl, rfl, rfl, trivial⟩, by rw [show hdrs (r5.set i.toNat (⟨(r5.getD i.toNat rowD).A, (r5.getD i.toNat rowD).cap, x⟩ : RowM)) = hdrs r5 from hset]; exact (cs _ [ow (r5.getD i.toNat rowD).A 3 (r5.getD i.toNat rowD).cap (ints x), rowsCh 3 (r5.eraseIdx i.toNat), ow A2 22 N (hdrs r5), blk p0 24 [.int .i64 p, .int .i64 m, .slice A mod.length c], ro A (ints mod), ro X (hdrs rs0), rowsR rs0]).trans ((rows_in (r := (⟨(r5.getD i.toNat rowD).A, (r5.getD i.toNat rowD).cap, x⟩ : RowM)) (show i.toNat < r5.length by omega) _).trans (cs _ _)), ?_⟩
       have hxe : x = addR (-(el ((r5.getD i.toNat rowD).xs.getD cc.toNat 0) * Fd.inv (el ((r5.getD a.toNat rowD).xs.getD cc.toNat 0)) : El p m mod)) (r5.getD i.toNat rowD).xs (r5.getD a.toNat rowD).xs := row_part (c := 0) (by omega) (by omega) hwi.2 (fun t ht => by rw [hx t (by omega), if_pos (by omega), if_pos (by omega)]) (fun t ht => absurd ht (by omega))
       refine ⟨⟨⟨by omega, by omega⟩, ⟨by simpa using hrl5, hgd5.set _ hxl2 ?_⟩, ?_, ?_, fun t h1 h2 => ?_⟩, by omega⟩
       ·rw [hxe]; exact addR_in _ _ _
       ·have := hW5.plus (i := i.toNat) (by omega) (by omega) (-(el ((r5.getD i.toNat rowD).xs.getD cc.toNat 0) * Fd.inv (el ((r5.getD a.toNat rowD).xs.getD cc.toNat 0)) : El p m mod))
        rw [vsR_get, vsR_get] at this
        rw [vsR_set, hxe, rw_addR _ _ _ (by omega)]; exact this
       ·rw [row_set, if_neg (by omega)]; exact hne5
       ·rw [row_set]
        split
        ·rename_i he
         obtain ⟨rfl, he⟩ := he
         show x.getD cc.toNat 0 = 0
         rw [hxe, addR_get _ _ _ (by omega)]
         refine congrArg Subtype.val (show (_ : El p m mod) = 0 from ?_)
         have := Fd.inv_mul _ hnz5
         grind
        ·exact hz5 t h1 (by omega)
     ·try simp only [zbA] at h20
      refine tE ?_
      refine tR fun _ _ _ => ?_
      refine pV ?_
      refine sV (rAdd rfl rfl rfl (by omega) (by omega)) ?_
      refine pV ?_
      refine tR fun _ _ _ => ?_
      refine pV ?_
      refine sV (rAdd rfl rfl rfl (by omega) (by omega)) ?_
      refine pV ?_
      refine ⟨cc + 1, a + 1, r5, ⟨rfl, rfl, rfl, rfl, rfl, rfl, trivial⟩, by first | exact cs _ _ | exact CSub.refl _, ?_⟩
      refine ⟨⟨⟨by omega, by omega⟩, ⟨by omega, by omega⟩, ⟨hrl5, hgd5⟩, ?_⟩, by omega⟩
      rw [show (cc + 1).toNat = cc.toNat + 1 by omega, show (a + 1).toNat = a.toNat + 1 by omega]
      have hena := (hgd5.get (show a.toNat < r5.length by omega)).2.get (by omega) cc.toNat
      refine hW5.push (by omega) (by omega) ?_ (fun i h1 h2 => ?_)
      ·rw [vsR_at]; exact fun e => hne5 ((el_eq_zero hena).1 e)
      ·rw [vsR_at, hz5 i (by omega) (by omega), el_zero]
  ·try simp only [zbA] at h10
   refine tE ?_
   refine tS ?_
   refine tr_capR 3 rs fun hcap => ?_
   refine tR fun _ _ _ => ?_
   refine eV (eLit0R rfl rfl rfl (fun A28 => ?_))
   refine pV ?_
   refine tS ?_
   refine tS ?_
   refine tR fun _ _ _ => ?_
   iterate 2 refine pV ?_
   refine tB ?_
   refine tr_loop4 (fun (t : Int) (Bq : Option Addr) (cq : Nat) (os : List RowM) => [(5, .int .i64 (N : Int)), (6, .slice A2 N N), (16, .int .i64 t), (15, .slice Bq os.length cq), (4, .slice none 0 0)]) (fun (t : Int) (Bq : Option Addr) (cq : Nat) (os : List RowM) => [ow Bq 22 cq (hdrs os), ow A2 22 N (hdrs rs), rowsCh 3 rs]) (fun (t : Int) (Bq : Option Addr) (cq : Nat) (os : List RowM) => (a ≤ t ∧ t ≤ N) ∧ os = ((rs.drop a.toNat).take (t.toNat - a.toNat)).map (cutR N)) (fun (t : Int) (Bq : Option Addr) (cq : Nat) (os : List RowM) => (N - t).toNat) (a) (A28) (0) ([]) ⟨rfl, rfl, rfl, rfl, rfl, trivial⟩ (by first | exact cs _ _ | exact CSub.refl _) (⟨⟨by omega, by omega⟩, by rw [Nat.sub_self]; rfl⟩) (fun t Bq cq os hI => ?_)
   obtain ⟨⟨ht0, ht1⟩, hos⟩ := hI
   have hol := congrArg List.length hos
   simp only [List.length_map, List.length_take, List.length_drop] at hol
   refine tS ?_
   refine tS ?_
   refine tR fun _ _ _ => ?_
   iterate 3 refine pV ?_
   refine tC rfl (fun h30 => ?_) (fun h30 => ?_)
   ·try simp only [zbA] at h30
    refine tK ?_
    refine tS ?_
    refine tB ?_
    haveI : InB t.toNat rs.length := ⟨by omega⟩
    have hmt := getD_mem (show t.toNat < rs.length by omega) rowD
    have hct := hcap _ hmt
    have hgt := (hgd _ hmt).1
    refine tR fun _ _ _ => ?_
    iterate 3 refine pV ?_
    refine sV (rIdxR rfl rfl rfl (by omega) (by omega) (by omega)) ?_
    refine sV (rLdR rfl rfl (by omega)) ?_
    refine pV ?_
    refine sV (rCut rfl rfl rfl (by omega) (by omega) (by omega)) ?_
    simp only [Int.toNat_natCast]
    refine eV (eLit1 rfl rfl rfl rfl rfl (fun A32 => ?_))
    refine eV (eAppR (xs := (rs.getD t.toNat rowD).xs.drop N) rfl rfl rfl rfl rfl (hr := by rw [List.length_drop]; infer_instance) (by first | rfl | simp | omega) (by omega) (fun A32a c32a => ?_))
    refine pV ?_
    rw [show (⟨cutA (rs.getD t.toNat rowD).A N (rs.getD t.toNat rowD).cap, (rs.getD t.toNat rowD).cap - N, List.drop N (rs.getD t.toNat rowD).xs⟩ : RowM) = cutR N (rs.getD t.toNat rowD) from rfl]
    refine tR fun _ _ _ => ?_
    refine pV ?_
    refine sV (rAdd rfl rfl rfl (by omega) (by omega)) ?_
    refine pV ?_
    refine ⟨t + 1, A32a, c32a, os ++ [cutR N (rs.getD t.toNat rowD)], ⟨rfl, rfl, rfl, rfl, rfl, trivial⟩, by first | exact cs _ _ | exact CSub.refl _, ?_⟩
    refine ⟨⟨⟨by omega, by omega⟩, ?_⟩, by omega⟩
    rw [show (t + 1).toNat - a.toNat = t.toNat - a.toNat + 1 by omega, take_getD (by rw [List.length_drop]; omega) rowD, List.map_append, ← hos]
    rw [drop_getDR, show a.toNat + (t.toNat - a.toNat) = t.toNat by omega]
    rfl
   ·try simp only [zbA] at h30
    refine tE ?_
    refine tS ?_
    refine tR fun _ _ _ => ?_
    iterate 2 refine pV ?_
    have hB := hW.done hN hst (by omega) (by omega)
    have htN : t.toNat - a.toNat = N - a.toNat := by omega
    rw [htN, List.take_of_length_le (by rw [List.length_drop]; omega)] at hos
    have hmem : ∀ q ∈ os, ∃ r ∈ rs, q = cutR N r := fun q hq => by
     rw [hos] at hq
     obtain ⟨r, hr, e⟩ := List.mem_map.1 hq
     exact ⟨r, List.mem_of_mem_drop hr, e.symm⟩
    have hpr : PolR os (((vsR rs : List (Vc (El p m mod))).drop a.toNat).map (rpV N)) := by
     refine ⟨by rw [hos]; simp, fun i hi => ?_⟩
     have hi2 : i < (rs.drop a.toNat).length := by rw [hos] at hi; simpa using hi
     have e1 : os.getD i rowD = cutR N ((rs.drop a.toNat).getD i rowD) := by
      rw [hos, List.getD_eq_getElem?_getD, List.getElem?_map, List.getD_eq_getElem?_getD, List.getElem?_eq_getElem hi2]; rfl
     have hgl := (hgd _ (List.mem_of_mem_drop (getD_mem hi2 rowD))).1
     rw [e1]
     refine ⟨?_, by show (List.drop N _).length ≤ 256; rw [List.length_drop]; omega⟩
     show pol (List.drop N _) = _
     rw [pol_drop hgl, xss_drop_rp (f := f), map_getD _ hi2 rowD]
    exact tr_ret ⟨trivial, _, _, rfl, ⟨_, _, rfl, Bq, cq, os, _, rfl, rfl, rfl, hpr, hB, by omega⟩, (cs _ [rowsCh 3 rs, ow Bq 22 cq (hdrs os)]).trans ((rowsX_cut N hcap hmem _).trans (cs _ _)), trivial, trivial, trivial⟩
end Go.Proofs.Ytbhoeaijpnjgdaa

set_option maxRecDepth 100000
set_option maxHeartbeats 1000000
namespace Go.Proofs.Ytbhoeaijpnjgdaa
open Go.RowKit
section
variable {p m : Int} {mod : List Int} [hF : IsF p m mod]
open Po Vc
theorem rowL_mk {f : Po (El p m mod)} (hf : f ≠ 0) {n j : Nat} (hl : len f = n + 1) (hj : j < n) {x : List Int} (h1 : x.length = n) (h2 : ∀ t, t < n → x.getD t 0 = (cf (xk f (j * (pw p m).toNat)) t).1) : RowL f n j (x.set j (el (x.getD j 0) - el 1 : El p m mod).1) := by
 have hq := hF.q2
 have hg : AllIn (pw p m) x := fun y hy => by
  obtain ⟨t, ht, rfl⟩ := List.getElem_of_mem hy
  have := h2 t (by omega)
  rw [List.getD_eq_getElem?_getD, List.getElem?_eq_getElem ht] at this
  have e : x[t] = (cf (xk f (j * (pw p m).toNat)) t : El p m mod).1 := this
  rw [e]; exact El.bd _
 refine ⟨by simpa using h1, hg.set (El.bd _) _, fun t ht => ?_⟩
 rw [getD_set]
 by_cases e : j = t
 ·rw [if_pos ⟨e, by omega⟩, el_of, if_pos e.symm, el_one, h2 j hj, el_of, e]
 ·rw [if_neg (fun x => e x.1), h2 t ht, el_of, if_neg (fun x => e x.symm), Rg.sub_zero]
end
theorem ref_fixed6_ent : Enters Try.prog 115 := enters_of Try.func115 (by kernel_rfl) (by kernel_rfl)
theorem ref_fixed6 (p m : Int) (A : Option Addr) (c : Nat) (mod : List Int) [hF : IsF p m mod] (X : Option Addr) (cx N : Nat) (f : Po (El p m mod)) (hN : Po.len f = N + 1) (hN1 : 1 ≤ N) (hl : Po.lead f = 1) (h9 : Po.len f ≤ 257) :
  Pure Try.prog 115 #[.agg #[.int .i64 p, .int .i64 m, .slice A mod.length c], .slice X (il f).length cx] [ro A (ints mod), ro X (ints (il f))] (two (fun v ca cb => ∃ B cap os, ∃ bs : List (Po (El p m mod)), v = .slice B os.length cap ∧ ca = ow B 22 cap (hdrs os) ∧ cb = rowsX os ∧ PolR os bs ∧ Bss f bs ∧ os.length ≤ 256)) := by
 have hq2 := hF.q2
 have hq9 := hF.out.1.1.q
 have hord := hF.ord
 have hf0 : f ≠ 0 := lead1_ne hl
 have hilf := il_length f
 have hfe : facE (Po.len (pol (il f) : Po (El p m mod))) = 0 := by rw [pol_il, facE, if_neg (by omega), if_neg (by omega)]
 have hxl : ∀ k, (il (xk f (k))).length ≤ N := fun k => by
  rw [il_length]
  have := Po.rem_len (Po.mn 1 k : Po (El p m mod)) hf0
  unfold xk; omega
 have h10 : ([1] : List Int) = il (xk f (Int.toNat 0 * (pw p m).toNat)) := by
  rw [show Int.toNat 0 * (pw p m).toNat = 0 by simp, xk_zero (by omega), il_one]
 have hx1 : Po.rem (Rg.pow (pol [0, 1] : Po (El p m mod)) (pw p m).toNat) (pol (il f)) = (xk f ((pw p m).toNat)) := by
  rw [pol_X01, pol_il]
  show Po.rem (Rg.pow (Po.mn 1 1) _) f = _
  rw [pow_mn, Nat.one_mul]; rfl
 refine pure_of (args := [.agg #[.int .i64 p, .int .i64 m, .slice A mod.length c], .slice X (il f).length cx]) 73 Try.func115 rfl rfl rfl ref_fixed6_ent ⟨id, id, trivial⟩ (fun w0 => ?_)
 refine tS ?_
 refine tR fun _ _ _ => ?_
 refine eV (eBox rfl rfl rfl rfl rfl (fun p0 => ?_))
 refine pV ?_
 refine tS ?_
 refine tR fun _ _ _ => ?_
 refine pV ?_
 refine sV (rLen rfl rfl) ?_
 refine sV (rSub rfl rfl rfl (by omega) (by omega)) ?_
 refine pV ?_
 rw [show ((il f).length : Int) - 1 = (N : Int) by omega]
 refine tS ?_
 refine tR fun _ _ _ => ?_
 refine pV ?_
 refine eV (eMake rfl rfl rfl rfl rfl (by omega) (by omega) (by omega) (fun A2 => ?_))
 refine pV ?_
 rw [Int.toNat_natCast, hdrs_rep]
 refine tr_mid (fun (q : (Option Addr) × (Option Addr) × Nat) => match q with | (A3, B3, b3) => [(1, .slice X (il f).length cx), (2, .pointer (some p0)), (5, .int .i64 (N : Int)), (6, .slice A2 N N), (7, .slice B3 (il (xk f ((pw p m).toNat))).length b3)]) (fun (q : (Option Addr) × (Option Addr) × Nat) => match q with | (A3, B3, b3) => [ow A2 22 N (hdrs (List.replicate N rowD)), ow B3 3 b3 (ints (il (xk f ((pw p m).toNat)))), blk p0 24 [.int .i64 p, .int .i64 m, .slice A mod.length c], ro A (ints mod), ro X (ints (il f))]) ?_ ?_
 ·refine tr_tree (.one 0 (.one 2 (.one 4 (.two 1 (.one 3 (.one 5 (.one 6 .nil))) 3 (.one 1 (.one 5 (.one 6 .nil))))))) [] mixed (by kernel_rfl) fun _ _ _ => ?_
  refine sV (rLdS rfl rfl rfl) ?_
  refine sV (rLdS rfl rfl rfl) ?_
  refine pV ?_
  refine ⟨?_, ?_⟩
  ·refine eV (eLit2I rfl rfl rfl rfl rfl (fun A3 => ?_))
   refine eV (eCallV rfl rfl rfl (ref_order p m A c mod) ⟨rfl, trivial⟩ ?_)
   rw [hord]
   refine eV (eCall1 rfl rfl rfl (ref_PPowMod p m A c mod A3 _ 2 [0, 1] rfl (by simp) (pw p m) (by omega) (by omega) X _ cx (il f) rfl (by omega) hfe) ⟨rfl, rfl, rfl, rfl, trivial⟩ ?_)
   rintro _ _ ⟨B3, b3, rfl, rfl⟩
   refine pV ?_
   rw [hx1]
   exact ⟨rfl, (A3, B3, b3), ⟨rfl, rfl, rfl, rfl, rfl, trivial⟩, by first | exact cs _ _ | exact CSub.refl _⟩
  ·refine eV (eCallV rfl rfl rfl (ref_order p m A c mod) ⟨rfl, trivial⟩ ?_)
   refine eV (eLit2I rfl rfl rfl rfl rfl (fun A3 => ?_))
   rw [hord]
   refine eV (eCall1 rfl rfl rfl (ref_PPowMod p m A c mod A3 _ 2 [0, 1] rfl (by simp) (pw p m) (by omega) (by omega) X _ cx (il f) rfl (by omega) hfe) ⟨rfl, rfl, rfl, rfl, trivial⟩ ?_)
   rintro _ _ ⟨B3, b3, rfl, rfl⟩
   refine pV ?_
   rw [hx1]
   exact ⟨rfl, (A3, B3, b3), ⟨rfl, rfl, rfl, rfl, rfl, trivial⟩, by first | exact cs _ _ | exact CSub.refl _⟩
 ·rintro ⟨A3, B3, b3⟩
  refine tS ?_
  refine tR fun _ _ _ => ?_
  refine eV (eLit1I rfl rfl rfl rfl (fun A4 => ?_))
  refine pV ?_
  refine tS ?_
  refine tS ?_
  refine tR fun _ _ _ => ?_
  refine pV ?_
  refine tB ?_
  refine tr_loop5 (fun (i : Int) (rs : List RowM) (Bp : Option Addr) (cp : Nat) (l : List Int) => [(5, .int .i64 (N : Int)), (6, .slice A2 N N), (8, .slice Bp l.length cp), (9, .int .i64 i), (1, .slice X (il f).length cx), (2, .pointer (some p0)), (7, .slice B3 (il (xk f ((pw p m).toNat))).length b3)]) (fun (i : Int) (rs : List RowM) (Bp : Option Addr) (cp : Nat) (l : List Int) => [ow A2 22 N (hdrs rs), rowsCh 3 rs, ow Bp 3 cp (ints l), ow B3 3 b3 (ints (il (xk f ((pw p m).toNat)))), blk p0 24 [.int .i64 p, .int .i64 m, .slice A mod.length c], ro A (ints mod), ro X (ints (il f))]) (fun (i : Int) (rs : List RowM) (Bp : Option Addr) (cp : Nat) (l : List Int) => (0 ≤ i ∧ i ≤ N) ∧ l = il (xk f (i.toNat * (pw p m).toNat)) ∧ rs.length = N ∧ ∀ j, j < i.toNat → RowL f N j (rs.getD j rowD).xs) (fun (i : Int) (rs : List RowM) (Bp : Option Addr) (cp : Nat) (l : List Int) => (N - i).toNat) (0) (List.replicate N rowD) (A4) (1) ([1]) ⟨rfl, rfl, rfl, rfl, rfl, rfl, rfl, trivial⟩ (by exact (rows_rep 3 _ N).trans (cs _ _)) (⟨⟨by omega, by omega⟩, h10, by simp, fun j hj => absurd hj (by omega)⟩) (fun i rs Bp cp l hI => ?_)
  obtain ⟨⟨hi0, hi1⟩, rfl, hrl, hrs⟩ := hI
  refine tS ?_
  refine tS ?_
  refine tR fun _ _ _ => ?_
  iterate 3 refine pV ?_
  refine tC rfl (fun h6 => ?_) (fun h6 => ?_)
  ·try simp only [zbA] at h6
   refine tK ?_
   refine tS ?_
   refine tB ?_
   refine tS ?_
   refine tR fun _ _ _ => ?_
   iterate 3 refine pV ?_
   refine eV (eMakeI rfl rfl rfl rfl rfl (by omega) (by omega) (by omega) (fun A8 => ?_))
   simp only [Int.toNat_natCast]
   refine sV (rIdxR rfl rfl rfl (by omega) (by omega) (by omega)) ?_
   refine eV (eSt rfl rfl rfl rfl (by first | omega | (simp; omega)) rfl rfl ?_)
   have e5 : (hdrs rs).set i.toNat (.slice A8 N N) = hdrs (rs.set i.toNat ⟨A8, N, List.replicate N 0⟩) := by rw [hdrs_set]; simp [RowM.hdr]
   rw [e5]
   haveI : InB i.toNat (rs.set i.toNat ⟨A8, N, List.replicate N 0⟩).length := ⟨by rw [List.length_set]; omega⟩
   have hgt : (rs.set i.toNat ⟨A8, N, List.replicate N 0⟩).getD i.toNat rowD = ⟨A8, N, List.replicate N 0⟩ := by rw [row_set, if_pos ⟨rfl, by omega⟩]
   have hrsl : (rs.set i.toNat ⟨A8, N, List.replicate N 0⟩).length = N := by rw [List.length_set]; exact hrl
   have hrpl : (List.replicate N (0 : Int)).length = N := List.length_replicate
   refine tS ?_
   refine tS ?_
   refine tR fun _ _ _ => ?_
   refine pV ?_
   refine tB ?_
   refine tr_loop2 (fun (j : Int) (x : List Int) => [(5, .int .i64 (N : Int)), (6, .slice A2 N N), (9, .int .i64 i), (10, .int .i64 j), (8, .slice Bp (il (xk f (i.toNat * (pw p m).toNat))).length cp), (1, .slice X (il f).length cx), (2, .pointer (some p0)), (7, .slice B3 (il (xk f ((pw p m).toNat))).length b3), (23, .int .i64 i), (24, .int .i64 (N : Int)), (28, .slice A2 N N), (29, .int .i64 i), (30, .int .i64 (N : Int))]) (fun (j : Int) (x : List Int) => [ow A8 3 N (ints x), ow A2 22 N (hdrs (rs.set i.toNat ⟨A8, N, List.replicate N 0⟩)), rowsCh 3 rs, ow Bp 3 cp (ints (il (xk f (i.toNat * (pw p m).toNat)))), ow B3 3 b3 (ints (il (xk f ((pw p m).toNat)))), blk p0 24 [.int .i64 p, .int .i64 m, .slice A mod.length c], ro A (ints mod), ro X (ints (il f))]) (fun (j : Int) (x : List Int) => (0 ≤ j ∧ j ≤ N) ∧ x.length = N ∧ ∀ t : Nat, (t : Int) < j → x.getD t 0 = (Po.cf (xk f (i.toNat * (pw p m).toNat)) t).1) (fun (j : Int) (x : List Int) => (N - j).toNat) (0) (List.replicate N 0) ⟨rfl, rfl, rfl, rfl, rfl, rfl, rfl, rfl, rfl, rfl, rfl, rfl, rfl, trivial⟩ (by first | exact cs _ _ | exact CSub.refl _) (⟨⟨by omega, by omega⟩, by simp, fun t ht => by omega⟩) (fun j x hI => ?_)
   obtain ⟨⟨hj0, hj1⟩, hxl2, hx⟩ := hI
   refine tS ?_
   refine tS ?_
   refine tR fun _ _ _ => ?_
   iterate 3 refine pV ?_
   refine tC rfl (fun h10 => ?_) (fun h10 => ?_)
   ·try simp only [zbA] at h10
    refine tK ?_
    refine tS ?_
    refine tB ?_
    refine tr_draw [0, 1, 2, 3, 4, 5, 6, 7, 8, 9] [10] mixed (by kernel_rfl) fun _ _ _ => ?_
    iterate 2 refine pV ?_
    refine sV (rIdxR rfl rfl rfl (by omega) (by omega) (by omega)) ?_
    refine sV (rLdR rfl rfl (by omega)) ?_
    refine pV ?_
    refine sV (rLdS rfl rfl rfl) ?_
    iterate 2 refine pV ?_
    refine eV (eCallV rfl rfl rfl (ref_PAt p m A c mod Bp _ cp (il (xk f (i.toNat * (pw p m).toNat))) rfl (by have := hxl (i.toNat * (pw p m).toNat); omega) j (by omega)) ⟨rfl, rfl, rfl, trivial⟩ ?_)
    try rw [hgt]
    simp only
    refine sV (rIdxI rfl rfl rfl (by omega) (by omega) (by omega)) ?_
    refine eV (eStI rfl rfl rfl rfl (by omega) ?_)
    refine tR fun _ _ _ => ?_
    refine pV ?_
    refine sV (rAdd rfl rfl rfl (by omega) (by omega)) ?_
    refine pV ?_
    refine ⟨j + 1, x.set j.toNat (el ((il (xk f (i.toNat * (pw p m).toNat))).getD j.toNat 0) : El p m mod).1, ⟨rfl, rfl, rfl, rfl, rfl, rfl, rfl, rfl, rfl, rfl, rfl, rfl, rfl, trivial⟩, by first | exact cs _ _ | exact CSub.refl _, ?_⟩
    refine ⟨⟨⟨by omega, by omega⟩, by simpa using hxl2, fun t ht => ?_⟩, by omega⟩
    rw [getD_set]
    by_cases he : j.toNat = t
    ·rw [if_pos ⟨he, by omega⟩, il_getD, el_of, he]
    ·rw [if_neg (fun e => he e.1)]; exact hx t (by omega)
   ·try simp only [zbA] at h10
    refine tE ?_
    refine tS ?_
    refine tr_draw [0, 1, 2, 3, 4, 5, 6, 7, 8, 9, 10, 11, 12, 13, 14] [15] mixed (by kernel_rfl) fun _ _ _ => ?_
    iterate 2 refine pV ?_
    refine sV (rIdxR rfl rfl rfl (by omega) (by omega) (by omega)) ?_
    refine sV (rLdR rfl rfl (by omega)) ?_
    refine pV ?_
    refine sV (rLdS rfl rfl rfl) ?_
    iterate 2 refine pV ?_
    refine sV (rIdxR rfl rfl rfl (by omega) (by omega) (by omega)) ?_
    refine sV (rLdR rfl rfl (by omega)) ?_
    refine pV ?_
    try rw [hgt]
    simp only
    refine sV (rIdxI rfl rfl rfl (by omega) (by omega) (by omega)) ?_
    refine sV (rLdI rfl rfl (by omega)) ?_
    refine eV (eCallV rfl rfl rfl (ref_SubE p m A c mod _ _) ⟨rfl, rfl, rfl, trivial⟩ ?_)
    try rw [hgt]
    try simp only
    refine sV (rIdxI rfl rfl rfl (by omega) (by omega) (by omega)) ?_
    refine eV (eStI rfl rfl rfl rfl (by omega) ?_)
    have hR := rowL_mk hf0 hN (j := i.toNat) (by omega) hxl2 (fun t ht => hx t (by omega))
    obtain ⟨X1, hX1⟩ : ∃ X1, X1 = x.set i.toNat (el (x.getD i.toNat 0) - el 1 : El p m mod).1 := ⟨_, rfl⟩
    rw [← hX1] at hR ⊢
    have hset : hdrs (rs.set i.toNat ⟨A8, N, List.replicate N 0⟩) = hdrs (rs.set i.toNat ⟨A8, N, X1⟩) := by rw [hdrs_set, hdrs_set]; simp [RowM.hdr, hR.len]
    rw [hset]
    refine tr_draw [0, 1, 2, 3, 5, 4, 6, 7] [] mixed (by kernel_rfl) fun _ _ _ => ?_
    refine sV (rLdS rfl rfl rfl) ?_
    refine sV (rLdS rfl rfl rfl) ?_
    iterate 3 refine pV ?_
    refine eV (eCall1 rfl rfl rfl (ref_PMulL p m A c mod Bp _ cp (il (xk f (i.toNat * (pw p m).toNat))) rfl (by have := hxl (i.toNat * (pw p m).toNat); omega) B3 _ b3 (il (xk f ((pw p m).toNat))) rfl (by have := hxl (pw p m).toNat; omega) (by rw [pol_il]; have := hxl (pw p m).toNat; omega)) ⟨rfl, rfl, rfl, trivial⟩ ?_)
    rintro _ _ ⟨Bm, cm, rfl, rfl⟩
    have hpl := il_length (pol (il (xk f (i.toNat * (pw p m).toNat))) * pol (il (xk f ((pw p m).toNat))) : Po (El p m mod))
    have hpl2 := len_mul_le (pol (il (xk f (i.toNat * (pw p m).toNat)))) (pol (il (xk f ((pw p m).toNat))) : Po (El p m mod))
    have hpe := congrArg Po.len (pol_il (p := p) (m := m) (mod := mod) (xk f (i.toNat * (pw p m).toNat)))
    have hpf := congrArg Po.len (pol_il (p := p) (m := m) (mod := mod) (xk f ((pw p m).toNat)))
    have hpa := il_length (xk f (i.toNat * (pw p m).toNat))
    have hpb := il_length (xk f ((pw p m).toNat))
    have hpc := hxl (i.toNat * (pw p m).toNat)
    have hpd := hxl (pw p m).toNat
    refine eV (eCall1 rfl rfl rfl (ref_PRem p m A c mod Bm _ cm (il (pol (il (xk f (i.toNat * (pw p m).toNat))) * pol (il (xk f ((pw p m).toNat))))) rfl (by omega) X _ cx (il f) rfl (by omega) (by rw [pol_il]; omega) (by rw [pol_il]; exact hf0)) ⟨rfl, rfl, rfl, trivial⟩ ?_)
    rintro _ _ ⟨Bd, cd, rfl, rfl⟩
    refine pV ?_
    rw [pol_il, pol_il, pol_il, pol_il, xk_add hf0, show i.toNat * (pw p m).toNat + (pw p m).toNat = (i + 1).toNat * (pw p m).toNat by rw [show (i + 1).toNat = i.toNat + 1 by omega, Nat.succ_mul]]
    refine tR fun _ _ _ => ?_
    refine pV ?_
    refine sV (rAdd rfl rfl rfl (by omega) (by omega)) ?_
    refine pV ?_
    refine ⟨i + 1, rs.set i.toNat ⟨A8, N, X1⟩, Bd, cd, il (xk f ((i + 1).toNat * (pw p m).toNat)), ⟨rfl, rfl, rfl, rfl, rfl, rfl, rfl, trivial⟩, by exact (cs _ [rowsCh 3 rs, ow A8 3 N (ints X1), ow A2 22 N (hdrs (rs.set i.toNat ⟨A8, N, X1⟩)), ow Bd 3 cd (ints (il (xk f ((i + 1).toNat * (pw p m).toNat)))), ow B3 3 b3 (ints (il (xk f ((pw p m).toNat)))), blk p0 24 [.int .i64 p, .int .i64 m, .slice A mod.length c], ro A (ints mod), ro X (ints (il f))]).trans ((rows_put (r := ⟨A8, N, X1⟩) (show i.toNat < rs.length by omega) _).trans (cs _ _)), ?_⟩
    refine ⟨⟨⟨by omega, by omega⟩, rfl, by simpa using hrl, fun j hj => ?_⟩, by omega⟩
    rw [row_set]
    by_cases he : i.toNat = j
    ·rw [if_pos ⟨he, by omega⟩, ← he]; exact hR
    ·rw [if_neg (fun e => he e.1)]; exact hrs j (by omega)
  ·try simp only [zbA] at h6
   refine tE ?_
   refine tS ?_
   refine tR fun _ _ _ => ?_
   refine sV (rLdS rfl rfl rfl) ?_
   refine pV ?_
   refine eV (eCall2 rfl rfl rfl (ref_null6 p m A c mod A2 N N rs f hrl hN hN1 hl h9 (fun j hj => hrs j (by omega))) ⟨rfl, rfl, trivial⟩ ?_)
   rintro _ _ _ ⟨B15, c15, os, bs, rfl, rfl, rfl, hpr, hB, hol⟩
   refine pV ?_
   exact tr_ret ⟨trivial, _, _, rfl, ⟨_, _, rfl, B15, c15, os, bs, rfl, rfl, rfl, hpr, hB, hol⟩, cs _ _, trivial, trivial, trivial⟩
theorem al_own {A : Option Addr} {c : Nat} {l : List Int} {qs rs : List RowM} (h : Al A c l qs rs) (e : TypeId) (F : List Chunk) : CSub (rowsCh e qs :: ow A e c (ints l) :: F) (rowsCh e rs :: F) := by
 rcases h with rfl | ⟨rfl, rfl⟩
 ·exact CSub.cons _ (CSub.drop _ _)
 ·exact rows_snoc (rs := []) (r := ⟨A, c, l⟩) F
theorem polR_get {p m : Int} {mod : List Int} [hF : IsF p m mod] {os : List RowM} {bs : List (Po (El p m mod))} (h : PolR os bs) {i : Nat} (hi : i < os.length) : (pol (os.getD i rowD).xs : Po (El p m mod)) = bs.getD i 0 ∧ (os.getD i rowD).xs.length ≤ 256 := h.2 i hi
theorem ref_splitB_ent : Enters Try.prog 57 := enters_of Try.func57 (by kernel_rfl) (by kernel_rfl)
theorem ref_splitB (p m : Int) (A : Option Addr) (c : Nat) (mod : List Int) [hF : IsF p m mod] (X : Option Addr) (cx : Nat) (f : Po (El p m mod)) (hl : Po.lead f = 1) (hf2 : 2 ≤ Po.len f) (h9 : Po.len f ≤ 257) (hs : Po.Sf f) (ih : ∀ (X2 : Option Addr) (c2 : Nat) (h : Po (El p m mod)), Po.len h < Po.len f → Po.lead h = 1 → 2 ≤ Po.len h → Po.Sf h → Pure Try.prog 57 #[.agg #[.int .i64 p, .int .i64 m, .slice A mod.length c], .slice X2 (il h).length c2] [ro A (ints mod), ro X2 (ints (il h))] (two (fun v ca cb => ∃ B cap rs qs, ∃ ps : List (Po (El p m mod)), v = .slice B rs.length cap ∧ ca = ow B 22 cap (hdrs rs) ∧ cb = rowsCh 3 qs ∧ Al X2 c2 (il h) qs rs ∧ xss rs = ps.map (fun b => il b) ∧ IrL h ps ∧ rs.length + 1 ≤ Po.len h))) :
  Pure Try.prog 57 #[.agg #[.int .i64 p, .int .i64 m, .slice A mod.length c], .slice X (il f).length cx] [ro A (ints mod), ro X (ints (il f))] (two (fun v ca cb => ∃ B cap rs qs, ∃ ps : List (Po (El p m mod)), v = .slice B rs.length cap ∧ ca = ow B 22 cap (hdrs rs) ∧ cb = rowsCh 3 qs ∧ Al X cx (il f) qs rs ∧ xss rs = ps.map (fun b => il b) ∧ IrL f ps ∧ rs.length + 1 ≤ Po.len f)) := by
 have hq2 := hF.q2
 have hq9 := hF.out.1.1.q
 have hord := hF.ord
 have hf0 : f ≠ 0 := lead1_ne hl
 have hilf := il_length f
 refine pure_of (args := [.agg #[.int .i64 p, .int .i64 m, .slice A mod.length c], .slice X (il f).length cx]) 69 Try.func57 rfl rfl rfl ref_splitB_ent ⟨id, id, trivial⟩ (fun w0 => ?_)
 refine tS ?_
 refine tR fun _ _ _ => ?_
 refine eV (eBox rfl rfl rfl rfl rfl (fun p0 => ?_))
 refine pV ?_
 refine tS ?_
 refine tR fun _ _ _ => ?_
 refine sV (rLdS rfl rfl rfl) ?_
 refine pV ?_
 refine eV (eCall2 rfl rfl rfl (ref_fixed6 p m A c mod X cx (Po.len f - 1) f (by omega) (by omega) hl h9) ⟨rfl, rfl, trivial⟩ ?_)
 rintro _ _ _ ⟨B1, c1, os, bs, rfl, rfl, rfl, hpr, hB, hol⟩
 refine pV ?_
 have hbl := hpr.1
 refine tr_chunks _ ((cs _ [rowsX os, ow B1 22 c1 (hdrs os), blk p0 24 [.int .i64 p, .int .i64 m, .slice A mod.length c], ro A (ints mod), ro X (ints (il f))]).trans (rowsX_weak _)) ?_
 refine tS ?_
 refine tS ?_
 refine tR fun _ _ _ => ?_
 refine pV ?_
 refine sV (rLen rfl rfl) ?_
 refine pV ?_
 refine tC rfl (fun h2 => ?_) (fun h2 => ?_)
 ·try simp only [zbA] at h2
  refine tS ?_
  refine tR fun _ _ _ => ?_
  refine pV ?_
  refine eV (eLit1 rfl rfl rfl rfl rfl (fun A3 => ?_))
  refine pV ?_
  rw [show [Value.slice X (il f).length cx] = hdrs [(⟨X, cx, il f⟩ : RowM)] from rfl]
  have hir := ir_of_bss hl hs hf2 hB (by omega)
  exact tr_ret ⟨trivial, _, _, rfl, ⟨_, _, rfl, A3, 1, [⟨X, cx, il f⟩], [], [f], rfl, rfl, rfl, .inr ⟨rfl, rfl⟩, rfl, irl_one hir hl, by simp; omega⟩, (rows_nil 3 _).trans (cs _ _), trivial, trivial, trivial⟩
 ·try simp only [zbA] at h2
  refine tK ?_
  refine tS ?_
  refine tS ?_
  refine tR fun _ _ _ => ?_
  refine pV ?_
  refine tB ?_
  refine tr_loop1 (fun (i : Int) => [(5, .slice B1 os.length c1), (6, .int .i64 i), (1, .slice X (il f).length cx), (2, .pointer (some p0))]) (fun (i : Int) => [ow B1 22 c1 (hdrs os), rowsR os, blk p0 24 [.int .i64 p, .int .i64 m, .slice A mod.length c], ro A (ints mod), ro X (ints (il f))]) (fun (i : Int) => (0 ≤ i ∧ i ≤ os.length) ∧ ∀ j : Nat, (j : Int) < i → 2 ≤ Po.len (bs.getD j 0) → ∀ c : El p m mod, ¬ (2 ≤ Po.len (Po.gcd f ((bs.getD j 0) - Po.C c)) ∧ Po.len (Po.gcd f ((bs.getD j 0) - Po.C c)) < Po.len f)) (fun (i : Int) => (os.length - i).toNat) (0) ⟨rfl, rfl, rfl, rfl, trivial⟩ (by first | exact cs _ _ | exact CSub.refl _) (⟨⟨by omega, by omega⟩, fun j hj => by omega⟩) (fun i hI => ?_)
  obtain ⟨⟨hi0, hi1⟩, hall⟩ := hI
  refine tS ?_
  refine tS ?_
  refine tR fun _ _ _ => ?_
  iterate 2 refine pV ?_
  refine sV (rLen rfl rfl) ?_
  refine pV ?_
  refine tC rfl (fun h5 => ?_) (fun h5 => ?_)
  ·try simp only [zbA] at h5
   refine tK ?_
   refine tS ?_
   refine tB ?_
   refine tS ?_
   refine tS ?_
   haveI : InB i.toNat os.length := ⟨by omega⟩
   obtain ⟨hv1, hv2⟩ := polR_get hpr (show i.toNat < os.length by omega)
   have hvm := hB.sub _ (Vc.getD_eq_mem (show i.toNat < bs.length by omega) 0)
   refine tr_draw [0, 1, 2, 3, 4, 5, 6] [] mixed (by kernel_rfl) fun _ _ _ => ?_
   refine sV (rLdS rfl rfl rfl) ?_
   iterate 2 refine pV ?_
   refine sV (rIdxR rfl rfl rfl (by omega) (by omega) (by omega)) ?_
   refine sV (rLdR rfl rfl (by omega)) ?_
   refine eV (eCallV rfl rfl rfl (ref_PDegree p m A c mod (os.getD i.toNat rowD).A _ (os.getD i.toNat rowD).cap (os.getD i.toNat rowD).xs rfl (by omega)) ⟨rfl, rfl, trivial⟩ ?_)
   rw [hv1]
   refine pV ?_
   refine tC rfl (fun h7 => ?_) (fun h7 => ?_)
   ·try simp only [zbA] at h7
    refine tE ?_
    refine tR fun _ _ _ => ?_
    refine pV ?_
    refine sV (rAdd rfl rfl rfl (by omega) (by omega)) ?_
    refine pV ?_
    refine ⟨i + 1, ⟨rfl, rfl, rfl, rfl, trivial⟩, by first | exact cs _ _ | exact CSub.refl _, ?_⟩
    refine ⟨⟨⟨by omega, by omega⟩, fun j hj hj2 => ?_⟩, by omega⟩
    by_cases e : (j : Int) < i
    ·exact hall j e hj2
    ·rw [show j = i.toNat by omega] at hj2; omega
   ·try simp only [zbA] at h7
    refine tK ?_
    refine tS ?_
    refine tR fun _ _ _ => ?_
    refine pV ?_
    refine tB ?_
    refine tr_loop1 (fun (s : Int) => [(5, .slice B1 os.length c1), (6, .int .i64 i), (7, .int .i64 s), (1, .slice X (il f).length cx), (2, .pointer (some p0)), (17, .int .i64 i), (18, .slice B1 os.length c1), (19, .int .i64 os.length), (23, .agg #[.int .i64 p, .int .i64 m, .slice A mod.length c]), (24, .slice B1 os.length c1), (25, .int .i64 i)]) (fun (s : Int) => [ow B1 22 c1 (hdrs os), rowsR os, blk p0 24 [.int .i64 p, .int .i64 m, .slice A mod.length c], ro A (ints mod), ro X (ints (il f))]) (fun (s : Int) => (0 ≤ s ∧ s ≤ pw p m) ∧ ∀ z : Nat, (z : Int) < s → ¬ (2 ≤ Po.len (Po.gcd f ((bs.getD i.toNat 0) - Po.C (el (z : Int)))) ∧ Po.len (Po.gcd f ((bs.getD i.toNat 0) - Po.C (el (z : Int)))) < Po.len f)) (fun (s : Int) => (pw p m - s).toNat) (0) ⟨rfl, rfl, rfl, rfl, rfl, rfl, rfl, rfl, rfl, rfl, rfl, trivial⟩ (by first | exact cs _ _ | exact CSub.refl _) (⟨⟨by omega, by omega⟩, fun z hz => by omega⟩) (fun s hI => ?_)
    obtain ⟨⟨hs0, hs1⟩, hsn⟩ := hI
    refine tS ?_
    refine tS ?_
    refine tR fun _ _ _ => ?_
    refine pV ?_
    refine sV (rLdS rfl rfl rfl) ?_
    refine eV (eCallV rfl rfl rfl (ref_order p m A c mod) ⟨rfl, trivial⟩ ?_)
    rw [hord]
    refine pV ?_
    refine tC rfl (fun h9 => ?_) (fun h9 => ?_)
    ·try simp only [zbA] at h9
     refine tK ?_
     refine tS ?_
     refine tB ?_
     refine tS ?_
     have hy1 := il_length (pol (os.getD i.toNat rowD).xs - pol [s] : Po (El p m mod))
     have hy2 := Po.len_sub (pol (os.getD i.toNat rowD).xs) (pol [s] : Po (El p m mod))
     have hy3 := Po.len_le (pol_sh (p := p) (m := m) (mod := mod) (os.getD i.toNat rowD).xs)
     have hy4 := Po.len_le (pol_sh (p := p) (m := m) (mod := mod) [s])
     have hy5 : [s].length = 1 := rfl
     have hgq := gcd_quo_mul (w := (bs.getD i.toNat 0) - Po.C (el s)) hl
     have hhl := il_length (Po.gcd f ((bs.getD i.toNat 0) - Po.C (el s)))
     refine tr_draw [0, 1, 2, 3, 4, 5, 6, 7, 8, 9, 10, 11] [] mixed (by kernel_rfl) fun _ _ _ => ?_
     refine sV (rLdS rfl rfl rfl) ?_
     refine pV ?_
     refine sV (rLdS rfl rfl rfl) ?_
     iterate 2 refine pV ?_
     refine sV (rIdxR rfl rfl rfl (by omega) (by omega) (by omega)) ?_
     refine sV (rLdR rfl rfl (by omega)) ?_
     refine pV ?_
     refine eV (eLit1I rfl rfl rfl rfl (fun A11 => ?_))
     refine eV (eCall1 rfl rfl rfl (ref_PSub p m A c mod (os.getD i.toNat rowD).A _ (os.getD i.toNat rowD).cap (os.getD i.toNat rowD).xs rfl (by omega) A11 _ 1 [s] rfl (by simp)) ⟨rfl, rfl, rfl, trivial⟩ ?_)
     rintro _ _ ⟨Bs, cs_, rfl, rfl⟩
     refine eV (eCall1 rfl rfl rfl (ref_PGcd p m A c mod X _ cx (il f) rfl (by omega) Bs _ cs_ (il (pol (os.getD i.toNat rowD).xs - pol [s])) rfl (by omega)) ⟨rfl, rfl, rfl, trivial⟩ ?_)
     rintro _ _ ⟨Bh, ch, rfl, rfl⟩
     refine pV ?_
     rw [pol_il, pol_il, hv1, pol_one_c]
     refine tS ?_
     refine tR fun _ _ _ => ?_
     refine pV ?_
     refine sV (rLen rfl rfl) ?_
     iterate 2 refine pV ?_
     refine stg rfl rfl rfl rfl rfl (fun hb => by (have hq := hb; try simp only [zbA] at hq); exact rMove rfl rfl) ?_
     refine stg rfl rfl rfl rfl rfl (fun hb => by (have hq := hb; try simp only [zbA] at hq); exact rLen rfl (evg rfl hb)) ?_
     refine stg rfl rfl rfl rfl rfl (fun hb => by (have hq := hb; try simp only [zbA] at hq); exact rMove rfl rfl) ?_
     refine stg rfl rfl rfl rfl rfl (fun hb => by (have hq := hb; try simp only [zbA] at hq); exact rLen rfl (evg rfl hb)) ?_
     refine stg rfl rfl rfl rfl rfl (fun hb => by (have hq := hb; try simp only [zbA] at hq); exact rLss rfl (evg rfl hb) (evg rfl hb)) ?_
     refine sV (rAndB rfl rfl rfl rfl) ?_
     refine tC rfl (fun h12 => ?_) (fun h12 => ?_)
     ·try simp only [zbA] at h12
      have hhg : 2 ≤ Po.len (Po.gcd f ((bs.getD i.toNat 0) - Po.C (el s))) ∧ Po.len (Po.gcd f ((bs.getD i.toNat 0) - Po.C (el s))) < Po.len f := by omega
      refine tS ?_
      have hmul := Po.len_mul (lead1_ne hgq.1) (lead1_ne hgq.2.1)
      rw [hgq.2.2] at hmul
      have hkl : Po.len (Po.quo f (Po.gcd f ((bs.getD i.toNat 0) - Po.C (el s)))) < Po.len f := by omega
      have hk2 : 2 ≤ Po.len (Po.quo f (Po.gcd f ((bs.getD i.toNat 0) - Po.C (el s)))) := by omega
      have hkil := il_length (Po.quo f (Po.gcd f ((bs.getD i.toNat 0) - Po.C (el s))))
      refine tr_tree (.one 0 (.one 1 (.one 3 (.one 4 (.one 5 (.one 6 (.one 2 (.one 7 (.one 8 .nil))))))))) [9, 10] mixed (by kernel_rfl) fun _ _ _ => ?_
      refine sV (rLdS rfl rfl rfl) ?_
      refine pV ?_
      refine sV (rLdS rfl rfl rfl) ?_
      refine sV (rLdS rfl rfl rfl) ?_
      iterate 2 refine pV ?_
      refine eV (eCall2 rfl rfl rfl (ih Bh ch (Po.gcd f ((bs.getD i.toNat 0) - Po.C (el s))) (by omega) hgq.1 (by omega) (hs.of_dvd (Po.gcd_is _ _).left)) ⟨rfl, rfl, trivial⟩ ?_)
      rintro _ _ _ ⟨Bp, cp, rs1, qs1, ps1, rfl, rfl, rfl, hal1, hx1, hI1, hl1⟩
      refine eV (eCall1 rfl rfl rfl (ref_div6 p m A c mod X _ cx (il f) rfl (by omega) Bh _ ch (il (Po.gcd f ((bs.getD i.toNat 0) - Po.C (el s)))) rfl (by omega) (by rw [pol_il]; omega) (by rw [pol_il]; exact lead1_ne hgq.1)) ⟨rfl, rfl, rfl, trivial⟩ ?_)
      rintro _ _ ⟨Bk, ck, rfl, rfl⟩
      rw [pol_il, pol_il]
      refine eV (eCall2 rfl rfl rfl (ih Bk ck (Po.quo f (Po.gcd f ((bs.getD i.toNat 0) - Po.C (el s)))) hkl hgq.2.1 hk2 (hs.of_dvd ⟨(Po.gcd f ((bs.getD i.toNat 0) - Po.C (el s))), by rw [Rg.mul_comm]; exact hgq.2.2.symm⟩)) ⟨rfl, rfl, trivial⟩ ?_)
      rintro _ _ _ ⟨Bz, cz, rs2, qs2, ps2, rfl, rfl, rfl, hal2, hx2, hI2, hl2⟩
      have hlb : rs1.length + rs2.length ≤ Po.len f := by omega
      refine eV (eAppRR rs2 rfl rfl rfl rfl rfl (by first | rfl | simp | omega) (by first | rfl | simp | omega) (by omega) (fun A13 c13 => ?_))
      refine pV ?_
      have hI3 := irl_app (by rw [hgq.2.2]; exact hs) hI1 hI2
      rw [hgq.2.2] at hI3
      exact tr_ret ⟨trivial, _, _, rfl, ⟨_, _, rfl, A13, c13, rs1 ++ rs2, rs1 ++ rs2, ps1 ++ ps2, rfl, rfl, rfl, .inl rfl, by rw [List.map_append, ← hx1, ← hx2]; simp [xss], hI3, by simp; omega⟩, (cs _ [rowsCh 3 qs2, ow Bk 3 ck (ints (il (Po.quo f (Po.gcd f ((bs.getD i.toNat 0) - Po.C (el s)))))), rowsCh 3 qs1, ow Bh 3 ch (ints (il (Po.gcd f ((bs.getD i.toNat 0) - Po.C (el s))))), ow A13 22 c13 (hdrs (rs1 ++ rs2))]).trans ((al_own hal2 3 _).trans ((CSub.perm (List.Perm.swap ..)).trans ((cs _ [rowsCh 3 qs1, ow Bh 3 ch (ints (il (Po.gcd f ((bs.getD i.toNat 0) - Po.C (el s))))), rowsCh 3 rs2, ow A13 22 c13 (hdrs (rs1 ++ rs2))]).trans ((al_own hal1 3 _).trans ((rows_join rs2 rs1 _).trans (cs _ _)))))), trivial, trivial, trivial⟩
      all_goals skip
     ·try simp only [zbA] at h12
      refine tK ?_
      refine tR fun _ _ _ => ?_
      refine pV ?_
      refine sV (rAdd rfl rfl rfl (by omega) (by omega)) ?_
      refine pV ?_
      refine ⟨s + 1, ⟨rfl, rfl, rfl, rfl, rfl, rfl, rfl, rfl, rfl, rfl, rfl, trivial⟩, by first | exact cs _ _ | exact CSub.refl _, ?_⟩
      refine ⟨⟨⟨by omega, by omega⟩, fun z hz => ?_⟩, by omega⟩
      by_cases e : (z : Int) < s
      ·exact hsn z e
      ·rw [show (z : Int) = s by omega]
       intro hh
       omega
    ·try simp only [zbA] at h9
     refine tE ?_
     refine tR fun _ _ _ => ?_
     refine pV ?_
     refine sV (rAdd rfl rfl rfl (by omega) (by omega)) ?_
     refine pV ?_
     refine ⟨i + 1, ⟨rfl, rfl, rfl, rfl, trivial⟩, by first | exact cs _ _ | exact CSub.refl _, ?_⟩
     refine ⟨⟨⟨by omega, by omega⟩, fun j hj hj2 => ?_⟩, by omega⟩
     by_cases e : (j : Int) < i
     ·exact hall j e hj2
     ·rw [show j = i.toNat by omega]
      intro d
      have hb := El.bd d
      have := hsn d.1.toNat (by omega)
      rwa [Int.toNat_of_nonneg hb.1, el_of] at this
  ·try simp only [zbA] at h5
   refine tE ?_
   refine tS ?_
   refine tR fun _ _ _ => ?_
   refine pV ?_
   refine eV (eLit1 rfl rfl rfl rfl rfl (fun A14 => ?_))
   refine pV ?_
   exfalso
   by_cases h1 : bs.length = 1
   ·omega
   ·obtain ⟨v, hv, hv2, d, hd1, hd2⟩ := bss_splits hl hs hf2 hB h1
    obtain ⟨j, hj, rfl⟩ := List.getElem_of_mem hv
    have := hall j (by omega)
    rw [List.getD_eq_getElem?_getD, List.getElem?_eq_getElem hj] at this
    exact this hv2 d ⟨hd1, hd2⟩
theorem ref_splitN (p m : Int) (A : Option Addr) (c : Nat) (mod : List Int) [hF : IsF p m mod] : ∀ (N : Nat) (X : Option Addr) (cx : Nat) (f : Po (El p m mod)), Po.len f ≤ N → Po.lead f = 1 → 2 ≤ Po.len f → Po.len f ≤ 257 → Po.Sf f → Pure Try.prog 57 #[.agg #[.int .i64 p, .int .i64 m, .slice A mod.length c], .slice X (il f).length cx] [ro A (ints mod), ro X (ints (il f))] (two (fun v ca cb => ∃ B cap rs qs, ∃ ps : List (Po (El p m mod)), v = .slice B rs.length cap ∧ ca = ow B 22 cap (hdrs rs) ∧ cb = rowsCh 3 qs ∧ Al X cx (il f) qs rs ∧ xss rs = ps.map (fun b => il b) ∧ IrL f ps ∧ rs.length + 1 ≤ Po.len f))
 | 0, X, cx, f, hN, hl, h2, h9, hs => absurd h2 (by omega)
 | N + 1, X, cx, f, hN, hl, h2, h9, hs => ref_splitB p m A c mod X cx f hl h2 h9 hs fun X2 c2 h h3 h4 h5 h6 => ref_splitN p m A c mod N X2 c2 h (by omega) h4 h5 (by omega) h6
theorem ref_split (p m : Int) (A : Option Addr) (c : Nat) (mod : List Int) [hF : IsF p m mod] (X : Option Addr) (cx : Nat) (f : Po (El p m mod)) (hl : Po.lead f = 1) (hf2 : 2 ≤ Po.len f) (h9 : Po.len f ≤ 257) (hs : Po.Sf f) : Pure Try.prog 57 #[.agg #[.int .i64 p, .int .i64 m, .slice A mod.length c], .slice X (il f).length cx] [ro A (ints mod), ro X (ints (il f))] (two (fun v ca cb => ∃ B cap rs qs, ∃ ps : List (Po (El p m mod)), v = .slice B rs.length cap ∧ ca = ow B 22 cap (hdrs rs) ∧ cb = rowsCh 3 qs ∧ Al X cx (il f) qs rs ∧ xss rs = ps.map (fun b => il b) ∧ IrL f ps ∧ rs.length + 1 ≤ Po.len f)) := ref_splitN p m A c mod _ X cx f (Nat.le_refl _) hl hf2 h9 hs
end Go.Proofs.Ytbhoeaijpnjgdaa

namespace Go.Proofs.Ytbhoeaijpnjgdaa
open Go.RowKit
section
variable {P : Program} {N : NB} {M : Nat → Prop} {w0 : World} {L : Fr} {F F' : List Chunk} {K : Fr → List Chunk → Prop} {b : Bool} {o : Oper} {x y : Operand} {t e : TypeId} {k : Nat}
theorem run_lit0S (w : World) (h : SsTy P t e k) : (Instr.buildSlice t 0 #[]).run P w = .ok (.slice (some ⟨w.heap.size, 0, none⟩) 0 0) (w.alloc (.cells #[] e)) := by
 have hsz := run_size1 h.size w
 unfold Instr.buildSlice
 simp only [Sem.run_bind, run_und h.und, Result.andThen_ok, hsz]
 simp [newRow, newObj, Sem.run, Instr.fill, range0]
theorem eLit0S (ho : o.op = .buildSlice t 0 #[]) {d : Nat} (hdd : o.dst = some d) (hd : Nat.ble (d + 1) N.n = true) [h : SsTy P t e 2] (hK : ∀ A : Option Addr, K (addL d (.slice A (([] : List FacM).length) 0) L) (ow2 A e 0 (fcs []) :: F)) : Eff P N M w0 b o L F K := eff_value hdd hd fun a w hl hm => by
 have h1 := run_lit0S (P := P) (t := t) w h
 refine ⟨.slice (some ⟨w.heap.size, 0, none⟩) 0 0, w.alloc (.cells #[] e), ?_, alloc_ext w _, _, hm.add (G := [ow2 (some ⟨w.heap.size, 0, none⟩) e 0 []]) (alloc_ext w _) (fun c hc => ?_) (List.pairwise_singleton _ _), hK _⟩
 ·simp only [execOp, ho, Sem.run_bind]
  simp [h1]
 ·simp only [List.mem_singleton] at hc
  subst hc
  refine ⟨⟨rfl, .inr ⟨w.heap.size, 0, #[], rfl, Nat.zero_le _, heap_alloc_new w _, Nat.le_refl _, Nat.zero_le _, rfl, rfl⟩⟩, fun b hb => ?_⟩
  obtain ⟨ad, h2, h3⟩ := hb
  simp only [Option.some.injEq] at h2
  subst h2
  rw [← h3]; exact Nat.le_refl _
end
def takeOut (us : List RowM) (k : Nat) : List RowM := (us.set k (us.getD (us.length - 1) rowD)).take (us.length - 1)
theorem takeOut_length {us : List RowM} {k : Nat} : (takeOut us k).length = us.length - 1 := by unfold takeOut; simp
theorem takeOut_perm {us : List RowM} {k : Nat} (hk : k < us.length) : us.Perm (us.getD k rowD :: takeOut us k) := by
 have hn : us.length - 1 < us.length := by omega
 have hs : us = us.take (us.length - 1) ++ [us.getD (us.length - 1) rowD] := by
  conv => lhs; rw [← List.take_append_drop (us.length - 1) us]
  congr 1
  rw [List.getD_eq_getElem?_getD, List.getElem?_eq_getElem hn, List.drop_eq_getElem_cons hn, List.drop_eq_nil_of_le (by omega)]; rfl
 generalize hz : us.getD (us.length - 1) rowD = z at hs
 generalize hl : us.take (us.length - 1) = l at hs
 have hll : l.length = us.length - 1 := by rw [← hl]; simp
 unfold takeOut
 rw [hz]
 by_cases e : k = us.length - 1
 ·have h1 : (us.set k z).take (us.length - 1) = l := by rw [List.take_set_of_le (by omega), hl]
  rw [h1, e, hz]
  conv => lhs; rw [hs]
  exact List.perm_append_singleton z l
 ·have hkl : k < l.length := by omega
  have h1 : (us.set k z).take (us.length - 1) = l.set k z := by rw [List.take_set, hl]
  have h2 : us.getD k rowD = l.getD k rowD := by
   conv => lhs; rw [hs]
   rw [List.getD_eq_getElem?_getD, List.getElem?_append_left hkl, ← List.getD_eq_getElem?_getD]
  rw [h1, h2]
  conv => lhs; rw [hs]
  refine (List.perm_append_singleton z l).trans (((perm_at rowD l k hkl).cons z).trans ((List.Perm.swap _ _ _).trans (List.Perm.cons _ ?_)))
  exact (perm_set l k z hkl).symm
end Go.Proofs.Ytbhoeaijpnjgdaa

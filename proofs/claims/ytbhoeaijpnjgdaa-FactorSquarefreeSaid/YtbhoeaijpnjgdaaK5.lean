/-
  FACTORSQUAREFREE, PART 5 OF 8. One sentence: the texts behind the law FactorSquarefree, put together.
  Conditions: each theorem's own, written out in it.
-/
import Derived.Calls
import Derived.Sort.Grow
import Derived.Shelf.SlSortCmp.InsertionK
import Derived.Sort.OwnSorted
import Derived.Test.YtbhoeaijpnjgdaaShelfF
import Derived.Shelf.SlSortCmp.WholeK
import Derived.Shelf.SlSortCmp.NoneTotal
import Derived.Test.YtbhoeaijpnjgdaaK4
set_option linter.unusedSimpArgs false
set_option linter.unusedVariables false
set_option linter.unusedSectionVars false
set_option maxRecDepth 100000
namespace Go.Proofs.Ytbhoeaijpnjgdaa
open Go.RowKit
def fd1 (P : Program) (t : TypeId) (f : Nat) : Option Nat :=
 match P.underlying t with
 | some (.struct fs) => match fs[f]? with
  | some fd => if isSc P fd.type then some fd.offset else none
  | none => none
 | _ => none
class F1Ty (P : Program) (t : TypeId) (f : Nat) (off : outParam Nat) : Prop where
 off : fd1 P t f = some off
section
variable {P : Program} {N : NB} {M : Nat → Prop} {w0 : World} {L : Fr} {F : List Chunk} {o : Oper} {x : Operand} {t : TypeId}
theorem rField {f off : Nat} {vs : List Value} {v : Value} (ho : o.op = .field t x f) [h : F1Ty P t f off] (hx : ev L x = some (.agg vs.toArray)) (hv : vs[off]? = some v) : Stl P N M w0 o L F v := fun a w hl hm => by
 have h0 := h.off
 unfold fd1 at h0
 split at h0
 ·rename_i fs hu
  split at h0
  ·rename_i fd hf
   split at h0
   ·rename_i hs
    obtain ⟨d, hd, hn⟩ := (scTy_of hs).und
    have hag : (isAgg fd.type).run P w = .ok false w := by
     simp only [isAgg, Sem.run_bind, run_und hd, Result.andThen_ok]
     cases d <;> first | exact hn.elim | rfl
    simp only [Option.some.injEq] at h0
    subst h0
    have hv' : vs.toArray[fd.offset]? = some v := by simpa using hv
    simp [execOp, ho, hl.eval hx, Instr.field, run_und hu, hf, asAgg, part, hag, hv]
   ·cases h0
  ·cases h0
 ·cases h0
end
section
variable {P : Program} {N : NR} {M : Nat → Prop} {w0 : World} {L : Fr} {F : List Chunk}
theorem tr_nilQ (t e : TypeId) {c : Code} {Q : Exit → Fr → List Chunk → Prop} (h : Tr P N M w0 c L (ow2 none t 0 (fcs []) :: rowsCh e (rws []) :: F) Q) : Tr P N M w0 c L F Q := fun ds M1 w1 hb a w hl hm => h ds M1 w1 hb a w hl (nil_mem2 t ((rows_nil e F).mem hm))
end
theorem fcs_one : ∀ gs : List FacM, (prs (fcs gs)).all (·.oneCell') = true
 | [] => rfl
 | x :: gs => by
  have h := fcs_one gs
  show ((x.r.hdr).oneCell' && ((Value.int .i64 x.k).oneCell' && (prs (fcs gs)).all (·.oneCell'))) = true
  rw [h]; rfl
theorem fcs_snoc (fs : List FacM) (A : Option Addr) (c : Nat) (l : List Int) (k : Int) : fcs fs ++ [((Value.slice A l.length c : Value), (Value.int .i64 k : Value))] = fcs (fs ++ [⟨⟨A, c, l⟩, k⟩]) := by rw [fcs_app]; rfl
instance tyF10 : F1Ty Try.prog 24 0 0 := ⟨by kernel_rfl⟩
theorem p_le_q {p m : Int} {mod : List Int} (hF : IsF p m mod) : p ≤ pw p m := by
 have hm1 := hF.out.1.1.m1
 have hp2 := hF.p2
 have hq := qp_mul hF
 rw [Nat.mul_comm] at hq
 have h1 : 1 ≤ (pw p m).toNat / p.toNat := by
  refine Nat.one_le_iff_ne_zero.2 fun e => ?_
  rw [e] at hq
  have := hF.q2
  omega
 have h2 : p.toNat * 1 ≤ p.toNat * ((pw p m).toNat / p.toNat) := Nat.mul_le_mul_left _ h1
 omega
section
variable {p m : Int} {mod : List Int} [hF : IsF p m mod]
theorem gk_mod {g : GfM} (hg : GOk g p m mod) : g.mod.length ≤ 1000000 := by
 have h1 := hF.out.1.1.m8
 rw [hg.emod]
 rcases hF.out.1.1.low with h | h
 ·rw [h.2]; simp
 ·omega
theorem nc_el (k : Nat) : (el ((k : Int) % p) : El p m mod) = Rg.nc k := by rw [← nc_val (m := m) (mod := mod), el_of]
theorem nc_el2 {i : Int} (h : 0 ≤ i) : (el ((i + 1) % p) : El p m mod) = Rg.nc (i.toNat + 1) := by
 rw [show i + 1 = ((i.toNat + 1 : Nat) : Int) by omega, nc_el]
end
theorem poly_Derivative_ent : Enters Try.prog 51 := enters_of Try.func51 (by kernel_rfl) (by kernel_rfl)
theorem poly_Derivative (g : GfM) {p m : Int} {mod : List Int} [hF : IsF p m mod] (hg : GOk g p m mod) (A : Option Addr) (n c : Nat) (a : List Int) (hn : n = a.length) (ha9 : a.length ≤ 1000000) :
  Pure Try.prog 51 #[.pointer (some g.p), .slice A n c] [gfR g, ro A (ints a)] (one (fun v ch => ∃ B cap, v = .slice B (il (dP (pol a : Po (El p m mod)))).length cap ∧ ch = ow B 3 cap (ints (il (dP (pol a : Po (El p m mod))))))) := by
 have hq2 := hF.q2
 have hp2 := hF.p2
 have hgm := gk_mod hg
 refine pure_of (args := [.pointer (some g.p), .slice A n c]) 40 Try.func51 rfl rfl rfl poly_Derivative_ent ⟨id, id, trivial⟩ (fun w0 => ?_)
 refine tS ?_
 refine tR fun _ _ _ => ?_
 refine pV ?_
 refine tS ?_
 refine tS ?_
 refine tR fun _ _ _ => ?_
 refine pV ?_
 refine sV (rLen rfl rfl) ?_
 refine pV ?_
 refine tC rfl (fun h1 => ?_) (fun h1 => ?_)
 ·try simp only [zbA] at h1
  refine tS ?_
  refine tR fun _ _ _ => ?_
  refine pV ?_
  have hz : (pol a : Po (El p m mod)) = 0 := by rw [List.eq_nil_of_length_eq_zero (l := a) (by omega)]; exact pol_nil
  refine tr_nilI 3 ?_
  rw [hz, show dP (0 : Po (El p m mod)) = 0 from Po.ext fun j => by rw [cf_dP, Po.cf_zero, Rg.mul_zero, Po.cf_zero], il_zero]
  exact tr_ret ⟨trivial, _, _, rfl, ⟨_, rfl, none, 0, rfl, rfl⟩, cs _ _, trivial, trivial⟩
 ·try simp only [zbA] at h1
  refine tK ?_
  refine tS ?_
  refine tR fun _ _ _ => ?_
  refine pV ?_
  refine sV (rLen rfl rfl) ?_
  refine sV (rSub rfl rfl rfl (by omega) (by omega)) ?_
  refine eV (eMakeI rfl rfl rfl rfl rfl (by omega) (by omega) (by omega) (fun A3 => ?_))
  refine pV ?_
  rw [show ((n : Int) - 1).toNat = n - 1 by omega]
  refine tS ?_
  refine tR fun _ _ _ => ?_
  refine pV ?_
  refine eV (eCall1 rfl rfl rfl (gf_Field g hgm) ⟨rfl, trivial⟩ ?_)
  rintro _ _ ⟨Bf, cf, rfl, rfl⟩
  refine sV (rField rfl rfl rfl) ?_
  refine pV ?_
  rw [hg.eP]
  refine tS ?_
  refine tS ?_
  refine tR fun _ _ _ => ?_
  refine pV ?_
  refine sV (rLen rfl rfl) ?_
  refine pV ?_
  refine tB ?_
  refine tr_loop2 (fun (i : Int) (o : List Int) => [(5, .slice A3 (n - 1) (n - 1)), (20, .int .i64 i), (6, .int .i64 p), (19, .int .i64 ((n - 1 : Nat) : Int)), (0, .pointer (some g.p)), (1, .slice A n c), (4, .slice none 0 0)]) (fun (i : Int) (o : List Int) => [ow A3 3 (n - 1) (ints o), gfR g, ro A (ints a)]) (fun (i : Int) (o : List Int) => (0 ≤ i ∧ i ≤ n - 1) ∧ (o.length = n - 1 ∧ AllIn (pw p m) o) ∧ ∀ j : Nat, (j : Int) < i → (el (o.getD j 0) : El p m mod) = Rg.nc (j + 1) * el (a.getD (j + 1) 0)) (fun (i : Int) (o : List Int) => (n - i).toNat) (0) (List.replicate (n - 1) 0) ⟨rfl, rfl, rfl, rfl, rfl, rfl, rfl, trivial⟩ (by first | exact cs _ _ | exact CSub.refl _) (⟨⟨by omega, by omega⟩, ⟨by simp, allIn_rep (by omega) _⟩, fun j hj => by omega⟩) (fun i o hI => ?_)
  obtain ⟨⟨hi0, hi1⟩, ⟨hol, hoi⟩, ho⟩ := hI
  refine tS ?_
  refine tR fun _ _ _ => ?_
  refine pV ?_
  refine tS ?_
  refine tC rfl (fun h6 => ?_) (fun h6 => ?_)
  ·try simp only [zbA] at h6
   refine tK ?_
   refine tS ?_
   refine tB ?_
   refine tS ?_
   refine tR fun _ _ _ => ?_
   iterate 2 refine pV ?_
   refine tr_draw [0, 1, 2, 3, 4, 5, 6, 7, 8, 9, 10, 11, 12, 13] [14] mixed (by kernel_rfl) fun _ _ _ => ?_
   iterate 4 refine pV ?_
   refine sV (rAdd rfl rfl rfl (by omega) (by omega)) ?_
   refine pV ?_
   refine sV (rRem rfl rfl rfl (by omega) (by omega)) ?_
   iterate 2 refine pV ?_
   refine sV (rAdd rfl rfl rfl (by omega) (by omega)) ?_
   refine sV (rIdxI rfl rfl rfl (by omega) (by omega) (by omega)) ?_
   refine sV (rLdI rfl rfl (by omega)) ?_
   refine eV (eCallV rfl rfl rfl (gf_MulE g hg _ _) ⟨rfl, rfl, rfl, trivial⟩ ?_)
   rw [nc_el2 (by omega)]
   refine sV (rIdxI rfl rfl rfl (by omega) (by omega) (by omega)) ?_
   refine eV (eStI rfl rfl rfl rfl (by omega) ?_)
   refine tR fun _ _ _ => ?_
   refine sV (rAdd rfl rfl rfl (by omega) (by omega)) ?_
   refine pV ?_
   refine ⟨i + 1, o.set i.toNat (Rg.nc (i.toNat + 1) * el (a.getD (i + 1).toNat 0) : El p m mod).1, ⟨rfl, rfl, rfl, rfl, rfl, rfl, rfl, trivial⟩, by first | exact cs _ _ | exact CSub.refl _, ?_⟩
   refine ⟨⟨⟨by omega, by omega⟩, ⟨by simpa using hol, hoi.set (El.bd _) _⟩, fun j hj => ?_⟩, by omega⟩
   rw [getD_set]
   by_cases he : i.toNat = j
   ·subst he; rw [if_pos ⟨rfl, by omega⟩, el_of, show (i + 1).toNat = i.toNat + 1 by omega]
   ·rw [if_neg (fun e => he e.1)]; exact ho j (by omega)
  ·try simp only [zbA] at h6
   refine tE ?_
   refine tS ?_
   refine tR fun _ _ _ => ?_
   refine pV ?_
   refine eV (eCallV rfl rfl rfl (poly_trim _ _ _ o (by omega) (by omega) (by omega)) ⟨rfl, trivial⟩ ?_)
   refine pV ?_
   have hp : (pol o : Po (El p m mod)) = dP (pol a) := Po.ext fun j => by
    rw [cf_dP, cf_pol, cf_pol]
    by_cases h : (j : Int) < i
    ·exact ho j h
    ·rw [getD_out (l := a) (by omega), getD_out (l := o) (by omega), el_zero, Rg.mul_zero]
   rw [← hp, il_trim hoi]
   exact tr_ret ⟨trivial, _, _, rfl, ⟨_, rfl, A3, n - 1, rfl, rfl⟩, (cs _ [ow A3 3 (n - 1) (ints o)]).trans (shrink_trim _ _), trivial, trivial⟩
theorem fac_quo_ent : Enters Try.prog 55 := enters_of Try.func55 (by kernel_rfl) (by kernel_rfl)
theorem fac_quo (g : GfM) {p m : Int} {mod : List Int} [hF : IsF p m mod] (hg : GOk g p m mod) (A : Option Addr) (n c : Nat) (a : List Int) (hn : n = a.length) (ha9 : a.length ≤ 1000000) (B : Option Addr) (k d : Nat) (b : List Int) (hk : k = b.length) (hb9 : b.length ≤ 1000000) (h0 : (pol b : Po (El p m mod)) ≠ 0) :
  Pure Try.prog 55 #[.pointer (some g.p), .slice A n c, .slice B k d] [gfR g, ro A (ints a), ro B (ints b)] (one (fun v ch => ∃ B cap, v = .slice B (il (Po.quo (pol a : Po (El p m mod)) (pol b : Po (El p m mod)))).length cap ∧ ch = ow B 3 cap (ints (il (Po.quo (pol a : Po (El p m mod)) (pol b : Po (El p m mod))))))) := by
 refine pure_of (args := [.pointer (some g.p), .slice A n c, .slice B k d]) 19 Try.func55 rfl rfl rfl fac_quo_ent ⟨id, id, id, trivial⟩ (fun w0 => ?_)
 refine tS ?_
 refine tR fun _ _ _ => ?_
 refine pV ?_
 refine tS ?_
 refine tR fun _ _ _ => ?_
 iterate 3 refine pV ?_
 refine eV (eCall2 rfl rfl rfl (poly_DivMod g hg A n c a hn (by omega) B k d b hk (by omega) h0) ⟨rfl, rfl, rfl, trivial⟩ ?_)
 rintro _ _ _ ⟨B1, c1, B2, c2, rfl, rfl, rfl⟩
 iterate 7 refine pV ?_
 refine tS ?_
 refine tR fun _ _ _ => ?_
 iterate 2 refine pV ?_
 exact tr_ret ⟨trivial, _, _, rfl, ⟨_, rfl, B1, c1, rfl, rfl⟩, cs _ _, trivial, trivial⟩
theorem fac_root_ent : Enters Try.prog 136 := enters_of Try.func136 (by kernel_rfl) (by kernel_rfl)
theorem fac_root (g : GfM) {p m : Int} {mod : List Int} [hF : IsF p m mod] (hg : GOk g p m mod) (A : Option Addr) (n c : Nat) (a : List Int) (hn : n = a.length) (ha9 : a.length ≤ 1000000) :
  Pure Try.prog 136 #[.pointer (some g.p), .slice A n c] [gfR g, ro A (ints a)] (one (fun v ch => ∃ B cap, v = .slice B (il (rtP (pol a : Po (El p m mod)))).length cap ∧ ch = ow B 3 cap (ints (il (rtP (pol a : Po (El p m mod))))))) := by
 have hq2 := hF.q2
 have hp2 := hF.p2
 have hgm := gk_mod hg
 have heq := hg.eq
 have hq9 := hF.out.1.1.q
 have hpq := p_le_q hF
 have hqd : (pw p m / p).toNat = (pw p m).toNat / p.toNat := by
  obtain ⟨a, ha⟩ := Int.eq_ofNat_of_zero_le (show 0 ≤ pw p m by omega)
  obtain ⟨b, hb⟩ := Int.eq_ofNat_of_zero_le (show 0 ≤ p by omega)
  rw [ha, hb, ← Int.natCast_ediv]
  simp only [Int.toNat_natCast]
 have hd0 : 0 ≤ pw p m / p := Int.ediv_nonneg (by omega) (by omega)
 have hd9 : pw p m / p ≤ pw p m := Int.ediv_le_self _ (by omega)
 have hn0 : 0 ≤ (n : Int) / p := Int.ediv_nonneg (by omega) (by omega)
 have hn9 : (n : Int) / p ≤ n := Int.ediv_le_self _ (by omega)
 refine pure_of (args := [.pointer (some g.p), .slice A n c]) 46 Try.func136 rfl rfl rfl fac_root_ent ⟨id, id, trivial⟩ (fun w0 => ?_)
 refine tS ?_
 refine tR fun _ _ _ => ?_
 refine pV ?_
 refine tS ?_
 refine tR fun _ _ _ => ?_
 refine pV ?_
 refine eV (eCall1 rfl rfl rfl (gf_Field g hgm) ⟨rfl, trivial⟩ ?_)
 rintro _ _ ⟨Bf, cf, rfl, rfl⟩
 refine sV (rField rfl rfl rfl) ?_
 refine pV ?_
 rw [hg.eP]
 refine tS ?_
 refine tR fun _ _ _ => ?_
 refine pV ?_
 refine sV (rLen rfl rfl) ?_
 refine pV ?_
 refine sV (rQuo rfl rfl rfl (by omega) (by omega)) ?_
 refine sV (rAdd rfl rfl rfl (by omega) (by omega)) ?_
 refine eV (eMake0 rfl rfl rfl rfl rfl (by omega) (by omega) (by omega) (fun A2 => ?_))
 refine pV ?_
 refine tr_chunks [ow A2 3 ((n : Int) / p + 1).toNat (ints []), gfR g, ro A (ints a)] (cs _ [ow A2 3 ((n : Int) / p + 1).toNat [], gfR g, ro A (ints a)]) ?_
 refine tS ?_
 refine tS ?_
 refine tR fun _ _ _ => ?_
 refine pV ?_
 refine tB ?_
 refine tr_loop4 (fun (i : Int) (B : Option Addr) (cb : Nat) (o : List Int) => [(7, .int .i64 i), (5, .int .i64 p), (6, .slice B o.length cb), (0, .pointer (some g.p)), (1, .slice A n c), (4, .slice none 0 0)]) (fun (i : Int) (B : Option Addr) (cb : Nat) (o : List Int) => [ow B 3 cb (ints o), gfR g, ro A (ints a)]) (fun (i : Int) (B : Option Addr) (cb : Nat) (o : List Int) => (0 ≤ i ∧ i ≤ n + p) ∧ (i = p * (o.length : Int) ∧ o.length ≤ n) ∧ ∀ j : Nat, j < o.length → (el (o.getD j 0) : El p m mod) = Rg.pow (Po.cf (pol a : Po (El p m mod)) (j * p.toNat)) ((pw p m).toNat / p.toNat)) (fun (i : Int) (B : Option Addr) (cb : Nat) (o : List Int) => (n + p - i).toNat) (0) (A2) (((n : Int) / p + 1).toNat) ([]) ⟨rfl, rfl, rfl, rfl, rfl, rfl, trivial⟩ (by first | exact cs _ _ | exact CSub.refl _) (⟨⟨by omega, by omega⟩, ⟨by simp, by simp⟩, fun j hj => by simp at hj⟩) (fun i B cb o hI => ?_)
 obtain ⟨⟨hi0, hi1⟩, ⟨hio, hon⟩, ho⟩ := hI
 refine tS ?_
 refine tS ?_
 refine tR fun _ _ _ => ?_
 iterate 2 refine pV ?_
 refine sV (rLen rfl rfl) ?_
 refine pV ?_
 refine tC rfl (fun h4 => ?_) (fun h4 => ?_)
 ·try simp only [zbA] at h4
  refine tK ?_
  refine tS ?_
  refine tB ?_
  refine tS ?_
  refine tr_draw [0, 1, 2, 3, 4, 5, 7, 6, 8, 9, 10, 11, 12, 13, 14] [] mixed (by kernel_rfl) fun _ _ _ => ?_
  iterate 3 refine pV ?_
  refine sV (rIdxI rfl rfl rfl (by omega) (by omega) (by omega)) ?_
  refine sV (rLdI rfl rfl (by omega)) ?_
  iterate 2 refine pV ?_
  refine eV (eCallV rfl rfl rfl (gf_Order _) ⟨rfl, trivial⟩ ?_)
  rw [heq]
  refine sV (rQuo rfl rfl rfl (by omega) (by omega)) ?_
  refine eV (eCallV rfl rfl rfl (gf_PowE g hg (a.getD i.toNat 0) (pw p m / p) hd0 (by omega)) ⟨rfl, rfl, rfl, trivial⟩ ?_)
  iterate 5 refine pV ?_
  refine tR fun _ _ _ => ?_
  iterate 2 refine pV ?_
  refine eV (eLit1I rfl rfl rfl rfl (fun A7 => ?_))
  refine eV (eAppI rfl rfl rfl rfl rfl (by first | rfl | simp | omega) (by first | rfl | simp | omega) (by first | omega | (simp; omega)) (fun A7a c7a => ?_))
  refine pV ?_
  refine tR fun _ _ _ => ?_
  iterate 2 refine pV ?_
  refine sV (rAdd rfl rfl rfl (by omega) (by omega)) ?_
  refine pV ?_
  refine ⟨i + p, A7a, c7a, o ++ [(Rg.pow (el (a.getD i.toNat 0) : El p m mod) (pw p m / p).toNat).1], ⟨rfl, rfl, rfl, rfl, rfl, rfl, trivial⟩, by first | exact cs _ _ | exact CSub.refl _, ?_⟩
  have hlt : o.length < n := by
   have h1 : (1 : Int) * o.length ≤ p * o.length := Int.mul_le_mul_of_nonneg_right (by omega) (by omega)
   omega
  have hxi : i.toNat = o.length * p.toNat := by
   have h2 : ((o.length * p.toNat : Nat) : Int) = p * o.length := by rw [Int.natCast_mul, Int.toNat_of_nonneg (by omega), Int.mul_comm]
   omega
  refine ⟨⟨⟨by omega, by omega⟩, ⟨?_, by simp; omega⟩, fun j hj => ?_⟩, by omega⟩
  ·rw [List.length_append, List.length_singleton]; push_cast; rw [Int.mul_add, Int.mul_one, ← hio]
  ·rw [List.length_append, List.length_singleton] at hj
   rcases Nat.lt_or_ge j o.length with h | h
   ·rw [List.getD_eq_getElem?_getD, List.getElem?_append_left h, ← List.getD_eq_getElem?_getD]; exact ho j h
   ·rw [show j = o.length by omega, List.getD_eq_getElem?_getD, List.getElem?_append_right (Nat.le_refl _), Nat.sub_self]
    show el (Rg.pow (el (a.getD i.toNat 0) : El p m mod) (pw p m / p).toNat).1 = _
    rw [el_of, hqd, hxi, cf_pol]
 ·try simp only [zbA] at h4
  refine tE ?_
  refine tS ?_
  refine tR fun _ _ _ => ?_
  iterate 2 refine pV ?_
  refine eV (eCall1 rfl rfl rfl (poly_CanonE g hg B o.length cb o rfl (by omega)) ⟨rfl, rfl, trivial⟩ ?_)
  rintro _ _ ⟨B8, c8, rfl, hc8, rfl⟩
  refine pV ?_
  have hp : (pol o : Po (El p m mod)) = rtP (pol a) := Po.ext fun j => by
   show el (o.getD j 0) = Rg.pow (Po.cf (pol a) (j * p.toNat)) ((pw p m).toNat / p.toNat)
   by_cases h : j < o.length
   ·exact ho j h
   ·have h1 : (o.length : Int) * p ≤ (j : Int) * p := Int.mul_le_mul_of_nonneg_right (by omega) (by omega)
    have h2 : ((j * p.toNat : Nat) : Int) = (j : Int) * p := by rw [Int.natCast_mul, Int.toNat_of_nonneg (by omega)]
    have h3 : a.length ≤ j * p.toNat := by rw [Int.mul_comm] at hio; omega
    have h4 : 0 < (pw p m).toNat / p.toNat := Nat.div_pos (by omega) (by omega)
    rw [getD_out (l := o) (by omega), cf_pol, getD_out (l := a) h3, el_zero, Rg.zero_pow h4]
  rw [hp]
  exact tr_ret ⟨trivial, _, _, rfl, ⟨_, rfl, B8, c8, rfl, rfl⟩, cs _ _, trivial, trivial⟩
section
variable {p m : Int} {mod : List Int} [hF : IsF p m mod]
open Po
theorem sqW_le {f w d : Po (El p m mod)} {n : Nat} (hf : f ≠ 0) (h : SqW f n w d) (hl : 2 ≤ len w) : n ≤ len f - 1 := by
 obtain ⟨P, hP, hPl, hd⟩ := ir_ex hl
 have h1 : 1 ≤ mu P w := (mu_le_iff hP h.w0 1).1 (by rw [Rg.pow_one]; exact hd)
 have h2 : n ≤ mu P f := by
  rw [h.w P hP] at h1
  split at h1
  ·rename_i h3; exact h3.2
  ·omega
 have h3 := dvd_len (mu_spec hP hf).1 hf
 rw [len_powN (hP.ne)] at h3
 have h4 : mu P f * 1 ≤ mu P f * (len P - 1) := Nat.mul_le_mul_left _ (by have := hP.two; omega)
 omega
theorem quo_le {f g : Po (El p m mod)} (hg : g ≠ 0) : len (quo f g) ≤ len f := by
 by_cases hk : quo f g = 0
 ·rw [hk, len_zero]; omega
 ·have h1 := Po.div_eq f hg
  have h2 := Po.rem_len f hg
  have h3 := Po.len_mul hk hg
  have h5 := Po.len_pos hk
  have e : Po.quo f g * g = f - Po.rem f g := by grind
  have h4 := Po.len_sub f (Po.rem f g)
  rw [← e] at h4
  omega
theorem rt_facts {d : Po (El p m mod)} (h : dP d = 0) (hl : 2 ≤ len d) : 2 ≤ len (Po.mon (rtP d)) ∧ len (Po.mon (rtP d)) < len d ∧ p.toNat * (len (Po.mon (rtP d)) - 1) = len d - 1 := by
 have h0 : d ≠ 0 := len_pos_iff.1 (by omega)
 have h1 := rtP_len h hl
 have h2 := len_powN (rtP_ne h h0) p.toNat
 rw [rtP_pow h] at h2
 rw [mon_len]
 exact ⟨h1.1, h1.2, by omega⟩
theorem sqI_yes {f w d : Po (El p m mod)} {n b : Nat} {fs : List FacM} {r : RowM} (hI : SqI f b (fun k => k < n ∧ (k : Int) % p ≠ 0) fs) (h : SqW f n w d) (hn : 1 ≤ n) (hb : 1 ≤ b) (hl : 2 ≤ len (quo w (Po.gcd w d))) (hx : r.xs = il (Po.mon (quo w (Po.gcd w d)))) : SqI f b (fun k => k < n + 1 ∧ (k : Int) % p ≠ 0) (fs ++ [⟨r, ((b * n : Nat) : Int)⟩]) := by
 obtain ⟨_, h1, h2⟩ := sqW_next h hn
 obtain ⟨h3, h4, h5⟩ := sqW_part h1 h2 hl
 have h6 := SqI.one (b := b) hx (mon_lead h1) (by rw [mon_len]; exact hl) hn h3 h5
 refine (hI.app h6 hb (fun k hk e => by omega)).congr (fun k hk => ?_) (fun P hP hPl h7 h8 => ?_)
 ·rcases hk with hk | hk
  ·exact ⟨by omega, hk.2⟩
  ·rw [hk]; exact ⟨by omega, h4⟩
 ·rcases Nat.lt_or_ge (mu P f) n with e | e
  ·exact .inl ⟨e, h8.2⟩
  ·exact .inr (by omega)
theorem sqI_no {f w d : Po (El p m mod)} {n b : Nat} {fs : List FacM} (hI : SqI f b (fun k => k < n ∧ (k : Int) % p ≠ 0) fs) (h : SqW f n w d) (hn : 1 ≤ n) (hl : ¬ 2 ≤ len (quo w (Po.gcd w d))) : SqI f b (fun k => k < n + 1 ∧ (k : Int) % p ≠ 0) fs := by
 obtain ⟨_, h1, h2⟩ := sqW_next h hn
 have h3 := sqW_small h1 h2 hl
 refine hI.congr (fun k hk => ⟨by omega, hk.2⟩) (fun P hP hPl h7 h8 => ⟨Nat.lt_of_le_of_ne (by omega) (fun e => h3 P hP hPl ⟨h8.2, e⟩), h8.2⟩)
theorem sqI_fin1 {f w d : Po (El p m mod)} {n b : Nat} {fs : List FacM} (hI : SqI f b (fun k => k < n ∧ (k : Int) % p ≠ 0) fs) (h : SqW f n w d) (hl : ¬ 2 ≤ len w) (hd : ¬ 2 ≤ len d) : SqI f b (fun _ => True) fs := by
 obtain ⟨h1, h2, h3⟩ := sqW_done h hl
 refine hI.congr (fun _ _ => trivial) (fun P hP hPl h7 _ => ?_)
 have h4 : ((mu P f : Nat) : Int) % p ≠ 0 := fun e => by
  have h5 := h3 P hP hPl
  rw [if_pos e] at h5
  have h6 : P ∣ d := by
   have := (mu_le_iff hP h.c0 1).2 (by omega)
   rwa [Rg.pow_one] at this
  have := dvd_len h6 h.c0
  have := hP.two
  omega
 exact ⟨h1 P hP hPl h4, h4⟩
theorem sqI_fin2 {f w d : Po (El p m mod)} {n b : Nat} {fs gs : List FacM} (hI : SqI f b (fun k => k < n ∧ (k : Int) % p ≠ 0) fs) (h : SqW f n w d) (hl : ¬ 2 ≤ len w) (hb : 1 ≤ b) (hg : SqI (Po.mon (rtP d)) (b * p.toNat) (fun _ => True) gs) : SqI f b (fun _ => True) (fs ++ gs) := by
 obtain ⟨h1, h2, h3⟩ := sqW_done h hl
 refine (hI.app (SqI.root h.c0 h2 h3 hg) hb (fun k hk e => hk.2 e)).congr (fun _ _ => trivial) (fun P hP hPl h7 _ => ?_)
 by_cases e : ((mu P f : Nat) : Int) % p = 0
 ·exact .inr e
 ·exact .inl ⟨h1 P hP hPl e, e⟩
end
theorem fac_sqfB_ent : Enters Try.prog 89 := enters_of Try.func89 (by kernel_rfl) (by kernel_rfl)
theorem fac_sqfB (g : GfM) {p m : Int} {mod : List Int} [hF : IsF p m mod] (hg : GOk g p m mod) (A : Option Addr) (n c : Nat) (f : Po (El p m mod)) (hn : n = Po.len f) (hl : Po.lead f = 1) (h9 : Po.len f ≤ 257) (b : Nat) (hb : 1 ≤ b) (hb9 : b * (Po.len f - 1) ≤ 1000000) (ih : ∀ (f2 : Po (El p m mod)) (b2 : Nat) (A2 : Option Addr) (n2 c2 : Nat), Po.len f2 < Po.len f → n2 = Po.len f2 → Po.lead f2 = 1 → 1 ≤ b2 → b2 * (Po.len f2 - 1) ≤ 1000000 → Pure Try.prog 89 #[.pointer (some g.p), .slice A2 n2 c2, .int .i64 b2] [gfR g, ro A2 (ints (il f2))] (two (fun v ch ch2 => ∃ B cap fs, v = .slice B fs.length cap ∧ ch = ow2 B 64 cap (fcs fs) ∧ ch2 = rowsCh 3 (rws fs) ∧ SqI (f2) (b2) (fun _ => True) fs ∧ fs.length ≤ 1000 * Po.len (f2)))) :
  Pure Try.prog 89 #[.pointer (some g.p), .slice A n c, .int .i64 b] [gfR g, ro A (ints (il f))] (two (fun v ch ch2 => ∃ B cap fs, v = .slice B fs.length cap ∧ ch = ow2 B 64 cap (fcs fs) ∧ ch2 = rowsCh 3 (rws fs) ∧ SqI (f) (b) (fun _ => True) fs ∧ fs.length ≤ 1000 * Po.len (f))) := by
 have hf : f ≠ 0 := fun e => by
  rw [e] at hl
  exact Fd.one_ne (K := El p m mod) (hl.symm.trans (by unfold Po.lead; exact Po.cf_zero _))
 have hfl := Po.len_pos hf
 have hp2 := hF.p2
 have hgm := gk_mod hg
 have hil := il_length f
 have hstart := sqW_start hf
 have q1 := len_dP f
 have q2 := il_length (dP f)
 have q3 := il_length (Po.gcd f (dP f))
 have q4 := Po.dvd_len (Po.gcd_is f (dP f)).left hf
 refine pure_of (args := [.pointer (some g.p), .slice A n c, .int .i64 b]) 72 Try.func89 rfl rfl rfl fac_sqfB_ent ⟨id, id, trivial⟩ (fun w0 => ?_)
 refine tS ?_
 refine tR fun _ _ _ => ?_
 refine pV ?_
 refine tS ?_
 refine tR fun _ _ _ => ?_
 refine pV ?_
 refine tS ?_
 refine tR fun _ _ _ => ?_
 iterate 4 refine pV ?_
 refine eV (eCall1 rfl rfl rfl (poly_Derivative g hg A n c (il f) (by omega) (by omega)) ⟨rfl, rfl, trivial⟩ ?_)
 rintro _ _ ⟨Bd, cd, rfl, rfl⟩
 rw [pol_il]
 refine eV (eCall1 rfl rfl rfl (poly_Gcd g hg A n c (il f) (by omega) (by omega) Bd _ cd (il (dP f)) rfl (by omega) (.inl (by rw [pol_il]; exact hf))) ⟨rfl, rfl, rfl, trivial⟩ ?_)
 rintro _ _ ⟨Bc, cc, rfl, rfl⟩
 refine pV ?_
 rw [pol_il, pol_il]
 refine tS ?_
 refine tR fun _ _ _ => ?_
 iterate 3 refine pV ?_
 refine eV (eCall1 rfl rfl rfl (fac_quo g hg A n c (il f) (by omega) (by omega) Bc _ cc (il (Po.gcd f (dP f))) rfl (by omega) (by rw [pol_il]; exact hstart.c0)) ⟨rfl, rfl, rfl, trivial⟩ ?_)
 rintro _ _ ⟨Bw, cw, rfl, rfl⟩
 refine pV ?_
 rw [pol_il, pol_il]
 refine tS ?_
 refine tS ?_
 refine tR fun _ _ _ => ?_
 refine pV ?_
 refine tB ?_
 refine tr_nilQ 64 3 ?_
 refine tr_loop10 (fun (k : Int) (B : Option Addr) (cb : Nat) (fs : List FacM) (Bc : Option Addr) (cc : Nat) (d : Po (El p m mod)) (Bw : Option Addr) (cw : Nat) (w : Po (El p m mod)) => [(10, .int .i64 k), (7, .slice B fs.length cb), (8, .slice Bc (il d).length cc), (9, .slice Bw (il w).length cw), (0, .pointer (some g.p)), (2, .int .i64 b), (6, .slice none 0 0)]) (fun (k : Int) (B : Option Addr) (cb : Nat) (fs : List FacM) (Bc : Option Addr) (cc : Nat) (d : Po (El p m mod)) (Bw : Option Addr) (cw : Nat) (w : Po (El p m mod)) => [ow2 B 64 cb (fcs fs), rowsCh 3 (rws fs), ow Bc 3 cc (ints (il d)), ow Bw 3 cw (ints (il w)), gfR g, ro A (ints (il f))]) (fun (k : Int) (B : Option Addr) (cb : Nat) (fs : List FacM) (Bc : Option Addr) (cc : Nat) (d : Po (El p m mod)) (Bw : Option Addr) (cw : Nat) (w : Po (El p m mod)) => (1 ≤ k ∧ fs.length + 1 ≤ k.toNat) ∧ k.toNat ≤ Po.len f ∧ SqW f k.toNat w d ∧ SqI f b (fun j => j < k.toNat ∧ (j : Int) % p ≠ 0) fs ∧ Po.len w ≤ Po.len f ∧ Po.len d ≤ Po.len f) (fun (k : Int) (B : Option Addr) (cb : Nat) (fs : List FacM) (Bc : Option Addr) (cc : Nat) (d : Po (El p m mod)) (Bw : Option Addr) (cw : Nat) (w : Po (El p m mod)) => Po.len f - k.toNat) (1) (none) (0) ([]) (Bc) (cc) (Po.gcd f (dP f)) (Bw) (cw) (Po.quo f (Po.gcd f (dP f))) ⟨rfl, rfl, rfl, rfl, rfl, rfl, rfl, trivial⟩ (by first | exact cs _ _ | exact CSub.refl _) (⟨⟨by omega, by simp⟩, by show 1 ≤ _; omega, hstart, SqI.nil (fun P _ _ h1 h2 => by have := h2.1; simp at this; omega), quo_le hstart.c0, Po.dvd_len (Po.gcd_is f (dP f)).left hf⟩) (fun k B cb fs Bc cc d Bw cw w hI => ?_)
 obtain ⟨⟨hk0, hk1⟩, hkl, hS, hQ, hwl, hdl⟩ := hI
 refine tS ?_
 refine tS ?_
 refine tR fun _ _ _ => ?_
 refine pV ?_
 refine sV (rLen rfl rfl) ?_
 refine pV ?_
 refine tC rfl (fun h5 => ?_) (fun h5 => ?_)
 ·try simp only [zbA] at h5
  refine tK ?_
  refine tS ?_
  refine tB ?_
  refine tS ?_
  have hw2 : 2 ≤ Po.len w := by rw [← il_length]; omega
  have hnx := sqW_next hS (n := k.toNat) (by omega)
  have hkf := sqW_le hf hS hw2
  have hgl := Po.dvd_len (Po.gcd_is w d).left hS.w0
  have hql := quo_le (f := d) hnx.1.w0
  have e1 := il_length w
  have e2 := il_length d
  have e3 := il_length (Po.gcd w d)
  have e4 := il_length (Po.quo w (Po.gcd w d))
  have e5 := quo_le (f := w) hnx.1.w0
  have hkb : k.toNat * b ≤ (Po.len f - 1) * b := Nat.mul_le_mul_right _ hkf
  rw [Nat.mul_comm (Po.len f - 1)] at hkb
  have hkb2 : k * (b : Int) = ((b * k.toNat : Nat) : Int) := by rw [Nat.mul_comm, Int.natCast_mul, Int.toNat_of_nonneg (by omega)]
  have hkb3 : b * k.toNat ≤ 1000000 := by rw [Nat.mul_comm]; omega
  refine tR fun _ _ _ => ?_
  iterate 3 refine pV ?_
  refine eV (eCall1 rfl rfl rfl (poly_Gcd g hg Bw _ cw (il w) rfl (by omega) Bc _ cc (il d) rfl (by omega) (.inl (by rw [pol_il]; exact hS.w0))) ⟨rfl, rfl, rfl, trivial⟩ ?_)
  rintro _ _ ⟨By, cy, rfl, rfl⟩
  refine pV ?_
  rw [pol_il, pol_il]
  refine tS ?_
  refine tS ?_
  refine tR fun _ _ _ => ?_
  iterate 3 refine pV ?_
  refine eV (eCall1 rfl rfl rfl (fac_quo g hg Bw _ cw (il w) rfl (by omega) By _ cy (il (Po.gcd w d)) rfl (by omega) (by rw [pol_il]; exact hnx.1.w0)) ⟨rfl, rfl, rfl, trivial⟩ ?_)
  rintro _ _ ⟨Bp, cp, rfl, rfl⟩
  refine pV ?_
  rw [pol_il, pol_il]
  refine tS ?_
  refine tR fun _ _ _ => ?_
  refine pV ?_
  refine sV (rLen rfl rfl) ?_
  refine pV ?_
  refine tC rfl (fun h9 => ?_) (fun h9 => ?_)
  ·try simp only [zbA] at h9
   refine tR fun _ _ _ => ?_
   iterate 3 refine pV ?_
   refine eV (eCall1 rfl rfl rfl (fac_monic g hg Bp _ cp (il (Po.quo w (Po.gcd w d))) rfl (by omega) (by rw [pol_il]; exact hnx.2.1)) ⟨rfl, rfl, trivial⟩ ?_)
   rintro _ _ ⟨Bm, cm, rfl, rfl⟩
   rw [pol_il]
   iterate 2 refine pV ?_
   refine sV (rMul rfl rfl rfl (by omega) (by omega)) ?_
   rw [hkb2]
   refine sV (rBuild rfl rfl) ?_
   refine eV (eLitS rfl rfl rfl rfl (fun p10 => ?_))
   refine eV (eApp2 rfl rfl rfl rfl rfl (by first | rfl | simp) rfl (by first | (simp; done) | (simp; omega)) (by first | (simp; done) | (simp; omega)) (fun A10a c10a => ?_))
   refine pV ?_
   rw [fcs_snoc, fcs_length]
   refine tR fun _ _ _ => ?_
   iterate 4 refine pV ?_
   refine eV (eCall1 rfl rfl rfl (fac_quo g hg Bc _ cc (il d) rfl (by omega) By _ cy (il (Po.gcd w d)) rfl (by omega) (by rw [pol_il]; exact hnx.1.w0)) ⟨rfl, rfl, rfl, trivial⟩ ?_)
   rintro _ _ ⟨Bq, cq, rfl, rfl⟩
   iterate 2 refine pV ?_
   rw [pol_il, pol_il]
   refine tR fun _ _ _ => ?_
   refine pV ?_
   refine sV (rAdd rfl rfl rfl (by omega) (by omega)) ?_
   refine pV ?_
   refine ⟨k + 1, A10a, c10a, fs ++ [⟨⟨Bm, cm, il (Po.mon (Po.quo w (Po.gcd w d)))⟩, ((b * k.toNat : Nat) : Int)⟩], Bq, cq, Po.quo d (Po.gcd w d), By, cy, Po.gcd w d, ⟨rfl, rfl, rfl, rfl, rfl, rfl, rfl, trivial⟩, by rw [rws_app]; exact rows_app (r := ⟨Bm, cm, il (Po.mon (Po.quo w (Po.gcd w d)))⟩), ?_⟩
   have hs1 : (k + 1).toNat = k.toNat + 1 := by omega
   refine ⟨⟨⟨by omega, by simp; omega⟩, by omega, by rw [hs1]; exact hnx.1, ?_, by omega, by omega⟩, by omega⟩
   rw [hs1]
   exact sqI_yes hQ hS (by omega) hb (by rw [← il_length]; omega) rfl
  ·try simp only [zbA] at h9
   refine tK ?_
   refine tR fun _ _ _ => ?_
   iterate 4 refine pV ?_
   refine eV (eCall1 rfl rfl rfl (fac_quo g hg Bc _ cc (il d) rfl (by omega) By _ cy (il (Po.gcd w d)) rfl (by omega) (by rw [pol_il]; exact hnx.1.w0)) ⟨rfl, rfl, rfl, trivial⟩ ?_)
   rintro _ _ ⟨Bq, cq, rfl, rfl⟩
   iterate 2 refine pV ?_
   rw [pol_il, pol_il]
   refine tR fun _ _ _ => ?_
   refine pV ?_
   refine sV (rAdd rfl rfl rfl (by omega) (by omega)) ?_
   refine pV ?_
   refine ⟨k + 1, B, cb, fs, Bq, cq, Po.quo d (Po.gcd w d), By, cy, Po.gcd w d, ⟨rfl, rfl, rfl, rfl, rfl, rfl, rfl, trivial⟩, by first | exact cs _ _ | exact CSub.refl _, ?_⟩
   have hs1 : (k + 1).toNat = k.toNat + 1 := by omega
   refine ⟨⟨⟨by omega, by omega⟩, by omega, by rw [hs1]; exact hnx.1, ?_, by omega, by omega⟩, by omega⟩
   rw [hs1]
   exact sqI_no hQ hS (by omega) (by rw [← il_length]; omega)
 ·try simp only [zbA] at h5
  refine tE ?_
  refine tS ?_
  refine tS ?_
  refine tR fun _ _ _ => ?_
  refine pV ?_
  refine sV (rLen rfl rfl) ?_
  refine pV ?_
  refine tC rfl (fun h12 => ?_) (fun h12 => ?_)
  ·try simp only [zbA] at h12
   have hw1 : ¬ 2 ≤ Po.len w := by rw [← il_length]; omega
   have hd2 : 2 ≤ Po.len d := by rw [← il_length]; omega
   have hdn := sqW_done hS hw1
   have hrt := rt_facts hdn.2.1 hd2
   have e2 := il_length d
   have e3 := il_length (rtP d)
   have e4 := il_length (Po.mon (rtP d))
   have e5 := Po.mon_len (rtP d)
   have hrb : b * p.toNat * (Po.len (Po.mon (rtP d)) - 1) ≤ 1000000 := by
    rw [Nat.mul_assoc, hrt.2.2]
    exact Nat.le_trans (Nat.mul_le_mul_left b (by omega)) hb9
   have hbp : b * p.toNat * 1 ≤ b * p.toNat * (Po.len (Po.mon (rtP d)) - 1) := Nat.mul_le_mul_left _ (by omega)
   have hbp2 : (b : Int) * p = ((b * p.toNat : Nat) : Int) := by rw [Int.natCast_mul, Int.toNat_of_nonneg (by omega)]
   refine tR fun _ _ _ => ?_
   iterate 5 refine pV ?_
   refine eV (eCall1 rfl rfl rfl (fac_root g hg Bc _ cc (il d) rfl (by omega)) ⟨rfl, rfl, trivial⟩ ?_)
   rintro _ _ ⟨Br, cr, rfl, rfl⟩
   rw [pol_il]
   refine eV (eCall1 rfl rfl rfl (fac_monic g hg Br _ cr (il (rtP d)) rfl (by omega) (by rw [pol_il]; exact rtP_ne hdn.2.1 hS.c0)) ⟨rfl, rfl, trivial⟩ ?_)
   rintro _ _ ⟨Bn, cn, rfl, rfl⟩
   rw [pol_il]
   iterate 2 refine pV ?_
   refine eV (eCall1 rfl rfl rfl (gf_Field g hgm) ⟨rfl, trivial⟩ ?_)
   rintro _ _ ⟨Bf, cf, rfl, rfl⟩
   refine sV (rField rfl rfl rfl) ?_
   rw [hg.eP]
   refine sV (rMul rfl rfl rfl (by omega) (by omega)) ?_
   rw [hbp2]
   refine eV (eCall2 rfl rfl rfl (ih (Po.mon (rtP d)) (b * p.toNat) Bn _ cn (by omega) (by rw [il_length]) (Po.mon_lead (rtP_ne hdn.2.1 hS.c0)) (Nat.mul_pos hb (by omega)) hrb) ⟨rfl, rfl, rfl, trivial⟩ ?_)
   rintro _ _ _ ⟨Bg, cg, gs, rfl, rfl, rfl, hgs, hgl⟩
   refine eV (eApp2G (ps := fcs fs) (qs := fcs gs) rfl rfl rfl rfl rfl (by simp) (by simp) (fcs_one gs) (by simp; omega) (by simp; omega) (fun A13a c13a => ?_))
   refine pV ?_
   rw [← fcs_app, fcs_length]
   have hfin := sqI_fin2 hQ hS hw1 hb hgs
   refine tS ?_
   refine tR fun _ _ _ => ?_
   iterate 2 refine pV ?_
   first
    | exact tr_ret ⟨trivial, _, _, rfl, ⟨_, _, rfl, A13a, c13a, fs ++ gs, rfl, rfl, rfl, hfin, by rw [List.length_append]; omega⟩, (cs _ [ow2 A13a 64 c13a (fcs (fs ++ gs)), rowsCh 3 (rws fs), rowsCh 3 (rws gs)]).trans (by rw [rws_app]; exact CSub.cons _ (rows_join _ _ _)), trivial, trivial, trivial⟩
    | exact tr_ret ⟨trivial, _, _, rfl, ⟨_, _, rfl, B, cb, fs, rfl, rfl, rfl, sqI_fin1 hQ hS (by rw [← il_length]; omega) (by rw [← il_length]; omega), by omega⟩, cs _ _, trivial, trivial, trivial⟩
  ·try simp only [zbA] at h12
   refine tK ?_
   refine tS ?_
   refine tR fun _ _ _ => ?_
   iterate 2 refine pV ?_
   first
    | exact tr_ret ⟨trivial, _, _, rfl, ⟨_, _, rfl, A13a, c13a, fs ++ gs, rfl, rfl, rfl, hfin, by rw [List.length_append]; omega⟩, (cs _ [ow2 A13a 64 c13a (fcs (fs ++ gs)), rowsCh 3 (rws fs), rowsCh 3 (rws gs)]).trans (by rw [rws_app]; exact CSub.cons _ (rows_join _ _ _)), trivial, trivial, trivial⟩
    | exact tr_ret ⟨trivial, _, _, rfl, ⟨_, _, rfl, B, cb, fs, rfl, rfl, rfl, sqI_fin1 hQ hS (by rw [← il_length]; omega) (by rw [← il_length]; omega), by omega⟩, cs _ _, trivial, trivial, trivial⟩
theorem fac_sqfN (g : GfM) {p m : Int} {mod : List Int} [hF : IsF p m mod] (hg : GOk g p m mod) : ∀ (N : Nat) (f : Po (El p m mod)) (b : Nat) (A : Option Addr) (n c : Nat), Po.len f ≤ N → n = Po.len f → Po.lead f = 1 → Po.len f ≤ 257 → 1 ≤ b → b * (Po.len f - 1) ≤ 1000000 → Pure Try.prog 89 #[.pointer (some g.p), .slice A n c, .int .i64 b] [gfR g, ro A (ints (il f))] (two (fun v ch ch2 => ∃ B cap fs, v = .slice B fs.length cap ∧ ch = ow2 B 64 cap (fcs fs) ∧ ch2 = rowsCh 3 (rws fs) ∧ SqI (f) (b) (fun _ => True) fs ∧ fs.length ≤ 1000 * Po.len (f)))
 | 0, f, b, A, n, c, hN, hn, hl, h9, hb, hb9 => fac_sqfB g hg A n c f hn hl h9 b hb hb9 fun f2 b2 A2 n2 c2 h2 => absurd h2 (by omega)
 | N + 1, f, b, A, n, c, hN, hn, hl, h9, hb, hb9 => fac_sqfB g hg A n c f hn hl h9 b hb hb9 fun f2 b2 A2 n2 c2 h2 h3 h4 h5 h6 => fac_sqfN g hg N f2 b2 A2 n2 c2 (by omega) h3 h4 (by omega) h5 h6
theorem fac_sqf (g : GfM) {p m : Int} {mod : List Int} [hF : IsF p m mod] (hg : GOk g p m mod) (A : Option Addr) (n c : Nat) (f : Po (El p m mod)) (hn : n = Po.len f) (hl : Po.lead f = 1) (h9 : Po.len f ≤ 257) : Pure Try.prog 89 #[.pointer (some g.p), .slice A n c, .int .i64 1] [gfR g, ro A (ints (il f))] (two (fun v ch ch2 => ∃ B cap fs, v = .slice B fs.length cap ∧ ch = ow2 B 64 cap (fcs fs) ∧ ch2 = rowsCh 3 (rws fs) ∧ SqI (f) (1) (fun _ => True) fs ∧ fs.length ≤ 1000 * Po.len (f))) :=
 fac_sqfN g hg _ f 1 A n c (Nat.le_refl _) hn hl h9 (Nat.le_refl _) (by omega)
end Go.Proofs.Ytbhoeaijpnjgdaa

namespace Go.Proofs.Ytbhoeaijpnjgdaa
open Go
def RD {α : Type} (d : Nat) : Result α → Prop
 | .ok _ w => d ≤ w.drawn
 | .halt _ w => d ≤ w.drawn
def GD (d : Nat) : GStep → Prop
 | .ended _ _ _ => True
 | .go _ w _ => d ≤ w.drawn
 | .comm _ _ _ _ w _ => d ≤ w.drawn
 | .spawn _ _ w _ => d ≤ w.drawn
 | .count _ w _ => d ≤ w.drawn
 | .timer _ _ w _ => d ≤ w.drawn
 | .alone _ _ w _ => d ≤ w.drawn
 | .newcoro _ _ _ w _ => d ≤ w.drawn
 | .coroswitch _ _ _ w _ => d ≤ w.drawn
 | .collect _ w _ => d ≤ w.drawn
 | .watch _ w _ => d ≤ w.drawn
theorem RD.mono {α : Type} {d e : Nat} {r : Result α} (h : RD e r) (hd : d ≤ e) : RD d r := by cases r <;> exact Nat.le_trans hd h
theorem GD.mono {d e : Nat} {r : GStep} (h : GD e r) (hd : d ≤ e) : GD d r := by cases r <;> first | trivial | exact Nat.le_trans hd h
theorem gd_after {d : Nat} {es : Array Event} {s : GStep} (h : GD d s) : GD d (GStep.after es s) := by cases s <;> exact h
theorem ask_drawn {α : Type} : ∀ (k : Ask α) (w : World), w.drawn ≤ (w.ask k).2.drawn
 | .done a, w => Nat.le_refl _
 | .ask what range k, w => by
  unfold World.ask
  simp only
  split
  ·exact ask_drawn _ w
  ·exact Nat.le_trans (Nat.le_succ _) (ask_drawn _ { w with drawn := w.drawn + 1 })
theorem sys_drawn (c : Sys) (w : World) : w.drawn ≤ (w.sys c).2.drawn := by
 have h := ask_drawn (Kernel.perform c w.os) w
 unfold World.sys
 split
 ·exact Nat.le_refl _
 ·rename_i heq
  rw [heq] at h
  exact h
theorem view_drawn {p : Program} {w w' : World} {a k : Addr} {u : TypeId} {v : Value} {b : Bool} {l : List Addr} (h : w.viewStore p a u k v b = .ok (w', l)) : w'.drawn = w.drawn := by
 unfold World.viewStore at h
 simp only [bind, Except.bind, pure, Except.pure, throw, throwThe, MonadExceptOf.throw] at h
 repeat' split at h
 all_goals first
  | (cases h; done)
  | (cases h; rfl)
  | skip
theorem far_drawn {p : Program} {w w' : World} {a : Addr} {v : Value} {b : Bool} {l : List Addr} (h : w.farStore p a v b = .ok (w', l)) : w'.drawn = w.drawn := by
 unfold World.farStore at h
 split at h
 ·split at h
  ·rename_i h2
   simp only [Except.ok.injEq] at h
   subst h
   exact view_drawn h2
  ·cases h
 ·cases h
theorem freeze_drawn (w : World) (a : Addr) (n : Nat) : (w.freeze a n).drawn = w.drawn := by
 unfold World.freeze
 split <;> rfl
theorem run_rd {α : Type} (p : Program) : ∀ (s : Sem α) (w : World), RD w.drawn (s.run p w)
 | .pure a, w => by unfold Sem.run; exact Nat.le_refl _
 | .load m a k, w => by
  unfold Sem.run
  split
  ·exact run_rd p _ w
  ·split
   ·exact run_rd p _ w
   ·exact Nat.le_refl _
 | .store m a v k, w => by
  have h1 := run_rd p k
  cases v <;> simp only [Sem.run] <;> first
   | exact Nat.le_refl _
   | (split <;> split <;> first | exact Nat.le_refl _ | exact h1 (w.setCell _ _) | (rename_i h; exact (h1 _).mono (by rw [far_drawn h]; exact Nat.le_refl _)))
 | .new o k, w => by unfold Sem.run; exact run_rd p _ _
 | .shape r k, w => by unfold Sem.run; exact run_rd p _ _
 | .freeze a n k, w => by unfold Sem.run; exact (run_rd p k _).mono (by rw [freeze_drawn]; exact Nat.le_refl _)
 | .frozen a k, w => by unfold Sem.run; exact run_rd p _ _
 | .getObj r k, w => by
  unfold Sem.run
  split
  ·exact Nat.le_refl _
  ·exact run_rd p _ _
  ·exact Nat.le_refl _
 | .setObj r o k, w => by
  unfold Sem.run
  split
  ·exact Nat.le_refl _
  ·exact run_rd p k _
  ·exact Nat.le_refl _
 | .choose q k, w => by
  unfold Sem.run
  split
  ·exact run_rd p _ _
  ·exact (run_rd p _ { w with drawn := w.drawn + 1 }).mono (Nat.le_succ _)
 | .sys c k, w => by unfold Sem.run; exact (run_rd p _ _).mono (sys_drawn c w)
 | .program k, w => by unfold Sem.run; exact run_rd p _ _
 | .mark m k, w => by unfold Sem.run; exact run_rd p _ _
 | .halt h, w => by unfold Sem.run; exact Nat.le_refl _
theorem runT_rd {α : Type} (p : Program) : ∀ (s : Sem α) (w : World) (es : Array Event), RD w.drawn (s.runT p w es).1
 | .pure a, w, es => by unfold Sem.runT; exact Nat.le_refl _
 | .load m a k, w, es => by
  unfold Sem.runT
  split
  ·exact runT_rd p _ w _
  ·split
   ·exact runT_rd p _ w _
   ·exact Nat.le_refl _
 | .store m a v k, w, es => by
  have h1 := runT_rd p k
  cases v <;> simp only [Sem.runT] <;> first
   | exact Nat.le_refl _
   | (split <;> split <;> first | exact Nat.le_refl _ | exact h1 (w.setCell _ _) _ | (rename_i h; exact (h1 _ _).mono (by rw [far_drawn h]; exact Nat.le_refl _)))
 | .new o k, w, es => by unfold Sem.runT; exact runT_rd p _ _ _
 | .shape r k, w, es => by unfold Sem.runT; exact runT_rd p _ _ _
 | .freeze a n k, w, es => by unfold Sem.runT; exact (runT_rd p k _ _).mono (by rw [freeze_drawn]; exact Nat.le_refl _)
 | .frozen a k, w, es => by unfold Sem.runT; exact runT_rd p _ _ _
 | .getObj r k, w, es => by
  unfold Sem.runT
  split
  ·exact Nat.le_refl _
  ·exact runT_rd p _ _ _
  ·exact Nat.le_refl _
 | .setObj r o k, w, es => by
  unfold Sem.runT
  split
  ·exact Nat.le_refl _
  ·exact runT_rd p k _ _
  ·exact Nat.le_refl _
 | .choose q k, w, es => by
  unfold Sem.runT
  split
  ·exact runT_rd p _ _ _
  ·exact (runT_rd p _ { w with drawn := w.drawn + 1 } _).mono (Nat.le_succ _)
 | .sys c k, w, es => by unfold Sem.runT; exact (runT_rd p _ _ _).mono (sys_drawn c w)
 | .program k, w, es => by unfold Sem.runT; exact runT_rd p _ _ _
 | .mark m k, w, es => by unfold Sem.runT; exact runT_rd p _ _ _
 | .halt h, w, es => by unfold Sem.runT; exact Nat.le_refl _
theorem run_ok {α : Type} {p : Program} {s : Sem α} {w w' : World} {a : α} (h : s.run p w = .ok a w') : w.drawn ≤ w'.drawn := by have := run_rd p s w; rw [h] at this; exact this
theorem run_no {α : Type} {p : Program} {s : Sem α} {w w' : World} {a : Halt} (h : s.run p w = .halt a w') : w.drawn ≤ w'.drawn := by have := run_rd p s w; rw [h] at this; exact this
theorem runT_ok {α : Type} {p : Program} {s : Sem α} {w w' : World} {a : α} {es es' : Array Event} (h : s.runT p w es = (.ok a w', es')) : w.drawn ≤ w'.drawn := by have := runT_rd p s w es; rw [h] at this; exact this
theorem runT_no {α : Type} {p : Program} {s : Sem α} {w w' : World} {a : Halt} {es es' : Array Event} (h : s.runT p w es = (.halt a w', es')) : w.drawn ≤ w'.drawn := by have := runT_rd p s w es; rw [h] at this; exact this
theorem runT1_ok {α : Type} {p : Program} {s : Sem α} {w w' : World} {a : α} {es : Array Event} (h : (s.runT p w es).1 = .ok a w') : w.drawn ≤ w'.drawn := by have := runT_rd p s w es; rw [h] at this; exact this
theorem runT1_no {α : Type} {p : Program} {s : Sem α} {w w' : World} {a : Halt} {es : Array Event} (h : (s.runT p w es).1 = .halt a w') : w.drawn ≤ w'.drawn := by have := runT_rd p s w es; rw [h] at this; exact this
theorem itT_ok {α : Type} {p : Program} {b : Bool} {s : Sem α} {w w' : World} {a : α} {es es' : Array Event} (h : (if b then s.runT p w es else (s.run p w, es')).1 = .ok a w') : w.drawn ≤ w'.drawn := by
 cases b
 ·exact run_ok h
 ·exact runT1_ok h
theorem itT_no {α : Type} {p : Program} {b : Bool} {s : Sem α} {w w' : World} {a : Halt} {es es' : Array Event} (h : (if b then s.runT p w es else (s.run p w, es')).1 = .halt a w') : w.drawn ≤ w'.drawn := by
 cases b
 ·exact run_no h
 ·exact runT1_no h
theorem gd_doReturn (p : Program) (main : Bool) (fr : Frame) (cs : List Frame) (dying : Option Dying) (v : Value) (w : World) : GD w.drawn (doReturn p main fr cs dying v w) := by
 unfold doReturn
 repeat' (first | apply gd_after | split)
 all_goals try (first | trivial | (first | exact Nat.le_refl _ | exact run_ok (by assumption) | exact run_no (by assumption) | exact runT_ok (by assumption) | exact runT_no (by assumption) | exact runT1_ok (by assumption) | exact runT1_no (by assumption) | assumption))
theorem gd_endWith (w : World) (fd : Nat) (b : ByteArray) (o : Outcome) : GD w.drawn (endWith w fd b o) := by
 unfold endWith
 repeat' (first | apply gd_after | split)
 all_goals try (first | trivial | (first | exact Nat.le_refl _ | exact run_ok (by assumption) | exact run_no (by assumption) | exact runT_ok (by assumption) | exact runT_no (by assumption) | exact runT1_ok (by assumption) | exact runT1_no (by assumption) | assumption))
theorem gd_endThrow (fr : Frame) (m : String) (w : World) : GD w.drawn (endThrow fr m w) := by
 unfold endThrow
 repeat' (first | apply gd_after | split)
 all_goals try (first | trivial | (first | exact Nat.le_refl _ | exact run_ok (by assumption) | exact run_no (by assumption) | exact runT_ok (by assumption) | exact runT_no (by assumption) | exact runT1_ok (by assumption) | exact runT1_no (by assumption) | assumption))
theorem gd_endPrinting (p : Program) (fr : Frame) (v : Value) (w : World) : GD w.drawn (endPrinting p fr v w) := by
 unfold endPrinting
 dsimp only
 split
 ·exact gd_endThrow _ _ _
 ·trivial
theorem gd_dieOf (fr : Frame) (l : List ByteArray) (m : String) (b : Bool) (w : World) : GD w.drawn (dieOf fr l m b w) := Nat.le_refl _
theorem gd_endFatal (p : Program) (fr : Frame) (cs : List Frame) (dying : Option Dying) (m : String) (w : World) : GD w.drawn (endFatal p fr cs dying m w) := by
 unfold endFatal
 extract_lets chain raw shown
 generalize shown = sh
 split
 ·exact (gd_dieOf _ _ _ _ _).mono (by (first | exact Nat.le_refl _ | exact run_ok (by assumption) | exact run_no (by assumption) | exact runT_ok (by assumption) | exact runT_no (by assumption) | exact runT1_ok (by assumption) | exact runT1_no (by assumption) | assumption))
 ·trivial
 ·trivial
theorem gd_writeOn (p : Program) (fr : Frame) (d : Dying) (f : Fatal) (w : World) : GD w.drawn (writeOn p fr d f w) := by
 unfold writeOn
 extract_lets on
 split
 ·trivial
 ·extract_lets write
  generalize write = sh
  split <;> first | trivial | (first | exact Nat.le_refl _ | exact run_ok (by assumption) | exact run_no (by assumption) | exact runT_ok (by assumption) | exact runT_no (by assumption) | exact runT1_ok (by assumption) | exact runT1_no (by assumption) | assumption)
theorem gd_die (p : Program) (fr : Frame) (d : Dying) (w : World) : GD w.drawn (die p fr d w) := by
 unfold die
 repeat' (first | apply gd_after | split)
 all_goals try (first | trivial | (first | exact Nat.le_refl _ | exact run_ok (by assumption) | exact run_no (by assumption) | exact runT_ok (by assumption) | exact runT_no (by assumption) | exact runT1_ok (by assumption) | exact runT1_no (by assumption) | assumption) | exact (gd_doReturn _ _ _ _ _ _ _).mono (by (first | exact Nat.le_refl _ | exact run_ok (by assumption) | exact run_no (by assumption) | exact runT_ok (by assumption) | exact runT_no (by assumption) | exact runT1_ok (by assumption) | exact runT1_no (by assumption) | assumption)) | exact (gd_endWith _ _ _ _).mono (by (first | exact Nat.le_refl _ | exact run_ok (by assumption) | exact run_no (by assumption) | exact runT_ok (by assumption) | exact runT_no (by assumption) | exact runT1_ok (by assumption) | exact runT1_no (by assumption) | assumption)) | exact (gd_endThrow _ _ _).mono (by (first | exact Nat.le_refl _ | exact run_ok (by assumption) | exact run_no (by assumption) | exact runT_ok (by assumption) | exact runT_no (by assumption) | exact runT1_ok (by assumption) | exact runT1_no (by assumption) | assumption)) | exact (gd_endPrinting _ _ _ _).mono (by (first | exact Nat.le_refl _ | exact run_ok (by assumption) | exact run_no (by assumption) | exact runT_ok (by assumption) | exact runT_no (by assumption) | exact runT1_ok (by assumption) | exact runT1_no (by assumption) | assumption)) | exact (gd_endFatal _ _ _ _ _ _).mono (by (first | exact Nat.le_refl _ | exact run_ok (by assumption) | exact run_no (by assumption) | exact runT_ok (by assumption) | exact runT_no (by assumption) | exact runT1_ok (by assumption) | exact runT1_no (by assumption) | assumption)) | exact (gd_writeOn _ _ _ _ _).mono (by (first | exact Nat.le_refl _ | exact run_ok (by assumption) | exact run_no (by assumption) | exact runT_ok (by assumption) | exact runT_no (by assumption) | exact runT1_ok (by assumption) | exact runT1_no (by assumption) | assumption)))
theorem gd_early (p : Program) (fr : Frame) (cs : List Frame) (dying : Option Dying) (g : Nat) (w : World) : GD w.drawn (early p fr cs dying g w) := by
 unfold early
 extract_lets refuse notYet
 have hR : GD w.drawn refuse := trivial
 have hN : ∀ w', w.drawn ≤ w'.drawn → GD w.drawn (notYet w') := fun w' h => by
  show GD w.drawn (match w'.heap[g]? with | some (.pending c elem) => _ | _ => _)
  split
  ·exact h
  ·trivial
 clear_value refuse notYet
 split
 ·exact hN _ (Nat.le_refl _)
 ·split
  ·exact hR
  ·extract_lets there
   have hT : ∀ w', w.drawn ≤ w'.drawn → GD w.drawn (there w') := fun w' h => h
   clear_value there
   repeat' split
   all_goals first
    | exact hR
    | trivial
    | exact hN _ (by (first | exact Nat.le_refl _ | exact run_ok (by assumption) | exact run_no (by assumption) | exact runT_ok (by assumption) | exact runT_no (by assumption) | exact runT1_ok (by assumption) | exact runT1_no (by assumption) | assumption))
    | exact hT _ (by (first | exact Nat.le_refl _ | exact run_ok (by assumption) | exact run_no (by assumption) | exact runT_ok (by assumption) | exact runT_no (by assumption) | exact runT1_ok (by assumption) | exact runT1_no (by assumption) | assumption))
theorem gd_callDeferred (p : Program) (fr : Frame) (cs : List Frame) (dying : Option Dying) (d : Deferred) (w : World) : GD w.drawn (callDeferred p fr cs dying d w) := by
 unfold callDeferred
 repeat' (first | apply gd_after | split)
 all_goals try (first | trivial | (first | exact Nat.le_refl _ | exact run_ok (by assumption) | exact run_no (by assumption) | exact runT_ok (by assumption) | exact runT_no (by assumption) | exact runT1_ok (by assumption) | exact runT1_no (by assumption) | assumption) | exact (gd_doReturn _ _ _ _ _ _ _).mono (by (first | exact Nat.le_refl _ | exact run_ok (by assumption) | exact run_no (by assumption) | exact runT_ok (by assumption) | exact runT_no (by assumption) | exact runT1_ok (by assumption) | exact runT1_no (by assumption) | assumption)) | exact (gd_endWith _ _ _ _).mono (by (first | exact Nat.le_refl _ | exact run_ok (by assumption) | exact run_no (by assumption) | exact runT_ok (by assumption) | exact runT_no (by assumption) | exact runT1_ok (by assumption) | exact runT1_no (by assumption) | assumption)) | exact (gd_endThrow _ _ _).mono (by (first | exact Nat.le_refl _ | exact run_ok (by assumption) | exact run_no (by assumption) | exact runT_ok (by assumption) | exact runT_no (by assumption) | exact runT1_ok (by assumption) | exact runT1_no (by assumption) | assumption)) | exact (gd_endPrinting _ _ _ _).mono (by (first | exact Nat.le_refl _ | exact run_ok (by assumption) | exact run_no (by assumption) | exact runT_ok (by assumption) | exact runT_no (by assumption) | exact runT1_ok (by assumption) | exact runT1_no (by assumption) | assumption)) | exact (gd_endFatal _ _ _ _ _ _).mono (by (first | exact Nat.le_refl _ | exact run_ok (by assumption) | exact run_no (by assumption) | exact runT_ok (by assumption) | exact runT_no (by assumption) | exact runT1_ok (by assumption) | exact runT1_no (by assumption) | assumption)) | exact (gd_writeOn _ _ _ _ _).mono (by (first | exact Nat.le_refl _ | exact run_ok (by assumption) | exact run_no (by assumption) | exact runT_ok (by assumption) | exact runT_no (by assumption) | exact runT1_ok (by assumption) | exact runT1_no (by assumption) | assumption)))
theorem gd_unwind (p : Program) (main : Bool) (fr : Frame) (cs : List Frame) (dying : Option Dying) (w : World) : GD w.drawn (unwind p main fr cs dying w) := by
 unfold unwind
 repeat' (first | apply gd_after | split)
 all_goals try (first | (first | trivial | (first | exact Nat.le_refl _ | exact run_ok (by assumption) | exact run_no (by assumption) | exact runT_ok (by assumption) | exact runT_no (by assumption) | exact runT1_ok (by assumption) | exact runT1_no (by assumption) | assumption) | exact (gd_doReturn _ _ _ _ _ _ _).mono (by (first | exact Nat.le_refl _ | exact run_ok (by assumption) | exact run_no (by assumption) | exact runT_ok (by assumption) | exact runT_no (by assumption) | exact runT1_ok (by assumption) | exact runT1_no (by assumption) | assumption)) | exact (gd_endWith _ _ _ _).mono (by (first | exact Nat.le_refl _ | exact run_ok (by assumption) | exact run_no (by assumption) | exact runT_ok (by assumption) | exact runT_no (by assumption) | exact runT1_ok (by assumption) | exact runT1_no (by assumption) | assumption)) | exact (gd_endThrow _ _ _).mono (by (first | exact Nat.le_refl _ | exact run_ok (by assumption) | exact run_no (by assumption) | exact runT_ok (by assumption) | exact runT_no (by assumption) | exact runT1_ok (by assumption) | exact runT1_no (by assumption) | assumption)) | exact (gd_endPrinting _ _ _ _).mono (by (first | exact Nat.le_refl _ | exact run_ok (by assumption) | exact run_no (by assumption) | exact runT_ok (by assumption) | exact runT_no (by assumption) | exact runT1_ok (by assumption) | exact runT1_no (by assumption) | assumption)) | exact (gd_endFatal _ _ _ _ _ _).mono (by (first | exact Nat.le_refl _ | exact run_ok (by assumption) | exact run_no (by assumption) | exact runT_ok (by assumption) | exact runT_no (by assumption) | exact runT1_ok (by assumption) | exact runT1_no (by assumption) | assumption)) | exact (gd_writeOn _ _ _ _ _).mono (by (first | exact Nat.le_refl _ | exact run_ok (by assumption) | exact run_no (by assumption) | exact runT_ok (by assumption) | exact runT_no (by assumption) | exact runT1_ok (by assumption) | exact runT1_no (by assumption) | assumption))) | exact itT_ok (by assumption) | exact itT_no (by assumption) | exact (gd_endFatal _ _ _ _ _ _).mono (itT_no (by assumption)) | exact (gd_endThrow _ _ _).mono (itT_no (by assumption)) | exact (gd_endThrow _ _ _).mono (itT_ok (by assumption)) | exact (gd_early _ _ _ _ _ _).mono (itT_no (by assumption)) | exact (gd_early _ _ _ _ _ _).mono (by (first | exact Nat.le_refl _ | exact run_ok (by assumption) | exact run_no (by assumption) | exact runT_ok (by assumption) | exact runT_no (by assumption) | exact runT1_ok (by assumption) | exact runT1_no (by assumption) | assumption)) | exact (gd_callDeferred _ _ _ _ _ _).mono (by (first | exact Nat.le_refl _ | exact run_ok (by assumption) | exact run_no (by assumption) | exact runT_ok (by assumption) | exact runT_no (by assumption) | exact runT1_ok (by assumption) | exact runT1_no (by assumption) | assumption)))
set_option maxHeartbeats 4000000 in
theorem gd_apply (p : Program) (listen : Bool) (fr : Frame) (cs : List Frame) (dying : Option Dying) (s : Sem Next) (w : World) : GD w.drawn (stepG.apply p listen fr cs dying s w) := by
 unfold stepG.apply
 repeat' (first | apply gd_after | split)
 all_goals try (first | (first | trivial | (first | exact Nat.le_refl _ | exact run_ok (by assumption) | exact run_no (by assumption) | exact runT_ok (by assumption) | exact runT_no (by assumption) | exact runT1_ok (by assumption) | exact runT1_no (by assumption) | assumption) | exact (gd_doReturn _ _ _ _ _ _ _).mono (by (first | exact Nat.le_refl _ | exact run_ok (by assumption) | exact run_no (by assumption) | exact runT_ok (by assumption) | exact runT_no (by assumption) | exact runT1_ok (by assumption) | exact runT1_no (by assumption) | assumption)) | exact (gd_endWith _ _ _ _).mono (by (first | exact Nat.le_refl _ | exact run_ok (by assumption) | exact run_no (by assumption) | exact runT_ok (by assumption) | exact runT_no (by assumption) | exact runT1_ok (by assumption) | exact runT1_no (by assumption) | assumption)) | exact (gd_endThrow _ _ _).mono (by (first | exact Nat.le_refl _ | exact run_ok (by assumption) | exact run_no (by assumption) | exact runT_ok (by assumption) | exact runT_no (by assumption) | exact runT1_ok (by assumption) | exact runT1_no (by assumption) | assumption)) | exact (gd_endPrinting _ _ _ _).mono (by (first | exact Nat.le_refl _ | exact run_ok (by assumption) | exact run_no (by assumption) | exact runT_ok (by assumption) | exact runT_no (by assumption) | exact runT1_ok (by assumption) | exact runT1_no (by assumption) | assumption)) | exact (gd_endFatal _ _ _ _ _ _).mono (by (first | exact Nat.le_refl _ | exact run_ok (by assumption) | exact run_no (by assumption) | exact runT_ok (by assumption) | exact runT_no (by assumption) | exact runT1_ok (by assumption) | exact runT1_no (by assumption) | assumption)) | exact (gd_writeOn _ _ _ _ _).mono (by (first | exact Nat.le_refl _ | exact run_ok (by assumption) | exact run_no (by assumption) | exact runT_ok (by assumption) | exact runT_no (by assumption) | exact runT1_ok (by assumption) | exact runT1_no (by assumption) | assumption))) | exact itT_ok (by assumption) | exact itT_no (by assumption) | exact (gd_endFatal _ _ _ _ _ _).mono (itT_no (by assumption)) | exact (gd_endThrow _ _ _).mono (itT_no (by assumption)) | exact (gd_endThrow _ _ _).mono (itT_ok (by assumption)) | exact (gd_early _ _ _ _ _ _).mono (itT_no (by assumption)) | exact (gd_early _ _ _ _ _ _).mono (by (first | exact Nat.le_refl _ | exact run_ok (by assumption) | exact run_no (by assumption) | exact runT_ok (by assumption) | exact runT_no (by assumption) | exact runT1_ok (by assumption) | exact runT1_no (by assumption) | assumption)) | exact (gd_callDeferred _ _ _ _ _ _).mono (by (first | exact Nat.le_refl _ | exact run_ok (by assumption) | exact run_no (by assumption) | exact runT_ok (by assumption) | exact runT_no (by assumption) | exact runT1_ok (by assumption) | exact runT1_no (by assumption) | assumption)))
theorem gd_oper (p : Program) (listen : Bool) (fr : Frame) (cs : List Frame) (dying : Option Dying) (w : World) : GD w.drawn (stepG.oper p listen fr cs dying w) := by
 unfold stepG.oper
 split
 ·trivial
 ·split <;> exact gd_apply _ _ _ _ _ _ _
theorem gd_elim {α : Type} {d : Nat} {o : Option α} {a : GStep} {f : α → GStep} (h : GD d a) (k : ∀ x, GD d (f x)) : GD d (o.elim a f) := by cases o; exact h; exact k _
set_option maxHeartbeats 4000000 in
theorem gd_exec (p : Program) (main listen : Bool) (fr : Frame) (cs : List Frame) (dying : Option Dying) (w : World) : GD w.drawn (stepG.exec p main listen fr cs dying w) := by
 unfold stepG.exec
 extract_lets go to lost leave
 have hG : ∀ f w', w.drawn ≤ w'.drawn → GD w.drawn (go f w') := fun f w' h => h
 have hT : ∀ l, GD w.drawn (to l) := fun l => Nat.le_refl _
 have hL : ∀ m, GD w.drawn (lost m) := fun m => trivial
 have hV : ∀ j, GD w.drawn (leave j) := fun j => by
  unfold leave
  split
  ·repeat' split
   all_goals first | exact hG _ _ (Nat.le_refl _) | exact hL _
  ·apply gd_after
   split
   ·exact (gd_doReturn _ _ _ _ _ _ _).mono (by (first | exact Nat.le_refl _ | exact run_ok (by assumption) | exact run_no (by assumption) | exact runT_ok (by assumption) | exact runT_no (by assumption) | exact runT1_ok (by assumption) | exact runT1_no (by assumption) | assumption))
   ·trivial
 clear_value go to lost leave
 repeat' (first
  | with_reducible apply gd_after
  | exact hV _
  | exact hT _
  | exact hL _
  | trivial
  | exact gd_elim (hV _) (fun _ => hT _)
  | exact gd_elim (hL _) (fun _ => gd_apply _ _ _ _ _ _ _)
  | exact hG _ _ (by (first | exact Nat.le_refl _ | exact run_ok (by assumption) | exact run_no (by assumption) | exact runT_ok (by assumption) | exact runT_no (by assumption) | exact runT1_ok (by assumption) | exact runT1_no (by assumption) | assumption))
  | exact gd_oper _ _ _ _ _ _
  | exact (gd_apply _ _ _ _ _ _ _).mono (by (first | exact Nat.le_refl _ | exact run_ok (by assumption) | exact run_no (by assumption) | exact runT_ok (by assumption) | exact runT_no (by assumption) | exact runT1_ok (by assumption) | exact runT1_no (by assumption) | assumption))
  | (extract_lets fr1 call1; exact (gd_apply p listen fr1 cs dying _ _).mono (by (first | exact Nat.le_refl _ | exact run_ok (by assumption) | exact run_no (by assumption) | exact runT_ok (by assumption) | exact runT_no (by assumption) | exact runT1_ok (by assumption) | exact runT1_no (by assumption) | assumption)))
  | split)
theorem gd_stepG (p : Program) (main : Bool) (g : Goroutine) (w : World) (listen : Bool) : GD w.drawn (stepG p main g w listen) := by
 unfold stepG
 split
 split
 ·exact gd_die _ _ _ _
 ·exact gd_exec _ _ _ _ _ _ _
 ·exact gd_unwind _ _ _ _ _ _
def SD (d : Nat) : Stepped → Prop
 | .next m => d ≤ m.world.drawn
 | .ended _ _ => True
theorem SD.mono {d e : Nat} {r : Stepped} (h : SD e r) (hd : d ≤ e) : SD d r := by cases r <;> first | trivial | exact Nat.le_trans hd h
theorem wait_drawn {rest : Rest} {cases : Array CommCase} {w w' : World} (h : waitingAt rest cases w = some w') : w'.drawn = w.drawn := by
 unfold waitingAt at h
 repeat' split at h
 all_goals first | (cases h; rfl) | cases h
theorem sd_comm (p : Program) (rest : Rest) (gs : Array Goroutine) (i : Nat) (g : Goroutine) (cases : Array CommCase) (blocking : Bool) (shape : CommShape) (w : World) : SD w.drawn (communicate p rest gs i g cases blocking shape w).1 := by
 unfold communicate
 extract_lets put illMade me other ready pick
 have hP : ∀ g gs w' ops, w.drawn ≤ w'.drawn → SD w.drawn (put g gs w' ops).1 := fun g gs w' ops h => h
 clear_value put illMade me other pick ready
 split
 ·trivial
 ·split
  ·split
   ·split
    ·rename_i h
     show w.drawn ≤ _
     rw [wait_drawn h]; exact Nat.le_refl _
    ·trivial
   ·exact hP _ _ _ _ (Nat.le_refl _)
  ·split
   ·trivial
   ·rename_i h
    have h1 := run_ok h
    dsimp only
    repeat' (first | split | dsimp only)
    all_goals first
     | trivial
     | exact hP _ _ _ _ h1
     | exact hP _ _ _ _ (Nat.le_trans h1 (run_ok (by assumption)))
     | exact hP _ _ _ _ (Nat.le_trans h1 (run_no (by assumption)))
     | (refine hP _ _ _ _ (Nat.le_trans h1 ?_); dsimp only; exact run_ok (by assumption))
theorem sd_look (p : Program) (gs : Array Goroutine) (rest : Rest) (w : World) : SD w.drawn (look p gs rest w) := by
 unfold look
 repeat' (first | split | dsimp only)
 all_goals first
  | trivial
  | (first | exact Nat.le_refl _ | exact run_ok (by assumption) | exact run_no (by assumption) | exact Nat.le_trans (run_ok (by assumption)) (run_ok (by assumption)) | exact Nat.le_trans (run_ok (by assumption)) (run_no (by assumption)))
  | (simp only [SD]; exact run_ok (by assumption))
theorem timer_drawn {m m' : Machine} {op : TimerOp} {v : Value} (h : timerOp m op = .ok (v, m')) : m'.world.drawn = m.world.drawn := by
 have hr : ∀ (m : Machine) k t a b, (retime m k t a b).2.world.drawn = m.world.drawn := fun m k t a b => by
  unfold retime
  split
  rename_i h
  split at h
  ·unfold drain at h
   split at h
   ·cases h; rfl
   ·cases h; rfl
  ·cases h; rfl
 have ho : ∀ (var : Addr) m2, timerOp.opened m var = some m2 → m2.world.drawn = m.world.drawn := fun var m2 h => by
  unfold timerOp.opened at h
  repeat' split at h
  all_goals first | (cases h; rfl) | cases h
 have hn : ∀ (var : Addr) (f : Nat → Timer → Value × Machine), (∀ k t, (f k t).2.world.drawn = m.world.drawn) → timerOp.named m var f = .ok (v, m') → m'.world.drawn = m.world.drawn := fun var f hf h => by
  unfold timerOp.named at h
  split at h
  ·rename_i k hk
   have := hf k (m.rest.timers.getD k default)
   simp only [Except.ok.injEq] at h
   rw [h] at this
   exact this
  ·cases h
 unfold timerOp at h
 repeat' split at h
 all_goals first
  | (cases h; rfl)
  | cases h
  | exact hn _ _ (fun k t => hr _ _ _ _ _) h
  | (refine hn _ _ (fun k t => (hr _ _ _ _ _).trans (ho _ _ (by assumption))) h)
theorem timer_le {m m' : Machine} {op : TimerOp} {v : Value} (h : timerOp m op = .ok (v, m')) : m.world.drawn ≤ m'.world.drawn := by rw [timer_drawn h]; exact Nat.le_refl _
theorem thr_drawn {fr : Frame} {m : String} {w w' : World} {g : Goroutine} {es : Array Event} (h : endThrow fr m w = .go g w' es) : w.drawn ≤ w'.drawn := by
 have := gd_endThrow fr m w
 rw [h] at this
 exact this
theorem sd_serve (p : Program) (m : Machine) (k : Nat) : SD m.world.drawn (serve p m k) := by
 unfold serve
 repeat' (first | split | dsimp only)
 all_goals first
  | trivial
  | exact Nat.le_refl _
theorem sd_runT (p : Program) (m : Machine) (i : Nat) (listen : Bool) : SD m.world.drawn (runT p m i listen).1 := by
 unfold runT
 split
 rename_i g gs hg
 dsimp only
 have h := gd_stepG p (i == 0) g m.world listen
 cases hs : stepG p (i == 0) g m.world listen <;> rw [hs] at h <;> simp only [hs]
 all_goals first
  | trivial
  | exact h
  | exact (sd_look _ _ _ _).mono h
  | exact (sd_comm _ _ _ _ _ _ _ _ _).mono h
  | ((repeat' split) <;> first | trivial | exact h | exact Nat.le_trans h (timer_le (by assumption)) | exact Nat.le_trans h (thr_drawn (by assumption)))
def MD (d : Nat) : Move → Prop
 | .goroutine m _ => d ≤ m.world.drawn
 | .machine s _ => SD d s
theorem MD.mono {d e : Nat} {r : Move} (h : MD e r) (hd : d ≤ e) : MD d r := by
 cases r
 ·exact Nat.le_trans hd h
 ·exact SD.mono h hd
theorem md_askOn (p : Program) (m : Machine) : MD m.world.drawn (askOn p m) := by
 unfold askOn
 extract_lets mono rs ds pick
 have hP : ∀ m2 : Machine, m.world.drawn ≤ m2.world.drawn → MD m.world.drawn (pick m2) := fun m2 h => by
  unfold pick
  repeat' (first | split | dsimp only)
  all_goals first
   | trivial
   | exact Nat.le_trans h (run_ok (by assumption))
   | exact Nat.le_trans h (Nat.le_trans (run_ok (by assumption)) (run_ok (by assumption)))
 clear_value mono rs ds pick
 split
 ·trivial
 ·rename_i hk
  have h1 := run_ok hk
  dsimp only
  repeat' (first | split | dsimp only)
  all_goals first
   | trivial
   | exact h1
   | exact hP _ h1
   | exact (sd_serve _ _ _).mono h1
   | exact Nat.le_trans h1 (run_ok (by assumption))
   | exact hP _ (Nat.le_trans h1 (run_ok (by assumption)))
   | (rename_i h9; have h10 := Nat.le_trans h1 (run_ok h9); exact h10)
   | (rename_i h9; have h10 := Nat.le_trans h1 (run_ok h9); exact hP _ h10)
theorem md_ask (p : Program) (m : Machine) : MD m.world.drawn (ask p m) := by
 unfold ask
 split
 ·split
  ·trivial
  ·rename_i h
   have h1 := run_ok h
   split
   ·rename_i h2
    have h3 := (sd_look p m.gs m.rest _).mono h1
    rw [h2] at h3
    exact (md_askOn _ _).mono h3
   ·rename_i h2
    exact (sd_look p m.gs m.rest _).mono h1
  ·rename_i h
   exact (md_askOn p { m with world := _ }).mono (run_ok h)
 ·exact md_askOn p m
theorem md_move (p : Program) (m : Machine) : MD m.world.drawn (move p m) := by
 unfold move
 split
 ·split
  ·exact Nat.le_refl _
  ·trivial
 ·split
  ·split
   ·exact Nat.le_refl _
   ·exact md_ask p { m with rest := _ }
  ·exact md_ask p m
theorem step_drawn {p : Program} {m m' : Machine} (h : step p m = .next m') : m.world.drawn ≤ m'.world.drawn := by
 have h1 := md_move p m
 have h2 : SD m.world.drawn (step p m) := by
  unfold step stepT
  split
  ·rename_i hm
   rw [hm] at h1
   exact (sd_runT _ _ _ _).mono h1
  ·rename_i hm
   rw [hm] at h1
   exact h1
 rw [h] at h2
 exact h2
theorem runN_drawn {p : Program} : ∀ (n : Nat) {m m' : Machine}, runN p n m = .next m' → m.world.drawn ≤ m'.world.drawn
 | 0, m, m', h => by
  simp only [runN] at h
  cases h
  exact Nat.le_refl _
 | n + 1, m, m', h => by
  simp only [runN] at h
  split at h
  ·rename_i h1
   exact Nat.le_trans (step_drawn h1) (runN_drawn n h)
  ·rename_i h1
   exact (h1 _ h).elim
theorem calls_drawn {P : Program} {f : FuncId} {args : Array Value} {w : World} {R : Ending → World → Prop} (h : Calls P f args w fun e w' => (∃ v, e = .returned v) ∧ R e w') : Calls P f args w fun e w' => R e w' ∧ w.drawn ≤ w'.drawn := fun cs => by
 obtain ⟨e, w', fr, ⟨⟨v, rfl⟩, hR⟩, hc, hf, hl⟩ := h cs
 obtain ⟨n, hn⟩ := (show Steps P _ _ from hc)
 exact ⟨_, w', fr, ⟨hR, runN_drawn n hn⟩, hc, hf, hl⟩
end Go.Proofs.Ytbhoeaijpnjgdaa

set_option maxRecDepth 100000
namespace Go.Proofs.Ytbhoeaijpnjgdaa
open Go Go.RowKit Go.Sort
theorem ext_grow {w w' : World} (h : Ext w w') (hd : w.drawn ≤ w'.drawn) : ∃ q os, w' = grow (w.drewN q) os := by
 refine ⟨w'.drawn - w.drawn, w'.heap.extract w.heap.size w'.heap.size, ?_⟩
 obtain ⟨h1, h2, h3, h4, h5⟩ := h
 cases w with
 | mk heap tape drawn os output =>
 cases w' with
 | mk heap' tape' drawn' os' output' =>
 simp only at h1 h2 h3 h4 h5 hd
 subst h1 h2 h3
 have e1 : drawn + (drawn' - drawn) = drawn' := by omega
 have e2 : heap ++ heap'.extract heap.size heap'.size = heap' := by
  apply Array.ext_getElem?
  intro k
  rw [Array.getElem?_append]
  split
  ·rename_i hk
   exact (h5 k hk).symm
  ·rename_i hk
   rw [Array.getElem?_extract]
   by_cases hk2 : k < heap'.size
   ·rw [if_pos (by omega)]; congr 1; omega
   ·rw [if_neg (by omega), Array.getElem?_eq_none (by omega)]
 simp only [grow, World.drewN, e1, e2]
theorem pure_calls {P : Program} {f : FuncId} {args : Array Value} {G : List Chunk} {v : Value} (h : Pure P f args G (isV v)) {w : World} (hs : ∀ c ∈ G, c.sat w) : Calls P f args w fun e w' => e = .returned v ∧ ∃ q os, w' = grow (w.drewN q) os := by
 have h1 := (h.run w hs).mono (R' := fun e w' => (∃ v, e = .returned v) ∧ (e = .returned v ∧ Ext w w')) fun e w' ⟨u, Fo, h1, h2, h3, _, _⟩ => by
  obtain ⟨rfl, _⟩ := h3
  exact ⟨⟨_, h1⟩, h1, h2⟩
 exact (calls_drawn h1).mono fun e w' ⟨⟨h2, h3⟩, h4⟩ => ⟨h2, ext_grow h3 h4⟩
theorem flat_prs {α : Type} [Inhabited α] (e : α → Value × Value) (d : Array α) : flatK (fun x => [(e x).1, (e x).2]) 2 d = (prs (d.toList.map e)).toArray := by
 refine ext_get! (by simp) fun t ht => ?_
 have ht' : t < d.size * 2 := by simpa using ht
 rw [get_flatK _ _ _ t ht']
 have hj : t / 2 < d.size := by omega
 have hg := prs_get (d.toList.map e) (t / 2) (by simpa using hj)
 have hd : (d.toList.map e).getD (t / 2) prD = e d[t / 2]! := by
  rw [List.getD_eq_getElem?_getD, List.getElem?_map, Array.getElem?_toList, Array.getElem?_eq_getElem hj, getElem!_pos d _ hj]; rfl
 rw [hd] at hg
 clear hd
 generalize d[t / 2]! = x at hg ⊢
 rcases Nat.mod_two_eq_zero_or_one t with h | h
 ·have e1 : t / 2 * 2 = t := by omega
  rw [e1] at hg
  rw [h]
  show (e x).1 = _
  rw [Array.getElem!_eq_getD, Array.getD_eq_getD_getElem?, List.getElem?_toArray, hg.1]; rfl
 ·have e1 : t / 2 * 2 + 1 = t := by omega
  rw [e1] at hg
  rw [h]
  show (e x).2 = _
  rw [Array.getElem!_eq_getD, Array.getD_eq_getD_getElem?, List.getElem?_toArray, hg.2]; rfl
theorem grownBy_flat {w : World} {g n : Nat} {os : Array Obj} (F : Array Value) : w.grownBy (grow (putRow id (Sort.ahead w n) g 0 F) os) (some g) := by
 refine ⟨rfl, rfl, rfl, by simp, fun k hk hne => ?_⟩
 rw [heap_grow_old _ _ (by simpa using hk)]
 have : g ≠ k := fun e => hne (by rw [e])
 simp [putRow, mapBlock, Sort.ahead, Array.getElem?_modify, this]
theorem heap_flat {w : World} {g n : Nat} {os : Array Obj} {cur : Array Value} {e : TypeId} {fr : Nat × Nat} (F : Array Value) (hb : w.heap[g]? = some (.cells cur e fr)) :
  (grow (putRow id (Sort.ahead w n) g 0 F) os).heap[g]? = some (.cells (putCells id 0 F cur) e fr) := by
 have hg : g < w.heap.size := (Array.getElem?_eq_some_iff.1 hb).1
 rw [heap_grow_old _ _ (by simpa using hg)]
 simp [putRow, mapBlock, Sort.ahead, Array.getElem?_modify, hb, onCells]
theorem take_flat (cur : Array Value) (vs : List Value) (h : vs.length ≤ cur.size) : (putCells id 0 vs.toArray cur).toList.take vs.length = vs := by
 apply List.ext_getElem?
 intro j
 by_cases hj : j < vs.length
 ·rw [List.getElem?_take_of_lt hj, Array.getElem?_toList]
  simp [putCells, hj, show j < cur.size by omega]
 ·rw [List.getElem?_take_eq_none (by omega), List.getElem?_eq_none (by omega)]
theorem holds_flat {w : World} {g : Nat} {cur : Array Value} {e : TypeId} {vs : List Value} (hb : w.heap[g]? = some (.cells cur e (0, 0))) (ht : cur.toList.take vs.length = vs) : Go.Sort.Holds id w g 0 vs.toArray := by
 intro j hj
 have hj' : j < vs.length := by simpa using hj
 refine ⟨?_, by simp [World.frozen?, hb]⟩
 have h1 : (cur.toList.take vs.length)[j]? = vs[j]? := by rw [ht]
 rw [List.getElem?_take_of_lt hj'] at h1
 simp only [World.cell?, hb, Nat.zero_add]
 simp only [Option.isSome_none, Bool.false_eq_true, if_false]
 rw [← Array.getElem?_toList, h1]
 simp [hj']
theorem fc_agg (w : World) : (isAgg 64).run Try.prog w = .ok true w := by
 obtain ⟨fs, hu⟩ := tyFc.und
 simp [isAgg, run_und hu]
theorem fc_size (w : World) : (Go.sizeOf 64).run Try.prog w = .ok 2 w := run_size1 tyFc.inf w
def encF (fs : List FacM) (i : Fin fs.length) : List Value := [fs[i].r.hdr, .int .i64 fs[i].k]
theorem fcs_map (fs : List FacM) : fcs fs = fs.map fun f => (f.r.hdr, (.int .i64 f.k : Value)) := rfl
theorem flat_fac (fs : List FacM) [Inhabited (Fin fs.length)] (d : Array (Fin fs.length)) : flatK (encF fs) 2 d = (prs (fcs (d.toList.map fun i => fs[i]))).toArray := by
 rw [fcs_map, List.map_map]
 exact flat_prs (fun i : Fin fs.length => (fs[i].r.hdr, (.int .i64 fs[i].k : Value))) d
theorem fin_map (fs : List FacM) : ((List.finRange fs.length).map fun i => fs[i]) = fs := List.ext_getElem (by simp) fun j h1 h2 => by simp
def FacSort : Prop := ∀ (fs : List FacM) [Inhabited (Fin fs.length)] (cf : Fin fs.length → Fin fs.length → Int) (hO : SWO (ltOf cf)) (g : Nat) (cb : Array Value) (blk off cap : Nat) (d : Array (Fin fs.length)) (w : World) (eg : Enters Try.prog g) (hcmp : CmpLays Try.prog g cb (encF fs) 2 cf blk off d.size w) (hH : HoldsK (encF fs) 2 w blk off d) (hblk : blk < w.heap.size) (hsz : d.size < 4611686018427387904),
   Calls Try.prog 90 #[.slice (some ⟨blk, off, none⟩) d.size cap, .func (.func g) #[] cb] w fun e w' => e = .returned (.tuple #[]) ∧ ∃ d' n os, PermIn 0 d.size d d' ∧ SortedIn (ltOf cf) 0 d.size d' ∧ w' = sortWorldK (encF fs) 2 w blk off n d' os
def FacNone : Prop := ∀ (p : Option Addr) (cap : Nat) (fv : Value) (w : World), Calls Try.prog 90 #[.slice p 0 cap, fv] w fun e w' => e = .returned (.tuple #[]) ∧ w' = w
theorem slc_SortFac (hlib : FacSort) (hnone : FacNone) (A : Option Addr) (n c : Nat) (fs : List FacM) (hn : n = fs.length) (h9 : fs.length ≤ 1000000000) (g : FuncId) (cb : List Value) (G : List Chunk) (hG : NoEx G) (cf : FacM → FacM → Int)
  (hp : ∀ x ∈ fs, ∀ y ∈ fs, Pure Try.prog g ([Value.agg #[x.r.hdr, .int .i64 x.k], Value.agg #[y.r.hdr, .int .i64 y.k]] ++ cb).toArray G (isV (.int .i64 (cf x y))))
  (hi : ∀ x ∈ fs, ¬ cf x x < 0) (ht : ∀ x ∈ fs, ∀ y ∈ fs, ∀ z ∈ fs, cf x y < 0 → cf y z < 0 → cf x z < 0) (hnt : ∀ x ∈ fs, ∀ y ∈ fs, ∀ z ∈ fs, ¬ cf x y < 0 → ¬ cf y z < 0 → ¬ cf x z < 0) :
  Mut Try.prog 90 #[.slice A n c, .func (.func g) #[] cb.toArray] [ow2 A 64 c (fcs fs)] G (one (fun v ch => ∃ gs : List FacM, v = .tuple #[] ∧ ch = ow2 A 64 c (fcs gs) ∧ gs.Perm fs ∧ gs.Pairwise (fun x y => ¬ cf y x < 0))) := ⟨enters_of Try.func90 (by kernel_rfl) (by kernel_rfl), fun w hm => by
 subst hn
 by_cases h0 : fs = []
 ·subst h0
  refine (hnone A c _ w).mono fun e w' ⟨h4, h5⟩ => ?_
  subst h4; subst h5
  exact ⟨_, _, rfl, ⟨_, rfl, [], rfl, rfl, List.Perm.refl _, List.Pairwise.nil⟩, (CSub.cons _ (CSub.nil _)).mem hm, ⟨trivial, trivial⟩⟩
 ·have hlp : 0 < fs.length := List.length_pos_iff.2 h0
  haveI : Inhabited (Fin fs.length) := ⟨⟨0, hlp⟩⟩
  have hs0 : w.ownsRow 0 64 2 (.slice A (fcs fs).length c) (fcs fs).length (prs (fcs fs)) := hm.sat _ (List.mem_cons_self ..)
  rcases hs0 with ⟨h1, ⟨h2, h3⟩ | ⟨b, cap, cur, hv, hb, hh, hc, hmx, hs, htk⟩⟩
  ·have : (fcs fs).length = 0 := by simpa using h3
   rw [fcs_length] at this
   omega
  ·simp only [Value.slice.injEq] at hv
   obtain ⟨rfl, _, rfl⟩ := hv
   rw [fcs_length] at hc
   have hlen : (prs (fcs fs)).length = fs.length * 2 := by rw [prs_length, fcs_length]
   have htk' : cur.toList.take (prs (fcs fs)).length = prs (fcs fs) := by
    rw [hlen]; rw [fcs_length] at htk; exact htk
   have hg : b < w.heap.size := (Array.getElem?_eq_some_iff.1 hh).1
   have hd0 : (List.finRange fs.length).toArray.size = fs.length := by simp
   have hfl := flat_fac fs (List.finRange fs.length).toArray
   rw [show (List.finRange fs.length).toArray.toList = List.finRange fs.length from rfl, fin_map] at hfl
   have hH : HoldsK (encF fs) 2 w b 0 (List.finRange fs.length).toArray := by
    unfold HoldsK
    rw [hfl]
    exact holds_flat hh htk'
   have hsep : ∀ e ∈ G, e.sat w ∧ ¬ e.foot b := fun e he => ⟨hm.sat e (List.mem_cons_of_mem _ he), fun hf => (List.pairwise_cons.1 hm.sep).1 e he (.inl trivial) b ⟨⟨b, 0, none⟩, rfl, rfl⟩ hf⟩
   have hcmp : CmpLays Try.prog g cb.toArray (encF fs) 2 (fun i j => cf fs[i] fs[j]) b 0 (List.finRange fs.length).toArray.size w := fun m os dk hdk x y => by
    have h := hp fs[x] (List.getElem_mem _) fs[y] (List.getElem_mem _)
    have h2 := pure_calls h (w := sortWorldK (encF fs) 2 w b 0 m dk os) fun e he => by
     obtain ⟨h3, h4⟩ := hsep e he
     refine e.loc w _ (fun k hk => ?_) h3
     exact (grownBy_flat (flatK (encF fs) 2 dk)).block k (e.lt w k h3 hk) (fun e1 => h4 (by cases e1; exact hk))
    rwa [← List.append_toArray] at h2
   have hO : SWO (ltOf fun i j : Fin fs.length => cf fs[i] fs[j]) := by
    refine ⟨fun x => ?_, fun x y z h1 h2 => ?_, fun x y z h1 h2 => ?_⟩
    ·exact decide_eq_false (hi _ (List.getElem_mem _))
    ·exact decide_eq_true (ht _ (List.getElem_mem _) _ (List.getElem_mem _) _ (List.getElem_mem _) (of_decide_eq_true h1) (of_decide_eq_true h2))
    ·exact decide_eq_false (hnt _ (List.getElem_mem _) _ (List.getElem_mem _) _ (List.getElem_mem _) (of_decide_eq_false h1) (of_decide_eq_false h2))
   have hcall := hlib fs _ hO g cb.toArray b 0 c (List.finRange fs.length).toArray w (hp _ (List.getElem_mem hlp) _ (List.getElem_mem hlp)).ent hcmp hH hg (by rw [hd0]; omega)
   rw [hd0] at hcall
   refine hcall.mono fun e w' ⟨h4, d', q, os, hpm, hst, h5⟩ => ?_
   subst h4
   obtain ⟨hp1, _, hp3⟩ := hpm
   rw [hd0] at hp1
   have hperm : (d'.toList.map fun i => fs[i]).Perm fs := by
    have h6 : d'.toList.Perm (List.finRange fs.length) := by
     have e1 : d'.extract 0 fs.length = d' := (congrArg (fun z => d'.extract 0 z) hp1).symm.trans Array.extract_size
     have e2 : (List.finRange fs.length).toArray.extract 0 fs.length = (List.finRange fs.length).toArray := by
      have := Array.extract_size (xs := (List.finRange fs.length).toArray)
      rwa [hd0] at this
     rw [e1, e2] at hp3
     exact hp3
    have h7 := h6.map fun i => fs[i]
    rwa [fin_map] at h7
   have hgl := hperm.length_eq
   have hfl2 := flat_fac fs d'
   have hgr : w.grownBy w' (some b) := by rw [h5]; exact grownBy_flat _
   have hown : w'.ownsRow 0 64 2 (.slice (some ⟨b, 0, none⟩) (fcs (d'.toList.map fun i => fs[i])).length c) (fcs (d'.toList.map fun i => fs[i])).length (prs (fcs (d'.toList.map fun i => fs[i]))) := by
    have hh2 := heap_flat (n := q) (os := os) (flatK (encF fs) 2 d') hh
    have hw : w' = grow (putRow id (Sort.ahead w q) b 0 (flatK (encF fs) 2 d')) os := h5
    rw [← hw, hfl2] at hh2
    refine ⟨by rw [prs_length], .inr ⟨b, c, _, rfl, hb, hh2, by rw [fcs_length, hgl]; exact hc, hmx, by simp [putCells, hs], ?_⟩⟩
    have h8 := take_flat cur (prs (fcs (d'.toList.map fun i => fs[i]))) (by rw [prs_length, fcs_length, hgl, hs]; omega)
    rw [prs_length] at h8
    exact h8
   refine ⟨_, _, rfl, ⟨_, rfl, _, rfl, rfl, hperm, ?_⟩, ?_, ⟨trivial, trivial⟩⟩
   ·rw [List.pairwise_iff_getElem]
    intro i j hi hj hij
    have hj2 : j < fs.length := by rw [← hgl]; exact hj
    have h9 := hst i j (Nat.zero_le _) hij hj2
    have hi3 : i < d'.size := by omega
    have hj3 : j < d'.size := by omega
    rw [getElem!_pos d' j hj3, getElem!_pos d' i hi3] at h9
    have h10 := of_decide_eq_false h9
    simpa using h10
   ·have hm1 : Mem (ownd [ow2 (some ⟨b, 0, none⟩) 64 c (fcs fs)]) w w [ow2 (some ⟨b, 0, none⟩) 64 c (fcs fs)] := (CSub.cons _ (CSub.nil _)).mem hm
    exact hm1.change trivial ⟨hgr.os, hgr.tape, hgr.output, hgr.size, fun k hk hf => hgr.block k hk (fun e => hf ⟨⟨b, 0, none⟩, rfl, by simpa using e.symm⟩)⟩ hown (fun k hk => .inl hk)⟩
end Go.Proofs.Ytbhoeaijpnjgdaa

set_option maxRecDepth 100000
namespace Go.Proofs.Ytbhoeaijpnjgdaa
open Go.RowKit
theorem rows_permM {e : TypeId} {rs qs : List RowM} (h : rs.Perm qs) (F : List Chunk) : CSub (rowsCh e rs :: F) (rowsCh e qs :: F) := fun M w0 w Z hm => by
 have hfoot : ∀ b, (rowsCh e qs).foot b ↔ (rowsCh e rs).foot b := fun b => ⟨fun ⟨r, hr, hb⟩ => ⟨r, h.mem_iff.2 hr, hb⟩, fun ⟨r, hr, hb⟩ => ⟨r, h.mem_iff.1 hr, hb⟩⟩
 obtain ⟨h1, h2⟩ := List.pairwise_cons.1 hm.sep
 refine ⟨hm.upd, fun c hc => ?_, List.pairwise_cons.2 ⟨fun c hc hex b hb => h1 c hc hex b ((hfoot b).1 hb), h2⟩, fun c hc hex b hb => ?_⟩
 ·rcases List.mem_cons.1 hc with rfl | hc
  ·obtain ⟨s1, s2⟩ := hm.sat _ (List.mem_cons_self ..)
   exact ⟨fun r hr => s1 r (h.mem_iff.2 hr), h.pairwise s2 (fun hxy b hb hb2 => hxy b hb2 hb)⟩
  ·exact hm.sat c (List.mem_cons_of_mem _ hc)
 ·rcases List.mem_cons.1 hc with rfl | hc
  ·exact hm.own _ (List.mem_cons_self ..) trivial b ((hfoot b).1 hb)
  ·exact hm.own c (List.mem_cons_of_mem _ hc) hex b hb
section
variable {p m : Int} {mod : List Int} [hF : IsF p m mod]
open Po
theorem SqI.perm {f : Po (El p m mod)} {b : Nat} {φ : Nat → Prop} {fs gs : List FacM} (h : SqI f b φ fs) (hp : gs.Perm fs) : SqI f b φ gs :=
 ⟨fun e he => h.each e (hp.mem_iff.1 he), fun P a1 a2 a3 a4 => by
  obtain ⟨e, he, h1⟩ := h.all P a1 a2 a3 a4
  exact ⟨e, hp.mem_iff.2 he, h1⟩, (hp.map FacM.k).nodup_iff.2 h.nd⟩
theorem SqI.bd {f : Po (El p m mod)} {b : Nat} {φ : Nat → Prop} {fs : List FacM} (hf : f ≠ 0) (hb : 1 ≤ b) (h : SqI f b φ fs) : ∀ e ∈ fs, 1 ≤ e.k ∧ e.k ≤ ((b * (len f - 1) : Nat) : Int) := fun e he => by
 obtain ⟨Q, k, h1, h2, h3, h4, h5, h6, h7, h8⟩ := h.each e he
 obtain ⟨P, hP, hPl, hd⟩ := ir_ex h3
 have h9 := (h8 P hP hPl).1 hd
 have h10 := dvd_len (mu_spec hP hf).1 hf
 rw [len_powN hP.ne] at h10
 have h11 : mu P f * 1 ≤ mu P f * (len P - 1) := Nat.mul_le_mul_left _ (by have := hP.two; omega)
 have h12 : b * k ≤ b * (len f - 1) := Nat.mul_le_mul_left _ (by omega)
 have h13 : 1 * 1 ≤ b * k := Nat.mul_le_mul hb h4
 rw [h6]
 omega
theorem SqI.str {f : Po (El p m mod)} {b : Nat} {φ : Nat → Prop} {fs : List FacM} (h : SqI f b φ fs) (hs : fs.Pairwise (fun x y => ¬ y.k - x.k < 0)) : fs.Pairwise (fun x y => x.k < y.k) := by
 have h1 := List.pairwise_map.1 h.nd
 exact (hs.and h1).imp fun h => by omega
end
theorem sqf_cmp_ent : Enters Try.prog 91 := enters_of Try.func91 (by kernel_rfl) (by kernel_rfl)
theorem sqf_cmp (Ax : Option Addr) (nx cx : Nat) (x : Int) (Ay : Option Addr) (ny cy : Nat) (y : Int) (hx : 0 ≤ x ∧ x ≤ 1000000) (hy : 0 ≤ y ∧ y ≤ 1000000) :
  Pure Try.prog 91 #[.agg #[.slice Ax nx cx, .int .i64 x], .agg #[.slice Ay ny cy, .int .i64 y]] [] (isV (.int .i64 (x - y))) := by
 refine pure_of (args := [.agg #[.slice Ax nx cx, .int .i64 x], .agg #[.slice Ay ny cy, .int .i64 y]]) 10 Try.func91 rfl rfl rfl sqf_cmp_ent trivial (fun w0 => ?_)
 refine tS ?_
 refine tR fun _ _ _ => ?_
 refine eV (eBox rfl rfl rfl rfl rfl (fun p0 => ?_))
 refine eV (eBox rfl rfl rfl rfl rfl (fun p0a => ?_))
 refine pV ?_
 refine tS ?_
 refine tR fun _ _ _ => ?_
 refine sV (rFld rfl rfl) ?_
 refine sV (rLdF rfl rfl rfl) ?_
 refine sV (rFld rfl rfl) ?_
 refine sV (rLdF rfl rfl rfl) ?_
 refine sV (rSub rfl rfl rfl (by omega) (by omega)) ?_
 refine pV ?_
 exact tr_ret ⟨trivial, _, _, rfl, ⟨rfl, rfl⟩, CSub.nil _, trivial⟩
theorem fac_SquarefreeE_ent : Enters Try.prog 35 := enters_of Try.func35 (by kernel_rfl) (by kernel_rfl)
theorem fac_SquarefreeE (g : GfM) {p m : Int} {mod : List Int} [hF : IsF p m mod] (hg : GOk g p m mod) (A : Option Addr) (n c : Nat) (a : List Int) (hn : n = a.length) (ha9 : a.length ≤ 17592186044415) (he : facE (Po.len (pol a : Po (El p m mod))) ≠ 0) :
  Pure Try.prog 35 #[.pointer (some g.p), .slice A n c] [gfR g, ro A (ints a)] (isV (.tuple #[.slice none 0 0, .int .i64 (facE (Po.len (pol a : Po (El p m mod))))])) := by
 refine pure_of (args := [.pointer (some g.p), .slice A n c]) 26 Try.func35 rfl rfl rfl fac_SquarefreeE_ent ⟨id, id, trivial⟩ (fun w0 => ?_)
 refine tS ?_
 refine tR fun _ _ _ => ?_
 iterate 2 refine pV ?_
 refine tS ?_
 refine tR fun _ _ _ => ?_
 iterate 2 refine pV ?_
 refine eV (eCallV rfl rfl rfl (fac_enterE g hg A n c a hn ha9 he) ⟨rfl, rfl, trivial⟩ ?_)
 iterate 5 refine pV ?_
 refine tS ?_
 refine tS ?_
 refine tR fun _ _ _ => ?_
 iterate 2 refine pV ?_
 refine tC rfl (fun h2 => ?_) (fun h2 => ?_)
 ·try simp only [zbA] at h2
  refine tS ?_
  refine tR fun _ _ _ => ?_
  iterate 3 refine pV ?_
  exact tr_ret ⟨trivial, _, _, rfl, ⟨rfl, rfl⟩, CSub.nil _, trivial⟩
 ·try simp only [zbA] at h2
  omega --done
theorem fac_SquarefreeL_ent : Enters Try.prog 35 := enters_of Try.func35 (by kernel_rfl) (by kernel_rfl)
theorem fac_SquarefreeL (hlib : FacSort) (hnone : FacNone) (g : GfM) {p m : Int} {mod : List Int} [hF : IsF p m mod] (hg : GOk g p m mod) (A : Option Addr) (n c : Nat) (a : List Int) (hn : n = a.length) (ha9 : a.length ≤ 17592186044415) (he : facE (Po.len (pol a : Po (El p m mod))) = 0) :
  Pure Try.prog 35 #[.pointer (some g.p), .slice A n c] [gfR g, ro A (ints a)] (two (fun v ch ch2 => ∃ B cap fs, v = .tuple #[.slice B fs.length cap, .int .i64 0] ∧ ch = ow2 B 64 cap (fcs fs) ∧ ch2 = rowsCh 3 (rws fs) ∧ SqI (Po.mon (pol a : Po (El p m mod))) 1 (fun _ => True) fs ∧ fs.Pairwise (fun x y => x.k < y.k) ∧ fs.length ≤ 257000)) := by
 have hil := il_length (pol a : Po (El p m mod))
 have hle := facE_ok he
 have h0 : (pol a : Po (El p m mod)) ≠ 0 := Po.len_pos_iff.1 (by omega)
 have hml := Po.mon_len (pol a : Po (El p m mod))
 have hm0 := Po.mon_ne h0
 have hmil := il_length (Po.mon (pol a : Po (El p m mod)))
 refine pure_of (args := [.pointer (some g.p), .slice A n c]) 26 Try.func35 rfl rfl rfl fac_SquarefreeL_ent ⟨id, id, trivial⟩ (fun w0 => ?_)
 refine tS ?_
 refine tR fun _ _ _ => ?_
 iterate 2 refine pV ?_
 refine tS ?_
 refine tR fun _ _ _ => ?_
 iterate 2 refine pV ?_
 refine eV (eCall1 rfl rfl rfl (fac_enter g hg A n c a hn ha9 he) ⟨rfl, rfl, trivial⟩ ?_)
 rintro _ _ ⟨B1, c1, rfl, hc1, rfl⟩
 iterate 5 refine pV ?_
 refine tS ?_
 refine tS ?_
 refine tR fun _ _ _ => ?_
 iterate 2 refine pV ?_
 refine tC rfl (fun h2 => ?_) (fun h2 => ?_)
 ·try simp only [zbA] at h2
  first | exact absurd trivial h2 | exact absurd rfl h2 | omega | (exact absurd h2 (by simp)) --done
 ·try simp only [zbA] at h2
  refine tK ?_
  refine tS ?_
  refine tR fun _ _ _ => ?_
  iterate 3 refine pV ?_
  refine eV (eCall1 rfl rfl rfl (fac_monic g hg B1 _ c1 (il (pol a : Po (El p m mod))) rfl (by omega) (by rw [pol_il]; exact h0)) ⟨rfl, rfl, trivial⟩ ?_)
  rintro _ _ ⟨B4, c4, rfl, rfl⟩
  rw [pol_il]
  refine eV (eCall2 rfl rfl rfl (fac_sqf g hg B4 _ c4 (Po.mon (pol a : Po (El p m mod))) (by rw [il_length]) (Po.mon_lead h0) (by omega)) ⟨rfl, rfl, rfl, trivial⟩ ?_)
  rintro _ _ _ ⟨Bs, cs_, fs, rfl, rfl, rfl, hI, hfl⟩
  refine pV ?_
  have hbk : ∀ e ∈ fs, 0 ≤ e.k ∧ e.k ≤ 1000000 := fun e he2 => by
   have := hI.bd hm0 (Nat.le_refl 1) e he2
   omega
  refine tS ?_
  refine tR fun _ _ _ => ?_
  refine pV ?_
  refine eV (eCallM1 rfl rfl rfl (slc_SortFac hlib hnone Bs _ cs_ fs rfl (by omega) 91 [] [] trivial (fun x y => x.k - y.k) (fun x hx y hy => sqf_cmp x.r.A x.r.xs.length x.r.cap x.k y.r.A y.r.xs.length y.r.cap y.k (hbk x hx) (hbk y hy)) (fun x _ => by omega) (fun x _ y _ z _ h1 h2 => by omega) (fun x _ y _ z _ h1 h2 => by omega)) ⟨rfl, rfl, trivial⟩ ?_)
  rintro _ _ ⟨gs, rfl, rfl, hperm, hsrt⟩
  have hgl := hperm.length_eq
  refine tS ?_
  refine tR fun _ _ _ => ?_
  iterate 3 refine pV ?_
  rw [← hgl]
  exact tr_ret ⟨trivial, _, _, rfl, ⟨_, _, rfl, Bs, cs_, gs, rfl, rfl, rfl, hI.perm hperm, (hI.perm hperm).str hsrt, by omega⟩, (cs _ [rowsCh 3 (rws fs), ow2 Bs 64 cs_ (fcs gs)]).trans ((rows_permM (rs := rws fs) (qs := rws gs) (hperm.symm.map FacM.r) _).trans (cs _ _)), trivial, trivial, trivial⟩
end Go.Proofs.Ytbhoeaijpnjgdaa

set_option maxRecDepth 100000
namespace Go.Proofs.Ytbhoeaijpnjgdaa
open Go.RowKit
def fewB (l : Nat) : Bool := decide (l ≤ 25) || decide (facE l ≠ 0)
section
variable {p m : Int} {mod : List Int} [hF : IsF p m mod]
theorem nc_mod {x : Int} (h : 0 ≤ x) : (Rg.nc (x % p).toNat : El p m mod) = Rg.nc x.toNat := El.ext (by
 have hp := hF.p2
 have h1 := Int.emod_nonneg x (show p ≠ 0 by omega)
 rw [nc_val, nc_val, Int.toNat_of_nonneg h1, Int.toNat_of_nonneg h, Int.emod_emod_of_dvd _ (Int.dvd_refl p)])
end
theorem ref_times_ent : Enters Try.prog 94 := enters_of Try.func94 (by kernel_rfl) (by kernel_rfl)
theorem ref_times (p m : Int) (A : Option Addr) (c : Nat) (mod : List Int) [hF : IsF p m mod] (x y : Int) (hx : 0 ≤ x) :
  Pure Try.prog 94 #[.agg #[.int .i64 p, .int .i64 m, .slice A mod.length c], .int .i64 x, .int .i64 y] [ro A (ints mod)] (isV (.int .i64 (Rg.nc x.toNat * el y : El p m mod).1)) := by
 have hp2 := hF.p2
 have hx1 := Int.emod_nonneg x (show p ≠ 0 by omega)
 have hx2 := Int.emod_lt_of_pos x (show 0 < p by omega)
 have hp9 := hF.out.1.1.p9
 refine pure_of (args := [.agg #[.int .i64 p, .int .i64 m, .slice A mod.length c], .int .i64 x, .int .i64 y]) 22 Try.func94 rfl rfl rfl ref_times_ent ⟨id, trivial⟩ (fun w0 => ?_)
 refine tS ?_
 refine tR fun _ _ _ => ?_
 refine eV (eBox rfl rfl rfl rfl rfl (fun p0 => ?_))
 refine pV ?_
 refine tS ?_
 refine tR fun _ _ _ => ?_
 refine pV ?_
 refine tS ?_
 refine tS ?_
 refine tR fun _ _ _ => ?_
 refine pV ?_
 refine tB ?_
 refine tr_loop2 (fun (k : Int) (s : Int) => [(8, .int .i64 k), (7, .int .i64 s), (1, .int .i64 x), (2, .int .i64 y), (3, .pointer (some p0)), (6, .int .i64 0)]) (fun (k : Int) (s : Int) => [blk p0 24 [.int .i64 p, .int .i64 m, .slice A mod.length c], ro A (ints mod)]) (fun (k : Int) (s : Int) => (0 ≤ k ∧ k ≤ x % p) ∧ s = (Rg.nc k.toNat * el y : El p m mod).1) (fun (k : Int) (s : Int) => (x % p - k).toNat) (0) (0) ⟨rfl, rfl, rfl, rfl, rfl, rfl, trivial⟩ (by first | exact cs _ _ | exact CSub.refl _) (⟨⟨by omega, by omega⟩, by rw [show Int.toNat 0 = 0 from rfl, show (Rg.nc 0 : El p m mod) = 0 from rfl, Fd.zero_mul]; rfl⟩) (fun k s hI => ?_)
 obtain ⟨⟨hk0, hk1⟩, hs⟩ := hI
 refine tS ?_
 refine tS ?_
 refine tR fun _ _ _ => ?_
 iterate 2 refine pV ?_
 refine sV (rFld rfl rfl) ?_
 refine sV (rLdF rfl rfl rfl) ?_
 refine sV (rRem rfl rfl rfl (by omega) (by omega)) ?_
 refine pV ?_
 refine tC rfl (fun h3 => ?_) (fun h3 => ?_)
 ·try simp only [zbA] at h3
  refine tK ?_
  refine tS ?_
  refine tB ?_
  refine tR fun _ _ _ => ?_
  refine sV (rLdS rfl rfl rfl) ?_
  iterate 2 refine pV ?_
  refine eV (eCallV rfl rfl rfl (ref_AddE p m A c mod _ _) ⟨rfl, rfl, rfl, trivial⟩ ?_)
  refine pV ?_
  refine tR fun _ _ _ => ?_
  refine pV ?_
  refine sV (rAdd rfl rfl rfl (by omega) (by omega)) ?_
  refine pV ?_
  refine ⟨k + 1, (el s + el y : El p m mod).1, ⟨rfl, rfl, rfl, rfl, rfl, rfl, trivial⟩, by first | exact cs _ _ | exact CSub.refl _, ?_⟩
  refine ⟨⟨⟨by omega, by omega⟩, ?_⟩, by omega⟩
  rw [hs, el_of, show (k + 1).toNat = k.toNat + 1 by omega, Rg.nc_succ, Rg.add_mul, Rg.one_mul]
 ·try simp only [zbA] at h3
  refine tE ?_
  refine tS ?_
  refine tR fun _ _ _ => ?_
  iterate 2 refine pV ?_
  exact tr_ret ⟨trivial, _, _, rfl, ⟨by rw [hs, show k.toNat = (x % p).toNat by omega, nc_mod hx], rfl⟩, CSub.nil _, trivial⟩
theorem ref_Derivative_ent : Enters Try.prog 38 := enters_of Try.func38 (by kernel_rfl) (by kernel_rfl)
theorem ref_Derivative (p m : Int) (A : Option Addr) (c : Nat) (mod : List Int) [hF : IsF p m mod] (Xa : Option Addr) (na ca : Nat) (a : List Int) (hna : na = a.length) (ha9 : a.length ≤ 1000000) :
  Pure Try.prog 38 #[.agg #[.int .i64 p, .int .i64 m, .slice A mod.length c], .slice Xa na ca] [ro A (ints mod), ro Xa (ints a)] (one (fun v ch => ∃ B cap, v = .slice B (il (dP (pol a : Po (El p m mod)))).length cap ∧ ch = ow B 3 cap (ints (il (dP (pol a : Po (El p m mod))))))) := by
 refine pure_of (args := [.agg #[.int .i64 p, .int .i64 m, .slice A mod.length c], .slice Xa na ca]) 35 Try.func38 rfl rfl rfl ref_Derivative_ent ⟨id, id, trivial⟩ (fun w0 => ?_)
 refine tS ?_
 refine tR fun _ _ _ => ?_
 refine eV (eBox rfl rfl rfl rfl rfl (fun p0 => ?_))
 refine pV ?_
 refine tS ?_
 refine tS ?_
 refine tR fun _ _ _ => ?_
 refine pV ?_
 refine sV (rLen rfl rfl) ?_
 refine pV ?_
 refine tC rfl (fun h1 => ?_) (fun h1 => ?_)
 ·try simp only [zbA] at h1
  refine tS ?_
  refine tR fun _ _ _ => ?_
  refine pV ?_
  have hz : (pol a : Po (El p m mod)) = 0 := by rw [List.eq_nil_of_length_eq_zero (l := a) (by omega)]; exact pol_nil
  refine tr_nilI 3 ?_
  rw [hz, show dP (0 : Po (El p m mod)) = 0 from Po.ext fun j => by rw [cf_dP, Po.cf_zero, Rg.mul_zero, Po.cf_zero], il_zero]
  exact tr_ret ⟨trivial, _, _, rfl, ⟨_, rfl, none, 0, rfl, rfl⟩, cs _ _, trivial, trivial⟩
 ·try simp only [zbA] at h1
  refine tK ?_
  refine tS ?_
  refine tR fun _ _ _ => ?_
  refine pV ?_
  refine sV (rLen rfl rfl) ?_
  refine sV (rSub rfl rfl rfl (by omega) (by omega)) ?_
  refine eV (eMakeI rfl rfl rfl rfl rfl (by omega) (by omega) (by omega) (fun A3 => ?_))
  refine pV ?_
  rw [show ((na : Int) - 1).toNat = na - 1 by omega]
  refine tS ?_
  refine tS ?_
  refine tR fun _ _ _ => ?_
  refine pV ?_
  refine tB ?_
  refine tr_loop2 (fun (k : Int) (o : List Int) => [(5, .slice A3 (na - 1) (na - 1)), (6, .int .i64 k), (1, .slice Xa na ca), (2, .pointer (some p0)), (4, .slice none 0 0)]) (fun (k : Int) (o : List Int) => [ow A3 3 (na - 1) (ints o), blk p0 24 [.int .i64 p, .int .i64 m, .slice A mod.length c], ro A (ints mod), ro Xa (ints a)]) (fun (k : Int) (o : List Int) => (0 ≤ k ∧ k ≤ na - 1) ∧ o.length = na - 1 ∧ ∀ j : Nat, (j : Int) < k → (el (o.getD j 0) : El p m mod) = Rg.nc (j + 1) * el (a.getD (j + 1) 0)) (fun (k : Int) (o : List Int) => (na - k).toNat) (0) (List.replicate (na - 1) 0) ⟨rfl, rfl, rfl, rfl, rfl, trivial⟩ (by first | exact cs _ _ | exact CSub.refl _) (⟨⟨by omega, by omega⟩, by simp, fun j hj => by omega⟩) (fun k o hI => ?_)
  obtain ⟨⟨hk0, hk1⟩, hol, ho⟩ := hI
  refine tS ?_
  refine tS ?_
  refine tR fun _ _ _ => ?_
  iterate 2 refine pV ?_
  refine sV (rLen rfl rfl) ?_
  refine pV ?_
  refine tC rfl (fun h5 => ?_) (fun h5 => ?_)
  ·try simp only [zbA] at h5
   refine tK ?_
   refine tS ?_
   refine tB ?_
   refine tr_draw [0, 1, 2, 3, 4, 5, 6, 7, 8, 9, 10, 11] [12] mixed (by kernel_rfl) fun _ _ _ => ?_
   iterate 2 refine pV ?_
   refine sV (rLdS rfl rfl rfl) ?_
   refine pV ?_
   refine sV (rAdd rfl rfl rfl (by omega) (by omega)) ?_
   iterate 2 refine pV ?_
   refine sV (rAdd rfl rfl rfl (by omega) (by omega)) ?_
   refine sV (rIdxI rfl rfl rfl (by omega) (by omega) (by omega)) ?_
   refine sV (rLdI rfl rfl (by omega)) ?_
   refine eV (eCallV rfl rfl rfl (ref_times p m A c mod (k + 1) _ (by omega)) ⟨rfl, rfl, rfl, trivial⟩ ?_)
   refine sV (rIdxI rfl rfl rfl (by omega) (by omega) (by omega)) ?_
   refine eV (eStI rfl rfl rfl rfl (by omega) ?_)
   refine tR fun _ _ _ => ?_
   refine pV ?_
   refine sV (rAdd rfl rfl rfl (by omega) (by omega)) ?_
   refine pV ?_
   refine ⟨k + 1, o.set k.toNat (Rg.nc (k + 1).toNat * el (a.getD (k + 1).toNat 0) : El p m mod).1, ⟨rfl, rfl, rfl, rfl, rfl, trivial⟩, by first | exact cs _ _ | exact CSub.refl _, ?_⟩
   refine ⟨⟨⟨by omega, by omega⟩, by simpa using hol, fun j hj => ?_⟩, by omega⟩
   rw [getD_set]
   by_cases he : k.toNat = j
   ·subst he; rw [if_pos ⟨rfl, by omega⟩, el_of, show (k + 1).toNat = k.toNat + 1 by omega]
   ·rw [if_neg (fun e => he e.1)]; exact ho j (by omega)
  ·try simp only [zbA] at h5
   refine tE ?_
   refine tS ?_
   refine tR fun _ _ _ => ?_
   refine sV (rLdS rfl rfl rfl) ?_
   refine pV ?_
   refine eV (eCall1 rfl rfl rfl (ref_CanonE _ _ _ _ _ _ _ _ o (by omega) (by omega)) ⟨rfl, rfl, trivial⟩ ?_)
   rintro _ _ ⟨B8, c8, rfl, rfl⟩
   refine pV ?_
   have hp : (pol o : Po (El p m mod)) = dP (pol a) := pol_at fun j => by
    rw [cf_dP, cf_pol]
    by_cases hj : (j : Int) < k
    ·exact ho j hj
    ·rw [getD_out (l := o) (by omega), getD_out (l := a) (by omega), el_zero, Fd.mul_zero]
   rw [hp]
   exact tr_ret ⟨trivial, _, _, rfl, ⟨_, rfl, B8, c8, rfl, rfl⟩, cs _ _, trivial, trivial⟩
theorem ref_PMonicL_ent : Enters Try.prog 36 := enters_of Try.func36 (by kernel_rfl) (by kernel_rfl)
theorem ref_PMonicL (p m : Int) (A : Option Addr) (c : Nat) (mod : List Int) [hF : IsF p m mod] (Xa : Option Addr) (na ca : Nat) (a : List Int) (hna : na = a.length) (ha9 : a.length ≤ 17592186044415) (hal : (il (pol a : Po (El p m mod))).length ≤ 1000000) :
  Pure Try.prog 36 #[.agg #[.int .i64 p, .int .i64 m, .slice A mod.length c], .slice Xa na ca] [ro A (ints mod), ro Xa (ints a)] (one (fun v ch => ∃ B cap, v = .slice B (il (Po.mon (pol a : Po (El p m mod)))).length cap ∧ ch = ow B 3 cap (ints (il (Po.mon (pol a : Po (El p m mod))))))) := by
 have hil := il_le (p := p) (m := m) (mod := mod) a
 refine pure_of (args := [.agg #[.int .i64 p, .int .i64 m, .slice A mod.length c], .slice Xa na ca]) 23 Try.func36 rfl rfl rfl ref_PMonicL_ent ⟨id, id, trivial⟩ (fun w0 => ?_)
 refine tS ?_
 refine tR fun _ _ _ => ?_
 refine eV (eBox rfl rfl rfl rfl rfl (fun p0 => ?_))
 refine pV ?_
 refine tS ?_
 refine tR fun _ _ _ => ?_
 refine sV (rLdS rfl rfl rfl) ?_
 refine pV ?_
 refine eV (eCall1 rfl rfl rfl (ref_CanonE _ _ _ _ _ _ _ _ a hna (by omega)) ⟨rfl, rfl, trivial⟩ ?_)
 rintro _ _ ⟨B1, c1, rfl, rfl⟩
 refine pV ?_
 refine tS ?_
 refine tS ?_
 refine tR fun _ _ _ => ?_
 refine pV ?_
 refine sV (rLen rfl rfl) ?_
 refine pV ?_
 refine tC rfl (fun h2 => ?_) (fun h2 => ?_)
 ·try simp only [zbA] at h2
  refine tS ?_
  refine tR fun _ _ _ => ?_
  iterate 2 refine pV ?_
  have h0 : (pol a : Po (El p m mod)) = 0 := Po.eq_zero_of_len (by rw [← il_length]; omega)
  rw [show Po.mon (pol a : Po (El p m mod)) = pol a by rw [h0, Po.mon_zero]]
  exact tr_ret ⟨trivial, _, _, rfl, ⟨_, rfl, B1, c1, rfl, rfl⟩, cs _ _, trivial, trivial⟩
 ·try simp only [zbA] at h2
  refine tK ?_
  refine tS ?_
  refine tr_draw [0, 1, 2, 3, 4, 5, 6, 7, 9, 8, 10, 11] [] mixed (by kernel_rfl) fun _ _ _ => ?_
  refine sV (rLdS rfl rfl rfl) ?_
  refine sV (rLdS rfl rfl rfl) ?_
  iterate 2 refine pV ?_
  refine sV (rLen rfl rfl) ?_
  refine sV (rSub rfl rfl rfl (by omega) (by omega)) ?_
  refine sV (rIdxI rfl rfl rfl (by omega) (by omega) (by omega)) ?_
  refine sV (rLdI rfl rfl (by omega)) ?_
  refine pV ?_
  refine eV (eCallV rfl rfl rfl (ref_InvE _ _ _ _ _ _) ⟨rfl, rfl, trivial⟩ ?_)
  refine eV (eCall1 rfl rfl rfl (ref_PScale _ _ _ _ _ _ B1 _ _ (il (pol a : Po (El p m mod))) rfl (by omega)) ⟨rfl, rfl, rfl, trivial⟩ ?_)
  rintro _ _ ⟨Br, cr, rfl, rfl⟩
  refine pV ?_
  have hp : Po.C (el (Fd.inv (el ((il (pol a : Po (El p m mod))).getD ((il (pol a : Po (El p m mod))).length - 1 : Int).toNat 0)) : El p m mod).1) * (pol (il (pol a : Po (El p m mod))) : Po (El p m mod)) = Po.mon (pol a) := by
   rw [el_of, pol_il, il_getD, el_of]
   unfold Po.mon Po.lead
   rw [il_length, show ((Po.len (pol a : Po (El p m mod)) : Int) - 1).toNat = Po.len (pol a : Po (El p m mod)) - 1 by omega]
  rw [hp]
  exact tr_ret ⟨trivial, _, _, rfl, ⟨_, rfl, Br, cr, rfl, rfl⟩, cs _ _, trivial, trivial⟩
theorem law06_few_ent : Enters Try.prog 13 := enters_of Try.func13 (by kernel_rfl) (by kernel_rfl)
theorem law06_few (p m : Int) (A : Option Addr) (c : Nat) (mod : List Int) [hF : IsF p m mod] (Xa : Option Addr) (na ca : Nat) (a : List Int) (hna : na = a.length) (ha9 : a.length ≤ 17592186044415) :
  Pure Try.prog 13 #[.agg #[.int .i64 p, .int .i64 m, .slice A mod.length c], .slice Xa na ca] [ro A (ints mod), ro Xa (ints a)] (isV (.bool (fewB (Po.len (pol a : Po (El p m mod)))))) := by
 refine pure_of (args := [.agg #[.int .i64 p, .int .i64 m, .slice A mod.length c], .slice Xa na ca]) 15 Try.func13 rfl rfl rfl law06_few_ent ⟨id, id, trivial⟩ (fun w0 => ?_)
 refine tS ?_
 refine tR fun _ _ _ => ?_
 refine eV (eBox rfl rfl rfl rfl rfl (fun p0 => ?_))
 refine pV ?_
 refine tS ?_
 by_cases hs : (Po.len (pol a : Po (El p m mod))) ≤ 25
 ·refine tR fun _ _ _ => ?_
  refine sV (rLdS rfl rfl rfl) ?_
  refine pV ?_
  refine eV (eCallV rfl rfl rfl (ref_PDegree p m A c mod Xa na ca a hna ha9) ⟨rfl, rfl, trivial⟩ ?_)
  iterate 2 refine pV ?_
  refine skF rfl rfl (by first | exact decide_eq_true (by omega) | (rw [decide_eq_true (show ((Po.len (pol a : Po (El p m mod))) : Int) - 1 ≤ 24 by omega)]; rfl)) rfl rfl ?_
  refine skF rfl rfl (by first | exact decide_eq_true (by omega) | (rw [decide_eq_true (show ((Po.len (pol a : Po (El p m mod))) : Int) - 1 ≤ 24 by omega)]; rfl)) rfl rfl ?_
  refine skF rfl rfl (by first | exact decide_eq_true (by omega) | (rw [decide_eq_true (show ((Po.len (pol a : Po (El p m mod))) : Int) - 1 ≤ 24 by omega)]; rfl)) rfl rfl ?_
  refine skF rfl rfl (by first | exact decide_eq_true (by omega) | (rw [decide_eq_true (show ((Po.len (pol a : Po (El p m mod))) : Int) - 1 ≤ 24 by omega)]; rfl)) rfl rfl ?_
  refine sV (rPick1 rfl rfl (by first | exact decide_eq_true (by omega) | (rw [decide_eq_true (show ((Po.len (pol a : Po (El p m mod))) : Int) - 1 ≤ 24 by omega)]; rfl)) rfl) ?_
  refine pV ?_
  exact tr_ret ⟨trivial, _, _, rfl, ⟨by unfold fewB; simp; omega, rfl⟩, CSub.nil _, trivial⟩
 ·refine tR fun _ _ _ => ?_
  refine sV (rLdS rfl rfl rfl) ?_
  refine pV ?_
  refine eV (eCallV rfl rfl rfl (ref_PDegree p m A c mod Xa na ca a hna ha9) ⟨rfl, rfl, trivial⟩ ?_)
  iterate 2 refine pV ?_
  refine stT rfl rfl rfl (by first | exact decide_eq_false (by omega) | (rw [decide_eq_false (show ¬ (((Po.len (pol a : Po (El p m mod))) : Int) - 1 ≤ 24) by omega)]; rfl)) rfl rfl (rLdS rfl rfl rfl) ?_
  refine stT rfl rfl rfl (by first | exact decide_eq_false (by omega) | (rw [decide_eq_false (show ¬ (((Po.len (pol a : Po (El p m mod))) : Int) - 1 ≤ 24) by omega)]; rfl)) rfl rfl (rMove rfl rfl) ?_
  refine efT rfl rfl rfl (by first | exact decide_eq_false (by omega) | (rw [decide_eq_false (show ¬ (((Po.len (pol a : Po (El p m mod))) : Int) - 1 ≤ 24) by omega)]; rfl)) (eCallV rfl rfl rfl (ref_Right p m A c mod Xa na ca a hna ha9) ⟨rfl, rfl, trivial⟩ ?_)
  refine stT rfl rfl rfl (by first | exact decide_eq_false (by omega) | (rw [decide_eq_false (show ¬ (((Po.len (pol a : Po (El p m mod))) : Int) - 1 ≤ 24) by omega)]; rfl)) rfl rfl (rNeq rfl rfl rfl) ?_
  refine sV (rPick0 rfl rfl (by first | exact decide_eq_false (by omega) | (rw [decide_eq_false (show ¬ (((Po.len (pol a : Po (El p m mod))) : Int) - 1 ≤ 24) by omega)]; rfl)) rfl) ?_
  refine pV ?_
  exact tr_ret ⟨trivial, _, _, rfl, ⟨by unfold fewB; simp; omega, rfl⟩, CSub.nil _, trivial⟩
end Go.Proofs.Ytbhoeaijpnjgdaa

namespace Go.Proofs.Ytbhoeaijpnjgdaa
open Go Go.RowKit Go.Sort Go.Shelf
theorem facSort : FacSort := fun fs _ cf hO g cb blk off cap d w eg hcmp hH hblk hsz =>
 AnyQ.slices_SortFunc Try.sortFac 2 fc_agg fc_size (encF fs) (fun _ => rfl) (fun x v hv => by
  simp only [encF, List.mem_cons, List.not_mem_nil, or_false] at hv
  rcases hv with rfl | rfl <;> rfl) cf hO g cb blk off cap d w eg hcmp hH hblk hsz
theorem facNone : FacNone := fun p cap fv w => AnyF.slices_SortFunc_none Try.sortFac p cap fv w
end Go.Proofs.Ytbhoeaijpnjgdaa

namespace Go.Proofs.Ytbhoeaijpnjgdaa
open Go.RowKit
section
variable {p m : Int} {mod : List Int} [hF : IsF p m mod]
open Po
theorem lead1_ne {f : Po (El p m mod)} (h : lead f = 1) : f ≠ 0 := fun e => by
 rw [e] at h
 exact Fd.one_ne (K := El p m mod) (h.symm.trans (by unfold Po.lead; exact Po.cf_zero _))
theorem mu_pos {P f : Po (El p m mod)} (hP : Ir P) (hf : f ≠ 0) : P ∣ f ↔ 1 ≤ mu P f := by
 have := mu_le_iff hP hf 1
 rwa [Rg.pow_one] at this
theorem len_one_of_mu {g : Po (El p m mod)} (hg : g ≠ 0) (h : ∀ P, Ir P → lead P = 1 → mu P g = 0) : len g = 1 := by
 have h1 := len_pos hg
 refine Nat.le_antisymm (Nat.le_of_not_lt fun hl => ?_) h1
 obtain ⟨P, hP, hPl, hd⟩ := ir_ex hl
 have := (mu_pos hP hg).1 hd
 have := h P hP hPl
 omega
theorem one_of_len {f : Po (El p m mod)} (h : lead f = 1) (hl : len f = 1) : f = 1 := Po.ext fun j => by
 unfold lead at h
 rw [hl] at h
 by_cases hj : j = 0
 ·subst hj
  rw [h]; rfl
 ·rw [cf_ge (by omega), cf_ge (by rw [len_one]; omega)]
theorem eq_mu1 : ∀ (N : Nat) (f g : Po (El p m mod)), len f ≤ N → lead f = 1 → lead g = 1 → (∀ P, Ir P → lead P = 1 → mu P f = mu P g) → f = g
 | 0, f, g, hN, hf, hg, h => absurd (len_pos (lead1_ne hf)) (by omega)
 | N + 1, f, g, hN, hf, hg, h => by
  have hf0 := lead1_ne hf
  have hg0 := lead1_ne hg
  by_cases hl : 2 ≤ len f
  ·obtain ⟨P, hP, hPl, hd⟩ := ir_ex hl
   have h1 := (mu_pos hP hf0).1 hd
   rw [h P hP hPl] at h1
   obtain ⟨a, ha⟩ := hd
   obtain ⟨b, hb⟩ := (mu_pos hP hg0).2 h1
   have ha0 : a ≠ 0 := fun e => hf0 (by rw [ha, e, Rg.mul_zero])
   have hb0 : b ≠ 0 := fun e => hg0 (by rw [hb, e, Rg.mul_zero])
   have hla : lead a = 1 := by rw [ha, lead_mul hP.ne ha0, hPl, Rg.one_mul] at hf; exact hf
   have hlb : lead b = 1 := by rw [hb, lead_mul hP.ne hb0, hPl, Rg.one_mul] at hg; exact hg
   have hlen := len_mul hP.ne ha0
   have hP2 := hP.two
   have := len_pos ha0
   rw [← ha] at hlen
   have e := eq_mu1 N a b (by omega) hla hlb fun Q hQ hQl => by
    have h2 := h Q hQ hQl
    rw [ha, hb, mu_mul hQ hP.ne ha0, mu_mul hQ hP.ne hb0] at h2
    omega
   rw [ha, hb, e]
  ·have hl1 : len f = 1 := by have := len_pos hf0; omega
   have hf1 := one_of_len hf hl1
   have hg1 := one_of_len hg (len_one_of_mu hg0 fun P hP hPl => by rw [← h P hP hPl, hf1, mu_one hP])
   rw [hf1, hg1]
theorem prF_mu {fs : List FacM} (h : ∀ e ∈ fs, lead (fcP p m mod e) = 1 ∧ 0 ≤ e.k) : ∀ n, n ≤ fs.length → lead (prF p m mod 1 fs n) = 1 ∧ ((len (prF p m mod 1 fs n) : Nat) : Int) = fcT p m mod fs n + 1
 | 0, _ => by
  have e : prF p m mod 1 fs 0 = (1 : Po (El p m mod)) := by show C (el 1) = 1; rw [el_one]; rfl
  rw [e]
  refine ⟨?_, ?_⟩
  ·unfold lead; rw [len_one]; rfl
  ·rw [len_one]; rfl
 | n + 1, hn => by
  obtain ⟨h1, h2⟩ := prF_mu h n (by omega)
  have hm := getD_mem (l := fs) (show n < fs.length by omega) facD
  obtain ⟨h3, h4⟩ := h _ hm
  have e : prF p m mod 1 fs (n + 1) = prF p m mod 1 fs n * Rg.pow (fcP p m mod (fs.getD n facD)) (fs.getD n facD).k.toNat := rfl
  have hQ0 := lead1_ne h3
  have hlp : lead (Rg.pow (fcP p m mod (fs.getD n facD)) (fs.getD n facD).k.toNat) = 1 := by
   generalize (fs.getD n facD).k.toNat = k
   induction k with
   | zero => show lead (1 : Po (El p m mod)) = 1; unfold lead; rw [len_one]; rfl
   | succ k ih => rw [Rg.pow_succ, lead_mul (pow_ne0 hQ0 k) hQ0, ih, h3, Rg.one_mul]
  refine ⟨by rw [e, lead_mul (lead1_ne h1) (lead1_ne hlp), h1, hlp, Rg.one_mul], ?_⟩
  have hl := len_mul (lead1_ne h1) (lead1_ne hlp)
  rw [← e, len_powN hQ0] at hl
  have hq := len_pos hQ0
  have h5 := len_pos (lead1_ne h1)
  rw [fcT_succ (by omega)]
  have h6 : fcD p m mod (fs.getD n facD) = ((len (fcP p m mod (fs.getD n facD)) - 1 : Nat) : Int) := by unfold fcD; omega
  have h7 : ((fs.getD n facD).k.toNat * (len (fcP p m mod (fs.getD n facD)) - 1) : Nat) = fcD p m mod (fs.getD n facD) * (fs.getD n facD).k := by
   rw [h6, Int.natCast_mul, Int.toNat_of_nonneg h4, Int.mul_comm]
  omega
theorem prF_mu2 {fs : List FacM} (h : ∀ e ∈ fs, lead (fcP p m mod e) = 1 ∧ 0 ≤ e.k) {P : Po (El p m mod)} (hP : Ir P) {M : Nat} (hM : ∀ e ∈ fs, e.k.toNat * mu P (fcP p m mod e) = if e.k.toNat = M then M else 0) (hnd : (fs.map FacM.k).Nodup) : ∀ n, n ≤ fs.length → mu P (prF p m mod 1 fs n) = if ∃ j, j < n ∧ (fs.getD j facD).k.toNat = M then M else 0
 | 0, _ => by
  have e : prF p m mod 1 fs 0 = (1 : Po (El p m mod)) := by show C (el 1) = 1; rw [el_one]; rfl
  rw [e, mu_one hP, if_neg (fun ⟨j, hj, _⟩ => by omega)]
 | n + 1, hn => by
  have ih := prF_mu2 h hP hM hnd n (by omega)
  have hm := getD_mem (l := fs) (show n < fs.length by omega) facD
  have h1 := lead1_ne (prF_mu h n (by omega)).1
  have h2 := lead1_ne (h _ hm).1
  have e : prF p m mod 1 fs (n + 1) = prF p m mod 1 fs n * Rg.pow (fcP p m mod (fs.getD n facD)) (fs.getD n facD).k.toNat := rfl
  rw [e, mu_mul hP h1 (pow_ne0 h2 _), mu_pow hP h2, ih, hM _ hm]
  have hinj : ∀ j, j < n → (fs.getD j facD).k.toNat = M → (fs.getD n facD).k.toNat = M → False := fun j hj e1 e2 => by
   have hk := (h _ hm).2
   have hkj := (h _ (getD_mem (l := fs) (show j < fs.length by omega) facD)).2
   have e3 : (fs.getD j facD).k = (fs.getD n facD).k := by omega
   have h5 := List.pairwise_iff_getElem.1 hnd j n (by simp; omega) (by simp; omega) hj
   rw [List.getElem_map, List.getElem_map] at h5
   refine h5 ?_
   rw [List.getD_eq_getElem?_getD, List.getElem?_eq_getElem (show j < fs.length by omega), List.getD_eq_getElem?_getD, List.getElem?_eq_getElem (show n < fs.length by omega)] at e3
   exact e3
  by_cases ha : ∃ j, j < n ∧ (fs.getD j facD).k.toNat = M
  ·obtain ⟨j, hj, hjM⟩ := ha
   have hb : ¬ (fs.getD n facD).k.toNat = M := fun e2 => hinj j hj hjM e2
   rw [if_pos ⟨j, hj, hjM⟩, if_neg hb, if_pos ⟨j, by omega, hjM⟩, Nat.add_zero]
  ·rw [if_neg ha]
   by_cases hb : (fs.getD n facD).k.toNat = M
   ·rw [if_pos hb, if_pos ⟨n, by omega, hb⟩, Nat.zero_add]
   ·rw [if_neg hb, if_neg (fun ⟨j, hj, hjM⟩ => by
     rcases Nat.lt_or_eq_of_le (Nat.le_of_lt_succ hj) with e1 | e1
     ·exact ha ⟨j, e1, hjM⟩
     ·exact hb (by rw [← e1]; exact hjM))]
theorem SqI.fc {f : Po (El p m mod)} {φ : Nat → Prop} {fs : List FacM} (h : SqI f 1 φ fs) : ∀ e ∈ fs, lead (fcP p m mod e) = 1 ∧ 0 ≤ e.k ∧ 2 ≤ len (fcP p m mod e) ∧ 1 ≤ e.k ∧ Sf (fcP p m mod e) ∧ (∀ P, Ir P → lead P = 1 → (P ∣ fcP p m mod e ↔ mu P f = e.k.toNat)) ∧ e.r.xs = il (fcP p m mod e) := fun e he => by
 obtain ⟨Q, k, h1, h2, h3, h4, h5, h6, h7, h8⟩ := h.each e he
 have eQ : fcP p m mod e = Q := by unfold fcP; rw [h1, pol_il]
 rw [Nat.one_mul] at h6
 rw [eQ, show e.k.toNat = k by omega]
 exact ⟨h2, by omega, h3, by omega, h7, h8, h1⟩
theorem SqI.prod {f : Po (El p m mod)} {fs : List FacM} (hf : lead f = 1) (h : SqI f 1 (fun _ => True) fs) : prF p m mod 1 fs fs.length = f ∧ fcT p m mod fs fs.length = (len f : Int) - 1 := by
 have hf0 := lead1_ne hf
 have hfc : ∀ e ∈ fs, lead (fcP p m mod e) = 1 ∧ 0 ≤ e.k := fun e he => ⟨(h.fc e he).1, (h.fc e he).2.1⟩
 obtain ⟨h1, h2⟩ := prF_mu hfc fs.length (Nat.le_refl _)
 have e : prF p m mod 1 fs fs.length = f := eq_mu1 _ _ _ (Nat.le_refl _) h1 hf fun P hP hPl => by
  have hM : ∀ e ∈ fs, e.k.toNat * mu P (fcP p m mod e) = if e.k.toNat = mu P f then mu P f else 0 := fun e he => by
   obtain ⟨a1, a2, a3, a4, a5, a6, a7⟩ := h.fc e he
   have hQ0 := lead1_ne a1
   have h3 := a6 P hP hPl
   rw [mu_pos hP hQ0] at h3
   by_cases e1 : e.k.toNat = mu P f
   ·have h4 := h3.2 e1.symm
    have h5 := (sf_iff_mu hQ0).1 a5 P hP
    rw [if_pos e1, show mu P (fcP p m mod e) = 1 by omega, Nat.mul_one, e1]
   ·rw [if_neg e1, show mu P (fcP p m mod e) = 0 by
     refine Nat.eq_zero_of_not_pos fun h4 => e1 (h3.1 h4).symm, Nat.mul_zero]
  rw [prF_mu2 hfc hP hM h.nd fs.length (Nat.le_refl _)]
  by_cases h0 : 1 ≤ mu P f
  ·obtain ⟨e, he, hek⟩ := h.all P hP hPl h0 trivial
   obtain ⟨j, hj, rfl⟩ := List.getElem_of_mem he
   rw [if_pos ⟨j, hj, by
    rw [List.getD_eq_getElem?_getD, List.getElem?_eq_getElem hj]
    show fs[j].k.toNat = _
    rw [hek, Nat.one_mul]; rfl⟩]
  ·split <;> omega
 refine ⟨e, ?_⟩
 rw [e] at h2
 omega
theorem SqI.le {f : Po (El p m mod)} {fs : List FacM} (hf : lead f = 1) (h : SqI f 1 (fun _ => True) fs) : ∀ e ∈ fs, len (fcP p m mod e) ≤ len f ∧ e.r.xs.length ≤ len f := fun e he => by
 obtain ⟨j, hj, rfl⟩ := List.getElem_of_mem he
 have hp := (h.prod hf).2
 have hnn : ∀ e ∈ fs, 0 ≤ e.k := fun e he => (h.fc e he).2.1
 have h1 := fcT_succ (p := p) (m := m) (mod := mod) hj
 have h2 := fcT_mono (p := p) (m := m) (mod := mod) hnn (show j + 1 ≤ fs.length by omega)
 have h3 := fcT_mono (p := p) (m := m) (mod := mod) hnn (Nat.zero_le j)
 have e0 : fcT p m mod fs 0 = 0 := rfl
 have eg : fs.getD j facD = fs[j] := by rw [List.getD_eq_getElem?_getD, List.getElem?_eq_getElem hj]; rfl
 rw [eg] at h1
 obtain ⟨a1, a2, a3, a4, a5, a6, a7⟩ := h.fc _ he
 have h4 : fcD p m mod fs[j] * 1 ≤ fcD p m mod fs[j] * fs[j].k := Int.mul_le_mul_of_nonneg_left a4 (fcD_nn _)
 have h5 : fcD p m mod fs[j] = max ((len (fcP p m mod fs[j]) : Int) - 1) 0 := rfl
 have h6 : len (fcP p m mod fs[j]) ≤ len f := by omega
 exact ⟨h6, by rw [a7, il_length]; exact h6⟩
theorem sf_der {Q : Po (El p m mod)} (hQ : Q ≠ 0) (h : Sf Q) : len (Po.gcd Q (dP Q)) = 1 := len_one_of_mu (gcd_ne (.inl hQ)) fun P hP hPl => by
 have h1 := (sf_iff_mu hQ).1 h P hP
 have hp := hF.p2
 rw [mu_gcd_dP hP hQ]
 rcases Nat.eq_zero_or_pos (mu P Q) with e | e
 ·rw [e]; simp
 ·have e2 : mu P Q = 1 := by omega
  rw [e2, if_neg (by rw [show ((1 : Nat) : Int) % p = 1 from Int.emod_eq_of_lt (by omega) (by omega)]; omega)]
theorem SqI.cop {f : Po (El p m mod)} {fs : List FacM} (h : SqI f 1 (fun _ => True) fs) {x y : FacM} (hx : x ∈ fs) (hy : y ∈ fs) (hxy : x.k ≠ y.k) : len (Po.gcd (fcP p m mod x) (fcP p m mod y)) = 1 := by
 obtain ⟨a1, a2, a3, a4, a5, a6, a7⟩ := h.fc x hx
 obtain ⟨b1, b2, b3, b4, b5, b6, b7⟩ := h.fc y hy
 have hX0 := lead1_ne a1
 have hY0 := lead1_ne b1
 refine len_one_of_mu (gcd_ne (.inl hX0)) fun P hP hPl => ?_
 rw [mu_gcd hP hX0 hY0]
 have h1 := a6 P hP hPl
 have h2 := b6 P hP hPl
 rw [mu_pos hP hX0] at h1
 rw [mu_pos hP hY0] at h2
 rcases Nat.eq_zero_or_pos (mu P (fcP p m mod x)) with e | e
 ·rw [e]; exact Nat.zero_min _
 ·rcases Nat.eq_zero_or_pos (mu P (fcP p m mod y)) with e2 | e2
  ·rw [e2]; exact Nat.min_zero _
  ·have := h1.1 e
   have := h2.1 e2
   omega
end
end Go.Proofs.Ytbhoeaijpnjgdaa

/-
  BCHSOLOMON, PART 6 OF 9. One sentence: the texts behind the law BchSolomon, put together.
  Conditions: each theorem's own, written out in it.
-/
import Derived.Test.YtgnmcoegdogfgaaGreatK5
set_option linter.unusedSimpArgs false
set_option linter.unusedVariables false
set_option linter.unusedSectionVars false
set_option linter.unusedSimpArgs false
set_option linter.unusedVariables false
set_option maxRecDepth 100000
namespace Go.Proofs.YtgnmcoegdogfgaaGreat
open Go.RowKit
theorem ref_Combine_ent : Enters Tryz.prog 50 := enters_of Tryz.func50 (by kernel_rfl) (by kernel_rfl)
theorem ref_Combine (p m : Int) (A : Option Addr) (c : Nat) (mod : List Int) [hF : IsF p m mod] (X : Option Addr) (nx cx : Nat) (x : List Int) (hnx : nx = x.length) (w : Int) (hw0 : 0 ≤ w) (hw9 : w ≤ 1000) (Aa : Option Addr) (n ca : Nat) (rs : List RowM) (hn : n = rs.length) (hx : x.length = rs.length) (h9 : rs.length ≤ 1000000) (hgd : Gd (pw p m) w.toNat rs) :
    Pure Tryz.prog 50 #[.agg #[.int .i64 p, .int .i64 m, .slice A mod.length c], .slice X nx cx, .slice Aa n ca, .int .i64 w] [ro A (ints mod), ro X (ints x), ro Aa (hdrs rs), rowsR rs] (one (fun v ch => ∃ B cb o, v = .slice B o.length cb ∧ ch = ow B 3 cb (ints o) ∧ (o.length : Int) = w ∧ AllIn (pw p m) o ∧ (rw' o : Vc (El p m mod)) = Vc.cmb (fun i => el (x.getD i 0)) (vsR rs))) := by
  have hq2 := hF.q2
  refine pure_of (args := [.agg #[.int .i64 p, .int .i64 m, .slice A mod.length c], .slice X nx cx, .slice Aa n ca, .int .i64 w]) 42 Tryz.func50 rfl rfl rfl ref_Combine_ent ⟨id, id, id, id, trivial⟩ (fun w0 => ?_)
  refine tr_seq ?_
  refine tr_region fun _ _ _ => ?_
  refine ef rfl rfl (eBox rfl rfl rfl rfl rfl (fun p0 => ?_)) 
  refine pu rfl rfl rfl rfl rfl ?_
  refine tr_seq ?_
  refine tr_region fun _ _ _ => ?_
  refine pu rfl rfl rfl rfl rfl ?_
  refine ef rfl rfl (eMakeI rfl rfl rfl rfl rfl (by omega) (by omega) (by omega) (fun A1 => ?_)) 
  refine pu rfl rfl rfl rfl rfl ?_
  refine tr_seq ?_
  refine tr_seq ?_
  refine tr_region fun _ _ _ => ?_
  refine pu rfl rfl rfl rfl rfl ?_
  refine tr_block ?_
  refine tr_loop5 (fun (k : Int) (B : Option Addr) (cb : Nat) (no : Nat) (o : List Int) => [(9, .slice B no cb), (10, .int .i64 k), (1, .slice X nx cx), (2, .slice Aa n ca), (4, .pointer (some p0)), (8, .slice none 0 0)]) (fun (k : Int) (B : Option Addr) (cb : Nat) (no : Nat) (o : List Int) => [ow B 3 cb (ints o), blk p0 24 [.int .i64 p, .int .i64 m, .slice A mod.length c], ro A (ints mod), ro X (ints x), ro Aa (hdrs rs), rowsR rs]) (fun (k : Int) (B : Option Addr) (cb : Nat) (no : Nat) (o : List Int) => (0 ≤ k ∧ k ≤ n) ∧ no = o.length ∧ ((o.length : Int) = w ∧ AllIn (pw p m) o) ∧ (rw' o : Vc (El p m mod)) = Vc.cmb (Vc.upC (fun i => (el (x.getD i 0) : El p m mod)) k.toNat) (vsR rs)) (fun (k : Int) (B : Option Addr) (cb : Nat) (no : Nat) (o : List Int) => (n - k).toNat) (0) (A1) (w.toNat) (w.toNat) (List.replicate w.toNat 0) ⟨rfl, rfl, rfl, rfl, rfl, rfl, trivial⟩ (by first | exact cs _ _ | exact CSub.refl _) (⟨⟨by omega, by omega⟩, by simp, ⟨by simp; omega, allIn_rep (by omega) _⟩, by rw [Int.toNat_zero, Vc.cmb_up_zero]; exact Vc.ext fun j => by rw [rw_at, rep_get, el_zero]; rfl⟩) (fun k B cb no o hI => ?_)
  obtain ⟨⟨hk0, hk1⟩, hno, ⟨hol, hoi⟩, hoe⟩ := hI
  refine tr_seq ?_
  refine tr_seq ?_
  refine tr_region fun _ _ _ => ?_
  iterate 2 refine pu rfl rfl rfl rfl rfl ?_
  refine st rfl rfl rfl rfl (rLen rfl rfl) ?_
  iterate 2 refine pu rfl rfl rfl rfl rfl ?_
  refine stg rfl rfl rfl rfl rfl (fun hb => by (have hq := hb; try simp only [zbA] at hq); exact rMove rfl rfl) ?_
  refine stg rfl rfl rfl rfl rfl (fun hb => by (have hq := hb; try simp only [zbA] at hq); exact rMove rfl rfl) ?_
  refine stg rfl rfl rfl rfl rfl (fun hb => by (have hq := hb; try simp only [zbA] at hq); exact rLen rfl (evg rfl hb)) ?_
  refine stg rfl rfl rfl rfl rfl (fun hb => by (have hq := hb; try simp only [zbA] at hq); exact rLss rfl (evg rfl hb) (evg rfl hb)) ?_
  refine st rfl rfl rfl rfl (rAndB rfl rfl rfl rfl) ?_
  refine tr_cond_bool rfl (fun h3 => ?_) (fun h3 => ?_)
  · try simp only [zbA] at h3
    refine tr_skip ?_
    refine tr_seq ?_
    refine tr_block ?_
    refine tr_seq ?_
    haveI : InB k.toNat rs.length := ⟨by omega⟩
    have hgk := hgd.get (show k.toNat < rs.length by omega)
    have hgk1 := hgk.1
    refine tr_region fun _ _ _ => ?_
    iterate 2 refine pu rfl rfl rfl rfl rfl ?_
    refine st rfl rfl rfl rfl (rIdxI rfl rfl rfl (by omega) (by omega) (by omega)) ?_
    refine st rfl rfl rfl rfl (rLdI rfl rfl (by omega)) ?_
    refine pu rfl rfl rfl rfl rfl ?_
    refine tr_cond_bool rfl (fun h5 => ?_) (fun h5 => ?_)
    · try simp only [zbA] at h5
      refine tr_draw [0, 1, 2, 3, 4, 5, 6, 7, 8, 9, 10, 11] [] mixed (by kernel_rfl) fun _ _ _ => ?_
      refine st rfl rfl rfl rfl (rLdS rfl rfl rfl) ?_
      iterate 3 refine pu rfl rfl rfl rfl rfl ?_
      refine st rfl rfl rfl rfl (rIdxI rfl rfl rfl (by omega) (by omega) (by omega)) ?_
      refine st rfl rfl rfl rfl (rLdI rfl rfl (by omega)) ?_
      iterate 2 refine pu rfl rfl rfl rfl rfl ?_
      refine st rfl rfl rfl rfl (rIdxR rfl rfl rfl (by omega) (by omega) (by omega)) ?_
      refine st rfl rfl rfl rfl (rLdR rfl rfl (by omega)) ?_
      refine ef rfl rfl (eCall1 rfl rfl rfl (ref_AddTo _ _ _ _ _ B no cb o hno (by omega) _ _ _ _ (rs.getD k.toNat rowD).xs rfl (by omega) hoi) ⟨rfl, rfl, rfl, rfl, trivial⟩ ?_) 
      rintro _ _ ⟨B6, rfl, rfl⟩
      refine pu rfl rfl rfl rfl rfl ?_
      refine tr_region fun _ _ _ => ?_
      refine pu rfl rfl rfl rfl rfl ?_
      refine st rfl rfl rfl rfl (rAdd rfl rfl rfl (by omega) (by omega)) ?_
      refine pu rfl rfl rfl rfl rfl ?_
      refine ⟨k + 1, B6, no, no, addR (el (x.getD k.toNat 0) : El p m mod) o (rs.getD k.toNat rowD).xs, ⟨rfl, rfl, rfl, rfl, rfl, rfl, trivial⟩, by first | exact cs _ _ | exact CSub.refl _, ?_⟩
      refine ⟨⟨⟨by omega, by omega⟩, by simpa using hno, ⟨by simpa using hol, addR_in _ _ _⟩, ?_⟩, by omega⟩
      rw [show (k + 1).toNat = k.toNat + 1 by omega, Vc.cmb_up_succ _ (by rw [vsR_length]; omega), rw_addR _ _ _ (by omega), hoe, vsR_get]
    · try simp only [zbA] at h5
      refine tr_skip ?_
      refine tr_region fun _ _ _ => ?_
      refine pu rfl rfl rfl rfl rfl ?_
      refine st rfl rfl rfl rfl (rAdd rfl rfl rfl (by omega) (by omega)) ?_
      refine pu rfl rfl rfl rfl rfl ?_
      refine ⟨k + 1, B, cb, no, o, ⟨rfl, rfl, rfl, rfl, rfl, rfl, trivial⟩, by first | exact cs _ _ | exact CSub.refl _, ?_⟩
      have hz : x.getD k.toNat 0 = 0 := by omega
      refine ⟨⟨⟨by omega, by omega⟩, hno, ⟨hol, hoi⟩, ?_⟩, by omega⟩
      rw [show (k + 1).toNat = k.toNat + 1 by omega, Vc.cmb_up_succ _ (by rw [vsR_length]; omega), hoe, hz, el_zero, Vc.zero_sc, Vc.add_zero]
  · try simp only [zbA] at h3
    refine tr_exit ?_
    refine tr_seq ?_
    refine tr_region fun _ _ _ => ?_
    iterate 2 refine pu rfl rfl rfl rfl rfl ?_
    have hkn : k.toNat = rs.length := by omega
    rw [Vc.cmb_up_all _ (by rw [vsR_length]; omega)] at hoe
    subst hno
    exact tr_ret ⟨trivial, _, _, rfl, ⟨_, rfl, B, cb, o, rfl, rfl, hol, hoi, hoe⟩, cs _ _, trivial, trivial⟩
end Go.Proofs.YtgnmcoegdogfgaaGreat

set_option linter.unusedSimpArgs false
set_option linter.unusedVariables false
set_option maxRecDepth 100000
namespace Go.Proofs.YtgnmcoegdogfgaaGreat
open Go.RowKit
section
variable {p m : Int} {mod : List Int} [hF : IsF p m mod]
theorem val_cons (a : Int) (l : List Int) (x : El p m mod) : Po.val (pol (a :: l) : Po (El p m mod)) x = Po.val (pol l) x * x + el a := by
  have e : (pol (a :: l) : Po (El p m mod)) = Po.mn 1 1 * pol l + Po.C (el a) := Po.ext fun j => by
    rw [Po.cf_add, Po.cf_mn_mul, cf_pol, cf_pol]
    cases j with
    | zero => rw [if_pos (by omega), Rg.zero_add]; rfl
    | succ j =>
      rw [if_neg (by omega), Rg.one_mul]
      have h : Po.cf (Po.C (el a) : Po (El p m mod)) (j + 1) = 0 := by unfold Po.C; rw [Po.cf_mn, if_neg (by omega)]
      rw [h, Rg.add_zero]; rfl
  rw [e, Po.val_add, Po.val_mul, Po.val_C, Po.val_mn, Rg.pow_one, Rg.one_mul, Rg.mul_comm]
theorem val_nil (x : El p m mod) : Po.val (pol [] : Po (El p m mod)) x = 0 := by rw [pol_nil, Po.val_zero]
theorem val_sum (l : List Int) (x : El p m mod) : Po.val (pol l : Po (El p m mod)) x = Rg.sm l.length fun i => el (l.getD i 0) * Rg.pow x i := Po.val_eq (pol_sh l) x
theorem drop_cons {l : List Int} {i : Nat} (h : i < l.length) : l.drop i = l.getD i 0 :: l.drop (i + 1) := by
  rw [List.drop_eq_getElem_cons h, List.getD_eq_getElem?_getD, List.getElem?_eq_getElem h]; rfl
noncomputable def zset (p m : Int) (mod : List Int) [hF : IsF p m mod] (f : Po (El p m mod)) : Int → Bool := fun x => @decide (Po.val f (el x) = 0) (Classical.propDecidable _)
theorem zset_iff {f : Po (El p m mod)} {x : Int} : zset p m mod f x = true ↔ Po.val f (el x) = 0 := @decide_eq_true_iff _ (Classical.propDecidable _)
theorem pow_rem {x : El p m mod} (hx : x ≠ 0) (k : Nat) : Rg.pow x (k % (pw p m - 1).toNat) = Rg.pow x k := by
  have h := Nat.div_add_mod k (pw p m - 1).toNat
  have e : Rg.pow x k = Rg.pow x ((pw p m - 1).toNat * (k / (pw p m - 1).toNat) + k % (pw p m - 1).toNat) := by rw [h]
  rw [e, Rg.pow_add, Rg.pow_mul, pow_last hx, Rg.one_pow, Rg.one_mul]
theorem exp_pow {g : GfM} (hg : GOk g p m mod) : ∃ y : El p m mod, y ≠ 0 ∧ ∀ i : Nat, i < g.exp.length → (el (g.exp.getD i 0) : El p m mod) = Rg.pow y i := by
  obtain ⟨x, hx⟩ := hg.gen
  have h1 := hx.x1
  have h2 := hx.x2
  refine ⟨el x, fun e => by rw [el_eq_zero ⟨by omega, h2⟩] at e; omega, fun i hi => El.ext ?_⟩
  have h3 := hx.pow.get i hi
  have h4 := pow_val hF.out (el x) i
  rw [Fd.pow_eq, el_in ⟨by omega, h2⟩] at h4
  have h5 : g.exp.getD i 0 ∈ g.exp := getD_mem hi 0
  have h6 := hx.pow.nz _ h5
  rw [el_in ⟨by omega, h6.2⟩, h3]
  exact h4.symm
end
theorem gf_Field_ent : Enters Tryz.prog 162 := enters_of Tryz.func162 (by kernel_rfl) (by kernel_rfl)
theorem gf_Field (g : GfM) (h9 : g.mod.length ≤ 1000000) :
    Pure Tryz.prog 162 #[.pointer (some g.p)] [gfR g] (one (fun v ch => ∃ B cb, v = .agg #[.int .i64 g.P, .int .i64 g.M, .slice B g.mod.length cb] ∧ ch = ow B 3 cb (ints g.mod))) := by
  refine pure_ofC (args := [.pointer (some g.p)]) 21 Tryz.func162 rfl rfl rfl gf_Field_ent ⟨id, trivial⟩ (fun w0 => ?_)
  refine tr_seq ?_
  refine tr_region fun _ _ _ => ?_
  refine ef rfl rfl (eAlloc rfl rfl rfl (fun p0 => ?_)) 
  refine tr_seq ?_
  refine tr_plan [gfR g] [(2, 0), (2, 1), (2, 2), (2, 3), (2, 4), (2, 5), (2, 6), (2, 7), (2, 8), (2, 9), (0, 11), (0, 12), (0, 13), (0, 14), (0, 15), (0, 10), (1, 16), (0, 17), (1, 18)] mixed (by kernel_rfl) fun _ _ _ => ?_
  refine stF rfl rfl rfl rfl (cs _ _) (rMove rfl rfl) ?_
  refine stF rfl rfl rfl rfl (cs _ _) (rNil rfl rfl) ?_
  refine stF rfl rfl rfl rfl (cs _ _) (rFld rfl rfl) ?_
  refine stF rfl rfl rfl rfl (cs _ _) (rFldN rfl rfl) ?_
  refine stF rfl rfl rfl rfl (cs _ _) (rLdF rfl rfl rfl) ?_
  refine stF rfl rfl rfl rfl (cs _ _) (rMove rfl rfl) ?_
  refine stF rfl rfl rfl rfl (cs _ _) (rNil rfl rfl) ?_
  refine stF rfl rfl rfl rfl (cs _ _) (rFld rfl rfl) ?_
  refine stF rfl rfl rfl rfl (cs _ _) (rFldN rfl rfl) ?_
  refine stF rfl rfl rfl rfl (cs _ _) (rLdF rfl rfl rfl) ?_
  refine pu rfl rfl rfl rfl rfl ?_
  refine st rfl rfl rfl rfl (rNil rfl rfl) ?_
  refine st rfl rfl rfl rfl (rFld rfl rfl) ?_
  refine st rfl rfl rfl rfl (rFldN rfl rfl) ?_
  refine st rfl rfl rfl rfl (rLdF rfl rfl rfl) ?_
  refine ef rfl rfl (eLit0I rfl rfl rfl  (fun A1 => ?_)) 
  refine ef rfl rfl (eAppI rfl rfl rfl rfl rfl (by first | rfl | simp | omega) (by first | rfl | simp | omega) (by first | omega | (simp; omega)) (fun A1a c1a => ?_)) 
  refine ⟨cs _ _, ?_⟩
  refine st rfl rfl rfl rfl (rBuild rfl rfl) ?_
  refine ef rfl rfl (eStS rfl rfl rfl rfl rfl rfl ?_) 
  refine ⟨cs _ _, ?_⟩
  simp only [List.nil_append]
  exact tr_ret ⟨trivial, _, _, (.cell rfl (cellS rfl) .nil), ⟨_, rfl, A1a, c1a, rfl, rfl⟩, cs _ _, trivial, trivial⟩
theorem tow_prime_ent : Enters Tryz.prog 129 := enters_of Tryz.func129 (by kernel_rfl) (by kernel_rfl)
theorem tow_prime (g : GfM) (h9 : g.mod.length ≤ 1000000) :
    Pure Tryz.prog 129 #[.pointer (some g.p)] [gfR g] (isV (.tuple #[.int .i64 g.P, .int .i64 g.M])) := by
  refine pure_of (args := [.pointer (some g.p)]) 11 Tryz.func129 rfl rfl rfl tow_prime_ent ⟨id, trivial⟩ (fun w0 => ?_)
  refine tr_seq ?_
  refine tr_region fun _ _ _ => ?_
  iterate 2 refine pu rfl rfl rfl rfl rfl ?_
  refine tr_seq ?_
  refine tr_region fun _ _ _ => ?_
  refine pu rfl rfl rfl rfl rfl ?_
  refine ef rfl rfl (eCall1 rfl rfl rfl (gf_Field g h9) ⟨rfl, trivial⟩ ?_) 
  rintro _ _ ⟨B, cb, rfl, rfl⟩
  refine ef rfl rfl (eAlloc rfl rfl rfl (fun p1a => ?_)) 
  refine ef rfl rfl (eStS rfl rfl rfl rfl rfl rfl ?_) 
  refine tr_seq ?_
  refine tr_draw [0, 1, 2, 3, 4, 5] [] mixed (by kernel_rfl) fun _ _ _ => ?_
  refine st rfl rfl rfl rfl (rFld rfl rfl) ?_
  refine st rfl rfl rfl rfl (rLdF rfl rfl rfl) ?_
  refine st rfl rfl rfl rfl (rFld rfl rfl) ?_
  refine st rfl rfl rfl rfl (rLdF rfl rfl rfl) ?_
  iterate 2 refine pu rfl rfl rfl rfl rfl ?_
  exact tr_ret ⟨trivial, _, _, rfl, ⟨rfl, rfl⟩, CSub.nil _, trivial⟩
theorem tow_isDegree_ent : Enters Tryz.prog 130 := enters_of Tryz.func130 (by kernel_rfl) (by kernel_rfl)
theorem tow_isDegree (g : GfM) (h9 : g.mod.length ≤ 1000000) (d : Int) (hd : 1 ≤ d) (hM : 0 ≤ g.M) :
    Pure Tryz.prog 130 #[.pointer (some g.p), .int .i64 d] [gfR g] (isV (.bool (decide (d ≤ g.M) && decide (g.M % d = 0)))) := by
  refine pure_of (args := [.pointer (some g.p), .int .i64 d]) 25 Tryz.func130 rfl rfl rfl tow_isDegree_ent ⟨id, trivial⟩ (fun w0 => ?_)
  refine tr_seq ?_
  refine tr_region fun _ _ _ => ?_
  refine pu rfl rfl rfl rfl rfl ?_
  refine tr_seq ?_
  refine tr_region fun _ _ _ => ?_
  refine pu rfl rfl rfl rfl rfl ?_
  refine ef rfl rfl (eCallV rfl rfl rfl (tow_prime g h9) ⟨rfl, trivial⟩ ?_) 
  iterate 5 refine pu rfl rfl rfl rfl rfl ?_
  refine tr_seq ?_
  refine tr_region fun _ _ _ => ?_
  iterate 3 refine pu rfl rfl rfl rfl rfl ?_
  refine stg rfl rfl rfl rfl rfl (fun hb => by (have hq := hb; try simp only [zbA] at hq); exact rMove rfl rfl) ?_
  refine stg rfl rfl rfl rfl rfl (fun hb => by (have hq := hb; try simp only [zbA] at hq); exact rMove rfl rfl) ?_
  refine stg rfl rfl rfl rfl rfl (fun hb => by (have hq := hb; try simp only [zbA] at hq); exact rLeq rfl (evg rfl hb) (evg rfl hb)) ?_
  refine st rfl rfl rfl rfl (rAndB rfl rfl rfl rfl) ?_
  refine pu rfl rfl rfl rfl rfl ?_
  refine stg rfl rfl rfl rfl rfl (fun hb => by (have hq := hb; try simp only [zbA] at hq); exact rMove rfl rfl) ?_
  refine stg rfl rfl rfl rfl rfl (fun hb => by (have hq := hb; try simp only [zbA] at hq); exact rMove rfl rfl) ?_
  refine stg rfl rfl rfl rfl rfl (fun hb => by (have hq := hb; try simp only [zbA] at hq); exact rRem rfl (evg rfl hb) (evg rfl hb) (by omega) (by omega)) ?_
  refine stg rfl rfl rfl rfl rfl (fun hb => by (have hq := hb; try simp only [zbA] at hq); exact rEql rfl (evg rfl hb) rfl) ?_
  refine st rfl rfl rfl rfl (rAndB rfl rfl rfl rfl) ?_
  refine pu rfl rfl rfl rfl rfl ?_
  exact tr_ret ⟨trivial, _, _, rfl, ⟨by simp [hd], rfl⟩, CSub.nil _, trivial⟩
theorem poly_Eval_ent : Enters Tryz.prog 79 := enters_of Tryz.func79 (by kernel_rfl) (by kernel_rfl)
theorem poly_Eval (g : GfM) {p m : Int} {mod : List Int} [hF : IsF p m mod] (hg : GOk g p m mod) (X : Option Addr) (nx cx : Nat) (l : List Int) (hnx : nx = l.length) (h9 : l.length ≤ 1000000) (x : Int) :
    Pure Tryz.prog 79 #[.pointer (some g.p), .slice X nx cx, .int .i64 x] [gfR g, ro X (ints l)] (isV (.int .i64 (Po.val (pol l : Po (El p m mod)) (el x)).1)) := by
  refine pure_of (args := [.pointer (some g.p), .slice X nx cx, .int .i64 x]) 27 Tryz.func79 rfl rfl rfl poly_Eval_ent ⟨id, id, trivial⟩ (fun w0 => ?_)
  refine tr_seq ?_
  refine tr_region fun _ _ _ => ?_
  refine pu rfl rfl rfl rfl rfl ?_
  refine tr_seq ?_
  refine tr_region fun _ _ _ => ?_
  refine pu rfl rfl rfl rfl rfl ?_
  refine tr_seq ?_
  refine tr_seq ?_
  refine tr_region fun _ _ _ => ?_
  refine pu rfl rfl rfl rfl rfl ?_
  refine st rfl rfl rfl rfl (rLen rfl rfl) ?_
  refine st rfl rfl rfl rfl (rSub rfl rfl rfl (by omega) (by omega)) ?_
  refine pu rfl rfl rfl rfl rfl ?_
  refine tr_block ?_
  refine tr_loop2 (fun (i : Int) (y : Int) => [(7, .int .i64 y), (8, .int .i64 i), (0, .pointer (some g.p)), (1, .slice X nx cx), (2, .int .i64 x), (6, .int .i64 0)]) (fun (i : Int) (y : Int) => [gfR g, ro X (ints l)]) (fun (i : Int) (y : Int) => (-1 ≤ i ∧ i < nx) ∧ y = (Po.val (pol (l.drop (i + 1).toNat) : Po (El p m mod)) (el x)).1) (fun (i : Int) (y : Int) => (i + 1).toNat) ((nx : Int) - 1) (0) ⟨rfl, rfl, rfl, rfl, rfl, rfl, trivial⟩ (by first | exact cs _ _ | exact CSub.refl _) (⟨⟨by omega, by omega⟩, by rw [List.drop_of_length_le (by omega), val_nil]; rfl⟩) (fun i y hI => ?_)
  obtain ⟨⟨hi0, hi1⟩, hy⟩ := hI
  refine tr_seq ?_
  refine tr_seq ?_
  refine tr_region fun _ _ _ => ?_
  iterate 2 refine pu rfl rfl rfl rfl rfl ?_
  refine tr_cond_bool rfl (fun h3 => ?_) (fun h3 => ?_)
  · try simp only [zbA] at h3
    refine tr_skip ?_
    refine tr_seq ?_
    refine tr_block ?_
    refine tr_draw [0, 1, 2, 3, 5, 6, 7, 8, 4, 9, 10] [] mixed (by kernel_rfl) fun _ _ _ => ?_
    iterate 6 refine pu rfl rfl rfl rfl rfl ?_
    refine st rfl rfl rfl rfl (rIdxI rfl rfl rfl (by omega) (by omega) (by omega)) ?_
    refine st rfl rfl rfl rfl (rLdI rfl rfl (by omega)) ?_
    refine ef rfl rfl (eCallV rfl rfl rfl (gf_MulE g hg _ _) ⟨rfl, rfl, rfl, trivial⟩ ?_) 
    refine ef rfl rfl (eCallV rfl rfl rfl (gf_AddE g hg _ _) ⟨rfl, rfl, rfl, trivial⟩ ?_) 
    refine pu rfl rfl rfl rfl rfl ?_
    refine tr_region fun _ _ _ => ?_
    refine pu rfl rfl rfl rfl rfl ?_
    refine st rfl rfl rfl rfl (rSub rfl rfl rfl (by omega) (by omega)) ?_
    refine pu rfl rfl rfl rfl rfl ?_
    refine ⟨i - 1, (el (el y * el x : El p m mod).1 + el (l.getD i.toNat 0) : El p m mod).1, ⟨rfl, rfl, rfl, rfl, rfl, rfl, trivial⟩, by first | exact cs _ _ | exact CSub.refl _, ?_⟩
    refine ⟨⟨⟨by omega, by omega⟩, ?_⟩, by omega⟩
    rw [el_of, show (i - 1 + 1).toNat = i.toNat by omega, drop_cons (show i.toNat < l.length by omega), val_cons, show i.toNat + 1 = (i + 1).toNat by omega, hy, el_of]
  · try simp only [zbA] at h3
    refine tr_exit ?_
    refine tr_seq ?_
    refine tr_region fun _ _ _ => ?_
    iterate 2 refine pu rfl rfl rfl rfl rfl ?_
    have hi : i = -1 := by omega
    subst hi
    exact tr_ret ⟨trivial, _, _, rfl, ⟨by rw [hy]; rfl, rfl⟩, CSub.nil _, trivial⟩
theorem gf_Digits_ent : Enters Tryz.prog 135 := enters_of Tryz.func135 (by kernel_rfl) (by kernel_rfl)
theorem gf_Digits (g : GfM) {p m : Int} {mod : List Int} [hF : IsF p m mod] (hg : GOk g p m mod) (x : Int) (hx : 0 ≤ x ∧ x < pw p m) :
    Pure Tryz.prog 135 #[.pointer (some g.p), .int .i64 x] [gfR g] (one (fun v ch => ∃ B, v = .slice B m.toNat m.toNat ∧ ch = ow B 3 m.toNat (ints (digs p m.toNat x)))) := by
  have heq := hg.eq
  have hP := hg.eP
  have hM := hg.eM
  have hs := hF.out.1.1
  have h2 := hs.p2
  have h3 := hs.p9
  have h4 := hs.m1
  have h5 := hs.m8
  have h6 := hs.q
  have h7 : inI g.q x = x := inI_in hx.1 (by omega)
  subst hP
  subst hM
  refine pure_of (args := [.pointer (some g.p), .int .i64 x]) 19 Tryz.func135 rfl rfl rfl gf_Digits_ent ⟨id, trivial⟩ (fun w0 => ?_)
  refine tr_seq ?_
  refine tr_region fun _ _ _ => ?_
  refine pu rfl rfl rfl rfl rfl ?_
  refine tr_seq ?_
  refine tr_draw [0, 1, 3, 4, 5, 6, 7, 8, 9, 10, 11, 12, 2, 13, 14] [] mixed (by kernel_rfl) fun _ _ _ => ?_
  iterate 3 refine pu rfl rfl rfl rfl rfl ?_
  refine st rfl rfl rfl rfl (rNil rfl rfl) ?_
  refine st rfl rfl rfl rfl (rFld rfl rfl) ?_
  refine st rfl rfl rfl rfl (rFldN rfl rfl) ?_
  refine st rfl rfl rfl rfl (rLdF rfl rfl rfl) ?_
  refine pu rfl rfl rfl rfl rfl ?_
  refine st rfl rfl rfl rfl (rNil rfl rfl) ?_
  refine st rfl rfl rfl rfl (rFld rfl rfl) ?_
  refine st rfl rfl rfl rfl (rFldN rfl rfl) ?_
  refine st rfl rfl rfl rfl (rLdF rfl rfl rfl) ?_
  refine ef rfl rfl (eCallV rfl rfl rfl (gf_in g _) ⟨rfl, rfl, trivial⟩ ?_) 
  refine ef rfl rfl (eCall1 rfl rfl rfl (fld_digits _ (by omega) (by omega) _ (by omega) (by omega) _ (by omega) (by omega)) ⟨rfl, rfl, rfl, trivial⟩ ?_) 
  rintro _ _ ⟨B, rfl, rfl⟩
  refine pu rfl rfl rfl rfl rfl ?_
  rw [h7]
  exact tr_ret ⟨trivial, _, _, rfl, ⟨_, rfl, B, rfl, rfl⟩, cs _ _, trivial, trivial⟩
theorem gf_Dot_ent : Enters Tryz.prog 134 := enters_of Tryz.func134 (by kernel_rfl) (by kernel_rfl)
theorem gf_Dot (g : GfM) {p m : Int} {mod : List Int} [hF : IsF p m mod] (hg : GOk g p m mod) (X : Option Addr) (nx cx : Nat) (a : List Int) (hnx : nx = a.length) (Y : Option Addr) (ny cy : Nat) (b : List Int) (hny : ny = b.length) (h9 : a.length ≤ 1000000) (hl : a.length = b.length) :
    Pure Tryz.prog 134 #[.pointer (some g.p), .slice X nx cx, .slice Y ny cy] [gfR g, ro X (ints a), ro Y (ints b)] (isV (.int .i64 (Rg.sm a.length fun i => (el (a.getD i 0) * el (b.getD i 0) : El p m mod)).1)) := by
  refine pure_of (args := [.pointer (some g.p), .slice X nx cx, .slice Y ny cy]) 32 Tryz.func134 rfl rfl rfl gf_Dot_ent ⟨id, id, id, trivial⟩ (fun w0 => ?_)
  refine tr_seq ?_
  refine tr_region fun _ _ _ => ?_
  refine pu rfl rfl rfl rfl rfl ?_
  refine tr_seq ?_
  refine tr_region fun _ _ _ => ?_
  refine pu rfl rfl rfl rfl rfl ?_
  refine tr_seq ?_
  refine tr_seq ?_
  have hmn : min (nx : Int) (ny : Int) = a.length := by omega
  refine tr_region fun _ _ _ => ?_
  refine pu rfl rfl rfl rfl rfl ?_
  refine st rfl rfl rfl rfl (rLen rfl rfl) ?_
  refine pu rfl rfl rfl rfl rfl ?_
  refine st rfl rfl rfl rfl (rLen rfl rfl) ?_
  refine st rfl rfl rfl rfl (rMin rfl rfl rfl) ?_
  refine pu rfl rfl rfl rfl rfl ?_
  simp only [hmn]
  refine tr_block ?_
  refine tr_loop2 (fun (i : Int) (y : Int) => [(7, .int .i64 y), (13, .int .i64 a.length), (14, .int .i64 i), (0, .pointer (some g.p)), (1, .slice X nx cx), (2, .slice Y ny cy), (6, .int .i64 0)]) (fun (i : Int) (y : Int) => [gfR g, ro X (ints a), ro Y (ints b)]) (fun (i : Int) (y : Int) => (0 ≤ i ∧ i ≤ a.length) ∧ y = (Rg.sm i.toNat fun j => (el (a.getD j 0) * el (b.getD j 0) : El p m mod)).1) (fun (i : Int) (y : Int) => (a.length - i).toNat) (0) (0) ⟨rfl, rfl, rfl, rfl, rfl, rfl, rfl, trivial⟩ (by first | exact cs _ _ | exact CSub.refl _) (⟨⟨by omega, by omega⟩, rfl⟩) (fun i y hI => ?_)
  obtain ⟨⟨hi0, hi1⟩, hy⟩ := hI
  refine tr_seq ?_
  refine tr_region fun _ _ _ => ?_
  refine pu rfl rfl rfl rfl rfl ?_
  refine tr_seq ?_
  refine tr_cond_bool rfl (fun h3 => ?_) (fun h3 => ?_)
  · try simp only [zbA] at h3
    refine tr_skip ?_
    refine tr_seq ?_
    refine tr_block ?_
    refine tr_seq ?_
    refine tr_region fun _ _ _ => ?_
    iterate 2 refine pu rfl rfl rfl rfl rfl ?_
    refine tr_draw [0, 1, 2, 3, 4, 5, 6, 7, 8, 9, 10, 11, 12, 13] [] mixed (by kernel_rfl) fun _ _ _ => ?_
    iterate 5 refine pu rfl rfl rfl rfl rfl ?_
    refine st rfl rfl rfl rfl (rIdxI rfl rfl rfl (by omega) (by omega) (by omega)) ?_
    refine st rfl rfl rfl rfl (rLdI rfl rfl (by omega)) ?_
    iterate 2 refine pu rfl rfl rfl rfl rfl ?_
    refine st rfl rfl rfl rfl (rIdxI rfl rfl rfl (by omega) (by omega) (by omega)) ?_
    refine st rfl rfl rfl rfl (rLdI rfl rfl (by omega)) ?_
    refine ef rfl rfl (eCallV rfl rfl rfl (gf_MulE g hg _ _) ⟨rfl, rfl, rfl, trivial⟩ ?_) 
    refine ef rfl rfl (eCallV rfl rfl rfl (gf_AddE g hg _ _) ⟨rfl, rfl, rfl, trivial⟩ ?_) 
    refine pu rfl rfl rfl rfl rfl ?_
    refine tr_region fun _ _ _ => ?_
    refine st rfl rfl rfl rfl (rAdd rfl rfl rfl (by omega) (by omega)) ?_
    refine pu rfl rfl rfl rfl rfl ?_
    refine ⟨i + 1, (el y + el (el (a.getD i.toNat 0) * el (b.getD i.toNat 0) : El p m mod).1 : El p m mod).1, ⟨rfl, rfl, rfl, rfl, rfl, rfl, rfl, trivial⟩, by first | exact cs _ _ | exact CSub.refl _, ?_⟩
    refine ⟨⟨⟨by omega, by omega⟩, ?_⟩, by omega⟩
    rw [show (i + 1).toNat = i.toNat + 1 by omega, Rg.sm_succ, hy, el_of, el_of]
  · try simp only [zbA] at h3
    refine tr_exit ?_
    refine tr_seq ?_
    refine tr_region fun _ _ _ => ?_
    iterate 2 refine pu rfl rfl rfl rfl rfl ?_
    have hi : i.toNat = a.length := by omega
    rw [hi] at hy
    exact tr_ret ⟨trivial, _, _, rfl, ⟨by rw [hy], rfl⟩, CSub.nil _, trivial⟩
theorem gf_PowE_ent : Enters Tryz.prog 31 := enters_of Tryz.func31 (by kernel_rfl) (by kernel_rfl)
theorem gf_PowE (g : GfM) {p m : Int} {mod : List Int} [hF : IsF p m mod] (hg : GOk g p m mod) (x k : Int) (hk : 0 ≤ k) (hk9 : k ≤ 1000000) :
    Pure Tryz.prog 31 #[.pointer (some g.p), .int .i64 x, .int .i64 k] [gfR g] (isV (.tuple #[.int .i64 (Rg.pow (el x : El p m mod) k.toNat).1, .int .i64 0])) := by
  have heq := hg.eq
  have hq2 := hF.q2
  have hq9 := hF.out.1.1.q
  have hix : (el x : El p m mod).1 = inI g.q x := by rw [hg.eq]; rfl
  have hbx := (el x : El p m mod).2
  have hel := hg.elen
  have hll := hg.llen'
  obtain ⟨y, hy0, hy⟩ := exp_pow hg
  refine pure_of (args := [.pointer (some g.p), .int .i64 x, .int .i64 k]) 54 Tryz.func31 rfl rfl rfl gf_PowE_ent ⟨id, trivial⟩ (fun w0 => ?_)
  refine tr_seq ?_
  refine tr_region fun _ _ _ => ?_
  iterate 2 refine pu rfl rfl rfl rfl rfl ?_
  refine tr_seq ?_
  refine tr_region fun _ _ _ => ?_
  iterate 2 refine pu rfl rfl rfl rfl rfl ?_
  refine ef rfl rfl (eCallV rfl rfl rfl (gf_in g _) ⟨rfl, rfl, trivial⟩ ?_) 
  refine pu rfl rfl rfl rfl rfl ?_
  refine tr_seq ?_
  refine tr_block ?_
  refine tr_seq ?_
  refine tr_region fun _ _ _ => ?_
  iterate 3 refine pu rfl rfl rfl rfl rfl ?_
  refine tr_cond_bool rfl (fun h2 => ?_) (fun h2 => ?_)
  · try simp only [zbA] at h2
    refine tr_seq ?_
    refine tr_region fun _ _ _ => ?_
    iterate 2 refine pu rfl rfl rfl rfl rfl ?_
    exact tr_ret ⟨trivial, _, _, rfl, ⟨by rw [show k.toNat = 0 by omega]; rfl, rfl⟩, CSub.nil _, trivial⟩
  · try simp only [zbA] at h2
    refine tr_seq ?_
    refine tr_region fun _ _ _ => ?_
    iterate 3 refine pu rfl rfl rfl rfl rfl ?_
    refine stg rfl rfl rfl rfl rfl (fun hb => by (have hq := hb; try simp only [zbA] at hq); exact rMove rfl rfl) ?_
    refine stg rfl rfl rfl rfl rfl (fun hb => by (have hq := hb; try simp only [zbA] at hq); exact rLss rfl (evg rfl hb) rfl) ?_
    refine st rfl rfl rfl rfl (rAndB rfl rfl rfl rfl) ?_
    refine pu rfl rfl rfl rfl rfl ?_
    refine tr_cond_bool rfl (fun h4 => ?_) (fun h4 => ?_)
    · try simp only [zbA] at h4
      refine tr_seq ?_
      refine tr_region fun _ _ _ => ?_
      iterate 2 refine pu rfl rfl rfl rfl rfl ?_
      omega
    · try simp only [zbA] at h4
      refine tr_seq ?_
      refine tr_region fun _ _ _ => ?_
      iterate 3 refine pu rfl rfl rfl rfl rfl ?_
      refine tr_cond_bool rfl (fun h6 => ?_) (fun h6 => ?_)
      · try simp only [zbA] at h6
        refine tr_seq ?_
        refine tr_region fun _ _ _ => ?_
        iterate 2 refine pu rfl rfl rfl rfl rfl ?_
        exact tr_ret ⟨trivial, _, _, rfl, ⟨by
          have hx0 : (el x : El p m mod) = 0 := (val_zero_iff (el x : El p m mod)).1 (by omega)
          rw [hx0, Rg.zero_pow (by omega)]; rfl, rfl⟩, CSub.nil _, trivial⟩
      · try simp only [zbA] at h6
        refine tr_skip ?_
        refine tr_seq ?_
        have hx0 : (el x : El p m mod) ≠ 0 := fun e => by
          have := (val_zero_iff (el x : El p m mod)).2 e
          omega
        have hlx := hg.log_spec (y := inI g.q x) (by omega) (by omega)
        have e0 := Int.emod_nonneg k (show g.q - 1 ≠ 0 by omega)
        have e1 := Int.emod_lt_of_pos k (show 0 < g.q - 1 by omega)
        refine tr_region fun _ _ _ => ?_
        refine pu rfl rfl rfl rfl rfl ?_
        refine st rfl rfl rfl rfl (rNil rfl rfl) ?_
        refine st rfl rfl rfl rfl (rFld rfl rfl) ?_
        refine st rfl rfl rfl rfl (rLdF rfl rfl rfl) ?_
        refine st rfl rfl rfl rfl (rSub rfl rfl rfl (by omega) (by omega)) ?_
        refine pu rfl rfl rfl rfl rfl ?_
        refine tr_seq ?_
        refine tr_region fun _ _ _ => ?_
        iterate 2 refine pu rfl rfl rfl rfl rfl ?_
        refine st rfl rfl rfl rfl (rRem rfl rfl rfl (by omega) (by omega)) ?_
        refine pu rfl rfl rfl rfl rfl ?_
        refine st rfl rfl rfl rfl (rAdd rfl rfl rfl (by omega) (by omega)) ?_
        refine pu rfl rfl rfl rfl rfl ?_
        refine st rfl rfl rfl rfl (rRem rfl rfl rfl (by omega) (by omega)) ?_
        refine pu rfl rfl rfl rfl rfl ?_
        refine tr_seq ?_
        have e2 : (k % (g.q - 1) + (g.q - 1)) % (g.q - 1) = k % (g.q - 1) := by rw [Int.add_emod_right, Int.emod_emod_of_dvd _ (Int.dvd_refl _)]
        rw [e2]
        have hmb := mul_bd0 (g.log.getD (inI g.q x).toNat 0) (k % (g.q - 1)) 256 256 (by omega) (by omega) (by omega) (by omega)
        have e3 := Int.emod_nonneg (g.log.getD (inI g.q x).toNat 0 * (k % (g.q - 1))) (show g.q - 1 ≠ 0 by omega)
        have e4 := Int.emod_lt_of_pos (g.log.getD (inI g.q x).toNat 0 * (k % (g.q - 1))) (show 0 < g.q - 1 by omega)
        refine tr_draw [0, 1, 2, 3, 4, 5, 6, 7, 8, 9, 10, 11, 12, 13, 14, 15, 16, 17, 18] [] mixed (by kernel_rfl) fun _ _ _ => ?_
        refine pu rfl rfl rfl rfl rfl ?_
        refine st rfl rfl rfl rfl (rNil rfl rfl) ?_
        refine st rfl rfl rfl rfl (rFld rfl rfl) ?_
        refine st rfl rfl rfl rfl (rLdF rfl rfl rfl) ?_
        refine pu rfl rfl rfl rfl rfl ?_
        refine st rfl rfl rfl rfl (rNil rfl rfl) ?_
        refine st rfl rfl rfl rfl (rFld rfl rfl) ?_
        refine st rfl rfl rfl rfl (rLdF rfl rfl rfl) ?_
        refine pu rfl rfl rfl rfl rfl ?_
        refine st rfl rfl rfl rfl (rIdxI rfl rfl rfl (by omega) (by omega) (by omega)) ?_
        refine st rfl rfl rfl rfl (rLdI rfl rfl (by omega)) ?_
        refine pu rfl rfl rfl rfl rfl ?_
        refine st rfl rfl rfl rfl (rMul rfl rfl rfl (by omega) (by omega)) ?_
        refine pu rfl rfl rfl rfl rfl ?_
        refine st rfl rfl rfl rfl (rRem rfl rfl rfl (by omega) (by omega)) ?_
        refine st rfl rfl rfl rfl (rIdxI rfl rfl rfl (by omega) (by omega) (by omega)) ?_
        refine st rfl rfl rfl rfl (rLdI rfl rfl (by omega)) ?_
        iterate 2 refine pu rfl rfl rfl rfl rfl ?_
        have hfin : g.exp.getD (g.log.getD (inI g.q x).toNat 0 * (k % (g.q - 1)) % (g.q - 1)).toNat 0 = (Rg.pow (el x : El p m mod) k.toNat).1 := by
          have h1 := hy (g.log.getD (inI g.q x).toNat 0 * (k % (g.q - 1)) % (g.q - 1)).toNat (by omega)
          have h2 := hy (g.log.getD (inI g.q x).toNat 0).toNat (by omega)
          rw [hlx.2.2] at h2
          have h3 : (el x : El p m mod) = Rg.pow y (g.log.getD (inI g.q x).toNat 0).toNat := by rw [← h2, ← hix, el_of]
          have hqe : (pw p m - 1).toNat = (g.q - 1).toNat := by rw [heq]
          have h4 : (g.log.getD (inI g.q x).toNat 0 * (k % (g.q - 1)) % (g.q - 1)).toNat = ((g.log.getD (inI g.q x).toNat 0).toNat * (k.toNat % (pw p m - 1).toNat)) % (pw p m - 1).toNat := by
            rw [hqe]
            obtain ⟨a, ha⟩ := Int.eq_ofNat_of_zero_le (show 0 ≤ g.log.getD (inI g.q x).toNat 0 by omega)
            obtain ⟨b, hb⟩ := Int.eq_ofNat_of_zero_le hk
            obtain ⟨c, hc⟩ := Int.eq_ofNat_of_zero_le (show 0 ≤ g.q - 1 by omega)
            rw [ha, hb, hc, ← Int.natCast_emod, ← Int.natCast_mul, ← Int.natCast_emod]
            simp only [Int.toNat_natCast]
          rw [h4, pow_rem hy0, Rg.pow_mul, ← h3, pow_rem hx0] at h1
          have h5 : g.exp.getD ((g.log.getD (inI g.q x).toNat 0).toNat * (k.toNat % (pw p m - 1).toNat) % (pw p m - 1).toNat) 0 ∈ g.exp := getD_mem (by rw [← h4]; omega) 0
          obtain ⟨z, hz⟩ := hg.gen
          have h6 := hz.pow.nz _ h5
          rw [← h1, el_in ⟨by omega, h6.2⟩, h4]
        exact tr_ret ⟨trivial, _, _, rfl, ⟨by rw [hfin], rfl⟩, CSub.nil _, trivial⟩
end Go.Proofs.YtgnmcoegdogfgaaGreat

set_option linter.unusedSimpArgs false
set_option linter.unusedVariables false
set_option maxRecDepth 100000
namespace Go.Proofs.YtgnmcoegdogfgaaGreat
open Go.RowKit
theorem filt_head (φ : Int → Bool) : ∀ (n : Nat) (z : Int) (rest : List Int), (upI n).filter φ = z :: rest → (0 ≤ z ∧ z < n) ∧ φ z = true ∧ ∀ s, 0 ≤ s → s < z → φ s = false
  | 0, z, rest, h => by simp [upI] at h
  | n + 1, z, rest, h => by
    rw [upI_succ, List.filter_append] at h
    cases hf : (upI n).filter φ with
    | nil =>
      rw [hf, List.nil_append] at h
      have hno : ∀ s : Int, 0 ≤ s → s < n → φ s = false := fun s h0 h1 => by
        cases hs : φ s with
        | false => rfl
        | true =>
          have : s ∈ (upI n).filter φ := List.mem_filter.2 ⟨List.mem_map.2 ⟨s.toNat, List.mem_range.2 (by omega), by omega⟩, hs⟩
          rw [hf] at this; simp at this
      cases hp : φ (n : Int) with
      | false => rw [List.filter_cons_of_neg (by rw [hp]; simp), List.filter_nil] at h; simp at h
      | true =>
        rw [List.filter_cons_of_pos hp, List.filter_nil] at h
        have hz : (n : Int) = z := by injection h
        subst hz
        exact ⟨⟨by omega, by omega⟩, hp, hno⟩
    | cons a t =>
      rw [hf, List.cons_append] at h
      have hz : a = z := by injection h
      subst hz
      have := filt_head φ n a t hf
      exact ⟨⟨this.1.1, by omega⟩, this.2⟩
section
variable {p m2 : Int} {mod2 : List Int} [hE : IsF p m2 mod2]
noncomputable def imL (p m2 : Int) (mod2 : List Int) [hE : IsF p m2 mod2] (m r : Int) : List Int := (List.range (pw p m).toNat).map fun x : Nat => (Po.val (pol (digs p m.toNat x) : Po (El p m2 mod2)) (el r)).1
theorem imL_length (m r : Int) : (imL p m2 mod2 m r).length = (pw p m).toNat := by simp [imL]
theorem imL_get (m r : Int) {x : Nat} (h : x < (pw p m).toNat) : (imL p m2 mod2 m r).getD x 0 = (Po.val (pol (digs p m.toNat x) : Po (El p m2 mod2)) (el r)).1 := by
  unfold imL; rw [List.getD_eq_getElem?_getD, List.getElem?_map, List.getElem?_range h]; rfl
structure IsRt (p m2 : Int) (mod2 : List Int) [hE : IsF p m2 mod2] (m : Int) (mod : List Int) (r : Int) : Prop where
  lo : 0 ≤ r
  hi : r < pw p m2
  one : m = 1 → r = 0
  root : 2 ≤ m → Po.val (pol (mod ++ [1]) : Po (El p m2 mod2)) (el r) = 0
  least : 2 ≤ m → ∀ s, 0 ≤ s → s < r → Po.val (pol (mod ++ [1]) : Po (El p m2 mod2)) (el s) ≠ 0
theorem IsRt.uniq {m : Int} {mod : List Int} (hm : 1 ≤ m) {r s : Int} (h : IsRt p m2 mod2 m mod r) (k : IsRt p m2 mod2 m mod s) : r = s := by
  by_cases h1 : m = 1
  · rw [h.one h1, k.one h1]
  · rcases Int.lt_trichotomy r s with h2 | h2 | h2
    · exact absurd (h.root (by omega)) (k.least (by omega) r h.lo h2)
    · exact h2
    · exact absurd (k.root (by omega)) (h.least (by omega) s k.lo h2)
open Classical in
noncomputable def embR (p m2 : Int) (mod2 : List Int) [hE : IsF p m2 mod2] (m : Int) (mod : List Int) : Int := if h : ∃ r, IsRt p m2 mod2 m mod r then Classical.choose h else 0
theorem IsRt.eq {m : Int} {mod : List Int} (hm : 1 ≤ m) {r : Int} (h : IsRt p m2 mod2 m mod r) : embR p m2 mod2 m mod = r := by
  have hx : ∃ r, IsRt p m2 mod2 m mod r := ⟨r, h⟩
  unfold embR
  rw [dif_pos hx]
  exact (Classical.choose_spec hx).uniq hm h
theorem polmod_ne (mod : List Int) : (pol (mod ++ [1]) : Po (El p m2 mod2)) ≠ 0 := fun e => by
  have h := congrArg (fun f => Po.cf f mod.length) e
  simp only [cf_pol, Po.cf_zero] at h
  rw [List.getD_eq_getElem?_getD, List.getElem?_append_right (Nat.le_refl _), Nat.sub_self] at h
  exact Fd.one_ne (K := El p m2 mod2) (el_one.symm.trans h)
end
theorem rt_of_head {p m m2 : Int} {mod mod2 : List Int} [hF : IsF p m mod] [hE : IsF p m2 mod2] (hm : 2 ≤ m) (hd : m2 % m = 0) {zs : List Int} (hz : zs = (upI (pw p m2).toNat).filter (zset p m2 mod2 (pol (mod ++ [1])))) : zs.length ≠ 0 ∧ IsRt p m2 mod2 m mod (zs.getD 0 0) := by
  have hq := hE.q2
  cases hzs : zs with
  | nil =>
    obtain ⟨a, ha⟩ := emb_root (p := p) (m := m) (mod := mod) (m2 := m2) (mod2 := mod2) hm hd
    have hab := a.2
    have : a.1 ∈ (upI (pw p m2).toNat).filter (zset p m2 mod2 (pol (mod ++ [1]))) := List.mem_filter.2 ⟨List.mem_map.2 ⟨a.1.toNat, List.mem_range.2 (by omega), by omega⟩, zset_iff.2 (by rw [el_of]; exact ha)⟩
    rw [← hz, hzs] at this; simp at this
  | cons z rest =>
    have h := filt_head _ _ z rest (hz.symm.trans hzs)
    refine ⟨by simp, ⟨h.1.1, ?_, fun e => by omega, fun _ => zset_iff.1 h.2.1, fun _ s h0 h1 => fun e => ?_⟩⟩
    · have := h.1.2; show z < _; omega
    · have := h.2.2 s h0 h1
      rw [zset_iff.2 e] at this; cases this
theorem digs_len (p : Int) : ∀ (M : Nat) (x : Int), (digs p M x).length = M
  | 0, _ => rfl
  | M + 1, x => by rw [digs, List.length_cons, digs_len p M]
theorem poly_Roots_ent : Enters Tryz.prog 131 := enters_of Tryz.func131 (by kernel_rfl) (by kernel_rfl)
theorem poly_Roots (g : GfM) {p m : Int} {mod : List Int} [hF : IsF p m mod] (hg : GOk g p m mod) (X : Option Addr) (nx cx : Nat) (lx : List Int) (hnx : nx = lx.length) (h9 : lx.length ≤ 1000000) (h0 : (pol lx : Po (El p m mod)) ≠ 0) :
    Pure Tryz.prog 131 #[.pointer (some g.p), .slice X nx cx] [gfR g, ro X (ints lx)] (one (fun v ch => ∃ B cb zs, v = .tuple #[.slice B zs.length cb, .int .i64 0] ∧ ch = ow B 3 cb (ints zs) ∧ zs = (upI g.q.toNat).filter (zset p m mod (pol lx)))) := by
  have hq2 := hg.q2
  have hqe := hg.eq
  have hq9 := hF.out.1.1.q
  have hil := il_le (p := p) (m := m) (mod := mod) lx
  have hl0 : (il (pol lx : Po (El p m mod))).length ≠ 0 := fun e => h0 (il_eq_nil.1 (List.length_eq_zero_iff.1 e))
  refine pure_of (args := [.pointer (some g.p), .slice X nx cx]) 28 Tryz.func131 rfl rfl rfl poly_Roots_ent ⟨id, id, trivial⟩ (fun w0 => ?_)
  refine tr_seq ?_
  refine tr_region fun _ _ _ => ?_
  refine ef rfl rfl (eBox rfl rfl rfl rfl rfl (fun p0 => ?_)) 
  iterate 2 refine pu rfl rfl rfl rfl rfl ?_
  refine tr_seq ?_
  refine tr_region fun _ _ _ => ?_
  refine st rfl rfl rfl rfl (rLd0 rfl rfl) ?_
  refine pu rfl rfl rfl rfl rfl ?_
  refine ef rfl rfl (eCall1 rfl rfl rfl (poly_CanonE g hg _ _ _ lx (by first | omega | rfl | simp) (by omega)) ⟨rfl, rfl, trivial⟩ ?_) 
  rintro _ _ ⟨B1, c1, rfl, hcap1, rfl⟩
  refine ef rfl rfl (eAlloc rfl rfl rfl (fun p1a => ?_)) 
  refine ef rfl rfl (eSt0 rfl rfl rfl rfl rfl rfl ?_) 
  refine tr_seq ?_
  refine tr_seq ?_
  refine tr_region fun _ _ _ => ?_
  refine st rfl rfl rfl rfl (rLd0 rfl rfl) ?_
  refine st rfl rfl rfl rfl (rLen rfl rfl) ?_
  refine pu rfl rfl rfl rfl rfl ?_
  refine tr_cond_bool rfl (fun h2 => ?_) (fun h2 => ?_)
  · try simp only [zbA] at h2
    omega --done
  · try simp only [zbA] at h2
    refine tr_skip ?_
    refine tr_seq ?_
    refine tr_region fun _ _ _ => ?_
    refine ef rfl rfl (eAlloc rfl rfl rfl (fun p4 => ?_)) 
    refine tr_seq ?_
    refine tr_seq ?_
    refine tr_region fun _ _ _ => ?_
    refine st rfl rfl rfl rfl (rLd0 rfl rfl) ?_
    refine ef rfl rfl (eCall1 rfl rfl rfl (gf_Elements _) ⟨rfl, trivial⟩ ?_) 
    rintro _ _ ⟨B5, rfl, rfl⟩
    refine tr_nilI 3 ?_
    refine tr_block ?_
    refine tr_range (hseq := elems_gives (by omega) (by omega)) rfl gf_Elements1_ent rfl rfl rfl rfl rfl (fun (q : (Option Addr) × Nat × (List Int)) => match q with | (B, cb, zs) => [blk B5 58 [.pointer (some g.p)], blk p4 22 [.slice B zs.length cb], ow B 3 cb (ints zs), blk p1a 22 [.slice B1 (il (pol lx : Po (El p m mod))).length c1], ow B1 3 c1 (ints (il (pol lx : Po (El p m mod)))), blk p0 58 [.pointer (some g.p)], gfR g]) (fun (pre : List Int) (q : (Option Addr) × Nat × (List Int)) => match q with | (B, cb, zs) => zs = pre.filter (zset p m mod (pol lx)) ∧ zs.length ≤ pre.length) (none, 0, []) (by first | exact cs _ _ | exact CSub.refl _) (⟨rfl, by simp⟩) ?_ ?_
    · rintro pre x ⟨B, cb, zs⟩ l M0 W0 hlen hI
      refine tr_block ?_
      refine tr_seq ?_
      refine tr_region fun _ _ _ => ?_
      refine st rfl rfl rfl rfl (rLd0 rfl rfl) ?_
      refine st rfl rfl rfl rfl (rLd0 rfl rfl) ?_
      refine pu rfl rfl rfl rfl rfl ?_
      refine ef rfl rfl (eCallV rfl rfl rfl (poly_Eval g hg B1 _ _ (il (pol lx : Po (El p m mod))) rfl (by omega) x) ⟨rfl, rfl, rfl, trivial⟩ ?_) 
      refine pu rfl rfl rfl rfl rfl ?_
      refine tr_cond_bool rfl (fun h7 => ?_) (fun h7 => ?_)
      · try simp only [zbA] at h7
        refine tr_region fun _ _ _ => ?_
        refine st rfl rfl rfl rfl (rLd0 rfl rfl) ?_
        refine pu rfl rfl rfl rfl rfl ?_
        refine ef rfl rfl (eLit1I rfl rfl rfl rfl (fun A8 => ?_)) 
        refine ef rfl rfl (eAppI rfl rfl rfl rfl rfl (by first | rfl | simp | omega) (by first | rfl | simp | omega) (by first | omega | (simp; omega)) (fun A8a c8a => ?_)) 
        refine ef rfl rfl (eSt0 rfl rfl rfl rfl rfl rfl ?_) 
        refine ⟨(A8a, c8a, zs ++ [x]), by first | exact cs _ _ | exact CSub.refl _, ?_⟩
        rw [pol_il] at h7
        have hz : zset p m mod (pol lx) x = true := zset_iff.2 ((val_zero_iff _).1 (by first | exact h7 | simpa using h7))
        refine ⟨?_, by simp; omega⟩
        rw [List.filter_append, ← hI.1, List.filter_cons_of_pos hz, List.filter_nil]
      · try simp only [zbA] at h7
        refine tr_skip ?_
        refine ⟨(B, cb, zs), by first | exact cs _ _ | exact CSub.refl _, ?_⟩
        rw [pol_il] at h7
        have hz : ¬ zset p m mod (pol lx) x = true := fun h => h7 ((val_zero_iff _).2 (zset_iff.1 h))
        refine ⟨?_, by simp; omega⟩
        rw [List.filter_append, ← hI.1, List.filter_cons_of_neg hz, List.filter_nil, List.append_nil]
    · rintro ⟨B, cb, zs⟩ hI
      refine tr_seq ?_
      refine tr_region fun _ _ _ => ?_
      refine st rfl rfl rfl rfl (rLd0 rfl rfl) ?_
      iterate 2 refine pu rfl rfl rfl rfl rfl ?_
      exact tr_ret ⟨trivial, _, _, rfl, ⟨_, rfl, B, cb, zs, rfl, rfl, hI.1⟩, cs _ _, trivial, trivial⟩
theorem tow_Emb1_ent : Enters Tryz.prog 75 := enters_of Tryz.func75 (by kernel_rfl) (by kernel_rfl)
theorem tow_Emb1 (p m : Int) (A : Option Addr) (c : Nat) (mod : List Int) [hF : IsF p m mod] (g : GfM) (m2 : Int) (mod2 : List Int) [hE : IsF p m2 mod2] (hg : GOk g p m2 mod2) (hd : m2 % m = 0) (hm : m = 1) :
    Pure Tryz.prog 75 #[.agg #[.int .i64 p, .int .i64 m, .slice A mod.length c], .pointer (some g.p)] [ro A (ints mod), gfR g] (one (fun v ch => ∃ B, v = .tuple #[.slice B (imL p m2 mod2 m (embR p m2 mod2 m mod)).length (imL p m2 mod2 m (embR p m2 mod2 m mod)).length, .int .i64 0] ∧ ch = ow B 3 (imL p m2 mod2 m (embR p m2 mod2 m mod)).length (ints (imL p m2 mod2 m (embR p m2 mod2 m mod))))) := by
  have hl8 := hF.short
  have hl82 := hE.short
  have hgm := hg.emod
  have hgl : g.mod.length ≤ 1000000 := by rw [hgm]; omega
  have hgP := hg.eP
  have hgM := hg.eM
  have hm1 := hF.m1
  have hm21 := hE.m1
  have hmm : m ≤ m2 := Int.le_of_dvd (by omega) (Int.dvd_of_emod_eq_zero hd)
  have hq2 := hF.q2
  have hq9 := hF.out.1.1.q
  have hm8 := hF.out.1.1.m8
  have hrt : IsRt p m2 mod2 m mod 0 := ⟨by omega, by have := hE.q2; omega, fun _ => rfl, fun h => by omega, fun h => by omega⟩
  have hre := hrt.eq hm1
  have hps : ∀ i : Nat, i < m.toNat → ([1] : List Int).getD i 0 = (Rg.pow (el (embR p m2 mod2 m mod)) i : El p m2 mod2).1 := fun i hi => by
    have : i = 0 := by omega
    subst this; rfl
  refine pure_of (args := [.agg #[.int .i64 p, .int .i64 m, .slice A mod.length c], .pointer (some g.p)]) 96 Tryz.func75 rfl rfl rfl tow_Emb1_ent ⟨id, id, trivial⟩ (fun w0 => ?_)
  refine tr_seq ?_
  refine tr_region fun _ _ _ => ?_
  refine ef rfl rfl (eBox rfl rfl rfl rfl rfl (fun p0 => ?_)) 
  iterate 2 refine pu rfl rfl rfl rfl rfl ?_
  refine tr_seq ?_
  refine tr_region fun _ _ _ => ?_
  refine st rfl rfl rfl rfl (rLdS rfl rfl rfl) ?_
  refine ef rfl rfl (eCall1 rfl rfl rfl (fld_New_ok _ _ _ _ _ (by omega) hF.out) ⟨rfl, trivial⟩ ?_) 
  rintro _ _ ⟨h, rfl, rfl, hh⟩
  iterate 5 refine pu rfl rfl rfl rfl rfl ?_
  refine tr_seq ?_
  refine tr_seq ?_
  refine tr_region fun _ _ _ => ?_
  iterate 2 refine pu rfl rfl rfl rfl rfl ?_
  refine tr_cond_bool rfl (fun h2 => ?_) (fun h2 => ?_)
  · try simp only [zbA] at h2
    first | exact absurd trivial h2 | exact absurd rfl h2 | omega | (exact absurd h2 (by simp)) --done
  · try simp only [zbA] at h2
    refine tr_skip ?_
    refine tr_seq ?_
    refine tr_region fun _ _ _ => ?_
    refine pu rfl rfl rfl rfl rfl ?_
    refine ef rfl rfl (eCallV rfl rfl rfl (tow_prime g hgl) ⟨rfl, trivial⟩ ?_) 
    iterate 5 refine pu rfl rfl rfl rfl rfl ?_
    refine tr_seq ?_
    refine tr_seq ?_
    refine tr_region fun _ _ _ => ?_
    refine st rfl rfl rfl rfl (rFld rfl rfl) ?_
    refine st rfl rfl rfl rfl (rLdF rfl rfl rfl) ?_
    iterate 3 refine pu rfl rfl rfl rfl rfl ?_
    refine stT rfl rfl rfl (by simp <;> omega) rfl rfl (rMove rfl rfl) ?_
    refine stT rfl rfl rfl (by simp <;> omega) rfl rfl (rFld rfl rfl) ?_
    refine stT rfl rfl rfl (by simp <;> omega) rfl rfl (rLdF rfl rfl rfl) ?_
    refine efT rfl rfl rfl (by simp <;> omega) (eCallV rfl rfl rfl (tow_isDegree g hgl m hm1 (by omega)) ⟨rfl, rfl, trivial⟩ ?_) 
    refine stT rfl rfl rfl (by simp <;> omega) rfl rfl (rNotB rfl rfl) ?_
    refine st rfl rfl rfl rfl (rPick0 rfl rfl (by simp <;> omega) rfl) ?_
    refine tr_cond_bool rfl (fun h5 => ?_) (fun h5 => ?_)
    · try simp only [zbA] at h5
      exact absurd h5 (by simp [hgM, hgP, hd] <;> omega) --done
    · try simp only [zbA] at h5
      refine tr_skip ?_
      refine tr_seq ?_
      refine tr_region fun _ _ _ => ?_
      refine ef rfl rfl (eLit1I rfl rfl rfl rfl (fun A7 => ?_)) 
      refine pu rfl rfl rfl rfl rfl ?_
      refine tr_seq ?_
      refine tr_seq ?_
      refine tr_region fun _ _ _ => ?_
      refine st rfl rfl rfl rfl (rFld rfl rfl) ?_
      refine st rfl rfl rfl rfl (rLdF rfl rfl rfl) ?_
      refine pu rfl rfl rfl rfl rfl ?_
      refine tr_cond_bool rfl (fun h8 => ?_) (fun h8 => ?_)
      · try simp only [zbA] at h8
        omega --done
      · try simp only [zbA] at h8
        refine tr_skip ?_
        refine tr_seq ?_
        have hhq := hh.eq
        refine tr_region fun _ _ _ => ?_
        refine pu rfl rfl rfl rfl rfl ?_
        refine ef rfl rfl (eCallV rfl rfl rfl (gf_Order h) ⟨rfl, trivial⟩ ?_) 
        refine ef rfl rfl (eMakeI rfl rfl rfl rfl rfl (by omega) (by omega) (by omega) (fun A16a => ?_)) 
        refine pu rfl rfl rfl rfl rfl ?_
        rw [hhq]
        refine tr_seq ?_
        refine tr_seq ?_
        refine tr_region fun _ _ _ => ?_
        refine pu rfl rfl rfl rfl rfl ?_
        refine st rfl rfl rfl rfl (rLen rfl rfl) ?_
        refine pu rfl rfl rfl rfl rfl ?_
        refine tr_block ?_
        refine tr_loop2 (fun (x : Int) (o : List Int) => [(14, .slice A16a (pw p m).toNat (pw p m).toNat), (81, .int .i64 (pw p m).toNat), (82, .int .i64 x), (10, .slice A7 [1].length 1), (6, .pointer (some h.p)), (1, .pointer (some g.p)), (4, .slice none 0 0), (5, .int .i64 0)]) (fun (x : Int) (o : List Int) => [ow A16a 3 (pw p m).toNat (ints o), ow A7 3 1 (ints [1]), gfN h, blk p0 24 [.int .i64 p, .int .i64 m, .slice A mod.length c], ro A (ints mod), gfR g]) (fun (x : Int) (o : List Int) => (0 ≤ x ∧ x ≤ pw p m) ∧ o.length = (pw p m).toNat ∧ ∀ j : Nat, (j : Int) < x → o.getD j 0 = (Po.val (pol (digs p m.toNat j) : Po (El p m2 mod2)) (el (embR p m2 mod2 m mod))).1) (fun (x : Int) (o : List Int) => (pw p m - x).toNat) (0) (List.replicate (pw p m).toNat 0) ⟨rfl, rfl, rfl, rfl, rfl, rfl, rfl, rfl, trivial⟩ (by first | exact cs _ _ | exact CSub.refl _) (⟨⟨by omega, by omega⟩, by simp, fun j hj => by omega⟩) (fun x o hI => ?_)
        obtain ⟨⟨hx0, hx1⟩, hol, ho⟩ := hI
        refine tr_seq ?_
        refine tr_region fun _ _ _ => ?_
        refine pu rfl rfl rfl rfl rfl ?_
        refine tr_seq ?_
        refine tr_cond_bool rfl (fun h18 => ?_) (fun h18 => ?_)
        · try simp only [zbA] at h18
          refine tr_skip ?_
          refine tr_seq ?_
          refine tr_block ?_
          refine tr_seq ?_
          refine tr_region fun _ _ _ => ?_
          iterate 2 refine pu rfl rfl rfl rfl rfl ?_
          refine tr_region fun _ _ _ => ?_
          iterate 5 refine pu rfl rfl rfl rfl rfl ?_
          refine ef rfl rfl (eCall1 rfl rfl rfl (gf_Digits h hh x ⟨by omega, by omega⟩) ⟨rfl, rfl, trivial⟩ ?_) 
          rintro _ _ ⟨Bd, rfl, rfl⟩
          refine pu rfl rfl rfl rfl rfl ?_
          refine ef rfl rfl (eCallV rfl rfl rfl (gf_Dot g hg Bd _ _ (digs p m.toNat x) (digs_len _ _ _).symm A7 1 1 [1] rfl (by rw [digs_len]; omega) (by rw [digs_len]; show _ = 1; omega)) ⟨rfl, rfl, rfl, trivial⟩ ?_) 
          refine st rfl rfl rfl rfl (rIdxI rfl rfl rfl (by omega) (by omega) (by omega)) ?_
          refine ef rfl rfl (eStI rfl rfl rfl rfl (by omega) ?_) 
          refine tr_region fun _ _ _ => ?_
          refine st rfl rfl rfl rfl (rAdd rfl rfl rfl (by omega) (by omega)) ?_
          refine pu rfl rfl rfl rfl rfl ?_
          refine ⟨x + 1, o.set x.toNat (Rg.sm (digs p m.toNat x).length fun i => (el ((digs p m.toNat x).getD i 0) * el ([1].getD i 0) : El p m2 mod2)).1, ⟨rfl, rfl, rfl, rfl, rfl, rfl, rfl, rfl, trivial⟩, by first | exact cs _ _ | exact CSub.refl _, ?_⟩
          refine ⟨⟨⟨by omega, by omega⟩, by simpa using hol, fun j hj => ?_⟩, by omega⟩
          rw [getD_set]
          by_cases he : x.toNat = j
          · subst he
            rw [if_pos ⟨rfl, by omega⟩, Int.toNat_of_nonneg hx0, val_sum]
            refine congrArg (fun z : El p m2 mod2 => z.1) ?_
            refine Rg.sm_congr fun i hi => ?_
            rw [digs_len] at hi
            rw [hps i hi, el_of]
          · rw [if_neg (fun e => he e.1)]; exact ho j (by omega)
        · try simp only [zbA] at h18
          refine tr_exit ?_
          refine tr_seq ?_
          refine tr_region fun _ _ _ => ?_
          iterate 3 refine pu rfl rfl rfl rfl rfl ?_
          have hfin : o = (imL p m2 mod2 m (embR p m2 mod2 m mod)) := ext_getD (by rw [imL_length]; exact hol) fun j => by
            by_cases hj : j < (pw p m).toNat
            · rw [imL_get _ _ hj]; exact ho j (by omega)
            · rw [getD_out (by omega), getD_out (by rw [imL_length]; omega)]
          have hol2 : (pw p m).toNat = (imL p m2 mod2 m (embR p m2 mod2 m mod)).length := (imL_length _ _).symm
          exact tr_ret ⟨trivial, _, _, rfl, ⟨_, rfl, A16a, by rw [hol2], by rw [← hfin, hol]⟩, cs _ _, trivial, trivial⟩
theorem tow_Emb2_ent : Enters Tryz.prog 75 := enters_of Tryz.func75 (by kernel_rfl) (by kernel_rfl)
theorem tow_Emb2 (p m : Int) (A : Option Addr) (c : Nat) (mod : List Int) [hF : IsF p m mod] (g : GfM) (m2 : Int) (mod2 : List Int) [hE : IsF p m2 mod2] (hg : GOk g p m2 mod2) (hd : m2 % m = 0) (hm : 2 ≤ m) :
    Pure Tryz.prog 75 #[.agg #[.int .i64 p, .int .i64 m, .slice A mod.length c], .pointer (some g.p)] [ro A (ints mod), gfR g] (one (fun v ch => ∃ B, v = .tuple #[.slice B (imL p m2 mod2 m (embR p m2 mod2 m mod)).length (imL p m2 mod2 m (embR p m2 mod2 m mod)).length, .int .i64 0] ∧ ch = ow B 3 (imL p m2 mod2 m (embR p m2 mod2 m mod)).length (ints (imL p m2 mod2 m (embR p m2 mod2 m mod))))) := by
  have hl8 := hF.short
  have hl82 := hE.short
  have hgm := hg.emod
  have hgl : g.mod.length ≤ 1000000 := by rw [hgm]; omega
  have hgP := hg.eP
  have hgM := hg.eM
  have hm1 := hF.m1
  have hm21 := hE.m1
  have hmm : m ≤ m2 := Int.le_of_dvd (by omega) (Int.dvd_of_emod_eq_zero hd)
  have hq2 := hF.q2
  have hq9 := hF.out.1.1.q
  have hm8 := hF.out.1.1.m8
  refine pure_of (args := [.agg #[.int .i64 p, .int .i64 m, .slice A mod.length c], .pointer (some g.p)]) 96 Tryz.func75 rfl rfl rfl tow_Emb2_ent ⟨id, id, trivial⟩ (fun w0 => ?_)
  refine tr_seq ?_
  refine tr_region fun _ _ _ => ?_
  refine ef rfl rfl (eBox rfl rfl rfl rfl rfl (fun p0 => ?_)) 
  iterate 2 refine pu rfl rfl rfl rfl rfl ?_
  refine tr_seq ?_
  refine tr_region fun _ _ _ => ?_
  refine st rfl rfl rfl rfl (rLdS rfl rfl rfl) ?_
  refine ef rfl rfl (eCall1 rfl rfl rfl (fld_New_ok _ _ _ _ _ (by omega) hF.out) ⟨rfl, trivial⟩ ?_) 
  rintro _ _ ⟨h, rfl, rfl, hh⟩
  iterate 5 refine pu rfl rfl rfl rfl rfl ?_
  refine tr_seq ?_
  refine tr_seq ?_
  refine tr_region fun _ _ _ => ?_
  iterate 2 refine pu rfl rfl rfl rfl rfl ?_
  refine tr_cond_bool rfl (fun h2 => ?_) (fun h2 => ?_)
  · try simp only [zbA] at h2
    first | exact absurd trivial h2 | exact absurd rfl h2 | omega | (exact absurd h2 (by simp)) --done
  · try simp only [zbA] at h2
    refine tr_skip ?_
    refine tr_seq ?_
    refine tr_region fun _ _ _ => ?_
    refine pu rfl rfl rfl rfl rfl ?_
    refine ef rfl rfl (eCallV rfl rfl rfl (tow_prime g hgl) ⟨rfl, trivial⟩ ?_) 
    iterate 5 refine pu rfl rfl rfl rfl rfl ?_
    refine tr_seq ?_
    refine tr_seq ?_
    refine tr_region fun _ _ _ => ?_
    refine st rfl rfl rfl rfl (rFld rfl rfl) ?_
    refine st rfl rfl rfl rfl (rLdF rfl rfl rfl) ?_
    iterate 3 refine pu rfl rfl rfl rfl rfl ?_
    refine stT rfl rfl rfl (by simp <;> omega) rfl rfl (rMove rfl rfl) ?_
    refine stT rfl rfl rfl (by simp <;> omega) rfl rfl (rFld rfl rfl) ?_
    refine stT rfl rfl rfl (by simp <;> omega) rfl rfl (rLdF rfl rfl rfl) ?_
    refine efT rfl rfl rfl (by simp <;> omega) (eCallV rfl rfl rfl (tow_isDegree g hgl m hm1 (by omega)) ⟨rfl, rfl, trivial⟩ ?_) 
    refine stT rfl rfl rfl (by simp <;> omega) rfl rfl (rNotB rfl rfl) ?_
    refine st rfl rfl rfl rfl (rPick0 rfl rfl (by simp <;> omega) rfl) ?_
    refine tr_cond_bool rfl (fun h5 => ?_) (fun h5 => ?_)
    · try simp only [zbA] at h5
      exact absurd h5 (by simp [hgM, hgP, hd] <;> omega) --done
    · try simp only [zbA] at h5
      refine tr_skip ?_
      refine tr_seq ?_
      refine tr_region fun _ _ _ => ?_
      refine ef rfl rfl (eLit1I rfl rfl rfl rfl (fun A7 => ?_)) 
      refine pu rfl rfl rfl rfl rfl ?_
      refine tr_seq ?_
      refine tr_seq ?_
      refine tr_region fun _ _ _ => ?_
      refine st rfl rfl rfl rfl (rFld rfl rfl) ?_
      refine st rfl rfl rfl rfl (rLdF rfl rfl rfl) ?_
      refine pu rfl rfl rfl rfl rfl ?_
      refine tr_cond_bool rfl (fun h8 => ?_) (fun h8 => ?_)
      · try simp only [zbA] at h8
        refine tr_seq ?_
        refine tr_region fun _ _ _ => ?_
        refine pu rfl rfl rfl rfl rfl ?_
        refine ef rfl rfl (eLit0I rfl rfl rfl  (fun A9 => ?_)) 
        refine st rfl rfl rfl rfl (rFld rfl rfl) ?_
        refine st rfl rfl rfl rfl (rLdF rfl rfl rfl) ?_
        refine ef rfl rfl (eAppI rfl rfl rfl rfl rfl (by first | rfl | simp | omega) (by first | rfl | simp | omega) (by first | omega | (simp; omega)) (fun A9a c9a => ?_)) 
        refine ef rfl rfl (eLit1I rfl rfl rfl rfl (fun A9b => ?_)) 
        refine ef rfl rfl (eAppI rfl rfl rfl rfl rfl (by first | rfl | simp | omega) (by first | rfl | simp | omega) (by first | omega | (simp; omega)) (fun A9c c9c => ?_)) 
        simp only [List.nil_append]
        refine ef rfl rfl (eCall1 rfl rfl rfl (poly_Roots g hg A9c _ c9c (mod ++ [1]) rfl (by simp; omega) (polmod_ne mod)) ⟨rfl, rfl, trivial⟩ ?_) 
        rintro _ _ ⟨Bz, cz, zs, rfl, rfl, hzs⟩
        iterate 5 refine pu rfl rfl rfl rfl rfl ?_
        refine tr_seq ?_
        refine tr_seq ?_
        rw [hg.eq] at hzs
        obtain ⟨hz0, hrt⟩ := rt_of_head (p := p) (m := m) (mod := mod) hm hd hzs
        have hre := hrt.eq hm1
        refine tr_region fun _ _ _ => ?_
        refine pu rfl rfl rfl rfl rfl ?_
        refine st rfl rfl rfl rfl (rLen rfl rfl) ?_
        refine pu rfl rfl rfl rfl rfl ?_
        refine tr_cond_bool rfl (fun h10 => ?_) (fun h10 => ?_)
        · try simp only [zbA] at h10
          omega --done
        · try simp only [zbA] at h10
          refine tr_skip ?_
          refine tr_seq ?_
          refine tr_region fun _ _ _ => ?_
          refine pu rfl rfl rfl rfl rfl ?_
          refine tr_block ?_
          refine tr_loop4 (fun (i : Int) (B : Option Addr) (cb : Nat) (ps : List Int) => [(10, .slice B ps.length cb), (13, .int .i64 i), (6, .pointer (some h.p)), (11, .slice Bz zs.length cz), (1, .pointer (some g.p)), (2, .pointer (some p0)), (4, .slice none 0 0), (5, .int .i64 0)]) (fun (i : Int) (B : Option Addr) (cb : Nat) (ps : List Int) => [ow B 3 cb (ints ps), ow Bz 3 cz (ints zs), gfN h, blk p0 24 [.int .i64 p, .int .i64 m, .slice A mod.length c], ro A (ints mod), gfR g]) (fun (i : Int) (B : Option Addr) (cb : Nat) (ps : List Int) => (1 ≤ i ∧ i ≤ m) ∧ (ps.length : Int) = i ∧ ∀ j : Nat, (j : Int) < i → ps.getD j 0 = (Rg.pow (el (zs.getD 0 0)) j : El p m2 mod2).1) (fun (i : Int) (B : Option Addr) (cb : Nat) (ps : List Int) => (m - i).toNat) (1) (A7) (1) ([1]) ⟨rfl, rfl, rfl, rfl, rfl, rfl, rfl, rfl, trivial⟩ (by first | exact cs _ _ | exact CSub.refl _) (⟨⟨by omega, by omega⟩, rfl, fun j hj => by rw [show j = 0 by omega]; rfl⟩) (fun i B cb ps hI => ?_)
          obtain ⟨⟨hi0, hi1⟩, hpl, hpw⟩ := hI
          refine tr_seq ?_
          refine tr_seq ?_
          refine tr_region fun _ _ _ => ?_
          refine pu rfl rfl rfl rfl rfl ?_
          refine st rfl rfl rfl rfl (rFld rfl rfl) ?_
          refine st rfl rfl rfl rfl (rLdF rfl rfl rfl) ?_
          refine pu rfl rfl rfl rfl rfl ?_
          refine tr_cond_bool rfl (fun h13 => ?_) (fun h13 => ?_)
          · try simp only [zbA] at h13
            refine tr_skip ?_
            refine tr_seq ?_
            refine tr_block ?_
            refine tr_draw [0, 1, 2, 3, 4, 5, 6, 7, 8, 9, 10, 11] [12, 13] mixed (by kernel_rfl) fun _ _ _ => ?_
            iterate 4 refine pu rfl rfl rfl rfl rfl ?_
            refine st rfl rfl rfl rfl (rSub rfl rfl rfl (by omega) (by omega)) ?_
            refine st rfl rfl rfl rfl (rIdxI rfl rfl rfl (by omega) (by omega) (by omega)) ?_
            refine st rfl rfl rfl rfl (rLdI rfl rfl (by omega)) ?_
            refine pu rfl rfl rfl rfl rfl ?_
            refine st rfl rfl rfl rfl (rIdxI rfl rfl rfl (by omega) (by omega) (by omega)) ?_
            refine st rfl rfl rfl rfl (rLdI rfl rfl (by omega)) ?_
            refine ef rfl rfl (eCallV rfl rfl rfl (gf_MulE g hg _ _) ⟨rfl, rfl, rfl, trivial⟩ ?_) 
            refine ef rfl rfl (eLit1I rfl rfl rfl rfl (fun A15a => ?_)) 
            refine ef rfl rfl (eAppI rfl rfl rfl rfl rfl (by first | rfl | simp | omega) (by first | rfl | simp | omega) (by first | omega | (simp; omega)) (fun A15b c15b => ?_)) 
            refine pu rfl rfl rfl rfl rfl ?_
            refine tr_region fun _ _ _ => ?_
            refine pu rfl rfl rfl rfl rfl ?_
            refine st rfl rfl rfl rfl (rAdd rfl rfl rfl (by omega) (by omega)) ?_
            refine pu rfl rfl rfl rfl rfl ?_
            refine ⟨i + 1, A15b, c15b, ps ++ [(el (ps.getD (i - 1).toNat 0) * el (zs.getD (Int.toNat 0) 0) : El p m2 mod2).1], ⟨rfl, rfl, rfl, rfl, rfl, rfl, rfl, rfl, trivial⟩, by first | exact cs _ _ | exact CSub.refl _, ?_⟩
            refine ⟨⟨⟨by omega, by omega⟩, by simp; omega, fun j hj => ?_⟩, by omega⟩
            rw [getD_app1]
            by_cases he : j = ps.length
            · have h1 : (i - 1).toNat = j - 1 := by omega
              rw [if_pos he, h1, hpw (j - 1) (by omega), el_of]
              refine congrArg (fun z : El p m2 mod2 => z.1) ?_
              have h2 : j = (j - 1) + 1 := by omega
              rw [h2, Rg.pow_succ]; rfl
            · rw [if_neg he]; exact hpw j (by omega)
          · try simp only [zbA] at h13
            refine tr_exit ?_
            refine tr_seq ?_
            have hhq := hh.eq
            have hps : ∀ j : Nat, j < m.toNat → ps.getD j 0 = (Rg.pow (el (embR p m2 mod2 m mod)) j : El p m2 mod2).1 := fun j hj => by rw [hre]; exact hpw j (by omega)
            refine tr_region fun _ _ _ => ?_
            refine pu rfl rfl rfl rfl rfl ?_
            refine ef rfl rfl (eCallV rfl rfl rfl (gf_Order h) ⟨rfl, trivial⟩ ?_) 
            refine ef rfl rfl (eMakeI rfl rfl rfl rfl rfl (by omega) (by omega) (by omega) (fun A16a => ?_)) 
            refine pu rfl rfl rfl rfl rfl ?_
            rw [hhq]
            refine tr_seq ?_
            refine tr_seq ?_
            refine tr_region fun _ _ _ => ?_
            refine pu rfl rfl rfl rfl rfl ?_
            refine st rfl rfl rfl rfl (rLen rfl rfl) ?_
            refine pu rfl rfl rfl rfl rfl ?_
            refine tr_block ?_
            refine tr_loop2 (fun (x : Int) (o : List Int) => [(14, .slice A16a (pw p m).toNat (pw p m).toNat), (81, .int .i64 (pw p m).toNat), (82, .int .i64 x), (10, .slice B ps.length cb), (6, .pointer (some h.p)), (1, .pointer (some g.p)), (4, .slice none 0 0), (5, .int .i64 0)]) (fun (x : Int) (o : List Int) => [ow A16a 3 (pw p m).toNat (ints o), ow B 3 cb (ints ps), gfN h, ow Bz 3 cz (ints zs), blk p0 24 [.int .i64 p, .int .i64 m, .slice A mod.length c], ro A (ints mod), gfR g]) (fun (x : Int) (o : List Int) => (0 ≤ x ∧ x ≤ pw p m) ∧ o.length = (pw p m).toNat ∧ ∀ j : Nat, (j : Int) < x → o.getD j 0 = (Po.val (pol (digs p m.toNat j) : Po (El p m2 mod2)) (el (embR p m2 mod2 m mod))).1) (fun (x : Int) (o : List Int) => (pw p m - x).toNat) (0) (List.replicate (pw p m).toNat 0) ⟨rfl, rfl, rfl, rfl, rfl, rfl, rfl, rfl, trivial⟩ (by first | exact cs _ _ | exact CSub.refl _) (⟨⟨by omega, by omega⟩, by simp, fun j hj => by omega⟩) (fun x o hI => ?_)
            obtain ⟨⟨hx0, hx1⟩, hol, ho⟩ := hI
            refine tr_seq ?_
            refine tr_region fun _ _ _ => ?_
            refine pu rfl rfl rfl rfl rfl ?_
            refine tr_seq ?_
            refine tr_cond_bool rfl (fun h18 => ?_) (fun h18 => ?_)
            · try simp only [zbA] at h18
              refine tr_skip ?_
              refine tr_seq ?_
              refine tr_block ?_
              refine tr_seq ?_
              refine tr_region fun _ _ _ => ?_
              iterate 2 refine pu rfl rfl rfl rfl rfl ?_
              refine tr_region fun _ _ _ => ?_
              iterate 5 refine pu rfl rfl rfl rfl rfl ?_
              refine ef rfl rfl (eCall1 rfl rfl rfl (gf_Digits h hh x ⟨by omega, by omega⟩) ⟨rfl, rfl, trivial⟩ ?_) 
              rintro _ _ ⟨Bd, rfl, rfl⟩
              refine pu rfl rfl rfl rfl rfl ?_
              refine ef rfl rfl (eCallV rfl rfl rfl (gf_Dot g hg Bd _ _ (digs p m.toNat x) (digs_len _ _ _).symm B _ cb ps rfl (by rw [digs_len]; omega) (by rw [digs_len]; omega)) ⟨rfl, rfl, rfl, trivial⟩ ?_) 
              refine st rfl rfl rfl rfl (rIdxI rfl rfl rfl (by omega) (by omega) (by omega)) ?_
              refine ef rfl rfl (eStI rfl rfl rfl rfl (by omega) ?_) 
              refine tr_region fun _ _ _ => ?_
              refine st rfl rfl rfl rfl (rAdd rfl rfl rfl (by omega) (by omega)) ?_
              refine pu rfl rfl rfl rfl rfl ?_
              refine ⟨x + 1, o.set x.toNat (Rg.sm (digs p m.toNat x).length fun i => (el ((digs p m.toNat x).getD i 0) * el (ps.getD i 0) : El p m2 mod2)).1, ⟨rfl, rfl, rfl, rfl, rfl, rfl, rfl, rfl, trivial⟩, by first | exact cs _ _ | exact CSub.refl _, ?_⟩
              refine ⟨⟨⟨by omega, by omega⟩, by simpa using hol, fun j hj => ?_⟩, by omega⟩
              rw [getD_set]
              by_cases he : x.toNat = j
              · subst he
                rw [if_pos ⟨rfl, by omega⟩, Int.toNat_of_nonneg hx0, val_sum]
                refine congrArg (fun z : El p m2 mod2 => z.1) ?_
                refine Rg.sm_congr fun i hi => ?_
                rw [digs_len] at hi
                rw [hps i hi, el_of]
              · rw [if_neg (fun e => he e.1)]; exact ho j (by omega)
            · try simp only [zbA] at h18
              refine tr_exit ?_
              refine tr_seq ?_
              refine tr_region fun _ _ _ => ?_
              iterate 3 refine pu rfl rfl rfl rfl rfl ?_
              have hfin : o = (imL p m2 mod2 m (embR p m2 mod2 m mod)) := ext_getD (by rw [imL_length]; exact hol) fun j => by
                by_cases hj : j < (pw p m).toNat
                · rw [imL_get _ _ hj]; exact ho j (by omega)
                · rw [getD_out (by omega), getD_out (by rw [imL_length]; omega)]
              have hol2 : (pw p m).toNat = (imL p m2 mod2 m (embR p m2 mod2 m mod)).length := (imL_length _ _).symm
              exact tr_ret ⟨trivial, _, _, rfl, ⟨_, rfl, A16a, by rw [hol2], by rw [← hfin, hol]⟩, cs _ _, trivial, trivial⟩
      · try simp only [zbA] at h8
        omega --done
end Go.Proofs.YtgnmcoegdogfgaaGreat

set_option linter.unusedSimpArgs false
set_option linter.unusedVariables false
set_option maxRecDepth 100000
namespace Go.Proofs.YtgnmcoegdogfgaaGreat
open Go.RowKit
section
variable {p m2 : Int} {mod2 : List Int} [hE : IsF p m2 mod2]
noncomputable def zerB (p m2 : Int) (mod2 : List Int) [hE : IsF p m2 mod2] (im : List Int) (rs : List RowM) (a i : Int) : Bool := rs.all fun r => zset p m2 mod2 (pol (r.xs.map (fun y : Int => im.getD y.toNat 0))) (Rg.pow (el a : El p m2 mod2) i.toNat).1
noncomputable def zerL (p m2 : Int) (mod2 : List Int) [hE : IsF p m2 mod2] (im : List Int) (rs : List RowM) (a n : Int) : List Int := (upI n.toNat).filter (zerB p m2 mod2 im rs a)
end
theorem tow_Emb (p m : Int) (A : Option Addr) (c : Nat) (mod : List Int) [hF : IsF p m mod] (g : GfM) (m2 : Int) (mod2 : List Int) [hE : IsF p m2 mod2] (hg : GOk g p m2 mod2) (hd : m2 % m = 0) : Pure Tryz.prog 75 #[.agg #[.int .i64 p, .int .i64 m, .slice A mod.length c], .pointer (some g.p)] [ro A (ints mod), gfR g] (one (fun v ch => ∃ B, v = .tuple #[.slice B (imL p m2 mod2 m (embR p m2 mod2 m mod)).length (imL p m2 mod2 m (embR p m2 mod2 m mod)).length, .int .i64 0] ∧ ch = ow B 3 (imL p m2 mod2 m (embR p m2 mod2 m mod)).length (ints (imL p m2 mod2 m (embR p m2 mod2 m mod))))) := by
  have h1 := hF.m1
  by_cases hm : m = 1
  · exact tow_Emb1 p m A c mod g m2 mod2 hg hd hm
  · exact tow_Emb2 p m A c mod g m2 mod2 hg hd (by omega)
theorem bch_ext_ent : Enters Tryz.prog 30 := enters_of Tryz.func30 (by kernel_rfl) (by kernel_rfl)
theorem bch_ext (p m : Int) (A : Option Addr) (c : Nat) (mod : List Int) [hF : IsF p m mod] (m2 : Int) (A2 : Option Addr) (c2 : Nat) (mod2 : List Int) [hE : IsF p m2 mod2] (hd : m2 % m = 0) (n : Int) (hn1 : 1 ≤ n) (hn64 : n ≤ 64) :
    Pure Tryz.prog 30 #[.agg #[.int .i64 p, .int .i64 m, .slice A mod.length c], .agg #[.int .i64 p, .int .i64 m2, .slice A2 mod2.length c2], .int .i64 n] [ro A (ints mod), ro A2 (ints mod2)] (two (fun v c1 c2 => ∃ (g : GfM) (B : Option Addr), v = .tuple #[.pointer (some g.p), .slice B (imL p m2 mod2 m (embR p m2 mod2 m mod)).length (imL p m2 mod2 m (embR p m2 mod2 m mod)).length, .int .i64 (if rootArgs p m2 mod2 n = 0 then rootI p m2 mod2 n else 0), .int .i64 (rootArgs p m2 mod2 n)] ∧ c1 = gfN g ∧ c2 = ow B 3 (imL p m2 mod2 m (embR p m2 mod2 m mod)).length (ints (imL p m2 mod2 m (embR p m2 mod2 m mod))) ∧ GOk g p m2 mod2)) := by
  refine pure_of (args := [.agg #[.int .i64 p, .int .i64 m, .slice A mod.length c], .agg #[.int .i64 p, .int .i64 m2, .slice A2 mod2.length c2], .int .i64 n]) 47 Tryz.func30 rfl rfl rfl bch_ext_ent ⟨id, id, trivial⟩ (fun w0 => ?_)
  refine tr_seq ?_
  refine tr_region fun _ _ _ => ?_
  refine ef rfl rfl (eBox rfl rfl rfl rfl rfl (fun p0 => ?_)) 
  refine ef rfl rfl (eBox rfl rfl rfl rfl rfl (fun p0a => ?_)) 
  iterate 4 refine pu rfl rfl rfl rfl rfl ?_
  refine tr_seq ?_
  refine tr_region fun _ _ _ => ?_
  refine st rfl rfl rfl rfl (rLdS rfl rfl rfl) ?_
  refine ef rfl rfl (eCall1 rfl rfl rfl (fld_New_ok _ _ _ _ _ (by have := hE.short; omega) hE.out) ⟨rfl, trivial⟩ ?_) 
  rintro _ _ ⟨g, rfl, rfl, hg⟩
  iterate 5 refine pu rfl rfl rfl rfl rfl ?_
  refine tr_seq ?_
  refine tr_seq ?_
  refine tr_region fun _ _ _ => ?_
  iterate 2 refine pu rfl rfl rfl rfl rfl ?_
  refine tr_cond_bool rfl (fun h2 => ?_) (fun h2 => ?_)
  · try simp only [zbA] at h2
    first | exact absurd trivial h2 | exact absurd rfl h2 | omega | (exact absurd h2 (by simp)) --done
  · try simp only [zbA] at h2
    refine tr_skip ?_
    refine tr_seq ?_
    refine tr_seq ?_
    refine tr_region fun _ _ _ => ?_
    iterate 3 refine pu rfl rfl rfl rfl rfl ?_
    refine stg rfl rfl rfl rfl rfl (fun hb => by (have hq := hb; try simp only [zbA] at hq); exact rMove rfl rfl) ?_
    refine stg rfl rfl rfl rfl rfl (fun hb => by (have hq := hb; try simp only [zbA] at hq); exact rGtr rfl (evg rfl hb) rfl) ?_
    refine st rfl rfl rfl rfl (rOrB rfl rfl rfl rfl) ?_
    refine tr_cond_bool rfl (fun h4 => ?_) (fun h4 => ?_)
    · try simp only [zbA] at h4
      omega --done
    · try simp only [zbA] at h4
      refine tr_skip ?_
      refine tr_seq ?_
      refine tr_region fun _ _ _ => ?_
      refine st rfl rfl rfl rfl (rLdS rfl rfl rfl) ?_
      refine pu rfl rfl rfl rfl rfl ?_
      refine ef rfl rfl (eCall1 rfl rfl rfl (tow_Emb _ _ _ _ _ g m2 mod2 hg hd) ⟨rfl, rfl, trivial⟩ ?_) 
      rintro _ _ ⟨B6, rfl, rfl⟩
      iterate 5 refine pu rfl rfl rfl rfl rfl ?_
      refine tr_seq ?_
      refine tr_seq ?_
      refine tr_region fun _ _ _ => ?_
      iterate 2 refine pu rfl rfl rfl rfl rfl ?_
      refine tr_cond_bool rfl (fun h7 => ?_) (fun h7 => ?_)
      · try simp only [zbA] at h7
        first | exact absurd trivial h7 | exact absurd rfl h7 | omega | (exact absurd h7 (by simp)) --done
      · try simp only [zbA] at h7
        refine tr_skip ?_
        refine tr_seq ?_
        refine tr_region fun _ _ _ => ?_
        refine st rfl rfl rfl rfl (rLdS rfl rfl rfl) ?_
        refine pu rfl rfl rfl rfl rfl ?_
        refine ef rfl rfl (eCallV rfl rfl rfl (bch_Root_ok p m2 A2 c2 mod2 (by have := hE.short; omega) n hE.out) ⟨rfl, rfl, trivial⟩ ?_) 
        iterate 5 refine pu rfl rfl rfl rfl rfl ?_
        refine tr_seq ?_
        refine tr_region fun _ _ _ => ?_
        iterate 8 refine pu rfl rfl rfl rfl rfl ?_
        exact tr_ret ⟨trivial, _, _, rfl, ⟨_, _, rfl, g, B6, rfl, rfl, rfl, hg⟩, cs _ _, gfO_excl _ _ _, trivial, trivial⟩
end Go.Proofs.YtgnmcoegdogfgaaGreat

set_option linter.unusedSimpArgs false
set_option linter.unusedVariables false
set_option maxRecDepth 100000
namespace Go.Proofs.YtgnmcoegdogfgaaGreat
open Go.RowKit
theorem rootArgs_is {p m : Int} {mod : List Int} (hF : FldR p m mod) {n : Int} (h1 : 1 ≤ n) (h2 : n ≤ 64) : rootArgs p m mod n = if rootI p m mod n = 0 then 11 else 0 := by
  unfold rootArgs; rw [if_neg (by rw [chkF_ok hF]; simp), if_neg (by omega)]
theorem ref_Over_ent : Enters Tryz.prog 36 := enters_of Tryz.func36 (by kernel_rfl) (by kernel_rfl)
theorem ref_Over (p m : Int) (A : Option Addr) (c : Nat) (mod : List Int) (hm : 1 ≤ m) (p2 m2 : Int) (Ae : Option Addr) (ce : Nat) (mod2 : List Int) (hm2 : 1 ≤ m2) :
    Pure Tryz.prog 36 #[.agg #[.int .i64 p, .int .i64 m, .slice A mod.length c], .agg #[.int .i64 p2, .int .i64 m2, .slice Ae mod2.length ce]] [] (isV (.bool (decide (p = p2) && decide (m2 % m = 0)))) := by
  refine pure_of (args := [.agg #[.int .i64 p, .int .i64 m, .slice A mod.length c], .agg #[.int .i64 p2, .int .i64 m2, .slice Ae mod2.length ce]]) 18 Tryz.func36 rfl rfl rfl ref_Over_ent trivial (fun w0 => ?_)
  refine tr_seq ?_
  refine tr_region fun _ _ _ => ?_
  refine ef rfl rfl (eBox rfl rfl rfl rfl rfl (fun p0 => ?_)) 
  refine ef rfl rfl (eBox rfl rfl rfl rfl rfl (fun p0a => ?_)) 
  refine pu rfl rfl rfl rfl rfl ?_
  refine tr_seq ?_
  refine tr_region fun _ _ _ => ?_
  refine st rfl rfl rfl rfl (rFld rfl rfl) ?_
  refine st rfl rfl rfl rfl (rLdF rfl rfl rfl) ?_
  refine st rfl rfl rfl rfl (rFld rfl rfl) ?_
  refine st rfl rfl rfl rfl (rLdF rfl rfl rfl) ?_
  iterate 2 refine pu rfl rfl rfl rfl rfl ?_
  refine stg rfl rfl rfl rfl rfl (fun hb => by (have hq := hb; try simp only [zbA] at hq); exact rFld rfl rfl) ?_
  refine stg rfl rfl rfl rfl rfl (fun hb => by (have hq := hb; try simp only [zbA] at hq); exact rLdF rfl (evg rfl hb) rfl) ?_
  refine stg rfl rfl rfl rfl rfl (fun hb => by (have hq := hb; try simp only [zbA] at hq); exact rFld rfl rfl) ?_
  refine stg rfl rfl rfl rfl rfl (fun hb => by (have hq := hb; try simp only [zbA] at hq); exact rLdF rfl (evg rfl hb) rfl) ?_
  refine stg rfl rfl rfl rfl rfl (fun hb => by (have hq := hb; try simp only [zbA] at hq); exact rRem rfl (evg rfl hb) (evg rfl hb) (by omega) (by omega)) ?_
  refine stg rfl rfl rfl rfl rfl (fun hb => by (have hq := hb; try simp only [zbA] at hq); exact rEql rfl (evg rfl hb) rfl) ?_
  refine st rfl rfl rfl rfl (rAndB rfl rfl rfl rfl) ?_
  refine pu rfl rfl rfl rfl rfl ?_
  exact tr_ret ⟨trivial, _, _, rfl, ⟨rfl, rfl⟩, CSub.nil _, trivial⟩
end Go.Proofs.YtgnmcoegdogfgaaGreat

set_option linter.unusedSimpArgs false
set_option linter.unusedVariables false
set_option maxRecDepth 100000
namespace Go.Proofs.YtgnmcoegdogfgaaGreat
open Go.RowKit
theorem poly_product_ent : Enters Tryz.prog 120 := enters_of Tryz.func120 (by kernel_rfl) (by kernel_rfl)
theorem poly_product (g : GfM) {p m : Int} {mod : List Int} [hF : IsF p m mod] (hg : GOk g p m mod) (A : Option Addr) (n c : Nat) (a : List Int) (hn : n = a.length) (ha9 : a.length ≤ 1000000) (B : Option Addr) (k d : Nat) (b : List Int) (hk : k = b.length) (hb9 : b.length ≤ 1000000) :
    Pure Tryz.prog 120 #[.pointer (some g.p), .slice A n c, .slice B k d] [gfR g, ro A (ints a), ro B (ints b)] (one (fun v ch => ∃ B cap, v = .slice B (il ((pol a : Po (El p m mod)) * (pol b : Po (El p m mod)))).length cap ∧ ch = ow B 3 cap (ints (il ((pol a : Po (El p m mod)) * (pol b : Po (El p m mod))))))) := by
  have hq2 := hF.q2
  have hla := il_le (p := p) (m := m) (mod := mod) a
  have hlb := il_le (p := p) (m := m) (mod := mod) b
  refine pure_of (args := [.pointer (some g.p), .slice A n c, .slice B k d]) 67 Tryz.func120 rfl rfl rfl poly_product_ent ⟨id, id, id, trivial⟩ (fun w0 => ?_)
  refine tr_seq ?_
  refine tr_region fun _ _ _ => ?_
  refine pu rfl rfl rfl rfl rfl ?_
  refine tr_seq ?_
  refine tr_region fun _ _ _ => ?_
  iterate 2 refine pu rfl rfl rfl rfl rfl ?_
  refine ef rfl rfl (eCall1 rfl rfl rfl (poly_CanonE g hg A n c a hn (by omega)) ⟨rfl, rfl, trivial⟩ ?_) 
  rintro _ _ ⟨B1, c1, rfl, hcap1, rfl⟩
  iterate 2 refine pu rfl rfl rfl rfl rfl ?_
  refine ef rfl rfl (eCall1 rfl rfl rfl (poly_CanonE g hg B k d b hk (by omega)) ⟨rfl, rfl, trivial⟩ ?_) 
  rintro _ _ ⟨B1a, c1a, rfl, hcap1a, rfl⟩
  iterate 2 refine pu rfl rfl rfl rfl rfl ?_
  refine tr_seq ?_
  refine tr_seq ?_
  refine tr_region fun _ _ _ => ?_
  refine pu rfl rfl rfl rfl rfl ?_
  refine st rfl rfl rfl rfl (rLen rfl rfl) ?_
  iterate 2 refine pu rfl rfl rfl rfl rfl ?_
  refine stg rfl rfl rfl rfl rfl (fun hb => by (have hq := hb; try simp only [zbA] at hq); exact rMove rfl rfl) ?_
  refine stg rfl rfl rfl rfl rfl (fun hb => by (have hq := hb; try simp only [zbA] at hq); exact rLen rfl (evg rfl hb)) ?_
  refine stg rfl rfl rfl rfl rfl (fun hb => by (have hq := hb; try simp only [zbA] at hq); exact rEql rfl (evg rfl hb) rfl) ?_
  refine st rfl rfl rfl rfl (rOrB rfl rfl rfl rfl) ?_
  refine tr_cond_bool rfl (fun h2 => ?_) (fun h2 => ?_)
  · try simp only [zbA] at h2
    refine tr_seq ?_
    refine tr_nilI 3 ?_
    refine tr_region fun _ _ _ => ?_
    refine pu rfl rfl rfl rfl rfl ?_
    have h0 : (pol a : Po (El p m mod)) * (pol b : Po (El p m mod)) = 0 := by
      rcases h2 with h | h
      · rw [Po.eq_zero_of_len (f := (pol a : Po (El p m mod))) (by rw [← il_length]; omega), Rg.zero_mul]
      · rw [Po.eq_zero_of_len (f := (pol b : Po (El p m mod))) (by rw [← il_length]; omega), Rg.mul_zero]
    rw [h0, il_zero]
    exact tr_ret ⟨trivial, _, _, rfl, ⟨_, rfl, none, 0, rfl, rfl⟩, cs _ _, trivial, trivial⟩
  · try simp only [zbA] at h2
    refine tr_skip ?_
    refine tr_seq ?_
    refine tr_region fun _ _ _ => ?_
    refine pu rfl rfl rfl rfl rfl ?_
    refine st rfl rfl rfl rfl (rLen rfl rfl) ?_
    refine pu rfl rfl rfl rfl rfl ?_
    refine st rfl rfl rfl rfl (rLen rfl rfl) ?_
    refine st rfl rfl rfl rfl (rAdd rfl rfl rfl (by omega) (by omega)) ?_
    refine st rfl rfl rfl rfl (rSub rfl rfl rfl (by omega) (by omega)) ?_
    refine ef rfl rfl (eMakeI rfl rfl rfl rfl rfl (by omega) (by omega) (by omega) (fun A4 => ?_)) 
    refine pu rfl rfl rfl rfl rfl ?_
    generalize hN : (((il (pol a : Po (El p m mod))).length : Int) + (il (pol b : Po (El p m mod))).length - 1).toNat = N
    refine tr_seq ?_
    refine tr_seq ?_
    refine tr_region fun _ _ _ => ?_
    refine pu rfl rfl rfl rfl rfl ?_
    refine st rfl rfl rfl rfl (rLen rfl rfl) ?_
    refine pu rfl rfl rfl rfl rfl ?_
    refine tr_block ?_
    refine tr_loop2 (fun (i : Int) (o : List Int) => [(7, .slice A4 N N), (1, .slice B1 (il (pol a : Po (El p m mod))).length c1), (2, .slice B1a (il (pol b : Po (El p m mod))).length c1a), (33, .slice B1 (il (pol a : Po (El p m mod))).length c1), (34, .int .i64 (il (pol a : Po (El p m mod))).length), (35, .int .i64 i), (0, .pointer (some g.p)), (6, .slice none 0 0)]) (fun (i : Int) (o : List Int) => [ow A4 3 N (ints o), ow B1a 3 c1a (ints (il (pol b : Po (El p m mod)))), ow B1 3 c1 (ints (il (pol a : Po (El p m mod)))), gfR g, ro A (ints a), ro B (ints b)]) (fun (i : Int) (o : List Int) => (0 ≤ i ∧ i ≤ (il (pol a : Po (El p m mod))).length) ∧ (o.length = N ∧ AllIn (pw p m) o) ∧ (pol o : Po (El p m mod)) = pol ((il (pol a : Po (El p m mod))).take i.toNat) * (pol b : Po (El p m mod))) (fun (i : Int) (o : List Int) => (((il (pol a : Po (El p m mod))).length : Int) - i).toNat) (0) (List.replicate N 0) ⟨rfl, rfl, rfl, rfl, rfl, rfl, rfl, rfl, trivial⟩ (by first | exact cs _ _ | exact CSub.refl _) (⟨⟨by omega, by omega⟩, ⟨by simp, allIn_rep (by omega) _⟩, by rw [pol_rep, Int.toNat_zero, pol_take_zero]; grind⟩) (fun i o hI => ?_)
    obtain ⟨⟨hi0, hi1⟩, ⟨hol, hoi⟩, ho⟩ := hI
    refine tr_seq ?_
    refine tr_region fun _ _ _ => ?_
    refine pu rfl rfl rfl rfl rfl ?_
    refine tr_seq ?_
    refine tr_cond_bool rfl (fun h6 => ?_) (fun h6 => ?_)
    · try simp only [zbA] at h6
      refine tr_skip ?_
      refine tr_seq ?_
      refine tr_block ?_
      refine tr_seq ?_
      refine tr_region fun _ _ _ => ?_
      refine pu rfl rfl rfl rfl rfl ?_
      refine st rfl rfl rfl rfl (rIdxI rfl rfl rfl (by omega) (by omega) (by omega)) ?_
      refine st rfl rfl rfl rfl (rLdI rfl rfl (by omega)) ?_
      iterate 2 refine pu rfl rfl rfl rfl rfl ?_
      refine tr_seq ?_
      refine tr_region fun _ _ _ => ?_
      refine pu rfl rfl rfl rfl rfl ?_
      refine st rfl rfl rfl rfl (rLen rfl rfl) ?_
      refine pu rfl rfl rfl rfl rfl ?_
      refine tr_block ?_
      refine tr_loop2 (fun (j : Int) (o2 : List Int) => [(7, .slice A4 N N), (1, .slice B1 (il (pol a : Po (El p m mod))).length c1), (2, .slice B1a (il (pol b : Po (El p m mod))).length c1a), (40, .slice B1a (il (pol b : Po (El p m mod))).length c1a), (41, .int .i64 (il (pol b : Po (El p m mod))).length), (42, .int .i64 j), (9, .int .i64 ((il (pol a : Po (El p m mod))).getD i.toNat 0)), (0, .pointer (some g.p)), (6, .slice none 0 0), (8, .int .i64 i), (33, .slice B1 (il (pol a : Po (El p m mod))).length c1), (34, .int .i64 (il (pol a : Po (El p m mod))).length), (35, .int .i64 i), (37, .int .i64 i)]) (fun (j : Int) (o2 : List Int) => [ow A4 3 N (ints o2), ow B1a 3 c1a (ints (il (pol b : Po (El p m mod)))), ow B1 3 c1 (ints (il (pol a : Po (El p m mod)))), gfR g, ro A (ints a), ro B (ints b)]) (fun (j : Int) (o2 : List Int) => (0 ≤ j ∧ j ≤ (il (pol b : Po (El p m mod))).length) ∧ (o2.length = N ∧ AllIn (pw p m) o2) ∧ (pol o2 : Po (El p m mod)) = pol ((il (pol a : Po (El p m mod))).take i.toNat) * (pol b : Po (El p m mod)) + Po.mn (el ((il (pol a : Po (El p m mod))).getD i.toNat 0)) i.toNat * pol ((il (pol b : Po (El p m mod))).take j.toNat)) (fun (j : Int) (o2 : List Int) => (((il (pol b : Po (El p m mod))).length : Int) - j).toNat) (0) (o) ⟨rfl, rfl, rfl, rfl, rfl, rfl, rfl, rfl, rfl, rfl, rfl, rfl, rfl, rfl, trivial⟩ (by first | exact cs _ _ | exact CSub.refl _) (⟨⟨by omega, by omega⟩, ⟨hol, hoi⟩, by rw [ho, Int.toNat_zero, pol_take_zero]; grind⟩) (fun j o2 hI => ?_)
      obtain ⟨⟨hj0, hj1⟩, ⟨ho2l, ho2i⟩, ho2⟩ := hI
      refine tr_seq ?_
      refine tr_region fun _ _ _ => ?_
      refine pu rfl rfl rfl rfl rfl ?_
      refine tr_seq ?_
      refine tr_cond_bool rfl (fun h9 => ?_) (fun h9 => ?_)
      · try simp only [zbA] at h9
        refine tr_skip ?_
        refine tr_seq ?_
        refine tr_block ?_
        refine tr_seq ?_
        refine tr_region fun _ _ _ => ?_
        refine pu rfl rfl rfl rfl rfl ?_
        refine st rfl rfl rfl rfl (rIdxI rfl rfl rfl (by omega) (by omega) (by omega)) ?_
        refine st rfl rfl rfl rfl (rLdI rfl rfl (by omega)) ?_
        iterate 2 refine pu rfl rfl rfl rfl rfl ?_
        refine tr_draw [0, 1, 2, 3, 4, 5, 6, 7, 8, 9, 10, 11, 12, 13, 14, 15, 16] [17] mixed (by kernel_rfl) fun _ _ _ => ?_
        iterate 3 refine pu rfl rfl rfl rfl rfl ?_
        refine st rfl rfl rfl rfl (rAdd rfl rfl rfl (by omega) (by omega)) ?_
        iterate 4 refine pu rfl rfl rfl rfl rfl ?_
        refine st rfl rfl rfl rfl (rAdd rfl rfl rfl (by omega) (by omega)) ?_
        refine st rfl rfl rfl rfl (rIdxI rfl rfl rfl (by omega) (by omega) (by omega)) ?_
        refine st rfl rfl rfl rfl (rLdI rfl rfl (by omega)) ?_
        iterate 3 refine pu rfl rfl rfl rfl rfl ?_
        refine ef rfl rfl (eCallV rfl rfl rfl (gf_MulE g hg _ _) ⟨rfl, rfl, rfl, trivial⟩ ?_) 
        refine ef rfl rfl (eCallV rfl rfl rfl (gf_AddE g hg _ _) ⟨rfl, rfl, rfl, trivial⟩ ?_) 
        refine st rfl rfl rfl rfl (rIdxI rfl rfl rfl (by omega) (by omega) (by omega)) ?_
        refine ef rfl rfl (eStI rfl rfl rfl rfl (by omega) ?_) 
        refine tr_region fun _ _ _ => ?_
        refine st rfl rfl rfl rfl (rAdd rfl rfl rfl (by omega) (by omega)) ?_
        refine pu rfl rfl rfl rfl rfl ?_
        refine ⟨j + 1, o2.set (i + j).toNat (el (o2.getD (i + j).toNat 0) + el ((el ((il (pol a : Po (El p m mod))).getD i.toNat 0) * el ((il (pol b : Po (El p m mod))).getD j.toNat 0) : El p m mod)).1 : El p m mod).1, ⟨rfl, rfl, rfl, rfl, rfl, rfl, rfl, rfl, rfl, rfl, rfl, rfl, rfl, rfl, trivial⟩, by first | exact cs _ _ | exact CSub.refl _, ?_⟩
        refine ⟨⟨⟨by omega, by omega⟩, ⟨by simpa using ho2l, ho2i.set (El.bd _) _⟩, ?_⟩, by omega⟩
        rw [pol_set_add (d := (el ((il (pol a : Po (El p m mod))).getD i.toNat 0) * el ((il (pol b : Po (El p m mod))).getD j.toNat 0) : El p m mod)) o2 (by omega) (by rw [el_of, el_of]), ho2, show (j + 1).toNat = j.toNat + 1 by omega, pol_take_succ, show (i + j).toNat = i.toNat + j.toNat by omega]
        have e1 := Po.mn_mul (el ((il (pol a : Po (El p m mod))).getD i.toNat 0) : El p m mod) (el ((il (pol b : Po (El p m mod))).getD j.toNat 0)) i.toNat j.toNat
        grind
      · try simp only [zbA] at h9
        refine tr_exit ?_
        refine tr_region fun _ _ _ => ?_
        refine st rfl rfl rfl rfl (rAdd rfl rfl rfl (by omega) (by omega)) ?_
        refine pu rfl rfl rfl rfl rfl ?_
        refine ⟨i + 1, o2, ⟨rfl, rfl, rfl, rfl, rfl, rfl, rfl, rfl, trivial⟩, by first | exact cs _ _ | exact CSub.refl _, ?_⟩
        have hjn : j = (il (pol b : Po (El p m mod))).length := by omega
        rw [hjn, Int.toNat_natCast, List.take_length, pol_il] at ho2
        refine ⟨⟨⟨by omega, by omega⟩, ⟨ho2l, ho2i⟩, ?_⟩, by omega⟩
        rw [ho2, show (i + 1).toNat = i.toNat + 1 by omega, pol_take_succ]
        grind
    · try simp only [zbA] at h6
      refine tr_exit ?_
      refine tr_seq ?_
      refine tr_region fun _ _ _ => ?_
      iterate 2 refine pu rfl rfl rfl rfl rfl ?_
      have hin : i = (il (pol a : Po (El p m mod))).length := by omega
      rw [hin, Int.toNat_natCast, List.take_length, pol_il] at ho
      have ha0 : (pol a : Po (El p m mod)) ≠ 0 := Po.len_pos_iff.1 (by rw [← il_length]; omega)
      have hb0 : (pol b : Po (El p m mod)) ≠ 0 := Po.len_pos_iff.1 (by rw [← il_length]; omega)
      have hlm := Po.len_mul ha0 hb0
      rw [← il_length, ← il_length, ← il_length] at hlm
      have hoo : o = il ((pol a : Po (El p m mod)) * (pol b : Po (El p m mod))) := by
        rw [← ho, il_self hoi (.inr ?_)]
        have h1 : o.length = Po.len (pol o : Po (El p m mod)) := by rw [ho, ← il_length]; omega
        have h2 : 0 < o.length := by omega
        have h3 := Po.lead_ne (f := (pol o : Po (El p m mod))) (n := o.length - 1) (by omega)
        rw [cf_pol] at h3
        exact fun e => h3 (by rw [e, el_zero])
      have hNN : N = (il ((pol a : Po (El p m mod)) * (pol b : Po (El p m mod)))).length := by omega
      rw [hoo]
      exact tr_ret ⟨trivial, _, _, rfl, ⟨_, rfl, A4, N, by rw [← hNN], rfl⟩, cs _ _, trivial, trivial⟩
section
variable {p m : Int} {mod : List Int} [hF : IsF p m mod]
theorem il_one : il (1 : Po (El p m mod)) = [1] := by
  refine ext_getD (by rw [il_length, Po.len_one]; rfl) fun j => ?_
  rw [il_getD, Po.cf_one]
  cases j with
  | zero => rfl
  | succ j => rw [if_neg (by omega)]; rfl
end
end Go.Proofs.YtgnmcoegdogfgaaGreat

set_option linter.unusedSimpArgs false
set_option linter.unusedVariables false
namespace Go.Proofs.YtgnmcoegdogfgaaGreat
open Go.RowKit
theorem isF_prime {p m : Int} {mod : List Int} (hF : IsF p m mod) : IsF p 1 [] := by
  have h := hF.out.1.1
  have hq : pw p 1 = p := by
    have h3 := pw_succ p (k := 0) (by omega)
    rw [pw_zero, Int.zero_add, Int.one_mul] at h3
    exact h3
  exact ⟨⟨⟨⟨h.p2, h.p9, by omega, by omega, by rw [hq]; exact h.p9, .inl ⟨rfl, rfl⟩, fun z hz => by simp at hz⟩, hF.out.1.2⟩, .inl rfl⟩⟩
theorem pw_one (p : Int) : pw p 1 = p := by
  have h3 := pw_succ p (k := 0) (by omega)
  rw [pw_zero, Int.zero_add, Int.one_mul] at h3
  exact h3
section
variable {p m : Int} {mod : List Int} [hF : IsF p m mod]
theorem zi_pow (z : Int) : ∀ n : Nat, Rg.pow (zi z : El p m mod) n = zi (z ^ n)
  | 0 => by rw [Rg.pow_zero, Int.pow_zero, zi_one]
  | n + 1 => by rw [Rg.pow_succ, zi_pow z n, ← zi_mul, Int.pow_succ]
end
theorem fermat {p m : Int} {mod : List Int} (hF : IsF p m mod) (z : Int) : z ^ p.toNat % p = z % p := by
  haveI := isF_prime hF
  have h := all_pow (zi z : El p 1 [])
  rw [pw_one, zi_pow] at h
  have h2 := congrArg (fun a : El p 1 [] => a.1) h
  simp only [zi_val] at h2
  exact h2
section
variable {K : Type} [Fd K]
theorem pow_top {f : Po K} (hf : Po.Sh f 2) (h1 : Po.cf f 1 = 1) : ∀ n, Po.Sh (Rg.pow f n) (n + 1) ∧ Po.cf (Rg.pow f n) n = 1
  | 0 => ⟨fun j hj => by rw [Rg.pow_zero, Po.cf_one, if_neg (by omega)], by rw [Rg.pow_zero, Po.cf_one, if_pos rfl]⟩
  | n + 1 => by
    have ih := pow_top hf h1 n
    rw [Rg.pow_succ]
    exact ⟨Po.Sh.mul ih.1 hf, by rw [Po.top_mul ih.1 hf, ih.2, h1, Rg.one_mul]⟩
end
section
variable {p m : Int} {mod : List Int} [hF : IsF p m mod]
theorem frob_one (x : El p m mod) : Rg.pow (x + 1) p.toNat = Rg.pow x p.toNat + 1 := by
  have hp := hF.p2
  have h1 := pow_top (K := El p m mod) (f := Po.X + Po.C 1) (fun j hj => by
    have e1 : Po.cf (Po.X : Po (El p m mod)) j = 0 := by show Po.cf (Po.mn 1 1) j = 0; rw [Po.cf_mn, if_neg (by omega)]
    have e2 : Po.cf (Po.C 1 : Po (El p m mod)) j = 0 := by show Po.cf (Po.mn 1 0) j = 0; rw [Po.cf_mn, if_neg (by omega)]
    rw [Po.cf_add, e1, e2, Rg.zero_add]) (by
    have e1 : Po.cf (Po.X : Po (El p m mod)) 1 = 1 := by show Po.cf (Po.mn 1 1) 1 = 1; rw [Po.cf_mn, if_pos rfl]
    have e2 : Po.cf (Po.C 1 : Po (El p m mod)) 1 = 0 := by show Po.cf (Po.mn 1 0) 1 = 0; rw [Po.cf_mn, if_neg (by omega)]
    rw [Po.cf_add, e1, e2, Rg.add_zero]) p.toNat
  have hval : ∀ y : El p m mod, Po.val (Rg.pow (Po.X + Po.C 1) p.toNat - Po.mn 1 p.toNat - 1) y = Rg.pow (y + 1) p.toNat - Rg.pow y p.toNat - 1 := fun y => by
    rw [Po.val_sub, Po.val_sub, Po.val_pow, Po.val_add, Po.val_X, Po.val_C, Po.val_mn, Po.val_one, Rg.one_mul]
  have hsh : Po.Sh (Rg.pow (Po.X + Po.C 1) p.toNat - Po.mn 1 p.toNat - 1 : Po (El p m mod)) p.toNat := fun j hj => by
    rw [Po.cf_sub, Po.cf_sub, Po.cf_mn, Po.cf_one, if_neg (show ¬ j = 0 by omega)]
    by_cases h : j = p.toNat
    · rw [if_pos h, h, h1.2, Rg.sub_self, Rg.sub_self]
    · rw [if_neg h, h1.1 j (by omega), Rg.sub_self, Rg.sub_self]
  have hz : (Rg.pow (Po.X + Po.C 1) p.toNat - Po.mn 1 p.toNat - 1 : Po (El p m mod)) = 0 := Classical.byContradiction fun hne => by
    have h2 := roots_len ((List.range p.toNat).map fun k : Nat => (zi k : El p m mod)) _ ?_ hne ?_
    · rw [List.length_map, List.length_range] at h2
      have := Po.len_le hsh
      omega
    · refine List.pairwise_map.2 ((List.nodup_range (n := p.toNat)).imp_of_mem fun {a b} ha hb hab e => hab ?_)
      have h3 := congrArg (fun y : El p m mod => y.1) e
      simp only [zi_val] at h3
      have ha := List.mem_range.1 ha
      have hb := List.mem_range.1 hb
      rw [Int.emod_eq_of_lt (by omega) (by omega), Int.emod_eq_of_lt (by omega) (by omega)] at h3
      omega
    · intro a ha
      obtain ⟨k, _, rfl⟩ := List.mem_map.1 ha
      have e1 : (zi k : El p m mod) + 1 = zi ((k : Int) + 1) := by rw [zi_add, zi_one]
      have e2 : ∀ z : Int, Rg.pow (zi z : El p m mod) p.toNat = zi z := fun z => by rw [zi_pow]; exact zi_cg (fermat hF z)
      rw [hval, e1, e2, e2, zi_add, zi_one]
      grind
  have := hval x
  rw [hz, Po.val_zero] at this
  grind
theorem frob_p (x y : El p m mod) : Rg.pow (x + y) p.toNat = Rg.pow x p.toNat + Rg.pow y p.toNat := by
  have hp := hF.p2
  by_cases h : y = 0
  · rw [h, Rg.zero_pow (by omega), Rg.add_zero, Rg.add_zero]
  · have e : x = x * Fd.inv y * y := by rw [Rg.mul_assoc, Fd.inv_mul y h, Rg.mul_one]
    have e2 : x + y = (x * Fd.inv y + 1) * y := by rw [Rg.add_mul, ← e, Rg.one_mul]
    rw [e2, Rg.mul_pow, frob_one, Rg.add_mul, Rg.one_mul, ← Rg.mul_pow, ← e]
theorem frob_k (x y : El p m mod) : ∀ k : Nat, Rg.pow (x + y) (p.toNat ^ k) = Rg.pow x (p.toNat ^ k) + Rg.pow y (p.toNat ^ k)
  | 0 => by rw [Nat.pow_zero, Rg.pow_one, Rg.pow_one, Rg.pow_one]
  | k + 1 => by rw [Nat.pow_succ, Rg.pow_mul, Rg.pow_mul, Rg.pow_mul, frob_k x y k, frob_p]
end
structure Hm {K L : Type} [Fd K] [Fd L] (φ : K → L) : Prop where
  add : ∀ x y, φ (x + y) = φ x + φ y
  mul : ∀ x y, φ (x * y) = φ x * φ y
  one : φ 1 = 1
section
variable {K L : Type} [Fd K] [Fd L] {φ : K → L}
theorem Hm.zero (h : Hm φ) : φ 0 = 0 := by
  have h1 := h.add 0 0
  rw [Rg.add_zero] at h1
  have h2 : φ 0 + 0 = φ 0 + φ 0 := by rw [Rg.add_zero]; exact h1
  exact (Rg.add_left_cancel h2).symm
theorem Hm.neg (h : Hm φ) (x : K) : φ (-x) = -φ x := by
  have h1 := h.add (-x) x
  rw [Rg.neg_add, h.zero] at h1
  grind
theorem Hm.sub (h : Hm φ) (x y : K) : φ (x - y) = φ x - φ y := by
  have e : x - y = x + -y := rfl
  rw [e, h.add, h.neg]; rfl
theorem Hm.ne (h : Hm φ) {x : K} (hx : x ≠ 0) : φ x ≠ 0 := fun e => by
  have h1 := h.mul x (Fd.inv x)
  rw [Fd.mul_inv x hx, h.one, e, Rg.zero_mul] at h1
  exact Fd.one_ne (K := L) h1
theorem Hm.inj (h : Hm φ) {x y : K} (e : φ x = φ y) : x = y := Classical.byContradiction fun hn => by
  have h1 : x - y ≠ 0 := fun e => hn (Rg.eq_of_sub e)
  exact h.ne h1 (by rw [h.sub, e, Rg.sub_self])
theorem Hm.pow (h : Hm φ) (x : K) : ∀ n, φ (Rg.pow x n) = Rg.pow (φ x) n
  | 0 => h.one
  | n + 1 => by rw [Rg.pow_succ, Rg.pow_succ, h.mul, h.pow x n]
theorem Hm.sm (h : Hm φ) (f : Nat → K) : ∀ n, φ (Rg.sm n f) = Rg.sm n fun i => φ (f i)
  | 0 => h.zero
  | n + 1 => by rw [Rg.sm_succ, Rg.sm_succ, h.add, h.sm f n]
noncomputable def mapP (φ : K → L) (h : Hm φ) (f : Po K) : Po L := ⟨fun j => φ (Po.cf f j), Po.len f, fun j hj => by show φ (Po.cf f j) = 0; rw [Po.cf_ge hj, h.zero]⟩
theorem cf_mapP (h : Hm φ) (f : Po K) (j : Nat) : Po.cf (mapP φ h f) j = φ (Po.cf f j) := rfl
theorem mapP_add (h : Hm φ) (f g : Po K) : mapP φ h (f + g) = mapP φ h f + mapP φ h g := Po.ext fun j => by rw [Po.cf_add, cf_mapP, cf_mapP, cf_mapP, Po.cf_add, h.add]
theorem mapP_sub (h : Hm φ) (f g : Po K) : mapP φ h (f - g) = mapP φ h f - mapP φ h g := Po.ext fun j => by rw [Po.cf_sub, cf_mapP, cf_mapP, cf_mapP, Po.cf_sub, h.sub]
theorem mapP_mul (h : Hm φ) (f g : Po K) : mapP φ h (f * g) = mapP φ h f * mapP φ h g := Po.ext fun j => by
  rw [cf_mapP, Po.cf_mul, Po.cf_mul, h.sm]
  exact Rg.sm_congr fun i _ => by rw [h.mul, cf_mapP, cf_mapP]
theorem mapP_mn (h : Hm φ) (c : K) (n : Nat) : mapP φ h (Po.mn c n) = Po.mn (φ c) n := Po.ext fun j => by
  rw [cf_mapP, Po.cf_mn, Po.cf_mn]; split
  · rfl
  · exact h.zero
theorem mapP_zero (h : Hm φ) : mapP φ h 0 = 0 := Po.ext fun j => h.zero
theorem mapP_one (h : Hm φ) : mapP φ h 1 = 1 := Po.ext fun j => by
  rw [cf_mapP, Po.cf_one, Po.cf_one]; split
  · exact h.one
  · exact h.zero
theorem mapP_len (h : Hm φ) (f : Po K) : Po.len (mapP φ h f) = Po.len f := by
  rcases Nat.eq_zero_or_pos (Po.len f) with h0 | h0
  · rw [Po.eq_zero_of_len h0, mapP_zero, Po.len_zero, Po.len_zero]
  · obtain ⟨n, hn⟩ : ∃ n, Po.len f = n + 1 := ⟨Po.len f - 1, by omega⟩
    rw [hn]
    exact Po.len_eq (fun j hj => by rw [cf_mapP, Po.cf_ge (by omega), h.zero]) (by rw [cf_mapP]; exact h.ne (Po.lead_ne hn))
theorem mapP_inj (h : Hm φ) {f g : Po K} (e : mapP φ h f = mapP φ h g) : f = g := Po.ext fun j => h.inj (by rw [← cf_mapP h, ← cf_mapP h, e])
theorem mapP_lead (h : Hm φ) (f : Po K) : Po.lead (mapP φ h f) = φ (Po.lead f) := by unfold Po.lead; rw [mapP_len, cf_mapP]
theorem val_mapP (h : Hm φ) (f : Po K) (x : K) : Po.val (mapP φ h f) (φ x) = φ (Po.val f x) := by
  rw [Po.val_eq (n := Po.len f) (by have := Po.len_sh (mapP φ h f); rwa [mapP_len] at this), Po.val_eq (Po.len_sh f), h.sm]
  exact Rg.sm_congr fun i _ => by rw [cf_mapP, h.mul, h.pow]
theorem mapP_dvd (h : Hm φ) {f g : Po K} (hf : f ≠ 0) : mapP φ h f ∣ mapP φ h g ↔ f ∣ g := by
  constructor
  · rintro ⟨k, hk⟩
    have h1 := Po.div_eq g hf
    have h2 := Po.rem_len g hf
    have e := congrArg (mapP φ h) h1
    rw [mapP_add, mapP_mul, hk] at e
    have hf2 : mapP φ h f ≠ 0 := fun e => hf (mapP_inj h (by rw [e, mapP_zero]))
    have h3 := Po.div_uniq (g := mapP φ h f) (q := k) (q' := mapP φ h (Po.quo g f)) (r := 0) (r' := mapP φ h (Po.rem g f)) (by rw [← e, Rg.add_zero, Rg.mul_comm]) (by rw [Po.len_zero, mapP_len]; omega) (by rw [mapP_len, mapP_len]; exact h2)
    have h4 : Po.rem g f = 0 := mapP_inj h (by rw [← h3.2, mapP_zero])
    exact (Po.rem_zero_iff hf).1 h4
  · rintro ⟨k, rfl⟩
    exact ⟨mapP φ h k, mapP_mul h f k⟩
end
section
variable {p m m2 : Int} {mod mod2 : List Int} [hF : IsF p m mod] [hE : IsF p m2 mod2]
def RtP (p m : Int) (mod : List Int) (m2 : Int) (mod2 : List Int) [hE : IsF p m2 mod2] (a : El p m2 mod2) : Prop := Po.val (zp (m.toNat + 1) (fF m.toNat (rl mod)) : Po (El p m2 mod2)) a = 0
omit hF in
theorem zp_add (n : Nat) (u v : Row) : (zp n (u.add v) : Po (El p m2 mod2)) = zp n u + zp n v := Po.ext fun j => by
  rw [Po.cf_add, cf_zp, cf_zp, cf_zp]
  split
  · exact zi_add _ _
  · rw [Rg.zero_add]
omit hF in
theorem zp_sm (n : Nat) (c : Int) (u : Row) : (zp n (Row.sm c u) : Po (El p m2 mod2)) = Po.C (zi c) * zp n u := Po.ext fun j => by
  rw [Po.cf_C_mul, cf_zp, cf_zp]
  split
  · exact zi_mul _ _
  · rw [Rg.mul_zero]
omit hF in
theorem zp_succ (n : Nat) (Q : Row) : (zp (n + 1) Q : Po (El p m2 mod2)) = zp n Q + Po.mn (zi (Q n)) n := Po.ext fun j => by
  rw [Po.cf_add, cf_zp, cf_zp, Po.cf_mn]
  by_cases h2 : j = n
  · rw [if_pos (by omega), if_neg (by omega), if_pos h2, h2, Rg.zero_add]
  · rw [if_neg h2, Rg.add_zero]
    by_cases h3 : j < n
    · rw [if_pos (by omega), if_pos h3]
    · rw [if_neg (by omega), if_neg h3]
omit hF in
theorem ev_tm {M : Nat} (hM : 1 ≤ M) {low : Row} {a : El p m2 mod2} (ha : Po.val (zp (M + 1) (fF M low) : Po (El p m2 mod2)) a = 0) (u : Row) : Po.val (zp M (tm M low u) : Po (El p m2 mod2)) a = a * Po.val (zp M u : Po (El p m2 mod2)) a := by
  have e : (zp M (tm M low u) : Po (El p m2 mod2)) + Po.C (zi (u (M - 1))) * zp (M + 1) (fF M low) = Po.mn 1 1 * zp M u := Po.ext fun j => by
    rw [Po.cf_add, Po.cf_C_mul, Po.cf_mn_mul, cf_zp, cf_zp, cf_zp, Rg.one_mul]
    unfold fF tm sh
    by_cases h0 : j < M
    · simp only [if_pos h0, if_pos (show j < M + 1 by omega)]
      have e1 : ∀ x y : Int, (zi (x - y) : El p m2 mod2) + zi y = zi x := fun x y => by rw [← zi_add]; congr 1; omega
      rw [← zi_mul, e1]
      by_cases h1 : j = 0
      · simp only [if_pos h1, if_pos (show j < 1 by omega), zi_zero]
      · simp only [if_neg h1, if_neg (show ¬ j < 1 by omega), if_pos (show j - 1 < M by omega)]
    · by_cases h1 : j = M
      · simp only [if_neg h0, if_pos (show j < M + 1 by omega), if_pos h1, if_neg (show ¬ j < 1 by omega), if_pos (show j - 1 < M by omega)]
        rw [zi_one, Rg.mul_one, Rg.zero_add, h1]
      · simp only [if_neg h0, if_neg (show ¬ j < M + 1 by omega), if_neg (show ¬ j < 1 by omega), if_neg (show ¬ j - 1 < M by omega)]
        rw [Rg.mul_zero, Rg.zero_add]
  have h1 := congrArg (fun f => Po.val f a) e
  simp only [Po.val_add, Po.val_mul, Po.val_mn, Po.val_C] at h1
  rw [ha, Rg.mul_zero, Rg.add_zero, Rg.pow_one, Rg.one_mul] at h1
  exact h1
omit hF in
theorem ev_pl {M : Nat} (hM : 1 ≤ M) {low : Row} {a : El p m2 mod2} (ha : Po.val (zp (M + 1) (fF M low) : Po (El p m2 mod2)) a = 0) (Q u : Row) : ∀ n, Po.val (zp M (pl (tm M low) n Q u) : Po (El p m2 mod2)) a = Po.val (zp n Q : Po (El p m2 mod2)) a * Po.val (zp M u : Po (El p m2 mod2)) a := by
  have hit : ∀ n, Po.val (zp M (it (tm M low) n u) : Po (El p m2 mod2)) a = Rg.pow a n * Po.val (zp M u : Po (El p m2 mod2)) a := by
    intro n
    induction n with
    | zero => rw [Rg.pow_zero, Rg.one_mul]; rfl
    | succ n ih =>
      show Po.val (zp M (tm M low (it (tm M low) n u)) : Po (El p m2 mod2)) a = _
      rw [ev_tm hM ha, ih, Rg.pow_succ]; grind
  intro n
  induction n with
  | zero =>
    have e1 : (zp M (pl (tm M low) 0 Q u) : Po (El p m2 mod2)) = 0 := Po.ext fun j => by
      rw [cf_zp]
      have : pl (tm M low) 0 Q u j = 0 := rfl
      rw [this, zi_zero]; split <;> rfl
    have e2 : (zp 0 Q : Po (El p m2 mod2)) = 0 := Po.ext fun j => by rw [cf_zp, if_neg (by omega)]; rfl
    rw [e1, e2, Po.val_zero, Rg.zero_mul]
  | succ n ih =>
    have e : pl (tm M low) (n + 1) Q u = (pl (tm M low) n Q u).add (Row.sm (Q n) (it (tm M low) n u)) := rfl
    rw [e, zp_add, zp_sm, Po.val_add, Po.val_mul, Po.val_C, ih, hit, zp_succ, Po.val_add, Po.val_mn, Rg.add_mul, Rg.mul_assoc]
noncomputable def embF (p m : Int) (mod : List Int) (m2 : Int) (mod2 : List Int) [hF : IsF p m mod] [hE : IsF p m2 mod2] (a : El p m2 mod2) (x : El p m mod) : El p m2 mod2 := Po.val (zp m.toNat (dg p m.toNat x.1) : Po (El p m2 mod2)) a
theorem embF_hm {a : El p m2 mod2} (ha : RtP p m mod m2 mod2 a) : Hm (embF p m mod m2 mod2 a) := by
  have hp := hF.p2
  have hm := hF.m1
  have hs := hF.out.1.1
  refine ⟨fun x y => ?_, fun x y => ?_, ?_⟩
  · unfold embF
    rw [add_val, zp_cg _ (addI_cg hp _ _), zp_add, Po.val_add]
  · unfold embF
    rw [mul_val, zp_cg _ (mulI_cg hs _ _)]
    show Po.val (zp m.toNat (pl (tm m.toNat (rl mod)) m.toNat (dg p m.toNat y.1) (dg p m.toNat x.1)) : Po (El p m2 mod2)) a = _
    rw [ev_pl (by omega) ha, Rg.mul_comm]
  · unfold embF
    rw [one_val, dg_one hp (by omega)]
    have e : (zp m.toNat (ee 0) : Po (El p m2 mod2)) = 1 := Po.ext fun j => by
      rw [cf_zp, Po.cf_one]
      unfold ee
      by_cases h : j = 0
      · rw [if_pos (by omega), if_pos h, if_pos h, zi_one]
      · rw [if_neg h, if_neg h, zi_zero]; split <;> rfl
    rw [e, Po.val_one]
end
end Go.Proofs.YtgnmcoegdogfgaaGreat

set_option linter.unusedSimpArgs false
set_option linter.unusedVariables false
namespace Go.Proofs.YtgnmcoegdogfgaaGreat
open Go.RowKit
section
variable {K : Type} [Fd K]
def rootP (rs : List K) : Po K := rs.foldl (fun f r => f * Po.lin r) 1
theorem foldl_lin (f : Po K) : ∀ rs : List K, rs.foldl (fun f r => f * Po.lin r) f = f * rootP rs := by
  intro rs
  induction rs generalizing f with
  | nil => exact (Rg.mul_one f).symm
  | cons r rs ih =>
    show rs.foldl (fun f r => f * Po.lin r) (f * Po.lin r) = f * rs.foldl (fun f r => f * Po.lin r) (1 * Po.lin r)
    rw [ih, ih (1 * Po.lin r), Rg.one_mul, Rg.mul_assoc]
theorem rootP_nil : rootP ([] : List K) = 1 := rfl
theorem rootP_cons (r : K) (rs : List K) : rootP (r :: rs) = Po.lin r * rootP rs := by
  show rs.foldl (fun f r => f * Po.lin r) (1 * Po.lin r) = _
  rw [foldl_lin, Rg.one_mul]
theorem rootP_snoc (rs : List K) (r : K) : rootP (rs ++ [r]) = rootP rs * Po.lin r := by
  unfold rootP; rw [List.foldl_append]; rfl
theorem rootP_perm {a b : List K} (h : a.Perm b) : rootP a = rootP b := by
  induction h with
  | nil => rfl
  | cons r _ ih => rw [rootP_cons, rootP_cons, ih]
  | swap r s l => rw [rootP_cons, rootP_cons, rootP_cons, rootP_cons, ← Rg.mul_assoc, ← Rg.mul_assoc, Rg.mul_comm (Po.lin s)]
  | trans _ _ h1 h2 => exact h1.trans h2
theorem rootP_ne : ∀ rs : List K, rootP rs ≠ 0
  | [] => Po.one_ne
  | r :: rs => by rw [rootP_cons]; exact Po.mul_ne (Po.lin_ne r) (rootP_ne rs)
theorem rootP_len : ∀ rs : List K, Po.len (rootP rs) = rs.length + 1
  | [] => Po.len_one
  | r :: rs => by rw [rootP_cons, Po.len_mul (Po.lin_ne r) (rootP_ne rs), Po.len_lin, rootP_len rs, List.length_cons]; omega
theorem rootP_lead : ∀ rs : List K, Po.lead (rootP rs) = 1
  | [] => by show Po.lead (1 : Po K) = 1; unfold Po.lead; rw [Po.len_one]; rfl
  | r :: rs => by rw [rootP_cons, Po.lead_mul (Po.lin_ne r) (rootP_ne rs), Po.lead_lin, rootP_lead rs, Rg.one_mul]
theorem val_rootP (y : K) : ∀ rs : List K, Po.val (rootP rs) y = 0 ↔ y ∈ rs
  | [] => by rw [rootP_nil, Po.val_one]; exact ⟨fun h => absurd h Fd.one_ne, fun h => by simp at h⟩
  | r :: rs => by
    rw [rootP_cons, Po.val_mul, Po.val_lin, List.mem_cons]
    constructor
    · intro h
      rcases Fd.mul_eq_zero h with h | h
      · exact .inl (Rg.eq_of_sub h)
      · exact .inr ((val_rootP y rs).1 h)
    · rintro (h | h)
      · rw [h, Rg.sub_self, Rg.zero_mul]
      · rw [(val_rootP y rs).2 h, Rg.mul_zero]
theorem rootP_dvd : ∀ (rs : List K) (f : Po K), rs.Nodup → (∀ r ∈ rs, Po.val f r = 0) → rootP rs ∣ f
  | [], f, _, _ => Po.one_dvd f
  | r :: rs, f, hn, h => by
    have hn := List.nodup_cons.1 hn
    obtain ⟨g, hg⟩ := (Po.root_iff f r).1 (h r (List.mem_cons_self ..))
    obtain ⟨k, hk⟩ := rootP_dvd rs g hn.2 (fun a ha => by
      have h1 := h a (List.mem_cons_of_mem _ ha)
      rw [hg, Po.val_mul, Po.val_lin] at h1
      exact (Fd.mul_eq_zero h1).resolve_left (fun e => hn.1 (by have : a = r := Rg.eq_of_sub e; rwa [← this])))
    exact ⟨k, by rw [rootP_cons, hg, hk, Rg.mul_assoc]⟩
structure AOrd (a : K) (n : Nat) : Prop where
  pos : 1 ≤ n
  one : Rg.pow a n = 1
  least : ∀ s, 1 ≤ s → s < n → Rg.pow a s ≠ 1
theorem AOrd.ne {a : K} {n : Nat} (h : AOrd a n) : a ≠ 0 := fun e => by
  have h1 := h.one
  rw [e, Rg.zero_pow h.pos] at h1
  exact Fd.one_ne (K := K) h1.symm
theorem pow_ne' {a : K} (h : a ≠ 0) : ∀ n, Rg.pow a n ≠ 0
  | 0 => Fd.one_ne
  | n + 1 => by rw [Rg.pow_succ]; exact Fd.mul_ne (pow_ne' h n) h
theorem AOrd.mod {a : K} {n : Nat} (h : AOrd a n) (k : Nat) : Rg.pow a (k % n) = Rg.pow a k := by
  have h1 := Nat.div_add_mod k n
  have e : Rg.pow a k = Rg.pow a (n * (k / n) + k % n) := by rw [h1]
  rw [e, Rg.pow_add, Rg.pow_mul, h.one, Rg.one_pow, Rg.one_mul]
theorem AOrd.dvd {a : K} {n : Nat} (h : AOrd a n) {k : Nat} (hk : Rg.pow a k = 1) : n ∣ k := by
  have h1 := h.mod k
  rw [hk] at h1
  have h2 := Nat.mod_lt k (show n > 0 from h.pos)
  refine Nat.dvd_of_mod_eq_zero ?_
  rcases Nat.eq_zero_or_pos (k % n) with h3 | h3
  · exact h3
  · exact absurd h1 (h.least _ h3 h2)
theorem AOrd.inj {a : K} {n : Nat} (h : AOrd a n) {i j : Nat} (hi : i < n) (hj : j < n) (e : Rg.pow a i = Rg.pow a j) : i = j := by
  have key : ∀ i j : Nat, i < j → j < n → Rg.pow a i ≠ Rg.pow a j := fun i j hij hj e => by
    have e2 : Rg.pow a j = Rg.pow a i * Rg.pow a (j - i) := by rw [← Rg.pow_add]; congr 1; omega
    rw [e2] at e
    have h1 : Rg.pow a i * 1 = Rg.pow a i * Rg.pow a (j - i) := by rw [Rg.mul_one]; exact e
    exact h.least (j - i) (by omega) (by omega) (Fd.mul_left_cancel (pow_ne' h.ne i) h1).symm
  rcases Nat.lt_trichotomy i j with h1 | h1 | h1
  · exact absurd e (key i j h1 hj)
  · exact h1
  · exact absurd e.symm (key j i h1 hi)
end
section
variable {K L : Type} [Fd K] [Fd L] {φ : K → L}
theorem mapP_rootP (h : Hm φ) : ∀ rs : List K, mapP φ h (rootP rs) = rootP (rs.map φ)
  | [] => mapP_one h
  | r :: rs => by
    rw [rootP_cons, mapP_mul, mapP_rootP h rs, List.map_cons, rootP_cons]
    congr 1
    have e1 : (Po.lin r : Po K) = Po.mn 1 1 - Po.mn r 0 := rfl
    have e2 : (Po.lin (φ r) : Po L) = Po.mn 1 1 - Po.mn (φ r) 0 := rfl
    rw [e1, e2, mapP_sub, mapP_mn, mapP_mn, h.one]
end
section
variable {p m m2 : Int} {mod mod2 : List Int} [hF : IsF p m mod] [hE : IsF p m2 mod2]
omit hF in
theorem frob_hm (k : Nat) : Hm (fun y : El p m2 mod2 => Rg.pow y (p.toNat ^ k)) := ⟨fun x y => frob_k x y k, fun x y => Rg.mul_pow _ _ _, Rg.one_pow _⟩
theorem pw_nat (hp : 0 ≤ p) (m : Int) : (pw p m).toNat = p.toNat ^ m.toNat := by
  unfold pw
  obtain ⟨a, ha⟩ := Int.eq_ofNat_of_zero_le hp
  rw [ha, ← Int.natCast_pow, Int.toNat_natCast, Int.toNat_natCast]
theorem fixed_img {φ : El p m mod → El p m2 mod2} (h : Hm φ) {y : El p m2 mod2} (hy : Rg.pow y (pw p m).toNat = y) : ∃ x, φ x = y := by
  have hq := hF.q2
  refine Classical.byContradiction fun hno => ?_
  have hz := elNz_nz hF.out
  have h1 := roots_len (y :: (0 :: elNz p m mod).map φ) (Po.mn 1 (pw p m).toNat - Po.mn 1 1 : Po (El p m2 mod2)) ?_ ?_ ?_
  · rw [List.length_cons, List.length_map, List.length_cons, elNz_len] at h1
    have h2 := Po.len_le (f := (Po.mn 1 (pw p m).toNat - Po.mn 1 1 : Po (El p m2 mod2))) (n := (pw p m).toNat + 1) ((Po.mn_sh _ _).sub ((Po.mn_sh _ _).mono (by omega)))
    omega
  · refine List.nodup_cons.2 ⟨fun hm => ?_, List.pairwise_map.2 ((List.nodup_cons.2 ⟨fun h0 => (hz.mem 0).1 h0 rfl, hz.nd⟩ : (0 :: elNz p m mod).Nodup).imp fun hab e => hab (h.inj e))⟩
    obtain ⟨x, _, hx⟩ := List.mem_map.1 hm
    exact hno ⟨x, hx⟩
  · intro e
    have h2 := congrArg (fun f => Po.cf f 1) e
    simp only [Po.cf_sub, Po.cf_mn, Po.cf_zero] at h2
    rw [if_neg (show ¬ 1 = (pw p m).toNat by omega), if_pos trivial, Rg.zero_sub] at h2
    exact Fd.one_ne (K := El p m2 mod2) (Rg.neg_eq_zero h2)
  · intro a ha
    rw [Po.val_sub, Po.val_mn, Po.val_mn, Rg.one_mul, Rg.one_mul, Rg.pow_one]
    rcases List.mem_cons.1 ha with rfl | ha
    · rw [hy, Rg.sub_self]
    · obtain ⟨x, _, rfl⟩ := List.mem_map.1 ha
      rw [← h.pow, all_pow, Rg.sub_self]
theorem fixed_poly {φ : El p m mod → El p m2 mod2} (h : Hm φ) {f : Po (El p m2 mod2)} (hf : ∀ j, Rg.pow (Po.cf f j) (pw p m).toNat = Po.cf f j) : ∃ g, mapP φ h g = f := by
  have hx : ∀ j, ∃ x, φ x = Po.cf f j := fun j => fixed_img h (hf j)
  refine ⟨⟨fun j => Classical.choose (hx j), Po.len f, fun j hj => ?_⟩, Po.ext fun j => Classical.choose_spec (hx j)⟩
  refine h.inj ?_
  rw [Classical.choose_spec (hx j), Po.cf_ge hj, h.zero]
theorem stp_one (q n i : Int) : stp q n 1 i = i * q % n := rfl
theorem cls_step {q n : Int} (hn : 1 ≤ n) {zs : List Int} {i : Int} (hi : i ∈ clsL q n zs) : i * q % n ∈ clsL q n zs := by
  obtain ⟨hb, z, hz, ho⟩ := (mem_clsL hn).1 hi
  have h1 := stp_bd (q := q) hn hb 1
  rw [stp_one] at h1
  exact (mem_clsL hn).2 ⟨h1, z, hz, ho.trans ⟨1, (stp_one q n i).symm⟩⟩
theorem cls_perm {q n : Int} (hn : 1 ≤ n) (hg : Int.gcd q n = 1) (zs : List Int) : ((clsL q n zs).map fun i => i * q % n).Perm (clsL q n zs) := by
  have hnd : (clsL q n zs).Nodup := (clsL_lt q n zs).imp fun h e => by omega
  refine Fd.perm_of_sub _ _ ?_ ?_ ?_
  · refine List.pairwise_map.2 (hnd.imp_of_mem fun {a b} ha hb hab e => hab ?_)
    exact mul_inj_mod hg ((mem_clsL hn).1 ha).1 ((mem_clsL hn).1 hb).1 e
  · intro a ha
    obtain ⟨i, hi, rfl⟩ := List.mem_map.1 ha
    exact cls_step hn hi
  · rw [List.length_map]; exact Nat.le_refl _
noncomputable def clsR (a : El p m2 mod2) (C : List Int) : List (El p m2 mod2) := C.map fun i => Rg.pow a i.toNat
theorem ord_gcd (hF : IsF p m mod) {a : El p m2 mod2} {n : Int} (ha : AOrd a n.toNat) (hd : m2 % m = 0) : Int.gcd (pw p m) n = 1 := by
  have hq := hF.q2
  have hq2 := hE.q2
  have hn := ha.pos
  obtain ⟨k, hk⟩ := pw_dvd hF hE hd
  have hk1 : k ≠ 0 := fun e => by rw [e, Nat.pow_zero] at hk; omega
  have h1 := ha.dvd (k := (pw p m2 - 1).toNat) (pow_last ha.ne)
  have h2 : (Int.gcd (pw p m) n) = Nat.gcd (pw p m).toNat n.toNat := by
    obtain ⟨x, hx⟩ := Int.eq_ofNat_of_zero_le (show 0 ≤ pw p m by omega)
    obtain ⟨y, hy⟩ := Int.eq_ofNat_of_zero_le (show 0 ≤ n by omega)
    rw [hx, hy]; rfl
  rw [h2]
  have h3 : Nat.gcd (pw p m).toNat n.toNat ∣ (pw p m2 - 1).toNat := Nat.dvd_trans (Nat.gcd_dvd_right _ _) h1
  have h4 : Nat.gcd (pw p m).toNat n.toNat ∣ (pw p m2).toNat := by
    rw [hk]
    obtain ⟨j, rfl⟩ := Nat.exists_eq_succ_of_ne_zero hk1
    rw [Nat.pow_succ]
    exact Nat.dvd_trans (Nat.gcd_dvd_left _ _) (Nat.dvd_mul_left _ _)
  have h5 : (pw p m2).toNat = (pw p m2 - 1).toNat + 1 := by omega
  rw [h5] at h4
  exact Nat.dvd_one.1 ((Nat.dvd_add_right h3).1 h4)
theorem gen_down {φ : El p m mod → El p m2 mod2} (h : Hm φ) {a : El p m2 mod2} {n : Int} (ha : AOrd a n.toNat) (hd : m2 % m = 0) (zs : List Int) : ∃ g, mapP φ h g = rootP (clsR a (clsL (pw p m) n zs)) := by
  have hp := hF.p2
  have hn := ha.pos
  have hq := hF.q2
  refine fixed_poly h fun j => ?_
  have h1 := mapP_rootP (frob_hm (p := p) (m2 := m2) (mod2 := mod2) m.toNat) (clsR a (clsL (pw p m) n zs))
  have h2 : (clsR a (clsL (pw p m) n zs)).map (fun y : El p m2 mod2 => Rg.pow y (p.toNat ^ m.toNat)) = clsR a ((clsL (pw p m) n zs).map fun i => i * pw p m % n) := by
    unfold clsR
    rw [List.map_map, List.map_map]
    refine List.map_congr_left fun i hi => ?_
    have hb := ((mem_clsL (show 1 ≤ n by omega)).1 hi).1
    show Rg.pow (Rg.pow a i.toNat) (p.toNat ^ m.toNat) = Rg.pow a (i * pw p m % n).toNat
    rw [← Rg.pow_mul, ← pw_nat (show 0 ≤ p by omega) m, ← ha.mod (i.toNat * (pw p m).toNat)]
    congr 1
    obtain ⟨x, hx⟩ := Int.eq_ofNat_of_zero_le (show 0 ≤ pw p m by omega)
    obtain ⟨y, hy⟩ := Int.eq_ofNat_of_zero_le (show 0 ≤ n by omega)
    obtain ⟨z, hz⟩ := Int.eq_ofNat_of_zero_le hb.1
    rw [hx, hy, hz, ← Int.natCast_mul, ← Int.natCast_emod]
    simp only [Int.toNat_natCast]
  have h3 := rootP_perm ((cls_perm (show 1 ≤ n by omega) (ord_gcd hF ha hd) zs).map fun i => Rg.pow a i.toNat)
  rw [h2] at h1
  have h4 : clsR a ((clsL (pw p m) n zs).map fun i => i * pw p m % n) = ((clsL (pw p m) n zs).map fun i => i * pw p m % n).map fun i => Rg.pow a i.toNat := rfl
  rw [h4, h3] at h1
  have h5 := congrArg (fun f => Po.cf f j) h1
  simp only [cf_mapP] at h5
  rw [pw_nat (show 0 ≤ p by omega) m]
  exact h5
end
end Go.Proofs.YtgnmcoegdogfgaaGreat

set_option linter.unusedSimpArgs false
set_option linter.unusedVariables false
namespace Go.Proofs.YtgnmcoegdogfgaaGreat
open Go.RowKit
def idxI (l : List Int) (x : Int) : Int := if x ∈ l then (l.idxOf x : Int) else -1
theorem idxI_of {l : List Int} {x : Int} {k : Nat} (hk : k < l.length) (h : l.getD k 0 = x) (hu : ∀ j, j < k → l.getD j 0 ≠ x) : idxI l x = k := by
  have hx : l[k] = x := by rw [List.getD_eq_getElem?_getD, List.getElem?_eq_getElem hk] at h; exact h
  have hm : x ∈ l := hx ▸ List.getElem_mem hk
  unfold idxI
  rw [if_pos hm]
  have h1 := List.idxOf_lt_length_iff.2 hm
  have h2 : l[l.idxOf x] = x := List.getElem_idxOf h1
  have h3 : l.idxOf x ≤ k := by
    rw [← hx]
    refine Nat.le_of_not_lt fun hlt => ?_
    have := List.not_of_lt_findIdx (p := (· == l[k])) (xs := l) hlt
    simp at this
  rcases Nat.lt_or_ge (l.idxOf x) k with h4 | h4
  · refine absurd ?_ (hu _ h4)
    rw [List.getD_eq_getElem?_getD, List.getElem?_eq_getElem h1]; exact h2
  · have : l.idxOf x = k := by omega
    rw [this]
section
variable {p m m2 : Int} {mod mod2 : List Int} [hF : IsF p m mod] [hE : IsF p m2 mod2]
theorem zp_mod (hm : 2 ≤ m) : (zp (m.toNat + 1) (fF m.toNat (rl mod)) : Po (El p m2 mod2)) = pol (mod ++ [1]) := by
  have hp := hF.p2
  have hs := hF.out.1.1
  have hml : mod.length = m.toNat := by
    rcases hs.low with h | h
    · omega
    · omega
  have e : fF m.toNat (rl mod) = rl (mod ++ [1]) := by rw [← hml]; exact fF_rl.symm
  rw [e]
  refine Po.ext fun j => ?_
  rw [cf_zp, cf_pol]
  by_cases hj : j < m.toNat + 1
  · rw [if_pos hj]
    have hb : 0 ≤ (mod ++ [1]).getD j 0 ∧ (mod ++ [1]).getD j 0 < p := by
      have hin : AllIn p (mod ++ [1]) := fun z hz => by
        rcases List.mem_append.1 hz with h | h
        · exact hs.ent z h
        · rw [List.mem_singleton.1 h]; omega
      exact hin.get (by omega) j
    exact zi_el hb.1 hb.2
  · rw [if_neg hj, getD_out (by rw [List.length_append]; simp; omega), el_zero]
theorem embR_rt (hd : m2 % m = 0) : RtP p m mod m2 mod2 (el (embR p m2 mod2 m mod)) := by
  have hm1 := hF.m1
  unfold RtP
  by_cases hm : m = 1
  · have hrt : IsRt p m2 mod2 m mod 0 := ⟨by omega, by have := hE.q2; omega, fun _ => rfl, fun h => by omega, fun h => by omega⟩
    have hmod : mod = [] := by
      rcases hF.out.1.1.low with h | h
      · exact h.2
      · omega
    rw [hrt.eq hm1, el_zero]
    have e : (zp (m.toNat + 1) (fF m.toNat (rl mod)) : Po (El p m2 mod2)) = Po.mn 1 1 := Po.ext fun j => by
      rw [cf_zp, Po.cf_mn, hmod]
      have h1 : m.toNat = 1 := by omega
      rw [h1]
      unfold fF
      by_cases h0 : j = 0
      · subst h0
        rw [if_pos (by omega), if_pos (by omega), if_neg (by omega)]; exact zi_zero
      · by_cases h2 : j = 1
        · rw [if_pos (by omega), if_neg (by omega), if_pos h2, if_pos h2, zi_one]
        · rw [if_neg (by omega), if_neg h2]
    rw [e, Po.val_mn, Rg.pow_one, Rg.mul_zero]
  · obtain ⟨_, h⟩ := rt_of_head (p := p) (m := m) (mod := mod) (m2 := m2) (mod2 := mod2) (by omega) hd rfl
    rw [zp_mod (by omega), h.eq hm1]
    exact h.root (by omega)
noncomputable def phi (p m : Int) (mod : List Int) (m2 : Int) (mod2 : List Int) [hF : IsF p m mod] [hE : IsF p m2 mod2] : El p m mod → El p m2 mod2 := embF p m mod m2 mod2 (el (embR p m2 mod2 m mod))
theorem phi_hm (hd : m2 % m = 0) : Hm (phi p m mod m2 mod2) := embF_hm (embR_rt hd)
theorem imL_phi (x : El p m mod) : (imL p m2 mod2 m (embR p m2 mod2 m mod)).getD x.1.toNat 0 = (phi p m mod m2 mod2 x).1 := by
  have hp := hF.p2
  have hxb := x.2
  rw [imL_get _ _ (by omega), Int.toNat_of_nonneg hxb.1]
  unfold phi embF
  congr 2
  refine Po.ext fun j => ?_
  rw [cf_zp, cf_pol]
  have hdl := digs_len p m.toNat x.1
  by_cases hj : j < m.toNat
  · rw [if_pos hj]
    have hb := (digs_in (p := p) (by omega) m.toNat x.1).get (by omega) j
    exact (zi_el hb.1 hb.2).symm
  · rw [if_neg hj, getD_out (by omega), el_zero]
theorem imL_idx (hd : m2 % m = 0) (x : El p m mod) : idxI (imL p m2 mod2 m (embR p m2 mod2 m mod)) (phi p m mod m2 mod2 x).1 = x.1 := by
  have hxb := x.2
  have h := idxI_of (l := imL p m2 mod2 m (embR p m2 mod2 m mod)) (k := x.1.toNat) (by rw [imL_length]; omega) (imL_phi (mod := mod) x) (fun j hj e => by
    have h1 := imL_phi (mod := mod) (m2 := m2) (mod2 := mod2) (⟨(j : Int), by omega, by omega⟩ : El p m mod)
    have h2 : (j : Int).toNat = j := Int.toNat_natCast j
    simp only [h2] at h1
    rw [e] at h1
    have h3 := (phi_hm (p := p) (m := m) (mod := mod) (mod2 := mod2) hd).inj (El.ext h1)
    have h4 := congrArg (fun z : El p m mod => z.1) h3
    simp only at h4
    omega)
  rw [h, Int.toNat_of_nonneg hxb.1]
omit hF in
theorem root_ord {n : Int} (hn : 1 ≤ n) (h : rootI p m2 mod2 n ≠ 0) : AOrd (el (rootI p m2 mod2 n) : El p m2 mod2) n.toNat := by
  have hr : RootI p m2 mod2 n (rootI p m2 mod2 n) := by
    by_cases hx : ∃ r, RootI p m2 mod2 n r
    · obtain ⟨r, hr⟩ := hx
      rw [hr.eq]; exact hr
    · unfold rootI at h
      rw [dif_neg hx] at h
      exact absurd rfl h
  rcases hr with ⟨h1, _⟩ | ⟨h1, h2, h3, _⟩
  · exact absurd h1 h
  · obtain ⟨t, ht, _⟩ := ord_ex hE.out (y := rootI p m2 mod2 n) ⟨by omega, h2⟩
    have h4 := ht.eq
    have h5 : t = n.toNat := by omega
    subst h5
    have hpw : ∀ s, (Rg.pow (el (rootI p m2 mod2 n) : El p m2 mod2) s).1 = pwI p m2 mod2 (rootI p m2 mod2 n) s := fun s => by
      have h6 := pow_val hE.out (el (rootI p m2 mod2 n)) s
      rw [Fd.pow_eq, el_in ⟨by omega, h2⟩] at h6
      exact h6
    refine ⟨ht.pos, El.ext (by rw [hpw, ht.one]; rfl), fun s h6 h7 e => ht.least s h6 h7 ?_⟩
    rw [← hpw, e]; rfl
omit hF in
theorem clsR_nodup {a : El p m2 mod2} {n : Int} (ha : AOrd a n.toNat) {q : Int} (zs : List Int) : (clsR a (clsL q n zs)).Nodup := by
  have hn := ha.pos
  refine List.pairwise_map.2 (((clsL_lt q n zs).imp fun h e => by omega : (clsL q n zs).Nodup).imp_of_mem fun {x y} hx hy hxy e => hxy ?_)
  have h1 := ((mem_clsL (show 1 ≤ n by omega)).1 hx).1
  have h2 := ((mem_clsL (show 1 ≤ n by omega)).1 hy).1
  have := ha.inj (i := x.toNat) (j := y.toNat) (by omega) (by omega) e
  omega
omit hF in
theorem val_xn1 (n : Nat) (y : El p m2 mod2) : Po.val (xn1 n : Po (El p m2 mod2)) y = Rg.pow y n - 1 := by unfold xn1; rw [Po.val_sub, Po.val_mn, Po.val_one, Rg.one_mul]
omit hF in
theorem clsR_dvd {a : El p m2 mod2} {n : Int} (ha : AOrd a n.toNat) {q : Int} (zs : List Int) : rootP (clsR a (clsL q n zs)) ∣ xn1 n.toNat := by
  refine rootP_dvd _ _ (clsR_nodup ha zs) fun r hr => ?_
  obtain ⟨i, _, rfl⟩ := List.mem_map.1 hr
  rw [val_xn1, ← Rg.pow_mul, Nat.mul_comm, Rg.pow_mul, ha.one, Rg.one_pow, Rg.sub_self]
theorem mapP_xn1 {φ : El p m mod → El p m2 mod2} (h : Hm φ) (n : Nat) : mapP φ h (xn1 n) = xn1 n := by
  unfold xn1; rw [mapP_sub, mapP_mn, mapP_one, h.one]
theorem frz_gen (hd : m2 % m = 0) {a : El p m2 mod2} {n : Int} (ha : AOrd a n.toNat) (zs : List Int) : ∃ g : Po (El p m mod), mapP (phi p m mod m2 mod2) (phi_hm hd) g = rootP (clsR a (clsL (pw p m) n zs)) ∧ g ∣ xn1 n.toNat ∧ Po.lead g = 1 ∧ (il (rootP (clsR a (clsL (pw p m) n zs)))).map (idxI (imL p m2 mod2 m (embR p m2 mod2 m mod))) = il g := by
  have hh := phi_hm (p := p) (m := m) (mod := mod) (mod2 := mod2) hd
  obtain ⟨g, hg⟩ := gen_down hh ha hd zs
  have hg0 : g ≠ 0 := fun e => rootP_ne (clsR a (clsL (pw p m) n zs)) (by rw [← hg, e, mapP_zero])
  refine ⟨g, hg, (mapP_dvd hh hg0).1 (by rw [hg, mapP_xn1]; exact clsR_dvd ha zs), hh.inj (by rw [← mapP_lead hh, hg, rootP_lead, hh.one]), ?_⟩
  refine ext_getD (by rw [List.length_map, il_length, il_length, ← hg, mapP_len]) fun j => ?_
  rw [il_getD]
  by_cases hj : j < Po.len g
  · have h1 : j < (il (rootP (clsR a (clsL (pw p m) n zs)))).length := by rw [il_length, ← hg, mapP_len]; exact hj
    rw [List.getD_eq_getElem?_getD, List.getElem?_map, List.getElem?_eq_getElem h1]
    have h2 : (il (rootP (clsR a (clsL (pw p m) n zs))))[j] = (phi p m mod m2 mod2 (Po.cf g j)).1 := by
      have h3 := il_getD (rootP (clsR a (clsL (pw p m) n zs))) j
      have h4 : Po.cf (rootP (clsR a (clsL (pw p m) n zs))) j = phi p m mod m2 mod2 (Po.cf g j) := by rw [← hg]; rfl
      rw [List.getD_eq_getElem?_getD, List.getElem?_eq_getElem h1, h4] at h3
      exact h3
    show idxI _ ((il (rootP (clsR a (clsL (pw p m) n zs))))[j]) = _
    rw [h2, imL_idx hd]
  · rw [getD_out (by rw [List.length_map, il_length, ← hg, mapP_len]; omega), Po.cf_ge (by omega)]; rfl
theorem gcd_self_dvd {K : Type} [Fd K] {g f : Po K} (h : g ∣ f) (hl : Po.lead g = 1) (hg : g ≠ 0) : Po.gcd g f = g :=
  Po.monic_eq (Po.gcd_is g f).left ((Po.gcd_is g f).great (Po.dvd_refl g) h) (Po.gcd_monic (.inl hg)) hl
end
end Go.Proofs.YtgnmcoegdogfgaaGreat

set_option linter.unusedSimpArgs false
set_option linter.unusedVariables false
namespace Go.Proofs.YtgnmcoegdogfgaaGreat
open Go.RowKit
section
variable {p m m2 : Int} {mod mod2 : List Int} [hF : IsF p m mod] [hE : IsF p m2 mod2]
theorem map_phi (hd : m2 % m = 0) {xs : List Int} (hx : AllIn (pw p m) xs) : (pol (xs.map fun y : Int => (imL p m2 mod2 m (embR p m2 mod2 m mod)).getD y.toNat 0) : Po (El p m2 mod2)) = mapP (phi p m mod m2 mod2) (phi_hm hd) (pol xs) := Po.ext fun j => by
  rw [cf_mapP, cf_pol, cf_pol]
  by_cases hj : j < xs.length
  · have hb := hx.get (by have := hF.q2; omega) j
    have h1 := imL_phi (mod := mod) (m2 := m2) (mod2 := mod2) (el (xs.getD j 0) : El p m mod)
    rw [el_in hb] at h1
    rw [List.getD_eq_getElem?_getD, List.getElem?_map, List.getElem?_eq_getElem hj]
    have hxe : xs.getD j 0 = xs[j] := by rw [List.getD_eq_getElem?_getD, List.getElem?_eq_getElem hj]; rfl
    have h2 : (imL p m2 mod2 m (embR p m2 mod2 m mod)).getD (xs[j]).toNat 0 = (phi p m mod m2 mod2 (el (xs.getD j 0))).1 := by
      rw [← hxe]; exact h1
    show (el ((imL p m2 mod2 m (embR p m2 mod2 m mod)).getD (xs[j]).toNat 0) : El p m2 mod2) = _
    rw [h2, el_of]
  · rw [getD_out (by rw [List.length_map]; omega), getD_out (l := xs) (by omega), el_zero, el_zero, (phi_hm hd).zero]
theorem val_frob (hd : m2 % m = 0) (f : Po (El p m mod)) (y : El p m2 mod2) : Po.val (mapP (phi p m mod m2 mod2) (phi_hm hd) f) (Rg.pow y (pw p m).toNat) = Rg.pow (Po.val (mapP (phi p m mod m2 mod2) (phi_hm hd) f) y) (pw p m).toNat := by
  have hp := hF.p2
  have hh := phi_hm (p := p) (m := m) (mod := mod) (m2 := m2) (mod2 := mod2) hd
  have hs := frob_hm (p := p) (m2 := m2) (mod2 := mod2) m.toNat
  have h1 := val_mapP hs (mapP (phi p m mod m2 mod2) hh f) y
  have h2 : mapP _ hs (mapP (phi p m mod m2 mod2) hh f) = mapP (phi p m mod m2 mod2) hh f := Po.ext fun j => by
    rw [cf_mapP, cf_mapP]
    show Rg.pow (phi p m mod m2 mod2 (Po.cf f j)) (p.toNat ^ m.toNat) = _
    rw [← pw_nat (show 0 ≤ p by omega) m, ← hh.pow, all_pow]
  rw [h2] at h1
  rw [pw_nat (show 0 ≤ p by omega) m]
  exact h1
theorem orb_zero (hd : m2 % m = 0) {a : El p m2 mod2} {n : Int} (ha : AOrd a n.toNat) (f : Po (El p m mod)) {z : Int} (hz : 0 ≤ z ∧ z < n) (h0 : Po.val (mapP (phi p m mod m2 mod2) (phi_hm hd) f) (Rg.pow a z.toNat) = 0) : ∀ k, Po.val (mapP (phi p m mod m2 mod2) (phi_hm hd) f) (Rg.pow a (stp (pw p m) n k z).toNat) = 0
  | 0 => h0
  | k + 1 => by
    have hq := hF.q2
    have hn := ha.pos
    have hb := stp_bd (q := pw p m) (show 1 ≤ n by omega) hz k
    have ih := orb_zero hd ha f hz h0 k
    have e : Rg.pow a (stp (pw p m) n (k + 1) z).toNat = Rg.pow (Rg.pow a (stp (pw p m) n k z).toNat) (pw p m).toNat := by
      show Rg.pow a (stp (pw p m) n k z * pw p m % n).toNat = _
      rw [← Rg.pow_mul, ← ha.mod ((stp (pw p m) n k z).toNat * (pw p m).toNat)]
      congr 1
      obtain ⟨x, hx⟩ := Int.eq_ofNat_of_zero_le (show 0 ≤ pw p m by omega)
      obtain ⟨y, hy⟩ := Int.eq_ofNat_of_zero_le (show 0 ≤ n by omega)
      obtain ⟨t, ht⟩ := Int.eq_ofNat_of_zero_le hb.1
      rw [hx, hy, ← hx]
      rw [hx] at ht ⊢
      rw [hy] at ht
      rw [ht, ← Int.natCast_mul, ← Int.natCast_emod]
      simp only [Int.toNat_natCast]
    rw [e, val_frob hd, ih, Rg.zero_pow (by omega)]
theorem gen_dvd (hd : m2 % m = 0) {a : El p m2 mod2} {n : Int} (ha : AOrd a n.toNat) {zs : List Int} {g : Po (El p m mod)} (hg : mapP (phi p m mod m2 mod2) (phi_hm hd) g = rootP (clsR a (clsL (pw p m) n zs))) (f : Po (El p m mod)) :
    g ∣ f ↔ ∀ z ∈ zs, Po.val (mapP (phi p m mod m2 mod2) (phi_hm hd) f) (Rg.pow a (z % n).toNat) = 0 := by
  have hn := ha.pos
  have hh := phi_hm (p := p) (m := m) (mod := mod) (m2 := m2) (mod2 := mod2) hd
  have hg0 : g ≠ 0 := fun e => rootP_ne (clsR a (clsL (pw p m) n zs)) (by rw [← hg, e, mapP_zero])
  rw [← mapP_dvd hh hg0, hg]
  constructor
  · rintro ⟨k, hk⟩ z hz
    have hzb : 0 ≤ z % n ∧ z % n < n := ⟨Int.emod_nonneg _ (by omega), Int.emod_lt_of_pos _ (by omega)⟩
    rw [hk, Po.val_mul, (val_rootP _ _).2, Rg.zero_mul]
    exact List.mem_map.2 ⟨z % n, (mem_clsL (show 1 ≤ n by omega)).2 ⟨hzb, z, hz, Orb.refl _ _ _⟩, rfl⟩
  · intro h
    refine rootP_dvd _ _ (clsR_nodup ha zs) fun r hr => ?_
    obtain ⟨i, hi, rfl⟩ := List.mem_map.1 hr
    obtain ⟨_, z, hz, k, hk⟩ := (mem_clsL (show 1 ≤ n by omega)).1 hi
    have hzb : 0 ≤ z % n ∧ z % n < n := ⟨Int.emod_nonneg _ (by omega), Int.emod_lt_of_pos _ (by omega)⟩
    show Po.val _ (Rg.pow a i.toNat) = 0
    rw [hk]
    exact orb_zero hd ha f hzb (h z hz) k
theorem zer_cls (hd : m2 % m = 0) {n : Int} (hn1 : 1 ≤ n) (hr : rootI p m2 mod2 n ≠ 0) {zs : List Int} {g : Po (El p m mod)} (hg : mapP (phi p m mod m2 mod2) (phi_hm hd) g = rootP (clsR (el (rootI p m2 mod2 n)) (clsL (pw p m) n zs))) (hgx : g ∣ xn1 n.toNat) (hgl : Po.lead g = 1) {rs : List RowM} (hC : CdOf p m mod n.toNat rs (CyW n.toNat g)) :
    zerL p m2 mod2 (imL p m2 mod2 m (embR p m2 mod2 m mod)) rs (rootI p m2 mod2 n) n = clsL (pw p m) n zs ∧ rs.length + (clsL (pw p m) n zs).length = n.toNat := by
  have ha := root_ord (p := p) (m2 := m2) (mod2 := mod2) hn1 hr
  have hh := phi_hm (p := p) (m := m) (mod := mod) (m2 := m2) (mod2 := mod2) hd
  have hn : 1 ≤ n.toNat := by omega
  have hx := xn1_ne (p := p) (m := m) (mod := mod) hn
  have hg0 : g ≠ 0 := fun e => by rw [e] at hgx; exact hx (Po.zero_dvd hgx)
  have hgn : Po.len g = (clsL (pw p m) n zs).length + 1 := by rw [← mapP_len hh, hg, rootP_len]; unfold clsR; rw [List.length_map]
  have hcl := clsL_length (pw p m) n zs
  constructor
  · unfold zerL clsL
    refine List.filter_congr fun i hi => ?_
    have hib := mem_upI.1 hi
    have key : zerB p m2 mod2 (imL p m2 mod2 m (embR p m2 mod2 m mod)) rs (rootI p m2 mod2 n) i = true ↔ i ∈ clsL (pw p m) n zs := by
      unfold zerB
      rw [List.all_eq_true]
      have hmem : Po.val (mapP (phi p m mod m2 mod2) hh g) (Rg.pow (el (rootI p m2 mod2 n)) i.toNat) = 0 ↔ i ∈ clsL (pw p m) n zs := by
        rw [hg, val_rootP]
        constructor
        · intro h
          obtain ⟨j, hj, he⟩ := List.mem_map.1 h
          have hjb := ((mem_clsL hn1).1 hj).1
          have := ha.inj (i := j.toNat) (j := i.toNat) (by omega) (by omega) he
          have e : j = i := by omega
          exact e ▸ hj
        · intro h; exact List.mem_map.2 ⟨i, h, rfl⟩
      have hrow : ∀ r ∈ rs, (zset p m2 mod2 (pol (r.xs.map fun y : Int => (imL p m2 mod2 m (embR p m2 mod2 m mod)).getD y.toNat 0)) (Rg.pow (el (rootI p m2 mod2 n) : El p m2 mod2) i.toNat).1 = true ↔ Po.val (mapP (phi p m mod m2 mod2) hh (pol r.xs)) (Rg.pow (el (rootI p m2 mod2 n)) i.toNat) = 0) := fun r hr => by
        rw [zset_iff, el_of, map_phi hd (hC.good r hr).2]
      constructor
      · intro h
        rw [← hmem]
        by_cases hlt : Po.len g ≤ n.toNat
        · have h1 := (hC.span (pv g)).2 (cyw_pv ((Po.len_sh g).mono hlt) (Po.dvd_refl g))
          have hlin : ∀ u : Vc (El p m mod), Vc.SpL (vsR rs : List (Vc (El p m mod))) u → ∃ f : Po (El p m mod), (∀ j, u j = Po.cf f j) ∧ Po.val (mapP (phi p m mod m2 mod2) hh f) (Rg.pow (el (rootI p m2 mod2 n)) i.toNat) = 0 := fun u hu => by
            refine Vc.Sp.lift hu (Q := fun u => ∃ f : Po (El p m mod), (∀ j, u j = Po.cf f j) ∧ Po.val (mapP (phi p m mod m2 mod2) hh f) (Rg.pow (el (rootI p m2 mod2 n)) i.toNat) = 0) ⟨0, fun _ => rfl, by rw [mapP_zero, Po.val_zero]⟩ ?_
            rintro u c r ⟨f, hf, hv⟩ hr
            obtain ⟨r0, hr0, rfl⟩ := List.mem_map.1 hr
            refine ⟨f + Po.C c * pol r0.xs, fun j => by rw [Vc.add_at, Vc.sc_at, Po.cf_add, Po.cf_C_mul, hf]; rfl, ?_⟩
            rw [mapP_add, mapP_mul, Po.val_add, Po.val_mul, hv, (hrow r0 hr0).1 (h r0 hr0), Rg.mul_zero, Rg.add_zero]
          obtain ⟨f, hf, hv⟩ := hlin _ h1
          have : f = g := Po.ext fun j => (hf j).symm
          rw [← this]; exact hv
        · have h1 : Po.len g = Po.len (xn1 n.toNat : Po (El p m mod)) := by rw [xn1_len hn]; omega
          obtain ⟨k, hk⟩ := hgx
          have h2 : Po.val (mapP (phi p m mod m2 mod2) hh (xn1 n.toNat)) (Rg.pow (el (rootI p m2 mod2 n)) i.toNat) = 0 := by
            rw [mapP_xn1, val_xn1, ← Rg.pow_mul, Nat.mul_comm, Rg.pow_mul, ha.one, Rg.one_pow, Rg.sub_self]
          have hk0 : k ≠ 0 := fun e => hx (by rw [hk, e, Rg.mul_zero])
          have h3 := Po.len_mul hg0 hk0
          rw [← hk] at h3
          have hk1 := Po.len_le_one (f := k) (by have := Po.len_pos hg0; omega)
          rw [hk, mapP_mul, Po.val_mul] at h2
          refine (Fd.mul_eq_zero h2).resolve_right fun h4 => ?_
          have hc0 : Po.cf k 0 ≠ 0 := fun e => hk0 (by rw [hk1, e, Po.C_zero])
          have e1 : mapP (phi p m mod m2 mod2) hh k = Po.C (phi p m mod m2 mod2 (Po.cf k 0)) := by rw [hk1]; exact mapP_mn hh _ 0
          rw [e1, Po.val_C] at h4
          exact hh.ne hc0 h4
      · intro h r hr
        refine (hrow r hr).2 ?_
        obtain ⟨k, hk⟩ := (((hC.span _).1 (Vc.Sp.of (vsR_mem hr))).eq (f := pol r.xs) fun _ => rfl).2
        have e : (pol r.xs : Po (El p m mod)) = g * k := hk
        rw [e, mapP_mul, Po.val_mul, hmem.2 h, Rg.zero_mul]
    by_cases hb : bCls (pw p m) n zs i = true
    · rw [hb, key]; exact List.mem_filter.2 ⟨hi, hb⟩
    · have h1 : ¬ zerB p m2 mod2 (imL p m2 mod2 m (embR p m2 mod2 m mod)) rs (rootI p m2 mod2 n) i = true := fun h => hb (List.mem_filter.1 (key.1 h)).2
      rw [Bool.eq_false_iff.2 hb, Bool.eq_false_iff.2 h1]
  · obtain ⟨qs, hq⟩ := hC.form
    have h1 := cyc_dim (n := n.toNat) (e := (clsL (pw p m) n zs).length) hgn hcl hq hC.span
    rw [vsR_length] at h1
    omega
end
end Go.Proofs.YtgnmcoegdogfgaaGreat

set_option linter.unusedSimpArgs false
set_option linter.unusedVariables false
set_option maxRecDepth 100000
namespace Go.Proofs.YtgnmcoegdogfgaaGreat
open Go.RowKit
section
variable {p m : Int} {mod : List Int} [hF : IsF p m mod]
theorem pol_lin (r : Int) : (pol [(-(el r : El p m mod)).1, 1] : Po (El p m mod)) = Po.lin (el r) := Po.ext fun j => by
  rw [cf_pol, Po.cf_lin]
  match j with
  | 0 => exact el_of _
  | 1 => exact el_one
  | j + 2 => rw [if_neg (by omega), if_neg (by omega)]; exact el_zero
noncomputable def rtL (p m : Int) (mod : List Int) [hF : IsF p m mod] (rs : List Int) : Po (El p m mod) := rootP (rs.map el)
theorem rtL_succ (rs : List Int) {k : Nat} (hk : k < rs.length) : rtL p m mod (rs.take (k + 1)) = rtL p m mod (rs.take k) * Po.lin (el (rs.getD k 0)) := by
  unfold rtL
  rw [List.take_add_one, List.getElem?_eq_getElem hk, List.getD_eq_getElem?_getD, List.getElem?_eq_getElem hk, List.map_append]
  exact rootP_snoc _ _
theorem rtL_len (rs : List Int) : Po.len (rtL p m mod rs) = rs.length + 1 := by unfold rtL; rw [rootP_len, List.length_map]
end
theorem poly_FromRoots_ent : Enters Tryz.prog 97 := enters_of Tryz.func97 (by kernel_rfl) (by kernel_rfl)
theorem poly_FromRoots (g : GfM) {p m : Int} {mod : List Int} [hF : IsF p m mod] (hg : GOk g p m mod) (R : Option Addr) (nr cr : Nat) (rs : List Int) (hnr : nr = rs.length) (h9 : rs.length ≤ 1000) :
    Pure Tryz.prog 97 #[.pointer (some g.p), .slice R nr cr] [gfR g, ro R (ints rs)] (one (fun v ch => ∃ B cap, v = .slice B (il (rtL p m mod rs)).length cap ∧ ch = ow B 3 cap (ints (il (rtL p m mod rs))))) := by
  refine pure_of (args := [.pointer (some g.p), .slice R nr cr]) 24 Tryz.func97 rfl rfl rfl poly_FromRoots_ent ⟨id, id, trivial⟩ (fun w0 => ?_)
  refine tr_seq ?_
  refine tr_region fun _ _ _ => ?_
  refine pu rfl rfl rfl rfl rfl ?_
  refine tr_seq ?_
  refine tr_region fun _ _ _ => ?_
  refine ef rfl rfl (eLit1I rfl rfl rfl rfl (fun A1 => ?_)) 
  refine pu rfl rfl rfl rfl rfl ?_
  refine tr_seq ?_
  refine tr_seq ?_
  refine tr_region fun _ _ _ => ?_
  refine pu rfl rfl rfl rfl rfl ?_
  refine st rfl rfl rfl rfl (rLen rfl rfl) ?_
  refine pu rfl rfl rfl rfl rfl ?_
  refine tr_block ?_
  refine tr_loop5 (fun (k : Int) (D : Option Addr) (cd : Nat) (nd : Nat) (ls : List Int) => [(5, .slice D nd cd), (9, .slice R nr cr), (10, .int .i64 nr), (11, .int .i64 k), (0, .pointer (some g.p)), (4, .slice none 0 0)]) (fun (k : Int) (D : Option Addr) (cd : Nat) (nd : Nat) (ls : List Int) => [ow D 3 cd (ints ls), gfR g, ro R (ints rs)]) (fun (k : Int) (D : Option Addr) (cd : Nat) (nd : Nat) (ls : List Int) => (0 ≤ k ∧ k ≤ nr) ∧ nd = ls.length ∧ ls = il (rtL p m mod (rs.take k.toNat))) (fun (k : Int) (D : Option Addr) (cd : Nat) (nd : Nat) (ls : List Int) => (nr - k).toNat) (0) (A1) (1) (1) ([1]) ⟨rfl, rfl, rfl, rfl, rfl, rfl, trivial⟩ (by first | exact cs _ _ | exact CSub.refl _) (⟨⟨by omega, by omega⟩, rfl, by rw [Int.toNat_zero, List.take_zero]; exact (il_one (p := p) (m := m) (mod := mod)).symm⟩) (fun k D cd nd ls hI => ?_)
  obtain ⟨⟨hk0, hk1⟩, hnd, hls⟩ := hI
  have hlsl : ls.length ≤ 1001 := by rw [hls, il_length, rtL_len, List.length_take]; omega
  refine tr_seq ?_
  refine tr_region fun _ _ _ => ?_
  refine pu rfl rfl rfl rfl rfl ?_
  refine tr_seq ?_
  refine tr_cond_bool rfl (fun h3 => ?_) (fun h3 => ?_)
  · try simp only [zbA] at h3
    refine tr_skip ?_
    refine tr_seq ?_
    refine tr_block ?_
    refine tr_seq ?_
    refine tr_region fun _ _ _ => ?_
    refine st rfl rfl rfl rfl (rIdxI rfl rfl rfl (by omega) (by omega) (by omega)) ?_
    refine st rfl rfl rfl rfl (rLdI rfl rfl (by omega)) ?_
    refine pu rfl rfl rfl rfl rfl ?_
    refine tr_region fun _ _ _ => ?_
    iterate 4 refine pu rfl rfl rfl rfl rfl ?_
    refine ef rfl rfl (eCallV rfl rfl rfl (gf_NegE g hg _) ⟨rfl, rfl, trivial⟩ ?_) 
    refine ef rfl rfl (eLit2I rfl rfl rfl rfl rfl (fun A5a => ?_)) 
    refine ef rfl rfl (eCall1 rfl rfl rfl (poly_product g hg D nd cd ls hnd (by omega) A5a _ _ [(-(el (rs.getD k.toNat 0) : El p m mod)).1, 1] rfl (by simp)) ⟨rfl, rfl, rfl, trivial⟩ ?_) 
    rintro _ _ ⟨B5, c5, rfl, rfl⟩
    refine pu rfl rfl rfl rfl rfl ?_
    refine tr_region fun _ _ _ => ?_
    refine st rfl rfl rfl rfl (rAdd rfl rfl rfl (by omega) (by omega)) ?_
    refine pu rfl rfl rfl rfl rfl ?_
    refine ⟨k + 1, B5, c5, (il ((pol ls : Po (El p m mod)) * pol [(-(el (rs.getD k.toNat 0) : El p m mod)).1, 1])).length, il ((pol ls : Po (El p m mod)) * pol [(-(el (rs.getD k.toNat 0) : El p m mod)).1, 1]), ⟨rfl, rfl, rfl, rfl, rfl, rfl, trivial⟩, by first | exact cs _ _ | exact CSub.refl _, ?_⟩
    refine ⟨⟨⟨by omega, by omega⟩, rfl, ?_⟩, by omega⟩
    rw [show (k + 1).toNat = k.toNat + 1 by omega, rtL_succ rs (by omega), hls, pol_il, pol_lin]
  · try simp only [zbA] at h3
    refine tr_exit ?_
    refine tr_seq ?_
    refine tr_region fun _ _ _ => ?_
    iterate 2 refine pu rfl rfl rfl rfl rfl ?_
    have hkn : rs.take k.toNat = rs := List.take_of_length_le (by omega)
    rw [hkn] at hls
    rw [hnd, hls]
    exact tr_ret ⟨trivial, _, _, rfl, ⟨_, rfl, D, cd, rfl, rfl⟩, cs _ _, trivial, trivial⟩
theorem slc_Index_ent : Enters Tryz.prog 98 := enters_of Tryz.func98 (by kernel_rfl) (by kernel_rfl)
theorem slc_Index (A : Option Addr) (n c : Nat) (l : List Int) (hn : n = l.length) (h9 : l.length ≤ 1000000) (x : Int) :
    Pure Tryz.prog 98 #[.slice A n c, .int .i64 x] [ro A (ints l)] (isV (.int .i64 (idxI l x))) := by
  refine pure_of (args := [.slice A n c, .int .i64 x]) 19 Tryz.func98 rfl rfl rfl slc_Index_ent ⟨id, trivial⟩ (fun w0 => ?_)
  refine tr_seq ?_
  refine tr_region fun _ _ _ => ?_
  refine pu rfl rfl rfl rfl rfl ?_
  refine tr_seq ?_
  refine tr_seq ?_
  refine tr_region fun _ _ _ => ?_
  refine pu rfl rfl rfl rfl rfl ?_
  refine st rfl rfl rfl rfl (rLen rfl rfl) ?_
  refine pu rfl rfl rfl rfl rfl ?_
  refine tr_block ?_
  refine tr_loop1 (fun (i : Int) => [(7, .int .i64 n), (8, .int .i64 i), (0, .slice A n c), (1, .int .i64 x)]) (fun (i : Int) => [ro A (ints l)]) (fun (i : Int) => (0 ≤ i ∧ i ≤ n) ∧ ∀ j : Nat, (j : Int) < i → l.getD j 0 ≠ x) (fun (i : Int) => (n - i).toNat) (0) ⟨rfl, rfl, rfl, rfl, trivial⟩ (by first | exact cs _ _ | exact CSub.refl _) (⟨⟨by omega, by omega⟩, fun j hj => by omega⟩) (fun i hI => ?_)
  obtain ⟨⟨hi0, hi1⟩, hno⟩ := hI
  refine tr_seq ?_
  refine tr_region fun _ _ _ => ?_
  refine pu rfl rfl rfl rfl rfl ?_
  refine tr_seq ?_
  refine tr_cond_bool rfl (fun h2 => ?_) (fun h2 => ?_)
  · try simp only [zbA] at h2
    refine tr_skip ?_
    refine tr_seq ?_
    refine tr_block ?_
    refine tr_seq ?_
    refine tr_region fun _ _ _ => ?_
    iterate 2 refine pu rfl rfl rfl rfl rfl ?_
    refine tr_seq ?_
    refine tr_region fun _ _ _ => ?_
    iterate 3 refine pu rfl rfl rfl rfl rfl ?_
    refine st rfl rfl rfl rfl (rIdxI rfl rfl rfl (by omega) (by omega) (by omega)) ?_
    refine st rfl rfl rfl rfl (rLdI rfl rfl (by omega)) ?_
    refine pu rfl rfl rfl rfl rfl ?_
    refine tr_cond_bool rfl (fun h4 => ?_) (fun h4 => ?_)
    · try simp only [zbA] at h4
      refine tr_seq ?_
      refine tr_region fun _ _ _ => ?_
      iterate 2 refine pu rfl rfl rfl rfl rfl ?_
      have hix := idxI_of (l := l) (x := x) (k := i.toNat) (by omega) h4.symm (fun j hj => hno j (by omega))
      exact tr_ret ⟨trivial, _, _, rfl, ⟨by rw [hix, Int.toNat_of_nonneg hi0], rfl⟩, CSub.nil _, trivial⟩
    · try simp only [zbA] at h4
      refine tr_skip ?_
      refine tr_region fun _ _ _ => ?_
      refine st rfl rfl rfl rfl (rAdd rfl rfl rfl (by omega) (by omega)) ?_
      refine pu rfl rfl rfl rfl rfl ?_
      refine ⟨i + 1, ⟨rfl, rfl, rfl, rfl, trivial⟩, by first | exact cs _ _ | exact CSub.refl _, ?_⟩
      refine ⟨⟨⟨by omega, by omega⟩, fun j hj => ?_⟩, by omega⟩
      by_cases he : (j : Int) = i
      · have : j = i.toNat := by omega
        subst this; exact fun e => h4 e.symm
      · exact hno j (by omega)
  · try simp only [zbA] at h2
    refine tr_exit ?_
    refine tr_seq ?_
    refine tr_region fun _ _ _ => ?_
    refine pu rfl rfl rfl rfl rfl ?_
    have hix : idxI l x = -1 := by
      unfold idxI
      rw [if_neg fun hm => ?_]
      obtain ⟨j, hj, he⟩ := List.getElem_of_mem hm
      exact hno j (by omega) (by rw [List.getD_eq_getElem?_getD, List.getElem?_eq_getElem hj]; exact he)
    exact tr_ret ⟨trivial, _, _, rfl, ⟨by rw [hix], rfl⟩, CSub.nil _, trivial⟩
theorem bch_FromZeros_ent : Enters Tryz.prog 52 := enters_of Tryz.func52 (by kernel_rfl) (by kernel_rfl)
theorem bch_FromZeros (p m : Int) (A : Option Addr) (c : Nat) (mod : List Int) [hF : IsF p m mod] (m2 : Int) (Ae : Option Addr) (ce : Nat) (mod2 : List Int) [hE : IsF p m2 mod2] (hd : m2 % m = 0) (n : Int) (hn1 : 1 ≤ n) (hn64 : n ≤ 64) (hr : rootI p m2 mod2 n ≠ 0) (Z : Option Addr) (cz : Nat) (zs : List Int) (hz : zs.length ≤ 1000000) :
    Pure Tryz.prog 52 #[.agg #[.int .i64 p, .int .i64 m, .slice A mod.length c], .agg #[.int .i64 p, .int .i64 m2, .slice Ae mod2.length ce], .int .i64 n, .slice Z zs.length cz] [ro A (ints mod), ro Ae (ints mod2), ro Z (ints zs)] (three (fun v ca cb cc => ∃ Bm cm B r3, v = .tuple #[.agg #[.int .i64 p, .int .i64 m, .slice Bm mod.length cm, .int .i64 n, .slice B r3.length r3.length], .int .i64 0] ∧ ca = ow Bm 3 cm (ints mod) ∧ cb = rx B (hdrs r3) ∧ cc = rowsCh 3 r3 ∧ ∃ gK : Po (El p m mod), mapP (phi p m mod m2 mod2) (phi_hm hd) gK = (rootP (clsR (el (rootI p m2 mod2 n) : El p m2 mod2) (clsL (pw p m) n zs))) ∧ gK ∣ xn1 n.toNat ∧ Po.lead gK = 1 ∧ CdOf p m mod n.toNat r3 (CyW n.toNat gK))) := by
  have hl8 := hF.short
  have hl82 := hE.short
  have hq2 := hF.q2
  have hq9 := hF.out.1.1.q
  have hra : rootArgs p m2 mod2 n = 0 := by rw [rootArgs_is hE.out hn1 hn64, if_neg hr]
  have hao := root_ord (p := p) (m2 := m2) (mod2 := mod2) hn1 hr
  have hgc := ord_gcd hF hao hd
  have hcl := clsL_length (pw p m) n zs
  have himl := imL_length (p := p) (m2 := m2) (mod2 := mod2) m (embR p m2 mod2 m mod)
  have himq : (((imL p m2 mod2 m (embR p m2 mod2 m mod)).length : Nat) : Int) = pw p m := by rw [himl]; omega
  have hcb : ∀ k : Nat, k < (clsL (pw p m) n zs).length → 0 ≤ (clsL (pw p m) n zs).getD k 0 ∧ (clsL (pw p m) n zs).getD k 0 < n := fun k hk => ((mem_clsL hn1).1 (getD_mem hk 0)).1
  obtain ⟨gK, hgK, hgx, hgl, hgd_⟩ := frz_gen (p := p) (m := m) (mod := mod) (m2 := m2) (mod2 := mod2) hd hao zs
  have hg0 : gK ≠ 0 := fun e => by rw [e] at hgx; exact xn1_ne (p := p) (m := m) (mod := mod) (show 1 ≤ n.toNat by omega) (Po.zero_dvd hgx)
  have hGl : Po.len (rootP (clsR (el (rootI p m2 mod2 n) : El p m2 mod2) (clsL (pw p m) n zs))) = (clsL (pw p m) n zs).length + 1 := by rw [rootP_len]; unfold clsR; rw [List.length_map]
  have hGil : (il (rootP (clsR (el (rootI p m2 mod2 n) : El p m2 mod2) (clsL (pw p m) n zs)))).length ≤ 65 := by rw [il_length]; omega
  refine pure_ofC (args := [.agg #[.int .i64 p, .int .i64 m, .slice A mod.length c], .agg #[.int .i64 p, .int .i64 m2, .slice Ae mod2.length ce], .int .i64 n, .slice Z zs.length cz]) 94 Tryz.func52 rfl rfl rfl bch_FromZeros_ent ⟨id, id, id, trivial⟩ (fun w0 => ?_)
  refine tr_seq ?_
  refine tr_region fun _ _ _ => ?_
  refine ef rfl rfl (eBox rfl rfl rfl rfl rfl (fun p0 => ?_)) 
  refine ef rfl rfl (eBox rfl rfl rfl rfl rfl (fun p0a => ?_)) 
  refine ef rfl rfl (eAlloc rfl rfl rfl (fun p0b => ?_)) 
  refine pu rfl rfl rfl rfl rfl ?_
  refine tr_seq ?_
  refine tr_seq ?_
  refine tr_region fun _ _ _ => ?_
  refine st rfl rfl rfl rfl (rLdS rfl rfl rfl) ?_
  refine ef rfl rfl (eCallV rfl rfl rfl (fld_Check _ _ _ _ _ (by omega)) ⟨rfl, trivial⟩ ?_) 
  refine pu rfl rfl rfl rfl rfl ?_
  refine tr_seq ?_
  refine tr_region fun _ _ _ => ?_
  iterate 2 refine pu rfl rfl rfl rfl rfl ?_
  refine tr_cond_bool rfl (fun h2 => ?_) (fun h2 => ?_)
  · try simp only [zbA] at h2
    exact absurd (chkF_zero hF.out) (by omega) --done
  · try simp only [zbA] at h2
    refine tr_skip ?_
    refine tr_seq ?_
    refine tr_region fun _ _ _ => ?_
    refine st rfl rfl rfl rfl (rLdS rfl rfl rfl) ?_
    refine st rfl rfl rfl rfl (rLdS rfl rfl rfl) ?_
    refine pu rfl rfl rfl rfl rfl ?_
    refine ef rfl rfl (eCall2 rfl rfl rfl (bch_ext p m A c mod m2 Ae ce mod2 hd n hn1 hn64) ⟨rfl, rfl, rfl, trivial⟩ ?_) 
    rintro _ _ _ ⟨g, B6, rfl, rfl, rfl, hg⟩
    iterate 9 refine pu rfl rfl rfl rfl rfl ?_
    rw [if_pos hra]
    refine tr_seq ?_
    refine tr_seq ?_
    refine tr_region fun _ _ _ => ?_
    iterate 2 refine pu rfl rfl rfl rfl rfl ?_
    refine tr_cond_bool rfl (fun h5 => ?_) (fun h5 => ?_)
    · try simp only [zbA] at h5
      omega --done
    · try simp only [zbA] at h5
      refine tr_skip ?_
      refine tr_seq ?_
      refine tr_region fun _ _ _ => ?_
      refine pu rfl rfl rfl rfl rfl ?_
      refine st rfl rfl rfl rfl (rLen rfl rfl) ?_
      iterate 2 refine pu rfl rfl rfl rfl rfl ?_
      refine ef rfl rfl (eCall1 rfl rfl rfl (bch_Closure _ n Z cz zs hz (by omega) (by omega) hn1 hn64 (by rw [himq]; exact hgc)) ⟨rfl, rfl, rfl, trivial⟩ ?_) 
      rintro _ _ ⟨B7, c7, rfl, rfl⟩
      iterate 5 refine pu rfl rfl rfl rfl rfl ?_
      rw [himq]
      refine tr_seq ?_
      refine tr_seq ?_
      refine tr_region fun _ _ _ => ?_
      iterate 2 refine pu rfl rfl rfl rfl rfl ?_
      refine tr_cond_bool rfl (fun h8 => ?_) (fun h8 => ?_)
      · try simp only [zbA] at h8
        first | exact absurd trivial h8 | exact absurd rfl h8 | omega | (exact absurd h8 (by simp)) --done
      · try simp only [zbA] at h8
        refine tr_skip ?_
        refine tr_seq ?_
        refine tr_region fun _ _ _ => ?_
        refine pu rfl rfl rfl rfl rfl ?_
        refine tr_seq ?_
        refine tr_seq ?_
        refine tr_region fun _ _ _ => ?_
        refine pu rfl rfl rfl rfl rfl ?_
        refine st rfl rfl rfl rfl (rLen rfl rfl) ?_
        refine pu rfl rfl rfl rfl rfl ?_
        refine tr_block ?_
        refine tr_nilI 3 ?_
        refine tr_loop4 (fun (k : Int) (D : Option Addr) (cd : Nat) (rts : List Int) => [(16, .slice D rts.length cd), (55, .slice B7 (clsL (pw p m) n zs).length c7), (56, .int .i64 (clsL (pw p m) n zs).length), (57, .int .i64 k), (13, .int .i64 (rootI p m2 mod2 n)), (2, .int .i64 n), (4, .pointer (some p0)), (8, .pointer (some p0b)), (9, .int .i64 0), (11, .pointer (some g.p)), (12, .slice B6 (imL p m2 mod2 m (embR p m2 mod2 m mod)).length (imL p m2 mod2 m (embR p m2 mod2 m mod)).length)]) (fun (k : Int) (D : Option Addr) (cd : Nat) (rts : List Int) => [ow D 3 cd (ints rts), ow B7 3 c7 (ints (clsL (pw p m) n zs)), gfN g, ow B6 3 (imL p m2 mod2 m (embR p m2 mod2 m mod)).length (ints (imL p m2 mod2 m (embR p m2 mod2 m mod))), blk p0 24 [.int .i64 p, .int .i64 m, .slice A mod.length c], blk p0a 24 [.int .i64 p, .int .i64 m2, .slice Ae mod2.length ce], blk p0b 27 [.int .i64 0, .int .i64 0, .slice none 0 0, .int .i64 0, .slice none 0 0], ro A (ints mod), ro Ae (ints mod2), ro Z (ints zs)]) (fun (k : Int) (D : Option Addr) (cd : Nat) (rts : List Int) => (0 ≤ k ∧ k ≤ (clsL (pw p m) n zs).length) ∧ rts = (((clsL (pw p m) n zs).take k.toNat).map fun i : Int => (Rg.pow (el (rootI p m2 mod2 n) : El p m2 mod2) i.toNat).1)) (fun (k : Int) (D : Option Addr) (cd : Nat) (rts : List Int) => ((clsL (pw p m) n zs).length - k).toNat) (0) (none) (0) ([]) ⟨rfl, rfl, rfl, rfl, rfl, rfl, rfl, rfl, rfl, rfl, rfl, trivial⟩ (by first | exact cs _ _ | exact CSub.refl _) (⟨⟨by omega, by omega⟩, rfl⟩) (fun k D cd rts hI => ?_)
        obtain ⟨⟨hk0, hk1⟩, hrs⟩ := hI
        have hrl : rts.length ≤ 64 := by rw [hrs, List.length_map, List.length_take]; omega
        refine tr_seq ?_
        refine tr_region fun _ _ _ => ?_
        refine pu rfl rfl rfl rfl rfl ?_
        refine tr_seq ?_
        refine tr_cond_bool rfl (fun h12 => ?_) (fun h12 => ?_)
        · try simp only [zbA] at h12
          refine tr_skip ?_
          refine tr_seq ?_
          refine tr_block ?_
          refine tr_seq ?_
          refine tr_region fun _ _ _ => ?_
          refine st rfl rfl rfl rfl (rIdxI rfl rfl rfl (by omega) (by omega) (by omega)) ?_
          refine st rfl rfl rfl rfl (rLdI rfl rfl (by omega)) ?_
          refine pu rfl rfl rfl rfl rfl ?_
          refine tr_seq ?_
          have hckb := hcb k.toNat (by omega)
          refine tr_region fun _ _ _ => ?_
          iterate 3 refine pu rfl rfl rfl rfl rfl ?_
          refine ef rfl rfl (eCallV rfl rfl rfl (gf_PowE g hg (rootI p m2 mod2 n) ((clsL (pw p m) n zs).getD k.toNat 0) (by omega) (by omega)) ⟨rfl, rfl, rfl, trivial⟩ ?_) 
          iterate 5 refine pu rfl rfl rfl rfl rfl ?_
          refine tr_region fun _ _ _ => ?_
          iterate 2 refine pu rfl rfl rfl rfl rfl ?_
          refine ef rfl rfl (eLit1I rfl rfl rfl rfl (fun A15 => ?_)) 
          refine ef rfl rfl (eAppI rfl rfl rfl rfl rfl (by first | rfl | simp | omega) (by first | rfl | simp | omega) (by first | omega | (simp; omega)) (fun A15a c15a => ?_)) 
          refine pu rfl rfl rfl rfl rfl ?_
          refine tr_region fun _ _ _ => ?_
          refine st rfl rfl rfl rfl (rAdd rfl rfl rfl (by omega) (by omega)) ?_
          refine pu rfl rfl rfl rfl rfl ?_
          refine ⟨k + 1, A15a, c15a, rts ++ [(Rg.pow (el (rootI p m2 mod2 n) : El p m2 mod2) ((clsL (pw p m) n zs).getD k.toNat 0).toNat).1], ⟨rfl, rfl, rfl, rfl, rfl, rfl, rfl, rfl, rfl, rfl, rfl, trivial⟩, by first | exact cs _ _ | exact CSub.refl _, ?_⟩
          refine ⟨⟨⟨by omega, by omega⟩, ?_⟩, by omega⟩
          rw [show (k + 1).toNat = k.toNat + 1 by omega, List.take_add_one, List.getElem?_eq_getElem (show k.toNat < (clsL (pw p m) n zs).length by omega), List.map_append, hrs]
          have hck : (clsL (pw p m) n zs).getD k.toNat 0 = (clsL (pw p m) n zs)[k.toNat] := by rw [List.getD_eq_getElem?_getD, List.getElem?_eq_getElem (show k.toNat < (clsL (pw p m) n zs).length by omega)]; rfl
          rw [hck]; rfl
        · try simp only [zbA] at h12
          refine tr_exit ?_
          refine tr_seq ?_
          refine tr_region fun _ _ _ => ?_
          refine pu rfl rfl rfl rfl rfl ?_
          refine tr_seq ?_
          refine tr_seq ?_
          have hkc : (clsL (pw p m) n zs).take k.toNat = (clsL (pw p m) n zs) := List.take_of_length_le (by omega)
          rw [hkc] at hrs
          refine tr_region fun _ _ _ => ?_
          iterate 2 refine pu rfl rfl rfl rfl rfl ?_
          refine ef rfl rfl (eCall1 rfl rfl rfl (poly_FromRoots g hg D _ cd rts rfl (by omega)) ⟨rfl, rfl, trivial⟩ ?_) 
          rintro _ _ ⟨Bf, cf, rfl, rfl⟩
          refine st rfl rfl rfl rfl (rLen rfl rfl) ?_
          refine pu rfl rfl rfl rfl rfl ?_
          have hrts : rtL p m2 mod2 ((clsL (pw p m) n zs).map fun i : Int => (Rg.pow (el (rootI p m2 mod2 n) : El p m2 mod2) i.toNat).1) = (rootP (clsR (el (rootI p m2 mod2 n) : El p m2 mod2) (clsL (pw p m) n zs))) := by
            unfold rtL clsR
            rw [List.map_map]
            congr 1
            exact List.map_congr_left fun i _ => el_of _
          rw [hrs, hrts]
          refine tr_block ?_
          refine tr_nilI 3 ?_
          refine tr_loop4 (fun (k : Int) (D2 : Option Addr) (cd2 : Nat) (os : List Int) => [(21, .slice D2 os.length cd2), (75, .slice Bf (il (rootP (clsR (el (rootI p m2 mod2 n) : El p m2 mod2) (clsL (pw p m) n zs)))).length cf), (76, .int .i64 (il (rootP (clsR (el (rootI p m2 mod2 n) : El p m2 mod2) (clsL (pw p m) n zs)))).length), (77, .int .i64 k), (2, .int .i64 n), (4, .pointer (some p0)), (8, .pointer (some p0b)), (9, .int .i64 0), (12, .slice B6 (imL p m2 mod2 m (embR p m2 mod2 m mod)).length (imL p m2 mod2 m (embR p m2 mod2 m mod)).length)]) (fun (k : Int) (D2 : Option Addr) (cd2 : Nat) (os : List Int) => [ow D2 3 cd2 (ints os), ow Bf 3 cf (ints (il (rootP (clsR (el (rootI p m2 mod2 n) : El p m2 mod2) (clsL (pw p m) n zs))))), gfN g, ow B6 3 (imL p m2 mod2 m (embR p m2 mod2 m mod)).length (ints (imL p m2 mod2 m (embR p m2 mod2 m mod))), blk p0 24 [.int .i64 p, .int .i64 m, .slice A mod.length c], blk p0a 24 [.int .i64 p, .int .i64 m2, .slice Ae mod2.length ce], blk p0b 27 [.int .i64 0, .int .i64 0, .slice none 0 0, .int .i64 0, .slice none 0 0], ro A (ints mod), ro Ae (ints mod2), ro Z (ints zs)]) (fun (k : Int) (D2 : Option Addr) (cd2 : Nat) (os : List Int) => (0 ≤ k ∧ k ≤ (il (rootP (clsR (el (rootI p m2 mod2 n) : El p m2 mod2) (clsL (pw p m) n zs)))).length) ∧ os = ((il (rootP (clsR (el (rootI p m2 mod2 n) : El p m2 mod2) (clsL (pw p m) n zs)))).take k.toNat).map (idxI (imL p m2 mod2 m (embR p m2 mod2 m mod)))) (fun (k : Int) (D2 : Option Addr) (cd2 : Nat) (os : List Int) => ((il (rootP (clsR (el (rootI p m2 mod2 n) : El p m2 mod2) (clsL (pw p m) n zs)))).length - k).toNat) (0) (none) (0) ([]) ⟨rfl, rfl, rfl, rfl, rfl, rfl, rfl, rfl, rfl, trivial⟩ (by first | exact cs _ _ | exact CSub.refl _) (⟨⟨by omega, by omega⟩, rfl⟩) (fun k D2 cd2 os hI => ?_)
          obtain ⟨⟨hk0, hk1⟩, hos⟩ := hI
          have hol : os.length ≤ 65 := by rw [hos, List.length_map, List.length_take]; omega
          refine tr_seq ?_
          refine tr_region fun _ _ _ => ?_
          refine pu rfl rfl rfl rfl rfl ?_
          refine tr_seq ?_
          refine tr_cond_bool rfl (fun h19 => ?_) (fun h19 => ?_)
          · try simp only [zbA] at h19
            refine tr_skip ?_
            refine tr_seq ?_
            refine tr_block ?_
            refine tr_seq ?_
            refine tr_region fun _ _ _ => ?_
            refine st rfl rfl rfl rfl (rIdxI rfl rfl rfl (by omega) (by omega) (by omega)) ?_
            refine st rfl rfl rfl rfl (rLdI rfl rfl (by omega)) ?_
            refine pu rfl rfl rfl rfl rfl ?_
            refine tr_region fun _ _ _ => ?_
            iterate 3 refine pu rfl rfl rfl rfl rfl ?_
            refine ef rfl rfl (eCallV rfl rfl rfl (slc_Index B6 _ _ (imL p m2 mod2 m (embR p m2 mod2 m mod)) rfl (by omega) ((il (rootP (clsR (el (rootI p m2 mod2 n) : El p m2 mod2) (clsL (pw p m) n zs)))).getD k.toNat 0)) ⟨rfl, rfl, trivial⟩ ?_) 
            refine ef rfl rfl (eLit1I rfl rfl rfl rfl (fun A21a => ?_)) 
            refine ef rfl rfl (eAppI rfl rfl rfl rfl rfl (by first | rfl | simp | omega) (by first | rfl | simp | omega) (by first | omega | (simp; omega)) (fun A21b c21b => ?_)) 
            refine pu rfl rfl rfl rfl rfl ?_
            refine tr_region fun _ _ _ => ?_
            refine st rfl rfl rfl rfl (rAdd rfl rfl rfl (by omega) (by omega)) ?_
            refine pu rfl rfl rfl rfl rfl ?_
            refine ⟨k + 1, A21b, c21b, os ++ [idxI (imL p m2 mod2 m (embR p m2 mod2 m mod)) ((il (rootP (clsR (el (rootI p m2 mod2 n) : El p m2 mod2) (clsL (pw p m) n zs)))).getD k.toNat 0)], ⟨rfl, rfl, rfl, rfl, rfl, rfl, rfl, rfl, rfl, trivial⟩, by first | exact cs _ _ | exact CSub.refl _, ?_⟩
            refine ⟨⟨⟨by omega, by omega⟩, ?_⟩, by omega⟩
            rw [show (k + 1).toNat = k.toNat + 1 by omega, List.take_add_one, List.getElem?_eq_getElem (show k.toNat < (il (rootP (clsR (el (rootI p m2 mod2 n) : El p m2 mod2) (clsL (pw p m) n zs)))).length by omega), List.map_append, hos]
            have hck : (il (rootP (clsR (el (rootI p m2 mod2 n) : El p m2 mod2) (clsL (pw p m) n zs)))).getD k.toNat 0 = (il (rootP (clsR (el (rootI p m2 mod2 n) : El p m2 mod2) (clsL (pw p m) n zs))))[k.toNat] := by rw [List.getD_eq_getElem?_getD, List.getElem?_eq_getElem (show k.toNat < (il (rootP (clsR (el (rootI p m2 mod2 n) : El p m2 mod2) (clsL (pw p m) n zs)))).length by omega)]; rfl
            rw [hck]; rfl
          · try simp only [zbA] at h19
            refine tr_exit ?_
            refine tr_seq ?_
            have hkg : (il (rootP (clsR (el (rootI p m2 mod2 n) : El p m2 mod2) (clsL (pw p m) n zs)))).take k.toNat = il (rootP (clsR (el (rootI p m2 mod2 n) : El p m2 mod2) (clsL (pw p m) n zs))) := List.take_of_length_le (by omega)
            rw [hkg, hgd_] at hos
            refine tr_region fun _ _ _ => ?_
            refine st rfl rfl rfl rfl (rLdS rfl rfl rfl) ?_
            iterate 2 refine pu rfl rfl rfl rfl rfl ?_
            refine ef rfl rfl (eCall3 rfl rfl rfl (cyc_New _ _ _ _ _ n hn1 hn64 D2 _ cd2 os rfl (by omega) (by rw [hos]; exact il_in _)) ⟨rfl, rfl, rfl, trivial⟩ ?_) 
            rintro _ _ _ _ ⟨Bm, cm, B, r3, rfl, rfl, rfl, rfl, hC⟩
            iterate 2 refine pu rfl rfl rfl rfl rfl ?_
            refine ef rfl rfl (eStS rfl rfl rfl rfl rfl rfl ?_) 
            refine pu rfl rfl rfl rfl rfl ?_
            rw [hos, pol_il, gcd_self_dvd hgx hgl hg0] at hC
            exact tr_ret ⟨trivial, _, _, (.cell rfl (cellS rfl) (.tmp rfl .nil)), ⟨_, _, _, rfl, Bm, cm, B, r3, rfl, rfl, rfl, rfl, gK, hgK, hgx, hgl, hC⟩, cs _ _, trivial, trivial, trivial, trivial⟩
theorem ref_FArgs1_ent : Enters Tryz.prog 16 := enters_of Tryz.func16 (by kernel_rfl) (by kernel_rfl)
theorem ref_FArgs1 (p m : Int) (A : Option Addr) (c : Nat) (mod : List Int) (p2 m2 : Int) (Ae : Option Addr) (ce : Nat) (mod2 : List Int) (hl9 : mod.length ≤ 17592186044415) (hl92 : mod2.length ≤ 17592186044415) (n : Int) (h : chkF p m mod ≠ 0 ∨ chkF p2 m2 mod2 ≠ 0) :
    Pure Tryz.prog 16 #[.agg #[.int .i64 p, .int .i64 m, .slice A mod.length c], .agg #[.int .i64 p2, .int .i64 m2, .slice Ae mod2.length ce], .int .i64 n] [ro A (ints mod), ro Ae (ints mod2)] (isV (.int .i64 1)) := by
  refine pure_of (args := [.agg #[.int .i64 p, .int .i64 m, .slice A mod.length c], .agg #[.int .i64 p2, .int .i64 m2, .slice Ae mod2.length ce], .int .i64 n]) 29 Tryz.func16 rfl rfl rfl ref_FArgs1_ent ⟨id, id, trivial⟩ (fun w0 => ?_)
  refine tr_seq ?_
  refine tr_region fun _ _ _ => ?_
  refine ef rfl rfl (eBox rfl rfl rfl rfl rfl (fun p0 => ?_)) 
  refine ef rfl rfl (eBox rfl rfl rfl rfl rfl (fun p0a => ?_)) 
  refine pu rfl rfl rfl rfl rfl ?_
  refine tr_seq ?_
  refine tr_seq ?_
  refine tr_region fun _ _ _ => ?_
  refine st rfl rfl rfl rfl (rLdS rfl rfl rfl) ?_
  refine ef rfl rfl (eCallV rfl rfl rfl (ref_fldCheck p m A c mod (by omega)) ⟨rfl, trivial⟩ ?_) 
  iterate 2 refine pu rfl rfl rfl rfl rfl ?_
  refine stg rfl rfl rfl rfl rfl (fun hb => by (have hq := hb; try simp only [zbA] at hq); exact rLdS rfl rfl rfl) ?_
  refine efg rfl rfl rfl rfl rfl (fun hb => by (have hq := hb; try simp only [zbA] at hq); exact eCallV rfl rfl rfl (ref_fldCheck p2 m2 Ae ce mod2 (by omega)) ⟨(evg rfl hb), trivial⟩ ⟨rfl, rfl⟩) ?_
  refine stg rfl rfl rfl rfl rfl (fun hb => by (have hq := hb; try simp only [zbA] at hq); exact rNeq rfl (evg rfl hb) rfl) ?_
  refine st rfl rfl rfl rfl (rOrB rfl rfl rfl rfl) ?_
  refine tr_cond_bool rfl (fun h1 => ?_) (fun h1 => ?_)
  · try simp only [zbA] at h1
    refine tr_seq ?_
    refine tr_region fun _ _ _ => ?_
    refine pu rfl rfl rfl rfl rfl ?_
    exact tr_ret ⟨trivial, _, _, rfl, ⟨rfl, rfl⟩, CSub.nil _, trivial⟩
  · try simp only [zbA] at h1
    exact absurd h (by simpa using h1) --done
theorem ref_FArgs4_ent : Enters Tryz.prog 16 := enters_of Tryz.func16 (by kernel_rfl) (by kernel_rfl)
theorem ref_FArgs4 (p m : Int) (A : Option Addr) (c : Nat) (mod : List Int) [hF : IsF p m mod] (p2 m2 : Int) (Ae : Option Addr) (ce : Nat) (mod2 : List Int) [hE : IsF p2 m2 mod2] (n : Int) (hb : n < 1 ∨ n > 64) :
    Pure Tryz.prog 16 #[.agg #[.int .i64 p, .int .i64 m, .slice A mod.length c], .agg #[.int .i64 p2, .int .i64 m2, .slice Ae mod2.length ce], .int .i64 n] [ro A (ints mod), ro Ae (ints mod2)] (isV (.int .i64 4)) := by
  have hl8 := hF.short
  have hl82 := hE.short
  have hc1 := chkF_zero hF.out
  have hc2 := chkF_zero hE.out
  have hm1 := hF.m1
  refine pure_of (args := [.agg #[.int .i64 p, .int .i64 m, .slice A mod.length c], .agg #[.int .i64 p2, .int .i64 m2, .slice Ae mod2.length ce], .int .i64 n]) 29 Tryz.func16 rfl rfl rfl ref_FArgs4_ent ⟨id, id, trivial⟩ (fun w0 => ?_)
  refine tr_seq ?_
  refine tr_region fun _ _ _ => ?_
  refine ef rfl rfl (eBox rfl rfl rfl rfl rfl (fun p0 => ?_)) 
  refine ef rfl rfl (eBox rfl rfl rfl rfl rfl (fun p0a => ?_)) 
  refine pu rfl rfl rfl rfl rfl ?_
  refine tr_seq ?_
  refine tr_seq ?_
  refine tr_region fun _ _ _ => ?_
  refine st rfl rfl rfl rfl (rLdS rfl rfl rfl) ?_
  refine ef rfl rfl (eCallV rfl rfl rfl (ref_fldCheck p m A c mod (by omega)) ⟨rfl, trivial⟩ ?_) 
  iterate 2 refine pu rfl rfl rfl rfl rfl ?_
  refine stg rfl rfl rfl rfl rfl (fun hb => by (have hq := hb; try simp only [zbA] at hq); exact rLdS rfl rfl rfl) ?_
  refine efg rfl rfl rfl rfl rfl (fun hb => by (have hq := hb; try simp only [zbA] at hq); exact eCallV rfl rfl rfl (ref_fldCheck p2 m2 Ae ce mod2 (by omega)) ⟨(evg rfl hb), trivial⟩ ⟨rfl, rfl⟩) ?_
  refine stg rfl rfl rfl rfl rfl (fun hb => by (have hq := hb; try simp only [zbA] at hq); exact rNeq rfl (evg rfl hb) rfl) ?_
  refine st rfl rfl rfl rfl (rOrB rfl rfl rfl rfl) ?_
  refine tr_cond_bool rfl (fun h1 => ?_) (fun h1 => ?_)
  · try simp only [zbA] at h1
    exact absurd h1 (by simp [hc1, hc2]) --done
  · try simp only [zbA] at h1
    refine tr_skip ?_
    refine tr_seq ?_
    refine tr_seq ?_
    refine tr_region fun _ _ _ => ?_
    iterate 3 refine pu rfl rfl rfl rfl rfl ?_
    refine stg rfl rfl rfl rfl rfl (fun hb => by (have hq := hb; try simp only [zbA] at hq); exact rMove rfl rfl) ?_
    refine stg rfl rfl rfl rfl rfl (fun hb => by (have hq := hb; try simp only [zbA] at hq); exact rGtr rfl (evg rfl hb) rfl) ?_
    refine st rfl rfl rfl rfl (rOrB rfl rfl rfl rfl) ?_
    refine tr_cond_bool rfl (fun h3 => ?_) (fun h3 => ?_)
    · try simp only [zbA] at h3
      refine tr_seq ?_
      refine tr_region fun _ _ _ => ?_
      refine pu rfl rfl rfl rfl rfl ?_
      exact tr_ret ⟨trivial, _, _, rfl, ⟨rfl, rfl⟩, CSub.nil _, trivial⟩
    · try simp only [zbA] at h3
      omega --done
theorem ref_FArgsG_ent : Enters Tryz.prog 16 := enters_of Tryz.func16 (by kernel_rfl) (by kernel_rfl)
theorem ref_FArgsG (p m : Int) (A : Option Addr) (c : Nat) (mod : List Int) [hF : IsF p m mod] (m2 : Int) (Ae : Option Addr) (ce : Nat) (mod2 : List Int) [hE : IsF p m2 mod2] (hd : m2 % m = 0) (n : Int) (hn1 : 1 ≤ n) (hn64 : n ≤ 64) :
    Pure Tryz.prog 16 #[.agg #[.int .i64 p, .int .i64 m, .slice A mod.length c], .agg #[.int .i64 p, .int .i64 m2, .slice Ae mod2.length ce], .int .i64 n] [ro A (ints mod), ro Ae (ints mod2)] (isV (.int .i64 (if rootI p m2 mod2 n = 0 then 11 else 0))) := by
  have hl8 := hF.short
  have hl82 := hE.short
  have hc1 := chkF_zero hF.out
  have hc2 := chkF_zero hE.out
  have hm1 := hF.m1
  refine pure_of (args := [.agg #[.int .i64 p, .int .i64 m, .slice A mod.length c], .agg #[.int .i64 p, .int .i64 m2, .slice Ae mod2.length ce], .int .i64 n]) 29 Tryz.func16 rfl rfl rfl ref_FArgsG_ent ⟨id, id, trivial⟩ (fun w0 => ?_)
  refine tr_seq ?_
  refine tr_region fun _ _ _ => ?_
  refine ef rfl rfl (eBox rfl rfl rfl rfl rfl (fun p0 => ?_)) 
  refine ef rfl rfl (eBox rfl rfl rfl rfl rfl (fun p0a => ?_)) 
  refine pu rfl rfl rfl rfl rfl ?_
  refine tr_seq ?_
  refine tr_seq ?_
  refine tr_region fun _ _ _ => ?_
  refine st rfl rfl rfl rfl (rLdS rfl rfl rfl) ?_
  refine ef rfl rfl (eCallV rfl rfl rfl (ref_fldCheck p m A c mod (by omega)) ⟨rfl, trivial⟩ ?_) 
  iterate 2 refine pu rfl rfl rfl rfl rfl ?_
  refine stg rfl rfl rfl rfl rfl (fun hb => by (have hq := hb; try simp only [zbA] at hq); exact rLdS rfl rfl rfl) ?_
  refine efg rfl rfl rfl rfl rfl (fun hb => by (have hq := hb; try simp only [zbA] at hq); exact eCallV rfl rfl rfl (ref_fldCheck p m2 Ae ce mod2 (by omega)) ⟨(evg rfl hb), trivial⟩ ⟨rfl, rfl⟩) ?_
  refine stg rfl rfl rfl rfl rfl (fun hb => by (have hq := hb; try simp only [zbA] at hq); exact rNeq rfl (evg rfl hb) rfl) ?_
  refine st rfl rfl rfl rfl (rOrB rfl rfl rfl rfl) ?_
  refine tr_cond_bool rfl (fun h1 => ?_) (fun h1 => ?_)
  · try simp only [zbA] at h1
    exact absurd h1 (by simp [hc1, hc2]) --done
  · try simp only [zbA] at h1
    refine tr_skip ?_
    refine tr_seq ?_
    refine tr_seq ?_
    refine tr_region fun _ _ _ => ?_
    iterate 3 refine pu rfl rfl rfl rfl rfl ?_
    refine stg rfl rfl rfl rfl rfl (fun hb => by (have hq := hb; try simp only [zbA] at hq); exact rMove rfl rfl) ?_
    refine stg rfl rfl rfl rfl rfl (fun hb => by (have hq := hb; try simp only [zbA] at hq); exact rGtr rfl (evg rfl hb) rfl) ?_
    refine st rfl rfl rfl rfl (rOrB rfl rfl rfl rfl) ?_
    refine tr_cond_bool rfl (fun h3 => ?_) (fun h3 => ?_)
    · try simp only [zbA] at h3
      omega --done
    · try simp only [zbA] at h3
      refine tr_skip ?_
      refine tr_seq ?_
      refine tr_seq ?_
      refine tr_region fun _ _ _ => ?_
      refine st rfl rfl rfl rfl (rLdS rfl rfl rfl) ?_
      refine st rfl rfl rfl rfl (rLdS rfl rfl rfl) ?_
      refine ef rfl rfl (eCallV rfl rfl rfl (ref_Over p m A c mod hm1 p m2 Ae ce mod2 hE.m1) ⟨rfl, rfl, trivial⟩ ?_) 
      refine st rfl rfl rfl rfl (rNotB rfl rfl) ?_
      refine tr_cond_bool rfl (fun h5 => ?_) (fun h5 => ?_)
      · try simp only [zbA] at h5
        exact absurd h5 (by simp [hd]) --done
      · try simp only [zbA] at h5
        refine tr_skip ?_
        refine tr_seq ?_
        refine tr_seq ?_
        refine tr_region fun _ _ _ => ?_
        refine st rfl rfl rfl rfl (rLdS rfl rfl rfl) ?_
        refine pu rfl rfl rfl rfl rfl ?_
        refine ef rfl rfl (eCallV rfl rfl rfl (ref_Root p m2 Ae ce mod2 hE.out n) ⟨rfl, rfl, trivial⟩ ?_) 
        refine pu rfl rfl rfl rfl rfl ?_
        refine tr_cond_bool rfl (fun h7 => ?_) (fun h7 => ?_)
        · try simp only [zbA] at h7
          refine tr_seq ?_
          refine tr_region fun _ _ _ => ?_
          refine pu rfl rfl rfl rfl rfl ?_
          exact tr_ret ⟨trivial, _, _, rfl, ⟨by rw [if_pos (by omega)], rfl⟩, CSub.nil _, trivial⟩
        · try simp only [zbA] at h7
          refine tr_skip ?_
          refine tr_seq ?_
          refine tr_region fun _ _ _ => ?_
          refine pu rfl rfl rfl rfl rfl ?_
          exact tr_ret ⟨trivial, _, _, rfl, ⟨by rw [if_neg (by omega)], rfl⟩, CSub.nil _, trivial⟩
end Go.Proofs.YtgnmcoegdogfgaaGreat

set_option linter.unusedSimpArgs false
set_option linter.unusedVariables false
set_option maxRecDepth 100000
namespace Go.Proofs.YtgnmcoegdogfgaaGreat
open Go.RowKit
def consL (b d : Int) : List Int := (List.range (d - 1).toNat).map fun j : Nat => b + j
theorem consL_length (b d : Int) : (consL b d).length = (d - 1).toNat := by simp [consL]
theorem consL_take (b d : Int) {k : Nat} (hk : k < (d - 1).toNat) : (consL b d).take (k + 1) = (consL b d).take k ++ [b + k] := by
  rw [List.take_add_one, List.getElem?_eq_getElem (by rw [consL_length]; exact hk)]
  congr 1
  simp [consL]
theorem bch_New_ent : Enters Tryz.prog 17 := enters_of Tryz.func17 (by kernel_rfl) (by kernel_rfl)
theorem bch_New (p m : Int) (A : Option Addr) (c : Nat) (mod : List Int) [hF : IsF p m mod] (m2 : Int) (Ae : Option Addr) (ce : Nat) (mod2 : List Int) [hE : IsF p m2 mod2] (hd : m2 % m = 0) (n b d : Int) (hn1 : 1 ≤ n) (hn64 : n ≤ 64) (hr : rootI p m2 mod2 n ≠ 0) (hb0 : 0 ≤ b) (hbn : b < n) (hd0 : 1 ≤ d) (hdn : d ≤ n + 1) :
    Pure Tryz.prog 17 #[.agg #[.int .i64 p, .int .i64 m, .slice A mod.length c], .agg #[.int .i64 p, .int .i64 m2, .slice Ae mod2.length ce], .int .i64 n, .int .i64 b, .int .i64 d] [ro A (ints mod), ro Ae (ints mod2)] (three (fun v ca cb cc => ∃ Bm cm B r3, v = .tuple #[.agg #[.int .i64 p, .int .i64 m, .slice Bm mod.length cm, .int .i64 n, .slice B r3.length r3.length], .int .i64 0] ∧ ca = ow Bm 3 cm (ints mod) ∧ cb = rx B (hdrs r3) ∧ cc = rowsCh 3 r3 ∧ ∃ gK : Po (El p m mod), mapP (phi p m mod m2 mod2) (phi_hm hd) gK = (rootP (clsR (el (rootI p m2 mod2 n) : El p m2 mod2) (clsL (pw p m) n (consL b d)))) ∧ gK ∣ xn1 n.toNat ∧ Po.lead gK = 1 ∧ CdOf p m mod n.toNat r3 (CyW n.toNat gK))) := by
  have hl8 := hF.short
  have hra : rootArgs p m2 mod2 n = 0 := by rw [rootArgs_is hE.out hn1 hn64, if_neg hr]
  have hcl := consL_length b d
  refine pure_ofC (args := [.agg #[.int .i64 p, .int .i64 m, .slice A mod.length c], .agg #[.int .i64 p, .int .i64 m2, .slice Ae mod2.length ce], .int .i64 n, .int .i64 b, .int .i64 d]) 75 Tryz.func17 rfl rfl rfl bch_New_ent ⟨id, id, trivial⟩ (fun w0 => ?_)
  refine tr_seq ?_
  refine tr_region fun _ _ _ => ?_
  refine ef rfl rfl (eBox rfl rfl rfl rfl rfl (fun p0 => ?_)) 
  refine ef rfl rfl (eBox rfl rfl rfl rfl rfl (fun p0a => ?_)) 
  refine ef rfl rfl (eAlloc rfl rfl rfl (fun p0b => ?_)) 
  refine pu rfl rfl rfl rfl rfl ?_
  refine tr_seq ?_
  refine tr_seq ?_
  refine tr_region fun _ _ _ => ?_
  refine st rfl rfl rfl rfl (rLdS rfl rfl rfl) ?_
  refine ef rfl rfl (eCallV rfl rfl rfl (fld_Check _ _ _ _ _ (by omega)) ⟨rfl, trivial⟩ ?_) 
  refine pu rfl rfl rfl rfl rfl ?_
  refine tr_seq ?_
  refine tr_region fun _ _ _ => ?_
  iterate 2 refine pu rfl rfl rfl rfl rfl ?_
  refine tr_cond_bool rfl (fun h2 => ?_) (fun h2 => ?_)
  · try simp only [zbA] at h2
    exact absurd (chkF_zero hF.out) (by omega) --done
  · try simp only [zbA] at h2
    refine tr_skip ?_
    refine tr_seq ?_
    refine tr_seq ?_
    refine tr_region fun _ _ _ => ?_
    refine st rfl rfl rfl rfl (rLdS rfl rfl rfl) ?_
    refine st rfl rfl rfl rfl (rLdS rfl rfl rfl) ?_
    refine pu rfl rfl rfl rfl rfl ?_
    refine ef rfl rfl (eCall2 rfl rfl rfl (bch_ext p m A c mod m2 Ae ce mod2 hd n hn1 hn64) ⟨rfl, rfl, rfl, trivial⟩ ?_) 
    rintro _ _ _ ⟨g, B6, rfl, rfl, rfl, hg⟩
    iterate 9 refine pu rfl rfl rfl rfl rfl ?_
    refine tr_seq ?_
    refine tr_region fun _ _ _ => ?_
    iterate 2 refine pu rfl rfl rfl rfl rfl ?_
    refine tr_cond_bool rfl (fun h5 => ?_) (fun h5 => ?_)
    · try simp only [zbA] at h5
      omega --done
    · try simp only [zbA] at h5
      refine tr_skip ?_
      refine tr_seq ?_
      refine tr_seq ?_
      refine tr_region fun _ _ _ => ?_
      iterate 3 refine pu rfl rfl rfl rfl rfl ?_
      refine stg rfl rfl rfl rfl rfl (fun hb => by (have hq := hb; try simp only [zbA] at hq); exact rMove rfl rfl) ?_
      refine stg rfl rfl rfl rfl rfl (fun hb => by (have hq := hb; try simp only [zbA] at hq); exact rMove rfl rfl) ?_
      refine stg rfl rfl rfl rfl rfl (fun hb => by (have hq := hb; try simp only [zbA] at hq); exact rGeq rfl (evg rfl hb) (evg rfl hb)) ?_
      refine st rfl rfl rfl rfl (rOrB rfl rfl rfl rfl) ?_
      refine pu rfl rfl rfl rfl rfl ?_
      refine stg rfl rfl rfl rfl rfl (fun hb => by (have hq := hb; try simp only [zbA] at hq); exact rMove rfl rfl) ?_
      refine stg rfl rfl rfl rfl rfl (fun hb => by (have hq := hb; try simp only [zbA] at hq); exact rLss rfl (evg rfl hb) rfl) ?_
      refine st rfl rfl rfl rfl (rOrB rfl rfl rfl rfl) ?_
      refine pu rfl rfl rfl rfl rfl ?_
      refine stg rfl rfl rfl rfl rfl (fun hb => by (have hq := hb; try simp only [zbA] at hq); exact rMove rfl rfl) ?_
      refine stg rfl rfl rfl rfl rfl (fun hb => by (have hq := hb; try simp only [zbA] at hq); exact rMove rfl rfl) ?_
      refine stg rfl rfl rfl rfl rfl (fun hb => by (have hq := hb; try simp only [zbA] at hq); exact rAdd rfl (evg rfl hb) rfl (by omega) (by omega)) ?_
      refine stg rfl rfl rfl rfl rfl (fun hb => by (have hq := hb; try simp only [zbA] at hq); exact rGtr rfl (evg rfl hb) (evg rfl hb)) ?_
      refine st rfl rfl rfl rfl (rOrB rfl rfl rfl rfl) ?_
      refine tr_cond_bool rfl (fun h7 => ?_) (fun h7 => ?_)
      · try simp only [zbA] at h7
        omega --done
      · try simp only [zbA] at h7
        refine tr_skip ?_
        refine tr_seq ?_
        refine tr_region fun _ _ _ => ?_
        refine pu rfl rfl rfl rfl rfl ?_
        refine tr_seq ?_
        refine tr_seq ?_
        refine tr_region fun _ _ _ => ?_
        refine pu rfl rfl rfl rfl rfl ?_
        refine st rfl rfl rfl rfl (rSub rfl rfl rfl (by omega) (by omega)) ?_
        refine pu rfl rfl rfl rfl rfl ?_
        refine tr_block ?_
        refine tr_nilI 3 ?_
        refine tr_loop4 (fun (k : Int) (D : Option Addr) (cd : Nat) (ls : List Int) => [(17, .slice D ls.length cd), (57, .int .i64 (d - 1)), (58, .int .i64 k), (2, .int .i64 n), (3, .int .i64 b), (5, .pointer (some p0)), (6, .pointer (some p0a)), (10, .pointer (some p0b)), (11, .int .i64 0)]) (fun (k : Int) (D : Option Addr) (cd : Nat) (ls : List Int) => [ow D 3 cd (ints ls), blk p0 24 [.int .i64 p, .int .i64 m, .slice A mod.length c], blk p0a 24 [.int .i64 p, .int .i64 m2, .slice Ae mod2.length ce], blk p0b 27 [.int .i64 0, .int .i64 0, .slice none 0 0, .int .i64 0, .slice none 0 0], ro A (ints mod), ro Ae (ints mod2)]) (fun (k : Int) (D : Option Addr) (cd : Nat) (ls : List Int) => (0 ≤ k ∧ k ≤ d - 1) ∧ ls = (consL b d).take k.toNat) (fun (k : Int) (D : Option Addr) (cd : Nat) (ls : List Int) => (d - 1 - k).toNat) (0) (none) (0) ([]) ⟨rfl, rfl, rfl, rfl, rfl, rfl, rfl, rfl, rfl, trivial⟩ (by first | exact cs _ _ | exact CSub.refl _) (⟨⟨by omega, by omega⟩, by simp⟩) (fun k D cd ls hI => ?_)
        obtain ⟨⟨hk0, hk1⟩, hls⟩ := hI
        have hll : ls.length ≤ 65 := by rw [hls, List.length_take]; omega
        refine tr_seq ?_
        refine tr_region fun _ _ _ => ?_
        refine pu rfl rfl rfl rfl rfl ?_
        refine tr_seq ?_
        refine tr_cond_bool rfl (fun h11 => ?_) (fun h11 => ?_)
        · try simp only [zbA] at h11
          refine tr_skip ?_
          refine tr_seq ?_
          refine tr_block ?_
          refine tr_seq ?_
          refine tr_region fun _ _ _ => ?_
          iterate 2 refine pu rfl rfl rfl rfl rfl ?_
          refine tr_region fun _ _ _ => ?_
          iterate 3 refine pu rfl rfl rfl rfl rfl ?_
          refine st rfl rfl rfl rfl (rAdd rfl rfl rfl (by omega) (by omega)) ?_
          refine ef rfl rfl (eLit1I rfl rfl rfl rfl (fun A13 => ?_)) 
          refine ef rfl rfl (eAppI rfl rfl rfl rfl rfl (by first | rfl | simp | omega) (by first | rfl | simp | omega) (by first | omega | (simp; omega)) (fun A13a c13a => ?_)) 
          refine pu rfl rfl rfl rfl rfl ?_
          refine tr_region fun _ _ _ => ?_
          refine st rfl rfl rfl rfl (rAdd rfl rfl rfl (by omega) (by omega)) ?_
          refine pu rfl rfl rfl rfl rfl ?_
          refine ⟨k + 1, A13a, c13a, ls ++ [b + k], ⟨rfl, rfl, rfl, rfl, rfl, rfl, rfl, rfl, rfl, trivial⟩, by first | exact cs _ _ | exact CSub.refl _, ?_⟩
          refine ⟨⟨⟨by omega, by omega⟩, ?_⟩, by omega⟩
          rw [show (k + 1).toNat = k.toNat + 1 by omega, consL_take b d (by omega), hls, Int.toNat_of_nonneg hk0]
        · try simp only [zbA] at h11
          refine tr_exit ?_
          refine tr_seq ?_
          have hkc : (consL b d).take k.toNat = consL b d := List.take_of_length_le (by omega)
          rw [hkc] at hls
          rw [hls]
          refine tr_region fun _ _ _ => ?_
          refine st rfl rfl rfl rfl (rLdS rfl rfl rfl) ?_
          refine st rfl rfl rfl rfl (rLdS rfl rfl rfl) ?_
          iterate 2 refine pu rfl rfl rfl rfl rfl ?_
          refine ef rfl rfl (eCall3 rfl rfl rfl (bch_FromZeros p m A c mod m2 Ae ce mod2 hd n hn1 hn64 hr D cd (consL b d) (by omega)) ⟨rfl, rfl, rfl, rfl, trivial⟩ ?_) 
          rintro _ _ _ _ ⟨Bm, cm, B, r3, rfl, rfl, rfl, rfl, gK, hgK, hgx, hgl, hC⟩
          iterate 2 refine pu rfl rfl rfl rfl rfl ?_
          refine ef rfl rfl (eStS rfl rfl rfl rfl rfl rfl ?_) 
          refine pu rfl rfl rfl rfl rfl ?_
          exact tr_ret ⟨trivial, _, _, (.cell rfl (cellS rfl) (.tmp rfl .nil)), ⟨_, _, _, rfl, Bm, cm, B, r3, rfl, rfl, rfl, rfl, gK, hgK, hgx, hgl, hC⟩, cs _ _, trivial, trivial, trivial, trivial⟩
end Go.Proofs.YtgnmcoegdogfgaaGreat

set_option linter.unusedSimpArgs false
set_option linter.unusedVariables false
namespace Go.Proofs.YtgnmcoegdogfgaaGreat
open Go.RowKit
section
variable {K : Type} [Fd K]
theorem ht_core (n : Nat) (Y U : Nat → K) {p0 : Nat} (hp0 : p0 < n) : ∀ (A B : List Nat) (d : Nat → K), (∀ i, i ≤ A.length → ∀ j, j ≤ B.length → Rg.sm n (fun p => d p * (Rg.pow (Y p) i * Rg.pow (U p) j)) = 0) →
    (∀ p, p < n → p ≠ p0 → d p ≠ 0 → p ∈ A ∨ p ∈ B) → (∀ q ∈ A, Y q ≠ Y p0) → (∀ q ∈ B, U q ≠ U p0) → d p0 = 0
  | [], [], d, hW, hs, _, _ => by
    have h := hW 0 (by simp) 0 (by simp)
    rw [Rg.sm_one hp0 (fun i hi hne => by
      rw [Rg.pow_zero, Rg.pow_zero, Rg.mul_one, Rg.mul_one]
      exact Classical.byContradiction fun hd => by rcases hs i hi hne hd with h | h <;> cases h)] at h
    rwa [Rg.pow_zero, Rg.pow_zero, Rg.mul_one, Rg.mul_one] at h
  | [], q :: B, d, hW, hs, hA, hB => by
    have ih := ht_core n Y U hp0 [] B (fun p => d p * (U p - U q)) (fun i hi j hj => by
      have h1 := hW i hi (j + 1) (by simp; omega)
      have h2 := hW i hi j (by simp; omega)
      rw [Rg.sm_congr (g := fun p => d p * (Rg.pow (Y p) i * Rg.pow (U p) (j + 1)) + -(U q * (d p * (Rg.pow (Y p) i * Rg.pow (U p) j)))) fun p _ => by rw [Rg.pow_succ]; grind]
      rw [Rg.sm_add, Rg.sm_neg, Rg.sm_mul, h1, h2, Rg.mul_zero, Rg.neg_zero, Rg.zero_add])
      (fun p hp hne hd => by
        have hd0 : d p ≠ 0 := fun e => hd (by show d p * _ = 0; rw [e, Rg.zero_mul])
        rcases hs p hp hne hd0 with h | h
        · cases h
        · rcases List.mem_cons.1 h with rfl | h
          · exact absurd (show d p * (U p - U p) = 0 by rw [Rg.sub_self, Rg.mul_zero]) hd
          · exact .inr h) hA (fun r hr => hB r (List.mem_cons_of_mem _ hr))
    rcases Fd.mul_eq_zero ih with h | h
    · exact h
    · exact absurd (Rg.eq_of_sub h).symm (hB q (List.mem_cons_self ..))
  | q :: A, B, d, hW, hs, hA, hB => by
    have ih := ht_core n Y U hp0 A B (fun p => d p * (Y p - Y q)) (fun i hi j hj => by
      have h1 := hW (i + 1) (by simp; omega) j hj
      have h2 := hW i (by simp; omega) j hj
      rw [Rg.sm_congr (g := fun p => d p * (Rg.pow (Y p) (i + 1) * Rg.pow (U p) j) + -(Y q * (d p * (Rg.pow (Y p) i * Rg.pow (U p) j)))) fun p _ => by rw [Rg.pow_succ]; grind]
      rw [Rg.sm_add, Rg.sm_neg, Rg.sm_mul, h1, h2, Rg.mul_zero, Rg.neg_zero, Rg.zero_add])
      (fun p hp hne hd => by
        have hd0 : d p ≠ 0 := fun e => hd (by show d p * _ = 0; rw [e, Rg.zero_mul])
        rcases hs p hp hne hd0 with h | h
        · rcases List.mem_cons.1 h with rfl | h
          · exact absurd (show d p * (Y p - Y p) = 0 by rw [Rg.sub_self, Rg.mul_zero]) hd
          · exact .inl h
        · exact .inr h) (fun r hr => hA r (List.mem_cons_of_mem _ hr)) hB
    rcases Fd.mul_eq_zero ih with h | h
    · exact h
    · exact absurd (Rg.eq_of_sub h).symm (hA q (List.mem_cons_self ..))
theorem AOrd.pow_eq {a : K} {n : Nat} (h : AOrd a n) {i j : Nat} (e : Rg.pow a i = Rg.pow a j) : i % n = j % n := by
  have hn := h.pos
  rw [← h.mod i, ← h.mod j] at e
  exact h.inj (Nat.mod_lt _ hn) (Nat.mod_lt _ hn) e
theorem mod_dvd {n u v : Nat} (h : u % n = v % n) (hl : v ≤ u) : n ∣ u - v := Nat.dvd_of_mod_eq_zero (Nat.sub_mod_eq_zero_of_mod_eq h)
theorem mul_inj_nat {n t p q : Nat} (hg : Nat.gcd t n = 1) (hp : p < n) (hq : q < n) (h : t * p % n = t * q % n) : p = q := by
  have key : ∀ p q : Nat, p < n → q ≤ p → t * p % n = t * q % n → p = q := fun p q hp hl h => by
    have h1 := mod_dvd h (Nat.mul_le_mul_left _ hl)
    rw [← Nat.mul_sub] at h1
    have h2 : n ∣ p - q := Nat.Coprime.dvd_of_dvd_mul_left (Nat.coprime_comm.1 hg) h1
    have h3 : p - q = 0 := Nat.eq_zero_of_dvd_of_lt h2 (by omega)
    omega
  rcases Nat.le_total q p with hl | hl
  · exact key p q hp hl h
  · exact (key q p hq hl h.symm).symm
theorem cls_mod {n x p q : Nat} (hn : 1 ≤ n) (h : x * p % n = x * q % n) : p % (n / Nat.gcd x n) = q % (n / Nat.gcd x n) := by
  have hg : 0 < Nat.gcd x n := Nat.gcd_pos_of_pos_right _ hn
  have hc := Nat.coprime_div_gcd_div_gcd (m := x) (n := n) hg
  obtain ⟨x1, hx1⟩ := Nat.gcd_dvd_left x n
  obtain ⟨M, hM⟩ := Nat.gcd_dvd_right x n
  have e1 : n / Nat.gcd x n = M := Nat.div_eq_of_eq_mul_right hg hM
  have e2 : x / Nat.gcd x n = x1 := Nat.div_eq_of_eq_mul_right hg hx1
  rw [e1, e2] at hc
  rw [e1]
  have key : ∀ p q : Nat, q ≤ p → x * p % n = x * q % n → p % M = q % M := fun p q hl h => by
    have h1 := mod_dvd h (Nat.mul_le_mul_left _ hl)
    rw [← Nat.mul_sub] at h1
    obtain ⟨k, hk⟩ := h1
    have h2 : Nat.gcd x n * (x1 * (p - q)) = Nat.gcd x n * (M * k) := by
      rw [← Nat.mul_assoc, ← hx1, ← Nat.mul_assoc, ← hM, hk]
    have h3 := Nat.eq_of_mul_eq_mul_left hg h2
    have h4 : M ∣ p - q := Nat.Coprime.dvd_of_dvd_mul_left (Nat.coprime_comm.1 hc) ⟨k, h3⟩
    obtain ⟨r, hr⟩ := h4
    rw [show p = q + M * r by omega, Nat.add_mul_mod_self_left]
  rcases Nat.le_total q p with hl | hl
  · exact key p q hl h
  · exact (key q p hl h.symm).symm
theorem cls_count {n x p0 : Nat} (hn : 1 ≤ n) (L : List Nat) (hd : L.Nodup) (h : ∀ p ∈ L, p < n ∧ x * p % n = x * p0 % n) : L.length ≤ Nat.gcd x n := by
  have hg : 0 < Nat.gcd x n := Nat.gcd_pos_of_pos_right _ hn
  have hM : n / Nat.gcd x n * Nat.gcd x n = n := Nat.div_mul_cancel (Nat.gcd_dvd_right x n)
  have hM0 : 0 < n / Nat.gcd x n := Nat.div_pos (Nat.gcd_le_right _ hn) hg
  have := nodup_len (Nat.gcd x n) (L.map fun p => ((p / (n / Nat.gcd x n) : Nat) : Int) + 1) ?_ ?_
  · simpa using this
  · rw [List.Nodup, List.pairwise_map]
    refine List.Pairwise.imp_of_mem ?_ hd
    intro u v hu hv hne e
    have h1 := cls_mod hn ((h u hu).2.trans (h v hv).2.symm)
    have h2 : u / (n / Nat.gcd x n) = v / (n / Nat.gcd x n) := by omega
    have h3 := Nat.div_add_mod u (n / Nat.gcd x n)
    have h4 := Nat.div_add_mod v (n / Nat.gcd x n)
    rw [h1, h2] at h3
    exact hne (h3.symm.trans h4)
  · intro y hy
    obtain ⟨p, hp, rfl⟩ := List.mem_map.1 hy
    have h1 : p / (n / Nat.gcd x n) < Nat.gcd x n := by
      rw [Nat.div_lt_iff_lt_mul hM0, Nat.mul_comm, hM]; exact (h p hp).1
    generalize p / (n / Nat.gcd x n) = e at h1 ⊢
    omega
theorem split_len {α : Type} (q : α → Bool) : ∀ l : List α, (l.filter q).length + (l.filter fun a => !q a).length = l.length
  | [] => rfl
  | a :: l => by
    have := split_len q l
    cases h : q a <;> simp [h] <;> omega
theorem ht_bound {a : K} {n : Nat} (ha : AOrd a n) (w : Nat → K) (s t x c m : Nat) (ht : Nat.gcd t n = 1) (hx : m = 0 ∨ Nat.gcd x n ≤ c) (hc : 1 ≤ c)
    (hz : ∀ i, i < c → ∀ j, j ≤ m → Rg.sm n (fun p => w p * Rg.pow (Rg.pow a (s + i * t + j * x)) p) = 0) (T : List Nat) (hT : T.Nodup) (hTm : ∀ p, p ∈ T ↔ p < n ∧ w p ≠ 0) : T = [] ∨ c + 1 + m ≤ T.length := by
  have hn := ha.pos
  match T, hT, hTm with
  | [], _, _ => exact .inl rfl
  | p0 :: S, hT, hTm =>
    refine .inr (Nat.le_of_not_lt fun hlt => ?_)
    obtain ⟨hp0n, hp0w⟩ := (hTm p0).1 (List.mem_cons_self ..)
    have hnd := List.nodup_cons.1 hT
    let U : Nat → K := fun p => Rg.pow a (x * p)
    let Y : Nat → K := fun p => Rg.pow a (t * p)
    let q : Nat → Bool := fun p => decide (x * p % n = x * p0 % n)
    have hS1 : (S.filter q).length + 1 ≤ Nat.gcd x n := by
      have := cls_count (x := x) (p0 := p0) hn (p0 :: S.filter q) (List.nodup_cons.2 ⟨fun h => hnd.1 (List.mem_filter.1 h).1, hnd.2.filter _⟩) (fun p hp => by
        rcases List.mem_cons.1 hp with rfl | hp
        · exact ⟨hp0n, rfl⟩
        · obtain ⟨h1, h2⟩ := List.mem_filter.1 hp
          exact ⟨((hTm p).1 (List.mem_cons_of_mem _ h1)).1, by simpa [q] using h2⟩)
      simpa using this
    have hsl := split_len q S
    have hlen : S.length ≤ c - 1 + m := by simp at hlt; omega
    have hmem : ∀ p, p ∈ S ↔ p ∈ (S.filter q ++ S.filter fun p => !q p) := fun p => by
      rw [List.mem_append, List.mem_filter, List.mem_filter]
      cases h : q p <;> simp [h]
    have h0 := ht_core n Y U hp0n ((S.filter q ++ S.filter fun p => !q p).take (c - 1)) ((S.filter q ++ S.filter fun p => !q p).drop (c - 1)) (fun p => w p * Rg.pow a (s * p)) ?_ ?_ ?_ ?_
    · exact Fd.mul_ne hp0w (pow_ne' ha.ne _) h0
    · intro i hi j hj
      have h1 := hz i (by rw [List.length_take] at hi; omega) j (by rw [List.length_drop, List.length_append] at hj; omega)
      rw [← h1]
      refine Rg.sm_congr fun p _ => ?_
      show w p * Rg.pow a (s * p) * (Rg.pow (Rg.pow a (t * p)) i * Rg.pow (Rg.pow a (x * p)) j) = _
      rw [← Rg.pow_mul, ← Rg.pow_mul, ← Rg.pow_mul, Rg.mul_assoc, ← Rg.pow_add, ← Rg.pow_add]
      congr 2
      rw [Nat.add_mul, Nat.add_mul, Nat.add_assoc]
      congr 1
      rw [Nat.mul_comm i t, Nat.mul_comm j x, Nat.mul_assoc, Nat.mul_assoc, Nat.mul_assoc, Nat.mul_assoc, Nat.mul_comm i p, Nat.mul_comm j p]
    · intro p hp hne hd
      have hw : w p ≠ 0 := fun e => hd (by show w p * _ = 0; rw [e, Rg.zero_mul])
      have h1 := (hTm p).2 ⟨hp, hw⟩
      have h2 : p ∈ S := (List.mem_cons.1 h1).resolve_left hne
      rw [hmem, ← List.take_append_drop (c - 1) (S.filter q ++ S.filter fun p => !q p), List.mem_append] at h2
      exact h2
    · intro r hr e
      have h1 := (hmem r).2 (List.mem_of_mem_take hr)
      have h2 := ((hTm r).1 (List.mem_cons_of_mem _ h1)).1
      exact hnd.1 (mul_inj_nat ht h2 hp0n (ha.pow_eq e) ▸ h1)
    · intro r hr e
      rcases hx with hm | hg
      · rw [List.drop_of_length_le (by rw [List.length_append]; omega)] at hr
        cases hr
      · rw [List.drop_append, List.drop_of_length_le (by omega), List.nil_append] at hr
        have h1 := (List.mem_filter.1 (List.mem_of_mem_drop hr)).2
        have h2 := ha.pow_eq e
        simp [q, h2] at h1
end
def wtL (o : List Int) : Nat := ((List.range o.length).filter fun p => decide (o.getD p 0 ≠ 0)).length
section
variable {p m m2 : Int} {mod mod2 : List Int} [hF : IsF p m mod] [hE : IsF p m2 mod2]
theorem el_ne_zero {o : List Int} (hin : AllIn (pw p m) o) (j : Nat) : (el (o.getD j 0) : El p m mod) = 0 ↔ o.getD j 0 = 0 := by
  have hq := hF.q2
  rw [← val_zero_iff]
  by_cases hj : j < o.length
  · have := hin _ (getD_mem hj 0)
    rw [el_val, inI_in this.1 this.2]
  · rw [getD_out (by omega)]
    exact ⟨fun _ => rfl, fun _ => by rw [el_val, inI_in (by omega) (by omega)]⟩
theorem ht_word (hd : m2 % m = 0) {a : El p m2 mod2} {n : Int} (ha : AOrd a n.toNat) (s t c x k : Int) (hc : 1 ≤ c) (hk : 0 ≤ k) (ht : Int.gcd t n = 1) (hx : k = 0 ∨ (Int.gcd x n : Int) ≤ c) {o : List Int} (ho : o.length = n.toNat) (hin : AllIn (pw p m) o)
    (hz : ∀ i : Int, 0 ≤ i → i < c → ∀ j : Int, 0 ≤ j → j ≤ k → Po.val (mapP (phi p m mod m2 mod2) (phi_hm hd) (pol o)) (Rg.pow a ((s + i * t + j * x) % n).toNat) = 0) : wtL o = 0 ∨ c + 1 + k ≤ wtL o := by
  have hn := ha.pos
  have hh := phi_hm (p := p) (m := m) (mod := mod) (m2 := m2) (mod2 := mod2) hd
  have hs0 := Int.emod_nonneg s (show n ≠ 0 by omega)
  have ht0 := Int.emod_nonneg t (show n ≠ 0 by omega)
  have hx0 := Int.emod_nonneg x (show n ≠ 0 by omega)
  have hgc : ∀ y : Int, Nat.gcd (y % n).toNat n.toNat = Int.gcd y n := fun y => by
    have h1 := Int.emod_nonneg y (show n ≠ 0 by omega)
    rw [← gcd_emod' (a := y) (n := n)]
    unfold Int.gcd
    congr 1 <;> omega
  have h := ht_bound ha (fun j => phi p m mod m2 mod2 (el (o.getD j 0))) (s % n).toNat (t % n).toNat (x % n).toNat c.toNat k.toNat (by rw [hgc]; exact ht) (by rw [hgc]; omega) (by omega) (fun i hi j hj => by
      have h1 := hz i (by omega) (by omega) j (by omega) (by omega)
      rw [Po.val_eq (n := n.toNat) (by rw [← ho]; exact fun u hu => by rw [cf_mapP, pol_sh o u hu, hh.zero])] at h1
      rw [← h1]
      refine Rg.sm_congr fun u _ => ?_
      rw [cf_mapP, cf_pol]
      congr 2
      rw [← ha.mod]
      congr 1
      have e1 : (((s % n).toNat + i * (t % n).toNat + j * (x % n).toNat : Nat) : Int) = s % n + i * (t % n) + j * (x % n) := by
        push_cast
        rw [Int.toNat_of_nonneg hs0, Int.toNat_of_nonneg ht0, Int.toNat_of_nonneg hx0]
      have e2 : (s % n + i * (t % n) + j * (x % n)) % n = (s + i * t + j * x) % n := by
        rw [Int.emod_def s n, Int.emod_def t n, Int.emod_def x n, show s - n * (s / n) + i * (t - n * (t / n)) + j * (x - n * (x / n)) = s + i * t + j * x - n * (s / n + i * (t / n) + j * (x / n)) by grind]
        exact Int.sub_mul_emod_self_left _ _ _
      refine Int.natCast_inj.1 ?_
      rw [Int.natCast_emod, e1, Int.toNat_of_nonneg (show 0 ≤ n by omega), e2, Int.toNat_of_nonneg (Int.emod_nonneg _ (by omega))]) ((List.range o.length).filter fun p => decide (o.getD p 0 ≠ 0)) (List.nodup_range.filter _) (fun j => by
      rw [List.mem_filter, List.mem_range, ho, decide_eq_true_iff]
      refine and_congr_right fun _ => not_congr ?_
      rw [← el_ne_zero (p := p) (m := m) (mod := mod) hin]
      exact ⟨fun e => by show phi p m mod m2 mod2 _ = 0; rw [e, hh.zero], fun e => hh.inj (e.trans hh.zero.symm)⟩)
  rcases h with h | h
  · exact .inl (by unfold wtL; rw [h]; rfl)
  · refine .inr ?_
    have h2 : c.toNat + 1 + k.toNat ≤ wtL o := h
    omega
end
end Go.Proofs.YtgnmcoegdogfgaaGreat

set_option linter.unusedSimpArgs false
set_option linter.unusedVariables false
set_option maxRecDepth 100000
namespace Go.Proofs.YtgnmcoegdogfgaaGreat
open Go.RowKit
def wtT (o : List Int) (k : Nat) : Nat := ((List.range k).filter fun p => decide (o.getD p 0 ≠ 0)).length
theorem wtT_yes {o : List Int} {k : Nat} (h : o.getD k 0 ≠ 0) : wtT o (k + 1) = wtT o k + 1 := by
  unfold wtT
  rw [List.range_succ, List.filter_append, List.length_append, List.filter_cons, if_pos (by simpa using h)]; rfl
theorem wtT_no {o : List Int} {k : Nat} (h : o.getD k 0 = 0) : wtT o (k + 1) = wtT o k := by
  unfold wtT
  rw [List.range_succ, List.filter_append, List.length_append, List.filter_cons, if_neg (by simpa using h)]; rfl
theorem wtT_le (o : List Int) (k : Nat) : wtT o k ≤ k := by
  unfold wtT
  refine Nat.le_trans (List.length_filter_le _ _) ?_
  rw [List.length_range]; exact Nat.le_refl _
theorem ref_Weight_ent : Enters Tryz.prog 14 := enters_of Tryz.func14 (by kernel_rfl) (by kernel_rfl)
theorem ref_Weight (X : Option Addr) (nx cx : Nat) (o : List Int) (hnx : nx = o.length) (h9 : o.length ≤ 1000000) :
    Pure Tryz.prog 14 #[.slice X nx cx] [ro X (ints o)] (isV (.int .i64 (wtL o : Int))) := by
  refine pure_of (args := [.slice X nx cx]) 19 Tryz.func14 rfl rfl rfl ref_Weight_ent ⟨id, trivial⟩ (fun w0 => ?_)
  refine tr_seq ?_
  refine tr_region fun _ _ _ => ?_
  refine pu rfl rfl rfl rfl rfl ?_
  refine tr_seq ?_
  refine tr_region fun _ _ _ => ?_
  refine pu rfl rfl rfl rfl rfl ?_
  refine tr_seq ?_
  refine tr_seq ?_
  refine tr_region fun _ _ _ => ?_
  refine pu rfl rfl rfl rfl rfl ?_
  refine tr_block ?_
  refine tr_loop2 (fun (k : Int) (z : Int) => [(3, .int .i64 z), (4, .int .i64 k), (0, .slice X nx cx), (2, .int .i64 0)]) (fun (k : Int) (z : Int) => [ro X (ints o)]) (fun (k : Int) (z : Int) => (0 ≤ k ∧ k ≤ nx) ∧ z = (wtT o k.toNat : Int)) (fun (k : Int) (z : Int) => (nx - k).toNat) (0) (0) ⟨rfl, rfl, rfl, rfl, trivial⟩ (by first | exact cs _ _ | exact CSub.refl _) (⟨⟨by omega, by omega⟩, rfl⟩) (fun k z hI => ?_)
  obtain ⟨⟨hk0, hk1⟩, hz⟩ := hI
  have hwk := wtT_le o k.toNat
  have hkk : (k + 1).toNat = k.toNat + 1 := by omega
  refine tr_seq ?_
  refine tr_seq ?_
  refine tr_region fun _ _ _ => ?_
  iterate 2 refine pu rfl rfl rfl rfl rfl ?_
  refine st rfl rfl rfl rfl (rLen rfl rfl) ?_
  refine pu rfl rfl rfl rfl rfl ?_
  refine tr_cond_bool rfl (fun h3 => ?_) (fun h3 => ?_)
  · try simp only [zbA] at h3
    refine tr_skip ?_
    refine tr_seq ?_
    refine tr_block ?_
    refine tr_seq ?_
    refine tr_region fun _ _ _ => ?_
    iterate 2 refine pu rfl rfl rfl rfl rfl ?_
    refine st rfl rfl rfl rfl (rIdxI rfl rfl rfl (by omega) (by omega) (by omega)) ?_
    refine st rfl rfl rfl rfl (rLdI rfl rfl (by omega)) ?_
    refine pu rfl rfl rfl rfl rfl ?_
    refine tr_cond_bool rfl (fun h5 => ?_) (fun h5 => ?_)
    · try simp only [zbA] at h5
      refine tr_region fun _ _ _ => ?_
      refine pu rfl rfl rfl rfl rfl ?_
      refine st rfl rfl rfl rfl (rAdd rfl rfl rfl (by omega) (by omega)) ?_
      refine pu rfl rfl rfl rfl rfl ?_
      refine tr_region fun _ _ _ => ?_
      refine pu rfl rfl rfl rfl rfl ?_
      refine st rfl rfl rfl rfl (rAdd rfl rfl rfl (by omega) (by omega)) ?_
      refine pu rfl rfl rfl rfl rfl ?_
      refine ⟨k + 1, z + 1, ⟨rfl, rfl, rfl, rfl, trivial⟩, by first | exact cs _ _ | exact CSub.refl _, ?_⟩
      exact ⟨⟨⟨by omega, by omega⟩, by rw [hkk, wtT_yes (by omega), hz]; rfl⟩, by omega⟩
    · try simp only [zbA] at h5
      refine tr_skip ?_
      refine tr_region fun _ _ _ => ?_
      refine pu rfl rfl rfl rfl rfl ?_
      refine st rfl rfl rfl rfl (rAdd rfl rfl rfl (by omega) (by omega)) ?_
      refine pu rfl rfl rfl rfl rfl ?_
      refine ⟨k + 1, z, ⟨rfl, rfl, rfl, rfl, trivial⟩, by first | exact cs _ _ | exact CSub.refl _, ?_⟩
      exact ⟨⟨⟨by omega, by omega⟩, by rw [hkk, wtT_no (by omega), hz]⟩, by omega⟩
  · try simp only [zbA] at h3
    refine tr_exit ?_
    refine tr_seq ?_
    refine tr_region fun _ _ _ => ?_
    iterate 2 refine pu rfl rfl rfl rfl rfl ?_
    have hkn : k.toNat = o.length := by omega
    exact tr_ret ⟨trivial, _, _, rfl, ⟨by rw [hz, hkn]; rfl, rfl⟩, CSub.nil _, trivial⟩
theorem ref_Of_ent : Enters Tryz.prog 15 := enters_of Tryz.func15 (by kernel_rfl) (by kernel_rfl)
theorem ref_Of (p m : Int) (A : Option Addr) (c : Nat) (mod : List Int) [hF : IsF p m mod] (w : Int) (Aa : Option Addr) (n ca : Nat) (rs : List RowM) (hn : n = rs.length) (h9 : rs.length ≤ 256) (hc : CodeOk p m mod w rs) (X : Option Addr) (nx cx : Nat) (l : List Int) (hnx : nx = l.length) (hl : l.length ≤ 17592186044415) :
    Pure Tryz.prog 15 #[.agg #[.int .i64 p, .int .i64 m, .slice A mod.length c, .int .i64 w, .slice Aa n ca], .slice X nx cx] [ro A (ints mod), ro Aa (hdrs rs), rowsR rs, ro X (ints l)] (one (fun v ch => ∃ B cb o, v = .slice B o.length cb ∧ ch = ow B 3 cb (ints o) ∧ (o.length : Int) = w ∧ AllIn (pw p m) o ∧ Vc.SpL (vsR rs : List (Vc (El p m mod))) (rw' o))) := by
  have hn1 := hc.n1
  have hn64 := hc.n64
  have hgd := hc.good
  have hq2 := hF.q2
  have hlen := hc.len
  refine pure_of (args := [.agg #[.int .i64 p, .int .i64 m, .slice A mod.length c, .int .i64 w, .slice Aa n ca], .slice X nx cx]) 41 Tryz.func15 rfl rfl rfl ref_Of_ent ⟨id, id, id, id, trivial⟩ (fun w0 => ?_)
  refine tr_seq ?_
  refine tr_region fun _ _ _ => ?_
  refine ef rfl rfl (eBox rfl rfl rfl rfl rfl (fun p0 => ?_)) 
  refine pu rfl rfl rfl rfl rfl ?_
  refine tr_seq ?_
  refine tr_region fun _ _ _ => ?_
  refine st rfl rfl rfl rfl (rFld rfl rfl) ?_
  refine st rfl rfl rfl rfl (rLdF rfl rfl rfl) ?_
  refine st rfl rfl rfl rfl (rLen rfl rfl) ?_
  refine ef rfl rfl (eMakeI rfl rfl rfl rfl rfl (by omega) (by omega) (by omega) (fun A1 => ?_)) 
  refine pu rfl rfl rfl rfl rfl ?_
  refine tr_seq ?_
  refine tr_seq ?_
  refine tr_region fun _ _ _ => ?_
  refine pu rfl rfl rfl rfl rfl ?_
  refine tr_block ?_
  refine tr_loop2 (fun (k : Int) (x : List Int) => [(5, .slice A1 n n), (6, .int .i64 k), (1, .slice X nx cx), (2, .pointer (some p0)), (4, .slice none 0 0)]) (fun (k : Int) (x : List Int) => [ow A1 3 n (ints x), blk p0 27 [.int .i64 p, .int .i64 m, .slice A mod.length c, .int .i64 w, .slice Aa n ca], ro A (ints mod), ro Aa (hdrs rs), rowsR rs, ro X (ints l)]) (fun (k : Int) (x : List Int) => (0 ≤ k ∧ k ≤ n) ∧ x.length = n) (fun (k : Int) (x : List Int) => (n - k).toNat) (0) (List.replicate n 0) ⟨rfl, rfl, rfl, rfl, rfl, trivial⟩ (by first | exact cs _ _ | exact CSub.refl _) (⟨⟨by omega, by omega⟩, by simp⟩) (fun k x hI => ?_)
  obtain ⟨⟨hk0, hk1⟩, hxl0⟩ := hI
  refine tr_seq ?_
  refine tr_seq ?_
  refine tr_region fun _ _ _ => ?_
  iterate 2 refine pu rfl rfl rfl rfl rfl ?_
  refine st rfl rfl rfl rfl (rLen rfl rfl) ?_
  iterate 2 refine pu rfl rfl rfl rfl rfl ?_
  refine stg rfl rfl rfl rfl rfl (fun hb => by (have hq := hb; try simp only [zbA] at hq); exact rMove rfl rfl) ?_
  refine stg rfl rfl rfl rfl rfl (fun hb => by (have hq := hb; try simp only [zbA] at hq); exact rMove rfl rfl) ?_
  refine stg rfl rfl rfl rfl rfl (fun hb => by (have hq := hb; try simp only [zbA] at hq); exact rLen rfl (evg rfl hb)) ?_
  refine stg rfl rfl rfl rfl rfl (fun hb => by (have hq := hb; try simp only [zbA] at hq); exact rLss rfl (evg rfl hb) (evg rfl hb)) ?_
  refine st rfl rfl rfl rfl (rAndB rfl rfl rfl rfl) ?_
  refine tr_cond_bool rfl (fun h3 => ?_) (fun h3 => ?_)
  · try simp only [zbA] at h3
    refine tr_skip ?_
    refine tr_seq ?_
    refine tr_block ?_
    refine tr_draw [0, 1, 2, 3, 4, 5, 6, 7, 8, 9] [10] mixed (by kernel_rfl) fun _ _ _ => ?_
    iterate 2 refine pu rfl rfl rfl rfl rfl ?_
    refine st rfl rfl rfl rfl (rFld rfl rfl) ?_
    refine st rfl rfl rfl rfl (rLdSF rfl rfl) ?_
    iterate 2 refine pu rfl rfl rfl rfl rfl ?_
    refine st rfl rfl rfl rfl (rIdxI rfl rfl rfl (by omega) (by omega) (by omega)) ?_
    refine st rfl rfl rfl rfl (rLdI rfl rfl (by omega)) ?_
    refine ef rfl rfl (eCallV rfl rfl rfl (ref_In _ _ _ _ _ _) ⟨rfl, rfl, trivial⟩ ?_) 
    refine st rfl rfl rfl rfl (rIdxI rfl rfl rfl (by omega) (by omega) (by omega)) ?_
    refine ef rfl rfl (eStI rfl rfl rfl rfl (by omega) ?_) 
    refine tr_region fun _ _ _ => ?_
    refine pu rfl rfl rfl rfl rfl ?_
    refine st rfl rfl rfl rfl (rAdd rfl rfl rfl (by omega) (by omega)) ?_
    refine pu rfl rfl rfl rfl rfl ?_
    refine ⟨k + 1, x.set k.toNat (inI (ordI p m) (l.getD k.toNat 0)), ⟨rfl, rfl, rfl, rfl, rfl, trivial⟩, by first | exact cs _ _ | exact CSub.refl _, ?_⟩
    exact ⟨⟨⟨by omega, by omega⟩, by simpa using hxl0⟩, by omega⟩
  · try simp only [zbA] at h3
    refine tr_exit ?_
    refine tr_seq ?_
    have hxn : n = x.length := by omega
    have hxl : x.length = rs.length := by omega
    refine tr_region fun _ _ _ => ?_
    refine st rfl rfl rfl rfl (rFld rfl rfl) ?_
    refine st rfl rfl rfl rfl (rLdSF rfl rfl) ?_
    refine pu rfl rfl rfl rfl rfl ?_
    refine st rfl rfl rfl rfl (rFld rfl rfl) ?_
    refine st rfl rfl rfl rfl (rLdF rfl rfl rfl) ?_
    refine st rfl rfl rfl rfl (rFld rfl rfl) ?_
    refine st rfl rfl rfl rfl (rLdF rfl rfl rfl) ?_
    refine ef rfl rfl (eCall1 rfl rfl rfl (ref_Combine _ _ _ _ _ A1 _ _ x hxn w (by omega) (by omega) Aa _ ca rs hn hxl (by omega) hgd) ⟨rfl, rfl, rfl, rfl, trivial⟩ ?_) 
    rintro _ _ ⟨Bo, cb, o, rfl, rfl, hol, hoi, hoe⟩
    refine pu rfl rfl rfl rfl rfl ?_
    exact tr_ret ⟨trivial, _, _, rfl, ⟨_, rfl, Bo, cb, o, rfl, rfl, by omega, hoi, hoe ▸ Vc.cmb_sp _ _⟩, cs _ _, trivial, trivial⟩
end Go.Proofs.YtgnmcoegdogfgaaGreat

set_option linter.unusedSimpArgs false
set_option linter.unusedVariables false
namespace Go.Proofs.YtgnmcoegdogfgaaGreat
open Go.RowKit
theorem sub_le {l1 l2 : List Int} (hd : l1.Nodup) (hs : ∀ a ∈ l1, a ∈ l2) : l1.length ≤ l2.length := Nat.le_of_not_lt fun h => by
  have := (Fd.perm_of_sub l1 l2 hd hs (by omega)).length_eq
  omega
theorem stp_pw {q n i : Int} (hi : 0 ≤ i ∧ i < n) : ∀ k, stp q n k i = i * q ^ k % n
  | 0 => by rw [stp, Int.pow_zero, Int.mul_one, Int.emod_eq_of_lt hi.1 hi.2]
  | k + 1 => by rw [stp, stp_pw hi k, Int.pow_succ, ← Int.mul_assoc, Int.mul_emod (i * q ^ k % n), Int.emod_emod_of_dvd _ (Int.dvd_refl n), ← Int.mul_emod]
theorem sum_const {α : Type} (e : Nat) : ∀ l : List α, (l.map fun _ => e).sum = l.length * e
  | [] => by simp
  | a :: l => by rw [List.map_cons, List.sum_cons, sum_const e l, List.length_cons, Nat.add_mul, Nat.one_mul, Nat.add_comm]
theorem cls_nodup (q n : Int) (zs : List Int) : (clsL q n zs).Nodup := (clsL_lt q n zs).imp fun h e => by omega
theorem cls_size {q n : Int} (hn : 1 ≤ n) {e : Nat} (he : 1 ≤ e) (h : q ^ e % n = 1 % n) (zs : List Int) : (clsL q n zs).length ≤ zs.length * e := by
  have h1 : (zs.flatMap fun z => (List.range e).map fun k => stp q n k (z % n)).length = zs.length * e := by
    rw [List.length_flatMap]
    simp only [List.length_map, List.length_range]
    exact sum_const e zs
  rw [← h1]
  refine sub_le (cls_nodup q n zs) fun j hj => ?_
  obtain ⟨_, z, hz, k, hk⟩ := (mem_clsL hn).1 hj
  have hb : 0 ≤ z % n ∧ z % n < n := ⟨Int.emod_nonneg _ (by omega), Int.emod_lt_of_pos _ (by omega)⟩
  have hc : stp q n e (z % n) = stp q n 0 (z % n) := by
    rw [stp_pw hb, stp, Int.mul_emod, h, ← Int.mul_emod, Int.mul_one, Int.emod_eq_of_lt hb.1 hb.2]
  obtain ⟨s, hs, hse⟩ := stp_closed (show 0 < e by omega) hc k
  exact List.mem_flatMap.2 ⟨z, hz, List.mem_map.2 ⟨s, List.mem_range.2 hs, by rw [hk, hse]⟩⟩
section
variable {p m m2 : Int} {mod mod2 : List Int} [hE : IsF p m2 mod2]
theorem ext_pow (hF : IsF p m mod) (hd : m2 % m = 0) {a : El p m2 mod2} {n : Int} (ha : AOrd a n.toNat) : 1 ≤ (m2 / m).toNat ∧ pw p m ^ (m2 / m).toNat % n = 1 % n := by
  have hp := hF.p2
  have h1 := hF.m1
  have h2 := hE.m1
  have hn := ha.pos
  have hq2 := hE.q2
  obtain ⟨c, hc⟩ := Int.dvd_of_emod_eq_zero hd
  have hc0 : 1 ≤ c := by
    rcases Int.lt_or_le c 1 with h | h
    · have := Int.mul_nonneg (show 0 ≤ m by omega) (show 0 ≤ -c by omega)
      rw [Int.mul_neg] at this; omega
    · exact h
  have e : m2 / m = c := by rw [hc, Int.mul_ediv_cancel_left _ (by omega)]
  rw [e]
  refine ⟨by omega, ?_⟩
  have e1 : pw p m ^ c.toNat = pw p m2 := by
    unfold pw
    rw [hc, Int.toNat_mul (by omega) (by omega), Int.pow_mul]
  rw [e1]
  have h3 := ha.dvd (k := (pw p m2 - 1).toNat) (pow_last ha.ne)
  obtain ⟨k, hk⟩ := h3
  have h4 : pw p m2 = 1 + n * k := by
    have : ((pw p m2 - 1).toNat : Int) = ((n.toNat * k : Nat) : Int) := by rw [hk]
    rw [Int.natCast_mul, Int.toNat_of_nonneg (show 0 ≤ n by omega), Int.toNat_of_nonneg (by omega)] at this
    omega
  rw [h4, Int.add_mul_emod_self_left]
end
section
variable {p m m2 : Int} {mod mod2 : List Int} [hF : IsF p m mod] [hE : IsF p m2 mod2]
theorem des_wt (hd : m2 % m = 0) {a : El p m2 mod2} {n : Int} (ha : AOrd a n.toNat) {b d : Int} (hd1 : 1 ≤ d) {g : Po (El p m mod)} (hg : mapP (phi p m mod m2 mod2) (phi_hm hd) g = rootP (clsR a (clsL (pw p m) n (consL b d)))) {o : List Int} (ho : o.length = n.toNat) (hin : AllIn (pw p m) o) (hgo : g ∣ pol o) : wtL o = 0 ∨ d ≤ wtL o := by
  by_cases h1 : d = 1
  · omega
  · have h2 := (gen_dvd hd ha hg (pol o)).1 hgo
    have h := ht_word hd ha b 1 (d - 1) 0 0 (by omega) (by omega) (by rw [Int.gcd_comm, Int.gcd_one]) (.inl rfl) ho hin (fun i hi0 hi1 j hj0 hj1 => by
      refine h2 _ ?_
      refine List.mem_map.2 ⟨i.toNat, List.mem_range.2 (by omega), ?_⟩
      omega)
    omega
end
section
variable {p m : Int} {mod : List Int} [hF : IsF p m mod]
theorem cyw_word {n : Nat} {g : Po (El p m mod)} {x : List Int} (h : CyW n g (rw' x)) : g ∣ pol x := by
  obtain ⟨f, hf, _, hg⟩ := h
  have : f = pol x := Po.ext fun j => (hf j).symm
  rw [← this]; exact hg
theorem cls_self {a : El p m mod} {n : Int} (ha : AOrd a n.toNat) {b d : Int} (hd1 : 1 ≤ d) (hdn : d ≤ n) : (clsL (pw p m) n (consL b d)).length = (d - 1).toNat := by
  have hn := ha.pos
  have h1 := hF.m1
  obtain ⟨_, he⟩ := ext_pow hF Int.emod_self ha
  rw [Int.ediv_self (by omega)] at he
  have h2 := cls_size (q := pw p m) (n := n) (by omega) (e := 1) (by omega) he (consL b d)
  rw [consL_length, Nat.mul_one] at h2
  refine Nat.le_antisymm h2 ?_
  have h3 : ((consL b d).map (· % n)).length = (d - 1).toNat := by rw [List.length_map, consL_length]
  rw [← h3]
  refine sub_le ?_ fun j hj => ?_
  · unfold consL
    rw [List.map_map, List.Nodup, List.pairwise_map]
    refine List.Pairwise.imp_of_mem ?_ List.nodup_range
    intro u v hu hv hne e
    have h4 := List.mem_range.1 hu
    have h5 := List.mem_range.1 hv
    have h6 : (b + u - (b + v)) % n = 0 := Int.emod_eq_emod_iff_emod_sub_eq_zero.1 e
    have h7 : n ∣ (u : Int) - v := by rw [show (u : Int) - v = b + u - (b + v) by omega]; exact Int.dvd_of_emod_eq_zero h6
    have h8 : n.natAbs ∣ ((u : Int) - v).natAbs := Int.natAbs_dvd_natAbs.2 h7
    have h9 := Nat.eq_zero_of_dvd_of_lt h8 (by omega)
    omega
  · obtain ⟨z, hz, rfl⟩ := List.mem_map.1 hj
    exact (mem_clsL (by omega)).2 ⟨⟨Int.emod_nonneg _ (by omega), Int.emod_lt_of_pos _ (by omega)⟩, z, hz, Orb.refl _ _ _⟩
theorem Rr_low {n : Nat} {R : List (Vc (El p m mod))} {ps : List Nat} (h : Vc.Rr n R ps) : ∀ i, i < ps.length → i ≤ ps.getD i 0
  | 0, _ => Nat.zero_le _
  | i + 1, hi => by
    have h1 := Rr_low h i (by omega)
    have h2 := h.rise i (i + 1) (by omega) hi
    omega
theorem last_wt {n : Nat} {rs : List RowM} {W : Vc (El p m mod) → Prop} (hC : CdOf p m mod n rs W) (hk : 1 ≤ rs.length) : wtL (rs.getD (rs.length - 1) rowD).xs + (rs.length - 1) ≤ n ∧ wtL (rs.getD (rs.length - 1) rowD).xs ≠ 0 := by
  obtain ⟨ps, hp⟩ := hC.form
  have hl := hp.len
  rw [vsR_length] at hl
  have hgd := hC.good.get (show rs.length - 1 < rs.length by omega)
  have hlo := Rr_low hp (rs.length - 1) (by omega)
  have hlow := hp.low (rs.length - 1)
  have hone := hp.one (rs.length - 1) (by omega)
  have hlt := hp.lt (rs.length - 1) (by omega)
  rw [vsR_get] at hone
  constructor
  · unfold wtL
    have h1 := split_len (fun j => decide ((rs.getD (rs.length - 1) rowD).xs.getD j 0 ≠ 0)) (List.range (rs.getD (rs.length - 1) rowD).xs.length)
    rw [List.length_range, hgd.1] at h1
    rw [hgd.1]
    have h2 : rs.length - 1 ≤ ((List.range n).filter fun j => !decide ((rs.getD (rs.length - 1) rowD).xs.getD j 0 ≠ 0)).length := by
      have h3 : (List.range (rs.length - 1)).length ≤ ((List.range n).filter fun j => !decide ((rs.getD (rs.length - 1) rowD).xs.getD j 0 ≠ 0)).length := by
        refine List.Sublist.length_le ?_
        have h4 : List.range (rs.length - 1) = (List.range (rs.length - 1)).filter fun j => !decide ((rs.getD (rs.length - 1) rowD).xs.getD j 0 ≠ 0) := by
          refine (List.filter_eq_self.2 fun j hj => ?_).symm
          have h5 := List.mem_range.1 hj
          have h6 := hlow j (by omega) (by omega)
          rw [vsR_get, rw_at, el_ne_zero hgd.2] at h6
          show (!decide (_ ≠ 0)) = true
          rw [decide_eq_false (fun h => h h6)]; rfl
        rw [h4]
        refine List.Sublist.filter _ ?_
        rw [show n = (rs.length - 1) + (n - (rs.length - 1)) by omega, List.range_add]
        exact List.sublist_append_left _ _
      rwa [List.length_range] at h3
    omega
  · intro h
    unfold wtL at h
    have h1 := List.eq_nil_of_length_eq_zero h
    have h2 : ps.getD (rs.length - 1) 0 ∈ (List.range (rs.getD (rs.length - 1) rowD).xs.length).filter fun j => decide ((rs.getD (rs.length - 1) rowD).xs.getD j 0 ≠ 0) := by
      refine List.mem_filter.2 ⟨List.mem_range.2 (by rw [hgd.1]; exact hlt), ?_⟩
      rw [decide_eq_true_iff]
      intro e
      rw [rw_at, e, el_zero] at hone
      exact Fd.one_ne (K := El p m mod) hone.symm
    rw [h1] at h2
    cases h2
end
end Go.Proofs.YtgnmcoegdogfgaaGreat

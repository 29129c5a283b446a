/-
  BCHWEIGHTS, PART 6 OF 10. One sentence: the texts behind the law BchWeights, put together.
  Conditions: each theorem's own, written out in it.
-/
import Derived.Test.YtgnmcoegdogfgaaGreatK5
set_option linter.unusedSimpArgs false
set_option linter.unusedVariables false
set_option linter.unusedSectionVars false
set_option linter.unusedSimpArgs false
set_option linter.unusedVariables false
set_option maxRecDepth 100000
namespace Go.Proofs.YtgnmcoegdogfgaaGreat
open Go.RowKit
theorem ref_Combine_ent : Enters Tryz.prog 50 := enters_of Tryz.func50 (by kernel_rfl) (by kernel_rfl)
theorem ref_Combine (p m : Int) (A : Option Addr) (c : Nat) (mod : List Int) [hF : IsF p m mod] (X : Option Addr) (nx cx : Nat) (x : List Int) (hnx : nx = x.length) (w : Int) (hw0 : 0 ≤ w) (hw9 : w ≤ 1000) (Aa : Option Addr) (n ca : Nat) (rs : List RowM) (hn : n = rs.length) (hx : x.length = rs.length) (h9 : rs.length ≤ 1000000) (hgd : Gd (pw p m) w.toNat rs) :
    Pure Tryz.prog 50 #[.agg #[.int .i64 p, .int .i64 m, .slice A mod.length c], .slice X nx cx, .slice Aa n ca, .int .i64 w] [ro A (ints mod), ro X (ints x), ro Aa (hdrs rs), rowsR rs] (one (fun v ch => ∃ B cb o, v = .slice B o.length cb ∧ ch = ow B 3 cb (ints o) ∧ (o.length : Int) = w ∧ AllIn (pw p m) o ∧ (rw' o : Vc (El p m mod)) = Vc.cmb (fun i => el (x.getD i 0)) (vsR rs))) := by
  have hq2 := hF.q2
  refine pure_of (args := [.agg #[.int .i64 p, .int .i64 m, .slice A mod.length c], .slice X nx cx, .slice Aa n ca, .int .i64 w]) 42 Tryz.func50 rfl rfl rfl ref_Combine_ent ⟨id, id, id, id, trivial⟩ (fun w0 => ?_)
  refine tr_seq ?_
  refine tr_region fun _ _ _ => ?_
  refine ef rfl rfl (eBox rfl rfl rfl rfl rfl (fun p0 => ?_)) 
  refine pu rfl rfl rfl rfl rfl ?_
  refine tr_seq ?_
  refine tr_region fun _ _ _ => ?_
  refine pu rfl rfl rfl rfl rfl ?_
  refine ef rfl rfl (eMakeI rfl rfl rfl rfl rfl (by omega) (by omega) (by omega) (fun A1 => ?_)) 
  refine pu rfl rfl rfl rfl rfl ?_
  refine tr_seq ?_
  refine tr_seq ?_
  refine tr_region fun _ _ _ => ?_
  refine pu rfl rfl rfl rfl rfl ?_
  refine tr_block ?_
  refine tr_loop5 (fun (k : Int) (B : Option Addr) (cb : Nat) (no : Nat) (o : List Int) => [(9, .slice B no cb), (10, .int .i64 k), (1, .slice X nx cx), (2, .slice Aa n ca), (4, .pointer (some p0)), (8, .slice none 0 0)]) (fun (k : Int) (B : Option Addr) (cb : Nat) (no : Nat) (o : List Int) => [ow B 3 cb (ints o), blk p0 24 [.int .i64 p, .int .i64 m, .slice A mod.length c], ro A (ints mod), ro X (ints x), ro Aa (hdrs rs), rowsR rs]) (fun (k : Int) (B : Option Addr) (cb : Nat) (no : Nat) (o : List Int) => (0 ≤ k ∧ k ≤ n) ∧ no = o.length ∧ ((o.length : Int) = w ∧ AllIn (pw p m) o) ∧ (rw' o : Vc (El p m mod)) = Vc.cmb (Vc.upC (fun i => (el (x.getD i 0) : El p m mod)) k.toNat) (vsR rs)) (fun (k : Int) (B : Option Addr) (cb : Nat) (no : Nat) (o : List Int) => (n - k).toNat) (0) (A1) (w.toNat) (w.toNat) (List.replicate w.toNat 0) ⟨rfl, rfl, rfl, rfl, rfl, rfl, trivial⟩ (by first | exact cs _ _ | exact CSub.refl _) (⟨⟨by omega, by omega⟩, by simp, ⟨by simp; omega, allIn_rep (by omega) _⟩, by rw [Int.toNat_zero, Vc.cmb_up_zero]; exact Vc.ext fun j => by rw [rw_at, rep_get, el_zero]; rfl⟩) (fun k B cb no o hI => ?_)
  obtain ⟨⟨hk0, hk1⟩, hno, ⟨hol, hoi⟩, hoe⟩ := hI
  refine tr_seq ?_
  refine tr_seq ?_
  refine tr_region fun _ _ _ => ?_
  iterate 2 refine pu rfl rfl rfl rfl rfl ?_
  refine st rfl rfl rfl rfl (rLen rfl rfl) ?_
  iterate 2 refine pu rfl rfl rfl rfl rfl ?_
  refine stg rfl rfl rfl rfl rfl (fun hb => by (have hq := hb; try simp only [zbA] at hq); exact rMove rfl rfl) ?_
  refine stg rfl rfl rfl rfl rfl (fun hb => by (have hq := hb; try simp only [zbA] at hq); exact rMove rfl rfl) ?_
  refine stg rfl rfl rfl rfl rfl (fun hb => by (have hq := hb; try simp only [zbA] at hq); exact rLen rfl (evg rfl hb)) ?_
  refine stg rfl rfl rfl rfl rfl (fun hb => by (have hq := hb; try simp only [zbA] at hq); exact rLss rfl (evg rfl hb) (evg rfl hb)) ?_
  refine st rfl rfl rfl rfl (rAndB rfl rfl rfl rfl) ?_
  refine tr_cond_bool rfl (fun h3 => ?_) (fun h3 => ?_)
  · try simp only [zbA] at h3
    refine tr_skip ?_
    refine tr_seq ?_
    refine tr_block ?_
    refine tr_seq ?_
    haveI : InB k.toNat rs.length := ⟨by omega⟩
    have hgk := hgd.get (show k.toNat < rs.length by omega)
    have hgk1 := hgk.1
    refine tr_region fun _ _ _ => ?_
    iterate 2 refine pu rfl rfl rfl rfl rfl ?_
    refine st rfl rfl rfl rfl (rIdxI rfl rfl rfl (by omega) (by omega) (by omega)) ?_
    refine st rfl rfl rfl rfl (rLdI rfl rfl (by omega)) ?_
    refine pu rfl rfl rfl rfl rfl ?_
    refine tr_cond_bool rfl (fun h5 => ?_) (fun h5 => ?_)
    · try simp only [zbA] at h5
      refine tr_draw [0, 1, 2, 3, 4, 5, 6, 7, 8, 9, 10, 11] [] mixed (by kernel_rfl) fun _ _ _ => ?_
      refine st rfl rfl rfl rfl (rLdS rfl rfl rfl) ?_
      iterate 3 refine pu rfl rfl rfl rfl rfl ?_
      refine st rfl rfl rfl rfl (rIdxI rfl rfl rfl (by omega) (by omega) (by omega)) ?_
      refine st rfl rfl rfl rfl (rLdI rfl rfl (by omega)) ?_
      iterate 2 refine pu rfl rfl rfl rfl rfl ?_
      refine st rfl rfl rfl rfl (rIdxR rfl rfl rfl (by omega) (by omega) (by omega)) ?_
      refine st rfl rfl rfl rfl (rLdR rfl rfl (by omega)) ?_
      refine ef rfl rfl (eCall1 rfl rfl rfl (ref_AddTo _ _ _ _ _ B no cb o hno (by omega) _ _ _ _ (rs.getD k.toNat rowD).xs rfl (by omega) hoi) ⟨rfl, rfl, rfl, rfl, trivial⟩ ?_) 
      rintro _ _ ⟨B6, rfl, rfl⟩
      refine pu rfl rfl rfl rfl rfl ?_
      refine tr_region fun _ _ _ => ?_
      refine pu rfl rfl rfl rfl rfl ?_
      refine st rfl rfl rfl rfl (rAdd rfl rfl rfl (by omega) (by omega)) ?_
      refine pu rfl rfl rfl rfl rfl ?_
      refine ⟨k + 1, B6, no, no, addR (el (x.getD k.toNat 0) : El p m mod) o (rs.getD k.toNat rowD).xs, ⟨rfl, rfl, rfl, rfl, rfl, rfl, trivial⟩, by first | exact cs _ _ | exact CSub.refl _, ?_⟩
      refine ⟨⟨⟨by omega, by omega⟩, by simpa using hno, ⟨by simpa using hol, addR_in _ _ _⟩, ?_⟩, by omega⟩
      rw [show (k + 1).toNat = k.toNat + 1 by omega, Vc.cmb_up_succ _ (by rw [vsR_length]; omega), rw_addR _ _ _ (by omega), hoe, vsR_get]
    · try simp only [zbA] at h5
      refine tr_skip ?_
      refine tr_region fun _ _ _ => ?_
      refine pu rfl rfl rfl rfl rfl ?_
      refine st rfl rfl rfl rfl (rAdd rfl rfl rfl (by omega) (by omega)) ?_
      refine pu rfl rfl rfl rfl rfl ?_
      refine ⟨k + 1, B, cb, no, o, ⟨rfl, rfl, rfl, rfl, rfl, rfl, trivial⟩, by first | exact cs _ _ | exact CSub.refl _, ?_⟩
      have hz : x.getD k.toNat 0 = 0 := by omega
      refine ⟨⟨⟨by omega, by omega⟩, hno, ⟨hol, hoi⟩, ?_⟩, by omega⟩
      rw [show (k + 1).toNat = k.toNat + 1 by omega, Vc.cmb_up_succ _ (by rw [vsR_length]; omega), hoe, hz, el_zero, Vc.zero_sc, Vc.add_zero]
  · try simp only [zbA] at h3
    refine tr_exit ?_
    refine tr_seq ?_
    refine tr_region fun _ _ _ => ?_
    iterate 2 refine pu rfl rfl rfl rfl rfl ?_
    have hkn : k.toNat = rs.length := by omega
    rw [Vc.cmb_up_all _ (by rw [vsR_length]; omega)] at hoe
    subst hno
    exact tr_ret ⟨trivial, _, _, rfl, ⟨_, rfl, B, cb, o, rfl, rfl, hol, hoi, hoe⟩, cs _ _, trivial, trivial⟩
end Go.Proofs.YtgnmcoegdogfgaaGreat

set_option linter.unusedSimpArgs false
set_option linter.unusedVariables false
set_option maxRecDepth 100000
namespace Go.Proofs.YtgnmcoegdogfgaaGreat
open Go.RowKit
section
variable {p m : Int} {mod : List Int} [hF : IsF p m mod]
theorem val_cons (a : Int) (l : List Int) (x : El p m mod) : Po.val (pol (a :: l) : Po (El p m mod)) x = Po.val (pol l) x * x + el a := by
  have e : (pol (a :: l) : Po (El p m mod)) = Po.mn 1 1 * pol l + Po.C (el a) := Po.ext fun j => by
    rw [Po.cf_add, Po.cf_mn_mul, cf_pol, cf_pol]
    cases j with
    | zero => rw [if_pos (by omega), Rg.zero_add]; rfl
    | succ j =>
      rw [if_neg (by omega), Rg.one_mul]
      have h : Po.cf (Po.C (el a) : Po (El p m mod)) (j + 1) = 0 := by unfold Po.C; rw [Po.cf_mn, if_neg (by omega)]
      rw [h, Rg.add_zero]; rfl
  rw [e, Po.val_add, Po.val_mul, Po.val_C, Po.val_mn, Rg.pow_one, Rg.one_mul, Rg.mul_comm]
theorem val_nil (x : El p m mod) : Po.val (pol [] : Po (El p m mod)) x = 0 := by rw [pol_nil, Po.val_zero]
theorem val_sum (l : List Int) (x : El p m mod) : Po.val (pol l : Po (El p m mod)) x = Rg.sm l.length fun i => el (l.getD i 0) * Rg.pow x i := Po.val_eq (pol_sh l) x
theorem drop_cons {l : List Int} {i : Nat} (h : i < l.length) : l.drop i = l.getD i 0 :: l.drop (i + 1) := by
  rw [List.drop_eq_getElem_cons h, List.getD_eq_getElem?_getD, List.getElem?_eq_getElem h]; rfl
noncomputable def zset (p m : Int) (mod : List Int) [hF : IsF p m mod] (f : Po (El p m mod)) : Int → Bool := fun x => @decide (Po.val f (el x) = 0) (Classical.propDecidable _)
theorem zset_iff {f : Po (El p m mod)} {x : Int} : zset p m mod f x = true ↔ Po.val f (el x) = 0 := @decide_eq_true_iff _ (Classical.propDecidable _)
theorem pow_rem {x : El p m mod} (hx : x ≠ 0) (k : Nat) : Rg.pow x (k % (pw p m - 1).toNat) = Rg.pow x k := by
  have h := Nat.div_add_mod k (pw p m - 1).toNat
  have e : Rg.pow x k = Rg.pow x ((pw p m - 1).toNat * (k / (pw p m - 1).toNat) + k % (pw p m - 1).toNat) := by rw [h]
  rw [e, Rg.pow_add, Rg.pow_mul, pow_last hx, Rg.one_pow, Rg.one_mul]
theorem exp_pow {g : GfM} (hg : GOk g p m mod) : ∃ y : El p m mod, y ≠ 0 ∧ ∀ i : Nat, i < g.exp.length → (el (g.exp.getD i 0) : El p m mod) = Rg.pow y i := by
  obtain ⟨x, hx⟩ := hg.gen
  have h1 := hx.x1
  have h2 := hx.x2
  refine ⟨el x, fun e => by rw [el_eq_zero ⟨by omega, h2⟩] at e; omega, fun i hi => El.ext ?_⟩
  have h3 := hx.pow.get i hi
  have h4 := pow_val hF.out (el x) i
  rw [Fd.pow_eq, el_in ⟨by omega, h2⟩] at h4
  have h5 : g.exp.getD i 0 ∈ g.exp := getD_mem hi 0
  have h6 := hx.pow.nz _ h5
  rw [el_in ⟨by omega, h6.2⟩, h3]
  exact h4.symm
end
theorem gf_Field_ent : Enters Tryz.prog 162 := enters_of Tryz.func162 (by kernel_rfl) (by kernel_rfl)
theorem gf_Field (g : GfM) (h9 : g.mod.length ≤ 1000000) :
    Pure Tryz.prog 162 #[.pointer (some g.p)] [gfR g] (one (fun v ch => ∃ B cb, v = .agg #[.int .i64 g.P, .int .i64 g.M, .slice B g.mod.length cb] ∧ ch = ow B 3 cb (ints g.mod))) := by
  refine pure_ofC (args := [.pointer (some g.p)]) 21 Tryz.func162 rfl rfl rfl gf_Field_ent ⟨id, trivial⟩ (fun w0 => ?_)
  refine tr_seq ?_
  refine tr_region fun _ _ _ => ?_
  refine ef rfl rfl (eAlloc rfl rfl rfl (fun p0 => ?_)) 
  refine tr_seq ?_
  refine tr_plan [gfR g] [(2, 0), (2, 1), (2, 2), (2, 3), (2, 4), (2, 5), (2, 6), (2, 7), (2, 8), (2, 9), (0, 11), (0, 12), (0, 13), (0, 14), (0, 15), (0, 10), (1, 16), (0, 17), (1, 18)] mixed (by kernel_rfl) fun _ _ _ => ?_
  refine stF rfl rfl rfl rfl (cs _ _) (rMove rfl rfl) ?_
  refine stF rfl rfl rfl rfl (cs _ _) (rNil rfl rfl) ?_
  refine stF rfl rfl rfl rfl (cs _ _) (rFld rfl rfl) ?_
  refine stF rfl rfl rfl rfl (cs _ _) (rFldN rfl rfl) ?_
  refine stF rfl rfl rfl rfl (cs _ _) (rLdF rfl rfl rfl) ?_
  refine stF rfl rfl rfl rfl (cs _ _) (rMove rfl rfl) ?_
  refine stF rfl rfl rfl rfl (cs _ _) (rNil rfl rfl) ?_
  refine stF rfl rfl rfl rfl (cs _ _) (rFld rfl rfl) ?_
  refine stF rfl rfl rfl rfl (cs _ _) (rFldN rfl rfl) ?_
  refine stF rfl rfl rfl rfl (cs _ _) (rLdF rfl rfl rfl) ?_
  refine pu rfl rfl rfl rfl rfl ?_
  refine st rfl rfl rfl rfl (rNil rfl rfl) ?_
  refine st rfl rfl rfl rfl (rFld rfl rfl) ?_
  refine st rfl rfl rfl rfl (rFldN rfl rfl) ?_
  refine st rfl rfl rfl rfl (rLdF rfl rfl rfl) ?_
  refine ef rfl rfl (eLit0I rfl rfl rfl  (fun A1 => ?_)) 
  refine ef rfl rfl (eAppI rfl rfl rfl rfl rfl (by first | rfl | simp | omega) (by first | rfl | simp | omega) (by first | omega | (simp; omega)) (fun A1a c1a => ?_)) 
  refine ⟨cs _ _, ?_⟩
  refine st rfl rfl rfl rfl (rBuild rfl rfl) ?_
  refine ef rfl rfl (eStS rfl rfl rfl rfl rfl rfl ?_) 
  refine ⟨cs _ _, ?_⟩
  simp only [List.nil_append]
  exact tr_ret ⟨trivial, _, _, (.cell rfl (cellS rfl) .nil), ⟨_, rfl, A1a, c1a, rfl, rfl⟩, cs _ _, trivial, trivial⟩
theorem tow_prime_ent : Enters Tryz.prog 129 := enters_of Tryz.func129 (by kernel_rfl) (by kernel_rfl)
theorem tow_prime (g : GfM) (h9 : g.mod.length ≤ 1000000) :
    Pure Tryz.prog 129 #[.pointer (some g.p)] [gfR g] (isV (.tuple #[.int .i64 g.P, .int .i64 g.M])) := by
  refine pure_of (args := [.pointer (some g.p)]) 11 Tryz.func129 rfl rfl rfl tow_prime_ent ⟨id, trivial⟩ (fun w0 => ?_)
  refine tr_seq ?_
  refine tr_region fun _ _ _ => ?_
  iterate 2 refine pu rfl rfl rfl rfl rfl ?_
  refine tr_seq ?_
  refine tr_region fun _ _ _ => ?_
  refine pu rfl rfl rfl rfl rfl ?_
  refine ef rfl rfl (eCall1 rfl rfl rfl (gf_Field g h9) ⟨rfl, trivial⟩ ?_) 
  rintro _ _ ⟨B, cb, rfl, rfl⟩
  refine ef rfl rfl (eAlloc rfl rfl rfl (fun p1a => ?_)) 
  refine ef rfl rfl (eStS rfl rfl rfl rfl rfl rfl ?_) 
  refine tr_seq ?_
  refine tr_draw [0, 1, 2, 3, 4, 5] [] mixed (by kernel_rfl) fun _ _ _ => ?_
  refine st rfl rfl rfl rfl (rFld rfl rfl) ?_
  refine st rfl rfl rfl rfl (rLdF rfl rfl rfl) ?_
  refine st rfl rfl rfl rfl (rFld rfl rfl) ?_
  refine st rfl rfl rfl rfl (rLdF rfl rfl rfl) ?_
  iterate 2 refine pu rfl rfl rfl rfl rfl ?_
  exact tr_ret ⟨trivial, _, _, rfl, ⟨rfl, rfl⟩, CSub.nil _, trivial⟩
theorem tow_isDegree_ent : Enters Tryz.prog 130 := enters_of Tryz.func130 (by kernel_rfl) (by kernel_rfl)
theorem tow_isDegree (g : GfM) (h9 : g.mod.length ≤ 1000000) (d : Int) (hd : 1 ≤ d) (hM : 0 ≤ g.M) :
    Pure Tryz.prog 130 #[.pointer (some g.p), .int .i64 d] [gfR g] (isV (.bool (decide (d ≤ g.M) && decide (g.M % d = 0)))) := by
  refine pure_of (args := [.pointer (some g.p), .int .i64 d]) 25 Tryz.func130 rfl rfl rfl tow_isDegree_ent ⟨id, trivial⟩ (fun w0 => ?_)
  refine tr_seq ?_
  refine tr_region fun _ _ _ => ?_
  refine pu rfl rfl rfl rfl rfl ?_
  refine tr_seq ?_
  refine tr_region fun _ _ _ => ?_
  refine pu rfl rfl rfl rfl rfl ?_
  refine ef rfl rfl (eCallV rfl rfl rfl (tow_prime g h9) ⟨rfl, trivial⟩ ?_) 
  iterate 5 refine pu rfl rfl rfl rfl rfl ?_
  refine tr_seq ?_
  refine tr_region fun _ _ _ => ?_
  iterate 3 refine pu rfl rfl rfl rfl rfl ?_
  refine stg rfl rfl rfl rfl rfl (fun hb => by (have hq := hb; try simp only [zbA] at hq); exact rMove rfl rfl) ?_
  refine stg rfl rfl rfl rfl rfl (fun hb => by (have hq := hb; try simp only [zbA] at hq); exact rMove rfl rfl) ?_
  refine stg rfl rfl rfl rfl rfl (fun hb => by (have hq := hb; try simp only [zbA] at hq); exact rLeq rfl (evg rfl hb) (evg rfl hb)) ?_
  refine st rfl rfl rfl rfl (rAndB rfl rfl rfl rfl) ?_
  refine pu rfl rfl rfl rfl rfl ?_
  refine stg rfl rfl rfl rfl rfl (fun hb => by (have hq := hb; try simp only [zbA] at hq); exact rMove rfl rfl) ?_
  refine stg rfl rfl rfl rfl rfl (fun hb => by (have hq := hb; try simp only [zbA] at hq); exact rMove rfl rfl) ?_
  refine stg rfl rfl rfl rfl rfl (fun hb => by (have hq := hb; try simp only [zbA] at hq); exact rRem rfl (evg rfl hb) (evg rfl hb) (by omega) (by omega)) ?_
  refine stg rfl rfl rfl rfl rfl (fun hb => by (have hq := hb; try simp only [zbA] at hq); exact rEql rfl (evg rfl hb) rfl) ?_
  refine st rfl rfl rfl rfl (rAndB rfl rfl rfl rfl) ?_
  refine pu rfl rfl rfl rfl rfl ?_
  exact tr_ret ⟨trivial, _, _, rfl, ⟨by simp [hd], rfl⟩, CSub.nil _, trivial⟩
theorem poly_Eval_ent : Enters Tryz.prog 79 := enters_of Tryz.func79 (by kernel_rfl) (by kernel_rfl)
theorem poly_Eval (g : GfM) {p m : Int} {mod : List Int} [hF : IsF p m mod] (hg : GOk g p m mod) (X : Option Addr) (nx cx : Nat) (l : List Int) (hnx : nx = l.length) (h9 : l.length ≤ 1000000) (x : Int) :
    Pure Tryz.prog 79 #[.pointer (some g.p), .slice X nx cx, .int .i64 x] [gfR g, ro X (ints l)] (isV (.int .i64 (Po.val (pol l : Po (El p m mod)) (el x)).1)) := by
  refine pure_of (args := [.pointer (some g.p), .slice X nx cx, .int .i64 x]) 27 Tryz.func79 rfl rfl rfl poly_Eval_ent ⟨id, id, trivial⟩ (fun w0 => ?_)
  refine tr_seq ?_
  refine tr_region fun _ _ _ => ?_
  refine pu rfl rfl rfl rfl rfl ?_
  refine tr_seq ?_
  refine tr_region fun _ _ _ => ?_
  refine pu rfl rfl rfl rfl rfl ?_
  refine tr_seq ?_
  refine tr_seq ?_
  refine tr_region fun _ _ _ => ?_
  refine pu rfl rfl rfl rfl rfl ?_
  refine st rfl rfl rfl rfl (rLen rfl rfl) ?_
  refine st rfl rfl rfl rfl (rSub rfl rfl rfl (by omega) (by omega)) ?_
  refine pu rfl rfl rfl rfl rfl ?_
  refine tr_block ?_
  refine tr_loop2 (fun (i : Int) (y : Int) => [(7, .int .i64 y), (8, .int .i64 i), (0, .pointer (some g.p)), (1, .slice X nx cx), (2, .int .i64 x), (6, .int .i64 0)]) (fun (i : Int) (y : Int) => [gfR g, ro X (ints l)]) (fun (i : Int) (y : Int) => (-1 ≤ i ∧ i < nx) ∧ y = (Po.val (pol (l.drop (i + 1).toNat) : Po (El p m mod)) (el x)).1) (fun (i : Int) (y : Int) => (i + 1).toNat) ((nx : Int) - 1) (0) ⟨rfl, rfl, rfl, rfl, rfl, rfl, trivial⟩ (by first | exact cs _ _ | exact CSub.refl _) (⟨⟨by omega, by omega⟩, by rw [List.drop_of_length_le (by omega), val_nil]; rfl⟩) (fun i y hI => ?_)
  obtain ⟨⟨hi0, hi1⟩, hy⟩ := hI
  refine tr_seq ?_
  refine tr_seq ?_
  refine tr_region fun _ _ _ => ?_
  iterate 2 refine pu rfl rfl rfl rfl rfl ?_
  refine tr_cond_bool rfl (fun h3 => ?_) (fun h3 => ?_)
  · try simp only [zbA] at h3
    refine tr_skip ?_
    refine tr_seq ?_
    refine tr_block ?_
    refine tr_draw [0, 1, 2, 3, 5, 6, 7, 8, 4, 9, 10] [] mixed (by kernel_rfl) fun _ _ _ => ?_
    iterate 6 refine pu rfl rfl rfl rfl rfl ?_
    refine st rfl rfl rfl rfl (rIdxI rfl rfl rfl (by omega) (by omega) (by omega)) ?_
    refine st rfl rfl rfl rfl (rLdI rfl rfl (by omega)) ?_
    refine ef rfl rfl (eCallV rfl rfl rfl (gf_MulE g hg _ _) ⟨rfl, rfl, rfl, trivial⟩ ?_) 
    refine ef rfl rfl (eCallV rfl rfl rfl (gf_AddE g hg _ _) ⟨rfl, rfl, rfl, trivial⟩ ?_) 
    refine pu rfl rfl rfl rfl rfl ?_
    refine tr_region fun _ _ _ => ?_
    refine pu rfl rfl rfl rfl rfl ?_
    refine st rfl rfl rfl rfl (rSub rfl rfl rfl (by omega) (by omega)) ?_
    refine pu rfl rfl rfl rfl rfl ?_
    refine ⟨i - 1, (el (el y * el x : El p m mod).1 + el (l.getD i.toNat 0) : El p m mod).1, ⟨rfl, rfl, rfl, rfl, rfl, rfl, trivial⟩, by first | exact cs _ _ | exact CSub.refl _, ?_⟩
    refine ⟨⟨⟨by omega, by omega⟩, ?_⟩, by omega⟩
    rw [el_of, show (i - 1 + 1).toNat = i.toNat by omega, drop_cons (show i.toNat < l.length by omega), val_cons, show i.toNat + 1 = (i + 1).toNat by omega, hy, el_of]
  · try simp only [zbA] at h3
    refine tr_exit ?_
    refine tr_seq ?_
    refine tr_region fun _ _ _ => ?_
    iterate 2 refine pu rfl rfl rfl rfl rfl ?_
    have hi : i = -1 := by omega
    subst hi
    exact tr_ret ⟨trivial, _, _, rfl, ⟨by rw [hy]; rfl, rfl⟩, CSub.nil _, trivial⟩
theorem gf_Digits_ent : Enters Tryz.prog 135 := enters_of Tryz.func135 (by kernel_rfl) (by kernel_rfl)
theorem gf_Digits (g : GfM) {p m : Int} {mod : List Int} [hF : IsF p m mod] (hg : GOk g p m mod) (x : Int) (hx : 0 ≤ x ∧ x < pw p m) :
    Pure Tryz.prog 135 #[.pointer (some g.p), .int .i64 x] [gfR g] (one (fun v ch => ∃ B, v = .slice B m.toNat m.toNat ∧ ch = ow B 3 m.toNat (ints (digs p m.toNat x)))) := by
  have heq := hg.eq
  have hP := hg.eP
  have hM := hg.eM
  have hs := hF.out.1.1
  have h2 := hs.p2
  have h3 := hs.p9
  have h4 := hs.m1
  have h5 := hs.m8
  have h6 := hs.q
  have h7 : inI g.q x = x := inI_in hx.1 (by omega)
  subst hP
  subst hM
  refine pure_of (args := [.pointer (some g.p), .int .i64 x]) 19 Tryz.func135 rfl rfl rfl gf_Digits_ent ⟨id, trivial⟩ (fun w0 => ?_)
  refine tr_seq ?_
  refine tr_region fun _ _ _ => ?_
  refine pu rfl rfl rfl rfl rfl ?_
  refine tr_seq ?_
  refine tr_draw [0, 1, 3, 4, 5, 6, 7, 8, 9, 10, 11, 12, 2, 13, 14] [] mixed (by kernel_rfl) fun _ _ _ => ?_
  iterate 3 refine pu rfl rfl rfl rfl rfl ?_
  refine st rfl rfl rfl rfl (rNil rfl rfl) ?_
  refine st rfl rfl rfl rfl (rFld rfl rfl) ?_
  refine st rfl rfl rfl rfl (rFldN rfl rfl) ?_
  refine st rfl rfl rfl rfl (rLdF rfl rfl rfl) ?_
  refine pu rfl rfl rfl rfl rfl ?_
  refine st rfl rfl rfl rfl (rNil rfl rfl) ?_
  refine st rfl rfl rfl rfl (rFld rfl rfl) ?_
  refine st rfl rfl rfl rfl (rFldN rfl rfl) ?_
  refine st rfl rfl rfl rfl (rLdF rfl rfl rfl) ?_
  refine ef rfl rfl (eCallV rfl rfl rfl (gf_in g _) ⟨rfl, rfl, trivial⟩ ?_) 
  refine ef rfl rfl (eCall1 rfl rfl rfl (fld_digits _ (by omega) (by omega) _ (by omega) (by omega) _ (by omega) (by omega)) ⟨rfl, rfl, rfl, trivial⟩ ?_) 
  rintro _ _ ⟨B, rfl, rfl⟩
  refine pu rfl rfl rfl rfl rfl ?_
  rw [h7]
  exact tr_ret ⟨trivial, _, _, rfl, ⟨_, rfl, B, rfl, rfl⟩, cs _ _, trivial, trivial⟩
theorem gf_Dot_ent : Enters Tryz.prog 134 := enters_of Tryz.func134 (by kernel_rfl) (by kernel_rfl)
theorem gf_Dot (g : GfM) {p m : Int} {mod : List Int} [hF : IsF p m mod] (hg : GOk g p m mod) (X : Option Addr) (nx cx : Nat) (a : List Int) (hnx : nx = a.length) (Y : Option Addr) (ny cy : Nat) (b : List Int) (hny : ny = b.length) (h9 : a.length ≤ 1000000) (hl : a.length = b.length) :
    Pure Tryz.prog 134 #[.pointer (some g.p), .slice X nx cx, .slice Y ny cy] [gfR g, ro X (ints a), ro Y (ints b)] (isV (.int .i64 (Rg.sm a.length fun i => (el (a.getD i 0) * el (b.getD i 0) : El p m mod)).1)) := by
  refine pure_of (args := [.pointer (some g.p), .slice X nx cx, .slice Y ny cy]) 32 Tryz.func134 rfl rfl rfl gf_Dot_ent ⟨id, id, id, trivial⟩ (fun w0 => ?_)
  refine tr_seq ?_
  refine tr_region fun _ _ _ => ?_
  refine pu rfl rfl rfl rfl rfl ?_
  refine tr_seq ?_
  refine tr_region fun _ _ _ => ?_
  refine pu rfl rfl rfl rfl rfl ?_
  refine tr_seq ?_
  refine tr_seq ?_
  have hmn : min (nx : Int) (ny : Int) = a.length := by omega
  refine tr_region fun _ _ _ => ?_
  refine pu rfl rfl rfl rfl rfl ?_
  refine st rfl rfl rfl rfl (rLen rfl rfl) ?_
  refine pu rfl rfl rfl rfl rfl ?_
  refine st rfl rfl rfl rfl (rLen rfl rfl) ?_
  refine st rfl rfl rfl rfl (rMin rfl rfl rfl) ?_
  refine pu rfl rfl rfl rfl rfl ?_
  simp only [hmn]
  refine tr_block ?_
  refine tr_loop2 (fun (i : Int) (y : Int) => [(7, .int .i64 y), (13, .int .i64 a.length), (14, .int .i64 i), (0, .pointer (some g.p)), (1, .slice X nx cx), (2, .slice Y ny cy), (6, .int .i64 0)]) (fun (i : Int) (y : Int) => [gfR g, ro X (ints a), ro Y (ints b)]) (fun (i : Int) (y : Int) => (0 ≤ i ∧ i ≤ a.length) ∧ y = (Rg.sm i.toNat fun j => (el (a.getD j 0) * el (b.getD j 0) : El p m mod)).1) (fun (i : Int) (y : Int) => (a.length - i).toNat) (0) (0) ⟨rfl, rfl, rfl, rfl, rfl, rfl, rfl, trivial⟩ (by first | exact cs _ _ | exact CSub.refl _) (⟨⟨by omega, by omega⟩, rfl⟩) (fun i y hI => ?_)
  obtain ⟨⟨hi0, hi1⟩, hy⟩ := hI
  refine tr_seq ?_
  refine tr_region fun _ _ _ => ?_
  refine pu rfl rfl rfl rfl rfl ?_
  refine tr_seq ?_
  refine tr_cond_bool rfl (fun h3 => ?_) (fun h3 => ?_)
  · try simp only [zbA] at h3
    refine tr_skip ?_
    refine tr_seq ?_
    refine tr_block ?_
    refine tr_seq ?_
    refine tr_region fun _ _ _ => ?_
    iterate 2 refine pu rfl rfl rfl rfl rfl ?_
    refine tr_draw [0, 1, 2, 3, 4, 5, 6, 7, 8, 9, 10, 11, 12, 13] [] mixed (by kernel_rfl) fun _ _ _ => ?_
    iterate 5 refine pu rfl rfl rfl rfl rfl ?_
    refine st rfl rfl rfl rfl (rIdxI rfl rfl rfl (by omega) (by omega) (by omega)) ?_
    refine st rfl rfl rfl rfl (rLdI rfl rfl (by omega)) ?_
    iterate 2 refine pu rfl rfl rfl rfl rfl ?_
    refine st rfl rfl rfl rfl (rIdxI rfl rfl rfl (by omega) (by omega) (by omega)) ?_
    refine st rfl rfl rfl rfl (rLdI rfl rfl (by omega)) ?_
    refine ef rfl rfl (eCallV rfl rfl rfl (gf_MulE g hg _ _) ⟨rfl, rfl, rfl, trivial⟩ ?_) 
    refine ef rfl rfl (eCallV rfl rfl rfl (gf_AddE g hg _ _) ⟨rfl, rfl, rfl, trivial⟩ ?_) 
    refine pu rfl rfl rfl rfl rfl ?_
    refine tr_region fun _ _ _ => ?_
    refine st rfl rfl rfl rfl (rAdd rfl rfl rfl (by omega) (by omega)) ?_
    refine pu rfl rfl rfl rfl rfl ?_
    refine ⟨i + 1, (el y + el (el (a.getD i.toNat 0) * el (b.getD i.toNat 0) : El p m mod).1 : El p m mod).1, ⟨rfl, rfl, rfl, rfl, rfl, rfl, rfl, trivial⟩, by first | exact cs _ _ | exact CSub.refl _, ?_⟩
    refine ⟨⟨⟨by omega, by omega⟩, ?_⟩, by omega⟩
    rw [show (i + 1).toNat = i.toNat + 1 by omega, Rg.sm_succ, hy, el_of, el_of]
  · try simp only [zbA] at h3
    refine tr_exit ?_
    refine tr_seq ?_
    refine tr_region fun _ _ _ => ?_
    iterate 2 refine pu rfl rfl rfl rfl rfl ?_
    have hi : i.toNat = a.length := by omega
    rw [hi] at hy
    exact tr_ret ⟨trivial, _, _, rfl, ⟨by rw [hy], rfl⟩, CSub.nil _, trivial⟩
theorem gf_PowE_ent : Enters Tryz.prog 31 := enters_of Tryz.func31 (by kernel_rfl) (by kernel_rfl)
theorem gf_PowE (g : GfM) {p m : Int} {mod : List Int} [hF : IsF p m mod] (hg : GOk g p m mod) (x k : Int) (hk : 0 ≤ k) (hk9 : k ≤ 1000000) :
    Pure Tryz.prog 31 #[.pointer (some g.p), .int .i64 x, .int .i64 k] [gfR g] (isV (.tuple #[.int .i64 (Rg.pow (el x : El p m mod) k.toNat).1, .int .i64 0])) := by
  have heq := hg.eq
  have hq2 := hF.q2
  have hq9 := hF.out.1.1.q
  have hix : (el x : El p m mod).1 = inI g.q x := by rw [hg.eq]; rfl
  have hbx := (el x : El p m mod).2
  have hel := hg.elen
  have hll := hg.llen'
  obtain ⟨y, hy0, hy⟩ := exp_pow hg
  refine pure_of (args := [.pointer (some g.p), .int .i64 x, .int .i64 k]) 54 Tryz.func31 rfl rfl rfl gf_PowE_ent ⟨id, trivial⟩ (fun w0 => ?_)
  refine tr_seq ?_
  refine tr_region fun _ _ _ => ?_
  iterate 2 refine pu rfl rfl rfl rfl rfl ?_
  refine tr_seq ?_
  refine tr_region fun _ _ _ => ?_
  iterate 2 refine pu rfl rfl rfl rfl rfl ?_
  refine ef rfl rfl (eCallV rfl rfl rfl (gf_in g _) ⟨rfl, rfl, trivial⟩ ?_) 
  refine pu rfl rfl rfl rfl rfl ?_
  refine tr_seq ?_
  refine tr_block ?_
  refine tr_seq ?_
  refine tr_region fun _ _ _ => ?_
  iterate 3 refine pu rfl rfl rfl rfl rfl ?_
  refine tr_cond_bool rfl (fun h2 => ?_) (fun h2 => ?_)
  · try simp only [zbA] at h2
    refine tr_seq ?_
    refine tr_region fun _ _ _ => ?_
    iterate 2 refine pu rfl rfl rfl rfl rfl ?_
    exact tr_ret ⟨trivial, _, _, rfl, ⟨by rw [show k.toNat = 0 by omega]; rfl, rfl⟩, CSub.nil _, trivial⟩
  · try simp only [zbA] at h2
    refine tr_seq ?_
    refine tr_region fun _ _ _ => ?_
    iterate 3 refine pu rfl rfl rfl rfl rfl ?_
    refine stg rfl rfl rfl rfl rfl (fun hb => by (have hq := hb; try simp only [zbA] at hq); exact rMove rfl rfl) ?_
    refine stg rfl rfl rfl rfl rfl (fun hb => by (have hq := hb; try simp only [zbA] at hq); exact rLss rfl (evg rfl hb) rfl) ?_
    refine st rfl rfl rfl rfl (rAndB rfl rfl rfl rfl) ?_
    refine pu rfl rfl rfl rfl rfl ?_
    refine tr_cond_bool rfl (fun h4 => ?_) (fun h4 => ?_)
    · try simp only [zbA] at h4
      refine tr_seq ?_
      refine tr_region fun _ _ _ => ?_
      iterate 2 refine pu rfl rfl rfl rfl rfl ?_
      omega
    · try simp only [zbA] at h4
      refine tr_seq ?_
      refine tr_region fun _ _ _ => ?_
      iterate 3 refine pu rfl rfl rfl rfl rfl ?_
      refine tr_cond_bool rfl (fun h6 => ?_) (fun h6 => ?_)
      · try simp only [zbA] at h6
        refine tr_seq ?_
        refine tr_region fun _ _ _ => ?_
        iterate 2 refine pu rfl rfl rfl rfl rfl ?_
        exact tr_ret ⟨trivial, _, _, rfl, ⟨by
          have hx0 : (el x : El p m mod) = 0 := (val_zero_iff (el x : El p m mod)).1 (by omega)
          rw [hx0, Rg.zero_pow (by omega)]; rfl, rfl⟩, CSub.nil _, trivial⟩
      · try simp only [zbA] at h6
        refine tr_skip ?_
        refine tr_seq ?_
        have hx0 : (el x : El p m mod) ≠ 0 := fun e => by
          have := (val_zero_iff (el x : El p m mod)).2 e
          omega
        have hlx := hg.log_spec (y := inI g.q x) (by omega) (by omega)
        have e0 := Int.emod_nonneg k (show g.q - 1 ≠ 0 by omega)
        have e1 := Int.emod_lt_of_pos k (show 0 < g.q - 1 by omega)
        refine tr_region fun _ _ _ => ?_
        refine pu rfl rfl rfl rfl rfl ?_
        refine st rfl rfl rfl rfl (rNil rfl rfl) ?_
        refine st rfl rfl rfl rfl (rFld rfl rfl) ?_
        refine st rfl rfl rfl rfl (rLdF rfl rfl rfl) ?_
        refine st rfl rfl rfl rfl (rSub rfl rfl rfl (by omega) (by omega)) ?_
        refine pu rfl rfl rfl rfl rfl ?_
        refine tr_seq ?_
        refine tr_region fun _ _ _ => ?_
        iterate 2 refine pu rfl rfl rfl rfl rfl ?_
        refine st rfl rfl rfl rfl (rRem rfl rfl rfl (by omega) (by omega)) ?_
        refine pu rfl rfl rfl rfl rfl ?_
        refine st rfl rfl rfl rfl (rAdd rfl rfl rfl (by omega) (by omega)) ?_
        refine pu rfl rfl rfl rfl rfl ?_
        refine st rfl rfl rfl rfl (rRem rfl rfl rfl (by omega) (by omega)) ?_
        refine pu rfl rfl rfl rfl rfl ?_
        refine tr_seq ?_
        have e2 : (k % (g.q - 1) + (g.q - 1)) % (g.q - 1) = k % (g.q - 1) := by rw [Int.add_emod_right, Int.emod_emod_of_dvd _ (Int.dvd_refl _)]
        rw [e2]
        have hmb := mul_bd0 (g.log.getD (inI g.q x).toNat 0) (k % (g.q - 1)) 256 256 (by omega) (by omega) (by omega) (by omega)
        have e3 := Int.emod_nonneg (g.log.getD (inI g.q x).toNat 0 * (k % (g.q - 1))) (show g.q - 1 ≠ 0 by omega)
        have e4 := Int.emod_lt_of_pos (g.log.getD (inI g.q x).toNat 0 * (k % (g.q - 1))) (show 0 < g.q - 1 by omega)
        refine tr_draw [0, 1, 2, 3, 4, 5, 6, 7, 8, 9, 10, 11, 12, 13, 14, 15, 16, 17, 18] [] mixed (by kernel_rfl) fun _ _ _ => ?_
        refine pu rfl rfl rfl rfl rfl ?_
        refine st rfl rfl rfl rfl (rNil rfl rfl) ?_
        refine st rfl rfl rfl rfl (rFld rfl rfl) ?_
        refine st rfl rfl rfl rfl (rLdF rfl rfl rfl) ?_
        refine pu rfl rfl rfl rfl rfl ?_
        refine st rfl rfl rfl rfl (rNil rfl rfl) ?_
        refine st rfl rfl rfl rfl (rFld rfl rfl) ?_
        refine st rfl rfl rfl rfl (rLdF rfl rfl rfl) ?_
        refine pu rfl rfl rfl rfl rfl ?_
        refine st rfl rfl rfl rfl (rIdxI rfl rfl rfl (by omega) (by omega) (by omega)) ?_
        refine st rfl rfl rfl rfl (rLdI rfl rfl (by omega)) ?_
        refine pu rfl rfl rfl rfl rfl ?_
        refine st rfl rfl rfl rfl (rMul rfl rfl rfl (by omega) (by omega)) ?_
        refine pu rfl rfl rfl rfl rfl ?_
        refine st rfl rfl rfl rfl (rRem rfl rfl rfl (by omega) (by omega)) ?_
        refine st rfl rfl rfl rfl (rIdxI rfl rfl rfl (by omega) (by omega) (by omega)) ?_
        refine st rfl rfl rfl rfl (rLdI rfl rfl (by omega)) ?_
        iterate 2 refine pu rfl rfl rfl rfl rfl ?_
        have hfin : g.exp.getD (g.log.getD (inI g.q x).toNat 0 * (k % (g.q - 1)) % (g.q - 1)).toNat 0 = (Rg.pow (el x : El p m mod) k.toNat).1 := by
          have h1 := hy (g.log.getD (inI g.q x).toNat 0 * (k % (g.q - 1)) % (g.q - 1)).toNat (by omega)
          have h2 := hy (g.log.getD (inI g.q x).toNat 0).toNat (by omega)
          rw [hlx.2.2] at h2
          have h3 : (el x : El p m mod) = Rg.pow y (g.log.getD (inI g.q x).toNat 0).toNat := by rw [← h2, ← hix, el_of]
          have hqe : (pw p m - 1).toNat = (g.q - 1).toNat := by rw [heq]
          have h4 : (g.log.getD (inI g.q x).toNat 0 * (k % (g.q - 1)) % (g.q - 1)).toNat = ((g.log.getD (inI g.q x).toNat 0).toNat * (k.toNat % (pw p m - 1).toNat)) % (pw p m - 1).toNat := by
            rw [hqe]
            obtain ⟨a, ha⟩ := Int.eq_ofNat_of_zero_le (show 0 ≤ g.log.getD (inI g.q x).toNat 0 by omega)
            obtain ⟨b, hb⟩ := Int.eq_ofNat_of_zero_le hk
            obtain ⟨c, hc⟩ := Int.eq_ofNat_of_zero_le (show 0 ≤ g.q - 1 by omega)
            rw [ha, hb, hc, ← Int.natCast_emod, ← Int.natCast_mul, ← Int.natCast_emod]
            simp only [Int.toNat_natCast]
          rw [h4, pow_rem hy0, Rg.pow_mul, ← h3, pow_rem hx0] at h1
          have h5 : g.exp.getD ((g.log.getD (inI g.q x).toNat 0).toNat * (k.toNat % (pw p m - 1).toNat) % (pw p m - 1).toNat) 0 ∈ g.exp := getD_mem (by rw [← h4]; omega) 0
          obtain ⟨z, hz⟩ := hg.gen
          have h6 := hz.pow.nz _ h5
          rw [← h1, el_in ⟨by omega, h6.2⟩, h4]
        exact tr_ret ⟨trivial, _, _, rfl, ⟨by rw [hfin], rfl⟩, CSub.nil _, trivial⟩
end Go.Proofs.YtgnmcoegdogfgaaGreat

set_option linter.unusedSimpArgs false
set_option linter.unusedVariables false
set_option maxRecDepth 100000
namespace Go.Proofs.YtgnmcoegdogfgaaGreat
open Go.RowKit
theorem filt_head (φ : Int → Bool) : ∀ (n : Nat) (z : Int) (rest : List Int), (upI n).filter φ = z :: rest → (0 ≤ z ∧ z < n) ∧ φ z = true ∧ ∀ s, 0 ≤ s → s < z → φ s = false
  | 0, z, rest, h => by simp [upI] at h
  | n + 1, z, rest, h => by
    rw [upI_succ, List.filter_append] at h
    cases hf : (upI n).filter φ with
    | nil =>
      rw [hf, List.nil_append] at h
      have hno : ∀ s : Int, 0 ≤ s → s < n → φ s = false := fun s h0 h1 => by
        cases hs : φ s with
        | false => rfl
        | true =>
          have : s ∈ (upI n).filter φ := List.mem_filter.2 ⟨List.mem_map.2 ⟨s.toNat, List.mem_range.2 (by omega), by omega⟩, hs⟩
          rw [hf] at this; simp at this
      cases hp : φ (n : Int) with
      | false => rw [List.filter_cons_of_neg (by rw [hp]; simp), List.filter_nil] at h; simp at h
      | true =>
        rw [List.filter_cons_of_pos hp, List.filter_nil] at h
        have hz : (n : Int) = z := by injection h
        subst hz
        exact ⟨⟨by omega, by omega⟩, hp, hno⟩
    | cons a t =>
      rw [hf, List.cons_append] at h
      have hz : a = z := by injection h
      subst hz
      have := filt_head φ n a t hf
      exact ⟨⟨this.1.1, by omega⟩, this.2⟩
section
variable {p m2 : Int} {mod2 : List Int} [hE : IsF p m2 mod2]
noncomputable def imL (p m2 : Int) (mod2 : List Int) [hE : IsF p m2 mod2] (m r : Int) : List Int := (List.range (pw p m).toNat).map fun x : Nat => (Po.val (pol (digs p m.toNat x) : Po (El p m2 mod2)) (el r)).1
theorem imL_length (m r : Int) : (imL p m2 mod2 m r).length = (pw p m).toNat := by simp [imL]
theorem imL_get (m r : Int) {x : Nat} (h : x < (pw p m).toNat) : (imL p m2 mod2 m r).getD x 0 = (Po.val (pol (digs p m.toNat x) : Po (El p m2 mod2)) (el r)).1 := by
  unfold imL; rw [List.getD_eq_getElem?_getD, List.getElem?_map, List.getElem?_range h]; rfl
structure IsRt (p m2 : Int) (mod2 : List Int) [hE : IsF p m2 mod2] (m : Int) (mod : List Int) (r : Int) : Prop where
  lo : 0 ≤ r
  hi : r < pw p m2
  one : m = 1 → r = 0
  root : 2 ≤ m → Po.val (pol (mod ++ [1]) : Po (El p m2 mod2)) (el r) = 0
  least : 2 ≤ m → ∀ s, 0 ≤ s → s < r → Po.val (pol (mod ++ [1]) : Po (El p m2 mod2)) (el s) ≠ 0
theorem IsRt.uniq {m : Int} {mod : List Int} (hm : 1 ≤ m) {r s : Int} (h : IsRt p m2 mod2 m mod r) (k : IsRt p m2 mod2 m mod s) : r = s := by
  by_cases h1 : m = 1
  · rw [h.one h1, k.one h1]
  · rcases Int.lt_trichotomy r s with h2 | h2 | h2
    · exact absurd (h.root (by omega)) (k.least (by omega) r h.lo h2)
    · exact h2
    · exact absurd (k.root (by omega)) (h.least (by omega) s k.lo h2)
open Classical in
noncomputable def embR (p m2 : Int) (mod2 : List Int) [hE : IsF p m2 mod2] (m : Int) (mod : List Int) : Int := if h : ∃ r, IsRt p m2 mod2 m mod r then Classical.choose h else 0
theorem IsRt.eq {m : Int} {mod : List Int} (hm : 1 ≤ m) {r : Int} (h : IsRt p m2 mod2 m mod r) : embR p m2 mod2 m mod = r := by
  have hx : ∃ r, IsRt p m2 mod2 m mod r := ⟨r, h⟩
  unfold embR
  rw [dif_pos hx]
  exact (Classical.choose_spec hx).uniq hm h
theorem polmod_ne (mod : List Int) : (pol (mod ++ [1]) : Po (El p m2 mod2)) ≠ 0 := fun e => by
  have h := congrArg (fun f => Po.cf f mod.length) e
  simp only [cf_pol, Po.cf_zero] at h
  rw [List.getD_eq_getElem?_getD, List.getElem?_append_right (Nat.le_refl _), Nat.sub_self] at h
  exact Fd.one_ne (K := El p m2 mod2) (el_one.symm.trans h)
end
theorem rt_of_head {p m m2 : Int} {mod mod2 : List Int} [hF : IsF p m mod] [hE : IsF p m2 mod2] (hm : 2 ≤ m) (hd : m2 % m = 0) {zs : List Int} (hz : zs = (upI (pw p m2).toNat).filter (zset p m2 mod2 (pol (mod ++ [1])))) : zs.length ≠ 0 ∧ IsRt p m2 mod2 m mod (zs.getD 0 0) := by
  have hq := hE.q2
  cases hzs : zs with
  | nil =>
    obtain ⟨a, ha⟩ := emb_root (p := p) (m := m) (mod := mod) (m2 := m2) (mod2 := mod2) hm hd
    have hab := a.2
    have : a.1 ∈ (upI (pw p m2).toNat).filter (zset p m2 mod2 (pol (mod ++ [1]))) := List.mem_filter.2 ⟨List.mem_map.2 ⟨a.1.toNat, List.mem_range.2 (by omega), by omega⟩, zset_iff.2 (by rw [el_of]; exact ha)⟩
    rw [← hz, hzs] at this; simp at this
  | cons z rest =>
    have h := filt_head _ _ z rest (hz.symm.trans hzs)
    refine ⟨by simp, ⟨h.1.1, ?_, fun e => by omega, fun _ => zset_iff.1 h.2.1, fun _ s h0 h1 => fun e => ?_⟩⟩
    · have := h.1.2; show z < _; omega
    · have := h.2.2 s h0 h1
      rw [zset_iff.2 e] at this; cases this
theorem digs_len (p : Int) : ∀ (M : Nat) (x : Int), (digs p M x).length = M
  | 0, _ => rfl
  | M + 1, x => by rw [digs, List.length_cons, digs_len p M]
theorem poly_Roots_ent : Enters Tryz.prog 131 := enters_of Tryz.func131 (by kernel_rfl) (by kernel_rfl)
theorem poly_Roots (g : GfM) {p m : Int} {mod : List Int} [hF : IsF p m mod] (hg : GOk g p m mod) (X : Option Addr) (nx cx : Nat) (lx : List Int) (hnx : nx = lx.length) (h9 : lx.length ≤ 1000000) (h0 : (pol lx : Po (El p m mod)) ≠ 0) :
    Pure Tryz.prog 131 #[.pointer (some g.p), .slice X nx cx] [gfR g, ro X (ints lx)] (one (fun v ch => ∃ B cb zs, v = .tuple #[.slice B zs.length cb, .int .i64 0] ∧ ch = ow B 3 cb (ints zs) ∧ zs = (upI g.q.toNat).filter (zset p m mod (pol lx)))) := by
  have hq2 := hg.q2
  have hqe := hg.eq
  have hq9 := hF.out.1.1.q
  have hil := il_le (p := p) (m := m) (mod := mod) lx
  have hl0 : (il (pol lx : Po (El p m mod))).length ≠ 0 := fun e => h0 (il_eq_nil.1 (List.length_eq_zero_iff.1 e))
  refine pure_of (args := [.pointer (some g.p), .slice X nx cx]) 28 Tryz.func131 rfl rfl rfl poly_Roots_ent ⟨id, id, trivial⟩ (fun w0 => ?_)
  refine tr_seq ?_
  refine tr_region fun _ _ _ => ?_
  refine ef rfl rfl (eBox rfl rfl rfl rfl rfl (fun p0 => ?_)) 
  iterate 2 refine pu rfl rfl rfl rfl rfl ?_
  refine tr_seq ?_
  refine tr_region fun _ _ _ => ?_
  refine st rfl rfl rfl rfl (rLd0 rfl rfl) ?_
  refine pu rfl rfl rfl rfl rfl ?_
  refine ef rfl rfl (eCall1 rfl rfl rfl (poly_CanonE g hg _ _ _ lx (by first | omega | rfl | simp) (by omega)) ⟨rfl, rfl, trivial⟩ ?_) 
  rintro _ _ ⟨B1, c1, rfl, hcap1, rfl⟩
  refine ef rfl rfl (eAlloc rfl rfl rfl (fun p1a => ?_)) 
  refine ef rfl rfl (eSt0 rfl rfl rfl rfl rfl rfl ?_) 
  refine tr_seq ?_
  refine tr_seq ?_
  refine tr_region fun _ _ _ => ?_
  refine st rfl rfl rfl rfl (rLd0 rfl rfl) ?_
  refine st rfl rfl rfl rfl (rLen rfl rfl) ?_
  refine pu rfl rfl rfl rfl rfl ?_
  refine tr_cond_bool rfl (fun h2 => ?_) (fun h2 => ?_)
  · try simp only [zbA] at h2
    omega --done
  · try simp only [zbA] at h2
    refine tr_skip ?_
    refine tr_seq ?_
    refine tr_region fun _ _ _ => ?_
    refine ef rfl rfl (eAlloc rfl rfl rfl (fun p4 => ?_)) 
    refine tr_seq ?_
    refine tr_seq ?_
    refine tr_region fun _ _ _ => ?_
    refine st rfl rfl rfl rfl (rLd0 rfl rfl) ?_
    refine ef rfl rfl (eCall1 rfl rfl rfl (gf_Elements _) ⟨rfl, trivial⟩ ?_) 
    rintro _ _ ⟨B5, rfl, rfl⟩
    refine tr_nilI 3 ?_
    refine tr_block ?_
    refine tr_range (hseq := elems_gives (by omega) (by omega)) rfl gf_Elements1_ent rfl rfl rfl rfl rfl (fun (q : (Option Addr) × Nat × (List Int)) => match q with | (B, cb, zs) => [blk B5 58 [.pointer (some g.p)], blk p4 22 [.slice B zs.length cb], ow B 3 cb (ints zs), blk p1a 22 [.slice B1 (il (pol lx : Po (El p m mod))).length c1], ow B1 3 c1 (ints (il (pol lx : Po (El p m mod)))), blk p0 58 [.pointer (some g.p)], gfR g]) (fun (pre : List Int) (q : (Option Addr) × Nat × (List Int)) => match q with | (B, cb, zs) => zs = pre.filter (zset p m mod (pol lx)) ∧ zs.length ≤ pre.length) (none, 0, []) (by first | exact cs _ _ | exact CSub.refl _) (⟨rfl, by simp⟩) ?_ ?_
    · rintro pre x ⟨B, cb, zs⟩ l M0 W0 hlen hI
      refine tr_block ?_
      refine tr_seq ?_
      refine tr_region fun _ _ _ => ?_
      refine st rfl rfl rfl rfl (rLd0 rfl rfl) ?_
      refine st rfl rfl rfl rfl (rLd0 rfl rfl) ?_
      refine pu rfl rfl rfl rfl rfl ?_
      refine ef rfl rfl (eCallV rfl rfl rfl (poly_Eval g hg B1 _ _ (il (pol lx : Po (El p m mod))) rfl (by omega) x) ⟨rfl, rfl, rfl, trivial⟩ ?_) 
      refine pu rfl rfl rfl rfl rfl ?_
      refine tr_cond_bool rfl (fun h7 => ?_) (fun h7 => ?_)
      · try simp only [zbA] at h7
        refine tr_region fun _ _ _ => ?_
        refine st rfl rfl rfl rfl (rLd0 rfl rfl) ?_
        refine pu rfl rfl rfl rfl rfl ?_
        refine ef rfl rfl (eLit1I rfl rfl rfl rfl (fun A8 => ?_)) 
        refine ef rfl rfl (eAppI rfl rfl rfl rfl rfl (by first | rfl | simp | omega) (by first | rfl | simp | omega) (by first | omega | (simp; omega)) (fun A8a c8a => ?_)) 
        refine ef rfl rfl (eSt0 rfl rfl rfl rfl rfl rfl ?_) 
        refine ⟨(A8a, c8a, zs ++ [x]), by first | exact cs _ _ | exact CSub.refl _, ?_⟩
        rw [pol_il] at h7
        have hz : zset p m mod (pol lx) x = true := zset_iff.2 ((val_zero_iff _).1 (by first | exact h7 | simpa using h7))
        refine ⟨?_, by simp; omega⟩
        rw [List.filter_append, ← hI.1, List.filter_cons_of_pos hz, List.filter_nil]
      · try simp only [zbA] at h7
        refine tr_skip ?_
        refine ⟨(B, cb, zs), by first | exact cs _ _ | exact CSub.refl _, ?_⟩
        rw [pol_il] at h7
        have hz : ¬ zset p m mod (pol lx) x = true := fun h => h7 ((val_zero_iff _).2 (zset_iff.1 h))
        refine ⟨?_, by simp; omega⟩
        rw [List.filter_append, ← hI.1, List.filter_cons_of_neg hz, List.filter_nil, List.append_nil]
    · rintro ⟨B, cb, zs⟩ hI
      refine tr_seq ?_
      refine tr_region fun _ _ _ => ?_
      refine st rfl rfl rfl rfl (rLd0 rfl rfl) ?_
      iterate 2 refine pu rfl rfl rfl rfl rfl ?_
      exact tr_ret ⟨trivial, _, _, rfl, ⟨_, rfl, B, cb, zs, rfl, rfl, hI.1⟩, cs _ _, trivial, trivial⟩
theorem tow_EmbP_ent : Enters Tryz.prog 75 := enters_of Tryz.func75 (by kernel_rfl) (by kernel_rfl)
theorem tow_EmbP (p m : Int) (A : Option Addr) (c : Nat) (mod : List Int) [hF : IsF p m mod] (g : GfM) (p2 m2 : Int) (mod2 : List Int) [hE : IsF p2 m2 mod2] (hg : GOk g p2 m2 mod2) (hne : p ≠ p2) :
    Pure Tryz.prog 75 #[.agg #[.int .i64 p, .int .i64 m, .slice A mod.length c], .pointer (some g.p)] [ro A (ints mod), gfR g] (isV (.tuple #[.slice none 0 0, .int .i64 10])) := by
  have hl8 := hF.short
  have hl82 := hE.short
  have hgm := hg.emod
  have hgl : g.mod.length ≤ 1000000 := by rw [hgm]; omega
  have hgP := hg.eP
  have hgM := hg.eM
  have hm1 := hF.m1
  have hm21 := hE.m1
  refine pure_of (args := [.agg #[.int .i64 p, .int .i64 m, .slice A mod.length c], .pointer (some g.p)]) 96 Tryz.func75 rfl rfl rfl tow_EmbP_ent ⟨id, id, trivial⟩ (fun w0 => ?_)
  refine tr_seq ?_
  refine tr_region fun _ _ _ => ?_
  refine ef rfl rfl (eBox rfl rfl rfl rfl rfl (fun p0 => ?_)) 
  iterate 2 refine pu rfl rfl rfl rfl rfl ?_
  refine tr_seq ?_
  refine tr_region fun _ _ _ => ?_
  refine st rfl rfl rfl rfl (rLdS rfl rfl rfl) ?_
  refine ef rfl rfl (eCall1 rfl rfl rfl (fld_New_ok _ _ _ _ _ (by omega) hF.out) ⟨rfl, trivial⟩ ?_) 
  rintro _ _ ⟨h, rfl, rfl, hh⟩
  iterate 5 refine pu rfl rfl rfl rfl rfl ?_
  refine tr_seq ?_
  refine tr_seq ?_
  refine tr_region fun _ _ _ => ?_
  iterate 2 refine pu rfl rfl rfl rfl rfl ?_
  refine tr_cond_bool rfl (fun h2 => ?_) (fun h2 => ?_)
  · try simp only [zbA] at h2
    first | exact absurd trivial h2 | exact absurd rfl h2 | omega | (exact absurd h2 (by simp)) --done
  · try simp only [zbA] at h2
    refine tr_skip ?_
    refine tr_seq ?_
    refine tr_region fun _ _ _ => ?_
    refine pu rfl rfl rfl rfl rfl ?_
    refine ef rfl rfl (eCallV rfl rfl rfl (tow_prime g hgl) ⟨rfl, trivial⟩ ?_) 
    iterate 5 refine pu rfl rfl rfl rfl rfl ?_
    refine tr_seq ?_
    refine tr_seq ?_
    refine tr_region fun _ _ _ => ?_
    refine st rfl rfl rfl rfl (rFld rfl rfl) ?_
    refine st rfl rfl rfl rfl (rLdF rfl rfl rfl) ?_
    iterate 3 refine pu rfl rfl rfl rfl rfl ?_
    refine skF rfl rfl (by simp <;> omega) rfl rfl ?_
    refine skF rfl rfl (by simp <;> omega) rfl rfl ?_
    refine skF rfl rfl (by simp <;> omega) rfl rfl ?_
    refine skF rfl rfl (by simp <;> omega) rfl rfl ?_
    refine skF rfl rfl (by simp <;> omega) rfl rfl ?_
    refine st rfl rfl rfl rfl (rPick1 rfl rfl (by simp <;> omega) rfl) ?_
    refine tr_cond_bool rfl (fun h5 => ?_) (fun h5 => ?_)
    · try simp only [zbA] at h5
      refine tr_seq ?_
      refine tr_region fun _ _ _ => ?_
      iterate 2 refine pu rfl rfl rfl rfl rfl ?_
      exact tr_ret ⟨trivial, _, _, rfl, ⟨rfl, rfl⟩, CSub.nil _, trivial⟩
    · try simp only [zbA] at h5
      exact absurd h5 (by simp <;> omega) --done
theorem tow_EmbD_ent : Enters Tryz.prog 75 := enters_of Tryz.func75 (by kernel_rfl) (by kernel_rfl)
theorem tow_EmbD (p m : Int) (A : Option Addr) (c : Nat) (mod : List Int) [hF : IsF p m mod] (g : GfM) (p2 m2 : Int) (mod2 : List Int) [hE : IsF p2 m2 mod2] (hg : GOk g p2 m2 mod2) (hpp : p = p2) (hne : m2 % m ≠ 0) :
    Pure Tryz.prog 75 #[.agg #[.int .i64 p, .int .i64 m, .slice A mod.length c], .pointer (some g.p)] [ro A (ints mod), gfR g] (isV (.tuple #[.slice none 0 0, .int .i64 10])) := by
  have hl8 := hF.short
  have hl82 := hE.short
  have hgm := hg.emod
  have hgl : g.mod.length ≤ 1000000 := by rw [hgm]; omega
  have hgP := hg.eP
  have hgM := hg.eM
  have hm1 := hF.m1
  have hm21 := hE.m1
  refine pure_of (args := [.agg #[.int .i64 p, .int .i64 m, .slice A mod.length c], .pointer (some g.p)]) 96 Tryz.func75 rfl rfl rfl tow_EmbD_ent ⟨id, id, trivial⟩ (fun w0 => ?_)
  refine tr_seq ?_
  refine tr_region fun _ _ _ => ?_
  refine ef rfl rfl (eBox rfl rfl rfl rfl rfl (fun p0 => ?_)) 
  iterate 2 refine pu rfl rfl rfl rfl rfl ?_
  refine tr_seq ?_
  refine tr_region fun _ _ _ => ?_
  refine st rfl rfl rfl rfl (rLdS rfl rfl rfl) ?_
  refine ef rfl rfl (eCall1 rfl rfl rfl (fld_New_ok _ _ _ _ _ (by omega) hF.out) ⟨rfl, trivial⟩ ?_) 
  rintro _ _ ⟨h, rfl, rfl, hh⟩
  iterate 5 refine pu rfl rfl rfl rfl rfl ?_
  refine tr_seq ?_
  refine tr_seq ?_
  refine tr_region fun _ _ _ => ?_
  iterate 2 refine pu rfl rfl rfl rfl rfl ?_
  refine tr_cond_bool rfl (fun h2 => ?_) (fun h2 => ?_)
  · try simp only [zbA] at h2
    first | exact absurd trivial h2 | exact absurd rfl h2 | omega | (exact absurd h2 (by simp)) --done
  · try simp only [zbA] at h2
    refine tr_skip ?_
    refine tr_seq ?_
    refine tr_region fun _ _ _ => ?_
    refine pu rfl rfl rfl rfl rfl ?_
    refine ef rfl rfl (eCallV rfl rfl rfl (tow_prime g hgl) ⟨rfl, trivial⟩ ?_) 
    iterate 5 refine pu rfl rfl rfl rfl rfl ?_
    refine tr_seq ?_
    refine tr_seq ?_
    refine tr_region fun _ _ _ => ?_
    refine st rfl rfl rfl rfl (rFld rfl rfl) ?_
    refine st rfl rfl rfl rfl (rLdF rfl rfl rfl) ?_
    iterate 3 refine pu rfl rfl rfl rfl rfl ?_
    refine stT rfl rfl rfl (by simp <;> omega) rfl rfl (rMove rfl rfl) ?_
    refine stT rfl rfl rfl (by simp <;> omega) rfl rfl (rFld rfl rfl) ?_
    refine stT rfl rfl rfl (by simp <;> omega) rfl rfl (rLdF rfl rfl rfl) ?_
    refine efT rfl rfl rfl (by simp <;> omega) (eCallV rfl rfl rfl (tow_isDegree g hgl m hm1 (by omega)) ⟨rfl, rfl, trivial⟩ ?_) 
    refine stT rfl rfl rfl (by simp <;> omega) rfl rfl (rNotB rfl rfl) ?_
    refine st rfl rfl rfl rfl (rPick0 rfl rfl (by simp <;> omega) rfl) ?_
    refine tr_cond_bool rfl (fun h5 => ?_) (fun h5 => ?_)
    · try simp only [zbA] at h5
      refine tr_seq ?_
      refine tr_region fun _ _ _ => ?_
      iterate 2 refine pu rfl rfl rfl rfl rfl ?_
      exact tr_ret ⟨trivial, _, _, rfl, ⟨rfl, rfl⟩, CSub.nil _, trivial⟩
    · try simp only [zbA] at h5
      exact absurd h5 (by simp [hgM, hne]) --done
theorem tow_Emb1_ent : Enters Tryz.prog 75 := enters_of Tryz.func75 (by kernel_rfl) (by kernel_rfl)
theorem tow_Emb1 (p m : Int) (A : Option Addr) (c : Nat) (mod : List Int) [hF : IsF p m mod] (g : GfM) (m2 : Int) (mod2 : List Int) [hE : IsF p m2 mod2] (hg : GOk g p m2 mod2) (hd : m2 % m = 0) (hm : m = 1) :
    Pure Tryz.prog 75 #[.agg #[.int .i64 p, .int .i64 m, .slice A mod.length c], .pointer (some g.p)] [ro A (ints mod), gfR g] (one (fun v ch => ∃ B, v = .tuple #[.slice B (imL p m2 mod2 m (embR p m2 mod2 m mod)).length (imL p m2 mod2 m (embR p m2 mod2 m mod)).length, .int .i64 0] ∧ ch = ow B 3 (imL p m2 mod2 m (embR p m2 mod2 m mod)).length (ints (imL p m2 mod2 m (embR p m2 mod2 m mod))))) := by
  have hl8 := hF.short
  have hl82 := hE.short
  have hgm := hg.emod
  have hgl : g.mod.length ≤ 1000000 := by rw [hgm]; omega
  have hgP := hg.eP
  have hgM := hg.eM
  have hm1 := hF.m1
  have hm21 := hE.m1
  have hmm : m ≤ m2 := Int.le_of_dvd (by omega) (Int.dvd_of_emod_eq_zero hd)
  have hq2 := hF.q2
  have hq9 := hF.out.1.1.q
  have hm8 := hF.out.1.1.m8
  have hrt : IsRt p m2 mod2 m mod 0 := ⟨by omega, by have := hE.q2; omega, fun _ => rfl, fun h => by omega, fun h => by omega⟩
  have hre := hrt.eq hm1
  have hps : ∀ i : Nat, i < m.toNat → ([1] : List Int).getD i 0 = (Rg.pow (el (embR p m2 mod2 m mod)) i : El p m2 mod2).1 := fun i hi => by
    have : i = 0 := by omega
    subst this; rfl
  refine pure_of (args := [.agg #[.int .i64 p, .int .i64 m, .slice A mod.length c], .pointer (some g.p)]) 96 Tryz.func75 rfl rfl rfl tow_Emb1_ent ⟨id, id, trivial⟩ (fun w0 => ?_)
  refine tr_seq ?_
  refine tr_region fun _ _ _ => ?_
  refine ef rfl rfl (eBox rfl rfl rfl rfl rfl (fun p0 => ?_)) 
  iterate 2 refine pu rfl rfl rfl rfl rfl ?_
  refine tr_seq ?_
  refine tr_region fun _ _ _ => ?_
  refine st rfl rfl rfl rfl (rLdS rfl rfl rfl) ?_
  refine ef rfl rfl (eCall1 rfl rfl rfl (fld_New_ok _ _ _ _ _ (by omega) hF.out) ⟨rfl, trivial⟩ ?_) 
  rintro _ _ ⟨h, rfl, rfl, hh⟩
  iterate 5 refine pu rfl rfl rfl rfl rfl ?_
  refine tr_seq ?_
  refine tr_seq ?_
  refine tr_region fun _ _ _ => ?_
  iterate 2 refine pu rfl rfl rfl rfl rfl ?_
  refine tr_cond_bool rfl (fun h2 => ?_) (fun h2 => ?_)
  · try simp only [zbA] at h2
    first | exact absurd trivial h2 | exact absurd rfl h2 | omega | (exact absurd h2 (by simp)) --done
  · try simp only [zbA] at h2
    refine tr_skip ?_
    refine tr_seq ?_
    refine tr_region fun _ _ _ => ?_
    refine pu rfl rfl rfl rfl rfl ?_
    refine ef rfl rfl (eCallV rfl rfl rfl (tow_prime g hgl) ⟨rfl, trivial⟩ ?_) 
    iterate 5 refine pu rfl rfl rfl rfl rfl ?_
    refine tr_seq ?_
    refine tr_seq ?_
    refine tr_region fun _ _ _ => ?_
    refine st rfl rfl rfl rfl (rFld rfl rfl) ?_
    refine st rfl rfl rfl rfl (rLdF rfl rfl rfl) ?_
    iterate 3 refine pu rfl rfl rfl rfl rfl ?_
    refine stT rfl rfl rfl (by simp <;> omega) rfl rfl (rMove rfl rfl) ?_
    refine stT rfl rfl rfl (by simp <;> omega) rfl rfl (rFld rfl rfl) ?_
    refine stT rfl rfl rfl (by simp <;> omega) rfl rfl (rLdF rfl rfl rfl) ?_
    refine efT rfl rfl rfl (by simp <;> omega) (eCallV rfl rfl rfl (tow_isDegree g hgl m hm1 (by omega)) ⟨rfl, rfl, trivial⟩ ?_) 
    refine stT rfl rfl rfl (by simp <;> omega) rfl rfl (rNotB rfl rfl) ?_
    refine st rfl rfl rfl rfl (rPick0 rfl rfl (by simp <;> omega) rfl) ?_
    refine tr_cond_bool rfl (fun h5 => ?_) (fun h5 => ?_)
    · try simp only [zbA] at h5
      exact absurd h5 (by simp [hgM, hgP, hd] <;> omega) --done
    · try simp only [zbA] at h5
      refine tr_skip ?_
      refine tr_seq ?_
      refine tr_region fun _ _ _ => ?_
      refine ef rfl rfl (eLit1I rfl rfl rfl rfl (fun A7 => ?_)) 
      refine pu rfl rfl rfl rfl rfl ?_
      refine tr_seq ?_
      refine tr_seq ?_
      refine tr_region fun _ _ _ => ?_
      refine st rfl rfl rfl rfl (rFld rfl rfl) ?_
      refine st rfl rfl rfl rfl (rLdF rfl rfl rfl) ?_
      refine pu rfl rfl rfl rfl rfl ?_
      refine tr_cond_bool rfl (fun h8 => ?_) (fun h8 => ?_)
      · try simp only [zbA] at h8
        omega --done
      · try simp only [zbA] at h8
        refine tr_skip ?_
        refine tr_seq ?_
        have hhq := hh.eq
        refine tr_region fun _ _ _ => ?_
        refine pu rfl rfl rfl rfl rfl ?_
        refine ef rfl rfl (eCallV rfl rfl rfl (gf_Order h) ⟨rfl, trivial⟩ ?_) 
        refine ef rfl rfl (eMakeI rfl rfl rfl rfl rfl (by omega) (by omega) (by omega) (fun A16a => ?_)) 
        refine pu rfl rfl rfl rfl rfl ?_
        rw [hhq]
        refine tr_seq ?_
        refine tr_seq ?_
        refine tr_region fun _ _ _ => ?_
        refine pu rfl rfl rfl rfl rfl ?_
        refine st rfl rfl rfl rfl (rLen rfl rfl) ?_
        refine pu rfl rfl rfl rfl rfl ?_
        refine tr_block ?_
        refine tr_loop2 (fun (x : Int) (o : List Int) => [(14, .slice A16a (pw p m).toNat (pw p m).toNat), (81, .int .i64 (pw p m).toNat), (82, .int .i64 x), (10, .slice A7 [1].length 1), (6, .pointer (some h.p)), (1, .pointer (some g.p)), (4, .slice none 0 0), (5, .int .i64 0)]) (fun (x : Int) (o : List Int) => [ow A16a 3 (pw p m).toNat (ints o), ow A7 3 1 (ints [1]), gfN h, blk p0 24 [.int .i64 p, .int .i64 m, .slice A mod.length c], ro A (ints mod), gfR g]) (fun (x : Int) (o : List Int) => (0 ≤ x ∧ x ≤ pw p m) ∧ o.length = (pw p m).toNat ∧ ∀ j : Nat, (j : Int) < x → o.getD j 0 = (Po.val (pol (digs p m.toNat j) : Po (El p m2 mod2)) (el (embR p m2 mod2 m mod))).1) (fun (x : Int) (o : List Int) => (pw p m - x).toNat) (0) (List.replicate (pw p m).toNat 0) ⟨rfl, rfl, rfl, rfl, rfl, rfl, rfl, rfl, trivial⟩ (by first | exact cs _ _ | exact CSub.refl _) (⟨⟨by omega, by omega⟩, by simp, fun j hj => by omega⟩) (fun x o hI => ?_)
        obtain ⟨⟨hx0, hx1⟩, hol, ho⟩ := hI
        refine tr_seq ?_
        refine tr_region fun _ _ _ => ?_
        refine pu rfl rfl rfl rfl rfl ?_
        refine tr_seq ?_
        refine tr_cond_bool rfl (fun h18 => ?_) (fun h18 => ?_)
        · try simp only [zbA] at h18
          refine tr_skip ?_
          refine tr_seq ?_
          refine tr_block ?_
          refine tr_seq ?_
          refine tr_region fun _ _ _ => ?_
          iterate 2 refine pu rfl rfl rfl rfl rfl ?_
          refine tr_region fun _ _ _ => ?_
          iterate 5 refine pu rfl rfl rfl rfl rfl ?_
          refine ef rfl rfl (eCall1 rfl rfl rfl (gf_Digits h hh x ⟨by omega, by omega⟩) ⟨rfl, rfl, trivial⟩ ?_) 
          rintro _ _ ⟨Bd, rfl, rfl⟩
          refine pu rfl rfl rfl rfl rfl ?_
          refine ef rfl rfl (eCallV rfl rfl rfl (gf_Dot g hg Bd _ _ (digs p m.toNat x) (digs_len _ _ _).symm A7 1 1 [1] rfl (by rw [digs_len]; omega) (by rw [digs_len]; show _ = 1; omega)) ⟨rfl, rfl, rfl, trivial⟩ ?_) 
          refine st rfl rfl rfl rfl (rIdxI rfl rfl rfl (by omega) (by omega) (by omega)) ?_
          refine ef rfl rfl (eStI rfl rfl rfl rfl (by omega) ?_) 
          refine tr_region fun _ _ _ => ?_
          refine st rfl rfl rfl rfl (rAdd rfl rfl rfl (by omega) (by omega)) ?_
          refine pu rfl rfl rfl rfl rfl ?_
          refine ⟨x + 1, o.set x.toNat (Rg.sm (digs p m.toNat x).length fun i => (el ((digs p m.toNat x).getD i 0) * el ([1].getD i 0) : El p m2 mod2)).1, ⟨rfl, rfl, rfl, rfl, rfl, rfl, rfl, rfl, trivial⟩, by first | exact cs _ _ | exact CSub.refl _, ?_⟩
          refine ⟨⟨⟨by omega, by omega⟩, by simpa using hol, fun j hj => ?_⟩, by omega⟩
          rw [getD_set]
          by_cases he : x.toNat = j
          · subst he
            rw [if_pos ⟨rfl, by omega⟩, Int.toNat_of_nonneg hx0, val_sum]
            refine congrArg (fun z : El p m2 mod2 => z.1) ?_
            refine Rg.sm_congr fun i hi => ?_
            rw [digs_len] at hi
            rw [hps i hi, el_of]
          · rw [if_neg (fun e => he e.1)]; exact ho j (by omega)
        · try simp only [zbA] at h18
          refine tr_exit ?_
          refine tr_seq ?_
          refine tr_region fun _ _ _ => ?_
          iterate 3 refine pu rfl rfl rfl rfl rfl ?_
          have hfin : o = (imL p m2 mod2 m (embR p m2 mod2 m mod)) := ext_getD (by rw [imL_length]; exact hol) fun j => by
            by_cases hj : j < (pw p m).toNat
            · rw [imL_get _ _ hj]; exact ho j (by omega)
            · rw [getD_out (by omega), getD_out (by rw [imL_length]; omega)]
          have hol2 : (pw p m).toNat = (imL p m2 mod2 m (embR p m2 mod2 m mod)).length := (imL_length _ _).symm
          exact tr_ret ⟨trivial, _, _, rfl, ⟨_, rfl, A16a, by rw [hol2], by rw [← hfin, hol]⟩, cs _ _, trivial, trivial⟩
theorem tow_Emb2_ent : Enters Tryz.prog 75 := enters_of Tryz.func75 (by kernel_rfl) (by kernel_rfl)
theorem tow_Emb2 (p m : Int) (A : Option Addr) (c : Nat) (mod : List Int) [hF : IsF p m mod] (g : GfM) (m2 : Int) (mod2 : List Int) [hE : IsF p m2 mod2] (hg : GOk g p m2 mod2) (hd : m2 % m = 0) (hm : 2 ≤ m) :
    Pure Tryz.prog 75 #[.agg #[.int .i64 p, .int .i64 m, .slice A mod.length c], .pointer (some g.p)] [ro A (ints mod), gfR g] (one (fun v ch => ∃ B, v = .tuple #[.slice B (imL p m2 mod2 m (embR p m2 mod2 m mod)).length (imL p m2 mod2 m (embR p m2 mod2 m mod)).length, .int .i64 0] ∧ ch = ow B 3 (imL p m2 mod2 m (embR p m2 mod2 m mod)).length (ints (imL p m2 mod2 m (embR p m2 mod2 m mod))))) := by
  have hl8 := hF.short
  have hl82 := hE.short
  have hgm := hg.emod
  have hgl : g.mod.length ≤ 1000000 := by rw [hgm]; omega
  have hgP := hg.eP
  have hgM := hg.eM
  have hm1 := hF.m1
  have hm21 := hE.m1
  have hmm : m ≤ m2 := Int.le_of_dvd (by omega) (Int.dvd_of_emod_eq_zero hd)
  have hq2 := hF.q2
  have hq9 := hF.out.1.1.q
  have hm8 := hF.out.1.1.m8
  refine pure_of (args := [.agg #[.int .i64 p, .int .i64 m, .slice A mod.length c], .pointer (some g.p)]) 96 Tryz.func75 rfl rfl rfl tow_Emb2_ent ⟨id, id, trivial⟩ (fun w0 => ?_)
  refine tr_seq ?_
  refine tr_region fun _ _ _ => ?_
  refine ef rfl rfl (eBox rfl rfl rfl rfl rfl (fun p0 => ?_)) 
  iterate 2 refine pu rfl rfl rfl rfl rfl ?_
  refine tr_seq ?_
  refine tr_region fun _ _ _ => ?_
  refine st rfl rfl rfl rfl (rLdS rfl rfl rfl) ?_
  refine ef rfl rfl (eCall1 rfl rfl rfl (fld_New_ok _ _ _ _ _ (by omega) hF.out) ⟨rfl, trivial⟩ ?_) 
  rintro _ _ ⟨h, rfl, rfl, hh⟩
  iterate 5 refine pu rfl rfl rfl rfl rfl ?_
  refine tr_seq ?_
  refine tr_seq ?_
  refine tr_region fun _ _ _ => ?_
  iterate 2 refine pu rfl rfl rfl rfl rfl ?_
  refine tr_cond_bool rfl (fun h2 => ?_) (fun h2 => ?_)
  · try simp only [zbA] at h2
    first | exact absurd trivial h2 | exact absurd rfl h2 | omega | (exact absurd h2 (by simp)) --done
  · try simp only [zbA] at h2
    refine tr_skip ?_
    refine tr_seq ?_
    refine tr_region fun _ _ _ => ?_
    refine pu rfl rfl rfl rfl rfl ?_
    refine ef rfl rfl (eCallV rfl rfl rfl (tow_prime g hgl) ⟨rfl, trivial⟩ ?_) 
    iterate 5 refine pu rfl rfl rfl rfl rfl ?_
    refine tr_seq ?_
    refine tr_seq ?_
    refine tr_region fun _ _ _ => ?_
    refine st rfl rfl rfl rfl (rFld rfl rfl) ?_
    refine st rfl rfl rfl rfl (rLdF rfl rfl rfl) ?_
    iterate 3 refine pu rfl rfl rfl rfl rfl ?_
    refine stT rfl rfl rfl (by simp <;> omega) rfl rfl (rMove rfl rfl) ?_
    refine stT rfl rfl rfl (by simp <;> omega) rfl rfl (rFld rfl rfl) ?_
    refine stT rfl rfl rfl (by simp <;> omega) rfl rfl (rLdF rfl rfl rfl) ?_
    refine efT rfl rfl rfl (by simp <;> omega) (eCallV rfl rfl rfl (tow_isDegree g hgl m hm1 (by omega)) ⟨rfl, rfl, trivial⟩ ?_) 
    refine stT rfl rfl rfl (by simp <;> omega) rfl rfl (rNotB rfl rfl) ?_
    refine st rfl rfl rfl rfl (rPick0 rfl rfl (by simp <;> omega) rfl) ?_
    refine tr_cond_bool rfl (fun h5 => ?_) (fun h5 => ?_)
    · try simp only [zbA] at h5
      exact absurd h5 (by simp [hgM, hgP, hd] <;> omega) --done
    · try simp only [zbA] at h5
      refine tr_skip ?_
      refine tr_seq ?_
      refine tr_region fun _ _ _ => ?_
      refine ef rfl rfl (eLit1I rfl rfl rfl rfl (fun A7 => ?_)) 
      refine pu rfl rfl rfl rfl rfl ?_
      refine tr_seq ?_
      refine tr_seq ?_
      refine tr_region fun _ _ _ => ?_
      refine st rfl rfl rfl rfl (rFld rfl rfl) ?_
      refine st rfl rfl rfl rfl (rLdF rfl rfl rfl) ?_
      refine pu rfl rfl rfl rfl rfl ?_
      refine tr_cond_bool rfl (fun h8 => ?_) (fun h8 => ?_)
      · try simp only [zbA] at h8
        refine tr_seq ?_
        refine tr_region fun _ _ _ => ?_
        refine pu rfl rfl rfl rfl rfl ?_
        refine ef rfl rfl (eLit0I rfl rfl rfl  (fun A9 => ?_)) 
        refine st rfl rfl rfl rfl (rFld rfl rfl) ?_
        refine st rfl rfl rfl rfl (rLdF rfl rfl rfl) ?_
        refine ef rfl rfl (eAppI rfl rfl rfl rfl rfl (by first | rfl | simp | omega) (by first | rfl | simp | omega) (by first | omega | (simp; omega)) (fun A9a c9a => ?_)) 
        refine ef rfl rfl (eLit1I rfl rfl rfl rfl (fun A9b => ?_)) 
        refine ef rfl rfl (eAppI rfl rfl rfl rfl rfl (by first | rfl | simp | omega) (by first | rfl | simp | omega) (by first | omega | (simp; omega)) (fun A9c c9c => ?_)) 
        simp only [List.nil_append]
        refine ef rfl rfl (eCall1 rfl rfl rfl (poly_Roots g hg A9c _ c9c (mod ++ [1]) rfl (by simp; omega) (polmod_ne mod)) ⟨rfl, rfl, trivial⟩ ?_) 
        rintro _ _ ⟨Bz, cz, zs, rfl, rfl, hzs⟩
        iterate 5 refine pu rfl rfl rfl rfl rfl ?_
        refine tr_seq ?_
        refine tr_seq ?_
        rw [hg.eq] at hzs
        obtain ⟨hz0, hrt⟩ := rt_of_head (p := p) (m := m) (mod := mod) hm hd hzs
        have hre := hrt.eq hm1
        refine tr_region fun _ _ _ => ?_
        refine pu rfl rfl rfl rfl rfl ?_
        refine st rfl rfl rfl rfl (rLen rfl rfl) ?_
        refine pu rfl rfl rfl rfl rfl ?_
        refine tr_cond_bool rfl (fun h10 => ?_) (fun h10 => ?_)
        · try simp only [zbA] at h10
          omega --done
        · try simp only [zbA] at h10
          refine tr_skip ?_
          refine tr_seq ?_
          refine tr_region fun _ _ _ => ?_
          refine pu rfl rfl rfl rfl rfl ?_
          refine tr_block ?_
          refine tr_loop4 (fun (i : Int) (B : Option Addr) (cb : Nat) (ps : List Int) => [(10, .slice B ps.length cb), (13, .int .i64 i), (6, .pointer (some h.p)), (11, .slice Bz zs.length cz), (1, .pointer (some g.p)), (2, .pointer (some p0)), (4, .slice none 0 0), (5, .int .i64 0)]) (fun (i : Int) (B : Option Addr) (cb : Nat) (ps : List Int) => [ow B 3 cb (ints ps), ow Bz 3 cz (ints zs), gfN h, blk p0 24 [.int .i64 p, .int .i64 m, .slice A mod.length c], ro A (ints mod), gfR g]) (fun (i : Int) (B : Option Addr) (cb : Nat) (ps : List Int) => (1 ≤ i ∧ i ≤ m) ∧ (ps.length : Int) = i ∧ ∀ j : Nat, (j : Int) < i → ps.getD j 0 = (Rg.pow (el (zs.getD 0 0)) j : El p m2 mod2).1) (fun (i : Int) (B : Option Addr) (cb : Nat) (ps : List Int) => (m - i).toNat) (1) (A7) (1) ([1]) ⟨rfl, rfl, rfl, rfl, rfl, rfl, rfl, rfl, trivial⟩ (by first | exact cs _ _ | exact CSub.refl _) (⟨⟨by omega, by omega⟩, rfl, fun j hj => by rw [show j = 0 by omega]; rfl⟩) (fun i B cb ps hI => ?_)
          obtain ⟨⟨hi0, hi1⟩, hpl, hpw⟩ := hI
          refine tr_seq ?_
          refine tr_seq ?_
          refine tr_region fun _ _ _ => ?_
          refine pu rfl rfl rfl rfl rfl ?_
          refine st rfl rfl rfl rfl (rFld rfl rfl) ?_
          refine st rfl rfl rfl rfl (rLdF rfl rfl rfl) ?_
          refine pu rfl rfl rfl rfl rfl ?_
          refine tr_cond_bool rfl (fun h13 => ?_) (fun h13 => ?_)
          · try simp only [zbA] at h13
            refine tr_skip ?_
            refine tr_seq ?_
            refine tr_block ?_
            refine tr_draw [0, 1, 2, 3, 4, 5, 6, 7, 8, 9, 10, 11] [12, 13] mixed (by kernel_rfl) fun _ _ _ => ?_
            iterate 4 refine pu rfl rfl rfl rfl rfl ?_
            refine st rfl rfl rfl rfl (rSub rfl rfl rfl (by omega) (by omega)) ?_
            refine st rfl rfl rfl rfl (rIdxI rfl rfl rfl (by omega) (by omega) (by omega)) ?_
            refine st rfl rfl rfl rfl (rLdI rfl rfl (by omega)) ?_
            refine pu rfl rfl rfl rfl rfl ?_
            refine st rfl rfl rfl rfl (rIdxI rfl rfl rfl (by omega) (by omega) (by omega)) ?_
            refine st rfl rfl rfl rfl (rLdI rfl rfl (by omega)) ?_
            refine ef rfl rfl (eCallV rfl rfl rfl (gf_MulE g hg _ _) ⟨rfl, rfl, rfl, trivial⟩ ?_) 
            refine ef rfl rfl (eLit1I rfl rfl rfl rfl (fun A15a => ?_)) 
            refine ef rfl rfl (eAppI rfl rfl rfl rfl rfl (by first | rfl | simp | omega) (by first | rfl | simp | omega) (by first | omega | (simp; omega)) (fun A15b c15b => ?_)) 
            refine pu rfl rfl rfl rfl rfl ?_
            refine tr_region fun _ _ _ => ?_
            refine pu rfl rfl rfl rfl rfl ?_
            refine st rfl rfl rfl rfl (rAdd rfl rfl rfl (by omega) (by omega)) ?_
            refine pu rfl rfl rfl rfl rfl ?_
            refine ⟨i + 1, A15b, c15b, ps ++ [(el (ps.getD (i - 1).toNat 0) * el (zs.getD (Int.toNat 0) 0) : El p m2 mod2).1], ⟨rfl, rfl, rfl, rfl, rfl, rfl, rfl, rfl, trivial⟩, by first | exact cs _ _ | exact CSub.refl _, ?_⟩
            refine ⟨⟨⟨by omega, by omega⟩, by simp; omega, fun j hj => ?_⟩, by omega⟩
            rw [getD_app1]
            by_cases he : j = ps.length
            · have h1 : (i - 1).toNat = j - 1 := by omega
              rw [if_pos he, h1, hpw (j - 1) (by omega), el_of]
              refine congrArg (fun z : El p m2 mod2 => z.1) ?_
              have h2 : j = (j - 1) + 1 := by omega
              rw [h2, Rg.pow_succ]; rfl
            · rw [if_neg he]; exact hpw j (by omega)
          · try simp only [zbA] at h13
            refine tr_exit ?_
            refine tr_seq ?_
            have hhq := hh.eq
            have hps : ∀ j : Nat, j < m.toNat → ps.getD j 0 = (Rg.pow (el (embR p m2 mod2 m mod)) j : El p m2 mod2).1 := fun j hj => by rw [hre]; exact hpw j (by omega)
            refine tr_region fun _ _ _ => ?_
            refine pu rfl rfl rfl rfl rfl ?_
            refine ef rfl rfl (eCallV rfl rfl rfl (gf_Order h) ⟨rfl, trivial⟩ ?_) 
            refine ef rfl rfl (eMakeI rfl rfl rfl rfl rfl (by omega) (by omega) (by omega) (fun A16a => ?_)) 
            refine pu rfl rfl rfl rfl rfl ?_
            rw [hhq]
            refine tr_seq ?_
            refine tr_seq ?_
            refine tr_region fun _ _ _ => ?_
            refine pu rfl rfl rfl rfl rfl ?_
            refine st rfl rfl rfl rfl (rLen rfl rfl) ?_
            refine pu rfl rfl rfl rfl rfl ?_
            refine tr_block ?_
            refine tr_loop2 (fun (x : Int) (o : List Int) => [(14, .slice A16a (pw p m).toNat (pw p m).toNat), (81, .int .i64 (pw p m).toNat), (82, .int .i64 x), (10, .slice B ps.length cb), (6, .pointer (some h.p)), (1, .pointer (some g.p)), (4, .slice none 0 0), (5, .int .i64 0)]) (fun (x : Int) (o : List Int) => [ow A16a 3 (pw p m).toNat (ints o), ow B 3 cb (ints ps), gfN h, ow Bz 3 cz (ints zs), blk p0 24 [.int .i64 p, .int .i64 m, .slice A mod.length c], ro A (ints mod), gfR g]) (fun (x : Int) (o : List Int) => (0 ≤ x ∧ x ≤ pw p m) ∧ o.length = (pw p m).toNat ∧ ∀ j : Nat, (j : Int) < x → o.getD j 0 = (Po.val (pol (digs p m.toNat j) : Po (El p m2 mod2)) (el (embR p m2 mod2 m mod))).1) (fun (x : Int) (o : List Int) => (pw p m - x).toNat) (0) (List.replicate (pw p m).toNat 0) ⟨rfl, rfl, rfl, rfl, rfl, rfl, rfl, rfl, trivial⟩ (by first | exact cs _ _ | exact CSub.refl _) (⟨⟨by omega, by omega⟩, by simp, fun j hj => by omega⟩) (fun x o hI => ?_)
            obtain ⟨⟨hx0, hx1⟩, hol, ho⟩ := hI
            refine tr_seq ?_
            refine tr_region fun _ _ _ => ?_
            refine pu rfl rfl rfl rfl rfl ?_
            refine tr_seq ?_
            refine tr_cond_bool rfl (fun h18 => ?_) (fun h18 => ?_)
            · try simp only [zbA] at h18
              refine tr_skip ?_
              refine tr_seq ?_
              refine tr_block ?_
              refine tr_seq ?_
              refine tr_region fun _ _ _ => ?_
              iterate 2 refine pu rfl rfl rfl rfl rfl ?_
              refine tr_region fun _ _ _ => ?_
              iterate 5 refine pu rfl rfl rfl rfl rfl ?_
              refine ef rfl rfl (eCall1 rfl rfl rfl (gf_Digits h hh x ⟨by omega, by omega⟩) ⟨rfl, rfl, trivial⟩ ?_) 
              rintro _ _ ⟨Bd, rfl, rfl⟩
              refine pu rfl rfl rfl rfl rfl ?_
              refine ef rfl rfl (eCallV rfl rfl rfl (gf_Dot g hg Bd _ _ (digs p m.toNat x) (digs_len _ _ _).symm B _ cb ps rfl (by rw [digs_len]; omega) (by rw [digs_len]; omega)) ⟨rfl, rfl, rfl, trivial⟩ ?_) 
              refine st rfl rfl rfl rfl (rIdxI rfl rfl rfl (by omega) (by omega) (by omega)) ?_
              refine ef rfl rfl (eStI rfl rfl rfl rfl (by omega) ?_) 
              refine tr_region fun _ _ _ => ?_
              refine st rfl rfl rfl rfl (rAdd rfl rfl rfl (by omega) (by omega)) ?_
              refine pu rfl rfl rfl rfl rfl ?_
              refine ⟨x + 1, o.set x.toNat (Rg.sm (digs p m.toNat x).length fun i => (el ((digs p m.toNat x).getD i 0) * el (ps.getD i 0) : El p m2 mod2)).1, ⟨rfl, rfl, rfl, rfl, rfl, rfl, rfl, rfl, trivial⟩, by first | exact cs _ _ | exact CSub.refl _, ?_⟩
              refine ⟨⟨⟨by omega, by omega⟩, by simpa using hol, fun j hj => ?_⟩, by omega⟩
              rw [getD_set]
              by_cases he : x.toNat = j
              · subst he
                rw [if_pos ⟨rfl, by omega⟩, Int.toNat_of_nonneg hx0, val_sum]
                refine congrArg (fun z : El p m2 mod2 => z.1) ?_
                refine Rg.sm_congr fun i hi => ?_
                rw [digs_len] at hi
                rw [hps i hi, el_of]
              · rw [if_neg (fun e => he e.1)]; exact ho j (by omega)
            · try simp only [zbA] at h18
              refine tr_exit ?_
              refine tr_seq ?_
              refine tr_region fun _ _ _ => ?_
              iterate 3 refine pu rfl rfl rfl rfl rfl ?_
              have hfin : o = (imL p m2 mod2 m (embR p m2 mod2 m mod)) := ext_getD (by rw [imL_length]; exact hol) fun j => by
                by_cases hj : j < (pw p m).toNat
                · rw [imL_get _ _ hj]; exact ho j (by omega)
                · rw [getD_out (by omega), getD_out (by rw [imL_length]; omega)]
              have hol2 : (pw p m).toNat = (imL p m2 mod2 m (embR p m2 mod2 m mod)).length := (imL_length _ _).symm
              exact tr_ret ⟨trivial, _, _, rfl, ⟨_, rfl, A16a, by rw [hol2], by rw [← hfin, hol]⟩, cs _ _, trivial, trivial⟩
      · try simp only [zbA] at h8
        omega --done
end Go.Proofs.YtgnmcoegdogfgaaGreat

set_option linter.unusedSimpArgs false
set_option linter.unusedVariables false
set_option maxRecDepth 100000
namespace Go.Proofs.YtgnmcoegdogfgaaGreat
open Go.RowKit
section
variable {p m2 : Int} {mod2 : List Int} [hE : IsF p m2 mod2]
noncomputable def zerB (p m2 : Int) (mod2 : List Int) [hE : IsF p m2 mod2] (im : List Int) (rs : List RowM) (a i : Int) : Bool := rs.all fun r => zset p m2 mod2 (pol (r.xs.map (fun y : Int => im.getD y.toNat 0))) (Rg.pow (el a : El p m2 mod2) i.toNat).1
theorem zerB_any (im : List Int) (rs : List RowM) (a i : Int) : zerB p m2 mod2 im rs a i = !(rs.any fun r => !(zset p m2 mod2 (pol (r.xs.map (fun y : Int => im.getD y.toNat 0))) (Rg.pow (el a : El p m2 mod2) i.toNat).1)) := by
  unfold zerB; rw [List.all_eq_not_any_not]
theorem upF_succ (φ : Int → Bool) {i : Int} (hi : 0 ≤ i) : (upI (i + 1).toNat).filter φ = (upI i.toNat).filter φ ++ if φ i = true then [i] else [] := by
  rw [show (i + 1).toNat = i.toNat + 1 by omega, upI_succ, List.filter_append, Int.toNat_of_nonneg hi]
  congr 1
  by_cases h : φ i = true
  · rw [if_pos h, List.filter_cons_of_pos h, List.filter_nil]
  · rw [if_neg h, List.filter_cons_of_neg h, List.filter_nil]
noncomputable def zerL (p m2 : Int) (mod2 : List Int) [hE : IsF p m2 mod2] (im : List Int) (rs : List RowM) (a n : Int) : List Int := (upI n.toNat).filter (zerB p m2 mod2 im rs a)
end
theorem bch_value_ent : Enters Tryz.prog 34 := enters_of Tryz.func34 (by kernel_rfl) (by kernel_rfl)
theorem bch_value (g : GfM) {p m : Int} {mod : List Int} [hF : IsF p m mod] (hg : GOk g p m mod) (Y : Option Addr) (ny cy : Nat) (im : List Int) (hny : ny = im.length) (X : Option Addr) (nx cx : Nat) (ws : List Int) (hnx : nx = ws.length) (h9 : ws.length ≤ 1000000) (hws : ∀ y ∈ ws, 0 ≤ y ∧ y < im.length) (x : Int) :
    Pure Tryz.prog 34 #[.pointer (some g.p), .slice Y ny cy, .slice X nx cx, .int .i64 x] [gfR g, ro Y (ints im), ro X (ints ws)] (isV (.int .i64 (Po.val (pol (ws.map (fun y : Int => im.getD y.toNat 0)) : Po (El p m mod)) (el x)).1)) := by
  refine pure_of (args := [.pointer (some g.p), .slice Y ny cy, .slice X nx cx, .int .i64 x]) 34 Tryz.func34 rfl rfl rfl bch_value_ent ⟨id, id, id, trivial⟩ (fun w0 => ?_)
  refine tr_seq ?_
  refine tr_region fun _ _ _ => ?_
  refine pu rfl rfl rfl rfl rfl ?_
  refine tr_seq ?_
  refine tr_region fun _ _ _ => ?_
  refine pu rfl rfl rfl rfl rfl ?_
  refine st rfl rfl rfl rfl (rLen rfl rfl) ?_
  refine ef rfl rfl (eMakeI rfl rfl rfl rfl rfl (by omega) (by omega) (by omega) (fun A1 => ?_)) 
  refine pu rfl rfl rfl rfl rfl ?_
  simp only [Int.toNat_natCast]
  refine tr_seq ?_
  refine tr_seq ?_
  refine tr_region fun _ _ _ => ?_
  refine pu rfl rfl rfl rfl rfl ?_
  refine st rfl rfl rfl rfl (rLen rfl rfl) ?_
  refine pu rfl rfl rfl rfl rfl ?_
  refine tr_block ?_
  refine tr_loop2 (fun (k : Int) (o : List Int) => [(9, .slice A1 nx nx), (15, .slice X nx cx), (16, .int .i64 nx), (17, .int .i64 k), (0, .pointer (some g.p)), (1, .slice Y ny cy), (3, .int .i64 x), (8, .int .i64 0)]) (fun (k : Int) (o : List Int) => [ow A1 3 nx (ints o), gfR g, ro Y (ints im), ro X (ints ws)]) (fun (k : Int) (o : List Int) => (0 ≤ k ∧ k ≤ nx) ∧ o.length = nx ∧ ∀ j : Nat, (j : Int) < k → o.getD j 0 = im.getD (ws.getD j 0).toNat 0) (fun (k : Int) (o : List Int) => (nx - k).toNat) (0) (List.replicate nx 0) ⟨rfl, rfl, rfl, rfl, rfl, rfl, rfl, rfl, trivial⟩ (by first | exact cs _ _ | exact CSub.refl _) (⟨⟨by omega, by omega⟩, by simp, fun j hj => by omega⟩) (fun k o hI => ?_)
  obtain ⟨⟨hk0, hk1⟩, hol, ho⟩ := hI
  refine tr_seq ?_
  refine tr_region fun _ _ _ => ?_
  refine pu rfl rfl rfl rfl rfl ?_
  refine tr_seq ?_
  refine tr_cond_bool rfl (fun h3 => ?_) (fun h3 => ?_)
  · try simp only [zbA] at h3
    refine tr_skip ?_
    refine tr_seq ?_
    refine tr_block ?_
    refine tr_seq ?_
    have hwk := hws _ (getD_mem (show k.toNat < ws.length by omega) 0)
    refine tr_region fun _ _ _ => ?_
    refine pu rfl rfl rfl rfl rfl ?_
    refine st rfl rfl rfl rfl (rIdxI rfl rfl rfl (by omega) (by omega) (by omega)) ?_
    refine st rfl rfl rfl rfl (rLdI rfl rfl (by omega)) ?_
    iterate 2 refine pu rfl rfl rfl rfl rfl ?_
    refine tr_region fun _ _ _ => ?_
    iterate 4 refine pu rfl rfl rfl rfl rfl ?_
    refine st rfl rfl rfl rfl (rIdxI rfl rfl rfl (by omega) (by omega) (by omega)) ?_
    refine st rfl rfl rfl rfl (rLdI rfl rfl (by omega)) ?_
    refine st rfl rfl rfl rfl (rIdxI rfl rfl rfl (by omega) (by omega) (by omega)) ?_
    refine ef rfl rfl (eStI rfl rfl rfl rfl (by omega) ?_) 
    refine tr_region fun _ _ _ => ?_
    refine st rfl rfl rfl rfl (rAdd rfl rfl rfl (by omega) (by omega)) ?_
    refine pu rfl rfl rfl rfl rfl ?_
    refine ⟨k + 1, o.set k.toNat (im.getD (ws.getD k.toNat 0).toNat 0), ⟨rfl, rfl, rfl, rfl, rfl, rfl, rfl, rfl, trivial⟩, by first | exact cs _ _ | exact CSub.refl _, ?_⟩
    refine ⟨⟨⟨by omega, by omega⟩, by simpa using hol, fun j hj => ?_⟩, by omega⟩
    rw [getD_set]
    by_cases he : k.toNat = j
    · subst he; rw [if_pos ⟨rfl, by omega⟩]
    · rw [if_neg (fun e => he e.1)]; exact ho j (by omega)
  · try simp only [zbA] at h3
    refine tr_exit ?_
    refine tr_seq ?_
    have hfin : o = ws.map (fun y : Int => im.getD y.toNat 0) := ext_getD (by rw [List.length_map]; omega) fun j => by
      by_cases hj : j < ws.length
      · rw [ho j (by omega), List.getD_eq_getElem?_getD, List.getD_eq_getElem?_getD (l := ws.map _), List.getElem?_map, List.getElem?_eq_getElem hj, List.getD_eq_getElem?_getD, List.getElem?_eq_getElem hj]
        simp [List.getD_eq_getElem?_getD]
      · rw [getD_out (by omega), getD_out (by rw [List.length_map]; omega)]
    refine tr_region fun _ _ _ => ?_
    iterate 3 refine pu rfl rfl rfl rfl rfl ?_
    refine ef rfl rfl (eCallV rfl rfl rfl (poly_Eval g hg A1 _ _ o (by omega) (by omega) x) ⟨rfl, rfl, rfl, trivial⟩ ?_) 
    refine pu rfl rfl rfl rfl rfl ?_
    exact tr_ret ⟨trivial, _, _, rfl, ⟨by rw [hfin], rfl⟩, CSub.nil _, trivial⟩
theorem bch_Zeros1_ent : Enters Tryz.prog 33 := enters_of Tryz.func33 (by kernel_rfl) (by kernel_rfl)
theorem bch_Zeros1 (g : GfM) {p m : Int} {mod : List Int} [hF : IsF p m mod] (hg : GOk g p m mod) (pg pi px : Addr) (Y : Option Addr) (cy : Nat) (im : List Int) (x : Int) (X : Option Addr) (nx cx : Nat) (ws : List Int) (hnx : nx = ws.length) (h9 : ws.length ≤ 1000000) (hws : ∀ y ∈ ws, 0 ≤ y ∧ y < im.length) :
    Pure Tryz.prog 33 #[.slice X nx cx, .pointer (some pg), .pointer (some pi), .pointer (some px)] [ro (some pg) [.pointer (some g.p)], ro (some pi) [.slice Y im.length cy], ro (some px) [.int .i64 x], gfR g, ro Y (ints im), ro X (ints ws)] (isV (.bool (!(zset p m mod (pol (ws.map (fun y : Int => im.getD y.toNat 0))) x)))) := by
  refine pure_of (args := [.slice X nx cx, .pointer (some pg), .pointer (some pi), .pointer (some px)]) 12 Tryz.func33 rfl rfl rfl bch_Zeros1_ent ⟨id, id, id, id, id, id, trivial⟩ (fun w0 => ?_)
  refine tr_seq ?_
  refine tr_region fun _ _ _ => ?_
  refine pu rfl rfl rfl rfl rfl ?_
  refine tr_seq ?_
  refine tr_region fun _ _ _ => ?_
  refine st rfl rfl rfl rfl (rLd0 rfl rfl) ?_
  refine st rfl rfl rfl rfl (rLd0 rfl rfl) ?_
  refine pu rfl rfl rfl rfl rfl ?_
  refine st rfl rfl rfl rfl (rLd0 rfl rfl) ?_
  refine ef rfl rfl (eCallV rfl rfl rfl (bch_value g hg Y _ _ im rfl X _ _ ws hnx h9 hws x) ⟨rfl, rfl, rfl, rfl, trivial⟩ ?_) 
  iterate 2 refine pu rfl rfl rfl rfl rfl ?_
  have hb : (decide ¬(((Po.val (pol (ws.map (fun y : Int => im.getD y.toNat 0)) : Po (El p m mod)) (el x)).1 : Int) = 0)) = !(zset p m mod (pol (ws.map (fun y : Int => im.getD y.toNat 0))) x) := by
    by_cases h : Po.val (pol (ws.map (fun y : Int => im.getD y.toNat 0)) : Po (El p m mod)) (el x) = 0
    · rw [zset_iff.2 h, decide_eq_false (fun e => e ((val_zero_iff _).2 h))]; rfl
    · have h1 : zset p m mod (pol (ws.map (fun y : Int => im.getD y.toNat 0))) x = false := Bool.eq_false_iff.2 fun e => h (zset_iff.1 e)
      have h2 : ¬ ((Po.val (pol (ws.map (fun y : Int => im.getD y.toNat 0)) : Po (El p m mod)) (el x)).1 : Int) = 0 := fun e => h ((val_zero_iff _).1 e)
      rw [h1]; exact decide_eq_true h2
  exact tr_ret ⟨trivial, _, _, rfl, ⟨by rw [← hb], rfl⟩, CSub.nil _, trivial⟩
theorem bch_Zeros1R (g : GfM) {p m : Int} {mod : List Int} [hF : IsF p m mod] (hg : GOk g p m mod) (pg pi px : Addr) (Y : Option Addr) (cy : Nat) (im : List Int) (x : Int) (rs : List RowM) {r : RowM} (hr : r ∈ rs) (h9 : r.xs.length ≤ 1000000) (hws : ∀ y ∈ r.xs, 0 ≤ y ∧ y < im.length) :
    Pure Tryz.prog 33 ([Value.slice r.A r.xs.length r.cap] ++ [Value.pointer (some pg), Value.pointer (some pi), Value.pointer (some px)]).toArray [ro (some pg) [.pointer (some g.p)], ro (some pi) [.slice Y im.length cy], ro (some px) [.int .i64 x], gfR g, ro Y (ints im), rowsR rs] (isV (.bool (!(zset p m mod (pol (r.xs.map (fun y : Int => im.getD y.toNat 0))) x)))) := by
  have h := bch_Zeros1 g hg pg pi px Y cy im x r.A _ r.cap r.xs rfl h9 hws
  refine ⟨h.ent, fun w hw => h.run w fun ch hc => ?_⟩
  simp only [List.mem_cons, List.not_mem_nil, or_false] at hc
  rcases hc with rfl | rfl | rfl | rfl | rfl | rfl
  · exact hw _ (by simp)
  · exact hw _ (by simp)
  · exact hw _ (by simp)
  · exact hw _ (by simp)
  · exact hw _ (by simp)
  · exact hw (rowsR rs) (by simp) r hr
theorem slc_IndexFuncR_ent : Enters Tryz.prog 78 := enters_of Tryz.func78 (by kernel_rfl) (by kernel_rfl)
theorem slc_IndexFuncR (A : Option Addr) (n c : Nat) (rs : List RowM) (hn : n = rs.length) (h9 : rs.length ≤ 1000000000000) (f : FuncId) (lb : List Value) (Gc : List Chunk) (φ : List Int → Bool) (hf : ∀ r ∈ rs, Pure Tryz.prog f ([Value.slice r.A r.xs.length r.cap] ++ lb).toArray Gc (isV (.bool (φ r.xs)))) :
    Pure Tryz.prog 78 #[.slice A n c, .func (.func f) #[] lb.toArray] [ro A (hdrs rs), bun Gc] (val (fun v => ∃ r : Int, v = .int .i64 r ∧ (r ≥ 0 ↔ rs.any (fun r => φ r.xs) = true))) := by
  refine pure_of (args := [.slice A n c, .func (.func f) #[] lb.toArray]) 19 Tryz.func78 rfl rfl rfl slc_IndexFuncR_ent ⟨id, id, trivial⟩ (fun w0 => ?_)
  refine tr_seq ?_
  refine tr_region fun _ _ _ => ?_
  refine pu rfl rfl rfl rfl rfl ?_
  refine tr_seq ?_
  refine tr_seq ?_
  refine tr_region fun _ _ _ => ?_
  refine pu rfl rfl rfl rfl rfl ?_
  refine st rfl rfl rfl rfl (rLen rfl rfl) ?_
  refine pu rfl rfl rfl rfl rfl ?_
  refine tr_block ?_
  refine tr_loop1 (fun (i : Nat) => [(0, .slice A n c), (1, .func (.func f) #[] lb.toArray), (7, .int .i64 n), (8, .int .i64 i)]) (fun (i : Nat) => [ro A (hdrs rs), bun Gc]) (fun (i : Nat) => i ≤ rs.length ∧ ∀ r ∈ rs.take i, φ r.xs = false) (fun (i : Nat) => rs.length - i) (0) ⟨rfl, rfl, rfl, rfl, trivial⟩ (by first | exact cs _ _ | exact CSub.refl _) (⟨by omega, fun x hx => by simp at hx⟩) (fun i hI => ?_)
  obtain ⟨hi, hno⟩ := hI
  refine tr_seq ?_
  refine tr_region fun _ _ _ => ?_
  refine pu rfl rfl rfl rfl rfl ?_
  refine tr_seq ?_
  refine tr_cond_bool rfl (fun h2 => ?_) (fun h2 => ?_)
  · try simp only [zbA] at h2
    refine tr_skip ?_
    refine tr_seq ?_
    refine tr_block ?_
    refine tr_seq ?_
    refine tr_region fun _ _ _ => ?_
    iterate 2 refine pu rfl rfl rfl rfl rfl ?_
    refine tr_seq ?_
    have hmem : rs.getD (i : Int).toNat rowD ∈ rs := getD_mem (show (i : Int).toNat < rs.length by omega) rowD
    refine tr_region fun _ _ _ => ?_
    iterate 3 refine pu rfl rfl rfl rfl rfl ?_
    refine st rfl rfl rfl rfl (rIdxR rfl rfl rfl (by omega) (by omega) (by omega)) ?_
    refine st rfl rfl rfl rfl (rLdR rfl rfl (by omega)) ?_
    refine ef rfl rfl (eCallFV rfl rfl rfl rfl (hf _ hmem) ⟨rfl, trivial⟩ ent_bun ?_) 
    refine tr_cond_bool rfl (fun h4 => ?_) (fun h4 => ?_)
    · try simp only [zbA] at h4
      refine tr_seq ?_
      refine tr_region fun _ _ _ => ?_
      iterate 2 refine pu rfl rfl rfl rfl rfl ?_
      exact tr_ret ⟨trivial, _, _, rfl, ⟨rfl, _, rfl, ⟨fun _ => List.any_eq_true.2 ⟨_, hmem, h4⟩, fun _ => by omega⟩⟩, CSub.nil _, trivial⟩
    · try simp only [zbA] at h4
      refine tr_skip ?_
      refine tr_region fun _ _ _ => ?_
      refine st rfl rfl rfl rfl (rAdd rfl rfl rfl (by omega) (by omega)) ?_
      refine pu rfl rfl rfl rfl rfl ?_
      refine ⟨i + 1, ⟨rfl, rfl, rfl, rfl, trivial⟩, by first | exact cs _ _ | exact CSub.refl _, ?_⟩
      refine ⟨⟨by omega, fun x hx => ?_⟩, by omega⟩
      rw [List.take_add_one, List.mem_append] at hx
      rcases hx with hx | hx
      · exact hno x hx
      · rw [List.getElem?_eq_getElem (by omega)] at hx
        simp only [Option.toList_some, List.mem_singleton] at hx
        rw [hx]
        have : rs.getD (i : Int).toNat rowD = rs[i] := by simp [List.getD_eq_getElem?_getD, show i < rs.length by omega]
        rw [this] at h4
        exact h4
  · try simp only [zbA] at h2
    refine tr_exit ?_
    refine tr_seq ?_
    refine tr_region fun _ _ _ => ?_
    refine pu rfl rfl rfl rfl rfl ?_
    have hin : i = rs.length := by omega
    rw [hin, List.take_length] at hno
    exact tr_ret ⟨trivial, _, _, rfl, ⟨rfl, _, rfl, ⟨fun h => absurd h (by decide), fun h => by
      obtain ⟨x, hx, hp⟩ := List.any_eq_true.1 h
      rw [hno x hx] at hp; cases hp⟩⟩, CSub.nil _, trivial⟩
theorem slc_ContainsFuncR_ent : Enters Tryz.prog 32 := enters_of Tryz.func32 (by kernel_rfl) (by kernel_rfl)
theorem slc_ContainsFuncR (A : Option Addr) (n c : Nat) (rs : List RowM) (hn : n = rs.length) (h9 : rs.length ≤ 1000000000000) (f : FuncId) (lb : List Value) (Gc : List Chunk) (φ : List Int → Bool) (hf : ∀ r ∈ rs, Pure Tryz.prog f ([Value.slice r.A r.xs.length r.cap] ++ lb).toArray Gc (isV (.bool (φ r.xs)))) :
    Pure Tryz.prog 32 #[.slice A n c, .func (.func f) #[] lb.toArray] [ro A (hdrs rs), bun Gc] (isV (.bool (rs.any fun r => φ r.xs))) := by
  refine pure_of (args := [.slice A n c, .func (.func f) #[] lb.toArray]) 9 Tryz.func32 rfl rfl rfl slc_ContainsFuncR_ent ⟨id, id, trivial⟩ (fun w0 => ?_)
  refine tr_seq ?_
  refine tr_region fun _ _ _ => ?_
  refine pu rfl rfl rfl rfl rfl ?_
  refine tr_seq ?_
  refine tr_region fun _ _ _ => ?_
  iterate 2 refine pu rfl rfl rfl rfl rfl ?_
  refine ef rfl rfl (eCall0 rfl rfl rfl (slc_IndexFuncR A n c rs hn h9 f lb Gc φ hf) ⟨rfl, rfl, trivial⟩ ?_) 
  rintro _ ⟨r, rfl, hr⟩
  iterate 2 refine pu rfl rfl rfl rfl rfl ?_
  exact tr_ret ⟨trivial, _, _, rfl, ⟨by cases hx : rs.any (fun r => φ r.xs) <;> simp [hx] at hr ⊢ <;> omega, rfl⟩, CSub.nil _, trivial⟩
theorem bch_extN_ent : Enters Tryz.prog 30 := enters_of Tryz.func30 (by kernel_rfl) (by kernel_rfl)
theorem bch_extN (p m : Int) (A : Option Addr) (c : Nat) (mod : List Int) [hF : IsF p m mod] (p2 m2 : Int) (A2 : Option Addr) (c2 : Nat) (mod2 : List Int) (hl92 : mod2.length ≤ 17592186044415) (hE : ¬ FldR p2 m2 mod2) (n : Int) :
    Pure Tryz.prog 30 #[.agg #[.int .i64 p, .int .i64 m, .slice A mod.length c], .agg #[.int .i64 p2, .int .i64 m2, .slice A2 mod2.length c2], .int .i64 n] [ro A (ints mod), ro A2 (ints mod2)] (isV (.tuple #[.pointer none, .slice none 0 0, .int .i64 0, .int .i64 1])) := by
  refine pure_of (args := [.agg #[.int .i64 p, .int .i64 m, .slice A mod.length c], .agg #[.int .i64 p2, .int .i64 m2, .slice A2 mod2.length c2], .int .i64 n]) 47 Tryz.func30 rfl rfl rfl bch_extN_ent ⟨id, id, trivial⟩ (fun w0 => ?_)
  refine tr_seq ?_
  refine tr_region fun _ _ _ => ?_
  refine ef rfl rfl (eBox rfl rfl rfl rfl rfl (fun p0 => ?_)) 
  refine ef rfl rfl (eBox rfl rfl rfl rfl rfl (fun p0a => ?_)) 
  iterate 4 refine pu rfl rfl rfl rfl rfl ?_
  refine tr_seq ?_
  refine tr_region fun _ _ _ => ?_
  refine st rfl rfl rfl rfl (rLdS rfl rfl rfl) ?_
  refine ef rfl rfl (eCallV rfl rfl rfl (fld_New_no _ _ _ _ _ hl92 hE) ⟨rfl, trivial⟩ ?_) 
  iterate 5 refine pu rfl rfl rfl rfl rfl ?_
  refine tr_seq ?_
  refine tr_seq ?_
  refine tr_region fun _ _ _ => ?_
  iterate 2 refine pu rfl rfl rfl rfl rfl ?_
  refine tr_cond_bool rfl (fun h2 => ?_) (fun h2 => ?_)
  · try simp only [zbA] at h2
    refine tr_seq ?_
    refine tr_region fun _ _ _ => ?_
    iterate 5 refine pu rfl rfl rfl rfl rfl ?_
    exact tr_ret ⟨trivial, _, _, rfl, ⟨rfl, rfl⟩, CSub.nil _, trivial⟩
  · try simp only [zbA] at h2
    first | exact absurd trivial h2 | exact absurd rfl h2 | omega | (exact absurd h2 (by simp)) --done
theorem bch_extP_ent : Enters Tryz.prog 30 := enters_of Tryz.func30 (by kernel_rfl) (by kernel_rfl)
theorem bch_extP (p m : Int) (A : Option Addr) (c : Nat) (mod : List Int) [hF : IsF p m mod] (p2 m2 : Int) (A2 : Option Addr) (c2 : Nat) (mod2 : List Int) [hE : IsF p2 m2 mod2] (hne : p ≠ p2) (n : Int) (hn1 : 1 ≤ n) (hn64 : n ≤ 64) :
    Pure Tryz.prog 30 #[.agg #[.int .i64 p, .int .i64 m, .slice A mod.length c], .agg #[.int .i64 p2, .int .i64 m2, .slice A2 mod2.length c2], .int .i64 n] [ro A (ints mod), ro A2 (ints mod2)] (isV (.tuple #[.pointer none, .slice none 0 0, .int .i64 0, .int .i64 10])) := by
  refine pure_of (args := [.agg #[.int .i64 p, .int .i64 m, .slice A mod.length c], .agg #[.int .i64 p2, .int .i64 m2, .slice A2 mod2.length c2], .int .i64 n]) 47 Tryz.func30 rfl rfl rfl bch_extP_ent ⟨id, id, trivial⟩ (fun w0 => ?_)
  refine tr_seq ?_
  refine tr_region fun _ _ _ => ?_
  refine ef rfl rfl (eBox rfl rfl rfl rfl rfl (fun p0 => ?_)) 
  refine ef rfl rfl (eBox rfl rfl rfl rfl rfl (fun p0a => ?_)) 
  iterate 4 refine pu rfl rfl rfl rfl rfl ?_
  refine tr_seq ?_
  refine tr_region fun _ _ _ => ?_
  refine st rfl rfl rfl rfl (rLdS rfl rfl rfl) ?_
  refine ef rfl rfl (eCall1 rfl rfl rfl (fld_New_ok _ _ _ _ _ (by have := hE.short; omega) hE.out) ⟨rfl, trivial⟩ ?_) 
  rintro _ _ ⟨g, rfl, rfl, hg⟩
  iterate 5 refine pu rfl rfl rfl rfl rfl ?_
  refine tr_seq ?_
  refine tr_seq ?_
  refine tr_region fun _ _ _ => ?_
  iterate 2 refine pu rfl rfl rfl rfl rfl ?_
  refine tr_cond_bool rfl (fun h2 => ?_) (fun h2 => ?_)
  · try simp only [zbA] at h2
    first | exact absurd trivial h2 | exact absurd rfl h2 | omega | (exact absurd h2 (by simp)) --done
  · try simp only [zbA] at h2
    refine tr_skip ?_
    refine tr_seq ?_
    refine tr_seq ?_
    refine tr_region fun _ _ _ => ?_
    iterate 3 refine pu rfl rfl rfl rfl rfl ?_
    refine stg rfl rfl rfl rfl rfl (fun hb => by (have hq := hb; try simp only [zbA] at hq); exact rMove rfl rfl) ?_
    refine stg rfl rfl rfl rfl rfl (fun hb => by (have hq := hb; try simp only [zbA] at hq); exact rGtr rfl (evg rfl hb) rfl) ?_
    refine st rfl rfl rfl rfl (rOrB rfl rfl rfl rfl) ?_
    refine tr_cond_bool rfl (fun h4 => ?_) (fun h4 => ?_)
    · try simp only [zbA] at h4
      omega --done
    · try simp only [zbA] at h4
      refine tr_skip ?_
      refine tr_seq ?_
      refine tr_region fun _ _ _ => ?_
      refine st rfl rfl rfl rfl (rLdS rfl rfl rfl) ?_
      refine pu rfl rfl rfl rfl rfl ?_
      refine ef rfl rfl (eCallV rfl rfl rfl (tow_EmbP _ _ _ _ _ g p2 m2 mod2 hg hne) ⟨rfl, rfl, trivial⟩ ?_) 
      iterate 5 refine pu rfl rfl rfl rfl rfl ?_
      refine tr_seq ?_
      refine tr_seq ?_
      refine tr_region fun _ _ _ => ?_
      iterate 2 refine pu rfl rfl rfl rfl rfl ?_
      refine tr_cond_bool rfl (fun h7 => ?_) (fun h7 => ?_)
      · try simp only [zbA] at h7
        refine tr_seq ?_
        refine tr_region fun _ _ _ => ?_
        iterate 5 refine pu rfl rfl rfl rfl rfl ?_
        exact tr_ret ⟨trivial, _, _, rfl, ⟨rfl, rfl⟩, CSub.nil _, trivial⟩
      · try simp only [zbA] at h7
        first | exact absurd trivial h7 | exact absurd rfl h7 | omega | (exact absurd h7 (by simp)) --done
theorem bch_extD_ent : Enters Tryz.prog 30 := enters_of Tryz.func30 (by kernel_rfl) (by kernel_rfl)
theorem bch_extD (p m : Int) (A : Option Addr) (c : Nat) (mod : List Int) [hF : IsF p m mod] (p2 m2 : Int) (A2 : Option Addr) (c2 : Nat) (mod2 : List Int) [hE : IsF p2 m2 mod2] (hpp : p = p2) (hne : m2 % m ≠ 0) (n : Int) (hn1 : 1 ≤ n) (hn64 : n ≤ 64) :
    Pure Tryz.prog 30 #[.agg #[.int .i64 p, .int .i64 m, .slice A mod.length c], .agg #[.int .i64 p2, .int .i64 m2, .slice A2 mod2.length c2], .int .i64 n] [ro A (ints mod), ro A2 (ints mod2)] (isV (.tuple #[.pointer none, .slice none 0 0, .int .i64 0, .int .i64 10])) := by
  refine pure_of (args := [.agg #[.int .i64 p, .int .i64 m, .slice A mod.length c], .agg #[.int .i64 p2, .int .i64 m2, .slice A2 mod2.length c2], .int .i64 n]) 47 Tryz.func30 rfl rfl rfl bch_extD_ent ⟨id, id, trivial⟩ (fun w0 => ?_)
  refine tr_seq ?_
  refine tr_region fun _ _ _ => ?_
  refine ef rfl rfl (eBox rfl rfl rfl rfl rfl (fun p0 => ?_)) 
  refine ef rfl rfl (eBox rfl rfl rfl rfl rfl (fun p0a => ?_)) 
  iterate 4 refine pu rfl rfl rfl rfl rfl ?_
  refine tr_seq ?_
  refine tr_region fun _ _ _ => ?_
  refine st rfl rfl rfl rfl (rLdS rfl rfl rfl) ?_
  refine ef rfl rfl (eCall1 rfl rfl rfl (fld_New_ok _ _ _ _ _ (by have := hE.short; omega) hE.out) ⟨rfl, trivial⟩ ?_) 
  rintro _ _ ⟨g, rfl, rfl, hg⟩
  iterate 5 refine pu rfl rfl rfl rfl rfl ?_
  refine tr_seq ?_
  refine tr_seq ?_
  refine tr_region fun _ _ _ => ?_
  iterate 2 refine pu rfl rfl rfl rfl rfl ?_
  refine tr_cond_bool rfl (fun h2 => ?_) (fun h2 => ?_)
  · try simp only [zbA] at h2
    first | exact absurd trivial h2 | exact absurd rfl h2 | omega | (exact absurd h2 (by simp)) --done
  · try simp only [zbA] at h2
    refine tr_skip ?_
    refine tr_seq ?_
    refine tr_seq ?_
    refine tr_region fun _ _ _ => ?_
    iterate 3 refine pu rfl rfl rfl rfl rfl ?_
    refine stg rfl rfl rfl rfl rfl (fun hb => by (have hq := hb; try simp only [zbA] at hq); exact rMove rfl rfl) ?_
    refine stg rfl rfl rfl rfl rfl (fun hb => by (have hq := hb; try simp only [zbA] at hq); exact rGtr rfl (evg rfl hb) rfl) ?_
    refine st rfl rfl rfl rfl (rOrB rfl rfl rfl rfl) ?_
    refine tr_cond_bool rfl (fun h4 => ?_) (fun h4 => ?_)
    · try simp only [zbA] at h4
      omega --done
    · try simp only [zbA] at h4
      refine tr_skip ?_
      refine tr_seq ?_
      refine tr_region fun _ _ _ => ?_
      refine st rfl rfl rfl rfl (rLdS rfl rfl rfl) ?_
      refine pu rfl rfl rfl rfl rfl ?_
      refine ef rfl rfl (eCallV rfl rfl rfl (tow_EmbD _ _ _ _ _ g p2 m2 mod2 hg hpp hne) ⟨rfl, rfl, trivial⟩ ?_) 
      iterate 5 refine pu rfl rfl rfl rfl rfl ?_
      refine tr_seq ?_
      refine tr_seq ?_
      refine tr_region fun _ _ _ => ?_
      iterate 2 refine pu rfl rfl rfl rfl rfl ?_
      refine tr_cond_bool rfl (fun h7 => ?_) (fun h7 => ?_)
      · try simp only [zbA] at h7
        refine tr_seq ?_
        refine tr_region fun _ _ _ => ?_
        iterate 5 refine pu rfl rfl rfl rfl rfl ?_
        exact tr_ret ⟨trivial, _, _, rfl, ⟨rfl, rfl⟩, CSub.nil _, trivial⟩
      · try simp only [zbA] at h7
        first | exact absurd trivial h7 | exact absurd rfl h7 | omega | (exact absurd h7 (by simp)) --done
theorem tow_Emb (p m : Int) (A : Option Addr) (c : Nat) (mod : List Int) [hF : IsF p m mod] (g : GfM) (m2 : Int) (mod2 : List Int) [hE : IsF p m2 mod2] (hg : GOk g p m2 mod2) (hd : m2 % m = 0) : Pure Tryz.prog 75 #[.agg #[.int .i64 p, .int .i64 m, .slice A mod.length c], .pointer (some g.p)] [ro A (ints mod), gfR g] (one (fun v ch => ∃ B, v = .tuple #[.slice B (imL p m2 mod2 m (embR p m2 mod2 m mod)).length (imL p m2 mod2 m (embR p m2 mod2 m mod)).length, .int .i64 0] ∧ ch = ow B 3 (imL p m2 mod2 m (embR p m2 mod2 m mod)).length (ints (imL p m2 mod2 m (embR p m2 mod2 m mod))))) := by
  have h1 := hF.m1
  by_cases hm : m = 1
  · exact tow_Emb1 p m A c mod g m2 mod2 hg hd hm
  · exact tow_Emb2 p m A c mod g m2 mod2 hg hd (by omega)
theorem bch_ext_ent : Enters Tryz.prog 30 := enters_of Tryz.func30 (by kernel_rfl) (by kernel_rfl)
theorem bch_ext (p m : Int) (A : Option Addr) (c : Nat) (mod : List Int) [hF : IsF p m mod] (m2 : Int) (A2 : Option Addr) (c2 : Nat) (mod2 : List Int) [hE : IsF p m2 mod2] (hd : m2 % m = 0) (n : Int) (hn1 : 1 ≤ n) (hn64 : n ≤ 64) :
    Pure Tryz.prog 30 #[.agg #[.int .i64 p, .int .i64 m, .slice A mod.length c], .agg #[.int .i64 p, .int .i64 m2, .slice A2 mod2.length c2], .int .i64 n] [ro A (ints mod), ro A2 (ints mod2)] (two (fun v c1 c2 => ∃ (g : GfM) (B : Option Addr), v = .tuple #[.pointer (some g.p), .slice B (imL p m2 mod2 m (embR p m2 mod2 m mod)).length (imL p m2 mod2 m (embR p m2 mod2 m mod)).length, .int .i64 (if rootArgs p m2 mod2 n = 0 then rootI p m2 mod2 n else 0), .int .i64 (rootArgs p m2 mod2 n)] ∧ c1 = gfN g ∧ c2 = ow B 3 (imL p m2 mod2 m (embR p m2 mod2 m mod)).length (ints (imL p m2 mod2 m (embR p m2 mod2 m mod))) ∧ GOk g p m2 mod2)) := by
  refine pure_of (args := [.agg #[.int .i64 p, .int .i64 m, .slice A mod.length c], .agg #[.int .i64 p, .int .i64 m2, .slice A2 mod2.length c2], .int .i64 n]) 47 Tryz.func30 rfl rfl rfl bch_ext_ent ⟨id, id, trivial⟩ (fun w0 => ?_)
  refine tr_seq ?_
  refine tr_region fun _ _ _ => ?_
  refine ef rfl rfl (eBox rfl rfl rfl rfl rfl (fun p0 => ?_)) 
  refine ef rfl rfl (eBox rfl rfl rfl rfl rfl (fun p0a => ?_)) 
  iterate 4 refine pu rfl rfl rfl rfl rfl ?_
  refine tr_seq ?_
  refine tr_region fun _ _ _ => ?_
  refine st rfl rfl rfl rfl (rLdS rfl rfl rfl) ?_
  refine ef rfl rfl (eCall1 rfl rfl rfl (fld_New_ok _ _ _ _ _ (by have := hE.short; omega) hE.out) ⟨rfl, trivial⟩ ?_) 
  rintro _ _ ⟨g, rfl, rfl, hg⟩
  iterate 5 refine pu rfl rfl rfl rfl rfl ?_
  refine tr_seq ?_
  refine tr_seq ?_
  refine tr_region fun _ _ _ => ?_
  iterate 2 refine pu rfl rfl rfl rfl rfl ?_
  refine tr_cond_bool rfl (fun h2 => ?_) (fun h2 => ?_)
  · try simp only [zbA] at h2
    first | exact absurd trivial h2 | exact absurd rfl h2 | omega | (exact absurd h2 (by simp)) --done
  · try simp only [zbA] at h2
    refine tr_skip ?_
    refine tr_seq ?_
    refine tr_seq ?_
    refine tr_region fun _ _ _ => ?_
    iterate 3 refine pu rfl rfl rfl rfl rfl ?_
    refine stg rfl rfl rfl rfl rfl (fun hb => by (have hq := hb; try simp only [zbA] at hq); exact rMove rfl rfl) ?_
    refine stg rfl rfl rfl rfl rfl (fun hb => by (have hq := hb; try simp only [zbA] at hq); exact rGtr rfl (evg rfl hb) rfl) ?_
    refine st rfl rfl rfl rfl (rOrB rfl rfl rfl rfl) ?_
    refine tr_cond_bool rfl (fun h4 => ?_) (fun h4 => ?_)
    · try simp only [zbA] at h4
      omega --done
    · try simp only [zbA] at h4
      refine tr_skip ?_
      refine tr_seq ?_
      refine tr_region fun _ _ _ => ?_
      refine st rfl rfl rfl rfl (rLdS rfl rfl rfl) ?_
      refine pu rfl rfl rfl rfl rfl ?_
      refine ef rfl rfl (eCall1 rfl rfl rfl (tow_Emb _ _ _ _ _ g m2 mod2 hg hd) ⟨rfl, rfl, trivial⟩ ?_) 
      rintro _ _ ⟨B6, rfl, rfl⟩
      iterate 5 refine pu rfl rfl rfl rfl rfl ?_
      refine tr_seq ?_
      refine tr_seq ?_
      refine tr_region fun _ _ _ => ?_
      iterate 2 refine pu rfl rfl rfl rfl rfl ?_
      refine tr_cond_bool rfl (fun h7 => ?_) (fun h7 => ?_)
      · try simp only [zbA] at h7
        first | exact absurd trivial h7 | exact absurd rfl h7 | omega | (exact absurd h7 (by simp)) --done
      · try simp only [zbA] at h7
        refine tr_skip ?_
        refine tr_seq ?_
        refine tr_region fun _ _ _ => ?_
        refine st rfl rfl rfl rfl (rLdS rfl rfl rfl) ?_
        refine pu rfl rfl rfl rfl rfl ?_
        refine ef rfl rfl (eCallV rfl rfl rfl (bch_Root_ok p m2 A2 c2 mod2 (by have := hE.short; omega) n hE.out) ⟨rfl, rfl, trivial⟩ ?_) 
        iterate 5 refine pu rfl rfl rfl rfl rfl ?_
        refine tr_seq ?_
        refine tr_region fun _ _ _ => ?_
        iterate 8 refine pu rfl rfl rfl rfl rfl ?_
        exact tr_ret ⟨trivial, _, _, rfl, ⟨_, _, rfl, g, B6, rfl, rfl, rfl, hg⟩, cs _ _, gfO_excl _ _ _, trivial, trivial⟩
theorem bch_ZerosE_ent : Enters Tryz.prog 9 := enters_of Tryz.func9 (by kernel_rfl) (by kernel_rfl)
theorem bch_ZerosE (p m : Int) (A : Option Addr) (c : Nat) (mod : List Int) (hl9 : mod.length ≤ 17592186044415) (w : Int) (Aa : Option Addr) (n ca : Nat) (rs : List RowM) (hn : n = rs.length) (h9 : rs.length ≤ 17592186044415) (h8 : ∀ r ∈ rs, r.xs.length ≤ 17592186044415) (he : codC p m mod w rs ≠ 0) (p2 m2 : Int) (A2 : Option Addr) (c2 : Nat) (mod2 : List Int) :
    Pure Tryz.prog 9 #[.agg #[.int .i64 p, .int .i64 m, .slice A mod.length c, .int .i64 w, .slice Aa n ca], .agg #[.int .i64 p2, .int .i64 m2, .slice A2 mod2.length c2]] [ro A (ints mod), ro Aa (hdrs rs), rowsR rs, ro A2 (ints mod2)] (isV (.tuple #[.slice none 0 0, .int .i64 (codC p m mod w rs)])) := by
  refine pure_of (args := [.agg #[.int .i64 p, .int .i64 m, .slice A mod.length c, .int .i64 w, .slice Aa n ca], .agg #[.int .i64 p2, .int .i64 m2, .slice A2 mod2.length c2]]) 57 Tryz.func9 rfl rfl rfl bch_ZerosE_ent ⟨id, id, id, id, trivial⟩ (fun w0 => ?_)
  refine tr_seq ?_
  refine tr_region fun _ _ _ => ?_
  refine ef rfl rfl (eBox rfl rfl rfl rfl rfl (fun p0 => ?_)) 
  refine ef rfl rfl (eBox rfl rfl rfl rfl rfl (fun p0a => ?_)) 
  iterate 2 refine pu rfl rfl rfl rfl rfl ?_
  refine tr_seq ?_
  refine tr_seq ?_
  refine tr_region fun _ _ _ => ?_
  refine st rfl rfl rfl rfl (rLdS rfl rfl rfl) ?_
  refine ef rfl rfl (eCallV rfl rfl rfl (code_Check _ _ _ _ _ hl9 w Aa _ ca rs hn h9 h8) ⟨rfl, trivial⟩ ?_) 
  refine pu rfl rfl rfl rfl rfl ?_
  refine tr_seq ?_
  refine tr_region fun _ _ _ => ?_
  iterate 2 refine pu rfl rfl rfl rfl rfl ?_
  refine tr_cond_bool rfl (fun h2 => ?_) (fun h2 => ?_)
  · try simp only [zbA] at h2
    refine tr_seq ?_
    refine tr_region fun _ _ _ => ?_
    iterate 3 refine pu rfl rfl rfl rfl rfl ?_
    exact tr_ret ⟨trivial, _, _, rfl, ⟨rfl, rfl⟩, CSub.nil _, trivial⟩
  · try simp only [zbA] at h2
    omega --done
theorem bch_ZerosN_ent : Enters Tryz.prog 9 := enters_of Tryz.func9 (by kernel_rfl) (by kernel_rfl)
theorem bch_ZerosN (p m : Int) (A : Option Addr) (c : Nat) (mod : List Int) [hF : IsF p m mod] (w : Int) (Aa : Option Addr) (n ca : Nat) (rs : List RowM) (hn : n = rs.length) (h9 : rs.length ≤ 256) (hc : CodeOk p m mod w rs) (p2 m2 : Int) (A2 : Option Addr) (c2 : Nat) (mod2 : List Int) (hl92 : mod2.length ≤ 17592186044415) (hE : ¬ FldR p2 m2 mod2) :
    Pure Tryz.prog 9 #[.agg #[.int .i64 p, .int .i64 m, .slice A mod.length c, .int .i64 w, .slice Aa n ca], .agg #[.int .i64 p2, .int .i64 m2, .slice A2 mod2.length c2]] [ro A (ints mod), ro Aa (hdrs rs), rowsR rs, ro A2 (ints mod2)] (isV (.tuple #[.slice none 0 0, .int .i64 1])) := by
  have hl9 := hF.short
  have hn1 := hc.n1
  have hn64 := hc.n64
  have hlen := hc.len
  have hgd := hc.good
  have h8 := hgd.h8 (N := 17592186044415) (by omega)
  have hck := hc.zero
  refine pure_of (args := [.agg #[.int .i64 p, .int .i64 m, .slice A mod.length c, .int .i64 w, .slice Aa n ca], .agg #[.int .i64 p2, .int .i64 m2, .slice A2 mod2.length c2]]) 57 Tryz.func9 rfl rfl rfl bch_ZerosN_ent ⟨id, id, id, id, trivial⟩ (fun w0 => ?_)
  refine tr_seq ?_
  refine tr_region fun _ _ _ => ?_
  refine ef rfl rfl (eBox rfl rfl rfl rfl rfl (fun p0 => ?_)) 
  refine ef rfl rfl (eBox rfl rfl rfl rfl rfl (fun p0a => ?_)) 
  iterate 2 refine pu rfl rfl rfl rfl rfl ?_
  refine tr_seq ?_
  refine tr_seq ?_
  refine tr_region fun _ _ _ => ?_
  refine st rfl rfl rfl rfl (rLdS rfl rfl rfl) ?_
  refine ef rfl rfl (eCallV rfl rfl rfl (code_Check _ _ _ _ _ (by omega) w Aa _ ca rs hn (by omega) h8) ⟨rfl, trivial⟩ ?_) 
  refine pu rfl rfl rfl rfl rfl ?_
  refine tr_seq ?_
  refine tr_region fun _ _ _ => ?_
  iterate 2 refine pu rfl rfl rfl rfl rfl ?_
  refine tr_cond_bool rfl (fun h2 => ?_) (fun h2 => ?_)
  · try simp only [zbA] at h2
    omega --done
  · try simp only [zbA] at h2
    refine tr_skip ?_
    refine tr_seq ?_
    refine tr_region fun _ _ _ => ?_
    refine st rfl rfl rfl rfl (rFld rfl rfl) ?_
    refine st rfl rfl rfl rfl (rLdSF rfl rfl) ?_
    refine st rfl rfl rfl rfl (rLdS rfl rfl rfl) ?_
    refine st rfl rfl rfl rfl (rFld rfl rfl) ?_
    refine st rfl rfl rfl rfl (rLdF rfl rfl rfl) ?_
    refine ef rfl rfl (eCallV rfl rfl rfl (bch_extN p m A c mod p2 m2 A2 c2 mod2 hl92 hE w) ⟨rfl, rfl, rfl, trivial⟩ ?_) 
    iterate 5 refine pu rfl rfl rfl rfl rfl ?_
    refine ef rfl rfl (eAlloc rfl rfl rfl (fun p4a => ?_)) 
    refine ef rfl rfl (eAlloc rfl rfl rfl (fun p4b => ?_)) 
    refine ef rfl rfl (eSt0 rfl rfl rfl rfl rfl rfl ?_) 
    refine ef rfl rfl (eSt0 rfl rfl rfl rfl rfl rfl ?_) 
    iterate 2 refine pu rfl rfl rfl rfl rfl ?_
    refine tr_seq ?_
    refine tr_seq ?_
    refine tr_region fun _ _ _ => ?_
    iterate 2 refine pu rfl rfl rfl rfl rfl ?_
    refine tr_cond_bool rfl (fun h5 => ?_) (fun h5 => ?_)
    · try simp only [zbA] at h5
      refine tr_seq ?_
      refine tr_region fun _ _ _ => ?_
      iterate 3 refine pu rfl rfl rfl rfl rfl ?_
      exact tr_ret ⟨trivial, _, _, rfl, ⟨rfl, rfl⟩, CSub.nil _, trivial⟩
    · try simp only [zbA] at h5
      first | exact absurd trivial h5 | exact absurd rfl h5 | omega | (exact absurd h5 (by simp)) --done
theorem bch_ZerosP_ent : Enters Tryz.prog 9 := enters_of Tryz.func9 (by kernel_rfl) (by kernel_rfl)
theorem bch_ZerosP (p m : Int) (A : Option Addr) (c : Nat) (mod : List Int) [hF : IsF p m mod] (w : Int) (Aa : Option Addr) (n ca : Nat) (rs : List RowM) (hn : n = rs.length) (h9 : rs.length ≤ 256) (hc : CodeOk p m mod w rs) (p2 m2 : Int) (A2 : Option Addr) (c2 : Nat) (mod2 : List Int) [hE : IsF p2 m2 mod2] (hne : p ≠ p2) :
    Pure Tryz.prog 9 #[.agg #[.int .i64 p, .int .i64 m, .slice A mod.length c, .int .i64 w, .slice Aa n ca], .agg #[.int .i64 p2, .int .i64 m2, .slice A2 mod2.length c2]] [ro A (ints mod), ro Aa (hdrs rs), rowsR rs, ro A2 (ints mod2)] (isV (.tuple #[.slice none 0 0, .int .i64 10])) := by
  have hl9 := hF.short
  have hn1 := hc.n1
  have hn64 := hc.n64
  have hlen := hc.len
  have hgd := hc.good
  have h8 := hgd.h8 (N := 17592186044415) (by omega)
  have hck := hc.zero
  refine pure_of (args := [.agg #[.int .i64 p, .int .i64 m, .slice A mod.length c, .int .i64 w, .slice Aa n ca], .agg #[.int .i64 p2, .int .i64 m2, .slice A2 mod2.length c2]]) 57 Tryz.func9 rfl rfl rfl bch_ZerosP_ent ⟨id, id, id, id, trivial⟩ (fun w0 => ?_)
  refine tr_seq ?_
  refine tr_region fun _ _ _ => ?_
  refine ef rfl rfl (eBox rfl rfl rfl rfl rfl (fun p0 => ?_)) 
  refine ef rfl rfl (eBox rfl rfl rfl rfl rfl (fun p0a => ?_)) 
  iterate 2 refine pu rfl rfl rfl rfl rfl ?_
  refine tr_seq ?_
  refine tr_seq ?_
  refine tr_region fun _ _ _ => ?_
  refine st rfl rfl rfl rfl (rLdS rfl rfl rfl) ?_
  refine ef rfl rfl (eCallV rfl rfl rfl (code_Check _ _ _ _ _ (by omega) w Aa _ ca rs hn (by omega) h8) ⟨rfl, trivial⟩ ?_) 
  refine pu rfl rfl rfl rfl rfl ?_
  refine tr_seq ?_
  refine tr_region fun _ _ _ => ?_
  iterate 2 refine pu rfl rfl rfl rfl rfl ?_
  refine tr_cond_bool rfl (fun h2 => ?_) (fun h2 => ?_)
  · try simp only [zbA] at h2
    omega --done
  · try simp only [zbA] at h2
    refine tr_skip ?_
    refine tr_seq ?_
    refine tr_region fun _ _ _ => ?_
    refine st rfl rfl rfl rfl (rFld rfl rfl) ?_
    refine st rfl rfl rfl rfl (rLdSF rfl rfl) ?_
    refine st rfl rfl rfl rfl (rLdS rfl rfl rfl) ?_
    refine st rfl rfl rfl rfl (rFld rfl rfl) ?_
    refine st rfl rfl rfl rfl (rLdF rfl rfl rfl) ?_
    refine ef rfl rfl (eCallV rfl rfl rfl (bch_extP p m A c mod p2 m2 A2 c2 mod2 hne w hn1 hn64) ⟨rfl, rfl, rfl, trivial⟩ ?_) 
    iterate 5 refine pu rfl rfl rfl rfl rfl ?_
    refine ef rfl rfl (eAlloc rfl rfl rfl (fun p4a => ?_)) 
    refine ef rfl rfl (eAlloc rfl rfl rfl (fun p4b => ?_)) 
    refine ef rfl rfl (eSt0 rfl rfl rfl rfl rfl rfl ?_) 
    refine ef rfl rfl (eSt0 rfl rfl rfl rfl rfl rfl ?_) 
    iterate 2 refine pu rfl rfl rfl rfl rfl ?_
    refine tr_seq ?_
    refine tr_seq ?_
    refine tr_region fun _ _ _ => ?_
    iterate 2 refine pu rfl rfl rfl rfl rfl ?_
    refine tr_cond_bool rfl (fun h5 => ?_) (fun h5 => ?_)
    · try simp only [zbA] at h5
      refine tr_seq ?_
      refine tr_region fun _ _ _ => ?_
      iterate 3 refine pu rfl rfl rfl rfl rfl ?_
      exact tr_ret ⟨trivial, _, _, rfl, ⟨rfl, rfl⟩, CSub.nil _, trivial⟩
    · try simp only [zbA] at h5
      first | exact absurd trivial h5 | exact absurd rfl h5 | omega | (exact absurd h5 (by simp)) --done
theorem bch_ZerosD_ent : Enters Tryz.prog 9 := enters_of Tryz.func9 (by kernel_rfl) (by kernel_rfl)
theorem bch_ZerosD (p m : Int) (A : Option Addr) (c : Nat) (mod : List Int) [hF : IsF p m mod] (w : Int) (Aa : Option Addr) (n ca : Nat) (rs : List RowM) (hn : n = rs.length) (h9 : rs.length ≤ 256) (hc : CodeOk p m mod w rs) (p2 m2 : Int) (A2 : Option Addr) (c2 : Nat) (mod2 : List Int) [hE : IsF p2 m2 mod2] (hpp : p = p2) (hne : m2 % m ≠ 0) :
    Pure Tryz.prog 9 #[.agg #[.int .i64 p, .int .i64 m, .slice A mod.length c, .int .i64 w, .slice Aa n ca], .agg #[.int .i64 p2, .int .i64 m2, .slice A2 mod2.length c2]] [ro A (ints mod), ro Aa (hdrs rs), rowsR rs, ro A2 (ints mod2)] (isV (.tuple #[.slice none 0 0, .int .i64 10])) := by
  have hl9 := hF.short
  have hn1 := hc.n1
  have hn64 := hc.n64
  have hlen := hc.len
  have hgd := hc.good
  have h8 := hgd.h8 (N := 17592186044415) (by omega)
  have hck := hc.zero
  refine pure_of (args := [.agg #[.int .i64 p, .int .i64 m, .slice A mod.length c, .int .i64 w, .slice Aa n ca], .agg #[.int .i64 p2, .int .i64 m2, .slice A2 mod2.length c2]]) 57 Tryz.func9 rfl rfl rfl bch_ZerosD_ent ⟨id, id, id, id, trivial⟩ (fun w0 => ?_)
  refine tr_seq ?_
  refine tr_region fun _ _ _ => ?_
  refine ef rfl rfl (eBox rfl rfl rfl rfl rfl (fun p0 => ?_)) 
  refine ef rfl rfl (eBox rfl rfl rfl rfl rfl (fun p0a => ?_)) 
  iterate 2 refine pu rfl rfl rfl rfl rfl ?_
  refine tr_seq ?_
  refine tr_seq ?_
  refine tr_region fun _ _ _ => ?_
  refine st rfl rfl rfl rfl (rLdS rfl rfl rfl) ?_
  refine ef rfl rfl (eCallV rfl rfl rfl (code_Check _ _ _ _ _ (by omega) w Aa _ ca rs hn (by omega) h8) ⟨rfl, trivial⟩ ?_) 
  refine pu rfl rfl rfl rfl rfl ?_
  refine tr_seq ?_
  refine tr_region fun _ _ _ => ?_
  iterate 2 refine pu rfl rfl rfl rfl rfl ?_
  refine tr_cond_bool rfl (fun h2 => ?_) (fun h2 => ?_)
  · try simp only [zbA] at h2
    omega --done
  · try simp only [zbA] at h2
    refine tr_skip ?_
    refine tr_seq ?_
    refine tr_region fun _ _ _ => ?_
    refine st rfl rfl rfl rfl (rFld rfl rfl) ?_
    refine st rfl rfl rfl rfl (rLdSF rfl rfl) ?_
    refine st rfl rfl rfl rfl (rLdS rfl rfl rfl) ?_
    refine st rfl rfl rfl rfl (rFld rfl rfl) ?_
    refine st rfl rfl rfl rfl (rLdF rfl rfl rfl) ?_
    refine ef rfl rfl (eCallV rfl rfl rfl (bch_extD p m A c mod p2 m2 A2 c2 mod2 hpp hne w hn1 hn64) ⟨rfl, rfl, rfl, trivial⟩ ?_) 
    iterate 5 refine pu rfl rfl rfl rfl rfl ?_
    refine ef rfl rfl (eAlloc rfl rfl rfl (fun p4a => ?_)) 
    refine ef rfl rfl (eAlloc rfl rfl rfl (fun p4b => ?_)) 
    refine ef rfl rfl (eSt0 rfl rfl rfl rfl rfl rfl ?_) 
    refine ef rfl rfl (eSt0 rfl rfl rfl rfl rfl rfl ?_) 
    iterate 2 refine pu rfl rfl rfl rfl rfl ?_
    refine tr_seq ?_
    refine tr_seq ?_
    refine tr_region fun _ _ _ => ?_
    iterate 2 refine pu rfl rfl rfl rfl rfl ?_
    refine tr_cond_bool rfl (fun h5 => ?_) (fun h5 => ?_)
    · try simp only [zbA] at h5
      refine tr_seq ?_
      refine tr_region fun _ _ _ => ?_
      iterate 3 refine pu rfl rfl rfl rfl rfl ?_
      exact tr_ret ⟨trivial, _, _, rfl, ⟨rfl, rfl⟩, CSub.nil _, trivial⟩
    · try simp only [zbA] at h5
      first | exact absurd trivial h5 | exact absurd rfl h5 | omega | (exact absurd h5 (by simp)) --done
theorem bch_ZerosR_ent : Enters Tryz.prog 9 := enters_of Tryz.func9 (by kernel_rfl) (by kernel_rfl)
theorem bch_ZerosR (p m : Int) (A : Option Addr) (c : Nat) (mod : List Int) [hF : IsF p m mod] (w : Int) (Aa : Option Addr) (n ca : Nat) (rs : List RowM) (hn : n = rs.length) (h9 : rs.length ≤ 256) (hc : CodeOk p m mod w rs) (m2 : Int) (A2 : Option Addr) (c2 : Nat) (mod2 : List Int) [hE : IsF p m2 mod2] (hd : m2 % m = 0) (hr : rootArgs p m2 mod2 w ≠ 0) :
    Pure Tryz.prog 9 #[.agg #[.int .i64 p, .int .i64 m, .slice A mod.length c, .int .i64 w, .slice Aa n ca], .agg #[.int .i64 p, .int .i64 m2, .slice A2 mod2.length c2]] [ro A (ints mod), ro Aa (hdrs rs), rowsR rs, ro A2 (ints mod2)] (isV (.tuple #[.slice none 0 0, .int .i64 (rootArgs p m2 mod2 w)])) := by
  have hl9 := hF.short
  have hn1 := hc.n1
  have hn64 := hc.n64
  have hlen := hc.len
  have hgd := hc.good
  have h8 := hgd.h8 (N := 17592186044415) (by omega)
  have hck := hc.zero
  refine pure_of (args := [.agg #[.int .i64 p, .int .i64 m, .slice A mod.length c, .int .i64 w, .slice Aa n ca], .agg #[.int .i64 p, .int .i64 m2, .slice A2 mod2.length c2]]) 57 Tryz.func9 rfl rfl rfl bch_ZerosR_ent ⟨id, id, id, id, trivial⟩ (fun w0 => ?_)
  refine tr_seq ?_
  refine tr_region fun _ _ _ => ?_
  refine ef rfl rfl (eBox rfl rfl rfl rfl rfl (fun p0 => ?_)) 
  refine ef rfl rfl (eBox rfl rfl rfl rfl rfl (fun p0a => ?_)) 
  iterate 2 refine pu rfl rfl rfl rfl rfl ?_
  refine tr_seq ?_
  refine tr_seq ?_
  refine tr_region fun _ _ _ => ?_
  refine st rfl rfl rfl rfl (rLdS rfl rfl rfl) ?_
  refine ef rfl rfl (eCallV rfl rfl rfl (code_Check _ _ _ _ _ (by omega) w Aa _ ca rs hn (by omega) h8) ⟨rfl, trivial⟩ ?_) 
  refine pu rfl rfl rfl rfl rfl ?_
  refine tr_seq ?_
  refine tr_region fun _ _ _ => ?_
  iterate 2 refine pu rfl rfl rfl rfl rfl ?_
  refine tr_cond_bool rfl (fun h2 => ?_) (fun h2 => ?_)
  · try simp only [zbA] at h2
    omega --done
  · try simp only [zbA] at h2
    refine tr_skip ?_
    refine tr_seq ?_
    refine tr_region fun _ _ _ => ?_
    refine st rfl rfl rfl rfl (rFld rfl rfl) ?_
    refine st rfl rfl rfl rfl (rLdSF rfl rfl) ?_
    refine st rfl rfl rfl rfl (rLdS rfl rfl rfl) ?_
    refine st rfl rfl rfl rfl (rFld rfl rfl) ?_
    refine st rfl rfl rfl rfl (rLdF rfl rfl rfl) ?_
    refine ef rfl rfl (eCall2 rfl rfl rfl (bch_ext p m A c mod m2 A2 c2 mod2 hd w hn1 hn64) ⟨rfl, rfl, rfl, trivial⟩ ?_) 
    rintro _ _ _ ⟨g, B6, rfl, rfl, rfl, hg⟩
    iterate 5 refine pu rfl rfl rfl rfl rfl ?_
    refine ef rfl rfl (eAlloc rfl rfl rfl (fun p4a => ?_)) 
    refine ef rfl rfl (eAlloc rfl rfl rfl (fun p4b => ?_)) 
    refine ef rfl rfl (eSt0 rfl rfl rfl rfl rfl rfl ?_) 
    refine ef rfl rfl (eSt0 rfl rfl rfl rfl rfl rfl ?_) 
    iterate 2 refine pu rfl rfl rfl rfl rfl ?_
    refine tr_seq ?_
    refine tr_seq ?_
    refine tr_region fun _ _ _ => ?_
    iterate 2 refine pu rfl rfl rfl rfl rfl ?_
    refine tr_cond_bool rfl (fun h5 => ?_) (fun h5 => ?_)
    · try simp only [zbA] at h5
      refine tr_seq ?_
      refine tr_region fun _ _ _ => ?_
      iterate 3 refine pu rfl rfl rfl rfl rfl ?_
      exact tr_ret ⟨trivial, _, _, rfl, ⟨rfl, rfl⟩, CSub.nil _, trivial⟩
    · try simp only [zbA] at h5
      omega --done
theorem bch_Zeros_ent : Enters Tryz.prog 9 := enters_of Tryz.func9 (by kernel_rfl) (by kernel_rfl)
theorem bch_Zeros (p m : Int) (A : Option Addr) (c : Nat) (mod : List Int) [hF : IsF p m mod] (w : Int) (Aa : Option Addr) (n ca : Nat) (rs : List RowM) (hn : n = rs.length) (h9 : rs.length ≤ 256) (hc : CodeOk p m mod w rs) (m2 : Int) (A2 : Option Addr) (c2 : Nat) (mod2 : List Int) [hE : IsF p m2 mod2] (hd : m2 % m = 0) (hr : rootArgs p m2 mod2 w = 0) :
    Pure Tryz.prog 9 #[.agg #[.int .i64 p, .int .i64 m, .slice A mod.length c, .int .i64 w, .slice Aa n ca], .agg #[.int .i64 p, .int .i64 m2, .slice A2 mod2.length c2]] [ro A (ints mod), ro Aa (hdrs rs), rowsR rs, ro A2 (ints mod2)] (one (fun v ch => ∃ B cb, v = .tuple #[.slice B (zerL p m2 mod2 (imL p m2 mod2 m (embR p m2 mod2 m mod)) rs (rootI p m2 mod2 w) w).length cb, .int .i64 0] ∧ ch = ow B 3 cb (ints (zerL p m2 mod2 (imL p m2 mod2 m (embR p m2 mod2 m mod)) rs (rootI p m2 mod2 w) w)))) := by
  have hl9 := hF.short
  have hn1 := hc.n1
  have hn64 := hc.n64
  have hlen := hc.len
  have hgd := hc.good
  have h8 := hgd.h8 (N := 17592186044415) (by omega)
  have hck := hc.zero
  have hq2 := hF.q2
  have himl := imL_length (p := p) (m2 := m2) (mod2 := mod2) m (embR p m2 mod2 m mod)
  have hws : ∀ r ∈ rs, ∀ y ∈ r.xs, 0 ≤ y ∧ y < (imL p m2 mod2 m (embR p m2 mod2 m mod)).length := fun r hr y hy => by
    have := (hgd r hr).2 y hy
    rw [himl]; omega
  refine pure_of (args := [.agg #[.int .i64 p, .int .i64 m, .slice A mod.length c, .int .i64 w, .slice Aa n ca], .agg #[.int .i64 p, .int .i64 m2, .slice A2 mod2.length c2]]) 57 Tryz.func9 rfl rfl rfl bch_Zeros_ent ⟨id, id, id, id, trivial⟩ (fun w0 => ?_)
  refine tr_seq ?_
  refine tr_region fun _ _ _ => ?_
  refine ef rfl rfl (eBox rfl rfl rfl rfl rfl (fun p0 => ?_)) 
  refine ef rfl rfl (eBox rfl rfl rfl rfl rfl (fun p0a => ?_)) 
  iterate 2 refine pu rfl rfl rfl rfl rfl ?_
  refine tr_seq ?_
  refine tr_seq ?_
  refine tr_region fun _ _ _ => ?_
  refine st rfl rfl rfl rfl (rLdS rfl rfl rfl) ?_
  refine ef rfl rfl (eCallV rfl rfl rfl (code_Check _ _ _ _ _ (by omega) w Aa _ ca rs hn (by omega) h8) ⟨rfl, trivial⟩ ?_) 
  refine pu rfl rfl rfl rfl rfl ?_
  refine tr_seq ?_
  refine tr_region fun _ _ _ => ?_
  iterate 2 refine pu rfl rfl rfl rfl rfl ?_
  refine tr_cond_bool rfl (fun h2 => ?_) (fun h2 => ?_)
  · try simp only [zbA] at h2
    omega --done
  · try simp only [zbA] at h2
    refine tr_skip ?_
    refine tr_seq ?_
    refine tr_region fun _ _ _ => ?_
    refine st rfl rfl rfl rfl (rFld rfl rfl) ?_
    refine st rfl rfl rfl rfl (rLdSF rfl rfl) ?_
    refine st rfl rfl rfl rfl (rLdS rfl rfl rfl) ?_
    refine st rfl rfl rfl rfl (rFld rfl rfl) ?_
    refine st rfl rfl rfl rfl (rLdF rfl rfl rfl) ?_
    refine ef rfl rfl (eCall2 rfl rfl rfl (bch_ext p m A c mod m2 A2 c2 mod2 hd w hn1 hn64) ⟨rfl, rfl, rfl, trivial⟩ ?_) 
    rintro _ _ _ ⟨g, B6, rfl, rfl, rfl, hg⟩
    iterate 5 refine pu rfl rfl rfl rfl rfl ?_
    refine ef rfl rfl (eAlloc rfl rfl rfl (fun p4a => ?_)) 
    refine ef rfl rfl (eAlloc rfl rfl rfl (fun p4b => ?_)) 
    refine ef rfl rfl (eSt0 rfl rfl rfl rfl rfl rfl ?_) 
    refine ef rfl rfl (eSt0 rfl rfl rfl rfl rfl rfl ?_) 
    iterate 2 refine pu rfl rfl rfl rfl rfl ?_
    rw [if_pos hr]
    refine tr_seq ?_
    refine tr_seq ?_
    refine tr_region fun _ _ _ => ?_
    iterate 2 refine pu rfl rfl rfl rfl rfl ?_
    refine tr_cond_bool rfl (fun h5 => ?_) (fun h5 => ?_)
    · try simp only [zbA] at h5
      omega --done
    · try simp only [zbA] at h5
      refine tr_skip ?_
      refine tr_seq ?_
      refine tr_region fun _ _ _ => ?_
      refine pu rfl rfl rfl rfl rfl ?_
      refine tr_seq ?_
      refine tr_seq ?_
      refine tr_region fun _ _ _ => ?_
      refine st rfl rfl rfl rfl (rFld rfl rfl) ?_
      refine st rfl rfl rfl rfl (rLdF rfl rfl rfl) ?_
      refine pu rfl rfl rfl rfl rfl ?_
      refine tr_block ?_
      refine tr_nilI 3 ?_
      refine tr_loop4 (fun (i : Int) (B : Option Addr) (cb : Nat) (zs : List Int) => [(11, .slice B zs.length cb), (36, .int .i64 i), (9, .int .i64 (rootI p m2 mod2 w)), (10, .int .i64 (rootArgs p m2 mod2 w)), (2, .pointer (some p0)), (4, .slice none 0 0), (5, .int .i64 0), (7, .pointer (some p4a)), (8, .pointer (some p4b)), (35, .int .i64 w)]) (fun (i : Int) (B : Option Addr) (cb : Nat) (zs : List Int) => [ow B 3 cb (ints zs), blk p4a 58 [.pointer (some g.p)], blk p4b 22 [.slice B6 (imL p m2 mod2 m (embR p m2 mod2 m mod)).length (imL p m2 mod2 m (embR p m2 mod2 m mod)).length], gfN g, ow B6 3 (imL p m2 mod2 m (embR p m2 mod2 m mod)).length (ints (imL p m2 mod2 m (embR p m2 mod2 m mod))), blk p0 27 [.int .i64 p, .int .i64 m, .slice A mod.length c, .int .i64 w, .slice Aa n ca], blk p0a 24 [.int .i64 p, .int .i64 m2, .slice A2 mod2.length c2], ro A (ints mod), ro Aa (hdrs rs), rowsR rs, ro A2 (ints mod2)]) (fun (i : Int) (B : Option Addr) (cb : Nat) (zs : List Int) => (0 ≤ i ∧ i ≤ w) ∧ zs = (upI i.toNat).filter (zerB p m2 mod2 (imL p m2 mod2 m (embR p m2 mod2 m mod)) rs (rootI p m2 mod2 w)) ∧ zs.length ≤ i.toNat) (fun (i : Int) (B : Option Addr) (cb : Nat) (zs : List Int) => (w - i).toNat) (0) (none) (0) ([]) ⟨rfl, rfl, rfl, rfl, rfl, rfl, rfl, rfl, rfl, rfl, trivial⟩ (by first | exact cs _ _ | exact CSub.refl _) (⟨⟨by omega, by omega⟩, rfl, by simp⟩) (fun i B cb zs hI => ?_)
      obtain ⟨⟨hi0, hi1⟩, hzs, hzl⟩ := hI
      refine tr_seq ?_
      refine tr_region fun _ _ _ => ?_
      refine pu rfl rfl rfl rfl rfl ?_
      refine tr_seq ?_
      refine tr_cond_bool rfl (fun h9 => ?_) (fun h9 => ?_)
      · try simp only [zbA] at h9
        refine tr_skip ?_
        refine tr_seq ?_
        refine tr_block ?_
        refine tr_seq ?_
        refine tr_region fun _ _ _ => ?_
        iterate 2 refine pu rfl rfl rfl rfl rfl ?_
        refine tr_seq ?_
        refine tr_region fun _ _ _ => ?_
        refine st rfl rfl rfl rfl (rLd0 rfl rfl) ?_
        iterate 2 refine pu rfl rfl rfl rfl rfl ?_
        refine ef rfl rfl (eCallV rfl rfl rfl (gf_PowE g hg _ i (by omega) (by omega)) ⟨rfl, rfl, rfl, trivial⟩ ?_) 
        iterate 3 refine pu rfl rfl rfl rfl rfl ?_
        refine ef rfl rfl (eAlloc rfl rfl rfl (fun p11a => ?_)) 
        refine ef rfl rfl (eSt0 rfl rfl rfl rfl rfl rfl ?_) 
        refine pu rfl rfl rfl rfl rfl ?_
        refine tr_seq ?_
        refine tr_region fun _ _ _ => ?_
        refine st rfl rfl rfl rfl (rFld rfl rfl) ?_
        refine st rfl rfl rfl rfl (rLdF rfl rfl rfl) ?_
        refine st rfl rfl rfl rfl (rFun rfl rfl rfl) ?_
        refine ef rfl rfl (eCallV rfl rfl rfl (slc_ContainsFuncR Aa n ca rs hn (by omega) 33 [.pointer (some p4a), .pointer (some p4b), .pointer (some p11a)] [ro (some p4a) [.pointer (some g.p)], ro (some p4b) [.slice B6 (imL p m2 mod2 m (embR p m2 mod2 m mod)).length (imL p m2 mod2 m (embR p m2 mod2 m mod)).length], ro (some p11a) [.int .i64 (Rg.pow (el (rootI p m2 mod2 w) : El p m2 mod2) i.toNat).1], gfR g, ro B6 (ints (imL p m2 mod2 m (embR p m2 mod2 m mod))), rowsR rs] (fun xs => !(zset p m2 mod2 (pol (xs.map (fun y : Int => (imL p m2 mod2 m (embR p m2 mod2 m mod)).getD y.toNat 0))) (Rg.pow (el (rootI p m2 mod2 w) : El p m2 mod2) i.toNat).1)) (fun r hr => bch_Zeros1R g hg p4a p4b p11a B6 (imL p m2 mod2 m (embR p m2 mod2 m mod)).length (imL p m2 mod2 m (embR p m2 mod2 m mod)) (Rg.pow (el (rootI p m2 mod2 w) : El p m2 mod2) i.toNat).1 rs hr (by have := (hgd r hr).1; omega) (hws r hr))) ⟨rfl, rfl, trivial⟩ ?_) 
        refine st rfl rfl rfl rfl (rNotB rfl rfl) ?_
        refine tr_cond_bool rfl (fun h12 => ?_) (fun h12 => ?_)
        · try simp only [zbA] at h12
          refine tr_region fun _ _ _ => ?_
          iterate 2 refine pu rfl rfl rfl rfl rfl ?_
          refine ef rfl rfl (eLit1I rfl rfl rfl rfl (fun A13 => ?_)) 
          refine ef rfl rfl (eAppI rfl rfl rfl rfl rfl (by first | rfl | simp | omega) (by first | rfl | simp | omega) (by first | omega | (simp; omega)) (fun A13a c13a => ?_)) 
          refine pu rfl rfl rfl rfl rfl ?_
          refine tr_region fun _ _ _ => ?_
          refine st rfl rfl rfl rfl (rAdd rfl rfl rfl (by omega) (by omega)) ?_
          refine pu rfl rfl rfl rfl rfl ?_
          refine ⟨i + 1, A13a, c13a, zs ++ [i], ⟨rfl, rfl, rfl, rfl, rfl, rfl, rfl, rfl, rfl, rfl, trivial⟩, by first | exact cs _ _ | exact CSub.refl _, ?_⟩
          refine ⟨⟨⟨by omega, by omega⟩, ?_, by simp; omega⟩, by omega⟩
          rw [upF_succ _ hi0, ← hzs, if_pos (by rw [zerB_any]; simpa using h12)]
        · try simp only [zbA] at h12
          refine tr_skip ?_
          refine tr_region fun _ _ _ => ?_
          refine st rfl rfl rfl rfl (rAdd rfl rfl rfl (by omega) (by omega)) ?_
          refine pu rfl rfl rfl rfl rfl ?_
          refine ⟨i + 1, B, cb, zs, ⟨rfl, rfl, rfl, rfl, rfl, rfl, rfl, rfl, rfl, rfl, trivial⟩, by first | exact cs _ _ | exact CSub.refl _, ?_⟩
          refine ⟨⟨⟨by omega, by omega⟩, ?_, by omega⟩, by omega⟩
          rw [upF_succ _ hi0, ← hzs, if_neg (by rw [zerB_any]; simpa using h12), List.append_nil]
      · try simp only [zbA] at h9
        refine tr_exit ?_
        refine tr_seq ?_
        refine tr_region fun _ _ _ => ?_
        iterate 3 refine pu rfl rfl rfl rfl rfl ?_
        have hiw : i = w := by omega
        subst hiw
        have hzs2 : zs = zerL p m2 mod2 (imL p m2 mod2 m (embR p m2 mod2 m mod)) rs (rootI p m2 mod2 i) i := hzs
        subst hzs2
        exact tr_ret ⟨trivial, _, _, rfl, ⟨_, rfl, B, cb, rfl, rfl⟩, cs _ _, trivial, trivial⟩
end Go.Proofs.YtgnmcoegdogfgaaGreat

set_option linter.unusedSimpArgs false
set_option linter.unusedVariables false
set_option maxRecDepth 100000
namespace Go.Proofs.YtgnmcoegdogfgaaGreat
open Go.RowKit
theorem ref_PEval_ent : Enters Tryz.prog 86 := enters_of Tryz.func86 (by kernel_rfl) (by kernel_rfl)
theorem ref_PEval (p m : Int) (A : Option Addr) (c : Nat) (mod : List Int) [hF : IsF p m mod] (X : Option Addr) (nx cx : Nat) (ls : List Int) (hnx : nx = ls.length) (h9 : ls.length ≤ 1000000) (x : Int) :
    Pure Tryz.prog 86 #[.agg #[.int .i64 p, .int .i64 m, .slice A mod.length c], .slice X nx cx, .int .i64 x] [ro A (ints mod), ro X (ints ls)] (isV (.int .i64 (Po.val (pol ls : Po (El p m mod)) (el x)).1)) := by
  refine pure_of (args := [.agg #[.int .i64 p, .int .i64 m, .slice A mod.length c], .slice X nx cx, .int .i64 x]) 31 Tryz.func86 rfl rfl rfl ref_PEval_ent ⟨id, id, trivial⟩ (fun w0 => ?_)
  refine tr_seq ?_
  refine tr_region fun _ _ _ => ?_
  refine ef rfl rfl (eBox rfl rfl rfl rfl rfl (fun p0 => ?_)) 
  refine pu rfl rfl rfl rfl rfl ?_
  refine tr_seq ?_
  refine tr_region fun _ _ _ => ?_
  refine pu rfl rfl rfl rfl rfl ?_
  refine tr_seq ?_
  refine tr_region fun _ _ _ => ?_
  refine pu rfl rfl rfl rfl rfl ?_
  refine tr_seq ?_
  refine tr_seq ?_
  refine tr_region fun _ _ _ => ?_
  refine pu rfl rfl rfl rfl rfl ?_
  refine tr_block ?_
  refine tr_loop3 (fun (i : Int) (y : Int) (z : Int) => [(7, .int .i64 y), (8, .int .i64 z), (9, .int .i64 i), (1, .slice X nx cx), (2, .int .i64 x), (3, .pointer (some p0)), (6, .int .i64 0)]) (fun (i : Int) (y : Int) (z : Int) => [blk p0 24 [.int .i64 p, .int .i64 m, .slice A mod.length c], ro A (ints mod), ro X (ints ls)]) (fun (i : Int) (y : Int) (z : Int) => (0 ≤ i ∧ i ≤ nx) ∧ y = (Rg.sm i.toNat fun j => (el (ls.getD j 0) * Rg.pow (el x) j : El p m mod)).1 ∧ z = (Rg.pow (el x) i.toNat : El p m mod).1) (fun (i : Int) (y : Int) (z : Int) => (nx - i).toNat) (0) (0) (1) ⟨rfl, rfl, rfl, rfl, rfl, rfl, rfl, trivial⟩ (by first | exact cs _ _ | exact CSub.refl _) (⟨⟨by omega, by omega⟩, rfl, rfl⟩) (fun i y z hI => ?_)
  obtain ⟨⟨hi0, hi1⟩, hy, hz⟩ := hI
  refine tr_seq ?_
  refine tr_seq ?_
  refine tr_region fun _ _ _ => ?_
  iterate 2 refine pu rfl rfl rfl rfl rfl ?_
  refine st rfl rfl rfl rfl (rLen rfl rfl) ?_
  refine pu rfl rfl rfl rfl rfl ?_
  refine tr_cond_bool rfl (fun h4 => ?_) (fun h4 => ?_)
  · try simp only [zbA] at h4
    refine tr_skip ?_
    refine tr_seq ?_
    refine tr_block ?_
    refine tr_seq ?_
    refine tr_draw [0, 1, 2, 3, 4, 5, 6, 7, 8, 9, 10] [] mixed (by kernel_rfl) fun _ _ _ => ?_
    refine st rfl rfl rfl rfl (rLdS rfl rfl rfl) ?_
    refine pu rfl rfl rfl rfl rfl ?_
    refine st rfl rfl rfl rfl (rLdS rfl rfl rfl) ?_
    iterate 2 refine pu rfl rfl rfl rfl rfl ?_
    refine st rfl rfl rfl rfl (rIdxI rfl rfl rfl (by omega) (by omega) (by omega)) ?_
    refine st rfl rfl rfl rfl (rLdI rfl rfl (by omega)) ?_
    refine pu rfl rfl rfl rfl rfl ?_
    refine ef rfl rfl (eCallV rfl rfl rfl (ref_MulE _ _ _ _ _ _ _) ⟨rfl, rfl, rfl, trivial⟩ ?_) 
    refine ef rfl rfl (eCallV rfl rfl rfl (ref_AddE _ _ _ _ _ _ _) ⟨rfl, rfl, rfl, trivial⟩ ?_) 
    refine pu rfl rfl rfl rfl rfl ?_
    refine tr_region fun _ _ _ => ?_
    refine st rfl rfl rfl rfl (rLdS rfl rfl rfl) ?_
    iterate 2 refine pu rfl rfl rfl rfl rfl ?_
    refine ef rfl rfl (eCallV rfl rfl rfl (ref_MulE _ _ _ _ _ _ _) ⟨rfl, rfl, rfl, trivial⟩ ?_) 
    refine pu rfl rfl rfl rfl rfl ?_
    refine tr_region fun _ _ _ => ?_
    refine pu rfl rfl rfl rfl rfl ?_
    refine st rfl rfl rfl rfl (rAdd rfl rfl rfl (by omega) (by omega)) ?_
    refine pu rfl rfl rfl rfl rfl ?_
    refine ⟨i + 1, (el y + el (el (ls.getD i.toNat 0) * el z : El p m mod).1 : El p m mod).1, (el z * el x : El p m mod).1, ⟨rfl, rfl, rfl, rfl, rfl, rfl, rfl, trivial⟩, by first | exact cs _ _ | exact CSub.refl _, ?_⟩
    have hi2 : (i + 1).toNat = i.toNat + 1 := by omega
    refine ⟨⟨⟨by omega, by omega⟩, ?_, ?_⟩, by omega⟩
    · rw [hi2, Rg.sm_succ, hy, hz, el_of, el_of, el_of]
    · rw [hi2, Rg.pow_succ, hz, el_of]
  · try simp only [zbA] at h4
    refine tr_exit ?_
    refine tr_seq ?_
    refine tr_region fun _ _ _ => ?_
    iterate 2 refine pu rfl rfl rfl rfl rfl ?_
    have hi : i.toNat = ls.length := by omega
    rw [hi] at hy
    exact tr_ret ⟨trivial, _, _, rfl, ⟨by rw [hy, val_sum], rfl⟩, CSub.nil _, trivial⟩
theorem ref_PowE_ent : Enters Tryz.prog 88 := enters_of Tryz.func88 (by kernel_rfl) (by kernel_rfl)
theorem ref_PowE (p m : Int) (A : Option Addr) (c : Nat) (mod : List Int) [hF : IsF p m mod] (x k : Int) (hk : 0 ≤ k) (hk9 : k ≤ 1000000) :
    Pure Tryz.prog 88 #[.agg #[.int .i64 p, .int .i64 m, .slice A mod.length c], .int .i64 x, .int .i64 k] [ro A (ints mod)] (isV (.tuple #[.int .i64 (Rg.pow (el x : El p m mod) k.toNat).1, .int .i64 0])) := by
  have hor := hF.ord
  have hq2 := hF.q2
  have hq9 := hF.out.1.1.q
  have hix : (el x : El p m mod).1 = inI (ordI p m) x := by rw [hor]; rfl
  refine pure_of (args := [.agg #[.int .i64 p, .int .i64 m, .slice A mod.length c], .int .i64 x, .int .i64 k]) 44 Tryz.func88 rfl rfl rfl ref_PowE_ent ⟨id, trivial⟩ (fun w0 => ?_)
  refine tr_seq ?_
  refine tr_region fun _ _ _ => ?_
  refine ef rfl rfl (eBox rfl rfl rfl rfl rfl (fun p0 => ?_)) 
  iterate 2 refine pu rfl rfl rfl rfl rfl ?_
  refine tr_seq ?_
  refine tr_region fun _ _ _ => ?_
  refine st rfl rfl rfl rfl (rLdS rfl rfl rfl) ?_
  refine pu rfl rfl rfl rfl rfl ?_
  refine ef rfl rfl (eCallV rfl rfl rfl (ref_In _ _ _ _ _ _) ⟨rfl, rfl, trivial⟩ ?_) 
  refine pu rfl rfl rfl rfl rfl ?_
  refine tr_seq ?_
  refine tr_seq ?_
  refine tr_region fun _ _ _ => ?_
  iterate 2 refine pu rfl rfl rfl rfl rfl ?_
  refine tr_cond_bool rfl (fun h2 => ?_) (fun h2 => ?_)
  · try simp only [zbA] at h2
    refine tr_seq ?_
    refine tr_region fun _ _ _ => ?_
    iterate 2 refine pu rfl rfl rfl rfl rfl ?_
    exact tr_ret ⟨trivial, _, _, rfl, ⟨by rw [show k.toNat = 0 by omega]; rfl, rfl⟩, CSub.nil _, trivial⟩
  · try simp only [zbA] at h2
    refine tr_skip ?_
    refine tr_seq ?_
    refine tr_seq ?_
    refine tr_region fun _ _ _ => ?_
    iterate 3 refine pu rfl rfl rfl rfl rfl ?_
    refine stg rfl rfl rfl rfl rfl (fun hb => by (have hq := hb; try simp only [zbA] at hq); exact rMove rfl rfl) ?_
    refine stg rfl rfl rfl rfl rfl (fun hb => by (have hq := hb; try simp only [zbA] at hq); exact rLss rfl (evg rfl hb) rfl) ?_
    refine st rfl rfl rfl rfl (rAndB rfl rfl rfl rfl) ?_
    refine tr_cond_bool rfl (fun h4 => ?_) (fun h4 => ?_)
    · try simp only [zbA] at h4
      refine tr_seq ?_
      refine tr_region fun _ _ _ => ?_
      iterate 2 refine pu rfl rfl rfl rfl rfl ?_
      omega
    · try simp only [zbA] at h4
      refine tr_skip ?_
      refine tr_seq ?_
      refine tr_seq ?_
      refine tr_region fun _ _ _ => ?_
      iterate 2 refine pu rfl rfl rfl rfl rfl ?_
      refine tr_cond_bool rfl (fun h6 => ?_) (fun h6 => ?_)
      · try simp only [zbA] at h6
        refine tr_seq ?_
        refine tr_region fun _ _ _ => ?_
        iterate 2 refine pu rfl rfl rfl rfl rfl ?_
        exact tr_ret ⟨trivial, _, _, rfl, ⟨by
          have hx0 : (el x : El p m mod) = 0 := (val_zero_iff (el x : El p m mod)).1 (by omega)
          rw [hx0, Rg.zero_pow (by omega)]; rfl, rfl⟩, CSub.nil _, trivial⟩
      · try simp only [zbA] at h6
        refine tr_skip ?_
        refine tr_seq ?_
        have hx0 : (el x : El p m mod) ≠ 0 := fun e => by
          have := (val_zero_iff (el x : El p m mod)).2 e
          omega
        have e0 := Int.emod_nonneg k (show ordI p m - 1 ≠ 0 by omega)
        have e1 := Int.emod_lt_of_pos k (show 0 < ordI p m - 1 by omega)
        refine tr_region fun _ _ _ => ?_
        refine st rfl rfl rfl rfl (rLdS rfl rfl rfl) ?_
        refine ef rfl rfl (eCallV rfl rfl rfl (ref_order _ _ _ _ _) ⟨rfl, trivial⟩ ?_) 
        refine st rfl rfl rfl rfl (rSub rfl rfl rfl (by omega) (by omega)) ?_
        refine pu rfl rfl rfl rfl rfl ?_
        refine tr_seq ?_
        refine tr_region fun _ _ _ => ?_
        iterate 2 refine pu rfl rfl rfl rfl rfl ?_
        refine st rfl rfl rfl rfl (rRem rfl rfl rfl (by omega) (by omega)) ?_
        refine pu rfl rfl rfl rfl rfl ?_
        refine st rfl rfl rfl rfl (rAdd rfl rfl rfl (by omega) (by omega)) ?_
        refine pu rfl rfl rfl rfl rfl ?_
        refine st rfl rfl rfl rfl (rRem rfl rfl rfl (by omega) (by omega)) ?_
        refine pu rfl rfl rfl rfl rfl ?_
        refine tr_seq ?_
        have e2 : (k % (ordI p m - 1) + (ordI p m - 1)) % (ordI p m - 1) = k % (ordI p m - 1) := by rw [Int.add_emod_right, Int.emod_emod_of_dvd _ (Int.dvd_refl _)]
        rw [e2]
        refine tr_region fun _ _ _ => ?_
        refine pu rfl rfl rfl rfl rfl ?_
        refine tr_seq ?_
        refine tr_seq ?_
        refine tr_region fun _ _ _ => ?_
        refine pu rfl rfl rfl rfl rfl ?_
        refine tr_block ?_
        refine tr_loop2 (fun (i : Int) (y : Int) => [(9, .int .i64 y), (10, .int .i64 i), (1, .int .i64 (inI (ordI p m) x)), (2, .int .i64 (k % (ordI p m - 1))), (3, .pointer (some p0)), (6, .int .i64 0), (7, .int .i64 0)]) (fun (i : Int) (y : Int) => [blk p0 24 [.int .i64 p, .int .i64 m, .slice A mod.length c], ro A (ints mod)]) (fun (i : Int) (y : Int) => (0 ≤ i ∧ i ≤ k % (ordI p m - 1)) ∧ y = (Rg.pow (el x) i.toNat : El p m mod).1) (fun (i : Int) (y : Int) => (k % (ordI p m - 1) - i).toNat) (0) (1) ⟨rfl, rfl, rfl, rfl, rfl, rfl, rfl, trivial⟩ (by first | exact cs _ _ | exact CSub.refl _) (⟨⟨by omega, by omega⟩, rfl⟩) (fun i y hI => ?_)
        obtain ⟨⟨hi0, hi1⟩, hy⟩ := hI
        refine tr_seq ?_
        refine tr_seq ?_
        refine tr_region fun _ _ _ => ?_
        iterate 3 refine pu rfl rfl rfl rfl rfl ?_
        refine tr_cond_bool rfl (fun h12 => ?_) (fun h12 => ?_)
        · try simp only [zbA] at h12
          refine tr_skip ?_
          refine tr_seq ?_
          refine tr_block ?_
          refine tr_region fun _ _ _ => ?_
          refine st rfl rfl rfl rfl (rLdS rfl rfl rfl) ?_
          iterate 2 refine pu rfl rfl rfl rfl rfl ?_
          refine ef rfl rfl (eCallV rfl rfl rfl (ref_MulE _ _ _ _ _ _ _) ⟨rfl, rfl, rfl, trivial⟩ ?_) 
          refine pu rfl rfl rfl rfl rfl ?_
          refine tr_region fun _ _ _ => ?_
          refine pu rfl rfl rfl rfl rfl ?_
          refine st rfl rfl rfl rfl (rAdd rfl rfl rfl (by omega) (by omega)) ?_
          refine pu rfl rfl rfl rfl rfl ?_
          refine ⟨i + 1, (el y * el (inI (ordI p m) x) : El p m mod).1, ⟨rfl, rfl, rfl, rfl, rfl, rfl, rfl, trivial⟩, by first | exact cs _ _ | exact CSub.refl _, ?_⟩
          refine ⟨⟨⟨by omega, by omega⟩, ?_⟩, by omega⟩
          rw [show (i + 1).toNat = i.toNat + 1 by omega, Rg.pow_succ, hy, el_of, ← hix, el_of]
        · try simp only [zbA] at h12
          refine tr_exit ?_
          refine tr_seq ?_
          refine tr_region fun _ _ _ => ?_
          iterate 3 refine pu rfl rfl rfl rfl rfl ?_
          have hi : i.toNat = k.toNat % (pw p m - 1).toNat := by
            have h1 : i = k % (ordI p m - 1) := by omega
            rw [h1, hor]
            obtain ⟨b, hb⟩ := Int.eq_ofNat_of_zero_le hk
            obtain ⟨c, hc⟩ := Int.eq_ofNat_of_zero_le (show 0 ≤ pw p m - 1 by omega)
            rw [hb, hc, ← Int.natCast_emod]
            simp only [Int.toNat_natCast]
          rw [hi, pow_rem hx0] at hy
          exact tr_ret ⟨trivial, _, _, rfl, ⟨by rw [hy], rfl⟩, CSub.nil _, trivial⟩
theorem ref_DigitsE (p m : Int) (A : Option Addr) (c : Nat) (mod : List Int) [hF : IsF p m mod] (x : Int) (hx : 0 ≤ x ∧ x < pw p m) : Pure Tryz.prog 87 #[.agg #[.int .i64 p, .int .i64 m, .slice A mod.length c], .int .i64 x] [ro A (ints mod)] (one (fun v ch => ∃ B, v = .slice B m.toNat m.toNat ∧ ch = ow B 3 m.toNat (ints (digs p m.toNat x)))) := by
  have h := ref_Digits p m A c mod hF.out.1.1 x
  rw [inI_in hx.1 (by rw [hF.ord]; exact hx.2)] at h
  exact h
theorem ref_Emb1_ent : Enters Tryz.prog 47 := enters_of Tryz.func47 (by kernel_rfl) (by kernel_rfl)
theorem ref_Emb1 (p m : Int) (A : Option Addr) (c : Nat) (mod : List Int) [hF : IsF p m mod] (m2 : Int) (Ae : Option Addr) (ce : Nat) (mod2 : List Int) [hE : IsF p m2 mod2] (hd : m2 % m = 0) (hm : m = 1) :
    Pure Tryz.prog 47 #[.agg #[.int .i64 p, .int .i64 m, .slice A mod.length c], .agg #[.int .i64 p, .int .i64 m2, .slice Ae mod2.length ce]] [ro A (ints mod), ro Ae (ints mod2)] (one (fun v ch => ∃ B, v = .slice B (imL p m2 mod2 m (embR p m2 mod2 m mod)).length (imL p m2 mod2 m (embR p m2 mod2 m mod)).length ∧ ch = ow B 3 (imL p m2 mod2 m (embR p m2 mod2 m mod)).length (ints (imL p m2 mod2 m (embR p m2 mod2 m mod))))) := by
  have hl8 := hF.short
  have hm1 := hF.m1
  have hq2 := hF.q2
  have hor := hF.ord
  have hq9 := hF.out.1.1.q
  have hm8 := hF.out.1.1.m8
  have hrt : IsRt p m2 mod2 m mod 0 := ⟨by omega, by have := hE.q2; omega, fun _ => rfl, fun h => by omega, fun h => by omega⟩
  have hre := hrt.eq hm1
  refine pure_of (args := [.agg #[.int .i64 p, .int .i64 m, .slice A mod.length c], .agg #[.int .i64 p, .int .i64 m2, .slice Ae mod2.length ce]]) 47 Tryz.func47 rfl rfl rfl ref_Emb1_ent ⟨id, id, trivial⟩ (fun w0 => ?_)
  refine tr_seq ?_
  refine tr_region fun _ _ _ => ?_
  refine ef rfl rfl (eBox rfl rfl rfl rfl rfl (fun p0 => ?_)) 
  refine ef rfl rfl (eBox rfl rfl rfl rfl rfl (fun p0a => ?_)) 
  refine pu rfl rfl rfl rfl rfl ?_
  refine tr_seq ?_
  refine tr_region fun _ _ _ => ?_
  refine st rfl rfl rfl rfl (rLdS rfl rfl rfl) ?_
  refine ef rfl rfl (eCallV rfl rfl rfl (ref_order _ _ _ _ _) ⟨rfl, trivial⟩ ?_) 
  refine pu rfl rfl rfl rfl rfl ?_
  refine tr_seq ?_
  refine tr_region fun _ _ _ => ?_
  refine pu rfl rfl rfl rfl rfl ?_
  refine ef rfl rfl (eMakeI rfl rfl rfl rfl rfl (by omega) (by omega) (by omega) (fun A2 => ?_)) 
  refine pu rfl rfl rfl rfl rfl ?_
  rw [hor]
  refine tr_seq ?_
  refine tr_region fun _ _ _ => ?_
  refine ef rfl rfl (eLit0I rfl rfl rfl  (fun A3 => ?_)) 
  refine st rfl rfl rfl rfl (rFld rfl rfl) ?_
  refine st rfl rfl rfl rfl (rLdF rfl rfl rfl) ?_
  refine ef rfl rfl (eAppI rfl rfl rfl rfl rfl (by first | rfl | simp | omega) (by first | rfl | simp | omega) (by first | omega | (simp; omega)) (fun A3a c3a => ?_)) 
  refine ef rfl rfl (eLit1I rfl rfl rfl rfl (fun A3b => ?_)) 
  refine ef rfl rfl (eAppI rfl rfl rfl rfl rfl (by first | rfl | simp | omega) (by first | rfl | simp | omega) (by first | omega | (simp; omega)) (fun A3c c3c => ?_)) 
  refine pu rfl rfl rfl rfl rfl ?_
  simp only [List.nil_append]
  refine tr_seq ?_
  refine tr_region fun _ _ _ => ?_
  refine pu rfl rfl rfl rfl rfl ?_
  refine tr_seq ?_
  refine tr_block ?_
  refine tr_loop1 (fun (r : Int) => [(8, .int .i64 r), (5, .int .i64 (pw p m)), (6, .slice A2 (pw p m).toNat (pw p m).toNat), (7, .slice A3c (mod ++ [1]).length c3c), (2, .pointer (some p0)), (3, .pointer (some p0a)), (4, .slice none 0 0)]) (fun (r : Int) => [ow A2 3 (pw p m).toNat (ints (List.replicate (pw p m).toNat 0)), ow A3c 3 c3c (ints (mod ++ [1])), blk p0 24 [.int .i64 p, .int .i64 m, .slice A mod.length c], blk p0a 24 [.int .i64 p, .int .i64 m2, .slice Ae mod2.length ce], ro A (ints mod), ro Ae (ints mod2)]) (fun (r : Int) => r = embR p m2 mod2 m mod) (fun (r : Int) => 0) (0) ⟨rfl, rfl, rfl, rfl, rfl, rfl, rfl, trivial⟩ (by first | exact cs _ _ | exact CSub.refl _) (hre.symm) (fun r hI => ?_)
  refine tr_seq ?_
  refine tr_seq ?_
  refine tr_region fun _ _ _ => ?_
  refine st rfl rfl rfl rfl (rFld rfl rfl) ?_
  refine st rfl rfl rfl rfl (rLdF rfl rfl rfl) ?_
  iterate 2 refine pu rfl rfl rfl rfl rfl ?_
  refine skF rfl rfl (by simp <;> omega) rfl rfl ?_
  refine skF rfl rfl (by simp <;> omega) rfl rfl ?_
  refine skF rfl rfl (by simp <;> omega) rfl rfl ?_
  refine skF rfl rfl (by simp <;> omega) rfl rfl ?_
  refine skF rfl rfl (by simp <;> omega) rfl rfl ?_
  refine st rfl rfl rfl rfl (rPick0 rfl rfl (by simp <;> omega) rfl) ?_
  refine tr_cond_bool rfl (fun h5 => ?_) (fun h5 => ?_)
  · try simp only [zbA] at h5
    first | exact absurd trivial h5 | exact absurd rfl h5 | omega | (exact absurd h5 (by simp)) --done
  · try simp only [zbA] at h5
    refine tr_exit ?_
    refine tr_seq ?_
    refine tr_seq ?_
    subst hI
    refine tr_region fun _ _ _ => ?_
    refine pu rfl rfl rfl rfl rfl ?_
    refine tr_block ?_
    refine tr_loop2 (fun (x : Int) (o : List Int) => [(6, .slice A2 (pw p m).toNat (pw p m).toNat), (9, .int .i64 x), (5, .int .i64 (pw p m)), (8, .int .i64 (embR p m2 mod2 m mod)), (2, .pointer (some p0)), (3, .pointer (some p0a)), (4, .slice none 0 0)]) (fun (x : Int) (o : List Int) => [ow A2 3 (pw p m).toNat (ints o), blk p0 24 [.int .i64 p, .int .i64 m, .slice A mod.length c], blk p0a 24 [.int .i64 p, .int .i64 m2, .slice Ae mod2.length ce], ro A (ints mod), ro Ae (ints mod2)]) (fun (x : Int) (o : List Int) => (0 ≤ x ∧ x ≤ pw p m) ∧ o.length = (pw p m).toNat ∧ ∀ j : Nat, (j : Int) < x → o.getD j 0 = (Po.val (pol (digs p m.toNat j) : Po (El p m2 mod2)) (el (embR p m2 mod2 m mod))).1) (fun (x : Int) (o : List Int) => (pw p m - x).toNat) (0) (List.replicate (pw p m).toNat 0) ⟨rfl, rfl, rfl, rfl, rfl, rfl, rfl, trivial⟩ (by first | exact cs _ _ | exact CSub.refl _) (⟨⟨by omega, by omega⟩, by simp, fun j hj => by omega⟩) (fun x o hI => ?_)
    obtain ⟨⟨hx0, hx1⟩, hol, ho⟩ := hI
    refine tr_seq ?_
    refine tr_seq ?_
    refine tr_region fun _ _ _ => ?_
    iterate 3 refine pu rfl rfl rfl rfl rfl ?_
    refine tr_cond_bool rfl (fun h8 => ?_) (fun h8 => ?_)
    · try simp only [zbA] at h8
      refine tr_skip ?_
      refine tr_seq ?_
      refine tr_block ?_
      refine tr_draw [0, 1, 2, 3, 4, 6, 5, 7, 8] [9] mixed (by kernel_rfl) fun _ _ _ => ?_
      iterate 2 refine pu rfl rfl rfl rfl rfl ?_
      refine st rfl rfl rfl rfl (rLdS rfl rfl rfl) ?_
      refine st rfl rfl rfl rfl (rLdS rfl rfl rfl) ?_
      iterate 2 refine pu rfl rfl rfl rfl rfl ?_
      refine ef rfl rfl (eCall1 rfl rfl rfl (ref_DigitsE p m A c mod x ⟨by omega, by omega⟩) ⟨rfl, rfl, trivial⟩ ?_) 
      rintro _ _ ⟨Bd, rfl, rfl⟩
      refine ef rfl rfl (eCallV rfl rfl rfl (ref_PEval p m2 Ae ce mod2 Bd _ _ (digs p m.toNat x) (digs_len _ _ _).symm (by rw [digs_len]; omega) (embR p m2 mod2 m mod)) ⟨rfl, rfl, rfl, trivial⟩ ?_) 
      refine st rfl rfl rfl rfl (rIdxI rfl rfl rfl (by omega) (by omega) (by omega)) ?_
      refine ef rfl rfl (eStI rfl rfl rfl rfl (by omega) ?_) 
      refine tr_region fun _ _ _ => ?_
      refine pu rfl rfl rfl rfl rfl ?_
      refine st rfl rfl rfl rfl (rAdd rfl rfl rfl (by omega) (by omega)) ?_
      refine pu rfl rfl rfl rfl rfl ?_
      refine ⟨x + 1, o.set x.toNat (Po.val (pol (digs p m.toNat x) : Po (El p m2 mod2)) (el (embR p m2 mod2 m mod))).1, ⟨rfl, rfl, rfl, rfl, rfl, rfl, rfl, trivial⟩, by first | exact cs _ _ | exact CSub.refl _, ?_⟩
      refine ⟨⟨⟨by omega, by omega⟩, by simpa using hol, fun j hj => ?_⟩, by omega⟩
      rw [getD_set]
      by_cases he : x.toNat = j
      · subst he; rw [if_pos ⟨rfl, by omega⟩, Int.toNat_of_nonneg hx0]
      · rw [if_neg (fun e => he e.1)]; exact ho j (by omega)
    · try simp only [zbA] at h8
      refine tr_exit ?_
      refine tr_seq ?_
      refine tr_region fun _ _ _ => ?_
      iterate 2 refine pu rfl rfl rfl rfl rfl ?_
      have hfin : o = (imL p m2 mod2 m (embR p m2 mod2 m mod)) := ext_getD (by rw [imL_length]; exact hol) fun j => by
        by_cases hj : j < (pw p m).toNat
        · rw [imL_get _ _ hj]; exact ho j (by omega)
        · rw [getD_out (by omega), getD_out (by rw [imL_length]; omega)]
      have hol2 : (pw p m).toNat = (imL p m2 mod2 m (embR p m2 mod2 m mod)).length := (imL_length _ _).symm
      exact tr_ret ⟨trivial, _, _, rfl, ⟨_, rfl, A2, by rw [hol2], by rw [← hfin, hol]⟩, cs _ _, trivial, trivial⟩
theorem ref_Emb2_ent : Enters Tryz.prog 47 := enters_of Tryz.func47 (by kernel_rfl) (by kernel_rfl)
theorem ref_Emb2 (p m : Int) (A : Option Addr) (c : Nat) (mod : List Int) [hF : IsF p m mod] (m2 : Int) (Ae : Option Addr) (ce : Nat) (mod2 : List Int) [hE : IsF p m2 mod2] (hd : m2 % m = 0) (hm : 2 ≤ m) (hrt : IsRt p m2 mod2 m mod (embR p m2 mod2 m mod)) :
    Pure Tryz.prog 47 #[.agg #[.int .i64 p, .int .i64 m, .slice A mod.length c], .agg #[.int .i64 p, .int .i64 m2, .slice Ae mod2.length ce]] [ro A (ints mod), ro Ae (ints mod2)] (one (fun v ch => ∃ B, v = .slice B (imL p m2 mod2 m (embR p m2 mod2 m mod)).length (imL p m2 mod2 m (embR p m2 mod2 m mod)).length ∧ ch = ow B 3 (imL p m2 mod2 m (embR p m2 mod2 m mod)).length (ints (imL p m2 mod2 m (embR p m2 mod2 m mod))))) := by
  have hl8 := hF.short
  have hm1 := hF.m1
  have hq2 := hF.q2
  have hor := hF.ord
  have hq9 := hF.out.1.1.q
  have hm8 := hF.out.1.1.m8
  have hlo := hrt.lo
  have hq29 := hE.out.1.1.q
  have hhi := hrt.hi
  refine pure_of (args := [.agg #[.int .i64 p, .int .i64 m, .slice A mod.length c], .agg #[.int .i64 p, .int .i64 m2, .slice Ae mod2.length ce]]) 47 Tryz.func47 rfl rfl rfl ref_Emb2_ent ⟨id, id, trivial⟩ (fun w0 => ?_)
  refine tr_seq ?_
  refine tr_region fun _ _ _ => ?_
  refine ef rfl rfl (eBox rfl rfl rfl rfl rfl (fun p0 => ?_)) 
  refine ef rfl rfl (eBox rfl rfl rfl rfl rfl (fun p0a => ?_)) 
  refine pu rfl rfl rfl rfl rfl ?_
  refine tr_seq ?_
  refine tr_region fun _ _ _ => ?_
  refine st rfl rfl rfl rfl (rLdS rfl rfl rfl) ?_
  refine ef rfl rfl (eCallV rfl rfl rfl (ref_order _ _ _ _ _) ⟨rfl, trivial⟩ ?_) 
  refine pu rfl rfl rfl rfl rfl ?_
  refine tr_seq ?_
  refine tr_region fun _ _ _ => ?_
  refine pu rfl rfl rfl rfl rfl ?_
  refine ef rfl rfl (eMakeI rfl rfl rfl rfl rfl (by omega) (by omega) (by omega) (fun A2 => ?_)) 
  refine pu rfl rfl rfl rfl rfl ?_
  rw [hor]
  refine tr_seq ?_
  refine tr_region fun _ _ _ => ?_
  refine ef rfl rfl (eLit0I rfl rfl rfl  (fun A3 => ?_)) 
  refine st rfl rfl rfl rfl (rFld rfl rfl) ?_
  refine st rfl rfl rfl rfl (rLdF rfl rfl rfl) ?_
  refine ef rfl rfl (eAppI rfl rfl rfl rfl rfl (by first | rfl | simp | omega) (by first | rfl | simp | omega) (by first | omega | (simp; omega)) (fun A3a c3a => ?_)) 
  refine ef rfl rfl (eLit1I rfl rfl rfl rfl (fun A3b => ?_)) 
  refine ef rfl rfl (eAppI rfl rfl rfl rfl rfl (by first | rfl | simp | omega) (by first | rfl | simp | omega) (by first | omega | (simp; omega)) (fun A3c c3c => ?_)) 
  refine pu rfl rfl rfl rfl rfl ?_
  simp only [List.nil_append]
  refine tr_seq ?_
  refine tr_region fun _ _ _ => ?_
  refine pu rfl rfl rfl rfl rfl ?_
  refine tr_seq ?_
  refine tr_block ?_
  refine tr_loop1 (fun (r : Int) => [(8, .int .i64 r), (5, .int .i64 (pw p m)), (6, .slice A2 (pw p m).toNat (pw p m).toNat), (7, .slice A3c (mod ++ [1]).length c3c), (2, .pointer (some p0)), (3, .pointer (some p0a)), (4, .slice none 0 0)]) (fun (r : Int) => [ow A2 3 (pw p m).toNat (ints (List.replicate (pw p m).toNat 0)), ow A3c 3 c3c (ints (mod ++ [1])), blk p0 24 [.int .i64 p, .int .i64 m, .slice A mod.length c], blk p0a 24 [.int .i64 p, .int .i64 m2, .slice Ae mod2.length ce], ro A (ints mod), ro Ae (ints mod2)]) (fun (r : Int) => 0 ≤ r ∧ r ≤ embR p m2 mod2 m mod) (fun (r : Int) => (embR p m2 mod2 m mod - r).toNat) (0) ⟨rfl, rfl, rfl, rfl, rfl, rfl, rfl, trivial⟩ (by first | exact cs _ _ | exact CSub.refl _) (by omega) (fun r hI => ?_)
  obtain ⟨hr0, hr1⟩ := hI
  refine tr_seq ?_
  refine tr_seq ?_
  refine tr_region fun _ _ _ => ?_
  refine st rfl rfl rfl rfl (rFld rfl rfl) ?_
  refine st rfl rfl rfl rfl (rLdF rfl rfl rfl) ?_
  iterate 2 refine pu rfl rfl rfl rfl rfl ?_
  refine stT rfl rfl rfl (by simp <;> omega) rfl rfl (rLdS rfl rfl rfl) ?_
  refine stT rfl rfl rfl (by simp <;> omega) rfl rfl (rMove rfl rfl) ?_
  refine stT rfl rfl rfl (by simp <;> omega) rfl rfl (rMove rfl rfl) ?_
  refine efT rfl rfl rfl (by simp <;> omega) (eCallV rfl rfl rfl (ref_PEval p m2 Ae ce mod2 A3c _ c3c (mod ++ [1]) rfl (by simp; omega) r) ⟨rfl, rfl, rfl, trivial⟩ ?_) 
  refine stT rfl rfl rfl (by simp <;> omega) rfl rfl (rNeq rfl rfl rfl) ?_
  refine st rfl rfl rfl rfl (rPick1 rfl rfl (by simp <;> omega) rfl) ?_
  refine tr_cond_bool rfl (fun h5 => ?_) (fun h5 => ?_)
  · try simp only [zbA] at h5
    refine tr_skip ?_
    refine tr_block ?_
    refine tr_region fun _ _ _ => ?_
    refine pu rfl rfl rfl rfl rfl ?_
    refine st rfl rfl rfl rfl (rAdd rfl rfl rfl (by omega) (by omega)) ?_
    refine pu rfl rfl rfl rfl rfl ?_
    refine ⟨r + 1, ⟨rfl, rfl, rfl, rfl, rfl, rfl, rfl, trivial⟩, by first | exact cs _ _ | exact CSub.refl _, ?_⟩
    have hne : r ≠ embR p m2 mod2 m mod := fun e => by
      rw [e, hrt.root hm] at h5
      first | exact h5 rfl | exact h5.2 rfl | simp at h5 | (have h6 : ((0 : El p m2 mod2).1 : Int) = 0 := rfl; omega)
    exact ⟨⟨by omega, by omega⟩, by omega⟩
  · try simp only [zbA] at h5
    refine tr_exit ?_
    refine tr_seq ?_
    refine tr_seq ?_
    have hre : r = embR p m2 mod2 m mod := by
      rcases Int.lt_or_le r (embR p m2 mod2 m mod) with h | h
      · have h6 := hrt.least hm r hr0 h
        exact absurd ((val_zero_iff _).1 (by first | exact h5 | omega | simpa using h5)) h6
      · omega
    subst hre
    refine tr_region fun _ _ _ => ?_
    refine pu rfl rfl rfl rfl rfl ?_
    refine tr_block ?_
    refine tr_loop2 (fun (x : Int) (o : List Int) => [(6, .slice A2 (pw p m).toNat (pw p m).toNat), (9, .int .i64 x), (5, .int .i64 (pw p m)), (8, .int .i64 (embR p m2 mod2 m mod)), (2, .pointer (some p0)), (3, .pointer (some p0a)), (4, .slice none 0 0)]) (fun (x : Int) (o : List Int) => [ow A2 3 (pw p m).toNat (ints o), blk p0 24 [.int .i64 p, .int .i64 m, .slice A mod.length c], blk p0a 24 [.int .i64 p, .int .i64 m2, .slice Ae mod2.length ce], ro A (ints mod), ro Ae (ints mod2)]) (fun (x : Int) (o : List Int) => (0 ≤ x ∧ x ≤ pw p m) ∧ o.length = (pw p m).toNat ∧ ∀ j : Nat, (j : Int) < x → o.getD j 0 = (Po.val (pol (digs p m.toNat j) : Po (El p m2 mod2)) (el (embR p m2 mod2 m mod))).1) (fun (x : Int) (o : List Int) => (pw p m - x).toNat) (0) (List.replicate (pw p m).toNat 0) ⟨rfl, rfl, rfl, rfl, rfl, rfl, rfl, trivial⟩ (by first | exact cs _ _ | exact CSub.refl _) (⟨⟨by omega, by omega⟩, by simp, fun j hj => by omega⟩) (fun x o hI => ?_)
    obtain ⟨⟨hx0, hx1⟩, hol, ho⟩ := hI
    refine tr_seq ?_
    refine tr_seq ?_
    refine tr_region fun _ _ _ => ?_
    iterate 3 refine pu rfl rfl rfl rfl rfl ?_
    refine tr_cond_bool rfl (fun h8 => ?_) (fun h8 => ?_)
    · try simp only [zbA] at h8
      refine tr_skip ?_
      refine tr_seq ?_
      refine tr_block ?_
      refine tr_draw [0, 1, 2, 3, 4, 6, 5, 7, 8] [9] mixed (by kernel_rfl) fun _ _ _ => ?_
      iterate 2 refine pu rfl rfl rfl rfl rfl ?_
      refine st rfl rfl rfl rfl (rLdS rfl rfl rfl) ?_
      refine st rfl rfl rfl rfl (rLdS rfl rfl rfl) ?_
      iterate 2 refine pu rfl rfl rfl rfl rfl ?_
      refine ef rfl rfl (eCall1 rfl rfl rfl (ref_DigitsE p m A c mod x ⟨by omega, by omega⟩) ⟨rfl, rfl, trivial⟩ ?_) 
      rintro _ _ ⟨Bd, rfl, rfl⟩
      refine ef rfl rfl (eCallV rfl rfl rfl (ref_PEval p m2 Ae ce mod2 Bd _ _ (digs p m.toNat x) (digs_len _ _ _).symm (by rw [digs_len]; omega) (embR p m2 mod2 m mod)) ⟨rfl, rfl, rfl, trivial⟩ ?_) 
      refine st rfl rfl rfl rfl (rIdxI rfl rfl rfl (by omega) (by omega) (by omega)) ?_
      refine ef rfl rfl (eStI rfl rfl rfl rfl (by omega) ?_) 
      refine tr_region fun _ _ _ => ?_
      refine pu rfl rfl rfl rfl rfl ?_
      refine st rfl rfl rfl rfl (rAdd rfl rfl rfl (by omega) (by omega)) ?_
      refine pu rfl rfl rfl rfl rfl ?_
      refine ⟨x + 1, o.set x.toNat (Po.val (pol (digs p m.toNat x) : Po (El p m2 mod2)) (el (embR p m2 mod2 m mod))).1, ⟨rfl, rfl, rfl, rfl, rfl, rfl, rfl, trivial⟩, by first | exact cs _ _ | exact CSub.refl _, ?_⟩
      refine ⟨⟨⟨by omega, by omega⟩, by simpa using hol, fun j hj => ?_⟩, by omega⟩
      rw [getD_set]
      by_cases he : x.toNat = j
      · subst he; rw [if_pos ⟨rfl, by omega⟩, Int.toNat_of_nonneg hx0]
      · rw [if_neg (fun e => he e.1)]; exact ho j (by omega)
    · try simp only [zbA] at h8
      refine tr_exit ?_
      refine tr_seq ?_
      refine tr_region fun _ _ _ => ?_
      iterate 2 refine pu rfl rfl rfl rfl rfl ?_
      have hfin : o = (imL p m2 mod2 m (embR p m2 mod2 m mod)) := ext_getD (by rw [imL_length]; exact hol) fun j => by
        by_cases hj : j < (pw p m).toNat
        · rw [imL_get _ _ hj]; exact ho j (by omega)
        · rw [getD_out (by omega), getD_out (by rw [imL_length]; omega)]
      have hol2 : (pw p m).toNat = (imL p m2 mod2 m (embR p m2 mod2 m mod)).length := (imL_length _ _).symm
      exact tr_ret ⟨trivial, _, _, rfl, ⟨_, rfl, A2, by rw [hol2], by rw [← hfin, hol]⟩, cs _ _, trivial, trivial⟩
theorem zset_dec {p m : Int} {mod : List Int} [hF : IsF p m mod] (f : Po (El p m mod)) (X : El p m mod) : zset p m mod f X.1 = decide ((Po.val f X).1 = 0) := by
  by_cases h : Po.val f X = 0
  · have h1 : zset p m mod f X.1 = true := zset_iff.2 (by rw [el_of]; exact h)
    rw [h1, decide_eq_true ((val_zero_iff _).2 h)]
  · have h1 : zset p m mod f X.1 = false := Bool.eq_false_iff.2 fun e => h (by have := zset_iff.1 e; rwa [el_of] at this)
    rw [h1, decide_eq_false (fun e => h ((val_zero_iff _).1 e))]
theorem embR_is {p m m2 : Int} {mod mod2 : List Int} [hF : IsF p m mod] [hE : IsF p m2 mod2] (hm : 2 ≤ m) (hd : m2 % m = 0) : IsRt p m2 mod2 m mod (embR p m2 mod2 m mod) := by
  obtain ⟨_, h⟩ := rt_of_head (p := p) (m := m) (mod := mod) (m2 := m2) (mod2 := mod2) hm hd rfl
  rw [h.eq (by omega)]; exact h
theorem ref_Emb (p m : Int) (A : Option Addr) (c : Nat) (mod : List Int) [hF : IsF p m mod] (m2 : Int) (Ae : Option Addr) (ce : Nat) (mod2 : List Int) [hE : IsF p m2 mod2] (hd : m2 % m = 0) : Pure Tryz.prog 47 #[.agg #[.int .i64 p, .int .i64 m, .slice A mod.length c], .agg #[.int .i64 p, .int .i64 m2, .slice Ae mod2.length ce]] [ro A (ints mod), ro Ae (ints mod2)] (one (fun v ch => ∃ B, v = .slice B (imL p m2 mod2 m (embR p m2 mod2 m mod)).length (imL p m2 mod2 m (embR p m2 mod2 m mod)).length ∧ ch = ow B 3 (imL p m2 mod2 m (embR p m2 mod2 m mod)).length (ints (imL p m2 mod2 m (embR p m2 mod2 m mod))))) := by
  have h1 := hF.m1
  by_cases hm : m = 1
  · exact ref_Emb1 p m A c mod m2 Ae ce mod2 hd hm
  · exact ref_Emb2 p m A c mod m2 Ae ce mod2 hd (by omega) (embR_is (by omega) hd)
theorem map_im (im ws : List Int) {j : Nat} (hj : j < ws.length) : (ws.map (fun y : Int => im.getD y.toNat 0)).getD j 0 = im.getD (ws.getD j 0).toNat 0 := by
  rw [List.getD_eq_getElem?_getD, List.getElem?_map, List.getElem?_eq_getElem hj, List.getD_eq_getElem?_getD (l := ws), List.getElem?_eq_getElem hj]; rfl
theorem rootArgs_is {p m : Int} {mod : List Int} (hF : FldR p m mod) {n : Int} (h1 : 1 ≤ n) (h2 : n ≤ 64) : rootArgs p m mod n = if rootI p m mod n = 0 then 11 else 0 := by
  unfold rootArgs; rw [if_neg (by rw [chkF_ok hF]; simp), if_neg (by omega)]
theorem ref_value_ent : Enters Tryz.prog 48 := enters_of Tryz.func48 (by kernel_rfl) (by kernel_rfl)
theorem ref_value (p m : Int) (A : Option Addr) (c : Nat) (mod : List Int) [hF : IsF p m mod] (Y : Option Addr) (ny cy : Nat) (im : List Int) (hny : ny = im.length) (a n : Int) (X : Option Addr) (nx cx : Nat) (ws : List Int) (hnx : nx = ws.length) (hn : n = ws.length) (h9 : ws.length ≤ 1000000) (hws : ∀ y ∈ ws, 0 ≤ y ∧ y < im.length) (i : Int) (hi : 0 ≤ i ∧ i < n) :
    Pure Tryz.prog 48 #[.agg #[.int .i64 p, .int .i64 m, .slice A mod.length c], .slice Y ny cy, .int .i64 a, .int .i64 n, .slice X nx cx, .int .i64 i] [ro A (ints mod), ro Y (ints im), ro X (ints ws)] (isV (.int .i64 (Po.val (pol (ws.map (fun y : Int => im.getD y.toNat 0)) : Po (El p m mod)) (Rg.pow (el a : El p m mod) i.toNat)).1)) := by
  have hin : i % n = i := Int.emod_eq_of_lt hi.1 hi.2
  refine pure_of (args := [.agg #[.int .i64 p, .int .i64 m, .slice A mod.length c], .slice Y ny cy, .int .i64 a, .int .i64 n, .slice X nx cx, .int .i64 i]) 50 Tryz.func48 rfl rfl rfl ref_value_ent ⟨id, id, id, trivial⟩ (fun w0 => ?_)
  refine tr_seq ?_
  refine tr_region fun _ _ _ => ?_
  refine ef rfl rfl (eBox rfl rfl rfl rfl rfl (fun p0 => ?_)) 
  refine pu rfl rfl rfl rfl rfl ?_
  refine tr_seq ?_
  refine tr_draw [0, 1, 2, 3, 4, 5, 6, 7, 8, 9, 10] [] mixed (by kernel_rfl) fun _ _ _ => ?_
  refine st rfl rfl rfl rfl (rLdS rfl rfl rfl) ?_
  iterate 3 refine pu rfl rfl rfl rfl rfl ?_
  refine ef rfl rfl (eCallV rfl rfl rfl (ref_mod i n (by omega) (by omega)) ⟨rfl, rfl, trivial⟩ ?_) 
  refine ef rfl rfl (eCallV rfl rfl rfl (ref_PowE p m A c mod a (i % n) (by omega) (by omega)) ⟨rfl, rfl, rfl, trivial⟩ ?_) 
  iterate 5 refine pu rfl rfl rfl rfl rfl ?_
  refine tr_seq ?_
  rw [hin]
  refine tr_region fun _ _ _ => ?_
  refine pu rfl rfl rfl rfl rfl ?_
  refine tr_seq ?_
  refine tr_region fun _ _ _ => ?_
  refine pu rfl rfl rfl rfl rfl ?_
  refine tr_seq ?_
  refine tr_seq ?_
  refine tr_region fun _ _ _ => ?_
  refine pu rfl rfl rfl rfl rfl ?_
  refine tr_block ?_
  refine tr_loop3 (fun (k : Int) (y : Int) (z : Int) => [(15, .int .i64 z), (16, .int .i64 y), (17, .int .i64 k), (13, .int .i64 (Rg.pow (el a : El p m mod) i.toNat).1), (1, .slice Y ny cy), (4, .slice X nx cx), (3, .int .i64 n), (6, .pointer (some p0)), (12, .int .i64 0)]) (fun (k : Int) (y : Int) (z : Int) => [blk p0 24 [.int .i64 p, .int .i64 m, .slice A mod.length c], ro A (ints mod), ro Y (ints im), ro X (ints ws)]) (fun (k : Int) (y : Int) (z : Int) => (0 ≤ k ∧ k ≤ n) ∧ y = (Rg.sm k.toNat fun j => (el (im.getD (ws.getD j 0).toNat 0) * Rg.pow (Rg.pow (el a : El p m mod) i.toNat) j : El p m mod)).1 ∧ z = (Rg.pow (Rg.pow (el a : El p m mod) i.toNat) k.toNat : El p m mod).1) (fun (k : Int) (y : Int) (z : Int) => (n - k).toNat) (0) (0) (1) ⟨rfl, rfl, rfl, rfl, rfl, rfl, rfl, rfl, rfl, trivial⟩ (by first | exact cs _ _ | exact CSub.refl _) (⟨⟨by omega, by omega⟩, rfl, rfl⟩) (fun k y z hI => ?_)
  obtain ⟨⟨hk0, hk1⟩, hy, hz⟩ := hI
  refine tr_seq ?_
  refine tr_seq ?_
  refine tr_region fun _ _ _ => ?_
  iterate 3 refine pu rfl rfl rfl rfl rfl ?_
  refine tr_cond_bool rfl (fun h5 => ?_) (fun h5 => ?_)
  · try simp only [zbA] at h5
    refine tr_skip ?_
    refine tr_seq ?_
    refine tr_block ?_
    refine tr_seq ?_
    have hwk := hws _ (getD_mem (show k.toNat < ws.length by omega) 0)
    refine tr_draw [0, 1, 2, 3, 4, 5, 6, 7, 8, 9, 10, 11, 12, 13] [] mixed (by kernel_rfl) fun _ _ _ => ?_
    refine st rfl rfl rfl rfl (rLdS rfl rfl rfl) ?_
    refine pu rfl rfl rfl rfl rfl ?_
    refine st rfl rfl rfl rfl (rLdS rfl rfl rfl) ?_
    iterate 3 refine pu rfl rfl rfl rfl rfl ?_
    refine st rfl rfl rfl rfl (rIdxI rfl rfl rfl (by omega) (by omega) (by omega)) ?_
    refine st rfl rfl rfl rfl (rLdI rfl rfl (by omega)) ?_
    refine st rfl rfl rfl rfl (rIdxI rfl rfl rfl (by omega) (by omega) (by omega)) ?_
    refine st rfl rfl rfl rfl (rLdI rfl rfl (by omega)) ?_
    refine pu rfl rfl rfl rfl rfl ?_
    refine ef rfl rfl (eCallV rfl rfl rfl (ref_MulE _ _ _ _ _ _ _) ⟨rfl, rfl, rfl, trivial⟩ ?_) 
    refine ef rfl rfl (eCallV rfl rfl rfl (ref_AddE _ _ _ _ _ _ _) ⟨rfl, rfl, rfl, trivial⟩ ?_) 
    refine pu rfl rfl rfl rfl rfl ?_
    refine tr_region fun _ _ _ => ?_
    refine st rfl rfl rfl rfl (rLdS rfl rfl rfl) ?_
    iterate 2 refine pu rfl rfl rfl rfl rfl ?_
    refine ef rfl rfl (eCallV rfl rfl rfl (ref_MulE _ _ _ _ _ _ _) ⟨rfl, rfl, rfl, trivial⟩ ?_) 
    refine pu rfl rfl rfl rfl rfl ?_
    refine tr_region fun _ _ _ => ?_
    refine pu rfl rfl rfl rfl rfl ?_
    refine st rfl rfl rfl rfl (rAdd rfl rfl rfl (by omega) (by omega)) ?_
    refine pu rfl rfl rfl rfl rfl ?_
    refine ⟨k + 1, (el y + el (el (im.getD (ws.getD k.toNat 0).toNat 0) * el z : El p m mod).1 : El p m mod).1, (el z * el (Rg.pow (el a : El p m mod) i.toNat).1 : El p m mod).1, ⟨rfl, rfl, rfl, rfl, rfl, rfl, rfl, rfl, rfl, trivial⟩, by first | exact cs _ _ | exact CSub.refl _, ?_⟩
    have hk2 : (k + 1).toNat = k.toNat + 1 := by omega
    refine ⟨⟨⟨by omega, by omega⟩, ?_, ?_⟩, by omega⟩
    · rw [hk2, Rg.sm_succ, hy, hz, el_of, el_of, el_of]
    · rw [hk2, Rg.pow_succ, hz, el_of, el_of]
  · try simp only [zbA] at h5
    refine tr_exit ?_
    refine tr_seq ?_
    refine tr_region fun _ _ _ => ?_
    iterate 2 refine pu rfl rfl rfl rfl rfl ?_
    have hkn : k.toNat = (ws.map (fun y : Int => im.getD y.toNat 0)).length := by rw [List.length_map]; omega
    have hfin : y = (Po.val (pol (ws.map (fun y : Int => im.getD y.toNat 0)) : Po (El p m mod)) (Rg.pow (el a : El p m mod) i.toNat)).1 := by
      rw [hy, val_sum, hkn]
      refine congrArg (fun z : El p m mod => z.1) (Rg.sm_congr fun j hj => ?_)
      rw [map_im im ws (by rw [List.length_map] at hj; exact hj)]
    exact tr_ret ⟨trivial, _, _, rfl, ⟨by rw [hfin], rfl⟩, CSub.nil _, trivial⟩
theorem ref_Zeros_ent : Enters Tryz.prog 13 := enters_of Tryz.func13 (by kernel_rfl) (by kernel_rfl)
theorem ref_Zeros (p m : Int) (A : Option Addr) (c : Nat) (mod : List Int) [hF : IsF p m mod] (w : Int) (Aa : Option Addr) (n ca : Nat) (rs : List RowM) (hn : n = rs.length) (h9 : rs.length ≤ 256) (hc : CodeOk p m mod w rs) (m2 : Int) (Ae : Option Addr) (ce : Nat) (mod2 : List Int) [hE : IsF p m2 mod2] (hd : m2 % m = 0) :
    Pure Tryz.prog 13 #[.agg #[.int .i64 p, .int .i64 m, .slice A mod.length c, .int .i64 w, .slice Aa n ca], .agg #[.int .i64 p, .int .i64 m2, .slice Ae mod2.length ce]] [ro A (ints mod), ro Aa (hdrs rs), rowsR rs, ro Ae (ints mod2)] (one (fun v ch => ∃ B cb, v = .slice B (zerL p m2 mod2 (imL p m2 mod2 m (embR p m2 mod2 m mod)) rs (rootI p m2 mod2 w) w).length cb ∧ ch = ow B 3 cb (ints (zerL p m2 mod2 (imL p m2 mod2 m (embR p m2 mod2 m mod)) rs (rootI p m2 mod2 w) w)))) := by
  have hl9 := hF.short
  have hn1 := hc.n1
  have hn64 := hc.n64
  have hlen := hc.len
  have hgd := hc.good
  have h8 := hgd.h8 (N := 17592186044415) (by omega)
  have hck := hc.zero
  have hq2 := hF.q2
  have himl := imL_length (p := p) (m2 := m2) (mod2 := mod2) m (embR p m2 mod2 m mod)
  have hws : ∀ r ∈ rs, ∀ y ∈ r.xs, 0 ≤ y ∧ y < (imL p m2 mod2 m (embR p m2 mod2 m mod)).length := fun r hr y hy => by
    have := (hgd r hr).2 y hy
    rw [himl]; omega
  refine pure_of (args := [.agg #[.int .i64 p, .int .i64 m, .slice A mod.length c, .int .i64 w, .slice Aa n ca], .agg #[.int .i64 p, .int .i64 m2, .slice Ae mod2.length ce]]) 54 Tryz.func13 rfl rfl rfl ref_Zeros_ent ⟨id, id, id, id, trivial⟩ (fun w0 => ?_)
  refine tr_seq ?_
  refine tr_region fun _ _ _ => ?_
  refine ef rfl rfl (eBox rfl rfl rfl rfl rfl (fun p0 => ?_)) 
  refine ef rfl rfl (eBox rfl rfl rfl rfl rfl (fun p0a => ?_)) 
  refine pu rfl rfl rfl rfl rfl ?_
  refine tr_seq ?_
  refine tr_region fun _ _ _ => ?_
  refine st rfl rfl rfl rfl (rFld rfl rfl) ?_
  refine st rfl rfl rfl rfl (rLdSF rfl rfl) ?_
  refine st rfl rfl rfl rfl (rLdS rfl rfl rfl) ?_
  refine ef rfl rfl (eCall1 rfl rfl rfl (ref_Emb p m A c mod m2 Ae ce mod2 hd) ⟨rfl, rfl, trivial⟩ ?_) 
  rintro _ _ ⟨B1, rfl, rfl⟩
  refine pu rfl rfl rfl rfl rfl ?_
  refine tr_seq ?_
  refine tr_region fun _ _ _ => ?_
  refine st rfl rfl rfl rfl (rLdS rfl rfl rfl) ?_
  refine st rfl rfl rfl rfl (rFld rfl rfl) ?_
  refine st rfl rfl rfl rfl (rLdF rfl rfl rfl) ?_
  refine ef rfl rfl (eCallV rfl rfl rfl (ref_Root p m2 Ae ce mod2 hE.out w) ⟨rfl, rfl, trivial⟩ ?_) 
  refine pu rfl rfl rfl rfl rfl ?_
  refine tr_seq ?_
  refine tr_region fun _ _ _ => ?_
  refine pu rfl rfl rfl rfl rfl ?_
  refine tr_seq ?_
  refine tr_seq ?_
  refine tr_region fun _ _ _ => ?_
  refine pu rfl rfl rfl rfl rfl ?_
  refine tr_block ?_
  refine tr_nilI 3 ?_
  refine tr_loop4 (fun (i : Int) (B : Option Addr) (cb : Nat) (zs : List Int) => [(7, .slice B zs.length cb), (8, .int .i64 i), (6, .int .i64 (rootI p m2 mod2 w)), (2, .pointer (some p0)), (3, .pointer (some p0a)), (4, .slice none 0 0), (5, .slice B1 (imL p m2 mod2 m (embR p m2 mod2 m mod)).length (imL p m2 mod2 m (embR p m2 mod2 m mod)).length)]) (fun (i : Int) (B : Option Addr) (cb : Nat) (zs : List Int) => [ow B 3 cb (ints zs), ow B1 3 (imL p m2 mod2 m (embR p m2 mod2 m mod)).length (ints (imL p m2 mod2 m (embR p m2 mod2 m mod))), blk p0 27 [.int .i64 p, .int .i64 m, .slice A mod.length c, .int .i64 w, .slice Aa n ca], blk p0a 24 [.int .i64 p, .int .i64 m2, .slice Ae mod2.length ce], ro A (ints mod), ro Aa (hdrs rs), rowsR rs, ro Ae (ints mod2)]) (fun (i : Int) (B : Option Addr) (cb : Nat) (zs : List Int) => (0 ≤ i ∧ i ≤ w) ∧ zs = (upI i.toNat).filter (zerB p m2 mod2 (imL p m2 mod2 m (embR p m2 mod2 m mod)) rs (rootI p m2 mod2 w)) ∧ zs.length ≤ i.toNat) (fun (i : Int) (B : Option Addr) (cb : Nat) (zs : List Int) => (w - i).toNat) (0) (none) (0) ([]) ⟨rfl, rfl, rfl, rfl, rfl, rfl, rfl, trivial⟩ (by first | exact cs _ _ | exact CSub.refl _) (⟨⟨by omega, by omega⟩, rfl, by simp⟩) (fun i B cb zs hI => ?_)
  obtain ⟨⟨hi0, hi1⟩, hzs, hzl⟩ := hI
  refine tr_seq ?_
  refine tr_seq ?_
  refine tr_region fun _ _ _ => ?_
  refine pu rfl rfl rfl rfl rfl ?_
  refine st rfl rfl rfl rfl (rFld rfl rfl) ?_
  refine st rfl rfl rfl rfl (rLdF rfl rfl rfl) ?_
  refine pu rfl rfl rfl rfl rfl ?_
  refine tr_cond_bool rfl (fun h5 => ?_) (fun h5 => ?_)
  · try simp only [zbA] at h5
    refine tr_skip ?_
    refine tr_seq ?_
    refine tr_block ?_
    refine tr_seq ?_
    refine tr_region fun _ _ _ => ?_
    refine pu rfl rfl rfl rfl rfl ?_
    refine tr_seq ?_
    refine tr_seq ?_
    refine tr_region fun _ _ _ => ?_
    refine pu rfl rfl rfl rfl rfl ?_
    refine tr_block ?_
    refine tr_loop2 (fun (k : Int) (b : Bool) => [(9, .bool b), (10, .int .i64 k), (6, .int .i64 (rootI p m2 mod2 w)), (2, .pointer (some p0)), (3, .pointer (some p0a)), (4, .slice none 0 0), (5, .slice B1 (imL p m2 mod2 m (embR p m2 mod2 m mod)).length (imL p m2 mod2 m (embR p m2 mod2 m mod)).length), (7, .slice B zs.length cb), (8, .int .i64 i), (19, .int .i64 i), (21, .int .i64 w)]) (fun (k : Int) (b : Bool) => [ow B 3 cb (ints zs), ow B1 3 (imL p m2 mod2 m (embR p m2 mod2 m mod)).length (ints (imL p m2 mod2 m (embR p m2 mod2 m mod))), blk p0 27 [.int .i64 p, .int .i64 m, .slice A mod.length c, .int .i64 w, .slice Aa n ca], blk p0a 24 [.int .i64 p, .int .i64 m2, .slice Ae mod2.length ce], ro A (ints mod), ro Aa (hdrs rs), rowsR rs, ro Ae (ints mod2)]) (fun (k : Int) (b : Bool) => (0 ≤ k ∧ k ≤ n) ∧ b = (rs.take k.toNat).all fun r => zset p m2 mod2 (pol (r.xs.map fun y : Int => (imL p m2 mod2 m (embR p m2 mod2 m mod)).getD y.toNat 0)) (Rg.pow (el (rootI p m2 mod2 w) : El p m2 mod2) i.toNat).1) (fun (k : Int) (b : Bool) => (n - k).toNat) (0) (true) ⟨rfl, rfl, rfl, rfl, rfl, rfl, rfl, rfl, rfl, rfl, rfl, trivial⟩ (by first | exact cs _ _ | exact CSub.refl _) (⟨⟨by omega, by omega⟩, by simp⟩) (fun k b hI => ?_)
    obtain ⟨⟨hk0, hk1⟩, hb⟩ := hI
    refine tr_seq ?_
    refine tr_seq ?_
    refine tr_region fun _ _ _ => ?_
    refine pu rfl rfl rfl rfl rfl ?_
    refine st rfl rfl rfl rfl (rFld rfl rfl) ?_
    refine st rfl rfl rfl rfl (rLdF rfl rfl rfl) ?_
    refine st rfl rfl rfl rfl (rLen rfl rfl) ?_
    refine pu rfl rfl rfl rfl rfl ?_
    refine tr_cond_bool rfl (fun h9 => ?_) (fun h9 => ?_)
    · try simp only [zbA] at h9
      refine tr_skip ?_
      refine tr_seq ?_
      refine tr_block ?_
      have hgk := hgd.get (show k.toNat < rs.length by omega)
      haveI : InB k.toNat rs.length := ⟨by omega⟩
      have hgk1 := hgk.1
      refine tr_draw [0, 1, 2, 3, 4, 5, 6, 7, 8, 9, 10, 11, 12, 13, 14, 15, 16] [] mixed (by kernel_rfl) fun _ _ _ => ?_
      iterate 2 refine pu rfl rfl rfl rfl rfl ?_
      refine stg rfl rfl rfl rfl rfl (fun hb => by (have hq := hb; try simp only [zbA] at hq); exact rLdS rfl rfl rfl) ?_
      refine stg rfl rfl rfl rfl rfl (fun hb => by (have hq := hb; try simp only [zbA] at hq); exact rMove rfl rfl) ?_
      refine stg rfl rfl rfl rfl rfl (fun hb => by (have hq := hb; try simp only [zbA] at hq); exact rMove rfl rfl) ?_
      refine stg rfl rfl rfl rfl rfl (fun hb => by (have hq := hb; try simp only [zbA] at hq); exact rFld rfl rfl) ?_
      refine stg rfl rfl rfl rfl rfl (fun hb => by (have hq := hb; try simp only [zbA] at hq); exact rLdF rfl (evg rfl hb) rfl) ?_
      refine stg rfl rfl rfl rfl rfl (fun hb => by (have hq := hb; try simp only [zbA] at hq); exact rFld rfl rfl) ?_
      refine stg rfl rfl rfl rfl rfl (fun hb => by (have hq := hb; try simp only [zbA] at hq); exact rLdF rfl (evg rfl hb) rfl) ?_
      refine stg rfl rfl rfl rfl rfl (fun hb => by (have hq := hb; try simp only [zbA] at hq); exact rMove rfl rfl) ?_
      refine stg rfl rfl rfl rfl rfl (fun hb => by (have hq := hb; try simp only [zbA] at hq); exact rIdxR rfl (evg rfl hb) (evg rfl hb) (by omega) (by omega) (by omega)) ?_
      refine stg rfl rfl rfl rfl rfl (fun hb => by (have hq := hb; try simp only [zbA] at hq); exact rLdR rfl (evg rfl hb) (by omega)) ?_
      refine stg rfl rfl rfl rfl rfl (fun hb => by (have hq := hb; try simp only [zbA] at hq); exact rMove rfl rfl) ?_
      refine efg rfl rfl rfl rfl rfl (fun hb => by (have hq := hb; try simp only [zbA] at hq); exact eCallV rfl rfl rfl (ref_value p m2 Ae ce mod2 B1 _ _ (imL p m2 mod2 m (embR p m2 mod2 m mod)) rfl (rootI p m2 mod2 w) w _ _ _ (rs.getD k.toNat rowD).xs rfl (by omega) (by omega) (hws _ (getD_mem (show k.toNat < rs.length by omega) rowD)) i ⟨by omega, by omega⟩) ⟨(evg rfl hb), (evg rfl hb), (evg rfl hb), (evg rfl hb), (evg rfl hb), (evg rfl hb), trivial⟩ ⟨rfl, rfl⟩) ?_
      refine stg rfl rfl rfl rfl rfl (fun hb => by (have hq := hb; try simp only [zbA] at hq); exact rEql rfl (evg rfl hb) rfl) ?_
      refine st rfl rfl rfl rfl (rAndB rfl rfl rfl rfl) ?_
      refine pu rfl rfl rfl rfl rfl ?_
      refine tr_region fun _ _ _ => ?_
      refine pu rfl rfl rfl rfl rfl ?_
      refine st rfl rfl rfl rfl (rAdd rfl rfl rfl (by omega) (by omega)) ?_
      refine pu rfl rfl rfl rfl rfl ?_
      refine ⟨k + 1, b && decide ((Po.val (pol ((rs.getD k.toNat rowD).xs.map (fun y : Int => (imL p m2 mod2 m (embR p m2 mod2 m mod)).getD y.toNat 0)) : Po (El p m2 mod2)) (Rg.pow (el (rootI p m2 mod2 w)) i.toNat)).1 = 0), ⟨rfl, rfl, rfl, rfl, rfl, rfl, rfl, rfl, rfl, rfl, rfl, trivial⟩, by first | exact cs _ _ | exact CSub.refl _, ?_⟩
      refine ⟨⟨⟨by omega, by omega⟩, ?_⟩, by omega⟩
      rw [show (k + 1).toNat = k.toNat + 1 by omega, List.take_add_one, List.getElem?_eq_getElem (show k.toNat < rs.length by omega), List.all_append, ← hb]
      have hrk : rs.getD k.toNat rowD = rs[k.toNat] := by rw [List.getD_eq_getElem?_getD, List.getElem?_eq_getElem (show k.toNat < rs.length by omega)]; rfl
      rw [← zset_dec, hrk]
      simp
    · try simp only [zbA] at h9
      refine tr_exit ?_
      refine tr_seq ?_
      have hbz : b = zerB p m2 mod2 (imL p m2 mod2 m (embR p m2 mod2 m mod)) rs (rootI p m2 mod2 w) i := by rw [hb, List.take_of_length_le (by omega)]; rfl
      refine tr_region fun _ _ _ => ?_
      refine pu rfl rfl rfl rfl rfl ?_
      refine tr_cond_bool rfl (fun h12 => ?_) (fun h12 => ?_)
      · try simp only [zbA] at h12
        refine tr_region fun _ _ _ => ?_
        iterate 2 refine pu rfl rfl rfl rfl rfl ?_
        refine ef rfl rfl (eLit1I rfl rfl rfl rfl (fun A13 => ?_)) 
        refine ef rfl rfl (eAppI rfl rfl rfl rfl rfl (by first | rfl | simp | omega) (by first | rfl | simp | omega) (by first | omega | (simp; omega)) (fun A13a c13a => ?_)) 
        refine pu rfl rfl rfl rfl rfl ?_
        refine tr_region fun _ _ _ => ?_
        refine pu rfl rfl rfl rfl rfl ?_
        refine st rfl rfl rfl rfl (rAdd rfl rfl rfl (by omega) (by omega)) ?_
        refine pu rfl rfl rfl rfl rfl ?_
        refine ⟨i + 1, A13a, c13a, zs ++ [i], ⟨rfl, rfl, rfl, rfl, rfl, rfl, rfl, trivial⟩, by first | exact cs _ _ | exact CSub.refl _, ?_⟩
        refine ⟨⟨⟨by omega, by omega⟩, ?_, by simp; omega⟩, by omega⟩
        rw [upF_succ _ hi0, ← hzs, if_pos (by rw [← hbz]; simpa using h12)]
      · try simp only [zbA] at h12
        refine tr_skip ?_
        refine tr_region fun _ _ _ => ?_
        refine pu rfl rfl rfl rfl rfl ?_
        refine st rfl rfl rfl rfl (rAdd rfl rfl rfl (by omega) (by omega)) ?_
        refine pu rfl rfl rfl rfl rfl ?_
        refine ⟨i + 1, B, cb, zs, ⟨rfl, rfl, rfl, rfl, rfl, rfl, rfl, trivial⟩, by first | exact cs _ _ | exact CSub.refl _, ?_⟩
        refine ⟨⟨⟨by omega, by omega⟩, ?_, by omega⟩, by omega⟩
        rw [upF_succ _ hi0, ← hzs, if_neg (by rw [← hbz]; simpa using h12), List.append_nil]
  · try simp only [zbA] at h5
    refine tr_exit ?_
    refine tr_seq ?_
    refine tr_region fun _ _ _ => ?_
    iterate 2 refine pu rfl rfl rfl rfl rfl ?_
    have hiw : i = w := by omega
    subst hiw
    have hzs2 : zs = zerL p m2 mod2 (imL p m2 mod2 m (embR p m2 mod2 m mod)) rs (rootI p m2 mod2 i) i := hzs
    subst hzs2
    exact tr_ret ⟨trivial, _, _, rfl, ⟨_, rfl, B, cb, rfl, rfl⟩, cs _ _, trivial, trivial⟩
theorem ref_Over_ent : Enters Tryz.prog 36 := enters_of Tryz.func36 (by kernel_rfl) (by kernel_rfl)
theorem ref_Over (p m : Int) (A : Option Addr) (c : Nat) (mod : List Int) (hm : 1 ≤ m) (p2 m2 : Int) (Ae : Option Addr) (ce : Nat) (mod2 : List Int) (hm2 : 1 ≤ m2) :
    Pure Tryz.prog 36 #[.agg #[.int .i64 p, .int .i64 m, .slice A mod.length c], .agg #[.int .i64 p2, .int .i64 m2, .slice Ae mod2.length ce]] [] (isV (.bool (decide (p = p2) && decide (m2 % m = 0)))) := by
  refine pure_of (args := [.agg #[.int .i64 p, .int .i64 m, .slice A mod.length c], .agg #[.int .i64 p2, .int .i64 m2, .slice Ae mod2.length ce]]) 18 Tryz.func36 rfl rfl rfl ref_Over_ent trivial (fun w0 => ?_)
  refine tr_seq ?_
  refine tr_region fun _ _ _ => ?_
  refine ef rfl rfl (eBox rfl rfl rfl rfl rfl (fun p0 => ?_)) 
  refine ef rfl rfl (eBox rfl rfl rfl rfl rfl (fun p0a => ?_)) 
  refine pu rfl rfl rfl rfl rfl ?_
  refine tr_seq ?_
  refine tr_region fun _ _ _ => ?_
  refine st rfl rfl rfl rfl (rFld rfl rfl) ?_
  refine st rfl rfl rfl rfl (rLdF rfl rfl rfl) ?_
  refine st rfl rfl rfl rfl (rFld rfl rfl) ?_
  refine st rfl rfl rfl rfl (rLdF rfl rfl rfl) ?_
  iterate 2 refine pu rfl rfl rfl rfl rfl ?_
  refine stg rfl rfl rfl rfl rfl (fun hb => by (have hq := hb; try simp only [zbA] at hq); exact rFld rfl rfl) ?_
  refine stg rfl rfl rfl rfl rfl (fun hb => by (have hq := hb; try simp only [zbA] at hq); exact rLdF rfl (evg rfl hb) rfl) ?_
  refine stg rfl rfl rfl rfl rfl (fun hb => by (have hq := hb; try simp only [zbA] at hq); exact rFld rfl rfl) ?_
  refine stg rfl rfl rfl rfl rfl (fun hb => by (have hq := hb; try simp only [zbA] at hq); exact rLdF rfl (evg rfl hb) rfl) ?_
  refine stg rfl rfl rfl rfl rfl (fun hb => by (have hq := hb; try simp only [zbA] at hq); exact rRem rfl (evg rfl hb) (evg rfl hb) (by omega) (by omega)) ?_
  refine stg rfl rfl rfl rfl rfl (fun hb => by (have hq := hb; try simp only [zbA] at hq); exact rEql rfl (evg rfl hb) rfl) ?_
  refine st rfl rfl rfl rfl (rAndB rfl rfl rfl rfl) ?_
  refine pu rfl rfl rfl rfl rfl ?_
  exact tr_ret ⟨trivial, _, _, rfl, ⟨rfl, rfl⟩, CSub.nil _, trivial⟩
theorem ref_ZArgsE_ent : Enters Tryz.prog 10 := enters_of Tryz.func10 (by kernel_rfl) (by kernel_rfl)
theorem ref_ZArgsE (p m : Int) (A : Option Addr) (c : Nat) (mod : List Int) (hl9 : mod.length ≤ 17592186044415) (w : Int) (Aa : Option Addr) (n ca : Nat) (rs : List RowM) (hn : n = rs.length) (h9 : rs.length ≤ 17592186044415) (h8 : ∀ r ∈ rs, r.xs.length ≤ 17592186044415) (he : codC p m mod w rs ≠ 0) (p2 m2 : Int) (Ae : Option Addr) (ce : Nat) (mod2 : List Int) :
    Pure Tryz.prog 10 #[.agg #[.int .i64 p, .int .i64 m, .slice A mod.length c, .int .i64 w, .slice Aa n ca], .agg #[.int .i64 p2, .int .i64 m2, .slice Ae mod2.length ce]] [ro A (ints mod), ro Aa (hdrs rs), rowsR rs, ro Ae (ints mod2)] (isV (.int .i64 (codC p m mod w rs))) := by
  refine pure_of (args := [.agg #[.int .i64 p, .int .i64 m, .slice A mod.length c, .int .i64 w, .slice Aa n ca], .agg #[.int .i64 p2, .int .i64 m2, .slice Ae mod2.length ce]]) 24 Tryz.func10 rfl rfl rfl ref_ZArgsE_ent ⟨id, id, id, id, trivial⟩ (fun w0 => ?_)
  refine tr_seq ?_
  refine tr_region fun _ _ _ => ?_
  refine ef rfl rfl (eBox rfl rfl rfl rfl rfl (fun p0 => ?_)) 
  refine ef rfl rfl (eBox rfl rfl rfl rfl rfl (fun p0a => ?_)) 
  refine pu rfl rfl rfl rfl rfl ?_
  refine tr_seq ?_
  refine tr_region fun _ _ _ => ?_
  refine st rfl rfl rfl rfl (rLdS rfl rfl rfl) ?_
  refine ef rfl rfl (eCallV rfl rfl rfl (ref_CCheck p m A c mod hl9 w Aa n ca rs hn h9 h8) ⟨rfl, trivial⟩ ?_) 
  refine pu rfl rfl rfl rfl rfl ?_
  refine tr_seq ?_
  refine tr_seq ?_
  refine tr_region fun _ _ _ => ?_
  iterate 2 refine pu rfl rfl rfl rfl rfl ?_
  refine tr_cond_bool rfl (fun h2 => ?_) (fun h2 => ?_)
  · try simp only [zbA] at h2
    refine tr_seq ?_
    refine tr_region fun _ _ _ => ?_
    iterate 2 refine pu rfl rfl rfl rfl rfl ?_
    exact tr_ret ⟨trivial, _, _, rfl, ⟨rfl, rfl⟩, CSub.nil _, trivial⟩
  · try simp only [zbA] at h2
    omega --done
theorem ref_ZArgsN_ent : Enters Tryz.prog 10 := enters_of Tryz.func10 (by kernel_rfl) (by kernel_rfl)
theorem ref_ZArgsN (p m : Int) (A : Option Addr) (c : Nat) (mod : List Int) [hF : IsF p m mod] (w : Int) (Aa : Option Addr) (n ca : Nat) (rs : List RowM) (hn : n = rs.length) (h9 : rs.length ≤ 256) (hc : CodeOk p m mod w rs) (p2 m2 : Int) (Ae : Option Addr) (ce : Nat) (mod2 : List Int) (hl92 : mod2.length ≤ 17592186044415) (hE : ¬ FldR p2 m2 mod2) :
    Pure Tryz.prog 10 #[.agg #[.int .i64 p, .int .i64 m, .slice A mod.length c, .int .i64 w, .slice Aa n ca], .agg #[.int .i64 p2, .int .i64 m2, .slice Ae mod2.length ce]] [ro A (ints mod), ro Aa (hdrs rs), rowsR rs, ro Ae (ints mod2)] (isV (.int .i64 1)) := by
  have hl9 := hF.short
  have hn1 := hc.n1
  have hn64 := hc.n64
  have hlen := hc.len
  have hgd := hc.good
  have h8 := hgd.h8 (N := 17592186044415) (by omega)
  have hck := hc.zero
  have hce := chkF_no hE
  refine pure_of (args := [.agg #[.int .i64 p, .int .i64 m, .slice A mod.length c, .int .i64 w, .slice Aa n ca], .agg #[.int .i64 p2, .int .i64 m2, .slice Ae mod2.length ce]]) 24 Tryz.func10 rfl rfl rfl ref_ZArgsN_ent ⟨id, id, id, id, trivial⟩ (fun w0 => ?_)
  refine tr_seq ?_
  refine tr_region fun _ _ _ => ?_
  refine ef rfl rfl (eBox rfl rfl rfl rfl rfl (fun p0 => ?_)) 
  refine ef rfl rfl (eBox rfl rfl rfl rfl rfl (fun p0a => ?_)) 
  refine pu rfl rfl rfl rfl rfl ?_
  refine tr_seq ?_
  refine tr_region fun _ _ _ => ?_
  refine st rfl rfl rfl rfl (rLdS rfl rfl rfl) ?_
  refine ef rfl rfl (eCallV rfl rfl rfl (ref_CCheck _ _ _ _ _ (by omega) w Aa n ca rs hn (by omega) h8) ⟨rfl, trivial⟩ ?_) 
  refine pu rfl rfl rfl rfl rfl ?_
  refine tr_seq ?_
  refine tr_seq ?_
  refine tr_region fun _ _ _ => ?_
  iterate 2 refine pu rfl rfl rfl rfl rfl ?_
  refine tr_cond_bool rfl (fun h2 => ?_) (fun h2 => ?_)
  · try simp only [zbA] at h2
    omega --done
  · try simp only [zbA] at h2
    refine tr_skip ?_
    refine tr_seq ?_
    refine tr_seq ?_
    refine tr_region fun _ _ _ => ?_
    refine st rfl rfl rfl rfl (rLdS rfl rfl rfl) ?_
    refine ef rfl rfl (eCallV rfl rfl rfl (ref_fldCheck p2 m2 Ae ce mod2 hl92) ⟨rfl, trivial⟩ ?_) 
    refine pu rfl rfl rfl rfl rfl ?_
    refine tr_cond_bool rfl (fun h4 => ?_) (fun h4 => ?_)
    · try simp only [zbA] at h4
      refine tr_seq ?_
      refine tr_region fun _ _ _ => ?_
      refine pu rfl rfl rfl rfl rfl ?_
      exact tr_ret ⟨trivial, _, _, rfl, ⟨rfl, rfl⟩, CSub.nil _, trivial⟩
    · try simp only [zbA] at h4
      omega --done
theorem ref_ZArgsM_ent : Enters Tryz.prog 10 := enters_of Tryz.func10 (by kernel_rfl) (by kernel_rfl)
theorem ref_ZArgsM (p m : Int) (A : Option Addr) (c : Nat) (mod : List Int) [hF : IsF p m mod] (w : Int) (Aa : Option Addr) (n ca : Nat) (rs : List RowM) (hn : n = rs.length) (h9 : rs.length ≤ 256) (hc : CodeOk p m mod w rs) (p2 m2 : Int) (Ae : Option Addr) (ce : Nat) (mod2 : List Int) (hl92 : mod2.length ≤ 17592186044415) [hE : IsF p2 m2 mod2] (hne : ¬ (p = p2 ∧ m2 % m = 0)) :
    Pure Tryz.prog 10 #[.agg #[.int .i64 p, .int .i64 m, .slice A mod.length c, .int .i64 w, .slice Aa n ca], .agg #[.int .i64 p2, .int .i64 m2, .slice Ae mod2.length ce]] [ro A (ints mod), ro Aa (hdrs rs), rowsR rs, ro Ae (ints mod2)] (isV (.int .i64 10)) := by
  have hl9 := hF.short
  have hn1 := hc.n1
  have hn64 := hc.n64
  have hlen := hc.len
  have hgd := hc.good
  have h8 := hgd.h8 (N := 17592186044415) (by omega)
  have hck := hc.zero
  have hm1 := hF.m1
  have hce := chkF_ok hE.out
  refine pure_of (args := [.agg #[.int .i64 p, .int .i64 m, .slice A mod.length c, .int .i64 w, .slice Aa n ca], .agg #[.int .i64 p2, .int .i64 m2, .slice Ae mod2.length ce]]) 24 Tryz.func10 rfl rfl rfl ref_ZArgsM_ent ⟨id, id, id, id, trivial⟩ (fun w0 => ?_)
  refine tr_seq ?_
  refine tr_region fun _ _ _ => ?_
  refine ef rfl rfl (eBox rfl rfl rfl rfl rfl (fun p0 => ?_)) 
  refine ef rfl rfl (eBox rfl rfl rfl rfl rfl (fun p0a => ?_)) 
  refine pu rfl rfl rfl rfl rfl ?_
  refine tr_seq ?_
  refine tr_region fun _ _ _ => ?_
  refine st rfl rfl rfl rfl (rLdS rfl rfl rfl) ?_
  refine ef rfl rfl (eCallV rfl rfl rfl (ref_CCheck _ _ _ _ _ (by omega) w Aa n ca rs hn (by omega) h8) ⟨rfl, trivial⟩ ?_) 
  refine pu rfl rfl rfl rfl rfl ?_
  refine tr_seq ?_
  refine tr_seq ?_
  refine tr_region fun _ _ _ => ?_
  iterate 2 refine pu rfl rfl rfl rfl rfl ?_
  refine tr_cond_bool rfl (fun h2 => ?_) (fun h2 => ?_)
  · try simp only [zbA] at h2
    omega --done
  · try simp only [zbA] at h2
    refine tr_skip ?_
    refine tr_seq ?_
    refine tr_seq ?_
    refine tr_region fun _ _ _ => ?_
    refine st rfl rfl rfl rfl (rLdS rfl rfl rfl) ?_
    refine ef rfl rfl (eCallV rfl rfl rfl (ref_fldCheck p2 m2 Ae ce mod2 hl92) ⟨rfl, trivial⟩ ?_) 
    refine pu rfl rfl rfl rfl rfl ?_
    refine tr_cond_bool rfl (fun h4 => ?_) (fun h4 => ?_)
    · try simp only [zbA] at h4
      omega --done
    · try simp only [zbA] at h4
      refine tr_skip ?_
      refine tr_seq ?_
      refine tr_seq ?_
      refine tr_region fun _ _ _ => ?_
      refine st rfl rfl rfl rfl (rFld rfl rfl) ?_
      refine st rfl rfl rfl rfl (rLdSF rfl rfl) ?_
      refine st rfl rfl rfl rfl (rLdS rfl rfl rfl) ?_
      refine ef rfl rfl (eCallV rfl rfl rfl (ref_Over p m A c mod hm1 p2 m2 Ae ce mod2 hE.m1) ⟨rfl, rfl, trivial⟩ ?_) 
      refine st rfl rfl rfl rfl (rNotB rfl rfl) ?_
      refine tr_cond_bool rfl (fun h6 => ?_) (fun h6 => ?_)
      · try simp only [zbA] at h6
        refine tr_seq ?_
        refine tr_region fun _ _ _ => ?_
        refine pu rfl rfl rfl rfl rfl ?_
        exact tr_ret ⟨trivial, _, _, rfl, ⟨rfl, rfl⟩, CSub.nil _, trivial⟩
      · try simp only [zbA] at h6
        exact absurd (by simpa using h6) hne --done
theorem ref_ZArgsG_ent : Enters Tryz.prog 10 := enters_of Tryz.func10 (by kernel_rfl) (by kernel_rfl)
theorem ref_ZArgsG (p m : Int) (A : Option Addr) (c : Nat) (mod : List Int) [hF : IsF p m mod] (w : Int) (Aa : Option Addr) (n ca : Nat) (rs : List RowM) (hn : n = rs.length) (h9 : rs.length ≤ 256) (hc : CodeOk p m mod w rs) (p2 m2 : Int) (Ae : Option Addr) (ce : Nat) (mod2 : List Int) (hl92 : mod2.length ≤ 17592186044415) [hE : IsF p2 m2 mod2] (hpp : p = p2) (hd : m2 % m = 0) :
    Pure Tryz.prog 10 #[.agg #[.int .i64 p, .int .i64 m, .slice A mod.length c, .int .i64 w, .slice Aa n ca], .agg #[.int .i64 p2, .int .i64 m2, .slice Ae mod2.length ce]] [ro A (ints mod), ro Aa (hdrs rs), rowsR rs, ro Ae (ints mod2)] (isV (.int .i64 (if rootI p2 m2 mod2 w = 0 then 11 else 0))) := by
  have hl9 := hF.short
  have hn1 := hc.n1
  have hn64 := hc.n64
  have hlen := hc.len
  have hgd := hc.good
  have h8 := hgd.h8 (N := 17592186044415) (by omega)
  have hck := hc.zero
  have hm1 := hF.m1
  have hce := chkF_ok hE.out
  refine pure_of (args := [.agg #[.int .i64 p, .int .i64 m, .slice A mod.length c, .int .i64 w, .slice Aa n ca], .agg #[.int .i64 p2, .int .i64 m2, .slice Ae mod2.length ce]]) 24 Tryz.func10 rfl rfl rfl ref_ZArgsG_ent ⟨id, id, id, id, trivial⟩ (fun w0 => ?_)
  refine tr_seq ?_
  refine tr_region fun _ _ _ => ?_
  refine ef rfl rfl (eBox rfl rfl rfl rfl rfl (fun p0 => ?_)) 
  refine ef rfl rfl (eBox rfl rfl rfl rfl rfl (fun p0a => ?_)) 
  refine pu rfl rfl rfl rfl rfl ?_
  refine tr_seq ?_
  refine tr_region fun _ _ _ => ?_
  refine st rfl rfl rfl rfl (rLdS rfl rfl rfl) ?_
  refine ef rfl rfl (eCallV rfl rfl rfl (ref_CCheck _ _ _ _ _ (by omega) w Aa n ca rs hn (by omega) h8) ⟨rfl, trivial⟩ ?_) 
  refine pu rfl rfl rfl rfl rfl ?_
  refine tr_seq ?_
  refine tr_seq ?_
  refine tr_region fun _ _ _ => ?_
  iterate 2 refine pu rfl rfl rfl rfl rfl ?_
  refine tr_cond_bool rfl (fun h2 => ?_) (fun h2 => ?_)
  · try simp only [zbA] at h2
    omega --done
  · try simp only [zbA] at h2
    refine tr_skip ?_
    refine tr_seq ?_
    refine tr_seq ?_
    refine tr_region fun _ _ _ => ?_
    refine st rfl rfl rfl rfl (rLdS rfl rfl rfl) ?_
    refine ef rfl rfl (eCallV rfl rfl rfl (ref_fldCheck p2 m2 Ae ce mod2 hl92) ⟨rfl, trivial⟩ ?_) 
    refine pu rfl rfl rfl rfl rfl ?_
    refine tr_cond_bool rfl (fun h4 => ?_) (fun h4 => ?_)
    · try simp only [zbA] at h4
      omega --done
    · try simp only [zbA] at h4
      refine tr_skip ?_
      refine tr_seq ?_
      refine tr_seq ?_
      refine tr_region fun _ _ _ => ?_
      refine st rfl rfl rfl rfl (rFld rfl rfl) ?_
      refine st rfl rfl rfl rfl (rLdSF rfl rfl) ?_
      refine st rfl rfl rfl rfl (rLdS rfl rfl rfl) ?_
      refine ef rfl rfl (eCallV rfl rfl rfl (ref_Over p m A c mod hm1 p2 m2 Ae ce mod2 hE.m1) ⟨rfl, rfl, trivial⟩ ?_) 
      refine st rfl rfl rfl rfl (rNotB rfl rfl) ?_
      refine tr_cond_bool rfl (fun h6 => ?_) (fun h6 => ?_)
      · try simp only [zbA] at h6
        exact absurd h6 (by simp [hpp, hd]) --done
      · try simp only [zbA] at h6
        refine tr_skip ?_
        refine tr_seq ?_
        refine tr_seq ?_
        refine tr_region fun _ _ _ => ?_
        refine st rfl rfl rfl rfl (rLdS rfl rfl rfl) ?_
        refine st rfl rfl rfl rfl (rFld rfl rfl) ?_
        refine st rfl rfl rfl rfl (rLdF rfl rfl rfl) ?_
        refine ef rfl rfl (eCallV rfl rfl rfl (ref_Root p2 m2 Ae ce mod2 hE.out w) ⟨rfl, rfl, trivial⟩ ?_) 
        refine pu rfl rfl rfl rfl rfl ?_
        refine tr_cond_bool rfl (fun h8 => ?_) (fun h8 => ?_)
        · try simp only [zbA] at h8
          refine tr_seq ?_
          refine tr_region fun _ _ _ => ?_
          refine pu rfl rfl rfl rfl rfl ?_
          exact tr_ret ⟨trivial, _, _, rfl, ⟨by rw [if_pos (by omega)], rfl⟩, CSub.nil _, trivial⟩
        · try simp only [zbA] at h8
          refine tr_skip ?_
          refine tr_seq ?_
          refine tr_region fun _ _ _ => ?_
          refine pu rfl rfl rfl rfl rfl ?_
          exact tr_ret ⟨trivial, _, _, rfl, ⟨by rw [if_neg (by omega)], rfl⟩, CSub.nil _, trivial⟩
end Go.Proofs.YtgnmcoegdogfgaaGreat

set_option linter.unusedSimpArgs false
set_option linter.unusedVariables false
set_option maxRecDepth 100000
namespace Go.Proofs.YtgnmcoegdogfgaaGreat
open Go.RowKit
section
variable {p m : Int} {mod : List Int} [hF : IsF p m mod]
end
end Go.Proofs.YtgnmcoegdogfgaaGreat

set_option linter.unusedSimpArgs false
set_option linter.unusedVariables false
namespace Go.Proofs.YtgnmcoegdogfgaaGreat
open Go.RowKit
theorem pw_one (p : Int) : pw p 1 = p := by
  have h3 := pw_succ p (k := 0) (by omega)
  rw [pw_zero, Int.zero_add, Int.one_mul] at h3
  exact h3
section
variable {p m : Int} {mod : List Int} [hF : IsF p m mod]
end
section
variable {K : Type} [Fd K]
end
section
variable {p m : Int} {mod : List Int} [hF : IsF p m mod]
end
structure Hm {K L : Type} [Fd K] [Fd L] (φ : K → L) : Prop where
  add : ∀ x y, φ (x + y) = φ x + φ y
  mul : ∀ x y, φ (x * y) = φ x * φ y
  one : φ 1 = 1
section
variable {K L : Type} [Fd K] [Fd L] {φ : K → L}
theorem Hm.zero (h : Hm φ) : φ 0 = 0 := by
  have h1 := h.add 0 0
  rw [Rg.add_zero] at h1
  have h2 : φ 0 + 0 = φ 0 + φ 0 := by rw [Rg.add_zero]; exact h1
  exact (Rg.add_left_cancel h2).symm
theorem Hm.neg (h : Hm φ) (x : K) : φ (-x) = -φ x := by
  have h1 := h.add (-x) x
  rw [Rg.neg_add, h.zero] at h1
  grind
theorem Hm.sub (h : Hm φ) (x y : K) : φ (x - y) = φ x - φ y := by
  have e : x - y = x + -y := rfl
  rw [e, h.add, h.neg]; rfl
theorem Hm.ne (h : Hm φ) {x : K} (hx : x ≠ 0) : φ x ≠ 0 := fun e => by
  have h1 := h.mul x (Fd.inv x)
  rw [Fd.mul_inv x hx, h.one, e, Rg.zero_mul] at h1
  exact Fd.one_ne (K := L) h1
theorem Hm.inj (h : Hm φ) {x y : K} (e : φ x = φ y) : x = y := Classical.byContradiction fun hn => by
  have h1 : x - y ≠ 0 := fun e => hn (Rg.eq_of_sub e)
  exact h.ne h1 (by rw [h.sub, e, Rg.sub_self])
theorem Hm.pow (h : Hm φ) (x : K) : ∀ n, φ (Rg.pow x n) = Rg.pow (φ x) n
  | 0 => h.one
  | n + 1 => by rw [Rg.pow_succ, Rg.pow_succ, h.mul, h.pow x n]
theorem Hm.sm (h : Hm φ) (f : Nat → K) : ∀ n, φ (Rg.sm n f) = Rg.sm n fun i => φ (f i)
  | 0 => h.zero
  | n + 1 => by rw [Rg.sm_succ, Rg.sm_succ, h.add, h.sm f n]
noncomputable def mapP (φ : K → L) (h : Hm φ) (f : Po K) : Po L := ⟨fun j => φ (Po.cf f j), Po.len f, fun j hj => by show φ (Po.cf f j) = 0; rw [Po.cf_ge hj, h.zero]⟩
theorem cf_mapP (h : Hm φ) (f : Po K) (j : Nat) : Po.cf (mapP φ h f) j = φ (Po.cf f j) := rfl
theorem mapP_add (h : Hm φ) (f g : Po K) : mapP φ h (f + g) = mapP φ h f + mapP φ h g := Po.ext fun j => by rw [Po.cf_add, cf_mapP, cf_mapP, cf_mapP, Po.cf_add, h.add]
theorem mapP_mul (h : Hm φ) (f g : Po K) : mapP φ h (f * g) = mapP φ h f * mapP φ h g := Po.ext fun j => by
  rw [cf_mapP, Po.cf_mul, Po.cf_mul, h.sm]
  exact Rg.sm_congr fun i _ => by rw [h.mul, cf_mapP, cf_mapP]
theorem mapP_zero (h : Hm φ) : mapP φ h 0 = 0 := Po.ext fun j => h.zero
end
section
variable {p m m2 : Int} {mod mod2 : List Int} [hF : IsF p m mod] [hE : IsF p m2 mod2]
def RtP (p m : Int) (mod : List Int) (m2 : Int) (mod2 : List Int) [hE : IsF p m2 mod2] (a : El p m2 mod2) : Prop := Po.val (zp (m.toNat + 1) (fF m.toNat (rl mod)) : Po (El p m2 mod2)) a = 0
omit hF in
theorem zp_add (n : Nat) (u v : Row) : (zp n (u.add v) : Po (El p m2 mod2)) = zp n u + zp n v := Po.ext fun j => by
  rw [Po.cf_add, cf_zp, cf_zp, cf_zp]
  split
  · exact zi_add _ _
  · rw [Rg.zero_add]
omit hF in
theorem zp_sm (n : Nat) (c : Int) (u : Row) : (zp n (Row.sm c u) : Po (El p m2 mod2)) = Po.C (zi c) * zp n u := Po.ext fun j => by
  rw [Po.cf_C_mul, cf_zp, cf_zp]
  split
  · exact zi_mul _ _
  · rw [Rg.mul_zero]
omit hF in
theorem zp_succ (n : Nat) (Q : Row) : (zp (n + 1) Q : Po (El p m2 mod2)) = zp n Q + Po.mn (zi (Q n)) n := Po.ext fun j => by
  rw [Po.cf_add, cf_zp, cf_zp, Po.cf_mn]
  by_cases h2 : j = n
  · rw [if_pos (by omega), if_neg (by omega), if_pos h2, h2, Rg.zero_add]
  · rw [if_neg h2, Rg.add_zero]
    by_cases h3 : j < n
    · rw [if_pos (by omega), if_pos h3]
    · rw [if_neg (by omega), if_neg h3]
omit hF in
theorem ev_tm {M : Nat} (hM : 1 ≤ M) {low : Row} {a : El p m2 mod2} (ha : Po.val (zp (M + 1) (fF M low) : Po (El p m2 mod2)) a = 0) (u : Row) : Po.val (zp M (tm M low u) : Po (El p m2 mod2)) a = a * Po.val (zp M u : Po (El p m2 mod2)) a := by
  have e : (zp M (tm M low u) : Po (El p m2 mod2)) + Po.C (zi (u (M - 1))) * zp (M + 1) (fF M low) = Po.mn 1 1 * zp M u := Po.ext fun j => by
    rw [Po.cf_add, Po.cf_C_mul, Po.cf_mn_mul, cf_zp, cf_zp, cf_zp, Rg.one_mul]
    unfold fF tm sh
    by_cases h0 : j < M
    · simp only [if_pos h0, if_pos (show j < M + 1 by omega)]
      have e1 : ∀ x y : Int, (zi (x - y) : El p m2 mod2) + zi y = zi x := fun x y => by rw [← zi_add]; congr 1; omega
      rw [← zi_mul, e1]
      by_cases h1 : j = 0
      · simp only [if_pos h1, if_pos (show j < 1 by omega), zi_zero]
      · simp only [if_neg h1, if_neg (show ¬ j < 1 by omega), if_pos (show j - 1 < M by omega)]
    · by_cases h1 : j = M
      · simp only [if_neg h0, if_pos (show j < M + 1 by omega), if_pos h1, if_neg (show ¬ j < 1 by omega), if_pos (show j - 1 < M by omega)]
        rw [zi_one, Rg.mul_one, Rg.zero_add, h1]
      · simp only [if_neg h0, if_neg (show ¬ j < M + 1 by omega), if_neg (show ¬ j < 1 by omega), if_neg (show ¬ j - 1 < M by omega)]
        rw [Rg.mul_zero, Rg.zero_add]
  have h1 := congrArg (fun f => Po.val f a) e
  simp only [Po.val_add, Po.val_mul, Po.val_mn, Po.val_C] at h1
  rw [ha, Rg.mul_zero, Rg.add_zero, Rg.pow_one, Rg.one_mul] at h1
  exact h1
omit hF in
theorem ev_pl {M : Nat} (hM : 1 ≤ M) {low : Row} {a : El p m2 mod2} (ha : Po.val (zp (M + 1) (fF M low) : Po (El p m2 mod2)) a = 0) (Q u : Row) : ∀ n, Po.val (zp M (pl (tm M low) n Q u) : Po (El p m2 mod2)) a = Po.val (zp n Q : Po (El p m2 mod2)) a * Po.val (zp M u : Po (El p m2 mod2)) a := by
  have hit : ∀ n, Po.val (zp M (it (tm M low) n u) : Po (El p m2 mod2)) a = Rg.pow a n * Po.val (zp M u : Po (El p m2 mod2)) a := by
    intro n
    induction n with
    | zero => rw [Rg.pow_zero, Rg.one_mul]; rfl
    | succ n ih =>
      show Po.val (zp M (tm M low (it (tm M low) n u)) : Po (El p m2 mod2)) a = _
      rw [ev_tm hM ha, ih, Rg.pow_succ]; grind
  intro n
  induction n with
  | zero =>
    have e1 : (zp M (pl (tm M low) 0 Q u) : Po (El p m2 mod2)) = 0 := Po.ext fun j => by
      rw [cf_zp]
      have : pl (tm M low) 0 Q u j = 0 := rfl
      rw [this, zi_zero]; split <;> rfl
    have e2 : (zp 0 Q : Po (El p m2 mod2)) = 0 := Po.ext fun j => by rw [cf_zp, if_neg (by omega)]; rfl
    rw [e1, e2, Po.val_zero, Rg.zero_mul]
  | succ n ih =>
    have e : pl (tm M low) (n + 1) Q u = (pl (tm M low) n Q u).add (Row.sm (Q n) (it (tm M low) n u)) := rfl
    rw [e, zp_add, zp_sm, Po.val_add, Po.val_mul, Po.val_C, ih, hit, zp_succ, Po.val_add, Po.val_mn, Rg.add_mul, Rg.mul_assoc]
noncomputable def embF (p m : Int) (mod : List Int) (m2 : Int) (mod2 : List Int) [hF : IsF p m mod] [hE : IsF p m2 mod2] (a : El p m2 mod2) (x : El p m mod) : El p m2 mod2 := Po.val (zp m.toNat (dg p m.toNat x.1) : Po (El p m2 mod2)) a
theorem embF_hm {a : El p m2 mod2} (ha : RtP p m mod m2 mod2 a) : Hm (embF p m mod m2 mod2 a) := by
  have hp := hF.p2
  have hm := hF.m1
  have hs := hF.out.1.1
  refine ⟨fun x y => ?_, fun x y => ?_, ?_⟩
  · unfold embF
    rw [add_val, zp_cg _ (addI_cg hp _ _), zp_add, Po.val_add]
  · unfold embF
    rw [mul_val, zp_cg _ (mulI_cg hs _ _)]
    show Po.val (zp m.toNat (pl (tm m.toNat (rl mod)) m.toNat (dg p m.toNat y.1) (dg p m.toNat x.1)) : Po (El p m2 mod2)) a = _
    rw [ev_pl (by omega) ha, Rg.mul_comm]
  · unfold embF
    rw [one_val, dg_one hp (by omega)]
    have e : (zp m.toNat (ee 0) : Po (El p m2 mod2)) = 1 := Po.ext fun j => by
      rw [cf_zp, Po.cf_one]
      unfold ee
      by_cases h : j = 0
      · rw [if_pos (by omega), if_pos h, if_pos h, zi_one]
      · rw [if_neg h, if_neg h, zi_zero]; split <;> rfl
    rw [e, Po.val_one]
end
end Go.Proofs.YtgnmcoegdogfgaaGreat

set_option linter.unusedSimpArgs false
set_option linter.unusedVariables false
namespace Go.Proofs.YtgnmcoegdogfgaaGreat
open Go.RowKit
section
variable {K : Type} [Fd K]
structure AOrd (a : K) (n : Nat) : Prop where
  pos : 1 ≤ n
  one : Rg.pow a n = 1
  least : ∀ s, 1 ≤ s → s < n → Rg.pow a s ≠ 1
theorem AOrd.ne {a : K} {n : Nat} (h : AOrd a n) : a ≠ 0 := fun e => by
  have h1 := h.one
  rw [e, Rg.zero_pow h.pos] at h1
  exact Fd.one_ne (K := K) h1.symm
theorem pow_ne' {a : K} (h : a ≠ 0) : ∀ n, Rg.pow a n ≠ 0
  | 0 => Fd.one_ne
  | n + 1 => by rw [Rg.pow_succ]; exact Fd.mul_ne (pow_ne' h n) h
theorem AOrd.mod {a : K} {n : Nat} (h : AOrd a n) (k : Nat) : Rg.pow a (k % n) = Rg.pow a k := by
  have h1 := Nat.div_add_mod k n
  have e : Rg.pow a k = Rg.pow a (n * (k / n) + k % n) := by rw [h1]
  rw [e, Rg.pow_add, Rg.pow_mul, h.one, Rg.one_pow, Rg.one_mul]
theorem AOrd.inj {a : K} {n : Nat} (h : AOrd a n) {i j : Nat} (hi : i < n) (hj : j < n) (e : Rg.pow a i = Rg.pow a j) : i = j := by
  have key : ∀ i j : Nat, i < j → j < n → Rg.pow a i ≠ Rg.pow a j := fun i j hij hj e => by
    have e2 : Rg.pow a j = Rg.pow a i * Rg.pow a (j - i) := by rw [← Rg.pow_add]; congr 1; omega
    rw [e2] at e
    have h1 : Rg.pow a i * 1 = Rg.pow a i * Rg.pow a (j - i) := by rw [Rg.mul_one]; exact e
    exact h.least (j - i) (by omega) (by omega) (Fd.mul_left_cancel (pow_ne' h.ne i) h1).symm
  rcases Nat.lt_trichotomy i j with h1 | h1 | h1
  · exact absurd e (key i j h1 hj)
  · exact h1
  · exact absurd e.symm (key j i h1 hi)
end
section
variable {K L : Type} [Fd K] [Fd L] {φ : K → L}
end
section
variable {p m m2 : Int} {mod mod2 : List Int} [hF : IsF p m mod] [hE : IsF p m2 mod2]
omit hF in
end
end Go.Proofs.YtgnmcoegdogfgaaGreat

set_option linter.unusedSimpArgs false
set_option linter.unusedVariables false
namespace Go.Proofs.YtgnmcoegdogfgaaGreat
open Go.RowKit
section
variable {p m m2 : Int} {mod mod2 : List Int} [hF : IsF p m mod] [hE : IsF p m2 mod2]
theorem zp_mod (hm : 2 ≤ m) : (zp (m.toNat + 1) (fF m.toNat (rl mod)) : Po (El p m2 mod2)) = pol (mod ++ [1]) := by
  have hp := hF.p2
  have hs := hF.out.1.1
  have hml : mod.length = m.toNat := by
    rcases hs.low with h | h
    · omega
    · omega
  have e : fF m.toNat (rl mod) = rl (mod ++ [1]) := by rw [← hml]; exact fF_rl.symm
  rw [e]
  refine Po.ext fun j => ?_
  rw [cf_zp, cf_pol]
  by_cases hj : j < m.toNat + 1
  · rw [if_pos hj]
    have hb : 0 ≤ (mod ++ [1]).getD j 0 ∧ (mod ++ [1]).getD j 0 < p := by
      have hin : AllIn p (mod ++ [1]) := fun z hz => by
        rcases List.mem_append.1 hz with h | h
        · exact hs.ent z h
        · rw [List.mem_singleton.1 h]; omega
      exact hin.get (by omega) j
    exact zi_el hb.1 hb.2
  · rw [if_neg hj, getD_out (by rw [List.length_append]; simp; omega), el_zero]
theorem embR_rt (hd : m2 % m = 0) : RtP p m mod m2 mod2 (el (embR p m2 mod2 m mod)) := by
  have hm1 := hF.m1
  unfold RtP
  by_cases hm : m = 1
  · have hrt : IsRt p m2 mod2 m mod 0 := ⟨by omega, by have := hE.q2; omega, fun _ => rfl, fun h => by omega, fun h => by omega⟩
    have hmod : mod = [] := by
      rcases hF.out.1.1.low with h | h
      · exact h.2
      · omega
    rw [hrt.eq hm1, el_zero]
    have e : (zp (m.toNat + 1) (fF m.toNat (rl mod)) : Po (El p m2 mod2)) = Po.mn 1 1 := Po.ext fun j => by
      rw [cf_zp, Po.cf_mn, hmod]
      have h1 : m.toNat = 1 := by omega
      rw [h1]
      unfold fF
      by_cases h0 : j = 0
      · subst h0
        rw [if_pos (by omega), if_pos (by omega), if_neg (by omega)]; exact zi_zero
      · by_cases h2 : j = 1
        · rw [if_pos (by omega), if_neg (by omega), if_pos h2, if_pos h2, zi_one]
        · rw [if_neg (by omega), if_neg h2]
    rw [e, Po.val_mn, Rg.pow_one, Rg.mul_zero]
  · obtain ⟨_, h⟩ := rt_of_head (p := p) (m := m) (mod := mod) (m2 := m2) (mod2 := mod2) (by omega) hd rfl
    rw [zp_mod (by omega), h.eq hm1]
    exact h.root (by omega)
noncomputable def phi (p m : Int) (mod : List Int) (m2 : Int) (mod2 : List Int) [hF : IsF p m mod] [hE : IsF p m2 mod2] : El p m mod → El p m2 mod2 := embF p m mod m2 mod2 (el (embR p m2 mod2 m mod))
theorem phi_hm (hd : m2 % m = 0) : Hm (phi p m mod m2 mod2) := embF_hm (embR_rt hd)
theorem imL_phi (x : El p m mod) : (imL p m2 mod2 m (embR p m2 mod2 m mod)).getD x.1.toNat 0 = (phi p m mod m2 mod2 x).1 := by
  have hp := hF.p2
  have hxb := x.2
  rw [imL_get _ _ (by omega), Int.toNat_of_nonneg hxb.1]
  unfold phi embF
  congr 2
  refine Po.ext fun j => ?_
  rw [cf_zp, cf_pol]
  have hdl := digs_len p m.toNat x.1
  by_cases hj : j < m.toNat
  · rw [if_pos hj]
    have hb := (digs_in (p := p) (by omega) m.toNat x.1).get (by omega) j
    exact (zi_el hb.1 hb.2).symm
  · rw [if_neg hj, getD_out (by omega), el_zero]
omit hF in
theorem root_ord {n : Int} (hn : 1 ≤ n) (h : rootI p m2 mod2 n ≠ 0) : AOrd (el (rootI p m2 mod2 n) : El p m2 mod2) n.toNat := by
  have hr : RootI p m2 mod2 n (rootI p m2 mod2 n) := by
    by_cases hx : ∃ r, RootI p m2 mod2 n r
    · obtain ⟨r, hr⟩ := hx
      rw [hr.eq]; exact hr
    · unfold rootI at h
      rw [dif_neg hx] at h
      exact absurd rfl h
  rcases hr with ⟨h1, _⟩ | ⟨h1, h2, h3, _⟩
  · exact absurd h1 h
  · obtain ⟨t, ht, _⟩ := ord_ex hE.out (y := rootI p m2 mod2 n) ⟨by omega, h2⟩
    have h4 := ht.eq
    have h5 : t = n.toNat := by omega
    subst h5
    have hpw : ∀ s, (Rg.pow (el (rootI p m2 mod2 n) : El p m2 mod2) s).1 = pwI p m2 mod2 (rootI p m2 mod2 n) s := fun s => by
      have h6 := pow_val hE.out (el (rootI p m2 mod2 n)) s
      rw [Fd.pow_eq, el_in ⟨by omega, h2⟩] at h6
      exact h6
    refine ⟨ht.pos, El.ext (by rw [hpw, ht.one]; rfl), fun s h6 h7 e => ht.least s h6 h7 ?_⟩
    rw [← hpw, e]; rfl
omit hF in
omit hF in
omit hF in
end
end Go.Proofs.YtgnmcoegdogfgaaGreat

set_option linter.unusedSimpArgs false
set_option linter.unusedVariables false
namespace Go.Proofs.YtgnmcoegdogfgaaGreat
open Go.RowKit
section
variable {p m m2 : Int} {mod mod2 : List Int} [hF : IsF p m mod] [hE : IsF p m2 mod2]
theorem map_phi (hd : m2 % m = 0) {xs : List Int} (hx : AllIn (pw p m) xs) : (pol (xs.map fun y : Int => (imL p m2 mod2 m (embR p m2 mod2 m mod)).getD y.toNat 0) : Po (El p m2 mod2)) = mapP (phi p m mod m2 mod2) (phi_hm hd) (pol xs) := Po.ext fun j => by
  rw [cf_mapP, cf_pol, cf_pol]
  by_cases hj : j < xs.length
  · have hb := hx.get (by have := hF.q2; omega) j
    have h1 := imL_phi (mod := mod) (m2 := m2) (mod2 := mod2) (el (xs.getD j 0) : El p m mod)
    rw [el_in hb] at h1
    rw [List.getD_eq_getElem?_getD, List.getElem?_map, List.getElem?_eq_getElem hj]
    have hxe : xs.getD j 0 = xs[j] := by rw [List.getD_eq_getElem?_getD, List.getElem?_eq_getElem hj]; rfl
    have h2 : (imL p m2 mod2 m (embR p m2 mod2 m mod)).getD (xs[j]).toNat 0 = (phi p m mod m2 mod2 (el (xs.getD j 0))).1 := by
      rw [← hxe]; exact h1
    show (el ((imL p m2 mod2 m (embR p m2 mod2 m mod)).getD (xs[j]).toNat 0) : El p m2 mod2) = _
    rw [h2, el_of]
  · rw [getD_out (by rw [List.length_map]; omega), getD_out (l := xs) (by omega), el_zero, el_zero, (phi_hm hd).zero]
end
end Go.Proofs.YtgnmcoegdogfgaaGreat

set_option linter.unusedSimpArgs false
set_option linter.unusedVariables false
set_option maxRecDepth 100000
namespace Go.Proofs.YtgnmcoegdogfgaaGreat
open Go.RowKit
section
variable {p m : Int} {mod : List Int} [hF : IsF p m mod]
end
end Go.Proofs.YtgnmcoegdogfgaaGreat

set_option linter.unusedSimpArgs false
set_option linter.unusedVariables false
set_option maxRecDepth 100000
namespace Go.Proofs.YtgnmcoegdogfgaaGreat
open Go.RowKit
end Go.Proofs.YtgnmcoegdogfgaaGreat

set_option linter.unusedSimpArgs false
set_option linter.unusedVariables false
namespace Go.Proofs.YtgnmcoegdogfgaaGreat
open Go.RowKit
section
variable {K : Type} [Fd K]
theorem ht_core (n : Nat) (Y U : Nat → K) {p0 : Nat} (hp0 : p0 < n) : ∀ (A B : List Nat) (d : Nat → K), (∀ i, i ≤ A.length → ∀ j, j ≤ B.length → Rg.sm n (fun p => d p * (Rg.pow (Y p) i * Rg.pow (U p) j)) = 0) →
    (∀ p, p < n → p ≠ p0 → d p ≠ 0 → p ∈ A ∨ p ∈ B) → (∀ q ∈ A, Y q ≠ Y p0) → (∀ q ∈ B, U q ≠ U p0) → d p0 = 0
  | [], [], d, hW, hs, _, _ => by
    have h := hW 0 (by simp) 0 (by simp)
    rw [Rg.sm_one hp0 (fun i hi hne => by
      rw [Rg.pow_zero, Rg.pow_zero, Rg.mul_one, Rg.mul_one]
      exact Classical.byContradiction fun hd => by rcases hs i hi hne hd with h | h <;> cases h)] at h
    rwa [Rg.pow_zero, Rg.pow_zero, Rg.mul_one, Rg.mul_one] at h
  | [], q :: B, d, hW, hs, hA, hB => by
    have ih := ht_core n Y U hp0 [] B (fun p => d p * (U p - U q)) (fun i hi j hj => by
      have h1 := hW i hi (j + 1) (by simp; omega)
      have h2 := hW i hi j (by simp; omega)
      rw [Rg.sm_congr (g := fun p => d p * (Rg.pow (Y p) i * Rg.pow (U p) (j + 1)) + -(U q * (d p * (Rg.pow (Y p) i * Rg.pow (U p) j)))) fun p _ => by rw [Rg.pow_succ]; grind]
      rw [Rg.sm_add, Rg.sm_neg, Rg.sm_mul, h1, h2, Rg.mul_zero, Rg.neg_zero, Rg.zero_add])
      (fun p hp hne hd => by
        have hd0 : d p ≠ 0 := fun e => hd (by show d p * _ = 0; rw [e, Rg.zero_mul])
        rcases hs p hp hne hd0 with h | h
        · cases h
        · rcases List.mem_cons.1 h with rfl | h
          · exact absurd (show d p * (U p - U p) = 0 by rw [Rg.sub_self, Rg.mul_zero]) hd
          · exact .inr h) hA (fun r hr => hB r (List.mem_cons_of_mem _ hr))
    rcases Fd.mul_eq_zero ih with h | h
    · exact h
    · exact absurd (Rg.eq_of_sub h).symm (hB q (List.mem_cons_self ..))
  | q :: A, B, d, hW, hs, hA, hB => by
    have ih := ht_core n Y U hp0 A B (fun p => d p * (Y p - Y q)) (fun i hi j hj => by
      have h1 := hW (i + 1) (by simp; omega) j hj
      have h2 := hW i (by simp; omega) j hj
      rw [Rg.sm_congr (g := fun p => d p * (Rg.pow (Y p) (i + 1) * Rg.pow (U p) j) + -(Y q * (d p * (Rg.pow (Y p) i * Rg.pow (U p) j)))) fun p _ => by rw [Rg.pow_succ]; grind]
      rw [Rg.sm_add, Rg.sm_neg, Rg.sm_mul, h1, h2, Rg.mul_zero, Rg.neg_zero, Rg.zero_add])
      (fun p hp hne hd => by
        have hd0 : d p ≠ 0 := fun e => hd (by show d p * _ = 0; rw [e, Rg.zero_mul])
        rcases hs p hp hne hd0 with h | h
        · rcases List.mem_cons.1 h with rfl | h
          · exact absurd (show d p * (Y p - Y p) = 0 by rw [Rg.sub_self, Rg.mul_zero]) hd
          · exact .inl h
        · exact .inr h) (fun r hr => hA r (List.mem_cons_of_mem _ hr)) hB
    rcases Fd.mul_eq_zero ih with h | h
    · exact h
    · exact absurd (Rg.eq_of_sub h).symm (hA q (List.mem_cons_self ..))
theorem AOrd.pow_eq {a : K} {n : Nat} (h : AOrd a n) {i j : Nat} (e : Rg.pow a i = Rg.pow a j) : i % n = j % n := by
  have hn := h.pos
  rw [← h.mod i, ← h.mod j] at e
  exact h.inj (Nat.mod_lt _ hn) (Nat.mod_lt _ hn) e
theorem mod_dvd {n u v : Nat} (h : u % n = v % n) (hl : v ≤ u) : n ∣ u - v := Nat.dvd_of_mod_eq_zero (Nat.sub_mod_eq_zero_of_mod_eq h)
theorem mul_inj_nat {n t p q : Nat} (hg : Nat.gcd t n = 1) (hp : p < n) (hq : q < n) (h : t * p % n = t * q % n) : p = q := by
  have key : ∀ p q : Nat, p < n → q ≤ p → t * p % n = t * q % n → p = q := fun p q hp hl h => by
    have h1 := mod_dvd h (Nat.mul_le_mul_left _ hl)
    rw [← Nat.mul_sub] at h1
    have h2 : n ∣ p - q := Nat.Coprime.dvd_of_dvd_mul_left (Nat.coprime_comm.1 hg) h1
    have h3 : p - q = 0 := Nat.eq_zero_of_dvd_of_lt h2 (by omega)
    omega
  rcases Nat.le_total q p with hl | hl
  · exact key p q hp hl h
  · exact (key q p hq hl h.symm).symm
theorem cls_mod {n x p q : Nat} (hn : 1 ≤ n) (h : x * p % n = x * q % n) : p % (n / Nat.gcd x n) = q % (n / Nat.gcd x n) := by
  have hg : 0 < Nat.gcd x n := Nat.gcd_pos_of_pos_right _ hn
  have hc := Nat.coprime_div_gcd_div_gcd (m := x) (n := n) hg
  obtain ⟨x1, hx1⟩ := Nat.gcd_dvd_left x n
  obtain ⟨M, hM⟩ := Nat.gcd_dvd_right x n
  have e1 : n / Nat.gcd x n = M := Nat.div_eq_of_eq_mul_right hg hM
  have e2 : x / Nat.gcd x n = x1 := Nat.div_eq_of_eq_mul_right hg hx1
  rw [e1, e2] at hc
  rw [e1]
  have key : ∀ p q : Nat, q ≤ p → x * p % n = x * q % n → p % M = q % M := fun p q hl h => by
    have h1 := mod_dvd h (Nat.mul_le_mul_left _ hl)
    rw [← Nat.mul_sub] at h1
    obtain ⟨k, hk⟩ := h1
    have h2 : Nat.gcd x n * (x1 * (p - q)) = Nat.gcd x n * (M * k) := by
      rw [← Nat.mul_assoc, ← hx1, ← Nat.mul_assoc, ← hM, hk]
    have h3 := Nat.eq_of_mul_eq_mul_left hg h2
    have h4 : M ∣ p - q := Nat.Coprime.dvd_of_dvd_mul_left (Nat.coprime_comm.1 hc) ⟨k, h3⟩
    obtain ⟨r, hr⟩ := h4
    rw [show p = q + M * r by omega, Nat.add_mul_mod_self_left]
  rcases Nat.le_total q p with hl | hl
  · exact key p q hl h
  · exact (key q p hl h.symm).symm
theorem cls_count {n x p0 : Nat} (hn : 1 ≤ n) (L : List Nat) (hd : L.Nodup) (h : ∀ p ∈ L, p < n ∧ x * p % n = x * p0 % n) : L.length ≤ Nat.gcd x n := by
  have hg : 0 < Nat.gcd x n := Nat.gcd_pos_of_pos_right _ hn
  have hM : n / Nat.gcd x n * Nat.gcd x n = n := Nat.div_mul_cancel (Nat.gcd_dvd_right x n)
  have hM0 : 0 < n / Nat.gcd x n := Nat.div_pos (Nat.gcd_le_right _ hn) hg
  have := nodup_len (Nat.gcd x n) (L.map fun p => ((p / (n / Nat.gcd x n) : Nat) : Int) + 1) ?_ ?_
  · simpa using this
  · rw [List.Nodup, List.pairwise_map]
    refine List.Pairwise.imp_of_mem ?_ hd
    intro u v hu hv hne e
    have h1 := cls_mod hn ((h u hu).2.trans (h v hv).2.symm)
    have h2 : u / (n / Nat.gcd x n) = v / (n / Nat.gcd x n) := by omega
    have h3 := Nat.div_add_mod u (n / Nat.gcd x n)
    have h4 := Nat.div_add_mod v (n / Nat.gcd x n)
    rw [h1, h2] at h3
    exact hne (h3.symm.trans h4)
  · intro y hy
    obtain ⟨p, hp, rfl⟩ := List.mem_map.1 hy
    have h1 : p / (n / Nat.gcd x n) < Nat.gcd x n := by
      rw [Nat.div_lt_iff_lt_mul hM0, Nat.mul_comm, hM]; exact (h p hp).1
    generalize p / (n / Nat.gcd x n) = e at h1 ⊢
    omega
theorem split_len {α : Type} (q : α → Bool) : ∀ l : List α, (l.filter q).length + (l.filter fun a => !q a).length = l.length
  | [] => rfl
  | a :: l => by
    have := split_len q l
    cases h : q a <;> simp [h] <;> omega
theorem ht_bound {a : K} {n : Nat} (ha : AOrd a n) (w : Nat → K) (s t x c m : Nat) (ht : Nat.gcd t n = 1) (hx : m = 0 ∨ Nat.gcd x n ≤ c) (hc : 1 ≤ c)
    (hz : ∀ i, i < c → ∀ j, j ≤ m → Rg.sm n (fun p => w p * Rg.pow (Rg.pow a (s + i * t + j * x)) p) = 0) (T : List Nat) (hT : T.Nodup) (hTm : ∀ p, p ∈ T ↔ p < n ∧ w p ≠ 0) : T = [] ∨ c + 1 + m ≤ T.length := by
  have hn := ha.pos
  match T, hT, hTm with
  | [], _, _ => exact .inl rfl
  | p0 :: S, hT, hTm =>
    refine .inr (Nat.le_of_not_lt fun hlt => ?_)
    obtain ⟨hp0n, hp0w⟩ := (hTm p0).1 (List.mem_cons_self ..)
    have hnd := List.nodup_cons.1 hT
    let U : Nat → K := fun p => Rg.pow a (x * p)
    let Y : Nat → K := fun p => Rg.pow a (t * p)
    let q : Nat → Bool := fun p => decide (x * p % n = x * p0 % n)
    have hS1 : (S.filter q).length + 1 ≤ Nat.gcd x n := by
      have := cls_count (x := x) (p0 := p0) hn (p0 :: S.filter q) (List.nodup_cons.2 ⟨fun h => hnd.1 (List.mem_filter.1 h).1, hnd.2.filter _⟩) (fun p hp => by
        rcases List.mem_cons.1 hp with rfl | hp
        · exact ⟨hp0n, rfl⟩
        · obtain ⟨h1, h2⟩ := List.mem_filter.1 hp
          exact ⟨((hTm p).1 (List.mem_cons_of_mem _ h1)).1, by simpa [q] using h2⟩)
      simpa using this
    have hsl := split_len q S
    have hlen : S.length ≤ c - 1 + m := by simp at hlt; omega
    have hmem : ∀ p, p ∈ S ↔ p ∈ (S.filter q ++ S.filter fun p => !q p) := fun p => by
      rw [List.mem_append, List.mem_filter, List.mem_filter]
      cases h : q p <;> simp [h]
    have h0 := ht_core n Y U hp0n ((S.filter q ++ S.filter fun p => !q p).take (c - 1)) ((S.filter q ++ S.filter fun p => !q p).drop (c - 1)) (fun p => w p * Rg.pow a (s * p)) ?_ ?_ ?_ ?_
    · exact Fd.mul_ne hp0w (pow_ne' ha.ne _) h0
    · intro i hi j hj
      have h1 := hz i (by rw [List.length_take] at hi; omega) j (by rw [List.length_drop, List.length_append] at hj; omega)
      rw [← h1]
      refine Rg.sm_congr fun p _ => ?_
      show w p * Rg.pow a (s * p) * (Rg.pow (Rg.pow a (t * p)) i * Rg.pow (Rg.pow a (x * p)) j) = _
      rw [← Rg.pow_mul, ← Rg.pow_mul, ← Rg.pow_mul, Rg.mul_assoc, ← Rg.pow_add, ← Rg.pow_add]
      congr 2
      rw [Nat.add_mul, Nat.add_mul, Nat.add_assoc]
      congr 1
      rw [Nat.mul_comm i t, Nat.mul_comm j x, Nat.mul_assoc, Nat.mul_assoc, Nat.mul_assoc, Nat.mul_assoc, Nat.mul_comm i p, Nat.mul_comm j p]
    · intro p hp hne hd
      have hw : w p ≠ 0 := fun e => hd (by show w p * _ = 0; rw [e, Rg.zero_mul])
      have h1 := (hTm p).2 ⟨hp, hw⟩
      have h2 : p ∈ S := (List.mem_cons.1 h1).resolve_left hne
      rw [hmem, ← List.take_append_drop (c - 1) (S.filter q ++ S.filter fun p => !q p), List.mem_append] at h2
      exact h2
    · intro r hr e
      have h1 := (hmem r).2 (List.mem_of_mem_take hr)
      have h2 := ((hTm r).1 (List.mem_cons_of_mem _ h1)).1
      exact hnd.1 (mul_inj_nat ht h2 hp0n (ha.pow_eq e) ▸ h1)
    · intro r hr e
      rcases hx with hm | hg
      · rw [List.drop_of_length_le (by rw [List.length_append]; omega)] at hr
        cases hr
      · rw [List.drop_append, List.drop_of_length_le (by omega), List.nil_append] at hr
        have h1 := (List.mem_filter.1 (List.mem_of_mem_drop hr)).2
        have h2 := ha.pow_eq e
        simp [q, h2] at h1
end
def wtL (o : List Int) : Nat := ((List.range o.length).filter fun p => decide (o.getD p 0 ≠ 0)).length
section
variable {p m m2 : Int} {mod mod2 : List Int} [hF : IsF p m mod] [hE : IsF p m2 mod2]
theorem el_ne_zero {o : List Int} (hin : AllIn (pw p m) o) (j : Nat) : (el (o.getD j 0) : El p m mod) = 0 ↔ o.getD j 0 = 0 := by
  have hq := hF.q2
  rw [← val_zero_iff]
  by_cases hj : j < o.length
  · have := hin _ (getD_mem hj 0)
    rw [el_val, inI_in this.1 this.2]
  · rw [getD_out (by omega)]
    exact ⟨fun _ => rfl, fun _ => by rw [el_val, inI_in (by omega) (by omega)]⟩
theorem ht_word (hd : m2 % m = 0) {a : El p m2 mod2} {n : Int} (ha : AOrd a n.toNat) (s t c x k : Int) (hc : 1 ≤ c) (hk : 0 ≤ k) (ht : Int.gcd t n = 1) (hx : k = 0 ∨ (Int.gcd x n : Int) ≤ c) {o : List Int} (ho : o.length = n.toNat) (hin : AllIn (pw p m) o)
    (hz : ∀ i : Int, 0 ≤ i → i < c → ∀ j : Int, 0 ≤ j → j ≤ k → Po.val (mapP (phi p m mod m2 mod2) (phi_hm hd) (pol o)) (Rg.pow a ((s + i * t + j * x) % n).toNat) = 0) : wtL o = 0 ∨ c + 1 + k ≤ wtL o := by
  have hn := ha.pos
  have hh := phi_hm (p := p) (m := m) (mod := mod) (m2 := m2) (mod2 := mod2) hd
  have hs0 := Int.emod_nonneg s (show n ≠ 0 by omega)
  have ht0 := Int.emod_nonneg t (show n ≠ 0 by omega)
  have hx0 := Int.emod_nonneg x (show n ≠ 0 by omega)
  have hgc : ∀ y : Int, Nat.gcd (y % n).toNat n.toNat = Int.gcd y n := fun y => by
    have h1 := Int.emod_nonneg y (show n ≠ 0 by omega)
    rw [← gcd_emod' (a := y) (n := n)]
    unfold Int.gcd
    congr 1 <;> omega
  have h := ht_bound ha (fun j => phi p m mod m2 mod2 (el (o.getD j 0))) (s % n).toNat (t % n).toNat (x % n).toNat c.toNat k.toNat (by rw [hgc]; exact ht) (by rw [hgc]; omega) (by omega) (fun i hi j hj => by
      have h1 := hz i (by omega) (by omega) j (by omega) (by omega)
      rw [Po.val_eq (n := n.toNat) (by rw [← ho]; exact fun u hu => by rw [cf_mapP, pol_sh o u hu, hh.zero])] at h1
      rw [← h1]
      refine Rg.sm_congr fun u _ => ?_
      rw [cf_mapP, cf_pol]
      congr 2
      rw [← ha.mod]
      congr 1
      have e1 : (((s % n).toNat + i * (t % n).toNat + j * (x % n).toNat : Nat) : Int) = s % n + i * (t % n) + j * (x % n) := by
        push_cast
        rw [Int.toNat_of_nonneg hs0, Int.toNat_of_nonneg ht0, Int.toNat_of_nonneg hx0]
      have e2 : (s % n + i * (t % n) + j * (x % n)) % n = (s + i * t + j * x) % n := by
        rw [Int.emod_def s n, Int.emod_def t n, Int.emod_def x n, show s - n * (s / n) + i * (t - n * (t / n)) + j * (x - n * (x / n)) = s + i * t + j * x - n * (s / n + i * (t / n) + j * (x / n)) by grind]
        exact Int.sub_mul_emod_self_left _ _ _
      refine Int.natCast_inj.1 ?_
      rw [Int.natCast_emod, e1, Int.toNat_of_nonneg (show 0 ≤ n by omega), e2, Int.toNat_of_nonneg (Int.emod_nonneg _ (by omega))]) ((List.range o.length).filter fun p => decide (o.getD p 0 ≠ 0)) (List.nodup_range.filter _) (fun j => by
      rw [List.mem_filter, List.mem_range, ho, decide_eq_true_iff]
      refine and_congr_right fun _ => not_congr ?_
      rw [← el_ne_zero (p := p) (m := m) (mod := mod) hin]
      exact ⟨fun e => by show phi p m mod m2 mod2 _ = 0; rw [e, hh.zero], fun e => hh.inj (e.trans hh.zero.symm)⟩)
  rcases h with h | h
  · exact .inl (by unfold wtL; rw [h]; rfl)
  · refine .inr ?_
    have h2 : c.toNat + 1 + k.toNat ≤ wtL o := h
    omega
end
end Go.Proofs.YtgnmcoegdogfgaaGreat

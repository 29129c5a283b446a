/-
  FACTORPOWERS, PART 6 OF 9. One sentence: the texts behind the law FactorPowers, put together.
  Conditions: each theorem's own, written out in it.
-/
import Derived.Test.YtbhoeaijpnjgdaaGreatK5
set_option linter.unusedSimpArgs false
set_option linter.unusedVariables false
set_option linter.unusedSectionVars false
set_option maxRecDepth 100000
namespace Go.Proofs.YtbhoeaijpnjgdaaGreat
open Go.RowKit
theorem ref_div6_ent : Enters Tryz.prog 42 := enters_of Tryz.func42 (by kernel_rfl) (by kernel_rfl)
theorem ref_div6 (p m : Int) (A : Option Addr) (c : Nat) (mod : List Int) [hF : IsF p m mod] (Xa : Option Addr) (na ca : Nat) (a : List Int) (hna : na = a.length) (ha9 : a.length ≤ 1000000) (Xb : Option Addr) (nb cb : Nat) (b : List Int) (hnb : nb = b.length) (hb9 : b.length ≤ 17592186044415) (hbl : (il (pol b : Po (El p m mod))).length ≤ 1000000) (h0 : (pol b : Po (El p m mod)) ≠ 0) :
  Pure Tryz.prog 42 #[.agg #[.int .i64 p, .int .i64 m, .slice A mod.length c], .slice Xa na ca, .slice Xb nb cb] [ro A (ints mod), ro Xa (ints a), ro Xb (ints b)] (one (fun v ch => ∃ B cap, v = .slice B (il (Po.quo (pol a : Po (El p m mod)) (pol b : Po (El p m mod)))).length cap ∧ ch = ow B 3 cap (ints (il (Po.quo (pol a : Po (El p m mod)) (pol b : Po (El p m mod))))))) := by
 refine pure_of (args := [.agg #[.int .i64 p, .int .i64 m, .slice A mod.length c], .slice Xa na ca, .slice Xb nb cb]) 17 Tryz.func42 rfl rfl rfl ref_div6_ent ⟨id, id, id, trivial⟩ (fun w0 => ?_)
 refine tS ?_
 refine tR fun _ _ _ => ?_
 refine eV (eBox rfl rfl rfl rfl rfl (fun p0 => ?_))
 refine pV ?_
 refine tS ?_
 refine tR fun _ _ _ => ?_
 refine sV (rLdS rfl rfl rfl) ?_
 iterate 2 refine pV ?_
 refine eV (eCall2 rfl rfl rfl (ref_PDivModL p m A c mod Xa na ca a hna (by omega) Xb nb cb b hnb hb9 hbl h0) ⟨rfl, rfl, rfl, trivial⟩ ?_)
 rintro _ _ _ ⟨Q1, q1, B1, c1, rfl, rfl, rfl⟩
 iterate 5 refine pV ?_
 refine tS ?_
 refine tR fun _ _ _ => ?_
 iterate 2 refine pV ?_
 exact tr_ret ⟨trivial, _, _, rfl, ⟨_, rfl, Q1, q1, rfl, rfl⟩, cs _ _, trivial, trivial⟩
theorem ref_root6_ent : Enters Tryz.prog 91 := enters_of Tryz.func91 (by kernel_rfl) (by kernel_rfl)
theorem ref_root6 (p m : Int) (A : Option Addr) (c : Nat) (mod : List Int) [hF : IsF p m mod] (X : Option Addr) (n cx : Nat) (a : List Int) (hn : n = a.length) (hn1 : 1 ≤ n) (hn9 : n ≤ 1000000) :
  Pure Tryz.prog 91 #[.agg #[.int .i64 p, .int .i64 m, .slice A mod.length c], .slice X n cx] [ro A (ints mod), ro X (ints a)] (one (fun v ch => ∃ B o, v = .slice B o.length o.length ∧ ch = ow B 3 o.length (ints o) ∧ (pol o : Po (El p m mod)) = rtP (pol a : Po (El p m mod)) ∧ o.length ≤ n)) := by
 have hq2 := hF.q2
 have hp2 := hF.p2
 have hq9 := hF.out.1.1.q
 have hord := hF.ord
 have hpq := p_le_q hF
 have hqd : (pw p m / p).toNat = (pw p m).toNat / p.toNat := by
  obtain ⟨a, ha⟩ := Int.eq_ofNat_of_zero_le (show 0 ≤ pw p m by omega)
  obtain ⟨b, hb⟩ := Int.eq_ofNat_of_zero_le (show 0 ≤ p by omega)
  rw [ha, hb, ← Int.natCast_ediv]
  simp only [Int.toNat_natCast]
 have hd0 : 0 ≤ pw p m / p := Int.ediv_nonneg (by omega) (by omega)
 have hd9 : pw p m / p ≤ pw p m := Int.ediv_le_self _ (by omega)
 have hz0 : 0 ≤ ((n : Int) - 1) / p := Int.ediv_nonneg (by omega) (by omega)
 have hz9 : ((n : Int) - 1) / p ≤ (n : Int) - 1 := Int.ediv_le_self _ (by omega)
 have hzm : p * (((n : Int) - 1) / p) ≤ (n : Int) - 1 := Int.mul_ediv_self_le (by omega)
 have hzl : (n : Int) - 1 < p * (((n : Int) - 1) / p + 1) := by
  have := Int.lt_mul_ediv_self_add (x := (n : Int) - 1) (show 0 < p by omega)
  rw [Int.mul_add, Int.mul_one]; omega
 generalize hz : ((n : Int) - 1) / p = z at *
 have hzn : ((z + 1).toNat : Int) = z + 1 := by omega
 refine pure_of (args := [.agg #[.int .i64 p, .int .i64 m, .slice A mod.length c], .slice X n cx]) 42 Tryz.func91 rfl rfl rfl ref_root6_ent ⟨id, id, trivial⟩ (fun w0 => ?_)
 refine tS ?_
 refine tR fun _ _ _ => ?_
 refine eV (eBox rfl rfl rfl rfl rfl (fun p0 => ?_))
 refine pV ?_
 refine tS ?_
 refine tR fun _ _ _ => ?_
 refine pV ?_
 refine sV (rLen rfl rfl) ?_
 refine sV (rSub rfl rfl rfl (by omega) (by omega)) ?_
 refine sV (rFld rfl rfl) ?_
 refine sV (rLdF rfl rfl rfl) ?_
 refine sV (rQuo rfl rfl rfl (by omega) (by omega)) ?_
 refine sV (rAdd rfl rfl rfl (by omega) (by omega)) ?_
 rw [hz]
 refine eV (eMakeI rfl rfl rfl rfl rfl (by omega) (by omega) (by omega) (fun A1 => ?_))
 refine pV ?_
 refine tS ?_
 refine tS ?_
 refine tR fun _ _ _ => ?_
 refine pV ?_
 refine tB ?_
 refine tr_loop2 (fun (k : Int) (o : List Int) => [(5, .slice A1 (z + 1).toNat (z + 1).toNat), (6, .int .i64 k), (1, .slice X n cx), (2, .pointer (some p0)), (4, .slice none 0 0)]) (fun (k : Int) (o : List Int) => [ow A1 3 (z + 1).toNat (ints o), blk p0 24 [.int .i64 p, .int .i64 m, .slice A mod.length c], ro A (ints mod), ro X (ints a)]) (fun (k : Int) (o : List Int) => (0 ≤ k ∧ k ≤ z + 1) ∧ o.length = (z + 1).toNat ∧ ∀ j : Nat, (j : Int) < k → o.getD j 0 = (Rg.pow (el (a.getD (j * p.toNat) 0) : El p m mod) ((pw p m).toNat / p.toNat)).1) (fun (k : Int) (o : List Int) => (z + 1 - k).toNat) (0) (List.replicate (z + 1).toNat 0) ⟨rfl, rfl, rfl, rfl, rfl, trivial⟩ (by first | exact cs _ _ | exact CSub.refl _) (⟨⟨by omega, by omega⟩, by simp, fun j hj => by omega⟩) (fun k o hI => ?_)
 obtain ⟨⟨hk0, hk1⟩, hol, ho⟩ := hI
 refine tS ?_
 refine tS ?_
 refine tR fun _ _ _ => ?_
 iterate 2 refine pV ?_
 refine sV (rLen rfl rfl) ?_
 refine pV ?_
 refine tC rfl (fun h3 => ?_) (fun h3 => ?_)
 ·try simp only [zbA] at h3
  refine tK ?_
  refine tS ?_
  refine tB ?_
  have hkp : 0 ≤ k * p ∧ k * p ≤ p * z := ⟨Int.mul_nonneg (by omega) (by omega), by rw [Int.mul_comm]; exact Int.mul_le_mul_of_nonneg_left (by omega) (by omega)⟩
  refine tr_plan [] [(0, 0), (0, 1), (0, 2), (0, 3), (0, 4), (0, 5), (0, 6), (0, 7), (0, 8), (0, 9), (0, 10), (0, 12), (0, 13), (0, 11), (0, 14), (0, 15), (0, 16), (0, 17), (2, 18), (0, 19), (1, 20)] mixed (by kernel_rfl) fun _ _ _ => ?_
  iterate 2 refine pV ?_
  refine sV (rLdS rfl rfl rfl) ?_
  iterate 2 refine pV ?_
  refine sV (rFld rfl rfl) ?_
  refine sV (rLdF rfl rfl rfl) ?_
  refine sV (rMul rfl rfl rfl (by omega) (by omega)) ?_
  refine sV (rIdxI rfl rfl rfl (by omega) (by omega) (by omega)) ?_
  refine sV (rLdI rfl rfl (by omega)) ?_
  refine sV (rLdS rfl rfl rfl) ?_
  refine sV (rFld rfl rfl) ?_
  refine sV (rLdF rfl rfl rfl) ?_
  refine eV (eCallV rfl rfl rfl (ref_order p m A c mod) ⟨rfl, trivial⟩ ?_)
  rw [hord]
  refine sV (rQuo rfl rfl rfl (by omega) (by omega)) ?_
  refine eV (eCallV rfl rfl rfl (ref_PowE p m A c mod (a.getD (k * p).toNat 0) (pw p m / p) hd0 (by omega)) ⟨rfl, rfl, rfl, trivial⟩ ?_)
  iterate 2 refine pV ?_
  refine stF rfl rfl rfl rfl (cs _ _) (rExt rfl rfl rfl) ?_
  refine sV (rIdxI rfl rfl rfl (by omega) (by omega) (by omega)) ?_
  refine eV (eStI rfl rfl rfl rfl (by omega) ?_)
  refine ⟨cs _ _, ?_⟩
  refine tR fun _ _ _ => ?_
  refine pV ?_
  refine sV (rAdd rfl rfl rfl (by omega) (by omega)) ?_
  refine pV ?_
  refine ⟨k + 1, o.set k.toNat (Rg.pow (el (a.getD (k * p).toNat 0) : El p m mod) (pw p m / p).toNat).1, ⟨rfl, rfl, rfl, rfl, rfl, trivial⟩, by first | exact cs _ _ | exact CSub.refl _, ?_⟩
  refine ⟨⟨⟨by omega, by omega⟩, by simpa using hol, fun j hj => ?_⟩, by omega⟩
  rw [getD_set]
  by_cases he : k.toNat = j
  ·subst he
   have e1 : (k * p).toNat = k.toNat * p.toNat := by
    have h2 : ((k.toNat * p.toNat : Nat) : Int) = k * p := by rw [Int.natCast_mul, Int.toNat_of_nonneg (by omega), Int.toNat_of_nonneg (by omega)]
    omega
   rw [if_pos ⟨rfl, by omega⟩, hqd, e1]
  ·rw [if_neg (fun e => he e.1)]; exact ho j (by omega)
 ·try simp only [zbA] at h3
  refine tE ?_
  refine tS ?_
  refine tR fun _ _ _ => ?_
  iterate 2 refine pV ?_
  have hp : (pol o : Po (El p m mod)) = rtP (pol a) := Po.ext fun j => by
   show el (o.getD j 0) = Rg.pow (Po.cf (pol a) (j * p.toNat)) ((pw p m).toNat / p.toNat)
   by_cases h : j < o.length
   ·rw [ho j (by omega), el_of, cf_pol]
   ·have h1 : p * (z + 1) ≤ p * (j : Int) := Int.mul_le_mul_of_nonneg_left (by omega) (by omega)
    have h2 : ((j * p.toNat : Nat) : Int) = p * (j : Int) := by rw [Int.natCast_mul, Int.toNat_of_nonneg (by omega), Int.mul_comm]
    have h4 : 0 < (pw p m).toNat / p.toNat := Nat.div_pos (by omega) (by omega)
    rw [getD_out (l := o) (by omega), cf_pol, getD_out (l := a) (by omega), el_zero, Rg.zero_pow h4]
  rw [← hol]
  exact tr_ret ⟨trivial, _, _, rfl, ⟨_, rfl, A1, o, rfl, rfl, hp, by omega⟩, cs _ _, trivial, trivial⟩
theorem ref_RadicalB_ent : Enters Tryz.prog 40 := enters_of Tryz.func40 (by kernel_rfl) (by kernel_rfl)
theorem ref_RadicalB (p m : Int) (A : Option Addr) (c : Nat) (mod : List Int) [hF : IsF p m mod] (Xa : Option Addr) (na ca : Nat) (a : List Int) (hna : na = a.length) (ha9 : a.length ≤ 17592186044415) (h1 : 1 ≤ Po.len (pol a : Po (El p m mod))) (h9 : Po.len (pol a : Po (El p m mod)) ≤ 257) (ih : ∀ (X2 : Option Addr) (n2 c2 : Nat) (b : List Int), n2 = b.length → b.length ≤ 17592186044415 → 1 ≤ Po.len (pol b : Po (El p m mod)) → Po.len (pol b : Po (El p m mod)) < Po.len (pol a : Po (El p m mod)) → Pure Tryz.prog 40 #[.agg #[.int .i64 p, .int .i64 m, .slice A mod.length c], .slice X2 n2 c2] [ro A (ints mod), ro X2 (ints b)] (one (fun v ch => ∃ B cap r, v = .slice B (il r).length cap ∧ ch = ow B 3 cap (ints (il (r : Po (El p m mod)))) ∧ Rad (pol b : Po (El p m mod)) r))) :
  Pure Tryz.prog 40 #[.agg #[.int .i64 p, .int .i64 m, .slice A mod.length c], .slice Xa na ca] [ro A (ints mod), ro Xa (ints a)] (one (fun v ch => ∃ B cap r, v = .slice B (il r).length cap ∧ ch = ow B 3 cap (ints (il (r : Po (El p m mod)))) ∧ Rad (pol a : Po (El p m mod)) r)) := by
 have hq2 := hF.q2
 have hil := il_length (pol a : Po (El p m mod))
 have h0 : (pol a : Po (El p m mod)) ≠ 0 := Po.len_pos_iff.1 (by omega)
 have hml := Po.mon_len (pol a : Po (El p m mod))
 have hm1 := Po.mon_lead h0
 have hm0 := lead1_ne hm1
 have hmil := il_length (Po.mon (pol a : Po (El p m mod)))
 have hdl := len_dP (Po.mon (pol a : Po (El p m mod)))
 have hdil := il_length (dP (Po.mon (pol a : Po (El p m mod))))
 have hgl := Po.dvd_len (Po.gcd_is (Po.mon (pol a : Po (El p m mod))) (dP (Po.mon (pol a : Po (El p m mod))))).left hm0
 have hgil := il_length (Po.gcd (Po.mon (pol a : Po (El p m mod))) (dP (Po.mon (pol a : Po (El p m mod)))))
 have hst := radW_start hm1
 have hwl := quo_le (f := (Po.mon (pol a : Po (El p m mod)))) (lead1_ne hst.mr)
 have hwil := il_length (Po.quo (Po.mon (pol a : Po (El p m mod))) (Po.gcd (Po.mon (pol a : Po (El p m mod))) (dP (Po.mon (pol a : Po (El p m mod))))))
 refine pure_of (args := [.agg #[.int .i64 p, .int .i64 m, .slice A mod.length c], .slice Xa na ca]) 56 Tryz.func40 rfl rfl rfl ref_RadicalB_ent ⟨id, id, trivial⟩ (fun w0 => ?_)
 refine tS ?_
 refine tR fun _ _ _ => ?_
 refine eV (eBox rfl rfl rfl rfl rfl (fun p0 => ?_))
 refine pV ?_
 refine tS ?_
 refine tR fun _ _ _ => ?_
 refine sV (rLdS rfl rfl rfl) ?_
 refine pV ?_
 refine eV (eCall1 rfl rfl rfl (ref_PMonicL p m A c mod Xa _ ca a hna ha9 (by omega)) ⟨rfl, rfl, trivial⟩ ?_)
 rintro _ _ ⟨B1, c1, rfl, rfl⟩
 refine pV ?_
 refine tS ?_
 refine tS ?_
 refine tR fun _ _ _ => ?_
 refine pV ?_
 refine sV (rLen rfl rfl) ?_
 refine pV ?_
 refine tC rfl (fun h2 => ?_) (fun h2 => ?_)
 ·try simp only [zbA] at h2
  refine tS ?_
  refine tR fun _ _ _ => ?_
  iterate 2 refine pV ?_
  have hF1 : (Po.mon (pol a : Po (El p m mod))) = 1 := Po.monic_one hm1 (by omega)
  exact tr_ret ⟨trivial, _, _, rfl, ⟨_, rfl, B1, c1, (Po.mon (pol a : Po (El p m mod))), rfl, rfl, by rw [hF1]; exact rad_one (by omega)⟩, cs _ _, trivial, trivial⟩
 ·try simp only [zbA] at h2
  refine tK ?_
  refine tS ?_
  refine tR fun _ _ _ => ?_
  refine sV (rLdS rfl rfl rfl) ?_
  refine pV ?_
  refine eV (eCall1 rfl rfl rfl (ref_Derivative p m A c mod B1 _ c1 (il (Po.mon (pol a : Po (El p m mod)))) rfl (by omega)) ⟨rfl, rfl, trivial⟩ ?_)
  rintro _ _ ⟨B4, c4, rfl, rfl⟩
  refine pV ?_
  rw [pol_il]
  refine tS ?_
  refine tS ?_
  refine tR fun _ _ _ => ?_
  refine pV ?_
  refine sV (rLen rfl rfl) ?_
  refine pV ?_
  refine tC rfl (fun h5 => ?_) (fun h5 => ?_)
  ·try simp only [zbA] at h5
   refine tS ?_
   have hd0 : dP (Po.mon (pol a : Po (El p m mod))) = 0 := il_eq_nil.1 (List.eq_nil_of_length_eq_zero (by omega))
   have hrl := rtP_len hd0 (by omega)
   refine tr_draw [0, 1, 2, 3, 4, 5] [] mixed (by kernel_rfl) fun _ _ _ => ?_
   refine sV (rLdS rfl rfl rfl) ?_
   refine sV (rLdS rfl rfl rfl) ?_
   refine pV ?_
   refine eV (eCall1 rfl rfl rfl (ref_root6 p m A c mod B1 _ c1 (il (Po.mon (pol a : Po (El p m mod)))) rfl (by omega) (by omega)) ⟨rfl, rfl, trivial⟩ ?_)
   rintro _ _ ⟨B6, o, rfl, rfl, ho, hol⟩
   rw [pol_il] at ho
   have hoh : 1 ≤ Po.len (pol o : Po (El p m mod)) ∧ Po.len (pol o : Po (El p m mod)) < Po.len (pol a : Po (El p m mod)) := by rw [ho]; omega
   refine eV (eCall1 rfl rfl rfl (ih B6 _ o.length o rfl (by omega) hoh.1 hoh.2) ⟨rfl, rfl, trivial⟩ ?_)
   rintro _ _ ⟨B6r, c6r, r, rfl, rfl, hrad⟩
   refine pV ?_
   exact tr_ret ⟨trivial, _, _, rfl, ⟨_, rfl, B6r, c6r, r, rfl, rfl, rad_mon (rad_root hd0 hm0 (by rw [ho] at hrad; exact hrad))⟩, cs _ _, trivial, trivial⟩
  ·try simp only [zbA] at h5
   refine tK ?_
   refine tS ?_
   have hd1 : dP (Po.mon (pol a : Po (El p m mod))) ≠ 0 := fun e => by rw [e, il_zero] at h5; exact h5 rfl
   have hglt := dP_len_lt hm0 hd1
   refine tR fun _ _ _ => ?_
   refine sV (rLdS rfl rfl rfl) ?_
   iterate 2 refine pV ?_
   refine eV (eCall1 rfl rfl rfl (ref_PGcd p m A c mod B1 _ c1 (il (Po.mon (pol a : Po (El p m mod)))) rfl (by omega) B4 _ c4 (il (dP (Po.mon (pol a : Po (El p m mod))))) rfl (by omega)) ⟨rfl, rfl, rfl, trivial⟩ ?_)
   rintro _ _ ⟨B7, c7, rfl, rfl⟩
   refine pV ?_
   rw [pol_il, pol_il]
   refine tS ?_
   refine tR fun _ _ _ => ?_
   refine sV (rLdS rfl rfl rfl) ?_
   iterate 2 refine pV ?_
   refine eV (eCall1 rfl rfl rfl (ref_div6 p m A c mod B1 _ c1 (il (Po.mon (pol a : Po (El p m mod)))) rfl (by omega) B7 _ c7 (il (Po.gcd (Po.mon (pol a : Po (El p m mod))) (dP (Po.mon (pol a : Po (El p m mod)))))) rfl (by omega) (by rw [pol_il]; omega) (by rw [pol_il]; exact lead1_ne hst.mr)) ⟨rfl, rfl, rfl, trivial⟩ ?_)
   rintro _ _ ⟨B8, c8, rfl, rfl⟩
   refine pV ?_
   rw [pol_il, pol_il]
   refine tS ?_
   refine tR fun _ _ _ => ?_
   refine sV (rLdS rfl rfl rfl) ?_
   iterate 2 refine pV ?_
   refine eV (eCall1 rfl rfl rfl (ref_PGcd p m A c mod B7 _ c7 (il (Po.gcd (Po.mon (pol a : Po (El p m mod))) (dP (Po.mon (pol a : Po (El p m mod)))))) rfl (by omega) B8 _ c8 (il (Po.quo (Po.mon (pol a : Po (El p m mod))) (Po.gcd (Po.mon (pol a : Po (El p m mod))) (dP (Po.mon (pol a : Po (El p m mod))))))) rfl (by omega)) ⟨rfl, rfl, rfl, trivial⟩ ?_)
   rintro _ _ ⟨B9, c9, rfl, rfl⟩
   refine pV ?_
   rw [pol_il, pol_il]
   refine tS ?_
   refine tB ?_
   refine tr_loop5 (fun (Br : Option Addr) (cr : Nat) (rest : Po (El p m mod)) (Bh : Option Addr) (ch : Nat) => [(6, .slice Br (il rest).length cr), (8, .slice Bh (il (Po.gcd rest (Po.quo (Po.mon (pol a : Po (El p m mod))) (Po.gcd (Po.mon (pol a : Po (El p m mod))) (dP (Po.mon (pol a : Po (El p m mod)))))))).length ch), (7, .slice B8 (il (Po.quo (Po.mon (pol a : Po (El p m mod))) (Po.gcd (Po.mon (pol a : Po (El p m mod))) (dP (Po.mon (pol a : Po (El p m mod))))))).length c8), (2, .pointer (some p0)), (4, .slice none 0 0)]) (fun (Br : Option Addr) (cr : Nat) (rest : Po (El p m mod)) (Bh : Option Addr) (ch : Nat) => [ow Br 3 cr (ints (il rest)), ow Bh 3 ch (ints (il (Po.gcd rest (Po.quo (Po.mon (pol a : Po (El p m mod))) (Po.gcd (Po.mon (pol a : Po (El p m mod))) (dP (Po.mon (pol a : Po (El p m mod))))))))), ow B8 3 c8 (ints (il (Po.quo (Po.mon (pol a : Po (El p m mod))) (Po.gcd (Po.mon (pol a : Po (El p m mod))) (dP (Po.mon (pol a : Po (El p m mod)))))))), blk p0 24 [.int .i64 p, .int .i64 m, .slice A mod.length c], ro A (ints mod)]) (fun (Br : Option Addr) (cr : Nat) (rest : Po (El p m mod)) (Bh : Option Addr) (ch : Nat) => RadW (Po.mon (pol a : Po (El p m mod))) (Po.quo (Po.mon (pol a : Po (El p m mod))) (Po.gcd (Po.mon (pol a : Po (El p m mod))) (dP (Po.mon (pol a : Po (El p m mod)))))) rest ∧ Po.len rest ≤ Po.len (Po.gcd (Po.mon (pol a : Po (El p m mod))) (dP (Po.mon (pol a : Po (El p m mod)))))) (fun (Br : Option Addr) (cr : Nat) (rest : Po (El p m mod)) (Bh : Option Addr) (ch : Nat) => Po.len rest) (B7) (c7) ((Po.gcd (Po.mon (pol a : Po (El p m mod))) (dP (Po.mon (pol a : Po (El p m mod)))))) (B9) (c9) ⟨rfl, rfl, rfl, rfl, rfl, trivial⟩ (by first | exact cs _ _ | exact CSub.refl _) (⟨hst, Nat.le_refl _⟩) (fun Br cr rest Bh ch hI => ?_)
   obtain ⟨hW, hrl0⟩ := hI
   have hri := il_length rest
   have hgi := il_length (Po.gcd rest (Po.quo (Po.mon (pol a : Po (El p m mod))) (Po.gcd (Po.mon (pol a : Po (El p m mod))) (dP (Po.mon (pol a : Po (El p m mod)))))))
   have hgr := Po.dvd_len (Po.gcd_is rest (Po.quo (Po.mon (pol a : Po (El p m mod))) (Po.gcd (Po.mon (pol a : Po (El p m mod))) (dP (Po.mon (pol a : Po (El p m mod))))))).left (lead1_ne hW.mr)
   refine tS ?_
   refine tS ?_
   refine tR fun _ _ _ => ?_
   refine pV ?_
   refine sV (rLen rfl rfl) ?_
   refine pV ?_
   refine tC rfl (fun h10 => ?_) (fun h10 => ?_)
   ·try simp only [zbA] at h10
    refine tK ?_
    refine tB ?_
    refine tS ?_
    have hlt := hW.le (by omega)
    have hqi := il_length (Po.quo rest (Po.gcd rest (Po.quo (Po.mon (pol a : Po (El p m mod))) (Po.gcd (Po.mon (pol a : Po (El p m mod))) (dP (Po.mon (pol a : Po (El p m mod))))))))
    refine tR fun _ _ _ => ?_
    refine sV (rLdS rfl rfl rfl) ?_
    iterate 2 refine pV ?_
    refine eV (eCall1 rfl rfl rfl (ref_div6 p m A c mod Br _ cr (il rest) rfl (by omega) Bh _ ch (il (Po.gcd rest (Po.quo (Po.mon (pol a : Po (El p m mod))) (Po.gcd (Po.mon (pol a : Po (El p m mod))) (dP (Po.mon (pol a : Po (El p m mod)))))))) rfl (by omega) (by rw [pol_il]; omega) (by rw [pol_il]; exact Po.gcd_ne (.inl (lead1_ne hW.mr)))) ⟨rfl, rfl, rfl, trivial⟩ ?_)
    rintro _ _ ⟨Bq, cq, rfl, rfl⟩
    refine pV ?_
    rw [pol_il, pol_il]
    refine tR fun _ _ _ => ?_
    refine sV (rLdS rfl rfl rfl) ?_
    iterate 2 refine pV ?_
    refine eV (eCall1 rfl rfl rfl (ref_PGcd p m A c mod Bq _ cq (il (Po.quo rest (Po.gcd rest (Po.quo (Po.mon (pol a : Po (El p m mod))) (Po.gcd (Po.mon (pol a : Po (El p m mod))) (dP (Po.mon (pol a : Po (El p m mod))))))))) rfl (by omega) B8 _ c8 (il (Po.quo (Po.mon (pol a : Po (El p m mod))) (Po.gcd (Po.mon (pol a : Po (El p m mod))) (dP (Po.mon (pol a : Po (El p m mod))))))) rfl (by omega)) ⟨rfl, rfl, rfl, trivial⟩ ?_)
    rintro _ _ ⟨Bg, cg, rfl, rfl⟩
    refine pV ?_
    rw [pol_il, pol_il]
    refine ⟨Bq, cq, Po.quo rest (Po.gcd rest (Po.quo (Po.mon (pol a : Po (El p m mod))) (Po.gcd (Po.mon (pol a : Po (El p m mod))) (dP (Po.mon (pol a : Po (El p m mod))))))), Bg, cg, ⟨rfl, rfl, rfl, rfl, rfl, trivial⟩, by first | exact cs _ _ | exact CSub.refl _, ?_⟩
    exact ⟨⟨hW.step, by omega⟩, by omega⟩
   ·try simp only [zbA] at h10
    refine tE ?_
    refine tS ?_
    refine tr_draw [0, 1, 2, 3, 4, 5, 6] [] mixed (by kernel_rfl) fun _ _ _ => ?_
    refine sV (rLdS rfl rfl rfl) ?_
    refine pV ?_
    refine sV (rLdS rfl rfl rfl) ?_
    refine pV ?_
    refine eV (eCall1 rfl rfl rfl (ih Br _ cr (il rest) rfl (by omega) (by rw [pol_il]; exact Po.len_pos (lead1_ne hW.mr)) (by rw [pol_il]; omega)) ⟨rfl, rfl, trivial⟩ ?_)
    rintro _ _ ⟨Bz, cz, r, rfl, rfl, hrad⟩
    rw [pol_il] at hrad
    have hrl2 := hrad.le (lead1_ne hW.mr)
    have hril := il_length r
    refine eV (eCall1 rfl rfl rfl (ref_PMulL p m A c mod B8 _ c8 (il (Po.quo (Po.mon (pol a : Po (El p m mod))) (Po.gcd (Po.mon (pol a : Po (El p m mod))) (dP (Po.mon (pol a : Po (El p m mod))))))) rfl (by omega) Bz _ cz (il r) rfl (by omega) (by rw [pol_il]; omega)) ⟨rfl, rfl, rfl, trivial⟩ ?_)
    rintro _ _ ⟨Bm, cm, rfl, rfl⟩
    rw [pol_il, pol_il]
    refine pV ?_
    exact tr_ret ⟨trivial, _, _, rfl, ⟨_, rfl, Bm, cm, _, rfl, rfl, rad_mon (hW.done (by omega) hrad)⟩, cs _ _, trivial, trivial⟩
theorem ref_RadicalN (p m : Int) (A : Option Addr) (c : Nat) (mod : List Int) [hF : IsF p m mod] : ∀ (N : Nat) (X : Option Addr) (n cx : Nat) (a : List Int), Po.len (pol a : Po (El p m mod)) ≤ N → n = a.length → a.length ≤ 17592186044415 → 1 ≤ Po.len (pol a : Po (El p m mod)) → Po.len (pol a : Po (El p m mod)) ≤ 257 → Pure Tryz.prog 40 #[.agg #[.int .i64 p, .int .i64 m, .slice A mod.length c], .slice X n cx] [ro A (ints mod), ro X (ints a)] (one (fun v ch => ∃ B cap r, v = .slice B (il r).length cap ∧ ch = ow B 3 cap (ints (il (r : Po (El p m mod)))) ∧ Rad (pol a : Po (El p m mod)) r))
 | 0, X, n, cx, a, hN, hn, ha9, h1, h9 => absurd h1 (by omega)
 | N + 1, X, n, cx, a, hN, hn, ha9, h1, h9 => ref_RadicalB p m A c mod X n cx a hn ha9 h1 h9 fun X2 n2 c2 b h2 h3 h4 h5 => ref_RadicalN p m A c mod N X2 n2 c2 b (by omega) h2 h3 h4 (by omega)
theorem ref_Radical (p m : Int) (A : Option Addr) (c : Nat) (mod : List Int) [hF : IsF p m mod] (Xa : Option Addr) (na ca : Nat) (a : List Int) (hna : na = a.length) (ha9 : a.length ≤ 17592186044415) (h1 : 1 ≤ Po.len (pol a : Po (El p m mod))) (h9 : Po.len (pol a : Po (El p m mod)) ≤ 257) : Pure Tryz.prog 40 #[.agg #[.int .i64 p, .int .i64 m, .slice A mod.length c], .slice Xa na ca] [ro A (ints mod), ro Xa (ints a)] (one (fun v ch => ∃ B cap r, v = .slice B (il r).length cap ∧ ch = ow B 3 cap (ints (il (r : Po (El p m mod)))) ∧ Rad (pol a : Po (El p m mod)) r)) := ref_RadicalN p m A c mod _ Xa na ca a (Nat.le_refl _) hna ha9 h1 h9
end Go.Proofs.YtbhoeaijpnjgdaaGreat

namespace Go.Proofs.YtbhoeaijpnjgdaaGreat
open Go.RowKit
section
variable {P : Program}
theorem zeroCells_one (z : Value) (m : Nat) : Builtin.zeroCells #[z] m = (List.replicate m z).toArray := by
 apply Array.ext
 ·simp [Builtin.zeroCells]
 ·intro j h1 h2
  simp [Builtin.zeroCells, Nat.mod_one]
theorem wrap_i64 {m : Nat} (h : m ≤ 17592186044416) : IntKind.i64.wrap (m : Int) = m := (IntWalk.i64_in _ ⟨by omega, by omega⟩)
theorem run_app_zeros (w : World) (t ti ty e : TypeId) (i : TypeInfo) (z : Value) (k : IntKind) (bytes : Nat) (ht : P.underlying t = some (.slice e)) (hti : P.underlying ti = some (.int k)) (hi : P.info? e = some i) (hz : i.zero = some z)
  (hsize : i.size = 1) (hby : i.bytes = bytes) (hzs : z.cells = #[z]) (ho : z.oneCell' = true) (v : Value) (n : Nat) (xs : List Value) (hown : w.ownsRow 0 e 1 v n xs) (m : Nat) (hm9 : m ≤ 17592186044416)
  (h63 : n + m ≤ maxLen) (hbytes : (n + m) * bytes ≤ 140737488355328) :
  ∃ v' w', (Builtin.append_ #[t, ti] ty #[v, .int .i64 m]).run P w = .ok v' w' ∧ w'.ownsRow 0 e 1 v' (n + m) (xs ++ List.replicate m z) ∧ w.grownBy w' v.ownBlock ∧ (v'.ownBlock = v.ownBlock ∨ v'.ownBlock = some w.heap.size) := by
 subst hby
 have hsmall : n + m ≤ 9223372036854775807 := by simp only [maxLen] at h63; omega
 have hwr := wrap_i64 hm9
 have hmb : ¬ ((m : Int) * (i.bytes : Int) > 281474976710656) := by
  have h1 : m * i.bytes ≤ (n + m) * i.bytes := Nat.mul_le_mul_right _ (by omega)
  have h2 : ((m * i.bytes : Nat) : Int) ≤ 140737488355328 := by omega
  rw [Int.natCast_mul] at h2
  omega
 have hlen : (xs ++ List.replicate m z).length = (n + m) * 1 := by rw [List.length_append, hown.1, List.length_replicate]; omega
 have hxl := hown.1
 have hzc : ∀ j, Builtin.zeroCells z.cells j = (List.replicate j z).toArray := fun j => by rw [hzs, zeroCells_one]
 -- what the growing arm leaves
 have grown : ∀ (old : Nat), old < n + m → ∀ (row : Option Nat),
   (w.drew.alloc (.cells (xs.toArray ++ (List.replicate m z).toArray ++ Builtin.zeroCells z.cells (grownCap w (n + m) old e - (n + m))) e)).ownsRow 0 e 1
    (.slice (some ⟨w.heap.size, 0, none⟩) (n + m) (grownCap w (n + m) old e)) (n + m) (xs ++ List.replicate m z) ∧
   w.grownBy (w.drew.alloc (.cells (xs.toArray ++ (List.replicate m z).toArray ++ Builtin.zeroCells z.cells (grownCap w (n + m) old e - (n + m))) e)) row := by
  intro old ho row
  have hge := grownCap_ge w (n + m) old e
  have hcm : grownCap w (n + m) old e ≤ maxLen := grownCap_le_maxLen w (n + m) old e h63
  refine ⟨⟨hlen, .inr ⟨w.heap.size, _, _, rfl, Nat.zero_le _, heap_alloc_new w.drew _, hge, hcm, ?_, ?_⟩⟩, ⟨rfl, rfl, rfl, by simp, fun k hk _ => heap_alloc_old w.drew _ hk⟩⟩
  ·rw [hzc]
   simp only [Array.size_append, List.size_toArray, List.length_replicate]
   omega
  ·simp only [Array.toList_append, List.append_assoc]
   rw [← List.append_assoc, ← hlen]
   exact List.take_left
 have happ : ∀ w' : World, ((if m * 1 = 0 then pure #[] else do pure (Builtin.zeroCells (← zeroValue e).cells m) : Sem (Array Value))).run P w' = .ok (List.replicate m z).toArray w' := fun w' => by
  by_cases h0 : m = 0
  ·subst h0; simp
  ·have : ¬ m * 1 = 0 := by omega
   rw [if_neg this]
   simp [zeroValue, typeInfo, hi, hz, hzc]
 have h63' : ¬ (9223372036854775807 < ((n : Int) + (m : Int))) := by omega
 have hm0 : ¬ ((m : Int) < 0) := by omega
 rcases hown.2 with ⟨rfl, rfl⟩ | ⟨g, cap, cur, rfl, hbg, hg, hnc, hcm, hcs, htake⟩
 ·have hx : xs = [] := List.eq_nil_of_length_eq_zero (by simpa using hown.1)
  subst hx
  by_cases hm : m = 0
  ·subst hm
   refine ⟨.slice none 0 0, w, ?_, World.ownsRow_nil w 0 e 1, ⟨rfl, rfl, rfl, Nat.le_refl _, fun _ _ _ => rfl⟩, Or.inl rfl⟩
   have hw0 : IntKind.i64.wrap 0 = 0 := by simpa using hwr
   simp [Builtin.append_, run_underlying ht, run_underlying hti, sizeOf, typeInfo, hi, asInt, asIntOf, hsize, hw0]
  ·have hgr := grown 0 (by omega) (Value.ownBlock (.slice none 0 0))
   refine ⟨_, _, ?_, hgr.1, hgr.2, Or.inr rfl⟩
   have hfit := growslice_fits (need := 0 + m) (old := 0) (by omega) hbytes
   have h48' : ¬ (281474976710656 < Builtin.nextslicecap m 0 * i.bytes) := by simp only [Nat.zero_add] at hfit; omega
   have h63'' : ¬ (9223372036854775807 < (m : Int)) := by omega
   simp [Builtin.append_, run_underlying ht, run_underlying hti, sizeOf, typeInfo, zeroValue, hi, hz, asInt, asIntOf, hsize, hwr, hm0, hmb, hm, h63'', h48', Question.forced, newRow, grownCap, hzc, run_firstCells_none, Builtin.firstCells]
 ·by_cases hroom : n + m ≤ cap
  ·have hfit : n * 1 + (List.replicate m z).length ≤ cur.size := by rw [List.length_replicate, hcs]; omega
   have hst := run_storeCells_at P g (n * 1) e (List.replicate m z) 0 cur w hg (by simpa using hfit) (fun u hu => by rw [List.eq_of_mem_replicate hu]; exact ho)
   simp only [Nat.add_zero] at hst
   refine ⟨_, w.setRow g (cur.toList.take (n * 1) ++ List.replicate m z ++ cur.toList.drop (n * 1 + (List.replicate m z).length)).toArray, ?_, ⟨hlen, .inr ⟨g, cap, (cur.toList.take (n * 1) ++ List.replicate m z ++ cur.toList.drop (n * 1 + (List.replicate m z).length)).toArray, rfl, hbg, setRow_heap w g cur _ e _ hg, hroom, hcm, ?_, ?_⟩⟩, ⟨rfl, rfl, rfl, by simp, fun k _ hk => setRow_other w g k _ (fun e => hk (by simp [Value.ownBlock, e]))⟩, Or.inl rfl⟩
   ·by_cases h0 : m = 0
    ·subst h0
     have hw0 : IntKind.i64.wrap 0 = 0 := by simpa using hwr
     simp only [Nat.mul_one, List.replicate_zero] at hst
     simp [Builtin.append_, run_underlying ht, run_underlying hti, sizeOf, typeInfo, hi, hz, asInt, asIntOf, hsize, hw0, hroom, hnc, Addr.add_lit, hst]
    ·simp only [Nat.mul_one] at hst
     simp [Builtin.append_, run_underlying ht, run_underlying hti, sizeOf, typeInfo, zeroValue, hi, hz, asInt, asIntOf, hsize, hwr, hroom, hm0, hmb, h0, hzc, Addr.add_lit, hst]
   ·simp only [List.size_toArray, List.length_append, List.length_take, List.length_drop, Array.length_toList]
    omega
   ·rw [htake, ← hlen]
    exact List.take_left
  ·have hgr := grown cap (by omega) (Value.ownBlock (.slice (some ⟨g, 0, none⟩) n cap))
   refine ⟨_, _, ?_, hgr.1, hgr.2, Or.inr rfl⟩
   have holds : ∀ j u, xs[j]? = some u → w.drew.cell? ((⟨g, 0, none⟩ : Addr).add j) = some u := by simpa using hown.cells (g := g) rfl
   have hfo := run_firstCells_some (P := P) w.drew 1 n ⟨g, 0, none⟩ n cap xs hown.1 holds
   have hfit := growslice_fits (need := n + m) (old := cap) (by omega) hbytes
   have h48' : ¬ (281474976710656 < Builtin.nextslicecap (n + m) cap * i.bytes) := by omega
   by_cases h0 : m = 0
   ·subst h0
    simp only [Nat.add_zero] at hroom
    exact absurd hnc hroom
   ·simp [Builtin.append_, run_underlying ht, run_underlying hti, sizeOf, typeInfo, zeroValue, hi, hz, asInt, asIntOf, hsize, hwr, hroom, hm0, hmb, h63', h48', h0, Question.forced, newRow, grownCap, hzc, hfo]
end
section
variable {P : Program} {N : NB} {M : Nat → Prop} {w0 : World} {L : Fr} {F F' : List Chunk} {K : Fr → List Chunk → Prop} {b : Bool} {o : Oper} {x y : Operand} {t ti e : TypeId} {z : Value} {bytes : Nat}
class InTy (P : Program) (t : TypeId) : Prop where
 und : ∃ k, P.underlying t = some (.int k)
theorem eAppZ {A : Option Addr} {n c m : Nat} {xs : List Int} (ho : o.op = .call { callee := .builtin .append, args := #[x, y], argTypes := #[t, ti] }) {d : Nat} (hdd : o.dst = some d) (hd : Nat.ble (d + 1) N.n = true) [h : SlTy P t e (.int .i64 0) 8] [hI : InTy P ti]
  (hx : ev L x = some (.slice A n c)) (hy : ev L y = some (.int .i64 m)) [hp : PkOw F A e c (ints xs) F'] (hn : n = xs.length) (hb : xs.length + m ≤ 17592186044416)
  (hK : ∀ (A' : Option Addr) (cap' : Nat), K (addL d (.slice A' (xs ++ List.replicate m 0).length cap') L) (ow A' e cap' (ints (xs ++ List.replicate m 0)) :: F')) : Eff P N M w0 false o L F K := fun a w hl hm => by
 subst hn
 obtain ⟨i, hi, hz, hs, hby⟩ := info_parts h.inf
 obtain ⟨k, hk⟩ := hI.und
 have hmp := hm.perm hp.perm
 have hown : w.ownsRow 0 e 1 (.slice A (ints xs).length c) (ints xs).length (ints xs) := hmp.sat _ (List.mem_cons_self ..)
 have hxl : (ints xs).length = xs.length := by simp
 obtain ⟨v', w', h1, h2, h3, h5⟩ := run_app_zeros (P := P) w t ti o.type e i (.int .i64 0) k 8 h.und hk hi hz hs hby rfl rfl _ _ _ hown m (by omega) (by simp only [maxLen]; omega) (by omega)
 have shape : ∃ A' cap', v' = .slice A' ((ints xs).length + m) cap' ∧ (∀ ad, A' = some ad → A = some ad ∨ ad.block = w.heap.size) := by
  rcases h2.2 with ⟨rfl, h0⟩ | ⟨g, cp, cur, rfl, _⟩
  ·exact ⟨none, 0, by rw [h0], fun ad h => by cases h⟩
  ·refine ⟨_, _, rfl, fun ad had => ?_⟩
   simp only [Option.some.injEq] at had
   subst had
   rcases h5 with h5 | h5
   ·left
    rcases hown.2 with ⟨h3, _⟩ | ⟨g', cp', cur', h3, _⟩
    ·rw [h3] at h5; simp [Value.ownBlock] at h5
    ·simp only [Value.slice.injEq] at h3
     obtain ⟨rfl, _⟩ := h3
     simp only [Value.ownBlock, Option.some.injEq] at h5
     rw [h5]
   ·right
    simpa [Value.ownBlock] using h5
 obtain ⟨A', cap', rfl, h4⟩ := shape
 have he : ints xs ++ List.replicate m (Value.int .i64 0) = ints (xs ++ List.replicate m 0) := by simp [ints]
 have hl2 : (ints xs).length + m = (xs ++ List.replicate m (0 : Int)).length := by simp
 have hl3 : (ints (xs ++ List.replicate m 0)).length = (xs ++ List.replicate m (0 : Int)).length := by simp
 rw [he, hl2] at h2
 rw [hl2] at h1
 have hrun : (execOp a.eval o).run P w = .ok (.value (.slice A' (xs ++ List.replicate m (0 : Int)).length cap')) w' := by
  rw [hxl] at h1
  simp only [execOp, ho, resolve, invoke, builtin, Sem.run_bind, Sem.run_pure, Result.andThen_ok, List.map_toArray, List.map_cons, List.map_nil, hl.eval hx, hl.eval hy, h1]
 simp only [Oper.wp, hrun, Oper.upon_value]
 refine ⟨fun hc => absurd hc (by simp), _, _, hl.add hdd hd _, ?_, hK A' cap'⟩
 refine hmp.change (by exact trivial) ⟨h3.os, h3.tape, h3.output, h3.size, fun k hk hc => h3.block k hk (fun hkb => hc ?_)⟩ (by show w'.ownsRow 0 e 1 (.slice A' (ints (xs ++ List.replicate m 0)).length cap') (ints (xs ++ List.replicate m 0)).length (ints (xs ++ List.replicate m 0)); rw [hl3]; exact h2) (fun b' hb' => ?_)
 ·cases A with
  | none => simp [Value.ownBlock] at hkb
  | some ad => exact ⟨ad, rfl, by simpa [Value.ownBlock] using hkb.symm⟩
 ·obtain ⟨ad, rfl, rfl⟩ := hb'
  rcases h4 ad rfl with h5 | h5
  ·exact .inl ⟨ad, h5, rfl⟩
  ·exact .inr (by omega)
theorem eLit0R (ho : o.op = .buildSlice t 0 #[]) {d : Nat} (hdd : o.dst = some d) (hd : Nat.ble (d + 1) N.n = true) [h : SlTy P t e z bytes] (hK : ∀ A : Option Addr, K (addL d (.slice A (([] : List RowM).length) 0) L) (ow A e 0 (hdrs []) :: F)) : Eff P N M w0 b o L F K := eLit0 ho hdd hd (h := h) hK
end
theorem ro_cut_sat {A : Option Addr} {l : List Int} {w : World} (i c : Nat) (hc : l.length ≤ c) (h : (ro A (ints l)).sat w) : (ro (cutA A i c) (ints (l.drop i))).sat w := by
 by_cases hi : i < c
 ·intro j hj
  have e : ints (l.drop i) = (ints l).drop i := by simp [ints, List.map_drop]
  have hj' : j < ((ints l).drop i).length := by rw [← e]; exact hj
  rw [List.length_drop] at hj'
  obtain ⟨ad, h1, h2⟩ := h (i + j) (by omega)
  subst h1
  refine ⟨ad.add i, by rw [cutA, if_pos hi]; rfl, ?_⟩
  rw [add_add, h2]
  congr 1
  simp only [e, List.getElem_drop]
 ·intro j hj
  have h0 : l.drop i = [] := List.drop_eq_nil_of_le (by omega)
  rw [h0] at hj
  simp [ints] at hj
theorem ro_cut_foot {A : Option Addr} {l : List Int} (i c : Nat) (hc : l.length ≤ c) {b : Nat} (hb : (ro (cutA A i c) (ints (l.drop i))).foot b) : (ro A (ints l)).foot b := by
 obtain ⟨hne, ad, h1, h2⟩ := hb
 by_cases hi : i < c
 ·rw [cutA, if_pos hi] at h1
  cases A with
  | none => cases h1
  | some a0 =>
   simp only [shA, Option.map_some, Option.some.injEq] at h1
   refine ⟨fun e => hne ?_, a0, rfl, ?_⟩
   ·have : l = [] := by simpa [ints] using e
    rw [this]; simp [ints]
   ·rw [← h2, ← h1, block_add]
 ·exact absurd (by rw [List.drop_eq_nil_of_le (by omega)]; rfl) hne
def rowsX (rs : List RowM) : Chunk where
 foot b := ∃ r ∈ rs, (ro r.A (ints r.xs)).foot b
 excl := True
 sat w := ∀ r ∈ rs, (ro r.A (ints r.xs)).sat w
 loc w w' h hs := fun r hr => (ro r.A (ints r.xs)).loc w w' (fun b hb => h b ⟨r, hr, hb⟩) (hs r hr)
 cel w b hs hb := by
  obtain ⟨r, hr, hb⟩ := hb
  exact (ro r.A (ints r.xs)).cel w b (hs r hr) hb
def cutR (n : Nat) (r : RowM) : RowM := ⟨cutA r.A n r.cap, r.cap - n, r.xs.drop n⟩
theorem rowsX_cut {e : TypeId} {rs qs : List RowM} (n : Nat) (h : ∀ r ∈ rs, r.xs.length ≤ r.cap) (hq : ∀ q ∈ qs, ∃ r ∈ rs, q = cutR n r) (F : List Chunk) : CSub (rowsCh e rs :: F) (rowsX qs :: F) :=
 CSub.weak (c := rowsCh e rs) (d := rowsX qs) ⟨fun w hs q hm => by
  obtain ⟨r, hr, rfl⟩ := hq q hm
  exact ro_cut_sat n r.cap (h r hr) (ow_reads (hs.1 r hr)), fun b hb => by
  obtain ⟨q, hm, hf⟩ := hb
  obtain ⟨r, hr, rfl⟩ := hq q hm
  have h1 := ro_cut_foot n r.cap (h r hr) hf
  exact ⟨r, hr, h1.2⟩, fun _ => trivial⟩ F
theorem rowsX_weak {rs : List RowM} (F : List Chunk) : CSub (rowsX rs :: F) (rowsR rs :: F) :=
 CSub.weak (c := rowsX rs) (d := rowsR rs) ⟨fun w hs => hs, fun b hb => hb, fun h => h.elim⟩ F
instance HasRows.ofX (F : List Chunk) (rs : List RowM) : HasRows (rowsX rs :: F) rs := ⟨fun _ _ _ hm => hm.sat (rowsX rs) (List.mem_cons_self ..), fun b hb => ⟨_, List.mem_cons_self .., hb⟩⟩
end Go.Proofs.YtbhoeaijpnjgdaaGreat

set_option maxRecDepth 100000
set_option maxHeartbeats 1000000
namespace Go.Proofs.YtbhoeaijpnjgdaaGreat
open Go.RowKit
theorem drop_getDR {α : Type} (l : List α) (a i : Nat) (d : α) : (l.drop a).getD i d = l.getD (a + i) d := by rw [List.getD_eq_getElem?_getD, List.getElem?_drop, ← List.getD_eq_getElem?_getD]
theorem map_getD {α β : Type} (f : α → β) {l : List α} {i : Nat} (h : i < l.length) (d : α) {z : β} : (l.map f).getD i z = f (l.getD i d) := by rw [List.getD_eq_getElem?_getD, List.getElem?_map, List.getElem?_eq_getElem h, List.getD_eq_getElem?_getD, List.getElem?_eq_getElem h]; rfl
instance tyInI : InTy Tryz.prog 3 := ⟨⟨.i64, by kernel_rfl⟩⟩
section
variable {p m : Int} {mod : List Int} [hF : IsF p m mod]
open Po Vc
structure RowL (f : Po (El p m mod)) (n j : Nat) (xs : List Int) : Prop where
 len : xs.length = n
 good : AllIn (pw p m) xs
 lo : ∀ t, t < n → (el (xs.getD t 0) : El p m mod) = cf (xk f (j * (pw p m).toNat)) t - (if t = j then 1 else 0)
theorem RowL.row {f : Po (El p m mod)} {n j : Nat} {xs : List Int} (h : RowL f n j xs) (hj : j < n) : RowS f n j ((xs ++ List.replicate n 0).set (n + j) 1) := by
 have hq := hF.q2
 have hl := h.len
 have hg : AllIn (pw p m) (xs ++ List.replicate n 0) := fun x hx => by
  rcases List.mem_append.1 hx with hx | hx
  ·exact h.good x hx
  ·rw [List.eq_of_mem_replicate hx]; omega
 have hget : ∀ t, (xs ++ List.replicate n (0 : Int)).getD t 0 = xs.getD t 0 := fun t => by
  rw [List.getD_eq_getElem?_getD, List.getElem?_append]
  by_cases ht : t < xs.length
  ·rw [if_pos ht, List.getD_eq_getElem?_getD]
  ·rw [if_neg ht, List.getElem?_replicate, getD_out (by omega)]
   split <;> rfl
 refine ⟨by simp; omega, hg.set (by omega) _, fun t ht => ?_, fun t ht => ?_⟩
 ·rw [getD_set, if_neg (by omega), hget]; exact h.lo t ht
 ·rw [getD_set]
  by_cases e : j = t
  ·rw [if_pos ⟨by omega, by simp; omega⟩, el_one, if_pos e.symm]
  ·rw [if_neg (by omega), hget, getD_out (by omega), el_zero, if_neg (fun x => e x.symm)]
def PolR (os : List RowM) (bs : List (Po (El p m mod))) : Prop := os.length = bs.length ∧ ∀ i, i < os.length → (pol (os.getD i rowD).xs : Po (El p m mod)) = bs.getD i 0 ∧ (os.getD i rowD).xs.length ≤ 256
end
theorem ref_SubE_ent : Enters Tryz.prog 144 := enters_of Tryz.func144 (by kernel_rfl) (by kernel_rfl)
theorem ref_SubE (p m : Int) (A : Option Addr) (c : Nat) (mod : List Int) [hF : IsF p m mod] (x y : Int) :
  Pure Tryz.prog 144 #[.agg #[.int .i64 p, .int .i64 m, .slice A mod.length c], .int .i64 x, .int .i64 y] [ro A (ints mod)] (isV (.int .i64 (el x - el y : El p m mod).1)) := by
 refine pure_of (args := [.agg #[.int .i64 p, .int .i64 m, .slice A mod.length c], .int .i64 x, .int .i64 y]) 13 Tryz.func144 rfl rfl rfl ref_SubE_ent ⟨id, trivial⟩ (fun w0 => ?_)
 refine tS ?_
 refine tR fun _ _ _ => ?_
 refine eV (eBox rfl rfl rfl rfl rfl (fun p0 => ?_))
 refine pV ?_
 refine tS ?_
 refine tr_draw [0, 1, 2, 3, 4, 5, 6] [] mixed (by kernel_rfl) fun _ _ _ => ?_
 refine sV (rLdS rfl rfl rfl) ?_
 refine pV ?_
 refine sV (rLdS rfl rfl rfl) ?_
 refine pV ?_
 refine eV (eCallV rfl rfl rfl (ref_NegE p m A c mod _) ⟨rfl, rfl, trivial⟩ ?_)
 refine eV (eCallV rfl rfl rfl (ref_AddE p m A c mod _ _) ⟨rfl, rfl, rfl, trivial⟩ ?_)
 refine pV ?_
 exact tr_ret ⟨trivial, _, _, rfl, ⟨by rw [el_of, ← Rg.sub_def], rfl⟩, CSub.nil _, trivial⟩
theorem ref_null6_ent : Enters Tryz.prog 145 := enters_of Tryz.func145 (by kernel_rfl) (by kernel_rfl)
theorem ref_null6 (p m : Int) (A : Option Addr) (c : Nat) (mod : List Int) [hF : IsF p m mod] (X : Option Addr) (cx N : Nat) (rs0 : List RowM) (f : Po (El p m mod)) (hr0 : rs0.length = N) (hN : Po.len f = N + 1) (hN1 : 1 ≤ N) (hl : Po.lead f = 1) (h9 : Po.len f ≤ 257) (hrows : ∀ j, j < N → RowL f N j (rs0.getD j rowD).xs) :
  Pure Tryz.prog 145 #[.agg #[.int .i64 p, .int .i64 m, .slice A mod.length c], .slice X N cx] [ro A (ints mod), ro X (hdrs rs0), rowsR rs0] (two (fun v ca cb => ∃ B cap os, ∃ bs : List (Po (El p m mod)), v = .slice B os.length cap ∧ ca = ow B 22 cap (hdrs os) ∧ cb = rowsX os ∧ PolR os bs ∧ Bss f bs ∧ os.length ≤ 256)) := by
 have hq2 := hF.q2
 have hq9 := hF.out.1.1.q
 have hf0 : f ≠ 0 := lead1_ne hl
 refine pure_of (args := [.agg #[.int .i64 p, .int .i64 m, .slice A mod.length c], .slice X N cx]) 159 Tryz.func145 rfl rfl rfl ref_null6_ent ⟨id, id, id, trivial⟩ (fun w0 => ?_)
 refine tS ?_
 refine tR fun _ _ _ => ?_
 refine eV (eBox rfl rfl rfl rfl rfl (fun p0 => ?_))
 refine pV ?_
 refine tS ?_
 refine tR fun _ _ _ => ?_
 refine pV ?_
 refine sV (rLen rfl rfl) ?_
 refine pV ?_
 refine tS ?_
 refine tR fun _ _ _ => ?_
 refine pV ?_
 refine eV (eMake rfl rfl rfl rfl rfl (by omega) (by omega) (by omega) (fun A2 => ?_))
 refine pV ?_
 rw [Int.toNat_natCast, hdrs_rep]
 refine tS ?_
 refine tS ?_
 refine tR fun _ _ _ => ?_
 refine pV ?_
 refine tB ?_
 refine tr_loop2 (fun (i : Int) (rs : List RowM) => [(5, .int .i64 (N : Int)), (6, .slice A2 N N), (7, .int .i64 i), (1, .slice X N cx), (2, .pointer (some p0)), (4, .slice none 0 0)]) (fun (i : Int) (rs : List RowM) => [ow A2 22 N (hdrs rs), rowsCh 3 rs, blk p0 24 [.int .i64 p, .int .i64 m, .slice A mod.length c], ro A (ints mod), ro X (hdrs rs0), rowsR rs0]) (fun (i : Int) (rs : List RowM) => (0 ≤ i ∧ i ≤ N) ∧ rs.length = N ∧ ∀ j, j < i.toNat → RowS f N j (rs.getD j rowD).xs) (fun (i : Int) (rs : List RowM) => (N - i).toNat) (0) (List.replicate N rowD) ⟨rfl, rfl, rfl, rfl, rfl, rfl, trivial⟩ (by exact (rows_rep 3 _ N).trans (cs _ _)) (⟨⟨by omega, by omega⟩, by simp, fun j hj => absurd hj (by omega)⟩) (fun i rs hI => ?_)
 obtain ⟨⟨hi0, hi1⟩, hrl, hrs⟩ := hI
 refine tS ?_
 refine tS ?_
 refine tR fun _ _ _ => ?_
 iterate 3 refine pV ?_
 refine tC rfl (fun h4 => ?_) (fun h4 => ?_)
 ·try simp only [zbA] at h4
  refine tK ?_
  refine tS ?_
  refine tB ?_
  refine tS ?_
  haveI : InB i.toNat rs0.length := ⟨by omega⟩
  have hri := hrows i.toNat (by omega)
  have hri1 := hri.len
  refine tR fun _ _ _ => ?_
  iterate 2 refine pV ?_
  refine eV (eLit0I rfl rfl rfl (fun A6 => ?_))
  iterate 2 refine pV ?_
  refine sV (rIdxR rfl rfl rfl (by omega) (by omega) (by omega)) ?_
  refine sV (rLdR rfl rfl (by omega)) ?_
  refine eV (eAppI rfl rfl rfl rfl rfl rfl rfl (by rw [List.length_nil]; omega) (fun A6a c6a => ?_))
  refine pV ?_
  rw [List.nil_append]
  refine eV (eAppZ rfl rfl rfl rfl rfl (by first | rfl | simp | omega) (by omega) (fun A6b c6b => ?_))
  refine sV (rIdxR rfl rfl rfl (by omega) (by omega) (by omega)) ?_
  refine eV (eSt rfl rfl rfl rfl (by first | omega | (simp; omega)) rfl rfl ?_)
  obtain ⟨X1, hX1⟩ : ∃ X1, X1 = ((rs0.getD i.toNat rowD).xs ++ List.replicate N 0) := ⟨_, rfl⟩
  have hX1l : X1.length = 2 * N := by rw [hX1, List.length_append, List.length_replicate]; omega
  rw [← hX1]
  have e5 : (hdrs rs).set i.toNat (.slice A6b X1.length c6b) = hdrs (rs.set i.toNat ⟨A6b, c6b, X1⟩) := by rw [hdrs_set]; simp [RowM.hdr]
  rw [e5]
  haveI : InB i.toNat (rs.set i.toNat ⟨A6b, c6b, X1⟩).length := ⟨by rw [List.length_set]; omega⟩
  have hgt : (rs.set i.toNat (⟨A6b, c6b, X1⟩ : RowM)).getD i.toNat rowD = ⟨A6b, c6b, X1⟩ := by rw [row_set, if_pos ⟨rfl, by omega⟩]
  have hrsl : (rs.set i.toNat (⟨A6b, c6b, X1⟩ : RowM)).length = N := by rw [List.length_set]; exact hrl
  refine tR fun _ _ _ => ?_
  iterate 2 refine pV ?_
  refine sV (rIdxR rfl rfl rfl (by omega) (by omega) (by omega)) ?_
  refine sV (rLdR rfl rfl (by omega)) ?_
  rw [hgt]
  simp only
  iterate 2 refine pV ?_
  refine sV (rAdd rfl rfl rfl (by omega) (by omega)) ?_
  refine sV (rIdxI rfl rfl rfl (by omega) (by omega) (by omega)) ?_
  rw [show ((N : Int) + i).toNat = N + i.toNat by omega]
  refine eV (eStI rfl rfl rfl rfl (by omega) ?_)
  have hR : RowS f N i.toNat (X1.set (N + i.toNat) 1) := by rw [hX1]; exact hri.row (by omega)
  have hset : hdrs (rs.set i.toNat ⟨A6b, c6b, X1⟩) = hdrs (rs.set i.toNat ⟨A6b, c6b, X1.set (N + i.toNat) 1⟩) := by rw [hdrs_set, hdrs_set]; simp [RowM.hdr]
  rw [hset]
  refine tR fun _ _ _ => ?_
  refine pV ?_
  refine sV (rAdd rfl rfl rfl (by omega) (by omega)) ?_
  refine pV ?_
  refine ⟨i + 1, rs.set i.toNat ⟨A6b, c6b, X1.set (N + i.toNat) 1⟩, ⟨rfl, rfl, rfl, rfl, rfl, rfl, trivial⟩, by exact (cs _ [rowsCh 3 rs, ow A6b 3 c6b (ints (X1.set (N + i.toNat) 1)), ow A2 22 N (hdrs (rs.set i.toNat ⟨A6b, c6b, X1.set (N + i.toNat) 1⟩)), blk p0 24 [.int .i64 p, .int .i64 m, .slice A mod.length c], ro A (ints mod), ro X (hdrs rs0), rowsR rs0]).trans ((rows_put (r := ⟨A6b, c6b, X1.set (N + i.toNat) 1⟩) (show i.toNat < rs.length by omega) _).trans (cs _ _)), ?_⟩
  refine ⟨⟨⟨by omega, by omega⟩, by simpa using hrl, fun j hj => ?_⟩, by omega⟩
  rw [row_set]
  by_cases he : i.toNat = j
  ·rw [if_pos ⟨he, by omega⟩, ← he]; exact hR
  ·rw [if_neg (fun e => he e.1)]; exact hrs j (by omega)
 ·try simp only [zbA] at h4
  refine tE ?_
  refine tS ?_
  obtain ⟨hst, hgd0⟩ := rowS_sta hf0 hN hrl (fun j hj => hrs j (by omega))
  refine tR fun _ _ _ => ?_
  refine pV ?_
  refine tS ?_
  refine tS ?_
  refine tR fun _ _ _ => ?_
  refine pV ?_
  refine tB ?_
  refine tr_loop3 (fun (cc : Int) (a : Int) (rs : List RowM) => [(5, .int .i64 (N : Int)), (6, .slice A2 N N), (8, .int .i64 a), (9, .int .i64 cc), (2, .pointer (some p0)), (4, .slice none 0 0)]) (fun (cc : Int) (a : Int) (rs : List RowM) => [ow A2 22 N (hdrs rs), rowsCh 3 rs, blk p0 24 [.int .i64 p, .int .i64 m, .slice A mod.length c], ro A (ints mod), ro X (hdrs rs0), rowsR rs0]) (fun (cc : Int) (a : Int) (rs : List RowM) => (0 ≤ cc ∧ cc ≤ N) ∧ (0 ≤ a ∧ a ≤ cc) ∧ (rs.length = N ∧ Gd (pw p m) (2 * N) rs) ∧ Fwd f N (vsR rs) cc.toNat a.toNat) (fun (cc : Int) (a : Int) (rs : List RowM) => (N - cc).toNat) (0) (0) (rs) ⟨rfl, rfl, rfl, rfl, rfl, rfl, trivial⟩ (by first | exact cs _ _ | exact CSub.refl _) (⟨⟨by omega, by omega⟩, ⟨by omega, by omega⟩, ⟨hrl, hgd0⟩, hst.fwd hN⟩) (fun cc a rs hI => ?_)
  obtain ⟨⟨hc0, hc1⟩, ⟨ha0, ha1⟩, ⟨hrl, hgd⟩, hW⟩ := hI
  refine tS ?_
  refine tS ?_
  refine tR fun _ _ _ => ?_
  iterate 3 refine pV ?_
  refine tC rfl (fun h10 => ?_) (fun h10 => ?_)
  ·try simp only [zbA] at h10
   refine tK ?_
   refine tS ?_
   refine tB ?_
   refine tS ?_
   refine tR fun _ _ _ => ?_
   iterate 2 refine pV ?_
   refine tS ?_
   refine tB ?_
   refine tr_loop1 (fun (k : Int) => [(5, .int .i64 (N : Int)), (6, .slice A2 N N), (8, .int .i64 a), (9, .int .i64 cc), (10, .int .i64 k), (2, .pointer (some p0)), (4, .slice none 0 0), (45, .int .i64 cc), (46, .int .i64 (N : Int)), (50, .int .i64 a)]) (fun (k : Int) => [ow A2 22 N (hdrs rs), rowsCh 3 rs, blk p0 24 [.int .i64 p, .int .i64 m, .slice A mod.length c], ro A (ints mod), ro X (hdrs rs0), rowsR rs0]) (fun (k : Int) => (a ≤ k ∧ k ≤ N) ∧ ∀ i : Nat, a ≤ (i : Int) → (i : Int) < k → (rs.getD i rowD).xs.getD cc.toNat 0 = 0) (fun (k : Int) => (N - k).toNat) (a) ⟨rfl, rfl, rfl, rfl, rfl, rfl, rfl, rfl, rfl, rfl, trivial⟩ (by first | exact cs _ _ | exact CSub.refl _) (⟨⟨by omega, by omega⟩, fun i h1 h2 => by omega⟩) (fun k hI => ?_)
   obtain ⟨⟨hk0, hk1⟩, hkz⟩ := hI
   refine tS ?_
   refine tS ?_
   refine tR fun _ _ _ => ?_
   iterate 4 refine pV ?_
   refine stg rfl rfl rfl rfl rfl (fun hb => by (have hq := hb; try simp only [zbA] at hq); exact rMove rfl rfl) ?_
   refine stg rfl rfl rfl rfl rfl (fun hb => by (have hq := hb; try simp only [zbA] at hq); exact rMove rfl rfl) ?_
   refine stg rfl rfl rfl rfl rfl (fun hb => by (have hq := hb; try simp only [zbA] at hq); exact rIdxR rfl (evg rfl hb) (evg rfl hb) (by omega) (by omega) (by omega)) ?_
   refine stg rfl rfl rfl rfl rfl (fun hb => by (have hq := hb; try simp only [zbA] at hq); exact rLdR rfl (evg rfl hb) (by omega)) ?_
   refine stg rfl rfl rfl rfl rfl (fun hb => by (have hq := hb; try simp only [zbA] at hq); exact rMove rfl rfl) ?_
   refine stg rfl rfl rfl rfl rfl (fun hb => by (have hq := hb; try simp only [zbA] at hq); exact (haveI : InB k.toNat rs.length := ⟨by omega⟩; have hw := (hgd.get (show k.toNat < rs.length by omega)).1; rIdxI rfl (evg rfl hb) (evg rfl hb) (by omega) (by omega) (by omega))) ?_
   refine stg rfl rfl rfl rfl rfl (fun hb => by (have hq := hb; try simp only [zbA] at hq); exact (haveI : InB k.toNat rs.length := ⟨by omega⟩; have hw := (hgd.get (show k.toNat < rs.length by omega)).1; rLdI rfl (evg rfl hb) (by omega))) ?_
   refine stg rfl rfl rfl rfl rfl (fun hb => by (have hq := hb; try simp only [zbA] at hq); exact rEql rfl (evg rfl hb) rfl) ?_
   refine sV (rAndB rfl rfl rfl rfl) ?_
   refine tC rfl (fun h13 => ?_) (fun h13 => ?_)
   ·try simp only [zbA] at h13
    refine tK ?_
    refine tB ?_
    refine tR fun _ _ _ => ?_
    refine pV ?_
    refine sV (rAdd rfl rfl rfl (by omega) (by omega)) ?_
    refine pV ?_
    refine ⟨k + 1, ⟨rfl, rfl, rfl, rfl, rfl, rfl, rfl, rfl, rfl, rfl, trivial⟩, by first | exact cs _ _ | exact CSub.refl _, ?_⟩
    refine ⟨⟨⟨by omega, by omega⟩, fun i h1 h2 => ?_⟩, by omega⟩
    by_cases he : (i : Int) = k
    ·have : i = k.toNat := by omega
     rw [this]; exact h13.2
    ·exact hkz i h1 (by omega)
   ·try simp only [zbA] at h13
    refine tE ?_
    refine tS ?_
    refine tS ?_
    refine tR fun _ _ _ => ?_
    iterate 3 refine pV ?_
    refine tC rfl (fun h15 => ?_) (fun h15 => ?_)
    ·try simp only [zbA] at h15
     refine tE ?_
     refine tR fun _ _ _ => ?_
     refine pV ?_
     refine sV (rAdd rfl rfl rfl (by omega) (by omega)) ?_
     refine pV ?_
     refine ⟨cc + 1, a, rs, ⟨rfl, rfl, rfl, rfl, rfl, rfl, trivial⟩, by first | exact cs _ _ | exact CSub.refl _, ?_⟩
     refine ⟨⟨⟨by omega, by omega⟩, ⟨ha0, by omega⟩, ⟨hrl, hgd⟩, ?_⟩, by omega⟩
     rw [show (cc + 1).toNat = cc.toNat + 1 by omega]
     exact hW.skip fun i h1 h2 => by rw [vsR_at, hkz i (by omega) (by omega), el_zero]
    ·try simp only [zbA] at h15
     refine tK ?_
     refine tS ?_
     have hne : (rs.getD k.toNat rowD).xs.getD cc.toNat 0 ≠ 0 := h13.resolve_left (fun h => h (by omega))
     haveI : InB k.toNat rs.length := ⟨by omega⟩
     haveI : InB a.toNat rs.length := ⟨by omega⟩
     refine tR fun _ _ _ => ?_
     iterate 2 refine pV ?_
     refine sV (rIdxR rfl rfl rfl (by omega) (by omega) (by omega)) ?_
     refine sV (rLdR rfl rfl (by omega)) ?_
     refine pV ?_
     refine tS ?_
     refine tR fun _ _ _ => ?_
     iterate 4 refine pV ?_
     refine sV (rIdxR rfl rfl rfl (by omega) (by omega) (by omega)) ?_
     refine sV (rLdR rfl rfl (by omega)) ?_
     refine sV (rIdxR rfl rfl rfl (by omega) (by omega) (by omega)) ?_
     refine eV (eSt rfl rfl rfl rfl (by first | omega | (simp; omega)) rfl rfl ?_)
     refine tS ?_
     have hgk : ((hdrs rs).set k.toNat (.slice (rs.getD a.toNat rowD).A (rs.getD a.toNat rowD).xs.length (rs.getD a.toNat rowD).cap)) = hdrs (rs.set k.toNat (rs.getD a.toNat rowD)) := by rw [hdrs_set]; rfl
     rw [hgk]
     have hrsl : (rs.set k.toNat (rs.getD a.toNat rowD)).length = N := by rw [List.length_set]; exact hrl
     refine tR fun _ _ _ => ?_
     iterate 3 refine pV ?_
     refine sV (rIdxR rfl rfl rfl (by omega) (by omega) (by omega)) ?_
     refine eV (eSt rfl rfl rfl rfl (by first | omega | (simp; omega)) rfl rfl ?_)
     have hh : (hdrs (rs.set k.toNat (rs.getD a.toNat rowD))).set a.toNat (.slice (rs.getD k.toNat rowD).A (rs.getD k.toNat rowD).xs.length (rs.getD k.toNat rowD).cap) = hdrs ((rs.set k.toNat (rs.getD a.toNat rowD)).set a.toNat (rs.getD k.toNat rowD)) := (hdrs_set _ _ _).symm
     rw [hh]
     refine tr_chunks _ ((cs _ [rowsCh 3 rs, ow A2 22 N (hdrs ((rs.set k.toNat (rs.getD a.toNat rowD)).set a.toNat (rs.getD k.toNat rowD))), blk p0 24 [.int .i64 p, .int .i64 m, .slice A mod.length c], ro A (ints mod), ro X (hdrs rs0), rowsR rs0]).trans (rows_perm (swap_perm rowD rs (i := k.toNat) (j := a.toNat) (by omega) (by omega)) _)) ?_
     have hrl3 : ((rs.set k.toNat (rs.getD a.toNat rowD)).set a.toNat (rs.getD k.toNat rowD)).length = N := by simpa using hrl
     have hgd3 := hgd.perm (swap_perm rowD rs (i := k.toNat) (j := a.toNat) (by omega) (by omega))
     have hW3 : Fwd f N (vsR ((rs.set k.toNat (rs.getD a.toNat rowD)).set a.toNat (rs.getD k.toNat rowD))) cc.toNat a.toNat := by
      have := hW.swap (k := k.toNat) (by omega) (by omega)
      rw [vsR_get, vsR_get] at this
      rw [vsR_set, vsR_set]
      by_cases e : k.toNat = a.toNat
      ·rw [e] at this ⊢; exact this
      ·rw [List.set_comm _ _ e]; exact this
     have hne3 : (((rs.set k.toNat (rs.getD a.toNat rowD)).set a.toNat (rs.getD k.toNat rowD)).getD a.toNat rowD).xs.getD cc.toNat 0 ≠ 0 := by
      rw [row_set, if_pos ⟨rfl, by simp; omega⟩]; exact hne
     generalize (rs.set k.toNat (rs.getD a.toNat rowD)).set a.toNat (rs.getD k.toNat rowD) = r3 at hrl3 hgd3 hW3 hne3
     refine tS ?_
     refine tS ?_
     refine tR fun _ _ _ => ?_
     refine pV ?_
     refine sV (rAdd rfl rfl rfl (by omega) (by omega)) ?_
     refine pV ?_
     refine tB ?_
     refine tr_loop2 (fun (i : Int) (r5 : List RowM) => [(5, .int .i64 (N : Int)), (6, .slice A2 N N), (8, .int .i64 a), (9, .int .i64 cc), (12, .int .i64 i), (2, .pointer (some p0)), (4, .slice none 0 0), (10, .int .i64 k), (45, .int .i64 cc), (46, .int .i64 (N : Int)), (50, .int .i64 a), (51, .int .i64 k), (52, .int .i64 (N : Int)), (66, .int .i64 k), (67, .int .i64 (N : Int)), (69, .slice A2 N N), (70, .int .i64 k), (73, .slice A2 N N), (74, .int .i64 k), (75, .slice A2 N N), (76, .int .i64 a), (80, .slice A2 N N), (81, .int .i64 a), (84, .int .i64 a)]) (fun (i : Int) (r5 : List RowM) => [ow A2 22 N (hdrs r5), rowsCh 3 r5, blk p0 24 [.int .i64 p, .int .i64 m, .slice A mod.length c], ro A (ints mod), ro X (hdrs rs0), rowsR rs0]) (fun (i : Int) (r5 : List RowM) => (a + 1 ≤ i ∧ i ≤ N) ∧ (r5.length = N ∧ Gd (pw p m) (2 * N) r5) ∧ Fwd f N (vsR r5) cc.toNat a.toNat ∧ (r5.getD a.toNat rowD).xs.getD cc.toNat 0 ≠ 0 ∧ ∀ t : Nat, a < (t : Int) → (t : Int) < i → (r5.getD t rowD).xs.getD cc.toNat 0 = 0) (fun (i : Int) (r5 : List RowM) => (N - i).toNat) (a + 1) (r3) ⟨rfl, rfl, rfl, rfl, rfl, rfl, rfl, rfl, rfl, rfl, rfl, rfl, rfl, rfl, rfl, rfl, rfl, rfl, rfl, rfl, rfl, rfl, rfl, rfl, trivial⟩ (by first | exact cs _ _ | exact CSub.refl _) (⟨⟨by omega, by omega⟩, ⟨hrl3, hgd3⟩, hW3, hne3, fun t h1 h2 => by omega⟩) (fun i r5 hI => ?_)
     obtain ⟨⟨hi0, hi1⟩, ⟨hrl5, hgd5⟩, hW5, hne5, hz5⟩ := hI
     refine tS ?_
     refine tS ?_
     refine tR fun _ _ _ => ?_
     iterate 3 refine pV ?_
     refine tC rfl (fun h20 => ?_) (fun h20 => ?_)
     ·try simp only [zbA] at h20
      refine tK ?_
      refine tS ?_
      refine tB ?_
      refine tS ?_
      haveI : InB i.toNat r5.length := ⟨by omega⟩
      haveI : InB a.toNat r5.length := ⟨by omega⟩
      have hwi := hgd5.get (show i.toNat < r5.length by omega)
      have hwa := hgd5.get (show a.toNat < r5.length by omega)
      have hwi1 := hwi.1
      have hwa1 := hwa.1
      have hena := hwa.2.get (by omega) cc.toNat
      have hnz5 : (el ((r5.getD a.toNat rowD).xs.getD cc.toNat 0) : El p m mod) ≠ 0 := fun e => hne5 ((el_eq_zero hena).1 e)
      refine tr_draw [0, 1, 2, 3, 4, 5, 6, 7, 8, 9, 10, 11, 12, 13, 14, 15, 16, 17, 18] [] mixed (by kernel_rfl) fun _ _ _ => ?_
      refine sV (rLdS rfl rfl rfl) ?_
      iterate 2 refine pV ?_
      refine sV (rIdxR rfl rfl rfl (by omega) (by omega) (by omega)) ?_
      refine sV (rLdR rfl rfl (by omega)) ?_
      refine pV ?_
      refine sV (rIdxI rfl rfl rfl (by omega) (by omega) (by omega)) ?_
      refine sV (rLdI rfl rfl (by omega)) ?_
      refine sV (rLdS rfl rfl rfl) ?_
      iterate 2 refine pV ?_
      refine sV (rIdxR rfl rfl rfl (by omega) (by omega) (by omega)) ?_
      refine sV (rLdR rfl rfl (by omega)) ?_
      refine pV ?_
      refine sV (rIdxI rfl rfl rfl (by omega) (by omega) (by omega)) ?_
      refine sV (rLdI rfl rfl (by omega)) ?_
      refine eV (eCallV rfl rfl rfl (ref_InvE p m A c mod _) ⟨rfl, rfl, trivial⟩ ?_)
      refine eV (eCallV rfl rfl rfl (ref_MulE p m A c mod _ _) ⟨rfl, rfl, rfl, trivial⟩ ?_)
      refine pV ?_
      rw [el_of]
      refine tS ?_
      refine tR fun _ _ _ => ?_
      refine pV ?_
      refine tr_chunks _ (((cs _ [rowsCh 3 r5, ow A2 22 N (hdrs r5), blk p0 24 [.int .i64 p, .int .i64 m, .slice A mod.length c], ro A (ints mod), ro X (hdrs rs0), rowsR rs0]).trans (rows_out (show i.toNat < r5.length by omega) _) : CSub _ [ow (r5.getD i.toNat rowD).A 3 (r5.getD i.toNat rowD).cap (ints (r5.getD i.toNat rowD).xs), rowsCh 3 (r5.eraseIdx i.toNat), ow A2 22 N (hdrs r5), blk p0 24 [.int .i64 p, .int .i64 m, .slice A mod.length c], ro A (ints mod), ro X (hdrs rs0), rowsR rs0])) ?_
      haveI : RowIn (r5.getD a.toNat rowD) (r5.eraseIdx i.toNat) := ⟨mem_erase (by omega) (by omega)⟩
      refine tB ?_
      refine tr_loop2 (fun (j : Int) (x : List Int) => [(5, .int .i64 (N : Int)), (6, .slice A2 N N), (8, .int .i64 a), (9, .int .i64 cc), (12, .int .i64 i), (13, .int .i64 (el ((r5.getD i.toNat rowD).xs.getD cc.toNat 0) * Fd.inv (el ((r5.getD a.toNat rowD).xs.getD cc.toNat 0)) : El p m mod).1), (14, .int .i64 j), (2, .pointer (some p0)), (4, .slice none 0 0), (10, .int .i64 k), (45, .int .i64 cc), (46, .int .i64 (N : Int)), (50, .int .i64 a), (51, .int .i64 k), (52, .int .i64 (N : Int)), (66, .int .i64 k), (67, .int .i64 (N : Int)), (69, .slice A2 N N), (70, .int .i64 k), (73, .slice A2 N N), (74, .int .i64 k), (75, .slice A2 N N), (76, .int .i64 a), (80, .slice A2 N N), (81, .int .i64 a), (84, .int .i64 a), (86, .int .i64 i), (87, .int .i64 (N : Int)), (91, .agg #[.int .i64 p, .int .i64 m, .slice A mod.length c]), (92, .slice A2 N N), (93, .int .i64 i), (96, .int .i64 cc), (99, .agg #[.int .i64 p, .int .i64 m, .slice A mod.length c]), (100, .slice A2 N N), (101, .int .i64 a), (104, .int .i64 cc)]) (fun (j : Int) (x : List Int) => [ow (r5.getD i.toNat rowD).A 3 (r5.getD i.toNat rowD).cap (ints x), rowsCh 3 (r5.eraseIdx i.toNat), ow A2 22 N (hdrs r5), blk p0 24 [.int .i64 p, .int .i64 m, .slice A mod.length c], ro A (ints mod), ro X (hdrs rs0), rowsR rs0]) (fun (j : Int) (x : List Int) => (0 ≤ j ∧ j ≤ 2 * N) ∧ x.length = 2 * N ∧ ∀ t : Nat, t < 2 * N → x.getD t 0 = if (t : Int) < j then (el ((r5.getD i.toNat rowD).xs.getD t 0) - (el ((r5.getD i.toNat rowD).xs.getD cc.toNat 0) * Fd.inv (el ((r5.getD a.toNat rowD).xs.getD cc.toNat 0)) : El p m mod) * el ((r5.getD a.toNat rowD).xs.getD t 0) : El p m mod).1 else (r5.getD i.toNat rowD).xs.getD t 0) (fun (j : Int) (x : List Int) => (2 * N - j).toNat) (0) ((r5.getD i.toNat rowD).xs) ⟨rfl, rfl, rfl, rfl, rfl, rfl, rfl, rfl, rfl, rfl, rfl, rfl, rfl, rfl, rfl, rfl, rfl, rfl, rfl, rfl, rfl, rfl, rfl, rfl, rfl, rfl, rfl, rfl, rfl, rfl, rfl, rfl, rfl, rfl, rfl, rfl, trivial⟩ (by first | exact cs _ _ | exact CSub.refl _) (⟨⟨by omega, by omega⟩, hwi.1, fun t ht => by rw [if_neg (by omega)]⟩) (fun j x hI => ?_)
      obtain ⟨⟨hj0, hj1⟩, hxl2, hx⟩ := hI
      refine tS ?_
      refine tS ?_
      refine tR fun _ _ _ => ?_
      iterate 2 refine pV ?_
      refine sV (rMul rfl rfl rfl (by omega) (by omega)) ?_
      refine pV ?_
      refine tC rfl (fun h24 => ?_) (fun h24 => ?_)
      ·try simp only [zbA] at h24
       refine tK ?_
       refine tS ?_
       refine tB ?_
       refine tr_draw [0, 1, 2, 3, 4, 5, 6, 7, 8, 9, 10, 11, 12, 13, 14, 15, 16, 17, 18, 19, 20, 21, 22, 23, 24] [25] mixed (by kernel_rfl) fun _ _ _ => ?_
       iterate 2 refine pV ?_
       refine sV (rIdxR rfl rfl rfl (by omega) (by omega) (by omega)) ?_
       refine sV (rLdR rfl rfl (by omega)) ?_
       refine pV ?_
       refine sV (rLdS rfl rfl rfl) ?_
       iterate 2 refine pV ?_
       refine sV (rIdxR rfl rfl rfl (by omega) (by omega) (by omega)) ?_
       refine sV (rLdR rfl rfl (by omega)) ?_
       refine pV ?_
       refine sV (rIdxI rfl rfl rfl (by omega) (by omega) (by omega)) ?_
       refine sV (rLdI rfl rfl (by omega)) ?_
       refine sV (rLdS rfl rfl rfl) ?_
       iterate 3 refine pV ?_
       refine sV (rIdxR rfl rfl rfl (by omega) (by omega) (by omega)) ?_
       refine sV (rLdR rfl rfl (by omega)) ?_
       refine pV ?_
       refine sV (rIdxI rfl rfl rfl (by omega) (by omega) (by omega)) ?_
       refine sV (rLdI rfl rfl (by omega)) ?_
       refine eV (eCallV rfl rfl rfl (ref_MulE p m A c mod _ _) ⟨rfl, rfl, rfl, trivial⟩ ?_)
       refine eV (eCallV rfl rfl rfl (ref_SubE p m A c mod _ _) ⟨rfl, rfl, rfl, trivial⟩ ?_)
       refine sV (rIdxI rfl rfl rfl (by omega) (by omega) (by omega)) ?_
       refine eV (eStI rfl rfl rfl rfl (by omega) ?_)
       refine tR fun _ _ _ => ?_
       refine pV ?_
       refine sV (rAdd rfl rfl rfl (by omega) (by omega)) ?_
       refine pV ?_
       refine ⟨j + 1, x.set j.toNat (el (x.getD j.toNat 0) - el (el ((el ((r5.getD i.toNat rowD).xs.getD cc.toNat 0) * Fd.inv (el ((r5.getD a.toNat rowD).xs.getD cc.toNat 0)) : El p m mod)).1 * el ((r5.getD a.toNat rowD).xs.getD j.toNat 0) : El p m mod).1 : El p m mod).1, ⟨rfl, rfl, rfl, rfl, rfl, rfl, rfl, rfl, rfl, rfl, rfl, rfl, rfl, rfl, rfl, rfl, rfl, rfl, rfl, rfl, rfl, rfl, rfl, rfl, rfl, rfl, rfl, rfl, rfl, rfl, rfl, rfl, rfl, rfl, rfl, rfl, trivial⟩, by first | exact cs _ _ | exact CSub.refl _, ?_⟩
       refine ⟨⟨⟨by omega, by omega⟩, by simpa using hxl2, fun t ht => ?_⟩, by omega⟩
       rw [getD_set]
       by_cases he : j.toNat = t
       ·subst he
        rw [if_pos ⟨rfl, by omega⟩, if_pos (by omega), hx _ (by omega), if_neg (by omega), el_of, el_of]
       ·rw [if_neg (fun e => he e.1), hx t ht]
        by_cases hct : (t : Int) < j
        ·rw [if_pos hct, if_pos (by omega)]
        ·rw [if_neg hct, if_neg (by omega)]
      ·try simp only [zbA] at h24
       have hset : hdrs (r5.set i.toNat (⟨(r5.getD i.toNat rowD).A, (r5.getD i.toNat rowD).cap, x⟩ : RowM)) = hdrs r5 := by
        have e1 : RowM.hdr (⟨(r5.getD i.toNat rowD).A, (r5.getD i.toNat rowD).cap, x⟩ : RowM) = RowM.hdr (r5.getD i.toNat rowD) := by simp only [RowM.hdr]; rw [hxl2, hwi1]
        rw [hdrs_set, e1, ← hdrs_set]
        congr 1
        rw [List.getD_eq_getElem?_getD, List.getElem?_eq_getElem (show i.toNat < r5.length by omega)]
        exact List.set_getElem_self _
       refine tE ?_
       refine tR fun _ _ _ => ?_
       refine pV ?_
       refine sV (rAdd rfl rfl rfl (by omega) (by omega)) ?_
       refine pV ?_
       refine ⟨i + 1, r5.set i.toNat (⟨(r5.getD i.toNat rowD).A, (r5.getD i.toNat rowD).cap, x⟩ : RowM), ⟨rfl, rfl, rfl, rfl, rfl, rfl, rfl, rfl, rfl, rfl, rfl, rfl, rfl, rfl, rfl, rfl, rfl, rfl, rfl, rfl, rfl, rfl, rfl, rfl, trivial⟩, by rw [show hdrs (r5.set i.toNat (⟨(r5.getD i.toNat rowD).A, (r5.getD i.toNat rowD).cap, x⟩ : RowM)) = hdrs r5 from hset]; exact (cs _ [ow (r5.getD i.toNat rowD).A 3 (r5.getD i.toNat rowD).cap (ints x), rowsCh 3 (r5.eraseIdx i.toNat), ow A2 22 N (hdrs r5), blk p0 24 [.int .i64 p, .int .i64 m, .slice A mod.length c], ro A (ints mod), ro X (hdrs rs0), rowsR rs0]).trans ((rows_in (r := (⟨(r5.getD i.toNat rowD).A, (r5.getD i.toNat rowD).cap, x⟩ : RowM)) (show i.toNat < r5.length by omega) _).trans (cs _ _)), ?_⟩
       have hxe : x = addR (-(el ((r5.getD i.toNat rowD).xs.getD cc.toNat 0) * Fd.inv (el ((r5.getD a.toNat rowD).xs.getD cc.toNat 0)) : El p m mod)) (r5.getD i.toNat rowD).xs (r5.getD a.toNat rowD).xs := row_part (c := 0) (by omega) (by omega) hwi.2 (fun t ht => by rw [hx t (by omega), if_pos (by omega), if_pos (by omega)]) (fun t ht => absurd ht (by omega))
       refine ⟨⟨⟨by omega, by omega⟩, ⟨by simpa using hrl5, hgd5.set _ hxl2 ?_⟩, ?_, ?_, fun t h1 h2 => ?_⟩, by omega⟩
       ·rw [hxe]; exact addR_in _ _ _
       ·have := hW5.plus (i := i.toNat) (by omega) (by omega) (-(el ((r5.getD i.toNat rowD).xs.getD cc.toNat 0) * Fd.inv (el ((r5.getD a.toNat rowD).xs.getD cc.toNat 0)) : El p m mod))
        rw [vsR_get, vsR_get] at this
        rw [vsR_set, hxe, rw_addR _ _ _ (by omega)]; exact this
       ·rw [row_set, if_neg (by omega)]; exact hne5
       ·rw [row_set]
        split
        ·rename_i he
         obtain ⟨rfl, he⟩ := he
         show x.getD cc.toNat 0 = 0
         rw [hxe, addR_get _ _ _ (by omega)]
         refine congrArg Subtype.val (show (_ : El p m mod) = 0 from ?_)
         have := Fd.inv_mul _ hnz5
         grind
        ·exact hz5 t h1 (by omega)
     ·try simp only [zbA] at h20
      refine tE ?_
      refine tR fun _ _ _ => ?_
      refine pV ?_
      refine sV (rAdd rfl rfl rfl (by omega) (by omega)) ?_
      refine pV ?_
      refine tR fun _ _ _ => ?_
      refine pV ?_
      refine sV (rAdd rfl rfl rfl (by omega) (by omega)) ?_
      refine pV ?_
      refine ⟨cc + 1, a + 1, r5, ⟨rfl, rfl, rfl, rfl, rfl, rfl, trivial⟩, by first | exact cs _ _ | exact CSub.refl _, ?_⟩
      refine ⟨⟨⟨by omega, by omega⟩, ⟨by omega, by omega⟩, ⟨hrl5, hgd5⟩, ?_⟩, by omega⟩
      rw [show (cc + 1).toNat = cc.toNat + 1 by omega, show (a + 1).toNat = a.toNat + 1 by omega]
      have hena := (hgd5.get (show a.toNat < r5.length by omega)).2.get (by omega) cc.toNat
      refine hW5.push (by omega) (by omega) ?_ (fun i h1 h2 => ?_)
      ·rw [vsR_at]; exact fun e => hne5 ((el_eq_zero hena).1 e)
      ·rw [vsR_at, hz5 i (by omega) (by omega), el_zero]
  ·try simp only [zbA] at h10
   refine tE ?_
   refine tS ?_
   refine tr_capR 3 rs fun hcap => ?_
   refine tR fun _ _ _ => ?_
   refine eV (eLit0R rfl rfl rfl (fun A28 => ?_))
   refine pV ?_
   refine tS ?_
   refine tS ?_
   refine tR fun _ _ _ => ?_
   iterate 2 refine pV ?_
   refine tB ?_
   refine tr_loop4 (fun (t : Int) (Bq : Option Addr) (cq : Nat) (os : List RowM) => [(5, .int .i64 (N : Int)), (6, .slice A2 N N), (16, .int .i64 t), (15, .slice Bq os.length cq), (4, .slice none 0 0)]) (fun (t : Int) (Bq : Option Addr) (cq : Nat) (os : List RowM) => [ow Bq 22 cq (hdrs os), ow A2 22 N (hdrs rs), rowsCh 3 rs]) (fun (t : Int) (Bq : Option Addr) (cq : Nat) (os : List RowM) => (a ≤ t ∧ t ≤ N) ∧ os = ((rs.drop a.toNat).take (t.toNat - a.toNat)).map (cutR N)) (fun (t : Int) (Bq : Option Addr) (cq : Nat) (os : List RowM) => (N - t).toNat) (a) (A28) (0) ([]) ⟨rfl, rfl, rfl, rfl, rfl, trivial⟩ (by first | exact cs _ _ | exact CSub.refl _) (⟨⟨by omega, by omega⟩, by rw [Nat.sub_self]; rfl⟩) (fun t Bq cq os hI => ?_)
   obtain ⟨⟨ht0, ht1⟩, hos⟩ := hI
   have hol := congrArg List.length hos
   simp only [List.length_map, List.length_take, List.length_drop] at hol
   refine tS ?_
   refine tS ?_
   refine tR fun _ _ _ => ?_
   iterate 3 refine pV ?_
   refine tC rfl (fun h30 => ?_) (fun h30 => ?_)
   ·try simp only [zbA] at h30
    refine tK ?_
    refine tS ?_
    refine tB ?_
    haveI : InB t.toNat rs.length := ⟨by omega⟩
    have hmt := getD_mem (show t.toNat < rs.length by omega) rowD
    have hct := hcap _ hmt
    have hgt := (hgd _ hmt).1
    refine tR fun _ _ _ => ?_
    iterate 3 refine pV ?_
    refine sV (rIdxR rfl rfl rfl (by omega) (by omega) (by omega)) ?_
    refine sV (rLdR rfl rfl (by omega)) ?_
    refine pV ?_
    refine sV (rCut rfl rfl rfl (by omega) (by omega) (by omega)) ?_
    simp only [Int.toNat_natCast]
    refine eV (eLit1 rfl rfl rfl rfl rfl (fun A32 => ?_))
    refine eV (eAppR (xs := (rs.getD t.toNat rowD).xs.drop N) rfl rfl rfl rfl rfl (hr := by rw [List.length_drop]; infer_instance) (by first | rfl | simp | omega) (by omega) (fun A32a c32a => ?_))
    refine pV ?_
    rw [show (⟨cutA (rs.getD t.toNat rowD).A N (rs.getD t.toNat rowD).cap, (rs.getD t.toNat rowD).cap - N, List.drop N (rs.getD t.toNat rowD).xs⟩ : RowM) = cutR N (rs.getD t.toNat rowD) from rfl]
    refine tR fun _ _ _ => ?_
    refine pV ?_
    refine sV (rAdd rfl rfl rfl (by omega) (by omega)) ?_
    refine pV ?_
    refine ⟨t + 1, A32a, c32a, os ++ [cutR N (rs.getD t.toNat rowD)], ⟨rfl, rfl, rfl, rfl, rfl, trivial⟩, by first | exact cs _ _ | exact CSub.refl _, ?_⟩
    refine ⟨⟨⟨by omega, by omega⟩, ?_⟩, by omega⟩
    rw [show (t + 1).toNat - a.toNat = t.toNat - a.toNat + 1 by omega, take_getD (by rw [List.length_drop]; omega) rowD, List.map_append, ← hos]
    rw [drop_getDR, show a.toNat + (t.toNat - a.toNat) = t.toNat by omega]
    rfl
   ·try simp only [zbA] at h30
    refine tE ?_
    refine tS ?_
    refine tR fun _ _ _ => ?_
    iterate 2 refine pV ?_
    have hB := hW.done hN hst (by omega) (by omega)
    have htN : t.toNat - a.toNat = N - a.toNat := by omega
    rw [htN, List.take_of_length_le (by rw [List.length_drop]; omega)] at hos
    have hmem : ∀ q ∈ os, ∃ r ∈ rs, q = cutR N r := fun q hq => by
     rw [hos] at hq
     obtain ⟨r, hr, e⟩ := List.mem_map.1 hq
     exact ⟨r, List.mem_of_mem_drop hr, e.symm⟩
    have hpr : PolR os (((vsR rs : List (Vc (El p m mod))).drop a.toNat).map (rpV N)) := by
     refine ⟨by rw [hos]; simp, fun i hi => ?_⟩
     have hi2 : i < (rs.drop a.toNat).length := by rw [hos] at hi; simpa using hi
     have e1 : os.getD i rowD = cutR N ((rs.drop a.toNat).getD i rowD) := by
      rw [hos, List.getD_eq_getElem?_getD, List.getElem?_map, List.getD_eq_getElem?_getD, List.getElem?_eq_getElem hi2]; rfl
     have hgl := (hgd _ (List.mem_of_mem_drop (getD_mem hi2 rowD))).1
     rw [e1]
     refine ⟨?_, by show (List.drop N _).length ≤ 256; rw [List.length_drop]; omega⟩
     show pol (List.drop N _) = _
     rw [pol_drop hgl, xss_drop_rp (f := f), map_getD _ hi2 rowD]
    exact tr_ret ⟨trivial, _, _, rfl, ⟨_, _, rfl, Bq, cq, os, _, rfl, rfl, rfl, hpr, hB, by omega⟩, (cs _ [rowsCh 3 rs, ow Bq 22 cq (hdrs os)]).trans ((rowsX_cut N hcap hmem _).trans (cs _ _)), trivial, trivial, trivial⟩
end Go.Proofs.YtbhoeaijpnjgdaaGreat

set_option maxRecDepth 100000
set_option maxHeartbeats 1000000
namespace Go.Proofs.YtbhoeaijpnjgdaaGreat
open Go.RowKit
section
variable {p m : Int} {mod : List Int} [hF : IsF p m mod]
open Po Vc
theorem rowL_mk {f : Po (El p m mod)} (hf : f ≠ 0) {n j : Nat} (hl : len f = n + 1) (hj : j < n) {x : List Int} (h1 : x.length = n) (h2 : ∀ t, t < n → x.getD t 0 = (cf (xk f (j * (pw p m).toNat)) t).1) : RowL f n j (x.set j (el (x.getD j 0) - el 1 : El p m mod).1) := by
 have hq := hF.q2
 have hg : AllIn (pw p m) x := fun y hy => by
  obtain ⟨t, ht, rfl⟩ := List.getElem_of_mem hy
  have := h2 t (by omega)
  rw [List.getD_eq_getElem?_getD, List.getElem?_eq_getElem ht] at this
  have e : x[t] = (cf (xk f (j * (pw p m).toNat)) t : El p m mod).1 := this
  rw [e]; exact El.bd _
 refine ⟨by simpa using h1, hg.set (El.bd _) _, fun t ht => ?_⟩
 rw [getD_set]
 by_cases e : j = t
 ·rw [if_pos ⟨e, by omega⟩, el_of, if_pos e.symm, el_one, h2 j hj, el_of, e]
 ·rw [if_neg (fun x => e x.1), h2 t ht, el_of, if_neg (fun x => e x.symm), Rg.sub_zero]
end
theorem ref_fixed6_ent : Enters Tryz.prog 88 := enters_of Tryz.func88 (by kernel_rfl) (by kernel_rfl)
theorem ref_fixed6 (p m : Int) (A : Option Addr) (c : Nat) (mod : List Int) [hF : IsF p m mod] (X : Option Addr) (cx N : Nat) (f : Po (El p m mod)) (hN : Po.len f = N + 1) (hN1 : 1 ≤ N) (hl : Po.lead f = 1) (h9 : Po.len f ≤ 257) :
  Pure Tryz.prog 88 #[.agg #[.int .i64 p, .int .i64 m, .slice A mod.length c], .slice X (il f).length cx] [ro A (ints mod), ro X (ints (il f))] (two (fun v ca cb => ∃ B cap os, ∃ bs : List (Po (El p m mod)), v = .slice B os.length cap ∧ ca = ow B 22 cap (hdrs os) ∧ cb = rowsX os ∧ PolR os bs ∧ Bss f bs ∧ os.length ≤ 256)) := by
 have hq2 := hF.q2
 have hq9 := hF.out.1.1.q
 have hord := hF.ord
 have hf0 : f ≠ 0 := lead1_ne hl
 have hilf := il_length f
 have hfe : facE (Po.len (pol (il f) : Po (El p m mod))) = 0 := by rw [pol_il, facE, if_neg (by omega), if_neg (by omega)]
 have hxl : ∀ k, (il (xk f (k))).length ≤ N := fun k => by
  rw [il_length]
  have := Po.rem_len (Po.mn 1 k : Po (El p m mod)) hf0
  unfold xk; omega
 have h10 : ([1] : List Int) = il (xk f (Int.toNat 0 * (pw p m).toNat)) := by
  rw [show Int.toNat 0 * (pw p m).toNat = 0 by simp, xk_zero (by omega), il_one]
 have hx1 : Po.rem (Rg.pow (pol [0, 1] : Po (El p m mod)) (pw p m).toNat) (pol (il f)) = (xk f ((pw p m).toNat)) := by
  rw [pol_X01, pol_il]
  show Po.rem (Rg.pow (Po.mn 1 1) _) f = _
  rw [pow_mn, Nat.one_mul]; rfl
 refine pure_of (args := [.agg #[.int .i64 p, .int .i64 m, .slice A mod.length c], .slice X (il f).length cx]) 73 Tryz.func88 rfl rfl rfl ref_fixed6_ent ⟨id, id, trivial⟩ (fun w0 => ?_)
 refine tS ?_
 refine tR fun _ _ _ => ?_
 refine eV (eBox rfl rfl rfl rfl rfl (fun p0 => ?_))
 refine pV ?_
 refine tS ?_
 refine tR fun _ _ _ => ?_
 refine pV ?_
 refine sV (rLen rfl rfl) ?_
 refine sV (rSub rfl rfl rfl (by omega) (by omega)) ?_
 refine pV ?_
 rw [show ((il f).length : Int) - 1 = (N : Int) by omega]
 refine tS ?_
 refine tR fun _ _ _ => ?_
 refine pV ?_
 refine eV (eMake rfl rfl rfl rfl rfl (by omega) (by omega) (by omega) (fun A2 => ?_))
 refine pV ?_
 rw [Int.toNat_natCast, hdrs_rep]
 refine tr_mid (fun (q : (Option Addr) × (Option Addr) × Nat) => match q with | (A3, B3, b3) => [(1, .slice X (il f).length cx), (2, .pointer (some p0)), (5, .int .i64 (N : Int)), (6, .slice A2 N N), (7, .slice B3 (il (xk f ((pw p m).toNat))).length b3)]) (fun (q : (Option Addr) × (Option Addr) × Nat) => match q with | (A3, B3, b3) => [ow A2 22 N (hdrs (List.replicate N rowD)), ow B3 3 b3 (ints (il (xk f ((pw p m).toNat)))), blk p0 24 [.int .i64 p, .int .i64 m, .slice A mod.length c], ro A (ints mod), ro X (ints (il f))]) ?_ ?_
 ·refine tr_tree (.one 0 (.one 2 (.one 4 (.two 1 (.one 3 (.one 5 (.one 6 .nil))) 3 (.one 1 (.one 5 (.one 6 .nil))))))) [] mixed (by kernel_rfl) fun _ _ _ => ?_
  refine sV (rLdS rfl rfl rfl) ?_
  refine sV (rLdS rfl rfl rfl) ?_
  refine pV ?_
  refine ⟨?_, ?_⟩
  ·refine eV (eLit2I rfl rfl rfl rfl rfl (fun A3 => ?_))
   refine eV (eCallV rfl rfl rfl (ref_order p m A c mod) ⟨rfl, trivial⟩ ?_)
   rw [hord]
   refine eV (eCall1 rfl rfl rfl (ref_PPowMod p m A c mod A3 _ 2 [0, 1] rfl (by simp) (pw p m) (by omega) (by omega) X _ cx (il f) rfl (by omega) hfe) ⟨rfl, rfl, rfl, rfl, trivial⟩ ?_)
   rintro _ _ ⟨B3, b3, rfl, rfl⟩
   refine pV ?_
   rw [hx1]
   exact ⟨rfl, (A3, B3, b3), ⟨rfl, rfl, rfl, rfl, rfl, trivial⟩, by first | exact cs _ _ | exact CSub.refl _⟩
  ·refine eV (eCallV rfl rfl rfl (ref_order p m A c mod) ⟨rfl, trivial⟩ ?_)
   refine eV (eLit2I rfl rfl rfl rfl rfl (fun A3 => ?_))
   rw [hord]
   refine eV (eCall1 rfl rfl rfl (ref_PPowMod p m A c mod A3 _ 2 [0, 1] rfl (by simp) (pw p m) (by omega) (by omega) X _ cx (il f) rfl (by omega) hfe) ⟨rfl, rfl, rfl, rfl, trivial⟩ ?_)
   rintro _ _ ⟨B3, b3, rfl, rfl⟩
   refine pV ?_
   rw [hx1]
   exact ⟨rfl, (A3, B3, b3), ⟨rfl, rfl, rfl, rfl, rfl, trivial⟩, by first | exact cs _ _ | exact CSub.refl _⟩
 ·rintro ⟨A3, B3, b3⟩
  refine tS ?_
  refine tR fun _ _ _ => ?_
  refine eV (eLit1I rfl rfl rfl rfl (fun A4 => ?_))
  refine pV ?_
  refine tS ?_
  refine tS ?_
  refine tR fun _ _ _ => ?_
  refine pV ?_
  refine tB ?_
  refine tr_loop5 (fun (i : Int) (rs : List RowM) (Bp : Option Addr) (cp : Nat) (l : List Int) => [(5, .int .i64 (N : Int)), (6, .slice A2 N N), (8, .slice Bp l.length cp), (9, .int .i64 i), (1, .slice X (il f).length cx), (2, .pointer (some p0)), (7, .slice B3 (il (xk f ((pw p m).toNat))).length b3)]) (fun (i : Int) (rs : List RowM) (Bp : Option Addr) (cp : Nat) (l : List Int) => [ow A2 22 N (hdrs rs), rowsCh 3 rs, ow Bp 3 cp (ints l), ow B3 3 b3 (ints (il (xk f ((pw p m).toNat)))), blk p0 24 [.int .i64 p, .int .i64 m, .slice A mod.length c], ro A (ints mod), ro X (ints (il f))]) (fun (i : Int) (rs : List RowM) (Bp : Option Addr) (cp : Nat) (l : List Int) => (0 ≤ i ∧ i ≤ N) ∧ l = il (xk f (i.toNat * (pw p m).toNat)) ∧ rs.length = N ∧ ∀ j, j < i.toNat → RowL f N j (rs.getD j rowD).xs) (fun (i : Int) (rs : List RowM) (Bp : Option Addr) (cp : Nat) (l : List Int) => (N - i).toNat) (0) (List.replicate N rowD) (A4) (1) ([1]) ⟨rfl, rfl, rfl, rfl, rfl, rfl, rfl, trivial⟩ (by exact (rows_rep 3 _ N).trans (cs _ _)) (⟨⟨by omega, by omega⟩, h10, by simp, fun j hj => absurd hj (by omega)⟩) (fun i rs Bp cp l hI => ?_)
  obtain ⟨⟨hi0, hi1⟩, rfl, hrl, hrs⟩ := hI
  refine tS ?_
  refine tS ?_
  refine tR fun _ _ _ => ?_
  iterate 3 refine pV ?_
  refine tC rfl (fun h6 => ?_) (fun h6 => ?_)
  ·try simp only [zbA] at h6
   refine tK ?_
   refine tS ?_
   refine tB ?_
   refine tS ?_
   refine tR fun _ _ _ => ?_
   iterate 3 refine pV ?_
   refine eV (eMakeI rfl rfl rfl rfl rfl (by omega) (by omega) (by omega) (fun A8 => ?_))
   simp only [Int.toNat_natCast]
   refine sV (rIdxR rfl rfl rfl (by omega) (by omega) (by omega)) ?_
   refine eV (eSt rfl rfl rfl rfl (by first | omega | (simp; omega)) rfl rfl ?_)
   have e5 : (hdrs rs).set i.toNat (.slice A8 N N) = hdrs (rs.set i.toNat ⟨A8, N, List.replicate N 0⟩) := by rw [hdrs_set]; simp [RowM.hdr]
   rw [e5]
   haveI : InB i.toNat (rs.set i.toNat ⟨A8, N, List.replicate N 0⟩).length := ⟨by rw [List.length_set]; omega⟩
   have hgt : (rs.set i.toNat ⟨A8, N, List.replicate N 0⟩).getD i.toNat rowD = ⟨A8, N, List.replicate N 0⟩ := by rw [row_set, if_pos ⟨rfl, by omega⟩]
   have hrsl : (rs.set i.toNat ⟨A8, N, List.replicate N 0⟩).length = N := by rw [List.length_set]; exact hrl
   have hrpl : (List.replicate N (0 : Int)).length = N := List.length_replicate
   refine tS ?_
   refine tS ?_
   refine tR fun _ _ _ => ?_
   refine pV ?_
   refine tB ?_
   refine tr_loop2 (fun (j : Int) (x : List Int) => [(5, .int .i64 (N : Int)), (6, .slice A2 N N), (9, .int .i64 i), (10, .int .i64 j), (8, .slice Bp (il (xk f (i.toNat * (pw p m).toNat))).length cp), (1, .slice X (il f).length cx), (2, .pointer (some p0)), (7, .slice B3 (il (xk f ((pw p m).toNat))).length b3), (23, .int .i64 i), (24, .int .i64 (N : Int)), (28, .slice A2 N N), (29, .int .i64 i), (30, .int .i64 (N : Int))]) (fun (j : Int) (x : List Int) => [ow A8 3 N (ints x), ow A2 22 N (hdrs (rs.set i.toNat ⟨A8, N, List.replicate N 0⟩)), rowsCh 3 rs, ow Bp 3 cp (ints (il (xk f (i.toNat * (pw p m).toNat)))), ow B3 3 b3 (ints (il (xk f ((pw p m).toNat)))), blk p0 24 [.int .i64 p, .int .i64 m, .slice A mod.length c], ro A (ints mod), ro X (ints (il f))]) (fun (j : Int) (x : List Int) => (0 ≤ j ∧ j ≤ N) ∧ x.length = N ∧ ∀ t : Nat, (t : Int) < j → x.getD t 0 = (Po.cf (xk f (i.toNat * (pw p m).toNat)) t).1) (fun (j : Int) (x : List Int) => (N - j).toNat) (0) (List.replicate N 0) ⟨rfl, rfl, rfl, rfl, rfl, rfl, rfl, rfl, rfl, rfl, rfl, rfl, rfl, trivial⟩ (by first | exact cs _ _ | exact CSub.refl _) (⟨⟨by omega, by omega⟩, by simp, fun t ht => by omega⟩) (fun j x hI => ?_)
   obtain ⟨⟨hj0, hj1⟩, hxl2, hx⟩ := hI
   refine tS ?_
   refine tS ?_
   refine tR fun _ _ _ => ?_
   iterate 3 refine pV ?_
   refine tC rfl (fun h10 => ?_) (fun h10 => ?_)
   ·try simp only [zbA] at h10
    refine tK ?_
    refine tS ?_
    refine tB ?_
    refine tr_draw [0, 1, 2, 3, 4, 5, 6, 7, 8, 9] [10] mixed (by kernel_rfl) fun _ _ _ => ?_
    iterate 2 refine pV ?_
    refine sV (rIdxR rfl rfl rfl (by omega) (by omega) (by omega)) ?_
    refine sV (rLdR rfl rfl (by omega)) ?_
    refine pV ?_
    refine sV (rLdS rfl rfl rfl) ?_
    iterate 2 refine pV ?_
    refine eV (eCallV rfl rfl rfl (ref_PAt p m A c mod Bp _ cp (il (xk f (i.toNat * (pw p m).toNat))) rfl (by have := hxl (i.toNat * (pw p m).toNat); omega) j (by omega)) ⟨rfl, rfl, rfl, trivial⟩ ?_)
    try rw [hgt]
    simp only
    refine sV (rIdxI rfl rfl rfl (by omega) (by omega) (by omega)) ?_
    refine eV (eStI rfl rfl rfl rfl (by omega) ?_)
    refine tR fun _ _ _ => ?_
    refine pV ?_
    refine sV (rAdd rfl rfl rfl (by omega) (by omega)) ?_
    refine pV ?_
    refine ⟨j + 1, x.set j.toNat (el ((il (xk f (i.toNat * (pw p m).toNat))).getD j.toNat 0) : El p m mod).1, ⟨rfl, rfl, rfl, rfl, rfl, rfl, rfl, rfl, rfl, rfl, rfl, rfl, rfl, trivial⟩, by first | exact cs _ _ | exact CSub.refl _, ?_⟩
    refine ⟨⟨⟨by omega, by omega⟩, by simpa using hxl2, fun t ht => ?_⟩, by omega⟩
    rw [getD_set]
    by_cases he : j.toNat = t
    ·rw [if_pos ⟨he, by omega⟩, il_getD, el_of, he]
    ·rw [if_neg (fun e => he e.1)]; exact hx t (by omega)
   ·try simp only [zbA] at h10
    refine tE ?_
    refine tS ?_
    refine tr_draw [0, 1, 2, 3, 4, 5, 6, 7, 8, 9, 10, 11, 12, 13, 14] [15] mixed (by kernel_rfl) fun _ _ _ => ?_
    iterate 2 refine pV ?_
    refine sV (rIdxR rfl rfl rfl (by omega) (by omega) (by omega)) ?_
    refine sV (rLdR rfl rfl (by omega)) ?_
    refine pV ?_
    refine sV (rLdS rfl rfl rfl) ?_
    iterate 2 refine pV ?_
    refine sV (rIdxR rfl rfl rfl (by omega) (by omega) (by omega)) ?_
    refine sV (rLdR rfl rfl (by omega)) ?_
    refine pV ?_
    try rw [hgt]
    simp only
    refine sV (rIdxI rfl rfl rfl (by omega) (by omega) (by omega)) ?_
    refine sV (rLdI rfl rfl (by omega)) ?_
    refine eV (eCallV rfl rfl rfl (ref_SubE p m A c mod _ _) ⟨rfl, rfl, rfl, trivial⟩ ?_)
    try rw [hgt]
    try simp only
    refine sV (rIdxI rfl rfl rfl (by omega) (by omega) (by omega)) ?_
    refine eV (eStI rfl rfl rfl rfl (by omega) ?_)
    have hR := rowL_mk hf0 hN (j := i.toNat) (by omega) hxl2 (fun t ht => hx t (by omega))
    obtain ⟨X1, hX1⟩ : ∃ X1, X1 = x.set i.toNat (el (x.getD i.toNat 0) - el 1 : El p m mod).1 := ⟨_, rfl⟩
    rw [← hX1] at hR ⊢
    have hset : hdrs (rs.set i.toNat ⟨A8, N, List.replicate N 0⟩) = hdrs (rs.set i.toNat ⟨A8, N, X1⟩) := by rw [hdrs_set, hdrs_set]; simp [RowM.hdr, hR.len]
    rw [hset]
    refine tr_draw [0, 1, 2, 3, 5, 4, 6, 7] [] mixed (by kernel_rfl) fun _ _ _ => ?_
    refine sV (rLdS rfl rfl rfl) ?_
    refine sV (rLdS rfl rfl rfl) ?_
    iterate 3 refine pV ?_
    refine eV (eCall1 rfl rfl rfl (ref_PMulL p m A c mod Bp _ cp (il (xk f (i.toNat * (pw p m).toNat))) rfl (by have := hxl (i.toNat * (pw p m).toNat); omega) B3 _ b3 (il (xk f ((pw p m).toNat))) rfl (by have := hxl (pw p m).toNat; omega) (by rw [pol_il]; have := hxl (pw p m).toNat; omega)) ⟨rfl, rfl, rfl, trivial⟩ ?_)
    rintro _ _ ⟨Bm, cm, rfl, rfl⟩
    have hpl := il_length (pol (il (xk f (i.toNat * (pw p m).toNat))) * pol (il (xk f ((pw p m).toNat))) : Po (El p m mod))
    have hpl2 := len_mul_le (pol (il (xk f (i.toNat * (pw p m).toNat)))) (pol (il (xk f ((pw p m).toNat))) : Po (El p m mod))
    have hpe := congrArg Po.len (pol_il (p := p) (m := m) (mod := mod) (xk f (i.toNat * (pw p m).toNat)))
    have hpf := congrArg Po.len (pol_il (p := p) (m := m) (mod := mod) (xk f ((pw p m).toNat)))
    have hpa := il_length (xk f (i.toNat * (pw p m).toNat))
    have hpb := il_length (xk f ((pw p m).toNat))
    have hpc := hxl (i.toNat * (pw p m).toNat)
    have hpd := hxl (pw p m).toNat
    refine eV (eCall1 rfl rfl rfl (ref_PRem p m A c mod Bm _ cm (il (pol (il (xk f (i.toNat * (pw p m).toNat))) * pol (il (xk f ((pw p m).toNat))))) rfl (by omega) X _ cx (il f) rfl (by omega) (by rw [pol_il]; omega) (by rw [pol_il]; exact hf0)) ⟨rfl, rfl, rfl, trivial⟩ ?_)
    rintro _ _ ⟨Bd, cd, rfl, rfl⟩
    refine pV ?_
    rw [pol_il, pol_il, pol_il, pol_il, xk_add hf0, show i.toNat * (pw p m).toNat + (pw p m).toNat = (i + 1).toNat * (pw p m).toNat by rw [show (i + 1).toNat = i.toNat + 1 by omega, Nat.succ_mul]]
    refine tR fun _ _ _ => ?_
    refine pV ?_
    refine sV (rAdd rfl rfl rfl (by omega) (by omega)) ?_
    refine pV ?_
    refine ⟨i + 1, rs.set i.toNat ⟨A8, N, X1⟩, Bd, cd, il (xk f ((i + 1).toNat * (pw p m).toNat)), ⟨rfl, rfl, rfl, rfl, rfl, rfl, rfl, trivial⟩, by exact (cs _ [rowsCh 3 rs, ow A8 3 N (ints X1), ow A2 22 N (hdrs (rs.set i.toNat ⟨A8, N, X1⟩)), ow Bd 3 cd (ints (il (xk f ((i + 1).toNat * (pw p m).toNat)))), ow B3 3 b3 (ints (il (xk f ((pw p m).toNat)))), blk p0 24 [.int .i64 p, .int .i64 m, .slice A mod.length c], ro A (ints mod), ro X (ints (il f))]).trans ((rows_put (r := ⟨A8, N, X1⟩) (show i.toNat < rs.length by omega) _).trans (cs _ _)), ?_⟩
    refine ⟨⟨⟨by omega, by omega⟩, rfl, by simpa using hrl, fun j hj => ?_⟩, by omega⟩
    rw [row_set]
    by_cases he : i.toNat = j
    ·rw [if_pos ⟨he, by omega⟩, ← he]; exact hR
    ·rw [if_neg (fun e => he e.1)]; exact hrs j (by omega)
  ·try simp only [zbA] at h6
   refine tE ?_
   refine tS ?_
   refine tR fun _ _ _ => ?_
   refine sV (rLdS rfl rfl rfl) ?_
   refine pV ?_
   refine eV (eCall2 rfl rfl rfl (ref_null6 p m A c mod A2 N N rs f hrl hN hN1 hl h9 (fun j hj => hrs j (by omega))) ⟨rfl, rfl, trivial⟩ ?_)
   rintro _ _ _ ⟨B15, c15, os, bs, rfl, rfl, rfl, hpr, hB, hol⟩
   refine pV ?_
   exact tr_ret ⟨trivial, _, _, rfl, ⟨_, _, rfl, B15, c15, os, bs, rfl, rfl, rfl, hpr, hB, hol⟩, cs _ _, trivial, trivial, trivial⟩
theorem al_own {A : Option Addr} {c : Nat} {l : List Int} {qs rs : List RowM} (h : Al A c l qs rs) (e : TypeId) (F : List Chunk) : CSub (rowsCh e qs :: ow A e c (ints l) :: F) (rowsCh e rs :: F) := by
 rcases h with rfl | ⟨rfl, rfl⟩
 ·exact CSub.cons _ (CSub.drop _ _)
 ·exact rows_snoc (rs := []) (r := ⟨A, c, l⟩) F
theorem polR_get {p m : Int} {mod : List Int} [hF : IsF p m mod] {os : List RowM} {bs : List (Po (El p m mod))} (h : PolR os bs) {i : Nat} (hi : i < os.length) : (pol (os.getD i rowD).xs : Po (El p m mod)) = bs.getD i 0 ∧ (os.getD i rowD).xs.length ≤ 256 := h.2 i hi
theorem ref_splitB_ent : Enters Tryz.prog 39 := enters_of Tryz.func39 (by kernel_rfl) (by kernel_rfl)
theorem ref_splitB (p m : Int) (A : Option Addr) (c : Nat) (mod : List Int) [hF : IsF p m mod] (X : Option Addr) (cx : Nat) (f : Po (El p m mod)) (hl : Po.lead f = 1) (hf2 : 2 ≤ Po.len f) (h9 : Po.len f ≤ 257) (hs : Po.Sf f) (ih : ∀ (X2 : Option Addr) (c2 : Nat) (h : Po (El p m mod)), Po.len h < Po.len f → Po.lead h = 1 → 2 ≤ Po.len h → Po.Sf h → Pure Tryz.prog 39 #[.agg #[.int .i64 p, .int .i64 m, .slice A mod.length c], .slice X2 (il h).length c2] [ro A (ints mod), ro X2 (ints (il h))] (two (fun v ca cb => ∃ B cap rs qs, ∃ ps : List (Po (El p m mod)), v = .slice B rs.length cap ∧ ca = ow B 22 cap (hdrs rs) ∧ cb = rowsCh 3 qs ∧ Al X2 c2 (il h) qs rs ∧ xss rs = ps.map (fun b => il b) ∧ IrL h ps ∧ rs.length + 1 ≤ Po.len h))) :
  Pure Tryz.prog 39 #[.agg #[.int .i64 p, .int .i64 m, .slice A mod.length c], .slice X (il f).length cx] [ro A (ints mod), ro X (ints (il f))] (two (fun v ca cb => ∃ B cap rs qs, ∃ ps : List (Po (El p m mod)), v = .slice B rs.length cap ∧ ca = ow B 22 cap (hdrs rs) ∧ cb = rowsCh 3 qs ∧ Al X cx (il f) qs rs ∧ xss rs = ps.map (fun b => il b) ∧ IrL f ps ∧ rs.length + 1 ≤ Po.len f)) := by
 have hq2 := hF.q2
 have hq9 := hF.out.1.1.q
 have hord := hF.ord
 have hf0 : f ≠ 0 := lead1_ne hl
 have hilf := il_length f
 refine pure_of (args := [.agg #[.int .i64 p, .int .i64 m, .slice A mod.length c], .slice X (il f).length cx]) 69 Tryz.func39 rfl rfl rfl ref_splitB_ent ⟨id, id, trivial⟩ (fun w0 => ?_)
 refine tS ?_
 refine tR fun _ _ _ => ?_
 refine eV (eBox rfl rfl rfl rfl rfl (fun p0 => ?_))
 refine pV ?_
 refine tS ?_
 refine tR fun _ _ _ => ?_
 refine sV (rLdS rfl rfl rfl) ?_
 refine pV ?_
 refine eV (eCall2 rfl rfl rfl (ref_fixed6 p m A c mod X cx (Po.len f - 1) f (by omega) (by omega) hl h9) ⟨rfl, rfl, trivial⟩ ?_)
 rintro _ _ _ ⟨B1, c1, os, bs, rfl, rfl, rfl, hpr, hB, hol⟩
 refine pV ?_
 have hbl := hpr.1
 refine tr_chunks _ ((cs _ [rowsX os, ow B1 22 c1 (hdrs os), blk p0 24 [.int .i64 p, .int .i64 m, .slice A mod.length c], ro A (ints mod), ro X (ints (il f))]).trans (rowsX_weak _)) ?_
 refine tS ?_
 refine tS ?_
 refine tR fun _ _ _ => ?_
 refine pV ?_
 refine sV (rLen rfl rfl) ?_
 refine pV ?_
 refine tC rfl (fun h2 => ?_) (fun h2 => ?_)
 ·try simp only [zbA] at h2
  refine tS ?_
  refine tR fun _ _ _ => ?_
  refine pV ?_
  refine eV (eLit1 rfl rfl rfl rfl rfl (fun A3 => ?_))
  refine pV ?_
  rw [show [Value.slice X (il f).length cx] = hdrs [(⟨X, cx, il f⟩ : RowM)] from rfl]
  have hir := ir_of_bss hl hs hf2 hB (by omega)
  exact tr_ret ⟨trivial, _, _, rfl, ⟨_, _, rfl, A3, 1, [⟨X, cx, il f⟩], [], [f], rfl, rfl, rfl, .inr ⟨rfl, rfl⟩, rfl, irl_one hir hl, by simp; omega⟩, (rows_nil 3 _).trans (cs _ _), trivial, trivial, trivial⟩
 ·try simp only [zbA] at h2
  refine tK ?_
  refine tS ?_
  refine tS ?_
  refine tR fun _ _ _ => ?_
  refine pV ?_
  refine tB ?_
  refine tr_loop1 (fun (i : Int) => [(5, .slice B1 os.length c1), (6, .int .i64 i), (1, .slice X (il f).length cx), (2, .pointer (some p0))]) (fun (i : Int) => [ow B1 22 c1 (hdrs os), rowsR os, blk p0 24 [.int .i64 p, .int .i64 m, .slice A mod.length c], ro A (ints mod), ro X (ints (il f))]) (fun (i : Int) => (0 ≤ i ∧ i ≤ os.length) ∧ ∀ j : Nat, (j : Int) < i → 2 ≤ Po.len (bs.getD j 0) → ∀ c : El p m mod, ¬ (2 ≤ Po.len (Po.gcd f ((bs.getD j 0) - Po.C c)) ∧ Po.len (Po.gcd f ((bs.getD j 0) - Po.C c)) < Po.len f)) (fun (i : Int) => (os.length - i).toNat) (0) ⟨rfl, rfl, rfl, rfl, trivial⟩ (by first | exact cs _ _ | exact CSub.refl _) (⟨⟨by omega, by omega⟩, fun j hj => by omega⟩) (fun i hI => ?_)
  obtain ⟨⟨hi0, hi1⟩, hall⟩ := hI
  refine tS ?_
  refine tS ?_
  refine tR fun _ _ _ => ?_
  iterate 2 refine pV ?_
  refine sV (rLen rfl rfl) ?_
  refine pV ?_
  refine tC rfl (fun h5 => ?_) (fun h5 => ?_)
  ·try simp only [zbA] at h5
   refine tK ?_
   refine tS ?_
   refine tB ?_
   refine tS ?_
   refine tS ?_
   haveI : InB i.toNat os.length := ⟨by omega⟩
   obtain ⟨hv1, hv2⟩ := polR_get hpr (show i.toNat < os.length by omega)
   have hvm := hB.sub _ (Vc.getD_eq_mem (show i.toNat < bs.length by omega) 0)
   refine tr_draw [0, 1, 2, 3, 4, 5, 6] [] mixed (by kernel_rfl) fun _ _ _ => ?_
   refine sV (rLdS rfl rfl rfl) ?_
   iterate 2 refine pV ?_
   refine sV (rIdxR rfl rfl rfl (by omega) (by omega) (by omega)) ?_
   refine sV (rLdR rfl rfl (by omega)) ?_
   refine eV (eCallV rfl rfl rfl (ref_PDegree p m A c mod (os.getD i.toNat rowD).A _ (os.getD i.toNat rowD).cap (os.getD i.toNat rowD).xs rfl (by omega)) ⟨rfl, rfl, trivial⟩ ?_)
   rw [hv1]
   refine pV ?_
   refine tC rfl (fun h7 => ?_) (fun h7 => ?_)
   ·try simp only [zbA] at h7
    refine tE ?_
    refine tR fun _ _ _ => ?_
    refine pV ?_
    refine sV (rAdd rfl rfl rfl (by omega) (by omega)) ?_
    refine pV ?_
    refine ⟨i + 1, ⟨rfl, rfl, rfl, rfl, trivial⟩, by first | exact cs _ _ | exact CSub.refl _, ?_⟩
    refine ⟨⟨⟨by omega, by omega⟩, fun j hj hj2 => ?_⟩, by omega⟩
    by_cases e : (j : Int) < i
    ·exact hall j e hj2
    ·rw [show j = i.toNat by omega] at hj2; omega
   ·try simp only [zbA] at h7
    refine tK ?_
    refine tS ?_
    refine tR fun _ _ _ => ?_
    refine pV ?_
    refine tB ?_
    refine tr_loop1 (fun (s : Int) => [(5, .slice B1 os.length c1), (6, .int .i64 i), (7, .int .i64 s), (1, .slice X (il f).length cx), (2, .pointer (some p0)), (17, .int .i64 i), (18, .slice B1 os.length c1), (19, .int .i64 os.length), (23, .agg #[.int .i64 p, .int .i64 m, .slice A mod.length c]), (24, .slice B1 os.length c1), (25, .int .i64 i)]) (fun (s : Int) => [ow B1 22 c1 (hdrs os), rowsR os, blk p0 24 [.int .i64 p, .int .i64 m, .slice A mod.length c], ro A (ints mod), ro X (ints (il f))]) (fun (s : Int) => (0 ≤ s ∧ s ≤ pw p m) ∧ ∀ z : Nat, (z : Int) < s → ¬ (2 ≤ Po.len (Po.gcd f ((bs.getD i.toNat 0) - Po.C (el (z : Int)))) ∧ Po.len (Po.gcd f ((bs.getD i.toNat 0) - Po.C (el (z : Int)))) < Po.len f)) (fun (s : Int) => (pw p m - s).toNat) (0) ⟨rfl, rfl, rfl, rfl, rfl, rfl, rfl, rfl, rfl, rfl, rfl, trivial⟩ (by first | exact cs _ _ | exact CSub.refl _) (⟨⟨by omega, by omega⟩, fun z hz => by omega⟩) (fun s hI => ?_)
    obtain ⟨⟨hs0, hs1⟩, hsn⟩ := hI
    refine tS ?_
    refine tS ?_
    refine tR fun _ _ _ => ?_
    refine pV ?_
    refine sV (rLdS rfl rfl rfl) ?_
    refine eV (eCallV rfl rfl rfl (ref_order p m A c mod) ⟨rfl, trivial⟩ ?_)
    rw [hord]
    refine pV ?_
    refine tC rfl (fun h9 => ?_) (fun h9 => ?_)
    ·try simp only [zbA] at h9
     refine tK ?_
     refine tS ?_
     refine tB ?_
     refine tS ?_
     have hy1 := il_length (pol (os.getD i.toNat rowD).xs - pol [s] : Po (El p m mod))
     have hy2 := Po.len_sub (pol (os.getD i.toNat rowD).xs) (pol [s] : Po (El p m mod))
     have hy3 := Po.len_le (pol_sh (p := p) (m := m) (mod := mod) (os.getD i.toNat rowD).xs)
     have hy4 := Po.len_le (pol_sh (p := p) (m := m) (mod := mod) [s])
     have hy5 : [s].length = 1 := rfl
     have hgq := gcd_quo_mul (w := (bs.getD i.toNat 0) - Po.C (el s)) hl
     have hhl := il_length (Po.gcd f ((bs.getD i.toNat 0) - Po.C (el s)))
     refine tr_draw [0, 1, 2, 3, 4, 5, 6, 7, 8, 9, 10, 11] [] mixed (by kernel_rfl) fun _ _ _ => ?_
     refine sV (rLdS rfl rfl rfl) ?_
     refine pV ?_
     refine sV (rLdS rfl rfl rfl) ?_
     iterate 2 refine pV ?_
     refine sV (rIdxR rfl rfl rfl (by omega) (by omega) (by omega)) ?_
     refine sV (rLdR rfl rfl (by omega)) ?_
     refine pV ?_
     refine eV (eLit1I rfl rfl rfl rfl (fun A11 => ?_))
     refine eV (eCall1 rfl rfl rfl (ref_PSub p m A c mod (os.getD i.toNat rowD).A _ (os.getD i.toNat rowD).cap (os.getD i.toNat rowD).xs rfl (by omega) A11 _ 1 [s] rfl (by simp)) ⟨rfl, rfl, rfl, trivial⟩ ?_)
     rintro _ _ ⟨Bs, cs_, rfl, rfl⟩
     refine eV (eCall1 rfl rfl rfl (ref_PGcd p m A c mod X _ cx (il f) rfl (by omega) Bs _ cs_ (il (pol (os.getD i.toNat rowD).xs - pol [s])) rfl (by omega)) ⟨rfl, rfl, rfl, trivial⟩ ?_)
     rintro _ _ ⟨Bh, ch, rfl, rfl⟩
     refine pV ?_
     rw [pol_il, pol_il, hv1, pol_one_c]
     refine tS ?_
     refine tR fun _ _ _ => ?_
     refine pV ?_
     refine sV (rLen rfl rfl) ?_
     iterate 2 refine pV ?_
     refine stg rfl rfl rfl rfl rfl (fun hb => by (have hq := hb; try simp only [zbA] at hq); exact rMove rfl rfl) ?_
     refine stg rfl rfl rfl rfl rfl (fun hb => by (have hq := hb; try simp only [zbA] at hq); exact rLen rfl (evg rfl hb)) ?_
     refine stg rfl rfl rfl rfl rfl (fun hb => by (have hq := hb; try simp only [zbA] at hq); exact rMove rfl rfl) ?_
     refine stg rfl rfl rfl rfl rfl (fun hb => by (have hq := hb; try simp only [zbA] at hq); exact rLen rfl (evg rfl hb)) ?_
     refine stg rfl rfl rfl rfl rfl (fun hb => by (have hq := hb; try simp only [zbA] at hq); exact rLss rfl (evg rfl hb) (evg rfl hb)) ?_
     refine sV (rAndB rfl rfl rfl rfl) ?_
     refine tC rfl (fun h12 => ?_) (fun h12 => ?_)
     ·try simp only [zbA] at h12
      have hhg : 2 ≤ Po.len (Po.gcd f ((bs.getD i.toNat 0) - Po.C (el s))) ∧ Po.len (Po.gcd f ((bs.getD i.toNat 0) - Po.C (el s))) < Po.len f := by omega
      refine tS ?_
      have hmul := Po.len_mul (lead1_ne hgq.1) (lead1_ne hgq.2.1)
      rw [hgq.2.2] at hmul
      have hkl : Po.len (Po.quo f (Po.gcd f ((bs.getD i.toNat 0) - Po.C (el s)))) < Po.len f := by omega
      have hk2 : 2 ≤ Po.len (Po.quo f (Po.gcd f ((bs.getD i.toNat 0) - Po.C (el s)))) := by omega
      have hkil := il_length (Po.quo f (Po.gcd f ((bs.getD i.toNat 0) - Po.C (el s))))
      refine tr_tree (.one 0 (.one 1 (.one 3 (.one 4 (.one 5 (.one 6 (.one 2 (.one 7 (.one 8 .nil))))))))) [9, 10] mixed (by kernel_rfl) fun _ _ _ => ?_
      refine sV (rLdS rfl rfl rfl) ?_
      refine pV ?_
      refine sV (rLdS rfl rfl rfl) ?_
      refine sV (rLdS rfl rfl rfl) ?_
      iterate 2 refine pV ?_
      refine eV (eCall2 rfl rfl rfl (ih Bh ch (Po.gcd f ((bs.getD i.toNat 0) - Po.C (el s))) (by omega) hgq.1 (by omega) (hs.of_dvd (Po.gcd_is _ _).left)) ⟨rfl, rfl, trivial⟩ ?_)
      rintro _ _ _ ⟨Bp, cp, rs1, qs1, ps1, rfl, rfl, rfl, hal1, hx1, hI1, hl1⟩
      refine eV (eCall1 rfl rfl rfl (ref_div6 p m A c mod X _ cx (il f) rfl (by omega) Bh _ ch (il (Po.gcd f ((bs.getD i.toNat 0) - Po.C (el s)))) rfl (by omega) (by rw [pol_il]; omega) (by rw [pol_il]; exact lead1_ne hgq.1)) ⟨rfl, rfl, rfl, trivial⟩ ?_)
      rintro _ _ ⟨Bk, ck, rfl, rfl⟩
      rw [pol_il, pol_il]
      refine eV (eCall2 rfl rfl rfl (ih Bk ck (Po.quo f (Po.gcd f ((bs.getD i.toNat 0) - Po.C (el s)))) hkl hgq.2.1 hk2 (hs.of_dvd ⟨(Po.gcd f ((bs.getD i.toNat 0) - Po.C (el s))), by rw [Rg.mul_comm]; exact hgq.2.2.symm⟩)) ⟨rfl, rfl, trivial⟩ ?_)
      rintro _ _ _ ⟨Bz, cz, rs2, qs2, ps2, rfl, rfl, rfl, hal2, hx2, hI2, hl2⟩
      have hlb : rs1.length + rs2.length ≤ Po.len f := by omega
      refine eV (eAppRR rs2 rfl rfl rfl rfl rfl (by first | rfl | simp | omega) (by first | rfl | simp | omega) (by omega) (fun A13 c13 => ?_))
      refine pV ?_
      have hI3 := irl_app (by rw [hgq.2.2]; exact hs) hI1 hI2
      rw [hgq.2.2] at hI3
      exact tr_ret ⟨trivial, _, _, rfl, ⟨_, _, rfl, A13, c13, rs1 ++ rs2, rs1 ++ rs2, ps1 ++ ps2, rfl, rfl, rfl, .inl rfl, by rw [List.map_append, ← hx1, ← hx2]; simp [xss], hI3, by simp; omega⟩, (cs _ [rowsCh 3 qs2, ow Bk 3 ck (ints (il (Po.quo f (Po.gcd f ((bs.getD i.toNat 0) - Po.C (el s)))))), rowsCh 3 qs1, ow Bh 3 ch (ints (il (Po.gcd f ((bs.getD i.toNat 0) - Po.C (el s))))), ow A13 22 c13 (hdrs (rs1 ++ rs2))]).trans ((al_own hal2 3 _).trans ((CSub.perm (List.Perm.swap ..)).trans ((cs _ [rowsCh 3 qs1, ow Bh 3 ch (ints (il (Po.gcd f ((bs.getD i.toNat 0) - Po.C (el s))))), rowsCh 3 rs2, ow A13 22 c13 (hdrs (rs1 ++ rs2))]).trans ((al_own hal1 3 _).trans ((rows_join rs2 rs1 _).trans (cs _ _)))))), trivial, trivial, trivial⟩
      all_goals skip
     ·try simp only [zbA] at h12
      refine tK ?_
      refine tR fun _ _ _ => ?_
      refine pV ?_
      refine sV (rAdd rfl rfl rfl (by omega) (by omega)) ?_
      refine pV ?_
      refine ⟨s + 1, ⟨rfl, rfl, rfl, rfl, rfl, rfl, rfl, rfl, rfl, rfl, rfl, trivial⟩, by first | exact cs _ _ | exact CSub.refl _, ?_⟩
      refine ⟨⟨⟨by omega, by omega⟩, fun z hz => ?_⟩, by omega⟩
      by_cases e : (z : Int) < s
      ·exact hsn z e
      ·rw [show (z : Int) = s by omega]
       intro hh
       omega
    ·try simp only [zbA] at h9
     refine tE ?_
     refine tR fun _ _ _ => ?_
     refine pV ?_
     refine sV (rAdd rfl rfl rfl (by omega) (by omega)) ?_
     refine pV ?_
     refine ⟨i + 1, ⟨rfl, rfl, rfl, rfl, trivial⟩, by first | exact cs _ _ | exact CSub.refl _, ?_⟩
     refine ⟨⟨⟨by omega, by omega⟩, fun j hj hj2 => ?_⟩, by omega⟩
     by_cases e : (j : Int) < i
     ·exact hall j e hj2
     ·rw [show j = i.toNat by omega]
      intro d
      have hb := El.bd d
      have := hsn d.1.toNat (by omega)
      rwa [Int.toNat_of_nonneg hb.1, el_of] at this
  ·try simp only [zbA] at h5
   refine tE ?_
   refine tS ?_
   refine tR fun _ _ _ => ?_
   refine pV ?_
   refine eV (eLit1 rfl rfl rfl rfl rfl (fun A14 => ?_))
   refine pV ?_
   exfalso
   by_cases h1 : bs.length = 1
   ·omega
   ·obtain ⟨v, hv, hv2, d, hd1, hd2⟩ := bss_splits hl hs hf2 hB h1
    obtain ⟨j, hj, rfl⟩ := List.getElem_of_mem hv
    have := hall j (by omega)
    rw [List.getD_eq_getElem?_getD, List.getElem?_eq_getElem hj] at this
    exact this hv2 d ⟨hd1, hd2⟩
theorem ref_splitN (p m : Int) (A : Option Addr) (c : Nat) (mod : List Int) [hF : IsF p m mod] : ∀ (N : Nat) (X : Option Addr) (cx : Nat) (f : Po (El p m mod)), Po.len f ≤ N → Po.lead f = 1 → 2 ≤ Po.len f → Po.len f ≤ 257 → Po.Sf f → Pure Tryz.prog 39 #[.agg #[.int .i64 p, .int .i64 m, .slice A mod.length c], .slice X (il f).length cx] [ro A (ints mod), ro X (ints (il f))] (two (fun v ca cb => ∃ B cap rs qs, ∃ ps : List (Po (El p m mod)), v = .slice B rs.length cap ∧ ca = ow B 22 cap (hdrs rs) ∧ cb = rowsCh 3 qs ∧ Al X cx (il f) qs rs ∧ xss rs = ps.map (fun b => il b) ∧ IrL f ps ∧ rs.length + 1 ≤ Po.len f))
 | 0, X, cx, f, hN, hl, h2, h9, hs => absurd h2 (by omega)
 | N + 1, X, cx, f, hN, hl, h2, h9, hs => ref_splitB p m A c mod X cx f hl h2 h9 hs fun X2 c2 h h3 h4 h5 h6 => ref_splitN p m A c mod N X2 c2 h (by omega) h4 h5 (by omega) h6
theorem ref_split (p m : Int) (A : Option Addr) (c : Nat) (mod : List Int) [hF : IsF p m mod] (X : Option Addr) (cx : Nat) (f : Po (El p m mod)) (hl : Po.lead f = 1) (hf2 : 2 ≤ Po.len f) (h9 : Po.len f ≤ 257) (hs : Po.Sf f) : Pure Tryz.prog 39 #[.agg #[.int .i64 p, .int .i64 m, .slice A mod.length c], .slice X (il f).length cx] [ro A (ints mod), ro X (ints (il f))] (two (fun v ca cb => ∃ B cap rs qs, ∃ ps : List (Po (El p m mod)), v = .slice B rs.length cap ∧ ca = ow B 22 cap (hdrs rs) ∧ cb = rowsCh 3 qs ∧ Al X cx (il f) qs rs ∧ xss rs = ps.map (fun b => il b) ∧ IrL f ps ∧ rs.length + 1 ≤ Po.len f)) := ref_splitN p m A c mod _ X cx f (Nat.le_refl _) hl hf2 h9 hs
end Go.Proofs.YtbhoeaijpnjgdaaGreat

namespace Go.Proofs.YtbhoeaijpnjgdaaGreat
open Go.RowKit
section
variable {P : Program} {N : NB} {M : Nat → Prop} {w0 : World} {L : Fr} {F F' : List Chunk} {K : Fr → List Chunk → Prop} {b : Bool} {o : Oper} {x y : Operand} {t e : TypeId} {k : Nat}
theorem run_lit0S (w : World) (h : SsTy P t e k) : (Instr.buildSlice t 0 #[]).run P w = .ok (.slice (some ⟨w.heap.size, 0, none⟩) 0 0) (w.alloc (.cells #[] e)) := by
 have hsz := run_size1 h.size w
 unfold Instr.buildSlice
 simp only [Sem.run_bind, run_und h.und, Result.andThen_ok, hsz]
 simp [newRow, newObj, Sem.run, Instr.fill, range0]
theorem eLit0S (ho : o.op = .buildSlice t 0 #[]) {d : Nat} (hdd : o.dst = some d) (hd : Nat.ble (d + 1) N.n = true) [h : SsTy P t e 2] (hK : ∀ A : Option Addr, K (addL d (.slice A (([] : List FacM).length) 0) L) (ow2 A e 0 (fcs []) :: F)) : Eff P N M w0 b o L F K := eff_value hdd hd fun a w hl hm => by
 have h1 := run_lit0S (P := P) (t := t) w h
 refine ⟨.slice (some ⟨w.heap.size, 0, none⟩) 0 0, w.alloc (.cells #[] e), ?_, alloc_ext w _, _, hm.add (G := [ow2 (some ⟨w.heap.size, 0, none⟩) e 0 []]) (alloc_ext w _) (fun c hc => ?_) (List.pairwise_singleton _ _), hK _⟩
 ·simp only [execOp, ho, Sem.run_bind]
  simp [h1]
 ·simp only [List.mem_singleton] at hc
  subst hc
  refine ⟨⟨rfl, .inr ⟨w.heap.size, 0, #[], rfl, Nat.zero_le _, heap_alloc_new w _, Nat.le_refl _, Nat.zero_le _, rfl, rfl⟩⟩, fun b hb => ?_⟩
  obtain ⟨ad, h2, h3⟩ := hb
  simp only [Option.some.injEq] at h2
  subst h2
  rw [← h3]; exact Nat.le_refl _
end
def takeOut (us : List RowM) (k : Nat) : List RowM := (us.set k (us.getD (us.length - 1) rowD)).take (us.length - 1)
theorem takeOut_length {us : List RowM} {k : Nat} : (takeOut us k).length = us.length - 1 := by unfold takeOut; simp
theorem takeOut_perm {us : List RowM} {k : Nat} (hk : k < us.length) : us.Perm (us.getD k rowD :: takeOut us k) := by
 have hn : us.length - 1 < us.length := by omega
 have hs : us = us.take (us.length - 1) ++ [us.getD (us.length - 1) rowD] := by
  conv => lhs; rw [← List.take_append_drop (us.length - 1) us]
  congr 1
  rw [List.getD_eq_getElem?_getD, List.getElem?_eq_getElem hn, List.drop_eq_getElem_cons hn, List.drop_eq_nil_of_le (by omega)]; rfl
 generalize hz : us.getD (us.length - 1) rowD = z at hs
 generalize hl : us.take (us.length - 1) = l at hs
 have hll : l.length = us.length - 1 := by rw [← hl]; simp
 unfold takeOut
 rw [hz]
 by_cases e : k = us.length - 1
 ·have h1 : (us.set k z).take (us.length - 1) = l := by rw [List.take_set_of_le (by omega), hl]
  rw [h1, e, hz]
  conv => lhs; rw [hs]
  exact List.perm_append_singleton z l
 ·have hkl : k < l.length := by omega
  have h1 : (us.set k z).take (us.length - 1) = l.set k z := by rw [List.take_set, hl]
  have h2 : us.getD k rowD = l.getD k rowD := by
   conv => lhs; rw [hs]
   rw [List.getD_eq_getElem?_getD, List.getElem?_append_left hkl, ← List.getD_eq_getElem?_getD]
  rw [h1, h2]
  conv => lhs; rw [hs]
  refine (List.perm_append_singleton z l).trans (((perm_at rowD l k hkl).cons z).trans ((List.Perm.swap _ _ _).trans (List.Perm.cons _ ?_)))
  exact (perm_set l k z hkl).symm
end Go.Proofs.YtbhoeaijpnjgdaaGreat

namespace Go.Proofs.YtbhoeaijpnjgdaaGreat
open Go.RowKit
section
variable {p m : Int} {mod : List Int} [hF : IsF p m mod]
open Po
structure GrI (f : Po (El p m mod)) (κ : Po (El p m mod) → Nat) (b : Nat) (hs : List FacM) : Prop where
 each : ∀ e ∈ hs, (∃ Q, e.r.xs = il Q ∧ lead Q = 1 ∧ 2 ≤ len Q ∧ Sf Q ∧ ∀ P, Ir P → lead P = 1 → (P ∣ Q ↔ P ∣ f ∧ ((κ P : Nat) : Int) = e.k)) ∧ e.k < b
 all : ∀ P, Ir P → lead P = 1 → P ∣ f → κ P < b → ∃ e ∈ hs, e.k = ((κ P : Nat) : Int)
 srt : hs.Pairwise fun x y => x.k < y.k
theorem GrI.uniq {f : Po (El p m mod)} {κ : Po (El p m mod) → Nat} {b c : Nat} {hs gs : List FacM} (h : GrI f κ b hs) (k : GrI f κ c gs) (hb : ∀ P, Ir P → lead P = 1 → P ∣ f → κ P < b ∧ κ P < c) : fpr hs = fpr gs := by
 have hmem : ∀ {hs gs : List FacM} {b c : Nat}, GrI f κ b hs → GrI f κ c gs → (∀ P, Ir P → lead P = 1 → P ∣ f → κ P < c) → ∀ x, x ∈ fpr hs → x ∈ fpr gs := fun {hs gs b c} h k hc x hx => by
  obtain ⟨e, he, rfl⟩ := List.mem_map.1 hx
  obtain ⟨⟨Q, a1, a2, a3, a4, a5⟩, _⟩ := h.each e he
  obtain ⟨P, hP, hPl, hPd⟩ := ir_ex a3
  obtain ⟨hPf, hPk⟩ := (a5 P hP hPl).1 hPd
  obtain ⟨e', he', hk'⟩ := k.all P hP hPl hPf (hc P hP hPl hPf)
  obtain ⟨⟨Q', b1, b2, b3, b4, b5⟩, _⟩ := k.each e' he'
  have hkk : e'.k = e.k := by omega
  have hQ : Q' = Q := b4.eq a4 b2 a2 (lead1_ne b2) (lead1_ne a2) fun R hR hRl => by rw [b5 R hR hRl, a5 R hR hRl, hkk]
  exact List.mem_map.2 ⟨e', he', by rw [b1, a1, hQ, hkk]⟩
 exact rise_eq (lt := fun (x y : List Int × Int) => x.2 < y.2) (fun a => by omega) (fun a b c h1 h2 => by omega) (List.pairwise_map.2 h.srt) (List.pairwise_map.2 k.srt) fun x => ⟨hmem h k (fun P a1 a2 a3 => (hb P a1 a2 a3).2) x, hmem k h (fun P a1 a2 a3 => (hb P a1 a2 a3).1) x⟩
theorem grI_nil (f : Po (El p m mod)) (κ : Po (El p m mod) → Nat) (b : Nat) (hb : ∀ P, Ir P → lead P = 1 → P ∣ f → b ≤ κ P) : GrI f κ b [] := ⟨fun e h => by simp at h, fun P a1 a2 a3 h => by have := hb P a1 a2 a3; omega, .nil⟩
theorem GrI.yes {f Q : Po (El p m mod)} {κ : Po (El p m mod) → Nat} {b : Nat} {hs : List FacM} (h : GrI f κ b hs) (A : Option Addr) (c : Nat) (hl : lead Q = 1) (h2 : 2 ≤ len Q) (hs' : Sf Q) (hQ : ∀ P, Ir P → lead P = 1 → (P ∣ Q ↔ P ∣ f ∧ κ P = b)) : GrI f κ (b + 1) (hs ++ [⟨⟨A, c, il Q⟩, (b : Int)⟩]) := by
 refine ⟨fun e he => ?_, fun P a1 a2 a3 h3 => ?_, ?_⟩
 ·rcases List.mem_append.1 he with he | he
  ·obtain ⟨q, hq⟩ := h.each e he
   exact ⟨q, by omega⟩
  ·rw [List.mem_singleton] at he
   subst he
   exact ⟨⟨Q, rfl, hl, h2, hs', fun P a1 a2 => by rw [hQ P a1 a2]; exact ⟨fun x => ⟨x.1, by show ((κ P : Nat) : Int) = (b : Int); omega⟩, fun x => ⟨x.1, by have : ((κ P : Nat) : Int) = (b : Int) := x.2; omega⟩⟩⟩, by show (b : Int) < _; omega⟩
 ·rcases Nat.lt_or_ge (κ P) b with e | e
  ·obtain ⟨x, hx, hk⟩ := h.all P a1 a2 a3 e
   exact ⟨x, List.mem_append_left _ hx, hk⟩
  ·exact ⟨_, List.mem_append_right _ (List.mem_singleton.2 rfl), by show (b : Int) = _; omega⟩
 ·rw [List.pairwise_append]
  refine ⟨h.srt, List.pairwise_singleton _ _, fun x hx y hy => ?_⟩
  rw [List.mem_singleton] at hy
  subst hy
  exact (h.each x hx).2
theorem GrI.no {f : Po (El p m mod)} {κ : Po (El p m mod) → Nat} {b : Nat} {hs : List FacM} (h : GrI f κ b hs) (hQ : ∀ P, Ir P → lead P = 1 → P ∣ f → κ P ≠ b) : GrI f κ (b + 1) hs :=
 ⟨fun e he => by
  obtain ⟨q, hq⟩ := h.each e he
  exact ⟨q, by omega⟩, fun P a1 a2 a3 h3 => h.all P a1 a2 a3 (by have := hQ P a1 a2 a3; omega), h.srt⟩
theorem GrI.more {f : Po (El p m mod)} {κ : Po (El p m mod) → Nat} {b c : Nat} {hs : List FacM} (h : GrI f κ b hs) (hc : b ≤ c) (hb : ∀ P, Ir P → lead P = 1 → P ∣ f → κ P < b ∨ c ≤ κ P) : GrI f κ c hs :=
 ⟨fun e he => by
  obtain ⟨q, hq⟩ := h.each e he
  exact ⟨q, by omega⟩, fun P a1 a2 a3 h3 => h.all P a1 a2 a3 (by have := hb P a1 a2 a3; omega), h.srt⟩
theorem prd_irs {f : Po (El p m mod)} (hf : f ≠ 0) : ∀ {l : List (Po (El p m mod))}, l.Nodup → (∀ P ∈ l, Ir P ∧ lead P = 1 ∧ P ∣ f) → lead (prd l) = 1 ∧ Sf (prd l) ∧ (∀ P, Ir P → lead P = 1 → (P ∣ prd l ↔ P ∈ l)) ∧ len (prd l) ≤ len f
 | [], _, _ => by
  have h1 : lead (1 : Po (El p m mod)) = 1 := by unfold lead; rw [len_one]; rfl
  refine ⟨h1, fun P hP hd => hP.not_one len_one (dvd_trans (dvd_mul P P) hd), fun P hP _ => ⟨fun hd => absurd hd (hP.not_one len_one), fun h => by simp at h⟩, ?_⟩
  rw [prd, len_one]
  have := len_pos hf
  omega
 | Q :: l, hn, h => by
  obtain ⟨hQl, hn2⟩ := List.nodup_cons.1 hn
  obtain ⟨a, b, c, d⟩ := prd_irs hf hn2 fun P hP => h P (List.mem_cons_of_mem _ hP)
  obtain ⟨q1, q2, q3⟩ := h Q (List.mem_cons_self ..)
  have hmem : ∀ P, Ir P → lead P = 1 → (P ∣ prd (Q :: l) ↔ P ∈ Q :: l) := fun P hP hPl => by
   rw [prd, List.mem_cons]
   constructor
   ·intro hd
    rcases hP.prime hd with hd | hd
    ·exact .inl (hP.one q1 hPl q2 hd)
    ·exact .inr ((c P hP hPl).1 hd)
   ·rintro (rfl | hm)
    ·exact dvd_mul _ _
    ·exact dvd_mul_ofL ((c P hP hPl).2 hm) Q
  have hl : lead (prd (Q :: l)) = 1 := by rw [prd, lead_mul q1.ne (lead1_ne a), q2, a, Rg.mul_one]
  have hs : Sf (prd (Q :: l)) := by
   rw [prd]
   refine q1.sf.mul b fun P hP hd hd2 => hQl ?_
   obtain ⟨hm, hml⟩ := hP.mon
   have h1 := hm.one q1 hml q2 (dvd_trans (mon_dvd P) hd)
   have h2 := (c _ hm hml).1 (dvd_trans (mon_dvd P) hd2)
   rwa [h1] at h2
  refine ⟨hl, hs, hmem, dvd_len (hs.dvd (lead1_ne hl) fun P hP hPl hd => ?_) hf⟩
  exact (h P ((hmem P hP hPl).1 hd)).2.2
noncomputable def grL (p m : Int) (mod : List Int) [hF : IsF p m mod] (gs : List FacM) (key : FacM → Int) (z : Int) : Nat → List (Po (El p m mod))
 | 0 => []
 | n + 1 => if key (gs.getD n facD) = z then grL p m mod gs key z n ++ [fcP p m mod (gs.getD n facD)] else grL p m mod gs key z n
theorem mem_grL {gs : List FacM} {key : FacM → Int} {z : Int} {P : Po (El p m mod)} : ∀ n, P ∈ grL p m mod gs key z n ↔ ∃ j, j < n ∧ key (gs.getD j facD) = z ∧ fcP p m mod (gs.getD j facD) = P
 | 0 => ⟨fun h => by simp [grL] at h, fun ⟨j, h, _⟩ => by omega⟩
 | n + 1 => by
  have ih := mem_grL (gs := gs) (key := key) (z := z) (P := P) n
  rw [grL]
  by_cases h : key (gs.getD n facD) = z
  ·rw [if_pos h, List.mem_append, ih, List.mem_singleton]
   constructor
   ·rintro (⟨j, h1, h2⟩ | rfl)
    ·exact ⟨j, by omega, h2⟩
    ·exact ⟨n, by omega, h, rfl⟩
   ·rintro ⟨j, h1, h2, h3⟩
    rcases Nat.lt_or_eq_of_le (Nat.le_of_lt_succ h1) with e | e
    ·exact .inl ⟨j, e, h2, h3⟩
    ·subst e; exact .inr h3.symm
  ·rw [if_neg h, ih]
   constructor
   ·rintro ⟨j, h1, h2⟩
    exact ⟨j, by omega, h2⟩
   ·rintro ⟨j, h1, h2, h3⟩
    rcases Nat.lt_or_eq_of_le (Nat.le_of_lt_succ h1) with e | e
    ·exact ⟨j, e, h2, h3⟩
    ·subst e; exact absurd h2 h
theorem grL_ok {f : Po (El p m mod)} (hf : f ≠ 0) {gs : List FacM} (h : CmI f gs) (key : FacM → Int) (z : Int) : ∀ n, n ≤ gs.length → (grL p m mod gs key z n).Nodup ∧ ∀ P ∈ grL p m mod gs key z n, Ir P ∧ lead P = 1 ∧ P ∣ f
 | 0, _ => ⟨.nil, fun P h => by simp [grL] at h⟩
 | n + 1, hn => by
  obtain ⟨a, b⟩ := grL_ok hf h key z n (by omega)
  obtain ⟨c1, c2, c3, c4, _⟩ := h.fc hf (getD_mem (show n < gs.length by omega) facD)
  rw [grL]
  split
  ·refine ⟨List.nodup_append.2 ⟨a, List.pairwise_singleton _ _, fun P hP Q hQ e => ?_⟩, fun P hP => ?_⟩
   ·rw [List.mem_singleton] at hQ
    obtain ⟨j, hj, _, hjP⟩ := (mem_grL n).1 hP
    obtain ⟨_, _, _, d4, _⟩ := h.fc hf (getD_mem (show j < gs.length by omega) facD)
    have h5 := List.pairwise_iff_getElem.1 h.nd j n (by simp; omega) (by simp; omega) hj
    rw [List.getElem_map, List.getElem_map] at h5
    refine h5 ?_
    have e1 : gs[j] = gs.getD j facD := by rw [List.getD_eq_getElem?_getD, List.getElem?_eq_getElem (show j < gs.length by omega)]; rfl
    have e2 : gs[n] = gs.getD n facD := by rw [List.getD_eq_getElem?_getD, List.getElem?_eq_getElem (show n < gs.length by omega)]; rfl
    rw [e1, e2, d4, c4, hjP, e, hQ]
   ·rcases List.mem_append.1 hP with hP | hP
    ·exact b P hP
    ·rw [List.mem_singleton] at hP
     rw [hP]; exact ⟨c1, c2, c3⟩
  ·exact ⟨a, b⟩
def KeyI (f : Po (El p m mod)) (κ : Po (El p m mod) → Nat) (gs : List FacM) (key : FacM → Int) : Prop := ∀ e ∈ gs, key e = ((κ (fcP p m mod e) : Nat) : Int)
theorem grL_all {f : Po (El p m mod)} (hf : f ≠ 0) {gs : List FacM} (h : CmI f gs) {key : FacM → Int} {κ : Po (El p m mod) → Nat} (hk : KeyI f κ gs key) (z : Nat) {P : Po (El p m mod)} (a1 : Ir P) (a2 : lead P = 1) : P ∈ grL p m mod gs key z gs.length ↔ P ∣ f ∧ κ P = z := by
 rw [mem_grL]
 constructor
 ·rintro ⟨j, hj, h1, rfl⟩
  have hm := getD_mem hj facD
  obtain ⟨_, _, c3, _⟩ := h.fc hf hm
  have := hk _ hm
  exact ⟨c3, by omega⟩
 ·rintro ⟨h1, h2⟩
  obtain ⟨e, he, hx⟩ := h.all P a1 a2 h1
  obtain ⟨j, hj, rfl⟩ := List.getElem_of_mem he
  have e1 : gs.getD j facD = gs[j] := by rw [List.getD_eq_getElem?_getD, List.getElem?_eq_getElem hj]; rfl
  have e2 : fcP p m mod gs[j] = P := by unfold fcP; rw [hx, pol_il]
  refine ⟨j, hj, ?_, by rw [e1]; exact e2⟩
  rw [e1, hk _ (List.getElem_mem hj), e2]; omega
theorem GrI.step {f : Po (El p m mod)} (hf : f ≠ 0) {gs hs : List FacM} (h : CmI f gs) {key : FacM → Int} {κ : Po (El p m mod) → Nat} (hk : KeyI f κ gs key) {z : Nat} (hG : GrI f κ z hs) : (2 ≤ len (prd (grL p m mod gs key z gs.length)) → ∀ A c, GrI f κ (z + 1) (hs ++ [⟨⟨A, c, il (prd (grL p m mod gs key z gs.length))⟩, (z : Int)⟩])) ∧ (¬ 2 ≤ len (prd (grL p m mod gs key z gs.length)) → GrI f κ (z + 1) hs) := by
 obtain ⟨a, b⟩ := grL_ok hf h key z gs.length (Nat.le_refl _)
 obtain ⟨c1, c2, c3, c4⟩ := prd_irs hf a b
 refine ⟨fun h2 A c => hG.yes A c c1 h2 c2 fun P a1 a2 => by rw [c3 P a1 a2, grL_all hf h hk z a1 a2], fun h2 => hG.no fun P a1 a2 a3 e => h2 ?_⟩
 have hm := (grL_all hf h hk z a1 a2).2 ⟨a3, e⟩
 have h4 := dvd_len ((c3 P a1 a2).2 hm) (lead1_ne c1)
 have := a1.two
 omega
end
end Go.Proofs.YtbhoeaijpnjgdaaGreat

namespace Go.Proofs.YtbhoeaijpnjgdaaGreat
open Go.RowKit
section
variable {p m : Int} {mod : List Int} [hF : IsF p m mod]
open Po
theorem rise_nd' {gs : List FacM} (h : RisF gs) : (gs.map fun e => e.r.xs).Nodup := by
 refine List.pairwise_map.2 (h.imp fun {x y} hxy => ?_)
 intro (he : x.r.xs = y.r.xs)
 rw [he] at hxy
 exact cmpL_irr _ hxy
structure SelI (f : Po (El p m mod)) (rs us : List RowM) (gs : List FacM) : Prop where
 perm : (us ++ rws gs).Perm rs
 ris : RisF gs
 mul : ∀ e ∈ gs, e.k = ((mu (fcP p m mod e) f : Nat) : Int)
 lt : ∀ e ∈ gs, ∀ u ∈ us, cmpL e.r.xs u.xs < 0
structure IrR (f : Po (El p m mod)) (rs : List RowM) : Prop where
 each : ∀ u ∈ rs, ∃ P : Po (El p m mod), u.xs = il P ∧ Ir P ∧ lead P = 1 ∧ P ∣ f
 all : ∀ P : Po (El p m mod), Ir P → lead P = 1 → P ∣ f → ∃ u ∈ rs, u.xs = il P
 nd : (rs.map RowM.xs).Nodup
variable {f : Po (El p m mod)} {rs us : List RowM} {gs : List FacM}
theorem irR_of {r : Po (El p m mod)} {ps : List (Po (El p m mod))} (h : Rad f r) (k : IrL r ps) (hx : xss rs = ps.map fun b => il b) : IrR f rs := by
 have hm : ∀ x, x ∈ xss rs ↔ ∃ P ∈ ps, il P = x := fun x => by rw [hx]; exact List.mem_map
 refine ⟨fun u hu => ?_, fun P a b c => ?_, ?_⟩
 ·obtain ⟨P, hP, e⟩ := (hm _).1 (xss_mem hu)
  obtain ⟨a, b, c⟩ := (k.mem P).1 hP
  exact ⟨P, e.symm, a, b, (h.dv P a b).1 c⟩
 ·have h1 := (k.mem P).2 ⟨a, b, (h.dv P a b).2 c⟩
  obtain ⟨u, hu, e⟩ := List.mem_map.1 ((hm (il P)).2 ⟨P, h1, rfl⟩)
  exact ⟨u, hu, e⟩
 ·have e : rs.map RowM.xs = ps.map fun b => il b := hx
  rw [e]
  exact List.pairwise_map.2 (k.nd.imp fun hab e => hab (il_inj e))
theorem IrR.at (h : IrR f rs) {u : RowM} (hu : u ∈ rs) : u.xs = il (pol u.xs : Po (El p m mod)) ∧ Ir (pol u.xs : Po (El p m mod)) ∧ lead (pol u.xs : Po (El p m mod)) = 1 ∧ (pol u.xs : Po (El p m mod)) ∣ f := by
 obtain ⟨P, e, a, b, c⟩ := h.each u hu
 have eP : (pol u.xs : Po (El p m mod)) = P := by rw [e, pol_il]
 rw [eP]; exact ⟨e, a, b, c⟩
theorem SelI.start : SelI f rs rs [] := ⟨by simp [rws], .nil, fun e h => by simp at h, fun e h => by simp at h⟩
theorem SelI.mem (h : SelI f rs us gs) {u : RowM} (hu : u ∈ us) : u ∈ rs := h.perm.mem_iff.1 (List.mem_append_left _ hu)
theorem SelI.cnt (h : SelI f rs us gs) : us.length + gs.length = rs.length := by
 have := h.perm.length_eq
 simpa using this
theorem SelI.step (h : SelI f rs us gs) (hr : IrR f rs) {k : Nat} (hk : k < us.length) (hmin : ∀ j, j < us.length → ¬ cmpL (us.getD j rowD).xs (us.getD k rowD).xs < 0) {z : Int} (hz : z = ((mu (pol (us.getD k rowD).xs : Po (El p m mod)) f : Nat) : Int)) : SelI f rs (takeOut us k) (gs ++ [⟨us.getD k rowD, z⟩]) := by
 have hp := takeOut_perm hk
 have hum := getD_mem hk rowD
 have hsub : ∀ w ∈ takeOut us k, w ∈ us := fun w hw => hp.mem_iff.2 (List.mem_cons_of_mem _ hw)
 have hnu : (us.map RowM.xs).Nodup := by
  have h1 := (h.perm.map RowM.xs).nodup_iff.2 hr.nd
  rw [List.map_append] at h1
  exact (List.nodup_append.1 h1).1
 have hne : ∀ w ∈ takeOut us k, w.xs ≠ (us.getD k rowD).xs := fun w hw e => by
  have h1 := (hp.map RowM.xs).nodup_iff.1 hnu
  rw [List.map_cons] at h1
  exact (List.nodup_cons.1 h1).1 (List.mem_map.2 ⟨w, hw, e⟩)
 refine ⟨?_, ?_, fun e he => ?_, fun e he w hw => ?_⟩
 ·rw [rws_app]
  refine List.Perm.trans ?_ h.perm
  have h1 : (takeOut us k ++ (rws gs ++ rws [(⟨us.getD k rowD, z⟩ : FacM)])).Perm ((us.getD k rowD :: takeOut us k) ++ rws gs) := by
   show (takeOut us k ++ (rws gs ++ [us.getD k rowD])).Perm _
   rw [← List.append_assoc]
   exact List.perm_append_singleton _ _
  exact h1.trans (hp.symm.append_right _)
 ·refine List.pairwise_append.2 ⟨h.ris, List.pairwise_singleton _ _, fun x hx y hy => ?_⟩
  rw [List.mem_singleton] at hy
  subst hy
  exact h.lt x hx _ hum
 ·rcases List.mem_append.1 he with he | he
  ·exact h.mul e he
  ·rw [List.mem_singleton] at he
   subst he; exact hz
 ·rcases List.mem_append.1 he with he | he
  ·exact h.lt e he w (hsub w hw)
  ·rw [List.mem_singleton] at he
   subst he
   obtain ⟨j, hj, hjw⟩ := List.getElem_of_mem (hsub w hw)
   have h1 := hmin j hj
   rw [List.getD_eq_getElem?_getD, List.getElem?_eq_getElem hj] at h1
   simp only [Option.getD_some, hjw] at h1
   exact (cmpL_not.1 h1).resolve_left (hne w hw)
theorem SelI.done (h : SelI f rs [] gs) (hr : IrR f rs) : CmI f gs ∧ RisF gs ∧ (rws gs).Perm rs := by
 have hp : (rws gs).Perm rs := by simpa using h.perm
 have hm : ∀ e ∈ gs, e.r ∈ rs := fun e he => hp.mem_iff.1 (List.mem_map.2 ⟨e, he, rfl⟩)
 refine ⟨⟨fun e he => ?_, fun P a b c => ?_, rise_nd' h.ris⟩, h.ris, hp⟩
 ·obtain ⟨P, e1, a, b, c⟩ := hr.each _ (hm e he)
  have := h.mul e he
  have eP : fcP p m mod e = P := by unfold fcP; rw [e1, pol_il]
  rw [eP] at this
  exact ⟨P, e1, a, b, c, this⟩
 ·obtain ⟨u, hu, e⟩ := hr.all P a b c
  obtain ⟨g, hg, e2⟩ := List.mem_map.1 (hp.mem_iff.2 hu)
  exact ⟨g, hg, by rw [e2]; exact e⟩
theorem mu_of_mul {P rest : Po (El p m mod)} (hf : f ≠ 0) (hP : Ir P) {n : Nat} (h : Rg.pow P n * rest = f) (hn : ¬ P ∣ rest) : mu P f = n := by
 rw [← h]; exact mu_of_split hP hn (by rw [h]; exact hf)
theorem pow_next {P rest : Po (El p m mod)} (hP : P ≠ 0) {n : Nat} (h : Rg.pow P n * rest = f) (hd : P ∣ rest) : Rg.pow P (n + 1) * quo rest P = f := by
 have e := quo_eq hP hd
 rw [Rg.pow_succ, Rg.mul_assoc, Rg.mul_comm P, ← e]; exact h
theorem quo_lt {P rest : Po (El p m mod)} (hP : Ir P) (hr : rest ≠ 0) (hd : P ∣ rest) : len (quo rest P) < len rest ∧ quo rest P ≠ 0 := by
 have e := quo_eq hP.ne hd
 have hq : quo rest P ≠ 0 := fun hz => hr (by rw [e, hz, Rg.zero_mul])
 have := len_mul hq hP.ne
 rw [← e] at this
 have := hP.two
 exact ⟨by omega, hq⟩
theorem rad_two {r : Po (El p m mod)} (h : Rad f r) (h2 : 2 ≤ len f) : 2 ≤ len r := by
 obtain ⟨P, hP, hPl, hd⟩ := ir_ex h2
 have := dvd_len ((h.dv P hP hPl).2 hd) (lead1_ne h.mon)
 have := hP.two
 omega
end
end Go.Proofs.YtbhoeaijpnjgdaaGreat

set_option maxRecDepth 100000
set_option maxHeartbeats 1000000
namespace Go.Proofs.YtbhoeaijpnjgdaaGreat
open Go.RowKit
theorem ref_Complete6_ent : Enters Tryz.prog 13 := enters_of Tryz.func13 (by kernel_rfl) (by kernel_rfl)
theorem ref_Complete6 (p m : Int) (A : Option Addr) (c : Nat) (mod : List Int) [hF : IsF p m mod] (Xa : Option Addr) (na ca : Nat) (a : List Int) (hna : na = a.length) (ha9 : a.length ≤ 17592186044415) (h1 : 1 ≤ Po.len (pol a : Po (El p m mod))) (h9 : Po.len (pol a : Po (El p m mod)) ≤ 257) :
  Pure Tryz.prog 13 #[.agg #[.int .i64 p, .int .i64 m, .slice A mod.length c], .slice Xa na ca] [ro A (ints mod), ro Xa (ints a)] (two (fun v ch ch2 => ∃ B cap gs, v = .tuple #[.int .i64 (Po.lead (pol a : Po (El p m mod))).1, .slice B gs.length cap] ∧ ch = ow2 B 43 cap (fcs gs) ∧ ch2 = rowsCh 3 (rws gs) ∧ CmI (pol a : Po (El p m mod)) gs ∧ RisF gs ∧ gs.length ≤ 257)) := by
 have hq2 := hF.q2
 have hord := hF.ord
 have hil := il_length (pol a : Po (El p m mod))
 have h0 : (pol a : Po (El p m mod)) ≠ 0 := Po.len_pos_iff.1 (by omega)
 have hlv : (il (pol a : Po (El p m mod))).getD (((il (pol a : Po (El p m mod))).length : Int) - 1).toNat 0 = (Po.lead (pol a : Po (El p m mod))).1 := by
  rw [il_getD, hil, show ((Po.len (pol a : Po (El p m mod)) : Int) - 1).toNat = Po.len (pol a : Po (El p m mod)) - 1 by omega]; rfl
 refine pure_of (args := [.agg #[.int .i64 p, .int .i64 m, .slice A mod.length c], .slice Xa na ca]) 92 Tryz.func13 rfl rfl rfl ref_Complete6_ent ⟨id, id, trivial⟩ (fun w0 => ?_)
 refine tS ?_
 refine tR fun _ _ _ => ?_
 refine eV (eBox rfl rfl rfl rfl rfl (fun p0 => ?_))
 iterate 2 refine pV ?_
 refine tS ?_
 refine tR fun _ _ _ => ?_
 refine sV (rLdS rfl rfl rfl) ?_
 refine pV ?_
 refine eV (eCall1 rfl rfl rfl (ref_CanonE p m A c mod Xa na ca a hna ha9) ⟨rfl, rfl, trivial⟩ ?_)
 rintro _ _ ⟨B1, c1, rfl, rfl⟩
 refine pV ?_
 refine tS ?_
 refine tR fun _ _ _ => ?_
 iterate 2 refine pV ?_
 refine sV (rLen rfl rfl) ?_
 refine sV (rSub rfl rfl rfl (by omega) (by omega)) ?_
 refine sV (rIdxI rfl rfl rfl (by omega) (by omega) (by omega)) ?_
 refine sV (rLdI rfl rfl (by omega)) ?_
 refine pV ?_
 rw [hlv]
 refine tS ?_
 refine tR fun _ _ _ => ?_
 refine eV (eLit0S rfl rfl rfl (fun A3 => ?_))
 refine pV ?_
 refine tS ?_
 refine tS ?_
 refine tR fun _ _ _ => ?_
 refine pV ?_
 refine sV (rLen rfl rfl) ?_
 refine pV ?_
 refine tC rfl (fun h4 => ?_) (fun h4 => ?_)
 ·try simp only [zbA] at h4
  refine tS ?_
  refine tR fun _ _ _ => ?_
  iterate 4 refine pV ?_
  have hC0 : CmI (pol a : Po (El p m mod)) [] := ⟨fun e h => by simp at h, fun P a b c => absurd c (a.not_one (by omega)), by simp⟩
  exact tr_ret ⟨trivial, _, _, rfl, ⟨_, _, rfl, A3, 0, [], rfl, rfl, rfl, hC0, .nil, by simp⟩, (show CSub _ [ow2 A3 43 0 (fcs []), rowsCh 3 []] from (cs _ [ow2 A3 43 0 (fcs [])]).trans ((rows_nil 3 _).trans (cs _ _))), trivial, trivial, trivial⟩
 ·try simp only [zbA] at h4
  refine tK ?_
  refine tS ?_
  refine tr_draw [0, 1, 2, 3, 4, 5] [] mixed (by kernel_rfl) fun _ _ _ => ?_
  refine sV (rLdS rfl rfl rfl) ?_
  refine sV (rLdS rfl rfl rfl) ?_
  refine pV ?_
  refine eV (eCall1 rfl rfl rfl (ref_Radical p m A c mod B1 _ c1 (il (pol a : Po (El p m mod))) rfl (by omega) (by rw [pol_il]; omega) (by rw [pol_il]; omega)) ⟨rfl, rfl, trivial⟩ ?_)
  rintro _ _ ⟨B6, c6, r, rfl, rfl, hrad⟩
  rw [pol_il] at hrad
  have hrl := hrad.le h0
  have hr2 := rad_two hrad (show 2 ≤ Po.len (pol a : Po (El p m mod)) by omega)
  refine eV (eCall2 rfl rfl rfl (ref_split p m A c mod B6 c6 r hrad.mon hr2 (by omega) hrad.sf) ⟨rfl, rfl, trivial⟩ ?_)
  rintro _ _ _ ⟨Bp, cp, rs, qs, ps, rfl, rfl, rfl, hal, hxs, hI, hrl2⟩
  refine pV ?_
  have hIR := irR_of hrad hI hxs
  have hxl : ∀ u ∈ rs, u.xs.length ≤ 257 ∧ canL (ordI p m) u.xs = u.xs := fun u hu => by
   obtain ⟨a1, a2, a3, a4⟩ := hIR.at hu
   have h5 := Po.dvd_len a4 h0
   have h6 := il_length (pol u.xs : Po (El p m mod))
   rw [← a1] at h6
   refine ⟨by omega, ?_⟩
   rw [a1, hord, canL_il rfl]
  refine tr_chunks _ ((cs _ [rowsCh 3 qs, ow B6 3 c6 (ints (il r)), ow B1 3 c1 (ints (il (pol a : Po (El p m mod)))), ow Bp 22 cp (hdrs rs), ow2 A3 43 0 (fcs []), blk p0 24 [.int .i64 p, .int .i64 m, .slice A mod.length c], ro A (ints mod)]).trans ((al_own hal 3 _).trans (CSub.cons _ (ow_ro _)))) ?_
  refine tS ?_
  refine tB ?_
  refine tr_loop6 (fun (Bp : Option Addr) (cp : Nat) (us : List RowM) (Bg : Option Addr) (cg : Nat) (gs : List FacM) => [(8, .slice Bp us.length cp), (7, .slice Bg gs.length cg), (1, .slice B1 (il (pol a : Po (El p m mod))).length c1), (6, .int .i64 (Po.lead (pol a : Po (El p m mod))).1), (2, .pointer (some p0)), (4, .int .i64 0), (5, .slice none 0 0)]) (fun (Bp : Option Addr) (cp : Nat) (us : List RowM) (Bg : Option Addr) (cg : Nat) (gs : List FacM) => [ow Bp 22 cp (hdrs us), ow2 Bg 43 cg (fcs gs), rowsCh 3 rs, ro B1 (ints (il (pol a : Po (El p m mod)))), blk p0 24 [.int .i64 p, .int .i64 m, .slice A mod.length c], ro A (ints mod)]) (fun (Bp : Option Addr) (cp : Nat) (us : List RowM) (Bg : Option Addr) (cg : Nat) (gs : List FacM) => SelI (pol a : Po (El p m mod)) rs us gs) (fun (Bp : Option Addr) (cp : Nat) (us : List RowM) (Bg : Option Addr) (cg : Nat) (gs : List FacM) => us.length) (Bp) (cp) (rs) (A3) (0) ([]) ⟨rfl, rfl, rfl, rfl, rfl, rfl, rfl, trivial⟩ (by first | exact cs _ _ | exact CSub.refl _) (SelI.start) (fun Bp cp us Bg cg gs hI => ?_)
  have hS := hI
  have hcn := hS.cnt
  refine tS ?_
  refine tS ?_
  refine tR fun _ _ _ => ?_
  refine pV ?_
  refine sV (rLen rfl rfl) ?_
  refine pV ?_
  refine tC rfl (fun h7 => ?_) (fun h7 => ?_)
  ·try simp only [zbA] at h7
   refine tK ?_
   refine tB ?_
   refine tS ?_
   refine tR fun _ _ _ => ?_
   refine pV ?_
   refine tS ?_
   refine tS ?_
   refine tR fun _ _ _ => ?_
   refine pV ?_
   refine tB ?_
   refine tr_loop2 (fun (k : Int) (i : Int) => [(8, .slice Bp us.length cp), (9, .int .i64 k), (10, .int .i64 i), (1, .slice B1 (il (pol a : Po (El p m mod))).length c1), (2, .pointer (some p0)), (4, .int .i64 0), (5, .slice none 0 0), (6, .int .i64 (Po.lead (pol a : Po (El p m mod))).1), (7, .slice Bg gs.length cg), (34, .slice Bp us.length cp), (35, .int .i64 us.length)]) (fun (k : Int) (i : Int) => [ow Bp 22 cp (hdrs us), ow2 Bg 43 cg (fcs gs), rowsCh 3 rs, ro B1 (ints (il (pol a : Po (El p m mod)))), blk p0 24 [.int .i64 p, .int .i64 m, .slice A mod.length c], ro A (ints mod)]) (fun (k : Int) (i : Int) => (0 ≤ k ∧ k < us.length) ∧ (1 ≤ i ∧ i ≤ us.length) ∧ ∀ j : Nat, (j : Int) < i → ¬ cmpL (us.getD j rowD).xs (us.getD k.toNat rowD).xs < 0) (fun (k : Int) (i : Int) => (us.length - i).toNat) (0) (1) ⟨rfl, rfl, rfl, rfl, rfl, rfl, rfl, rfl, rfl, rfl, rfl, trivial⟩ (by first | exact cs _ _ | exact CSub.refl _) (⟨⟨by omega, by omega⟩, ⟨by omega, by omega⟩, fun j hj => by rw [show j = 0 by omega]; exact cmpL_irr _⟩) (fun k i hI => ?_)
   obtain ⟨⟨hk0, hk1⟩, ⟨hi0, hi1⟩, hmin⟩ := hI
   refine tS ?_
   refine tS ?_
   refine tR fun _ _ _ => ?_
   iterate 2 refine pV ?_
   refine sV (rLen rfl rfl) ?_
   refine pV ?_
   refine tC rfl (fun h10 => ?_) (fun h10 => ?_)
   ·try simp only [zbA] at h10
    refine tK ?_
    refine tS ?_
    refine tB ?_
    refine tS ?_
    haveI : RowIn (us.getD i.toNat rowD) rs := ⟨hS.mem (getD_mem (show i.toNat < us.length by omega) rowD)⟩
    haveI : RowIn (us.getD k.toNat rowD) rs := ⟨hS.mem (getD_mem (show k.toNat < us.length by omega) rowD)⟩
    have hui := hxl _ (hS.mem (getD_mem (show i.toNat < us.length by omega) rowD))
    have huk := hxl _ (hS.mem (getD_mem (show k.toNat < us.length by omega) rowD))
    refine tr_draw [0, 1, 2, 3, 4, 5, 6, 7, 8, 9, 10] [] mixed (by kernel_rfl) fun _ _ _ => ?_
    refine sV (rLdS rfl rfl rfl) ?_
    iterate 2 refine pV ?_
    refine sV (rIdxR rfl rfl rfl (by omega) (by omega) (by omega)) ?_
    refine sV (rLdR rfl rfl (by omega)) ?_
    iterate 2 refine pV ?_
    refine sV (rIdxR rfl rfl rfl (by omega) (by omega) (by omega)) ?_
    refine sV (rLdR rfl rfl (by omega)) ?_
    refine eV (eCallV rfl rfl rfl (ref_Compare p m A c mod (us.getD i.toNat rowD).A _ (us.getD i.toNat rowD).cap (us.getD i.toNat rowD).xs rfl (by omega) (us.getD k.toNat rowD).A _ (us.getD k.toNat rowD).cap (us.getD k.toNat rowD).xs rfl (by omega)) ⟨rfl, rfl, rfl, trivial⟩ ?_)
    rw [hui.2, huk.2]
    refine pV ?_
    refine tC rfl (fun h12 => ?_) (fun h12 => ?_)
    ·try simp only [zbA] at h12
     refine tR fun _ _ _ => ?_
     iterate 2 refine pV ?_
     refine tR fun _ _ _ => ?_
     refine pV ?_
     refine sV (rAdd rfl rfl rfl (by omega) (by omega)) ?_
     refine pV ?_
     refine ⟨i, i + 1, ⟨rfl, rfl, rfl, rfl, rfl, rfl, rfl, rfl, rfl, rfl, rfl, trivial⟩, by first | exact cs _ _ | exact CSub.refl _, ?_⟩
     refine ⟨⟨⟨by omega, by omega⟩, ⟨by omega, by omega⟩, fun j hj hlt => ?_⟩, by omega⟩
     by_cases e : (j : Int) < i
     ·exact hmin j e (cmpL_trans hlt (by simpa using h12))
     ·rw [show j = i.toNat by omega] at hlt; exact cmpL_irr _ hlt
    ·try simp only [zbA] at h12
     refine tK ?_
     refine tR fun _ _ _ => ?_
     refine pV ?_
     refine sV (rAdd rfl rfl rfl (by omega) (by omega)) ?_
     refine pV ?_
     refine ⟨k, i + 1, ⟨rfl, rfl, rfl, rfl, rfl, rfl, rfl, rfl, rfl, rfl, rfl, trivial⟩, by first | exact cs _ _ | exact CSub.refl _, ?_⟩
     refine ⟨⟨⟨by omega, by omega⟩, ⟨by omega, by omega⟩, fun j hj => ?_⟩, by omega⟩
     by_cases e : (j : Int) < i
     ·exact hmin j e
     ·rw [show j = i.toNat by omega]; simpa using h12
   ·try simp only [zbA] at h10
    refine tE ?_
    refine tS ?_
    refine tR fun _ _ _ => ?_
    iterate 2 refine pV ?_
    refine sV (rIdxR rfl rfl rfl (by omega) (by omega) (by omega)) ?_
    refine sV (rLdR rfl rfl (by omega)) ?_
    refine pV ?_
    refine tS ?_
    skip
    refine tR fun _ _ _ => ?_
    iterate 4 refine pV ?_
    refine sV (rLen rfl rfl) ?_
    refine sV (rSub rfl rfl rfl (by omega) (by omega)) ?_
    refine sV (rIdxR rfl rfl rfl (by omega) (by omega) (by omega)) ?_
    refine sV (rLdR rfl rfl (by omega)) ?_
    refine sV (rIdxR rfl rfl rfl (by omega) (by omega) (by omega)) ?_
    refine eV (eSt rfl rfl rfl rfl (by first | omega | (simp; omega)) rfl rfl ?_)
    have hst1 : (hdrs us).set k.toNat (.slice (us.getD ((us.length : Int) - 1).toNat rowD).A (us.getD ((us.length : Int) - 1).toNat rowD).xs.length (us.getD ((us.length : Int) - 1).toNat rowD).cap) = hdrs (us.set k.toNat (us.getD (us.length - 1) rowD)) := by rw [hdrs_set, show ((us.length : Int) - 1).toNat = us.length - 1 by omega]; rfl
    rw [hst1]
    refine tS ?_
    refine tr_cap Bp 22 cp (hdrs (us.set k.toNat (us.getD (us.length - 1) rowD))) fun hcp => ?_
    have hcp2 : us.length ≤ cp := by simpa using hcp
    refine tR fun _ _ _ => ?_
    iterate 2 refine pV ?_
    refine sV (rLen rfl rfl) ?_
    refine sV (rSub rfl rfl rfl (by omega) (by omega)) ?_
    refine sV (rCutHi rfl rfl rfl (by omega) (by omega)) ?_
    refine pV ?_
    have htl : ((us.length : Int) - 1).toNat = (takeOut us k.toNat).length := by rw [takeOut_length]; omega
    rw [htl]
    have hcut : hdrs (us.set k.toNat (us.getD (us.length - 1) rowD)) = hdrs (takeOut us k.toNat) ++ hdrs ((us.set k.toNat (us.getD (us.length - 1) rowD)).drop (us.length - 1)) := by
     rw [← hdrs_append]; unfold takeOut; rw [List.take_append_drop]
    rw [hcut]
    haveI : RowIn (us.getD k.toNat rowD) rs := ⟨hS.mem (getD_mem (show k.toNat < us.length by omega) rowD)⟩
    obtain ⟨hu1, huP, hu3, hu4⟩ := hIR.at (hS.mem (getD_mem (show k.toNat < us.length by omega) rowD))
    have hux := hxl _ (hS.mem (getD_mem (show k.toNat < us.length by omega) rowD))
    have hilu := il_length (pol (us.getD k.toNat rowD).xs : Po (El p m mod))
    have hilu2 := il_length (pol (us.getD k.toNat rowD).xs : Po (El p m mod))
    rw [← hu1] at hilu
    refine tr_chunks [ro B1 (ints (il (pol a : Po (El p m mod)))), ro B1 (ints (il (pol a : Po (El p m mod)))), ow Bp 22 cp (hdrs (takeOut us k.toNat)), ow2 Bg 43 cg (fcs gs), rowsCh 3 rs, blk p0 24 [.int .i64 p, .int .i64 m, .slice A mod.length c], ro A (ints mod)] ((cs _ [ow Bp 22 cp (hdrs (takeOut us k.toNat) ++ hdrs ((us.set k.toNat (us.getD (us.length - 1) rowD)).drop (us.length - 1))), ow2 Bg 43 cg (fcs gs), rowsCh 3 rs, ro B1 (ints (il (pol a : Po (El p m mod)))), blk p0 24 [.int .i64 p, .int .i64 m, .slice A mod.length c], ro A (ints mod)]).trans ((ow_shrink _).trans ((cs _ [ro B1 (ints (il (pol a : Po (El p m mod)))), ow Bp 22 cp (hdrs (takeOut us k.toNat)), ow2 Bg 43 cg (fcs gs), rowsCh 3 rs, blk p0 24 [.int .i64 p, .int .i64 m, .slice A mod.length c], ro A (ints mod)]).trans (ro_dup _)))) ?_
    refine tS ?_
    refine tR fun _ _ _ => ?_
    refine pV ?_
    refine tS ?_
    refine tR fun _ _ _ => ?_
    iterate 2 refine pV ?_
    refine tS ?_
    refine tB ?_
    refine tr_loop4 (fun (mm : Int) (Br : Option Addr) (cr : Nat) (rest : Po (El p m mod)) => [(8, .slice Bp (takeOut us k.toNat).length cp), (11, .slice (us.getD k.toNat rowD).A (us.getD k.toNat rowD).xs.length (us.getD k.toNat rowD).cap), (12, .int .i64 mm), (13, .slice Br (il rest).length cr), (1, .slice B1 (il (pol a : Po (El p m mod))).length c1), (2, .pointer (some p0)), (4, .int .i64 0), (5, .slice none 0 0), (6, .int .i64 (Po.lead (pol a : Po (El p m mod))).1), (7, .slice Bg gs.length cg), (9, .int .i64 k), (10, .int .i64 i), (34, .slice Bp us.length cp), (35, .int .i64 us.length), (37, .int .i64 i), (38, .slice Bp us.length cp), (39, .int .i64 us.length), (55, .slice Bp us.length cp), (56, .int .i64 k), (59, .slice Bp us.length cp), (60, .int .i64 k), (61, .slice Bp us.length cp), (62, .slice Bp us.length cp), (63, .int .i64 us.length), (68, .slice Bp us.length cp), (69, .slice Bp us.length cp), (70, .int .i64 us.length), (73, .slice B1 (il (pol a : Po (El p m mod))).length c1)]) (fun (mm : Int) (Br : Option Addr) (cr : Nat) (rest : Po (El p m mod)) => [ro Br (ints (il rest)), ro B1 (ints (il (pol a : Po (El p m mod)))), ow Bp 22 cp (hdrs (takeOut us k.toNat)), ow2 Bg 43 cg (fcs gs), rowsCh 3 rs, blk p0 24 [.int .i64 p, .int .i64 m, .slice A mod.length c], ro A (ints mod)]) (fun (mm : Int) (Br : Option Addr) (cr : Nat) (rest : Po (El p m mod)) => (0 ≤ mm ∧ mm + Po.len rest ≤ Po.len (pol a : Po (El p m mod))) ∧ Rg.pow (pol (us.getD k.toNat rowD).xs : Po (El p m mod)) mm.toNat * rest = (pol a : Po (El p m mod))) (fun (mm : Int) (Br : Option Addr) (cr : Nat) (rest : Po (El p m mod)) => Po.len rest) (0) (B1) (c1) ((pol a : Po (El p m mod))) ⟨rfl, rfl, rfl, rfl, rfl, rfl, rfl, rfl, rfl, rfl, rfl, rfl, rfl, rfl, rfl, rfl, rfl, rfl, rfl, rfl, rfl, rfl, rfl, rfl, rfl, rfl, rfl, rfl, trivial⟩ (by first | exact cs _ _ | exact CSub.refl _) (⟨⟨by omega, by omega⟩, by rw [show Int.toNat 0 = 0 from rfl]; exact Rg.one_mul _⟩) (fun mm Br cr rest hI => ?_)
    obtain ⟨⟨hm0, hm1⟩, hpw⟩ := hI
    have hrne : rest ≠ 0 := fun e => h0 (by rw [← hpw, e, Rg.mul_zero])
    refine tS ?_
    refine tS ?_
    have hri := il_length rest
    refine tR fun _ _ _ => ?_
    refine sV (rLdS rfl rfl rfl) ?_
    iterate 2 refine pV ?_
    refine eV (eCallV rfl rfl rfl (ref_Divides p m A c mod Br _ cr (il rest) rfl (by omega) (us.getD k.toNat rowD).A _ (us.getD k.toNat rowD).cap (us.getD k.toNat rowD).xs rfl (by omega) (by omega) huP.ne) ⟨rfl, rfl, rfl, trivial⟩ ?_)
    rw [pol_il]
    refine tC rfl (fun h19 => ?_) (fun h19 => ?_)
    ·try simp only [zbA] at h19
     refine tK ?_
     refine tB ?_
     refine tS ?_
     refine tR fun _ _ _ => ?_
     refine sV (rLdS rfl rfl rfl) ?_
     iterate 2 refine pV ?_
     refine eV (eCall1 rfl rfl rfl (ref_div6 p m A c mod Br _ cr (il rest) rfl (by omega) (us.getD k.toNat rowD).A _ (us.getD k.toNat rowD).cap (us.getD k.toNat rowD).xs rfl (by omega) (by omega) huP.ne) ⟨rfl, rfl, rfl, trivial⟩ ?_)
     rintro _ _ ⟨Bq, cq, rfl, rfl⟩
     refine pV ?_
     rw [pol_il]
     have hdv : (pol (us.getD k.toNat rowD).xs : Po (El p m mod)) ∣ rest := (Po.rem_zero_iff huP.ne).1 (Po.eq_zero_of_len (by first | exact h19 | omega))
     have hql := quo_lt huP hrne hdv
     refine tR fun _ _ _ => ?_
     refine pV ?_
     refine sV (rAdd rfl rfl rfl (by omega) (by omega)) ?_
     refine pV ?_
     refine ⟨mm + 1, Bq, cq, Po.quo rest (pol (us.getD k.toNat rowD).xs : Po (El p m mod)), ⟨rfl, rfl, rfl, rfl, rfl, rfl, rfl, rfl, rfl, rfl, rfl, rfl, rfl, rfl, rfl, rfl, rfl, rfl, rfl, rfl, rfl, rfl, rfl, rfl, rfl, rfl, rfl, rfl, trivial⟩, by exact (cs _ [ow Bq 3 cq (ints (il (Po.quo rest (pol (us.getD k.toNat rowD).xs : Po (El p m mod))))), ro B1 (ints (il (pol a : Po (El p m mod)))), ow Bp 22 cp (hdrs (takeOut us k.toNat)), ow2 Bg 43 cg (fcs gs), rowsCh 3 rs, blk p0 24 [.int .i64 p, .int .i64 m, .slice A mod.length c], ro A (ints mod)]).trans (ow_ro _), ?_⟩
     refine ⟨⟨⟨by omega, by omega⟩, ?_⟩, by omega⟩
     rw [show (mm + 1).toNat = mm.toNat + 1 by omega]
     exact pow_next huP.ne hpw hdv
    ·try simp only [zbA] at h19
     refine tE ?_
     refine tR fun _ _ _ => ?_
     iterate 3 refine pV ?_
     refine sV (rBuild rfl rfl) ?_
     refine eV (eLitS rfl rfl rfl rfl (fun p22 => ?_))
     refine eV (eApp2 rfl rfl rfl rfl rfl (by first | rfl | simp) rfl (by first | (simp; done) | (simp; omega)) (by first | (simp; done) | (simp; omega)) (fun A22a c22a => ?_))
     refine pV ?_
     rw [fcs_snoc, fcs_length]
     refine ⟨Bp, cp, (takeOut us k.toNat), A22a, c22a, gs ++ [⟨(us.getD k.toNat rowD), mm⟩], ⟨rfl, rfl, rfl, rfl, rfl, rfl, rfl, trivial⟩, by first | exact cs _ _ | exact CSub.refl _, ?_⟩
     refine ⟨?_, by rw [takeOut_length]; omega⟩
     have hnd : ¬ (pol (us.getD k.toNat rowD).xs : Po (El p m mod)) ∣ rest := fun hd => h19 (by rw [(Po.rem_zero_iff huP.ne).2 hd, Po.len_zero]; first | rfl | omega)
     exact hS.step hIR (by omega) (fun j hj => hmin j (by omega)) (by rw [mu_of_mul h0 huP hpw hnd]; omega)
  ·try simp only [zbA] at h7
   refine tE ?_
   refine tS ?_
   refine tR fun _ _ _ => ?_
   iterate 4 refine pV ?_
   have hu0 : us = [] := List.eq_nil_of_length_eq_zero (by omega)
   subst hu0
   obtain ⟨hC, hR, hp⟩ := hS.done hIR
   exact tr_ret ⟨trivial, _, _, rfl, ⟨_, _, rfl, Bg, cg, gs, rfl, rfl, rfl, hC, hR, by omega⟩, (cs _ [rowsCh 3 rs, ow2 Bg 43 cg (fcs gs)]).trans ((rows_permM (rs := rs) (qs := rws gs) hp.symm _).trans (cs _ _)), trivial, trivial, trivial⟩
end Go.Proofs.YtbhoeaijpnjgdaaGreat

namespace Go.Proofs.YtbhoeaijpnjgdaaGreat
open Go.RowKit
section
open Po
end
end Go.Proofs.YtbhoeaijpnjgdaaGreat

set_option maxRecDepth 100000
set_option maxHeartbeats 1000000
namespace Go.Proofs.YtbhoeaijpnjgdaaGreat
open Go.RowKit
def keyF (dg : Bool) (e : FacM) : Int := if dg then (e.r.xs.length : Int) - 1 else e.k
theorem ref_Group_ent : Enters Tryz.prog 15 := enters_of Tryz.func15 (by kernel_rfl) (by kernel_rfl)
theorem ref_Group (p m : Int) (A : Option Addr) (c : Nat) (mod : List Int) [hF : IsF p m mod] (X : Option Addr) (nx cx : Nat) (gs : List FacM) (hnx : nx = gs.length) (F : Po (El p m mod)) (hF0 : F ≠ 0) (h9 : Po.len F ≤ 257) (hC : CmI F gs) (hl9 : gs.length ≤ 1000) (dg : Bool) (κ : Po (El p m mod) → Nat) (hk : KeyI F κ gs (keyF dg)) (hκ : ∀ P, Po.Ir P → Po.lead P = 1 → P ∣ F → 1 ≤ κ P ∧ κ P ≤ 256) :
  Pure Tryz.prog 15 #[.agg #[.int .i64 p, .int .i64 m, .slice A mod.length c], .slice X nx cx, .bool dg] [ro A (ints mod), ro X (prs (fcs gs)), rowsR (rws gs)] (two (fun v ch ch2 => ∃ B cap hs, v = .slice B hs.length cap ∧ ch = ow2 B 43 cap (fcs hs) ∧ ch2 = rowsCh 3 (rws hs) ∧ GrI F κ 257 hs ∧ hs.length ≤ 257)) := by
 have hq2 := hF.q2
 have hcl := hC.le hF0
 refine pure_of (args := [.agg #[.int .i64 p, .int .i64 m, .slice A mod.length c], .slice X nx cx, .bool dg]) 58 Tryz.func15 rfl rfl rfl ref_Group_ent ⟨id, id, id, trivial⟩ (fun w0 => ?_)
 refine tS ?_
 refine tR fun _ _ _ => ?_
 refine eV (eBox rfl rfl rfl rfl rfl (fun p0 => ?_))
 refine pV ?_
 refine tS ?_
 refine tR fun _ _ _ => ?_
 refine eV (eLit0S rfl rfl rfl (fun A1 => ?_))
 refine pV ?_
 refine tS ?_
 refine tS ?_
 refine tR fun _ _ _ => ?_
 refine pV ?_
 refine tB ?_
 refine tr_loop4 (fun (z : Int) (Bg : Option Addr) (cg : Nat) (hs : List FacM) => [(7, .slice Bg hs.length cg), (8, .int .i64 z), (1, .slice X nx cx), (2, .bool dg), (3, .pointer (some p0)), (6, .slice none 0 0)]) (fun (z : Int) (Bg : Option Addr) (cg : Nat) (hs : List FacM) => [ow2 Bg 43 cg (fcs hs), rowsCh 3 (rws hs), blk p0 24 [.int .i64 p, .int .i64 m, .slice A mod.length c], ro A (ints mod), ro X (prs (fcs gs)), rowsR (rws gs)]) (fun (z : Int) (Bg : Option Addr) (cg : Nat) (hs : List FacM) => (1 ≤ z ∧ z ≤ 257) ∧ GrI F κ z.toNat hs ∧ hs.length + 1 ≤ z) (fun (z : Int) (Bg : Option Addr) (cg : Nat) (hs : List FacM) => (257 - z).toNat) (1) (A1) (0) ([]) ⟨rfl, rfl, rfl, rfl, rfl, rfl, trivial⟩ (by exact (rows_nil 3 _).trans (cs _ [ow2 A1 43 0 (fcs []), rowsCh 3 [], blk p0 24 [.int .i64 p, .int .i64 m, .slice A mod.length c], ro A (ints mod), ro X (prs (fcs gs)), rowsR (rws gs)])) (⟨⟨by omega, by omega⟩, grI_nil F κ 1 (fun P a b c => (hκ P a b c).1), by simp⟩) (fun z Bg cg hs hI => ?_)
 obtain ⟨⟨hz0, hz1⟩, hG, hhl⟩ := hI
 refine tS ?_
 refine tS ?_
 refine tR fun _ _ _ => ?_
 iterate 2 refine pV ?_
 refine tC rfl (fun h3 => ?_) (fun h3 => ?_)
 ·try simp only [zbA] at h3
  refine tK ?_
  refine tS ?_
  refine tB ?_
  refine tS ?_
  refine tR fun _ _ _ => ?_
  refine eV (eLit1I rfl rfl rfl rfl (fun A5 => ?_))
  refine pV ?_
  have h10 : ([1] : List Int) = il (prd (grL p m mod gs (keyF dg) z (Int.toNat 0))) := il_one.symm
  refine tS ?_
  refine tS ?_
  refine tR fun _ _ _ => ?_
  refine pV ?_
  refine tB ?_
  refine tr_loop4 (fun (i : Int) (Bl : Option Addr) (cl : Nat) (l : List Int) => [(7, .slice Bg hs.length cg), (8, .int .i64 z), (9, .slice Bl l.length cl), (10, .int .i64 i), (1, .slice X nx cx), (2, .bool dg), (3, .pointer (some p0)), (6, .slice none 0 0), (13, .int .i64 z)]) (fun (i : Int) (Bl : Option Addr) (cl : Nat) (l : List Int) => [ow Bl 3 cl (ints l), ow2 Bg 43 cg (fcs hs), rowsCh 3 (rws hs), blk p0 24 [.int .i64 p, .int .i64 m, .slice A mod.length c], ro A (ints mod), ro X (prs (fcs gs)), rowsR (rws gs)]) (fun (i : Int) (Bl : Option Addr) (cl : Nat) (l : List Int) => (0 ≤ i ∧ i ≤ gs.length) ∧ l = il (prd (grL p m mod gs (keyF dg) z i.toNat))) (fun (i : Int) (Bl : Option Addr) (cl : Nat) (l : List Int) => (gs.length - i).toNat) (0) (A5) (1) ([1]) ⟨rfl, rfl, rfl, rfl, rfl, rfl, rfl, rfl, rfl, trivial⟩ (by first | exact cs _ _ | exact CSub.refl _) (⟨⟨by omega, by omega⟩, h10⟩) (fun i Bl cl l hI => ?_)
  obtain ⟨⟨hi0, hi1⟩, rfl⟩ := hI
  refine tS ?_
  refine tS ?_
  skip
  refine tR fun _ _ _ => ?_
  iterate 2 refine pV ?_
  refine sV (rLenS rfl rfl) ?_
  refine pV ?_
  refine tC rfl (fun h7 => ?_) (fun h7 => ?_)
  ·try simp only [zbA] at h7
   refine tK ?_
   refine tS ?_
   refine tB ?_
   refine tS ?_
   haveI : InB i.toNat gs.length := ⟨by omega⟩
   have hji : i.toNat < gs.length := by omega
   have hfi := hcl _ (getD_mem hji facD)
   have hff := hC.fc hF0 (getD_mem hji facD)
   obtain ⟨g1, g2⟩ := grL_ok hF0 hC (keyF dg) z i.toNat (by omega)
   obtain ⟨g3, g4, g5, g6⟩ := prd_irs hF0 g1 g2
   have hpi := il_length (prd (grL p m mod gs (keyF dg) z i.toNat))
   have hqi := il_length (pol (gs.getD i.toNat facD).r.xs : Po (El p m mod))
   have hqx : il (pol (gs.getD i.toNat facD).r.xs : Po (El p m mod)) = (gs.getD i.toNat facD).r.xs := hff.2.2.2.1.symm
   have hqx2 := congrArg List.length hqx
   have hnx2 : grL p m mod gs (keyF dg) z (i + 1).toNat = if keyF dg (gs.getD i.toNat facD) = z then grL p m mod gs (keyF dg) z i.toNat ++ [fcP p m mod (gs.getD i.toNat facD)] else grL p m mod gs (keyF dg) z i.toNat := by rw [show (i + 1).toNat = i.toNat + 1 by omega]; rfl
   refine tR fun _ _ _ => ?_
   iterate 2 refine pV ?_
   refine sV (rIdxT rfl rfl rfl (by omega) (by omega) (by simp; omega)) ?_
   refine sV (rFld rfl rfl) ?_
   refine sV (rLdG1 rfl rfl (by omega)) ?_
   refine pV ?_
   refine tS ?_
   refine tS ?_
   refine tR fun _ _ _ => ?_
   refine pV ?_
   refine tC rfl (fun h10 => ?_) (fun h10 => ?_)
   ·try simp only [zbA] at h10
    refine tR fun _ _ _ => ?_
    iterate 2 refine pV ?_
    refine sV (rIdxT rfl rfl rfl (by omega) (by omega) (by simp; omega)) ?_
    refine sV (rFld rfl rfl) ?_
    refine sV (rLdG0 rfl rfl (by omega)) ?_
    refine sV (rLen rfl rfl) ?_
    refine sV (rSub rfl rfl rfl (by omega) (by omega)) ?_
    refine pV ?_
    refine tS ?_
    refine tR fun _ _ _ => ?_
    iterate 3 refine pV ?_
    refine tC rfl (fun h12 => ?_) (fun h12 => ?_)
    ·try simp only [zbA] at h12
     have hke : keyF dg (gs.getD i.toNat facD) = z := by unfold keyF; rw [h10]; first | (rw [if_pos rfl]; omega) | (rw [if_neg (by simp)]; omega)
     refine tr_draw [0, 1, 2, 3, 4, 5, 6, 7, 8] [] mixed (by kernel_rfl) fun _ _ _ => ?_
     refine sV (rLdS rfl rfl rfl) ?_
     iterate 3 refine pV ?_
     refine sV (rIdxT rfl rfl rfl (by omega) (by omega) (by simp; omega)) ?_
     refine sV (rFld rfl rfl) ?_
     refine sV (rLdG0 rfl rfl (by omega)) ?_
     refine eV (eCall1 rfl rfl rfl (ref_PMulL p m A c mod Bl _ cl (il (prd (grL p m mod gs (keyF dg) z i.toNat))) rfl (by omega) (gs.getD i.toNat facD).r.A _ (gs.getD i.toNat facD).r.cap (gs.getD i.toNat facD).r.xs rfl (by omega) (by omega)) ⟨rfl, rfl, rfl, trivial⟩ ?_)
     rintro _ _ ⟨B13, c13, rfl, rfl⟩
     refine pV ?_
     rw [pol_il, show (prd (grL p m mod gs (keyF dg) z i.toNat)) * (pol (gs.getD i.toNat facD).r.xs : Po (El p m mod)) = (prd (grL p m mod gs (keyF dg) z (i + 1).toNat)) from (by rw [hnx2, if_pos hke, prd_one]; rfl)]
     refine tR fun _ _ _ => ?_
     refine pV ?_
     refine sV (rAdd rfl rfl rfl (by omega) (by omega)) ?_
     refine pV ?_
     refine ⟨i + 1, B13, c13, il (prd (grL p m mod gs (keyF dg) z (i + 1).toNat)), ⟨rfl, rfl, rfl, rfl, rfl, rfl, rfl, rfl, rfl, trivial⟩, by first | exact cs _ _ | exact CSub.refl _, ?_⟩
     exact ⟨⟨⟨by omega, by omega⟩, rfl⟩, by omega⟩
    ·try simp only [zbA] at h12
     refine tK ?_
     refine tR fun _ _ _ => ?_
     refine pV ?_
     refine sV (rAdd rfl rfl rfl (by omega) (by omega)) ?_
     refine pV ?_
     refine ⟨i + 1, Bl, cl, il (prd (grL p m mod gs (keyF dg) z i.toNat)), ⟨rfl, rfl, rfl, rfl, rfl, rfl, rfl, rfl, rfl, trivial⟩, by first | exact cs _ _ | exact CSub.refl _, ?_⟩
     have hke : ¬ keyF dg (gs.getD i.toNat facD) = z := by unfold keyF; rw [h10]; first | (rw [if_pos rfl]; omega) | (rw [if_neg (by simp)]; omega)
     exact ⟨⟨⟨by omega, by omega⟩, by rw [hnx2, if_neg hke]⟩, by omega⟩
   ·try simp only [zbA] at h10
    refine tK ?_
    refine tS ?_
    refine tR fun _ _ _ => ?_
    iterate 3 refine pV ?_
    refine tC rfl (fun h12 => ?_) (fun h12 => ?_)
    ·try simp only [zbA] at h12
     have hke : keyF dg (gs.getD i.toNat facD) = z := by unfold keyF; rw [h10]; first | (rw [if_pos rfl]; omega) | (rw [if_neg (by simp)]; omega)
     refine tr_draw [0, 1, 2, 3, 4, 5, 6, 7, 8] [] mixed (by kernel_rfl) fun _ _ _ => ?_
     refine sV (rLdS rfl rfl rfl) ?_
     iterate 3 refine pV ?_
     refine sV (rIdxT rfl rfl rfl (by omega) (by omega) (by simp; omega)) ?_
     refine sV (rFld rfl rfl) ?_
     refine sV (rLdG0 rfl rfl (by omega)) ?_
     refine eV (eCall1 rfl rfl rfl (ref_PMulL p m A c mod Bl _ cl (il (prd (grL p m mod gs (keyF dg) z i.toNat))) rfl (by omega) (gs.getD i.toNat facD).r.A _ (gs.getD i.toNat facD).r.cap (gs.getD i.toNat facD).r.xs rfl (by omega) (by omega)) ⟨rfl, rfl, rfl, trivial⟩ ?_)
     rintro _ _ ⟨B13, c13, rfl, rfl⟩
     refine pV ?_
     rw [pol_il, show (prd (grL p m mod gs (keyF dg) z i.toNat)) * (pol (gs.getD i.toNat facD).r.xs : Po (El p m mod)) = (prd (grL p m mod gs (keyF dg) z (i + 1).toNat)) from (by rw [hnx2, if_pos hke, prd_one]; rfl)]
     refine tR fun _ _ _ => ?_
     refine pV ?_
     refine sV (rAdd rfl rfl rfl (by omega) (by omega)) ?_
     refine pV ?_
     refine ⟨i + 1, B13, c13, il (prd (grL p m mod gs (keyF dg) z (i + 1).toNat)), ⟨rfl, rfl, rfl, rfl, rfl, rfl, rfl, rfl, rfl, trivial⟩, by first | exact cs _ _ | exact CSub.refl _, ?_⟩
     exact ⟨⟨⟨by omega, by omega⟩, rfl⟩, by omega⟩
    ·try simp only [zbA] at h12
     refine tK ?_
     refine tR fun _ _ _ => ?_
     refine pV ?_
     refine sV (rAdd rfl rfl rfl (by omega) (by omega)) ?_
     refine pV ?_
     refine ⟨i + 1, Bl, cl, il (prd (grL p m mod gs (keyF dg) z i.toNat)), ⟨rfl, rfl, rfl, rfl, rfl, rfl, rfl, rfl, rfl, trivial⟩, by first | exact cs _ _ | exact CSub.refl _, ?_⟩
     have hke : ¬ keyF dg (gs.getD i.toNat facD) = z := by unfold keyF; rw [h10]; first | (rw [if_pos rfl]; omega) | (rw [if_neg (by simp)]; omega)
     exact ⟨⟨⟨by omega, by omega⟩, by rw [hnx2, if_neg hke]⟩, by omega⟩
  ·try simp only [zbA] at h7
   refine tE ?_
   refine tS ?_
   have hin : i.toNat = gs.length := by omega
   rw [hin]
   obtain ⟨g1, g2⟩ := grL_ok hF0 hC (keyF dg) z gs.length (Nat.le_refl _)
   obtain ⟨g3, g4, g5, g6⟩ := prd_irs hF0 g1 g2
   have hpi := il_length (prd (grL p m mod gs (keyF dg) z gs.length))
   have hzn : ((z.toNat : Nat) : Int) = z := by omega
   have hGs := GrI.step hF0 hC hk hG
   rw [hzn] at hGs
   refine tR fun _ _ _ => ?_
   refine pV ?_
   refine sV (rLen rfl rfl) ?_
   refine pV ?_
   refine tC rfl (fun h14 => ?_) (fun h14 => ?_)
   ·try simp only [zbA] at h14
    refine tR fun _ _ _ => ?_
    iterate 3 refine pV ?_
    refine sV (rBuild rfl rfl) ?_
    refine eV (eLitS rfl rfl rfl rfl (fun p15 => ?_))
    refine eV (eApp2 rfl rfl rfl rfl rfl (by first | rfl | simp) rfl (by first | (simp; done) | (simp; omega)) (by first | (simp; done) | (simp; omega)) (fun A15a c15a => ?_))
    refine pV ?_
    rw [fcs_snoc, fcs_length]
    refine tR fun _ _ _ => ?_
    refine pV ?_
    refine sV (rAdd rfl rfl rfl (by omega) (by omega)) ?_
    refine pV ?_
    refine ⟨z + 1, A15a, c15a, hs ++ [⟨⟨Bl, cl, il (prd (grL p m mod gs (keyF dg) z gs.length))⟩, z⟩], ⟨rfl, rfl, rfl, rfl, rfl, rfl, trivial⟩, by rw [rws_app]; exact rows_app (r := ⟨Bl, cl, il (prd (grL p m mod gs (keyF dg) z gs.length))⟩), ?_⟩
    refine ⟨⟨⟨by omega, by omega⟩, ?_, by simp; omega⟩, by omega⟩
    rw [show (z + 1).toNat = z.toNat + 1 by omega]
    exact hGs.1 (by omega) Bl cl
   ·try simp only [zbA] at h14
    refine tK ?_
    refine tR fun _ _ _ => ?_
    refine pV ?_
    refine sV (rAdd rfl rfl rfl (by omega) (by omega)) ?_
    refine pV ?_
    refine ⟨z + 1, Bg, cg, hs, ⟨rfl, rfl, rfl, rfl, rfl, rfl, trivial⟩, by first | exact cs _ _ | exact CSub.refl _, ?_⟩
    refine ⟨⟨⟨by omega, by omega⟩, ?_, by omega⟩, by omega⟩
    rw [show (z + 1).toNat = z.toNat + 1 by omega]
    exact hGs.2 (by omega)
 ·try simp only [zbA] at h3
  refine tE ?_
  refine tS ?_
  refine tR fun _ _ _ => ?_
  iterate 2 refine pV ?_
  have hz7 : z.toNat = 257 := by omega
  rw [hz7] at hG
  exact tr_ret ⟨trivial, _, _, rfl, ⟨_, _, rfl, Bg, cg, hs, rfl, rfl, rfl, hG, by omega⟩, cs _ _, trivial, trivial, trivial⟩
end Go.Proofs.YtbhoeaijpnjgdaaGreat

namespace Go.Proofs.YtbhoeaijpnjgdaaGreat
open Go.RowKit
section
variable {p m : Int} {mod : List Int} [hF : IsF p m mod]
open Po
theorem GrI.cong {f g : Po (El p m mod)} {κ μ : Po (El p m mod) → Nat} {b : Nat} {hs : List FacM} (h : GrI f κ b hs) (hd : ∀ P, Ir P → lead P = 1 → (P ∣ f ↔ P ∣ g)) (hk : ∀ P, Ir P → lead P = 1 → P ∣ f → κ P = μ P) : GrI g μ b hs :=
 ⟨fun e he => by
  obtain ⟨⟨Q, a1, a2, a3, a4, a5⟩, a6⟩ := h.each e he
  refine ⟨⟨Q, a1, a2, a3, a4, fun P b1 b2 => ?_⟩, a6⟩
  rw [a5 P b1 b2]
  constructor
  ·rintro ⟨x, y⟩; exact ⟨(hd P b1 b2).1 x, by rw [← hk P b1 b2 x]; exact y⟩
  ·rintro ⟨x, y⟩
   have x' := (hd P b1 b2).2 x
   exact ⟨x', by rw [hk P b1 b2 x']; exact y⟩, fun P b1 b2 b3 b4 => by
  have x' := (hd P b1 b2).2 b3
  have := h.all P b1 b2 x' (by rw [hk P b1 b2 x']; exact b4)
  rwa [hk P b1 b2 x'] at this, h.srt⟩
theorem mon_iff (f : Po (El p m mod)) : ∀ P : Po (El p m mod), Ir P → lead P = 1 → (P ∣ mon f ↔ P ∣ f) := fun P _ _ => ⟨fun h => dvd_trans h (mon_dvd f), fun h => dvd_trans h (dvd_mon f)⟩
theorem sqI_gr {f : Po (El p m mod)} (hf : f ≠ 0) {fs : List FacM} (h : SqI f 1 (fun _ => True) fs) (hs : fs.Pairwise fun x y => x.k < y.k) {b : Nat} (hb : ∀ e ∈ fs, e.k < b) : GrI f (fun P => mu P f) b fs := by
 refine ⟨fun e he => ?_, fun P a1 a2 a3 a4 => ?_, hs⟩
 ·obtain ⟨q1, q2, q3, q4, q5, q6, q7⟩ := h.fc e he
  refine ⟨⟨_, q7, q1, q3, q5, fun P b1 b2 => ?_⟩, hb e he⟩
  rw [q6 P b1 b2]
  constructor
  ·intro x
   exact ⟨(mu_pos b1 hf).2 (by omega), by show ((mu P f : Nat) : Int) = _; omega⟩
  ·rintro ⟨_, y⟩
   have : ((mu P f : Nat) : Int) = e.k := y
   omega
 ·obtain ⟨e, he, hk⟩ := h.all P a1 a2 ((mu_pos a1 hf).1 a3) trivial
  exact ⟨e, he, by rw [hk, Nat.one_mul]⟩
theorem mu_le_len {f P : Po (El p m mod)} (hf : f ≠ 0) (hP : Ir P) : mu P f ≤ len f - 1 := by
 have h3 := dvd_len (mu_spec hP hf).1 hf
 rw [len_powN hP.ne] at h3
 have h4 : mu P f * 1 ≤ mu P f * (len P - 1) := Nat.mul_le_mul_left _ (by have := hP.two; omega)
 omega
end
end Go.Proofs.YtbhoeaijpnjgdaaGreat

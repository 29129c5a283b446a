/-
  FACTORFROBENIUS, PART 8 OF 9. One sentence: the texts behind the law FactorFrobenius, put together.
  Conditions: each theorem's own, written out in it.
-/
import Derived.Test.YtbhoeaijpnjgdaaK7
set_option linter.unusedSimpArgs false
set_option linter.unusedVariables false
set_option linter.unusedSectionVars false
set_option maxRecDepth 100000
namespace Go.Proofs.Ytbhoeaijpnjgdaa
open Go.RowKit
theorem law_FactorFrobenius_no_ent : Enters Try.prog 9 := enters_of Try.func9 (by kernel_rfl) (by kernel_rfl)
theorem law_FactorFrobenius_no (p m : Int) (A : Option Addr) (c : Nat) (mod : List Int) (hl9 : mod.length ≤ 17592186044415) (n : Int) (hF : ¬ FldR p m mod) :
  Pure Try.prog 9 #[.agg #[.int .i64 p, .int .i64 m, .slice A mod.length c], .int .i64 n] [ro A (ints mod)] (isV (.bool true)) := by
 refine pure_of (args := [.agg #[.int .i64 p, .int .i64 m, .slice A mod.length c], .int .i64 n]) 129 Try.func9 rfl rfl rfl law_FactorFrobenius_no_ent ⟨id, trivial⟩ (fun w0 => ?_)
 refine tS ?_
 refine tR fun _ _ _ => ?_
 refine eV (eBox rfl rfl rfl rfl rfl (fun p0 => ?_))
 refine pV ?_
 refine tS ?_
 refine tR fun _ _ _ => ?_
 refine sV (rLdS rfl rfl rfl) ?_
 refine eV (eCallV rfl rfl rfl (law_open_no _ _ _ _ _ (by omega) hF) ⟨rfl, trivial⟩ ?_)
 iterate 7 refine pV ?_
 refine tS ?_
 refine tS ?_
 refine tR fun _ _ _ => ?_
 refine pV ?_
 refine tC rfl (fun h2 => ?_) (fun h2 => ?_)
 ·try simp only [zbA] at h2
  refine tS ?_
  refine tR fun _ _ _ => ?_
  iterate 2 refine pV ?_
  exact tr_ret ⟨trivial, _, _, rfl, ⟨rfl, rfl⟩, CSub.nil _, trivial⟩
 ·try simp only [zbA] at h2
  cases h2 --done
theorem frob_pol {p m : Int} {mod : List Int} [hF : IsF p m mod] {s : Int} {n : Nat} (hn : 1 ≤ n) (hs : s = (((pw p m).toNat ^ n : Nat) : Int)) (h2 : 2 ≤ s) : (pol (((List.replicate (s + 1).toNat 0).set s.toNat 1).set 1 (-el 1 : El p m mod).1) : Po (El p m mod)) = xq p m mod n := Po.ext fun j => by
 have hs1 : (pw p m).toNat ^ n = s.toNat := by omega
 unfold xq
 rw [Po.cf_sub, Po.pow_X, Po.cf_mn, hs1, cf_pol]
 show _ = _ - Po.cf (Po.mn 1 1) j
 rw [Po.cf_mn, getD_set, getD_set, List.length_set, List.length_replicate]
 by_cases e1 : j = 1
 ·rw [if_pos ⟨e1.symm, by omega⟩, if_neg (by omega), if_pos e1, el_of, el_one]
  grind
 ·rw [if_neg fun g => e1 g.1.symm, if_neg e1, Rg.sub_zero]
  by_cases e2 : j = s.toNat
  ·rw [if_pos ⟨e2.symm, by omega⟩, if_pos e2, el_one]
  ·rw [if_neg fun g => e2 g.1.symm, if_neg e2]
   rw [rep_get, el_zero]
theorem nsm_stepZ {N : Nat → Nat} {n d : Int} (hn : 0 ≤ n) (hd : 1 ≤ d) : nsm N n.toNat d.toNat = nsm N n.toNat (d - 1).toNat + if n % d = 0 then N d.toNat else 0 := by
 obtain ⟨k, hk⟩ : ∃ k : Nat, d = (k : Int) + 1 := ⟨(d - 1).toNat, by omega⟩
 obtain ⟨j, hj⟩ : ∃ j : Nat, n = (j : Int) := ⟨n.toNat, by omega⟩
 subst hk hj
 rw [show ((k : Int) + 1 - 1).toNat = k by omega, show ((k : Int) + 1).toNat = k + 1 by omega, Int.toNat_natCast, nsm]
 have e : ((j : Int) % ((k : Int) + 1) = 0) ↔ (j % (k + 1) = 0) := by
  rw [show ((k : Int) + 1) = ((k + 1 : Nat) : Int) by omega, ← Int.natCast_emod]; omega
 by_cases h : j % (k + 1) = 0
 ·rw [if_pos h, if_pos (e.2 h)]
 ·rw [if_neg h, if_neg fun g => h (e.1 g)]
theorem nsm_mono (N : Nat → Nat) (n : Nat) {i j : Nat} (h : i ≤ j) : nsm N n i ≤ nsm N n j := by
 induction h with
 | refl => exact Nat.le_refl _
 | step _ ih => exact Nat.le_trans ih (by rw [nsm]; omega)
theorem nsm_le (N : Nat → Nat) (n : Nat) : ∀ j, nsm N n j ≤ dsm N n j
 | 0 => Nat.le_refl _
 | j + 1 => by
  have h := nsm_le N n j
  have h1 : N (j + 1) ≤ (j + 1) * N (j + 1) := Nat.le_mul_of_pos_left _ (by omega)
  rw [nsm, dsm]
  by_cases e : n % (j + 1) = 0
  ·rw [if_pos e, if_pos e]; omega
  ·rw [if_neg e, if_neg e]; omega
theorem law_FactorFrobenius_G_ent : Enters Try.prog 9 := enters_of Try.func9 (by kernel_rfl) (by kernel_rfl)
theorem law_FactorFrobenius_G (p m : Int) (A : Option Addr) (c : Nat) (mod : List Int) [hF : IsF p m mod] (hl9 : mod.length ≤ 17592186044415) (n : Int) :
  Pure Try.prog 9 #[.agg #[.int .i64 p, .int .i64 m, .slice A mod.length c], .int .i64 n] [ro A (ints mod)] (isV (.bool true)) := by
 have hord := hF.ord
 have hq2 := hF.q2
 have hq9 : pw p m ≤ 256 := by have := hF.out.1.1.q; omega
 refine pure_of (args := [.agg #[.int .i64 p, .int .i64 m, .slice A mod.length c], .int .i64 n]) 129 Try.func9 rfl rfl rfl law_FactorFrobenius_G_ent ⟨id, trivial⟩ (fun w0 => ?_)
 refine tS ?_
 refine tR fun _ _ _ => ?_
 refine eV (eBox rfl rfl rfl rfl rfl (fun p0 => ?_))
 refine pV ?_
 refine tS ?_
 refine tR fun _ _ _ => ?_
 refine sV (rLdS rfl rfl rfl) ?_
 refine eV (eCall1 rfl rfl rfl (law_open_ok _ _ _ _ _ (by omega) hF.out) ⟨rfl, trivial⟩ ?_)
 rintro _ _ ⟨g, rfl, rfl, hg⟩
 iterate 7 refine pV ?_
 refine tS ?_
 refine tS ?_
 refine tR fun _ _ _ => ?_
 refine pV ?_
 refine tC rfl (fun h2 => ?_) (fun h2 => ?_)
 ·try simp only [zbA] at h2
  cases h2 --done
 ·try simp only [zbA] at h2
  refine tK ?_
  refine tS ?_
  refine tS ?_
  refine tR fun _ _ _ => ?_
  refine pV ?_
  refine eV (eCallV rfl rfl rfl (law06_alive g hg) ⟨rfl, trivial⟩ ?_)
  refine sV (rNotB rfl rfl) ?_
  refine tC rfl (fun h4 => ?_) (fun h4 => ?_)
  ·try simp only [zbA] at h4
   simp at h4 --done
  ·try simp only [zbA] at h4
   refine tK ?_
   refine tS ?_
   refine tR fun _ _ _ => ?_
   refine pV ?_
   refine tS ?_
   refine tS ?_
   refine tR fun _ _ _ => ?_
   refine pV ?_
   refine tB ?_
   refine tr_loop2 (fun (i : Int) (s : Int) => [(8, .int .i64 s), (9, .int .i64 i), (5, .pointer (some g.p)), (1, .int .i64 n), (2, .pointer (some p0)), (4, .bool false)]) (fun (i : Int) (s : Int) => [gfN g, blk p0 24 [.int .i64 p, .int .i64 m, .slice A mod.length c], ro A (ints mod)]) (fun (i : Int) (s : Int) => (0 ≤ i ∧ (i ≤ n ∨ i = 0)) ∧ (1 ≤ s ∧ s ≤ 81 * 256) ∧ s = (((pw p m).toNat ^ i.toNat : Nat) : Int)) (fun (i : Int) (s : Int) => (n - i).toNat) (0) (1) ⟨rfl, rfl, rfl, rfl, rfl, rfl, trivial⟩ (by first | exact cs _ _ | exact CSub.refl _) (⟨⟨by omega, by omega⟩, ⟨by omega, by omega⟩, by rw [show ((0 : Int).toNat) = 0 from rfl, Nat.pow_zero]; rfl⟩) (fun i s hI => ?_)
   obtain ⟨⟨hi0, hi1⟩, ⟨hs0, hs1⟩, hs⟩ := hI
   refine tS ?_
   refine tS ?_
   refine tR fun _ _ _ => ?_
   iterate 4 refine pV ?_
   refine stg rfl rfl rfl rfl rfl (fun hb => by (have hq := hb; try simp only [zbA] at hq); exact rMove rfl rfl) ?_
   refine stg rfl rfl rfl rfl rfl (fun hb => by (have hq := hb; try simp only [zbA] at hq); exact rLeq rfl (evg rfl hb) rfl) ?_
   refine sV (rAndB rfl rfl rfl rfl) ?_
   refine tC rfl (fun h8 => ?_) (fun h8 => ?_)
   ·try simp only [zbA] at h8
    refine tK ?_
    refine tS ?_
    refine tB ?_
    have hlt : i < n ∧ s ≤ 81 := by simpa using h8
    have hm1 : s * pw p m ≤ 81 * 256 := Int.mul_le_mul (by omega) (by omega) (by omega) (by omega)
    have hm0 : 0 < s * pw p m := Int.mul_pos (by omega) (by omega)
    have hi81 : i ≤ 81 := by
     have h1 := Nat.lt_pow_self (n := i.toNat) (a := (pw p m).toNat) (by omega)
     omega
    refine tR fun _ _ _ => ?_
    refine pV ?_
    refine sV (rLdS rfl rfl rfl) ?_
    refine eV (eCallV rfl rfl rfl (ref_order p m A c mod) ⟨rfl, trivial⟩ ?_)
    rw [hord]
    refine sV (rMul rfl rfl rfl (by omega) (by omega)) ?_
    refine pV ?_
    refine tR fun _ _ _ => ?_
    refine pV ?_
    refine sV (rAdd rfl rfl rfl (by omega) (by omega)) ?_
    refine pV ?_
    refine ⟨i + 1, s * pw p m, ⟨rfl, rfl, rfl, rfl, rfl, rfl, trivial⟩, by first | exact cs _ _ | exact CSub.refl _, ?_⟩
    refine ⟨⟨⟨by omega, by omega⟩, ⟨by omega, by omega⟩, ?_⟩, by omega⟩
    rw [show (i + 1).toNat = i.toNat + 1 by omega, Nat.pow_succ, Int.natCast_mul, ← hs]
    congr 1; omega
   ·try simp only [zbA] at h8
    refine tE ?_
    refine tS ?_
    refine tS ?_
    refine tR fun _ _ _ => ?_
    iterate 3 refine pV ?_
    refine stg rfl rfl rfl rfl rfl (fun hb => by (have hq := hb; try simp only [zbA] at hq); exact rMove rfl rfl) ?_
    refine stg rfl rfl rfl rfl rfl (fun hb => by (have hq := hb; try simp only [zbA] at hq); exact rGtr rfl (evg rfl hb) rfl) ?_
    refine sV (rOrB rfl rfl rfl rfl) ?_
    refine tC rfl (fun h11 => ?_) (fun h11 => ?_)
    ·try simp only [zbA] at h11
     refine tS ?_
     refine tR fun _ _ _ => ?_
     refine pV ?_
     exact tr_ret ⟨trivial, _, _, rfl, ⟨rfl, rfl⟩, CSub.nil _, trivial⟩
    ·try simp only [zbA] at h11
     refine tK ?_
     refine tS ?_
     have hn1 : 1 ≤ n := by simp at h11; omega
     have hs81 : s ≤ 81 := by simp at h11; omega
     have hin : n = i := by simp at h8; omega
     subst hin
     have hsn := hs
     have hs2 : 2 ≤ s := by
      have h1 := Nat.pow_le_pow_right (show 0 < (pw p m).toNat by omega) (show 1 ≤ n.toNat by omega)
      rw [Nat.pow_one] at h1; omega
     have hi81 : n ≤ 81 := by
      have h1 := Nat.lt_pow_self (n := n.toNat) (a := (pw p m).toNat) (by omega)
      omega
     have hxq := frob_pol (p := p) (m := m) (mod := mod) (n := n.toNat) (by omega) hs hs2
     obtain ⟨hxl, hxm⟩ := xq_len (p := p) (m := m) (mod := mod) (n := n.toNat) (by omega)
     have he : facE (Po.len (pol (((List.replicate (s + 1).toNat 0).set s.toNat 1).set 1 (-el 1 : El p m mod).1) : Po (El p m mod))) = 0 := by
      rw [hxq, hxl]; unfold facE
      rw [if_neg (by omega), if_neg (by omega)]
     refine tR fun _ _ _ => ?_
     refine pV ?_
     refine sV (rAdd rfl rfl rfl (by omega) (by omega)) ?_
     refine eV (eMakeI rfl rfl rfl rfl rfl (by omega) (by omega) (by omega) (fun A13 => ?_))
     refine pV ?_
     refine tS ?_
     have hl0 : (List.replicate (s + 1).toNat (0 : Int)).length = (s + 1).toNat := List.length_replicate
     have hl1 : ((List.replicate (s + 1).toNat (0 : Int)).set s.toNat 1).length = (s + 1).toNat := by rw [List.length_set]; exact hl0
     refine tR fun _ _ _ => ?_
     iterate 2 refine pV ?_
     refine sV (rIdxI rfl rfl rfl (by omega) (by omega) (by omega)) ?_
     refine eV (eStI rfl rfl rfl rfl (by omega) ?_)
     refine tS ?_
     refine tR fun _ _ _ => ?_
     refine pV ?_
     refine sV (rLdS rfl rfl rfl) ?_
     refine eV (eCallV rfl rfl rfl (ref_NegE p m A c mod 1) ⟨rfl, rfl, trivial⟩ ?_)
     refine sV (rIdxI rfl rfl rfl (by omega) (by omega) (by omega)) ?_
     refine eV (eStI rfl rfl rfl rfl (by omega) ?_)
     refine tS ?_
     rw [show (1 : Int).toNat = 1 from rfl]
     refine tR fun _ _ _ => ?_
     iterate 2 refine pV ?_
     refine eV (eCall2 rfl rfl rfl (fac_CompleteL facSort facNone g hg A13 _ (s + 1).toNat (((List.replicate (s + 1).toNat 0).set s.toNat 1).set 1 (-el 1 : El p m mod).1) (by simp) (by simp; omega) he) ⟨rfl, rfl, trivial⟩ ?_)
     rintro _ _ _ ⟨B16, c16, fs, rfl, rfl, rfl, hC, hR, hfl⟩
     iterate 7 refine pV ?_
     rw [hxq, Po.mon_of_monic hxm] at hC
     obtain ⟨hfn, hfe⟩ := cmI_xq (by omega) hC
     have hx0 := lead1_ne hxm
     have hle := hC.le hx0
     have hns : nsm (irN p m mod) n.toNat n.toNat ≤ s.toNat := Nat.le_trans (nsm_le _ _ _) (by rw [irN_cnt n.toNat (by omega)]; omega)
     refine tS ?_
     refine tS ?_
     refine tR fun _ _ _ => ?_
     iterate 2 refine pV ?_
     refine tC rfl (fun h17 => ?_) (fun h17 => ?_)
     ·try simp only [zbA] at h17
      simp at h17 --done
     ·try simp only [zbA] at h17
      refine tK ?_
      refine tS ?_
      refine tS ?_
      refine tR fun _ _ _ => ?_
      refine pV ?_
      refine tB ?_
      refine tr_loop1 (fun (k : Int) => [(14, .int .i64 k), (1, .int .i64 n), (2, .pointer (some p0)), (12, .slice B16 fs.length c16)]) (fun (k : Int) => [gfN g, blk p0 24 [.int .i64 p, .int .i64 m, .slice A mod.length c], ow2 B16 64 c16 (fcs fs), rowsCh 3 (rws fs), ro A (ints mod)]) (fun (k : Int) => 0 ≤ k ∧ k ≤ fs.length) (fun (k : Int) => ((fs.length : Int) - k).toNat) (0) ⟨rfl, rfl, rfl, rfl, trivial⟩ (by first | exact cs _ _ | exact CSub.refl _) (⟨by omega, by omega⟩) (fun k hI => ?_)
      obtain ⟨hk0, hk9⟩ := hI
      refine tS ?_
      refine tS ?_
      refine tR fun _ _ _ => ?_
      iterate 2 refine pV ?_
      refine sV (rLenS rfl rfl) ?_
      refine pV ?_
      refine tC rfl (fun h20 => ?_) (fun h20 => ?_)
      ·try simp only [zbA] at h20
       refine tK ?_
       refine tS ?_
       refine tB ?_
       refine tS ?_
       haveI : InB k.toNat fs.length := ⟨by omega⟩
       have hjl : k.toNat < fs.length := by omega
       have hfk := hle _ (getD_mem hjl facD)
       obtain ⟨hk1e, d, hd1, hdl, hdd⟩ := hfe _ (getD_mem hjl facD)
       obtain ⟨_, _, _, hx4, _, _⟩ := hC.fc hx0 (getD_mem hjl facD)
       have hx4' : ((fs.getD k.toNat facD)).r.xs = il (pol (fs.getD k.toNat facD).r.xs : Po (El p m mod)) := hx4
       have hil4 := il_length (pol (fs.getD k.toNat facD).r.xs : Po (El p m mod))
       have hx5 := congrArg List.length hx4'
       refine tr_draw [0, 1, 2, 3, 4, 5, 6, 7] [] mixed (by kernel_rfl) fun _ _ _ => ?_
       refine sV (rLdS rfl rfl rfl) ?_
       iterate 2 refine pV ?_
       refine sV (rIdxT rfl rfl rfl (by omega) (by omega) (by simp; omega)) ?_
       refine sV (rFld rfl rfl) ?_
       refine sV (rLdG0 rfl rfl (by omega)) ?_
       refine eV (eCallV rfl rfl rfl (ref_PDegree p m A c mod (fs.getD k.toNat facD).r.A _ (fs.getD k.toNat facD).r.cap (fs.getD k.toNat facD).r.xs rfl (by omega)) ⟨rfl, rfl, trivial⟩ ?_)
       refine pV ?_
       refine tS ?_
       have hde : ((Po.len (pol (fs.getD k.toNat facD).r.xs : Po (El p m mod)) : Int) - 1) = (d : Int) := by omega
       rw [hde]
       have hk1 : decide ((d : Int) < 1) = false := decide_eq_false (by omega)
       have hnd : n % (d : Int) = 0 := by
        have h1 := Nat.mod_eq_zero_of_dvd hdd
        have h2 : ((n.toNat % d : Nat) : Int) = n % (d : Int) := by rw [Int.natCast_emod, Int.toNat_of_nonneg (by omega)]
        omega
       have hk2 : decide (¬ n % (d : Int) = 0) = false := decide_eq_false fun g => g hnd
       refine tR fun _ _ _ => ?_
       iterate 3 refine pV ?_
       refine stT rfl rfl rfl (by first | exact hk1 | (rw [hk1]; rfl) | simp [hk1]) rfl rfl (rMove rfl rfl) ?_
       refine stT rfl rfl rfl (by first | exact hk1 | (rw [hk1]; rfl) | simp [hk1]) rfl rfl (rMove rfl rfl) ?_
       refine stT rfl rfl rfl (by first | exact hk1 | (rw [hk1]; rfl) | simp [hk1]) rfl rfl (rRem rfl rfl rfl (by omega) (by omega)) ?_
       refine stT rfl rfl rfl (by first | exact hk1 | (rw [hk1]; rfl) | simp [hk1]) rfl rfl (rNeq rfl rfl rfl) ?_
       refine sV (rPick0 rfl rfl (by first | exact hk1 | (rw [hk1]; rfl) | simp [hk1]) rfl) ?_
       refine pV ?_
       refine stT rfl rfl rfl (by first | exact hk2 | (rw [hk2]; rfl) | simp [hk2]) rfl rfl (rMove rfl rfl) ?_
       refine stT rfl rfl rfl (by first | exact hk2 | (rw [hk2]; rfl) | simp [hk2]) rfl rfl (rMove rfl rfl) ?_
       refine stT rfl rfl rfl (by first | exact hk2 | (rw [hk2]; rfl) | simp [hk2]) rfl rfl (rIdxT rfl rfl rfl (by omega) (by omega) (by simp; omega)) ?_
       refine stT rfl rfl rfl (by first | exact hk2 | (rw [hk2]; rfl) | simp [hk2]) rfl rfl (rFld rfl rfl) ?_
       refine stT rfl rfl rfl (by first | exact hk2 | (rw [hk2]; rfl) | simp [hk2]) rfl rfl (rLdG1 rfl rfl (by omega)) ?_
       refine stT rfl rfl rfl (by first | exact hk2 | (rw [hk2]; rfl) | simp [hk2]) rfl rfl (rNeq rfl rfl rfl) ?_
       refine sV (rPick0 rfl rfl (by first | exact hk2 | (rw [hk2]; rfl) | simp [hk2]) rfl) ?_
       refine tC rfl (fun h23 => ?_) (fun h23 => ?_)
       ·try simp only [zbA] at h23
        exact absurd hk1e (by simpa using h23) --done
       ·try simp only [zbA] at h23
        refine tK ?_
        refine tR fun _ _ _ => ?_
        refine pV ?_
        refine sV (rAdd rfl rfl rfl (by omega) (by omega)) ?_
        refine pV ?_
        refine ⟨k + 1, ⟨rfl, rfl, rfl, rfl, trivial⟩, by first | exact cs _ _ | exact CSub.refl _, ?_⟩
        exact ⟨⟨by omega, by omega⟩, by omega⟩
      ·try simp only [zbA] at h20
       refine tE ?_
       refine tS ?_
       refine tR fun _ _ _ => ?_
       refine pV ?_
       refine tS ?_
       refine tS ?_
       refine tR fun _ _ _ => ?_
       refine pV ?_
       refine tB ?_
       refine tr_loop2 (fun (d : Int) (tt : Int) => [(17, .int .i64 d), (16, .int .u64 tt), (1, .int .i64 n), (2, .pointer (some p0)), (12, .slice B16 fs.length c16)]) (fun (d : Int) (tt : Int) => [gfN g, blk p0 24 [.int .i64 p, .int .i64 m, .slice A mod.length c], ow2 B16 64 c16 (fcs fs), rowsCh 3 (rws fs), ro A (ints mod)]) (fun (d : Int) (tt : Int) => (1 ≤ d ∧ d ≤ n + 1) ∧ tt = ((nsm (irN p m mod) n.toNat (d - 1).toNat : Nat) : Int)) (fun (d : Int) (tt : Int) => (n + 1 - d).toNat) (1) (0) ⟨rfl, rfl, rfl, rfl, rfl, trivial⟩ (by first | exact cs _ _ | exact CSub.refl _) (⟨⟨by omega, by omega⟩, by rw [show ((1 : Int) - 1).toNat = 0 from rfl, nsm]; rfl⟩) (fun d tt hI => ?_)
       obtain ⟨⟨hd0, hd9⟩, htt⟩ := hI
       refine tS ?_
       refine tS ?_
       refine tR fun _ _ _ => ?_
       iterate 3 refine pV ?_
       refine tC rfl (fun h27 => ?_) (fun h27 => ?_)
       ·try simp only [zbA] at h27
        refine tK ?_
        refine tS ?_
        refine tB ?_
        refine tS ?_
        refine tR fun _ _ _ => ?_
        iterate 2 refine pV ?_
        refine sV (rRem rfl rfl rfl (by omega) (by omega)) ?_
        refine pV ?_
        refine tC rfl (fun h29 => ?_) (fun h29 => ?_)
        ·try simp only [zbA] at h29
         refine tS ?_
         have hst := nsm_stepZ (N := (irN p m mod)) (n := n) (d := d) (by omega) hd0
         rw [if_pos h29] at hst
         have hmo := nsm_mono (irN p m mod) n.toNat (i := d.toNat) (j := n.toNat) (by omega)
         refine tR fun _ _ _ => ?_
         refine sV (rLdS rfl rfl rfl) ?_
         refine pV ?_
         refine eV (eCall1 rfl rfl rfl (ref_Count p m A c mod (irN p m mod) irN_cnt d.toNat d (by omega) (by omega) (by omega)) ⟨rfl, rfl, trivial⟩ ?_)
         rintro _ _ ⟨B30, c30, rfl, rfl, hc30⟩
         iterate 5 refine pV ?_
         refine tS ?_
         refine tR fun _ _ _ => ?_
         refine pV ?_
         refine eV (eCallV rfl rfl rfl (ref_NInt B30 _ c30 ((irN p m mod) d.toNat) rfl hc30 (by omega)) ⟨rfl, trivial⟩ ?_)
         iterate 5 refine pV ?_
         refine tR fun _ _ _ => ?_
         iterate 2 refine pV ?_
         refine sV (rConv rfl undI undU64 rfl (IntWalk.u64_in _ ⟨by omega, by omega⟩)) ?_
         refine sV (rAddU rfl rfl rfl (by omega) (by omega)) ?_
         refine pV ?_
         refine tR fun _ _ _ => ?_
         refine pV ?_
         refine sV (rAdd rfl rfl rfl (by omega) (by omega)) ?_
         refine pV ?_
         refine ⟨d + 1, tt + (((irN p m mod) d.toNat : Nat) : Int), ⟨rfl, rfl, rfl, rfl, rfl, trivial⟩, by first | exact cs _ _ | exact CSub.refl _, ?_⟩
         exact ⟨⟨⟨by omega, by omega⟩, by rw [show (d + 1 - 1) = d by omega]; omega⟩, by omega⟩
        ·try simp only [zbA] at h29
         refine tK ?_
         refine tR fun _ _ _ => ?_
         refine pV ?_
         refine sV (rAdd rfl rfl rfl (by omega) (by omega)) ?_
         refine pV ?_
         refine ⟨d + 1, tt, ⟨rfl, rfl, rfl, rfl, rfl, trivial⟩, by first | exact cs _ _ | exact CSub.refl _, ?_⟩
         have hst := nsm_stepZ (N := (irN p m mod)) (n := n) (d := d) (by omega) hd0
         rw [if_neg h29] at hst
         exact ⟨⟨⟨by omega, by omega⟩, by rw [show (d + 1 - 1) = d by omega]; omega⟩, by omega⟩
       ·try simp only [zbA] at h27
        refine tE ?_
        refine tS ?_
        refine tR fun _ _ _ => ?_
        iterate 2 refine pV ?_
        refine sV (rLenS rfl rfl) ?_
        refine sV (rConv rfl undI undU64 rfl (IntWalk.u64_in _ ⟨by omega, by omega⟩)) ?_
        refine sV (rEqlK rfl rfl rfl) ?_
        refine pV ?_
        have hdi : (d - 1).toNat = n.toNat := by omega
        rw [hdi] at htt
        exact tr_ret ⟨trivial, _, _, rfl, ⟨by rw [decide_eq_true (show tt = (fs.length : Int) by omega)], rfl⟩, CSub.nil _, trivial⟩
theorem law_FactorFrobenius (p m : Int) (A : Option Addr) (c : Nat) (mod : List Int) (hl9 : mod.length ≤ 17592186044415) (n : Int) : Pure Try.prog 9 #[.agg #[.int .i64 p, .int .i64 m, .slice A mod.length c], .int .i64 n] [ro A (ints mod)] (isV (.bool true)) := by
 by_cases hF0 : FldR p m mod
 ·haveI hF : IsF p m mod := ⟨hF0⟩
  exact law_FactorFrobenius_G p m A c mod hl9 n
 ·exact law_FactorFrobenius_no p m A c mod hl9 n hF0
end Go.Proofs.Ytbhoeaijpnjgdaa

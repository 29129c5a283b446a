/-
  FACTORDIVIDES, PART 8 OF 9. One sentence: the texts behind the law FactorDivides, put together.
  Conditions: each theorem's own, written out in it.
-/
import Derived.Test.YtbhoeaijpnjgdaaK7
set_option linter.unusedSimpArgs false
set_option linter.unusedVariables false
set_option linter.unusedSectionVars false
set_option maxRecDepth 100000
namespace Go.Proofs.Ytbhoeaijpnjgdaa
open Go.RowKit
theorem law_FactorDivides_no_ent : Enters Try.prog 8 := enters_of Try.func8 (by kernel_rfl) (by kernel_rfl)
theorem law_FactorDivides_no (p m : Int) (A : Option Addr) (c : Nat) (mod : List Int) (hl9 : mod.length ≤ 17592186044415) (Aa : Option Addr) (ca : Nat) (a : List Int) (ha9 : a.length ≤ 17592186044415) (Ab : Option Addr) (cb : Nat) (b : List Int) (hb9 : b.length ≤ 17592186044415) (hF : ¬ FldR p m mod) :
  Pure Try.prog 8 #[.agg #[.int .i64 p, .int .i64 m, .slice A mod.length c], .slice Aa a.length ca, .slice Ab b.length cb] [ro A (ints mod), ro Aa (ints a), ro Ab (ints b)] (isV (.bool true)) := by
 refine pure_of (args := [.agg #[.int .i64 p, .int .i64 m, .slice A mod.length c], .slice Aa a.length ca, .slice Ab b.length cb]) 71 Try.func8 rfl rfl rfl law_FactorDivides_no_ent ⟨id, id, id, trivial⟩ (fun w0 => ?_)
 refine tS ?_
 refine tR fun _ _ _ => ?_
 refine eV (eBox rfl rfl rfl rfl rfl (fun p0 => ?_))
 refine pV ?_
 refine tS ?_
 refine tR fun _ _ _ => ?_
 refine sV (rLdS rfl rfl rfl) ?_
 refine eV (eCallV rfl rfl rfl (law_open_no _ _ _ _ _ (by omega) hF) ⟨rfl, trivial⟩ ?_)
 iterate 7 refine pV ?_
 refine tS ?_
 refine tS ?_
 refine tR fun _ _ _ => ?_
 refine pV ?_
 refine tC rfl (fun h2 => ?_) (fun h2 => ?_)
 ·try simp only [zbA] at h2
  refine tS ?_
  refine tR fun _ _ _ => ?_
  iterate 2 refine pV ?_
  exact tr_ret ⟨trivial, _, _, rfl, ⟨rfl, rfl⟩, CSub.nil _, trivial⟩
 ·try simp only [zbA] at h2
  cases h2 --done
theorem law_FactorDivides_N_ent : Enters Try.prog 8 := enters_of Try.func8 (by kernel_rfl) (by kernel_rfl)
theorem law_FactorDivides_N (p m : Int) (A : Option Addr) (c : Nat) (mod : List Int) [hF : IsF p m mod] (hl9 : mod.length ≤ 17592186044415) (Aa : Option Addr) (ca : Nat) (a : List Int) (ha9 : a.length ≤ 17592186044415) (Ab : Option Addr) (cb : Nat) (b : List Int) (hb9 : b.length ≤ 17592186044415) (hfw : fewB (Po.len (pol a : Po (El p m mod))) = false) :
  Pure Try.prog 8 #[.agg #[.int .i64 p, .int .i64 m, .slice A mod.length c], .slice Aa a.length ca, .slice Ab b.length cb] [ro A (ints mod), ro Aa (ints a), ro Ab (ints b)] (isV (.bool true)) := by
 refine pure_of (args := [.agg #[.int .i64 p, .int .i64 m, .slice A mod.length c], .slice Aa a.length ca, .slice Ab b.length cb]) 71 Try.func8 rfl rfl rfl law_FactorDivides_N_ent ⟨id, id, id, trivial⟩ (fun w0 => ?_)
 refine tS ?_
 refine tR fun _ _ _ => ?_
 refine eV (eBox rfl rfl rfl rfl rfl (fun p0 => ?_))
 refine pV ?_
 refine tS ?_
 refine tR fun _ _ _ => ?_
 refine sV (rLdS rfl rfl rfl) ?_
 refine eV (eCall1 rfl rfl rfl (law_open_ok _ _ _ _ _ (by omega) hF.out) ⟨rfl, trivial⟩ ?_)
 rintro _ _ ⟨g, rfl, rfl, hg⟩
 iterate 7 refine pV ?_
 refine tS ?_
 refine tS ?_
 refine tR fun _ _ _ => ?_
 refine pV ?_
 refine tC rfl (fun h2 => ?_) (fun h2 => ?_)
 ·try simp only [zbA] at h2
  cases h2 --done
 ·try simp only [zbA] at h2
  refine tK ?_
  refine tS ?_
  refine tS ?_
  refine tR fun _ _ _ => ?_
  refine sV (rLdS rfl rfl rfl) ?_
  refine pV ?_
  refine eV (eCallV rfl rfl rfl (law06_few p m A c mod Aa _ ca a rfl ha9) ⟨rfl, rfl, trivial⟩ ?_)
  rw [hfw]
  refine sV (rNotB rfl rfl) ?_
  refine tC rfl (fun h4 => ?_) (fun h4 => ?_)
  ·try simp only [zbA] at h4
   refine tS ?_
   refine tR fun _ _ _ => ?_
   refine pV ?_
   refine eV (eCallV rfl rfl rfl (law06_alive g hg) ⟨rfl, trivial⟩ ?_)
   refine pV ?_
   exact tr_ret ⟨trivial, _, _, rfl, ⟨rfl, rfl⟩, CSub.nil _, trivial⟩
  ·try simp only [zbA] at h4
   first | exact absurd trivial h4 | exact absurd rfl h4 | omega | (exact absurd h4 (by simp)) --done
theorem law_FactorDivides_E_ent : Enters Try.prog 8 := enters_of Try.func8 (by kernel_rfl) (by kernel_rfl)
theorem law_FactorDivides_E (p m : Int) (A : Option Addr) (c : Nat) (mod : List Int) [hF : IsF p m mod] (hl9 : mod.length ≤ 17592186044415) (Aa : Option Addr) (ca : Nat) (a : List Int) (ha9 : a.length ≤ 17592186044415) (Ab : Option Addr) (cb : Nat) (b : List Int) (hb9 : b.length ≤ 17592186044415) (hfw : fewB (Po.len (pol a : Po (El p m mod))) = true) (he : facE (Po.len (pol a : Po (El p m mod))) ≠ 0) :
  Pure Try.prog 8 #[.agg #[.int .i64 p, .int .i64 m, .slice A mod.length c], .slice Aa a.length ca, .slice Ab b.length cb] [ro A (ints mod), ro Aa (ints a), ro Ab (ints b)] (isV (.bool true)) := by
 refine pure_of (args := [.agg #[.int .i64 p, .int .i64 m, .slice A mod.length c], .slice Aa a.length ca, .slice Ab b.length cb]) 71 Try.func8 rfl rfl rfl law_FactorDivides_E_ent ⟨id, id, id, trivial⟩ (fun w0 => ?_)
 refine tS ?_
 refine tR fun _ _ _ => ?_
 refine eV (eBox rfl rfl rfl rfl rfl (fun p0 => ?_))
 refine pV ?_
 refine tS ?_
 refine tR fun _ _ _ => ?_
 refine sV (rLdS rfl rfl rfl) ?_
 refine eV (eCall1 rfl rfl rfl (law_open_ok _ _ _ _ _ (by omega) hF.out) ⟨rfl, trivial⟩ ?_)
 rintro _ _ ⟨g, rfl, rfl, hg⟩
 iterate 7 refine pV ?_
 refine tS ?_
 refine tS ?_
 refine tR fun _ _ _ => ?_
 refine pV ?_
 refine tC rfl (fun h2 => ?_) (fun h2 => ?_)
 ·try simp only [zbA] at h2
  cases h2 --done
 ·try simp only [zbA] at h2
  refine tK ?_
  refine tS ?_
  refine tS ?_
  refine tR fun _ _ _ => ?_
  refine sV (rLdS rfl rfl rfl) ?_
  refine pV ?_
  refine eV (eCallV rfl rfl rfl (law06_few p m A c mod Aa _ ca a rfl ha9) ⟨rfl, rfl, trivial⟩ ?_)
  rw [hfw]
  refine sV (rNotB rfl rfl) ?_
  refine tC rfl (fun h4 => ?_) (fun h4 => ?_)
  ·try simp only [zbA] at h4
   first | exact absurd trivial h4 | exact absurd rfl h4 | omega | (exact absurd h4 (by simp)) --done
  ·try simp only [zbA] at h4
   refine tK ?_
   refine tS ?_
   refine tS ?_
   refine tR fun _ _ _ => ?_
   refine pV ?_
   refine eV (eCallV rfl rfl rfl (law06_alive g hg) ⟨rfl, trivial⟩ ?_)
   refine sV (rNotB rfl rfl) ?_
   refine tC rfl (fun h6 => ?_) (fun h6 => ?_)
   ·try simp only [zbA] at h6
    first | exact absurd trivial h6 | exact absurd rfl h6 | omega | (exact absurd h6 (by simp)) --done
   ·try simp only [zbA] at h6
    refine tK ?_
    refine tS ?_
    refine tR fun _ _ _ => ?_
    iterate 2 refine pV ?_
    refine eV (eCallV rfl rfl rfl (fac_CompleteE g hg Aa _ ca a rfl ha9 he) ⟨rfl, rfl, trivial⟩ ?_)
    iterate 7 refine pV ?_
    refine tS ?_
    refine tS ?_
    refine tR fun _ _ _ => ?_
    refine pV ?_
    refine tB ?_
    refine tr_loop1 (fun (k : Int) => [(13, .int .i64 k), (11, .slice none 0 0), (2, .slice Ab b.length cb), (3, .pointer (some p0))]) (fun (k : Int) => [gfN g, blk p0 24 [.int .i64 p, .int .i64 m, .slice A mod.length c], ro A (ints mod), ro Aa (ints a), ro Ab (ints b)]) (fun (k : Int) => k = 0) (fun (k : Int) => 0) (0) ⟨rfl, rfl, rfl, rfl, trivial⟩ (by first | exact cs _ _ | exact CSub.refl _) (rfl) (fun k hI => ?_)
    subst hI
    refine tS ?_
    refine tS ?_
    refine tR fun _ _ _ => ?_
    iterate 2 refine pV ?_
    refine sV (rLenS rfl rfl) ?_
    refine pV ?_
    refine tC rfl (fun h10 => ?_) (fun h10 => ?_)
    ·try simp only [zbA] at h10
     exact absurd h10 (by omega) --done
    ·try simp only [zbA] at h10
     refine tE ?_
     refine tS ?_
     refine tR fun _ _ _ => ?_
     refine pV ?_
     exact tr_ret ⟨trivial, _, _, rfl, ⟨rfl, rfl⟩, CSub.nil _, trivial⟩
theorem law_FactorDivides_G0_ent : Enters Try.prog 8 := enters_of Try.func8 (by kernel_rfl) (by kernel_rfl)
theorem law_FactorDivides_G0 (p m : Int) (A : Option Addr) (c : Nat) (mod : List Int) [hF : IsF p m mod] (hl9 : mod.length ≤ 17592186044415) (Aa : Option Addr) (ca : Nat) (a : List Int) (ha9 : a.length ≤ 17592186044415) (Ab : Option Addr) (cb : Nat) (b : List Int) (hb9 : b.length ≤ 17592186044415) (hfw : fewB (Po.len (pol a : Po (El p m mod))) = true) (he : facE (Po.len (pol a : Po (El p m mod))) = 0) (hd : ¬ 2 ≤ Po.len (pol b : Po (El p m mod))) :
  Pure Try.prog 8 #[.agg #[.int .i64 p, .int .i64 m, .slice A mod.length c], .slice Aa a.length ca, .slice Ab b.length cb] [ro A (ints mod), ro Aa (ints a), ro Ab (ints b)] (isV (.bool true)) := by
 have hle := facE_ok he
 have h0 : (pol a : Po (El p m mod)) ≠ 0 := Po.len_pos_iff.1 (by omega)
 have hml := Po.mon_len (pol a : Po (El p m mod))
 have hm1 := Po.mon_lead h0
 have hil := il_length (pol a : Po (El p m mod))
 have hmil := il_length (Po.mon (pol a : Po (El p m mod)))
 refine pure_of (args := [.agg #[.int .i64 p, .int .i64 m, .slice A mod.length c], .slice Aa a.length ca, .slice Ab b.length cb]) 71 Try.func8 rfl rfl rfl law_FactorDivides_G0_ent ⟨id, id, id, trivial⟩ (fun w0 => ?_)
 refine tS ?_
 refine tR fun _ _ _ => ?_
 refine eV (eBox rfl rfl rfl rfl rfl (fun p0 => ?_))
 refine pV ?_
 refine tS ?_
 refine tR fun _ _ _ => ?_
 refine sV (rLdS rfl rfl rfl) ?_
 refine eV (eCall1 rfl rfl rfl (law_open_ok _ _ _ _ _ (by omega) hF.out) ⟨rfl, trivial⟩ ?_)
 rintro _ _ ⟨g, rfl, rfl, hg⟩
 iterate 7 refine pV ?_
 refine tS ?_
 refine tS ?_
 refine tR fun _ _ _ => ?_
 refine pV ?_
 refine tC rfl (fun h2 => ?_) (fun h2 => ?_)
 ·try simp only [zbA] at h2
  cases h2 --done
 ·try simp only [zbA] at h2
  refine tK ?_
  refine tS ?_
  refine tS ?_
  refine tR fun _ _ _ => ?_
  refine sV (rLdS rfl rfl rfl) ?_
  refine pV ?_
  refine eV (eCallV rfl rfl rfl (law06_few p m A c mod Aa _ ca a rfl ha9) ⟨rfl, rfl, trivial⟩ ?_)
  rw [hfw]
  refine sV (rNotB rfl rfl) ?_
  refine tC rfl (fun h4 => ?_) (fun h4 => ?_)
  ·try simp only [zbA] at h4
   first | exact absurd trivial h4 | exact absurd rfl h4 | omega | (exact absurd h4 (by simp)) --done
  ·try simp only [zbA] at h4
   refine tK ?_
   refine tS ?_
   refine tS ?_
   refine tR fun _ _ _ => ?_
   refine pV ?_
   refine eV (eCallV rfl rfl rfl (law06_alive g hg) ⟨rfl, trivial⟩ ?_)
   refine sV (rNotB rfl rfl) ?_
   refine tC rfl (fun h6 => ?_) (fun h6 => ?_)
   ·try simp only [zbA] at h6
    first | exact absurd trivial h6 | exact absurd rfl h6 | omega | (exact absurd h6 (by simp)) --done
   ·try simp only [zbA] at h6
    refine tK ?_
    refine tS ?_
    refine tR fun _ _ _ => ?_
    iterate 2 refine pV ?_
    refine eV (eCall2 rfl rfl rfl (fac_CompleteL facSort facNone g hg Aa _ ca a rfl ha9 he) ⟨rfl, rfl, trivial⟩ ?_)
    rintro _ _ _ ⟨B8, c8, fs, rfl, rfl, rfl, hC, hR, hfl⟩
    iterate 7 refine pV ?_
    refine tS ?_
    refine tS ?_
    refine tR fun _ _ _ => ?_
    refine pV ?_
    refine tB ?_
    refine tr_loop1 (fun (k : Int) => [(13, .int .i64 k), (2, .slice Ab b.length cb), (3, .pointer (some p0)), (11, .slice B8 fs.length c8)]) (fun (k : Int) => [gfN g, blk p0 24 [.int .i64 p, .int .i64 m, .slice A mod.length c], ow2 B8 64 c8 (fcs fs), rowsCh 3 (rws fs), ro A (ints mod), ro Aa (ints a), ro Ab (ints b)]) (fun (k : Int) => 0 ≤ k ∧ k ≤ fs.length) (fun (k : Int) => ((fs.length : Int) - k).toNat) (0) ⟨rfl, rfl, rfl, rfl, trivial⟩ (by first | exact cs _ _ | exact CSub.refl _) (⟨by omega, by omega⟩) (fun k hI => ?_)
    obtain ⟨hk0, hk1⟩ := hI
    refine tS ?_
    refine tS ?_
    refine tR fun _ _ _ => ?_
    iterate 2 refine pV ?_
    refine sV (rLenS rfl rfl) ?_
    refine pV ?_
    refine tC rfl (fun h10 => ?_) (fun h10 => ?_)
    ·try simp only [zbA] at h10
     refine tK ?_
     refine tS ?_
     refine tB ?_
     refine tS ?_
     refine tR fun _ _ _ => ?_
     refine sV (rLdS rfl rfl rfl) ?_
     refine pV ?_
     refine eV (eCallV rfl rfl rfl (ref_PDegree p m A c mod Ab _ cb b rfl hb9) ⟨rfl, rfl, trivial⟩ ?_)
     refine pV ?_
     refine tS ?_
     have hdf : decide ((Po.len (pol b : Po (El p m mod)) : Int) - 1 ≥ 1) = false := decide_eq_false (by omega)
     refine tr_draw [0, 1, 2, 3, 4, 5, 6, 7, 8, 9, 10, 11, 12, 13, 14, 15, 16, 17, 18, 19, 20, 21, 22] [] mixed (by kernel_rfl) fun _ _ _ => ?_
     iterate 3 refine pV ?_
     refine skF rfl rfl (by first | exact hdf | (rw [hdf]; rfl)) rfl rfl ?_
     refine skF rfl rfl (by first | exact hdf | (rw [hdf]; rfl)) rfl rfl ?_
     refine skF rfl rfl (by first | exact hdf | (rw [hdf]; rfl)) rfl rfl ?_
     refine skF rfl rfl (by first | exact hdf | (rw [hdf]; rfl)) rfl rfl ?_
     refine skF rfl rfl (by first | exact hdf | (rw [hdf]; rfl)) rfl rfl ?_
     refine skF rfl rfl (by first | exact hdf | (rw [hdf]; rfl)) rfl rfl ?_
     refine skF rfl rfl (by first | exact hdf | (rw [hdf]; rfl)) rfl rfl ?_
     refine skF rfl rfl (by first | exact hdf | (rw [hdf]; rfl)) rfl rfl ?_
     refine skF rfl rfl (by first | exact hdf | (rw [hdf]; rfl)) rfl rfl ?_
     refine sV (rPick0 rfl rfl (by first | exact hdf | (rw [hdf]; rfl)) rfl) ?_
     refine pV ?_
     refine skF rfl rfl (by first | rfl | (rw [hdf]; rfl) | simp [hdf]) rfl rfl ?_
     refine skF rfl rfl (by first | rfl | (rw [hdf]; rfl) | simp [hdf]) rfl rfl ?_
     refine skF rfl rfl (by first | rfl | (rw [hdf]; rfl) | simp [hdf]) rfl rfl ?_
     refine skF rfl rfl (by first | rfl | (rw [hdf]; rfl) | simp [hdf]) rfl rfl ?_
     refine skF rfl rfl (by first | rfl | (rw [hdf]; rfl) | simp [hdf]) rfl rfl ?_
     refine skF rfl rfl (by first | rfl | (rw [hdf]; rfl) | simp [hdf]) rfl rfl ?_
     refine skF rfl rfl (by first | rfl | (rw [hdf]; rfl) | simp [hdf]) rfl rfl ?_
     refine skF rfl rfl (by first | rfl | (rw [hdf]; rfl) | simp [hdf]) rfl rfl ?_
     refine sV (rPick0 rfl rfl (by first | rfl | (rw [hdf]; rfl) | simp [hdf]) rfl) ?_
     refine tC rfl (fun h13 => ?_) (fun h13 => ?_)
     ·try simp only [zbA] at h13
      simp at h13 --done
     ·try simp only [zbA] at h13
      refine tK ?_
      refine tR fun _ _ _ => ?_
      refine pV ?_
      refine sV (rAdd rfl rfl rfl (by omega) (by omega)) ?_
      refine pV ?_
      refine ⟨k + 1, ⟨rfl, rfl, rfl, rfl, trivial⟩, by first | exact cs _ _ | exact CSub.refl _, ?_⟩
      exact ⟨⟨by omega, by omega⟩, by omega⟩
    ·try simp only [zbA] at h10
     refine tE ?_
     refine tS ?_
     refine tR fun _ _ _ => ?_
     refine pV ?_
     exact tr_ret ⟨trivial, _, _, rfl, ⟨rfl, rfl⟩, CSub.nil _, trivial⟩
theorem law_FactorDivides_G1_ent : Enters Try.prog 8 := enters_of Try.func8 (by kernel_rfl) (by kernel_rfl)
theorem law_FactorDivides_G1 (p m : Int) (A : Option Addr) (c : Nat) (mod : List Int) [hF : IsF p m mod] (hl9 : mod.length ≤ 17592186044415) (Aa : Option Addr) (ca : Nat) (a : List Int) (ha9 : a.length ≤ 17592186044415) (Ab : Option Addr) (cb : Nat) (b : List Int) (hb9 : b.length ≤ 17592186044415) (hfw : fewB (Po.len (pol a : Po (El p m mod))) = true) (he : facE (Po.len (pol a : Po (El p m mod))) = 0) (hd : 2 ≤ Po.len (pol b : Po (El p m mod))) :
  Pure Try.prog 8 #[.agg #[.int .i64 p, .int .i64 m, .slice A mod.length c], .slice Aa a.length ca, .slice Ab b.length cb] [ro A (ints mod), ro Aa (ints a), ro Ab (ints b)] (isV (.bool true)) := by
 have hle := facE_ok he
 have h0 : (pol a : Po (El p m mod)) ≠ 0 := Po.len_pos_iff.1 (by omega)
 have hml := Po.mon_len (pol a : Po (El p m mod))
 have hm1 := Po.mon_lead h0
 have hil := il_length (pol a : Po (El p m mod))
 have hmil := il_length (Po.mon (pol a : Po (El p m mod)))
 refine pure_of (args := [.agg #[.int .i64 p, .int .i64 m, .slice A mod.length c], .slice Aa a.length ca, .slice Ab b.length cb]) 71 Try.func8 rfl rfl rfl law_FactorDivides_G1_ent ⟨id, id, id, trivial⟩ (fun w0 => ?_)
 refine tS ?_
 refine tR fun _ _ _ => ?_
 refine eV (eBox rfl rfl rfl rfl rfl (fun p0 => ?_))
 refine pV ?_
 refine tS ?_
 refine tR fun _ _ _ => ?_
 refine sV (rLdS rfl rfl rfl) ?_
 refine eV (eCall1 rfl rfl rfl (law_open_ok _ _ _ _ _ (by omega) hF.out) ⟨rfl, trivial⟩ ?_)
 rintro _ _ ⟨g, rfl, rfl, hg⟩
 iterate 7 refine pV ?_
 refine tS ?_
 refine tS ?_
 refine tR fun _ _ _ => ?_
 refine pV ?_
 refine tC rfl (fun h2 => ?_) (fun h2 => ?_)
 ·try simp only [zbA] at h2
  cases h2 --done
 ·try simp only [zbA] at h2
  refine tK ?_
  refine tS ?_
  refine tS ?_
  refine tR fun _ _ _ => ?_
  refine sV (rLdS rfl rfl rfl) ?_
  refine pV ?_
  refine eV (eCallV rfl rfl rfl (law06_few p m A c mod Aa _ ca a rfl ha9) ⟨rfl, rfl, trivial⟩ ?_)
  rw [hfw]
  refine sV (rNotB rfl rfl) ?_
  refine tC rfl (fun h4 => ?_) (fun h4 => ?_)
  ·try simp only [zbA] at h4
   first | exact absurd trivial h4 | exact absurd rfl h4 | omega | (exact absurd h4 (by simp)) --done
  ·try simp only [zbA] at h4
   refine tK ?_
   refine tS ?_
   refine tS ?_
   refine tR fun _ _ _ => ?_
   refine pV ?_
   refine eV (eCallV rfl rfl rfl (law06_alive g hg) ⟨rfl, trivial⟩ ?_)
   refine sV (rNotB rfl rfl) ?_
   refine tC rfl (fun h6 => ?_) (fun h6 => ?_)
   ·try simp only [zbA] at h6
    first | exact absurd trivial h6 | exact absurd rfl h6 | omega | (exact absurd h6 (by simp)) --done
   ·try simp only [zbA] at h6
    refine tK ?_
    refine tS ?_
    refine tR fun _ _ _ => ?_
    iterate 2 refine pV ?_
    refine eV (eCall2 rfl rfl rfl (fac_CompleteL facSort facNone g hg Aa _ ca a rfl ha9 he) ⟨rfl, rfl, trivial⟩ ?_)
    rintro _ _ _ ⟨B8, c8, fs, rfl, rfl, rfl, hC, hR, hfl⟩
    iterate 7 refine pV ?_
    have hcl := hC.le (lead1_ne hm1)
    have hfx : ∀ f ∈ fs, f.r.xs.length ≤ 17592186044415 ∧ f.k ≤ 9223372036854775807 ∧ -9223372036854775808 ≤ f.k := fun f hf => by
     have := hcl f hf
     omega
    have hnn : ∀ f ∈ fs, 0 ≤ f.k := fun f hf => by
     have := hcl f hf
     omega
    have hpr := hC.prod hm1
    have hsm : fcT p m mod fs fs.length ≤ 256 := by rw [hpr.2]; omega
    refine tS ?_
    refine tS ?_
    refine tR fun _ _ _ => ?_
    refine pV ?_
    refine tB ?_
    refine tr_loop1 (fun (k : Int) => [(13, .int .i64 k), (2, .slice Ab b.length cb), (3, .pointer (some p0)), (11, .slice B8 fs.length c8)]) (fun (k : Int) => [gfN g, blk p0 24 [.int .i64 p, .int .i64 m, .slice A mod.length c], ow2 B8 64 c8 (fcs fs), rowsCh 3 (rws fs), ro A (ints mod), ro Aa (ints a), ro Ab (ints b)]) (fun (k : Int) => 0 ≤ k ∧ k ≤ fs.length) (fun (k : Int) => ((fs.length : Int) - k).toNat) (0) ⟨rfl, rfl, rfl, rfl, trivial⟩ (by first | exact cs _ _ | exact CSub.refl _) (⟨by omega, by omega⟩) (fun k hI => ?_)
    obtain ⟨hk0, hk1⟩ := hI
    refine tS ?_
    refine tS ?_
    refine tR fun _ _ _ => ?_
    iterate 2 refine pV ?_
    refine sV (rLenS rfl rfl) ?_
    refine pV ?_
    refine tC rfl (fun h10 => ?_) (fun h10 => ?_)
    ·try simp only [zbA] at h10
     refine tK ?_
     refine tS ?_
     refine tB ?_
     refine tS ?_
     haveI : InB k.toNat fs.length := ⟨by omega⟩
     have hjl : k.toNat < fs.length := by omega
     have hfk := hcl _ (getD_mem hjl facD)
     have hfi := hC.fc (lead1_ne hm1) (getD_mem hjl facD)
     have hql : Po.len (pol (fs.getD k.toNat facD).r.xs : Po (El p m mod)) ≤ (fs.getD k.toNat facD).r.xs.length := Po.len_le (pol_sh _)
     refine tR fun _ _ _ => ?_
     refine sV (rLdS rfl rfl rfl) ?_
     refine pV ?_
     refine eV (eCallV rfl rfl rfl (ref_PDegree p m A c mod Ab _ cb b rfl hb9) ⟨rfl, rfl, trivial⟩ ?_)
     refine pV ?_
     refine tS ?_
     have hdt : decide ((Po.len (pol b : Po (El p m mod)) : Int) - 1 ≥ 1) = true := decide_eq_true (by omega)
     have hilb := il_length (pol b : Po (El p m mod))
     by_cases hs : Po.len (pol b : Po (El p m mod)) < Po.len (pol (fs.getD k.toNat facD).r.xs : Po (El p m mod))
     ·refine tr_draw [0, 1, 2, 3, 4, 5, 6, 7, 8, 9, 10, 11, 12, 13, 14, 15, 16, 17, 18, 19, 20, 21, 22] [] mixed (by kernel_rfl) fun _ _ _ => ?_
      iterate 3 refine pV ?_
      refine stT rfl rfl rfl (by first | exact hdt | (rw [hdt]; rfl)) rfl rfl (rMove rfl rfl) ?_
      refine stT rfl rfl rfl (by first | exact hdt | (rw [hdt]; rfl)) rfl rfl (rLdS rfl rfl rfl) ?_
      refine stT rfl rfl rfl (by first | exact hdt | (rw [hdt]; rfl)) rfl rfl (rMove rfl rfl) ?_
      refine stT rfl rfl rfl (by first | exact hdt | (rw [hdt]; rfl)) rfl rfl (rMove rfl rfl) ?_
      refine stT rfl rfl rfl (by first | exact hdt | (rw [hdt]; rfl)) rfl rfl (rIdxT rfl rfl rfl (by omega) (by omega) (by simp; omega)) ?_
      refine stT rfl rfl rfl (by first | exact hdt | (rw [hdt]; rfl)) rfl rfl (rFld rfl rfl) ?_
      refine stT rfl rfl rfl (by first | exact hdt | (rw [hdt]; rfl)) rfl rfl (rLdG0 rfl rfl (by omega)) ?_
      refine efT rfl rfl rfl (by first | exact hdt | (rw [hdt]; rfl)) (eCallV rfl rfl rfl (ref_PDegree p m A c mod (fs.getD k.toNat facD).r.A _ (fs.getD k.toNat facD).r.cap (fs.getD k.toNat facD).r.xs rfl (by omega)) ⟨rfl, rfl, trivial⟩ ?_)
      refine stT rfl rfl rfl (by first | exact hdt | (rw [hdt]; rfl)) rfl rfl (rLss rfl rfl rfl) ?_
      refine sV (rPick1 rfl rfl (by first | exact hdt | (rw [hdt]; rfl)) rfl) ?_
      refine pV ?_
      refine stT rfl rfl rfl (by first | exact decide_eq_true (show (Po.len (pol b : Po (El p m mod)) : Int) - 1 < (Po.len (pol (fs.getD k.toNat facD).r.xs : Po (El p m mod)) : Int) - 1 by omega) | (rw [decide_eq_true (show (Po.len (pol b : Po (El p m mod)) : Int) - 1 < (Po.len (pol (fs.getD k.toNat facD).r.xs : Po (El p m mod)) : Int) - 1 by omega)]; rfl)) rfl rfl (rLdS rfl rfl rfl) ?_
      refine stT rfl rfl rfl (by first | exact decide_eq_true (show (Po.len (pol b : Po (El p m mod)) : Int) - 1 < (Po.len (pol (fs.getD k.toNat facD).r.xs : Po (El p m mod)) : Int) - 1 by omega) | (rw [decide_eq_true (show (Po.len (pol b : Po (El p m mod)) : Int) - 1 < (Po.len (pol (fs.getD k.toNat facD).r.xs : Po (El p m mod)) : Int) - 1 by omega)]; rfl)) rfl rfl (rMove rfl rfl) ?_
      refine stT rfl rfl rfl (by first | exact decide_eq_true (show (Po.len (pol b : Po (El p m mod)) : Int) - 1 < (Po.len (pol (fs.getD k.toNat facD).r.xs : Po (El p m mod)) : Int) - 1 by omega) | (rw [decide_eq_true (show (Po.len (pol b : Po (El p m mod)) : Int) - 1 < (Po.len (pol (fs.getD k.toNat facD).r.xs : Po (El p m mod)) : Int) - 1 by omega)]; rfl)) rfl rfl (rMove rfl rfl) ?_
      refine stT rfl rfl rfl (by first | exact decide_eq_true (show (Po.len (pol b : Po (El p m mod)) : Int) - 1 < (Po.len (pol (fs.getD k.toNat facD).r.xs : Po (El p m mod)) : Int) - 1 by omega) | (rw [decide_eq_true (show (Po.len (pol b : Po (El p m mod)) : Int) - 1 < (Po.len (pol (fs.getD k.toNat facD).r.xs : Po (El p m mod)) : Int) - 1 by omega)]; rfl)) rfl rfl (rMove rfl rfl) ?_
      refine stT rfl rfl rfl (by first | exact decide_eq_true (show (Po.len (pol b : Po (El p m mod)) : Int) - 1 < (Po.len (pol (fs.getD k.toNat facD).r.xs : Po (El p m mod)) : Int) - 1 by omega) | (rw [decide_eq_true (show (Po.len (pol b : Po (El p m mod)) : Int) - 1 < (Po.len (pol (fs.getD k.toNat facD).r.xs : Po (El p m mod)) : Int) - 1 by omega)]; rfl)) rfl rfl (rIdxT rfl rfl rfl (by omega) (by omega) (by simp; omega)) ?_
      refine stT rfl rfl rfl (by first | exact decide_eq_true (show (Po.len (pol b : Po (El p m mod)) : Int) - 1 < (Po.len (pol (fs.getD k.toNat facD).r.xs : Po (El p m mod)) : Int) - 1 by omega) | (rw [decide_eq_true (show (Po.len (pol b : Po (El p m mod)) : Int) - 1 < (Po.len (pol (fs.getD k.toNat facD).r.xs : Po (El p m mod)) : Int) - 1 by omega)]; rfl)) rfl rfl (rFld rfl rfl) ?_
      refine stT rfl rfl rfl (by first | exact decide_eq_true (show (Po.len (pol b : Po (El p m mod)) : Int) - 1 < (Po.len (pol (fs.getD k.toNat facD).r.xs : Po (El p m mod)) : Int) - 1 by omega) | (rw [decide_eq_true (show (Po.len (pol b : Po (El p m mod)) : Int) - 1 < (Po.len (pol (fs.getD k.toNat facD).r.xs : Po (El p m mod)) : Int) - 1 by omega)]; rfl)) rfl rfl (rLdG0 rfl rfl (by omega)) ?_
      refine efT rfl rfl rfl (by first | exact decide_eq_true (show (Po.len (pol b : Po (El p m mod)) : Int) - 1 < (Po.len (pol (fs.getD k.toNat facD).r.xs : Po (El p m mod)) : Int) - 1 by omega) | (rw [decide_eq_true (show (Po.len (pol b : Po (El p m mod)) : Int) - 1 < (Po.len (pol (fs.getD k.toNat facD).r.xs : Po (El p m mod)) : Int) - 1 by omega)]; rfl)) (eCallV rfl rfl rfl (ref_Divides p m A c mod (fs.getD k.toNat facD).r.A _ (fs.getD k.toNat facD).r.cap (fs.getD k.toNat facD).r.xs rfl (by omega) Ab _ cb b rfl hb9 (by omega) (Po.len_pos_iff.1 (by omega))) ⟨rfl, rfl, rfl, trivial⟩ ?_)
      refine sV (rPick1 rfl rfl (by first | exact decide_eq_true (show (Po.len (pol b : Po (El p m mod)) : Int) - 1 < (Po.len (pol (fs.getD k.toNat facD).r.xs : Po (El p m mod)) : Int) - 1 by omega) | (rw [decide_eq_true (show (Po.len (pol b : Po (El p m mod)) : Int) - 1 < (Po.len (pol (fs.getD k.toNat facD).r.xs : Po (El p m mod)) : Int) - 1 by omega)]; rfl)) rfl) ?_
      refine tC rfl (fun h13 => ?_) (fun h13 => ?_)
      ·try simp only [zbA] at h13
       first | (exfalso; simp at h13; done) | (exfalso; have hr0 := Po.eq_zero_of_len (f := Po.rem (pol (fs.getD k.toNat facD).r.xs : Po (El p m mod)) (pol b : Po (El p m mod))) (by simp at h13; first | exact h13 | omega | exact h13.2); have hdv : (pol b : Po (El p m mod)) ∣ (pol (fs.getD k.toNat facD).r.xs : Po (El p m mod)) := (Po.rem_zero_iff (Po.len_pos_iff.1 (by omega))).1 hr0; have e2 : Po.len (fcP p m mod (fs.getD k.toNat facD)) = Po.len (pol (fs.getD k.toNat facD).r.xs : Po (El p m mod)) := rfl; rcases hfi.1.irr _ hdv with e | e <;> omega) --done
      ·try simp only [zbA] at h13
       refine tK ?_
       refine tR fun _ _ _ => ?_
       refine pV ?_
       refine sV (rAdd rfl rfl rfl (by omega) (by omega)) ?_
       refine pV ?_
       refine ⟨k + 1, ⟨rfl, rfl, rfl, rfl, trivial⟩, by first | exact cs _ _ | exact CSub.refl _, ?_⟩
       exact ⟨⟨by omega, by omega⟩, by omega⟩
     ·refine tr_draw [0, 1, 2, 3, 4, 5, 6, 7, 8, 9, 10, 11, 12, 13, 14, 15, 16, 17, 18, 19, 20, 21, 22] [] mixed (by kernel_rfl) fun _ _ _ => ?_
      iterate 3 refine pV ?_
      refine stT rfl rfl rfl (by first | exact hdt | (rw [hdt]; rfl)) rfl rfl (rMove rfl rfl) ?_
      refine stT rfl rfl rfl (by first | exact hdt | (rw [hdt]; rfl)) rfl rfl (rLdS rfl rfl rfl) ?_
      refine stT rfl rfl rfl (by first | exact hdt | (rw [hdt]; rfl)) rfl rfl (rMove rfl rfl) ?_
      refine stT rfl rfl rfl (by first | exact hdt | (rw [hdt]; rfl)) rfl rfl (rMove rfl rfl) ?_
      refine stT rfl rfl rfl (by first | exact hdt | (rw [hdt]; rfl)) rfl rfl (rIdxT rfl rfl rfl (by omega) (by omega) (by simp; omega)) ?_
      refine stT rfl rfl rfl (by first | exact hdt | (rw [hdt]; rfl)) rfl rfl (rFld rfl rfl) ?_
      refine stT rfl rfl rfl (by first | exact hdt | (rw [hdt]; rfl)) rfl rfl (rLdG0 rfl rfl (by omega)) ?_
      refine efT rfl rfl rfl (by first | exact hdt | (rw [hdt]; rfl)) (eCallV rfl rfl rfl (ref_PDegree p m A c mod (fs.getD k.toNat facD).r.A _ (fs.getD k.toNat facD).r.cap (fs.getD k.toNat facD).r.xs rfl (by omega)) ⟨rfl, rfl, trivial⟩ ?_)
      refine stT rfl rfl rfl (by first | exact hdt | (rw [hdt]; rfl)) rfl rfl (rLss rfl rfl rfl) ?_
      refine sV (rPick1 rfl rfl (by first | exact hdt | (rw [hdt]; rfl)) rfl) ?_
      refine pV ?_
      refine skF rfl rfl (by first | exact decide_eq_false (show ¬ (Po.len (pol b : Po (El p m mod)) : Int) - 1 < (Po.len (pol (fs.getD k.toNat facD).r.xs : Po (El p m mod)) : Int) - 1 by omega) | (rw [decide_eq_false (show ¬ (Po.len (pol b : Po (El p m mod)) : Int) - 1 < (Po.len (pol (fs.getD k.toNat facD).r.xs : Po (El p m mod)) : Int) - 1 by omega)]; rfl)) rfl rfl ?_
      refine skF rfl rfl (by first | exact decide_eq_false (show ¬ (Po.len (pol b : Po (El p m mod)) : Int) - 1 < (Po.len (pol (fs.getD k.toNat facD).r.xs : Po (El p m mod)) : Int) - 1 by omega) | (rw [decide_eq_false (show ¬ (Po.len (pol b : Po (El p m mod)) : Int) - 1 < (Po.len (pol (fs.getD k.toNat facD).r.xs : Po (El p m mod)) : Int) - 1 by omega)]; rfl)) rfl rfl ?_
      refine skF rfl rfl (by first | exact decide_eq_false (show ¬ (Po.len (pol b : Po (El p m mod)) : Int) - 1 < (Po.len (pol (fs.getD k.toNat facD).r.xs : Po (El p m mod)) : Int) - 1 by omega) | (rw [decide_eq_false (show ¬ (Po.len (pol b : Po (El p m mod)) : Int) - 1 < (Po.len (pol (fs.getD k.toNat facD).r.xs : Po (El p m mod)) : Int) - 1 by omega)]; rfl)) rfl rfl ?_
      refine skF rfl rfl (by first | exact decide_eq_false (show ¬ (Po.len (pol b : Po (El p m mod)) : Int) - 1 < (Po.len (pol (fs.getD k.toNat facD).r.xs : Po (El p m mod)) : Int) - 1 by omega) | (rw [decide_eq_false (show ¬ (Po.len (pol b : Po (El p m mod)) : Int) - 1 < (Po.len (pol (fs.getD k.toNat facD).r.xs : Po (El p m mod)) : Int) - 1 by omega)]; rfl)) rfl rfl ?_
      refine skF rfl rfl (by first | exact decide_eq_false (show ¬ (Po.len (pol b : Po (El p m mod)) : Int) - 1 < (Po.len (pol (fs.getD k.toNat facD).r.xs : Po (El p m mod)) : Int) - 1 by omega) | (rw [decide_eq_false (show ¬ (Po.len (pol b : Po (El p m mod)) : Int) - 1 < (Po.len (pol (fs.getD k.toNat facD).r.xs : Po (El p m mod)) : Int) - 1 by omega)]; rfl)) rfl rfl ?_
      refine skF rfl rfl (by first | exact decide_eq_false (show ¬ (Po.len (pol b : Po (El p m mod)) : Int) - 1 < (Po.len (pol (fs.getD k.toNat facD).r.xs : Po (El p m mod)) : Int) - 1 by omega) | (rw [decide_eq_false (show ¬ (Po.len (pol b : Po (El p m mod)) : Int) - 1 < (Po.len (pol (fs.getD k.toNat facD).r.xs : Po (El p m mod)) : Int) - 1 by omega)]; rfl)) rfl rfl ?_
      refine skF rfl rfl (by first | exact decide_eq_false (show ¬ (Po.len (pol b : Po (El p m mod)) : Int) - 1 < (Po.len (pol (fs.getD k.toNat facD).r.xs : Po (El p m mod)) : Int) - 1 by omega) | (rw [decide_eq_false (show ¬ (Po.len (pol b : Po (El p m mod)) : Int) - 1 < (Po.len (pol (fs.getD k.toNat facD).r.xs : Po (El p m mod)) : Int) - 1 by omega)]; rfl)) rfl rfl ?_
      refine skF rfl rfl (by first | exact decide_eq_false (show ¬ (Po.len (pol b : Po (El p m mod)) : Int) - 1 < (Po.len (pol (fs.getD k.toNat facD).r.xs : Po (El p m mod)) : Int) - 1 by omega) | (rw [decide_eq_false (show ¬ (Po.len (pol b : Po (El p m mod)) : Int) - 1 < (Po.len (pol (fs.getD k.toNat facD).r.xs : Po (El p m mod)) : Int) - 1 by omega)]; rfl)) rfl rfl ?_
      refine sV (rPick0 rfl rfl (by first | exact decide_eq_false (show ¬ (Po.len (pol b : Po (El p m mod)) : Int) - 1 < (Po.len (pol (fs.getD k.toNat facD).r.xs : Po (El p m mod)) : Int) - 1 by omega) | (rw [decide_eq_false (show ¬ (Po.len (pol b : Po (El p m mod)) : Int) - 1 < (Po.len (pol (fs.getD k.toNat facD).r.xs : Po (El p m mod)) : Int) - 1 by omega)]; rfl)) rfl) ?_
      refine tC rfl (fun h13 => ?_) (fun h13 => ?_)
      ·try simp only [zbA] at h13
       first | (exfalso; simp at h13; done) | (exfalso; have hr0 := Po.eq_zero_of_len (f := Po.rem (pol (fs.getD k.toNat facD).r.xs : Po (El p m mod)) (pol b : Po (El p m mod))) (by simp at h13; first | exact h13 | omega | exact h13.2); have hdv : (pol b : Po (El p m mod)) ∣ (pol (fs.getD k.toNat facD).r.xs : Po (El p m mod)) := (Po.rem_zero_iff (Po.len_pos_iff.1 (by omega))).1 hr0; have e2 : Po.len (fcP p m mod (fs.getD k.toNat facD)) = Po.len (pol (fs.getD k.toNat facD).r.xs : Po (El p m mod)) := rfl; rcases hfi.1.irr _ hdv with e | e <;> omega) --done
      ·try simp only [zbA] at h13
       refine tK ?_
       refine tR fun _ _ _ => ?_
       refine pV ?_
       refine sV (rAdd rfl rfl rfl (by omega) (by omega)) ?_
       refine pV ?_
       refine ⟨k + 1, ⟨rfl, rfl, rfl, rfl, trivial⟩, by first | exact cs _ _ | exact CSub.refl _, ?_⟩
       exact ⟨⟨by omega, by omega⟩, by omega⟩
    ·try simp only [zbA] at h10
     refine tE ?_
     refine tS ?_
     refine tR fun _ _ _ => ?_
     refine pV ?_
     exact tr_ret ⟨trivial, _, _, rfl, ⟨rfl, rfl⟩, CSub.nil _, trivial⟩
theorem law_FactorDivides (p m : Int) (A : Option Addr) (c : Nat) (mod : List Int) (hl9 : mod.length ≤ 17592186044415) (Aa : Option Addr) (ca : Nat) (a : List Int) (ha9 : a.length ≤ 17592186044415) (Ab : Option Addr) (cb : Nat) (b : List Int) (hb9 : b.length ≤ 17592186044415) : Pure Try.prog 8 #[.agg #[.int .i64 p, .int .i64 m, .slice A mod.length c], .slice Aa a.length ca, .slice Ab b.length cb] [ro A (ints mod), ro Aa (ints a), ro Ab (ints b)] (isV (.bool true)) := by
 by_cases hF0 : FldR p m mod
 ·haveI hF : IsF p m mod := ⟨hF0⟩
  cases hfw : fewB (Po.len (pol a : Po (El p m mod))) with
  | false => exact law_FactorDivides_N p m A c mod hl9 Aa ca a ha9 Ab cb b hb9 hfw
  | true =>
   by_cases he : facE (Po.len (pol a : Po (El p m mod))) = 0
   ·by_cases hd : 2 ≤ Po.len (pol b : Po (El p m mod))
    ·exact law_FactorDivides_G1 p m A c mod hl9 Aa ca a ha9 Ab cb b hb9 hfw he hd
    ·exact law_FactorDivides_G0 p m A c mod hl9 Aa ca a ha9 Ab cb b hb9 hfw he hd
   ·exact law_FactorDivides_E p m A c mod hl9 Aa ca a ha9 Ab cb b hb9 hfw he
 ·exact law_FactorDivides_no p m A c mod hl9 Aa ca a ha9 Ab cb b hb9 hF0
end Go.Proofs.Ytbhoeaijpnjgdaa

/-
  FACTORMULTIPLIES, PART 8 OF 9. One sentence: the texts behind the law FactorMultiplies, put together.
  Conditions: each theorem's own, written out in it.
-/
import Derived.Test.YtbhoeaijpnjgdaaK7
set_option linter.unusedSimpArgs false
set_option linter.unusedVariables false
set_option linter.unusedSectionVars false
set_option maxRecDepth 100000
namespace Go.Proofs.Ytbhoeaijpnjgdaa
open Go.RowKit
theorem prF_lead {p m : Int} {mod : List Int} [hF : IsF p m mod] {f : Po (El p m mod)} (h0 : f ≠ 0) {gs : List FacM} (h : prF p m mod 1 gs gs.length = Po.mon f) : prF p m mod (Po.lead f).1 gs gs.length = f := by
 rw [prF_C, h, el_of]
 unfold Po.mon
 rw [← Rg.mul_assoc, Po.C_mul, Fd.mul_inv _ (Po.lead_nz h0), Po.C_one, Rg.one_mul]
theorem law_FactorMultiplies_no_ent : Enters Try.prog 10 := enters_of Try.func10 (by kernel_rfl) (by kernel_rfl)
theorem law_FactorMultiplies_no (p m : Int) (A : Option Addr) (c : Nat) (mod : List Int) (hl9 : mod.length ≤ 17592186044415) (Aa : Option Addr) (ca : Nat) (a : List Int) (ha9 : a.length ≤ 17592186044415) (hF : ¬ FldR p m mod) :
  Pure Try.prog 10 #[.agg #[.int .i64 p, .int .i64 m, .slice A mod.length c], .slice Aa a.length ca] [ro A (ints mod), ro Aa (ints a)] (isV (.bool true)) := by
 refine pure_of (args := [.agg #[.int .i64 p, .int .i64 m, .slice A mod.length c], .slice Aa a.length ca]) 88 Try.func10 rfl rfl rfl law_FactorMultiplies_no_ent ⟨id, id, trivial⟩ (fun w0 => ?_)
 refine tS ?_
 refine tR fun _ _ _ => ?_
 refine eV (eBox rfl rfl rfl rfl rfl (fun p0 => ?_))
 refine pV ?_
 refine tS ?_
 refine tR fun _ _ _ => ?_
 refine sV (rLdS rfl rfl rfl) ?_
 refine eV (eCallV rfl rfl rfl (law_open_no _ _ _ _ _ (by omega) hF) ⟨rfl, trivial⟩ ?_)
 iterate 7 refine pV ?_
 refine tS ?_
 refine tS ?_
 refine tR fun _ _ _ => ?_
 refine pV ?_
 refine tC rfl (fun h2 => ?_) (fun h2 => ?_)
 ·try simp only [zbA] at h2
  refine tS ?_
  refine tR fun _ _ _ => ?_
  iterate 2 refine pV ?_
  exact tr_ret ⟨trivial, _, _, rfl, ⟨rfl, rfl⟩, CSub.nil _, trivial⟩
 ·try simp only [zbA] at h2
  cases h2 --done
theorem law_FactorMultiplies_N_ent : Enters Try.prog 10 := enters_of Try.func10 (by kernel_rfl) (by kernel_rfl)
theorem law_FactorMultiplies_N (p m : Int) (A : Option Addr) (c : Nat) (mod : List Int) [hF : IsF p m mod] (hl9 : mod.length ≤ 17592186044415) (Aa : Option Addr) (ca : Nat) (a : List Int) (ha9 : a.length ≤ 17592186044415) (hfw : fewB (Po.len (pol a : Po (El p m mod))) = false) :
  Pure Try.prog 10 #[.agg #[.int .i64 p, .int .i64 m, .slice A mod.length c], .slice Aa a.length ca] [ro A (ints mod), ro Aa (ints a)] (isV (.bool true)) := by
 refine pure_of (args := [.agg #[.int .i64 p, .int .i64 m, .slice A mod.length c], .slice Aa a.length ca]) 88 Try.func10 rfl rfl rfl law_FactorMultiplies_N_ent ⟨id, id, trivial⟩ (fun w0 => ?_)
 refine tS ?_
 refine tR fun _ _ _ => ?_
 refine eV (eBox rfl rfl rfl rfl rfl (fun p0 => ?_))
 refine pV ?_
 refine tS ?_
 refine tR fun _ _ _ => ?_
 refine sV (rLdS rfl rfl rfl) ?_
 refine eV (eCall1 rfl rfl rfl (law_open_ok _ _ _ _ _ (by omega) hF.out) ⟨rfl, trivial⟩ ?_)
 rintro _ _ ⟨g, rfl, rfl, hg⟩
 iterate 7 refine pV ?_
 refine tS ?_
 refine tS ?_
 refine tR fun _ _ _ => ?_
 refine pV ?_
 refine tC rfl (fun h2 => ?_) (fun h2 => ?_)
 ·try simp only [zbA] at h2
  cases h2 --done
 ·try simp only [zbA] at h2
  refine tK ?_
  refine tS ?_
  refine tS ?_
  refine tR fun _ _ _ => ?_
  refine sV (rLdS rfl rfl rfl) ?_
  refine pV ?_
  refine eV (eCallV rfl rfl rfl (law06_few p m A c mod Aa _ ca a rfl ha9) ⟨rfl, rfl, trivial⟩ ?_)
  rw [hfw]
  refine sV (rNotB rfl rfl) ?_
  refine tC rfl (fun h4 => ?_) (fun h4 => ?_)
  ·try simp only [zbA] at h4
   refine tS ?_
   refine tR fun _ _ _ => ?_
   refine pV ?_
   refine eV (eCallV rfl rfl rfl (law06_alive g hg) ⟨rfl, trivial⟩ ?_)
   refine pV ?_
   exact tr_ret ⟨trivial, _, _, rfl, ⟨rfl, rfl⟩, CSub.nil _, trivial⟩
  ·try simp only [zbA] at h4
   first | exact absurd trivial h4 | exact absurd rfl h4 | omega | (exact absurd h4 (by simp)) --done
theorem law_FactorMultiplies_E_ent : Enters Try.prog 10 := enters_of Try.func10 (by kernel_rfl) (by kernel_rfl)
theorem law_FactorMultiplies_E (p m : Int) (A : Option Addr) (c : Nat) (mod : List Int) [hF : IsF p m mod] (hl9 : mod.length ≤ 17592186044415) (Aa : Option Addr) (ca : Nat) (a : List Int) (ha9 : a.length ≤ 17592186044415) (hfw : fewB (Po.len (pol a : Po (El p m mod))) = true) (he : facE (Po.len (pol a : Po (El p m mod))) ≠ 0) :
  Pure Try.prog 10 #[.agg #[.int .i64 p, .int .i64 m, .slice A mod.length c], .slice Aa a.length ca] [ro A (ints mod), ro Aa (ints a)] (isV (.bool true)) := by
 refine pure_of (args := [.agg #[.int .i64 p, .int .i64 m, .slice A mod.length c], .slice Aa a.length ca]) 88 Try.func10 rfl rfl rfl law_FactorMultiplies_E_ent ⟨id, id, trivial⟩ (fun w0 => ?_)
 refine tS ?_
 refine tR fun _ _ _ => ?_
 refine eV (eBox rfl rfl rfl rfl rfl (fun p0 => ?_))
 refine pV ?_
 refine tS ?_
 refine tR fun _ _ _ => ?_
 refine sV (rLdS rfl rfl rfl) ?_
 refine eV (eCall1 rfl rfl rfl (law_open_ok _ _ _ _ _ (by omega) hF.out) ⟨rfl, trivial⟩ ?_)
 rintro _ _ ⟨g, rfl, rfl, hg⟩
 iterate 7 refine pV ?_
 refine tS ?_
 refine tS ?_
 refine tR fun _ _ _ => ?_
 refine pV ?_
 refine tC rfl (fun h2 => ?_) (fun h2 => ?_)
 ·try simp only [zbA] at h2
  cases h2 --done
 ·try simp only [zbA] at h2
  refine tK ?_
  refine tS ?_
  refine tS ?_
  refine tR fun _ _ _ => ?_
  refine sV (rLdS rfl rfl rfl) ?_
  refine pV ?_
  refine eV (eCallV rfl rfl rfl (law06_few p m A c mod Aa _ ca a rfl ha9) ⟨rfl, rfl, trivial⟩ ?_)
  rw [hfw]
  refine sV (rNotB rfl rfl) ?_
  refine tC rfl (fun h4 => ?_) (fun h4 => ?_)
  ·try simp only [zbA] at h4
   first | exact absurd trivial h4 | exact absurd rfl h4 | omega | (exact absurd h4 (by simp)) --done
  ·try simp only [zbA] at h4
   refine tK ?_
   refine tS ?_
   refine tR fun _ _ _ => ?_
   iterate 2 refine pV ?_
   refine eV (eCallV rfl rfl rfl (fac_CompleteE g hg Aa _ ca a rfl ha9 he) ⟨rfl, rfl, trivial⟩ ?_)
   iterate 7 refine pV ?_
   refine tS ?_
   refine tR fun _ _ _ => ?_
   refine sV (rLdS rfl rfl rfl) ?_
   refine pV ?_
   refine eV (eCallV rfl rfl rfl (ref_Right p m A c mod Aa _ ca a rfl ha9) ⟨rfl, rfl, trivial⟩ ?_)
   refine pV ?_
   refine tS ?_
   refine tS ?_
   refine tR fun _ _ _ => ?_
   iterate 4 refine pV ?_
   refine stT rfl rfl rfl (by simp) rfl rfl (rMove rfl rfl) ?_
   refine efT rfl rfl rfl (by simp) (eCallV rfl rfl rfl (law06_alive g hg) ⟨rfl, trivial⟩ ?_)
   refine stT rfl rfl rfl (by simp) rfl rfl (rNotB rfl rfl) ?_
   refine sV (rPick0 rfl rfl (by simp) rfl) ?_
   refine tC rfl (fun h8 => ?_) (fun h8 => ?_)
   ·try simp only [zbA] at h8
    simp at h8 --done
   ·try simp only [zbA] at h8
    refine tK ?_
    refine tS ?_
    refine tS ?_
    refine tR fun _ _ _ => ?_
    iterate 2 refine pV ?_
    refine tC rfl (fun h10 => ?_) (fun h10 => ?_)
    ·try simp only [zbA] at h10
     refine tS ?_
     refine tR fun _ _ _ => ?_
     iterate 3 refine pV ?_
     refine stT rfl rfl rfl (by simp) rfl rfl (rMove rfl rfl) ?_
     refine stT rfl rfl rfl (by simp) rfl rfl (rLenS rfl rfl) ?_
     refine stT rfl rfl rfl (by simp) rfl rfl (rEql rfl rfl rfl) ?_
     refine sV (rPick1 rfl rfl (by simp) rfl) ?_
     refine pV ?_
     exact tr_ret ⟨trivial, _, _, rfl, ⟨by simp, rfl⟩, CSub.nil _, trivial⟩
    ·try simp only [zbA] at h10
     exact absurd (by simpa using h10) he --done
theorem law_FactorMultiplies_G_ent : Enters Try.prog 10 := enters_of Try.func10 (by kernel_rfl) (by kernel_rfl)
theorem law_FactorMultiplies_G (p m : Int) (A : Option Addr) (c : Nat) (mod : List Int) [hF : IsF p m mod] (hl9 : mod.length ≤ 17592186044415) (Aa : Option Addr) (ca : Nat) (a : List Int) (ha9 : a.length ≤ 17592186044415) (hfw : fewB (Po.len (pol a : Po (El p m mod))) = true) (he : facE (Po.len (pol a : Po (El p m mod))) = 0) :
  Pure Try.prog 10 #[.agg #[.int .i64 p, .int .i64 m, .slice A mod.length c], .slice Aa a.length ca] [ro A (ints mod), ro Aa (ints a)] (isV (.bool true)) := by
 have hle := facE_ok he
 have h0 : (pol a : Po (El p m mod)) ≠ 0 := Po.len_pos_iff.1 (by omega)
 have hml := Po.mon_len (pol a : Po (El p m mod))
 have hm1 := Po.mon_lead h0
 have hil := il_length (pol a : Po (El p m mod))
 have hmil := il_length (Po.mon (pol a : Po (El p m mod)))
 refine pure_of (args := [.agg #[.int .i64 p, .int .i64 m, .slice A mod.length c], .slice Aa a.length ca]) 88 Try.func10 rfl rfl rfl law_FactorMultiplies_G_ent ⟨id, id, trivial⟩ (fun w0 => ?_)
 refine tS ?_
 refine tR fun _ _ _ => ?_
 refine eV (eBox rfl rfl rfl rfl rfl (fun p0 => ?_))
 refine pV ?_
 refine tS ?_
 refine tR fun _ _ _ => ?_
 refine sV (rLdS rfl rfl rfl) ?_
 refine eV (eCall1 rfl rfl rfl (law_open_ok _ _ _ _ _ (by omega) hF.out) ⟨rfl, trivial⟩ ?_)
 rintro _ _ ⟨g, rfl, rfl, hg⟩
 iterate 7 refine pV ?_
 refine tS ?_
 refine tS ?_
 refine tR fun _ _ _ => ?_
 refine pV ?_
 refine tC rfl (fun h2 => ?_) (fun h2 => ?_)
 ·try simp only [zbA] at h2
  cases h2 --done
 ·try simp only [zbA] at h2
  refine tK ?_
  refine tS ?_
  refine tS ?_
  refine tR fun _ _ _ => ?_
  refine sV (rLdS rfl rfl rfl) ?_
  refine pV ?_
  refine eV (eCallV rfl rfl rfl (law06_few p m A c mod Aa _ ca a rfl ha9) ⟨rfl, rfl, trivial⟩ ?_)
  rw [hfw]
  refine sV (rNotB rfl rfl) ?_
  refine tC rfl (fun h4 => ?_) (fun h4 => ?_)
  ·try simp only [zbA] at h4
   first | exact absurd trivial h4 | exact absurd rfl h4 | omega | (exact absurd h4 (by simp)) --done
  ·try simp only [zbA] at h4
   refine tK ?_
   refine tS ?_
   refine tR fun _ _ _ => ?_
   iterate 2 refine pV ?_
   refine eV (eCall2 rfl rfl rfl (fac_CompleteL facSort facNone g hg Aa _ ca a rfl ha9 he) ⟨rfl, rfl, trivial⟩ ?_)
   rintro _ _ _ ⟨B6, c6, fs, rfl, rfl, rfl, hC, hR, hfl⟩
   iterate 7 refine pV ?_
   have hcl := hC.le (lead1_ne hm1)
   have hfx : ∀ f ∈ fs, f.r.xs.length ≤ 17592186044415 ∧ f.k ≤ 9223372036854775807 ∧ -9223372036854775808 ≤ f.k := fun f hf => by
    have := hcl f hf
    omega
   have hnn : ∀ f ∈ fs, 0 ≤ f.k := fun f hf => by
    have := hcl f hf
    omega
   have hpr := hC.prod hm1
   have hsm : fcT p m mod fs fs.length ≤ 256 := by rw [hpr.2]; omega
   have hpl := prF_lead h0 hpr.1
   refine tS ?_
   refine tR fun _ _ _ => ?_
   refine sV (rLdS rfl rfl rfl) ?_
   refine pV ?_
   refine eV (eCallV rfl rfl rfl (ref_Right p m A c mod Aa _ ca a rfl ha9) ⟨rfl, rfl, trivial⟩ ?_)
   rw [he]
   refine pV ?_
   refine tS ?_
   refine tS ?_
   refine tR fun _ _ _ => ?_
   iterate 4 refine pV ?_
   refine stT rfl rfl rfl (by simp) rfl rfl (rMove rfl rfl) ?_
   refine efT rfl rfl rfl (by simp) (eCallV rfl rfl rfl (law06_alive g hg) ⟨rfl, trivial⟩ ?_)
   refine stT rfl rfl rfl (by simp) rfl rfl (rNotB rfl rfl) ?_
   refine sV (rPick0 rfl rfl (by simp) rfl) ?_
   refine tC rfl (fun h8 => ?_) (fun h8 => ?_)
   ·try simp only [zbA] at h8
    simp at h8 --done
   ·try simp only [zbA] at h8
    refine tK ?_
    refine tS ?_
    refine tS ?_
    refine tR fun _ _ _ => ?_
    iterate 2 refine pV ?_
    refine tC rfl (fun h10 => ?_) (fun h10 => ?_)
    ·try simp only [zbA] at h10
     simp at h10 --done
    ·try simp only [zbA] at h10
     refine tK ?_
     refine tS ?_
     refine tR fun _ _ _ => ?_
     refine sV (rLdS rfl rfl rfl) ?_
     iterate 2 refine pV ?_
     refine eV (eCall1 rfl rfl rfl (ref_Product p m A c mod (Po.lead (pol a : Po (El p m mod))).1 B6 _ c6 fs rfl (by omega) hfx hnn hsm) ⟨rfl, rfl, rfl, trivial⟩ ?_)
     rintro _ _ ⟨B12, c12, rfl, rfl⟩
     iterate 5 refine pV ?_
     rw [hpl]
     refine tS ?_
     refine tS ?_
     refine tR fun _ _ _ => ?_
     iterate 3 refine pV ?_
     refine stT rfl rfl rfl (by simp) rfl rfl (rMove rfl rfl) ?_
     refine stT rfl rfl rfl (by simp) rfl rfl (rLdS rfl rfl rfl) ?_
     refine stT rfl rfl rfl (by simp) rfl rfl (rMove rfl rfl) ?_
     refine efT rfl rfl rfl (by simp) (eCall1 rfl rfl rfl (ref_CanonE p m A c mod Aa _ ca a rfl ha9) ⟨rfl, rfl, trivial⟩ ?_)
     rintro _ _ ⟨B13, c13, rfl, rfl⟩
     refine efT rfl rfl rfl (by simp) (eCallV rfl rfl rfl (ref_SameInts6 B12 _ c12 (il (pol a : Po (El p m mod))) rfl B13 _ c13 (il (pol a : Po (El p m mod))) rfl (by omega)) ⟨rfl, rfl, trivial⟩ ?_)
     refine stT rfl rfl rfl (by simp) rfl rfl (rNotB rfl rfl) ?_
     refine sV (rPick0 rfl rfl (by simp) rfl) ?_
     refine tC rfl (fun h13 => ?_) (fun h13 => ?_)
     ·try simp only [zbA] at h13
      simp at h13 --done
     ·try simp only [zbA] at h13
      refine tK ?_
      refine tS ?_
      refine tR fun _ _ _ => ?_
      iterate 3 refine pV ?_
      refine eV (eCall1 rfl rfl rfl (fac_Product g hg (Po.lead (pol a : Po (El p m mod))).1 B6 _ c6 fs rfl (by omega) hfx hnn hsm) ⟨rfl, rfl, rfl, trivial⟩ ?_)
      rintro _ _ ⟨B15, c15, rfl, rfl⟩
      iterate 5 refine pV ?_
      rw [hpl]
      refine tS ?_
      refine tR fun _ _ _ => ?_
      iterate 3 refine pV ?_
      refine stT rfl rfl rfl (by simp) rfl rfl (rMove rfl rfl) ?_
      refine stT rfl rfl rfl (by simp) rfl rfl (rMove rfl rfl) ?_
      refine efT rfl rfl rfl (by simp) (eCallV rfl rfl rfl (ref_SameInts6 B15 _ c15 (il (pol a : Po (El p m mod))) rfl B12 _ c12 (il (pol a : Po (El p m mod))) rfl (by omega)) ⟨rfl, rfl, trivial⟩ ?_)
      refine sV (rPick1 rfl rfl (by simp) rfl) ?_
      refine pV ?_
      exact tr_ret ⟨trivial, _, _, rfl, ⟨by simp, rfl⟩, CSub.nil _, trivial⟩
theorem law_FactorMultiplies (p m : Int) (A : Option Addr) (c : Nat) (mod : List Int) (hl9 : mod.length ≤ 17592186044415) (Aa : Option Addr) (ca : Nat) (a : List Int) (ha9 : a.length ≤ 17592186044415) : Pure Try.prog 10 #[.agg #[.int .i64 p, .int .i64 m, .slice A mod.length c], .slice Aa a.length ca] [ro A (ints mod), ro Aa (ints a)] (isV (.bool true)) := by
 by_cases hF0 : FldR p m mod
 ·haveI hF : IsF p m mod := ⟨hF0⟩
  cases hfw : fewB (Po.len (pol a : Po (El p m mod))) with
  | false => exact law_FactorMultiplies_N p m A c mod hl9 Aa ca a ha9 hfw
  | true =>
   by_cases he : facE (Po.len (pol a : Po (El p m mod))) = 0
   ·exact law_FactorMultiplies_G p m A c mod hl9 Aa ca a ha9 hfw he
   ·exact law_FactorMultiplies_E p m A c mod hl9 Aa ca a ha9 hfw he
 ·exact law_FactorMultiplies_no p m A c mod hl9 Aa ca a ha9 hF0
end Go.Proofs.Ytbhoeaijpnjgdaa

/-
  FACTORPOWERS, PART 8 OF 9. One sentence: the texts behind the law FactorPowers, put together.
  Conditions: each theorem's own, written out in it.
-/
import Derived.Test.YtbhoeaijpnjgdaaGreatK7
set_option linter.unusedSimpArgs false
set_option linter.unusedVariables false
set_option linter.unusedSectionVars false
set_option maxRecDepth 100000
namespace Go.Proofs.YtbhoeaijpnjgdaaGreat
open Go.RowKit
theorem law_FactorPowers_no_ent : Enters Tryz.prog 3 := enters_of Tryz.func3 (by kernel_rfl) (by kernel_rfl)
theorem law_FactorPowers_no (p m : Int) (A : Option Addr) (c : Nat) (mod : List Int) (hl9 : mod.length ≤ 17592186044415) (Aa : Option Addr) (ca : Nat) (a : List Int) (ha9 : a.length ≤ 17592186044415) (hF : ¬ FldR p m mod) :
  Pure Tryz.prog 3 #[.agg #[.int .i64 p, .int .i64 m, .slice A mod.length c], .slice Aa a.length ca] [ro A (ints mod), ro Aa (ints a)] (isV (.bool true)) := by
 refine pure_of (args := [.agg #[.int .i64 p, .int .i64 m, .slice A mod.length c], .slice Aa a.length ca]) 60 Tryz.func3 rfl rfl rfl law_FactorPowers_no_ent ⟨id, id, trivial⟩ (fun w0 => ?_)
 refine tS ?_
 refine tR fun _ _ _ => ?_
 refine eV (eBox rfl rfl rfl rfl rfl (fun p0 => ?_))
 refine pV ?_
 refine tS ?_
 refine tR fun _ _ _ => ?_
 refine sV (rLdS rfl rfl rfl) ?_
 refine eV (eCallV rfl rfl rfl (law_open_no _ _ _ _ _ (by omega) hF) ⟨rfl, trivial⟩ ?_)
 iterate 7 refine pV ?_
 refine tS ?_
 refine tS ?_
 refine tR fun _ _ _ => ?_
 refine pV ?_
 refine tC rfl (fun h2 => ?_) (fun h2 => ?_)
 ·try simp only [zbA] at h2
  refine tS ?_
  refine tR fun _ _ _ => ?_
  iterate 2 refine pV ?_
  exact tr_ret ⟨trivial, _, _, rfl, ⟨rfl, rfl⟩, CSub.nil _, trivial⟩
 ·try simp only [zbA] at h2
  cases h2 --done
theorem law_FactorPowers_N_ent : Enters Tryz.prog 3 := enters_of Tryz.func3 (by kernel_rfl) (by kernel_rfl)
theorem law_FactorPowers_N (p m : Int) (A : Option Addr) (c : Nat) (mod : List Int) [hF : IsF p m mod] (hl9 : mod.length ≤ 17592186044415) (Aa : Option Addr) (ca : Nat) (a : List Int) (ha9 : a.length ≤ 17592186044415) (hfw : fewB (Po.len (pol a : Po (El p m mod))) = false) :
  Pure Tryz.prog 3 #[.agg #[.int .i64 p, .int .i64 m, .slice A mod.length c], .slice Aa a.length ca] [ro A (ints mod), ro Aa (ints a)] (isV (.bool true)) := by
 refine pure_of (args := [.agg #[.int .i64 p, .int .i64 m, .slice A mod.length c], .slice Aa a.length ca]) 60 Tryz.func3 rfl rfl rfl law_FactorPowers_N_ent ⟨id, id, trivial⟩ (fun w0 => ?_)
 refine tS ?_
 refine tR fun _ _ _ => ?_
 refine eV (eBox rfl rfl rfl rfl rfl (fun p0 => ?_))
 refine pV ?_
 refine tS ?_
 refine tR fun _ _ _ => ?_
 refine sV (rLdS rfl rfl rfl) ?_
 refine eV (eCall1 rfl rfl rfl (law_open_ok _ _ _ _ _ (by omega) hF.out) ⟨rfl, trivial⟩ ?_)
 rintro _ _ ⟨g, rfl, rfl, hg⟩
 iterate 7 refine pV ?_
 refine tS ?_
 refine tS ?_
 refine tR fun _ _ _ => ?_
 refine pV ?_
 refine tC rfl (fun h2 => ?_) (fun h2 => ?_)
 ·try simp only [zbA] at h2
  cases h2 --done
 ·try simp only [zbA] at h2
  refine tK ?_
  refine tS ?_
  refine tS ?_
  refine tR fun _ _ _ => ?_
  refine sV (rLdS rfl rfl rfl) ?_
  refine pV ?_
  refine eV (eCallV rfl rfl rfl (law06_few p m A c mod Aa _ ca a rfl ha9) ⟨rfl, rfl, trivial⟩ ?_)
  rw [hfw]
  refine sV (rNotB rfl rfl) ?_
  refine tC rfl (fun h4 => ?_) (fun h4 => ?_)
  ·try simp only [zbA] at h4
   refine tS ?_
   refine tR fun _ _ _ => ?_
   refine pV ?_
   refine eV (eCallV rfl rfl rfl (law06_alive g hg) ⟨rfl, trivial⟩ ?_)
   refine pV ?_
   exact tr_ret ⟨trivial, _, _, rfl, ⟨rfl, rfl⟩, CSub.nil _, trivial⟩
  ·try simp only [zbA] at h4
   first | exact absurd trivial h4 | exact absurd rfl h4 | omega | (exact absurd h4 (by simp)) --done
theorem law_FactorPowers_E_ent : Enters Tryz.prog 3 := enters_of Tryz.func3 (by kernel_rfl) (by kernel_rfl)
theorem law_FactorPowers_E (p m : Int) (A : Option Addr) (c : Nat) (mod : List Int) [hF : IsF p m mod] (hl9 : mod.length ≤ 17592186044415) (Aa : Option Addr) (ca : Nat) (a : List Int) (ha9 : a.length ≤ 17592186044415) (hfw : fewB (Po.len (pol a : Po (El p m mod))) = true) (he : facE (Po.len (pol a : Po (El p m mod))) ≠ 0) :
  Pure Tryz.prog 3 #[.agg #[.int .i64 p, .int .i64 m, .slice A mod.length c], .slice Aa a.length ca] [ro A (ints mod), ro Aa (ints a)] (isV (.bool true)) := by
 refine pure_of (args := [.agg #[.int .i64 p, .int .i64 m, .slice A mod.length c], .slice Aa a.length ca]) 60 Tryz.func3 rfl rfl rfl law_FactorPowers_E_ent ⟨id, id, trivial⟩ (fun w0 => ?_)
 refine tS ?_
 refine tR fun _ _ _ => ?_
 refine eV (eBox rfl rfl rfl rfl rfl (fun p0 => ?_))
 refine pV ?_
 refine tS ?_
 refine tR fun _ _ _ => ?_
 refine sV (rLdS rfl rfl rfl) ?_
 refine eV (eCall1 rfl rfl rfl (law_open_ok _ _ _ _ _ (by omega) hF.out) ⟨rfl, trivial⟩ ?_)
 rintro _ _ ⟨g, rfl, rfl, hg⟩
 iterate 7 refine pV ?_
 refine tS ?_
 refine tS ?_
 refine tR fun _ _ _ => ?_
 refine pV ?_
 refine tC rfl (fun h2 => ?_) (fun h2 => ?_)
 ·try simp only [zbA] at h2
  cases h2 --done
 ·try simp only [zbA] at h2
  refine tK ?_
  refine tS ?_
  refine tS ?_
  refine tR fun _ _ _ => ?_
  refine sV (rLdS rfl rfl rfl) ?_
  refine pV ?_
  refine eV (eCallV rfl rfl rfl (law06_few p m A c mod Aa _ ca a rfl ha9) ⟨rfl, rfl, trivial⟩ ?_)
  rw [hfw]
  refine sV (rNotB rfl rfl) ?_
  refine tC rfl (fun h4 => ?_) (fun h4 => ?_)
  ·try simp only [zbA] at h4
   first | exact absurd trivial h4 | exact absurd rfl h4 | omega | (exact absurd h4 (by simp)) --done
  ·try simp only [zbA] at h4
   refine tK ?_
   refine tS ?_
   refine tR fun _ _ _ => ?_
   iterate 2 refine pV ?_
   refine eV (eCallV rfl rfl rfl (fac_SquarefreeE g hg Aa _ ca a rfl ha9 he) ⟨rfl, rfl, trivial⟩ ?_)
   iterate 5 refine pV ?_
   refine tS ?_
   refine tR fun _ _ _ => ?_
   refine sV (rLdS rfl rfl rfl) ?_
   refine pV ?_
   refine eV (eCallV rfl rfl rfl (ref_Right p m A c mod Aa _ ca a rfl ha9) ⟨rfl, rfl, trivial⟩ ?_)
   refine pV ?_
   refine tS ?_
   refine tS ?_
   refine tR fun _ _ _ => ?_
   iterate 4 refine pV ?_
   refine stT rfl rfl rfl (by simp) rfl rfl (rMove rfl rfl) ?_
   refine efT rfl rfl rfl (by simp) (eCallV rfl rfl rfl (law06_alive g hg) ⟨rfl, trivial⟩ ?_)
   refine stT rfl rfl rfl (by simp) rfl rfl (rNotB rfl rfl) ?_
   refine sV (rPick0 rfl rfl (by simp) rfl) ?_
   refine tC rfl (fun h8 => ?_) (fun h8 => ?_)
   ·try simp only [zbA] at h8
    simp at h8 --done
   ·try simp only [zbA] at h8
    refine tK ?_
    refine tS ?_
    refine tS ?_
    refine tR fun _ _ _ => ?_
    iterate 2 refine pV ?_
    refine tC rfl (fun h10 => ?_) (fun h10 => ?_)
    ·try simp only [zbA] at h10
     refine tS ?_
     refine tR fun _ _ _ => ?_
     refine pV ?_
     refine sV (rLenS rfl rfl) ?_
     iterate 2 refine pV ?_
     exact tr_ret ⟨trivial, _, _, rfl, ⟨by simp, rfl⟩, CSub.nil _, trivial⟩
    ·try simp only [zbA] at h10
     exact absurd (by simpa using h10) he --done
theorem law_FactorPowers_G_ent : Enters Tryz.prog 3 := enters_of Tryz.func3 (by kernel_rfl) (by kernel_rfl)
theorem law_FactorPowers_G (p m : Int) (A : Option Addr) (c : Nat) (mod : List Int) [hF : IsF p m mod] (hl9 : mod.length ≤ 17592186044415) (Aa : Option Addr) (ca : Nat) (a : List Int) (ha9 : a.length ≤ 17592186044415) (hfw : fewB (Po.len (pol a : Po (El p m mod))) = true) (he : facE (Po.len (pol a : Po (El p m mod))) = 0) :
  Pure Tryz.prog 3 #[.agg #[.int .i64 p, .int .i64 m, .slice A mod.length c], .slice Aa a.length ca] [ro A (ints mod), ro Aa (ints a)] (isV (.bool true)) := by
 have hle := facE_ok he
 have h0 : (pol a : Po (El p m mod)) ≠ 0 := Po.len_pos_iff.1 (by omega)
 have hml := Po.mon_len (pol a : Po (El p m mod))
 have hm1 := Po.mon_lead h0
 have hil := il_length (pol a : Po (El p m mod))
 have hmil := il_length (Po.mon (pol a : Po (El p m mod)))
 refine pure_of (args := [.agg #[.int .i64 p, .int .i64 m, .slice A mod.length c], .slice Aa a.length ca]) 60 Tryz.func3 rfl rfl rfl law_FactorPowers_G_ent ⟨id, id, trivial⟩ (fun w0 => ?_)
 refine tS ?_
 refine tR fun _ _ _ => ?_
 refine eV (eBox rfl rfl rfl rfl rfl (fun p0 => ?_))
 refine pV ?_
 refine tS ?_
 refine tR fun _ _ _ => ?_
 refine sV (rLdS rfl rfl rfl) ?_
 refine eV (eCall1 rfl rfl rfl (law_open_ok _ _ _ _ _ (by omega) hF.out) ⟨rfl, trivial⟩ ?_)
 rintro _ _ ⟨g, rfl, rfl, hg⟩
 iterate 7 refine pV ?_
 refine tS ?_
 refine tS ?_
 refine tR fun _ _ _ => ?_
 refine pV ?_
 refine tC rfl (fun h2 => ?_) (fun h2 => ?_)
 ·try simp only [zbA] at h2
  cases h2 --done
 ·try simp only [zbA] at h2
  refine tK ?_
  refine tS ?_
  refine tS ?_
  refine tR fun _ _ _ => ?_
  refine sV (rLdS rfl rfl rfl) ?_
  refine pV ?_
  refine eV (eCallV rfl rfl rfl (law06_few p m A c mod Aa _ ca a rfl ha9) ⟨rfl, rfl, trivial⟩ ?_)
  rw [hfw]
  refine sV (rNotB rfl rfl) ?_
  refine tC rfl (fun h4 => ?_) (fun h4 => ?_)
  ·try simp only [zbA] at h4
   first | exact absurd trivial h4 | exact absurd rfl h4 | omega | (exact absurd h4 (by simp)) --done
  ·try simp only [zbA] at h4
   refine tK ?_
   refine tS ?_
   refine tR fun _ _ _ => ?_
   iterate 2 refine pV ?_
   refine eV (eCall2 rfl rfl rfl (fac_SquarefreeL facSort facNone g hg Aa _ ca a rfl ha9 he) ⟨rfl, rfl, trivial⟩ ?_)
   rintro _ _ _ ⟨B6, c6, hs1, rfl, rfl, rfl, hI, hsr, hl1⟩
   iterate 5 refine pV ?_
   refine tS ?_
   refine tR fun _ _ _ => ?_
   refine sV (rLdS rfl rfl rfl) ?_
   refine pV ?_
   refine eV (eCallV rfl rfl rfl (ref_Right p m A c mod Aa _ ca a rfl ha9) ⟨rfl, rfl, trivial⟩ ?_)
   rw [he]
   refine pV ?_
   refine tS ?_
   refine tS ?_
   refine tR fun _ _ _ => ?_
   iterate 4 refine pV ?_
   refine stT rfl rfl rfl (by simp) rfl rfl (rMove rfl rfl) ?_
   refine efT rfl rfl rfl (by simp) (eCallV rfl rfl rfl (law06_alive g hg) ⟨rfl, trivial⟩ ?_)
   refine stT rfl rfl rfl (by simp) rfl rfl (rNotB rfl rfl) ?_
   refine sV (rPick0 rfl rfl (by simp) rfl) ?_
   refine tC rfl (fun h8 => ?_) (fun h8 => ?_)
   ·try simp only [zbA] at h8
    simp at h8 --done
   ·try simp only [zbA] at h8
    refine tK ?_
    refine tS ?_
    refine tS ?_
    refine tR fun _ _ _ => ?_
    iterate 2 refine pV ?_
    refine tC rfl (fun h10 => ?_) (fun h10 => ?_)
    ·try simp only [zbA] at h10
     simp at h10 --done
    ·try simp only [zbA] at h10
     refine tK ?_
     refine tS ?_
     refine tR fun _ _ _ => ?_
     refine sV (rLdS rfl rfl rfl) ?_
     refine pV ?_
     refine eV (eCall2 rfl rfl rfl (ref_Complete6 p m A c mod Aa _ ca a rfl ha9 hle.1 hle.2) ⟨rfl, rfl, trivial⟩ ?_)
     rintro _ _ _ ⟨B14, c14, gs, rfl, rfl, rfl, hC, hR, hgl⟩
     iterate 5 refine pV ?_
     have hkb : ∀ P : Po (El p m mod), Po.Ir P → Po.lead P = 1 → P ∣ (pol a : Po (El p m mod)) → 1 ≤ mu P (pol a : Po (El p m mod)) ∧ mu P (pol a : Po (El p m mod)) ≤ 256 := fun P x y z => by
      have h1 := (mu_pos x h0).1 z
      have h2 := mu_le_len h0 x
      omega
     have hkey : KeyI (pol a : Po (El p m mod)) (fun P => mu P (pol a : Po (El p m mod))) gs (keyF false) := fun e hm => by
      obtain ⟨f1, f2, f3, f4, f5, f6⟩ := hC.fc h0 hm
      unfold keyF
      rw [if_neg (by simp), f5]
     have hx1 : ∀ f ∈ hs1, f.r.xs.length ≤ 17592186044415 := fun f hm => by
      have := (hI.le hm1 f hm).2
      omega
     have hkk : ∀ e ∈ hs1, e.k < ((258 : Nat) : Int) := fun e hm => by
      have := hI.bd (lead1_ne hm1) (Nat.le_refl 1) e hm
      omega
     refine tS ?_
     refine tR fun _ _ _ => ?_
     refine pV ?_
     refine sV (rLdS rfl rfl rfl) ?_
     refine pV ?_
     refine eV (eCall2 rfl rfl rfl (ref_Group p m A c mod B14 _ c14 gs rfl (pol a : Po (El p m mod)) h0 hle.2 hC (by omega) false (fun P => mu P (pol a : Po (El p m mod))) hkey hkb) ⟨rfl, rfl, rfl, trivial⟩ ?_)
     rintro _ _ _ ⟨B15, c15, hs2, rfl, rfl, rfl, hG2, hl2⟩
     refine eV (eCallV rfl rfl rfl (ref_Same6 B6 _ c6 hs1 rfl B15 _ c15 hs2 rfl (by omega) (by omega) hx1) ⟨rfl, rfl, trivial⟩ ?_)
     have hG1 := sqI_gr (lead1_ne hm1) hI hsr hkk
     have hG3 := hG1.cong (μ := fun P => mu P (pol a : Po (El p m mod))) (mon_iff (pol a : Po (El p m mod))) (fun P x y z => mu_mon x h0)
     have hfe := hG3.uniq hG2 (fun P x y z => ⟨by have := hkb P x y z; omega, by have := hkb P x y z; omega⟩)
     refine pV ?_
     exact tr_ret ⟨trivial, _, _, rfl, ⟨by simp [hfe], rfl⟩, CSub.nil _, trivial⟩
theorem law_FactorPowers (p m : Int) (A : Option Addr) (c : Nat) (mod : List Int) (hl9 : mod.length ≤ 17592186044415) (Aa : Option Addr) (ca : Nat) (a : List Int) (ha9 : a.length ≤ 17592186044415) : Pure Tryz.prog 3 #[.agg #[.int .i64 p, .int .i64 m, .slice A mod.length c], .slice Aa a.length ca] [ro A (ints mod), ro Aa (ints a)] (isV (.bool true)) := by
 by_cases hF0 : FldR p m mod
 ·haveI hF : IsF p m mod := ⟨hF0⟩
  cases hfw : fewB (Po.len (pol a : Po (El p m mod))) with
  | false => exact law_FactorPowers_N p m A c mod hl9 Aa ca a ha9 hfw
  | true =>
   by_cases he : facE (Po.len (pol a : Po (El p m mod))) = 0
   ·exact law_FactorPowers_G p m A c mod hl9 Aa ca a ha9 hfw he
   ·exact law_FactorPowers_E p m A c mod hl9 Aa ca a ha9 hfw he
 ·exact law_FactorPowers_no p m A c mod hl9 Aa ca a ha9 hF0
end Go.Proofs.YtbhoeaijpnjgdaaGreat

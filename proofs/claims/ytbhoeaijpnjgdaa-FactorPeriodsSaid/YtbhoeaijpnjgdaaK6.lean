/-
  FACTORPERIODS, PART 6 OF 7. One sentence: the texts behind the law FactorPeriods, put together.
  Conditions: each theorem's own, written out in it.
-/
import Derived.Test.YtbhoeaijpnjgdaaK5
set_option linter.unusedSimpArgs false
set_option linter.unusedVariables false
set_option linter.unusedSectionVars false
set_option maxRecDepth 100000
namespace Go.Proofs.Ytbhoeaijpnjgdaa
open Go.RowKit
theorem law_FactorPeriods_no_ent : Enters Try.prog 5 := enters_of Try.func5 (by kernel_rfl) (by kernel_rfl)
theorem law_FactorPeriods_no (p m : Int) (A : Option Addr) (c : Nat) (mod : List Int) (hl9 : mod.length ≤ 17592186044415) (Aa : Option Addr) (ca : Nat) (a : List Int) (ha9 : a.length ≤ 17592186044415) (hF : ¬ FldR p m mod) :
  Pure Try.prog 5 #[.agg #[.int .i64 p, .int .i64 m, .slice A mod.length c], .slice Aa a.length ca] [ro A (ints mod), ro Aa (ints a)] (isV (.bool true)) := by
 refine pure_of (args := [.agg #[.int .i64 p, .int .i64 m, .slice A mod.length c], .slice Aa a.length ca]) 69 Try.func5 rfl rfl rfl law_FactorPeriods_no_ent ⟨id, id, trivial⟩ (fun w0 => ?_)
 refine tS ?_
 refine tR fun _ _ _ => ?_
 refine eV (eBox rfl rfl rfl rfl rfl (fun p0 => ?_))
 refine pV ?_
 refine tS ?_
 refine tR fun _ _ _ => ?_
 refine sV (rLdS rfl rfl rfl) ?_
 refine eV (eCallV rfl rfl rfl (law_open_no _ _ _ _ _ (by omega) hF) ⟨rfl, trivial⟩ ?_)
 iterate 7 refine pV ?_
 refine tS ?_
 refine tS ?_
 refine tR fun _ _ _ => ?_
 refine pV ?_
 refine tC rfl (fun h2 => ?_) (fun h2 => ?_)
 ·try simp only [zbA] at h2
  refine tS ?_
  refine tR fun _ _ _ => ?_
  iterate 2 refine pV ?_
  exact tr_ret ⟨trivial, _, _, rfl, ⟨rfl, rfl⟩, CSub.nil _, trivial⟩
 ·try simp only [zbA] at h2
  cases h2 --done
theorem law_FactorPeriods_ok_ent : Enters Try.prog 5 := enters_of Try.func5 (by kernel_rfl) (by kernel_rfl)
theorem law_FactorPeriods_ok (p m : Int) (A : Option Addr) (c : Nat) (mod : List Int) [hF : IsF p m mod] (hl9 : mod.length ≤ 17592186044415) (Aa : Option Addr) (ca : Nat) (a : List Int) (ha9 : a.length ≤ 17592186044415) (x y : Int) (h1 : ∀ g : GfM, GOk g p m mod → Pure Try.prog 26 #[.pointer (some g.p), .slice Aa a.length ca] [gfR g, ro Aa (ints a)] (isV (.tuple #[.int .i64 x, .int .i64 y]))) (h2r : Pure Try.prog 27 #[.agg #[.int .i64 p, .int .i64 m, .slice A mod.length c], .slice Aa a.length ca] [ro A (ints mod), ro Aa (ints a)] (isV (.tuple #[.int .i64 x, .int .i64 y]))) :
  Pure Try.prog 5 #[.agg #[.int .i64 p, .int .i64 m, .slice A mod.length c], .slice Aa a.length ca] [ro A (ints mod), ro Aa (ints a)] (isV (.bool true)) := by
 have hq2 := hF.q2
 have hq256 := hF.out.1.1.q
 have hord := hF.ord
 have hil := il_length (pol a : Po (El p m mod))
 have hile := il_le (p := p) (m := m) (mod := mod) a
 have h1r := h1
 refine pure_of (args := [.agg #[.int .i64 p, .int .i64 m, .slice A mod.length c], .slice Aa a.length ca]) 69 Try.func5 rfl rfl rfl law_FactorPeriods_ok_ent ⟨id, id, trivial⟩ (fun w0 => ?_)
 refine tS ?_
 refine tR fun _ _ _ => ?_
 refine eV (eBox rfl rfl rfl rfl rfl (fun p0 => ?_))
 refine pV ?_
 refine tS ?_
 refine tR fun _ _ _ => ?_
 refine sV (rLdS rfl rfl rfl) ?_
 refine eV (eCall1 rfl rfl rfl (law_open_ok _ _ _ _ _ (by omega) hF.out) ⟨rfl, trivial⟩ ?_)
 rintro _ _ ⟨g, rfl, rfl, hg⟩
 iterate 7 refine pV ?_
 refine tS ?_
 refine tS ?_
 refine tR fun _ _ _ => ?_
 refine pV ?_
 refine tC rfl (fun h2 => ?_) (fun h2 => ?_)
 ·try simp only [zbA] at h2
  cases h2 --done
 ·try simp only [zbA] at h2
  refine tK ?_
  refine tS ?_
  refine tR fun _ _ _ => ?_
  refine pV ?_
  refine tS ?_
  refine tS ?_
  refine tR fun _ _ _ => ?_
  refine pV ?_
  refine tB ?_
  refine tr_loop2 (fun (i : Int) (s : Int) => [(8, .int .i64 s), (9, .int .i64 i), (5, .pointer (some g.p)), (1, .slice Aa a.length ca), (2, .pointer (some p0)), (4, .bool false)]) (fun (i : Int) (s : Int) => [gfN g, blk p0 24 [.int .i64 p, .int .i64 m, .slice A mod.length c], ro A (ints mod), ro Aa (ints a)]) (fun (i : Int) (s : Int) => 0 ≤ i ∧ (1 ≤ s ∧ s ≤ 65536 * 256)) (fun (i : Int) (s : Int) => ((Po.len (pol a : Po (El p m mod)) : Int) - i).toNat) (0) (1) ⟨rfl, rfl, rfl, rfl, rfl, rfl, trivial⟩ (by first | exact cs _ _ | exact CSub.refl _) (⟨by omega, by omega, by omega⟩) (fun i s hI => ?_)
  obtain ⟨hi0, hs0, hs1⟩ := hI
  refine tS ?_
  refine tS ?_
  refine tR fun _ _ _ => ?_
  refine pV ?_
  refine sV (rLdS rfl rfl rfl) ?_
  refine pV ?_
  refine eV (eCallV rfl rfl rfl (ref_PDegree p m A c mod Aa a.length ca a rfl ha9) ⟨rfl, rfl, trivial⟩ ?_)
  iterate 2 refine pV ?_
  refine stg rfl rfl rfl rfl rfl (fun hb => by (have hq := hb; try simp only [zbA] at hq); exact rMove rfl rfl) ?_
  refine stg rfl rfl rfl rfl rfl (fun hb => by (have hq := hb; try simp only [zbA] at hq); exact rLeq rfl (evg rfl hb) rfl) ?_
  refine sV (rAndB rfl rfl rfl rfl) ?_
  refine tC rfl (fun h6 => ?_) (fun h6 => ?_)
  ·try simp only [zbA] at h6
   refine tK ?_
   refine tS ?_
   refine tB ?_
   refine tR fun _ _ _ => ?_
   refine pV ?_
   refine sV (rLdS rfl rfl rfl) ?_
   refine eV (eCallV rfl rfl rfl (ref_order p m A c mod) ⟨rfl, trivial⟩ ?_)
   rw [hord]
   have hsq : s * pw p m ≤ 65536 * 256 := Int.mul_le_mul (by omega) (by omega) (by omega) (by omega)
   have hsq0 : 0 < s * pw p m := Int.mul_pos (by omega) (by omega)
   refine sV (rMul rfl rfl rfl (by omega) (by omega)) ?_
   refine pV ?_
   refine tR fun _ _ _ => ?_
   refine pV ?_
   refine sV (rAdd rfl rfl rfl (by omega) (by omega)) ?_
   refine pV ?_
   refine ⟨i + 1, s * pw p m, ⟨rfl, rfl, rfl, rfl, rfl, rfl, trivial⟩, by first | exact cs _ _ | exact CSub.refl _, ?_⟩
   exact ⟨⟨by omega, by omega, by omega⟩, by omega⟩
  ·try simp only [zbA] at h6
   refine tE ?_
   refine tS ?_
   refine tS ?_
   refine tR fun _ _ _ => ?_
   iterate 3 refine pV ?_
   refine stg rfl rfl rfl rfl rfl (fun hb => by (have hq := hb; try simp only [zbA] at hq); exact rMove rfl rfl) ?_
   refine stg rfl rfl rfl rfl rfl (fun hb => by (have hq := hb; try simp only [zbA] at hq); exact rLeq rfl (evg rfl hb) rfl) ?_
   refine sV (rAndB rfl rfl rfl rfl) ?_
   refine tC rfl (fun h9 => ?_) (fun h9 => ?_)
   ·try simp only [zbA] at h9
    refine tS ?_
    refine tR fun _ _ _ => ?_
    refine pV ?_
    refine eV (eCallV rfl rfl rfl (law06_alive g hg) ⟨rfl, trivial⟩ ?_)
    refine pV ?_
    exact tr_ret ⟨trivial, _, _, rfl, ⟨by simp, rfl⟩, CSub.nil _, trivial⟩
   ·try simp only [zbA] at h9
    refine tK ?_
    refine tS ?_
    refine tR fun _ _ _ => ?_
    iterate 2 refine pV ?_
    refine eV (eCallV rfl rfl rfl (h1r g hg) ⟨rfl, rfl, trivial⟩ ?_)
    iterate 5 refine pV ?_
    refine tS ?_
    refine tR fun _ _ _ => ?_
    refine sV (rLdS rfl rfl rfl) ?_
    refine pV ?_
    refine eV (eCallV rfl rfl rfl (h2r) ⟨rfl, rfl, trivial⟩ ?_)
    iterate 5 refine pV ?_
    refine tS ?_
    refine tR fun _ _ _ => ?_
    iterate 4 refine pV ?_
    refine stT rfl rfl rfl (by simp) rfl rfl (rMove rfl rfl) ?_
    refine stT rfl rfl rfl (by simp) rfl rfl (rMove rfl rfl) ?_
    refine stT rfl rfl rfl (by simp) rfl rfl (rEql rfl rfl rfl) ?_
    refine sV (rPick1 rfl rfl (by simp) rfl) ?_
    refine pV ?_
    refine stT rfl rfl rfl (by simp) rfl rfl (rMove rfl rfl) ?_
    refine efT rfl rfl rfl (by simp) (eCallV rfl rfl rfl (law06_alive g hg) ⟨rfl, trivial⟩ ?_)
    refine sV (rPick1 rfl rfl (by simp) rfl) ?_
    refine pV ?_
    exact tr_ret ⟨trivial, _, _, rfl, ⟨by simp, rfl⟩, CSub.nil _, trivial⟩
theorem law_FactorPeriods (p m : Int) (A : Option Addr) (c : Nat) (mod : List Int) (hl9 : mod.length ≤ 17592186044415) (Aa : Option Addr) (ca : Nat) (a : List Int) (ha9 : a.length ≤ 17592186044415) : Pure Try.prog 5 #[.agg #[.int .i64 p, .int .i64 m, .slice A mod.length c], .slice Aa a.length ca] [ro A (ints mod), ro Aa (ints a)] (isV (.bool true)) := by
 by_cases hF0 : FldR p m mod
 ·haveI hF : IsF p m mod := ⟨hF0⟩
  by_cases he : facE (Po.len (pol a : Po (El p m mod))) = 0
  ·have hle := facE_ok he
   obtain ⟨N, hN⟩ : ∃ N, Po.len (pol a : Po (El p m mod)) = N + 1 := ⟨Po.len (pol a : Po (El p m mod)) - 1, by omega⟩
   rcases Int.lt_or_le 65536 (pw p m ^ N) with hb | hb
   ·exact law_FactorPeriods_ok p m A c mod hl9 Aa ca a ha9 0 8 (fun g hg => fac_PeriodB g hg Aa _ ca a rfl ha9 he N hN hb) (ref_PeriodB p m A c mod Aa _ ca a rfl ha9 he N hN hb)
   ·by_cases h0 : Po.cf (pol a : Po (El p m mod)) 0 = 0
    ·exact law_FactorPeriods_ok p m A c mod hl9 Aa ca a ha9 0 5 (fun g hg => fac_PeriodZ g hg Aa _ ca a rfl ha9 he N hN hb h0) (ref_PeriodZ p m A c mod Aa _ ca a rfl ha9 he N hN hb h0)
    ·obtain ⟨K, hK, hK9⟩ := perO_ex h0
     rw [hN, Nat.add_sub_cancel] at hK9
     have hr := ref_PeriodG p m A c mod Aa _ ca a rfl ha9 he N hN hb h0 K hK (by omega)
     by_cases hN0 : N = 0
     ·have hK1 : K = 1 := hK.uniq ⟨Nat.le_refl _, Po.one_len_dvd (by omega) _, fun j h1 h2 => by omega⟩
      subst hK1
      exact law_FactorPeriods_ok p m A c mod hl9 Aa ca a ha9 1 0 (fun g hg => fac_PeriodO g hg Aa _ ca a rfl ha9 he N hN hb h0 hN0) hr
     ·exact law_FactorPeriods_ok p m A c mod hl9 Aa ca a ha9 K 0 (fun g hg => fac_PeriodG g hg Aa _ ca a rfl ha9 he N hN hb h0 (by omega) K hK (by omega)) hr
  ·exact law_FactorPeriods_ok p m A c mod hl9 Aa ca a ha9 0 _ (fun g hg => fac_PeriodE g hg Aa _ ca a rfl ha9 he) (ref_PeriodE p m A c mod Aa _ ca a rfl ha9 he)
 ·exact law_FactorPeriods_no p m A c mod hl9 Aa ca a ha9 hF0
end Go.Proofs.Ytbhoeaijpnjgdaa

/-
  FACTORTESTS, PART 8 OF 9. One sentence: the texts behind the law FactorTests, put together.
  Conditions: each theorem's own, written out in it.
-/
import Derived.Test.YtbhoeaijpnjgdaaGreatK7
set_option linter.unusedSimpArgs false
set_option linter.unusedVariables false
set_option linter.unusedSectionVars false
set_option maxRecDepth 100000
namespace Go.Proofs.YtbhoeaijpnjgdaaGreat
open Go.RowKit
section
variable {p m : Int} {mod : List Int} [hF : IsF p m mod]
open Po
theorem ir_mon {f : Po (El p m mod)} (hf : f ≠ 0) : Ir f ↔ Ir (mon f) := ⟨fun h => h.mon.1, fun h => by
 refine ⟨by have := h.two; rwa [mon_len] at this, fun d hd => ?_⟩
 have := h.irr d (dvd_trans hd (dvd_mon f))
 rwa [mon_len] at this⟩
theorem ir_one_iff {f : Po (El p m mod)} (hf : f ≠ 0) {gs : List FacM} (h : CmI (mon f) gs) : Ir f ↔ gs.length = 1 ∧ (gs.getD 0 facD).k = 1 := by
 have hm := mon_lead hf
 have hm0 := lead1_ne hm
 rw [ir_mon hf]
 constructor
 ·intro hi
  have hall : ∀ e ∈ gs, e.r.xs = il (mon f) ∧ e.k = 1 := fun e he => by
   obtain ⟨a, b, c, d, k, _⟩ := h.fc hm0 he
   have e1 := a.one hi b hm c
   rw [e1] at d k
   rw [mu_ir hi hi hm hm, if_pos rfl] at k
   exact ⟨d, k⟩
  obtain ⟨e, he, _⟩ := h.all _ hi hm ⟨1, (Rg.mul_one _).symm⟩
  match gs, hall, he, h.nd with
  | [x], hall, _, _ => exact ⟨rfl, (hall x (List.mem_cons_self ..)).2⟩
  | x :: y :: l, hall, _, hnd =>
   have h1 := (List.nodup_cons.1 hnd).1
   exact absurd (List.mem_cons.2 (.inl ((hall x (List.mem_cons_self ..)).1.trans (hall y (List.mem_cons_of_mem _ (List.mem_cons_self ..))).1.symm))) h1
 ·rintro ⟨h1, h2⟩
  have hp := (h.prod hm).1
  have hmem := getD_mem (l := gs) (show 0 < gs.length by omega) facD
  obtain ⟨a, _⟩ := h.fc hm0 hmem
  have e : prF p m mod 1 gs gs.length = fcP p m mod (gs.getD 0 facD) := by
   rw [h1]
   show prF p m mod 1 gs 0 * Rg.pow (fcP p m mod (gs.getD 0 facD)) (gs.getD 0 facD).k.toNat = _
   rw [h2, show (1 : Int).toNat = 1 from rfl, Rg.pow_one]
   show C (el 1) * _ = _
   rw [el_one, C_one, Rg.one_mul]
  rw [← hp, e]; exact a
end
theorem law_FactorTests_no_ent : Enters Tryz.prog 6 := enters_of Tryz.func6 (by kernel_rfl) (by kernel_rfl)
theorem law_FactorTests_no (p m : Int) (A : Option Addr) (c : Nat) (mod : List Int) (hl9 : mod.length ≤ 17592186044415) (Aa : Option Addr) (ca : Nat) (a : List Int) (ha9 : a.length ≤ 17592186044415) (hF : ¬ FldR p m mod) :
  Pure Tryz.prog 6 #[.agg #[.int .i64 p, .int .i64 m, .slice A mod.length c], .slice Aa a.length ca] [ro A (ints mod), ro Aa (ints a)] (isV (.bool true)) := by
 refine pure_of (args := [.agg #[.int .i64 p, .int .i64 m, .slice A mod.length c], .slice Aa a.length ca]) 79 Tryz.func6 rfl rfl rfl law_FactorTests_no_ent ⟨id, id, trivial⟩ (fun w0 => ?_)
 refine tS ?_
 refine tR fun _ _ _ => ?_
 refine eV (eBox rfl rfl rfl rfl rfl (fun p0 => ?_))
 refine pV ?_
 refine tS ?_
 refine tR fun _ _ _ => ?_
 refine sV (rLdS rfl rfl rfl) ?_
 refine eV (eCallV rfl rfl rfl (law_open_no _ _ _ _ _ (by omega) hF) ⟨rfl, trivial⟩ ?_)
 iterate 7 refine pV ?_
 refine tS ?_
 refine tS ?_
 refine tR fun _ _ _ => ?_
 refine pV ?_
 refine tC rfl (fun h2 => ?_) (fun h2 => ?_)
 ·try simp only [zbA] at h2
  refine tS ?_
  refine tR fun _ _ _ => ?_
  iterate 2 refine pV ?_
  exact tr_ret ⟨trivial, _, _, rfl, ⟨rfl, rfl⟩, CSub.nil _, trivial⟩
 ·try simp only [zbA] at h2
  cases h2 --done
theorem law_FactorTests_N_ent : Enters Tryz.prog 6 := enters_of Tryz.func6 (by kernel_rfl) (by kernel_rfl)
theorem law_FactorTests_N (p m : Int) (A : Option Addr) (c : Nat) (mod : List Int) [hF : IsF p m mod] (hl9 : mod.length ≤ 17592186044415) (Aa : Option Addr) (ca : Nat) (a : List Int) (ha9 : a.length ≤ 17592186044415) (hfw : fewB (Po.len (pol a : Po (El p m mod))) = false) :
  Pure Tryz.prog 6 #[.agg #[.int .i64 p, .int .i64 m, .slice A mod.length c], .slice Aa a.length ca] [ro A (ints mod), ro Aa (ints a)] (isV (.bool true)) := by
 refine pure_of (args := [.agg #[.int .i64 p, .int .i64 m, .slice A mod.length c], .slice Aa a.length ca]) 79 Tryz.func6 rfl rfl rfl law_FactorTests_N_ent ⟨id, id, trivial⟩ (fun w0 => ?_)
 refine tS ?_
 refine tR fun _ _ _ => ?_
 refine eV (eBox rfl rfl rfl rfl rfl (fun p0 => ?_))
 refine pV ?_
 refine tS ?_
 refine tR fun _ _ _ => ?_
 refine sV (rLdS rfl rfl rfl) ?_
 refine eV (eCall1 rfl rfl rfl (law_open_ok _ _ _ _ _ (by omega) hF.out) ⟨rfl, trivial⟩ ?_)
 rintro _ _ ⟨g, rfl, rfl, hg⟩
 iterate 7 refine pV ?_
 refine tS ?_
 refine tS ?_
 refine tR fun _ _ _ => ?_
 refine pV ?_
 refine tC rfl (fun h2 => ?_) (fun h2 => ?_)
 ·try simp only [zbA] at h2
  cases h2 --done
 ·try simp only [zbA] at h2
  refine tK ?_
  refine tS ?_
  refine tS ?_
  refine tR fun _ _ _ => ?_
  refine sV (rLdS rfl rfl rfl) ?_
  refine pV ?_
  refine eV (eCallV rfl rfl rfl (law06_few p m A c mod Aa _ ca a rfl ha9) ⟨rfl, rfl, trivial⟩ ?_)
  rw [hfw]
  refine sV (rNotB rfl rfl) ?_
  refine tC rfl (fun h4 => ?_) (fun h4 => ?_)
  ·try simp only [zbA] at h4
   refine tS ?_
   refine tR fun _ _ _ => ?_
   refine pV ?_
   refine eV (eCallV rfl rfl rfl (law06_alive g hg) ⟨rfl, trivial⟩ ?_)
   refine pV ?_
   exact tr_ret ⟨trivial, _, _, rfl, ⟨rfl, rfl⟩, CSub.nil _, trivial⟩
  ·try simp only [zbA] at h4
   first | exact absurd trivial h4 | exact absurd rfl h4 | omega | (exact absurd h4 (by simp)) --done
theorem law_FactorTests_E_ent : Enters Tryz.prog 6 := enters_of Tryz.func6 (by kernel_rfl) (by kernel_rfl)
theorem law_FactorTests_E (p m : Int) (A : Option Addr) (c : Nat) (mod : List Int) [hF : IsF p m mod] (hl9 : mod.length ≤ 17592186044415) (Aa : Option Addr) (ca : Nat) (a : List Int) (ha9 : a.length ≤ 17592186044415) (hfw : fewB (Po.len (pol a : Po (El p m mod))) = true) (he : facE (Po.len (pol a : Po (El p m mod))) ≠ 0) :
  Pure Tryz.prog 6 #[.agg #[.int .i64 p, .int .i64 m, .slice A mod.length c], .slice Aa a.length ca] [ro A (ints mod), ro Aa (ints a)] (isV (.bool true)) := by
 refine pure_of (args := [.agg #[.int .i64 p, .int .i64 m, .slice A mod.length c], .slice Aa a.length ca]) 79 Tryz.func6 rfl rfl rfl law_FactorTests_E_ent ⟨id, id, trivial⟩ (fun w0 => ?_)
 refine tS ?_
 refine tR fun _ _ _ => ?_
 refine eV (eBox rfl rfl rfl rfl rfl (fun p0 => ?_))
 refine pV ?_
 refine tS ?_
 refine tR fun _ _ _ => ?_
 refine sV (rLdS rfl rfl rfl) ?_
 refine eV (eCall1 rfl rfl rfl (law_open_ok _ _ _ _ _ (by omega) hF.out) ⟨rfl, trivial⟩ ?_)
 rintro _ _ ⟨g, rfl, rfl, hg⟩
 iterate 7 refine pV ?_
 refine tS ?_
 refine tS ?_
 refine tR fun _ _ _ => ?_
 refine pV ?_
 refine tC rfl (fun h2 => ?_) (fun h2 => ?_)
 ·try simp only [zbA] at h2
  cases h2 --done
 ·try simp only [zbA] at h2
  refine tK ?_
  refine tS ?_
  refine tS ?_
  refine tR fun _ _ _ => ?_
  refine sV (rLdS rfl rfl rfl) ?_
  refine pV ?_
  refine eV (eCallV rfl rfl rfl (law06_few p m A c mod Aa _ ca a rfl ha9) ⟨rfl, rfl, trivial⟩ ?_)
  rw [hfw]
  refine sV (rNotB rfl rfl) ?_
  refine tC rfl (fun h4 => ?_) (fun h4 => ?_)
  ·try simp only [zbA] at h4
   first | exact absurd trivial h4 | exact absurd rfl h4 | omega | (exact absurd h4 (by simp)) --done
  ·try simp only [zbA] at h4
   refine tK ?_
   refine tS ?_
   refine tR fun _ _ _ => ?_
   iterate 2 refine pV ?_
   refine eV (eCallV rfl rfl rfl (fac_IrrE g hg Aa _ ca a rfl ha9 he) ⟨rfl, rfl, trivial⟩ ?_)
   iterate 5 refine pV ?_
   refine tS ?_
   refine tR fun _ _ _ => ?_
   refine sV (rLdS rfl rfl rfl) ?_
   refine pV ?_
   refine eV (eCallV rfl rfl rfl (ref_Right p m A c mod Aa _ ca a rfl ha9) ⟨rfl, rfl, trivial⟩ ?_)
   refine pV ?_
   refine tS ?_
   refine tS ?_
   refine tR fun _ _ _ => ?_
   iterate 4 refine pV ?_
   refine stT rfl rfl rfl (by simp) rfl rfl (rMove rfl rfl) ?_
   refine efT rfl rfl rfl (by simp) (eCallV rfl rfl rfl (law06_alive g hg) ⟨rfl, trivial⟩ ?_)
   refine stT rfl rfl rfl (by simp) rfl rfl (rNotB rfl rfl) ?_
   refine sV (rPick0 rfl rfl (by simp) rfl) ?_
   refine tC rfl (fun h8 => ?_) (fun h8 => ?_)
   ·try simp only [zbA] at h8
    simp at h8 --done
   ·try simp only [zbA] at h8
    refine tK ?_
    refine tS ?_
    refine tS ?_
    refine tR fun _ _ _ => ?_
    iterate 2 refine pV ?_
    refine tC rfl (fun h10 => ?_) (fun h10 => ?_)
    ·try simp only [zbA] at h10
     refine tS ?_
     refine tR fun _ _ _ => ?_
     refine pV ?_
     refine sV (rNotB rfl rfl) ?_
     refine pV ?_
     exact tr_ret ⟨trivial, _, _, rfl, ⟨by simp, rfl⟩, CSub.nil _, trivial⟩
    ·try simp only [zbA] at h10
     exact absurd (by simpa using h10) he --done
theorem law_FactorTests_G_ent : Enters Tryz.prog 6 := enters_of Tryz.func6 (by kernel_rfl) (by kernel_rfl)
theorem law_FactorTests_G (p m : Int) (A : Option Addr) (c : Nat) (mod : List Int) [hF : IsF p m mod] (hl9 : mod.length ≤ 17592186044415) (Aa : Option Addr) (ca : Nat) (a : List Int) (ha9 : a.length ≤ 17592186044415) (hfw : fewB (Po.len (pol a : Po (El p m mod))) = true) (he : facE (Po.len (pol a : Po (El p m mod))) = 0) (hir : ∀ g : GfM, GOk g p m mod → Pure Tryz.prog 23 #[.pointer (some g.p), .slice Aa a.length ca] [gfR g, ro Aa (ints a)] (isV (.tuple #[.bool (irB (pol a : Po (El p m mod))), .int .i64 0]))) :
  Pure Tryz.prog 6 #[.agg #[.int .i64 p, .int .i64 m, .slice A mod.length c], .slice Aa a.length ca] [ro A (ints mod), ro Aa (ints a)] (isV (.bool true)) := by
 have hle := facE_ok he
 have h0 : (pol a : Po (El p m mod)) ≠ 0 := Po.len_pos_iff.1 (by omega)
 have hml := Po.mon_len (pol a : Po (El p m mod))
 have hm1 := Po.mon_lead h0
 have hil := il_length (pol a : Po (El p m mod))
 have hmil := il_length (Po.mon (pol a : Po (El p m mod)))
 refine pure_of (args := [.agg #[.int .i64 p, .int .i64 m, .slice A mod.length c], .slice Aa a.length ca]) 79 Tryz.func6 rfl rfl rfl law_FactorTests_G_ent ⟨id, id, trivial⟩ (fun w0 => ?_)
 refine tS ?_
 refine tR fun _ _ _ => ?_
 refine eV (eBox rfl rfl rfl rfl rfl (fun p0 => ?_))
 refine pV ?_
 refine tS ?_
 refine tR fun _ _ _ => ?_
 refine sV (rLdS rfl rfl rfl) ?_
 refine eV (eCall1 rfl rfl rfl (law_open_ok _ _ _ _ _ (by omega) hF.out) ⟨rfl, trivial⟩ ?_)
 rintro _ _ ⟨g, rfl, rfl, hg⟩
 iterate 7 refine pV ?_
 refine tS ?_
 refine tS ?_
 refine tR fun _ _ _ => ?_
 refine pV ?_
 refine tC rfl (fun h2 => ?_) (fun h2 => ?_)
 ·try simp only [zbA] at h2
  cases h2 --done
 ·try simp only [zbA] at h2
  refine tK ?_
  refine tS ?_
  refine tS ?_
  refine tR fun _ _ _ => ?_
  refine sV (rLdS rfl rfl rfl) ?_
  refine pV ?_
  refine eV (eCallV rfl rfl rfl (law06_few p m A c mod Aa _ ca a rfl ha9) ⟨rfl, rfl, trivial⟩ ?_)
  rw [hfw]
  refine sV (rNotB rfl rfl) ?_
  refine tC rfl (fun h4 => ?_) (fun h4 => ?_)
  ·try simp only [zbA] at h4
   first | exact absurd trivial h4 | exact absurd rfl h4 | omega | (exact absurd h4 (by simp)) --done
  ·try simp only [zbA] at h4
   refine tK ?_
   refine tS ?_
   refine tR fun _ _ _ => ?_
   iterate 2 refine pV ?_
   refine eV (eCallV rfl rfl rfl (hir g hg) ⟨rfl, rfl, trivial⟩ ?_)
   iterate 5 refine pV ?_
   refine tS ?_
   refine tR fun _ _ _ => ?_
   refine sV (rLdS rfl rfl rfl) ?_
   refine pV ?_
   refine eV (eCallV rfl rfl rfl (ref_Right p m A c mod Aa _ ca a rfl ha9) ⟨rfl, rfl, trivial⟩ ?_)
   rw [he]
   refine pV ?_
   refine tS ?_
   refine tS ?_
   refine tR fun _ _ _ => ?_
   iterate 4 refine pV ?_
   refine stT rfl rfl rfl (by simp) rfl rfl (rMove rfl rfl) ?_
   refine efT rfl rfl rfl (by simp) (eCallV rfl rfl rfl (law06_alive g hg) ⟨rfl, trivial⟩ ?_)
   refine stT rfl rfl rfl (by simp) rfl rfl (rNotB rfl rfl) ?_
   refine sV (rPick0 rfl rfl (by simp) rfl) ?_
   refine tC rfl (fun h8 => ?_) (fun h8 => ?_)
   ·try simp only [zbA] at h8
    simp at h8 --done
   ·try simp only [zbA] at h8
    refine tK ?_
    refine tS ?_
    refine tS ?_
    refine tR fun _ _ _ => ?_
    iterate 2 refine pV ?_
    refine tC rfl (fun h10 => ?_) (fun h10 => ?_)
    ·try simp only [zbA] at h10
     simp at h10 --done
    ·try simp only [zbA] at h10
     refine tK ?_
     refine tS ?_
     refine tR fun _ _ _ => ?_
     iterate 2 refine pV ?_
     refine eV (eCall2 rfl rfl rfl (fac_CompleteL facSort facNone g hg Aa _ ca a rfl ha9 he) ⟨rfl, rfl, trivial⟩ ?_)
     rintro _ _ _ ⟨B12, c12, fs, rfl, rfl, rfl, hC, hR, hfl⟩
     iterate 7 refine pV ?_
     refine tS ?_
     have hiff := ir_one_iff h0 hC
     have hbv : irB (pol a : Po (El p m mod)) = decide (fs.length = 1 ∧ (fs.getD 0 facD).k = 1) := by
      rw [Bool.eq_iff_iff, irB_iff, decide_eq_true_iff]; exact hiff
     by_cases w1 : (fs.length : Int) = 1
     ·refine tR fun _ _ _ => ?_
      iterate 3 refine pV ?_
      refine stT rfl rfl rfl (by simp) rfl rfl (rMove rfl rfl) ?_
      refine stT rfl rfl rfl (by simp) rfl rfl (rLdS rfl rfl rfl) ?_
      refine stT rfl rfl rfl (by simp) rfl rfl (rMove rfl rfl) ?_
      refine efT rfl rfl rfl (by simp) (eCallV rfl rfl rfl (ref_Irreducible p m A c mod Aa _ ca a rfl ha9 hle.2) ⟨rfl, rfl, trivial⟩ ?_)
      refine stT rfl rfl rfl (by simp) rfl rfl (rBEql rfl rfl rfl) ?_
      refine sV (rPick1 rfl rfl (by simp) rfl) ?_
      refine pV ?_
      refine stT rfl rfl rfl (by simp) rfl rfl (rMove rfl rfl) ?_
      refine stT rfl rfl rfl (by simp) rfl rfl (rMove rfl rfl) ?_
      refine stT rfl rfl rfl (by simp) rfl rfl (rLenS rfl rfl) ?_
      refine stT rfl rfl rfl (by simp) rfl rfl (rEql rfl rfl rfl) ?_
      refine stT rfl rfl rfl (by simp) rfl rfl (rMove rfl rfl) ?_
      refine stT rfl rfl rfl (by first | exact decide_eq_true w1 | (rw [decide_eq_true w1]; rfl) | simp [w1]) rfl rfl (rMove rfl rfl) ?_
      refine stT rfl rfl rfl (by first | exact decide_eq_true w1 | (rw [decide_eq_true w1]; rfl) | simp [w1]) rfl rfl (rIdxT rfl rfl rfl (by omega) (by omega) (by simp; omega)) ?_
      refine stT rfl rfl rfl (by first | exact decide_eq_true w1 | (rw [decide_eq_true w1]; rfl) | simp [w1]) rfl rfl (rFld rfl rfl) ?_
      refine stT rfl rfl rfl (by first | exact decide_eq_true w1 | (rw [decide_eq_true w1]; rfl) | simp [w1]) rfl rfl (rLdG1 rfl rfl (by omega)) ?_
      refine stT rfl rfl rfl (by first | exact decide_eq_true w1 | (rw [decide_eq_true w1]; rfl) | simp [w1]) rfl rfl (rEql rfl rfl rfl) ?_
      refine stT rfl rfl rfl (by simp) rfl rfl (rPick1 rfl rfl (by first | exact decide_eq_true w1 | (rw [decide_eq_true w1]; rfl) | simp [w1]) rfl) ?_
      refine stT rfl rfl rfl (by simp) rfl rfl (rBEql rfl rfl rfl) ?_
      refine sV (rPick1 rfl rfl (by simp) rfl) ?_
      refine pV ?_
      first
       | exact tr_ret ⟨trivial, _, _, rfl, ⟨(by rw [hbv]; have w2 : fs.length = 1 := (by omega); simp [w2]), rfl⟩, CSub.nil _, trivial⟩
       | exact tr_ret ⟨trivial, _, _, rfl, ⟨(by rw [hbv]; have w2 : ¬ fs.length = 1 := (by omega); simp [w2]), rfl⟩, CSub.nil _, trivial⟩
     ·refine tR fun _ _ _ => ?_
      iterate 3 refine pV ?_
      refine stT rfl rfl rfl (by simp) rfl rfl (rMove rfl rfl) ?_
      refine stT rfl rfl rfl (by simp) rfl rfl (rLdS rfl rfl rfl) ?_
      refine stT rfl rfl rfl (by simp) rfl rfl (rMove rfl rfl) ?_
      refine efT rfl rfl rfl (by simp) (eCallV rfl rfl rfl (ref_Irreducible p m A c mod Aa _ ca a rfl ha9 hle.2) ⟨rfl, rfl, trivial⟩ ?_)
      refine stT rfl rfl rfl (by simp) rfl rfl (rBEql rfl rfl rfl) ?_
      refine sV (rPick1 rfl rfl (by simp) rfl) ?_
      refine pV ?_
      refine stT rfl rfl rfl (by simp) rfl rfl (rMove rfl rfl) ?_
      refine stT rfl rfl rfl (by simp) rfl rfl (rMove rfl rfl) ?_
      refine stT rfl rfl rfl (by simp) rfl rfl (rLenS rfl rfl) ?_
      refine stT rfl rfl rfl (by simp) rfl rfl (rEql rfl rfl rfl) ?_
      refine stT rfl rfl rfl (by simp) rfl rfl (rMove rfl rfl) ?_
      refine skF rfl rfl (by first | exact decide_eq_false w1 | (rw [decide_eq_false w1]; rfl) | simp [w1]) rfl rfl ?_
      refine skF rfl rfl (by first | exact decide_eq_false w1 | (rw [decide_eq_false w1]; rfl) | simp [w1]) rfl rfl ?_
      refine skF rfl rfl (by first | exact decide_eq_false w1 | (rw [decide_eq_false w1]; rfl) | simp [w1]) rfl rfl ?_
      refine skF rfl rfl (by first | exact decide_eq_false w1 | (rw [decide_eq_false w1]; rfl) | simp [w1]) rfl rfl ?_
      refine skF rfl rfl (by first | exact decide_eq_false w1 | (rw [decide_eq_false w1]; rfl) | simp [w1]) rfl rfl ?_
      refine stT rfl rfl rfl (by simp) rfl rfl (rPick0 rfl rfl (by first | exact decide_eq_false w1 | (rw [decide_eq_false w1]; rfl) | simp [w1]) rfl) ?_
      refine stT rfl rfl rfl (by simp) rfl rfl (rBEql rfl rfl rfl) ?_
      refine sV (rPick1 rfl rfl (by simp) rfl) ?_
      refine pV ?_
      first
       | exact tr_ret ⟨trivial, _, _, rfl, ⟨(by rw [hbv]; have w2 : fs.length = 1 := (by omega); simp [w2]), rfl⟩, CSub.nil _, trivial⟩
       | exact tr_ret ⟨trivial, _, _, rfl, ⟨(by rw [hbv]; have w2 : ¬ fs.length = 1 := (by omega); simp [w2]), rfl⟩, CSub.nil _, trivial⟩
theorem law_FactorTests (p m : Int) (A : Option Addr) (c : Nat) (mod : List Int) (hl9 : mod.length ≤ 17592186044415) (Aa : Option Addr) (ca : Nat) (a : List Int) (ha9 : a.length ≤ 17592186044415) : Pure Tryz.prog 6 #[.agg #[.int .i64 p, .int .i64 m, .slice A mod.length c], .slice Aa a.length ca] [ro A (ints mod), ro Aa (ints a)] (isV (.bool true)) := by
 by_cases hF0 : FldR p m mod
 ·haveI hF : IsF p m mod := ⟨hF0⟩
  cases hfw : fewB (Po.len (pol a : Po (El p m mod))) with
  | false => exact law_FactorTests_N p m A c mod hl9 Aa ca a ha9 hfw
  | true =>
   by_cases he : facE (Po.len (pol a : Po (El p m mod))) = 0
   ·have hle := facE_ok he
    refine law_FactorTests_G p m A c mod hl9 Aa ca a ha9 hfw he fun g hg => ?_
    by_cases h1 : Po.len (pol a : Po (El p m mod)) = 1
    ·have hno : irB (pol a : Po (El p m mod)) = false := irr_low (by omega)
     rw [hno]
     exact fac_Irr0 g hg Aa _ ca a rfl ha9 he h1
    ·exact fac_IrrX g hg Aa _ ca a rfl ha9 he (Po.len (pol a : Po (El p m mod)) - 1) (by omega) (by omega) (by omega)
   ·exact law_FactorTests_E p m A c mod hl9 Aa ca a ha9 hfw he
 ·exact law_FactorTests_no p m A c mod hl9 Aa ca a ha9 hF0
end Go.Proofs.YtbhoeaijpnjgdaaGreat

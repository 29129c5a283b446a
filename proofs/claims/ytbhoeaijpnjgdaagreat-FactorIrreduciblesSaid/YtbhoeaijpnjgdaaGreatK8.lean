/-
  FACTORIRREDUCIBLES, PART 8 OF 9. One sentence: the texts behind the law FactorIrreducibles, put together.
  Conditions: each theorem's own, written out in it.
-/
import Derived.Test.YtbhoeaijpnjgdaaGreatK7
set_option linter.unusedSimpArgs false
set_option linter.unusedVariables false
set_option linter.unusedSectionVars false
set_option maxRecDepth 100000
namespace Go.Proofs.YtbhoeaijpnjgdaaGreat
open Go.RowKit
theorem law_FactorIrreducibles_no_ent : Enters Tryz.prog 4 := enters_of Tryz.func4 (by kernel_rfl) (by kernel_rfl)
theorem law_FactorIrreducibles_no (p m : Int) (A : Option Addr) (c : Nat) (mod : List Int) (hl9 : mod.length ≤ 17592186044415) (Aa : Option Addr) (ca : Nat) (a : List Int) (ha9 : a.length ≤ 17592186044415) (hF : ¬ FldR p m mod) :
  Pure Tryz.prog 4 #[.agg #[.int .i64 p, .int .i64 m, .slice A mod.length c], .slice Aa a.length ca] [ro A (ints mod), ro Aa (ints a)] (isV (.bool true)) := by
 refine pure_of (args := [.agg #[.int .i64 p, .int .i64 m, .slice A mod.length c], .slice Aa a.length ca]) 100 Tryz.func4 rfl rfl rfl law_FactorIrreducibles_no_ent ⟨id, id, trivial⟩ (fun w0 => ?_)
 refine tS ?_
 refine tR fun _ _ _ => ?_
 refine eV (eBox rfl rfl rfl rfl rfl (fun p0 => ?_))
 refine pV ?_
 refine tS ?_
 refine tR fun _ _ _ => ?_
 refine sV (rLdS rfl rfl rfl) ?_
 refine eV (eCallV rfl rfl rfl (law_open_no _ _ _ _ _ (by omega) hF) ⟨rfl, trivial⟩ ?_)
 iterate 7 refine pV ?_
 refine tS ?_
 refine tS ?_
 refine tR fun _ _ _ => ?_
 refine pV ?_
 refine tC rfl (fun h2 => ?_) (fun h2 => ?_)
 ·try simp only [zbA] at h2
  refine tS ?_
  refine tR fun _ _ _ => ?_
  iterate 2 refine pV ?_
  exact tr_ret ⟨trivial, _, _, rfl, ⟨rfl, rfl⟩, CSub.nil _, trivial⟩
 ·try simp only [zbA] at h2
  cases h2 --done
theorem law_FactorIrreducibles_N_ent : Enters Tryz.prog 4 := enters_of Tryz.func4 (by kernel_rfl) (by kernel_rfl)
theorem law_FactorIrreducibles_N (p m : Int) (A : Option Addr) (c : Nat) (mod : List Int) [hF : IsF p m mod] (hl9 : mod.length ≤ 17592186044415) (Aa : Option Addr) (ca : Nat) (a : List Int) (ha9 : a.length ≤ 17592186044415) (hfw : fewB (Po.len (pol a : Po (El p m mod))) = false) :
  Pure Tryz.prog 4 #[.agg #[.int .i64 p, .int .i64 m, .slice A mod.length c], .slice Aa a.length ca] [ro A (ints mod), ro Aa (ints a)] (isV (.bool true)) := by
 refine pure_of (args := [.agg #[.int .i64 p, .int .i64 m, .slice A mod.length c], .slice Aa a.length ca]) 100 Tryz.func4 rfl rfl rfl law_FactorIrreducibles_N_ent ⟨id, id, trivial⟩ (fun w0 => ?_)
 refine tS ?_
 refine tR fun _ _ _ => ?_
 refine eV (eBox rfl rfl rfl rfl rfl (fun p0 => ?_))
 refine pV ?_
 refine tS ?_
 refine tR fun _ _ _ => ?_
 refine sV (rLdS rfl rfl rfl) ?_
 refine eV (eCall1 rfl rfl rfl (law_open_ok _ _ _ _ _ (by omega) hF.out) ⟨rfl, trivial⟩ ?_)
 rintro _ _ ⟨g, rfl, rfl, hg⟩
 iterate 7 refine pV ?_
 refine tS ?_
 refine tS ?_
 refine tR fun _ _ _ => ?_
 refine pV ?_
 refine tC rfl (fun h2 => ?_) (fun h2 => ?_)
 ·try simp only [zbA] at h2
  cases h2 --done
 ·try simp only [zbA] at h2
  refine tK ?_
  refine tS ?_
  refine tS ?_
  refine tR fun _ _ _ => ?_
  refine sV (rLdS rfl rfl rfl) ?_
  refine pV ?_
  refine eV (eCallV rfl rfl rfl (law06_few p m A c mod Aa _ ca a rfl ha9) ⟨rfl, rfl, trivial⟩ ?_)
  rw [hfw]
  refine sV (rNotB rfl rfl) ?_
  refine tC rfl (fun h4 => ?_) (fun h4 => ?_)
  ·try simp only [zbA] at h4
   refine tS ?_
   refine tR fun _ _ _ => ?_
   refine pV ?_
   refine eV (eCallV rfl rfl rfl (law06_alive g hg) ⟨rfl, trivial⟩ ?_)
   refine pV ?_
   exact tr_ret ⟨trivial, _, _, rfl, ⟨rfl, rfl⟩, CSub.nil _, trivial⟩
  ·try simp only [zbA] at h4
   first | exact absurd trivial h4 | exact absurd rfl h4 | omega | (exact absurd h4 (by simp)) --done
theorem law_FactorIrreducibles_E_ent : Enters Tryz.prog 4 := enters_of Tryz.func4 (by kernel_rfl) (by kernel_rfl)
theorem law_FactorIrreducibles_E (p m : Int) (A : Option Addr) (c : Nat) (mod : List Int) [hF : IsF p m mod] (hl9 : mod.length ≤ 17592186044415) (Aa : Option Addr) (ca : Nat) (a : List Int) (ha9 : a.length ≤ 17592186044415) (hfw : fewB (Po.len (pol a : Po (El p m mod))) = true) (he : facE (Po.len (pol a : Po (El p m mod))) ≠ 0) :
  Pure Tryz.prog 4 #[.agg #[.int .i64 p, .int .i64 m, .slice A mod.length c], .slice Aa a.length ca] [ro A (ints mod), ro Aa (ints a)] (isV (.bool true)) := by
 refine pure_of (args := [.agg #[.int .i64 p, .int .i64 m, .slice A mod.length c], .slice Aa a.length ca]) 100 Tryz.func4 rfl rfl rfl law_FactorIrreducibles_E_ent ⟨id, id, trivial⟩ (fun w0 => ?_)
 refine tS ?_
 refine tR fun _ _ _ => ?_
 refine eV (eBox rfl rfl rfl rfl rfl (fun p0 => ?_))
 refine pV ?_
 refine tS ?_
 refine tR fun _ _ _ => ?_
 refine sV (rLdS rfl rfl rfl) ?_
 refine eV (eCall1 rfl rfl rfl (law_open_ok _ _ _ _ _ (by omega) hF.out) ⟨rfl, trivial⟩ ?_)
 rintro _ _ ⟨g, rfl, rfl, hg⟩
 iterate 7 refine pV ?_
 refine tS ?_
 refine tS ?_
 refine tR fun _ _ _ => ?_
 refine pV ?_
 refine tC rfl (fun h2 => ?_) (fun h2 => ?_)
 ·try simp only [zbA] at h2
  cases h2 --done
 ·try simp only [zbA] at h2
  refine tK ?_
  refine tS ?_
  refine tS ?_
  refine tR fun _ _ _ => ?_
  refine sV (rLdS rfl rfl rfl) ?_
  refine pV ?_
  refine eV (eCallV rfl rfl rfl (law06_few p m A c mod Aa _ ca a rfl ha9) ⟨rfl, rfl, trivial⟩ ?_)
  rw [hfw]
  refine sV (rNotB rfl rfl) ?_
  refine tC rfl (fun h4 => ?_) (fun h4 => ?_)
  ·try simp only [zbA] at h4
   first | exact absurd trivial h4 | exact absurd rfl h4 | omega | (exact absurd h4 (by simp)) --done
  ·try simp only [zbA] at h4
   refine tK ?_
   refine tS ?_
   refine tS ?_
   refine tR fun _ _ _ => ?_
   refine pV ?_
   refine eV (eCallV rfl rfl rfl (law06_alive g hg) ⟨rfl, trivial⟩ ?_)
   refine sV (rNotB rfl rfl) ?_
   refine tC rfl (fun h6 => ?_) (fun h6 => ?_)
   ·try simp only [zbA] at h6
    first | exact absurd trivial h6 | exact absurd rfl h6 | omega | (exact absurd h6 (by simp)) --done
   ·try simp only [zbA] at h6
    refine tK ?_
    refine tS ?_
    refine tR fun _ _ _ => ?_
    iterate 2 refine pV ?_
    refine eV (eCallV rfl rfl rfl (fac_CompleteE g hg Aa _ ca a rfl ha9 he) ⟨rfl, rfl, trivial⟩ ?_)
    iterate 7 refine pV ?_
    refine tS ?_
    refine tS ?_
    refine tR fun _ _ _ => ?_
    refine pV ?_
    refine tB ?_
    refine tr_loop1 (fun (k : Int) => [(11, .int .i64 k), (9, .slice none 0 0), (2, .pointer (some p0))]) (fun (k : Int) => [gfN g, blk p0 24 [.int .i64 p, .int .i64 m, .slice A mod.length c], ro A (ints mod), ro Aa (ints a)]) (fun (k : Int) => k = 0) (fun (k : Int) => 0) (0) ⟨rfl, rfl, rfl, trivial⟩ (by first | exact cs _ _ | exact CSub.refl _) (rfl) (fun k hI => ?_)
    subst hI
    refine tS ?_
    refine tS ?_
    refine tR fun _ _ _ => ?_
    iterate 2 refine pV ?_
    refine sV (rLenS rfl rfl) ?_
    refine pV ?_
    refine tC rfl (fun h10 => ?_) (fun h10 => ?_)
    ·try simp only [zbA] at h10
     exact absurd h10 (by omega) --done
    ·try simp only [zbA] at h10
     refine tE ?_
     refine tS ?_
     refine tR fun _ _ _ => ?_
     refine pV ?_
     exact tr_ret ⟨trivial, _, _, rfl, ⟨rfl, rfl⟩, CSub.nil _, trivial⟩
theorem law_FactorIrreducibles_G_ent : Enters Tryz.prog 4 := enters_of Tryz.func4 (by kernel_rfl) (by kernel_rfl)
theorem law_FactorIrreducibles_G (p m : Int) (A : Option Addr) (c : Nat) (mod : List Int) [hF : IsF p m mod] (hl9 : mod.length ≤ 17592186044415) (Aa : Option Addr) (ca : Nat) (a : List Int) (ha9 : a.length ≤ 17592186044415) (hfw : fewB (Po.len (pol a : Po (El p m mod))) = true) (he : facE (Po.len (pol a : Po (El p m mod))) = 0) :
  Pure Tryz.prog 4 #[.agg #[.int .i64 p, .int .i64 m, .slice A mod.length c], .slice Aa a.length ca] [ro A (ints mod), ro Aa (ints a)] (isV (.bool true)) := by
 have hle := facE_ok he
 have h0 : (pol a : Po (El p m mod)) ≠ 0 := Po.len_pos_iff.1 (by omega)
 have hml := Po.mon_len (pol a : Po (El p m mod))
 have hm1 := Po.mon_lead h0
 have hil := il_length (pol a : Po (El p m mod))
 have hmil := il_length (Po.mon (pol a : Po (El p m mod)))
 have hord := hF.ord
 have hq2 := hF.q2
 refine pure_of (args := [.agg #[.int .i64 p, .int .i64 m, .slice A mod.length c], .slice Aa a.length ca]) 100 Tryz.func4 rfl rfl rfl law_FactorIrreducibles_G_ent ⟨id, id, trivial⟩ (fun w0 => ?_)
 refine tS ?_
 refine tR fun _ _ _ => ?_
 refine eV (eBox rfl rfl rfl rfl rfl (fun p0 => ?_))
 refine pV ?_
 refine tS ?_
 refine tR fun _ _ _ => ?_
 refine sV (rLdS rfl rfl rfl) ?_
 refine eV (eCall1 rfl rfl rfl (law_open_ok _ _ _ _ _ (by omega) hF.out) ⟨rfl, trivial⟩ ?_)
 rintro _ _ ⟨g, rfl, rfl, hg⟩
 iterate 7 refine pV ?_
 refine tS ?_
 refine tS ?_
 refine tR fun _ _ _ => ?_
 refine pV ?_
 refine tC rfl (fun h2 => ?_) (fun h2 => ?_)
 ·try simp only [zbA] at h2
  cases h2 --done
 ·try simp only [zbA] at h2
  refine tK ?_
  refine tS ?_
  refine tS ?_
  refine tR fun _ _ _ => ?_
  refine sV (rLdS rfl rfl rfl) ?_
  refine pV ?_
  refine eV (eCallV rfl rfl rfl (law06_few p m A c mod Aa _ ca a rfl ha9) ⟨rfl, rfl, trivial⟩ ?_)
  rw [hfw]
  refine sV (rNotB rfl rfl) ?_
  refine tC rfl (fun h4 => ?_) (fun h4 => ?_)
  ·try simp only [zbA] at h4
   first | exact absurd trivial h4 | exact absurd rfl h4 | omega | (exact absurd h4 (by simp)) --done
  ·try simp only [zbA] at h4
   refine tK ?_
   refine tS ?_
   refine tS ?_
   refine tR fun _ _ _ => ?_
   refine pV ?_
   refine eV (eCallV rfl rfl rfl (law06_alive g hg) ⟨rfl, trivial⟩ ?_)
   refine sV (rNotB rfl rfl) ?_
   refine tC rfl (fun h6 => ?_) (fun h6 => ?_)
   ·try simp only [zbA] at h6
    first | exact absurd trivial h6 | exact absurd rfl h6 | omega | (exact absurd h6 (by simp)) --done
   ·try simp only [zbA] at h6
    refine tK ?_
    refine tS ?_
    refine tR fun _ _ _ => ?_
    iterate 2 refine pV ?_
    refine eV (eCall2 rfl rfl rfl (fac_CompleteL facSort facNone g hg Aa _ ca a rfl ha9 he) ⟨rfl, rfl, trivial⟩ ?_)
    rintro _ _ _ ⟨B8, c8, fs, rfl, rfl, rfl, hC, hR, hfl⟩
    iterate 7 refine pV ?_
    have hcl := hC.le (lead1_ne hm1)
    have hfx : ∀ f ∈ fs, f.r.xs.length ≤ 17592186044415 ∧ f.k ≤ 9223372036854775807 ∧ -9223372036854775808 ≤ f.k := fun f hf => by
     have := hcl f hf
     omega
    have hnn : ∀ f ∈ fs, 0 ≤ f.k := fun f hf => by
     have := hcl f hf
     omega
    have hpr := hC.prod hm1
    have hsm : fcT p m mod fs fs.length ≤ 256 := by rw [hpr.2]; omega
    have hlt : ∀ i j, i < j → j < fs.length → cmpL (fs.getD i facD).r.xs (fs.getD j facD).r.xs < 0 := fun i j h1 h2 => by
     have h3 := List.pairwise_iff_getElem.1 hR i j (by omega) h2 h1
     rw [List.getD_eq_getElem?_getD, List.getElem?_eq_getElem (show i < fs.length by omega), List.getD_eq_getElem?_getD, List.getElem?_eq_getElem h2]
     exact h3
    refine tS ?_
    refine tS ?_
    refine tR fun _ _ _ => ?_
    refine pV ?_
    refine tB ?_
    refine tr_loop1 (fun (k : Int) => [(11, .int .i64 k), (2, .pointer (some p0)), (9, .slice B8 fs.length c8)]) (fun (k : Int) => [gfN g, blk p0 24 [.int .i64 p, .int .i64 m, .slice A mod.length c], ow2 B8 43 c8 (fcs fs), rowsCh 3 (rws fs), ro A (ints mod), ro Aa (ints a)]) (fun (k : Int) => 0 ≤ k ∧ k ≤ fs.length) (fun (k : Int) => ((fs.length : Int) - k).toNat) (0) ⟨rfl, rfl, rfl, trivial⟩ (by first | exact cs _ _ | exact CSub.refl _) (⟨by omega, by omega⟩) (fun k hI => ?_)
    obtain ⟨hk0, hk9⟩ := hI
    refine tS ?_
    refine tS ?_
    refine tR fun _ _ _ => ?_
    iterate 2 refine pV ?_
    refine sV (rLenS rfl rfl) ?_
    refine pV ?_
    refine tC rfl (fun h10 => ?_) (fun h10 => ?_)
    ·try simp only [zbA] at h10
     refine tK ?_
     refine tS ?_
     refine tB ?_
     refine tS ?_
     haveI : InB k.toNat fs.length := ⟨by omega⟩
     have hjl : k.toNat < fs.length := by omega
     have hfk := hcl _ (getD_mem hjl facD)
     obtain ⟨hi1, hi2, hi3, hi4, hi5, hi6⟩ := hC.fc (lead1_ne hm1) (getD_mem hjl facD)
     have hx4 : ((fs.getD k.toNat facD)).r.xs = il (pol (fs.getD k.toNat facD).r.xs : Po (El p m mod)) := hi4
     have hl2 : 2 ≤ Po.len (pol (fs.getD k.toNat facD).r.xs : Po (El p m mod)) := hi1.two
     have hil4 := il_length (pol (fs.getD k.toNat facD).r.xs : Po (El p m mod))
     have hx5 := congrArg List.length hx4
     refine tr_draw [0, 1, 2, 3, 4, 5, 6, 7] [] mixed (by kernel_rfl) fun _ _ _ => ?_
     refine sV (rLdS rfl rfl rfl) ?_
     iterate 2 refine pV ?_
     refine sV (rIdxT rfl rfl rfl (by omega) (by omega) (by simp; omega)) ?_
     refine sV (rFld rfl rfl) ?_
     refine sV (rLdG0 rfl rfl (by omega)) ?_
     refine eV (eCall1 rfl rfl rfl (ref_CanonE p m A c mod (fs.getD k.toNat facD).r.A _ (fs.getD k.toNat facD).r.cap (fs.getD k.toNat facD).r.xs rfl (by omega)) ⟨rfl, rfl, trivial⟩ ?_)
     rintro _ _ ⟨B12, c12, rfl, rfl⟩
     refine pV ?_
     refine tS ?_
     refine tS ?_
     have hk1 : decide (((il (pol (fs.getD k.toNat facD).r.xs : Po (El p m mod))).length : Int) < 2) = false := decide_eq_false (by omega)
     have hlv : (il (pol (fs.getD k.toNat facD).r.xs : Po (El p m mod))).getD (((il (pol (fs.getD k.toNat facD).r.xs : Po (El p m mod))).length : Int) - 1).toNat 0 = 1 := by
      rw [il_getD, hil4, show ((Po.len (pol (fs.getD k.toNat facD).r.xs : Po (El p m mod)) : Int) - 1).toNat = Po.len (pol (fs.getD k.toNat facD).r.xs : Po (El p m mod)) - 1 by omega]
      have h1 : Po.cf (pol (fs.getD k.toNat facD).r.xs : Po (El p m mod)) (Po.len (pol (fs.getD k.toNat facD).r.xs : Po (El p m mod)) - 1) = 1 := hi2
      rw [h1]
      exact (congrArg Subtype.val (el_one (p := p) (m := m) (mod := mod))).symm.trans (el_in ⟨by omega, by omega⟩)
     have hk2 : decide (¬ (il (pol (fs.getD k.toNat facD).r.xs : Po (El p m mod))).getD (((il (pol (fs.getD k.toNat facD).r.xs : Po (El p m mod))).length : Int) - 1).toNat 0 = 1) = false := decide_eq_false (by rw [hlv]; simp)
     have hk3 : decide ((fs.getD k.toNat facD).k < 1) = false := decide_eq_false (by omega)
     have hk4 : decide (il (pol (fs.getD k.toNat facD).r.xs : Po (El p m mod)) = (fs.getD k.toNat facD).r.xs) = true := decide_eq_true hx4.symm
     have hk5 : irB (pol (il (pol (fs.getD k.toNat facD).r.xs : Po (El p m mod))) : Po (El p m mod)) = true := by rw [pol_il]; exact irB_iff.2 hi1
     refine tR fun _ _ _ => ?_
     refine pV ?_
     refine sV (rLen rfl rfl) ?_
     iterate 2 refine pV ?_
     refine stT rfl rfl rfl (by first | exact hk1 | (rw [hk1]; rfl) | simp [hk1]) rfl rfl (rMove rfl rfl) ?_
     refine stT rfl rfl rfl (by first | exact hk1 | (rw [hk1]; rfl) | simp [hk1]) rfl rfl (rMove rfl rfl) ?_
     refine stT rfl rfl rfl (by first | exact hk1 | (rw [hk1]; rfl) | simp [hk1]) rfl rfl (rLen rfl rfl) ?_
     refine stT rfl rfl rfl (by first | exact hk1 | (rw [hk1]; rfl) | simp [hk1]) rfl rfl (rSub rfl rfl rfl (by omega) (by omega)) ?_
     refine stT rfl rfl rfl (by first | exact hk1 | (rw [hk1]; rfl) | simp [hk1]) rfl rfl (rIdxI rfl rfl rfl (by omega) (by omega) (by omega)) ?_
     refine stT rfl rfl rfl (by first | exact hk1 | (rw [hk1]; rfl) | simp [hk1]) rfl rfl (rLdI rfl rfl (by omega)) ?_
     refine stT rfl rfl rfl (by first | exact hk1 | (rw [hk1]; rfl) | simp [hk1]) rfl rfl (rNeq rfl rfl rfl) ?_
     refine sV (rPick0 rfl rfl (by first | exact hk1 | (rw [hk1]; rfl) | simp [hk1]) rfl) ?_
     refine pV ?_
     refine stT rfl rfl rfl (by first | exact hk2 | (rw [hk2]; rfl) | simp [hk2]) rfl rfl (rMove rfl rfl) ?_
     refine stT rfl rfl rfl (by first | exact hk2 | (rw [hk2]; rfl) | simp [hk2]) rfl rfl (rMove rfl rfl) ?_
     refine stT rfl rfl rfl (by first | exact hk2 | (rw [hk2]; rfl) | simp [hk2]) rfl rfl (rIdxT rfl rfl rfl (by omega) (by omega) (by simp; omega)) ?_
     refine stT rfl rfl rfl (by first | exact hk2 | (rw [hk2]; rfl) | simp [hk2]) rfl rfl (rFld rfl rfl) ?_
     refine stT rfl rfl rfl (by first | exact hk2 | (rw [hk2]; rfl) | simp [hk2]) rfl rfl (rLdG1 rfl rfl (by omega)) ?_
     refine stT rfl rfl rfl (by first | exact hk2 | (rw [hk2]; rfl) | simp [hk2]) rfl rfl (rLss rfl rfl rfl) ?_
     refine sV (rPick0 rfl rfl (by first | exact hk2 | (rw [hk2]; rfl) | simp [hk2]) rfl) ?_
     refine pV ?_
     refine stT rfl rfl rfl (by first | exact hk3 | (rw [hk3]; rfl) | simp [hk3]) rfl rfl (rMove rfl rfl) ?_
     refine stT rfl rfl rfl (by first | exact hk3 | (rw [hk3]; rfl) | simp [hk3]) rfl rfl (rMove rfl rfl) ?_
     refine stT rfl rfl rfl (by first | exact hk3 | (rw [hk3]; rfl) | simp [hk3]) rfl rfl (rMove rfl rfl) ?_
     refine stT rfl rfl rfl (by first | exact hk3 | (rw [hk3]; rfl) | simp [hk3]) rfl rfl (rIdxT rfl rfl rfl (by omega) (by omega) (by simp; omega)) ?_
     refine stT rfl rfl rfl (by first | exact hk3 | (rw [hk3]; rfl) | simp [hk3]) rfl rfl (rFld rfl rfl) ?_
     refine stT rfl rfl rfl (by first | exact hk3 | (rw [hk3]; rfl) | simp [hk3]) rfl rfl (rLdG0 rfl rfl (by omega)) ?_
     refine efT rfl rfl rfl (by first | exact hk3 | (rw [hk3]; rfl) | simp [hk3]) (eCallV rfl rfl rfl (ref_SameInts6 B12 _ c12 (il (pol (fs.getD k.toNat facD).r.xs : Po (El p m mod))) rfl (fs.getD k.toNat facD).r.A _ (fs.getD k.toNat facD).r.cap (fs.getD k.toNat facD).r.xs rfl (by omega)) ⟨rfl, rfl, trivial⟩ ?_)
     refine stT rfl rfl rfl (by first | exact hk3 | (rw [hk3]; rfl) | simp [hk3]) rfl rfl (rNotB rfl rfl) ?_
     refine sV (rPick0 rfl rfl (by first | exact hk3 | (rw [hk3]; rfl) | simp [hk3]) rfl) ?_
     refine pV ?_
     refine stT rfl rfl rfl (by first | exact hk4 | (rw [hk4]; rfl) | simp [hk4]) rfl rfl (rLdS rfl rfl rfl) ?_
     refine stT rfl rfl rfl (by first | exact hk4 | (rw [hk4]; rfl) | simp [hk4]) rfl rfl (rMove rfl rfl) ?_
     refine efT rfl rfl rfl (by first | exact hk4 | (rw [hk4]; rfl) | simp [hk4]) (eCallV rfl rfl rfl (ref_Irreducible p m A c mod B12 _ c12 (il (pol (fs.getD k.toNat facD).r.xs : Po (El p m mod))) rfl (by omega) (by rw [pol_il]; omega)) ⟨rfl, rfl, trivial⟩ ?_)
     refine stT rfl rfl rfl (by first | exact hk4 | (rw [hk4]; rfl) | simp [hk4]) rfl rfl (rNotB rfl rfl) ?_
     refine sV (rPick0 rfl rfl (by first | exact hk4 | (rw [hk4]; rfl) | simp [hk4]) rfl) ?_
     refine tC rfl (fun h13 => ?_) (fun h13 => ?_)
     ·try simp only [zbA] at h13
      (simp only [hk5] at h13; simp at h13) --done
     ·try simp only [zbA] at h13
      refine tK ?_
      refine tS ?_
      haveI : InB (k - 1).toNat fs.length := ⟨by omega⟩
      have hfy := hcl _ (getD_mem (show (k - 1).toNat < fs.length by omega) facD)
      have hky : 0 < k → cmpL (canL (ordI p m) (fs.getD (k - 1).toNat facD).r.xs) (canL (ordI p m) (il (pol (fs.getD k.toNat facD).r.xs : Po (El p m mod)))) < 0 := fun h => by
       obtain ⟨_, _, _, y4, _, _⟩ := hC.fc (lead1_ne hm1) (getD_mem (show (k - 1).toNat < fs.length by omega) facD)
       have h1 := hlt (k - 1).toNat k.toNat (by omega) hjl
       rw [y4, hx4] at h1
       rw [y4, hord, canL_il rfl, canL_il rfl]; exact h1
      by_cases hs : 0 < k
      ·refine tr_draw [0, 1, 2, 3, 4, 5, 6, 7, 8, 9, 10, 11, 12, 13] [] mixed (by kernel_rfl) fun _ _ _ => ?_
       iterate 3 refine pV ?_
       refine stT rfl rfl rfl (by first | exact decide_eq_true hs | (rw [decide_eq_true hs]; rfl)) rfl rfl (rLdS rfl rfl rfl) ?_
       refine stT rfl rfl rfl (by first | exact decide_eq_true hs | (rw [decide_eq_true hs]; rfl)) rfl rfl (rMove rfl rfl) ?_
       refine stT rfl rfl rfl (by first | exact decide_eq_true hs | (rw [decide_eq_true hs]; rfl)) rfl rfl (rMove rfl rfl) ?_
       refine stT rfl rfl rfl (by first | exact decide_eq_true hs | (rw [decide_eq_true hs]; rfl)) rfl rfl (rSub rfl rfl rfl (by omega) (by omega)) ?_
       refine stT rfl rfl rfl (by first | exact decide_eq_true hs | (rw [decide_eq_true hs]; rfl)) rfl rfl (rIdxT rfl rfl rfl (by omega) (by omega) (by simp; omega)) ?_
       refine stT rfl rfl rfl (by first | exact decide_eq_true hs | (rw [decide_eq_true hs]; rfl)) rfl rfl (rFld rfl rfl) ?_
       refine stT rfl rfl rfl (by first | exact decide_eq_true hs | (rw [decide_eq_true hs]; rfl)) rfl rfl (rLdG0 rfl rfl (by omega)) ?_
       refine stT rfl rfl rfl (by first | exact decide_eq_true hs | (rw [decide_eq_true hs]; rfl)) rfl rfl (rMove rfl rfl) ?_
       refine efT rfl rfl rfl (by first | exact decide_eq_true hs | (rw [decide_eq_true hs]; rfl)) (eCallV rfl rfl rfl (ref_Compare p m A c mod (fs.getD (k - 1).toNat facD).r.A _ (fs.getD (k - 1).toNat facD).r.cap (fs.getD (k - 1).toNat facD).r.xs rfl (by omega) B12 _ c12 (il (pol (fs.getD k.toNat facD).r.xs : Po (El p m mod))) rfl (by omega)) ⟨rfl, rfl, rfl, trivial⟩ ?_)
       refine stT rfl rfl rfl (by first | exact decide_eq_true hs | (rw [decide_eq_true hs]; rfl)) rfl rfl (rGeq rfl rfl rfl) ?_
       refine sV (rPick1 rfl rfl (by first | exact decide_eq_true hs | (rw [decide_eq_true hs]; rfl)) rfl) ?_
       refine tC rfl (fun h15 => ?_) (fun h15 => ?_)
       ·try simp only [zbA] at h15
        first | (exfalso; have hkz := hky hs; simp at h15; omega) | (exfalso; simp at h15; done) | (exfalso; omega) --done
       ·try simp only [zbA] at h15
        refine tK ?_
        refine tR fun _ _ _ => ?_
        refine pV ?_
        refine sV (rAdd rfl rfl rfl (by omega) (by omega)) ?_
        refine pV ?_
        refine ⟨k + 1, ⟨rfl, rfl, rfl, trivial⟩, by first | exact cs _ _ | exact CSub.refl _, ?_⟩
        exact ⟨⟨by omega, by omega⟩, by omega⟩
      ·refine tr_draw [0, 1, 2, 3, 4, 5, 6, 7, 8, 9, 10, 11, 12, 13] [] mixed (by kernel_rfl) fun _ _ _ => ?_
       iterate 3 refine pV ?_
       refine skF rfl rfl (by first | exact decide_eq_false hs | (rw [decide_eq_false hs]; rfl)) rfl rfl ?_
       refine skF rfl rfl (by first | exact decide_eq_false hs | (rw [decide_eq_false hs]; rfl)) rfl rfl ?_
       refine skF rfl rfl (by first | exact decide_eq_false hs | (rw [decide_eq_false hs]; rfl)) rfl rfl ?_
       refine skF rfl rfl (by first | exact decide_eq_false hs | (rw [decide_eq_false hs]; rfl)) rfl rfl ?_
       refine skF rfl rfl (by first | exact decide_eq_false hs | (rw [decide_eq_false hs]; rfl)) rfl rfl ?_
       refine skF rfl rfl (by first | exact decide_eq_false hs | (rw [decide_eq_false hs]; rfl)) rfl rfl ?_
       refine skF rfl rfl (by first | exact decide_eq_false hs | (rw [decide_eq_false hs]; rfl)) rfl rfl ?_
       refine skF rfl rfl (by first | exact decide_eq_false hs | (rw [decide_eq_false hs]; rfl)) rfl rfl ?_
       refine skF rfl rfl (by first | exact decide_eq_false hs | (rw [decide_eq_false hs]; rfl)) rfl rfl ?_
       refine skF rfl rfl (by first | exact decide_eq_false hs | (rw [decide_eq_false hs]; rfl)) rfl rfl ?_
       refine sV (rPick0 rfl rfl (by first | exact decide_eq_false hs | (rw [decide_eq_false hs]; rfl)) rfl) ?_
       refine tC rfl (fun h15 => ?_) (fun h15 => ?_)
       ·try simp only [zbA] at h15
        first | (exfalso; have hkz := hky hs; simp at h15; omega) | (exfalso; simp at h15; done) | (exfalso; omega) --done
       ·try simp only [zbA] at h15
        refine tK ?_
        refine tR fun _ _ _ => ?_
        refine pV ?_
        refine sV (rAdd rfl rfl rfl (by omega) (by omega)) ?_
        refine pV ?_
        refine ⟨k + 1, ⟨rfl, rfl, rfl, trivial⟩, by first | exact cs _ _ | exact CSub.refl _, ?_⟩
        exact ⟨⟨by omega, by omega⟩, by omega⟩
    ·try simp only [zbA] at h10
     refine tE ?_
     refine tS ?_
     refine tR fun _ _ _ => ?_
     refine pV ?_
     exact tr_ret ⟨trivial, _, _, rfl, ⟨rfl, rfl⟩, CSub.nil _, trivial⟩
theorem law_FactorIrreducibles (p m : Int) (A : Option Addr) (c : Nat) (mod : List Int) (hl9 : mod.length ≤ 17592186044415) (Aa : Option Addr) (ca : Nat) (a : List Int) (ha9 : a.length ≤ 17592186044415) : Pure Tryz.prog 4 #[.agg #[.int .i64 p, .int .i64 m, .slice A mod.length c], .slice Aa a.length ca] [ro A (ints mod), ro Aa (ints a)] (isV (.bool true)) := by
 by_cases hF0 : FldR p m mod
 ·haveI hF : IsF p m mod := ⟨hF0⟩
  cases hfw : fewB (Po.len (pol a : Po (El p m mod))) with
  | false => exact law_FactorIrreducibles_N p m A c mod hl9 Aa ca a ha9 hfw
  | true =>
   by_cases he : facE (Po.len (pol a : Po (El p m mod))) = 0
   ·exact law_FactorIrreducibles_G p m A c mod hl9 Aa ca a ha9 hfw he
   ·exact law_FactorIrreducibles_E p m A c mod hl9 Aa ca a ha9 hfw he
 ·exact law_FactorIrreducibles_no p m A c mod hl9 Aa ca a ha9 hF0
end Go.Proofs.YtbhoeaijpnjgdaaGreat

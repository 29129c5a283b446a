/-
  FACTORSQUAREFREE, PART 7 OF 8. One sentence: the texts behind the law FactorSquarefree, put together.
  Conditions: each theorem's own, written out in it.
-/
import Derived.Test.YtbhoeaijpnjgdaaK6
set_option linter.unusedSimpArgs false
set_option linter.unusedVariables false
set_option linter.unusedSectionVars false
set_option maxRecDepth 100000
namespace Go.Proofs.Ytbhoeaijpnjgdaa
open Go.RowKit
theorem law_FactorSquarefree_no_ent : Enters Try.prog 7 := enters_of Try.func7 (by kernel_rfl) (by kernel_rfl)
theorem law_FactorSquarefree_no (p m : Int) (A : Option Addr) (c : Nat) (mod : List Int) (hl9 : mod.length ≤ 17592186044415) (Aa : Option Addr) (ca : Nat) (a : List Int) (ha9 : a.length ≤ 17592186044415) (hF : ¬ FldR p m mod) :
  Pure Try.prog 7 #[.agg #[.int .i64 p, .int .i64 m, .slice A mod.length c], .slice Aa a.length ca] [ro A (ints mod), ro Aa (ints a)] (isV (.bool true)) := by
 refine pure_of (args := [.agg #[.int .i64 p, .int .i64 m, .slice A mod.length c], .slice Aa a.length ca]) 130 Try.func7 rfl rfl rfl law_FactorSquarefree_no_ent ⟨id, id, trivial⟩ (fun w0 => ?_)
 refine tS ?_
 refine tR fun _ _ _ => ?_
 refine eV (eBox rfl rfl rfl rfl rfl (fun p0 => ?_))
 refine pV ?_
 refine tS ?_
 refine tR fun _ _ _ => ?_
 refine sV (rLdS rfl rfl rfl) ?_
 refine eV (eCallV rfl rfl rfl (law_open_no _ _ _ _ _ (by omega) hF) ⟨rfl, trivial⟩ ?_)
 iterate 7 refine pV ?_
 refine tS ?_
 refine tS ?_
 refine tR fun _ _ _ => ?_
 refine pV ?_
 refine tC rfl (fun h2 => ?_) (fun h2 => ?_)
 ·try simp only [zbA] at h2
  refine tS ?_
  refine tR fun _ _ _ => ?_
  iterate 2 refine pV ?_
  exact tr_ret ⟨trivial, _, _, rfl, ⟨rfl, rfl⟩, CSub.nil _, trivial⟩
 ·try simp only [zbA] at h2
  cases h2 --done
theorem law_FactorSquarefree_N_ent : Enters Try.prog 7 := enters_of Try.func7 (by kernel_rfl) (by kernel_rfl)
theorem law_FactorSquarefree_N (p m : Int) (A : Option Addr) (c : Nat) (mod : List Int) [hF : IsF p m mod] (hl9 : mod.length ≤ 17592186044415) (Aa : Option Addr) (ca : Nat) (a : List Int) (ha9 : a.length ≤ 17592186044415) (hfw : fewB (Po.len (pol a : Po (El p m mod))) = false) :
  Pure Try.prog 7 #[.agg #[.int .i64 p, .int .i64 m, .slice A mod.length c], .slice Aa a.length ca] [ro A (ints mod), ro Aa (ints a)] (isV (.bool true)) := by
 refine pure_of (args := [.agg #[.int .i64 p, .int .i64 m, .slice A mod.length c], .slice Aa a.length ca]) 130 Try.func7 rfl rfl rfl law_FactorSquarefree_N_ent ⟨id, id, trivial⟩ (fun w0 => ?_)
 refine tS ?_
 refine tR fun _ _ _ => ?_
 refine eV (eBox rfl rfl rfl rfl rfl (fun p0 => ?_))
 refine pV ?_
 refine tS ?_
 refine tR fun _ _ _ => ?_
 refine sV (rLdS rfl rfl rfl) ?_
 refine eV (eCall1 rfl rfl rfl (law_open_ok _ _ _ _ _ (by omega) hF.out) ⟨rfl, trivial⟩ ?_)
 rintro _ _ ⟨g, rfl, rfl, hg⟩
 iterate 7 refine pV ?_
 refine tS ?_
 refine tS ?_
 refine tR fun _ _ _ => ?_
 refine pV ?_
 refine tC rfl (fun h2 => ?_) (fun h2 => ?_)
 ·try simp only [zbA] at h2
  cases h2 --done
 ·try simp only [zbA] at h2
  refine tK ?_
  refine tS ?_
  refine tS ?_
  refine tR fun _ _ _ => ?_
  refine sV (rLdS rfl rfl rfl) ?_
  refine pV ?_
  refine eV (eCallV rfl rfl rfl (law06_few p m A c mod Aa _ ca a rfl ha9) ⟨rfl, rfl, trivial⟩ ?_)
  rw [hfw]
  refine sV (rNotB rfl rfl) ?_
  refine tC rfl (fun h4 => ?_) (fun h4 => ?_)
  ·try simp only [zbA] at h4
   refine tS ?_
   refine tR fun _ _ _ => ?_
   refine pV ?_
   refine eV (eCallV rfl rfl rfl (law06_alive g hg) ⟨rfl, trivial⟩ ?_)
   refine pV ?_
   exact tr_ret ⟨trivial, _, _, rfl, ⟨rfl, rfl⟩, CSub.nil _, trivial⟩
  ·try simp only [zbA] at h4
   first | exact absurd trivial h4 | exact absurd rfl h4 | omega | (exact absurd h4 (by simp)) --done
theorem law_FactorSquarefree_E_ent : Enters Try.prog 7 := enters_of Try.func7 (by kernel_rfl) (by kernel_rfl)
theorem law_FactorSquarefree_E (p m : Int) (A : Option Addr) (c : Nat) (mod : List Int) [hF : IsF p m mod] (hl9 : mod.length ≤ 17592186044415) (Aa : Option Addr) (ca : Nat) (a : List Int) (ha9 : a.length ≤ 17592186044415) (hfw : fewB (Po.len (pol a : Po (El p m mod))) = true) (he : facE (Po.len (pol a : Po (El p m mod))) ≠ 0) :
  Pure Try.prog 7 #[.agg #[.int .i64 p, .int .i64 m, .slice A mod.length c], .slice Aa a.length ca] [ro A (ints mod), ro Aa (ints a)] (isV (.bool true)) := by
 refine pure_of (args := [.agg #[.int .i64 p, .int .i64 m, .slice A mod.length c], .slice Aa a.length ca]) 130 Try.func7 rfl rfl rfl law_FactorSquarefree_E_ent ⟨id, id, trivial⟩ (fun w0 => ?_)
 refine tS ?_
 refine tR fun _ _ _ => ?_
 refine eV (eBox rfl rfl rfl rfl rfl (fun p0 => ?_))
 refine pV ?_
 refine tS ?_
 refine tR fun _ _ _ => ?_
 refine sV (rLdS rfl rfl rfl) ?_
 refine eV (eCall1 rfl rfl rfl (law_open_ok _ _ _ _ _ (by omega) hF.out) ⟨rfl, trivial⟩ ?_)
 rintro _ _ ⟨g, rfl, rfl, hg⟩
 iterate 7 refine pV ?_
 refine tS ?_
 refine tS ?_
 refine tR fun _ _ _ => ?_
 refine pV ?_
 refine tC rfl (fun h2 => ?_) (fun h2 => ?_)
 ·try simp only [zbA] at h2
  cases h2 --done
 ·try simp only [zbA] at h2
  refine tK ?_
  refine tS ?_
  refine tS ?_
  refine tR fun _ _ _ => ?_
  refine sV (rLdS rfl rfl rfl) ?_
  refine pV ?_
  refine eV (eCallV rfl rfl rfl (law06_few p m A c mod Aa _ ca a rfl ha9) ⟨rfl, rfl, trivial⟩ ?_)
  rw [hfw]
  refine sV (rNotB rfl rfl) ?_
  refine tC rfl (fun h4 => ?_) (fun h4 => ?_)
  ·try simp only [zbA] at h4
   first | exact absurd trivial h4 | exact absurd rfl h4 | omega | (exact absurd h4 (by simp)) --done
  ·try simp only [zbA] at h4
   refine tK ?_
   refine tS ?_
   refine tS ?_
   refine tR fun _ _ _ => ?_
   refine pV ?_
   refine eV (eCallV rfl rfl rfl (law06_alive g hg) ⟨rfl, trivial⟩ ?_)
   refine sV (rNotB rfl rfl) ?_
   refine tC rfl (fun h6 => ?_) (fun h6 => ?_)
   ·try simp only [zbA] at h6
    first | exact absurd trivial h6 | exact absurd rfl h6 | omega | (exact absurd h6 (by simp)) --done
   ·try simp only [zbA] at h6
    refine tK ?_
    refine tS ?_
    refine tR fun _ _ _ => ?_
    iterate 2 refine pV ?_
    refine eV (eCallV rfl rfl rfl (fac_SquarefreeE g hg Aa _ ca a rfl ha9 he) ⟨rfl, rfl, trivial⟩ ?_)
    iterate 5 refine pV ?_
    refine tS ?_
    refine tS ?_
    refine tR fun _ _ _ => ?_
    refine sV (rLdS rfl rfl rfl) ?_
    refine pV ?_
    refine eV (eCallV rfl rfl rfl (ref_Right p m A c mod Aa _ ca a rfl ha9) ⟨rfl, rfl, trivial⟩ ?_)
    refine pV ?_
    refine tC rfl (fun h9 => ?_) (fun h9 => ?_)
    ·try simp only [zbA] at h9
     refine tS ?_
     refine tR fun _ _ _ => ?_
     iterate 3 refine pV ?_
     exact tr_ret ⟨trivial, _, _, rfl, ⟨by simp [he], rfl⟩, CSub.nil _, trivial⟩
    ·try simp only [zbA] at h9
     omega --done
theorem law_FactorSquarefree_G_ent : Enters Try.prog 7 := enters_of Try.func7 (by kernel_rfl) (by kernel_rfl)
theorem law_FactorSquarefree_G (p m : Int) (A : Option Addr) (c : Nat) (mod : List Int) [hF : IsF p m mod] (hl9 : mod.length ≤ 17592186044415) (Aa : Option Addr) (ca : Nat) (a : List Int) (ha9 : a.length ≤ 17592186044415) (hfw : fewB (Po.len (pol a : Po (El p m mod))) = true) (he : facE (Po.len (pol a : Po (El p m mod))) = 0) (h25 : Po.len (pol a : Po (El p m mod)) ≤ 25) :
  Pure Try.prog 7 #[.agg #[.int .i64 p, .int .i64 m, .slice A mod.length c], .slice Aa a.length ca] [ro A (ints mod), ro Aa (ints a)] (isV (.bool true)) := by
 have hle := facE_ok he
 have h0 : (pol a : Po (El p m mod)) ≠ 0 := Po.len_pos_iff.1 (by omega)
 have hml := Po.mon_len (pol a : Po (El p m mod))
 have hm1 := Po.mon_lead h0
 have hil := il_length (pol a : Po (El p m mod))
 have hmil := il_length (Po.mon (pol a : Po (El p m mod)))
 refine pure_of (args := [.agg #[.int .i64 p, .int .i64 m, .slice A mod.length c], .slice Aa a.length ca]) 130 Try.func7 rfl rfl rfl law_FactorSquarefree_G_ent ⟨id, id, trivial⟩ (fun w0 => ?_)
 refine tS ?_
 refine tR fun _ _ _ => ?_
 refine eV (eBox rfl rfl rfl rfl rfl (fun p0 => ?_))
 refine pV ?_
 refine tS ?_
 refine tR fun _ _ _ => ?_
 refine sV (rLdS rfl rfl rfl) ?_
 refine eV (eCall1 rfl rfl rfl (law_open_ok _ _ _ _ _ (by omega) hF.out) ⟨rfl, trivial⟩ ?_)
 rintro _ _ ⟨g, rfl, rfl, hg⟩
 iterate 7 refine pV ?_
 refine tS ?_
 refine tS ?_
 refine tR fun _ _ _ => ?_
 refine pV ?_
 refine tC rfl (fun h2 => ?_) (fun h2 => ?_)
 ·try simp only [zbA] at h2
  cases h2 --done
 ·try simp only [zbA] at h2
  refine tK ?_
  refine tS ?_
  refine tS ?_
  refine tR fun _ _ _ => ?_
  refine sV (rLdS rfl rfl rfl) ?_
  refine pV ?_
  refine eV (eCallV rfl rfl rfl (law06_few p m A c mod Aa _ ca a rfl ha9) ⟨rfl, rfl, trivial⟩ ?_)
  rw [hfw]
  refine sV (rNotB rfl rfl) ?_
  refine tC rfl (fun h4 => ?_) (fun h4 => ?_)
  ·try simp only [zbA] at h4
   first | exact absurd trivial h4 | exact absurd rfl h4 | omega | (exact absurd h4 (by simp)) --done
  ·try simp only [zbA] at h4
   refine tK ?_
   refine tS ?_
   refine tS ?_
   refine tR fun _ _ _ => ?_
   refine pV ?_
   refine eV (eCallV rfl rfl rfl (law06_alive g hg) ⟨rfl, trivial⟩ ?_)
   refine sV (rNotB rfl rfl) ?_
   refine tC rfl (fun h6 => ?_) (fun h6 => ?_)
   ·try simp only [zbA] at h6
    first | exact absurd trivial h6 | exact absurd rfl h6 | omega | (exact absurd h6 (by simp)) --done
   ·try simp only [zbA] at h6
    refine tK ?_
    refine tS ?_
    refine tR fun _ _ _ => ?_
    iterate 2 refine pV ?_
    refine eV (eCall2 rfl rfl rfl (fac_SquarefreeL facSort facNone g hg Aa _ ca a rfl ha9 he) ⟨rfl, rfl, trivial⟩ ?_)
    rintro _ _ _ ⟨B8, c8, fs, rfl, rfl, rfl, hI, hsr, hfl⟩
    iterate 5 refine pV ?_
    have hfc := hI.fc
    have hpr := hI.prod hm1
    have hbd := hI.bd (lead1_ne hm1) (Nat.le_refl 1)
    have hxl : ∀ f ∈ fs, f.r.xs.length ≤ 25 := fun f hf => by
     have := (hI.le hm1 f hf).2
     omega
    have hlt : ∀ i j, i < j → j < fs.length → (fs.getD i facD).k < (fs.getD j facD).k := fun i j h1 h2 => by
     have h3 := List.pairwise_iff_getElem.1 hsr i j (by omega) h2 h1
     rw [List.getD_eq_getElem?_getD, List.getElem?_eq_getElem (show i < fs.length by omega), List.getD_eq_getElem?_getD, List.getElem?_eq_getElem h2]
     exact h3
    have hfx : ∀ f ∈ fs, f.r.xs.length ≤ 17592186044415 ∧ f.k ≤ 9223372036854775807 ∧ -9223372036854775808 ≤ f.k := fun f hf => by
     have h1 := hxl f hf
     have h2 := hbd f hf
     omega
    refine tS ?_
    refine tS ?_
    refine tR fun _ _ _ => ?_
    refine sV (rLdS rfl rfl rfl) ?_
    refine pV ?_
    refine eV (eCallV rfl rfl rfl (ref_Right p m A c mod Aa _ ca a rfl ha9) ⟨rfl, rfl, trivial⟩ ?_)
    rw [he]
    refine pV ?_
    refine tC rfl (fun h9 => ?_) (fun h9 => ?_)
    ·try simp only [zbA] at h9
     first | exact absurd trivial h9 | exact absurd rfl h9 | omega | (exact absurd h9 (by simp)) --done
    ·try simp only [zbA] at h9
     refine tK ?_
     refine tS ?_
     refine tR fun _ _ _ => ?_
     refine sV (rLdS rfl rfl rfl) ?_
     refine pV ?_
     refine eV (eCall1 rfl rfl rfl (ref_Product p m A c mod 1 B8 _ c8 fs rfl (by omega) hfx (fun f hf => (hfc f hf).2.1) (by omega)) ⟨rfl, rfl, rfl, trivial⟩ ?_)
     rintro _ _ ⟨B11, c11, rfl, rfl⟩
     iterate 5 refine pV ?_
     rw [hpr.1]
     refine tS ?_
     refine tS ?_
     refine tR fun _ _ _ => ?_
     iterate 3 refine pV ?_
     refine stT rfl rfl rfl (by simp) rfl rfl (rMove rfl rfl) ?_
     refine stT rfl rfl rfl (by simp) rfl rfl (rNeq rfl rfl rfl) ?_
     refine sV (rPick0 rfl rfl (by simp) rfl) ?_
     refine pV ?_
     refine stT rfl rfl rfl (by simp) rfl rfl (rMove rfl rfl) ?_
     refine stT rfl rfl rfl (by simp) rfl rfl (rLdS rfl rfl rfl) ?_
     refine stT rfl rfl rfl (by simp) rfl rfl (rMove rfl rfl) ?_
     refine efT rfl rfl rfl (by simp) (eCall1 rfl rfl rfl (ref_PMonicL p m A c mod Aa _ ca a rfl ha9 (by omega)) ⟨rfl, rfl, trivial⟩ ?_)
     rintro _ _ ⟨B12, c12, rfl, rfl⟩
     refine efT rfl rfl rfl (by simp) (eCallV rfl rfl rfl (ref_SameInts6 B11 _ c11 (il (Po.mon (pol a : Po (El p m mod)))) rfl B12 _ c12 (il (Po.mon (pol a : Po (El p m mod)))) rfl (by omega)) ⟨rfl, rfl, trivial⟩ ?_)
     refine stT rfl rfl rfl (by simp) rfl rfl (rNotB rfl rfl) ?_
     refine sV (rPick0 rfl rfl (by simp) rfl) ?_
     refine tC rfl (fun h12 => ?_) (fun h12 => ?_)
     ·try simp only [zbA] at h12
      simp at h12 --done
     ·try simp only [zbA] at h12
      refine tK ?_
      refine tS ?_
      refine tS ?_
      refine tR fun _ _ _ => ?_
      refine pV ?_
      refine tB ?_
      refine tr_loop1 (fun (k : Int) => [(12, .int .i64 k), (2, .pointer (some p0)), (8, .slice B8 fs.length c8)]) (fun (k : Int) => [gfN g, blk p0 24 [.int .i64 p, .int .i64 m, .slice A mod.length c], ow2 B8 64 c8 (fcs fs), rowsCh 3 (rws fs), ro A (ints mod), ro Aa (ints a)]) (fun (k : Int) => 0 ≤ k ∧ k ≤ fs.length) (fun (k : Int) => ((fs.length : Int) - k).toNat) (0) ⟨rfl, rfl, rfl, trivial⟩ (by first | exact cs _ _ | exact CSub.refl _) (⟨by omega, by omega⟩) (fun k hI => ?_)
      obtain ⟨hk0, hk1⟩ := hI
      refine tS ?_
      refine tS ?_
      refine tR fun _ _ _ => ?_
      iterate 2 refine pV ?_
      refine sV (rLenS rfl rfl) ?_
      refine pV ?_
      refine tC rfl (fun h15 => ?_) (fun h15 => ?_)
      ·try simp only [zbA] at h15
       refine tK ?_
       refine tS ?_
       refine tB ?_
       refine tS ?_
       have hjl : k.toNat < fs.length := by omega
       have hfk := hxl _ (getD_mem hjl facD)
       refine tR fun _ _ _ => ?_
       iterate 2 refine pV ?_
       refine sV (rIdxT rfl rfl rfl (by omega) (by omega) (by simp; omega)) ?_
       refine sV (rFld rfl rfl) ?_
       refine sV (rLdG0 rfl rfl (by omega)) ?_
       refine pV ?_
       refine tS ?_
       refine tS ?_
       haveI : InB k.toNat fs.length := ⟨hjl⟩
       obtain ⟨q1, q2, q3, q4, q5, q6, q7⟩ := hfc _ (getD_mem hjl facD)
       have hqx : 2 ≤ Po.len (pol (fs.getD k.toNat facD).r.xs : Po (El p m mod)) := q3
       have hq1 : ¬ ((Po.len (pol (fs.getD k.toNat facD).r.xs : Po (El p m mod)) : Int) - 1 < 1) := by omega
       have hdl := len_dP (pol (fs.getD k.toNat facD).r.xs : Po (El p m mod))
       have hdi := il_length (dP (pol (fs.getD k.toNat facD).r.xs : Po (El p m mod)))
       have hql : Po.len (pol (fs.getD k.toNat facD).r.xs : Po (El p m mod)) ≤ (fs.getD k.toNat facD).r.xs.length := Po.len_le (pol_sh _)
       have hgd : Po.len (Po.gcd (pol (fs.getD k.toNat facD).r.xs : Po (El p m mod)) (dP (pol (fs.getD k.toNat facD).r.xs : Po (El p m mod)))) = 1 := sf_der (lead1_ne q1) q5
       have hgi := il_length (Po.gcd (pol (fs.getD k.toNat facD).r.xs : Po (El p m mod)) (dP (pol (fs.getD k.toNat facD).r.xs : Po (El p m mod))))
       refine tr_draw [0, 1, 2, 3, 4, 5, 6, 7, 8, 9, 10, 11, 12, 13, 14] [] mixed (by kernel_rfl) fun _ _ _ => ?_
       refine sV (rLdS rfl rfl rfl) ?_
       refine pV ?_
       refine eV (eCallV rfl rfl rfl (ref_PDegree p m A c mod (fs.getD k.toNat facD).r.A _ (fs.getD k.toNat facD).r.cap (fs.getD k.toNat facD).r.xs rfl (by omega)) ⟨rfl, rfl, trivial⟩ ?_)
       iterate 2 refine pV ?_
       refine stT rfl rfl rfl (by first | exact decide_eq_false hq1 | (rw [decide_eq_false hq1]; rfl)) rfl rfl (rLdS rfl rfl rfl) ?_
       refine stT rfl rfl rfl (by first | exact decide_eq_false hq1 | (rw [decide_eq_false hq1]; rfl)) rfl rfl (rLdS rfl rfl rfl) ?_
       refine stT rfl rfl rfl (by first | exact decide_eq_false hq1 | (rw [decide_eq_false hq1]; rfl)) rfl rfl (rMove rfl rfl) ?_
       refine stT rfl rfl rfl (by first | exact decide_eq_false hq1 | (rw [decide_eq_false hq1]; rfl)) rfl rfl (rLdS rfl rfl rfl) ?_
       refine stT rfl rfl rfl (by first | exact decide_eq_false hq1 | (rw [decide_eq_false hq1]; rfl)) rfl rfl (rMove rfl rfl) ?_
       refine efT rfl rfl rfl (by first | exact decide_eq_false hq1 | (rw [decide_eq_false hq1]; rfl)) (eCall1 rfl rfl rfl (ref_Derivative p m A c mod (fs.getD k.toNat facD).r.A _ (fs.getD k.toNat facD).r.cap (fs.getD k.toNat facD).r.xs rfl (by omega)) ⟨rfl, rfl, trivial⟩ ?_)
       rintro _ _ ⟨Bd, cd, rfl, rfl⟩
       refine efT rfl rfl rfl (by first | exact decide_eq_false hq1 | (rw [decide_eq_false hq1]; rfl)) (eCall1 rfl rfl rfl (ref_PGcd p m A c mod (fs.getD k.toNat facD).r.A _ (fs.getD k.toNat facD).r.cap (fs.getD k.toNat facD).r.xs rfl (by omega) Bd _ cd (il (dP (pol (fs.getD k.toNat facD).r.xs : Po (El p m mod)))) rfl (by omega)) ⟨rfl, rfl, rfl, trivial⟩ ?_)
       rintro _ _ ⟨Bg, cg, rfl, rfl⟩
       rw [pol_il]
       refine efT rfl rfl rfl (by first | exact decide_eq_false hq1 | (rw [decide_eq_false hq1]; rfl)) (eCallV rfl rfl rfl (ref_PDegree p m A c mod Bg _ cg (il (Po.gcd (pol (fs.getD k.toNat facD).r.xs : Po (El p m mod)) (dP (pol (fs.getD k.toNat facD).r.xs : Po (El p m mod))))) rfl (by omega)) ⟨rfl, rfl, trivial⟩ ?_)
       rw [pol_il, hgd]
       refine stT rfl rfl rfl (by first | exact decide_eq_false hq1 | (rw [decide_eq_false hq1]; rfl)) rfl rfl (rNeq rfl rfl rfl) ?_
       refine sV (rPick0 rfl rfl (by first | exact decide_eq_false hq1 | (rw [decide_eq_false hq1]; rfl)) rfl) ?_
       refine tC rfl (fun h18 => ?_) (fun h18 => ?_)
       ·try simp only [zbA] at h18
        simp at h18 --done
       ·try simp only [zbA] at h18
        refine tK ?_
        refine tS ?_
        refine tS ?_
        have hprev : 0 < k → (fs.getD (k - 1).toNat facD).k < (fs.getD k.toNat facD).k := fun h => hlt _ _ (by omega) hjl
        refine tr_draw [0, 1, 2, 3, 4, 5, 6, 7, 8, 9, 10, 11, 12, 13, 14, 15, 16, 17, 18, 19, 20, 21, 22, 23] [] mixed (by kernel_rfl) fun _ _ _ => ?_
        iterate 3 refine pV ?_
        refine stg rfl rfl rfl rfl rfl (fun hb => by (have hq := hb; try simp only [zbA] at hq); exact rMove rfl rfl) ?_
        refine stg rfl rfl rfl rfl rfl (fun hb => by (have hq := hb; try simp only [zbA] at hq); exact rMove rfl rfl) ?_
        refine stg rfl rfl rfl rfl rfl (fun hb => by (have hq := hb; try simp only [zbA] at hq); exact rIdxT rfl (evg rfl hb) (evg rfl hb) (by omega) (by omega) (by simp; omega)) ?_
        refine stg rfl rfl rfl rfl rfl (fun hb => by (have hq := hb; try simp only [zbA] at hq); exact rFld rfl (evg rfl hb)) ?_
        refine stg rfl rfl rfl rfl rfl (fun hb => by (have hq := hb; try simp only [zbA] at hq); exact rLdG1 rfl (evg rfl hb) (by omega)) ?_
        refine stg rfl rfl rfl rfl rfl (fun hb => by (have hq := hb; try simp only [zbA] at hq); exact rMove rfl rfl) ?_
        refine stg rfl rfl rfl rfl rfl (fun hb => by (have hq := hb; try simp only [zbA] at hq); exact rMove rfl rfl) ?_
        refine stg rfl rfl rfl rfl rfl (fun hb => by (have hq := hb; try simp only [zbA] at hq); exact rSub rfl (evg rfl hb) rfl (by omega) (by omega)) ?_
        refine stg rfl rfl rfl rfl rfl (fun hb => by (have hq := hb; try simp only [zbA] at hq); exact rIdxT rfl (evg rfl hb) (evg rfl hb) (by omega) (by omega) (by simp; omega)) ?_
        refine stg rfl rfl rfl rfl rfl (fun hb => by (have hq := hb; try simp only [zbA] at hq); exact rFld rfl (evg rfl hb)) ?_
        refine stg rfl rfl rfl rfl rfl (fun hb => by (have hq := hb; try simp only [zbA] at hq); exact rLdG1 rfl (evg rfl hb) (by omega)) ?_
        refine stg rfl rfl rfl rfl rfl (fun hb => by (have hq := hb; try simp only [zbA] at hq); exact rLeq rfl (evg rfl hb) (evg rfl hb)) ?_
        refine sV (rAndB rfl rfl rfl rfl) ?_
        refine pV ?_
        refine stg rfl rfl rfl rfl rfl (fun hb => by (have hq := hb; try simp only [zbA] at hq); exact rMove rfl rfl) ?_
        refine stg rfl rfl rfl rfl rfl (fun hb => by (have hq := hb; try simp only [zbA] at hq); exact rMove rfl rfl) ?_
        refine stg rfl rfl rfl rfl rfl (fun hb => by (have hq := hb; try simp only [zbA] at hq); exact rIdxT rfl (evg rfl hb) (evg rfl hb) (by omega) (by omega) (by simp; omega)) ?_
        refine stg rfl rfl rfl rfl rfl (fun hb => by (have hq := hb; try simp only [zbA] at hq); exact rFld rfl (evg rfl hb)) ?_
        refine stg rfl rfl rfl rfl rfl (fun hb => by (have hq := hb; try simp only [zbA] at hq); exact rLdG1 rfl (evg rfl hb) (by omega)) ?_
        refine stg rfl rfl rfl rfl rfl (fun hb => by (have hq := hb; try simp only [zbA] at hq); exact rLss rfl (evg rfl hb) rfl) ?_
        refine sV (rOrB rfl rfl rfl rfl) ?_
        refine tC rfl (fun h20 => ?_) (fun h20 => ?_)
        ·try simp only [zbA] at h20
         simp [List.getD_eq_getElem?_getD] at h20 hprev q4
         omega --done
        ·try simp only [zbA] at h20
         refine tK ?_
         refine tS ?_
         refine tR fun _ _ _ => ?_
         refine pV ?_
         refine tB ?_
         refine tr_loop1 (fun (j : Int) => [(14, .int .i64 j), (13, .slice (fs.getD k.toNat facD).r.A (fs.getD k.toNat facD).r.xs.length (fs.getD k.toNat facD).r.cap), (2, .pointer (some p0)), (8, .slice B8 fs.length c8), (12, .int .i64 k), (64, .int .i64 k), (65, .slice B8 fs.length c8), (66, .int .i64 fs.length), (70, .slice B8 fs.length c8), (71, .int .i64 k), (75, .agg #[.int .i64 p, .int .i64 m, .slice A mod.length c]), (90, .int .i64 k)]) (fun (j : Int) => [gfN g, blk p0 24 [.int .i64 p, .int .i64 m, .slice A mod.length c], ow2 B8 64 c8 (fcs fs), rowsCh 3 (rws fs), ro A (ints mod), ro Aa (ints a)]) (fun (j : Int) => 0 ≤ j ∧ j ≤ k) (fun (j : Int) => (k - j).toNat) (0) ⟨rfl, rfl, rfl, rfl, rfl, rfl, rfl, rfl, rfl, rfl, rfl, rfl, trivial⟩ (by first | exact cs _ _ | exact CSub.refl _) (⟨by omega, by omega⟩) (fun j hI => ?_)
         obtain ⟨hj0, hj1⟩ := hI
         refine tS ?_
         refine tS ?_
         refine tR fun _ _ _ => ?_
         iterate 3 refine pV ?_
         refine tC rfl (fun h23 => ?_) (fun h23 => ?_)
         ·try simp only [zbA] at h23
          refine tK ?_
          refine tS ?_
          refine tB ?_
          refine tS ?_
          have hjl2 : j.toNat < fs.length := by omega
          have hcop : Po.len (Po.gcd (pol (fs.getD k.toNat facD).r.xs : Po (El p m mod)) (pol (fs.getD j.toNat facD).r.xs : Po (El p m mod))) = 1 := hI.cop (getD_mem hjl facD) (getD_mem hjl2 facD) (by have := hlt j.toNat k.toNat (by omega) hjl; omega)
          have hgj := il_length (Po.gcd (pol (fs.getD k.toNat facD).r.xs : Po (El p m mod)) (pol (fs.getD j.toNat facD).r.xs : Po (El p m mod)))
          have hfj := hxl _ (getD_mem hjl2 facD)
          haveI : InB j.toNat fs.length := ⟨hjl2⟩
          haveI : InB k.toNat fs.length := ⟨hjl⟩
          refine tr_draw [0, 1, 2, 3, 4, 5, 6, 7, 8, 9, 10] [] mixed (by kernel_rfl) fun _ _ _ => ?_
          refine sV (rLdS rfl rfl rfl) ?_
          refine sV (rLdS rfl rfl rfl) ?_
          iterate 3 refine pV ?_
          refine sV (rIdxT rfl rfl rfl (by omega) (by omega) (by simp; omega)) ?_
          refine sV (rFld rfl rfl) ?_
          refine sV (rLdG0 rfl rfl (by omega)) ?_
          refine eV (eCall1 rfl rfl rfl (ref_PGcd p m A c mod (fs.getD k.toNat facD).r.A _ (fs.getD k.toNat facD).r.cap (fs.getD k.toNat facD).r.xs rfl (by omega) (fs.getD j.toNat facD).r.A _ (fs.getD j.toNat facD).r.cap (fs.getD j.toNat facD).r.xs rfl (by omega)) ⟨rfl, rfl, rfl, trivial⟩ ?_)
          rintro _ _ ⟨Bh, ch, rfl, rfl⟩
          refine eV (eCallV rfl rfl rfl (ref_PDegree p m A c mod Bh _ ch (il (Po.gcd (pol (fs.getD k.toNat facD).r.xs : Po (El p m mod)) (pol (fs.getD j.toNat facD).r.xs : Po (El p m mod)))) rfl (by omega)) ⟨rfl, rfl, trivial⟩ ?_)
          rw [pol_il, hcop]
          refine pV ?_
          refine tC rfl (fun h25 => ?_) (fun h25 => ?_)
          ·try simp only [zbA] at h25
           simp at h25 --done
          ·try simp only [zbA] at h25
           refine tK ?_
           refine tR fun _ _ _ => ?_
           refine pV ?_
           refine sV (rAdd rfl rfl rfl (by omega) (by omega)) ?_
           refine pV ?_
           refine ⟨j + 1, ⟨rfl, rfl, rfl, rfl, rfl, rfl, rfl, rfl, rfl, rfl, rfl, rfl, trivial⟩, by first | exact cs _ _ | exact CSub.refl _, ?_⟩
           exact ⟨⟨by omega, by omega⟩, by omega⟩
         ·try simp only [zbA] at h23
          refine tE ?_
          refine tR fun _ _ _ => ?_
          refine pV ?_
          refine sV (rAdd rfl rfl rfl (by omega) (by omega)) ?_
          refine pV ?_
          refine ⟨k + 1, ⟨rfl, rfl, rfl, trivial⟩, by first | exact cs _ _ | exact CSub.refl _, ?_⟩
          exact ⟨⟨by omega, by omega⟩, by omega⟩
      ·try simp only [zbA] at h15
       refine tE ?_
       refine tS ?_
       refine tR fun _ _ _ => ?_
       refine pV ?_
       exact tr_ret ⟨trivial, _, _, rfl, ⟨rfl, rfl⟩, CSub.nil _, trivial⟩
theorem law_FactorSquarefree (p m : Int) (A : Option Addr) (c : Nat) (mod : List Int) (hl9 : mod.length ≤ 17592186044415) (Aa : Option Addr) (ca : Nat) (a : List Int) (ha9 : a.length ≤ 17592186044415) : Pure Try.prog 7 #[.agg #[.int .i64 p, .int .i64 m, .slice A mod.length c], .slice Aa a.length ca] [ro A (ints mod), ro Aa (ints a)] (isV (.bool true)) := by
 by_cases hF0 : FldR p m mod
 ·haveI hF : IsF p m mod := ⟨hF0⟩
  cases hfw : fewB (Po.len (pol a : Po (El p m mod))) with
  | false => exact law_FactorSquarefree_N p m A c mod hl9 Aa ca a ha9 hfw
  | true =>
   by_cases he : facE (Po.len (pol a : Po (El p m mod))) = 0
   ·exact law_FactorSquarefree_G p m A c mod hl9 Aa ca a ha9 hfw he (by unfold fewB at hfw; simp [he] at hfw; exact hfw)
   ·exact law_FactorSquarefree_E p m A c mod hl9 Aa ca a ha9 hfw he
 ·exact law_FactorSquarefree_no p m A c mod hl9 Aa ca a ha9 hF0
end Go.Proofs.Ytbhoeaijpnjgdaa

/-
  FACTORUNIQUE, PART 8 OF 9. One sentence: the texts behind the law FactorUnique, put together.
  Conditions: each theorem's own, written out in it.
-/
import Derived.Test.YtbhoeaijpnjgdaaGreatK7
set_option linter.unusedSimpArgs false
set_option linter.unusedVariables false
set_option linter.unusedSectionVars false
set_option maxRecDepth 100000
namespace Go.Proofs.YtbhoeaijpnjgdaaGreat
open Go.RowKit
instance tyPt : AgTy Tryz.prog 47 5 := agTy_of (by kernel_rfl)
instance tyPt0 : FdTy Tryz.prog 47 0 0 := ⟨by kernel_rfl⟩
instance tyPt1 : FdTy Tryz.prog 47 1 3 := ⟨by kernel_rfl⟩
instance tyPt2 : FdTy Tryz.prog 47 2 4 := ⟨by kernel_rfl⟩
theorem law_FactorUnique_no_ent : Enters Tryz.prog 5 := enters_of Tryz.func5 (by kernel_rfl) (by kernel_rfl)
theorem law_FactorUnique_no (p m : Int) (A : Option Addr) (c : Nat) (mod : List Int) (hl9 : mod.length ≤ 17592186044415) (ld : Int) (X : Option Addr) (nx cx : Nat) (fs : List FacM) (hnx : nx = fs.length) (hf9 : fs.length ≤ 17592186044415) (hfx : ∀ f ∈ fs, f.r.xs.length ≤ 17592186044415 ∧ f.k ≤ 9223372036854775807 ∧ -9223372036854775808 ≤ f.k) (hF : ¬ FldR p m mod) :
  Pure Tryz.prog 5 #[.agg #[.int .i64 p, .int .i64 m, .slice A mod.length c, .int .i64 ld, .slice X nx cx]] [ro A (ints mod), ro X (prs (fcs fs)), rowsR (rws fs)] (isV (.bool true)) := by
 refine pure_of (args := [.agg #[.int .i64 p, .int .i64 m, .slice A mod.length c, .int .i64 ld, .slice X nx cx]]) 174 Tryz.func5 rfl rfl rfl law_FactorUnique_no_ent ⟨id, id, id, trivial⟩ (fun w0 => ?_)
 refine tS ?_
 refine tR fun _ _ _ => ?_
 refine eV (eBox rfl rfl rfl rfl rfl (fun p0 => ?_))
 refine pV ?_
 refine tS ?_
 refine tR fun _ _ _ => ?_
 refine sV (rFld rfl rfl) ?_
 refine sV (rLdSF rfl rfl) ?_
 refine eV (eCallV rfl rfl rfl (law_open_no _ _ _ _ _ (by omega) hF) ⟨rfl, trivial⟩ ?_)
 iterate 7 refine pV ?_
 refine tS ?_
 refine tS ?_
 refine tR fun _ _ _ => ?_
 refine pV ?_
 refine tC rfl (fun h2 => ?_) (fun h2 => ?_)
 ·try simp only [zbA] at h2
  refine tS ?_
  refine tR fun _ _ _ => ?_
  iterate 2 refine pV ?_
  exact tr_ret ⟨trivial, _, _, rfl, ⟨rfl, rfl⟩, CSub.nil _, trivial⟩
 ·try simp only [zbA] at h2
  cases h2 --done
theorem law_FactorUnique_B_ent : Enters Tryz.prog 5 := enters_of Tryz.func5 (by kernel_rfl) (by kernel_rfl)
theorem law_FactorUnique_B (p m : Int) (A : Option Addr) (c : Nat) (mod : List Int) [hF : IsF p m mod] (hl9 : mod.length ≤ 17592186044415) (ld : Int) (X : Option Addr) (nx cx : Nat) (fs : List FacM) (hnx : nx = fs.length) (hf9 : fs.length ≤ 17592186044415) (hfx : ∀ f ∈ fs, f.r.xs.length ≤ 17592186044415 ∧ f.k ≤ 9223372036854775807 ∧ -9223372036854775808 ≤ f.k) (hbig : 256 < fcT p m mod fs fs.length) :
  Pure Tryz.prog 5 #[.agg #[.int .i64 p, .int .i64 m, .slice A mod.length c, .int .i64 ld, .slice X nx cx]] [ro A (ints mod), ro X (prs (fcs fs)), rowsR (rws fs)] (isV (.bool true)) := by
 refine pure_of (args := [.agg #[.int .i64 p, .int .i64 m, .slice A mod.length c, .int .i64 ld, .slice X nx cx]]) 174 Tryz.func5 rfl rfl rfl law_FactorUnique_B_ent ⟨id, id, id, trivial⟩ (fun w0 => ?_)
 refine tS ?_
 refine tR fun _ _ _ => ?_
 refine eV (eBox rfl rfl rfl rfl rfl (fun p0 => ?_))
 refine pV ?_
 refine tS ?_
 refine tR fun _ _ _ => ?_
 refine sV (rFld rfl rfl) ?_
 refine sV (rLdSF rfl rfl) ?_
 refine eV (eCall1 rfl rfl rfl (law_open_ok _ _ _ _ _ (by omega) hF.out) ⟨rfl, trivial⟩ ?_)
 rintro _ _ ⟨g, rfl, rfl, hg⟩
 iterate 7 refine pV ?_
 refine tS ?_
 refine tS ?_
 refine tR fun _ _ _ => ?_
 refine pV ?_
 refine tC rfl (fun h2 => ?_) (fun h2 => ?_)
 ·try simp only [zbA] at h2
  cases h2 --done
 ·try simp only [zbA] at h2
  refine tK ?_
  refine tS ?_
  refine tS ?_
  refine tR fun _ _ _ => ?_
  refine pV ?_
  refine eV (eCallV rfl rfl rfl (law06_alive g hg) ⟨rfl, trivial⟩ ?_)
  refine sV (rNotB rfl rfl) ?_
  refine tC rfl (fun h4 => ?_) (fun h4 => ?_)
  ·try simp only [zbA] at h4
   first | exact absurd trivial h4 | exact absurd rfl h4 | omega | (exact absurd h4 (by simp)) --done
  ·try simp only [zbA] at h4
   refine tK ?_
   refine tS ?_
   refine tS ?_
   have hord := hF.ord
   by_cases s1 : 0 ≤ ld ∧ ld < ordI p m
   ·by_cases s2 : ld = 0
    ·refine tR fun _ _ _ => ?_
     refine sV (rFld rfl rfl) ?_
     refine sV (rLdSF rfl rfl) ?_
     refine sV (rFld rfl rfl) ?_
     refine sV (rLdF rfl rfl rfl) ?_
     refine eV (eCallV rfl rfl rfl (ref_Is p m A c mod ld) ⟨rfl, rfl, trivial⟩ ?_)
     refine sV (rNotB rfl rfl) ?_
     refine pV ?_
     refine stT rfl rfl rfl (by first | (simp; omega) | simp [s1]) rfl rfl (rFld rfl rfl) ?_
     refine stT rfl rfl rfl (by first | (simp; omega) | simp [s1]) rfl rfl (rLdF rfl rfl rfl) ?_
     refine stT rfl rfl rfl (by first | (simp; omega) | simp [s1]) rfl rfl (rEql rfl rfl rfl) ?_
     refine sV (rPick0 rfl rfl (by first | (simp; omega) | simp [s1]) rfl) ?_
     refine pV ?_
     refine skF rfl rfl (by first | exact decide_eq_true (s2) | (rw [decide_eq_true (s2)]; rfl) | (simp; exact s2) | simp [s2]) rfl rfl ?_
     refine skF rfl rfl (by first | exact decide_eq_true (s2) | (rw [decide_eq_true (s2)]; rfl) | (simp; exact s2) | simp [s2]) rfl rfl ?_
     refine skF rfl rfl (by first | exact decide_eq_true (s2) | (rw [decide_eq_true (s2)]; rfl) | (simp; exact s2) | simp [s2]) rfl rfl ?_
     refine skF rfl rfl (by first | exact decide_eq_true (s2) | (rw [decide_eq_true (s2)]; rfl) | (simp; exact s2) | simp [s2]) rfl rfl ?_
     refine sV (rPick1 rfl rfl (by first | exact decide_eq_true (s2) | (rw [decide_eq_true (s2)]; rfl) | (simp; exact s2) | simp [s2]) rfl) ?_
     refine tC rfl (fun h6 => ?_) (fun h6 => ?_)
     ·try simp only [zbA] at h6
      refine tS ?_
      refine tR fun _ _ _ => ?_
      refine pV ?_
      exact tr_ret ⟨trivial, _, _, rfl, ⟨rfl, rfl⟩, CSub.nil _, trivial⟩
     ·try simp only [zbA] at h6
      first | exact absurd trivial h6 | exact absurd rfl h6 | omega | (exact absurd h6 (by simp)) --done
    ·refine tR fun _ _ _ => ?_
     refine sV (rFld rfl rfl) ?_
     refine sV (rLdSF rfl rfl) ?_
     refine sV (rFld rfl rfl) ?_
     refine sV (rLdF rfl rfl rfl) ?_
     refine eV (eCallV rfl rfl rfl (ref_Is p m A c mod ld) ⟨rfl, rfl, trivial⟩ ?_)
     refine sV (rNotB rfl rfl) ?_
     refine pV ?_
     refine stT rfl rfl rfl (by first | (simp; omega) | simp [s1]) rfl rfl (rFld rfl rfl) ?_
     refine stT rfl rfl rfl (by first | (simp; omega) | simp [s1]) rfl rfl (rLdF rfl rfl rfl) ?_
     refine stT rfl rfl rfl (by first | (simp; omega) | simp [s1]) rfl rfl (rEql rfl rfl rfl) ?_
     refine sV (rPick0 rfl rfl (by first | (simp; omega) | simp [s1]) rfl) ?_
     refine pV ?_
     refine stT rfl rfl rfl (by first | exact decide_eq_false (s2) | (rw [decide_eq_false (s2)]; rfl) | (simp; exact s2) | simp [s2]) rfl rfl (rFld rfl rfl) ?_
     refine stT rfl rfl rfl (by first | exact decide_eq_false (s2) | (rw [decide_eq_false (s2)]; rfl) | (simp; exact s2) | simp [s2]) rfl rfl (rLdF rfl rfl rfl) ?_
     refine stT rfl rfl rfl (by first | exact decide_eq_false (s2) | (rw [decide_eq_false (s2)]; rfl) | (simp; exact s2) | simp [s2]) rfl rfl (rLenS rfl rfl) ?_
     refine stT rfl rfl rfl (by first | exact decide_eq_false (s2) | (rw [decide_eq_false (s2)]; rfl) | (simp; exact s2) | simp [s2]) rfl rfl (rGtr rfl rfl rfl) ?_
     refine sV (rPick0 rfl rfl (by first | exact decide_eq_false (s2) | (rw [decide_eq_false (s2)]; rfl) | (simp; exact s2) | simp [s2]) rfl) ?_
     refine tC rfl (fun h6 => ?_) (fun h6 => ?_)
     ·try simp only [zbA] at h6
      refine tS ?_
      refine tR fun _ _ _ => ?_
      refine pV ?_
      exact tr_ret ⟨trivial, _, _, rfl, ⟨rfl, rfl⟩, CSub.nil _, trivial⟩
     ·try simp only [zbA] at h6
      refine tK ?_
      refine tS ?_
      refine tS ?_
      refine tR fun _ _ _ => ?_
      refine pV ?_
      refine tB ?_
      refine tr_loop1 (fun (k : Int) => [(6, .int .i64 k), (1, .pointer (some p0)), (3, .pointer (some g.p))]) (fun (k : Int) => [gfN g, blk p0 47 [.int .i64 p, .int .i64 m, .slice A mod.length c, .int .i64 ld, .slice X nx cx], ro A (ints mod), ro X (prs (fcs fs)), rowsR (rws fs)]) (fun (k : Int) => (0 ≤ k ∧ k ≤ nx) ∧ ∀ j : Nat, (j : Int) < k → GdU (p := p) (m := m) (mod := mod) (fs.getD j facD) ∧ (0 < j → cmpL (fs.getD (j - 1) facD).r.xs (fs.getD j facD).r.xs < 0)) (fun (k : Int) => (nx - k).toNat) (0) ⟨rfl, rfl, rfl, trivial⟩ (by first | exact cs _ _ | exact CSub.refl _) (⟨⟨by omega, by omega⟩, fun j hj => by omega⟩) (fun k hI => ?_)
      obtain ⟨⟨hk0, hk1⟩, hall⟩ := hI
      refine tS ?_
      refine tS ?_
      refine tR fun _ _ _ => ?_
      refine pV ?_
      refine sV (rFld rfl rfl) ?_
      refine sV (rLdF rfl rfl rfl) ?_
      refine sV (rLenS rfl rfl) ?_
      refine pV ?_
      refine tC rfl (fun h9 => ?_) (fun h9 => ?_)
      ·try simp only [zbA] at h9
       refine tK ?_
       refine tS ?_
       refine tB ?_
       refine tS ?_
       refine tS ?_
       have hjl : k.toNat < fs.length := by omega
       have hfe := hfx _ (getD_mem hjl facD)
       refine tR fun _ _ _ => ?_
       refine sV (rFld rfl rfl) ?_
       refine sV (rLdF rfl rfl rfl) ?_
       refine pV ?_
       refine sV (rIdxT rfl rfl rfl (by omega) (by omega) (by simp; omega)) ?_
       refine sV (rFld rfl rfl) ?_
       refine sV (rLdG0 rfl rfl (by omega)) ?_
       refine sV (rLen rfl rfl) ?_
       refine pV ?_
       refine tC rfl (fun h11 => ?_) (fun h11 => ?_)
       ·try simp only [zbA] at h11
        refine tS ?_
        refine tR fun _ _ _ => ?_
        refine pV ?_
        exact tr_ret ⟨trivial, _, _, rfl, ⟨rfl, rfl⟩, CSub.nil _, trivial⟩
       ·try simp only [zbA] at h11
        refine tK ?_
        refine tS ?_
        haveI : InB k.toNat fs.length := ⟨hjl⟩
        refine tr_draw [0, 1, 2, 3, 4, 5, 6, 7, 8, 9] [] mixed (by kernel_rfl) fun _ _ _ => ?_
        refine sV (rFld rfl rfl) ?_
        refine sV (rLdSF rfl rfl) ?_
        refine sV (rFld rfl rfl) ?_
        refine sV (rLdF rfl rfl rfl) ?_
        refine pV ?_
        refine sV (rIdxT rfl rfl rfl (by omega) (by omega) (by simp; omega)) ?_
        refine sV (rFld rfl rfl) ?_
        refine sV (rLdG0 rfl rfl (by omega)) ?_
        refine eV (eCall1 rfl rfl rfl (ref_CanonE p m A c mod (fs.getD k.toNat facD).r.A _ (fs.getD k.toNat facD).r.cap (fs.getD k.toNat facD).r.xs rfl hfe.1) ⟨rfl, rfl, trivial⟩ ?_)
        rintro _ _ ⟨B13, c13, rfl, rfl⟩
        refine pV ?_
        refine tS ?_
        refine tS ?_
        have hilq := il_length (pol (fs.getD k.toNat facD).r.xs : Po (El p m mod))
        have hqle : Po.len (pol (fs.getD k.toNat facD).r.xs : Po (El p m mod)) ≤ (fs.getD k.toNat facD).r.xs.length := Po.len_le (pol_sh _)
        by_cases u1 : facE (Po.len (pol (fs.getD k.toNat facD).r.xs : Po (El p m mod))) = 0
        ·by_cases u2 : 1 ≤ (fs.getD k.toNat facD).k
         ·by_cases u3 : (il (pol (fs.getD k.toNat facD).r.xs : Po (El p m mod))).getD (((il (pol (fs.getD k.toNat facD).r.xs : Po (El p m mod))).length : Int) - 1).toNat 0 = 1
          ·refine tR fun _ _ _ => ?_
           refine sV (rFld rfl rfl) ?_
           refine sV (rLdSF rfl rfl) ?_
           refine pV ?_
           refine eV (eCallV rfl rfl rfl (ref_Right p m A c mod B13 _ c13 (il (pol (fs.getD k.toNat facD).r.xs : Po (El p m mod))) rfl (by omega)) ⟨rfl, rfl, trivial⟩ ?_)
           rw [pol_il]
           iterate 2 refine pV ?_
           refine stT rfl rfl rfl (by first | exact decide_eq_false (fun h => h u1) | (rw [decide_eq_false (fun h => h u1)]; rfl) | simp [u1]) rfl rfl (rFld rfl rfl) ?_
           refine stT rfl rfl rfl (by first | exact decide_eq_false (fun h => h u1) | (rw [decide_eq_false (fun h => h u1)]; rfl) | simp [u1]) rfl rfl (rLdF rfl rfl rfl) ?_
           refine stT rfl rfl rfl (by first | exact decide_eq_false (fun h => h u1) | (rw [decide_eq_false (fun h => h u1)]; rfl) | simp [u1]) rfl rfl (rMove rfl rfl) ?_
           refine stT rfl rfl rfl (by first | exact decide_eq_false (fun h => h u1) | (rw [decide_eq_false (fun h => h u1)]; rfl) | simp [u1]) rfl rfl (rIdxT rfl rfl rfl (by omega) (by omega) (by simp; omega)) ?_
           refine stT rfl rfl rfl (by first | exact decide_eq_false (fun h => h u1) | (rw [decide_eq_false (fun h => h u1)]; rfl) | simp [u1]) rfl rfl (rFld rfl rfl) ?_
           refine stT rfl rfl rfl (by first | exact decide_eq_false (fun h => h u1) | (rw [decide_eq_false (fun h => h u1)]; rfl) | simp [u1]) rfl rfl (rLdG1 rfl rfl (by omega)) ?_
           refine stT rfl rfl rfl (by first | exact decide_eq_false (fun h => h u1) | (rw [decide_eq_false (fun h => h u1)]; rfl) | simp [u1]) rfl rfl (rLss rfl rfl rfl) ?_
           refine sV (rPick0 rfl rfl (by first | exact decide_eq_false (fun h => h u1) | (rw [decide_eq_false (fun h => h u1)]; rfl) | simp [u1]) rfl) ?_
           refine pV ?_
           try have hle14 := facE_ok u1
           refine stT rfl rfl rfl (by first | exact decide_eq_false (by omega) | (rw [decide_eq_false (show ¬ (fs.getD k.toNat facD).k < 1 by omega)]; rfl) | (simp; omega)) rfl rfl (rMove rfl rfl) ?_
           refine stT rfl rfl rfl (by first | exact decide_eq_false (by omega) | (rw [decide_eq_false (show ¬ (fs.getD k.toNat facD).k < 1 by omega)]; rfl) | (simp; omega)) rfl rfl (rMove rfl rfl) ?_
           refine stT rfl rfl rfl (by first | exact decide_eq_false (by omega) | (rw [decide_eq_false (show ¬ (fs.getD k.toNat facD).k < 1 by omega)]; rfl) | (simp; omega)) rfl rfl (rLen rfl rfl) ?_
           refine stT rfl rfl rfl (by first | exact decide_eq_false (by omega) | (rw [decide_eq_false (show ¬ (fs.getD k.toNat facD).k < 1 by omega)]; rfl) | (simp; omega)) rfl rfl (rSub rfl rfl rfl (by omega) (by omega)) ?_
           refine stT rfl rfl rfl (by first | exact decide_eq_false (by omega) | (rw [decide_eq_false (show ¬ (fs.getD k.toNat facD).k < 1 by omega)]; rfl) | (simp; omega)) rfl rfl (rIdxI rfl rfl rfl (by omega) (by omega) (by omega)) ?_
           refine stT rfl rfl rfl (by first | exact decide_eq_false (by omega) | (rw [decide_eq_false (show ¬ (fs.getD k.toNat facD).k < 1 by omega)]; rfl) | (simp; omega)) rfl rfl (rLdI rfl rfl (by omega)) ?_
           refine stT rfl rfl rfl (by first | exact decide_eq_false (by omega) | (rw [decide_eq_false (show ¬ (fs.getD k.toNat facD).k < 1 by omega)]; rfl) | (simp; omega)) rfl rfl (rNeq rfl rfl rfl) ?_
           refine sV (rPick0 rfl rfl (by first | exact decide_eq_false (by omega) | (rw [decide_eq_false (show ¬ (fs.getD k.toNat facD).k < 1 by omega)]; rfl) | (simp; omega)) rfl) ?_
           refine pV ?_
           refine stT rfl rfl rfl (by first | exact decide_eq_false (fun h => h u3) | (rw [decide_eq_false (fun h => h u3)]; rfl) | simp [u3]) rfl rfl (rMove rfl rfl) ?_
           refine stT rfl rfl rfl (by first | exact decide_eq_false (fun h => h u3) | (rw [decide_eq_false (fun h => h u3)]; rfl) | simp [u3]) rfl rfl (rFld rfl rfl) ?_
           refine stT rfl rfl rfl (by first | exact decide_eq_false (fun h => h u3) | (rw [decide_eq_false (fun h => h u3)]; rfl) | simp [u3]) rfl rfl (rLdF rfl rfl rfl) ?_
           refine stT rfl rfl rfl (by first | exact decide_eq_false (fun h => h u3) | (rw [decide_eq_false (fun h => h u3)]; rfl) | simp [u3]) rfl rfl (rMove rfl rfl) ?_
           refine stT rfl rfl rfl (by first | exact decide_eq_false (fun h => h u3) | (rw [decide_eq_false (fun h => h u3)]; rfl) | simp [u3]) rfl rfl (rIdxT rfl rfl rfl (by omega) (by omega) (by simp; omega)) ?_
           refine stT rfl rfl rfl (by first | exact decide_eq_false (fun h => h u3) | (rw [decide_eq_false (fun h => h u3)]; rfl) | simp [u3]) rfl rfl (rFld rfl rfl) ?_
           refine stT rfl rfl rfl (by first | exact decide_eq_false (fun h => h u3) | (rw [decide_eq_false (fun h => h u3)]; rfl) | simp [u3]) rfl rfl (rLdG0 rfl rfl (by omega)) ?_
           refine efT rfl rfl rfl (by first | exact decide_eq_false (fun h => h u3) | (rw [decide_eq_false (fun h => h u3)]; rfl) | simp [u3]) (eCallV rfl rfl rfl (ref_SameInts6 B13 _ c13 (il (pol (fs.getD k.toNat facD).r.xs : Po (El p m mod))) rfl (fs.getD k.toNat facD).r.A _ (fs.getD k.toNat facD).r.cap (fs.getD k.toNat facD).r.xs rfl (by omega)) ⟨rfl, rfl, trivial⟩ ?_)
           refine stT rfl rfl rfl (by first | exact decide_eq_false (fun h => h u3) | (rw [decide_eq_false (fun h => h u3)]; rfl) | simp [u3]) rfl rfl (rNotB rfl rfl) ?_
           refine sV (rPick0 rfl rfl (by first | exact decide_eq_false (fun h => h u3) | (rw [decide_eq_false (fun h => h u3)]; rfl) | simp [u3]) rfl) ?_
           refine tC rfl (fun h14 => ?_) (fun h14 => ?_)
           ·try simp only [zbA] at h14
            refine tS ?_
            refine tR fun _ _ _ => ?_
            refine pV ?_
            exact tr_ret ⟨trivial, _, _, rfl, ⟨rfl, rfl⟩, CSub.nil _, trivial⟩
           ·try simp only [zbA] at h14
            refine tK ?_
            refine tS ?_
            haveI : InB (k - 1).toNat fs.length := ⟨by omega⟩
            have hfy := hfx _ (getD_mem (show (k - 1).toNat < fs.length by omega) facD)
            have hgd : GdU (p := p) (m := m) (mod := mod) (fs.getD k.toNat facD) := ⟨by omega, u1, u2, u3, by simpa using h14⟩
            by_cases w1 : 0 < k
            ·refine tr_draw [0, 1, 2, 3, 4, 5, 6, 7, 8, 9, 10, 11, 12, 13, 14, 15] [] mixed (by kernel_rfl) fun _ _ _ => ?_
             iterate 3 refine pV ?_
             refine stT rfl rfl rfl (by first | exact decide_eq_true (w1) | (rw [decide_eq_true (w1)]; rfl) | (simp; exact w1) | simp [w1]) rfl rfl (rFld rfl rfl) ?_
             refine stT rfl rfl rfl (by first | exact decide_eq_true (w1) | (rw [decide_eq_true (w1)]; rfl) | (simp; exact w1) | simp [w1]) rfl rfl (rLdSF rfl rfl) ?_
             refine stT rfl rfl rfl (by first | exact decide_eq_true (w1) | (rw [decide_eq_true (w1)]; rfl) | (simp; exact w1) | simp [w1]) rfl rfl (rFld rfl rfl) ?_
             refine stT rfl rfl rfl (by first | exact decide_eq_true (w1) | (rw [decide_eq_true (w1)]; rfl) | (simp; exact w1) | simp [w1]) rfl rfl (rLdF rfl rfl rfl) ?_
             refine stT rfl rfl rfl (by first | exact decide_eq_true (w1) | (rw [decide_eq_true (w1)]; rfl) | (simp; exact w1) | simp [w1]) rfl rfl (rMove rfl rfl) ?_
             refine stT rfl rfl rfl (by first | exact decide_eq_true (w1) | (rw [decide_eq_true (w1)]; rfl) | (simp; exact w1) | simp [w1]) rfl rfl (rSub rfl rfl rfl (by omega) (by omega)) ?_
             refine stT rfl rfl rfl (by first | exact decide_eq_true (w1) | (rw [decide_eq_true (w1)]; rfl) | (simp; exact w1) | simp [w1]) rfl rfl (rIdxT rfl rfl rfl (by omega) (by omega) (by simp; omega)) ?_
             refine stT rfl rfl rfl (by first | exact decide_eq_true (w1) | (rw [decide_eq_true (w1)]; rfl) | (simp; exact w1) | simp [w1]) rfl rfl (rFld rfl rfl) ?_
             refine stT rfl rfl rfl (by first | exact decide_eq_true (w1) | (rw [decide_eq_true (w1)]; rfl) | (simp; exact w1) | simp [w1]) rfl rfl (rLdG0 rfl rfl (by omega)) ?_
             refine stT rfl rfl rfl (by first | exact decide_eq_true (w1) | (rw [decide_eq_true (w1)]; rfl) | (simp; exact w1) | simp [w1]) rfl rfl (rMove rfl rfl) ?_
             refine efT rfl rfl rfl (by first | exact decide_eq_true (w1) | (rw [decide_eq_true (w1)]; rfl) | (simp; exact w1) | simp [w1]) (eCallV rfl rfl rfl (ref_Compare p m A c mod (fs.getD (k - 1).toNat facD).r.A _ (fs.getD (k - 1).toNat facD).r.cap (fs.getD (k - 1).toNat facD).r.xs rfl hfy.1 B13 _ c13 (il (pol (fs.getD k.toNat facD).r.xs : Po (El p m mod))) rfl (by omega)) ⟨rfl, rfl, rfl, trivial⟩ ?_)
             refine stT rfl rfl rfl (by first | exact decide_eq_true (w1) | (rw [decide_eq_true (w1)]; rfl) | (simp; exact w1) | simp [w1]) rfl rfl (rGeq rfl rfl rfl) ?_
             refine sV (rPick1 rfl rfl (by first | exact decide_eq_true (w1) | (rw [decide_eq_true (w1)]; rfl) | (simp; exact w1) | simp [w1]) rfl) ?_
             refine tC rfl (fun h16 => ?_) (fun h16 => ?_)
             ·try simp only [zbA] at h16
              refine tS ?_
              refine tR fun _ _ _ => ?_
              refine pV ?_
              exact tr_ret ⟨trivial, _, _, rfl, ⟨rfl, rfl⟩, CSub.nil _, trivial⟩
             ·try simp only [zbA] at h16
              refine tK ?_
              refine tR fun _ _ _ => ?_
              refine pV ?_
              refine sV (rAdd rfl rfl rfl (by omega) (by omega)) ?_
              refine pV ?_
              refine ⟨k + 1, ⟨rfl, rfl, rfl, trivial⟩, by first | exact cs _ _ | exact CSub.refl _, ?_⟩
              refine ⟨⟨⟨by omega, by omega⟩, fun j hj => ?_⟩, by omega⟩
              by_cases e : (j : Int) < k
              ·exact hall j e
              ·obtain rfl : j = k.toNat := by omega
               refine ⟨hgd, fun h0 => ?_⟩
               have w0 : 0 < k := by omega
               first | exact absurd w0 w1 | (have hq := (hall (k.toNat - 1) (by omega)).1.cn; have hq2 := hgd.cn; rw [show (k - 1).toNat = k.toNat - 1 by omega, ← hq, hord, canL_il rfl, canL_il rfl, hq2] at h16; rw [← hq]; first | (simp at h16; omega) | omega)
            ·refine tr_draw [0, 1, 2, 3, 4, 5, 6, 7, 8, 9, 10, 11, 12, 13, 14, 15] [] mixed (by kernel_rfl) fun _ _ _ => ?_
             iterate 3 refine pV ?_
             refine skF rfl rfl (by first | exact decide_eq_false (w1) | (rw [decide_eq_false (w1)]; rfl) | (simp; exact w1) | simp [w1]) rfl rfl ?_
             refine skF rfl rfl (by first | exact decide_eq_false (w1) | (rw [decide_eq_false (w1)]; rfl) | (simp; exact w1) | simp [w1]) rfl rfl ?_
             refine skF rfl rfl (by first | exact decide_eq_false (w1) | (rw [decide_eq_false (w1)]; rfl) | (simp; exact w1) | simp [w1]) rfl rfl ?_
             refine skF rfl rfl (by first | exact decide_eq_false (w1) | (rw [decide_eq_false (w1)]; rfl) | (simp; exact w1) | simp [w1]) rfl rfl ?_
             refine skF rfl rfl (by first | exact decide_eq_false (w1) | (rw [decide_eq_false (w1)]; rfl) | (simp; exact w1) | simp [w1]) rfl rfl ?_
             refine skF rfl rfl (by first | exact decide_eq_false (w1) | (rw [decide_eq_false (w1)]; rfl) | (simp; exact w1) | simp [w1]) rfl rfl ?_
             refine skF rfl rfl (by first | exact decide_eq_false (w1) | (rw [decide_eq_false (w1)]; rfl) | (simp; exact w1) | simp [w1]) rfl rfl ?_
             refine skF rfl rfl (by first | exact decide_eq_false (w1) | (rw [decide_eq_false (w1)]; rfl) | (simp; exact w1) | simp [w1]) rfl rfl ?_
             refine skF rfl rfl (by first | exact decide_eq_false (w1) | (rw [decide_eq_false (w1)]; rfl) | (simp; exact w1) | simp [w1]) rfl rfl ?_
             refine skF rfl rfl (by first | exact decide_eq_false (w1) | (rw [decide_eq_false (w1)]; rfl) | (simp; exact w1) | simp [w1]) rfl rfl ?_
             refine skF rfl rfl (by first | exact decide_eq_false (w1) | (rw [decide_eq_false (w1)]; rfl) | (simp; exact w1) | simp [w1]) rfl rfl ?_
             refine skF rfl rfl (by first | exact decide_eq_false (w1) | (rw [decide_eq_false (w1)]; rfl) | (simp; exact w1) | simp [w1]) rfl rfl ?_
             refine sV (rPick0 rfl rfl (by first | exact decide_eq_false (w1) | (rw [decide_eq_false (w1)]; rfl) | (simp; exact w1) | simp [w1]) rfl) ?_
             refine tC rfl (fun h16 => ?_) (fun h16 => ?_)
             ·try simp only [zbA] at h16
              refine tS ?_
              refine tR fun _ _ _ => ?_
              refine pV ?_
              exact tr_ret ⟨trivial, _, _, rfl, ⟨rfl, rfl⟩, CSub.nil _, trivial⟩
             ·try simp only [zbA] at h16
              refine tK ?_
              refine tR fun _ _ _ => ?_
              refine pV ?_
              refine sV (rAdd rfl rfl rfl (by omega) (by omega)) ?_
              refine pV ?_
              refine ⟨k + 1, ⟨rfl, rfl, rfl, trivial⟩, by first | exact cs _ _ | exact CSub.refl _, ?_⟩
              refine ⟨⟨⟨by omega, by omega⟩, fun j hj => ?_⟩, by omega⟩
              by_cases e : (j : Int) < k
              ·exact hall j e
              ·obtain rfl : j = k.toNat := by omega
               refine ⟨hgd, fun h0 => ?_⟩
               have w0 : 0 < k := by omega
               first | exact absurd w0 w1 | (have hq := (hall (k.toNat - 1) (by omega)).1.cn; have hq2 := hgd.cn; rw [show (k - 1).toNat = k.toNat - 1 by omega, ← hq, hord, canL_il rfl, canL_il rfl, hq2] at h16; rw [← hq]; first | (simp at h16; omega) | omega)
          ·refine tR fun _ _ _ => ?_
           refine sV (rFld rfl rfl) ?_
           refine sV (rLdSF rfl rfl) ?_
           refine pV ?_
           refine eV (eCallV rfl rfl rfl (ref_Right p m A c mod B13 _ c13 (il (pol (fs.getD k.toNat facD).r.xs : Po (El p m mod))) rfl (by omega)) ⟨rfl, rfl, trivial⟩ ?_)
           rw [pol_il]
           iterate 2 refine pV ?_
           refine stT rfl rfl rfl (by first | exact decide_eq_false (fun h => h u1) | (rw [decide_eq_false (fun h => h u1)]; rfl) | simp [u1]) rfl rfl (rFld rfl rfl) ?_
           refine stT rfl rfl rfl (by first | exact decide_eq_false (fun h => h u1) | (rw [decide_eq_false (fun h => h u1)]; rfl) | simp [u1]) rfl rfl (rLdF rfl rfl rfl) ?_
           refine stT rfl rfl rfl (by first | exact decide_eq_false (fun h => h u1) | (rw [decide_eq_false (fun h => h u1)]; rfl) | simp [u1]) rfl rfl (rMove rfl rfl) ?_
           refine stT rfl rfl rfl (by first | exact decide_eq_false (fun h => h u1) | (rw [decide_eq_false (fun h => h u1)]; rfl) | simp [u1]) rfl rfl (rIdxT rfl rfl rfl (by omega) (by omega) (by simp; omega)) ?_
           refine stT rfl rfl rfl (by first | exact decide_eq_false (fun h => h u1) | (rw [decide_eq_false (fun h => h u1)]; rfl) | simp [u1]) rfl rfl (rFld rfl rfl) ?_
           refine stT rfl rfl rfl (by first | exact decide_eq_false (fun h => h u1) | (rw [decide_eq_false (fun h => h u1)]; rfl) | simp [u1]) rfl rfl (rLdG1 rfl rfl (by omega)) ?_
           refine stT rfl rfl rfl (by first | exact decide_eq_false (fun h => h u1) | (rw [decide_eq_false (fun h => h u1)]; rfl) | simp [u1]) rfl rfl (rLss rfl rfl rfl) ?_
           refine sV (rPick0 rfl rfl (by first | exact decide_eq_false (fun h => h u1) | (rw [decide_eq_false (fun h => h u1)]; rfl) | simp [u1]) rfl) ?_
           refine pV ?_
           try have hle14 := facE_ok u1
           refine stT rfl rfl rfl (by first | exact decide_eq_false (by omega) | (rw [decide_eq_false (show ¬ (fs.getD k.toNat facD).k < 1 by omega)]; rfl) | (simp; omega)) rfl rfl (rMove rfl rfl) ?_
           refine stT rfl rfl rfl (by first | exact decide_eq_false (by omega) | (rw [decide_eq_false (show ¬ (fs.getD k.toNat facD).k < 1 by omega)]; rfl) | (simp; omega)) rfl rfl (rMove rfl rfl) ?_
           refine stT rfl rfl rfl (by first | exact decide_eq_false (by omega) | (rw [decide_eq_false (show ¬ (fs.getD k.toNat facD).k < 1 by omega)]; rfl) | (simp; omega)) rfl rfl (rLen rfl rfl) ?_
           refine stT rfl rfl rfl (by first | exact decide_eq_false (by omega) | (rw [decide_eq_false (show ¬ (fs.getD k.toNat facD).k < 1 by omega)]; rfl) | (simp; omega)) rfl rfl (rSub rfl rfl rfl (by omega) (by omega)) ?_
           refine stT rfl rfl rfl (by first | exact decide_eq_false (by omega) | (rw [decide_eq_false (show ¬ (fs.getD k.toNat facD).k < 1 by omega)]; rfl) | (simp; omega)) rfl rfl (rIdxI rfl rfl rfl (by omega) (by omega) (by omega)) ?_
           refine stT rfl rfl rfl (by first | exact decide_eq_false (by omega) | (rw [decide_eq_false (show ¬ (fs.getD k.toNat facD).k < 1 by omega)]; rfl) | (simp; omega)) rfl rfl (rLdI rfl rfl (by omega)) ?_
           refine stT rfl rfl rfl (by first | exact decide_eq_false (by omega) | (rw [decide_eq_false (show ¬ (fs.getD k.toNat facD).k < 1 by omega)]; rfl) | (simp; omega)) rfl rfl (rNeq rfl rfl rfl) ?_
           refine sV (rPick0 rfl rfl (by first | exact decide_eq_false (by omega) | (rw [decide_eq_false (show ¬ (fs.getD k.toNat facD).k < 1 by omega)]; rfl) | (simp; omega)) rfl) ?_
           refine pV ?_
           refine skF rfl rfl (by first | exact decide_eq_true u3 | (rw [decide_eq_true u3]; rfl) | simp [u3]) rfl rfl ?_
           refine skF rfl rfl (by first | exact decide_eq_true u3 | (rw [decide_eq_true u3]; rfl) | simp [u3]) rfl rfl ?_
           refine skF rfl rfl (by first | exact decide_eq_true u3 | (rw [decide_eq_true u3]; rfl) | simp [u3]) rfl rfl ?_
           refine skF rfl rfl (by first | exact decide_eq_true u3 | (rw [decide_eq_true u3]; rfl) | simp [u3]) rfl rfl ?_
           refine skF rfl rfl (by first | exact decide_eq_true u3 | (rw [decide_eq_true u3]; rfl) | simp [u3]) rfl rfl ?_
           refine skF rfl rfl (by first | exact decide_eq_true u3 | (rw [decide_eq_true u3]; rfl) | simp [u3]) rfl rfl ?_
           refine skF rfl rfl (by first | exact decide_eq_true u3 | (rw [decide_eq_true u3]; rfl) | simp [u3]) rfl rfl ?_
           refine skF rfl rfl (by first | exact decide_eq_true u3 | (rw [decide_eq_true u3]; rfl) | simp [u3]) rfl rfl ?_
           refine skF rfl rfl (by first | exact decide_eq_true u3 | (rw [decide_eq_true u3]; rfl) | simp [u3]) rfl rfl ?_
           refine sV (rPick1 rfl rfl (by first | exact decide_eq_true u3 | (rw [decide_eq_true u3]; rfl) | simp [u3]) rfl) ?_
           refine tC rfl (fun h14 => ?_) (fun h14 => ?_)
           ·try simp only [zbA] at h14
            refine tS ?_
            refine tR fun _ _ _ => ?_
            refine pV ?_
            exact tr_ret ⟨trivial, _, _, rfl, ⟨rfl, rfl⟩, CSub.nil _, trivial⟩
           ·try simp only [zbA] at h14
            first | exact absurd trivial h14 | exact absurd rfl h14 | omega | (exact absurd h14 (by simp)) --done
         ·refine tR fun _ _ _ => ?_
          refine sV (rFld rfl rfl) ?_
          refine sV (rLdSF rfl rfl) ?_
          refine pV ?_
          refine eV (eCallV rfl rfl rfl (ref_Right p m A c mod B13 _ c13 (il (pol (fs.getD k.toNat facD).r.xs : Po (El p m mod))) rfl (by omega)) ⟨rfl, rfl, trivial⟩ ?_)
          rw [pol_il]
          iterate 2 refine pV ?_
          refine stT rfl rfl rfl (by first | exact decide_eq_false (fun h => h u1) | (rw [decide_eq_false (fun h => h u1)]; rfl) | simp [u1]) rfl rfl (rFld rfl rfl) ?_
          refine stT rfl rfl rfl (by first | exact decide_eq_false (fun h => h u1) | (rw [decide_eq_false (fun h => h u1)]; rfl) | simp [u1]) rfl rfl (rLdF rfl rfl rfl) ?_
          refine stT rfl rfl rfl (by first | exact decide_eq_false (fun h => h u1) | (rw [decide_eq_false (fun h => h u1)]; rfl) | simp [u1]) rfl rfl (rMove rfl rfl) ?_
          refine stT rfl rfl rfl (by first | exact decide_eq_false (fun h => h u1) | (rw [decide_eq_false (fun h => h u1)]; rfl) | simp [u1]) rfl rfl (rIdxT rfl rfl rfl (by omega) (by omega) (by simp; omega)) ?_
          refine stT rfl rfl rfl (by first | exact decide_eq_false (fun h => h u1) | (rw [decide_eq_false (fun h => h u1)]; rfl) | simp [u1]) rfl rfl (rFld rfl rfl) ?_
          refine stT rfl rfl rfl (by first | exact decide_eq_false (fun h => h u1) | (rw [decide_eq_false (fun h => h u1)]; rfl) | simp [u1]) rfl rfl (rLdG1 rfl rfl (by omega)) ?_
          refine stT rfl rfl rfl (by first | exact decide_eq_false (fun h => h u1) | (rw [decide_eq_false (fun h => h u1)]; rfl) | simp [u1]) rfl rfl (rLss rfl rfl rfl) ?_
          refine sV (rPick0 rfl rfl (by first | exact decide_eq_false (fun h => h u1) | (rw [decide_eq_false (fun h => h u1)]; rfl) | simp [u1]) rfl) ?_
          refine pV ?_
          try have hle14 := facE_ok u1
          refine skF rfl rfl (by first | exact decide_eq_true (by omega) | (rw [decide_eq_true (show (fs.getD k.toNat facD).k < 1 by omega)]; rfl) | (simp; omega)) rfl rfl ?_
          refine skF rfl rfl (by first | exact decide_eq_true (by omega) | (rw [decide_eq_true (show (fs.getD k.toNat facD).k < 1 by omega)]; rfl) | (simp; omega)) rfl rfl ?_
          refine skF rfl rfl (by first | exact decide_eq_true (by omega) | (rw [decide_eq_true (show (fs.getD k.toNat facD).k < 1 by omega)]; rfl) | (simp; omega)) rfl rfl ?_
          refine skF rfl rfl (by first | exact decide_eq_true (by omega) | (rw [decide_eq_true (show (fs.getD k.toNat facD).k < 1 by omega)]; rfl) | (simp; omega)) rfl rfl ?_
          refine skF rfl rfl (by first | exact decide_eq_true (by omega) | (rw [decide_eq_true (show (fs.getD k.toNat facD).k < 1 by omega)]; rfl) | (simp; omega)) rfl rfl ?_
          refine skF rfl rfl (by first | exact decide_eq_true (by omega) | (rw [decide_eq_true (show (fs.getD k.toNat facD).k < 1 by omega)]; rfl) | (simp; omega)) rfl rfl ?_
          refine skF rfl rfl (by first | exact decide_eq_true (by omega) | (rw [decide_eq_true (show (fs.getD k.toNat facD).k < 1 by omega)]; rfl) | (simp; omega)) rfl rfl ?_
          refine sV (rPick1 rfl rfl (by first | exact decide_eq_true (by omega) | (rw [decide_eq_true (show (fs.getD k.toNat facD).k < 1 by omega)]; rfl) | (simp; omega)) rfl) ?_
          refine pV ?_
          refine skF rfl rfl (rfl) rfl rfl ?_
          refine skF rfl rfl (rfl) rfl rfl ?_
          refine skF rfl rfl (rfl) rfl rfl ?_
          refine skF rfl rfl (rfl) rfl rfl ?_
          refine skF rfl rfl (rfl) rfl rfl ?_
          refine skF rfl rfl (rfl) rfl rfl ?_
          refine skF rfl rfl (rfl) rfl rfl ?_
          refine skF rfl rfl (rfl) rfl rfl ?_
          refine skF rfl rfl (rfl) rfl rfl ?_
          refine sV (rPick1 rfl rfl (rfl) rfl) ?_
          refine tC rfl (fun h14 => ?_) (fun h14 => ?_)
          ·try simp only [zbA] at h14
           refine tS ?_
           refine tR fun _ _ _ => ?_
           refine pV ?_
           exact tr_ret ⟨trivial, _, _, rfl, ⟨rfl, rfl⟩, CSub.nil _, trivial⟩
          ·try simp only [zbA] at h14
           first | exact absurd trivial h14 | exact absurd rfl h14 | omega | (exact absurd h14 (by simp)) --done
        ·refine tR fun _ _ _ => ?_
         refine sV (rFld rfl rfl) ?_
         refine sV (rLdSF rfl rfl) ?_
         refine pV ?_
         refine eV (eCallV rfl rfl rfl (ref_Right p m A c mod B13 _ c13 (il (pol (fs.getD k.toNat facD).r.xs : Po (El p m mod))) rfl (by omega)) ⟨rfl, rfl, trivial⟩ ?_)
         rw [pol_il]
         iterate 2 refine pV ?_
         refine skF rfl rfl (by first | exact decide_eq_true u1 | (rw [decide_eq_true u1]; rfl) | simp [u1]) rfl rfl ?_
         refine skF rfl rfl (by first | exact decide_eq_true u1 | (rw [decide_eq_true u1]; rfl) | simp [u1]) rfl rfl ?_
         refine skF rfl rfl (by first | exact decide_eq_true u1 | (rw [decide_eq_true u1]; rfl) | simp [u1]) rfl rfl ?_
         refine skF rfl rfl (by first | exact decide_eq_true u1 | (rw [decide_eq_true u1]; rfl) | simp [u1]) rfl rfl ?_
         refine skF rfl rfl (by first | exact decide_eq_true u1 | (rw [decide_eq_true u1]; rfl) | simp [u1]) rfl rfl ?_
         refine skF rfl rfl (by first | exact decide_eq_true u1 | (rw [decide_eq_true u1]; rfl) | simp [u1]) rfl rfl ?_
         refine skF rfl rfl (by first | exact decide_eq_true u1 | (rw [decide_eq_true u1]; rfl) | simp [u1]) rfl rfl ?_
         refine sV (rPick1 rfl rfl (by first | exact decide_eq_true u1 | (rw [decide_eq_true u1]; rfl) | simp [u1]) rfl) ?_
         refine pV ?_
         try have hle14 := facE_ok u1
         refine skF rfl rfl (rfl) rfl rfl ?_
         refine skF rfl rfl (rfl) rfl rfl ?_
         refine skF rfl rfl (rfl) rfl rfl ?_
         refine skF rfl rfl (rfl) rfl rfl ?_
         refine skF rfl rfl (rfl) rfl rfl ?_
         refine skF rfl rfl (rfl) rfl rfl ?_
         refine skF rfl rfl (rfl) rfl rfl ?_
         refine sV (rPick1 rfl rfl (rfl) rfl) ?_
         refine pV ?_
         refine skF rfl rfl (rfl) rfl rfl ?_
         refine skF rfl rfl (rfl) rfl rfl ?_
         refine skF rfl rfl (rfl) rfl rfl ?_
         refine skF rfl rfl (rfl) rfl rfl ?_
         refine skF rfl rfl (rfl) rfl rfl ?_
         refine skF rfl rfl (rfl) rfl rfl ?_
         refine skF rfl rfl (rfl) rfl rfl ?_
         refine skF rfl rfl (rfl) rfl rfl ?_
         refine skF rfl rfl (rfl) rfl rfl ?_
         refine sV (rPick1 rfl rfl (rfl) rfl) ?_
         refine tC rfl (fun h14 => ?_) (fun h14 => ?_)
         ·try simp only [zbA] at h14
          refine tS ?_
          refine tR fun _ _ _ => ?_
          refine pV ?_
          exact tr_ret ⟨trivial, _, _, rfl, ⟨rfl, rfl⟩, CSub.nil _, trivial⟩
         ·try simp only [zbA] at h14
          first | exact absurd trivial h14 | exact absurd rfl h14 | omega | (exact absurd h14 (by simp)) --done
      ·try simp only [zbA] at h9
       refine tE ?_
       refine tS ?_
       have hnn : ∀ f ∈ fs, 0 ≤ f.k := fun f hf => by
        obtain ⟨j, hj, rfl⟩ := List.getElem_of_mem hf
        have := (hall j (by omega)).1.k1
        rw [List.getD_eq_getElem?_getD, List.getElem?_eq_getElem hj] at this
        simp only [Option.getD_some] at this
        omega
       refine tR fun _ _ _ => ?_
       refine sV (rFld rfl rfl) ?_
       refine sV (rLdSF rfl rfl) ?_
       refine sV (rFld rfl rfl) ?_
       refine sV (rLdF rfl rfl rfl) ?_
       refine sV (rFld rfl rfl) ?_
       refine sV (rLdF rfl rfl rfl) ?_
       refine eV (eCallV rfl rfl rfl (ref_ProductB p m A c mod ld X nx cx fs hnx hf9 hfx hnn hbig) ⟨rfl, rfl, rfl, trivial⟩ ?_)
       iterate 5 refine pV ?_
       refine tS ?_
       refine tS ?_
       refine tR fun _ _ _ => ?_
       iterate 3 refine pV ?_
       refine skF rfl rfl (by simp) rfl rfl ?_
       refine skF rfl rfl (by simp) rfl rfl ?_
       refine skF rfl rfl (by simp) rfl rfl ?_
       refine skF rfl rfl (by simp) rfl rfl ?_
       refine skF rfl rfl (by simp) rfl rfl ?_
       refine sV (rPick1 rfl rfl (by simp) rfl) ?_
       refine tC rfl (fun h19 => ?_) (fun h19 => ?_)
       ·try simp only [zbA] at h19
        refine tS ?_
        refine tR fun _ _ _ => ?_
        refine pV ?_
        exact tr_ret ⟨trivial, _, _, rfl, ⟨rfl, rfl⟩, CSub.nil _, trivial⟩
       ·try simp only [zbA] at h19
        first | exact absurd trivial h19 | exact absurd rfl h19 | omega | (exact absurd h19 (by simp)) --done
   ·refine tR fun _ _ _ => ?_
    refine sV (rFld rfl rfl) ?_
    refine sV (rLdSF rfl rfl) ?_
    refine sV (rFld rfl rfl) ?_
    refine sV (rLdF rfl rfl rfl) ?_
    refine eV (eCallV rfl rfl rfl (ref_Is p m A c mod ld) ⟨rfl, rfl, trivial⟩ ?_)
    refine sV (rNotB rfl rfl) ?_
    refine pV ?_
    refine skF rfl rfl (by first | (simp; omega) | simp [s1]) rfl rfl ?_
    refine skF rfl rfl (by first | (simp; omega) | simp [s1]) rfl rfl ?_
    refine skF rfl rfl (by first | (simp; omega) | simp [s1]) rfl rfl ?_
    refine sV (rPick1 rfl rfl (by first | (simp; omega) | simp [s1]) rfl) ?_
    refine pV ?_
    refine skF rfl rfl (rfl) rfl rfl ?_
    refine skF rfl rfl (rfl) rfl rfl ?_
    refine skF rfl rfl (rfl) rfl rfl ?_
    refine skF rfl rfl (rfl) rfl rfl ?_
    refine sV (rPick1 rfl rfl (rfl) rfl) ?_
    refine tC rfl (fun h6 => ?_) (fun h6 => ?_)
    ·try simp only [zbA] at h6
     refine tS ?_
     refine tR fun _ _ _ => ?_
     refine pV ?_
     exact tr_ret ⟨trivial, _, _, rfl, ⟨rfl, rfl⟩, CSub.nil _, trivial⟩
    ·try simp only [zbA] at h6
     first | exact absurd trivial h6 | exact absurd rfl h6 | omega | (exact absurd h6 (by simp)) --done
theorem law_FactorUnique_G_ent : Enters Tryz.prog 5 := enters_of Tryz.func5 (by kernel_rfl) (by kernel_rfl)
theorem law_FactorUnique_G (p m : Int) (A : Option Addr) (c : Nat) (mod : List Int) [hF : IsF p m mod] (hl9 : mod.length ≤ 17592186044415) (ld : Int) (X : Option Addr) (nx cx : Nat) (fs : List FacM) (hnx : nx = fs.length) (hf9 : fs.length ≤ 17592186044415) (hfx : ∀ f ∈ fs, f.r.xs.length ≤ 17592186044415 ∧ f.k ≤ 9223372036854775807 ∧ -9223372036854775808 ≤ f.k) (hsm : fcT p m mod fs fs.length ≤ 256) :
  Pure Tryz.prog 5 #[.agg #[.int .i64 p, .int .i64 m, .slice A mod.length c, .int .i64 ld, .slice X nx cx]] [ro A (ints mod), ro X (prs (fcs fs)), rowsR (rws fs)] (isV (.bool true)) := by
 refine pure_of (args := [.agg #[.int .i64 p, .int .i64 m, .slice A mod.length c, .int .i64 ld, .slice X nx cx]]) 174 Tryz.func5 rfl rfl rfl law_FactorUnique_G_ent ⟨id, id, id, trivial⟩ (fun w0 => ?_)
 refine tS ?_
 refine tR fun _ _ _ => ?_
 refine eV (eBox rfl rfl rfl rfl rfl (fun p0 => ?_))
 refine pV ?_
 refine tS ?_
 refine tR fun _ _ _ => ?_
 refine sV (rFld rfl rfl) ?_
 refine sV (rLdSF rfl rfl) ?_
 refine eV (eCall1 rfl rfl rfl (law_open_ok _ _ _ _ _ (by omega) hF.out) ⟨rfl, trivial⟩ ?_)
 rintro _ _ ⟨g, rfl, rfl, hg⟩
 iterate 7 refine pV ?_
 refine tS ?_
 refine tS ?_
 refine tR fun _ _ _ => ?_
 refine pV ?_
 refine tC rfl (fun h2 => ?_) (fun h2 => ?_)
 ·try simp only [zbA] at h2
  cases h2 --done
 ·try simp only [zbA] at h2
  refine tK ?_
  refine tS ?_
  refine tS ?_
  refine tR fun _ _ _ => ?_
  refine pV ?_
  refine eV (eCallV rfl rfl rfl (law06_alive g hg) ⟨rfl, trivial⟩ ?_)
  refine sV (rNotB rfl rfl) ?_
  refine tC rfl (fun h4 => ?_) (fun h4 => ?_)
  ·try simp only [zbA] at h4
   first | exact absurd trivial h4 | exact absurd rfl h4 | omega | (exact absurd h4 (by simp)) --done
  ·try simp only [zbA] at h4
   refine tK ?_
   refine tS ?_
   refine tS ?_
   have hord := hF.ord
   by_cases s1 : 0 ≤ ld ∧ ld < ordI p m
   ·by_cases s2 : ld = 0
    ·refine tR fun _ _ _ => ?_
     refine sV (rFld rfl rfl) ?_
     refine sV (rLdSF rfl rfl) ?_
     refine sV (rFld rfl rfl) ?_
     refine sV (rLdF rfl rfl rfl) ?_
     refine eV (eCallV rfl rfl rfl (ref_Is p m A c mod ld) ⟨rfl, rfl, trivial⟩ ?_)
     refine sV (rNotB rfl rfl) ?_
     refine pV ?_
     refine stT rfl rfl rfl (by first | (simp; omega) | simp [s1]) rfl rfl (rFld rfl rfl) ?_
     refine stT rfl rfl rfl (by first | (simp; omega) | simp [s1]) rfl rfl (rLdF rfl rfl rfl) ?_
     refine stT rfl rfl rfl (by first | (simp; omega) | simp [s1]) rfl rfl (rEql rfl rfl rfl) ?_
     refine sV (rPick0 rfl rfl (by first | (simp; omega) | simp [s1]) rfl) ?_
     refine pV ?_
     refine skF rfl rfl (by first | exact decide_eq_true (s2) | (rw [decide_eq_true (s2)]; rfl) | (simp; exact s2) | simp [s2]) rfl rfl ?_
     refine skF rfl rfl (by first | exact decide_eq_true (s2) | (rw [decide_eq_true (s2)]; rfl) | (simp; exact s2) | simp [s2]) rfl rfl ?_
     refine skF rfl rfl (by first | exact decide_eq_true (s2) | (rw [decide_eq_true (s2)]; rfl) | (simp; exact s2) | simp [s2]) rfl rfl ?_
     refine skF rfl rfl (by first | exact decide_eq_true (s2) | (rw [decide_eq_true (s2)]; rfl) | (simp; exact s2) | simp [s2]) rfl rfl ?_
     refine sV (rPick1 rfl rfl (by first | exact decide_eq_true (s2) | (rw [decide_eq_true (s2)]; rfl) | (simp; exact s2) | simp [s2]) rfl) ?_
     refine tC rfl (fun h6 => ?_) (fun h6 => ?_)
     ·try simp only [zbA] at h6
      refine tS ?_
      refine tR fun _ _ _ => ?_
      refine pV ?_
      exact tr_ret ⟨trivial, _, _, rfl, ⟨rfl, rfl⟩, CSub.nil _, trivial⟩
     ·try simp only [zbA] at h6
      first | exact absurd trivial h6 | exact absurd rfl h6 | omega | (exact absurd h6 (by simp)) --done
    ·refine tR fun _ _ _ => ?_
     refine sV (rFld rfl rfl) ?_
     refine sV (rLdSF rfl rfl) ?_
     refine sV (rFld rfl rfl) ?_
     refine sV (rLdF rfl rfl rfl) ?_
     refine eV (eCallV rfl rfl rfl (ref_Is p m A c mod ld) ⟨rfl, rfl, trivial⟩ ?_)
     refine sV (rNotB rfl rfl) ?_
     refine pV ?_
     refine stT rfl rfl rfl (by first | (simp; omega) | simp [s1]) rfl rfl (rFld rfl rfl) ?_
     refine stT rfl rfl rfl (by first | (simp; omega) | simp [s1]) rfl rfl (rLdF rfl rfl rfl) ?_
     refine stT rfl rfl rfl (by first | (simp; omega) | simp [s1]) rfl rfl (rEql rfl rfl rfl) ?_
     refine sV (rPick0 rfl rfl (by first | (simp; omega) | simp [s1]) rfl) ?_
     refine pV ?_
     refine stT rfl rfl rfl (by first | exact decide_eq_false (s2) | (rw [decide_eq_false (s2)]; rfl) | (simp; exact s2) | simp [s2]) rfl rfl (rFld rfl rfl) ?_
     refine stT rfl rfl rfl (by first | exact decide_eq_false (s2) | (rw [decide_eq_false (s2)]; rfl) | (simp; exact s2) | simp [s2]) rfl rfl (rLdF rfl rfl rfl) ?_
     refine stT rfl rfl rfl (by first | exact decide_eq_false (s2) | (rw [decide_eq_false (s2)]; rfl) | (simp; exact s2) | simp [s2]) rfl rfl (rLenS rfl rfl) ?_
     refine stT rfl rfl rfl (by first | exact decide_eq_false (s2) | (rw [decide_eq_false (s2)]; rfl) | (simp; exact s2) | simp [s2]) rfl rfl (rGtr rfl rfl rfl) ?_
     refine sV (rPick0 rfl rfl (by first | exact decide_eq_false (s2) | (rw [decide_eq_false (s2)]; rfl) | (simp; exact s2) | simp [s2]) rfl) ?_
     refine tC rfl (fun h6 => ?_) (fun h6 => ?_)
     ·try simp only [zbA] at h6
      refine tS ?_
      refine tR fun _ _ _ => ?_
      refine pV ?_
      exact tr_ret ⟨trivial, _, _, rfl, ⟨rfl, rfl⟩, CSub.nil _, trivial⟩
     ·try simp only [zbA] at h6
      refine tK ?_
      refine tS ?_
      refine tS ?_
      refine tR fun _ _ _ => ?_
      refine pV ?_
      refine tB ?_
      refine tr_loop1 (fun (k : Int) => [(6, .int .i64 k), (1, .pointer (some p0)), (3, .pointer (some g.p))]) (fun (k : Int) => [gfN g, blk p0 47 [.int .i64 p, .int .i64 m, .slice A mod.length c, .int .i64 ld, .slice X nx cx], ro A (ints mod), ro X (prs (fcs fs)), rowsR (rws fs)]) (fun (k : Int) => (0 ≤ k ∧ k ≤ nx) ∧ ∀ j : Nat, (j : Int) < k → GdU (p := p) (m := m) (mod := mod) (fs.getD j facD) ∧ (0 < j → cmpL (fs.getD (j - 1) facD).r.xs (fs.getD j facD).r.xs < 0)) (fun (k : Int) => (nx - k).toNat) (0) ⟨rfl, rfl, rfl, trivial⟩ (by first | exact cs _ _ | exact CSub.refl _) (⟨⟨by omega, by omega⟩, fun j hj => by omega⟩) (fun k hI => ?_)
      obtain ⟨⟨hk0, hk1⟩, hall⟩ := hI
      refine tS ?_
      refine tS ?_
      refine tR fun _ _ _ => ?_
      refine pV ?_
      refine sV (rFld rfl rfl) ?_
      refine sV (rLdF rfl rfl rfl) ?_
      refine sV (rLenS rfl rfl) ?_
      refine pV ?_
      refine tC rfl (fun h9 => ?_) (fun h9 => ?_)
      ·try simp only [zbA] at h9
       refine tK ?_
       refine tS ?_
       refine tB ?_
       refine tS ?_
       refine tS ?_
       have hjl : k.toNat < fs.length := by omega
       have hfe := hfx _ (getD_mem hjl facD)
       refine tR fun _ _ _ => ?_
       refine sV (rFld rfl rfl) ?_
       refine sV (rLdF rfl rfl rfl) ?_
       refine pV ?_
       refine sV (rIdxT rfl rfl rfl (by omega) (by omega) (by simp; omega)) ?_
       refine sV (rFld rfl rfl) ?_
       refine sV (rLdG0 rfl rfl (by omega)) ?_
       refine sV (rLen rfl rfl) ?_
       refine pV ?_
       refine tC rfl (fun h11 => ?_) (fun h11 => ?_)
       ·try simp only [zbA] at h11
        refine tS ?_
        refine tR fun _ _ _ => ?_
        refine pV ?_
        exact tr_ret ⟨trivial, _, _, rfl, ⟨rfl, rfl⟩, CSub.nil _, trivial⟩
       ·try simp only [zbA] at h11
        refine tK ?_
        refine tS ?_
        haveI : InB k.toNat fs.length := ⟨hjl⟩
        refine tr_draw [0, 1, 2, 3, 4, 5, 6, 7, 8, 9] [] mixed (by kernel_rfl) fun _ _ _ => ?_
        refine sV (rFld rfl rfl) ?_
        refine sV (rLdSF rfl rfl) ?_
        refine sV (rFld rfl rfl) ?_
        refine sV (rLdF rfl rfl rfl) ?_
        refine pV ?_
        refine sV (rIdxT rfl rfl rfl (by omega) (by omega) (by simp; omega)) ?_
        refine sV (rFld rfl rfl) ?_
        refine sV (rLdG0 rfl rfl (by omega)) ?_
        refine eV (eCall1 rfl rfl rfl (ref_CanonE p m A c mod (fs.getD k.toNat facD).r.A _ (fs.getD k.toNat facD).r.cap (fs.getD k.toNat facD).r.xs rfl hfe.1) ⟨rfl, rfl, trivial⟩ ?_)
        rintro _ _ ⟨B13, c13, rfl, rfl⟩
        refine pV ?_
        refine tS ?_
        refine tS ?_
        have hilq := il_length (pol (fs.getD k.toNat facD).r.xs : Po (El p m mod))
        have hqle : Po.len (pol (fs.getD k.toNat facD).r.xs : Po (El p m mod)) ≤ (fs.getD k.toNat facD).r.xs.length := Po.len_le (pol_sh _)
        by_cases u1 : facE (Po.len (pol (fs.getD k.toNat facD).r.xs : Po (El p m mod))) = 0
        ·by_cases u2 : 1 ≤ (fs.getD k.toNat facD).k
         ·by_cases u3 : (il (pol (fs.getD k.toNat facD).r.xs : Po (El p m mod))).getD (((il (pol (fs.getD k.toNat facD).r.xs : Po (El p m mod))).length : Int) - 1).toNat 0 = 1
          ·refine tR fun _ _ _ => ?_
           refine sV (rFld rfl rfl) ?_
           refine sV (rLdSF rfl rfl) ?_
           refine pV ?_
           refine eV (eCallV rfl rfl rfl (ref_Right p m A c mod B13 _ c13 (il (pol (fs.getD k.toNat facD).r.xs : Po (El p m mod))) rfl (by omega)) ⟨rfl, rfl, trivial⟩ ?_)
           rw [pol_il]
           iterate 2 refine pV ?_
           refine stT rfl rfl rfl (by first | exact decide_eq_false (fun h => h u1) | (rw [decide_eq_false (fun h => h u1)]; rfl) | simp [u1]) rfl rfl (rFld rfl rfl) ?_
           refine stT rfl rfl rfl (by first | exact decide_eq_false (fun h => h u1) | (rw [decide_eq_false (fun h => h u1)]; rfl) | simp [u1]) rfl rfl (rLdF rfl rfl rfl) ?_
           refine stT rfl rfl rfl (by first | exact decide_eq_false (fun h => h u1) | (rw [decide_eq_false (fun h => h u1)]; rfl) | simp [u1]) rfl rfl (rMove rfl rfl) ?_
           refine stT rfl rfl rfl (by first | exact decide_eq_false (fun h => h u1) | (rw [decide_eq_false (fun h => h u1)]; rfl) | simp [u1]) rfl rfl (rIdxT rfl rfl rfl (by omega) (by omega) (by simp; omega)) ?_
           refine stT rfl rfl rfl (by first | exact decide_eq_false (fun h => h u1) | (rw [decide_eq_false (fun h => h u1)]; rfl) | simp [u1]) rfl rfl (rFld rfl rfl) ?_
           refine stT rfl rfl rfl (by first | exact decide_eq_false (fun h => h u1) | (rw [decide_eq_false (fun h => h u1)]; rfl) | simp [u1]) rfl rfl (rLdG1 rfl rfl (by omega)) ?_
           refine stT rfl rfl rfl (by first | exact decide_eq_false (fun h => h u1) | (rw [decide_eq_false (fun h => h u1)]; rfl) | simp [u1]) rfl rfl (rLss rfl rfl rfl) ?_
           refine sV (rPick0 rfl rfl (by first | exact decide_eq_false (fun h => h u1) | (rw [decide_eq_false (fun h => h u1)]; rfl) | simp [u1]) rfl) ?_
           refine pV ?_
           try have hle14 := facE_ok u1
           refine stT rfl rfl rfl (by first | exact decide_eq_false (by omega) | (rw [decide_eq_false (show ¬ (fs.getD k.toNat facD).k < 1 by omega)]; rfl) | (simp; omega)) rfl rfl (rMove rfl rfl) ?_
           refine stT rfl rfl rfl (by first | exact decide_eq_false (by omega) | (rw [decide_eq_false (show ¬ (fs.getD k.toNat facD).k < 1 by omega)]; rfl) | (simp; omega)) rfl rfl (rMove rfl rfl) ?_
           refine stT rfl rfl rfl (by first | exact decide_eq_false (by omega) | (rw [decide_eq_false (show ¬ (fs.getD k.toNat facD).k < 1 by omega)]; rfl) | (simp; omega)) rfl rfl (rLen rfl rfl) ?_
           refine stT rfl rfl rfl (by first | exact decide_eq_false (by omega) | (rw [decide_eq_false (show ¬ (fs.getD k.toNat facD).k < 1 by omega)]; rfl) | (simp; omega)) rfl rfl (rSub rfl rfl rfl (by omega) (by omega)) ?_
           refine stT rfl rfl rfl (by first | exact decide_eq_false (by omega) | (rw [decide_eq_false (show ¬ (fs.getD k.toNat facD).k < 1 by omega)]; rfl) | (simp; omega)) rfl rfl (rIdxI rfl rfl rfl (by omega) (by omega) (by omega)) ?_
           refine stT rfl rfl rfl (by first | exact decide_eq_false (by omega) | (rw [decide_eq_false (show ¬ (fs.getD k.toNat facD).k < 1 by omega)]; rfl) | (simp; omega)) rfl rfl (rLdI rfl rfl (by omega)) ?_
           refine stT rfl rfl rfl (by first | exact decide_eq_false (by omega) | (rw [decide_eq_false (show ¬ (fs.getD k.toNat facD).k < 1 by omega)]; rfl) | (simp; omega)) rfl rfl (rNeq rfl rfl rfl) ?_
           refine sV (rPick0 rfl rfl (by first | exact decide_eq_false (by omega) | (rw [decide_eq_false (show ¬ (fs.getD k.toNat facD).k < 1 by omega)]; rfl) | (simp; omega)) rfl) ?_
           refine pV ?_
           refine stT rfl rfl rfl (by first | exact decide_eq_false (fun h => h u3) | (rw [decide_eq_false (fun h => h u3)]; rfl) | simp [u3]) rfl rfl (rMove rfl rfl) ?_
           refine stT rfl rfl rfl (by first | exact decide_eq_false (fun h => h u3) | (rw [decide_eq_false (fun h => h u3)]; rfl) | simp [u3]) rfl rfl (rFld rfl rfl) ?_
           refine stT rfl rfl rfl (by first | exact decide_eq_false (fun h => h u3) | (rw [decide_eq_false (fun h => h u3)]; rfl) | simp [u3]) rfl rfl (rLdF rfl rfl rfl) ?_
           refine stT rfl rfl rfl (by first | exact decide_eq_false (fun h => h u3) | (rw [decide_eq_false (fun h => h u3)]; rfl) | simp [u3]) rfl rfl (rMove rfl rfl) ?_
           refine stT rfl rfl rfl (by first | exact decide_eq_false (fun h => h u3) | (rw [decide_eq_false (fun h => h u3)]; rfl) | simp [u3]) rfl rfl (rIdxT rfl rfl rfl (by omega) (by omega) (by simp; omega)) ?_
           refine stT rfl rfl rfl (by first | exact decide_eq_false (fun h => h u3) | (rw [decide_eq_false (fun h => h u3)]; rfl) | simp [u3]) rfl rfl (rFld rfl rfl) ?_
           refine stT rfl rfl rfl (by first | exact decide_eq_false (fun h => h u3) | (rw [decide_eq_false (fun h => h u3)]; rfl) | simp [u3]) rfl rfl (rLdG0 rfl rfl (by omega)) ?_
           refine efT rfl rfl rfl (by first | exact decide_eq_false (fun h => h u3) | (rw [decide_eq_false (fun h => h u3)]; rfl) | simp [u3]) (eCallV rfl rfl rfl (ref_SameInts6 B13 _ c13 (il (pol (fs.getD k.toNat facD).r.xs : Po (El p m mod))) rfl (fs.getD k.toNat facD).r.A _ (fs.getD k.toNat facD).r.cap (fs.getD k.toNat facD).r.xs rfl (by omega)) ⟨rfl, rfl, trivial⟩ ?_)
           refine stT rfl rfl rfl (by first | exact decide_eq_false (fun h => h u3) | (rw [decide_eq_false (fun h => h u3)]; rfl) | simp [u3]) rfl rfl (rNotB rfl rfl) ?_
           refine sV (rPick0 rfl rfl (by first | exact decide_eq_false (fun h => h u3) | (rw [decide_eq_false (fun h => h u3)]; rfl) | simp [u3]) rfl) ?_
           refine tC rfl (fun h14 => ?_) (fun h14 => ?_)
           ·try simp only [zbA] at h14
            refine tS ?_
            refine tR fun _ _ _ => ?_
            refine pV ?_
            exact tr_ret ⟨trivial, _, _, rfl, ⟨rfl, rfl⟩, CSub.nil _, trivial⟩
           ·try simp only [zbA] at h14
            refine tK ?_
            refine tS ?_
            haveI : InB (k - 1).toNat fs.length := ⟨by omega⟩
            have hfy := hfx _ (getD_mem (show (k - 1).toNat < fs.length by omega) facD)
            have hgd : GdU (p := p) (m := m) (mod := mod) (fs.getD k.toNat facD) := ⟨by omega, u1, u2, u3, by simpa using h14⟩
            by_cases w1 : 0 < k
            ·refine tr_draw [0, 1, 2, 3, 4, 5, 6, 7, 8, 9, 10, 11, 12, 13, 14, 15] [] mixed (by kernel_rfl) fun _ _ _ => ?_
             iterate 3 refine pV ?_
             refine stT rfl rfl rfl (by first | exact decide_eq_true (w1) | (rw [decide_eq_true (w1)]; rfl) | (simp; exact w1) | simp [w1]) rfl rfl (rFld rfl rfl) ?_
             refine stT rfl rfl rfl (by first | exact decide_eq_true (w1) | (rw [decide_eq_true (w1)]; rfl) | (simp; exact w1) | simp [w1]) rfl rfl (rLdSF rfl rfl) ?_
             refine stT rfl rfl rfl (by first | exact decide_eq_true (w1) | (rw [decide_eq_true (w1)]; rfl) | (simp; exact w1) | simp [w1]) rfl rfl (rFld rfl rfl) ?_
             refine stT rfl rfl rfl (by first | exact decide_eq_true (w1) | (rw [decide_eq_true (w1)]; rfl) | (simp; exact w1) | simp [w1]) rfl rfl (rLdF rfl rfl rfl) ?_
             refine stT rfl rfl rfl (by first | exact decide_eq_true (w1) | (rw [decide_eq_true (w1)]; rfl) | (simp; exact w1) | simp [w1]) rfl rfl (rMove rfl rfl) ?_
             refine stT rfl rfl rfl (by first | exact decide_eq_true (w1) | (rw [decide_eq_true (w1)]; rfl) | (simp; exact w1) | simp [w1]) rfl rfl (rSub rfl rfl rfl (by omega) (by omega)) ?_
             refine stT rfl rfl rfl (by first | exact decide_eq_true (w1) | (rw [decide_eq_true (w1)]; rfl) | (simp; exact w1) | simp [w1]) rfl rfl (rIdxT rfl rfl rfl (by omega) (by omega) (by simp; omega)) ?_
             refine stT rfl rfl rfl (by first | exact decide_eq_true (w1) | (rw [decide_eq_true (w1)]; rfl) | (simp; exact w1) | simp [w1]) rfl rfl (rFld rfl rfl) ?_
             refine stT rfl rfl rfl (by first | exact decide_eq_true (w1) | (rw [decide_eq_true (w1)]; rfl) | (simp; exact w1) | simp [w1]) rfl rfl (rLdG0 rfl rfl (by omega)) ?_
             refine stT rfl rfl rfl (by first | exact decide_eq_true (w1) | (rw [decide_eq_true (w1)]; rfl) | (simp; exact w1) | simp [w1]) rfl rfl (rMove rfl rfl) ?_
             refine efT rfl rfl rfl (by first | exact decide_eq_true (w1) | (rw [decide_eq_true (w1)]; rfl) | (simp; exact w1) | simp [w1]) (eCallV rfl rfl rfl (ref_Compare p m A c mod (fs.getD (k - 1).toNat facD).r.A _ (fs.getD (k - 1).toNat facD).r.cap (fs.getD (k - 1).toNat facD).r.xs rfl hfy.1 B13 _ c13 (il (pol (fs.getD k.toNat facD).r.xs : Po (El p m mod))) rfl (by omega)) ⟨rfl, rfl, rfl, trivial⟩ ?_)
             refine stT rfl rfl rfl (by first | exact decide_eq_true (w1) | (rw [decide_eq_true (w1)]; rfl) | (simp; exact w1) | simp [w1]) rfl rfl (rGeq rfl rfl rfl) ?_
             refine sV (rPick1 rfl rfl (by first | exact decide_eq_true (w1) | (rw [decide_eq_true (w1)]; rfl) | (simp; exact w1) | simp [w1]) rfl) ?_
             refine tC rfl (fun h16 => ?_) (fun h16 => ?_)
             ·try simp only [zbA] at h16
              refine tS ?_
              refine tR fun _ _ _ => ?_
              refine pV ?_
              exact tr_ret ⟨trivial, _, _, rfl, ⟨rfl, rfl⟩, CSub.nil _, trivial⟩
             ·try simp only [zbA] at h16
              refine tK ?_
              refine tR fun _ _ _ => ?_
              refine pV ?_
              refine sV (rAdd rfl rfl rfl (by omega) (by omega)) ?_
              refine pV ?_
              refine ⟨k + 1, ⟨rfl, rfl, rfl, trivial⟩, by first | exact cs _ _ | exact CSub.refl _, ?_⟩
              refine ⟨⟨⟨by omega, by omega⟩, fun j hj => ?_⟩, by omega⟩
              by_cases e : (j : Int) < k
              ·exact hall j e
              ·obtain rfl : j = k.toNat := by omega
               refine ⟨hgd, fun h0 => ?_⟩
               have w0 : 0 < k := by omega
               first | exact absurd w0 w1 | (have hq := (hall (k.toNat - 1) (by omega)).1.cn; have hq2 := hgd.cn; rw [show (k - 1).toNat = k.toNat - 1 by omega, ← hq, hord, canL_il rfl, canL_il rfl, hq2] at h16; rw [← hq]; first | (simp at h16; omega) | omega)
            ·refine tr_draw [0, 1, 2, 3, 4, 5, 6, 7, 8, 9, 10, 11, 12, 13, 14, 15] [] mixed (by kernel_rfl) fun _ _ _ => ?_
             iterate 3 refine pV ?_
             refine skF rfl rfl (by first | exact decide_eq_false (w1) | (rw [decide_eq_false (w1)]; rfl) | (simp; exact w1) | simp [w1]) rfl rfl ?_
             refine skF rfl rfl (by first | exact decide_eq_false (w1) | (rw [decide_eq_false (w1)]; rfl) | (simp; exact w1) | simp [w1]) rfl rfl ?_
             refine skF rfl rfl (by first | exact decide_eq_false (w1) | (rw [decide_eq_false (w1)]; rfl) | (simp; exact w1) | simp [w1]) rfl rfl ?_
             refine skF rfl rfl (by first | exact decide_eq_false (w1) | (rw [decide_eq_false (w1)]; rfl) | (simp; exact w1) | simp [w1]) rfl rfl ?_
             refine skF rfl rfl (by first | exact decide_eq_false (w1) | (rw [decide_eq_false (w1)]; rfl) | (simp; exact w1) | simp [w1]) rfl rfl ?_
             refine skF rfl rfl (by first | exact decide_eq_false (w1) | (rw [decide_eq_false (w1)]; rfl) | (simp; exact w1) | simp [w1]) rfl rfl ?_
             refine skF rfl rfl (by first | exact decide_eq_false (w1) | (rw [decide_eq_false (w1)]; rfl) | (simp; exact w1) | simp [w1]) rfl rfl ?_
             refine skF rfl rfl (by first | exact decide_eq_false (w1) | (rw [decide_eq_false (w1)]; rfl) | (simp; exact w1) | simp [w1]) rfl rfl ?_
             refine skF rfl rfl (by first | exact decide_eq_false (w1) | (rw [decide_eq_false (w1)]; rfl) | (simp; exact w1) | simp [w1]) rfl rfl ?_
             refine skF rfl rfl (by first | exact decide_eq_false (w1) | (rw [decide_eq_false (w1)]; rfl) | (simp; exact w1) | simp [w1]) rfl rfl ?_
             refine skF rfl rfl (by first | exact decide_eq_false (w1) | (rw [decide_eq_false (w1)]; rfl) | (simp; exact w1) | simp [w1]) rfl rfl ?_
             refine skF rfl rfl (by first | exact decide_eq_false (w1) | (rw [decide_eq_false (w1)]; rfl) | (simp; exact w1) | simp [w1]) rfl rfl ?_
             refine sV (rPick0 rfl rfl (by first | exact decide_eq_false (w1) | (rw [decide_eq_false (w1)]; rfl) | (simp; exact w1) | simp [w1]) rfl) ?_
             refine tC rfl (fun h16 => ?_) (fun h16 => ?_)
             ·try simp only [zbA] at h16
              refine tS ?_
              refine tR fun _ _ _ => ?_
              refine pV ?_
              exact tr_ret ⟨trivial, _, _, rfl, ⟨rfl, rfl⟩, CSub.nil _, trivial⟩
             ·try simp only [zbA] at h16
              refine tK ?_
              refine tR fun _ _ _ => ?_
              refine pV ?_
              refine sV (rAdd rfl rfl rfl (by omega) (by omega)) ?_
              refine pV ?_
              refine ⟨k + 1, ⟨rfl, rfl, rfl, trivial⟩, by first | exact cs _ _ | exact CSub.refl _, ?_⟩
              refine ⟨⟨⟨by omega, by omega⟩, fun j hj => ?_⟩, by omega⟩
              by_cases e : (j : Int) < k
              ·exact hall j e
              ·obtain rfl : j = k.toNat := by omega
               refine ⟨hgd, fun h0 => ?_⟩
               have w0 : 0 < k := by omega
               first | exact absurd w0 w1 | (have hq := (hall (k.toNat - 1) (by omega)).1.cn; have hq2 := hgd.cn; rw [show (k - 1).toNat = k.toNat - 1 by omega, ← hq, hord, canL_il rfl, canL_il rfl, hq2] at h16; rw [← hq]; first | (simp at h16; omega) | omega)
          ·refine tR fun _ _ _ => ?_
           refine sV (rFld rfl rfl) ?_
           refine sV (rLdSF rfl rfl) ?_
           refine pV ?_
           refine eV (eCallV rfl rfl rfl (ref_Right p m A c mod B13 _ c13 (il (pol (fs.getD k.toNat facD).r.xs : Po (El p m mod))) rfl (by omega)) ⟨rfl, rfl, trivial⟩ ?_)
           rw [pol_il]
           iterate 2 refine pV ?_
           refine stT rfl rfl rfl (by first | exact decide_eq_false (fun h => h u1) | (rw [decide_eq_false (fun h => h u1)]; rfl) | simp [u1]) rfl rfl (rFld rfl rfl) ?_
           refine stT rfl rfl rfl (by first | exact decide_eq_false (fun h => h u1) | (rw [decide_eq_false (fun h => h u1)]; rfl) | simp [u1]) rfl rfl (rLdF rfl rfl rfl) ?_
           refine stT rfl rfl rfl (by first | exact decide_eq_false (fun h => h u1) | (rw [decide_eq_false (fun h => h u1)]; rfl) | simp [u1]) rfl rfl (rMove rfl rfl) ?_
           refine stT rfl rfl rfl (by first | exact decide_eq_false (fun h => h u1) | (rw [decide_eq_false (fun h => h u1)]; rfl) | simp [u1]) rfl rfl (rIdxT rfl rfl rfl (by omega) (by omega) (by simp; omega)) ?_
           refine stT rfl rfl rfl (by first | exact decide_eq_false (fun h => h u1) | (rw [decide_eq_false (fun h => h u1)]; rfl) | simp [u1]) rfl rfl (rFld rfl rfl) ?_
           refine stT rfl rfl rfl (by first | exact decide_eq_false (fun h => h u1) | (rw [decide_eq_false (fun h => h u1)]; rfl) | simp [u1]) rfl rfl (rLdG1 rfl rfl (by omega)) ?_
           refine stT rfl rfl rfl (by first | exact decide_eq_false (fun h => h u1) | (rw [decide_eq_false (fun h => h u1)]; rfl) | simp [u1]) rfl rfl (rLss rfl rfl rfl) ?_
           refine sV (rPick0 rfl rfl (by first | exact decide_eq_false (fun h => h u1) | (rw [decide_eq_false (fun h => h u1)]; rfl) | simp [u1]) rfl) ?_
           refine pV ?_
           try have hle14 := facE_ok u1
           refine stT rfl rfl rfl (by first | exact decide_eq_false (by omega) | (rw [decide_eq_false (show ¬ (fs.getD k.toNat facD).k < 1 by omega)]; rfl) | (simp; omega)) rfl rfl (rMove rfl rfl) ?_
           refine stT rfl rfl rfl (by first | exact decide_eq_false (by omega) | (rw [decide_eq_false (show ¬ (fs.getD k.toNat facD).k < 1 by omega)]; rfl) | (simp; omega)) rfl rfl (rMove rfl rfl) ?_
           refine stT rfl rfl rfl (by first | exact decide_eq_false (by omega) | (rw [decide_eq_false (show ¬ (fs.getD k.toNat facD).k < 1 by omega)]; rfl) | (simp; omega)) rfl rfl (rLen rfl rfl) ?_
           refine stT rfl rfl rfl (by first | exact decide_eq_false (by omega) | (rw [decide_eq_false (show ¬ (fs.getD k.toNat facD).k < 1 by omega)]; rfl) | (simp; omega)) rfl rfl (rSub rfl rfl rfl (by omega) (by omega)) ?_
           refine stT rfl rfl rfl (by first | exact decide_eq_false (by omega) | (rw [decide_eq_false (show ¬ (fs.getD k.toNat facD).k < 1 by omega)]; rfl) | (simp; omega)) rfl rfl (rIdxI rfl rfl rfl (by omega) (by omega) (by omega)) ?_
           refine stT rfl rfl rfl (by first | exact decide_eq_false (by omega) | (rw [decide_eq_false (show ¬ (fs.getD k.toNat facD).k < 1 by omega)]; rfl) | (simp; omega)) rfl rfl (rLdI rfl rfl (by omega)) ?_
           refine stT rfl rfl rfl (by first | exact decide_eq_false (by omega) | (rw [decide_eq_false (show ¬ (fs.getD k.toNat facD).k < 1 by omega)]; rfl) | (simp; omega)) rfl rfl (rNeq rfl rfl rfl) ?_
           refine sV (rPick0 rfl rfl (by first | exact decide_eq_false (by omega) | (rw [decide_eq_false (show ¬ (fs.getD k.toNat facD).k < 1 by omega)]; rfl) | (simp; omega)) rfl) ?_
           refine pV ?_
           refine skF rfl rfl (by first | exact decide_eq_true u3 | (rw [decide_eq_true u3]; rfl) | simp [u3]) rfl rfl ?_
           refine skF rfl rfl (by first | exact decide_eq_true u3 | (rw [decide_eq_true u3]; rfl) | simp [u3]) rfl rfl ?_
           refine skF rfl rfl (by first | exact decide_eq_true u3 | (rw [decide_eq_true u3]; rfl) | simp [u3]) rfl rfl ?_
           refine skF rfl rfl (by first | exact decide_eq_true u3 | (rw [decide_eq_true u3]; rfl) | simp [u3]) rfl rfl ?_
           refine skF rfl rfl (by first | exact decide_eq_true u3 | (rw [decide_eq_true u3]; rfl) | simp [u3]) rfl rfl ?_
           refine skF rfl rfl (by first | exact decide_eq_true u3 | (rw [decide_eq_true u3]; rfl) | simp [u3]) rfl rfl ?_
           refine skF rfl rfl (by first | exact decide_eq_true u3 | (rw [decide_eq_true u3]; rfl) | simp [u3]) rfl rfl ?_
           refine skF rfl rfl (by first | exact decide_eq_true u3 | (rw [decide_eq_true u3]; rfl) | simp [u3]) rfl rfl ?_
           refine skF rfl rfl (by first | exact decide_eq_true u3 | (rw [decide_eq_true u3]; rfl) | simp [u3]) rfl rfl ?_
           refine sV (rPick1 rfl rfl (by first | exact decide_eq_true u3 | (rw [decide_eq_true u3]; rfl) | simp [u3]) rfl) ?_
           refine tC rfl (fun h14 => ?_) (fun h14 => ?_)
           ·try simp only [zbA] at h14
            refine tS ?_
            refine tR fun _ _ _ => ?_
            refine pV ?_
            exact tr_ret ⟨trivial, _, _, rfl, ⟨rfl, rfl⟩, CSub.nil _, trivial⟩
           ·try simp only [zbA] at h14
            first | exact absurd trivial h14 | exact absurd rfl h14 | omega | (exact absurd h14 (by simp)) --done
         ·refine tR fun _ _ _ => ?_
          refine sV (rFld rfl rfl) ?_
          refine sV (rLdSF rfl rfl) ?_
          refine pV ?_
          refine eV (eCallV rfl rfl rfl (ref_Right p m A c mod B13 _ c13 (il (pol (fs.getD k.toNat facD).r.xs : Po (El p m mod))) rfl (by omega)) ⟨rfl, rfl, trivial⟩ ?_)
          rw [pol_il]
          iterate 2 refine pV ?_
          refine stT rfl rfl rfl (by first | exact decide_eq_false (fun h => h u1) | (rw [decide_eq_false (fun h => h u1)]; rfl) | simp [u1]) rfl rfl (rFld rfl rfl) ?_
          refine stT rfl rfl rfl (by first | exact decide_eq_false (fun h => h u1) | (rw [decide_eq_false (fun h => h u1)]; rfl) | simp [u1]) rfl rfl (rLdF rfl rfl rfl) ?_
          refine stT rfl rfl rfl (by first | exact decide_eq_false (fun h => h u1) | (rw [decide_eq_false (fun h => h u1)]; rfl) | simp [u1]) rfl rfl (rMove rfl rfl) ?_
          refine stT rfl rfl rfl (by first | exact decide_eq_false (fun h => h u1) | (rw [decide_eq_false (fun h => h u1)]; rfl) | simp [u1]) rfl rfl (rIdxT rfl rfl rfl (by omega) (by omega) (by simp; omega)) ?_
          refine stT rfl rfl rfl (by first | exact decide_eq_false (fun h => h u1) | (rw [decide_eq_false (fun h => h u1)]; rfl) | simp [u1]) rfl rfl (rFld rfl rfl) ?_
          refine stT rfl rfl rfl (by first | exact decide_eq_false (fun h => h u1) | (rw [decide_eq_false (fun h => h u1)]; rfl) | simp [u1]) rfl rfl (rLdG1 rfl rfl (by omega)) ?_
          refine stT rfl rfl rfl (by first | exact decide_eq_false (fun h => h u1) | (rw [decide_eq_false (fun h => h u1)]; rfl) | simp [u1]) rfl rfl (rLss rfl rfl rfl) ?_
          refine sV (rPick0 rfl rfl (by first | exact decide_eq_false (fun h => h u1) | (rw [decide_eq_false (fun h => h u1)]; rfl) | simp [u1]) rfl) ?_
          refine pV ?_
          try have hle14 := facE_ok u1
          refine skF rfl rfl (by first | exact decide_eq_true (by omega) | (rw [decide_eq_true (show (fs.getD k.toNat facD).k < 1 by omega)]; rfl) | (simp; omega)) rfl rfl ?_
          refine skF rfl rfl (by first | exact decide_eq_true (by omega) | (rw [decide_eq_true (show (fs.getD k.toNat facD).k < 1 by omega)]; rfl) | (simp; omega)) rfl rfl ?_
          refine skF rfl rfl (by first | exact decide_eq_true (by omega) | (rw [decide_eq_true (show (fs.getD k.toNat facD).k < 1 by omega)]; rfl) | (simp; omega)) rfl rfl ?_
          refine skF rfl rfl (by first | exact decide_eq_true (by omega) | (rw [decide_eq_true (show (fs.getD k.toNat facD).k < 1 by omega)]; rfl) | (simp; omega)) rfl rfl ?_
          refine skF rfl rfl (by first | exact decide_eq_true (by omega) | (rw [decide_eq_true (show (fs.getD k.toNat facD).k < 1 by omega)]; rfl) | (simp; omega)) rfl rfl ?_
          refine skF rfl rfl (by first | exact decide_eq_true (by omega) | (rw [decide_eq_true (show (fs.getD k.toNat facD).k < 1 by omega)]; rfl) | (simp; omega)) rfl rfl ?_
          refine skF rfl rfl (by first | exact decide_eq_true (by omega) | (rw [decide_eq_true (show (fs.getD k.toNat facD).k < 1 by omega)]; rfl) | (simp; omega)) rfl rfl ?_
          refine sV (rPick1 rfl rfl (by first | exact decide_eq_true (by omega) | (rw [decide_eq_true (show (fs.getD k.toNat facD).k < 1 by omega)]; rfl) | (simp; omega)) rfl) ?_
          refine pV ?_
          refine skF rfl rfl (rfl) rfl rfl ?_
          refine skF rfl rfl (rfl) rfl rfl ?_
          refine skF rfl rfl (rfl) rfl rfl ?_
          refine skF rfl rfl (rfl) rfl rfl ?_
          refine skF rfl rfl (rfl) rfl rfl ?_
          refine skF rfl rfl (rfl) rfl rfl ?_
          refine skF rfl rfl (rfl) rfl rfl ?_
          refine skF rfl rfl (rfl) rfl rfl ?_
          refine skF rfl rfl (rfl) rfl rfl ?_
          refine sV (rPick1 rfl rfl (rfl) rfl) ?_
          refine tC rfl (fun h14 => ?_) (fun h14 => ?_)
          ·try simp only [zbA] at h14
           refine tS ?_
           refine tR fun _ _ _ => ?_
           refine pV ?_
           exact tr_ret ⟨trivial, _, _, rfl, ⟨rfl, rfl⟩, CSub.nil _, trivial⟩
          ·try simp only [zbA] at h14
           first | exact absurd trivial h14 | exact absurd rfl h14 | omega | (exact absurd h14 (by simp)) --done
        ·refine tR fun _ _ _ => ?_
         refine sV (rFld rfl rfl) ?_
         refine sV (rLdSF rfl rfl) ?_
         refine pV ?_
         refine eV (eCallV rfl rfl rfl (ref_Right p m A c mod B13 _ c13 (il (pol (fs.getD k.toNat facD).r.xs : Po (El p m mod))) rfl (by omega)) ⟨rfl, rfl, trivial⟩ ?_)
         rw [pol_il]
         iterate 2 refine pV ?_
         refine skF rfl rfl (by first | exact decide_eq_true u1 | (rw [decide_eq_true u1]; rfl) | simp [u1]) rfl rfl ?_
         refine skF rfl rfl (by first | exact decide_eq_true u1 | (rw [decide_eq_true u1]; rfl) | simp [u1]) rfl rfl ?_
         refine skF rfl rfl (by first | exact decide_eq_true u1 | (rw [decide_eq_true u1]; rfl) | simp [u1]) rfl rfl ?_
         refine skF rfl rfl (by first | exact decide_eq_true u1 | (rw [decide_eq_true u1]; rfl) | simp [u1]) rfl rfl ?_
         refine skF rfl rfl (by first | exact decide_eq_true u1 | (rw [decide_eq_true u1]; rfl) | simp [u1]) rfl rfl ?_
         refine skF rfl rfl (by first | exact decide_eq_true u1 | (rw [decide_eq_true u1]; rfl) | simp [u1]) rfl rfl ?_
         refine skF rfl rfl (by first | exact decide_eq_true u1 | (rw [decide_eq_true u1]; rfl) | simp [u1]) rfl rfl ?_
         refine sV (rPick1 rfl rfl (by first | exact decide_eq_true u1 | (rw [decide_eq_true u1]; rfl) | simp [u1]) rfl) ?_
         refine pV ?_
         try have hle14 := facE_ok u1
         refine skF rfl rfl (rfl) rfl rfl ?_
         refine skF rfl rfl (rfl) rfl rfl ?_
         refine skF rfl rfl (rfl) rfl rfl ?_
         refine skF rfl rfl (rfl) rfl rfl ?_
         refine skF rfl rfl (rfl) rfl rfl ?_
         refine skF rfl rfl (rfl) rfl rfl ?_
         refine skF rfl rfl (rfl) rfl rfl ?_
         refine sV (rPick1 rfl rfl (rfl) rfl) ?_
         refine pV ?_
         refine skF rfl rfl (rfl) rfl rfl ?_
         refine skF rfl rfl (rfl) rfl rfl ?_
         refine skF rfl rfl (rfl) rfl rfl ?_
         refine skF rfl rfl (rfl) rfl rfl ?_
         refine skF rfl rfl (rfl) rfl rfl ?_
         refine skF rfl rfl (rfl) rfl rfl ?_
         refine skF rfl rfl (rfl) rfl rfl ?_
         refine skF rfl rfl (rfl) rfl rfl ?_
         refine skF rfl rfl (rfl) rfl rfl ?_
         refine sV (rPick1 rfl rfl (rfl) rfl) ?_
         refine tC rfl (fun h14 => ?_) (fun h14 => ?_)
         ·try simp only [zbA] at h14
          refine tS ?_
          refine tR fun _ _ _ => ?_
          refine pV ?_
          exact tr_ret ⟨trivial, _, _, rfl, ⟨rfl, rfl⟩, CSub.nil _, trivial⟩
         ·try simp only [zbA] at h14
          first | exact absurd trivial h14 | exact absurd rfl h14 | omega | (exact absurd h14 (by simp)) --done
      ·try simp only [zbA] at h9
       refine tE ?_
       refine tS ?_
       have hnn : ∀ f ∈ fs, 0 ≤ f.k := fun f hf => by
        obtain ⟨j, hj, rfl⟩ := List.getElem_of_mem hf
        have := (hall j (by omega)).1.k1
        rw [List.getD_eq_getElem?_getD, List.getElem?_eq_getElem hj] at this
        simp only [Option.getD_some] at this
        omega
       refine tR fun _ _ _ => ?_
       refine sV (rFld rfl rfl) ?_
       refine sV (rLdSF rfl rfl) ?_
       refine sV (rFld rfl rfl) ?_
       refine sV (rLdF rfl rfl rfl) ?_
       refine sV (rFld rfl rfl) ?_
       refine sV (rLdF rfl rfl rfl) ?_
       refine eV (eCall1 rfl rfl rfl (ref_Product p m A c mod ld X nx cx fs hnx hf9 hfx hnn hsm) ⟨rfl, rfl, rfl, trivial⟩ ?_)
       rintro _ _ ⟨B18, c18, rfl, rfl⟩
       iterate 5 refine pV ?_
       refine tS ?_
       refine tS ?_
       have hld : 0 < ld ∧ ld < pw p m := by omega
       have hgu : ∀ e ∈ fs, GdU (p := p) (m := m) (mod := mod) e := fun e he => by
        obtain ⟨j, hj, rfl⟩ := List.getElem_of_mem he
        have := (hall j (by omega)).1
        rw [List.getD_eq_getElem?_getD, List.getElem?_eq_getElem hj] at this
        exact this
       have hrs : RisF fs := ris_of fun j h1 h2 => (hall j (by omega)).2 h1
       have hln := prF_ne hld (fun e he => ⟨(hgu e he).fc.1, hnn e he⟩)
       have hlm := prF_len (p := p) (m := m) (mod := mod) (l := ld) hnn fs.length (Nat.le_refl _)
       have hilp := il_length (prF p m mod ld fs fs.length)
       refine tR fun _ _ _ => ?_
       iterate 3 refine pV ?_
       refine stT rfl rfl rfl (by simp) rfl rfl (rFld rfl rfl) ?_
       refine stT rfl rfl rfl (by simp) rfl rfl (rLdSF rfl rfl) ?_
       refine stT rfl rfl rfl (by simp) rfl rfl (rMove rfl rfl) ?_
       refine efT rfl rfl rfl (by simp) (eCallV rfl rfl rfl (law06_few p m A c mod B18 _ c18 (il (prF p m mod ld fs fs.length)) rfl (by omega)) ⟨rfl, rfl, trivial⟩ ?_)
       refine stT rfl rfl rfl (by simp) rfl rfl (rNotB rfl rfl) ?_
       refine sV (rPick0 rfl rfl (by simp) rfl) ?_
       refine tC rfl (fun h19 => ?_) (fun h19 => ?_)
       ·try simp only [zbA] at h19
        refine tS ?_
        refine tR fun _ _ _ => ?_
        refine pV ?_
        exact tr_ret ⟨trivial, _, _, rfl, ⟨rfl, rfl⟩, CSub.nil _, trivial⟩
       ·try simp only [zbA] at h19
        refine tK ?_
        refine tS ?_
        refine tS ?_
        refine tR fun _ _ _ => ?_
        refine pV ?_
        refine tB ?_
        refine tr_loop1 (fun (i : Int) => [(10, .int .i64 i), (1, .pointer (some p0)), (3, .pointer (some g.p)), (8, .slice B18 (il (prF p m mod ld fs fs.length)).length c18)]) (fun (i : Int) => [ow B18 3 c18 (ints (il (prF p m mod ld fs fs.length))), gfN g, blk p0 47 [.int .i64 p, .int .i64 m, .slice A mod.length c, .int .i64 ld, .slice X nx cx], ro A (ints mod), ro X (prs (fcs fs)), rowsR (rws fs)]) (fun (i : Int) => (0 ≤ i ∧ i ≤ nx) ∧ ∀ j : Nat, (j : Int) < i → Po.Ir (fcP p m mod (fs.getD j facD))) (fun (i : Int) => (nx - i).toNat) (0) ⟨rfl, rfl, rfl, rfl, trivial⟩ (by first | exact cs _ _ | exact CSub.refl _) (⟨⟨by omega, by omega⟩, fun j hj => by omega⟩) (fun i hI => ?_)
        obtain ⟨⟨hi0, hi1⟩, hirr⟩ := hI
        refine tS ?_
        refine tS ?_
        refine tR fun _ _ _ => ?_
        refine pV ?_
        refine sV (rFld rfl rfl) ?_
        refine sV (rLdF rfl rfl rfl) ?_
        refine sV (rLenS rfl rfl) ?_
        refine pV ?_
        refine tC rfl (fun h22 => ?_) (fun h22 => ?_)
        ·try simp only [zbA] at h22
         refine tK ?_
         refine tS ?_
         refine tB ?_
         refine tS ?_
         haveI : InB i.toNat fs.length := ⟨by omega⟩
         have hil_ : i.toNat < fs.length := by omega
         have hgi := hgu _ (getD_mem hil_ facD)
         have hgi1 := hgi.sh
         have hgi2 : Po.len (pol (fs.getD i.toNat facD).r.xs : Po (El p m mod)) ≤ (fs.getD i.toNat facD).r.xs.length := Po.len_le (pol_sh _)
         refine tr_draw [0, 1, 2, 3, 4, 5, 6, 7, 8, 9] [] mixed (by kernel_rfl) fun _ _ _ => ?_
         refine sV (rFld rfl rfl) ?_
         refine sV (rLdSF rfl rfl) ?_
         refine sV (rFld rfl rfl) ?_
         refine sV (rLdF rfl rfl rfl) ?_
         refine pV ?_
         refine sV (rIdxT rfl rfl rfl (by omega) (by omega) (by simp; omega)) ?_
         refine sV (rFld rfl rfl) ?_
         refine sV (rLdG0 rfl rfl (by omega)) ?_
         refine eV (eCallV rfl rfl rfl (ref_Irreducible p m A c mod (fs.getD i.toNat facD).r.A _ (fs.getD i.toNat facD).r.cap (fs.getD i.toNat facD).r.xs rfl (by omega) (by omega)) ⟨rfl, rfl, trivial⟩ ?_)
         refine sV (rNotB rfl rfl) ?_
         refine tC rfl (fun h24 => ?_) (fun h24 => ?_)
         ·try simp only [zbA] at h24
          refine tS ?_
          refine tR fun _ _ _ => ?_
          refine pV ?_
          exact tr_ret ⟨trivial, _, _, rfl, ⟨rfl, rfl⟩, CSub.nil _, trivial⟩
         ·try simp only [zbA] at h24
          refine tK ?_
          refine tR fun _ _ _ => ?_
          refine pV ?_
          refine sV (rAdd rfl rfl rfl (by omega) (by omega)) ?_
          refine pV ?_
          refine ⟨i + 1, ⟨rfl, rfl, rfl, rfl, trivial⟩, by first | exact cs _ _ | exact CSub.refl _, ?_⟩
          refine ⟨⟨⟨by omega, by omega⟩, fun j hj => ?_⟩, by omega⟩
          by_cases e : (j : Int) < i
          ·exact hirr j e
          ·obtain rfl : j = i.toNat := by omega
           exact (irB_iff (P := (pol (fs.getD i.toNat facD).r.xs : Po (El p m mod)))).1 (by simpa using h24)
        ·try simp only [zbA] at h22
         refine tE ?_
         refine tS ?_
         have he : facE (Po.len (pol (il (prF p m mod ld fs fs.length)) : Po (El p m mod))) = 0 := by rw [pol_il, facE, if_neg (by omega), if_neg (by omega)]
         have hir : ∀ e ∈ fs, Po.lead (fcP p m mod e) = 1 ∧ 1 ≤ e.k ∧ Po.Ir (fcP p m mod e) ∧ e.r.xs = il (fcP p m mod e) := fun e he => by
          obtain ⟨j, hj, rfl⟩ := List.getElem_of_mem he
          have h1 := hirr j (by omega)
          rw [List.getD_eq_getElem?_getD, List.getElem?_eq_getElem hj] at h1
          have h2 := hgu _ (List.getElem_mem hj)
          exact ⟨h2.fc.1, h2.k1, h1, h2.fc.2⟩
         have hmm : Po.lead (Po.mon (pol (il (prF p m mod ld fs fs.length)) : Po (El p m mod))) = 1 := Po.mon_lead (Po.len_pos_iff.1 (by rw [pol_il]; omega))
         refine tR fun _ _ _ => ?_
         iterate 2 refine pV ?_
         refine eV (eCall2 rfl rfl rfl (fac_CompleteL facSort facNone g hg B18 _ c18 (il (prF p m mod ld fs fs.length)) rfl (by omega) he) ⟨rfl, rfl, trivial⟩ ?_)
         rintro _ _ _ ⟨B26, c26, gs, rfl, rfl, rfl, hC, hR, hgl⟩
         iterate 7 refine pV ?_
         refine tS ?_
         rw [pol_il] at hC hmm ⊢
         have hml := Po.mon_len (prF p m mod ld fs fs.length)
         have hun := unq hld hir hrs hC hR
         refine tR fun _ _ _ => ?_
         iterate 3 refine pV ?_
         refine stT rfl rfl rfl (by simp) rfl rfl (rMove rfl rfl) ?_
         refine stT rfl rfl rfl (by simp) rfl rfl (rFld rfl rfl) ?_
         refine stT rfl rfl rfl (by simp) rfl rfl (rLdF rfl rfl rfl) ?_
         refine stT rfl rfl rfl (by simp) rfl rfl (rEql rfl rfl rfl) ?_
         refine sV (rPick1 rfl rfl (by simp) rfl) ?_
         refine pV ?_
         refine stT rfl rfl rfl (by first | exact decide_eq_true hun.1 | (rw [decide_eq_true hun.1]; rfl) | (simp; exact hun.1) | simp [hun.1]) rfl rfl (rMove rfl rfl) ?_
         refine stT rfl rfl rfl (by first | exact decide_eq_true hun.1 | (rw [decide_eq_true hun.1]; rfl) | (simp; exact hun.1) | simp [hun.1]) rfl rfl (rFld rfl rfl) ?_
         refine stT rfl rfl rfl (by first | exact decide_eq_true hun.1 | (rw [decide_eq_true hun.1]; rfl) | (simp; exact hun.1) | simp [hun.1]) rfl rfl (rLdF rfl rfl rfl) ?_
         refine efT rfl rfl rfl (by first | exact decide_eq_true hun.1 | (rw [decide_eq_true hun.1]; rfl) | (simp; exact hun.1) | simp [hun.1]) (eCallV rfl rfl rfl (ref_Same6 B26 _ c26 gs rfl X nx cx fs hnx (by omega) hf9 (fun f hf => by have := (hC.le (lead1_ne hmm) f hf).1; omega)) ⟨rfl, rfl, trivial⟩ ?_)
         refine sV (rPick1 rfl rfl (by first | exact decide_eq_true hun.1 | (rw [decide_eq_true hun.1]; rfl) | (simp; exact hun.1) | simp [hun.1]) rfl) ?_
         refine pV ?_
         exact tr_ret ⟨trivial, _, _, rfl, ⟨by simp [hun.2], rfl⟩, CSub.nil _, trivial⟩
   ·refine tR fun _ _ _ => ?_
    refine sV (rFld rfl rfl) ?_
    refine sV (rLdSF rfl rfl) ?_
    refine sV (rFld rfl rfl) ?_
    refine sV (rLdF rfl rfl rfl) ?_
    refine eV (eCallV rfl rfl rfl (ref_Is p m A c mod ld) ⟨rfl, rfl, trivial⟩ ?_)
    refine sV (rNotB rfl rfl) ?_
    refine pV ?_
    refine skF rfl rfl (by first | (simp; omega) | simp [s1]) rfl rfl ?_
    refine skF rfl rfl (by first | (simp; omega) | simp [s1]) rfl rfl ?_
    refine skF rfl rfl (by first | (simp; omega) | simp [s1]) rfl rfl ?_
    refine sV (rPick1 rfl rfl (by first | (simp; omega) | simp [s1]) rfl) ?_
    refine pV ?_
    refine skF rfl rfl (rfl) rfl rfl ?_
    refine skF rfl rfl (rfl) rfl rfl ?_
    refine skF rfl rfl (rfl) rfl rfl ?_
    refine skF rfl rfl (rfl) rfl rfl ?_
    refine sV (rPick1 rfl rfl (rfl) rfl) ?_
    refine tC rfl (fun h6 => ?_) (fun h6 => ?_)
    ·try simp only [zbA] at h6
     refine tS ?_
     refine tR fun _ _ _ => ?_
     refine pV ?_
     exact tr_ret ⟨trivial, _, _, rfl, ⟨rfl, rfl⟩, CSub.nil _, trivial⟩
    ·try simp only [zbA] at h6
     first | exact absurd trivial h6 | exact absurd rfl h6 | omega | (exact absurd h6 (by simp)) --done
theorem law_FactorUnique (p m : Int) (A : Option Addr) (c : Nat) (mod : List Int) (hl9 : mod.length ≤ 17592186044415) (ld : Int) (X : Option Addr) (nx cx : Nat) (fs : List FacM) (hnx : nx = fs.length) (hf9 : fs.length ≤ 17592186044415) (hfx : ∀ f ∈ fs, f.r.xs.length ≤ 17592186044415 ∧ f.k ≤ 9223372036854775807 ∧ -9223372036854775808 ≤ f.k) : Pure Tryz.prog 5 #[.agg #[.int .i64 p, .int .i64 m, .slice A mod.length c, .int .i64 ld, .slice X nx cx]] [ro A (ints mod), ro X (prs (fcs fs)), rowsR (rws fs)] (isV (.bool true)) := by
 by_cases hF0 : FldR p m mod
 ·haveI hF : IsF p m mod := ⟨hF0⟩
  rcases Int.lt_or_le 256 (fcT p m mod fs fs.length) with hb | hb
  ·exact law_FactorUnique_B p m A c mod hl9 ld X nx cx fs hnx hf9 hfx hb
  ·exact law_FactorUnique_G p m A c mod hl9 ld X nx cx fs hnx hf9 hfx hb
 ·exact law_FactorUnique_no p m A c mod hl9 ld X nx cx fs hnx hf9 hfx hF0
end Go.Proofs.YtbhoeaijpnjgdaaGreat

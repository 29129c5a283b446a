/-
  FACTORPRODUCTS, PART 6 OF 7. One sentence: the texts behind the law FactorProducts, put together.
  Conditions: each theorem's own, written out in it.
-/
import Derived.Test.YtbhoeaijpnjgdaaK5
set_option linter.unusedSimpArgs false
set_option linter.unusedVariables false
set_option linter.unusedSectionVars false
set_option maxRecDepth 100000
namespace Go.Proofs.Ytbhoeaijpnjgdaa
open Go.RowKit
instance tyPt : AgTy Try.prog 40 5 := agTy_of (by kernel_rfl)
instance tyPt0 : FdTy Try.prog 40 0 0 := ⟨by kernel_rfl⟩
instance tyPt1 : FdTy Try.prog 40 1 3 := ⟨by kernel_rfl⟩
instance tyPt2 : FdTy Try.prog 40 2 4 := ⟨by kernel_rfl⟩
theorem law_FactorProducts_no_ent : Enters Try.prog 4 := enters_of Try.func4 (by kernel_rfl) (by kernel_rfl)
theorem law_FactorProducts_no (p m : Int) (A : Option Addr) (c : Nat) (mod : List Int) (hl9 : mod.length ≤ 17592186044415) (ld : Int) (X : Option Addr) (nx cx : Nat) (fs : List FacM) (hnx : nx = fs.length) (hf9 : fs.length ≤ 17592186044415) (hfx : ∀ f ∈ fs, f.r.xs.length ≤ 17592186044415 ∧ f.k ≤ 9223372036854775807 ∧ -9223372036854775808 ≤ f.k) (hF : ¬ FldR p m mod) :
  Pure Try.prog 4 #[.agg #[.int .i64 p, .int .i64 m, .slice A mod.length c, .int .i64 ld, .slice X nx cx]] [ro A (ints mod), ro X (prs (fcs fs)), rowsR (rws fs)] (isV (.bool true)) := by
 refine pure_of (args := [.agg #[.int .i64 p, .int .i64 m, .slice A mod.length c, .int .i64 ld, .slice X nx cx]]) 50 Try.func4 rfl rfl rfl law_FactorProducts_no_ent ⟨id, id, id, trivial⟩ (fun w0 => ?_)
 refine tS ?_
 refine tR fun _ _ _ => ?_
 refine eV (eBox rfl rfl rfl rfl rfl (fun p0 => ?_))
 refine pV ?_
 refine tS ?_
 refine tR fun _ _ _ => ?_
 refine sV (rFld rfl rfl) ?_
 refine sV (rLdSF rfl rfl) ?_
 refine eV (eCallV rfl rfl rfl (law_open_no _ _ _ _ _ (by omega) hF) ⟨rfl, trivial⟩ ?_)
 iterate 7 refine pV ?_
 refine tS ?_
 refine tS ?_
 refine tR fun _ _ _ => ?_
 refine pV ?_
 refine tC rfl (fun h2 => ?_) (fun h2 => ?_)
 ·try simp only [zbA] at h2
  refine tS ?_
  refine tR fun _ _ _ => ?_
  iterate 2 refine pV ?_
  exact tr_ret ⟨trivial, _, _, rfl, ⟨rfl, rfl⟩, CSub.nil _, trivial⟩
 ·try simp only [zbA] at h2
  cases h2 --done
theorem law_FactorProducts_E_ent : Enters Try.prog 4 := enters_of Try.func4 (by kernel_rfl) (by kernel_rfl)
theorem law_FactorProducts_E (p m : Int) (A : Option Addr) (c : Nat) (mod : List Int) [hF : IsF p m mod] (hl9 : mod.length ≤ 17592186044415) (ld : Int) (X : Option Addr) (nx cx : Nat) (fs : List FacM) (hnx : nx = fs.length) (hf9 : fs.length ≤ 17592186044415) (hfx : ∀ f ∈ fs, f.r.xs.length ≤ 17592186044415 ∧ f.k ≤ 9223372036854775807 ∧ -9223372036854775808 ≤ f.k) (y : Int) (h1 : ∀ g : GfM, GOk g p m mod → Pure Try.prog 21 #[.pointer (some g.p), .int .i64 ld, .slice X nx cx] [gfR g, ro X (prs (fcs fs)), rowsR (rws fs)] (isV (.tuple #[.slice none 0 0, .int .i64 y]))) (h2r : Pure Try.prog 22 #[.agg #[.int .i64 p, .int .i64 m, .slice A mod.length c], .int .i64 ld, .slice X nx cx] [ro A (ints mod), ro X (prs (fcs fs)), rowsR (rws fs)] (isV (.tuple #[.slice none 0 0, .int .i64 y]))) :
  Pure Try.prog 4 #[.agg #[.int .i64 p, .int .i64 m, .slice A mod.length c, .int .i64 ld, .slice X nx cx]] [ro A (ints mod), ro X (prs (fcs fs)), rowsR (rws fs)] (isV (.bool true)) := by
 refine pure_of (args := [.agg #[.int .i64 p, .int .i64 m, .slice A mod.length c, .int .i64 ld, .slice X nx cx]]) 50 Try.func4 rfl rfl rfl law_FactorProducts_E_ent ⟨id, id, id, trivial⟩ (fun w0 => ?_)
 refine tS ?_
 refine tR fun _ _ _ => ?_
 refine eV (eBox rfl rfl rfl rfl rfl (fun p0 => ?_))
 refine pV ?_
 refine tS ?_
 refine tR fun _ _ _ => ?_
 refine sV (rFld rfl rfl) ?_
 refine sV (rLdSF rfl rfl) ?_
 refine eV (eCall1 rfl rfl rfl (law_open_ok _ _ _ _ _ (by omega) hF.out) ⟨rfl, trivial⟩ ?_)
 rintro _ _ ⟨g, rfl, rfl, hg⟩
 iterate 7 refine pV ?_
 refine tS ?_
 refine tS ?_
 refine tR fun _ _ _ => ?_
 refine pV ?_
 refine tC rfl (fun h2 => ?_) (fun h2 => ?_)
 ·try simp only [zbA] at h2
  cases h2 --done
 ·try simp only [zbA] at h2
  refine tK ?_
  refine tS ?_
  refine tR fun _ _ _ => ?_
  refine pV ?_
  refine sV (rFld rfl rfl) ?_
  refine sV (rLdF rfl rfl rfl) ?_
  refine sV (rFld rfl rfl) ?_
  refine sV (rLdF rfl rfl rfl) ?_
  refine eV (eCallV rfl rfl rfl (h1 g hg) ⟨rfl, rfl, rfl, trivial⟩ ?_)
  iterate 5 refine pV ?_
  refine tS ?_
  refine tR fun _ _ _ => ?_
  refine sV (rFld rfl rfl) ?_
  refine sV (rLdSF rfl rfl) ?_
  refine sV (rFld rfl rfl) ?_
  refine sV (rLdF rfl rfl rfl) ?_
  refine sV (rFld rfl rfl) ?_
  refine sV (rLdF rfl rfl rfl) ?_
  refine eV (eCallV rfl rfl rfl (h2r) ⟨rfl, rfl, rfl, trivial⟩ ?_)
  iterate 5 refine pV ?_
  refine tS ?_
  refine tr_nilI 3 ?_
  refine tR fun _ _ _ => ?_
  iterate 4 refine pV ?_
  refine stT rfl rfl rfl (by simp) rfl rfl (rMove rfl rfl) ?_
  refine stT rfl rfl rfl (by simp) rfl rfl (rMove rfl rfl) ?_
  refine efT rfl rfl rfl (by simp) (eCallV rfl rfl rfl (ref_SameInts6 none 0 0 [] rfl none 0 0 [] rfl (by simp)) ⟨rfl, rfl, trivial⟩ ?_)
  refine sV (rPick1 rfl rfl (by simp) rfl) ?_
  refine pV ?_
  refine stT rfl rfl rfl (by simp) rfl rfl (rMove rfl rfl) ?_
  refine efT rfl rfl rfl (by simp) (eCallV rfl rfl rfl (law06_alive g hg) ⟨rfl, trivial⟩ ?_)
  refine sV (rPick1 rfl rfl (by simp) rfl) ?_
  refine pV ?_
  exact tr_ret ⟨trivial, _, _, rfl, ⟨by simp, rfl⟩, CSub.nil _, trivial⟩
theorem law_FactorProducts_G_ent : Enters Try.prog 4 := enters_of Try.func4 (by kernel_rfl) (by kernel_rfl)
theorem law_FactorProducts_G (p m : Int) (A : Option Addr) (c : Nat) (mod : List Int) [hF : IsF p m mod] (hl9 : mod.length ≤ 17592186044415) (ld : Int) (X : Option Addr) (nx cx : Nat) (fs : List FacM) (hnx : nx = fs.length) (hf9 : fs.length ≤ 17592186044415) (hfx : ∀ f ∈ fs, f.r.xs.length ≤ 17592186044415 ∧ f.k ≤ 9223372036854775807 ∧ -9223372036854775808 ≤ f.k) (hlen9 : (il (prF p m mod ld fs fs.length)).length ≤ 17592186044415) (h1 : ∀ g : GfM, GOk g p m mod → Pure Try.prog 21 #[.pointer (some g.p), .int .i64 ld, .slice X nx cx] [gfR g, ro X (prs (fcs fs)), rowsR (rws fs)] (one (fun v ch => ∃ B cap, v = .tuple #[.slice B (il (prF p m mod ld fs fs.length)).length cap, .int .i64 0] ∧ ch = ow B 3 cap (ints (il (prF p m mod ld fs fs.length)))))) (h2r : Pure Try.prog 22 #[.agg #[.int .i64 p, .int .i64 m, .slice A mod.length c], .int .i64 ld, .slice X nx cx] [ro A (ints mod), ro X (prs (fcs fs)), rowsR (rws fs)] (one (fun v ch => ∃ B cap, v = .tuple #[.slice B (il (prF p m mod ld fs fs.length)).length cap, .int .i64 0] ∧ ch = ow B 3 cap (ints (il (prF p m mod ld fs fs.length)))))) :
  Pure Try.prog 4 #[.agg #[.int .i64 p, .int .i64 m, .slice A mod.length c, .int .i64 ld, .slice X nx cx]] [ro A (ints mod), ro X (prs (fcs fs)), rowsR (rws fs)] (isV (.bool true)) := by
 have hllx := il_length (prF p m mod ld fs fs.length)
 refine pure_of (args := [.agg #[.int .i64 p, .int .i64 m, .slice A mod.length c, .int .i64 ld, .slice X nx cx]]) 50 Try.func4 rfl rfl rfl law_FactorProducts_G_ent ⟨id, id, id, trivial⟩ (fun w0 => ?_)
 refine tS ?_
 refine tR fun _ _ _ => ?_
 refine eV (eBox rfl rfl rfl rfl rfl (fun p0 => ?_))
 refine pV ?_
 refine tS ?_
 refine tR fun _ _ _ => ?_
 refine sV (rFld rfl rfl) ?_
 refine sV (rLdSF rfl rfl) ?_
 refine eV (eCall1 rfl rfl rfl (law_open_ok _ _ _ _ _ (by omega) hF.out) ⟨rfl, trivial⟩ ?_)
 rintro _ _ ⟨g, rfl, rfl, hg⟩
 iterate 7 refine pV ?_
 refine tS ?_
 refine tS ?_
 refine tR fun _ _ _ => ?_
 refine pV ?_
 refine tC rfl (fun h2 => ?_) (fun h2 => ?_)
 ·try simp only [zbA] at h2
  cases h2 --done
 ·try simp only [zbA] at h2
  refine tK ?_
  refine tS ?_
  refine tR fun _ _ _ => ?_
  refine pV ?_
  refine sV (rFld rfl rfl) ?_
  refine sV (rLdF rfl rfl rfl) ?_
  refine sV (rFld rfl rfl) ?_
  refine sV (rLdF rfl rfl rfl) ?_
  refine eV (eCall1 rfl rfl rfl (h1 g hg) ⟨rfl, rfl, rfl, trivial⟩ ?_)
  rintro _ _ ⟨B4, c4, rfl, rfl⟩
  iterate 5 refine pV ?_
  refine tS ?_
  refine tR fun _ _ _ => ?_
  refine sV (rFld rfl rfl) ?_
  refine sV (rLdSF rfl rfl) ?_
  refine sV (rFld rfl rfl) ?_
  refine sV (rLdF rfl rfl rfl) ?_
  refine sV (rFld rfl rfl) ?_
  refine sV (rLdF rfl rfl rfl) ?_
  refine eV (eCall1 rfl rfl rfl (h2r) ⟨rfl, rfl, rfl, trivial⟩ ?_)
  rintro _ _ ⟨B5, c5, rfl, rfl⟩
  iterate 5 refine pV ?_
  refine tS ?_
  refine tR fun _ _ _ => ?_
  iterate 4 refine pV ?_
  refine stT rfl rfl rfl (by simp) rfl rfl (rMove rfl rfl) ?_
  refine stT rfl rfl rfl (by simp) rfl rfl (rMove rfl rfl) ?_
  refine efT rfl rfl rfl (by simp) (eCallV rfl rfl rfl (ref_SameInts6 B4 _ c4 (il (prF p m mod ld fs fs.length)) rfl B5 _ c5 (il (prF p m mod ld fs fs.length)) rfl hlen9) ⟨rfl, rfl, trivial⟩ ?_)
  refine sV (rPick1 rfl rfl (by simp) rfl) ?_
  refine pV ?_
  refine stT rfl rfl rfl (by simp) rfl rfl (rMove rfl rfl) ?_
  refine efT rfl rfl rfl (by simp) (eCallV rfl rfl rfl (law06_alive g hg) ⟨rfl, trivial⟩ ?_)
  refine sV (rPick1 rfl rfl (by simp) rfl) ?_
  refine pV ?_
  exact tr_ret ⟨trivial, _, _, rfl, ⟨by simp, rfl⟩, CSub.nil _, trivial⟩
theorem law_FactorProducts (p m : Int) (A : Option Addr) (c : Nat) (mod : List Int) (hl9 : mod.length ≤ 17592186044415) (ld : Int) (X : Option Addr) (nx cx : Nat) (fs : List FacM) (hnx : nx = fs.length) (hf9 : fs.length ≤ 17592186044415) (hfx : ∀ f ∈ fs, f.r.xs.length ≤ 17592186044415 ∧ f.k ≤ 9223372036854775807 ∧ -9223372036854775808 ≤ f.k) : Pure Try.prog 4 #[.agg #[.int .i64 p, .int .i64 m, .slice A mod.length c, .int .i64 ld, .slice X nx cx]] [ro A (ints mod), ro X (prs (fcs fs)), rowsR (rws fs)] (isV (.bool true)) := by
 by_cases hF0 : FldR p m mod
 ·haveI hF : IsF p m mod := ⟨hF0⟩
  by_cases hneg : ∃ f ∈ fs, f.k < 0
  ·exact law_FactorProducts_E p m A c mod hl9 ld X nx cx fs hnx hf9 hfx 6 (fun g hg => fac_ProductN g hg ld X nx cx fs hnx hf9 hfx hneg) (ref_ProductN p m A c mod ld X nx cx fs hnx hf9 hfx hneg)
  ·have hnn : ∀ f ∈ fs, 0 ≤ f.k := fun f hf => Int.not_lt.1 fun h => hneg ⟨f, hf, h⟩
   rcases Int.lt_or_le 256 (fcT p m mod fs fs.length) with hb | hb
   ·exact law_FactorProducts_E p m A c mod hl9 ld X nx cx fs hnx hf9 hfx 8 (fun g hg => fac_ProductB g hg ld X nx cx fs hnx hf9 hfx hnn hb) (ref_ProductB p m A c mod ld X nx cx fs hnx hf9 hfx hnn hb)
   ·exact law_FactorProducts_G p m A c mod hl9 ld X nx cx fs hnx hf9 hfx (by have := prF_len (p := p) (m := m) (mod := mod) (l := ld) hnn fs.length (Nat.le_refl _); rw [il_length]; omega) (fun g hg => fac_Product g hg ld X nx cx fs hnx hf9 hfx hnn hb) (ref_Product p m A c mod ld X nx cx fs hnx hf9 hfx hnn hb)
 ·exact law_FactorProducts_no p m A c mod hl9 ld X nx cx fs hnx hf9 hfx hF0
end Go.Proofs.Ytbhoeaijpnjgdaa

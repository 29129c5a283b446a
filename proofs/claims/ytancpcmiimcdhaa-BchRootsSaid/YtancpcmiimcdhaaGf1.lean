/-
  THE METHODS OF A FIELD. One sentence: what each method of a field returns.
  Conditions: each theorem's own, written out in it.
-/
import Derived.Test.YtancpcmiimcdhaaCan1
import Derived.Test.YtancpcmiimcdhaaGf
set_option linter.unusedSimpArgs false
set_option linter.unusedVariables false
namespace Go.Proofs.Ytancpcmiimcdhaa
open Go.RowKit

theorem gf_in_ent : Enters Try.prog 51 := enters_of Try.func51 (by kernel_rfl) (by kernel_rfl)
theorem gf_in (g : GfM) (x : Int) :
    Pure Try.prog 51 #[.pointer (some g.p), .int .i64 x] [gfR g] (isV (.int .i64 (inI g.q x))) := by
  refine pure_of (args := [.pointer (some g.p), .int .i64 x]) 9 Try.func51 rfl rfl rfl gf_in_ent ⟨id, trivial⟩ (fun w0 => ?_)
  refine tr_seq ?_
  refine tr_region fun _ _ _ => ?_
  refine pu rfl rfl rfl rfl rfl ?_
  refine tr_seq ?_
  refine tr_seq ?_
  refine tr_region fun _ _ _ => ?_
  iterate 2 refine pu rfl rfl rfl rfl rfl ?_
  refine ef rfl rfl (eCallV rfl rfl rfl (gf_Is _ _) ⟨rfl, rfl, trivial⟩ ?_) 
  refine tr_cond_bool rfl (fun h1 => ?_) (fun h1 => ?_)
  · try simp only [zb1, zb2, zb3, zb4, zb5, zb6, zb7, zb8, zb9, zb10] at h1
    refine tr_seq ?_
    refine tr_region fun _ _ _ => ?_
    iterate 2 refine pu rfl rfl rfl rfl rfl ?_
    exact tr_ret ⟨trivial, _, _, rfl, ⟨by rw [inI, if_pos ⟨by omega, by omega⟩], rfl⟩, CSub.nil _, trivial⟩
  · try simp only [zb1, zb2, zb3, zb4, zb5, zb6, zb7, zb8, zb9, zb10] at h1
    refine tr_skip ?_
    refine tr_seq ?_
    refine tr_region fun _ _ _ => ?_
    refine pu rfl rfl rfl rfl rfl ?_
    exact tr_ret ⟨trivial, _, _, rfl, ⟨by rw [inI, if_neg (by omega)], rfl⟩, CSub.nil _, trivial⟩


theorem gf_MulOrder_ent : Enters Try.prog 36 := enters_of Try.func36 (by kernel_rfl) (by kernel_rfl)
theorem gf_MulOrder (g : GfM) (p m : Int) (mod : List Int) (hg : GOk g p m mod) (y : Int) :
    Pure Try.prog 36 #[.pointer (some g.p), .int .i64 y] [gfR g] (isV (if inI g.q y = 0 then .tuple #[.int .i64 0, .int .i64 7] else .tuple #[.int .i64 (mord p m mod (inI g.q y)), .int .i64 0])) := by
  have hq := hg.q2
  have hel := hg.elen
  have hll := hg.llen'
  have hib := inI_bd (q := g.q) (by omega) y
  refine pure_of (args := [.pointer (some g.p), .int .i64 y]) 38 Try.func36 rfl rfl rfl gf_MulOrder_ent ⟨id, trivial⟩ (fun w0 => ?_)
  refine tr_seq ?_
  refine tr_region fun _ _ _ => ?_
  iterate 2 refine pu rfl rfl rfl rfl rfl ?_
  refine tr_seq ?_
  refine tr_region fun _ _ _ => ?_
  iterate 2 refine pu rfl rfl rfl rfl rfl ?_
  refine ef rfl rfl (eCallV rfl rfl rfl (gf_in _ _) ⟨rfl, rfl, trivial⟩ ?_) 
  refine pu rfl rfl rfl rfl rfl ?_
  refine tr_seq ?_
  refine tr_seq ?_
  refine tr_region fun _ _ _ => ?_
  iterate 2 refine pu rfl rfl rfl rfl rfl ?_
  refine tr_cond_bool rfl (fun h2 => ?_) (fun h2 => ?_)
  · try simp only [zb1, zb2, zb3, zb4, zb5, zb6, zb7, zb8, zb9, zb10] at h2
    refine tr_seq ?_
    refine tr_region fun _ _ _ => ?_
    iterate 2 refine pu rfl rfl rfl rfl rfl ?_
    exact tr_ret ⟨trivial, _, _, rfl, ⟨by rw [if_pos h2], rfl⟩, CSub.nil _, trivial⟩
  · try simp only [zb1, zb2, zb3, zb4, zb5, zb6, zb7, zb8, zb9, zb10] at h2
    refine tr_skip ?_
    refine tr_seq ?_
    have hlg := hg.log_spec (y := inI g.q y) (by omega) (by omega)
    refine tr_draw [0, 1, 2, 3, 4, 5, 6, 7, 8, 9, 10, 11, 12, 13] [] mixed (by kernel_rfl) fun _ _ _ => ?_
    refine pu rfl rfl rfl rfl rfl ?_
    refine st rfl rfl rfl rfl (rNil rfl rfl) ?_
    refine st rfl rfl rfl rfl (rFld rfl rfl) ?_
    refine st rfl rfl rfl rfl (rLdF rfl rfl rfl) ?_
    refine st rfl rfl rfl rfl (rSub rfl rfl rfl (by omega) (by omega)) ?_
    refine pu rfl rfl rfl rfl rfl ?_
    refine st rfl rfl rfl rfl (rNil rfl rfl) ?_
    refine st rfl rfl rfl rfl (rFld rfl rfl) ?_
    refine st rfl rfl rfl rfl (rLdF rfl rfl rfl) ?_
    refine pu rfl rfl rfl rfl rfl ?_
    refine st rfl rfl rfl rfl (rIdxI rfl rfl rfl (by omega) (by omega) (by omega)) ?_
    refine st rfl rfl rfl rfl (rLdI rfl rfl (by omega)) ?_
    iterate 2 refine pu rfl rfl rfl rfl rfl ?_
    refine tr_seq ?_
    refine tr_block ?_
    refine tr_loop2 (fun (a : Int) (b : Int) => [(0, .pointer (some g.p)), (1, .int .i64 (inI g.q y)), (6, .int .i64 a), (7, .int .i64 b)]) (fun (a : Int) (b : Int) => [gfR g]) (fun (a : Int) (b : Int) => (0 ≤ a ∧ a ≤ g.q) ∧ (0 ≤ b ∧ b ≤ g.q) ∧ (Nat.gcd a.toNat b.toNat) = Nat.gcd (g.q - 1).toNat (g.log.getD (inI g.q y).toNat 0).toNat) (fun (a : Int) (b : Int) => b.toNat) (g.q - 1) (g.log.getD (inI g.q y).toNat 0) ⟨rfl, rfl, rfl, rfl, trivial⟩ (by first | exact cs _ _ | exact CSub.refl _) (⟨⟨by omega, by omega⟩, ⟨by omega, by omega⟩, rfl⟩) (fun a b hI => ?_)
    obtain ⟨⟨ha0, ha1⟩, ⟨hb0, hb1⟩, hgcd⟩ := hI
    refine tr_seq ?_
    refine tr_seq ?_
    refine tr_region fun _ _ _ => ?_
    iterate 2 refine pu rfl rfl rfl rfl rfl ?_
    refine tr_cond_bool rfl (fun h5 => ?_) (fun h5 => ?_)
    · try simp only [zb1, zb2, zb3, zb4, zb5, zb6, zb7, zb8, zb9, zb10] at h5
      refine tr_skip ?_
      refine tr_block ?_
      refine tr_draw [0, 1, 2, 3, 4, 5] [] mixed (by kernel_rfl) fun _ _ _ => ?_
      iterate 3 refine pu rfl rfl rfl rfl rfl ?_
      refine st rfl rfl rfl rfl (rRem rfl rfl rfl (by omega) (by omega)) ?_
      iterate 2 refine pu rfl rfl rfl rfl rfl ?_
      refine ⟨b, a % b, ⟨rfl, rfl, rfl, rfl, trivial⟩, by first | exact cs _ _ | exact CSub.refl _, ?_⟩
      have e0 := Int.emod_nonneg a (show b ≠ 0 by omega)
      have e1 := Int.emod_lt_of_pos a (show 0 < b by omega)
      refine ⟨⟨⟨by omega, by omega⟩, ⟨by omega, by omega⟩, ?_⟩, by omega⟩
      rw [← hgcd, Int.toNat_emod ha0 hb0, Nat.gcd_comm b.toNat, ← Nat.gcd_rec, Nat.gcd_comm]
    · try simp only [zb1, zb2, zb3, zb4, zb5, zb6, zb7, zb8, zb9, zb10] at h5
      refine tr_exit ?_
      refine tr_seq ?_
      have hb00 : b = 0 := by omega
      subst hb00
      have hord := (hg.ord (y := inI g.q y) ⟨by omega, by omega⟩).eq
      simp only [Int.toNat_zero, Nat.gcd_zero_right] at hgcd
      have hgp : 0 < Nat.gcd (g.q - 1).toNat (g.log.getD (inI g.q y).toNat 0).toNat := Nat.gcd_pos_of_pos_left _ (by omega)
      rw [← hgcd] at hord hgp
      refine tr_region fun _ _ _ => ?_
      refine pu rfl rfl rfl rfl rfl ?_
      refine st rfl rfl rfl rfl (rNil rfl rfl) ?_
      refine st rfl rfl rfl rfl (rFld rfl rfl) ?_
      refine st rfl rfl rfl rfl (rLdF rfl rfl rfl) ?_
      refine st rfl rfl rfl rfl (rSub rfl rfl rfl (by omega) (by omega)) ?_
      refine pu rfl rfl rfl rfl rfl ?_
      refine st rfl rfl rfl rfl (rQuo rfl rfl rfl (by omega) (by omega)) ?_
      iterate 2 refine pu rfl rfl rfl rfl rfl ?_
      have hdv : (g.q - 1) / a = ((g.q - 1).toNat / a.toNat : Nat) := by
        rw [Int.natCast_ediv, Int.toNat_of_nonneg (by omega), Int.toNat_of_nonneg ha0]
      exact tr_ret ⟨trivial, _, _, rfl, ⟨by rw [if_neg h2, hord, hdv], rfl⟩, CSub.nil _, trivial⟩

end Go.Proofs.Ytancpcmiimcdhaa

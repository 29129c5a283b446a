/-
  FACTORCOUNTS, PART 3 OF 7. One sentence: the texts behind the law FactorCounts, put together.
  Conditions: each theorem's own, written out in it.
-/
import Derived.Scope
import Derived.Deep.SlicePairs
import Derived.Calls
import Derived.Sort.Grow
import Derived.Shelf.SlSortCmp.InsertionK
import Derived.Sort.OwnSorted
import Derived.Test.YtbhoeaijpnjgdaaK2
set_option linter.unusedSimpArgs false
set_option linter.unusedVariables false
set_option linter.unusedSectionVars false
namespace Go.Proofs.Ytbhoeaijpnjgdaa
open Go.RowKit
section
end
section
end
section
end
section
end
section
end
end Go.Proofs.Ytbhoeaijpnjgdaa

namespace Go.Proofs.Ytbhoeaijpnjgdaa
open Go.RowKit
namespace Vc
end Vc
section
end
end Go.Proofs.Ytbhoeaijpnjgdaa

namespace Go.Proofs.Ytbhoeaijpnjgdaa
open Go.RowKit
section
end
section
end
section
end
end Go.Proofs.Ytbhoeaijpnjgdaa

namespace Go.Proofs.Ytbhoeaijpnjgdaa
open Go.RowKit
section
end
end Go.Proofs.Ytbhoeaijpnjgdaa

namespace Go.Proofs.Ytbhoeaijpnjgdaa
open Go.RowKit
section
end
end Go.Proofs.Ytbhoeaijpnjgdaa

namespace Go.Proofs.Ytbhoeaijpnjgdaa
open Go.RowKit
section
variable {R : Type} [Rg R]
theorem nc_add (a : Nat) : ∀ b : Nat, (Rg.nc (a + b) : R) = Rg.nc a + Rg.nc b
 | 0 => (Rg.add_zero _).symm
 | b + 1 => by rw [← Nat.add_assoc, Rg.nc_succ, Rg.nc_succ, nc_add a b, Rg.add_assoc]
end
section
variable {K : Type} [Fd K]
def dP (f : Po K) : Po K := ⟨fun j => Rg.nc (j + 1) * Po.cf f (j + 1), by
 obtain ⟨n, hn⟩ := f.2
 exact ⟨n, fun j hj => by
  have : Po.cf f (j + 1) = 0 := hn (j + 1) (by omega)
  show Rg.nc (j + 1) * Po.cf f (j + 1) = 0
  rw [this, Rg.mul_zero]⟩⟩
theorem cf_dP (f : Po K) (j : Nat) : Po.cf (dP f) j = Rg.nc (j + 1) * Po.cf f (j + 1) := rfl
theorem dP_add (f g : Po K) : dP (f + g) = dP f + dP g := Po.ext fun j => by rw [Po.cf_add, cf_dP, cf_dP, cf_dP, Po.cf_add, Rg.mul_add]
theorem dP_zero : dP (0 : Po K) = 0 := Po.ext fun j => Rg.mul_zero _
theorem dP_mn_mul (c : K) (i : Nat) (g : Po K) : dP (Po.mn c i * g) = dP (Po.mn c i) * g + Po.mn c i * dP g := by
 have h1 : dP (Po.mn c i) = Po.mn (Rg.nc i * c) (i - 1) := Po.ext fun j => by
  rw [cf_dP, Po.cf_mn, Po.cf_mn]
  by_cases h0 : i = 0
  ·subst h0
   have hz : (Rg.nc 0 : K) = 0 := rfl
   rw [if_neg (by omega), Rg.mul_zero, hz, Rg.zero_mul]; split <;> rfl
  ·by_cases h : j + 1 = i
   ·rw [if_pos h, if_pos (by omega), h]
   ·rw [if_neg h, if_neg (by omega), Rg.mul_zero]
 rw [h1]
 refine Po.ext fun j => ?_
 rw [Po.cf_add, cf_dP, Po.cf_mn_mul, Po.cf_mn_mul, Po.cf_mn_mul, cf_dP]
 by_cases h0 : i = 0
 ·subst h0
  have hz : (Rg.nc 0 : K) = 0 := rfl
  rw [if_neg (by omega), if_neg (by omega), if_neg (by omega), hz, Rg.zero_mul, Rg.zero_mul, Rg.zero_add]
  simp only [Nat.sub_zero]
  grind
 ·by_cases h2 : j + 1 < i
  ·rw [if_pos h2, if_pos (by omega), if_pos (by omega), Rg.mul_zero, Rg.add_zero]
  ·by_cases h3 : j < i
   ·rw [if_neg h2, if_neg (by omega), if_pos h3, show j + 1 = i by omega, Nat.sub_self, show j - (i - 1) = 0 by omega, Rg.add_zero, Rg.mul_assoc]
   ·have e := nc_add (R := K) i (j + 1 - i)
    rw [show i + (j + 1 - i) = j + 1 by omega] at e
    rw [if_neg h2, if_neg (by omega), if_neg h3, e, show j - (i - 1) = j + 1 - i by omega, show j - i + 1 = j + 1 - i by omega]
    grind
theorem dP_mul (f g : Po K) : dP (f * g) = dP f * g + f * dP g := by
 refine Po.ind (P := fun f => dP (f * g) = dP f * g + f * dP g) (by rw [Rg.zero_mul, dP_zero, Rg.zero_mul, Rg.zero_mul, Rg.zero_add]) (fun c n f ih => ?_) f
 rw [Rg.add_mul, dP_add, ih, dP_mn_mul, dP_add]
 grind
end
section
variable {p m : Int} {mod : List Int} [hF : IsF p m mod]
theorem nc_val (k : Nat) : (Rg.nc k : El p m mod).1 = (k : Int) % p := by
 have hp := hF.out.1.1.p2
 have hm := hF.out.1.1.m1
 induction k with
 | zero => exact (Int.zero_emod p).symm
 | succ k ih =>
  rw [Rg.nc_succ, add_val, ih, one_val, addI_rec, show m.toNat = (m.toNat - 1) + 1 by omega, addD]
  have h1 := Int.emod_nonneg (k : Int) (show p ≠ 0 by omega)
  have h2 := Int.emod_lt_of_pos (k : Int) (show 0 < p by omega)
  rw [Int.ediv_eq_zero_of_lt h1 h2, Int.ediv_eq_zero_of_lt (show (0 : Int) ≤ 1 by omega) (show 1 < p by omega), addD_zero, Int.mul_zero, Int.add_zero, Int.emod_emod_of_dvd _ (Int.dvd_refl p), ← Int.add_emod]
  push_cast
  rfl
end
end Go.Proofs.Ytbhoeaijpnjgdaa

namespace Go.Proofs.Ytbhoeaijpnjgdaa
open Go.RowKit
theorem IsF.p2 {p m : Int} {mod : List Int} (hF : IsF p m mod) : 2 ≤ p := hF.out.1.1.p2
theorem IsF.m1 {p m : Int} {mod : List Int} (hF : IsF p m mod) : 1 ≤ m := hF.out.1.1.m1
section
variable {p m : Int} {mod : List Int} [hF : IsF p m mod]
theorem all_pow (a : El p m mod) : Rg.pow a (pw p m).toNat = a := by
 have hq := hF.q2
 by_cases h : a = 0
 ·rw [h]; exact Rg.zero_pow (by omega)
 ·have h1 := Fd.Nz.pow (elNz_nz hF.out) h
  rw [elNz_len, Fd.pow_eq] at h1
  have e : (pw p m).toNat = (pw p m - 1).toNat + 1 := by omega
  rw [e, Rg.pow_succ]
  exact (congrArg (fun z => z * a) h1).trans (Rg.one_mul a)
theorem all_powk (a : El p m mod) : ∀ k : Nat, Rg.pow a ((pw p m).toNat ^ k) = a
 | 0 => Rg.pow_one a
 | k + 1 => by rw [Nat.pow_succ, Rg.pow_mul, all_powk a k, all_pow]
end
theorem roots_len {K : Type} [Fd K] : ∀ (rs : List K) (f : Po K), rs.Nodup → f ≠ 0 → (∀ a ∈ rs, Po.val f a = 0) → rs.length < Po.len f
 | [], f, _, hf, _ => Po.len_pos hf
 | r :: rs, f, hn, hf, h => by
  obtain ⟨g, hg⟩ := (Po.root_iff f r).1 (h r (List.mem_cons_self ..))
  have hn := List.nodup_cons.1 hn
  have hg0 : g ≠ 0 := fun e => hf (by rw [hg, e, Rg.mul_zero])
  have ih := roots_len rs g hn.2 hg0 (fun a ha => by
   have h1 := h a (List.mem_cons_of_mem _ ha)
   rw [hg, Po.val_mul, Po.val_lin] at h1
   exact (Fd.mul_eq_zero h1).resolve_left (fun e => hn.1 (by have : a = r := Rg.eq_of_sub e; rwa [← this])))
  rw [hg, Po.len_mul (Po.lin_ne r) hg0, Po.len_lin, List.length_cons]
  omega
section
end
section
end
end Go.Proofs.Ytbhoeaijpnjgdaa

set_option maxRecDepth 100000
namespace Go.Proofs.Ytbhoeaijpnjgdaa
open Go.RowKit
end Go.Proofs.Ytbhoeaijpnjgdaa

set_option maxRecDepth 100000
namespace Go.Proofs.Ytbhoeaijpnjgdaa
open Go.RowKit
end Go.Proofs.Ytbhoeaijpnjgdaa

set_option maxRecDepth 100000
namespace Go.Proofs.Ytbhoeaijpnjgdaa
open Go.RowKit
end Go.Proofs.Ytbhoeaijpnjgdaa

set_option maxRecDepth 100000
namespace Go.Proofs.Ytbhoeaijpnjgdaa
open Go.RowKit
section
end
section
end
end Go.Proofs.Ytbhoeaijpnjgdaa

set_option maxRecDepth 100000
namespace Go.Proofs.Ytbhoeaijpnjgdaa
open Go.RowKit
end Go.Proofs.Ytbhoeaijpnjgdaa

set_option maxRecDepth 100000
namespace Go.Proofs.Ytbhoeaijpnjgdaa
open Go.RowKit
end Go.Proofs.Ytbhoeaijpnjgdaa

set_option maxRecDepth 100000
namespace Go.Proofs.Ytbhoeaijpnjgdaa
open Go.RowKit
section
end
end Go.Proofs.Ytbhoeaijpnjgdaa

set_option maxRecDepth 100000
namespace Go.Proofs.Ytbhoeaijpnjgdaa
open Go.RowKit
section
end
end Go.Proofs.Ytbhoeaijpnjgdaa

set_option maxRecDepth 100000
namespace Go.Proofs.Ytbhoeaijpnjgdaa
open Go.RowKit
end Go.Proofs.Ytbhoeaijpnjgdaa

namespace Go.Proofs.Ytbhoeaijpnjgdaa
open Rg
namespace Vc
end Vc
end Go.Proofs.Ytbhoeaijpnjgdaa

namespace Go.Proofs.Ytbhoeaijpnjgdaa
end Go.Proofs.Ytbhoeaijpnjgdaa

namespace Go.Proofs.Ytbhoeaijpnjgdaa
namespace Po
variable {K : Type} [Fd K]
structure Ir (P : Po K) : Prop where
 two : 2 ≤ len P
 irr : ∀ d, d ∣ P → len d = 1 ∨ len d = len P
theorem Ir.ne {P : Po K} (h : Ir P) : P ≠ 0 := len_pos_iff.1 (by have := h.two; omega)
theorem one_len_dvd {d : Po K} (h : len d = 1) (f : Po K) : d ∣ f := by
 have h1 := len_le_one (f := d) (by omega)
 have h2 : cf d 0 ≠ 0 := lead_ne (n := 0) h
 rw [h1]; exact C_dvd h2 f
theorem dvd_of_len {f g : Po K} (h : f ∣ g) (hg : g ≠ 0) (hl : len g ≤ len f) : g ∣ f := by
 obtain ⟨c, rfl⟩ := h
 have hf : f ≠ 0 := fun e => hg (by rw [e, Rg.zero_mul])
 have hc : c ≠ 0 := fun e => hg (by rw [e, Rg.mul_zero])
 have h1 := len_mul hf hc
 have h2 := len_pos hf
 have h3 := len_pos hc
 obtain ⟨e, he⟩ := one_len_dvd (show len c = 1 by omega) 1
 exact ⟨e, by rw [Rg.mul_assoc, ← he, Rg.mul_one]⟩
theorem monic_one {f : Po K} (h : lead f = 1) (hl : len f ≤ 1) : f = 1 := by
 have h1 : f ≠ 0 := fun e => by
  rw [e] at h
  exact Fd.one_ne (K := K) (by rw [← h]; rfl)
 have h2 : len f = 1 := by have := len_pos h1; omega
 rw [len_le_one hl]
 unfold lead at h
 rw [h2] at h
 rw [h, C_one]
theorem gcd_one_of {f g : Po K} (hf : f ≠ 0) (hl : len (gcd f g) ≤ 1) : gcd f g = 1 := monic_one (gcd_monic (.inl hf)) hl
theorem Ir.gcd {P : Po K} (h : Ir P) (f : Po K) : Po.gcd P f = 1 ∨ P ∣ f := by
 have hg := gcd_is P f
 rcases h.irr _ hg.left with h1 | h1
 ·exact .inl (gcd_one_of h.ne (by omega))
 ·exact .inr (dvd_trans (dvd_of_len hg.left h.ne (by omega)) hg.right)
theorem cop_dvd {a b c : Po K} (h : Po.gcd a b = 1) (hd : a ∣ b * c) : a ∣ c := by
 obtain ⟨u, v, e⟩ := (gcd_is a b).bez
 rw [h] at e
 have : c = u * a * c + v * (b * c) := by
  have h2 : c = (u * a + v * b) * c := by rw [e, Rg.one_mul]
  rw [h2]; grind
 rw [this]
 exact dvd_add ⟨u * c, by grind⟩ (dvd_mul_ofL hd v)
theorem Ir.prime {P f g : Po K} (h : Ir P) (hd : P ∣ f * g) : P ∣ f ∨ P ∣ g := by
 rcases h.gcd f with h1 | h1
 ·exact .inr (cop_dvd h1 hd)
 ·exact .inl h1
theorem Ir.not_one {P f : Po K} (h : Ir P) (hl : len f = 1) : ¬ P ∣ f := fun hd => by
 have := dvd_len hd (len_pos_iff.1 (by omega))
 have := h.two
 omega
theorem Ir.assoc {P Q : Po K} (hP : Ir P) (hQ : Ir Q) (hd : P ∣ Q) : Q ∣ P := by
 rcases hQ.irr P hd with h | h
 ·have := hP.two; omega
 ·exact dvd_of_len hd hQ.ne (by omega)
theorem Ir.one {P Q : Po K} (hP : Ir P) (hQ : Ir Q) (h1 : lead P = 1) (h2 : lead Q = 1) (hd : P ∣ Q) : P = Q := monic_eq hd (hP.assoc hQ hd) h1 h2
theorem Ir.mon {P : Po K} (h : Ir P) : Ir (mon P) ∧ lead (mon P) = 1 := by
 refine ⟨⟨by rw [mon_len]; exact h.two, fun d hd => ?_⟩, mon_lead h.ne⟩
 rw [mon_len]; exact h.irr d (dvd_trans hd (mon_dvd P))
theorem ir_ex {f : Po K} (h : 2 ≤ len f) : ∃ P, Ir P ∧ lead P = 1 ∧ P ∣ f := by
 have hf : f ≠ 0 := len_pos_iff.1 (by omega)
 obtain ⟨n, ⟨P, hP, hl, hd⟩, hmin⟩ := nat_least (P := fun n => ∃ P : Po K, 2 ≤ len P ∧ len P = n ∧ P ∣ f) ⟨_, f, h, rfl, dvd_refl f⟩
 have hP0 : P ≠ 0 := len_pos_iff.1 (by omega)
 have hI : Ir P := ⟨hP, fun d hdP => by
  have hd0 : d ≠ 0 := fun e => hP0 (zero_dvd (e ▸ hdP))
  have h1 := dvd_len hdP hP0
  have h2 := len_pos hd0
  by_cases h3 : len d = 1
  ·exact .inl h3
  ·by_cases h4 : len d = len P
   ·exact .inr h4
   ·exact absurd ⟨d, by omega, rfl, dvd_trans hdP hd⟩ (hmin (len d) (by omega))⟩
 exact ⟨_, hI.mon.1, hI.mon.2, dvd_trans (mon_dvd P) hd⟩
theorem pow_ne0 {f : Po K} (h : f ≠ 0) : ∀ n, Rg.pow f n ≠ 0
 | 0 => one_ne
 | n + 1 => mul_ne (pow_ne0 h n) h
theorem pow_dvd (f : Po K) {m n : Nat} (h : m ≤ n) : Rg.pow f m ∣ Rg.pow f n := by
 obtain ⟨k, rfl⟩ := Nat.le.dest h
 exact ⟨Rg.pow f k, Rg.pow_add f m k⟩
theorem mul_dvd_mul {f g : Po K} (h : f ∣ g) (k : Po K) : k * f ∣ k * g := by
 obtain ⟨c, rfl⟩ := h; exact ⟨c, by grind⟩
theorem mul_dvd_cancel {f g k : Po K} (hk : k ≠ 0) (h : k * f ∣ k * g) : f ∣ g := by
 obtain ⟨c, e⟩ := h
 exact ⟨c, mul_cancel hk (by rw [e]; grind)⟩
theorem len_pow_ge {f : Po K} (h : 2 ≤ len f) : ∀ n, n < len (Rg.pow f n)
 | 0 => by rw [Rg.pow_zero, len_one]; omega
 | n + 1 => by
  have h0 : f ≠ 0 := len_pos_iff.1 (by omega)
  have := len_pow_ge h n
  rw [Rg.pow_succ, len_mul (pow_ne0 h0 n) h0]; omega
theorem Ir.pow_cop {P f : Po K} (h : Ir P) (hn : ¬ P ∣ f) : ∀ n g, Rg.pow P n ∣ f * g → Rg.pow P n ∣ g
 | 0, g, _ => one_dvd g
 | n + 1, g, hd => by
  have h1 := h.pow_cop hn n g (dvd_trans (pow_dvd P (Nat.le_succ n)) hd)
  obtain ⟨e, rfl⟩ := h1
  rw [Rg.pow_succ] at hd ⊢
  have h2 : Rg.pow P n * P ∣ Rg.pow P n * (f * e) := by
   rw [show Rg.pow P n * (f * e) = f * (Rg.pow P n * e) by grind]; exact hd
  have h3 := mul_dvd_cancel (pow_ne0 h.ne n) h2
  exact mul_dvd_mul (h.prime h3 |>.resolve_left hn) _
theorem dvd_of_pows : ∀ (n : Nat) (f g : Po K), len f ≤ n → f ≠ 0 → (∀ P k, Ir P → lead P = 1 → Rg.pow P k ∣ f → Rg.pow P k ∣ g) → f ∣ g
 | 0, f, g, hn, hf, _ => absurd (eq_zero_of_len (by omega)) hf
 | n + 1, f, g, hn, hf, h => by
  by_cases h2 : len f < 2
  ·have := len_pos hf
   exact one_len_dvd (by omega) g
  ·obtain ⟨P, hP, hl, hd⟩ := ir_ex (f := f) (by omega)
   have hPg : P ∣ g := by
    have := h P 1 hP hl (by rw [Rg.pow_one]; exact hd)
    rwa [Rg.pow_one] at this
   obtain ⟨f', rfl⟩ := hd
   obtain ⟨g', rfl⟩ := hPg
   have hf' : f' ≠ 0 := fun e => hf (by rw [e, Rg.mul_zero])
   have hlen := len_mul hP.ne hf'
   have := hP.two
   refine mul_dvd_mul (dvd_of_pows n f' g' (by omega) hf' fun Q k hQ hlQ hd => ?_) P
   by_cases e : P = Q
   ·subst e
    have h1 := h P (k + 1) hP hl (by rw [Rg.pow_succ, Rg.mul_comm]; exact mul_dvd_mul hd P)
    rw [Rg.pow_succ, Rg.mul_comm] at h1
    exact mul_dvd_cancel hP.ne h1
   ·have h1 := h Q k hQ hlQ (dvd_mul_ofL hd P)
    exact hQ.pow_cop (fun hd' => e (hQ.one hP hlQ hl hd').symm) k g' h1
def Sf (f : Po K) : Prop := ∀ P, Ir P → ¬ P * P ∣ f
theorem Sf.dvd {f g : Po K} (h : Sf f) (hf : f ≠ 0) (hi : ∀ P, Ir P → lead P = 1 → P ∣ f → P ∣ g) : f ∣ g :=
 dvd_of_pows _ f g (Nat.le_refl _) hf fun P k hP hl hd => by
  match k with
  | 0 => exact one_dvd g
  | 1 => rw [Rg.pow_one] at hd ⊢; exact hi P hP hl hd
  | k + 2 =>
   have h2 : Rg.pow P 2 = P * P := by rw [Rg.pow_succ, Rg.pow_one]
   exact absurd (dvd_trans (h2 ▸ pow_dvd P (show 2 ≤ k + 2 by omega)) hd) (h P hP)
theorem Sf.eq {f g : Po K} (hf : Sf f) (hg : Sf g) (h1 : lead f = 1) (h2 : lead g = 1) (f0 : f ≠ 0) (g0 : g ≠ 0) (hi : ∀ P, Ir P → lead P = 1 → (P ∣ f ↔ P ∣ g)) : f = g :=
 monic_eq (hf.dvd f0 fun P hP hl hd => (hi P hP hl).1 hd) (hg.dvd g0 fun P hP hl hd => (hi P hP hl).2 hd) h1 h2
theorem Ir.sf {P : Po K} (h : Ir P) : Sf P := fun Q hQ hd => by
 have h1 := dvd_len hd h.ne
 rw [len_mul hQ.ne hQ.ne] at h1
 have h2 := hQ.two
 rcases h.irr Q (dvd_trans ⟨Q, rfl⟩ hd) with h3 | h3 <;> omega
theorem Sf.mul {f g : Po K} (hf : Sf f) (hg : Sf g) (hc : ∀ P, Ir P → P ∣ f → ¬ P ∣ g) : Sf (f * g) := fun P hP hd => by
 have h1 : P ∣ f * g := dvd_trans ⟨P, rfl⟩ hd
 rw [show P * P = Rg.pow P 2 by rw [Rg.pow_succ, Rg.pow_one]] at hd
 have e2 : Rg.pow P 2 = P * P := by rw [Rg.pow_succ, Rg.pow_one]
 by_cases hPf : P ∣ f
 ·have := hP.pow_cop (hc P hP hPf) 2 f (by rw [Rg.mul_comm]; exact hd)
  rw [e2] at this
  exact hf P hP this
 ·have := hP.pow_cop hPf 2 g hd
  rw [e2] at this
  exact hg P hP this
end Po
end Go.Proofs.Ytbhoeaijpnjgdaa

namespace Go.Proofs.Ytbhoeaijpnjgdaa
def bin : Nat → Nat → Nat
 | _, 0 => 1
 | 0, _ + 1 => 0
 | n + 1, k + 1 => bin n k + bin n (k + 1)
theorem bin_zero (n : Nat) : bin n 0 = 1 := by cases n <;> rfl
theorem bin_gt : ∀ n k, n < k → bin n k = 0
 | 0, k + 1, _ => rfl
 | n + 1, k + 1, h => by rw [bin, bin_gt n k (by omega), bin_gt n (k + 1) (by omega)]
theorem bin_self : ∀ n, bin n n = 1
 | 0 => rfl
 | n + 1 => by rw [bin, bin_self n, bin_gt n (n + 1) (by omega)]
theorem bin_abs : ∀ n k, (k + 1) * bin (n + 1) (k + 1) = (n + 1) * bin n k
 | 0, 0 => rfl
 | 0, k + 1 => by rw [bin_gt (0 + 1) (k + 1 + 1) (by omega), bin_gt 0 (k + 1) (by omega), Nat.mul_zero, Nat.mul_zero]
 | n + 1, 0 => by
  have ih := bin_abs n 0
  have e : bin (n + 1 + 1) (0 + 1) = bin (n + 1) 0 + bin (n + 1) (0 + 1) := rfl
  rw [e, bin_zero]
  rw [bin_zero] at ih
  omega
 | n + 1, k + 1 => by
  have h1 := bin_abs n k
  have h2 := bin_abs n (k + 1)
  rw [bin, Nat.mul_add, h2]
  have e : bin (n + 1) (k + 1) = bin n k + bin n (k + 1) := rfl
  have h3 : (k + 1 + 1) * bin (n + 1) (k + 1) = (n + 1) * bin n k + bin (n + 1) (k + 1) := by rw [Nat.add_mul (k + 1) 1, h1, Nat.one_mul]
  rw [h3, e, Nat.add_mul (n + 1) 1, Nat.one_mul, Nat.mul_add]
  omega
end Go.Proofs.Ytbhoeaijpnjgdaa

namespace Go.Proofs.Ytbhoeaijpnjgdaa
theorem prime_dvd {p : Nat} (hp : 2 ≤ p) (hd : ∀ d, 2 ≤ d → d < p → ¬ d ∣ p) {a b : Nat} (ha : 0 < a) (hap : a < p) (h : p ∣ a * b) : p ∣ b := by
 have hg : Nat.gcd p a = 1 := by
  have h1 : Nat.gcd p a ∣ p := Nat.gcd_dvd_left p a
  have h2 : Nat.gcd p a ≤ a := Nat.gcd_le_right p ha
  have h3 : 0 < Nat.gcd p a := Nat.gcd_pos_of_pos_right p ha
  refine Classical.byContradiction fun hne => hd _ (by omega) (by omega) h1
 exact (Nat.Coprime.dvd_of_dvd_mul_left hg h)
theorem bin_prime {p : Nat} (hp : 2 ≤ p) (hd : ∀ d, 2 ≤ d → d < p → ¬ d ∣ p) {k : Nat} (h0 : 0 < k) (hk : k < p) : p ∣ bin p k := by
 obtain ⟨n, rfl⟩ : ∃ n, p = n + 1 := ⟨p - 1, by omega⟩
 obtain ⟨j, rfl⟩ : ∃ j, k = j + 1 := ⟨k - 1, by omega⟩
 exact prime_dvd hp hd (a := j + 1) (by omega) hk ⟨bin n j, bin_abs n j⟩
section
variable {R : Type} [Rg R]
theorem nc_mul' (a : Nat) : ∀ b : Nat, (Rg.nc (a * b) : R) = Rg.nc a * Rg.nc b
 | 0 => by rw [Nat.mul_zero]; exact (Rg.mul_zero (Rg.nc a : R)).symm
 | b + 1 => by rw [Nat.mul_succ, nc_add, Rg.nc_succ, nc_mul' a b, Rg.mul_add, Rg.mul_one]
theorem nc_dvd {p n : Nat} (h : (Rg.nc p : R) = 0) (hd : p ∣ n) : (Rg.nc n : R) = 0 := by
 obtain ⟨c, rfl⟩ := hd
 rw [nc_mul', h, Rg.zero_mul]
theorem nc_one' : (Rg.nc 1 : R) = 1 := rfl
def binT (x y : R) (n k : Nat) : R := Rg.nc (bin n k) * (Rg.pow x k * Rg.pow y (n - k))
theorem binom (x y : R) : ∀ n, Rg.pow (x + y) n = Rg.sm (n + 1) (binT x y n)
 | 0 => by
  rw [Rg.sm_succ, Rg.sm_zero, Rg.zero_add]
  show (1 : R) = 1 * (1 * 1)
  rw [Rg.one_mul, Rg.one_mul]
 | n + 1 => by
  rw [Rg.pow_succ, binom x y n, Rg.mul_add, Rg.sm_left (binT x y (n + 1))]
  have e1 : ∀ k, k < n + 1 → binT x y (n + 1) (k + 1) = binT x y n k * x + Rg.nc (bin n (k + 1)) * (Rg.pow x (k + 1) * Rg.pow y (n - k)) := fun k hk => by
   unfold binT
   rw [bin, nc_add, show n + 1 - (k + 1) = n - k by omega, Rg.pow_succ]
   grind
  rw [Rg.sm_congr e1, Rg.sm_add, Rg.sm_mulR]
  have e2 : Rg.sm (n + 1) (fun k => Rg.nc (bin n (k + 1)) * (Rg.pow x (k + 1) * Rg.pow y (n - k))) = Rg.sm n (fun k => binT x y n (k + 1) * y) := by
   rw [Rg.sm_succ, bin_gt n (n + 1) (by omega)]
   have hz : (Rg.nc 0 : R) = 0 := rfl
   rw [hz, Rg.zero_mul, Rg.add_zero]
   exact Rg.sm_congr fun k hk => by
    unfold binT
    have : Rg.pow y (n - k) = Rg.pow y (n - (k + 1)) * y := by rw [← Rg.pow_succ, show n - (k + 1) + 1 = n - k by omega]
    rw [this]; grind
  have e3 : binT x y (n + 1) 0 = binT x y n 0 * y := by
   unfold binT
   rw [bin_zero, bin_zero, Nat.sub_zero, Nat.sub_zero, Rg.pow_succ]; grind
  rw [e2, Rg.sm_mulR, e3, Rg.sm_left (binT x y n)]
  grind
theorem frobR {p : Nat} (hp : 2 ≤ p) (hd : ∀ d, 2 ≤ d → d < p → ¬ d ∣ p) (h0 : (Rg.nc p : R) = 0) (x y : R) : Rg.pow (x + y) p = Rg.pow x p + Rg.pow y p := by
 rw [binom, Rg.sm_succ]
 obtain ⟨n, rfl⟩ : ∃ n, p = n + 1 := ⟨p - 1, by omega⟩
 have h1 : Rg.sm (n + 1) (binT x y (n + 1)) = binT x y (n + 1) 0 := Rg.sm_one (k := 0) (by omega) fun i hi hne => by
  unfold binT
  rw [nc_dvd h0 (bin_prime hp hd (by omega) hi), Rg.zero_mul]
 rw [h1]
 unfold binT
 rw [bin_zero, bin_self, Nat.sub_self, Nat.sub_zero, nc_one', Rg.pow_zero, Rg.pow_zero, Rg.one_mul, Rg.one_mul, Rg.one_mul, Rg.mul_one, Rg.add_comm]
theorem frobRk {p : Nat} (hp : 2 ≤ p) (hd : ∀ d, 2 ≤ d → d < p → ¬ d ∣ p) (h0 : (Rg.nc p : R) = 0) (x y : R) : ∀ k, Rg.pow (x + y) (p ^ k) = Rg.pow x (p ^ k) + Rg.pow y (p ^ k)
 | 0 => by rw [Nat.pow_zero, Rg.pow_one, Rg.pow_one, Rg.pow_one]
 | k + 1 => by rw [Nat.pow_succ, Rg.pow_mul, Rg.pow_mul, Rg.pow_mul, frobRk hp hd h0 x y k, frobR hp hd h0]
end
section
variable {K : Type} [Fd K]
theorem nc_po (n : Nat) : (Rg.nc n : Po K) = Po.C (Rg.nc n) := by
 induction n with
 | zero => exact Po.C_zero.symm
 | succ n ih =>
  rw [Rg.nc_succ, Rg.nc_succ, ih]
  have : (1 : Po K) = Po.C 1 := Po.C_one.symm
  rw [this]; exact Po.mn_add _ _ 0
end
section
variable {p m : Int} {mod : List Int} [hF : IsF p m mod]
theorem nc_char : (Rg.nc p.toNat : El p m mod) = 0 := El.ext (by
 have hp := hF.out.1.1.p2
 rw [nc_val, Int.toNat_of_nonneg (by omega), Int.emod_self]; rfl)
theorem p_prime {p m : Int} {mod : List Int} (hF : IsF p m mod) : ∀ d, 2 ≤ d → d < p.toNat → ¬ d ∣ p.toNat := fun d h1 h2 hd => by
 have hp := hF.out.1.2
 have := hp.2 d (by omega) (by omega)
 apply this
 have h3 : ((d : Nat) : Int) ∣ (p.toNat : Int) := Int.natCast_dvd_natCast.2 hd
 rw [Int.toNat_of_nonneg (by omega)] at h3
 exact Int.emod_eq_zero_of_dvd h3
theorem nc_charP : (Rg.nc p.toNat : Po (El p m mod)) = 0 := by rw [nc_po, nc_char, Po.C_zero]
end
end Go.Proofs.Ytbhoeaijpnjgdaa

namespace Go.Proofs.Ytbhoeaijpnjgdaa
open Po
section
variable {K : Type} [Fd K]
class IrC (P : Po K) : Prop where
 out : Ir P
def Qt (P : Po K) : Type := { f : Po K // len f < len P }
namespace Qt
variable {P : Po K} [hP : IrC P]
noncomputable def mk (P : Po K) [hP : IrC P] (f : Po K) : Qt P := ⟨rem f P, rem_len f hP.out.ne⟩
theorem mk_eq {f g : Po K} : mk P f = mk P g ↔ P ∣ f - g :=
 ⟨fun h => (rem_eq_iff hP.out.ne).1 (congrArg Subtype.val h), fun h => Subtype.ext ((rem_eq_iff hP.out.ne).2 h)⟩
theorem mk_val (a : Qt P) : mk P a.1 = a := Subtype.ext (rem_small a.2)
noncomputable instance : Add (Qt P) := ⟨fun a b => mk P (a.1 + b.1)⟩
noncomputable instance : Mul (Qt P) := ⟨fun a b => mk P (a.1 * b.1)⟩
noncomputable instance : Neg (Qt P) := ⟨fun a => mk P (-a.1)⟩
noncomputable instance : Zero (Qt P) := ⟨mk P 0⟩
noncomputable instance : One (Qt P) := ⟨mk P 1⟩
theorem rem_dvd (f : Po K) : P ∣ f - (mk P f).1 := rem_sub_dvd f hP.out.ne
theorem mk_add (f g : Po K) : mk P f + mk P g = mk P (f + g) := mk_eq.2 (by
 obtain ⟨a, ha⟩ := rem_dvd (P := P) f
 obtain ⟨b, hb⟩ := rem_dvd (P := P) g
 exact ⟨-(a + b), by grind⟩)
theorem mk_mul (f g : Po K) : mk P f * mk P g = mk P (f * g) := mk_eq.2 (by
 obtain ⟨a, ha⟩ := rem_dvd (P := P) f
 obtain ⟨b, hb⟩ := rem_dvd (P := P) g
 exact ⟨-(a * g + (mk P f).1 * b), by grind⟩)
theorem mk_neg (f : Po K) : -mk P f = mk P (-f) := mk_eq.2 (by
 obtain ⟨a, ha⟩ := rem_dvd (P := P) f
 exact ⟨a, by grind⟩)
noncomputable instance : Rg (Qt P) where
 add_assoc a b c := by rw [← mk_val a, ← mk_val b, ← mk_val c, mk_add, mk_add, mk_add, mk_add, Rg.add_assoc]
 add_comm a b := by rw [← mk_val a, ← mk_val b, mk_add, mk_add, Rg.add_comm]
 zero_add a := by
  rw [← mk_val a]
  show mk P 0 + _ = _
  rw [mk_add, Rg.zero_add]
 neg_add a := by
  rw [← mk_val a, mk_neg, mk_add, Rg.neg_add]; rfl
 mul_assoc a b c := by rw [← mk_val a, ← mk_val b, ← mk_val c, mk_mul, mk_mul, mk_mul, mk_mul, Rg.mul_assoc]
 mul_comm a b := by rw [← mk_val a, ← mk_val b, mk_mul, mk_mul, Rg.mul_comm]
 one_mul a := by
  rw [← mk_val a]
  show mk P 1 * _ = _
  rw [mk_mul, Rg.one_mul]
 add_mul a b c := by rw [← mk_val a, ← mk_val b, ← mk_val c, mk_mul, mk_mul, mk_add, mk_add, mk_mul, Rg.add_mul]
theorem mk_zero : mk P 0 = 0 := rfl
theorem mk_one : mk P 1 = 1 := rfl
theorem mk_zero_iff {f : Po K} : mk P f = 0 ↔ P ∣ f := by
 rw [← mk_zero, mk_eq, Rg.sub_zero]
theorem mk_pow (f : Po K) : ∀ n, Rg.pow (mk P f) n = mk P (Rg.pow f n)
 | 0 => rfl
 | n + 1 => by rw [Rg.pow_succ, Rg.pow_succ, mk_pow f n, mk_mul]
theorem inv_ex (a : Qt P) (h : a ≠ 0) : ∃ b : Qt P, b * a = 1 := by
 rw [← mk_val a] at h ⊢
 have h1 : ¬ P ∣ a.1 := fun e => h (mk_zero_iff.2 e)
 have hg := (hP.out.gcd a.1).resolve_right h1
 obtain ⟨u, v, e⟩ := (gcd_is P a.1).bez
 refine ⟨mk P v, ?_⟩
 rw [mk_mul, ← mk_one, mk_eq]
 rw [hg] at e
 exact ⟨-u, by rw [← e]; grind⟩
open Classical in
noncomputable instance : Fd (Qt P) where
 inv a := if h : ∃ b : Qt P, b * a = 1 then Classical.choose h else 0
 inv_mul a h := by
  have he := inv_ex a h
  rw [dif_pos he]; exact Classical.choose_spec he
 one_ne e := by
  have : P ∣ 1 := mk_zero_iff.1 (e : mk P 1 = 0)
  exact hP.out.not_one len_one this
noncomputable instance : DecidableEq (Qt P) := Classical.typeDecidableEq _
theorem val_sub_X (n : Nat) (y : Qt P) : Po.val (mn 1 n - X : Po (Qt P)) y = Rg.pow y n - y := by rw [val_sub, val_mn, val_X, Rg.one_mul]
end Qt
structure FinL (al : List K) : Prop where
 nd : al.Nodup
 mem : ∀ a : K, a ∈ al
def pols (al : List K) : Nat → List (Po K)
 | 0 => [0]
 | n + 1 => (pols al n).flatMap fun f => al.map fun c => f + mn c n
theorem pols_len (al : List K) : ∀ n, (pols al n).length = al.length ^ n
 | 0 => rfl
 | n + 1 => by
  rw [pols, List.length_flatMap]
  have : (pols al n).map (fun f => (al.map fun c => f + mn c n).length) = List.replicate (pols al n).length al.length := by
   rw [List.eq_replicate_iff]
   refine ⟨by rw [List.length_map], fun b hb => ?_⟩
   obtain ⟨f, _, rfl⟩ := List.mem_map.1 hb
   rw [List.length_map]
  rw [this, List.sum_replicate_nat, pols_len al n, Nat.pow_succ]
theorem mem_pols {al : List K} (h : FinL al) : ∀ n (f : Po K), f ∈ pols al n ↔ Sh f n
 | 0, f => by
  rw [pols, List.mem_singleton]
  exact ⟨fun e j _ => by rw [e]; rfl, fun hs => Po.ext fun j => hs j (Nat.zero_le _)⟩
 | n + 1, f => by
  rw [pols, List.mem_flatMap]
  constructor
  ·rintro ⟨g, hg, hf⟩
   obtain ⟨c, _, rfl⟩ := List.mem_map.1 hf
   exact (((mem_pols h n g).1 hg).mono (Nat.le_succ n)).add (mn_sh c n)
  ·intro hs
   refine ⟨f - mn (cf f n) n, (mem_pols h n _).2 fun j hj => ?_, List.mem_map.2 ⟨cf f n, h.mem _, by rw [Rg.sub_add_cancel]⟩⟩
   rw [cf_sub, cf_mn]
   by_cases e : j = n
   ·rw [if_pos e, e, Rg.sub_self]
   ·rw [if_neg e, hs j (by omega), Rg.sub_self]
theorem pols_nodup {al : List K} (h : FinL al) : ∀ n, (pols al n).Nodup
 | 0 => List.pairwise_singleton ..
 | n + 1 => by
  rw [pols, List.Nodup, List.pairwise_flatMap]
  constructor
  ·intro f hf
   rw [List.pairwise_map]
   refine h.nd.imp fun {a b} hab e => hab ?_
   have := congrArg (fun g => cf g n) e
   simp only [cf_add, cf_mn, if_true] at this
   exact Rg.add_left_cancel this
  ·refine (pols_nodup h n).imp_of_mem fun {f g} hf hg hfg a ha b hb e => hfg ?_
   obtain ⟨c, _, rfl⟩ := List.mem_map.1 ha
   obtain ⟨d, _, rfl⟩ := List.mem_map.1 hb
   have sf := (mem_pols h n f).1 hf
   have sg := (mem_pols h n g).1 hg
   refine Po.ext fun j => ?_
   by_cases hj : j < n
   ·have := congrArg (fun g => cf g j) e
    simp only [cf_add, cf_mn, if_neg (show ¬ j = n by omega), Rg.add_zero] at this
    exact this
   ·rw [sf j (by omega), sg j (by omega)]
noncomputable def qts (al : List K) (P : Po K) [hP : IrC P] : List (Qt P) := (pols al (len P - 1)).map (Qt.mk P)
theorem qts_len (al : List K) (P : Po K) [hP : IrC P] : (qts al P).length = al.length ^ (len P - 1) := by rw [qts, List.length_map, pols_len]
theorem qts_mem {al : List K} (h : FinL al) {P : Po K} [hP : IrC P] (a : Qt P) : a ∈ qts al P := by
 refine List.mem_map.2 ⟨a.1, (mem_pols h _ _).2 fun j hj => cf_ge (by have := a.2; omega), Qt.mk_val a⟩
theorem qts_nodup {al : List K} (h : FinL al) {P : Po K} [hP : IrC P] : (qts al P).Nodup := by
 rw [qts, List.Nodup, List.pairwise_map]
 refine (pols_nodup h _).imp_of_mem fun {f g} hf hg hfg e => hfg ?_
 have sf := len_le ((mem_pols h _ f).1 hf)
 have sg := len_le ((mem_pols h _ g).1 hg)
 have h2 := hP.out.two
 have := congrArg Subtype.val e
 have e1 : (Qt.mk P f).1 = f := rem_small (by omega)
 have e2 : (Qt.mk P g).1 = g := rem_small (by omega)
 rw [e1, e2] at this
 exact this
theorem qt_pow {al : List K} (h : FinL al) {P : Po K} [hP : IrC P] (a : Qt P) : Rg.pow a (al.length ^ (len P - 1)) = a := by
 have hq : 0 < al.length := List.length_pos_of_mem (h.mem 0)
 have hN : 0 < al.length ^ (len P - 1) := Nat.pow_pos hq
 by_cases h0 : a = 0
 ·rw [h0]; exact Rg.zero_pow hN
 ·have hz : Fd.Nz (Qt P) ((qts al P).erase 0) := ⟨(qts_nodup h).erase 0, fun b => by
   rw [(qts_nodup h).mem_erase_iff]
   exact ⟨fun e => e.1, fun e => ⟨e, qts_mem h b⟩⟩⟩
  have h1 := hz.pow h0
  rw [List.length_erase_of_mem (qts_mem h 0), qts_len, Fd.pow_eq] at h1
  have e : al.length ^ (len P - 1) = (al.length ^ (len P - 1) - 1) + 1 := by omega
  rw [e, Rg.pow_succ, h1, Rg.one_mul]
theorem dvd_frob {al : List K} (h : FinL al) {P : Po K} (hP : Ir P) (f : Po K) : P ∣ Rg.pow f (al.length ^ (len P - 1)) - f := by
 haveI : IrC P := ⟨hP⟩
 have := qt_pow h (Qt.mk P f)
 rw [Qt.mk_pow] at this
 exact Qt.mk_eq.1 this
theorem dvd_frobk {al : List K} (h : FinL al) {P : Po K} (hP : Ir P) (f : Po K) : ∀ k, P ∣ Rg.pow f (al.length ^ ((len P - 1) * k)) - f
 | 0 => by rw [Nat.mul_zero, Nat.pow_zero, Rg.pow_one, Rg.sub_self]; exact dvd_zero P
 | k + 1 => by
  have h1 := dvd_frobk h hP f k
  have h2 := dvd_frob h hP (Rg.pow f (al.length ^ ((len P - 1) * k)))
  rw [← Rg.pow_mul, ← Nat.pow_add, ← Nat.mul_succ] at h2
  have := dvd_add h2 h1
  rwa [Rg.sub_add_sub] at this
theorem few_fixed {al : List K} (h : FinL al) (hq : 2 ≤ al.length) {P : Po K} (hP : Ir P) {r : Nat} (hr : 1 ≤ r) (hall : ∀ f, P ∣ Rg.pow f (al.length ^ r) - f) : len P - 1 ≤ r := by
 haveI : IrC P := ⟨hP⟩
 have hQ : 2 ≤ al.length ^ r := by
  have := Nat.pow_le_pow_right (show 0 < al.length by omega) hr
  rw [Nat.pow_one] at this; omega
 have hl : len (mn 1 (al.length ^ r) - X : Po (Qt P)) = al.length ^ r + 1 := len_eq (((mn_sh 1 _).sub ((mn_sh 1 1).mono (by omega)))) (by
  rw [cf_sub, cf_mn, if_pos rfl]
  show (1 : Qt P) - cf (mn 1 1) _ ≠ 0
  rw [cf_mn, if_neg (by omega), Rg.sub_zero]; exact Fd.one_ne)
 have h1 := roots_len (qts al P) (mn 1 (al.length ^ r) - X : Po (Qt P)) (qts_nodup h) (len_pos_iff.1 (by omega)) fun a _ => by
  rw [Qt.val_sub_X, ← Qt.mk_val a, Qt.mk_pow, Qt.mk_eq.2 (hall a.1), Rg.sub_self]
 rw [qts_len, hl] at h1
 refine Nat.le_of_not_lt fun hlt => ?_
 have := Nat.pow_lt_pow_right (show 1 < al.length by omega) hlt
 omega
end
section
variable {p m : Int} {mod : List Int} [hF : IsF p m mod]
noncomputable def elA (p m : Int) (mod : List Int) [hF : IsF p m mod] : List (El p m mod) := (0 : El p m mod) :: elNz p m mod
theorem elA_fin : FinL (elA p m mod) := by
 have h := elNz_nz hF.out
 refine ⟨List.nodup_cons.2 ⟨fun hm => (h.mem 0).1 hm rfl, h.nd⟩, fun a => ?_⟩
 by_cases e : a = 0
 ·rw [e]; exact List.mem_cons_self ..
 ·exact List.mem_cons_of_mem _ ((h.mem a).2 e)
theorem elA_len : (elA p m mod).length = (pw p m).toNat := by
 have := hF.q2
 rw [elA, List.length_cons, elNz_len]; omega
theorem frobQ (f g : Po (El p m mod)) (k : Nat) : Rg.pow (f + g) ((pw p m).toNat ^ k) = Rg.pow f ((pw p m).toNat ^ k) + Rg.pow g ((pw p m).toNat ^ k) := by
 have hp := hF.p2
 have e : (pw p m).toNat = p.toNat ^ m.toNat := by
  unfold pw
  rw [Int.toNat_pow_of_nonneg (by omega)]
 rw [e, ← Nat.pow_mul]
 exact frobRk (by omega) (p_prime hF) nc_charP f g _
theorem all_fixed {P : Po (El p m mod)} {n : Nat} (hx : P ∣ Rg.pow X ((pw p m).toNat ^ n) - X) (f : Po (El p m mod)) : P ∣ Rg.pow f ((pw p m).toNat ^ n) - f := by
 have hq := hF.q2
 have hQ : 0 < (pw p m).toNat ^ n := Nat.pow_pos (by omega)
 refine Po.ind (P := fun f => P ∣ Rg.pow f ((pw p m).toNat ^ n) - f) ?_ (fun c j f ih => ?_) f
 ·rw [Rg.zero_pow hQ, Rg.sub_self]; exact dvd_zero P
 ·rw [frobQ]
  have h1 : Rg.pow (mn c j : Po (El p m mod)) ((pw p m).toNat ^ n) = C c * Rg.pow (Rg.pow X ((pw p m).toNat ^ n)) j := by
   have e : (mn c j : Po (El p m mod)) = C c * Rg.pow X j := by
    rw [pow_X]
    show _ = mn c 0 * mn 1 j
    rw [mn_mul, Rg.mul_one, Nat.zero_add]
   rw [e, Rg.mul_pow, ← Rg.pow_mul, ← Rg.pow_mul, Nat.mul_comm j]
   congr 1
   have hcp : ∀ k, Rg.pow (C c : Po (El p m mod)) k = C (Rg.pow c k) := fun k => by
    induction k with
    | zero => exact C_one.symm
    | succ k ih => rw [Rg.pow_succ, Rg.pow_succ, ih, C_mul]
   rw [hcp, all_powk]
  have h2 : ∀ j, P ∣ Rg.pow (Rg.pow X ((pw p m).toNat ^ n)) j - Rg.pow (X : Po (El p m mod)) j := fun j => by
   induction j with
   | zero => rw [Rg.pow_zero, Rg.pow_zero, Rg.sub_self]; exact dvd_zero P
   | succ j ih =>
    obtain ⟨a, ha⟩ := ih
    obtain ⟨b, hb⟩ := hx
    rw [Rg.pow_succ, Rg.pow_succ]
    exact ⟨a * Rg.pow X ((pw p m).toNat ^ n) + Rg.pow X j * b, by grind⟩
  have h3 : (mn c j : Po (El p m mod)) = C c * Rg.pow X j := by
   rw [pow_X]
   show _ = mn c 0 * mn 1 j
   rw [mn_mul, Rg.mul_one, Nat.zero_add]
  rw [h1]
  obtain ⟨a, ha⟩ := ih
  obtain ⟨b, hb⟩ := h2 j
  rw [h3]
  exact ⟨a + C c * b, by grind⟩
theorem ir_dvd_iff {P : Po (El p m mod)} (hP : Ir P) (n : Nat) : P ∣ Rg.pow X ((pw p m).toNat ^ n) - X ↔ (len P - 1) ∣ n := by
 have hq := hF.q2
 have h2 := hP.two
 have hfr : ∀ f k, P ∣ Rg.pow f ((pw p m).toNat ^ ((len P - 1) * k)) - f := fun f k => by
  have := dvd_frobk elA_fin hP f k
  rwa [elA_len] at this
 constructor
 ·intro hx
  have hd := Nat.div_add_mod n (len P - 1)
  have hlt := Nat.mod_lt n (show 0 < len P - 1 by omega)
  refine Classical.byContradiction fun hno => ?_
  have hr : 1 ≤ n % (len P - 1) := Nat.pos_of_ne_zero fun e => hno (Nat.dvd_of_mod_eq_zero e)
  have hall : ∀ f, P ∣ Rg.pow f ((pw p m).toNat ^ (n % (len P - 1))) - f := fun f => by
   have h3 := all_fixed hx f
   have h4 := hfr (Rg.pow f ((pw p m).toNat ^ (n % (len P - 1)))) (n / (len P - 1))
   rw [← Rg.pow_mul, ← Nat.pow_add, Nat.add_comm, hd] at h4
   obtain ⟨a, ha⟩ := h3
   obtain ⟨b, hb⟩ := h4
   exact ⟨a - b, by grind⟩
  have := few_fixed elA_fin (by rw [elA_len]; omega) hP hr (fun f => by rw [elA_len]; exact hall f)
  omega
 ·rintro ⟨k, rfl⟩
  exact hfr X k
theorem xq_sf {n : Nat} (hn : 1 ≤ n) : Sf (Rg.pow X ((pw p m).toNat ^ n) - X : Po (El p m mod)) := fun P hP hd => by
 have hq := hF.q2
 have hp := hF.p2
 obtain ⟨c, hc⟩ := hd
 have h1 := congrArg dP hc
 have h2 : dP (Rg.pow X ((pw p m).toNat ^ n) - X : Po (El p m mod)) = -1 := by
  rw [pow_X]
  refine Po.ext fun j => ?_
  rw [cf_dP, cf_sub, cf_mn, cf_neg, cf_one]
  show Rg.nc (j + 1) * ((if j + 1 = (pw p m).toNat ^ n then 1 else 0) - cf (mn 1 1) (j + 1)) = _
  rw [cf_mn]
  by_cases e : j = 0
  ·subst e
   have h3 : ¬ 0 + 1 = (pw p m).toNat ^ n := fun e => by
    have := Nat.pow_le_pow_right (show 0 < (pw p m).toNat by omega) hn
    rw [Nat.pow_one] at this; omega
   rw [if_neg h3, if_pos rfl, if_pos rfl]
   show (1 : El p m mod) * (0 - 1) = -1
   rw [Rg.one_mul, Rg.zero_sub]
  ·rw [if_neg (show ¬ j + 1 = 1 by omega), if_neg e, Rg.sub_zero, Rg.neg_zero]
   by_cases e2 : j + 1 = (pw p m).toNat ^ n
   ·rw [if_pos e2, Rg.mul_one, e2]
    refine nc_dvd nc_char ?_
    have e3 : (pw p m).toNat = p.toNat ^ m.toNat := by
     unfold pw
     rw [Int.toNat_pow_of_nonneg (by omega)]
    rw [e3, ← Nat.pow_mul]
    have hm := hF.m1
    have : 0 < m.toNat * n := Nat.mul_pos (by omega) (by omega)
    obtain ⟨k, hk⟩ : ∃ k, m.toNat * n = k + 1 := ⟨m.toNat * n - 1, by omega⟩
    rw [hk, Nat.pow_succ]
    exact Nat.dvd_mul_left _ _
   ·rw [if_neg e2, Rg.mul_zero]
 rw [h2, dP_mul, dP_mul] at h1
 have h3 : P ∣ (1 : Po (El p m mod)) := ⟨-(dP P * c + dP P * c + P * dP c), by grind⟩
 exact hP.not_one len_one h3
end
end Go.Proofs.Ytbhoeaijpnjgdaa

namespace Go.Proofs.Ytbhoeaijpnjgdaa
open Po
section
variable {p m : Int} {mod : List Int} [hF : IsF p m mod]
noncomputable def xq (p m : Int) (mod : List Int) [hF : IsF p m mod] (i : Nat) : Po (El p m mod) := Rg.pow X ((pw p m).toNat ^ i) - X
theorem xq_dvd {P : Po (El p m mod)} (hP : Ir P) (n : Nat) : P ∣ xq p m mod n ↔ (len P - 1) ∣ n := ir_dvd_iff hP n
theorem lead_one_ne {K : Type} [Fd K] {f : Po K} (h : lead f = 1) : f ≠ 0 := fun e => by
 rw [e] at h
 exact Fd.one_ne (K := K) (by rw [← h]; rfl)
end
end Go.Proofs.Ytbhoeaijpnjgdaa

namespace Go.Proofs.Ytbhoeaijpnjgdaa
open Po
section
variable {K : Type} [Fd K]
theorem mu_ex {P f : Po K} (hP : Ir P) (hf : f ≠ 0) : ∃ k, Rg.pow P k ∣ f ∧ ¬ Rg.pow P (k + 1) ∣ f := by
 have : ∃ n, ¬ Rg.pow P n ∣ f := ⟨len f, fun h => by
  have h1 := dvd_len h hf
  have h2 := len_pow_ge hP.two (len f)
  omega⟩
 obtain ⟨n, hn, hmin⟩ := nat_least this
 match n, hn, hmin with
 | 0, hn, _ => exact absurd (one_dvd f) hn
 | k + 1, hn, hmin => exact ⟨k, Classical.byContradiction fun h => hmin k (by omega) h, hn⟩
open Classical in
noncomputable def mu (P f : Po K) : Nat := if h : ∃ k, Rg.pow P k ∣ f ∧ ¬ Rg.pow P (k + 1) ∣ f then Classical.choose h else 0
variable {P f g : Po K}
theorem mu_spec (hP : Ir P) (hf : f ≠ 0) : Rg.pow P (mu P f) ∣ f ∧ ¬ Rg.pow P (mu P f + 1) ∣ f := by
 unfold mu
 rw [dif_pos (mu_ex hP hf)]
 exact Classical.choose_spec (mu_ex hP hf)
theorem mu_le_iff (hP : Ir P) (hf : f ≠ 0) (k : Nat) : Rg.pow P k ∣ f ↔ k ≤ mu P f := by
 have h := mu_spec hP hf
 constructor
 ·intro hk
  refine Nat.le_of_not_lt fun hlt => h.2 (dvd_trans (pow_dvd P (show mu P f + 1 ≤ k by omega)) hk)
 ·intro hk
  exact dvd_trans (pow_dvd P hk) h.1
theorem mu_eq (hP : Ir P) (hf : f ≠ 0) {k : Nat} (h1 : Rg.pow P k ∣ f) (h2 : ¬ Rg.pow P (k + 1) ∣ f) : mu P f = k := by
 have h := (mu_le_iff hP hf k).1 h1
 have h' : ¬ k + 1 ≤ mu P f := fun e => h2 ((mu_le_iff hP hf _).2 e)
 omega
theorem dvd_iff_mu (hP : Ir P) (hf : f ≠ 0) : P ∣ f ↔ 1 ≤ mu P f := by
 rw [← mu_le_iff hP hf, Rg.pow_one]
theorem mu_split (hP : Ir P) (hf : f ≠ 0) : ∃ b, f = Rg.pow P (mu P f) * b ∧ ¬ P ∣ b := by
 obtain ⟨h1, h2⟩ := mu_spec hP hf
 obtain ⟨b, hb⟩ := h1
 refine ⟨b, hb, fun hd => h2 ?_⟩
 obtain ⟨c, rfl⟩ := hd
 exact ⟨c, by rw [Rg.pow_succ, Rg.mul_assoc]; exact hb⟩
theorem mu_of_split (hP : Ir P) {b : Po K} {k : Nat} (hb : ¬ P ∣ b) (hf : Rg.pow P k * b ≠ 0) : mu P (Rg.pow P k * b) = k := mu_eq hP hf (dvd_mul _ _) fun h => by
 rw [Rg.pow_succ] at h
 exact hb (mul_dvd_cancel (pow_ne0 hP.ne k) h)
theorem mu_mul (hP : Ir P) (hf : f ≠ 0) (hg : g ≠ 0) : mu P (f * g) = mu P f + mu P g := by
 obtain ⟨a, ha, ha'⟩ := mu_split hP hf
 obtain ⟨b, hb, hb'⟩ := mu_split hP hg
 have e : f * g = Rg.pow P (mu P f + mu P g) * (a * b) := by
  rw [Rg.pow_add]
  have h1 := congrArg (fun z => z * g) ha
  have h2 := congrArg (fun z => Rg.pow P (mu P f) * a * z) hb
  rw [h1, h2]; grind
 have hfg := mul_ne hf hg
 rw [e] at hfg
 rw [e]
 exact mu_of_split hP (fun h => (hP.prime h).elim ha' hb') hfg
theorem mu_one (hP : Ir P) : mu P 1 = 0 := mu_eq hP one_ne (one_dvd 1) fun h => by
 rw [Rg.pow_one] at h; exact hP.not_one len_one h
theorem dvd_of_mu (hf : f ≠ 0) (hg : g ≠ 0) (h : ∀ P, Ir P → lead P = 1 → mu P f ≤ mu P g) : f ∣ g :=
 dvd_of_pows _ f g (Nat.le_refl _) hf fun P k hP hl hd => (mu_le_iff hP hg k).2 (Nat.le_trans ((mu_le_iff hP hf k).1 hd) (h P hP hl))
theorem eq_of_mu (hf : lead f = 1) (hg : lead g = 1) (h : ∀ P, Ir P → lead P = 1 → mu P f = mu P g) : f = g := by
 have f0 : f ≠ 0 := fun e => by rw [e] at hf; exact Fd.one_ne (K := K) (by rw [← hf]; rfl)
 have g0 : g ≠ 0 := fun e => by rw [e] at hg; exact Fd.one_ne (K := K) (by rw [← hg]; rfl)
 exact monic_eq (dvd_of_mu f0 g0 fun P hP hl => Nat.le_of_eq (h P hP hl)) (dvd_of_mu g0 f0 fun P hP hl => Nat.le_of_eq (h P hP hl).symm) hf hg
theorem sf_iff_mu (hf : f ≠ 0) : Sf f ↔ ∀ P, Ir P → mu P f ≤ 1 := by
 constructor
 ·intro h P hP
  refine Nat.le_of_not_lt fun hlt => h P hP ?_
  have := (mu_le_iff hP hf 2).2 hlt
  rwa [Rg.pow_succ, Rg.pow_one] at this
 ·intro h P hP hd
  have : Rg.pow P 2 ∣ f := by rwa [Rg.pow_succ, Rg.pow_one]
  have := (mu_le_iff hP hf 2).1 this
  have := h P hP
  omega
end
section
variable {p m : Int} {mod : List Int} [hF : IsF p m mod]
theorem len_powN {f : Po (El p m mod)} (hf : f ≠ 0) : ∀ n, len (Rg.pow f n) = n * (len f - 1) + 1
 | 0 => by rw [Rg.pow_zero, len_one, Nat.zero_mul]
 | n + 1 => by
  have := len_pos hf
  rw [Rg.pow_succ, len_mul (pow_ne0 hf n) hf, len_powN hf n, Nat.succ_mul]; omega
end
end Go.Proofs.Ytbhoeaijpnjgdaa

namespace Go.Proofs.Ytbhoeaijpnjgdaa
open Po
section
end
end Go.Proofs.Ytbhoeaijpnjgdaa

namespace Go.Proofs.Ytbhoeaijpnjgdaa
open Go.RowKit
section
open Vc
end
section
open Vc
end
end Go.Proofs.Ytbhoeaijpnjgdaa

set_option maxRecDepth 100000
namespace Go.Proofs.Ytbhoeaijpnjgdaa
open Go.RowKit
end Go.Proofs.Ytbhoeaijpnjgdaa

set_option maxRecDepth 100000
namespace Go.Proofs.Ytbhoeaijpnjgdaa
open Go.RowKit
end Go.Proofs.Ytbhoeaijpnjgdaa

namespace Go.Proofs.Ytbhoeaijpnjgdaa
open Go.RowKit
end Go.Proofs.Ytbhoeaijpnjgdaa

set_option maxRecDepth 100000
namespace Go.Proofs.Ytbhoeaijpnjgdaa
open Go.RowKit
end Go.Proofs.Ytbhoeaijpnjgdaa

set_option maxRecDepth 100000
namespace Go.Proofs.Ytbhoeaijpnjgdaa
open Go.RowKit
end Go.Proofs.Ytbhoeaijpnjgdaa

namespace Go.Proofs.Ytbhoeaijpnjgdaa
open Go.RowKit
end Go.Proofs.Ytbhoeaijpnjgdaa

set_option maxRecDepth 100000
namespace Go.Proofs.Ytbhoeaijpnjgdaa
open Go.RowKit
section
end
section
end
end Go.Proofs.Ytbhoeaijpnjgdaa

namespace Go.Proofs.Ytbhoeaijpnjgdaa
open Go.RowKit
section
variable {P : Program} {N : NB} {M : Nat → Prop} {w0 : World} {L : Fr} {F : List Chunk} {o : Oper} {v : Value} {x y : Operand} {t t' : TypeId}
theorem rAddU {m n : Int} (ho : o.op = .binOp .add t x y t') (hx : ev L x = some (.int .u64 m)) (hy : ev L y = some (.int .u64 n)) (h1 : 0 ≤ m + n) (h2 : m + n ≤ 18446744073709551615) : Stl P N M w0 o L F (.int .u64 (m + n)) :=
 stl_pure fun a hl => by simp [execOp, ho, hl.eval hx, hl.eval hy, eqGuard, binOp, Op.intArith, IntWalk.u64_in _ ⟨h1, h2⟩]
theorem rSubU {m n : Int} (ho : o.op = .binOp .sub t x y t') (hx : ev L x = some (.int .u64 m)) (hy : ev L y = some (.int .u64 n)) (h1 : 0 ≤ m - n) (h2 : m - n ≤ 18446744073709551615) : Stl P N M w0 o L F (.int .u64 (m - n)) :=
 stl_pure fun a hl => by simp [execOp, ho, hl.eval hx, hl.eval hy, eqGuard, binOp, Op.intArith, IntWalk.u64_in _ ⟨h1, h2⟩]
theorem rMulU {m n : Int} (ho : o.op = .binOp .mul t x y t') (hx : ev L x = some (.int .u64 m)) (hy : ev L y = some (.int .u64 n)) (h1 : 0 ≤ m * n) (h2 : m * n ≤ 18446744073709551615) : Stl P N M w0 o L F (.int .u64 (m * n)) :=
 stl_pure fun a hl => by simp [execOp, ho, hl.eval hx, hl.eval hy, eqGuard, binOp, Op.intArith, IntWalk.u64_in _ ⟨h1, h2⟩]
theorem rQuoU {m n : Int} (ho : o.op = .binOp .quo t x y t') (hx : ev L x = some (.int .u64 m)) (hy : ev L y = some (.int .u64 n)) (h1 : 0 ≤ m ∧ m ≤ 18446744073709551615) (h2 : 1 ≤ n) : Stl P N M w0 o L F (.int .u64 (m / n)) :=
 stl_pure fun a hl => by
  have hn : n ≠ 0 := by omega
  simp [execOp, ho, hl.eval hx, hl.eval hy, eqGuard, binOp, Op.intDiv, hn, IntWalk.u64_quo m n ⟨h1.1, h1.2, h2⟩]
theorem rRemU {m n : Int} (ho : o.op = .binOp .rem t x y t') (hx : ev L x = some (.int .u64 m)) (hy : ev L y = some (.int .u64 n)) (h1 : 0 ≤ m) (h2 : 1 ≤ n) : Stl P N M w0 o L F (.int .u64 (m % n)) :=
 stl_pure fun a hl => by
  have hn : n ≠ 0 := by omega
  simp [execOp, ho, hl.eval hx, hl.eval hy, eqGuard, binOp, Op.intDiv, hn, IntWalk.rem_in m n h1]
end
end Go.Proofs.Ytbhoeaijpnjgdaa

set_option maxRecDepth 100000
namespace Go.Proofs.Ytbhoeaijpnjgdaa
open Go.RowKit
theorem undU64 : Try.prog.underlying 59 = some (.int .u64) := by kernel_rfl
end Go.Proofs.Ytbhoeaijpnjgdaa

namespace Go.Proofs.Ytbhoeaijpnjgdaa
open Go.RowKit
section
end
end Go.Proofs.Ytbhoeaijpnjgdaa

namespace Go.Proofs.Ytbhoeaijpnjgdaa
open Go.RowKit
def vN : List Int → Int
 | [] => 0
 | x :: l => x + 4294967296 * vN l
def Lm (l : List Int) : Prop := ∀ x ∈ l, 0 ≤ x ∧ x < 4294967296
theorem Lm.get {l : List Int} (h : Lm l) (j : Nat) : 0 ≤ l.getD j 0 ∧ l.getD j 0 < 4294967296 := by
 by_cases hj : j < l.length
 ·exact h _ (getD_mem hj 0)
 ·rw [getD_out (by omega)]; omega
theorem Lm.of {l : List Int} (h : ∀ j, j < l.length → 0 ≤ l.getD j 0 ∧ l.getD j 0 < 4294967296) : Lm l := fun x hx => by
 obtain ⟨j, hj, rfl⟩ := List.getElem_of_mem hx
 have := h j hj
 rwa [List.getD_eq_getElem?_getD, List.getElem?_eq_getElem hj] at this
theorem vN_nn : ∀ {l : List Int}, Lm l → 0 ≤ vN l
 | [], _ => Int.le_refl _
 | x :: l, h => by
  have h1 := h x (List.mem_cons_self ..)
  have h2 := vN_nn (l := l) fun y hy => h y (List.mem_cons_of_mem _ hy)
  rw [vN]; omega
theorem vN_lt : ∀ {l : List Int}, Lm l → vN l < 4294967296 ^ l.length
 | [], _ => by simp [vN]
 | x :: l, h => by
  have h1 := h x (List.mem_cons_self ..)
  have h2 := vN_lt (l := l) fun y hy => h y (List.mem_cons_of_mem _ hy)
  rw [vN, List.length_cons, Int.pow_succ]
  omega
theorem vN_app : ∀ a b : List Int, vN (a ++ b) = vN a + 4294967296 ^ a.length * vN b
 | [], b => by simp [vN]
 | x :: a, b => by
  rw [List.cons_append, vN, vN, vN_app a b, List.length_cons, Int.pow_succ, Int.mul_add, Int.add_assoc, ← Int.mul_assoc, Int.mul_comm 4294967296 (4294967296 ^ a.length)]
theorem vN_zeros : ∀ n : Nat, vN (List.replicate n 0) = 0
 | 0 => rfl
 | n + 1 => by rw [List.replicate_succ, vN, vN_zeros n]; rfl
theorem vN_take {l : List Int} {k : Nat} (hk : k < l.length) : vN (l.take (k + 1)) = vN (l.take k) + 4294967296 ^ k * l.getD k 0 := by
 have e : l.take (k + 1) = l.take k ++ [l.getD k 0] := by
  rw [List.take_add_one, List.getD_eq_getElem?_getD, List.getElem?_eq_getElem hk]; rfl
 rw [e, vN_app, List.length_take, Nat.min_eq_left (by omega)]
 simp [vN]
theorem vN_cut {l : List Int} : ∀ {k : Nat}, (∀ j, k ≤ j → l.getD j 0 = 0) → vN (l.take k) = vN l := fun {k} h => by
 have e : l.drop k = List.replicate (l.length - k) 0 := by
  refine List.ext_getElem (by simp) fun i h1 h2 => ?_
  rw [List.getElem_drop, List.getElem_replicate]
  have := h (k + i) (by omega)
  rw [List.getD_eq_getElem?_getD, List.getElem?_eq_getElem (by simp at h1; omega)] at this
  exact this
 have h2 := vN_app (l.take k) (l.drop k)
 rw [List.take_append_drop, e, vN_zeros, Int.mul_zero, Int.add_zero] at h2
 exact h2.symm
theorem vN_set : ∀ {l : List Int} {k : Nat} {x : Int}, k < l.length → vN (l.set k x) = vN l + 4294967296 ^ k * (x - l.getD k 0)
 | [], k, x, h => by simp at h
 | y :: l, 0, x, _ => by
  rw [List.set_cons_zero, vN, vN, List.getD_cons_zero, Int.pow_zero]; omega
 | y :: l, k + 1, x, h => by
  rw [List.set_cons_succ, vN, vN, List.getD_cons_succ, vN_set (l := l) (k := k) (x := x) (by simpa using h), Int.pow_succ, Int.mul_add, Int.add_assoc, Int.mul_comm (4294967296 ^ k) 4294967296, Int.mul_assoc]
end Go.Proofs.Ytbhoeaijpnjgdaa

namespace Go.Proofs.Ytbhoeaijpnjgdaa
open Go.RowKit
def lmb (n : Nat) : List Int := if h : n = 0 then [] else ((n % 4294967296 : Nat) : Int) :: lmb (n / 4294967296)
termination_by n
decreasing_by omega
theorem lmb_zero : lmb 0 = [] := by rw [lmb]; rfl
theorem lmb_pos {n : Nat} (h : n ≠ 0) : lmb n = ((n % 4294967296 : Nat) : Int) :: lmb (n / 4294967296) := by rw [lmb, dif_neg h]
theorem lmb_ind {p : Nat → Prop} (h0 : p 0) (h1 : ∀ n, n ≠ 0 → p (n / 4294967296) → p n) (n : Nat) : p n := by
 induction n using Nat.strongRecOn with
 | ind n ih =>
  by_cases h : n = 0
  ·rw [h]; exact h0
  ·exact h1 n h (ih _ (by omega))
theorem vN_lmb (n : Nat) : vN (lmb n) = n := by
 refine lmb_ind (p := fun n => vN (lmb n) = n) ?_ (fun n h ih => ?_) n
 ·rw [lmb_zero]; rfl
 ·rw [lmb_pos h, vN, ih]; omega
theorem lmb_lm (n : Nat) : Lm (lmb n) := by
 refine lmb_ind (p := fun n => Lm (lmb n)) ?_ (fun n h ih => ?_) n
 ·rw [lmb_zero]; intro x hx; simp at hx
 ·rw [lmb_pos h]
  intro x hx
  rcases List.mem_cons.1 hx with rfl | hx
  ·omega
  ·exact ih x hx
theorem lmb_len {n k : Nat} : n < 4294967296 ^ k → (lmb n).length ≤ k := by
 induction k generalizing n with
 | zero => intro h; rw [show n = 0 by simpa using h, lmb_zero]; simp
 | succ k ih =>
  intro h
  by_cases h0 : n = 0
  ·rw [h0, lmb_zero]; simp
  ·rw [lmb_pos h0, List.length_cons]
   have := ih (n := n / 4294967296) (by rw [Nat.pow_succ] at h; omega)
   omega
theorem lmb_nil {n : Nat} : (lmb n).length = 0 ↔ n = 0 := by
 constructor
 ·intro h
  by_cases h0 : n = 0
  ·exact h0
  ·rw [lmb_pos h0] at h; simp at h
 ·rintro rfl; rw [lmb_zero]; rfl
theorem lmb_of : ∀ {l : List Int}, Lm l → (l = [] ∨ l.getD (l.length - 1) 0 ≠ 0) → l = lmb (vN l).toNat
 | [], _, _ => by rw [show (vN []).toNat = 0 from rfl, lmb_zero]
 | x :: l, h, h1 => by
  have hx := h x (List.mem_cons_self ..)
  have hl : Lm l := fun y hy => h y (List.mem_cons_of_mem _ hy)
  have hn := vN_nn hl
  have h2 : l = [] ∨ l.getD (l.length - 1) 0 ≠ 0 := by
   cases l with
   | nil => exact .inl rfl
   | cons y l =>
    right
    have := h1.resolve_left (by simp)
    simpa using this
  have ih := lmb_of hl h2
  have hv : vN (x :: l) = x + 4294967296 * vN l := rfl
  have hp : (vN (x :: l)).toNat ≠ 0 := by
   intro h0
   have hz : x + 4294967296 * vN l = 0 := by omega
   have hl0 : vN l = 0 := by omega
   rw [hl0] at ih
   rw [show ((0 : Int).toNat) = 0 from rfl, lmb_zero] at ih
   rw [ih] at h1
   have := h1.resolve_left (by simp)
   simp at this
   omega
  rw [lmb_pos hp, show (vN (x :: l)).toNat / 4294967296 = (vN l).toNat by omega, ← ih]
  congr 1
  omega
theorem lmb_cut {l : List Int} (h : Lm l) {k : Nat} (hk : k ≤ l.length) (h0 : ∀ j, k ≤ j → l.getD j 0 = 0) (h1 : k = 0 ∨ l.getD (k - 1) 0 ≠ 0) : l.take k = lmb (vN l).toNat := by
 have h2 := lmb_of (l := l.take k) (fun x hx => h x (List.mem_of_mem_take hx)) (by
  rcases Nat.eq_zero_or_pos k with h3 | h3
  ·left; rw [h3]; rfl
  ·right
   have h4 := h1.resolve_left (by omega)
   rw [List.length_take, Nat.min_eq_left hk, List.getD_eq_getElem?_getD, List.getElem?_take_of_lt (by omega), ← List.getD_eq_getElem?_getD]
   exact h4)
 rwa [vN_cut h0] at h2
theorem lmb_ge {n k : Nat} (h : (lmb n).length ≤ k) : n < 4294967296 ^ k := by
 have h1 := vN_lt (lmb_lm n)
 rw [vN_lmb] at h1
 have h2 : (4294967296 : Int) ^ (lmb n).length = ((4294967296 ^ (lmb n).length : Nat) : Int) := by rw [Int.natCast_pow]; rfl
 have h3 : 4294967296 ^ (lmb n).length ≤ 4294967296 ^ k := Nat.pow_le_pow_right (by omega) h
 omega
theorem lmb_short {l : List Int} (h : Lm l) : (lmb (vN l).toNat).length ≤ l.length := lmb_len (by
 have h1 := vN_lt h
 have h2 := vN_nn h
 have e : (4294967296 : Int) ^ l.length = ((4294967296 ^ l.length : Nat) : Int) := by rw [Int.natCast_pow]; rfl
 omega)
theorem vN_ext {a b : List Int} (h : ∀ j, a.getD j 0 = b.getD j 0) : vN a = vN b := by
 have h1 := vN_cut (l := a) (k := b.length) fun j hj => by rw [h, getD_out hj]
 have h2 : a.take b.length ++ List.replicate (b.length - a.length) 0 = b := ext_getD (by simp; omega) fun j => by
  rw [← h]
  rw [List.getD_eq_getElem?_getD, List.getD_eq_getElem?_getD, List.getElem?_append]
  split
  ·rename_i h3; rw [List.getElem?_take]; split
   ·rfl
   ·rename_i h4; simp at h3; omega
  ·rename_i h3
   simp at h3
   by_cases h4 : b.length ≤ j
   ·have h5 : a.getD j 0 = 0 := by rw [h, getD_out h4]
    rw [List.getD_eq_getElem?_getD] at h5; rw [h5]
    rw [List.getElem?_replicate]; split <;> rfl
   ·have h5 : a.getD j 0 = 0 := getD_out (by omega)
    rw [List.getD_eq_getElem?_getD] at h5; rw [h5]
    rw [List.getElem?_replicate]; split <;> rfl
 have h3 := congrArg vN h2
 rw [vN_app, vN_zeros, Int.mul_zero, Int.add_zero] at h3
 rw [← h1, h3]
theorem lm_app {a b : List Int} (ha : Lm a) (hb : Lm b) : Lm (a ++ b) := fun x hx => by
 rcases List.mem_append.1 hx with h | h
 ·exact ha x h
 ·exact hb x h
theorem lm_one {x : Int} (h0 : 0 ≤ x) (h1 : x < 4294967296) : Lm [x] := fun y hy => by
 rw [List.mem_singleton.1 hy]; exact ⟨h0, h1⟩
theorem lm_set {a : List Int} (ha : Lm a) {k : Nat} {x : Int} (h0 : 0 ≤ x) (h1 : x < 4294967296) : Lm (a.set k x) := fun y hy => by
 rcases List.mem_or_eq_of_mem_set hy with h | rfl
 ·exact ha y h
 ·exact ⟨h0, h1⟩
theorem lm_rep (n : Nat) : Lm (List.replicate n 0) := fun y hy => by
 rw [(List.mem_replicate.1 hy).2]; omega
theorem lm_nil : Lm [] := fun y hy => by simp at hy
def cmpZ (a b : Int) : Int := if a < b then -1 else if a > b then 1 else 0
def hN (l : List Int) (k : Nat) : Int := vN (l.drop k)
theorem hN_step (l : List Int) (k : Nat) : hN l k = l.getD k 0 + 4294967296 * hN l (k + 1) := by
 unfold hN
 by_cases hk : k < l.length
 ·have e : l.drop k = l.getD k 0 :: l.drop (k + 1) := by
   rw [List.drop_eq_getElem_cons hk, List.getD_eq_getElem?_getD, List.getElem?_eq_getElem hk]; rfl
  rw [e, vN]
 ·rw [List.drop_eq_nil_of_le (by omega), List.drop_eq_nil_of_le (by omega), getD_out (by omega)]; rfl
theorem hN_zero (l : List Int) : hN l 0 = vN l := rfl
theorem hN_out {l : List Int} {k : Nat} (h : l.length ≤ k) : hN l k = 0 := by unfold hN; rw [List.drop_eq_nil_of_le h]; rfl
theorem hN_nn {l : List Int} (h : Lm l) (k : Nat) : 0 ≤ hN l k := vN_nn fun x hx => h x (List.mem_of_mem_drop hx)
theorem hN_set {l : List Int} {k j : Nat} {x : Int} (h : j < k) : hN (l.set j x) k = hN l k := by
 unfold hN
 rw [List.drop_set]
 rw [if_pos h]
theorem vN_tk (l : List Int) (k : Nat) : vN (l.take (k + 1)) = vN (l.take k) + 4294967296 ^ k * l.getD k 0 := by
 by_cases hk : k < l.length
 ·exact vN_take hk
 ·rw [List.take_of_length_le (by omega), List.take_of_length_le (by omega), getD_out (by omega)]; simp
theorem vN_all {l : List Int} {k : Nat} (h : l.length ≤ k) : vN (l.take k) = vN l := by rw [List.take_of_length_le h]
theorem vN_split (l : List Int) (k : Nat) : vN l = vN (l.take k) + 4294967296 ^ k * hN l k := by
 by_cases hk : k ≤ l.length
 ·have h1 := vN_app (l.take k) (l.drop k)
  rw [List.take_append_drop, List.length_take, Nat.min_eq_left hk] at h1
  exact h1
 ·rw [vN_all (by omega), hN_out (by omega)]; simp
theorem vN_tk_lt {l : List Int} (h : Lm l) (k : Nat) : vN (l.take k) < 4294967296 ^ k := by
 have h1 := vN_lt (l := l.take k) fun x hx => h x (List.mem_of_mem_take hx)
 have h2 : (l.take k).length ≤ k := by rw [List.length_take]; omega
 have h3 : (4294967296 : Int) ^ (l.take k).length ≤ 4294967296 ^ k := by
  have := Nat.pow_le_pow_right (show 0 < 4294967296 by omega) h2
  have e1 : (4294967296 : Int) ^ (l.take k).length = ((4294967296 ^ (l.take k).length : Nat) : Int) := by rw [Int.natCast_pow]; rfl
  have e2 : (4294967296 : Int) ^ k = ((4294967296 ^ k : Nat) : Int) := by rw [Int.natCast_pow]; rfl
  omega
 omega
theorem hN_ext {a b : List Int} (k : Nat) (h : ∀ j : Nat, k ≤ j → a.getD j 0 = b.getD j 0) : hN a k = hN b k := vN_ext fun j => by
 have h1 := h (k + j) (by omega)
 rw [List.getD_eq_getElem?_getD, List.getD_eq_getElem?_getD] at h1 ⊢
 rw [List.getElem?_drop, List.getElem?_drop]; exact h1
theorem vN_lt2 {a b : List Int} (ha : Lm a) (hb : Lm b) (k : Nat) (h : ∀ j : Nat, k < j → a.getD j 0 = b.getD j 0) (hlt : a.getD k 0 < b.getD k 0) : vN a < vN b := by
 have h1 := hN_ext (a := a) (b := b) (k + 1) fun j hj => h j (by omega)
 have h2 := hN_step a k
 have h3 := hN_step b k
 have h4 := vN_split a k
 have h5 := vN_split b k
 have h6 := vN_tk_lt ha k
 have h7 : 0 ≤ vN (b.take k) := vN_nn fun x hx => hb x (List.mem_of_mem_take hx)
 have hp : (0 : Int) < 4294967296 ^ k := Int.pow_pos (by omega)
 have h8 : (4294967296 : Int) ^ k * (hN a k + 1) ≤ 4294967296 ^ k * hN b k := Int.mul_le_mul_of_nonneg_left (by omega) (by omega)
 rw [Int.mul_add, Int.mul_one] at h8
 omega
theorem add_alg {O a b x y c P : Int} (h : O + P * c = a + b) {k : Nat} (hP : (4294967296 : Int) ^ k = P := by rfl) : (O + P * vN [(x + y + c) % 4294967296]) + 4294967296 ^ (k + 1) * ((x + y + c) / 4294967296) = (a + P * x) + (b + P * y) := by
 have h1 := Int.emod_add_mul_ediv (x + y + c) 4294967296
 generalize (x + y + c) % 4294967296 = r at *
 generalize (x + y + c) / 4294967296 = q at *
 rw [Int.pow_succ, hP]
 simp only [vN]
 have : c = r + 4294967296 * q - x - y := by omega
 subst this
 grind
theorem mul_alg {O W x y z c K : Int} {i j : Nat} (h : O + 4294967296 ^ (i + j) * c = W + 4294967296 ^ i * x * K) : O + 4294967296 ^ (i + j) * ((x * y + z + c) % 4294967296 - z) + 4294967296 ^ (i + j + 1) * ((x * y + z + c) / 4294967296) = W + 4294967296 ^ i * x * (K + 4294967296 ^ j * y) := by
 have h1 := Int.emod_add_mul_ediv (x * y + z + c) 4294967296
 generalize (x * y + z + c) % 4294967296 = r at *
 generalize (x * y + z + c) / 4294967296 = q at *
 have e : (4294967296 : Int) ^ (i + j) = 4294967296 ^ i * 4294967296 ^ j := Int.pow_add ..
 rw [Int.pow_succ, e]
 rw [e] at h
 clear e
 generalize (4294967296 : Int) ^ i = P at *
 generalize (4294967296 : Int) ^ j = Q at *
 have : c = r + 4294967296 * q - x * y - z := by omega
 subst this
 grind
def bitl (n : Nat) : Nat := if h : n = 0 then 0 else bitl (n / 2) + 1
termination_by n
decreasing_by omega
theorem bitl_zero : bitl 0 = 0 := by rw [bitl]; rfl
theorem bitl_pos {n : Nat} (h : n ≠ 0) : bitl n = bitl (n / 2) + 1 := by rw [bitl, dif_neg h]
theorem bitl_lt {n k : Nat} : n < 2 ^ k → bitl n ≤ k := by
 induction k generalizing n with
 | zero => intro h; rw [show n = 0 by simpa using h, bitl_zero]; simp
 | succ k ih =>
  intro h
  by_cases h0 : n = 0
  ·rw [h0, bitl_zero]; simp
  ·rw [bitl_pos h0]
   have := ih (n := n / 2) (by rw [Nat.pow_succ] at h; omega)
   omega
theorem bitl_ge {n k : Nat} : 2 ^ k ≤ n → k < bitl n := by
 induction k generalizing n with
 | zero => intro h; rw [bitl_pos (by simp at h; omega)]; omega
 | succ k ih =>
  intro h
  have h1 : 0 < 2 ^ k := Nat.two_pow_pos k
  rw [Nat.pow_succ] at h
  rw [bitl_pos (by omega)]
  have := ih (n := n / 2) (by omega)
  omega
theorem bitl_le {n : Nat} : n < 2 ^ bitl n := by
 rcases Nat.lt_or_ge n (2 ^ bitl n) with h | h
 ·exact h
 ·have := bitl_ge h; omega
theorem bitl_one {n : Nat} : bitl n ≤ 1 ↔ n ≤ 1 := by
 constructor
 ·intro h
  rcases Nat.lt_or_ge n 2 with h1 | h1
  ·omega
  ·have := bitl_ge (k := 1) (n := n) (by omega); omega
 ·intro h; exact bitl_lt (by omega)
theorem bitl_div {n : Nat} (k : Nat) (h : 2 ^ k ≤ n) : bitl n = bitl (n / 2 ^ k) + k := by
 induction k generalizing n with
 | zero => simp
 | succ k ih =>
  have h1 : 0 < 2 ^ k := Nat.two_pow_pos k
  rw [Nat.pow_succ] at h
  rw [bitl_pos (by omega), ih (n := n / 2) (by omega), Nat.div_div_eq_div_mul, Nat.pow_succ, Nat.mul_comm 2]; omega
theorem bitl_lmb {n : Nat} (h : n ≠ 0) : (bitl n : Int) = bitl ((lmb n).getD ((lmb n).length - 1) 0).toNat + 32 * (((lmb n).length : Int) - 1) := by
 revert h
 refine lmb_ind (p := fun n => n ≠ 0 → (bitl n : Int) = bitl ((lmb n).getD ((lmb n).length - 1) 0).toNat + 32 * (((lmb n).length : Int) - 1)) (fun h => absurd rfl h) (fun n h ih _ => ?_) n
 rw [lmb_pos h]
 by_cases h1 : n / 4294967296 = 0
 ·rw [h1, lmb_zero, Nat.mod_eq_of_lt (by omega)]; simp
 ·have h2 := ih h1
  have h3 : (lmb (n / 4294967296)).length ≠ 0 := fun h => h1 (lmb_nil.1 h)
  rw [List.length_cons, show (lmb (n / 4294967296)).length + 1 - 1 = ((lmb (n / 4294967296)).length - 1) + 1 by omega, List.getD_cons_succ]
  have h4 := bitl_div (n := n) 32 (by omega)
  rw [show (2 : Nat) ^ 32 = 4294967296 from rfl] at h4
  omega
theorem lmb_mul (x y : Nat) : (vN (lmb x) * vN (lmb y)).toNat = x * y := by rw [vN_lmb, vN_lmb, ← Int.natCast_mul]; rfl
theorem lmb_add (x y : Nat) : (vN (lmb x) + vN (lmb y)).toNat = x + y := by rw [vN_lmb, vN_lmb, ← Int.natCast_add]; rfl
def hlf : Nat → Int
 | 0 => 0
 | f + 1 => ((2 ^ f : Nat) : Int)
theorem hlf_pos (f : Nat) : 1 ≤ hlf (f + 1) := by
 have := Nat.two_pow_pos f
 rw [hlf]; omega
theorem hlf_nn : ∀ e, 0 ≤ hlf e
 | 0 => Int.le_refl _
 | f + 1 => by have := hlf_pos f; omega
theorem hlf_le {e : Nat} (h : e ≤ 19) : hlf e ≤ 262144 := by
 cases e with
 | zero => decide
 | succ f =>
  have : 2 ^ f ≤ 2 ^ 18 := Nat.pow_le_pow_right (by omega) (by omega)
  rw [hlf]; omega
theorem hlf_half : ∀ f, hlf (f + 1) / 2 = hlf f
 | 0 => by decide
 | f + 1 => by rw [hlf, hlf, Nat.pow_succ]; omega
theorem pow_bit (n f : Nat) : 2 * (n / 2 ^ (f + 1)) + (n / 2 ^ f) % 2 = n / 2 ^ f := by
 rw [Nat.pow_succ, ← Nat.div_div_eq_div_mul]; omega
theorem hlf_bit (n f : Nat) : ((n : Int) / hlf (f + 1) % 2 = 1) ↔ (n / 2 ^ f) % 2 = 1 := by
 rw [hlf, ← Int.natCast_ediv]; omega
theorem pow_sq (a n f : Nat) : (n / 2 ^ f) % 2 ≠ 1 → a ^ (n / 2 ^ (f + 1)) * a ^ (n / 2 ^ (f + 1)) = a ^ (n / 2 ^ f) := fun h => by
 rw [← Nat.pow_add]; congr 1
 have := pow_bit n f; omega
theorem pow_sq1 (a n f : Nat) : (n / 2 ^ f) % 2 = 1 → a ^ (n / 2 ^ (f + 1)) * a ^ (n / 2 ^ (f + 1)) * a = a ^ (n / 2 ^ f) := fun h => by
 rw [← Nat.pow_add, ← Nat.pow_succ]; congr 1
 have := pow_bit n f; omega
theorem pow_len {a e : Nat} (ha : a ≤ 256) (he : e ≤ 256) : (lmb (a ^ e)).length ≤ 65 := lmb_len (by
 have h1 := Nat.pow_le_pow_left ha e
 have h2 := Nat.pow_le_pow_right (show 0 < 256 by omega) he
 have h3 : 256 ^ 256 < 4294967296 ^ 65 := by decide
 exact Nat.lt_of_le_of_lt h1 (Nat.lt_of_le_of_lt h2 h3))
theorem pow_len2 {a e : Nat} (ha : a ≤ 256) (he : e ≤ 256) : (lmb (a ^ e * a ^ e)).length ≤ 130 := lmb_len (by
 have h1 := Nat.pow_le_pow_left ha e
 have h2 := Nat.pow_le_pow_right (show 0 < 256 by omega) he
 have h3 : a ^ e ≤ 256 ^ 256 := Nat.le_trans h1 h2
 have h4 := Nat.mul_le_mul h3 h3
 have h5 : 256 ^ 256 * 256 ^ 256 < 4294967296 ^ 130 := by decide
 exact Nat.lt_of_le_of_lt h4 h5)
theorem lmb_one : lmb 1 = [1] := by rw [lmb_pos (by omega)]; simp [lmb_zero]
theorem small_alg {P O d r p : Int} (h : P = d * O + r) : p + 4294967296 * P = d * ((r * 4294967296 + p) / d + 4294967296 * O) + (r * 4294967296 + p) % d := by
 have h1 := Int.emod_add_mul_ediv (r * 4294967296 + p) d
 generalize (r * 4294967296 + p) % d = y at *
 generalize (r * 4294967296 + p) / d = z at *
 grind
end Go.Proofs.Ytbhoeaijpnjgdaa

namespace Go.Proofs.Ytbhoeaijpnjgdaa
open Go.RowKit
def w32 (xs : List Int) : List Value := xs.map (Value.int .u32)
@[simp] theorem w32_length (xs : List Int) : (w32 xs).length = xs.length := by simp [w32]
theorem w32_set (xs : List Int) (j : Nat) (x : Int) : w32 (xs.set j x) = (w32 xs).set j (.int .u32 x) := by unfold w32; rw [List.map_set]
theorem w32_app (xs ys : List Int) : w32 (xs ++ ys) = w32 xs ++ w32 ys := by unfold w32; rw [List.map_append]
theorem w32_one (xs : List Int) : ∀ u ∈ w32 xs, u.oneCell' = true := fun u hu => by
 obtain ⟨x, _, rfl⟩ := List.mem_map.1 hu
 rfl
section
variable {P : Program} {N : NB} {M : Nat → Prop} {w0 : World} {L : Fr} {F F' : List Chunk} {K : Fr → List Chunk → Prop} {b : Bool} {o : Oper} {v z : Value} {x y : Operand} {t t' e : TypeId} {bytes : Nat}
theorem rIdxW {by_ : Nat} {A : Option Addr} {n c : Nat} {i : Int} {xs : List Int} (ho : o.op = .indexAddr t x y) [h : SlTy P t e z by_] (hx : ev L x = some (.slice A n c)) (hy : ev L y = some (.int .i64 i)) [hr : Rd F A (w32 xs)] (h0 : 0 ≤ i) (h1 : i < n) (h2 : i < xs.length) :
  Stl P N M w0 o L F (.pointer (some ((A.getD a0).add i.toNat))) := rIdx ho (h := h) hx hy (hr := hr) h0 h1 (by simpa using h2)
theorem rLdW {A : Option Addr} {j : Nat} {xs : List Int} (ho : o.op = .load t x) [h : ScTy P t] (hx : ev L x = some (.pointer (some ((A.getD a0).add j)))) [hr : Rd F A (w32 xs)] (hj : j < xs.length) : Stl P N M w0 o L F (.int .u32 (xs.getD j 0)) :=
 rLdV ho (h := h) hx (hr := hr) (by rw [w32, List.getElem?_map, List.getElem?_eq_getElem hj, List.getD_eq_getElem?_getD, List.getElem?_eq_getElem hj]; rfl)
theorem eStW {A : Option Addr} {j cap : Nat} {xs : List Int} {n : Int} (ho : o.op = .store t x y) (hd : o.dst = none) [h : ScTy P t] (hx : ev L x = some (.pointer (some ((A.getD a0).add j)))) (hy : ev L y = some (.int .u32 n)) [hp : PkOw F A e cap (w32 xs) F'] (hj : j < xs.length)
  (hK : K L (ow A e cap (w32 (xs.set j n)) :: F')) : Eff P N M w0 false o L F K := eSt ho hd (h := h) hx hy (hp := hp) (by simpa using hj) rfl rfl (by rw [← w32_set]; exact hK)
theorem eMakeW {n : Int} (ho : o.op = .makeSlice t x y) {d : Nat} (hdd : o.dst = some d) (hd : Nat.ble (d + 1) N.n = true) [h : SlTy P t e (.int .u32 0) bytes] (hx : ev L x = some (.int .i64 n)) (hy : ev L y = some (.int .i64 n)) (h0 : 0 ≤ n) (hb : bytes * n.toNat ≤ 281474976710656) (h63 : n ≤ 9223372036854775807)
  (hK : ∀ A : Option Addr, K (addL d (.slice A n.toNat n.toNat) L) (ow A e n.toNat (w32 (List.replicate n.toNat 0)) :: F)) : Eff P N M w0 b o L F K := eMake ho hdd hd (h := h) hx hy h0 hb h63 (fun A => by
 have e1 : List.replicate n.toNat (Value.int .u32 0) = w32 (List.replicate n.toNat 0) := by simp [w32]
 rw [e1]; exact hK A)
theorem eAppW {A B : Option Addr} {n m c cap : Nat} {xs ys : List Int} (ho : o.op = .call { callee := .builtin .append, args := #[x, y], argTypes := #[t, t] }) {d : Nat} (hdd : o.dst = some d) (hd : Nat.ble (d + 1) N.n = true) [h : SlTy P t e z 4]
  (hx : ev L x = some (.slice A n cap)) (hy : ev L y = some (.slice B m c)) [hp : PkOw F A e cap (w32 xs) F'] [hr : Rd F B (w32 ys)] (hn : n = xs.length) (hm' : m = ys.length) (hb : xs.length + ys.length ≤ 17592186044416)
  (hK : ∀ (A' : Option Addr) (cap' : Nat), K (addL d (.slice A' (xs ++ ys).length cap') L) (ow A' e cap' (w32 (xs ++ ys)) :: F')) : Eff P N M w0 false o L F K :=
 eApp ho hdd hd (h := h) hx hy (hp := hp) (hr := hr) (by simpa using hn) (by simpa using hm') (w32_one ys) (by simp only [w32_length]; omega) (by simp only [w32_length]; omega) (fun A' cap' => by
  have h1 := hK A' cap'
  rw [w32_app, List.length_append] at h1
  rw [w32_length, w32_length]; exact h1)
theorem eLit0W (ho : o.op = .buildSlice t 0 #[]) {d : Nat} (hdd : o.dst = some d) (hd : Nat.ble (d + 1) N.n = true) [h : SlTy P t e z bytes] (hK : ∀ A : Option Addr, K (addL d (.slice A 0 0) L) (ow A e 0 (w32 []) :: F)) : Eff P N M w0 b o L F K := eLit0 ho hdd hd (h := h) hK
theorem eLit1W {n0 : Int} (ho : o.op = .buildSlice t 1 #[(0, x)]) {d : Nat} (hdd : o.dst = some d) (hd : Nat.ble (d + 1) N.n = true) [h : SlTy P t e z bytes] (hx : ev L x = some (.int .u32 n0)) (hK : ∀ A : Option Addr, K (addL d (.slice A 1 1) L) (ow A e 1 (w32 [n0]) :: F)) : Eff P N M w0 b o L F K := eLit1 ho hdd hd (h := h) hx rfl hK
theorem eLit2W {n0 n1 : Int} (ho : o.op = .buildSlice t 2 #[(0, x), (1, y)]) {d : Nat} (hdd : o.dst = some d) (hd : Nat.ble (d + 1) N.n = true) [h : SlTy P t e z bytes] (hx : ev L x = some (.int .u32 n0)) (hy : ev L y = some (.int .u32 n1)) (hK : ∀ A : Option Addr, K (addL d (.slice A 2 2) L) (ow A e 2 (w32 [n0, n1]) :: F)) : Eff P N M w0 b o L F K := eLit2 ho hdd hd (h := h) hx rfl hy rfl hK
theorem rQuo32 {m n : Int} (ho : o.op = .binOp .quo t x y t') (hx : ev L x = some (.int .u32 m)) (hy : ev L y = some (.int .u32 n)) (h1 : 0 ≤ m ∧ m ≤ 4294967295) (h2 : 1 ≤ n) : Stl P N M w0 o L F (.int .u32 (m / n)) :=
 stl_pure fun a hl => by
  have hn : n ≠ 0 := by omega
  simp [execOp, ho, hl.eval hx, hl.eval hy, eqGuard, binOp, Op.intDiv, hn, IntWalk.u32_quo m n ⟨h1.1, h1.2, h2⟩]
theorem rShl32 {k' : IntKind} {m : Int} (ho : o.op = .binOp .shl t x y t') (hx : ev L x = some (.int .u64 m)) (hy : ev L y = some (.int k' 32)) (h1 : 0 ≤ m) (h2 : m < 4294967296) : Stl P N M w0 o L F (.int .u64 (m * 4294967296)) :=
 stl_pure fun a hl => by
  have h4 : min (32 : Int).toNat IntKind.u64.bits = 32 := by rfl
  have h5 : (2 : Int) ^ 32 = 4294967296 := by rfl
  have h6 := IntWalk.u64_in (m * 4294967296) ⟨by omega, by omega⟩
  simp only [execOp, ho, hl.eval hx, hl.eval hy, eqGuard, binOp, Op.shift, h4, h5, h6]
  rfl
theorem tr_nilW {N : NR} (e : TypeId) {c : Code} {Q : Exit → Fr → List Chunk → Prop} (h : Tr P N M w0 c L (ow none e 0 (w32 []) :: F) Q) : Tr P N M w0 c L F Q := tr_nil e h
theorem ro_take {A : Option Addr} {vs : List Value} (k : Nat) (F : List Chunk) : CSub (ro A vs :: F) (ro A (vs.take k) :: F) :=
 CSub.weak (c := ro A vs) (d := ro A (vs.take k)) ⟨fun w hs j hj => by
  obtain ⟨ad, h1, h2⟩ := hs j (by rw [List.length_take] at hj; omega)
  exact ⟨ad, h1, by rw [h2, List.getElem_take]⟩, fun b hb => by
  obtain ⟨hne, h⟩ := hb
  exact ⟨fun h0 => hne (by rw [h0]; simp), h⟩, fun h => h⟩ F
theorem w32_take (l : List Int) (k : Nat) : (w32 l).take k = w32 (l.take k) := by unfold w32; rw [List.map_take]
end
end Go.Proofs.Ytbhoeaijpnjgdaa

set_option maxRecDepth 100000
namespace Go.Proofs.Ytbhoeaijpnjgdaa
open Go.RowKit
instance tyW : ScTy Try.prog 105 := scTy_of (by kernel_rfl)
instance tyN : ScTy Try.prog 52 := scTy_of (by kernel_rfl)
instance tySlN : SlTy Try.prog 52 105 (.int .u32 0) 4 := ⟨by kernel_rfl, by kernel_rfl, rfl⟩
theorem undU32 : Try.prog.underlying 105 = some (.int .u32) := by kernel_rfl
theorem ref_limb_ent : Enters Try.prog 86 := enters_of Try.func86 (by kernel_rfl) (by kernel_rfl)
theorem ref_limb (X : Option Addr) (nx cx : Nat) (l : List Int) (hnx : nx = l.length) (hlm : Lm l) (i : Int) (hi : 0 ≤ i) :
  Pure Try.prog 86 #[.slice X nx cx, .int .i64 i] [ro X (w32 l)] (isV (.int .u64 (l.getD i.toNat 0))) := by
 refine pure_of (args := [.slice X nx cx, .int .i64 i]) 14 Try.func86 rfl rfl rfl ref_limb_ent ⟨id, trivial⟩ (fun w0 => ?_)
 refine tS ?_
 refine tR fun _ _ _ => ?_
 refine pV ?_
 refine tS ?_
 refine tS ?_
 refine tR fun _ _ _ => ?_
 iterate 2 refine pV ?_
 refine sV (rLen rfl rfl) ?_
 refine pV ?_
 refine tC rfl (fun h1 => ?_) (fun h1 => ?_)
 ·try simp only [zbA] at h1
  refine tS ?_
  have hli := hlm.get i.toNat
  refine tR fun _ _ _ => ?_
  iterate 2 refine pV ?_
  refine sV (rIdxW rfl rfl rfl (by omega) (by omega) (by omega)) ?_
  refine sV (rLdW rfl rfl (by omega)) ?_
  refine sV (rConv rfl undU32 undU64 rfl (IntWalk.u64_in _ ⟨by omega, by omega⟩)) ?_
  refine pV ?_
  exact tr_ret ⟨trivial, _, _, rfl, ⟨rfl, rfl⟩, CSub.nil _, trivial⟩
 ·try simp only [zbA] at h1
  refine tK ?_
  refine tS ?_
  refine tR fun _ _ _ => ?_
  refine pV ?_
  exact tr_ret ⟨trivial, _, _, rfl, ⟨by rw [getD_out (by omega)], rfl⟩, CSub.nil _, trivial⟩
theorem ref_Trim_ent : Enters Try.prog 87 := enters_of Try.func87 (by kernel_rfl) (by kernel_rfl)
theorem ref_Trim (X : Option Addr) (nx cx : Nat) (l : List Int) (hnx : nx = l.length) (hlnx : Lm l) (h9nx : nx ≤ 4000000) (hcx : nx ≤ cx) :
  Pure Try.prog 87 #[.slice X nx cx] [ro X (w32 l)] (one (fun v ch => ∃ B c, v = .slice B (lmb ((vN l).toNat)).length c ∧ ch = ow B 105 c (w32 (lmb ((vN l).toNat))) ∧ (lmb ((vN l).toNat)).length ≤ c)) := by
 refine pure_of (args := [.slice X nx cx]) 23 Try.func87 rfl rfl rfl ref_Trim_ent ⟨id, trivial⟩ (fun w0 => ?_)
 refine tS ?_
 refine tR fun _ _ _ => ?_
 refine pV ?_
 refine tS ?_
 refine tR fun _ _ _ => ?_
 refine pV ?_
 refine sV (rLen rfl rfl) ?_
 refine pV ?_
 refine tS ?_
 refine tB ?_
 refine tr_loop1 (fun (k : Int) => [(3, .int .i64 k), (0, .slice X nx cx), (2, .slice none 0 0)]) (fun (k : Int) => [ro X (w32 l)]) (fun (k : Int) => (0 ≤ k ∧ k ≤ nx) ∧ ∀ j, k.toNat ≤ j → l.getD j 0 = 0) (fun (k : Int) => k.toNat) (nx) ⟨rfl, rfl, rfl, trivial⟩ (by first | exact cs _ _ | exact CSub.refl _) (⟨⟨by omega, by omega⟩, fun j hj => getD_out (by omega)⟩) (fun k hI => ?_)
 obtain ⟨⟨hk0, hk1⟩, hz⟩ := hI
 refine tS ?_
 refine tS ?_
 refine tR fun _ _ _ => ?_
 iterate 3 refine pV ?_
 refine stg rfl rfl rfl rfl rfl (fun hb => by (have hq := hb; try simp only [zbA] at hq); exact rMove rfl rfl) ?_
 refine stg rfl rfl rfl rfl rfl (fun hb => by (have hq := hb; try simp only [zbA] at hq); exact rMove rfl rfl) ?_
 refine stg rfl rfl rfl rfl rfl (fun hb => by (have hq := hb; try simp only [zbA] at hq); exact rSub rfl (evg rfl hb) rfl (by omega) (by omega)) ?_
 refine stg rfl rfl rfl rfl rfl (fun hb => by (have hq := hb; try simp only [zbA] at hq); exact rIdxW rfl (evg rfl hb) (evg rfl hb) (by omega) (by omega) (by omega)) ?_
 refine stg rfl rfl rfl rfl rfl (fun hb => by (have hq := hb; try simp only [zbA] at hq); exact rLdW rfl (evg rfl hb) (by omega)) ?_
 refine stg rfl rfl rfl rfl rfl (fun hb => by (have hq := hb; try simp only [zbA] at hq); exact rEqlK rfl (evg rfl hb) rfl) ?_
 refine sV (rAndB rfl rfl rfl rfl) ?_
 refine tC rfl (fun h2 => ?_) (fun h2 => ?_)
 ·try simp only [zbA] at h2
  refine tK ?_
  refine tB ?_
  refine tR fun _ _ _ => ?_
  refine pV ?_
  refine sV (rSub rfl rfl rfl (by omega) (by omega)) ?_
  refine pV ?_
  refine ⟨k - 1, ⟨rfl, rfl, rfl, trivial⟩, by first | exact cs _ _ | exact CSub.refl _, ?_⟩
  refine ⟨⟨⟨by omega, by omega⟩, fun j hj => ?_⟩, by omega⟩
  rcases Nat.lt_or_ge j k.toNat with h | h
  ·rw [show j = (k - 1).toNat by omega]; exact h2.2
  ·exact hz j h
 ·try simp only [zbA] at h2
  refine tE ?_
  refine tS ?_
  refine tr_chunks _ (ro_take k.toNat []) ?_
  rw [w32_take]
  refine tR fun _ _ _ => ?_
  refine eV (eLit0W rfl rfl rfl  (fun A4 => ?_))
  iterate 2 refine pV ?_
  refine sV (rCutHi rfl rfl rfl (by omega) (by omega)) ?_
  refine eV (eAppW rfl rfl rfl rfl rfl (by rfl) (by rw [List.length_take]; omega) (by rw [List.length_take]; simp; omega) (fun A4a c4a => ?_))
  refine pV ?_
  rw [List.nil_append, lmb_cut hlnx (k := k.toNat) (by omega) hz (h2.elim (fun h => .inl (by omega)) (fun h => .inr (by rw [show k.toNat - 1 = (k - 1).toNat by omega]; exact h)))]
  refine tr_cap A4a 105 c4a (w32 (lmb (vN l).toNat)) fun hcap => ?_
  rw [w32_length] at hcap
  exact tr_ret ⟨trivial, _, _, rfl, ⟨_, rfl, A4a, c4a, rfl, rfl, hcap⟩, cs _ _, trivial, trivial⟩
theorem ref_NOf_ent : Enters Try.prog 33 := enters_of Try.func33 (by kernel_rfl) (by kernel_rfl)
theorem ref_NOf (n : Int) (hn0 : 0 ≤ n) (hn9 : n ≤ 18446744073709551615) :
  Pure Try.prog 33 #[.int .u64 n] [] (one (fun v ch => ∃ B c, v = .slice B (lmb (n.toNat)).length c ∧ ch = ow B 105 c (w32 (lmb (n.toNat))) ∧ (lmb (n.toNat)).length ≤ c)) := by
 refine pure_of (args := [.int .u64 n]) 11 Try.func33 rfl rfl rfl ref_NOf_ent trivial (fun w0 => ?_)
 refine tS ?_
 refine tR fun _ _ _ => ?_
 refine pV ?_
 refine tS ?_
 have hl2 : Lm [n % 4294967296, n / 4294967296] := fun x hx => by
  simp only [List.mem_cons, List.not_mem_nil, or_false] at hx
  rcases hx with rfl | rfl <;> omega
 have hv : (vN [n % 4294967296, n / 4294967296]).toNat = n.toNat := by simp only [vN]; omega
 refine tR fun _ _ _ => ?_
 refine pV ?_
 refine sV (rRemU rfl rfl rfl (by omega) (by omega)) ?_
 refine sV (rConv rfl undU64 undU32 rfl (IntWalk.u32_in _ ⟨by omega, by omega⟩)) ?_
 refine pV ?_
 refine sV (rQuoU rfl rfl rfl (by omega) (by omega)) ?_
 refine sV (rConv rfl undU64 undU32 rfl (IntWalk.u32_in _ ⟨by omega, by omega⟩)) ?_
 refine eV (eLit2W rfl rfl rfl rfl rfl (fun A1 => ?_))
 refine eV (eCall1 rfl rfl rfl (ref_Trim A1 2 2 [n % 4294967296, n / 4294967296] rfl hl2 (by omega) (by omega)) ⟨rfl, trivial⟩ ?_)
 rintro _ _ ⟨B1a, c1a, rfl, rfl, hc1a⟩
 refine pV ?_
 rw [hv] at hc1a ⊢
 exact tr_ret ⟨trivial, _, _, rfl, ⟨_, rfl, B1a, c1a, rfl, rfl, hc1a⟩, cs _ _, trivial, trivial⟩
theorem ref_NCmp_ent : Enters Try.prog 135 := enters_of Try.func135 (by kernel_rfl) (by kernel_rfl)
theorem ref_NCmp (X : Option Addr) (nx cx : Nat) (l : List Int) (hnx : nx = l.length) (hlnx : Lm l) (h9nx : nx ≤ 1000000) (Y : Option Addr) (ny cy : Nat) (k : List Int) (hny : ny = k.length) (hlny : Lm k) (h9ny : ny ≤ 1000000) :
  Pure Try.prog 135 #[.slice X nx cx, .slice Y ny cy] [ro X (w32 l), ro Y (w32 k)] (isV (.int .i64 (cmpZ (vN l) (vN k)))) := by
 refine pure_of (args := [.slice X nx cx, .slice Y ny cy]) 30 Try.func135 rfl rfl rfl ref_NCmp_ent ⟨id, id, trivial⟩ (fun w0 => ?_)
 refine tS ?_
 refine tR fun _ _ _ => ?_
 refine pV ?_
 refine tS ?_
 refine tS ?_
 refine tR fun _ _ _ => ?_
 refine pV ?_
 refine sV (rLen rfl rfl) ?_
 refine pV ?_
 refine sV (rLen rfl rfl) ?_
 refine sV (rMax rfl rfl rfl) ?_
 refine sV (rSub rfl rfl rfl (by omega) (by omega)) ?_
 refine pV ?_
 refine tB ?_
 refine tr_loop1 (fun (i : Int) => [(5, .int .i64 i), (0, .slice X nx cx), (1, .slice Y ny cy)]) (fun (i : Int) => [ro X (w32 l), ro Y (w32 k)]) (fun (i : Int) => (-1 ≤ i ∧ i < max (nx : Int) ny) ∧ ∀ j : Nat, i < j → l.getD j 0 = k.getD j 0) (fun (i : Int) => (i + 1).toNat) (max (nx : Int) ny - 1) ⟨rfl, rfl, rfl, trivial⟩ (by first | exact cs _ _ | exact CSub.refl _) (⟨⟨by omega, by omega⟩, fun j hj => by rw [getD_out (by omega), getD_out (by omega)]⟩) (fun i hI => ?_)
 obtain ⟨⟨hi0, hi1⟩, hz⟩ := hI
 refine tS ?_
 refine tS ?_
 refine tR fun _ _ _ => ?_
 iterate 2 refine pV ?_
 refine tC rfl (fun h2 => ?_) (fun h2 => ?_)
 ·try simp only [zbA] at h2
  refine tK ?_
  refine tS ?_
  refine tB ?_
  refine tS ?_
  refine tS ?_
  refine tR fun _ _ _ => ?_
  iterate 2 refine pV ?_
  refine eV (eCallV rfl rfl rfl (ref_limb X nx cx l hnx hlnx i (by omega)) ⟨rfl, rfl, trivial⟩ ?_)
  iterate 2 refine pV ?_
  refine eV (eCallV rfl rfl rfl (ref_limb Y ny cy k hny hlny i (by omega)) ⟨rfl, rfl, trivial⟩ ?_)
  refine sV (rLssK rfl rfl rfl) ?_
  refine tC rfl (fun h4 => ?_) (fun h4 => ?_)
  ·try simp only [zbA] at h4
   refine tS ?_
   refine tR fun _ _ _ => ?_
   refine pV ?_
   exact tr_ret ⟨trivial, _, _, rfl, ⟨by rw [cmpZ, if_pos (vN_lt2 hlnx hlny i.toNat (fun j hj => hz j (by omega)) h4)], rfl⟩, CSub.nil _, trivial⟩
  ·try simp only [zbA] at h4
   refine tK ?_
   refine tS ?_
   refine tR fun _ _ _ => ?_
   iterate 2 refine pV ?_
   refine eV (eCallV rfl rfl rfl (ref_limb X nx cx l hnx hlnx i (by omega)) ⟨rfl, rfl, trivial⟩ ?_)
   iterate 2 refine pV ?_
   refine eV (eCallV rfl rfl rfl (ref_limb Y ny cy k hny hlny i (by omega)) ⟨rfl, rfl, trivial⟩ ?_)
   refine sV (rGtrK rfl rfl rfl) ?_
   refine tC rfl (fun h6 => ?_) (fun h6 => ?_)
   ·try simp only [zbA] at h6
    refine tS ?_
    refine tR fun _ _ _ => ?_
    refine pV ?_
    exact tr_ret ⟨trivial, _, _, rfl, ⟨by
     have h9 := vN_lt2 hlny hlnx i.toNat (fun j hj => (hz j (by omega)).symm) h6
     rw [cmpZ, if_neg (by omega), if_pos h9], rfl⟩, CSub.nil _, trivial⟩
   ·try simp only [zbA] at h6
    refine tK ?_
    refine tR fun _ _ _ => ?_
    refine pV ?_
    refine sV (rSub rfl rfl rfl (by omega) (by omega)) ?_
    refine pV ?_
    refine ⟨i - 1, ⟨rfl, rfl, rfl, trivial⟩, by first | exact cs _ _ | exact CSub.refl _, ?_⟩
    refine ⟨⟨⟨by omega, by omega⟩, fun j hj => ?_⟩, by omega⟩
    by_cases h : i < (j : Int)
    ·exact hz j h
    ·rw [show j = i.toNat by omega]; omega
 ·try simp only [zbA] at h2
  refine tE ?_
  refine tS ?_
  refine tR fun _ _ _ => ?_
  refine pV ?_
  exact tr_ret ⟨trivial, _, _, rfl, ⟨by rw [vN_ext (a := l) (b := k) (fun j => hz j (by omega)), cmpZ, if_neg (by omega), if_neg (by omega)], rfl⟩, CSub.nil _, trivial⟩
theorem ref_NAdd_ent : Enters Try.prog 31 := enters_of Try.func31 (by kernel_rfl) (by kernel_rfl)
theorem ref_NAdd (X : Option Addr) (nx cx : Nat) (l : List Int) (hnx : nx = l.length) (hlnx : Lm l) (h9nx : nx ≤ 1000000) (Y : Option Addr) (ny cy : Nat) (k : List Int) (hny : ny = k.length) (hlny : Lm k) (h9ny : ny ≤ 1000000) :
  Pure Try.prog 31 #[.slice X nx cx, .slice Y ny cy] [ro X (w32 l), ro Y (w32 k)] (one (fun v ch => ∃ B c, v = .slice B (lmb ((vN l + vN k).toNat)).length c ∧ ch = ow B 105 c (w32 (lmb ((vN l + vN k).toNat))) ∧ (lmb ((vN l + vN k).toNat)).length ≤ c)) := by
 refine pure_of (args := [.slice X nx cx, .slice Y ny cy]) 44 Try.func31 rfl rfl rfl ref_NAdd_ent ⟨id, id, trivial⟩ (fun w0 => ?_)
 refine tS ?_
 refine tR fun _ _ _ => ?_
 refine pV ?_
 refine tS ?_
 refine tR fun _ _ _ => ?_
 refine pV ?_
 refine tS ?_
 refine tR fun _ _ _ => ?_
 refine pV ?_
 refine tS ?_
 refine tS ?_
 refine tR fun _ _ _ => ?_
 refine pV ?_
 refine tB ?_
 refine tr_nilW 105 ?_
 refine tr_loop5 (fun (i : Int) (cy2 : Int) (B : Option Addr) (cb : Nat) (o : List Int) => [(5, .slice B o.length cb), (6, .int .u64 cy2), (7, .int .i64 i), (0, .slice X nx cx), (1, .slice Y ny cy), (4, .slice none 0 0)]) (fun (i : Int) (cy2 : Int) (B : Option Addr) (cb : Nat) (o : List Int) => [ow B 105 cb (w32 o), ro X (w32 l), ro Y (w32 k)]) (fun (i : Int) (cy2 : Int) (B : Option Addr) (cb : Nat) (o : List Int) => (0 ≤ i ∧ i ≤ max (nx : Int) ny + 1) ∧ (0 ≤ cy2 ∧ cy2 ≤ 1) ∧ (o.length : Int) = i ∧ Lm o ∧ (max (nx : Int) ny < i → cy2 = 0) ∧ vN o + 4294967296 ^ i.toNat * cy2 = vN (l.take i.toNat) + vN (k.take i.toNat)) (fun (i : Int) (cy2 : Int) (B : Option Addr) (cb : Nat) (o : List Int) => (max (nx : Int) ny + 1 - i).toNat) (0) (0) (none) (0) ([]) ⟨rfl, rfl, rfl, rfl, rfl, rfl, trivial⟩ (by first | exact cs _ _ | exact CSub.refl _) (⟨⟨by omega, by omega⟩, ⟨by omega, by omega⟩, rfl, lm_nil, fun _ => rfl, by simp [vN]⟩) (fun i cy2 B cb o hI => ?_)
 obtain ⟨⟨hi0, hi1⟩, ⟨hc0, hc1⟩, hol0, hol, hcz, hs⟩ := hI
 refine tS ?_
 refine tS ?_
 refine tR fun _ _ _ => ?_
 iterate 2 refine pV ?_
 refine sV (rLen rfl rfl) ?_
 iterate 2 refine pV ?_
 refine stg rfl rfl rfl rfl rfl (fun hb => by (have hq := hb; try simp only [zbA] at hq); exact rMove rfl rfl) ?_
 refine stg rfl rfl rfl rfl rfl (fun hb => by (have hq := hb; try simp only [zbA] at hq); exact rMove rfl rfl) ?_
 refine stg rfl rfl rfl rfl rfl (fun hb => by (have hq := hb; try simp only [zbA] at hq); exact rLen rfl (evg rfl hb)) ?_
 refine stg rfl rfl rfl rfl rfl (fun hb => by (have hq := hb; try simp only [zbA] at hq); exact rLss rfl (evg rfl hb) (evg rfl hb)) ?_
 refine sV (rOrB rfl rfl rfl rfl) ?_
 refine pV ?_
 refine stg rfl rfl rfl rfl rfl (fun hb => by (have hq := hb; try simp only [zbA] at hq); exact rMove rfl rfl) ?_
 refine stg rfl rfl rfl rfl rfl (fun hb => by (have hq := hb; try simp only [zbA] at hq); exact rGtrK rfl (evg rfl hb) rfl) ?_
 refine sV (rOrB rfl rfl rfl rfl) ?_
 refine tC rfl (fun h4 => ?_) (fun h4 => ?_)
 ·try simp only [zbA] at h4
  refine tK ?_
  refine tS ?_
  refine tB ?_
  refine tS ?_
  have hli := hlnx.get i.toNat
  have hki := hlny.get i.toNat
  refine tR fun _ _ _ => ?_
  iterate 2 refine pV ?_
  refine eV (eCallV rfl rfl rfl (ref_limb X nx cx l hnx hlnx i (by omega)) ⟨rfl, rfl, trivial⟩ ?_)
  iterate 2 refine pV ?_
  refine eV (eCallV rfl rfl rfl (ref_limb Y ny cy k hny hlny i (by omega)) ⟨rfl, rfl, trivial⟩ ?_)
  refine sV (rAddU rfl rfl rfl (by omega) (by omega)) ?_
  refine pV ?_
  refine sV (rAddU rfl rfl rfl (by omega) (by omega)) ?_
  refine pV ?_
  refine tS ?_
  refine tR fun _ _ _ => ?_
  iterate 2 refine pV ?_
  refine sV (rRemU rfl rfl rfl (by omega) (by omega)) ?_
  refine sV (rConv rfl undU64 undU32 rfl (IntWalk.u32_in _ ⟨by omega, by omega⟩)) ?_
  refine eV (eLit1W rfl rfl rfl rfl (fun A7 => ?_))
  refine eV (eAppW rfl rfl rfl rfl rfl (by first | rfl | simp | omega) (by first | rfl | simp | omega) (by first | omega | (simp; omega)) (fun A7a c7a => ?_))
  refine pV ?_
  refine tR fun _ _ _ => ?_
  refine pV ?_
  refine sV (rQuoU rfl rfl rfl (by omega) (by omega)) ?_
  refine pV ?_
  refine tR fun _ _ _ => ?_
  refine pV ?_
  refine sV (rAdd rfl rfl rfl (by omega) (by omega)) ?_
  refine pV ?_
  refine ⟨i + 1, (l.getD i.toNat 0 + k.getD i.toNat 0 + cy2) / 4294967296, A7a, c7a, o ++ [(l.getD i.toNat 0 + k.getD i.toNat 0 + cy2) % 4294967296], ⟨rfl, rfl, rfl, rfl, rfl, rfl, trivial⟩, by first | exact cs _ _ | exact CSub.refl _, ?_⟩
  refine ⟨⟨⟨by omega, by omega⟩, ⟨by omega, by omega⟩, by simp; omega, lm_app hol (lm_one (by omega) (by omega)), fun h => ?_, ?_⟩, by omega⟩
  ·have e1 : l.getD i.toNat 0 = 0 := getD_out (by omega)
   have e2 : k.getD i.toNat 0 = 0 := getD_out (by omega)
   omega
  ·rw [show (i + 1).toNat = i.toNat + 1 by omega, vN_tk, vN_tk, vN_app, show o.length = i.toNat by omega]
   exact add_alg hs
 ·try simp only [zbA] at h4
  refine tE ?_
  refine tS ?_
  refine tr_cap B 105 cb (w32 o) fun hcap => ?_
  rw [w32_length] at hcap
  have hc0 : cy2 = 0 := by omega
  have hv : vN o = vN l + vN k := by
   rw [hc0, Int.mul_zero, Int.add_zero, vN_all (by omega), vN_all (by omega)] at hs; exact hs
  refine tR fun _ _ _ => ?_
  refine pV ?_
  refine eV (eCall1 rfl rfl rfl (ref_Trim B _ cb o rfl hol (by omega) hcap) ⟨rfl, trivial⟩ ?_)
  rintro _ _ ⟨B9, c9, rfl, rfl, hc9⟩
  refine pV ?_
  rw [hv] at hc9 ⊢
  exact tr_ret ⟨trivial, _, _, rfl, ⟨_, rfl, B9, c9, rfl, rfl, hc9⟩, cs _ _, trivial, trivial⟩
theorem ref_NMul_ent : Enters Try.prog 32 := enters_of Try.func32 (by kernel_rfl) (by kernel_rfl)
theorem ref_NMul (X : Option Addr) (nx cx : Nat) (l : List Int) (hnx : nx = l.length) (hlnx : Lm l) (h9nx : nx ≤ 1000000) (Y : Option Addr) (ny cy : Nat) (k : List Int) (hny : ny = k.length) (hlny : Lm k) (h9ny : ny ≤ 1000000) :
  Pure Try.prog 32 #[.slice X nx cx, .slice Y ny cy] [ro X (w32 l), ro Y (w32 k)] (one (fun v ch => ∃ B c, v = .slice B (lmb ((vN l * vN k).toNat)).length c ∧ ch = ow B 105 c (w32 (lmb ((vN l * vN k).toNat))) ∧ (lmb ((vN l * vN k).toNat)).length ≤ c)) := by
 refine pure_of (args := [.slice X nx cx, .slice Y ny cy]) 69 Try.func32 rfl rfl rfl ref_NMul_ent ⟨id, id, trivial⟩ (fun w0 => ?_)
 refine tS ?_
 refine tR fun _ _ _ => ?_
 refine pV ?_
 refine tS ?_
 refine tR fun _ _ _ => ?_
 refine pV ?_
 refine sV (rLen rfl rfl) ?_
 refine pV ?_
 refine sV (rLen rfl rfl) ?_
 refine sV (rAdd rfl rfl rfl (by omega) (by omega)) ?_
 refine eV (eMakeW rfl rfl rfl rfl rfl (by omega) (by omega) (by omega) (fun A1 => ?_))
 refine pV ?_
 refine tS ?_
 refine tS ?_
 refine tR fun _ _ _ => ?_
 refine pV ?_
 refine tB ?_
 refine tr_loop2 (fun (i : Int) (o : List Int) => [(5, .slice A1 ((nx : Int) + ny).toNat ((nx : Int) + ny).toNat), (6, .int .i64 i), (0, .slice X nx cx), (1, .slice Y ny cy), (4, .slice none 0 0)]) (fun (i : Int) (o : List Int) => [ow A1 105 ((nx : Int) + ny).toNat (w32 o), ro X (w32 l), ro Y (w32 k)]) (fun (i : Int) (o : List Int) => (0 ≤ i ∧ i ≤ nx) ∧ o.length = nx + ny ∧ Lm o ∧ vN o = vN (l.take i.toNat) * vN k ∧ ∀ t : Nat, i + ny ≤ t → o.getD t 0 = 0) (fun (i : Int) (o : List Int) => (nx - i).toNat) (0) (List.replicate ((nx : Int) + ny).toNat 0) ⟨rfl, rfl, rfl, rfl, rfl, trivial⟩ (by first | exact cs _ _ | exact CSub.refl _) (⟨⟨by omega, by omega⟩, by rw [List.length_replicate]; omega, lm_rep _, by rw [vN_zeros]; simp [vN], fun t _ => rep_get _ _⟩) (fun i o hI => ?_)
 obtain ⟨⟨hi0, hi1⟩, hoL, hol, hs, hz⟩ := hI
 refine tS ?_
 refine tS ?_
 refine tR fun _ _ _ => ?_
 iterate 2 refine pV ?_
 refine sV (rLen rfl rfl) ?_
 refine pV ?_
 refine tC rfl (fun h3 => ?_) (fun h3 => ?_)
 ·try simp only [zbA] at h3
  refine tK ?_
  refine tS ?_
  refine tB ?_
  refine tS ?_
  refine tR fun _ _ _ => ?_
  refine pV ?_
  refine tS ?_
  refine tS ?_
  refine tR fun _ _ _ => ?_
  refine pV ?_
  refine tB ?_
  refine tr_loop3 (fun (j : Int) (cy2 : Int) (o2 : List Int) => [(5, .slice A1 ((nx : Int) + ny).toNat ((nx : Int) + ny).toNat), (7, .int .u64 cy2), (8, .int .i64 j), (0, .slice X nx cx), (1, .slice Y ny cy), (4, .slice none 0 0), (6, .int .i64 i), (16, .int .i64 i), (17, .slice X nx cx), (18, .int .i64 nx)]) (fun (j : Int) (cy2 : Int) (o2 : List Int) => [ow A1 105 ((nx : Int) + ny).toNat (w32 o2), ro X (w32 l), ro Y (w32 k)]) (fun (j : Int) (cy2 : Int) (o2 : List Int) => (0 ≤ j ∧ j ≤ ny) ∧ (0 ≤ cy2 ∧ cy2 < 4294967296) ∧ o2.length = nx + ny ∧ Lm o2 ∧ vN o2 + 4294967296 ^ (i + j).toNat * cy2 = vN (l.take i.toNat) * vN k + 4294967296 ^ i.toNat * l.getD i.toNat 0 * vN (k.take j.toNat) ∧ ∀ t : Nat, i + ny ≤ t → o2.getD t 0 = 0) (fun (j : Int) (cy2 : Int) (o2 : List Int) => (ny - j).toNat) (0) (0) (o) ⟨rfl, rfl, rfl, rfl, rfl, rfl, rfl, rfl, rfl, rfl, trivial⟩ (by first | exact cs _ _ | exact CSub.refl _) (⟨⟨by omega, by omega⟩, ⟨by omega, by omega⟩, hoL, hol, by rw [hs]; simp [vN], hz⟩) (fun j cy2 o2 hI => ?_)
  obtain ⟨⟨hj0, hj1⟩, ⟨hc0, hc1⟩, hoL2, hol2, hs2, hz2⟩ := hI
  refine tS ?_
  refine tS ?_
  refine tR fun _ _ _ => ?_
  iterate 2 refine pV ?_
  refine sV (rLen rfl rfl) ?_
  refine pV ?_
  refine tC rfl (fun h7 => ?_) (fun h7 => ?_)
  ·try simp only [zbA] at h7
   refine tK ?_
   refine tS ?_
   refine tB ?_
   refine tS ?_
   have hli := hlnx.get i.toNat
   have hkj := hlny.get j.toNat
   have hoj := hol2.get (i + j).toNat
   have hlk : 0 ≤ l.getD i.toNat 0 * k.getD j.toNat 0 := Int.mul_nonneg hli.1 hkj.1
   have hlk9 : l.getD i.toNat 0 * k.getD j.toNat 0 ≤ 4294967295 * 4294967295 := Int.mul_le_mul (by omega) (by omega) hkj.1 (by omega)
   refine tr_draw [0, 1, 2, 3, 4, 5, 6, 7, 8, 9, 10, 11, 12, 13, 14, 15, 16, 17, 18, 19, 20, 21] [] mixed (by kernel_rfl) fun _ _ _ => ?_
   iterate 2 refine pV ?_
   refine sV (rIdxW rfl rfl rfl (by omega) (by omega) (by omega)) ?_
   refine sV (rLdW rfl rfl (by omega)) ?_
   refine sV (rConv rfl undU32 undU64 rfl (IntWalk.u64_in _ ⟨by omega, by omega⟩)) ?_
   iterate 2 refine pV ?_
   refine sV (rIdxW rfl rfl rfl (by omega) (by omega) (by omega)) ?_
   refine sV (rLdW rfl rfl (by omega)) ?_
   refine sV (rConv rfl undU32 undU64 rfl (IntWalk.u64_in _ ⟨by omega, by omega⟩)) ?_
   refine sV (rMulU rfl rfl rfl (by omega) (by omega)) ?_
   iterate 3 refine pV ?_
   refine sV (rAdd rfl rfl rfl (by omega) (by omega)) ?_
   refine sV (rIdxW rfl rfl rfl (by omega) (by omega) (by omega)) ?_
   refine sV (rLdW rfl rfl (by omega)) ?_
   refine sV (rConv rfl undU32 undU64 rfl (IntWalk.u64_in _ ⟨by omega, by omega⟩)) ?_
   refine sV (rAddU rfl rfl rfl (by omega) (by omega)) ?_
   refine pV ?_
   refine sV (rAddU rfl rfl rfl (by omega) (by omega)) ?_
   refine pV ?_
   refine tS ?_
   refine tR fun _ _ _ => ?_
   iterate 3 refine pV ?_
   refine sV (rAdd rfl rfl rfl (by omega) (by omega)) ?_
   refine pV ?_
   refine sV (rRemU rfl rfl rfl (by omega) (by omega)) ?_
   refine sV (rConv rfl undU64 undU32 rfl (IntWalk.u32_in _ ⟨by omega, by omega⟩)) ?_
   refine sV (rIdxW rfl rfl rfl (by omega) (by omega) (by omega)) ?_
   refine eV (eStW rfl rfl rfl rfl (by omega) ?_)
   refine tR fun _ _ _ => ?_
   refine pV ?_
   refine sV (rQuoU rfl rfl rfl (by omega) (by omega)) ?_
   refine pV ?_
   refine tR fun _ _ _ => ?_
   refine pV ?_
   refine sV (rAdd rfl rfl rfl (by omega) (by omega)) ?_
   refine pV ?_
   refine ⟨j + 1, (l.getD i.toNat 0 * k.getD j.toNat 0 + o2.getD (i + j).toNat 0 + cy2) / 4294967296, o2.set (i + j).toNat ((l.getD i.toNat 0 * k.getD j.toNat 0 + o2.getD (i + j).toNat 0 + cy2) % 4294967296), ⟨rfl, rfl, rfl, rfl, rfl, rfl, rfl, rfl, rfl, rfl, trivial⟩, by first | exact cs _ _ | exact CSub.refl _, ?_⟩
   refine ⟨⟨⟨by omega, by omega⟩, ⟨by omega, by omega⟩, by simp; omega, lm_set hol2 (by omega) (by omega), ?_, fun t ht => ?_⟩, by omega⟩
   ·rw [show (j + 1).toNat = j.toNat + 1 by omega, vN_tk, vN_set (by omega), show (i + (j + 1)).toNat = (i + j).toNat + 1 by omega]
    rw [show (i + j).toNat = i.toNat + j.toNat by omega] at hs2 ⊢
    exact mul_alg hs2
   ·rw [getD_set, if_neg (by omega)]; exact hz2 t ht
  ·try simp only [zbA] at h7
   refine tE ?_
   refine tR fun _ _ _ => ?_
   iterate 3 refine pV ?_
   refine sV (rLen rfl rfl) ?_
   refine sV (rAdd rfl rfl rfl (by omega) (by omega)) ?_
   refine pV ?_
   refine sV (rConv rfl undU64 undU32 rfl (IntWalk.u32_in _ ⟨by omega, by omega⟩)) ?_
   refine sV (rIdxW rfl rfl rfl (by omega) (by omega) (by omega)) ?_
   refine eV (eStW rfl rfl rfl rfl (by omega) ?_)
   refine tR fun _ _ _ => ?_
   refine pV ?_
   refine sV (rAdd rfl rfl rfl (by omega) (by omega)) ?_
   refine pV ?_
   refine ⟨i + 1, o2.set (i + ny).toNat cy2, ⟨rfl, rfl, rfl, rfl, rfl, trivial⟩, by first | exact cs _ _ | exact CSub.refl _, ?_⟩
   refine ⟨⟨⟨by omega, by omega⟩, by simp; omega, lm_set hol2 (by omega) (by omega), ?_, fun t ht => ?_⟩, by omega⟩
   ·rw [show (i + 1).toNat = i.toNat + 1 by omega, vN_tk, vN_set (by omega), hz2 _ (by omega)]
    have hjn : j = ny := by omega
    rw [hjn, vN_all (l := k) (by omega), show (i + (ny : Int)).toNat = (i + (ny : Int)).toNat from rfl] at hs2
    rw [Int.sub_zero, hs2, Int.add_mul]
   ·rw [getD_set, if_neg (by omega)]; exact hz2 t (by omega)
 ·try simp only [zbA] at h3
  refine tE ?_
  refine tS ?_
  have hnn : ((nx : Int) + ny).toNat = o.length := by omega
  have hv : vN o = vN l * vN k := by rw [hs, vN_all (by omega)]
  refine tR fun _ _ _ => ?_
  refine pV ?_
  refine eV (eCall1 rfl rfl rfl (ref_Trim A1 _ _ o hnn hol (by omega) (by omega)) ⟨rfl, trivial⟩ ?_)
  rintro _ _ ⟨B13, c13, rfl, rfl, hc13⟩
  refine pV ?_
  rw [hv] at hc13 ⊢
  exact tr_ret ⟨trivial, _, _, rfl, ⟨_, rfl, B13, c13, rfl, rfl, hc13⟩, cs _ _, trivial, trivial⟩
theorem ref_NBits_ent : Enters Try.prog 88 := enters_of Try.func88 (by kernel_rfl) (by kernel_rfl)
theorem ref_NBits (X : Option Addr) (nx cx : Nat) (l : List Int) (hnx : nx = l.length) (hlnx : Lm l) (h9nx : nx ≤ 1000000) (hcx : nx ≤ cx) :
  Pure Try.prog 88 #[.slice X nx cx] [ro X (w32 l)] (isV (.int .i64 (bitl (vN l).toNat))) := by
 refine pure_of (args := [.slice X nx cx]) 27 Try.func88 rfl rfl rfl ref_NBits_ent ⟨id, trivial⟩ (fun w0 => ?_)
 refine tS ?_
 refine tR fun _ _ _ => ?_
 refine pV ?_
 refine tS ?_
 have hll := lmb_short hlnx
 have hlm := lmb_lm (vN l).toNat
 refine tR fun _ _ _ => ?_
 refine pV ?_
 refine eV (eCall1 rfl rfl rfl (ref_Trim X nx cx l hnx hlnx (by omega) hcx) ⟨rfl, trivial⟩ ?_)
 rintro _ _ ⟨B1, c1, rfl, rfl, hc1⟩
 refine pV ?_
 refine tS ?_
 refine tS ?_
 refine tR fun _ _ _ => ?_
 refine pV ?_
 refine sV (rLen rfl rfl) ?_
 refine pV ?_
 refine tC rfl (fun h2 => ?_) (fun h2 => ?_)
 ·try simp only [zbA] at h2
  refine tS ?_
  refine tR fun _ _ _ => ?_
  refine pV ?_
  exact tr_ret ⟨trivial, _, _, rfl, ⟨by rw [show (vN l).toNat = 0 from lmb_nil.1 (by omega), bitl_zero]; rfl, rfl⟩, CSub.nil _, trivial⟩
 ·try simp only [zbA] at h2
  refine tK ?_
  refine tS ?_
  have hn0 : (vN l).toNat ≠ 0 := fun h => by rw [h, lmb_zero] at h2; simp at h2
  have hbl := bitl_lmb hn0
  have hlg := hlm.get ((lmb (vN l).toNat).length - 1)
  have hb32 := bitl_lt (n := ((lmb (vN l).toNat).getD ((lmb (vN l).toNat).length - 1) 0).toNat) (k := 32) (by omega)
  have hlp : 1 ≤ (lmb (vN l).toNat).length := by have := mt lmb_nil.1 hn0; omega
  refine tR fun _ _ _ => ?_
  refine pV ?_
  refine sV (rLen rfl rfl) ?_
  refine sV (rSub rfl rfl rfl (by omega) (by omega)) ?_
  refine sV (rMul rfl rfl rfl (by omega) (by omega)) ?_
  refine pV ?_
  refine tS ?_
  refine tS ?_
  refine tR fun _ _ _ => ?_
  iterate 2 refine pV ?_
  refine sV (rLen rfl rfl) ?_
  refine sV (rSub rfl rfl rfl (by omega) (by omega)) ?_
  refine sV (rIdxW rfl rfl rfl (by omega) (by omega) (by omega)) ?_
  refine sV (rLdW rfl rfl (by omega)) ?_
  refine pV ?_
  rw [show (((lmb (vN l).toNat).length : Int) - 1).toNat = (lmb (vN l).toNat).length - 1 by omega]
  refine tB ?_
  refine tr_loop2 (fun (s : Int) (t : Int) => [(3, .int .i64 s), (4, .int .u32 t), (2, .int .i64 0)]) (fun (s : Int) (t : Int) => []) (fun (s : Int) (t : Int) => (0 ≤ t ∧ t < 4294967296) ∧ 0 ≤ s ∧ s + bitl t.toNat = (bitl (vN l).toNat : Int)) (fun (s : Int) (t : Int) => t.toNat) (32 * (((lmb (vN l).toNat).length : Int) - 1)) ((lmb (vN l).toNat).getD ((lmb (vN l).toNat).length - 1) 0) ⟨rfl, rfl, rfl, trivial⟩ (by first | exact cs _ _ | exact CSub.refl _) (⟨⟨by omega, by omega⟩, by omega, by omega⟩) (fun s t hI => ?_)
  obtain ⟨⟨ht0, ht1⟩, hs0, hs⟩ := hI
  refine tS ?_
  refine tS ?_
  refine tR fun _ _ _ => ?_
  refine pV ?_
  refine sV (rGtrK rfl rfl rfl) ?_
  refine tC rfl (fun h6 => ?_) (fun h6 => ?_)
  ·try simp only [zbA] at h6
   refine tK ?_
   refine tS ?_
   refine tB ?_
   refine tR fun _ _ _ => ?_
   refine pV ?_
   refine sV (rAdd rfl rfl rfl (by omega) (by omega)) ?_
   refine pV ?_
   refine tR fun _ _ _ => ?_
   refine pV ?_
   refine sV (rQuo32 rfl rfl rfl (by omega) (by omega)) ?_
   refine pV ?_
   refine ⟨s + 1, t / 2, ⟨rfl, rfl, rfl, trivial⟩, by first | exact cs _ _ | exact CSub.refl _, ?_⟩
   have hbp := bitl_pos (n := t.toNat) (by omega)
   rw [show t.toNat / 2 = (t / 2).toNat by omega] at hbp
   exact ⟨⟨⟨by omega, by omega⟩, by omega, by omega⟩, by omega⟩
  ·try simp only [zbA] at h6
   refine tE ?_
   refine tS ?_
   refine tR fun _ _ _ => ?_
   iterate 2 refine pV ?_
   exact tr_ret ⟨trivial, _, _, rfl, ⟨by rw [show t = 0 by omega, show ((0 : Int).toNat) = 0 from rfl, bitl_zero] at hs; rw [← hs]; simp, rfl⟩, CSub.nil _, trivial⟩
end Go.Proofs.Ytbhoeaijpnjgdaa

set_option maxRecDepth 100000
namespace Go.Proofs.Ytbhoeaijpnjgdaa
open Go.RowKit
theorem pow_triv {a n : Nat} (ha : a ≤ 1) (hn : n ≠ 0) : a ^ n = a := by
 rcases Nat.eq_zero_or_pos a with h | h
 ·rw [h, Nat.zero_pow (by omega)]
 ·rw [show a = 1 by omega, Nat.one_pow]
theorem ref_NPow_ent : Enters Try.prog 34 := enters_of Try.func34 (by kernel_rfl) (by kernel_rfl)
theorem ref_NPow (X : Option Addr) (nx cx : Nat) (l : List Int) (hnx : nx = l.length) (hlnx : Lm l) (h9nx : nx ≤ 1000000) (hcx : nx ≤ cx) (n : Nat) (hn : n ≤ 256) (ha : vN l ≤ 256) :
  Pure Try.prog 34 #[.slice X nx cx, .int .i64 n] [ro X (w32 l)] (one (fun v ch => ∃ B c, v = .tuple #[.slice B (lmb ((vN l).toNat ^ n)).length c, .int .i64 0] ∧ ch = ow B 105 c (w32 (lmb ((vN l).toNat ^ n))) ∧ (lmb ((vN l).toNat ^ n)).length ≤ c)) := by
 refine pure_of (args := [.slice X nx cx, .int .i64 n]) 41 Try.func34 rfl rfl rfl ref_NPow_ent ⟨id, trivial⟩ (fun w0 => ?_)
 refine tS ?_
 refine tR fun _ _ _ => ?_
 iterate 2 refine pV ?_
 refine tS ?_
 refine tS ?_
 have hvn := vN_nn hlnx
 have hll := lmb_short hlnx
 refine tR fun _ _ _ => ?_
 iterate 2 refine pV ?_
 refine tC rfl (fun h1 => ?_) (fun h1 => ?_)
 ·try simp only [zbA] at h1
  omega --done
 ·try simp only [zbA] at h1
  refine tK ?_
  refine tS ?_
  refine tR fun _ _ _ => ?_
  refine pV ?_
  refine eV (eCall1 rfl rfl rfl (ref_Trim X nx cx l hnx hlnx (by omega) hcx) ⟨rfl, trivial⟩ ?_)
  rintro _ _ ⟨B3, c3, rfl, rfl, hc3⟩
  refine pV ?_
  refine tS ?_
  refine tS ?_
  refine tR fun _ _ _ => ?_
  iterate 2 refine pV ?_
  refine tC rfl (fun h4 => ?_) (fun h4 => ?_)
  ·try simp only [zbA] at h4
   refine tS ?_
   refine tR fun _ _ _ => ?_
   refine eV (eLit1W rfl rfl rfl rfl (fun A5 => ?_))
   iterate 2 refine pV ?_
   have hz : n = 0 := by omega
   subst hz
   rw [Nat.pow_zero, lmb_one]
   exact tr_ret ⟨trivial, _, _, rfl, ⟨_, rfl, A5, 1, rfl, rfl, Nat.le_refl _⟩, cs _ _, trivial, trivial⟩
  ·try simp only [zbA] at h4
   refine tK ?_
   refine tS ?_
   refine tS ?_
   refine tR fun _ _ _ => ?_
   refine pV ?_
   refine eV (eCallV rfl rfl rfl (ref_NBits B3 _ c3 (lmb (vN l).toNat) rfl (lmb_lm _) (by omega) hc3) ⟨rfl, trivial⟩ ?_)
   refine pV ?_
   rw [show ((vN (lmb (vN l).toNat)).toNat) = (vN l).toNat by rw [vN_lmb]; rfl]
   refine tC rfl (fun h6 => ?_) (fun h6 => ?_)
   ·try simp only [zbA] at h6
    refine tS ?_
    refine tR fun _ _ _ => ?_
    iterate 3 refine pV ?_
    have hp1 : (vN l).toNat ^ n = (vN l).toNat := pow_triv (bitl_one.1 (by omega)) (by omega)
    rw [hp1]
    exact tr_ret ⟨trivial, _, _, rfl, ⟨_, rfl, B3, c3, rfl, rfl, hc3⟩, cs _ _, trivial, trivial⟩
   ·try simp only [zbA] at h6
    refine tK ?_
    refine tS ?_
    refine tS ?_
    refine tR fun _ _ _ => ?_
    iterate 2 refine pV ?_
    refine tC rfl (fun h8 => ?_) (fun h8 => ?_)
    ·try simp only [zbA] at h8
     omega --done
    ·try simp only [zbA] at h8
     refine tK ?_
     refine tS ?_
     refine tR fun _ _ _ => ?_
     refine eV (eLit1W rfl rfl rfl rfl (fun A10 => ?_))
     refine pV ?_
     refine tS ?_
     refine tS ?_
     refine tR fun _ _ _ => ?_
     refine pV ?_
     refine tB ?_
     refine tr_loop4 (fun (e : Nat) (B : Option Addr) (cb : Nat) (o : List Int) => [(6, .slice B o.length cb), (7, .int .i64 (hlf e)), (0, .slice B3 (lmb ((vN l).toNat)).length c3), (1, .int .i64 n)]) (fun (e : Nat) (B : Option Addr) (cb : Nat) (o : List Int) => [ow B 105 cb (w32 o), ow B3 105 c3 (w32 (lmb (vN l).toNat))]) (fun (e : Nat) (B : Option Addr) (cb : Nat) (o : List Int) => e ≤ 19 ∧ o.length ≤ cb ∧ o = lmb ((vN l).toNat ^ (n / 2 ^ e))) (fun (e : Nat) (B : Option Addr) (cb : Nat) (o : List Int) => e) (19) (A10) (1) ([1]) ⟨rfl, rfl, rfl, rfl, trivial⟩ (by first | exact cs _ _ | exact CSub.refl _) (⟨by omega, Nat.le_refl _, by rw [Nat.div_eq_of_lt (by omega), Nat.pow_zero, lmb_one]⟩) (fun e B cb o hI => ?_)
     obtain ⟨he, hcb, rfl⟩ := hI
     have hd0 := hlf_nn e
     have hd9 := hlf_le he
     refine tS ?_
     refine tS ?_
     refine tR fun _ _ _ => ?_
     iterate 2 refine pV ?_
     refine tC rfl (fun h12 => ?_) (fun h12 => ?_)
     ·try simp only [zbA] at h12
      refine tK ?_
      refine tS ?_
      refine tB ?_
      refine tS ?_
      obtain ⟨f, rfl⟩ : ∃ f, e = f + 1 := ⟨e - 1, by cases e with | zero => simp [hlf] at h12 | succ f => omega⟩
      have hd1 := hlf_pos f
      have hdn : 0 ≤ (n : Int) / hlf (f + 1) := Int.ediv_nonneg (by omega) (by omega)
      have hdq : n / 2 ^ (f + 1) ≤ 256 := Nat.le_trans (Nat.div_le_self _ _) hn
      have hL1 := pow_len (a := (vN l).toNat) (by omega) hdq
      have hL2 := pow_len2 (a := (vN l).toNat) (by omega) hdq
      refine tR fun _ _ _ => ?_
      iterate 2 refine pV ?_
      refine eV (eCall1 rfl rfl rfl (ref_NMul B _ cb (lmb ((vN l).toNat ^ (n / 2 ^ (f + 1)))) rfl (lmb_lm _) (by omega) B _ cb (lmb ((vN l).toNat ^ (n / 2 ^ (f + 1)))) rfl (lmb_lm _) (by omega)) ⟨rfl, rfl, trivial⟩ ?_)
      rintro _ _ ⟨B14, c14, rfl, rfl, hc14⟩
      refine pV ?_
      rw [lmb_mul] at hc14 ⊢
      refine tS ?_
      refine tS ?_
      refine tR fun _ _ _ => ?_
      iterate 2 refine pV ?_
      refine sV (rQuo rfl rfl rfl (by omega) (by omega)) ?_
      refine sV (rRem rfl rfl rfl (by omega) (by omega)) ?_
      refine pV ?_
      refine tC rfl (fun h15 => ?_) (fun h15 => ?_)
      ·try simp only [zbA] at h15
       refine tR fun _ _ _ => ?_
       iterate 2 refine pV ?_
       refine eV (eCall1 rfl rfl rfl (ref_NMul B14 _ c14 (lmb ((vN l).toNat ^ (n / 2 ^ (f + 1)) * (vN l).toNat ^ (n / 2 ^ (f + 1)))) rfl (lmb_lm _) (by omega) B3 _ c3 (lmb ((vN l).toNat)) rfl (lmb_lm _) (by omega)) ⟨rfl, rfl, trivial⟩ ?_)
       rintro _ _ ⟨B16, c16, rfl, rfl, hc16⟩
       refine pV ?_
       rw [lmb_mul, pow_sq1 _ _ _ ((hlf_bit n f).1 h15)] at hc16 ⊢
       refine tS ?_
       have hL3 := pow_len (a := (vN l).toNat) (by omega) (show n / 2 ^ f ≤ 256 from Nat.le_trans (Nat.div_le_self _ _) hn)
       have hpe : (n / 2 ^ f) % 2 ≠ 1 → (vN l).toNat ^ (n / 2 ^ (f + 1)) * (vN l).toNat ^ (n / 2 ^ (f + 1)) = (vN l).toNat ^ (n / 2 ^ f) := pow_sq _ _ _
       refine tR fun _ _ _ => ?_
       refine pV ?_
       refine sV (rLen rfl rfl) ?_
       refine pV ?_
       refine tC rfl (fun h17 => ?_) (fun h17 => ?_)
       ·try simp only [zbA] at h17
        omega --done
       ·try simp only [zbA] at h17
        refine tK ?_
        refine tR fun _ _ _ => ?_
        refine pV ?_
        refine sV (rQuo rfl rfl rfl (by omega) (by omega)) ?_
        refine pV ?_
        rw [hlf_half]
        refine ⟨f, B16, c16, lmb ((vN l).toNat ^ (n / 2 ^ f)), ⟨rfl, rfl, rfl, rfl, trivial⟩, by first | exact cs _ _ | exact CSub.refl _, ?_⟩
        exact ⟨⟨by omega, hc16, rfl⟩, by omega⟩
      ·try simp only [zbA] at h15
       refine tK ?_
       refine tS ?_
       have hL3 := pow_len (a := (vN l).toNat) (by omega) (show n / 2 ^ f ≤ 256 from Nat.le_trans (Nat.div_le_self _ _) hn)
       have hpe : (n / 2 ^ f) % 2 ≠ 1 → (vN l).toNat ^ (n / 2 ^ (f + 1)) * (vN l).toNat ^ (n / 2 ^ (f + 1)) = (vN l).toNat ^ (n / 2 ^ f) := pow_sq _ _ _
       refine tR fun _ _ _ => ?_
       refine pV ?_
       refine sV (rLen rfl rfl) ?_
       refine pV ?_
       refine tC rfl (fun h17 => ?_) (fun h17 => ?_)
       ·try simp only [zbA] at h17
        omega --done
       ·try simp only [zbA] at h17
        refine tK ?_
        refine tR fun _ _ _ => ?_
        refine pV ?_
        refine sV (rQuo rfl rfl rfl (by omega) (by omega)) ?_
        refine pV ?_
        rw [hlf_half]
        refine ⟨f, B14, c14, lmb ((vN l).toNat ^ (n / 2 ^ (f + 1)) * (vN l).toNat ^ (n / 2 ^ (f + 1))), ⟨rfl, rfl, rfl, rfl, trivial⟩, by first | exact cs _ _ | exact CSub.refl _, ?_⟩
        exact ⟨⟨by omega, hc14, by rw [hpe (fun h => h15 ((hlf_bit n f).2 h))]⟩, by omega⟩
     ·try simp only [zbA] at h12
      refine tE ?_
      refine tS ?_
      refine tR fun _ _ _ => ?_
      iterate 3 refine pV ?_
      have hez : e = 0 := by cases e with | zero => rfl | succ f => (have := hlf_pos f; omega)
      subst hez
      rw [Nat.pow_zero, Nat.div_one] at hcb ⊢
      exact tr_ret ⟨trivial, _, _, rfl, ⟨_, rfl, B, cb, rfl, rfl, hcb⟩, cs _ _, trivial, trivial⟩
end Go.Proofs.Ytbhoeaijpnjgdaa

namespace Go.Proofs.Ytbhoeaijpnjgdaa
open Go.RowKit
section
variable {P : Program} {b : Frame} {a : Act} {k : List Item} {cs : List Frame} {w : World} {Q : Exit → Act → World → Prop} {Fc : Fence} {nn : Nat}
theorem stepR_scope {c : Code} : step P (lone (b.atR a (.code (.scope c) :: k)) cs w) = .next (lone (b.atR a (.code c :: .inScope c :: k)) cs w) :=
 step_lone_go (by simp [stepG, stepG.exec, Frame.atR, Frame.at])
theorem stepR_inScope {c : Code} : step P (lone (b.atR a (.inScope c :: k)) cs w) = .next (lone (b.atR a k) cs w) :=
 step_lone_go (by simp [stepG, stepG.exec, Frame.atR, Frame.at])
theorem wpIn_scope {c : Code} (h : c.wpIn Fc nn P (Exit.noGoto Q) a w) : (Code.scope c).wpIn Fc nn P Q a w := by
 intro b k cs hro hb hr
 have h0 : (lone (b.atR a (.code (.scope c) :: k)) cs w).fenced P Fc := fenced_calm hb hr rfl
 obtain ⟨e, a₁, w₁, hq, harr⟩ := h b (.inScope c :: k) cs hro hb hr
 cases e with
 | normal => exact ⟨.normal, a₁, w₁, hq, .head h0 stepR_scope (StepsIn.trans harr (.one (fenced_calm hb hr rfl) stepR_inScope))⟩
 | exit id =>
  have hx : exitTo id (.inScope c :: k) = exitTo id k := by simp [exitTo]
  exact ⟨.exit id, a₁, w₁, hq, fun k' hk => .head h0 stepR_scope (harr.1 k' (by rw [hx]; exact hk)),
   fun hr' hk => let ⟨k₁, h1, h2⟩ := harr.2 hr' (by rw [hx]; exact hk); ⟨k₁, h1, .head h0 stepR_scope h2⟩⟩
 | goto l => exact hq.elim
 | ret => exact ⟨_, a₁, w₁, hq, .of_steps (.one h0 stepR_scope) harr⟩
 | panic ch => exact ⟨_, a₁, w₁, hq, .of_steps (.one h0 stepR_scope) harr⟩
 | outgrown => exact ⟨_, a₁, w₁, hq, .of_steps (.one h0 stepR_scope) harr⟩
end
def noGo (Q : Exit → Fr → List Chunk → Prop) : Exit → Fr → List Chunk → Prop
 | .goto _ => fun _ _ => False
 | e => Q e
theorem tr_scope {P : Program} {N : NR} {M : Nat → Prop} {w0 : World} {L : Fr} {F : List Chunk} {c : Code} {Q : Exit → Fr → List Chunk → Prop} (h : Tr P N M w0 c L F (noGo Q)) : Tr P N M w0 (.scope c) L F Q := fun ds M1 w1 hb a w hl hm => by
 refine wpIn_scope (wpIn_mono (h ds M1 w1 hb a w hl hm) fun e a' w' hq => ?_)
 obtain ⟨ds', M2, w2, hb', L', F', h1, h2, h3⟩ := hq
 cases e with
 | goto l => exact h3.elim
 | _ => exact ⟨ds', M2, w2, hb', L', F', h1, h2, h3⟩
def prs (ps : List (Value × Value)) : List Value := ps.flatMap fun p => [p.1, p.2]
@[simp] theorem prs_length : ∀ ps, (prs ps).length = ps.length * 2
 | [] => rfl
 | p :: ps => by
  have := prs_length ps
  unfold prs at this ⊢
  rw [List.flatMap_cons, List.length_append, this, List.length_cons]; simp; omega
theorem prs_app (ps qs : List (Value × Value)) : prs (ps ++ qs) = prs ps ++ prs qs := by unfold prs; rw [List.flatMap_append]
def prD : Value × Value := (.int .i64 0, .int .i64 0)
theorem prs_get : ∀ (ps : List (Value × Value)) (j : Nat), j < ps.length → (prs ps)[j * 2]? = some (ps.getD j prD).1 ∧ (prs ps)[j * 2 + 1]? = some (ps.getD j prD).2
 | [], j, h => by simp at h
 | p :: ps, 0, _ => ⟨rfl, rfl⟩
 | p :: ps, j + 1, h => by
  have := prs_get ps j (by simpa using h)
  unfold prs at this ⊢
  rw [List.flatMap_cons, List.getD_cons_succ, show (j + 1) * 2 = j * 2 + 2 by omega, show j * 2 + 2 + 1 = j * 2 + 1 + 2 by omega]
  simpa using this
def ow2 (A : Option Addr) (e : TypeId) (cap : Nat) (ps : List (Value × Value)) : Chunk where
 foot b := ∃ ad, A = some ad ∧ ad.block = b
 excl := True
 sat w := w.ownsRow 0 e 2 (.slice A ps.length cap) ps.length (prs ps)
 loc w w' h hs := by
  obtain ⟨h0, h1⟩ := hs
  refine ⟨h0, ?_⟩
  rcases h1 with h1 | ⟨g, c, cur, hv, hb, hh, hr⟩
  ·exact .inl h1
  ·refine .inr ⟨g, c, cur, hv, hb, ?_, hr⟩
   simp only [Value.slice.injEq] at hv
   rw [h g ⟨_, hv.1, rfl⟩]
   exact hh
 cel w b hs hb := by
  obtain ⟨ad, rfl, rfl⟩ := hb
  rcases hs.2 with ⟨h1, _⟩ | ⟨g, c, cur, hv, hb, hh, _⟩
  ·cases h1
  ·simp only [Value.slice.injEq, Option.some.injEq] at hv
   rw [hv.1]
   exact ⟨_, hh, rfl⟩
theorem ow2_reads {A : Option Addr} {e : TypeId} {cap : Nat} {ps : List (Value × Value)} {w : World} (h : (ow2 A e cap ps).sat w) : (ro A (prs ps)).sat w := by
 intro j hj
 rcases h.2 with ⟨_, h0⟩ | ⟨g, c, cur, hv, _⟩
 ·rw [prs_length] at hj; omega
 ·simp only [Value.slice.injEq] at hv
  obtain ⟨rfl, _⟩ := hv
  exact ⟨_, rfl, World.ownsRow.cells h (g := g) rfl j _ (List.getElem?_eq_getElem hj)⟩
instance Rd.ofOw2 (F : List Chunk) (A : Option Addr) (e : TypeId) (cap : Nat) (ps : List (Value × Value)) : Rd (ow2 A e cap ps :: F) A (prs ps) := ⟨fun _ _ _ hm => ow2_reads (hm.sat _ (List.mem_cons_self ..)), fun b hb => ⟨_, List.mem_cons_self .., hb.2⟩⟩
class PkO2 (F : List Chunk) (A : Option Addr) (e : outParam TypeId) (cap : outParam Nat) (ps : outParam (List (Value × Value))) (F' : outParam (List Chunk)) : Prop where
 perm : F.Perm (ow2 A e cap ps :: F')
instance PkO2.head (F : List Chunk) (A : Option Addr) (e : TypeId) (cap : Nat) (ps : List (Value × Value)) : PkO2 (ow2 A e cap ps :: F) A e cap ps F := ⟨List.Perm.refl _⟩
instance PkO2.tail (c : Chunk) (F F' : List Chunk) (A : Option Addr) (e : TypeId) (cap : Nat) (ps : List (Value × Value)) [h : PkO2 F A e cap ps F'] : PkO2 (c :: F) A e cap ps (c :: F') := ⟨(h.perm.cons c).trans (List.Perm.swap ..)⟩
class S2Ty (P : Program) (t : TypeId) (e : outParam TypeId) (bytes : outParam Nat) : Prop where
 und : P.underlying t = some (.slice e)
 inf : ∃ z, (P.info? e).map (fun i => (i.zero, i.size, i.bytes)) = some (some z, 2, bytes) ∧ z.cells.size = 2
section
variable {P : Program} {N : NB} {M : Nat → Prop} {w0 : World} {L : Fr} {F F' : List Chunk} {K : Fr → List Chunk → Prop} {b : Bool} {o : Oper} {v : Value} {x y : Operand} {t t' e : TypeId} {k bytes : Nat}
theorem nil_mem2 (e : TypeId) {w : World} (hm : Mem M w0 w F) : Mem M w0 w (ow2 none e 0 [] :: F) := by
 refine ⟨hm.upd, fun c hc => ?_, List.pairwise_cons.2 ⟨fun c _ _ b' hb' => ?_, hm.sep⟩, fun c hc hex b' hb' => ?_⟩
 ·rcases List.mem_cons.1 hc with rfl | hc
  ·exact World.ownsRow_nil _ _ _ _
  ·exact hm.sat c hc
 ·obtain ⟨ad, h1, _⟩ := hb'; cases h1
 ·rcases List.mem_cons.1 hc with rfl | hc
  ·obtain ⟨ad, h1, _⟩ := hb'; cases h1
  ·exact hm.own c hc hex b' hb'
theorem tr_nil2 {N : NR} (e : TypeId) {c : Code} {Q : Exit → Fr → List Chunk → Prop} (h : Tr P N M w0 c L (ow2 none e 0 [] :: F) Q) : Tr P N M w0 c L F Q := fun ds M1 w1 hb a w hl hm => h ds M1 w1 hb a w hl (nil_mem2 e hm)
theorem rIdxT {A : Option Addr} {n c : Nat} {i : Int} {vs : List Value} (ho : o.op = .indexAddr t x y) [h : SsTy P t e 2] (hx : ev L x = some (.slice A n c)) (hy : ev L y = some (.int .i64 i)) [hr : Rd F A vs] (h0 : 0 ≤ i) (h1 : i < n) (h2 : i.toNat * 2 < vs.length) : Stl P N M w0 o L F (.pointer (some ((A.getD a0).add (i.toNat * 2)))) := fun a w hl hm => by
 obtain ⟨ad, rfl, _⟩ := hr.rd M w0 w hm _ h2
 simp [execOp, ho, hl.eval hx, hl.eval hy, Instr.indexAt, asIntOf, run_und h.und, h0, h1, run_size1 h.size]
theorem rLdT {A : Option Addr} {j : Nat} {ps : List (Value × Value)} (ho : o.op = .load t x) [h : AgTy P t 2] (hx : ev L x = some (.pointer (some ((A.getD a0).add (j * 2))))) [hr : Rd F A (prs ps)] (hj : j < ps.length) : Stl P N M w0 o L F (.agg #[(ps.getD j prD).1, (ps.getD j prD).2]) := fun a w hl hm => by
 obtain ⟨fs, hu⟩ := h.und
 have hrd := hr.rd M w0 w hm
 have hg := prs_get ps j hj
 obtain ⟨ad, rfl, _⟩ := hrd (j * 2) (by rw [prs_length]; omega)
 have hag : (isAgg t).run P w = .ok true w := by simp [isAgg, run_und hu]
 have hld : (loadCells (ad.add (j * 2)) 2).run P w = .ok #[(ps.getD j prD).1, (ps.getD j prD).2] w := by
  have h0 := loadCellsFrom_ok (P := P) (w := w) (ad := ad.add (j * 2)) [(ps.getD j prD).1, (ps.getD j prD).2] 0 #[] (fun i hi => by
   have hi2 : i < 2 := by simpa using hi
   obtain ⟨ad', h1, hc⟩ := hrd (j * 2 + i) (by rw [prs_length]; omega)
   simp only [Option.some.injEq] at h1
   subst h1
   rw [Nat.zero_add, add_add, hc]
   have h3 : (prs ps)[j * 2 + i]? = some ([(ps.getD j prD).1, (ps.getD j prD).2][i]) := by
    rcases Nat.lt_or_ge i 1 with h4 | h4
    ·have : i = 0 := by omega
     subst this; exact hg.1
    ·have : i = 1 := by omega
     subst this; exact hg.2
   rw [← h3, List.getElem?_eq_getElem])
  simpa [loadCells] using h0
 have hsz := run_size1 h.inf w
 simp [execOp, ho, hl.eval hx, Instr.loadAt, Instr.sureAddr, loadVar, hag, hsz, hld]
theorem eApp2 {A : Option Addr} {B : Addr} {n c cap : Nat} {ps : List (Value × Value)} {u0 u1 : Value} (ho : o.op = .call { callee := .builtin .append, args := #[x, y], argTypes := #[t, t] }) {d : Nat} (hdd : o.dst = some d) (hd : Nat.ble (d + 1) N.n = true) [h : S2Ty P t e bytes]
  (hx : ev L x = some (.slice A n cap)) (hy : ev L y = some (.slice (some B) 1 c)) [hp : PkO2 F A e cap ps F'] [hr : Rd F (some B) [u0, u1]] (hn : n = ps.length) (hone : [u0, u1].all (·.oneCell') = true) (hb : (ps.length + 1) * bytes ≤ 140737488355328) (hlen : ps.length + 1 ≤ 1000000000)
  (hK : ∀ (A' : Option Addr) (cap' : Nat), K (addL d (.slice A' (ps ++ [(u0, u1)]).length cap') L) (ow2 A' e cap' (ps ++ [(u0, u1)]) :: F')) : Eff P N M w0 false o L F K := fun a w hl hm => by
 subst hn
 obtain ⟨z, hzi, hzs⟩ := h.inf
 obtain ⟨i, hi, hz, hs, hby⟩ : ∃ i, P.info? e = some i ∧ i.zero = some z ∧ i.size = 2 ∧ i.bytes = bytes := by
  cases hi : P.info? e with
  | none => simp [hi] at hzi
  | some i =>
   simp only [hi, Option.map_some, Option.some.injEq, Prod.mk.injEq] at hzi
   exact ⟨i, rfl, hzi.1, hzi.2.1, hzi.2.2⟩
 have hmp := hm.perm hp.perm
 have hown : w.ownsRow 0 e 2 (.slice A ps.length cap) ps.length (prs ps) := hmp.sat _ (List.mem_cons_self ..)
 have hcells := hr.rd M w0 w hm
 obtain ⟨v', w', h1, h2, h3, _, h5⟩ := run_append_own_at (P := P) w 0 t o.type e i z 2 bytes h.und hi hz hs hby hzs (by omega) (.slice A ps.length cap) ps.length (prs ps) hown B 1 c [u0, u1] rfl
  (fun j u hu => by
   obtain ⟨hj, rfl⟩ := List.getElem?_eq_some_iff.1 hu
   obtain ⟨ad', h1, h2⟩ := hcells j hj
   simp only [Option.some.injEq] at h1
   subst h1
   exact h2) (fun u hu => List.all_eq_true.1 hone u hu) (by simp only [maxLen]; omega) hb (Nat.zero_le _)
 obtain ⟨A', cap', rfl, h6⟩ : ∃ A' cap', v' = .slice A' (ps.length + 1) cap' ∧ (∀ ad, A' = some ad → A = some ad ∨ ad.block = w.heap.size) := by
  rcases h2.2 with ⟨rfl, h0⟩ | ⟨g, cp, cur, rfl, _⟩
  ·omega
  ·refine ⟨_, _, rfl, fun ad had => ?_⟩
   simp only [Option.some.injEq] at had
   subst had
   rcases h5 with h5 | h5
   ·left
    rcases hown.2 with ⟨h3, _⟩ | ⟨g', cp', cur', h3, _⟩
    ·rw [h3] at h5; simp [Value.ownBlock] at h5
    ·simp only [Value.slice.injEq] at h3
     obtain ⟨rfl, _⟩ := h3
     simp only [Value.ownBlock, Option.some.injEq] at h5
     rw [h5]
   ·right
    simpa [Value.ownBlock] using h5
 have hrun : (execOp a.eval o).run P w = .ok (.value (.slice A' (ps.length + 1) cap')) w' := by
  simp only [execOp, ho, resolve, invoke, builtin, Sem.run_bind, Sem.run_pure, Result.andThen_ok, List.map_toArray, List.map_cons, List.map_nil, hl.eval hx, hl.eval hy, h1]
 simp only [Oper.wp, hrun, Oper.upon_value]
 have hK' := hK A' cap'
 rw [List.length_append] at hK'
 refine ⟨fun hc => absurd hc (by simp), _, _, hl.add hdd hd _, ?_, hK'⟩
 have hlen' : (ps ++ [(u0, u1)]).length = ps.length + 1 := by simp
 refine hmp.change (by exact trivial) ⟨h3.os, h3.tape, h3.output, h3.size, fun k hk hc => h3.block k hk (fun hkb => hc ?_)⟩ (by
  show w'.ownsRow 0 e 2 (.slice A' (ps ++ [(u0, u1)]).length cap') (ps ++ [(u0, u1)]).length (prs (ps ++ [(u0, u1)]))
  rw [hlen', prs_app]; exact h2) (fun b' hb' => ?_)
 ·cases A with
  | none => simp [Value.ownBlock] at hkb
  | some ad => exact ⟨ad, rfl, by simpa [Value.ownBlock] using hkb.symm⟩
 ·obtain ⟨ad, rfl, rfl⟩ := hb'
  rcases h6 ad rfl with h7 | h7
  ·exact .inl ⟨ad, h7, rfl⟩
  ·exact .inr (by omega)
theorem eLit3I {n0 n1 n2 : Int} {x2 : Operand} {z : Value} (ho : o.op = .buildSlice t 3 #[(0, x), (1, y), (2, x2)]) {d : Nat} (hdd : o.dst = some d) (hd : Nat.ble (d + 1) N.n = true) [h : SlTy P t e z bytes] (hx : ev L x = some (.int .i64 n0)) (hy : ev L y = some (.int .i64 n1)) (hx2 : ev L x2 = some (.int .i64 n2)) (hK : ∀ A : Option Addr, K (addL d (.slice A 3 3) L) (ow A e 3 (ints [n0, n1, n2]) :: F)) : Eff P N M w0 b o L F K :=
 eLit_of (e := e) (vs := [.int .i64 n0, .int .i64 n1, .int .i64 n2]) ho hdd hd rfl (by omega) (fun a w hl => by
  refine run_lit w h (by omega) (by omega) ?_
  simp [hl.eval hx, hl.eval hy, hl.eval hx2, Instr.fill, int_cells, Array.range_succ, range0]) hK
end
end Go.Proofs.Ytbhoeaijpnjgdaa

set_option maxRecDepth 100000
namespace Go.Proofs.Ytbhoeaijpnjgdaa
open Go.RowKit
instance tyPw : AgTy Try.prog 124 2 := agTy_of (by kernel_rfl)
instance tyPw0 : FdTy Try.prog 124 0 0 := ⟨by kernel_rfl⟩
instance tyPw1 : FdTy Try.prog 124 1 1 := ⟨by kernel_rfl⟩
instance zrPw : ZrTy Try.prog 124 [.int .i64 0, .int .i64 0] := ⟨.agg #[.int .i64 0, .int .i64 0], by kernel_rfl, rfl⟩
instance bdPw : BdTy Try.prog 124 [.int .i64 0, .int .i64 0] [(0, 1), (1, 1)] := bdTy_of (z := .agg #[.int .i64 0, .int .i64 0]) (by kernel_rfl) (by kernel_rfl) (by kernel_rfl) rfl
instance ssPw : SsTy Try.prog 118 124 2 := ⟨by kernel_rfl, by kernel_rfl⟩
instance s2Pw : S2Ty Try.prog 118 124 16 := ⟨by kernel_rfl, .agg #[.int .i64 0, .int .i64 0], by kernel_rfl, rfl⟩
instance tySPw : ScTy Try.prog 118 := scTy_of (by kernel_rfl)
def pws (ps : List (Int × Int)) : List (Value × Value) := ps.map fun q => (.int .i64 q.1, .int .i64 q.2)
@[simp] theorem pws_length (ps : List (Int × Int)) : (pws ps).length = ps.length := by simp [pws]
theorem pws_app (ps qs : List (Int × Int)) : pws (ps ++ qs) = pws ps ++ pws qs := by simp [pws]
theorem pws_get (ps : List (Int × Int)) (j : Nat) (h : j < ps.length) : (pws ps).getD j prD = (.int .i64 (ps.getD j (0, 0)).1, .int .i64 (ps.getD j (0, 0)).2) := by
 unfold pws
 rw [List.getD_eq_getElem?_getD, List.getElem?_map, List.getD_eq_getElem?_getD, List.getElem?_eq_getElem h]; rfl
section
end
section
end
end Go.Proofs.Ytbhoeaijpnjgdaa

set_option maxRecDepth 100000
namespace Go.Proofs.Ytbhoeaijpnjgdaa
open Go.RowKit
theorem pws_get1 (ps : List (Int × Int)) (j : Nat) (h : j < ps.length) : ((pws ps).getD j prD).1 = .int .i64 (ps.getD j (0, 0)).1 := by rw [pws_get ps j h]
theorem pws_get2 (ps : List (Int × Int)) (j : Nat) (h : j < ps.length) : ((pws ps).getD j prD).2 = .int .i64 (ps.getD j (0, 0)).2 := by rw [pws_get ps j h]
section
end
end Go.Proofs.Ytbhoeaijpnjgdaa

set_option maxRecDepth 100000
namespace Go.Proofs.Ytbhoeaijpnjgdaa
open Go.RowKit
section
end
end Go.Proofs.Ytbhoeaijpnjgdaa

namespace Go.Proofs.Ytbhoeaijpnjgdaa
open Go.RowKit
section
end
section
end
end Go.Proofs.Ytbhoeaijpnjgdaa

set_option maxRecDepth 100000
namespace Go.Proofs.Ytbhoeaijpnjgdaa
open Go.RowKit
section
end
end Go.Proofs.Ytbhoeaijpnjgdaa

set_option maxRecDepth 100000
namespace Go.Proofs.Ytbhoeaijpnjgdaa
open Go.RowKit
end Go.Proofs.Ytbhoeaijpnjgdaa

namespace Go.Proofs.Ytbhoeaijpnjgdaa
open Go.ChangeShapes Go.WideShapes Go.ChangeAt Go.RowKit Go.Deep
structure FacM where
 r : RowM
 k : Int
def facD : FacM := ⟨rowD, 0⟩
instance : Inhabited FacM := ⟨facD⟩
section
end
section
end
end Go.Proofs.Ytbhoeaijpnjgdaa

set_option maxRecDepth 100000
namespace Go.Proofs.Ytbhoeaijpnjgdaa
open Go.RowKit
instance tyFc : AgTy Try.prog 64 2 := agTy_of (by kernel_rfl)
instance tyFc0 : FdTy Try.prog 64 0 0 := ⟨by kernel_rfl⟩
instance tyFc1 : FdTy Try.prog 64 1 1 := ⟨by kernel_rfl⟩
instance zrFc : ZrTy Try.prog 64 [.slice none 0 0, .int .i64 0] := ⟨.agg #[.slice none 0 0, .int .i64 0], by kernel_rfl, rfl⟩
instance bdFc : BdTy Try.prog 64 [.slice none 0 0, .int .i64 0] [(0, 1), (1, 1)] := bdTy_of (z := .agg #[.slice none 0 0, .int .i64 0]) (by kernel_rfl) (by kernel_rfl) (by kernel_rfl) rfl
instance ssFc : SsTy Try.prog 30 64 2 := ⟨by kernel_rfl, by kernel_rfl⟩
instance s2Fc : S2Ty Try.prog 30 64 32 := ⟨by kernel_rfl, .agg #[.slice none 0 0, .int .i64 0], by kernel_rfl, rfl⟩
instance tySFc : ScTy Try.prog 30 := scTy_of (by kernel_rfl)
section
end
section
end
end Go.Proofs.Ytbhoeaijpnjgdaa

namespace Go.Proofs.Ytbhoeaijpnjgdaa
open Go.RowKit
section
open Po
end
end Go.Proofs.Ytbhoeaijpnjgdaa

set_option maxRecDepth 100000
namespace Go.Proofs.Ytbhoeaijpnjgdaa
open Go.RowKit
def fd1 (P : Program) (t : TypeId) (f : Nat) : Option Nat :=
 match P.underlying t with
 | some (.struct fs) => match fs[f]? with
  | some fd => if isSc P fd.type then some fd.offset else none
  | none => none
 | _ => none
class F1Ty (P : Program) (t : TypeId) (f : Nat) (off : outParam Nat) : Prop where
 off : fd1 P t f = some off
section
end
section
end
instance tyF10 : F1Ty Try.prog 24 0 0 := ⟨by kernel_rfl⟩
section
end
section
open Po
end
end Go.Proofs.Ytbhoeaijpnjgdaa

namespace Go.Proofs.Ytbhoeaijpnjgdaa
open Go
end Go.Proofs.Ytbhoeaijpnjgdaa

set_option maxRecDepth 100000
namespace Go.Proofs.Ytbhoeaijpnjgdaa
open Go Go.RowKit Go.Sort
end Go.Proofs.Ytbhoeaijpnjgdaa

set_option maxRecDepth 100000
namespace Go.Proofs.Ytbhoeaijpnjgdaa
open Go.RowKit
section
open Po
end
end Go.Proofs.Ytbhoeaijpnjgdaa

set_option maxRecDepth 100000
namespace Go.Proofs.Ytbhoeaijpnjgdaa
open Go.RowKit
section
end
end Go.Proofs.Ytbhoeaijpnjgdaa

namespace Go.Proofs.Ytbhoeaijpnjgdaa
open Go.RowKit
section
open Po
end
end Go.Proofs.Ytbhoeaijpnjgdaa

namespace Go.Proofs.Ytbhoeaijpnjgdaa
open Po
section
end
end Go.Proofs.Ytbhoeaijpnjgdaa

namespace Go.Proofs.Ytbhoeaijpnjgdaa
open Go.RowKit
section
variable {p m : Int} {mod : List Int} [hF : IsF p m mod]
open Po
variable {f : Po (El p m mod)} {fs : List FacM} {j : Nat} {Ls : List (Po (El p m mod) × Int)}
open Classical in
theorem mu_ir {P Q : Po (El p m mod)} (hP : Ir P) (hQ : Ir Q) (h1 : lead P = 1) (h2 : lead Q = 1) : mu P Q = if P = Q then 1 else 0 := by
 by_cases e : P = Q
 ·subst e
  rw [if_pos rfl]
  refine mu_eq hP hP.ne (by rw [Rg.pow_one]; exact ⟨1, (Rg.mul_one _).symm⟩) fun hd => ?_
  have h3 := dvd_len hd hP.ne
  rw [len_powN hP.ne] at h3
  have := hP.two
  omega
 ·rw [if_neg e]
  refine mu_eq hP hQ.ne (one_dvd _) fun hd => e ?_
  rw [Nat.zero_add, Rg.pow_one] at hd
  exact hP.one hQ h1 h2 hd
end
end Go.Proofs.Ytbhoeaijpnjgdaa

namespace Go.Proofs.Ytbhoeaijpnjgdaa
open Go.RowKit
def isArN (P : Program) (t : TypeId) : Option (Nat × TypeId) :=
 match P.underlying t with
 | some (.array n e) => if isSc P e then some (n, e) else none
 | _ => none
class ArTy (P : Program) (t : TypeId) (n : outParam Nat) (e : outParam TypeId) : Prop where
 ar : isArN P t = some (n, e)
 inf : (P.info? t).map (·.size) = some n
theorem ArTy.und {P : Program} {t e : TypeId} {n : Nat} (h : ArTy P t n e) : P.underlying t = some (.array n e) ∧ isSc P e = true := by
 have h0 := h.ar
 unfold isArN at h0
 split at h0
 ·rename_i n' e' hu
  split at h0
  ·rename_i hs
   simp only [Option.some.injEq, Prod.mk.injEq] at h0
   obtain ⟨rfl, rfl⟩ := h0
   exact ⟨hu, hs⟩
  ·cases h0
 ·cases h0
section
variable {P : Program} {N : NB} {M : Nat → Prop} {w0 : World} {L : Fr} {F F' : List Chunk} {K : Fr → List Chunk → Prop} {b : Bool} {o : Oper} {v : Value} {x y : Operand} {t e et : TypeId}
theorem rBuildA {ps : List (Nat × Operand)} {us : List (Nat × Value)} {zs cells : List Value} {n : Nat} (ho : o.op = .build t ps.toArray) (hx : evp L ps = some us) [h : ArTy P t n et] [hz : ZrTy P t zs] (hf : Instr.fill (fun i => some (i * 1, 1)) zs.toArray us = some cells.toArray) : Stl P N M w0 o L F (.agg cells.toArray) := fun a w hl hm => by
 have h1 : (ps.toArray.map fun p => (p.1, a.eval p.2)) = us.toArray := by simp [evp_ok hl ps us hx]
 obtain ⟨z, hz1, hz2⟩ := hz.zr
 have hzr : (zeroValue t).run P w = .ok z w := by
  cases hi : P.info? t with
  | none => simp [hi] at hz1
  | some i => simp only [hi, Option.bind_some] at hz1; simp [zeroValue, typeInfo, hi, hz1]
 have hsz : (sizeOf et).run P w = .ok 1 w := run_size1 (scTy_of h.und.2).inf w
 simp only [Nat.mul_one] at hf
 have h2 : (Instr.build t us.toArray).run P w = .ok (.agg cells.toArray) w := by
  simp only [Instr.build, Sem.run_bind, hzr, Result.andThen_ok, run_und h.und.1, hsz, hz2]
  simp [hf]
 have h3 : execOp a.eval o = (do pure (.value (← Instr.build t us.toArray))) := by
  rw [← h1]
  simp only [execOp, ho]
 rw [h3]
 simp only [Sem.run_bind, h2, Result.andThen_ok, Sem.run_pure]
theorem eStA {tq : TypeId} {p : Addr} {vs us : List Value} {n : Nat} (ho : o.op = .store t x y) (hd : o.dst = none) [h : ArTy P t n et] (hx : ev L x = some (.pointer (some p))) (hy : ev L y = some (.agg us.toArray)) [hp : PkBlk F p tq vs F'] (h1 : vs.length = n) (h2 : us.length = n) (hv : us.all (·.oneCell') = true)
  (hK : K L (blk p tq us :: F')) : Eff P N M w0 false o L F K := eff_skip hd fun a w hl hm => by
 have hmp := hm.perm hp.perm
 have hb : (blk p tq vs).sat w := hmp.sat _ (List.mem_cons_self ..)
 have hrun := run_storeCells_from (P := P) p.block tq us 0 vs.toArray w hb.2 (by simp; omega) (fun u hu => List.all_eq_true.1 hv u hu)
 simp only [List.take_zero, List.nil_append] at hrun
 refine ⟨w.setRow p.block us.toArray, ?_, _, hmp.change (by exact trivial) (d := blk p tq us) ⟨rfl, rfl, rfl, by simp [World.setRow], fun k hk hc => setRow_other w p.block k us.toArray (fun e => hc e.symm)⟩ ⟨hb.1, setRow_heap w p.block _ _ _ _ hb.2⟩ (fun b hb => .inl hb), hK⟩
 have hpe : (⟨p.block, 0, none⟩ : Addr) = p := hb.1.symm
 rw [hpe] at hrun
 have hsz : (sizeOf t).run P w = .ok n w := run_size1 h.inf w
 have hst : (Instr.storeAt t (.pointer (some p)) (.agg us.toArray)).run P w = .ok () (w.setRow p.block us.toArray) := by
  simp only [Instr.storeAt, Instr.sureAddr, Sem.run_bind, Sem.run_pure, Result.andThen_ok, storeVar, hsz, Value.cells]
  simp [h2, hrun]
 simp only [execOp, ho, hl.eval hx, hl.eval hy, Sem.run_bind, hst, Result.andThen_ok, Sem.run_pure]
theorem cellA {p : Addr} {n : Nat} {vs : List Value} [h : ArTy P t n et] [hr : Rd F (some p) vs] (hn : vs.length = n) : CellV P F p t (.agg vs.toArray) := ⟨fun M w0 w hm => by
 have hu := h.und.1
 have hs := hr.rd M w0 w hm
 have hag : (isAgg t).run P w = .ok true w := by simp [isAgg, run_und hu]
 have hld : (loadCells p n).run P w = .ok vs.toArray w := by
  subst hn
  have := loadCellsFrom_ok (P := P) (w := w) (ad := p) vs 0 #[] (fun j hj => by
   obtain ⟨ad, h1, hc⟩ := hs j hj
   simp only [Option.some.injEq] at h1
   subst h1
   simpa using hc)
  simpa [loadCells] using this
 simp [loadVar, hag, run_size1 h.inf, hld]⟩
theorem rIndexA {l : List Int} {i : Int} {n : Nat} (ho : o.op = .index t x y) [h : ArTy P t n et] (hx : ev L x = some (.agg (ints l).toArray)) (hy : ev L y = some (.int .i64 i)) (hn : l.length = n) (h0 : 0 ≤ i) (h1 : i < n) : Stl P N M w0 o L F (.int .i64 (l.getD i.toNat 0)) := fun a w hl hm => by
 obtain ⟨hu, hs⟩ := h.und
 have hsz : (sizeOf et).run P w = .ok 1 w := run_size1 (scTy_of hs).inf w
 obtain ⟨d, hd, hnn⟩ := (scTy_of hs).und
 have hag : (isAgg et).run P w = .ok false w := by
  simp only [isAgg, Sem.run_bind, run_und hd, Result.andThen_ok]
  cases d <;> first | exact hnn.elim | rfl
 have hlt : i.toNat < l.length := by omega
 have hv : (ints l)[i.toNat]? = some (.int .i64 (l[i.toNat]?.getD 0)) := by
  simp [ints, List.getElem?_map, List.getElem?_eq_getElem hlt]
 simp only [execOp, ho, hl.eval hx, hl.eval hy, Sem.run_bind]
 simp [Instr.index, asIntOf, run_und hu, h0, h1, hsz, part, hag, hv]
end
end Go.Proofs.Ytbhoeaijpnjgdaa

namespace Go.Proofs.Ytbhoeaijpnjgdaa
structure LeastD (n d : Nat) : Prop where
 two : 2 ≤ d
 dvd : d ∣ n
 le : ∀ u, 2 ≤ u → u ∣ n → d ≤ u
theorem LeastD.uniq {n d e : Nat} (h : LeastD n d) (k : LeastD n e) : d = e := Nat.le_antisymm (h.le e k.two k.dvd) (k.le d h.two h.dvd)
theorem mod_of {n u : Nat} (h : u ∣ n) : (n : Int) % (u : Int) = 0 := by
 obtain ⟨k, rfl⟩ := h
 rw [Int.natCast_mul]; exact Int.mul_emod_right _ _
theorem dvd_of {n : Nat} {d : Int} (hd : 0 < d) (h : (n : Int) % d = 0) : d.toNat ∣ n := by
 have h1 : d ∣ (n : Int) := Int.dvd_of_emod_eq_zero h
 have h2 : ((d.toNat : Nat) : Int) = d := by omega
 rw [← h2] at h1
 exact Int.natCast_dvd_natCast.1 h1
def No235 (n : Nat) : Prop := (n : Int) % 2 ≠ 0 ∧ (n : Int) % 3 ≠ 0 ∧ (n : Int) % 5 ≠ 0
theorem least_low {n d : Nat} (hd : 2 ≤ d) (h : d ∣ n) (hno : ∀ u, 2 ≤ u → u < d → ¬ u ∣ n) : LeastD n d := ⟨hd, h, fun u h1 h2 => Nat.le_of_not_lt fun h3 => hno u h1 h3 h2⟩
theorem least_self {n d : Nat} (hn : 2 ≤ n) (hlt : n < d * d) (hno : ∀ u, 2 ≤ u → u < d → ¬ u ∣ n) : LeastD n n := ⟨hn, Nat.dvd_refl n, fun u h1 h2 => Nat.le_of_not_lt fun h3 => by
 obtain ⟨v, rfl⟩ := h2
 have hv : 2 ≤ v := by
  rcases Nat.lt_or_ge v 2 with h | h
  ·have : v = 0 ∨ v = 1 := by omega
   rcases this with rfl | rfl <;> omega
  ·exact h
 have hu : d ≤ u := Nat.le_of_not_lt fun h => hno u h1 h (Nat.dvd_mul_right ..)
 have hv2 : d ≤ v := Nat.le_of_not_lt fun h => hno v hv h (Nat.dvd_mul_left ..)
 have := Nat.mul_le_mul hu hv2
 omega⟩
theorem no_16 {n : Nat} {d : Nat} (h : No235 n) (hd : d = 7 ∨ (d = 11 ∧ (n : Int) % 7 ≠ 0) ∨ (d = 13 ∧ (n : Int) % 7 ≠ 0 ∧ (n : Int) % 11 ≠ 0) ∨ (d = 17 ∧ (n : Int) % 7 ≠ 0 ∧ (n : Int) % 11 ≠ 0 ∧ (n : Int) % 13 ≠ 0)) : ∀ u, 2 ≤ u → u < d → ¬ u ∣ n := fun u h1 h2 h3 => by
 obtain ⟨a, b, c⟩ := h
 have h4 := mod_of h3
 have hu : u ≤ 16 := by omega
 have : u = 2 ∨ u = 3 ∨ u = 4 ∨ u = 5 ∨ u = 6 ∨ u = 7 ∨ u = 8 ∨ u = 9 ∨ u = 10 ∨ u = 11 ∨ u = 12 ∨ u = 13 ∨ u = 14 ∨ u = 15 ∨ u = 16 := by omega
 rcases this with rfl | rfl | rfl | rfl | rfl | rfl | rfl | rfl | rfl | rfl | rfl | rfl | rfl | rfl | rfl <;> omega
open Classical in
noncomputable def leastN (n : Nat) : Nat := if h : ∃ d, LeastD n d then Classical.choose h else n
theorem leastN_eq {n d : Nat} (h : LeastD n d) : leastN n = d := by
 have he : ∃ d, LeastD n d := ⟨d, h⟩
 unfold leastN
 rw [dif_pos he]
 exact (Classical.choose_spec he).uniq h
theorem leastN_of {n : Nat} (h : 2 ≤ n) : LeastD n (leastN n) := by
 have key : ∀ d, (∃ e, LeastD n e) ∨ ∀ u, 2 ≤ u → u < d → ¬ u ∣ n := fun d => by
  induction d with
  | zero => exact .inr fun u _ h => by omega
  | succ d ih =>
   rcases ih with h | h
   ·exact .inl h
   ·by_cases hd : 2 ≤ d ∧ d ∣ n
    ·exact .inl ⟨d, least_low hd.1 hd.2 h⟩
    ·refine .inr fun u h1 h2 h3 => ?_
     rcases Nat.lt_or_eq_of_le (Nat.le_of_lt_succ h2) with e | e
     ·exact h u h1 e h3
     ·subst e; exact hd ⟨h1, h3⟩
 have he : ∃ d, LeastD n d := by
  rcases key (n + 1) with h1 | h1
  ·exact h1
  ·exact absurd (Nat.dvd_refl n) (h1 n h (by omega))
 unfold leastN
 rw [dif_pos he]
 exact Classical.choose_spec he
def isPr (r : Nat) : Prop := 2 ≤ r ∧ ∀ u, 2 ≤ u → u ∣ r → u = r
theorem LeastD.prime {n d : Nat} (h : LeastD n d) : isPr d := ⟨h.two, fun u h1 h2 => Nat.le_antisymm (Nat.le_of_dvd (by have := h.two; omega) h2) (h.le u h1 (Nat.dvd_trans h2 h.dvd))⟩
theorem pr_mul {r a b : Nat} (hr : isPr r) (h : r ∣ a * b) : r ∣ a ∨ r ∣ b := by
 have hr2 := hr.1
 by_cases h0 : a % r = 0
 ·exact .inl (Nat.dvd_of_mod_eq_zero h0)
 ·right
  refine prime_dvd hr2 (fun d h1 h2 h3 => by have := hr.2 d h1 h3; omega) (a := a % r) (by omega) (Nat.mod_lt _ (by omega)) ?_
  have e : a * b = r * (a / r * b) + a % r * b := by
   conv => lhs; rw [← Nat.div_add_mod a r]
   rw [Nat.add_mul, Nat.mul_assoc]
  rw [e] at h
  exact (Nat.dvd_add_right (Nat.dvd_mul_right ..)).1 h
theorem pr_pow {r a : Nat} (hr : isPr r) : ∀ n, r ∣ a ^ n → r ∣ a
 | 0, h => by rw [Nat.pow_zero] at h; have := Nat.le_of_dvd (by omega) h; have := hr.1; omega
 | n + 1, h => by
  rw [Nat.pow_succ] at h
  rcases pr_mul hr h with h | h
  ·exact pr_pow hr n h
  ·exact h
theorem two_le_pow {a e : Nat} (h : 2 ≤ a) (he : 1 ≤ e) : 2 ≤ a ^ e := by have := Nat.pow_le_pow_right (n := a) (by omega) he; rw [Nat.pow_one] at this; omega
def fprod : List (Int × Int) → Nat
 | [] => 1
 | q :: ps => q.1.toNat ^ q.2.toNat * fprod ps
theorem fprod_app (a b : List (Int × Int)) : fprod (a ++ b) = fprod a * fprod b := by
 induction a with
 | nil => exact (Nat.one_mul _).symm
 | cons x a ih => rw [List.cons_append, fprod, fprod, ih, Nat.mul_assoc]
structure PrF (n : Nat) (ps : List (Int × Int)) : Prop where
 each : ∀ q ∈ ps, isPr q.1.toNat ∧ 0 ≤ q.1 ∧ 1 ≤ q.2
 srt : ps.Pairwise fun x y => x.1 < y.1
 prod : fprod ps = n
theorem pr_fprod {r : Nat} (hr : isPr r) : ∀ {ps : List (Int × Int)}, (∀ q ∈ ps, isPr q.1.toNat ∧ 0 ≤ q.1 ∧ 1 ≤ q.2) → r ∣ fprod ps → ∃ q ∈ ps, q.1 = (r : Int)
 | [], _, h => by
  change r ∣ 1 at h
  have := Nat.le_of_dvd (by omega) h
  have := hr.1
  omega
 | q :: ps, hq, h => by
  rw [fprod] at h
  rcases pr_mul hr h with h | h
  ·have h1 := pr_pow hr _ h
   have h2 := (hq q (List.mem_cons_self ..))
   have h3 := h2.1.2 r hr.1 h1
   exact ⟨q, List.mem_cons_self .., by omega⟩
  ·obtain ⟨x, hx, e⟩ := pr_fprod hr (fun x hx => hq x (List.mem_cons_of_mem _ hx)) h
   exact ⟨x, List.mem_cons_of_mem _ hx, e⟩
theorem fprod_dvd : ∀ {ps : List (Int × Int)} {q : Int × Int}, q ∈ ps → 1 ≤ q.2 → q.1.toNat ∣ fprod ps
 | x :: ps, q, h, h1 => by
  rw [fprod]
  rcases List.mem_cons.1 h with rfl | h
  ·obtain ⟨e, he⟩ : ∃ e, q.2.toNat = e + 1 := ⟨q.2.toNat - 1, by omega⟩
   rw [he, Nat.pow_succ, Nat.mul_comm (q.1.toNat ^ e), Nat.mul_assoc]
   exact Nat.dvd_mul_right ..
  ·exact Nat.dvd_trans (fprod_dvd h h1) (Nat.dvd_mul_left ..)
structure FacJ (n t : Nat) (ps : List (Int × Int)) : Prop where
 each : ∀ q ∈ ps, isPr q.1.toNat ∧ 0 ≤ q.1 ∧ 1 ≤ q.2
 srt : ps.Pairwise fun x y => x.1 < y.1
 prod : fprod ps * t = n
 lt : ∀ q ∈ ps, ∀ u : Nat, 2 ≤ u → u ∣ t → q.1 < (u : Int)
theorem FacJ.start (n : Nat) : FacJ n n [] := ⟨fun q h => by simp at h, .nil, Nat.one_mul _, fun q h => by simp at h⟩
theorem FacJ.next {n t u e : Nat} {ps : List (Int × Int)} (h : FacJ n t ps) (ht : 2 ≤ t) (hu : u * leastN t ^ e = t) (he : 1 ≤ e) (hn : ¬ leastN t ∣ u) : FacJ n u (ps ++ [((leastN t : Int), (e : Int))]) := by
 have hl := leastN_of ht
 refine ⟨fun q hq => ?_, List.pairwise_append.2 ⟨h.srt, List.pairwise_singleton _ _, fun x hx y hy => ?_⟩, ?_, fun q hq v h1 h2 => ?_⟩
 ·rcases List.mem_append.1 hq with hq | hq
  ·exact h.each q hq
  ·rw [List.mem_singleton] at hq
   subst hq
   exact ⟨hl.prime, by show (0 : Int) ≤ ((leastN t : Nat) : Int); omega, by show (1 : Int) ≤ (e : Int); omega⟩
 ·rw [List.mem_singleton] at hy
  subst hy
  exact h.lt x hx _ hl.two hl.dvd
 ·rw [fprod_app, fprod, fprod, Nat.mul_one, Nat.mul_assoc, ← h.prod]
  congr 1
  show (leastN t : Int).toNat ^ (e : Int).toNat * u = t
  rw [Int.toNat_natCast, Int.toNat_natCast, Nat.mul_comm]; exact hu
 ·have hut : u ∣ t := ⟨_, hu.symm⟩
  rcases List.mem_append.1 hq with hq | hq
  ·exact h.lt q hq v h1 (Nat.dvd_trans h2 hut)
  ·rw [List.mem_singleton] at hq
   subst hq
   have h3 := hl.le v h1 (Nat.dvd_trans h2 hut)
   have h4 : leastN t ≠ v := fun e => hn (by rw [e]; exact h2)
   show ((leastN t : Nat) : Int) < (v : Int)
   omega
theorem FacJ.done {n : Nat} {ps : List (Int × Int)} (h : FacJ n 1 ps) : PrF n ps := ⟨h.each, h.srt, by have := h.prod; rwa [Nat.mul_one] at this⟩
end Go.Proofs.Ytbhoeaijpnjgdaa

set_option maxRecDepth 100000
set_option maxHeartbeats 1000000
namespace Go.Proofs.Ytbhoeaijpnjgdaa
open Go.RowKit
instance tyAr8 : ArTy Try.prog 164 8 3 := ⟨by kernel_rfl, by kernel_rfl⟩
instance zrAr8 : ZrTy Try.prog 164 [.int .i64 0, .int .i64 0, .int .i64 0, .int .i64 0, .int .i64 0, .int .i64 0, .int .i64 0, .int .i64 0] := ⟨.agg #[.int .i64 0, .int .i64 0, .int .i64 0, .int .i64 0, .int .i64 0, .int .i64 0, .int .i64 0, .int .i64 0], by kernel_rfl, rfl⟩
theorem num_wheel_ent : Enters Try.prog 169 := enters_of Try.func169 (by kernel_rfl) (by kernel_rfl)
theorem num_wheel  :
  Pure Try.prog 169 #[] [] (isV (.agg (ints [1, 7, 11, 13, 17, 19, 23, 29]).toArray)) := by
 refine pure_ofC (args := []) 2 Try.func169 rfl rfl rfl num_wheel_ent trivial (fun w0 => ?_)
 refine tS ?_
 refine tR fun _ _ _ => ?_
 refine eV (eAlloc rfl rfl rfl (fun p0 => ?_))
 refine tS ?_
 refine tR fun _ _ _ => ?_
 refine sV (rBuildA (cells := ints [1, 7, 11, 13, 17, 19, 23, 29]) rfl rfl rfl) ?_
 refine eV (eStA rfl rfl rfl rfl (by rfl) (by rfl) (by rfl) ?_)
 exact tr_ret ⟨trivial, _, _, (.cell rfl (cellA rfl) .nil), ⟨rfl, rfl⟩, CSub.nil _, trivial⟩
theorem num_least_ent : Enters Try.prog 145 := enters_of Try.func145 (by kernel_rfl) (by kernel_rfl)
theorem num_least (n : Int) (hn2 : 2 ≤ n) (hn9 : n ≤ 256) :
  Pure Try.prog 145 #[.int .i64 n] [] (isV (.int .i64 (leastN n.toNat : Nat))) := by
 have hnn : ((n.toNat : Nat) : Int) = n := by omega
 refine pure_of (args := [.int .i64 n]) 46 Try.func145 rfl rfl rfl num_least_ent trivial (fun w0 => ?_)
 refine tS ?_
 refine tR fun _ _ _ => ?_
 refine pV ?_
 refine tr_scope ?_
 refine tS ?_
 refine tS ?_
 refine tR fun _ _ _ => ?_
 refine eV (eLit3I rfl rfl rfl rfl rfl rfl (fun A1 => ?_))
 refine sV (rLen rfl rfl) ?_
 refine pV ?_
 refine tB ?_
 refine tr_loop1 (fun (k : Int) => [(12, .int .i64 k), (10, .slice A1 3 3), (11, .int .i64 3), (0, .int .i64 n)]) (fun (k : Int) => [ow A1 3 3 (ints [2, 3, 5])]) (fun (k : Int) => (0 ≤ k ∧ k ≤ 3) ∧ ∀ z : Nat, (z : Int) < k → n % ([2, 3, 5] : List Int).getD z 0 ≠ 0) (fun (k : Int) => (3 - k).toNat) (0) ⟨rfl, rfl, rfl, rfl, trivial⟩ (by first | exact cs _ _ | exact CSub.refl _) (⟨⟨by omega, by omega⟩, fun z hz => by omega⟩) (fun k hI => ?_)
 obtain ⟨⟨hk0, hk1⟩, hall⟩ := hI
 refine tS ?_
 refine tR fun _ _ _ => ?_
 refine pV ?_
 refine tS ?_
 refine tC rfl (fun h2 => ?_) (fun h2 => ?_)
 ·try simp only [zbA] at h2
  refine tK ?_
  refine tS ?_
  refine tB ?_
  refine tS ?_
  refine tR fun _ _ _ => ?_
  refine sV (rIdxI rfl rfl rfl (by omega) (by omega) (by simp; omega)) ?_
  refine sV (rLdI rfl rfl (by simp; omega)) ?_
  refine pV ?_
  refine tS ?_
  have hD : (k = 0 ∧ ([2, 3, 5] : List Int).getD k.toNat 0 = 2) ∨ (k = 1 ∧ ([2, 3, 5] : List Int).getD k.toNat 0 = 3) ∨ (k = 2 ∧ ([2, 3, 5] : List Int).getD k.toNat 0 = 5) := by
   have h3 : k = 0 ∨ k = 1 ∨ k = 2 := by omega
   rcases h3 with rfl | rfl | rfl <;> simp
  generalize ([2, 3, 5] : List Int).getD k.toNat 0 = D at hD ⊢
  refine tR fun _ _ _ => ?_
  iterate 2 refine pV ?_
  refine sV (rRem rfl rfl rfl (by omega) (by omega)) ?_
  refine pV ?_
  refine tC rfl (fun h4 => ?_) (fun h4 => ?_)
  ·try simp only [zbA] at h4
   refine tS ?_
   refine tR fun _ _ _ => ?_
   iterate 2 refine pV ?_
   have hdv : D.toNat ∣ n.toNat := dvd_of (by omega) (by rw [hnn]; exact h4)
   have hls : LeastD n.toNat D.toNat := by
    rcases hD with ⟨rfl, rfl⟩ | ⟨rfl, rfl⟩ | ⟨rfl, rfl⟩
    ·exact least_low (by decide) hdv fun u h1 h2 => by omega
    ·refine least_low (by decide) hdv fun u h1 h2 h3 => ?_
     have q0 := hall 0 (by omega)
     simp at q0
     have := mod_of h3
     have : u = 2 := by omega
     subst this
     omega
    ·refine least_low (by decide) hdv fun u h1 h2 h3 => ?_
     have q0 := hall 0 (by omega)
     have q1 := hall 1 (by omega)
     simp at q0 q1
     have := mod_of h3
     have : u = 2 ∨ u = 3 ∨ u = 4 := by omega
     rcases this with rfl | rfl | rfl <;> omega
   exact tr_ret ⟨trivial, _, _, rfl, ⟨by rw [leastN_eq hls, show ((D.toNat : Nat) : Int) = D by omega], rfl⟩, CSub.nil _, trivial⟩
  ·try simp only [zbA] at h4
   refine tK ?_
   refine tR fun _ _ _ => ?_
   refine sV (rAdd rfl rfl rfl (by omega) (by omega)) ?_
   refine pV ?_
   refine ⟨k + 1, ⟨rfl, rfl, rfl, rfl, trivial⟩, by first | exact cs _ _ | exact CSub.refl _, ?_⟩
   refine ⟨⟨⟨by omega, by omega⟩, fun z hz => ?_⟩, by omega⟩
   by_cases e : (z : Int) < k
   ·exact hall z e
   ·rcases hD with ⟨rfl, rfl⟩ | ⟨rfl, rfl⟩ | ⟨rfl, rfl⟩
    ·rw [show z = 0 by omega]; exact h4
    ·rw [show z = 1 by omega]; exact h4
    ·rw [show z = 2 by omega]; exact h4
 ·try simp only [zbA] at h2
  refine tE ?_
  refine tS ?_
  have h235 : No235 n.toNat := by
   have q0 := hall 0 (by omega)
   have q1 := hall 1 (by omega)
   have q2 := hall 2 (by omega)
   simp at q0 q1 q2
   unfold No235
   rw [hnn]
   omega
  refine tR fun _ _ _ => ?_
  iterate 2 refine pV ?_
  refine tS ?_
  refine tr_label ?_
  refine tS ?_
  refine tS ?_
  refine tR fun _ _ _ => ?_
  refine pV ?_
  refine tB ?_
  refine tr_loop1 (fun (bs : Int) => [(6, .int .i64 bs), (5, .int .i64 n), (0, .int .i64 n)]) (fun (bs : Int) => []) (fun (bs : Int) => bs = 0) (fun (bs : Int) => 0) (0) ⟨rfl, rfl, rfl, trivial⟩ (by exact CSub.nil _) (rfl) (fun bs hI => ?_)
  subst hI
  refine tS ?_
  refine tB ?_
  refine tS ?_
  refine tR fun _ _ _ => ?_
  refine eV (eCallV rfl rfl rfl (num_wheel) trivial ?_)
  refine pV ?_
  refine tB ?_
  refine tr_loop1 (fun (i : Int) => [(26, .int .i64 i), (25, .agg (ints [1, 7, 11, 13, 17, 19, 23, 29]).toArray), (6, .int .i64 0), (5, .int .i64 n), (0, .int .i64 n)]) (fun (i : Int) => []) (fun (i : Int) => (0 ≤ i ∧ i ≤ 4) ∧ (2 ≤ i → n % 7 ≠ 0) ∧ (3 ≤ i → n % 11 ≠ 0) ∧ (4 ≤ i → n % 13 ≠ 0)) (fun (i : Int) => (4 - i).toNat) (0) ⟨rfl, rfl, rfl, rfl, rfl, trivial⟩ (by exact CSub.nil _) (⟨⟨by omega, by omega⟩, fun h => by omega, fun h => by omega, fun h => by omega⟩) (fun i hI => ?_)
  obtain ⟨⟨hi0, hi1⟩, g7, g11, g13⟩ := hI
  refine tS ?_
  refine tR fun _ _ _ => ?_
  refine pV ?_
  refine tS ?_
  refine tC rfl (fun h11 => ?_) (fun h11 => ?_)
  ·try simp only [zbA] at h11
   refine tK ?_
   refine tS ?_
   refine tB ?_
   refine tS ?_
   refine tR fun _ _ _ => ?_
   refine sV (rIndexA rfl rfl rfl rfl (by omega) (by omega)) ?_
   refine pV ?_
   refine tS ?_
   have hW : (i = 0 ∧ ([1, 7, 11, 13, 17, 19, 23, 29] : List Int).getD i.toNat 0 = 1) ∨ (i = 1 ∧ ([1, 7, 11, 13, 17, 19, 23, 29] : List Int).getD i.toNat 0 = 7) ∨ (i = 2 ∧ ([1, 7, 11, 13, 17, 19, 23, 29] : List Int).getD i.toNat 0 = 11) ∨ (i = 3 ∧ ([1, 7, 11, 13, 17, 19, 23, 29] : List Int).getD i.toNat 0 = 13) ∨ (i = 4 ∧ ([1, 7, 11, 13, 17, 19, 23, 29] : List Int).getD i.toNat 0 = 17) := by
    have h3 : i = 0 ∨ i = 1 ∨ i = 2 ∨ i = 3 ∨ i = 4 := by omega
    rcases h3 with rfl | rfl | rfl | rfl | rfl <;> simp
   generalize ([1, 7, 11, 13, 17, 19, 23, 29] : List Int).getD i.toNat 0 = W at hW ⊢
   refine tR fun _ _ _ => ?_
   iterate 2 refine pV ?_
   refine sV (rAdd rfl rfl rfl (by omega) (by omega)) ?_
   refine pV ?_
   rw [show (0 : Int) + W = W by omega]
   refine tS ?_
   refine tS ?_
   refine tR fun _ _ _ => ?_
   iterate 2 refine pV ?_
   refine tC rfl (fun h14 => ?_) (fun h14 => ?_)
   ·try simp only [zbA] at h14
    refine tE ?_
    refine tR fun _ _ _ => ?_
    refine sV (rAdd rfl rfl rfl (by omega) (by omega)) ?_
    refine pV ?_
    refine ⟨i + 1, ⟨rfl, rfl, rfl, rfl, rfl, trivial⟩, by first | exact cs _ _ | exact CSub.refl _, ?_⟩
    exact ⟨⟨⟨by omega, by omega⟩, fun h => by omega, fun h => by omega, fun h => by omega⟩, by omega⟩
   ·try simp only [zbA] at h14
    refine tK ?_
    refine tS ?_
    refine tS ?_
    have hsq : (i = 0 ∧ W * W = 1) ∨ (i = 1 ∧ W * W = 49) ∨ (i = 2 ∧ W * W = 121) ∨ (i = 3 ∧ W * W = 169) ∨ (i = 4 ∧ W * W = 289) := by
     rcases hW with ⟨_, rfl⟩ | ⟨_, rfl⟩ | ⟨_, rfl⟩ | ⟨_, rfl⟩ | ⟨_, rfl⟩ <;> omega
    refine tR fun _ _ _ => ?_
    iterate 2 refine pV ?_
    refine sV (rMul rfl rfl rfl (by omega) (by omega)) ?_
    iterate 2 refine pV ?_
    refine tC rfl (fun h15 => ?_) (fun h15 => ?_)
    ·try simp only [zbA] at h15
     refine tE ?_
     refine tS ?_
     refine tR fun _ _ _ => ?_
     iterate 2 refine pV ?_
     have hWn : W = 7 ∨ (W = 11 ∧ n % 7 ≠ 0) ∨ (W = 13 ∧ n % 7 ≠ 0 ∧ n % 11 ≠ 0) ∨ (W = 17 ∧ n % 7 ≠ 0 ∧ n % 11 ≠ 0 ∧ n % 13 ≠ 0) := by omega
     have hno := no_16 (n := n.toNat) (d := W.toNat) h235 (by rw [hnn]; omega)
     have hWW : ((W.toNat * W.toNat : Nat) : Int) = W * W := by rw [Int.natCast_mul, Int.toNat_of_nonneg (by omega)]
     first
      | (have hls : LeastD n.toNat W.toNat := least_low (by omega) (dvd_of (by omega) (by rw [hnn]; exact h16)) hno; exact tr_ret ⟨trivial, _, _, rfl, ⟨by rw [leastN_eq hls, show ((W.toNat : Nat) : Int) = W by omega], rfl⟩, CSub.nil _, trivial⟩)
      | (have hls : LeastD n.toNat n.toNat := least_self (d := W.toNat) (by omega) (by omega) hno; exact tr_ret ⟨trivial, _, _, rfl, ⟨by rw [leastN_eq hls, hnn], rfl⟩, CSub.nil _, trivial⟩)
    ·try simp only [zbA] at h15
     refine tK ?_
     refine tS ?_
     refine tR fun _ _ _ => ?_
     iterate 2 refine pV ?_
     refine sV (rRem rfl rfl rfl (by omega) (by omega)) ?_
     refine pV ?_
     refine tC rfl (fun h16 => ?_) (fun h16 => ?_)
     ·try simp only [zbA] at h16
      refine tS ?_
      refine tR fun _ _ _ => ?_
      iterate 2 refine pV ?_
      refine tE ?_
      refine tS ?_
      refine tR fun _ _ _ => ?_
      iterate 2 refine pV ?_
      have hWn : W = 7 ∨ (W = 11 ∧ n % 7 ≠ 0) ∨ (W = 13 ∧ n % 7 ≠ 0 ∧ n % 11 ≠ 0) ∨ (W = 17 ∧ n % 7 ≠ 0 ∧ n % 11 ≠ 0 ∧ n % 13 ≠ 0) := by omega
      have hno := no_16 (n := n.toNat) (d := W.toNat) h235 (by rw [hnn]; omega)
      have hWW : ((W.toNat * W.toNat : Nat) : Int) = W * W := by rw [Int.natCast_mul, Int.toNat_of_nonneg (by omega)]
      first
       | (have hls : LeastD n.toNat W.toNat := least_low (by omega) (dvd_of (by omega) (by rw [hnn]; exact h16)) hno; exact tr_ret ⟨trivial, _, _, rfl, ⟨by rw [leastN_eq hls, show ((W.toNat : Nat) : Int) = W by omega], rfl⟩, CSub.nil _, trivial⟩)
       | (have hls : LeastD n.toNat n.toNat := least_self (d := W.toNat) (by omega) (by omega) hno; exact tr_ret ⟨trivial, _, _, rfl, ⟨by rw [leastN_eq hls, hnn], rfl⟩, CSub.nil _, trivial⟩)
     ·try simp only [zbA] at h16
      refine tK ?_
      refine tR fun _ _ _ => ?_
      refine sV (rAdd rfl rfl rfl (by omega) (by omega)) ?_
      refine pV ?_
      refine ⟨i + 1, ⟨rfl, rfl, rfl, rfl, rfl, trivial⟩, by first | exact cs _ _ | exact CSub.refl _, ?_⟩
      rcases hW with ⟨rfl, rfl⟩ | ⟨rfl, rfl⟩ | ⟨rfl, rfl⟩ | ⟨rfl, rfl⟩ | ⟨rfl, rfl⟩
      ·omega
      ·exact ⟨⟨⟨by omega, by omega⟩, fun _ => h16, fun h => by omega, fun h => by omega⟩, by omega⟩
      ·exact ⟨⟨⟨by omega, by omega⟩, fun _ => g7 (by omega), fun _ => h16, fun h => by omega⟩, by omega⟩
      ·exact ⟨⟨⟨by omega, by omega⟩, fun _ => g7 (by omega), fun _ => g11 (by omega), fun _ => h16⟩, by omega⟩
      ·omega
  ·try simp only [zbA] at h11
   omega --done
theorem num_FactorX_ent : Enters Try.prog 101 := enters_of Try.func101 (by kernel_rfl) (by kernel_rfl)
theorem num_FactorX (n : Int) (hn1 : 1 ≤ n) (hn9 : n ≤ 256) :
  Pure Try.prog 101 #[.int .i64 n] [] (one (fun v ch => ∃ B c ps, v = .tuple #[.slice B ps.length c, .int .i64 0] ∧ ch = ow2 B 124 c (pws ps) ∧ PrF n.toNat ps ∧ ps.length ≤ 256)) := by
 have hnn : ((n.toNat : Nat) : Int) = n := by omega
 refine pure_of (args := [.int .i64 n]) 32 Try.func101 rfl rfl rfl num_FactorX_ent trivial (fun w0 => ?_)
 refine tS ?_
 refine tR fun _ _ _ => ?_
 iterate 2 refine pV ?_
 refine tS ?_
 refine tS ?_
 refine tR fun _ _ _ => ?_
 refine pV ?_
 refine eV (eCallV rfl rfl rfl (num_in n 1) ⟨rfl, rfl, trivial⟩ ?_)
 refine sV (rNotB rfl rfl) ?_
 refine tC rfl (fun h1 => ?_) (fun h1 => ?_)
 ·try simp only [zbA] at h1
  simp at h1
  omega --done
 ·try simp only [zbA] at h1
  refine tK ?_
  refine tS ?_
  refine tR fun _ _ _ => ?_
  refine pV ?_
  refine tS ?_
  refine tB ?_
  refine tr_nil2 124 ?_
  refine tr_loop4 (fun (t : Int) (B : Option Addr) (cb : Nat) (ps : List (Int × Int)) => [(0, .int .i64 t), (4, .slice B ps.length cb), (2, .slice none 0 0), (3, .int .i64 0)]) (fun (t : Int) (B : Option Addr) (cb : Nat) (ps : List (Int × Int)) => [ow2 B 124 cb (pws ps)]) (fun (t : Int) (B : Option Addr) (cb : Nat) (ps : List (Int × Int)) => (1 ≤ t ∧ t ≤ n) ∧ FacJ n.toNat t.toNat ps ∧ ps.length + t ≤ 256) (fun (t : Int) (B : Option Addr) (cb : Nat) (ps : List (Int × Int)) => t.toNat) (n) (none) (0) ([]) ⟨rfl, rfl, rfl, rfl, trivial⟩ (by first | exact cs _ _ | exact CSub.refl _) (⟨⟨by omega, by omega⟩, FacJ.start _, by simp; omega⟩) (fun t B cb ps hI => ?_)
  obtain ⟨⟨ht1, ht9⟩, hJ, hpl⟩ := hI
  refine tS ?_
  refine tS ?_
  refine tR fun _ _ _ => ?_
  iterate 2 refine pV ?_
  refine tC rfl (fun h4 => ?_) (fun h4 => ?_)
  ·try simp only [zbA] at h4
   refine tK ?_
   refine tB ?_
   refine tS ?_
   refine tR fun _ _ _ => ?_
   refine pV ?_
   refine eV (eCallV rfl rfl rfl (num_least t (by omega) (by omega)) ⟨rfl, trivial⟩ ?_)
   refine pV ?_
   refine tS ?_
   have hlt := leastN_of (n := t.toNat) (by omega)
   have hl2 := hlt.two
   have hld := Nat.le_of_dvd (by omega) hlt.dvd
   have htt : ((t.toNat : Nat) : Int) = t := by omega
   refine tR fun _ _ _ => ?_
   refine pV ?_
   refine sV (rBuild rfl rfl) ?_
   refine eV (eAlloc rfl rfl rfl (fun p6 => ?_))
   refine eV (eStS rfl rfl rfl rfl rfl rfl ?_)
   refine tS ?_
   refine tB ?_
   refine tr_loop2 (fun (u : Int) (e : Int) => [(0, .int .i64 u), (4, .slice B ps.length cb), (5, .int .i64 ((leastN t.toNat : Nat) : Int)), (2, .slice none 0 0), (3, .int .i64 0), (6, .pointer (some p6))]) (fun (u : Int) (e : Int) => [blk p6 124 [.int .i64 ((leastN t.toNat : Nat) : Int), .int .i64 e], ow2 B 124 cb (pws ps)]) (fun (u : Int) (e : Int) => (1 ≤ u ∧ u ≤ t) ∧ (0 ≤ e ∧ e + u ≤ t) ∧ u.toNat * leastN t.toNat ^ e.toNat = t.toNat) (fun (u : Int) (e : Int) => u.toNat) (t) (0) ⟨rfl, rfl, rfl, rfl, rfl, rfl, trivial⟩ (by first | exact cs _ _ | exact CSub.refl _) (⟨⟨by omega, by omega⟩, ⟨by omega, by omega⟩, by rw [show Int.toNat 0 = 0 from rfl, Nat.pow_zero, Nat.mul_one]⟩) (fun u e hI => ?_)
   obtain ⟨⟨hu1, hu9⟩, ⟨he0, he9⟩, hue⟩ := hI
   refine tS ?_
   refine tS ?_
   refine tR fun _ _ _ => ?_
   iterate 2 refine pV ?_
   refine sV (rRem rfl rfl rfl (by omega) (by omega)) ?_
   refine pV ?_
   refine tC rfl (fun h7 => ?_) (fun h7 => ?_)
   ·try simp only [zbA] at h7
    refine tK ?_
    refine tB ?_
    refine tS ?_
    refine tR fun _ _ _ => ?_
    refine sV (rFld rfl rfl) ?_
    refine sV (rLdF rfl rfl rfl) ?_
    refine sV (rAdd rfl rfl rfl (by omega) (by omega)) ?_
    refine sV (rFld rfl rfl) ?_
    refine eV (eStF rfl rfl rfl rfl rfl (by simp) rfl rfl ?_)
    refine tR fun _ _ _ => ?_
    iterate 2 refine pV ?_
    refine sV (rQuo rfl rfl rfl (by omega) (by omega)) ?_
    refine pV ?_
    refine ⟨u / ((leastN t.toNat : Nat) : Int), e + 1, ⟨rfl, rfl, rfl, rfl, rfl, rfl, trivial⟩, by first | exact cs _ _ | exact CSub.refl _, ?_⟩
    have hdu : leastN t.toNat ∣ u.toNat := by
     have := dvd_of (n := u.toNat) (d := ((leastN t.toNat : Nat) : Int)) (by omega) (by rw [show ((u.toNat : Nat) : Int) = u by omega]; exact h7)
     rwa [Int.toNat_natCast] at this
    obtain ⟨w, hw⟩ := hdu
    have hq : u / ((leastN t.toNat : Nat) : Int) = (w : Int) := by
     have : u = ((leastN t.toNat : Nat) : Int) * (w : Int) := by rw [← Int.natCast_mul, ← hw]; omega
     rw [this]; exact Int.mul_ediv_cancel_left _ (by omega)
    rw [hq]
    have hw1 : 1 ≤ w := Nat.one_le_iff_ne_zero.2 fun e0 => by rw [e0, Nat.mul_zero] at hw; omega
    have hw2 : 2 * w ≤ u.toNat := by rw [hw]; exact Nat.mul_le_mul_right _ hl2
    refine ⟨⟨⟨by omega, by omega⟩, ⟨by omega, by omega⟩, ?_⟩, by omega⟩
    rw [show (e + 1).toNat = e.toNat + 1 by omega, Int.toNat_natCast, Nat.pow_succ]
    refine Eq.trans ?_ hue
    rw [hw, Nat.mul_comm (leastN t.toNat ^ e.toNat), ← Nat.mul_assoc, Nat.mul_comm w]
   ·try simp only [zbA] at h7
    refine tE ?_
    have hnd : ¬ leastN t.toNat ∣ u.toNat := fun hd => h7 (by have := mod_of hd; rw [show ((u.toNat : Nat) : Int) = u by omega] at this; exact this)
    have he1 : 1 ≤ e.toNat := Nat.one_le_iff_ne_zero.2 fun e0 => hnd (by rw [e0, Nat.pow_zero, Nat.mul_one] at hue; rw [hue]; exact hlt.dvd)
    have hfn := hJ.next (by omega) hue he1 hnd
    refine tR fun _ _ _ => ?_
    refine pV ?_
    refine sV (rLdS rfl rfl rfl) ?_
    refine eV (eLitS rfl rfl rfl rfl (fun p10 => ?_))
    refine eV (eApp2 rfl rfl rfl rfl rfl (by first | rfl | simp | omega) rfl (by first | (simp; done) | (simp; omega)) (by first | (simp; done) | (simp; omega)) (fun A10a c10a => ?_))
    refine pV ?_
    rw [show pws ps ++ [((Value.int .i64 ((leastN t.toNat : Nat) : Int) : Value), (Value.int .i64 e : Value))] = pws (ps ++ [(((leastN t.toNat : Nat) : Int), e)]) by rw [pws_app]; rfl, pws_length]
    refine ⟨u, A10a, c10a, ps ++ [(((leastN t.toNat : Nat) : Int), e)], ⟨rfl, rfl, rfl, rfl, trivial⟩, by first | exact cs _ _ | exact CSub.refl _, ?_⟩
    rw [show ((e.toNat : Nat) : Int) = e by omega] at hfn
    have h3 : u.toNat * 2 ≤ u.toNat * leastN t.toNat ^ e.toNat := Nat.mul_le_mul_left _ (two_le_pow hl2 he1)
    refine ⟨⟨⟨by omega, by omega⟩, hfn, ?_⟩, by omega⟩
    simp only [List.length_append, List.length_singleton]
    omega
  ·try simp only [zbA] at h4
   refine tE ?_
   refine tS ?_
   refine tR fun _ _ _ => ?_
   iterate 3 refine pV ?_
   have ht : t.toNat = 1 := by omega
   rw [ht] at hJ
   exact tr_ret ⟨trivial, _, _, rfl, ⟨_, rfl, B, cb, ps, rfl, rfl, hJ.done, by omega⟩, cs _ _, trivial, trivial⟩
end Go.Proofs.Ytbhoeaijpnjgdaa

namespace Go.Proofs.Ytbhoeaijpnjgdaa
open Go.RowKit
section
variable {P : Program} {N : NB} {M : Nat → Prop} {w0 : World} {L : Fr} {F : List Chunk} {o : Oper} {x y : Operand} {t t' : TypeId}
theorem rShlU {m s : Int} (ho : o.op = .binOp .shl t x y t') (hx : ev L x = some (.int .u64 m)) (hy : ev L y = some (.int .i64 s)) (h1 : 0 ≤ m) (h2 : m < 4294967296) (h3 : 0 ≤ s) (h4 : s < 32) : Stl P N M w0 o L F (.int .u64 (m * 2 ^ s.toNat)) :=
 stl_pure fun a hl => by
  have hb : IntKind.u64.bits = 64 := rfl
  have h6 : min s.toNat IntKind.u64.bits = s.toNat := by rw [hb]; omega
  have h5 : (2 : Int) ^ s.toNat ≤ 2147483648 := by
   have := Nat.pow_le_pow_right (show 0 < 2 by omega) (show s.toNat ≤ 31 by omega)
   have e : (2 : Int) ^ s.toNat = ((2 ^ s.toNat : Nat) : Int) := by rw [Int.natCast_pow]; rfl
   omega
  have h7 : (0 : Int) ≤ 2 ^ s.toNat := Int.pow_nonneg (by omega)
  have h8 := IntWalk.u64_in (m * 2 ^ s.toNat) ⟨Int.mul_nonneg h1 h7, by
   have := Int.mul_le_mul (show m ≤ 4294967295 by omega) h5 h7 (by omega)
   omega⟩
  have hn : ¬ s < 0 := by omega
  simp only [execOp, ho, hl.eval hx, hl.eval hy, eqGuard, binOp, Op.shift, h6, h8, hn]
  rfl
theorem lst_cap {M : Nat → Prop} {w0 : World} {z : Bool} {ops rest : List Oper} {K : Fr → List Chunk → Prop} {F F' : List Chunk} (A : Option Addr) (e : TypeId) (cap : Nat) (vs : List Value) [hp : Pk F (ow A e cap vs) F'] (h : vs.length ≤ cap → LstO P N M w0 z ops K (o :: rest) L F) : LstO P N M w0 z ops K (o :: rest) L F := fun a w hl hm => by
 refine h ?_ a w hl hm
 have h1 : w.ownsRow 0 e 1 (.slice A vs.length cap) vs.length vs := (hm.perm hp.perm).sat _ (List.mem_cons_self ..)
 rcases h1 with ⟨h1, h2 | ⟨g, c, cur, hv, hb, hh, hc, hm, hs, ht⟩⟩
 ·omega
 ·simp only [Value.slice.injEq] at hv
  omega
end
theorem sub_alg {O K L x y c P : Int} (h : O + K = L + P * c) {k : Nat} (hP : (4294967296 : Int) ^ k = P := by rfl) : (O + P * vN [(x + 4294967296 - y - c) % 4294967296]) + (K + P * y) = (L + P * x) + 4294967296 ^ (k + 1) * (1 - (x + 4294967296 - y - c) / 4294967296) := by
 have h1 := Int.emod_add_mul_ediv (x + 4294967296 - y - c) 4294967296
 generalize (x + 4294967296 - y - c) % 4294967296 = r at *
 generalize (x + 4294967296 - y - c) / 4294967296 = q at *
 rw [Int.pow_succ, hP]
 simp only [vN]
 have : c = x + 4294967296 - y - (r + 4294967296 * q) := by omega
 subst this
 grind
theorem bpow (k : Nat) : (4294967296 : Int) ^ k = ((4294967296 ^ k : Nat) : Int) := by rw [Int.natCast_pow]; rfl
theorem vN_lt_of {l : List Int} (h : Lm l) {k : Nat} (hk : l.length ≤ k) : vN l < 4294967296 ^ k := by
 have h1 := vN_lt h
 have h2 := Nat.pow_le_pow_right (show 0 < 4294967296 by omega) hk
 rw [bpow] at h1 ⊢
 omega
theorem sub_end {o l k : List Int} {c : Int} (ho : Lm o) (hl : Lm l) (hk : Lm k) (hol : o.length = l.length) (hle : vN k ≤ vN l) (hc : 0 ≤ c ∧ c ≤ 1) (h : vN o + vN (k.take l.length) = vN l + 4294967296 ^ l.length * c) : vN o = vN l - vN k := by
 have h1 := vN_lt_of ho (Nat.le_of_eq hol)
 have h2 := vN_lt hl
 have h3 := vN_split k l.length
 have h4 := hN_nn hk l.length
 have h5 : 0 ≤ vN (k.take l.length) := vN_nn fun x hx => hk x (List.mem_of_mem_take hx)
 have hp : (0 : Int) < 4294967296 ^ l.length := Int.pow_pos (by omega)
 generalize (4294967296 : Int) ^ l.length = Q at *
 have h6 : hN k l.length = 0 := by
  rcases Int.lt_or_le 0 (hN k l.length) with g | g
  ·have := Int.mul_le_mul_of_nonneg_left (show 1 ≤ hN k l.length by omega) (Int.le_of_lt hp)
   omega
  ·omega
 rw [h6, Int.mul_zero] at h3
 have hcc : c = 0 ∨ c = 1 := by omega
 rcases hcc with rfl | rfl
 ·omega
 ·omega
theorem sub_nat {l k : List Int} (hl : Lm l) (hk : Lm k) (hle : vN k ≤ vN l) : (vN l - vN k).toNat = (vN l).toNat - (vN k).toNat := by
 have := vN_nn hl
 have := vN_nn hk
 omega
theorem shl_alg {O W D L x c P : Int} (h : O + P * c = W * D * L) {w i : Nat} (hW : (4294967296 : Int) ^ w = W) (hP : (4294967296 : Int) ^ (w + i) = P) : (O + P * vN [(x * D + c) % 4294967296]) + 4294967296 ^ (w + (i + 1)) * ((x * D + c) / 4294967296) = W * D * (L + 4294967296 ^ i * x) := by
 have h1 := Int.emod_add_mul_ediv (x * D + c) 4294967296
 generalize (x * D + c) % 4294967296 = r at *
 generalize (x * D + c) / 4294967296 = q at *
 have e : P = W * 4294967296 ^ i := by rw [← hP, Int.pow_add, hW]
 rw [show w + (i + 1) = (w + i) + 1 by omega, Int.pow_succ, hP]
 simp only [vN]
 have : c = r + 4294967296 * q - x * D := by omega
 subst this
 subst e
 grind
theorem shl_pow (v : Int) (n : Nat) : 4294967296 ^ (n / 32) * 2 ^ (n % 32) * v = v * 2 ^ n := by
 have e : (2 : Int) ^ n = 4294967296 ^ (n / 32) * 2 ^ (n % 32) := by
  conv => lhs; rw [← Nat.div_add_mod n 32]
  rw [Int.pow_add, Int.pow_mul]; rfl
 rw [e]; grind
theorem shl_nat {l : List Int} (hl : Lm l) (n : Nat) : (vN l * 2 ^ n).toNat = (vN l).toNat * 2 ^ n := by
 have h1 := vN_nn hl
 have e : vN l = ((vN l).toNat : Int) := by omega
 conv => lhs; rw [e]
 rw [show (2 : Int) ^ n = ((2 ^ n : Nat) : Int) by rw [Int.natCast_pow]; rfl, ← Int.natCast_mul]; rfl
theorem shl_len {x n k : Nat} (h : (lmb x).length ≤ k) : (lmb (x * 2 ^ n)).length ≤ k + n / 32 + 1 := lmb_len (by
 have h1 := lmb_ge h
 have e : 2 ^ n = 4294967296 ^ (n / 32) * 2 ^ (n % 32) := by
  conv => lhs; rw [← Nat.div_add_mod n 32]
  rw [Nat.pow_add, Nat.pow_mul]
 have h2 : 2 ^ (n % 32) < 4294967296 := Nat.lt_of_lt_of_le (Nat.pow_lt_pow_right (by omega) (show n % 32 < 32 by omega)) (by decide)
 have h3 : 2 ^ n ≤ 4294967296 ^ (n / 32) * 4294967296 := by rw [e]; exact Nat.mul_le_mul_left _ (by omega)
 rw [← Nat.pow_succ] at h3
 have h4 : x * 2 ^ n ≤ x * 4294967296 ^ (n / 32 + 1) := Nat.mul_le_mul_left _ h3
 have h5 : x * 4294967296 ^ (n / 32 + 1) < 4294967296 ^ k * 4294967296 ^ (n / 32 + 1) := Nat.mul_lt_mul_of_pos_right h1 (Nat.pow_pos (by omega))
 rw [← Nat.pow_add] at h5
 rw [Nat.add_assoc]
 omega)
theorem lmb_mono {x y : Nat} (h : x ≤ y) : (lmb x).length ≤ (lmb y).length := lmb_len (Nat.lt_of_le_of_lt h (lmb_ge (Nat.le_refl _)))
structure DivJ (a b : Nat) (i : Int) (r q : Nat) : Prop where
 eq : b * q + r = a
 lt : r < b * 2 ^ (i + 1).toNat
theorem DivJ.start {a b : Nat} (hb : 1 ≤ b) : DivJ a b ((bitl a : Int) - bitl b) a 0 := ⟨by omega, by
 have h1 := bitl_le (n := a)
 have h2 : bitl b ≠ 0 := fun h => by have := bitl_le (n := b); rw [h] at this; omega
 have h3 : 2 ^ (bitl b - 1) ≤ b := by
  rcases Nat.lt_or_ge b (2 ^ (bitl b - 1)) with g | g
  ·have := bitl_lt g; omega
  ·exact g
 have h4 : 2 ^ bitl a ≤ 2 ^ (bitl b - 1) * 2 ^ ((bitl a : Int) - bitl b + 1).toNat := by
  rw [← Nat.pow_add]; exact Nat.pow_le_pow_right (by omega) (by omega)
 have h5 := Nat.mul_le_mul_right (2 ^ ((bitl a : Int) - bitl b + 1).toNat) h3
 omega⟩
theorem DivJ.sub {a b : Nat} {i : Int} {r q : Nat} (h : DivJ a b i r q) (h0 : 0 ≤ i) (hr : b * 2 ^ i.toNat ≤ r) : DivJ a b (i - 1) (r - b * 2 ^ i.toNat) (q + 2 ^ i.toNat) := by
 obtain ⟨h1, h2⟩ := h
 refine ⟨?_, ?_⟩
 ·rw [Nat.mul_add]; omega
 ·rw [show (i - 1 + 1).toNat = i.toNat by omega]
  rw [show (i + 1).toNat = i.toNat + 1 by omega, Nat.pow_succ, ← Nat.mul_assoc] at h2
  omega
theorem DivJ.skip {a b : Nat} {i : Int} {r q : Nat} (h : DivJ a b i r q) (h0 : 0 ≤ i) (hr : ¬ b * 2 ^ i.toNat ≤ r) : DivJ a b (i - 1) r q := ⟨h.eq, by
 rw [show (i - 1 + 1).toNat = i.toNat by omega]; omega⟩
theorem DivJ.done {a b : Nat} {i : Int} {r q : Nat} (h : DivJ a b i r q) (hb : 1 ≤ b) (h0 : i < 0) : q = a / b ∧ r = a % b := by
 obtain ⟨h1, h2⟩ := h
 rw [show (i + 1).toNat = 0 by omega, Nat.pow_zero, Nat.mul_one] at h2
 subst h1
 constructor
 ·rw [Nat.mul_add_div (by omega), Nat.div_eq_of_lt h2]; omega
 ·rw [Nat.mul_add_mod, Nat.mod_eq_of_lt h2]
theorem DivJ.le {a b : Nat} {i : Int} {r q : Nat} (h : DivJ a b i r q) (hb : 1 ≤ b) : r ≤ a ∧ q ≤ a := by
 have h1 := h.eq
 have := Nat.mul_le_mul_right q hb
 omega
theorem bitl_len {n k : Nat} (h : (lmb n).length ≤ k) : bitl n ≤ 32 * k := bitl_lt (by
 have := lmb_ge h
 rwa [Nat.pow_mul])
theorem cmpZ_ge {a b : Int} : 0 ≤ cmpZ a b ↔ b ≤ a := by
 unfold cmpZ
 split
 ·omega
 ·split <;> omega
end Go.Proofs.Ytbhoeaijpnjgdaa

set_option maxRecDepth 100000
namespace Go.Proofs.Ytbhoeaijpnjgdaa
open Go.RowKit
theorem ref_NSub_ent : Enters Try.prog 84 := enters_of Try.func84 (by kernel_rfl) (by kernel_rfl)
theorem ref_NSub (X : Option Addr) (nx cx : Nat) (l : List Int) (hnx : nx = l.length) (hlnx : Lm l) (h9nx : nx ≤ 1000000) (Y : Option Addr) (ny cy : Nat) (k : List Int) (hny : ny = k.length) (hlny : Lm k) (h9ny : ny ≤ 1000000) (hle : vN k ≤ vN l) :
  Pure Try.prog 84 #[.slice X nx cx, .slice Y ny cy] [ro X (w32 l), ro Y (w32 k)] (one (fun v ch => ∃ B c, v = .slice B (lmb ((vN l).toNat - (vN k).toNat)).length c ∧ ch = ow B 105 c (w32 (lmb ((vN l).toNat - (vN k).toNat))) ∧ (lmb ((vN l).toNat - (vN k).toNat)).length ≤ c)) := by
 refine pure_of (args := [.slice X nx cx, .slice Y ny cy]) 36 Try.func84 rfl rfl rfl ref_NSub_ent ⟨id, id, trivial⟩ (fun w0 => ?_)
 refine tS ?_
 refine tR fun _ _ _ => ?_
 refine pV ?_
 refine tS ?_
 refine tR fun _ _ _ => ?_
 refine pV ?_
 refine tS ?_
 refine tR fun _ _ _ => ?_
 refine pV ?_
 refine tS ?_
 refine tS ?_
 refine tR fun _ _ _ => ?_
 refine pV ?_
 refine tB ?_
 refine tr_nilW 105 ?_
 refine tr_loop5 (fun (i : Int) (bw : Int) (B : Option Addr) (cb : Nat) (o : List Int) => [(5, .slice B o.length cb), (6, .int .u64 bw), (7, .int .i64 i), (0, .slice X nx cx), (1, .slice Y ny cy), (4, .slice none 0 0)]) (fun (i : Int) (bw : Int) (B : Option Addr) (cb : Nat) (o : List Int) => [ow B 105 cb (w32 o), ro X (w32 l), ro Y (w32 k)]) (fun (i : Int) (bw : Int) (B : Option Addr) (cb : Nat) (o : List Int) => (0 ≤ i ∧ i ≤ nx) ∧ (0 ≤ bw ∧ bw ≤ 1) ∧ (o.length : Int) = i ∧ Lm o ∧ vN o + vN (k.take i.toNat) = vN (l.take i.toNat) + 4294967296 ^ i.toNat * bw) (fun (i : Int) (bw : Int) (B : Option Addr) (cb : Nat) (o : List Int) => (nx - i).toNat) (0) (0) (none) (0) ([]) ⟨rfl, rfl, rfl, rfl, rfl, rfl, trivial⟩ (by first | exact cs _ _ | exact CSub.refl _) (⟨⟨by omega, by omega⟩, ⟨by omega, by omega⟩, rfl, lm_nil, by simp [vN]⟩) (fun i bw B cb o hI => ?_)
 obtain ⟨⟨hi0, hi1⟩, ⟨hc0, hc1⟩, hol0, hol, hs⟩ := hI
 refine tS ?_
 refine tS ?_
 refine tR fun _ _ _ => ?_
 iterate 2 refine pV ?_
 refine sV (rLen rfl rfl) ?_
 refine pV ?_
 refine tC rfl (fun h4 => ?_) (fun h4 => ?_)
 ·try simp only [zbA] at h4
  refine tK ?_
  refine tS ?_
  refine tB ?_
  refine tS ?_
  have hli := hlnx.get i.toNat
  have hki := hlny.get i.toNat
  refine tR fun _ _ _ => ?_
  iterate 2 refine pV ?_
  refine eV (eCallV rfl rfl rfl (ref_limb X nx cx l hnx hlnx i (by omega)) ⟨rfl, rfl, trivial⟩ ?_)
  refine sV (rAddU rfl rfl rfl (by omega) (by omega)) ?_
  iterate 2 refine pV ?_
  refine eV (eCallV rfl rfl rfl (ref_limb Y ny cy k hny hlny i (by omega)) ⟨rfl, rfl, trivial⟩ ?_)
  refine sV (rSubU rfl rfl rfl (by omega) (by omega)) ?_
  refine pV ?_
  refine sV (rSubU rfl rfl rfl (by omega) (by omega)) ?_
  refine pV ?_
  refine tS ?_
  refine tR fun _ _ _ => ?_
  iterate 2 refine pV ?_
  refine sV (rRemU rfl rfl rfl (by omega) (by omega)) ?_
  refine sV (rConv rfl undU64 undU32 rfl (IntWalk.u32_in _ ⟨by omega, by omega⟩)) ?_
  refine eV (eLit1W rfl rfl rfl rfl (fun A7 => ?_))
  refine eV (eAppW rfl rfl rfl rfl rfl (by first | rfl | simp | omega) (by first | rfl | simp | omega) (by first | omega | (simp; omega)) (fun A7a c7a => ?_))
  refine pV ?_
  refine tR fun _ _ _ => ?_
  refine pV ?_
  refine sV (rQuoU rfl rfl rfl (by omega) (by omega)) ?_
  refine sV (rSubU rfl rfl rfl (by omega) (by omega)) ?_
  refine pV ?_
  refine tR fun _ _ _ => ?_
  refine pV ?_
  refine sV (rAdd rfl rfl rfl (by omega) (by omega)) ?_
  refine pV ?_
  refine ⟨i + 1, 1 - (l.getD i.toNat 0 + 4294967296 - k.getD i.toNat 0 - bw) / 4294967296, A7a, c7a, o ++ [(l.getD i.toNat 0 + 4294967296 - k.getD i.toNat 0 - bw) % 4294967296], ⟨rfl, rfl, rfl, rfl, rfl, rfl, trivial⟩, by first | exact cs _ _ | exact CSub.refl _, ?_⟩
  refine ⟨⟨⟨by omega, by omega⟩, ⟨by omega, by omega⟩, by simp; omega, lm_app hol (lm_one (by omega) (by omega)), ?_⟩, by omega⟩
  rw [show (i + 1).toNat = i.toNat + 1 by omega, vN_tk, vN_tk, vN_app, show o.length = i.toNat by omega]
  exact sub_alg hs
 ·try simp only [zbA] at h4
  refine tE ?_
  refine tS ?_
  refine tr_cap B 105 cb (w32 o) fun hcap => ?_
  rw [w32_length] at hcap
  have hin : i.toNat = l.length := by omega
  have hv : (vN o).toNat = (vN l).toNat - (vN k).toNat := by
   rw [hin, vN_all (l := l) (by omega)] at hs
   rw [sub_end hol hlnx hlny (by omega) hle ⟨hc0, hc1⟩ hs, sub_nat hlnx hlny hle]
  refine tR fun _ _ _ => ?_
  refine pV ?_
  refine eV (eCall1 rfl rfl rfl (ref_Trim B _ cb o rfl hol (by omega) hcap) ⟨rfl, trivial⟩ ?_)
  rintro _ _ ⟨B9, c9, rfl, rfl, hc9⟩
  refine pV ?_
  rw [hv] at hc9 ⊢
  exact tr_ret ⟨trivial, _, _, rfl, ⟨_, rfl, B9, c9, rfl, rfl, hc9⟩, cs _ _, trivial, trivial⟩
theorem ref_Nshl_ent : Enters Try.prog 134 := enters_of Try.func134 (by kernel_rfl) (by kernel_rfl)
theorem ref_Nshl (X : Option Addr) (nx cx : Nat) (l : List Int) (hnx : nx = l.length) (hlnx : Lm l) (h9nx : nx ≤ 1000000) (n : Nat) (hn : n ≤ 10000000) :
  Pure Try.prog 134 #[.slice X nx cx, .int .i64 n] [ro X (w32 l)] (one (fun v ch => ∃ B c, v = .slice B (lmb ((vN l).toNat * 2 ^ n)).length c ∧ ch = ow B 105 c (w32 (lmb ((vN l).toNat * 2 ^ n))) ∧ (lmb ((vN l).toNat * 2 ^ n)).length ≤ c)) := by
 have hD1 : (1 : Int) ≤ 2 ^ (n % 32) := by
  have := Nat.two_pow_pos (n % 32)
  have e : (2 : Int) ^ (n % 32) = ((2 ^ (n % 32) : Nat) : Int) := by rw [Int.natCast_pow]; rfl
  omega
 have hD9 : (2 : Int) ^ (n % 32) ≤ 2147483648 := by
  have := Nat.pow_le_pow_right (show 0 < 2 by omega) (show n % 32 ≤ 31 by omega)
  have e : (2 : Int) ^ (n % 32) = ((2 ^ (n % 32) : Nat) : Int) := by rw [Int.natCast_pow]; rfl
  omega
 have hmn : ((n : Int) % 32).toNat = n % 32 := by omega
 refine pure_of (args := [.slice X nx cx, .int .i64 n]) 42 Try.func134 rfl rfl rfl ref_Nshl_ent ⟨id, trivial⟩ (fun w0 => ?_)
 refine tS ?_
 refine tR fun _ _ _ => ?_
 refine pV ?_
 refine tS ?_
 refine tR fun _ _ _ => ?_
 refine pV ?_
 refine sV (rQuo rfl rfl rfl (by omega) (by omega)) ?_
 refine eV (eMakeW rfl rfl rfl rfl rfl (by omega) (by omega) (by omega) (fun A1 => ?_))
 refine pV ?_
 refine tS ?_
 refine tR fun _ _ _ => ?_
 refine pV ?_
 refine tS ?_
 refine tS ?_
 refine tR fun _ _ _ => ?_
 refine pV ?_
 refine tB ?_
 refine tr_loop6 (fun (i : Int) (cy2 : Int) (B : Option Addr) (cb : Nat) (o : List Int) (on : Nat) => [(5, .slice B on cb), (6, .int .u64 cy2), (7, .int .i64 i), (0, .slice X nx cx), (1, .int .i64 n), (4, .slice none 0 0)]) (fun (i : Int) (cy2 : Int) (B : Option Addr) (cb : Nat) (o : List Int) (on : Nat) => [ow B 105 cb (w32 o), ro X (w32 l)]) (fun (i : Int) (cy2 : Int) (B : Option Addr) (cb : Nat) (o : List Int) (on : Nat) => on = o.length ∧ (0 ≤ i ∧ i ≤ nx) ∧ (0 ≤ cy2 ∧ cy2 < 2 ^ (n % 32)) ∧ (o.length : Int) = (n / 32 : Nat) + i ∧ Lm o ∧ vN o + 4294967296 ^ (n / 32 + i.toNat) * cy2 = 4294967296 ^ (n / 32) * 2 ^ (n % 32) * vN (l.take i.toNat)) (fun (i : Int) (cy2 : Int) (B : Option Addr) (cb : Nat) (o : List Int) (on : Nat) => (nx - i).toNat) (0) (0) (A1) (((n : Int) / 32).toNat) (List.replicate ((n : Int) / 32).toNat 0) (((n : Int) / 32).toNat) ⟨rfl, rfl, rfl, rfl, rfl, rfl, trivial⟩ (by first | exact cs _ _ | exact CSub.refl _) (⟨by rw [List.length_replicate], ⟨by omega, by omega⟩, ⟨by omega, by omega⟩, by rw [List.length_replicate]; omega, lm_rep _, by rw [vN_zeros]; simp [vN]⟩) (fun i cy2 B cb o on hI => ?_)
 obtain ⟨rfl, ⟨hi0, hi1⟩, ⟨hc0, hc1⟩, hol0, hol, hs⟩ := hI
 refine tS ?_
 refine tS ?_
 refine tR fun _ _ _ => ?_
 iterate 2 refine pV ?_
 refine sV (rLen rfl rfl) ?_
 refine pV ?_
 refine tC rfl (fun h4 => ?_) (fun h4 => ?_)
 ·try simp only [zbA] at h4
  refine tK ?_
  refine tS ?_
  refine tB ?_
  refine tS ?_
  have hli := hlnx.get i.toNat
  have hx0 : 0 ≤ l.getD i.toNat 0 * 2 ^ (n % 32) := Int.mul_nonneg hli.1 (by omega)
  have hx9 : l.getD i.toNat 0 * 2 ^ (n % 32) ≤ 4294967295 * 2 ^ (n % 32) := Int.mul_le_mul_of_nonneg_right (by omega) (by omega)
  refine tR fun _ _ _ => ?_
  iterate 2 refine pV ?_
  refine sV (rIdxW rfl rfl rfl (by omega) (by omega) (by omega)) ?_
  refine sV (rLdW rfl rfl (by omega)) ?_
  refine sV (rConv rfl undU32 undU64 rfl (IntWalk.u64_in _ ⟨by omega, by omega⟩)) ?_
  refine pV ?_
  refine sV (rRem rfl rfl rfl (by omega) (by omega)) ?_
  refine sV (rShlU rfl rfl rfl (by omega) (by omega) (by omega) (by omega)) ?_
  rw [hmn]
  refine pV ?_
  refine sV (rAddU rfl rfl rfl (by omega) (by omega)) ?_
  refine pV ?_
  refine tS ?_
  refine tR fun _ _ _ => ?_
  iterate 2 refine pV ?_
  refine sV (rRemU rfl rfl rfl (by omega) (by omega)) ?_
  refine sV (rConv rfl undU64 undU32 rfl (IntWalk.u32_in _ ⟨by omega, by omega⟩)) ?_
  refine eV (eLit1W rfl rfl rfl rfl (fun A7 => ?_))
  refine eV (eAppW rfl rfl rfl rfl rfl (by first | rfl | simp | omega) (by first | rfl | simp | omega) (by first | omega | (simp; omega)) (fun A7a c7a => ?_))
  refine pV ?_
  refine tR fun _ _ _ => ?_
  refine pV ?_
  refine sV (rQuoU rfl rfl rfl (by omega) (by omega)) ?_
  refine pV ?_
  refine tR fun _ _ _ => ?_
  refine pV ?_
  refine sV (rAdd rfl rfl rfl (by omega) (by omega)) ?_
  refine pV ?_
  refine ⟨i + 1, (l.getD i.toNat 0 * 2 ^ (n % 32) + cy2) / 4294967296, A7a, c7a, o ++ [(l.getD i.toNat 0 * 2 ^ (n % 32) + cy2) % 4294967296], _, ⟨rfl, rfl, rfl, rfl, rfl, rfl, trivial⟩, by first | exact cs _ _ | exact CSub.refl _, ?_⟩
  refine ⟨⟨rfl, ⟨by omega, by omega⟩, ⟨by omega, by omega⟩, by simp; omega, lm_app hol (lm_one (by omega) (by omega)), ?_⟩, by omega⟩
  rw [show (i + 1).toNat = i.toNat + 1 by omega, vN_tk, vN_app, show o.length = n / 32 + i.toNat by omega]
  exact shl_alg hs rfl rfl
 ·try simp only [zbA] at h4
  refine tE ?_
  refine tS ?_
  refine tR fun _ _ _ => ?_
  iterate 2 refine pV ?_
  refine sV (rConv rfl undU64 undU32 rfl (IntWalk.u32_in _ ⟨by omega, by omega⟩)) ?_
  refine eV (eLit1W rfl rfl rfl rfl (fun A9 => ?_))
  refine eV (eAppW rfl rfl rfl rfl rfl (by first | rfl | simp | omega) (by first | rfl | simp | omega) (by first | omega | (simp; omega)) (fun A9a c9a => ?_))
  refine lst_cap A9a 105 c9a (w32 (o ++ [cy2])) fun hcap => ?_
  rw [w32_length] at hcap
  have hv : (vN (o ++ [cy2])).toNat = (vN l).toNat * 2 ^ n := by
   rw [vN_app, show o.length = n / 32 + i.toNat by omega, show vN [cy2] = cy2 by simp [vN], hs, vN_all (by omega), shl_pow, shl_nat hlnx]
  refine eV (eCall1 rfl rfl rfl (ref_Trim A9a _ c9a (o ++ [cy2]) (by simp) (lm_app hol (lm_one (by omega) (by omega))) (by simp; omega) (by rw [List.length_append] at hcap; simpa using hcap)) ⟨rfl, trivial⟩ ?_)
  rintro _ _ ⟨B9b, c9b, rfl, rfl, hc9b⟩
  refine pV ?_
  rw [hv] at hc9b ⊢
  exact tr_ret ⟨trivial, _, _, rfl, ⟨_, rfl, B9b, c9b, rfl, rfl, hc9b⟩, cs _ _, trivial, trivial⟩
theorem ref_NshlI (X : Option Addr) (nx cx : Nat) (l : List Int) (hnx : nx = l.length) (hlnx : Lm l) (h9nx : nx ≤ 1000000) (i : Int) (hi0 : 0 ≤ i) (hi9 : i ≤ 10000000) : Pure Try.prog 134 #[.slice X nx cx, .int .i64 i] [ro X (w32 l)] (one (fun v ch => ∃ B c, v = .slice B (lmb ((vN l).toNat * 2 ^ i.toNat)).length c ∧ ch = ow B 105 c (w32 (lmb ((vN l).toNat * 2 ^ i.toNat))) ∧ (lmb ((vN l).toNat * 2 ^ i.toNat)).length ≤ c)) := by
 have h := ref_Nshl X nx cx l hnx hlnx h9nx i.toNat (by omega)
 rwa [Int.toNat_of_nonneg hi0] at h
theorem ref_NDivMod_ent : Enters Try.prog 85 := enters_of Try.func85 (by kernel_rfl) (by kernel_rfl)
theorem ref_NDivMod (X : Option Addr) (nx cx : Nat) (l : List Int) (hnx : nx = l.length) (hlnx : Lm l) (h9nx : nx ≤ 10000) (hcx : nx ≤ cx) (Y : Option Addr) (ny cy : Nat) (k : List Int) (hny : ny = k.length) (hlny : Lm k) (h9ny : ny ≤ 10000) (hcy : ny ≤ cy) (hk1 : 1 ≤ vN k) :
  Pure Try.prog 85 #[.slice X nx cx, .slice Y ny cy] [ro X (w32 l), ro Y (w32 k)] (two (fun v ch dh => ∃ B c D d, v = .tuple #[.slice B (lmb ((vN l).toNat / (vN k).toNat)).length c, .slice D (lmb ((vN l).toNat % (vN k).toNat)).length d] ∧ ch = ow B 105 c (w32 (lmb ((vN l).toNat / (vN k).toNat))) ∧ dh = ow D 105 d (w32 (lmb ((vN l).toNat % (vN k).toNat))) ∧ (lmb ((vN l).toNat / (vN k).toNat)).length ≤ c ∧ (lmb ((vN l).toNat % (vN k).toNat)).length ≤ d)) := by
 have hAl := lmb_short hlnx
 have hBl := lmb_short hlny
 have hA9 := bitl_len hAl
 have hB9 := bitl_len hBl
 have hB1 : 1 ≤ (vN k).toNat := by omega
 have hBn : (((vN k).toNat : Nat) : Int) = vN k := by omega
 refine pure_of (args := [.slice X nx cx, .slice Y ny cy]) 39 Try.func85 rfl rfl rfl ref_NDivMod_ent ⟨id, id, trivial⟩ (fun w0 => ?_)
 refine tS ?_
 refine tR fun _ _ _ => ?_
 iterate 2 refine pV ?_
 refine tS ?_
 refine tR fun _ _ _ => ?_
 refine pV ?_
 refine eV (eCall1 rfl rfl rfl (ref_Trim X nx cx l hnx hlnx (by omega) hcx) ⟨rfl, trivial⟩ ?_)
 rintro _ _ ⟨B1, c1, rfl, rfl, hc1⟩
 refine pV ?_
 refine tS ?_
 refine tR fun _ _ _ => ?_
 refine pV ?_
 refine eV (eCallV rfl rfl rfl (ref_NBits X nx cx l hnx hlnx (by omega) hcx) ⟨rfl, trivial⟩ ?_)
 refine pV ?_
 refine eV (eCallV rfl rfl rfl (ref_NBits Y ny cy k hny hlny (by omega) hcy) ⟨rfl, trivial⟩ ?_)
 refine sV (rSub rfl rfl rfl (by omega) (by omega)) ?_
 refine pV ?_
 refine tS ?_
 refine tS ?_
 refine tR fun _ _ _ => ?_
 iterate 2 refine pV ?_
 refine tB ?_
 refine tr_nilW 105 ?_
 refine tr_loop8 (fun (i : Int) (B : Option Addr) (cb : Nat) (r : Nat) (D : Option Addr) (db : Nat) (q : Nat) (ql : List Int) => [(7, .int .i64 i), (5, .slice B (lmb r).length cb), (4, .slice D ql.length db), (1, .slice Y ny cy)]) (fun (i : Int) (B : Option Addr) (cb : Nat) (r : Nat) (D : Option Addr) (db : Nat) (q : Nat) (ql : List Int) => [ow D 105 db (w32 ql), ow B 105 cb (w32 (lmb r)), ro X (w32 l), ro Y (w32 k)]) (fun (i : Int) (B : Option Addr) (cb : Nat) (r : Nat) (D : Option Addr) (db : Nat) (q : Nat) (ql : List Int) => (-10000000 ≤ i ∧ i ≤ 10000000) ∧ (lmb r).length ≤ cb ∧ (lmb q).length ≤ db ∧ DivJ (vN l).toNat (vN k).toNat i r q ∧ ql = lmb q) (fun (i : Int) (B : Option Addr) (cb : Nat) (r : Nat) (D : Option Addr) (db : Nat) (q : Nat) (ql : List Int) => (i + 1).toNat) ((bitl (vN l).toNat : Int) - bitl (vN k).toNat) (B1) (c1) ((vN l).toNat) (none) (0) (0) ([]) ⟨rfl, rfl, rfl, rfl, trivial⟩ (by first | exact cs _ _ | exact CSub.refl _) (⟨⟨by have := bitl_len hBl; omega, by omega⟩, hc1, by rw [lmb_zero]; exact Nat.le_refl _, DivJ.start hB1, lmb_zero.symm⟩) (fun i B cb r D db q ql hI => ?_)
 obtain ⟨⟨hi0, hi1⟩, hcb, hdb, hJ, rfl⟩ := hI
 refine tS ?_
 refine tS ?_
 refine tR fun _ _ _ => ?_
 iterate 2 refine pV ?_
 refine tC rfl (fun h4 => ?_) (fun h4 => ?_)
 ·try simp only [zbA] at h4
  refine tK ?_
  refine tS ?_
  refine tB ?_
  refine tS ?_
  have hit : ((i.toNat : Nat) : Int) = i := by omega
  have hrl := Nat.le_trans (lmb_mono (hJ.le hB1).1) hAl
  have hql := Nat.le_trans (lmb_mono (hJ.le hB1).2) hAl
  have hsl := shl_len (n := i.toNat) hBl
  have hsl1 := shl_len (x := (vN [1]).toNat) (n := i.toNat) (k := 1) (lmb_len (by decide))
  refine tR fun _ _ _ => ?_
  iterate 2 refine pV ?_
  refine eV (eCall1 rfl rfl rfl (ref_NshlI Y ny cy k hny hlny (by omega) i (by omega) (by omega)) ⟨rfl, rfl, trivial⟩ ?_)
  rintro _ _ ⟨B6, c6, rfl, rfl, hc6⟩
  refine pV ?_
  refine tS ?_
  refine tR fun _ _ _ => ?_
  iterate 2 refine pV ?_
  refine eV (eCallV rfl rfl rfl (ref_NCmp B _ cb (lmb r) rfl (lmb_lm _) (by omega) B6 _ c6 (lmb ((vN k).toNat * 2 ^ i.toNat)) rfl (lmb_lm _) (by omega)) ⟨rfl, rfl, trivial⟩ ?_)
  refine pV ?_
  refine tC rfl (fun h7 => ?_) (fun h7 => ?_)
  ·try simp only [zbA] at h7
   refine tS ?_
   have hge : (vN k).toNat * 2 ^ i.toNat ≤ r := by
    have := cmpZ_ge.1 h7
    rw [vN_lmb, vN_lmb] at this; omega
   refine tR fun _ _ _ => ?_
   iterate 2 refine pV ?_
   refine eV (eCall1 rfl rfl rfl (ref_NSub B _ cb (lmb r) rfl (lmb_lm _) (by omega) B6 _ c6 (lmb ((vN k).toNat * 2 ^ i.toNat)) rfl (lmb_lm _) (by omega) (by rw [vN_lmb, vN_lmb]; omega)) ⟨rfl, rfl, trivial⟩ ?_)
   rintro _ _ ⟨B8, c8, rfl, rfl, hc8⟩
   refine pV ?_
   rw [show (vN (lmb r)).toNat - (vN (lmb ((vN k).toNat * 2 ^ i.toNat))).toNat = r - (vN k).toNat * 2 ^ i.toNat by rw [vN_lmb, vN_lmb]; rfl] at hc8 ⊢
   refine tR fun _ _ _ => ?_
   refine pV ?_
   refine eV (eLit1W rfl rfl rfl rfl (fun A9 => ?_))
   refine pV ?_
   refine eV (eCall1 rfl rfl rfl (ref_NshlI A9 1 1 [1] rfl (lm_one (by omega) (by omega)) (by omega) i (by omega) (by omega)) ⟨rfl, rfl, trivial⟩ ?_)
   rintro _ _ ⟨B9a, c9a, rfl, rfl, hc9a⟩
   refine eV (eCall1 rfl rfl rfl (ref_NAdd D _ db (lmb q) rfl (lmb_lm _) (by omega) B9a _ c9a (lmb ((vN [1]).toNat * 2 ^ i.toNat)) rfl (lmb_lm _) (by omega)) ⟨rfl, rfl, trivial⟩ ?_)
   rintro _ _ ⟨B9b, c9b, rfl, rfl, hc9b⟩
   refine pV ?_
   rw [show (vN (lmb q) + vN (lmb ((vN [1]).toNat * 2 ^ i.toNat))).toNat = q + 2 ^ i.toNat by rw [lmb_add, show (vN [1]).toNat = 1 from rfl, Nat.one_mul]] at hc9b ⊢
   refine tR fun _ _ _ => ?_
   refine pV ?_
   refine sV (rSub rfl rfl rfl (by omega) (by omega)) ?_
   refine pV ?_
   refine ⟨i - 1, B8, c8, r - (vN k).toNat * 2 ^ i.toNat, B9b, c9b, q + 2 ^ i.toNat, lmb (q + 2 ^ i.toNat), ⟨rfl, rfl, rfl, rfl, trivial⟩, by first | exact cs _ _ | exact CSub.refl _, ?_⟩
   exact ⟨⟨⟨by omega, by omega⟩, hc8, hc9b, hJ.sub (by omega) hge, rfl⟩, by omega⟩
  ·try simp only [zbA] at h7
   refine tK ?_
   refine tR fun _ _ _ => ?_
   refine pV ?_
   refine sV (rSub rfl rfl rfl (by omega) (by omega)) ?_
   refine pV ?_
   refine ⟨i - 1, B, cb, r, D, db, q, lmb q, ⟨rfl, rfl, rfl, rfl, trivial⟩, by first | exact cs _ _ | exact CSub.refl _, ?_⟩
   exact ⟨⟨⟨by omega, by omega⟩, hcb, hdb, hJ.skip (by omega) (fun hg => h7 (cmpZ_ge.2 (by rw [vN_lmb, vN_lmb]; omega))), rfl⟩, by omega⟩
 ·try simp only [zbA] at h4
  refine tE ?_
  refine tS ?_
  have hqr := hJ.done hB1 (by omega)
  have hql := Nat.le_trans (lmb_mono (hJ.le hB1).2) hAl
  refine tR fun _ _ _ => ?_
  refine pV ?_
  refine eV (eCall1 rfl rfl rfl (ref_Trim D _ db (lmb q) rfl (lmb_lm _) (by omega) hdb) ⟨rfl, trivial⟩ ?_)
  rintro _ _ ⟨B10, c10, rfl, rfl, hc10⟩
  iterate 3 refine pV ?_
  rw [vN_lmb, Int.toNat_natCast] at hc10 ⊢
  rw [hqr.1] at hc10 ⊢
  rw [hqr.2] at hcb ⊢
  exact tr_ret ⟨trivial, _, _, rfl, ⟨_, _, rfl, B10, c10, B, cb, rfl, rfl, rfl, hc10, hcb⟩, cs _ _, trivial, trivial, trivial⟩
end Go.Proofs.Ytbhoeaijpnjgdaa

namespace Go.Proofs.Ytbhoeaijpnjgdaa
open Po
def dsm (N : Nat → Nat) (n : Nat) : Nat → Nat
 | 0 => 0
 | j + 1 => dsm N n j + if n % (j + 1) = 0 then (j + 1) * N (j + 1) else 0
def nsm (N : Nat → Nat) (n : Nat) : Nat → Nat
 | 0 => 0
 | j + 1 => nsm N n j + if n % (j + 1) = 0 then N (j + 1) else 0
def IsCnt (q : Nat) (N : Nat → Nat) : Prop := ∀ k, 1 ≤ k → dsm N k k = q ^ k
theorem dsm_mono (N : Nat → Nat) (n : Nat) {i j : Nat} (h : i ≤ j) : dsm N n i ≤ dsm N n j := by
 induction h with
 | refl => exact Nat.le_refl _
 | step _ ih => exact Nat.le_trans ih (by rw [dsm]; omega)
theorem grp_deg (ds : List Nat) (h : ∀ d ∈ ds, 1 ≤ d) : ∀ j, ((ds.filter fun d => decide (d ≤ j)).sum = (((List.range j).map fun i => (i + 1) * (ds.filter fun d => decide (d = i + 1)).length)).sum) ∧ ((ds.filter fun d => decide (d ≤ j)).length = (((List.range j).map fun i => (ds.filter fun d => decide (d = i + 1)).length)).sum)
 | 0 => by
  have e : (ds.filter fun d => decide (d ≤ 0)) = [] := List.filter_eq_nil_iff.2 fun d hd => by have := h d hd; simp; omega
  rw [e]; exact ⟨rfl, rfl⟩
 | j + 1 => by
  obtain ⟨a, b⟩ := grp_deg ds h j
  have key : ∀ l : List Nat, (l.filter fun d => decide (d ≤ j + 1)).sum = (l.filter fun d => decide (d ≤ j)).sum + (j + 1) * (l.filter fun d => decide (d = j + 1)).length ∧ (l.filter fun d => decide (d ≤ j + 1)).length = (l.filter fun d => decide (d ≤ j)).length + (l.filter fun d => decide (d = j + 1)).length := fun l => by
   induction l with
   | nil => exact ⟨rfl, rfl⟩
   | cons x l ih =>
    obtain ⟨i1, i2⟩ := ih
    rcases Nat.lt_trichotomy x (j + 1) with g | g | g
    ·have e1 : decide (x ≤ j + 1) = true := by simp; omega
     have e2 : decide (x ≤ j) = true := by simp; omega
     have e3 : decide (x = j + 1) = false := by simp; omega
     simp only [List.filter_cons, e1, e2, e3, if_true, List.sum_cons, List.length_cons, i1, i2]
     constructor
     ·simp; omega
     ·simp; omega
    ·have e1 : decide (x ≤ j + 1) = true := by simp; omega
     have e2 : decide (x ≤ j) = false := by simp; omega
     have e3 : decide (x = j + 1) = true := by simp; omega
     simp only [List.filter_cons, e1, e2, e3, if_true, List.sum_cons, List.length_cons, i1, i2]
     constructor
     ·simp [Nat.mul_add]; omega
     ·simp; omega
    ·have e1 : decide (x ≤ j + 1) = false := by simp; omega
     have e2 : decide (x ≤ j) = false := by simp; omega
     have e3 : decide (x = j + 1) = false := by simp; omega
     simp only [List.filter_cons, e1, e2, e3, i1, i2]
     constructor
     ·simp; omega
     ·simp; omega
  rw [List.range_succ, List.map_append, List.map_append, List.sum_append_nat, List.sum_append_nat, ← a, ← b]
  have := key ds
  simpa using this
theorem dsm_range (N : Nat → Nat) (n : Nat) (g : Nat → Nat) (h : ∀ i, n % (i + 1) = 0 → g i = N (i + 1)) (h0 : ∀ i, n % (i + 1) ≠ 0 → g i = 0) : ∀ j, ((List.range j).map fun i => (i + 1) * g i).sum = dsm N n j ∧ ((List.range j).map fun i => g i).sum = nsm N n j
 | 0 => ⟨rfl, rfl⟩
 | j + 1 => by
  obtain ⟨a, b⟩ := dsm_range N n g h h0 j
  rw [List.range_succ, List.map_append, List.map_append, List.sum_append_nat, List.sum_append_nat, a, b, dsm, nsm]
  by_cases e : n % (j + 1) = 0
  ·rw [if_pos e, if_pos e]; simp [h j e]
  ·rw [if_neg e, if_neg e]; simp [h0 j e]
section
variable {p m : Int} {mod : List Int} [hF : IsF p m mod]
theorem xq_len {n : Nat} (hn : 1 ≤ n) : len (xq p m mod n) = (pw p m).toNat ^ n + 1 ∧ lead (xq p m mod n) = 1 := by
 have hq : 2 ≤ (pw p m).toNat := by have := hF.q2; omega
 have hk : 2 ≤ (pw p m).toNat ^ n := by
  have := Nat.pow_le_pow_right (show 0 < (pw p m).toNat by omega) hn
  rw [Nat.pow_one] at this; omega
 have h1 : cf (xq p m mod n) ((pw p m).toNat ^ n) = 1 := by
  unfold xq
  rw [cf_sub, pow_X, cf_mn, if_pos rfl]
  show 1 - cf (mn 1 1) _ = 1
  rw [cf_mn, if_neg (by omega), Rg.sub_zero]
 have h2 : len (xq p m mod n) = (pw p m).toNat ^ n + 1 := len_eq (fun j hj => by
  unfold xq
  rw [cf_sub, pow_X, cf_mn, if_neg (by omega)]
  show 0 - cf (mn 1 1) _ = 0
  rw [cf_mn, if_neg (by omega), Rg.sub_zero]) (by rw [h1]; exact Fd.one_ne)
 refine ⟨h2, ?_⟩
 rw [lead, h2]; exact h1
noncomputable def prodP : List (Po (El p m mod)) → Po (El p m mod)
 | [] => 1
 | f :: l => f * prodP l
theorem prodP_spec {l : List (Po (El p m mod))} (h : ∀ f ∈ l, lead f = 1 ∧ 1 ≤ len f) : lead (prodP l) = 1 ∧ len (prodP l) = (l.map fun f => len f - 1).sum + 1 := by
 induction l with
 | nil => exact ⟨by rw [prodP, lead, len_one]; rfl, len_one⟩
 | cons f l ih =>
  obtain ⟨a, b⟩ := ih fun g hg => h g (List.mem_cons_of_mem _ hg)
  obtain ⟨c, d⟩ := h f (List.mem_cons_self ..)
  have n1 := lead_one_ne c
  have n2 := lead_one_ne a
  refine ⟨by rw [prodP, lead_mul n1 n2, a, c, Rg.mul_one], ?_⟩
  rw [prodP, len_mul n1 n2, b, List.map_cons, List.sum_cons]; omega
theorem prodP_mu {l : List (Po (El p m mod))} (h : ∀ f ∈ l, Ir f ∧ lead f = 1) (hnd : l.Nodup) {P : Po (El p m mod)} (hP : Ir P) (hl : lead P = 1) : (P ∈ l → mu P (prodP l) = 1) ∧ (P ∉ l → mu P (prodP l) = 0) := by
 induction l with
 | nil => exact ⟨fun h => by simp at h, fun _ => mu_one hP⟩
 | cons f l ih =>
  obtain ⟨hn1, hn2⟩ := List.nodup_cons.1 hnd
  obtain ⟨a, b⟩ := ih (fun g hg => h g (List.mem_cons_of_mem _ hg)) hn2
  obtain ⟨c, d⟩ := h f (List.mem_cons_self ..)
  have n2 := lead_one_ne (prodP_spec (l := l) fun g hg => ⟨(h g (List.mem_cons_of_mem _ hg)).2, by have := (h g (List.mem_cons_of_mem _ hg)).1.two; omega⟩).1
  rw [prodP, mu_mul hP c.ne n2, mu_ir hP c hl d]
  constructor
  ·intro hm
   by_cases e : P = f
   ·rw [if_pos e, b (by rw [e]; exact hn1)]
   ·rw [if_neg e, a ((List.mem_cons.1 hm).resolve_left e)]
  ·intro hm
   rw [if_neg fun e => hm (by rw [e]; exact List.mem_cons_self ..), b fun g => hm (List.mem_cons_of_mem _ g)]
noncomputable def irD (p m : Int) (mod : List Int) [hF : IsF p m mod] (d : Nat) : List (Po (El p m mod)) := (pols (elA p m mod) (d + 1)).filter fun f => @decide (Ir f ∧ lead f = 1 ∧ len f = d + 1) (Classical.propDecidable _)
noncomputable def irN (p m : Int) (mod : List Int) [hF : IsF p m mod] (d : Nat) : Nat := (irD p m mod d).length
noncomputable def irL (p m : Int) (mod : List Int) [hF : IsF p m mod] (n : Nat) : List (Po (El p m mod)) := (pols (elA p m mod) (n + 1)).filter fun f => @decide (Ir f ∧ lead f = 1 ∧ (len f - 1) ∣ n) (Classical.propDecidable _)
theorem mem_irD {d : Nat} {f : Po (El p m mod)} : f ∈ irD p m mod d ↔ Ir f ∧ lead f = 1 ∧ len f = d + 1 := by
 rw [irD, List.mem_filter, mem_pols elA_fin]
 simp only [decide_eq_true_eq]
 exact ⟨fun h => h.2, fun h => ⟨fun j hj => cf_ge (by omega), h⟩⟩
theorem mem_irL {n : Nat} (hn : 1 ≤ n) {f : Po (El p m mod)} : f ∈ irL p m mod n ↔ Ir f ∧ lead f = 1 ∧ (len f - 1) ∣ n := by
 rw [irL, List.mem_filter, mem_pols elA_fin]
 simp only [decide_eq_true_eq]
 exact ⟨fun h => h.2, fun h => ⟨fun j hj => cf_ge (by have := Nat.le_of_dvd (by omega) h.2.2; omega), h⟩⟩
theorem irL_nodup (n : Nat) : (irL p m mod n).Nodup := (pols_nodup elA_fin _).filter _
theorem irD_nodup (n : Nat) : (irD p m mod n).Nodup := (pols_nodup elA_fin _).filter _
theorem irL_prod {n : Nat} (hn : 1 ≤ n) : prodP (irL p m mod n) = xq p m mod n := by
 have hm : ∀ f ∈ irL p m mod n, Ir f ∧ lead f = 1 := fun f hf => by
  obtain ⟨a, b, _⟩ := (mem_irL hn).1 hf
  exact ⟨a, b⟩
 have h1 := (prodP_spec (l := irL p m mod n) fun f hf => ⟨(hm f hf).2, by have := (hm f hf).1.two; omega⟩).1
 have h2 := (xq_len (p := p) (m := m) (mod := mod) hn).2
 have h0 := lead_one_ne h2
 refine eq_of_mu h1 h2 fun P hP hl => ?_
 obtain ⟨a, b⟩ := prodP_mu hm (irL_nodup n) hP hl
 have h3 := (sf_iff_mu h0).1 (xq_sf hn) P hP
 have h4 := dvd_iff_mu hP h0
 rw [xq_dvd hP] at h4
 by_cases e : P ∈ irL p m mod n
 ·rw [a e]
  have := h4.1 ((mem_irL hn).1 e).2.2
  omega
 ·rw [b e]
  have : ¬ 1 ≤ mu P (xq p m mod n) := fun g => e ((mem_irL hn).2 ⟨hP, hl, h4.2 g⟩)
  omega
theorem irL_deg (n j : Nat) (hn : 1 ≤ n) : ((((irL p m mod n).map fun f => len f - 1)).filter fun d => decide (d = j + 1)).length = if n % (j + 1) = 0 then irN p m mod (j + 1) else 0 := by
 rw [List.filter_map, List.length_map]
 by_cases e : n % (j + 1) = 0
 ·rw [if_pos e]
  refine List.Perm.length_eq ((List.perm_ext_iff_of_nodup ((irL_nodup n).filter _) (irD_nodup _)).2 fun f => ?_)
  rw [List.mem_filter, mem_irL hn, mem_irD]
  constructor
  ·rintro ⟨⟨a, b, c⟩, d⟩
   have d1 : len f - 1 = j + 1 := by simpa using d
   exact ⟨a, b, by omega⟩
  ·rintro ⟨a, b, c⟩
   have c1 : len f - 1 = j + 1 := by omega
   exact ⟨⟨a, b, by rw [c1]; exact Nat.dvd_of_mod_eq_zero e⟩, by simpa using c1⟩
 ·rw [if_neg e, List.length_eq_zero_iff, List.filter_eq_nil_iff]
  intro f hf hd
  have d1 : len f - 1 = j + 1 := by simpa using hd
  have := ((mem_irL hn).1 hf).2.2
  rw [d1] at this
  exact e (Nat.mod_eq_zero_of_dvd this)
theorem irL_sums (n : Nat) (hn : 1 ≤ n) : ((irL p m mod n).map fun f => len f - 1).sum = dsm (irN p m mod) n n ∧ (irL p m mod n).length = nsm (irN p m mod) n n := by
 have hds : ∀ d ∈ (irL p m mod n).map fun f => len f - 1, 1 ≤ d := fun d hd => by
  obtain ⟨f, hf, rfl⟩ := List.mem_map.1 hd
  have := ((mem_irL hn).1 hf).1.two; omega
 obtain ⟨a, b⟩ := grp_deg _ hds n
 have hall : (((irL p m mod n).map fun f => len f - 1).filter fun d => decide (d ≤ n)) = (irL p m mod n).map fun f => len f - 1 := List.filter_eq_self.2 fun d hd => by
  obtain ⟨f, hf, rfl⟩ := List.mem_map.1 hd
  exact decide_eq_true (Nat.le_of_dvd (by omega) ((mem_irL hn).1 hf).2.2)
 obtain ⟨c, d⟩ := dsm_range (irN p m mod) n (fun i => ((((irL p m mod n).map fun f => len f - 1)).filter fun d => decide (d = i + 1)).length) (fun i hi => by rw [irL_deg n i hn, if_pos hi]) (fun i hi => by rw [irL_deg n i hn, if_neg hi]) n
 rw [hall] at a b
 rw [List.length_map] at b
 exact ⟨a.trans c, b.trans d⟩
theorem irN_cnt : IsCnt (pw p m).toNat (irN p m mod) := fun n hn => by
 have h1 := (irL_sums (p := p) (m := m) (mod := mod) n hn).1
 have h2 := (prodP_spec (l := irL p m mod n) fun f hf => ⟨((mem_irL hn).1 hf).2.1, by have := ((mem_irL hn).1 hf).1.two; omega⟩).2
 rw [irL_prod hn, (xq_len hn).1] at h2
 omega
end
theorem cnt_div {q : Nat} {N : Nat → Nat} (h : IsCnt q N) {n : Nat} (hn : 1 ≤ n) : (q ^ n - dsm N n (n - 1)) / n = N n := by
 have h1 := h n hn
 obtain ⟨k, rfl⟩ : ∃ k, n = k + 1 := ⟨n - 1, by omega⟩
 rw [dsm, if_pos (Nat.mod_self _)] at h1
 rw [← h1, Nat.add_sub_cancel, Nat.add_sub_cancel_left, Nat.mul_div_cancel_left _ (by omega)]
theorem cnt_le {q : Nat} {N : Nat → Nat} (h : IsCnt q N) {n j : Nat} (hn : 1 ≤ n) (hj : j ≤ n) : dsm N n j ≤ q ^ n := by
 rw [← h n hn]; exact dsm_mono N n hj
theorem cnt_N {q : Nat} {N : Nat → Nat} (h : IsCnt q N) {n : Nat} (hn : 1 ≤ n) : n * N n ≤ q ^ n := by
 have h1 := h n hn
 obtain ⟨k, rfl⟩ : ∃ k, n = k + 1 := ⟨n - 1, by omega⟩
 rw [dsm, if_pos (Nat.mod_self _)] at h1
 omega
end Go.Proofs.Ytbhoeaijpnjgdaa

set_option maxRecDepth 100000
namespace Go.Proofs.Ytbhoeaijpnjgdaa
open Go.RowKit
theorem dsm_stepZ {N : Nat → Nat} {n d : Int} (hd : 1 ≤ d) (hn : d < n) : dsm N n.toNat d.toNat = dsm N n.toNat (d - 1).toNat + if n % d = 0 then d.toNat * N d.toNat else 0 := by
 obtain ⟨k, hk⟩ : ∃ k : Nat, d = (k : Int) + 1 := ⟨(d - 1).toNat, by omega⟩
 obtain ⟨j, hj⟩ : ∃ j : Nat, n = (j : Int) := ⟨n.toNat, by omega⟩
 subst hk hj
 rw [show ((k : Int) + 1 - 1).toNat = k by omega, show ((k : Int) + 1).toNat = k + 1 by omega, Int.toNat_natCast, dsm]
 have e : ((j : Int) % ((k : Int) + 1) = 0) ↔ (j % (k + 1) = 0) := by
  rw [show ((k : Int) + 1) = ((k + 1 : Nat) : Int) by omega, ← Int.natCast_emod]; omega
 by_cases h : j % (k + 1) = 0
 ·rw [if_pos h, if_pos (e.2 h)]
 ·rw [if_neg h, if_neg fun g => h (e.1 g)]
theorem ref_NPowI (X : Option Addr) (nx cx : Nat) (l : List Int) (hnx : nx = l.length) (hlnx : Lm l) (h9nx : nx ≤ 1000000) (hcx : nx ≤ cx) (n : Int) (hn0 : 0 ≤ n) (hn : n ≤ 256) (ha : vN l ≤ 256) : Pure Try.prog 34 #[.slice X nx cx, .int .i64 n] [ro X (w32 l)] (one (fun v ch => ∃ B c, v = .tuple #[.slice B (lmb ((vN l).toNat ^ n.toNat)).length c, .int .i64 0] ∧ ch = ow B 105 c (w32 (lmb ((vN l).toNat ^ n.toNat))) ∧ (lmb ((vN l).toNat ^ n.toNat)).length ≤ c)) := by
 have h := ref_NPow X nx cx l hnx hlnx h9nx hcx n.toNat (by omega) ha
 rwa [Int.toNat_of_nonneg hn0] at h
theorem ref_Count_step_ent : Enters Try.prog 29 := enters_of Try.func29 (by kernel_rfl) (by kernel_rfl)
theorem ref_Count_step (p m : Int) (A : Option Addr) (c : Nat) (mod : List Int) [hF : IsF p m mod] (N : Nat → Nat) (hN : IsCnt (pw p m).toNat N) (n : Int) (hn1 : 1 ≤ n) (hn9 : n ≤ 256) (ih : ∀ d : Int, 1 ≤ d → d < n → Pure Try.prog 29 #[.agg #[.int .i64 p, .int .i64 m, .slice A mod.length c], .int .i64 d] [ro A (ints mod)] (one (fun v ch => ∃ B c, v = .tuple #[.slice B (lmb (N d.toNat)).length c, .int .i64 0] ∧ ch = ow B 105 c (w32 (lmb (N d.toNat))) ∧ (lmb (N d.toNat)).length ≤ c))) :
  Pure Try.prog 29 #[.agg #[.int .i64 p, .int .i64 m, .slice A mod.length c], .int .i64 n] [ro A (ints mod)] (one (fun v ch => ∃ B c, v = .tuple #[.slice B (lmb (N n.toNat)).length c, .int .i64 0] ∧ ch = ow B 105 c (w32 (lmb (N n.toNat))) ∧ (lmb (N n.toNat)).length ≤ c)) := by
 have hor := hF.ord
 have hq2 := hF.q2
 have hq9 : pw p m ≤ 256 := by have := hF.out.1.1.q; omega
 have hpl := pow_len (a := (pw p m).toNat) (e := n.toNat) (by omega) (by omega)
 have hle : ∀ j, j ≤ n.toNat → dsm N n.toNat j ≤ (pw p m).toNat ^ n.toNat := fun j hj => cnt_le hN (by omega) hj
 have hcd := cnt_div hN (n := n.toNat) (by omega)
 have hnl := lmb_len (n := n.toNat) (k := 1) (by omega)
 have hql := lmb_len (n := (pw p m).toNat) (k := 1) (by omega)
 refine pure_of (args := [.agg #[.int .i64 p, .int .i64 m, .slice A mod.length c], .int .i64 n]) 59 Try.func29 rfl rfl rfl ref_Count_step_ent ⟨id, trivial⟩ (fun w0 => ?_)
 refine tS ?_
 refine tR fun _ _ _ => ?_
 refine eV (eBox rfl rfl rfl rfl rfl (fun p0 => ?_))
 iterate 2 refine pV ?_
 refine tS ?_
 refine tS ?_
 refine tR fun _ _ _ => ?_
 iterate 3 refine pV ?_
 refine stg rfl rfl rfl rfl rfl (fun hb => by (have hq := hb; try simp only [zbA] at hq); exact rMove rfl rfl) ?_
 refine stg rfl rfl rfl rfl rfl (fun hb => by (have hq := hb; try simp only [zbA] at hq); exact rGtr rfl (evg rfl hb) rfl) ?_
 refine sV (rOrB rfl rfl rfl rfl) ?_
 refine tC rfl (fun h1 => ?_) (fun h1 => ?_)
 ·try simp only [zbA] at h1
  first | omega | (simp at h1; omega) --done
 ·try simp only [zbA] at h1
  refine tK ?_
  refine tS ?_
  refine tR fun _ _ _ => ?_
  refine sV (rLdS rfl rfl rfl) ?_
  refine eV (eCallV rfl rfl rfl (ref_order p m A c mod) ⟨rfl, trivial⟩ ?_)
  rw [hor]
  refine sV (rConv rfl undI undU64 rfl (IntWalk.u64_in _ ⟨by omega, by omega⟩)) ?_
  refine eV (eCall1 rfl rfl rfl (ref_NOf (pw p m) (by omega) (by omega)) ⟨rfl, trivial⟩ ?_)
  rintro _ _ ⟨B3a, c3a, rfl, rfl, hc3a⟩
  refine pV ?_
  refine eV (eCall1 rfl rfl rfl (ref_NPowI B3a _ c3a (lmb (pw p m).toNat) rfl (lmb_lm _) (by omega) hc3a n (by omega) (by omega) (by rw [vN_lmb]; omega)) ⟨rfl, rfl, trivial⟩ ?_)
  rintro _ _ ⟨B3b, c3b, rfl, rfl, hc3b⟩
  iterate 5 refine pV ?_
  rw [vN_lmb, Int.toNat_natCast] at hc3b ⊢
  refine tS ?_
  refine tS ?_
  refine tR fun _ _ _ => ?_
  refine pV ?_
  refine tB ?_
  refine tr_loop4 (fun (d : Int) (B : Option Addr) (cb : Nat) (t : Nat) => [(8, .int .i64 d), (6, .slice B (lmb t).length cb), (1, .int .i64 n), (2, .pointer (some p0)), (4, .slice none 0 0), (5, .int .i64 0)]) (fun (d : Int) (B : Option Addr) (cb : Nat) (t : Nat) => [ow B 105 cb (w32 (lmb t)), blk p0 24 [.int .i64 p, .int .i64 m, .slice A mod.length c], ro A (ints mod)]) (fun (d : Int) (B : Option Addr) (cb : Nat) (t : Nat) => (1 ≤ d ∧ d ≤ n) ∧ (lmb t).length ≤ cb ∧ t = ((pw p m).toNat ^ n.toNat - dsm N n.toNat (d - 1).toNat)) (fun (d : Int) (B : Option Addr) (cb : Nat) (t : Nat) => (n - d).toNat) (1) (B3b) (c3b) ((pw p m).toNat ^ n.toNat) ⟨rfl, rfl, rfl, rfl, rfl, rfl, trivial⟩ (by first | exact cs _ _ | exact CSub.refl _) (⟨⟨by omega, by omega⟩, hc3b, by rw [show ((1 : Int) - 1).toNat = 0 from rfl, dsm, Nat.sub_zero]⟩) (fun d B cb t hI => ?_)
  obtain ⟨⟨hd0, hd1⟩, hcb, ht⟩ := hI
  refine tS ?_
  refine tS ?_
  refine tR fun _ _ _ => ?_
  iterate 3 refine pV ?_
  refine tC rfl (fun h5 => ?_) (fun h5 => ?_)
  ·try simp only [zbA] at h5
   refine tK ?_
   refine tS ?_
   refine tB ?_
   refine tS ?_
   refine tR fun _ _ _ => ?_
   iterate 2 refine pV ?_
   refine sV (rRem rfl rfl rfl (by omega) (by omega)) ?_
   refine pV ?_
   refine tC rfl (fun h7 => ?_) (fun h7 => ?_)
   ·try simp only [zbA] at h7
    refine tS ?_
    have hst := dsm_stepZ (N := N) (n := n) hd0 (by omega)
    have hl1 := hle d.toNat (by omega)
    have hdl := lmb_len (n := d.toNat) (k := 1) (by omega)
    refine tR fun _ _ _ => ?_
    refine sV (rLdS rfl rfl rfl) ?_
    refine pV ?_
    refine eV (eCall1 rfl rfl rfl (ih d (by omega) (by omega)) ⟨rfl, rfl, trivial⟩ ?_)
    rintro _ _ ⟨B8, c8, rfl, rfl, hc8⟩
    iterate 5 refine pV ?_
    rw [if_pos h7] at hst
    have htl : (lmb t).length ≤ 65 := Nat.le_trans (lmb_mono (by omega)) hpl
    have hN1 : N d.toNat ≤ d.toNat * N d.toNat := Nat.le_mul_of_pos_left _ (by omega)
    have hNl : (lmb (N d.toNat)).length ≤ 65 := Nat.le_trans (lmb_mono (by omega)) hpl
    have hml : (lmb (vN (lmb d.toNat) * vN (lmb (N d.toNat))).toNat).length ≤ 65 := by rw [lmb_mul]; exact Nat.le_trans (lmb_mono (by omega)) hpl
    refine tR fun _ _ _ => ?_
    iterate 2 refine pV ?_
    refine sV (rConv rfl undI undU64 rfl (IntWalk.u64_in _ ⟨by omega, by omega⟩)) ?_
    refine eV (eCall1 rfl rfl rfl (ref_NOf d (by omega) (by omega)) ⟨rfl, trivial⟩ ?_)
    rintro _ _ ⟨B9, c9, rfl, rfl, hc9⟩
    refine pV ?_
    refine eV (eCall1 rfl rfl rfl (ref_NMul B9 _ c9 (lmb d.toNat) rfl (lmb_lm _) (by omega) B8 _ c8 (lmb (N d.toNat)) rfl (lmb_lm _) (by omega)) ⟨rfl, rfl, trivial⟩ ?_)
    rintro _ _ ⟨B9a, c9a, rfl, rfl, hc9a⟩
    refine eV (eCall1 rfl rfl rfl (ref_NSub B _ cb (lmb t) rfl (lmb_lm _) (by omega) B9a _ c9a (lmb (vN (lmb d.toNat) * vN (lmb (N d.toNat))).toNat) rfl (lmb_lm _) (by omega) (by rw [lmb_mul, vN_lmb, vN_lmb]; omega)) ⟨rfl, rfl, trivial⟩ ?_)
    rintro _ _ ⟨B9b, c9b, rfl, rfl, hc9b⟩
    refine pV ?_
    rw [show (vN (lmb t)).toNat - (vN (lmb (vN (lmb d.toNat) * vN (lmb (N d.toNat))).toNat)).toNat = t - d.toNat * N d.toNat by rw [lmb_mul, vN_lmb, vN_lmb]; rfl] at hc9b ⊢
    refine tR fun _ _ _ => ?_
    refine pV ?_
    refine sV (rAdd rfl rfl rfl (by omega) (by omega)) ?_
    refine pV ?_
    refine ⟨d + 1, B9b, c9b, t - d.toNat * N d.toNat, ⟨rfl, rfl, rfl, rfl, rfl, rfl, trivial⟩, by first | exact cs _ _ | exact CSub.refl _, ?_⟩
    exact ⟨⟨⟨by omega, by omega⟩, hc9b, by rw [show (d + 1 - 1) = d by omega]; omega⟩, by omega⟩
   ·try simp only [zbA] at h7
    refine tK ?_
    refine tR fun _ _ _ => ?_
    refine pV ?_
    refine sV (rAdd rfl rfl rfl (by omega) (by omega)) ?_
    refine pV ?_
    refine ⟨d + 1, B, cb, t, ⟨rfl, rfl, rfl, rfl, rfl, rfl, trivial⟩, by first | exact cs _ _ | exact CSub.refl _, ?_⟩
    have hst := dsm_stepZ (N := N) (n := n) hd0 (by omega)
    rw [if_neg h7] at hst
    exact ⟨⟨⟨by omega, by omega⟩, hcb, by rw [show (d + 1 - 1) = d by omega]; omega⟩, by omega⟩
  ·try simp only [zbA] at h5
   refine tE ?_
   refine tS ?_
   have hdn : (d - 1).toNat = n.toNat - 1 := by omega
   rw [hdn] at ht
   have htl : (lmb t).length ≤ 65 := Nat.le_trans (lmb_mono (by omega)) hpl
   refine tR fun _ _ _ => ?_
   iterate 2 refine pV ?_
   refine sV (rConv rfl undI undU64 rfl (IntWalk.u64_in _ ⟨by omega, by omega⟩)) ?_
   refine eV (eCall1 rfl rfl rfl (ref_NOf n (by omega) (by omega)) ⟨rfl, trivial⟩ ?_)
   rintro _ _ ⟨B10, c10, rfl, rfl, hc10⟩
   refine eV (eCall2 rfl rfl rfl (ref_NDivMod B _ cb (lmb t) rfl (lmb_lm _) (by omega) hcb B10 _ c10 (lmb n.toNat) rfl (lmb_lm _) (by omega) hc10 (by rw [vN_lmb]; omega)) ⟨rfl, rfl, trivial⟩ ?_)
   rintro _ _ _ ⟨Bq, cq, Br, cr, rfl, rfl, rfl, hcq, hcr⟩
   iterate 5 refine pV ?_
   rw [show (vN (lmb t)).toNat / (vN (lmb n.toNat)).toNat = N n.toNat by rw [vN_lmb, vN_lmb, Int.toNat_natCast, Int.toNat_natCast, ht]; exact hcd] at hcq ⊢
   refine tS ?_
   refine tR fun _ _ _ => ?_
   iterate 3 refine pV ?_
   exact tr_ret ⟨trivial, _, _, rfl, ⟨_, rfl, Bq, cq, rfl, rfl, hcq⟩, cs _ _, trivial, trivial⟩
theorem ref_Count (p m : Int) (A : Option Addr) (c : Nat) (mod : List Int) [hF : IsF p m mod] (N : Nat → Nat) (hN : IsCnt (pw p m).toNat N) : ∀ (k : Nat) (n : Int), 1 ≤ n → n ≤ 256 → n ≤ k → Pure Try.prog 29 #[.agg #[.int .i64 p, .int .i64 m, .slice A mod.length c], .int .i64 n] [ro A (ints mod)] (one (fun v ch => ∃ B c, v = .tuple #[.slice B (lmb (N n.toNat)).length c, .int .i64 0] ∧ ch = ow B 105 c (w32 (lmb (N n.toNat))) ∧ (lmb (N n.toNat)).length ≤ c))
 | 0, n, h1, h9, hk => by omega
 | k + 1, n, h1, h9, hk => ref_Count_step p m A c mod N hN n h1 h9 fun d d1 d2 => ref_Count p m A c mod N hN k d d1 (by omega) (by omega)
end Go.Proofs.Ytbhoeaijpnjgdaa

namespace Go.Proofs.Ytbhoeaijpnjgdaa
open Go.RowKit
theorem u64_wrap (n : Int) : IntKind.u64.wrap n = n % 18446744073709551616 := by
 simp [IntKind.wrap, IntKind.bits, IntKind.signed]
theorem u32_wrap (n : Int) : IntKind.u32.wrap n = n % 4294967296 := by
 simp [IntKind.wrap, IntKind.bits, IntKind.signed]
section
variable {P : Program} {N : NB} {M : Nat → Prop} {w0 : World} {L : Fr} {F : List Chunk} {o : Oper} {x y : Operand} {t t' : TypeId}
theorem rConvW {k k' : IntKind} {n v : Int} (ho : o.op = .convert t t' x) {d : TypeDesc} (hd : P.underlying t = some d) (hu : P.underlying t' = some (.int k')) (hx : ev L x = some (.int k n)) (hw : k'.wrap n = v) : Stl P N M w0 o L F (.int k' v) := fun a w hl _ => by
 simp only [execOp, ho, hl.eval hx, Sem.run_bind]
 have : (convert t t' (.int k n)).run P w = .ok (.int k' v) w := by
  simp only [convert, Sem.run_bind, run_und hd, run_und hu, Result.andThen_ok]
  cases d <;> simp [Conv.intToInt, hw]
 rw [this]
 simp
theorem rShrU {k' : IntKind} {m s : Int} (ho : o.op = .binOp .shr t x y t') (hx : ev L x = some (.int .u64 m)) (hy : ev L y = some (.int k' s)) (h1 : 0 ≤ m ∧ m ≤ 18446744073709551615) (h3 : 0 ≤ s) (h4 : s < 64) : Stl P N M w0 o L F (.int .u64 (m / 2 ^ s.toNat)) :=
 stl_pure fun a hl => by
  have hb : IntKind.u64.bits = 64 := rfl
  have h6 : min s.toNat IntKind.u64.bits = s.toNat := by rw [hb]; omega
  have h7 : (0 : Int) ≤ 2 ^ s.toNat := Int.pow_nonneg (by omega)
  have h5 : m.fdiv (2 ^ s.toNat) = m / 2 ^ s.toNat := Int.fdiv_eq_ediv_of_nonneg _ h7
  have h8 : 0 ≤ m / 2 ^ s.toNat := Int.ediv_nonneg h1.1 h7
  have h9 : m / 2 ^ s.toNat ≤ m := Int.ediv_le_self _ h1.1
  have h10 := IntWalk.u64_in (m / 2 ^ s.toNat) ⟨h8, by omega⟩
  have hn : ¬ s < 0 := by omega
  simp only [execOp, ho, hl.eval hx, hl.eval hy, eqGuard, binOp, Op.shift, h6, h5, h10, hn]
  rfl
theorem rShr1 {k' : IntKind} {m : Int} (ho : o.op = .binOp .shr t x y t') (hx : ev L x = some (.int .i64 m)) (hy : ev L y = some (.int k' 1)) (h1 : 0 ≤ m ∧ m ≤ 9223372036854775807) : Stl P N M w0 o L F (.int .i64 (m / 2)) :=
 stl_pure fun a hl => by
  have h6 : min (1 : Int).toNat IntKind.i64.bits = 1 := rfl
  have h5 : m.fdiv (2 ^ 1) = m / 2 := Int.fdiv_eq_ediv_of_nonneg _ (by omega)
  have h10 := IntWalk.i64_in (m / 2) ⟨by omega, by omega⟩
  simp only [execOp, ho, hl.eval hx, hl.eval hy, eqGuard, binOp, Op.shift, h6, h5, h10]
  rfl
theorem rSubWU {m n : Int} (ho : o.op = .binOp .sub t x y t') (hx : ev L x = some (.int .u64 m)) (hy : ev L y = some (.int .u64 n)) : Stl P N M w0 o L F (.int .u64 ((m - n) % 18446744073709551616)) :=
 stl_pure fun a hl => by simp [execOp, ho, hl.eval hx, hl.eval hy, eqGuard, binOp, Op.intArith, u64_wrap]
theorem rOrU {m n : Int} (ho : o.op = .binOp .or t x y t') (hx : ev L x = some (.int .u64 (m * 4294967296))) (hy : ev L y = some (.int .u64 n)) (h1 : 0 ≤ m ∧ m < 4294967296) (h2 : 0 ≤ n ∧ n < 4294967296) : Stl P N M w0 o L F (.int .u64 (m * 4294967296 + n)) :=
 stl_pure fun a hl => by
  have h3 : (BitVec.ofInt IntKind.u64.bits (m * 4294967296) ||| BitVec.ofInt IntKind.u64.bits n).toNat = m.toNat * 4294967296 + n.toNat := by
   rw [BitVec.toNat_or, BitVec.toNat_ofInt, BitVec.toNat_ofInt]
   have e1 : (m * 4294967296 % ((2 ^ IntKind.u64.bits : Nat) : Int)).toNat = 2 ^ 32 * m.toNat := by
    rw [Int.emod_eq_of_lt (by omega) (by simp [IntKind.bits]; omega)]; omega
   have e2 : (n % ((2 ^ IntKind.u64.bits : Nat) : Int)).toNat = n.toNat := by
    rw [Int.emod_eq_of_lt h2.1 (by simp [IntKind.bits]; omega)]
   rw [e1, e2, ← Nat.two_pow_add_eq_or_of_lt (show n.toNat < 2 ^ 32 by omega)]
   omega
  have h4 : ((m.toNat * 4294967296 + n.toNat : Nat) : Int) = m * 4294967296 + n := by omega
  simp only [execOp, ho, hl.eval hx, hl.eval hy, eqGuard, binOp, Op.intBits, h3, h4, IntWalk.u64_in _ (show 0 ≤ m * 4294967296 + n ∧ m * 4294967296 + n ≤ 18446744073709551615 by omega)]
  rfl
theorem rAnd1 {m : Int} (ho : o.op = .binOp .and t x y t') (hx : ev L x = some (.int .i64 m)) (hy : ev L y = some (.int .i64 1)) (h1 : 0 ≤ m ∧ m ≤ 9223372036854775807) : Stl P N M w0 o L F (.int .i64 (m % 2)) :=
 stl_pure fun a hl => by
  have h3 : (BitVec.ofInt IntKind.i64.bits m &&& BitVec.ofInt IntKind.i64.bits 1).toNat = (m % 2).toNat := by
   rw [BitVec.toNat_and, BitVec.toNat_ofInt, BitVec.toNat_ofInt]
   have e1 : (m % ((2 ^ IntKind.i64.bits : Nat) : Int)).toNat = m.toNat := by
    rw [Int.emod_eq_of_lt h1.1 (by simp [IntKind.bits]; omega)]
   have e2 : ((1 : Int) % ((2 ^ IntKind.i64.bits : Nat) : Int)).toNat = 2 ^ 1 - 1 := by rfl
   rw [e1, e2, Nat.and_two_pow_sub_one_eq_mod]
   omega
  have h4 : (((m % 2).toNat : Nat) : Int) = m % 2 := Int.toNat_of_nonneg (by omega)
  simp only [execOp, ho, hl.eval hx, hl.eval hy, eqGuard, binOp, Op.intBits, h3, h4, IntWalk.i64_in (m % 2) ⟨by omega, by omega⟩]
  rfl
end
theorem ow_rx_take {e : TypeId} {B : Option Addr} {cap : Nat} {l : List Int} (k : Nat) (F : List Chunk) : CSub (ow B e cap (w32 l) :: F) (rx B (w32 (l.take k)) :: F) := by
 refine CSub.trans (ow_rx F) ?_
 have h := rx_cut (A := B) (vs := w32 (l.take k)) (ws := w32 (l.drop k)) F
 rwa [← w32_app, List.take_append_drop] at h
theorem short_len {l : List Int} (h : Lm l) {k : Nat} (hk : k ≤ l.length) (h0 : ∀ j, k ≤ j → l.getD j 0 = 0) (h1 : k = 0 ∨ l.getD (k - 1) 0 ≠ 0) : k = (lmb (vN l).toNat).length := by
 have := congrArg List.length (lmb_cut h hk h0 h1)
 rw [List.length_take, Nat.min_eq_left hk] at this
 exact this
theorem lmb_take {l : List Int} (h : Lm l) : l.take (lmb (vN l).toNat).length = lmb (vN l).toNat := by
 have key : ∃ k, k ≤ l.length ∧ (∀ j, k ≤ j → l.getD j 0 = 0) ∧ (k = 0 ∨ l.getD (k - 1) 0 ≠ 0) := by
  have : ∀ n, n ≤ l.length → (∀ j, n ≤ j → l.getD j 0 = 0) → ∃ k, k ≤ l.length ∧ (∀ j, k ≤ j → l.getD j 0 = 0) ∧ (k = 0 ∨ l.getD (k - 1) 0 ≠ 0) := fun n => by
   induction n with
   | zero => exact fun h1 h2 => ⟨0, h1, h2, .inl rfl⟩
   | succ n ih =>
    intro h1 h2
    by_cases e : l.getD n 0 = 0
    ·refine ih (by omega) fun j hj => ?_
     rcases Nat.lt_or_ge n j with g | g
     ·exact h2 j g
     ·rw [show j = n by omega]; exact e
    ·exact ⟨n + 1, h1, h2, .inr e⟩
  exact this l.length (Nat.le_refl _) fun j hj => getD_out hj
 obtain ⟨k, h1, h2, h3⟩ := key
 rw [← short_len h h1 h2 h3]
 exact lmb_cut h h1 h2 h3
theorem lmb_self (x : Nat) : lmb (vN (lmb x)).toNat = lmb x := by rw [vN_lmb]; rfl
end Go.Proofs.Ytbhoeaijpnjgdaa

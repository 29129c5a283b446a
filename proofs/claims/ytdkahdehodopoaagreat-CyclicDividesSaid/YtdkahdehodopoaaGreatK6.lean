/-
  CYCLICDIVIDES, PART 6 OF 10. One sentence: the texts behind the law CyclicDivides, put together.
  Conditions: each theorem's own, written out in it.
-/
import Derived.Scope
import Derived.Deep.SlicePairs
import Derived.Calls
import Derived.Sort.Grow
import Derived.Shelf.SlSortCmp.InsertionK
import Derived.Sort.OwnSorted
import Derived.Test.YtdkahdehodopoaaGreatShelfF
import Derived.Shelf.SlSortCmp.WholeK
import Derived.Shelf.SlSortCmp.NoneTotal
import Derived.Test.YtdkahdehodopoaaGreatK5
set_option linter.unusedSimpArgs false
set_option linter.unusedVariables false
set_option linter.unusedSectionVars false
namespace Go.Proofs.YtdkahdehodopoaaGreat
namespace Po
variable {K : Type} [Fd K]
structure Ir (P : Po K) : Prop where
 two : 2 ≤ len P
 irr : ∀ d, d ∣ P → len d = 1 ∨ len d = len P
theorem Ir.ne {P : Po K} (h : Ir P) : P ≠ 0 := len_pos_iff.1 (by have := h.two; omega)
theorem one_len_dvd {d : Po K} (h : len d = 1) (f : Po K) : d ∣ f := by
 have h1 := len_le_one (f := d) (by omega)
 have h2 : cf d 0 ≠ 0 := lead_ne (n := 0) h
 rw [h1]; exact C_dvd h2 f
theorem dvd_of_len {f g : Po K} (h : f ∣ g) (hg : g ≠ 0) (hl : len g ≤ len f) : g ∣ f := by
 obtain ⟨c, rfl⟩ := h
 have hf : f ≠ 0 := fun e => hg (by rw [e, Rg.zero_mul])
 have hc : c ≠ 0 := fun e => hg (by rw [e, Rg.mul_zero])
 have h1 := len_mul hf hc
 have h2 := len_pos hf
 have h3 := len_pos hc
 obtain ⟨e, he⟩ := one_len_dvd (show len c = 1 by omega) 1
 exact ⟨e, by rw [Rg.mul_assoc, ← he, Rg.mul_one]⟩
theorem monic_one {f : Po K} (h : lead f = 1) (hl : len f ≤ 1) : f = 1 := by
 have h1 : f ≠ 0 := fun e => by
  rw [e] at h
  exact Fd.one_ne (K := K) (by rw [← h]; rfl)
 have h2 : len f = 1 := by have := len_pos h1; omega
 rw [len_le_one hl]
 unfold lead at h
 rw [h2] at h
 rw [h, C_one]
theorem gcd_one_of {f g : Po K} (hf : f ≠ 0) (hl : len (gcd f g) ≤ 1) : gcd f g = 1 := monic_one (gcd_monic (.inl hf)) hl
theorem Ir.gcd {P : Po K} (h : Ir P) (f : Po K) : Po.gcd P f = 1 ∨ P ∣ f := by
 have hg := gcd_is P f
 rcases h.irr _ hg.left with h1 | h1
 ·exact .inl (gcd_one_of h.ne (by omega))
 ·exact .inr (dvd_trans (dvd_of_len hg.left h.ne (by omega)) hg.right)
theorem cop_dvd {a b c : Po K} (h : Po.gcd a b = 1) (hd : a ∣ b * c) : a ∣ c := by
 obtain ⟨u, v, e⟩ := (gcd_is a b).bez
 rw [h] at e
 have : c = u * a * c + v * (b * c) := by
  have h2 : c = (u * a + v * b) * c := by rw [e, Rg.one_mul]
  rw [h2]; grind
 rw [this]
 exact dvd_add ⟨u * c, by grind⟩ (dvd_mul_ofL hd v)
theorem cop_mul {a b c : Po K} (h : Po.gcd a b = 1) (h1 : a ∣ c) (h2 : b ∣ c) : a * b ∣ c := by
 obtain ⟨e, rfl⟩ := h2
 obtain ⟨d, rfl⟩ := cop_dvd h h1
 exact ⟨d, by grind⟩
theorem Ir.prime {P f g : Po K} (h : Ir P) (hd : P ∣ f * g) : P ∣ f ∨ P ∣ g := by
 rcases h.gcd f with h1 | h1
 ·exact .inr (cop_dvd h1 hd)
 ·exact .inl h1
theorem Ir.not_one {P f : Po K} (h : Ir P) (hl : len f = 1) : ¬ P ∣ f := fun hd => by
 have := dvd_len hd (len_pos_iff.1 (by omega))
 have := h.two
 omega
theorem Ir.assoc {P Q : Po K} (hP : Ir P) (hQ : Ir Q) (hd : P ∣ Q) : Q ∣ P := by
 rcases hQ.irr P hd with h | h
 ·have := hP.two; omega
 ·exact dvd_of_len hd hQ.ne (by omega)
theorem Ir.one {P Q : Po K} (hP : Ir P) (hQ : Ir Q) (h1 : lead P = 1) (h2 : lead Q = 1) (hd : P ∣ Q) : P = Q := monic_eq hd (hP.assoc hQ hd) h1 h2
theorem Ir.mon {P : Po K} (h : Ir P) : Ir (mon P) ∧ lead (mon P) = 1 := by
 refine ⟨⟨by rw [mon_len]; exact h.two, fun d hd => ?_⟩, mon_lead h.ne⟩
 rw [mon_len]; exact h.irr d (dvd_trans hd (mon_dvd P))
theorem ir_ex {f : Po K} (h : 2 ≤ len f) : ∃ P, Ir P ∧ lead P = 1 ∧ P ∣ f := by
 have hf : f ≠ 0 := len_pos_iff.1 (by omega)
 obtain ⟨n, ⟨P, hP, hl, hd⟩, hmin⟩ := nat_least (P := fun n => ∃ P : Po K, 2 ≤ len P ∧ len P = n ∧ P ∣ f) ⟨_, f, h, rfl, dvd_refl f⟩
 have hP0 : P ≠ 0 := len_pos_iff.1 (by omega)
 have hI : Ir P := ⟨hP, fun d hdP => by
  have hd0 : d ≠ 0 := fun e => hP0 (zero_dvd (e ▸ hdP))
  have h1 := dvd_len hdP hP0
  have h2 := len_pos hd0
  by_cases h3 : len d = 1
  ·exact .inl h3
  ·by_cases h4 : len d = len P
   ·exact .inr h4
   ·exact absurd ⟨d, by omega, rfl, dvd_trans hdP hd⟩ (hmin (len d) (by omega))⟩
 exact ⟨_, hI.mon.1, hI.mon.2, dvd_trans (mon_dvd P) hd⟩
theorem ir_of_no {f : Po K} (h : 2 ≤ len f) (hno : ∀ P, Ir P → P ∣ f → len P = len f) : Ir f := by
 obtain ⟨P, hP, _, hd⟩ := ir_ex h
 have h1 := hno P hP hd
 have hf : f ≠ 0 := len_pos_iff.1 (by omega)
 have h2 := dvd_of_len hd hf (by omega)
 exact ⟨h, fun d hdf => by
  have := hP.irr d (dvd_trans hdf h2)
  omega⟩
theorem pow_ne0 {f : Po K} (h : f ≠ 0) : ∀ n, Rg.pow f n ≠ 0
 | 0 => one_ne
 | n + 1 => mul_ne (pow_ne0 h n) h
theorem pow_dvd (f : Po K) {m n : Nat} (h : m ≤ n) : Rg.pow f m ∣ Rg.pow f n := by
 obtain ⟨k, rfl⟩ := Nat.le.dest h
 exact ⟨Rg.pow f k, Rg.pow_add f m k⟩
theorem dvd_pow_pos (f : Po K) {n : Nat} (h : 1 ≤ n) : f ∣ Rg.pow f n := by
 have := pow_dvd f h
 rwa [Rg.pow_one] at this
theorem mul_dvd_mul {f g : Po K} (h : f ∣ g) (k : Po K) : k * f ∣ k * g := by
 obtain ⟨c, rfl⟩ := h; exact ⟨c, by grind⟩
theorem mul_dvd_cancel {f g k : Po K} (hk : k ≠ 0) (h : k * f ∣ k * g) : f ∣ g := by
 obtain ⟨c, e⟩ := h
 exact ⟨c, mul_cancel hk (by rw [e]; grind)⟩
theorem dvd_mul2 {a b c d : Po K} (h : a ∣ b) (k : c ∣ d) : a * c ∣ b * d := by
 obtain ⟨x, rfl⟩ := h; obtain ⟨y, rfl⟩ := k; exact ⟨x * y, by grind⟩
theorem len_pow_ge {f : Po K} (h : 2 ≤ len f) : ∀ n, n < len (Rg.pow f n)
 | 0 => by rw [Rg.pow_zero, len_one]; omega
 | n + 1 => by
  have h0 : f ≠ 0 := len_pos_iff.1 (by omega)
  have := len_pow_ge h n
  rw [Rg.pow_succ, len_mul (pow_ne0 h0 n) h0]; omega
theorem Ir.pow_cop {P f : Po K} (h : Ir P) (hn : ¬ P ∣ f) : ∀ n g, Rg.pow P n ∣ f * g → Rg.pow P n ∣ g
 | 0, g, _ => one_dvd g
 | n + 1, g, hd => by
  have h1 := h.pow_cop hn n g (dvd_trans (pow_dvd P (Nat.le_succ n)) hd)
  obtain ⟨e, rfl⟩ := h1
  rw [Rg.pow_succ] at hd ⊢
  have h2 : Rg.pow P n * P ∣ Rg.pow P n * (f * e) := by
   rw [show Rg.pow P n * (f * e) = f * (Rg.pow P n * e) by grind]; exact hd
  have h3 := mul_dvd_cancel (pow_ne0 h.ne n) h2
  exact mul_dvd_mul (h.prime h3 |>.resolve_left hn) _
theorem dvd_of_pows : ∀ (n : Nat) (f g : Po K), len f ≤ n → f ≠ 0 → (∀ P k, Ir P → lead P = 1 → Rg.pow P k ∣ f → Rg.pow P k ∣ g) → f ∣ g
 | 0, f, g, hn, hf, _ => absurd (eq_zero_of_len (by omega)) hf
 | n + 1, f, g, hn, hf, h => by
  by_cases h2 : len f < 2
  ·have := len_pos hf
   exact one_len_dvd (by omega) g
  ·obtain ⟨P, hP, hl, hd⟩ := ir_ex (f := f) (by omega)
   have hPg : P ∣ g := by
    have := h P 1 hP hl (by rw [Rg.pow_one]; exact hd)
    rwa [Rg.pow_one] at this
   obtain ⟨f', rfl⟩ := hd
   obtain ⟨g', rfl⟩ := hPg
   have hf' : f' ≠ 0 := fun e => hf (by rw [e, Rg.mul_zero])
   have hlen := len_mul hP.ne hf'
   have := hP.two
   refine mul_dvd_mul (dvd_of_pows n f' g' (by omega) hf' fun Q k hQ hlQ hd => ?_) P
   by_cases e : P = Q
   ·subst e
    have h1 := h P (k + 1) hP hl (by rw [Rg.pow_succ, Rg.mul_comm]; exact mul_dvd_mul hd P)
    rw [Rg.pow_succ, Rg.mul_comm] at h1
    exact mul_dvd_cancel hP.ne h1
   ·have h1 := h Q k hQ hlQ (dvd_mul_ofL hd P)
    exact hQ.pow_cop (fun hd' => e (hQ.one hP hlQ hl hd').symm) k g' h1
def Sf (f : Po K) : Prop := ∀ P, Ir P → ¬ P * P ∣ f
theorem Sf.of_dvd {f g : Po K} (h : Sf g) (hd : f ∣ g) : Sf f := fun P hP hPP => h P hP (dvd_trans hPP hd)
theorem Sf.dvd {f g : Po K} (h : Sf f) (hf : f ≠ 0) (hi : ∀ P, Ir P → lead P = 1 → P ∣ f → P ∣ g) : f ∣ g :=
 dvd_of_pows _ f g (Nat.le_refl _) hf fun P k hP hl hd => by
  match k with
  | 0 => exact one_dvd g
  | 1 => rw [Rg.pow_one] at hd ⊢; exact hi P hP hl hd
  | k + 2 =>
   have h2 : Rg.pow P 2 = P * P := by rw [Rg.pow_succ, Rg.pow_one]
   exact absurd (dvd_trans (h2 ▸ pow_dvd P (show 2 ≤ k + 2 by omega)) hd) (h P hP)
theorem Sf.eq {f g : Po K} (hf : Sf f) (hg : Sf g) (h1 : lead f = 1) (h2 : lead g = 1) (f0 : f ≠ 0) (g0 : g ≠ 0) (hi : ∀ P, Ir P → lead P = 1 → (P ∣ f ↔ P ∣ g)) : f = g :=
 monic_eq (hf.dvd f0 fun P hP hl hd => (hi P hP hl).1 hd) (hg.dvd g0 fun P hP hl hd => (hi P hP hl).2 hd) h1 h2
theorem Sf.mul {f g : Po K} (hf : Sf f) (hg : Sf g) (hc : ∀ P, Ir P → P ∣ f → ¬ P ∣ g) : Sf (f * g) := fun P hP hd => by
 have h1 : P ∣ f * g := dvd_trans ⟨P, rfl⟩ hd
 rw [show P * P = Rg.pow P 2 by rw [Rg.pow_succ, Rg.pow_one]] at hd
 have e2 : Rg.pow P 2 = P * P := by rw [Rg.pow_succ, Rg.pow_one]
 by_cases hPf : P ∣ f
 ·have := hP.pow_cop (hc P hP hPf) 2 f (by rw [Rg.mul_comm]; exact hd)
  rw [e2] at this
  exact hf P hP this
 ·have := hP.pow_cop hPf 2 g hd
  rw [e2] at this
  exact hg P hP this
end Po
end Go.Proofs.YtdkahdehodopoaaGreat

namespace Go.Proofs.YtdkahdehodopoaaGreat
def bin : Nat → Nat → Nat
 | _, 0 => 1
 | 0, _ + 1 => 0
 | n + 1, k + 1 => bin n k + bin n (k + 1)
theorem bin_zero (n : Nat) : bin n 0 = 1 := by cases n <;> rfl
theorem bin_gt : ∀ n k, n < k → bin n k = 0
 | 0, k + 1, _ => rfl
 | n + 1, k + 1, h => by rw [bin, bin_gt n k (by omega), bin_gt n (k + 1) (by omega)]
theorem bin_self : ∀ n, bin n n = 1
 | 0 => rfl
 | n + 1 => by rw [bin, bin_self n, bin_gt n (n + 1) (by omega)]
theorem bin_abs : ∀ n k, (k + 1) * bin (n + 1) (k + 1) = (n + 1) * bin n k
 | 0, 0 => rfl
 | 0, k + 1 => by rw [bin_gt (0 + 1) (k + 1 + 1) (by omega), bin_gt 0 (k + 1) (by omega), Nat.mul_zero, Nat.mul_zero]
 | n + 1, 0 => by
  have ih := bin_abs n 0
  have e : bin (n + 1 + 1) (0 + 1) = bin (n + 1) 0 + bin (n + 1) (0 + 1) := rfl
  rw [e, bin_zero]
  rw [bin_zero] at ih
  omega
 | n + 1, k + 1 => by
  have h1 := bin_abs n k
  have h2 := bin_abs n (k + 1)
  rw [bin, Nat.mul_add, h2]
  have e : bin (n + 1) (k + 1) = bin n k + bin n (k + 1) := rfl
  have h3 : (k + 1 + 1) * bin (n + 1) (k + 1) = (n + 1) * bin n k + bin (n + 1) (k + 1) := by rw [Nat.add_mul (k + 1) 1, h1, Nat.one_mul]
  rw [h3, e, Nat.add_mul (n + 1) 1, Nat.one_mul, Nat.mul_add]
  omega
end Go.Proofs.YtdkahdehodopoaaGreat

namespace Go.Proofs.YtdkahdehodopoaaGreat
theorem prime_dvd {p : Nat} (hp : 2 ≤ p) (hd : ∀ d, 2 ≤ d → d < p → ¬ d ∣ p) {a b : Nat} (ha : 0 < a) (hap : a < p) (h : p ∣ a * b) : p ∣ b := by
 have hg : Nat.gcd p a = 1 := by
  have h1 : Nat.gcd p a ∣ p := Nat.gcd_dvd_left p a
  have h2 : Nat.gcd p a ≤ a := Nat.gcd_le_right p ha
  have h3 : 0 < Nat.gcd p a := Nat.gcd_pos_of_pos_right p ha
  refine Classical.byContradiction fun hne => hd _ (by omega) (by omega) h1
 exact (Nat.Coprime.dvd_of_dvd_mul_left hg h)
theorem bin_prime {p : Nat} (hp : 2 ≤ p) (hd : ∀ d, 2 ≤ d → d < p → ¬ d ∣ p) {k : Nat} (h0 : 0 < k) (hk : k < p) : p ∣ bin p k := by
 obtain ⟨n, rfl⟩ : ∃ n, p = n + 1 := ⟨p - 1, by omega⟩
 obtain ⟨j, rfl⟩ : ∃ j, k = j + 1 := ⟨k - 1, by omega⟩
 exact prime_dvd hp hd (a := j + 1) (by omega) hk ⟨bin n j, bin_abs n j⟩
section
variable {R : Type} [Rg R]
theorem nc_mul' (a : Nat) : ∀ b : Nat, (Rg.nc (a * b) : R) = Rg.nc a * Rg.nc b
 | 0 => by rw [Nat.mul_zero]; exact (Rg.mul_zero (Rg.nc a : R)).symm
 | b + 1 => by rw [Nat.mul_succ, nc_add, Rg.nc_succ, nc_mul' a b, Rg.mul_add, Rg.mul_one]
theorem nc_dvd {p n : Nat} (h : (Rg.nc p : R) = 0) (hd : p ∣ n) : (Rg.nc n : R) = 0 := by
 obtain ⟨c, rfl⟩ := hd
 rw [nc_mul', h, Rg.zero_mul]
theorem nc_one' : (Rg.nc 1 : R) = 1 := rfl
def binT (x y : R) (n k : Nat) : R := Rg.nc (bin n k) * (Rg.pow x k * Rg.pow y (n - k))
theorem binom (x y : R) : ∀ n, Rg.pow (x + y) n = Rg.sm (n + 1) (binT x y n)
 | 0 => by
  rw [Rg.sm_succ, Rg.sm_zero, Rg.zero_add]
  show (1 : R) = 1 * (1 * 1)
  rw [Rg.one_mul, Rg.one_mul]
 | n + 1 => by
  rw [Rg.pow_succ, binom x y n, Rg.mul_add, Rg.sm_left (binT x y (n + 1))]
  have e1 : ∀ k, k < n + 1 → binT x y (n + 1) (k + 1) = binT x y n k * x + Rg.nc (bin n (k + 1)) * (Rg.pow x (k + 1) * Rg.pow y (n - k)) := fun k hk => by
   unfold binT
   rw [bin, nc_add, show n + 1 - (k + 1) = n - k by omega, Rg.pow_succ]
   grind
  rw [Rg.sm_congr e1, Rg.sm_add, Rg.sm_mulR]
  have e2 : Rg.sm (n + 1) (fun k => Rg.nc (bin n (k + 1)) * (Rg.pow x (k + 1) * Rg.pow y (n - k))) = Rg.sm n (fun k => binT x y n (k + 1) * y) := by
   rw [Rg.sm_succ, bin_gt n (n + 1) (by omega)]
   have hz : (Rg.nc 0 : R) = 0 := rfl
   rw [hz, Rg.zero_mul, Rg.add_zero]
   exact Rg.sm_congr fun k hk => by
    unfold binT
    have : Rg.pow y (n - k) = Rg.pow y (n - (k + 1)) * y := by rw [← Rg.pow_succ, show n - (k + 1) + 1 = n - k by omega]
    rw [this]; grind
  have e3 : binT x y (n + 1) 0 = binT x y n 0 * y := by
   unfold binT
   rw [bin_zero, bin_zero, Nat.sub_zero, Nat.sub_zero, Rg.pow_succ]; grind
  rw [e2, Rg.sm_mulR, e3, Rg.sm_left (binT x y n)]
  grind
theorem frobR {p : Nat} (hp : 2 ≤ p) (hd : ∀ d, 2 ≤ d → d < p → ¬ d ∣ p) (h0 : (Rg.nc p : R) = 0) (x y : R) : Rg.pow (x + y) p = Rg.pow x p + Rg.pow y p := by
 rw [binom, Rg.sm_succ]
 obtain ⟨n, rfl⟩ : ∃ n, p = n + 1 := ⟨p - 1, by omega⟩
 have h1 : Rg.sm (n + 1) (binT x y (n + 1)) = binT x y (n + 1) 0 := Rg.sm_one (k := 0) (by omega) fun i hi hne => by
  unfold binT
  rw [nc_dvd h0 (bin_prime hp hd (by omega) hi), Rg.zero_mul]
 rw [h1]
 unfold binT
 rw [bin_zero, bin_self, Nat.sub_self, Nat.sub_zero, nc_one', Rg.pow_zero, Rg.pow_zero, Rg.one_mul, Rg.one_mul, Rg.one_mul, Rg.mul_one, Rg.add_comm]
theorem frobRk {p : Nat} (hp : 2 ≤ p) (hd : ∀ d, 2 ≤ d → d < p → ¬ d ∣ p) (h0 : (Rg.nc p : R) = 0) (x y : R) : ∀ k, Rg.pow (x + y) (p ^ k) = Rg.pow x (p ^ k) + Rg.pow y (p ^ k)
 | 0 => by rw [Nat.pow_zero, Rg.pow_one, Rg.pow_one, Rg.pow_one]
 | k + 1 => by rw [Nat.pow_succ, Rg.pow_mul, Rg.pow_mul, Rg.pow_mul, frobRk hp hd h0 x y k, frobR hp hd h0]
end
section
variable {K : Type} [Fd K]
theorem nc_po (n : Nat) : (Rg.nc n : Po K) = Po.C (Rg.nc n) := by
 induction n with
 | zero => exact Po.C_zero.symm
 | succ n ih =>
  rw [Rg.nc_succ, Rg.nc_succ, ih]
  have : (1 : Po K) = Po.C 1 := Po.C_one.symm
  rw [this]; exact Po.mn_add _ _ 0
end
section
variable {p m : Int} {mod : List Int} [hF : IsF p m mod]
theorem nc_char : (Rg.nc p.toNat : El p m mod) = 0 := El.ext (by
 have hp := hF.out.1.1.p2
 rw [nc_val, Int.toNat_of_nonneg (by omega), Int.emod_self]; rfl)
theorem p_prime {p m : Int} {mod : List Int} (hF : IsF p m mod) : ∀ d, 2 ≤ d → d < p.toNat → ¬ d ∣ p.toNat := fun d h1 h2 hd => by
 have hp := hF.out.1.2
 have := hp.2 d (by omega) (by omega)
 apply this
 have h3 : ((d : Nat) : Int) ∣ (p.toNat : Int) := Int.natCast_dvd_natCast.2 hd
 rw [Int.toNat_of_nonneg (by omega)] at h3
 exact Int.emod_eq_zero_of_dvd h3
theorem nc_charP : (Rg.nc p.toNat : Po (El p m mod)) = 0 := by rw [nc_po, nc_char, Po.C_zero]
end
end Go.Proofs.YtdkahdehodopoaaGreat

namespace Go.Proofs.YtdkahdehodopoaaGreat
open Po
section
variable {K : Type} [Fd K]
class IrC (P : Po K) : Prop where
 out : Ir P
def Qt (P : Po K) : Type := { f : Po K // len f < len P }
namespace Qt
variable {P : Po K} [hP : IrC P]
noncomputable def mk (P : Po K) [hP : IrC P] (f : Po K) : Qt P := ⟨rem f P, rem_len f hP.out.ne⟩
theorem mk_eq {f g : Po K} : mk P f = mk P g ↔ P ∣ f - g :=
 ⟨fun h => (rem_eq_iff hP.out.ne).1 (congrArg Subtype.val h), fun h => Subtype.ext ((rem_eq_iff hP.out.ne).2 h)⟩
theorem mk_val (a : Qt P) : mk P a.1 = a := Subtype.ext (rem_small a.2)
noncomputable instance : Add (Qt P) := ⟨fun a b => mk P (a.1 + b.1)⟩
noncomputable instance : Mul (Qt P) := ⟨fun a b => mk P (a.1 * b.1)⟩
noncomputable instance : Neg (Qt P) := ⟨fun a => mk P (-a.1)⟩
noncomputable instance : Zero (Qt P) := ⟨mk P 0⟩
noncomputable instance : One (Qt P) := ⟨mk P 1⟩
theorem rem_dvd (f : Po K) : P ∣ f - (mk P f).1 := rem_sub_dvd f hP.out.ne
theorem mk_add (f g : Po K) : mk P f + mk P g = mk P (f + g) := mk_eq.2 (by
 obtain ⟨a, ha⟩ := rem_dvd (P := P) f
 obtain ⟨b, hb⟩ := rem_dvd (P := P) g
 exact ⟨-(a + b), by grind⟩)
theorem mk_mul (f g : Po K) : mk P f * mk P g = mk P (f * g) := mk_eq.2 (by
 obtain ⟨a, ha⟩ := rem_dvd (P := P) f
 obtain ⟨b, hb⟩ := rem_dvd (P := P) g
 exact ⟨-(a * g + (mk P f).1 * b), by grind⟩)
theorem mk_neg (f : Po K) : -mk P f = mk P (-f) := mk_eq.2 (by
 obtain ⟨a, ha⟩ := rem_dvd (P := P) f
 exact ⟨a, by grind⟩)
noncomputable instance : Rg (Qt P) where
 add_assoc a b c := by rw [← mk_val a, ← mk_val b, ← mk_val c, mk_add, mk_add, mk_add, mk_add, Rg.add_assoc]
 add_comm a b := by rw [← mk_val a, ← mk_val b, mk_add, mk_add, Rg.add_comm]
 zero_add a := by
  rw [← mk_val a]
  show mk P 0 + _ = _
  rw [mk_add, Rg.zero_add]
 neg_add a := by
  rw [← mk_val a, mk_neg, mk_add, Rg.neg_add]; rfl
 mul_assoc a b c := by rw [← mk_val a, ← mk_val b, ← mk_val c, mk_mul, mk_mul, mk_mul, mk_mul, Rg.mul_assoc]
 mul_comm a b := by rw [← mk_val a, ← mk_val b, mk_mul, mk_mul, Rg.mul_comm]
 one_mul a := by
  rw [← mk_val a]
  show mk P 1 * _ = _
  rw [mk_mul, Rg.one_mul]
 add_mul a b c := by rw [← mk_val a, ← mk_val b, ← mk_val c, mk_mul, mk_mul, mk_add, mk_add, mk_mul, Rg.add_mul]
theorem mk_zero : mk P 0 = 0 := rfl
theorem mk_one : mk P 1 = 1 := rfl
theorem mk_zero_iff {f : Po K} : mk P f = 0 ↔ P ∣ f := by
 rw [← mk_zero, mk_eq, Rg.sub_zero]
theorem mk_pow (f : Po K) : ∀ n, Rg.pow (mk P f) n = mk P (Rg.pow f n)
 | 0 => rfl
 | n + 1 => by rw [Rg.pow_succ, Rg.pow_succ, mk_pow f n, mk_mul]
theorem inv_ex (a : Qt P) (h : a ≠ 0) : ∃ b : Qt P, b * a = 1 := by
 rw [← mk_val a] at h ⊢
 have h1 : ¬ P ∣ a.1 := fun e => h (mk_zero_iff.2 e)
 have hg := (hP.out.gcd a.1).resolve_right h1
 obtain ⟨u, v, e⟩ := (gcd_is P a.1).bez
 refine ⟨mk P v, ?_⟩
 rw [mk_mul, ← mk_one, mk_eq]
 rw [hg] at e
 exact ⟨-u, by rw [← e]; grind⟩
open Classical in
noncomputable instance : Fd (Qt P) where
 inv a := if h : ∃ b : Qt P, b * a = 1 then Classical.choose h else 0
 inv_mul a h := by
  have he := inv_ex a h
  rw [dif_pos he]; exact Classical.choose_spec he
 one_ne e := by
  have : P ∣ 1 := mk_zero_iff.1 (e : mk P 1 = 0)
  exact hP.out.not_one len_one this
noncomputable instance : DecidableEq (Qt P) := Classical.typeDecidableEq _
theorem val_sub_X (n : Nat) (y : Qt P) : Po.val (mn 1 n - X : Po (Qt P)) y = Rg.pow y n - y := by rw [val_sub, val_mn, val_X, Rg.one_mul]
end Qt
structure FinL (al : List K) : Prop where
 nd : al.Nodup
 mem : ∀ a : K, a ∈ al
theorem fixed_const {al : List K} (h : FinL al) (hq : 2 ≤ al.length) (hal : ∀ c : K, Rg.pow c al.length = c) {P : Po K} (hP : Ir P) {f : Po K} (hf : P ∣ Rg.pow f al.length - f) : ∃ c : K, P ∣ f - C c := by
 haveI : IrC P := ⟨hP⟩
 refine Classical.byContradiction fun hno => ?_
 have hno : ∀ c : K, ¬ P ∣ f - C c := fun c hc => hno ⟨c, hc⟩
 have hl : len (mn 1 al.length - X : Po (Qt P)) = al.length + 1 := len_eq (((mn_sh 1 _).sub ((mn_sh 1 1).mono (by omega)))) (by
  rw [cf_sub, cf_mn, if_pos rfl]
  show (1 : Qt P) - cf (mn 1 1) _ ≠ 0
  rw [cf_mn, if_neg (by omega), Rg.sub_zero]; exact Fd.one_ne)
 have hcp : ∀ (c : K) n, Rg.pow (C c : Po K) n = C (Rg.pow c n) := fun c n => by
  induction n with
  | zero => exact C_one.symm
  | succ n ih => rw [Rg.pow_succ, Rg.pow_succ, ih, C_mul]
 have h1 := roots_len (Qt.mk P f :: al.map fun c => Qt.mk P (C c)) (mn 1 al.length - X : Po (Qt P)) (by
  refine List.nodup_cons.2 ⟨fun hm => ?_, ?_⟩
  ·obtain ⟨c, _, e⟩ := List.mem_map.1 hm
   exact hno c (Qt.mk_eq.1 e.symm)
  ·rw [List.Nodup, List.pairwise_map]
   refine h.nd.imp fun {a b} hab e => hab ?_
   have h2 := Qt.mk_eq.1 e
   have h3 : (C a : Po K) - C b = C (a - b) := by
    rw [Rg.sub_def, Rg.sub_def]
    show _ + -(mn b 0) = _
    rw [mn_neg]; exact mn_add _ _ 0
   rw [h3] at h2
   refine Classical.byContradiction fun hne => ?_
   have h4 : a - b ≠ 0 := fun e => hne (Rg.eq_of_sub e)
   have h5 := dvd_len h2 (C_ne h4)
   have h6 : len (C (a - b)) = 1 := len_mn h4 0
   have := hP.two
   omega) (len_pos_iff.1 (by omega)) fun a ha => by
  rw [Qt.val_sub_X]
  rcases List.mem_cons.1 ha with rfl | ha
  ·rw [Qt.mk_pow, Qt.mk_eq.2 hf, Rg.sub_self]
  ·obtain ⟨c, _, rfl⟩ := List.mem_map.1 ha
   rw [Qt.mk_pow, hcp, hal, Rg.sub_self]
 rw [hl, List.length_cons, List.length_map] at h1
 omega
end
section
variable {p m : Int} {mod : List Int} [hF : IsF p m mod]
noncomputable def elA (p m : Int) (mod : List Int) [hF : IsF p m mod] : List (El p m mod) := (0 : El p m mod) :: elNz p m mod
theorem elA_fin : FinL (elA p m mod) := by
 have h := elNz_nz hF.out
 refine ⟨List.nodup_cons.2 ⟨fun hm => (h.mem 0).1 hm rfl, h.nd⟩, fun a => ?_⟩
 by_cases e : a = 0
 ·rw [e]; exact List.mem_cons_self ..
 ·exact List.mem_cons_of_mem _ ((h.mem a).2 e)
theorem elA_len : (elA p m mod).length = (pw p m).toNat := by
 have := hF.q2
 rw [elA, List.length_cons, elNz_len]; omega
theorem frobQ (f g : Po (El p m mod)) (k : Nat) : Rg.pow (f + g) ((pw p m).toNat ^ k) = Rg.pow f ((pw p m).toNat ^ k) + Rg.pow g ((pw p m).toNat ^ k) := by
 have hp := hF.p2
 have e : (pw p m).toNat = p.toNat ^ m.toNat := by
  unfold pw
  rw [Int.toNat_pow_of_nonneg (by omega)]
 rw [e, ← Nat.pow_mul]
 exact frobRk (by omega) (p_prime hF) nc_charP f g _
end
end Go.Proofs.YtdkahdehodopoaaGreat

namespace Go.Proofs.YtdkahdehodopoaaGreat
open Po
section
variable {p m : Int} {mod : List Int} [hF : IsF p m mod]
theorem lead_one_ne {K : Type} [Fd K] {f : Po K} (h : lead f = 1) : f ≠ 0 := fun e => by
 rw [e] at h
 exact Fd.one_ne (K := K) (by rw [← h]; rfl)
end
end Go.Proofs.YtdkahdehodopoaaGreat

namespace Go.Proofs.YtdkahdehodopoaaGreat
open Po
section
variable {K : Type} [Fd K]
theorem mu_ex {P f : Po K} (hP : Ir P) (hf : f ≠ 0) : ∃ k, Rg.pow P k ∣ f ∧ ¬ Rg.pow P (k + 1) ∣ f := by
 have : ∃ n, ¬ Rg.pow P n ∣ f := ⟨len f, fun h => by
  have h1 := dvd_len h hf
  have h2 := len_pow_ge hP.two (len f)
  omega⟩
 obtain ⟨n, hn, hmin⟩ := nat_least this
 match n, hn, hmin with
 | 0, hn, _ => exact absurd (one_dvd f) hn
 | k + 1, hn, hmin => exact ⟨k, Classical.byContradiction fun h => hmin k (by omega) h, hn⟩
open Classical in
noncomputable def mu (P f : Po K) : Nat := if h : ∃ k, Rg.pow P k ∣ f ∧ ¬ Rg.pow P (k + 1) ∣ f then Classical.choose h else 0
variable {P f g : Po K}
theorem mu_spec (hP : Ir P) (hf : f ≠ 0) : Rg.pow P (mu P f) ∣ f ∧ ¬ Rg.pow P (mu P f + 1) ∣ f := by
 unfold mu
 rw [dif_pos (mu_ex hP hf)]
 exact Classical.choose_spec (mu_ex hP hf)
theorem mu_le_iff (hP : Ir P) (hf : f ≠ 0) (k : Nat) : Rg.pow P k ∣ f ↔ k ≤ mu P f := by
 have h := mu_spec hP hf
 constructor
 ·intro hk
  refine Nat.le_of_not_lt fun hlt => h.2 (dvd_trans (pow_dvd P (show mu P f + 1 ≤ k by omega)) hk)
 ·intro hk
  exact dvd_trans (pow_dvd P hk) h.1
theorem mu_eq (hP : Ir P) (hf : f ≠ 0) {k : Nat} (h1 : Rg.pow P k ∣ f) (h2 : ¬ Rg.pow P (k + 1) ∣ f) : mu P f = k := by
 have h := (mu_le_iff hP hf k).1 h1
 have h' : ¬ k + 1 ≤ mu P f := fun e => h2 ((mu_le_iff hP hf _).2 e)
 omega
theorem dvd_iff_mu (hP : Ir P) (hf : f ≠ 0) : P ∣ f ↔ 1 ≤ mu P f := by
 rw [← mu_le_iff hP hf, Rg.pow_one]
theorem mu_split (hP : Ir P) (hf : f ≠ 0) : ∃ b, f = Rg.pow P (mu P f) * b ∧ ¬ P ∣ b := by
 obtain ⟨h1, h2⟩ := mu_spec hP hf
 obtain ⟨b, hb⟩ := h1
 refine ⟨b, hb, fun hd => h2 ?_⟩
 obtain ⟨c, rfl⟩ := hd
 exact ⟨c, by rw [Rg.pow_succ, Rg.mul_assoc]; exact hb⟩
theorem mu_of_split (hP : Ir P) {b : Po K} {k : Nat} (hb : ¬ P ∣ b) (hf : Rg.pow P k * b ≠ 0) : mu P (Rg.pow P k * b) = k := mu_eq hP hf (dvd_mul _ _) fun h => by
 rw [Rg.pow_succ] at h
 exact hb (mul_dvd_cancel (pow_ne0 hP.ne k) h)
theorem mu_mul (hP : Ir P) (hf : f ≠ 0) (hg : g ≠ 0) : mu P (f * g) = mu P f + mu P g := by
 obtain ⟨a, ha, ha'⟩ := mu_split hP hf
 obtain ⟨b, hb, hb'⟩ := mu_split hP hg
 have e : f * g = Rg.pow P (mu P f + mu P g) * (a * b) := by
  rw [Rg.pow_add]
  have h1 := congrArg (fun z => z * g) ha
  have h2 := congrArg (fun z => Rg.pow P (mu P f) * a * z) hb
  rw [h1, h2]; grind
 have hfg := mul_ne hf hg
 rw [e] at hfg
 rw [e]
 exact mu_of_split hP (fun h => (hP.prime h).elim ha' hb') hfg
theorem mu_one (hP : Ir P) : mu P 1 = 0 := mu_eq hP one_ne (one_dvd 1) fun h => by
 rw [Rg.pow_one] at h; exact hP.not_one len_one h
theorem mu_pow (hP : Ir P) (hf : f ≠ 0) : ∀ n, mu P (Rg.pow f n) = n * mu P f
 | 0 => by rw [Rg.pow_zero, mu_one hP, Nat.zero_mul]
 | n + 1 => by rw [Rg.pow_succ, mu_mul hP (pow_ne0 hf n) hf, mu_pow hP hf n, Nat.succ_mul]
theorem mu_gcd (hP : Ir P) (hf : f ≠ 0) (hg : g ≠ 0) : mu P (Po.gcd f g) = min (mu P f) (mu P g) := by
 have h := gcd_is f g
 have h0 := gcd_ne (f := f) (g := g) (.inl hf)
 have key : ∀ k, k ≤ mu P (Po.gcd f g) ↔ k ≤ mu P f ∧ k ≤ mu P g := fun k => by
  rw [← mu_le_iff hP h0, ← mu_le_iff hP hf, ← mu_le_iff hP hg]
  exact ⟨fun hk => ⟨dvd_trans hk h.left, dvd_trans hk h.right⟩, fun hk => h.great hk.1 hk.2⟩
 have h1 := (key _).1 (Nat.le_refl _)
 have h2 := (key (min (mu P f) (mu P g))).2 ⟨Nat.min_le_left .., Nat.min_le_right ..⟩
 omega
theorem dvd_of_mu (hf : f ≠ 0) (hg : g ≠ 0) (h : ∀ P, Ir P → lead P = 1 → mu P f ≤ mu P g) : f ∣ g :=
 dvd_of_pows _ f g (Nat.le_refl _) hf fun P k hP hl hd => (mu_le_iff hP hg k).2 (Nat.le_trans ((mu_le_iff hP hf k).1 hd) (h P hP hl))
theorem mu_mono (hP : Ir P) (hg : g ≠ 0) (h : f ∣ g) : mu P f ≤ mu P g := by
 have hf : f ≠ 0 := fun e => hg (zero_dvd (e ▸ h))
 exact (mu_le_iff hP hg _).1 (dvd_trans (mu_spec hP hf).1 h)
theorem sf_iff_mu (hf : f ≠ 0) : Sf f ↔ ∀ P, Ir P → mu P f ≤ 1 := by
 constructor
 ·intro h P hP
  refine Nat.le_of_not_lt fun hlt => h P hP ?_
  have := (mu_le_iff hP hf 2).2 hlt
  rwa [Rg.pow_succ, Rg.pow_one] at this
 ·intro h P hP hd
  have : Rg.pow P 2 ∣ f := by rwa [Rg.pow_succ, Rg.pow_one]
  have := (mu_le_iff hP hf 2).1 this
  have := h P hP
  omega
theorem dP_pow (P : Po K) : ∀ n, dP (Rg.pow P (n + 1)) = Rg.nc (n + 1) * (Rg.pow P n * dP P)
 | 0 => by
  rw [Rg.pow_one, Rg.pow_zero, Rg.one_mul]
  show dP P = (1 : Po K) * dP P
  rw [Rg.one_mul]
 | n + 1 => by
  rw [Rg.pow_succ, dP_mul, dP_pow P n, Rg.nc_succ (n + 1), Rg.pow_succ]
  grind
theorem len_dP (f : Po K) : len (dP f) ≤ len f - 1 := len_le fun j hj => by rw [cf_dP, cf_ge (by omega), Rg.mul_zero]
end
section
variable {p m : Int} {mod : List Int} [hF : IsF p m mod]
theorem cf_pow_p (g : Po (El p m mod)) (j : Nat) : cf (Rg.pow g p.toNat) j = if j % p.toNat = 0 then Rg.pow (cf g (j / p.toNat)) p.toNat else 0 := by
 have hp := hF.p2
 have hpos : 0 < p.toNat := by omega
 refine Po.ind (P := fun g => ∀ j, cf (Rg.pow g p.toNat) j = if j % p.toNat = 0 then Rg.pow (cf g (j / p.toNat)) p.toNat else 0) (fun j => ?_) (fun c n f ih j => ?_) g j
 ·rw [Rg.zero_pow hpos, cf_zero, cf_zero, Rg.zero_pow hpos]; split <;> rfl
 ·rw [frobR (by omega) (p_prime hF) nc_charP, cf_add, ih j, cf_add]
  have e : Rg.pow (mn c n : Po (El p m mod)) p.toNat = mn (Rg.pow c p.toNat) (n * p.toNat) := by
   have : ∀ k, Rg.pow (mn c n : Po (El p m mod)) k = mn (Rg.pow c k) (n * k) := fun k => by
    induction k with
    | zero => rfl
    | succ k ih => rw [Rg.pow_succ, ih, mn_mul, Rg.pow_succ, Nat.mul_succ]
   exact this _
  rw [e, cf_mn, cf_mn]
  by_cases h : j % p.toNat = 0
  ·rw [if_pos h, if_pos h, frobR (by omega) (p_prime hF) nc_char]
   congr 1
   by_cases h2 : j = n * p.toNat
   ·rw [if_pos h2, if_pos (by rw [h2, Nat.mul_div_cancel _ hpos])]
   ·rw [if_neg h2, if_neg (fun e => h2 (by rw [← e, Nat.div_mul_cancel (Nat.dvd_of_mod_eq_zero h)])), Rg.zero_pow hpos]
  ·rw [if_neg h, if_neg h, if_neg (fun e => h (by rw [e, Nat.mul_mod_left])), Rg.zero_add]
noncomputable def rtP (f : Po (El p m mod)) : Po (El p m mod) := ⟨fun i => Rg.pow (cf f (i * p.toNat)) ((pw p m).toNat / p.toNat), len f, fun j hj => by
 have hp := hF.p2
 have hq := hF.q2
 show Rg.pow (cf f (j * p.toNat)) _ = 0
 have h1 : j * 1 ≤ j * p.toNat := Nat.mul_le_mul_left j (by omega)
 rw [cf_ge (by omega)]
 refine Rg.zero_pow ?_
 have e : (pw p m).toNat = p.toNat ^ m.toNat := by
  unfold pw
  rw [Int.toNat_pow_of_nonneg (by omega)]
 have hm := hF.m1
 rw [e, show m.toNat = m.toNat - 1 + 1 by omega, Nat.pow_succ, Nat.mul_div_cancel _ (by omega)]
 exact Nat.pow_pos (by omega)⟩
theorem qp_mul {p m : Int} {mod : List Int} (hF : IsF p m mod) : (pw p m).toNat / p.toNat * p.toNat = (pw p m).toNat := by
 have hp := hF.p2
 have hm := hF.m1
 have e : (pw p m).toNat = p.toNat ^ m.toNat := by
  unfold pw
  rw [Int.toNat_pow_of_nonneg (by omega)]
 rw [e, show m.toNat = m.toNat - 1 + 1 by omega, Nat.pow_succ, Nat.mul_div_cancel _ (by omega)]
theorem rtP_pow {f : Po (El p m mod)} (h : dP f = 0) : Rg.pow (rtP f) p.toNat = f := Po.ext fun j => by
 have hp := hF.p2
 rw [cf_pow_p]
 by_cases hj : j % p.toNat = 0
 ·rw [if_pos hj]
  show Rg.pow (Rg.pow (cf f (j / p.toNat * p.toNat)) _) _ = _
  rw [← Rg.pow_mul, qp_mul hF, all_pow, Nat.div_mul_cancel (Nat.dvd_of_mod_eq_zero hj)]
 ·rw [if_neg hj]
  have h1 := congrArg (fun g => cf g (j - 1)) h
  simp only [cf_dP, cf_zero] at h1
  have hj0 : j ≠ 0 := fun e => hj (by rw [e, Nat.zero_mod])
  rw [show j - 1 + 1 = j by omega] at h1
  have h2 : (Rg.nc j : El p m mod) ≠ 0 := nc_ne fun e => hj (by
   have h3 : ((j : Nat) : Int) % (p.toNat : Int) = 0 := by rw [Int.toNat_of_nonneg (by omega)]; exact e
   exact_mod_cast h3)
  exact ((Fd.mul_eq_zero h1).resolve_left h2).symm
theorem rtP_ne {f : Po (El p m mod)} (h : dP f = 0) (hf : f ≠ 0) : rtP f ≠ 0 := fun e => hf (by
 have hp := hF.p2
 rw [← rtP_pow h, e, Rg.zero_pow (by omega)])
theorem len_powN {f : Po (El p m mod)} (hf : f ≠ 0) : ∀ n, len (Rg.pow f n) = n * (len f - 1) + 1
 | 0 => by rw [Rg.pow_zero, len_one, Nat.zero_mul]
 | n + 1 => by
  have := len_pos hf
  rw [Rg.pow_succ, len_mul (pow_ne0 hf n) hf, len_powN hf n, Nat.succ_mul]; omega
theorem rtP_len {f : Po (El p m mod)} (h : dP f = 0) (hf : 2 ≤ len f) : 2 ≤ len (rtP f) ∧ len (rtP f) < len f := by
 have hp := hF.p2
 have hf0 : f ≠ 0 := len_pos_iff.1 (by omega)
 have h1 := rtP_ne h hf0
 have h2 := len_powN h1 p.toNat
 rw [rtP_pow h] at h2
 have h3 := len_pos h1
 have h4 : 2 * (len (rtP f) - 1) ≤ p.toNat * (len (rtP f) - 1) := Nat.mul_le_mul_right _ (by omega)
 refine ⟨Nat.le_of_not_lt fun hlt => ?_, by omega⟩
 rw [show len (rtP f) - 1 = 0 by omega, Nat.mul_zero] at h2
 omega
theorem ir_dP {P : Po (El p m mod)} (hP : Ir P) : dP P ≠ 0 := fun h => by
 have hp := hF.p2
 have h1 := rtP_len h hP.two
 have h2 : rtP P ∣ P := by
  have := dvd_pow_pos (rtP P) (show 1 ≤ p.toNat by omega)
  rwa [rtP_pow h] at this
 rcases hP.irr _ h2 with h3 | h3 <;> omega
theorem ir_not_dP {P : Po (El p m mod)} (hP : Ir P) : ¬ P ∣ dP P := fun h => by
 have h1 := dvd_len h (ir_dP hP)
 have h2 := len_dP P
 have := hP.two
 omega
theorem nc_not_dvd {P : Po (El p m mod)} (hP : Ir P) {e : Nat} (he : (e : Int) % p ≠ 0) : ¬ P ∣ Rg.nc e := fun h => by
 rw [nc_po] at h
 exact hP.not_one (len_mn (nc_ne he) 0) h
theorem mu_gcd_dP {P f : Po (El p m mod)} (hP : Ir P) (hf : f ≠ 0) : mu P (Po.gcd f (dP f)) = if ((mu P f : Nat) : Int) % p = 0 then mu P f else mu P f - 1 := by
 obtain ⟨b, hb, hb'⟩ := mu_split hP hf
 have hg := gcd_is f (dP f)
 have h0 := gcd_ne (f := f) (g := dP f) (.inl hf)
 generalize he : mu P f = e at *
 have hno : ¬ Rg.pow P (e + 1) ∣ Po.gcd f (dP f) := fun h => by
  have := (mu_le_iff hP hf _).1 (dvd_trans h hg.left)
  omega
 split
 ·rename_i h
  refine mu_eq hP h0 (hg.great ⟨b, hb⟩ ?_) hno
  match e, h, hb with
  | 0, _, _ => exact one_dvd _
  | e + 1, h, hb =>
   rw [hb, dP_mul, dP_pow]
   have hz : (Rg.nc (e + 1) : Po (El p m mod)) = 0 := by
    rw [nc_po]
    have : (Rg.nc (e + 1) : El p m mod) = 0 := El.ext (by rw [nc_val]; exact h)
    rw [this, C_zero]
   rw [hz, Rg.zero_mul, Rg.zero_mul, Rg.zero_add]
   exact dvd_mul _ _
 ·rename_i h
  match e, h, hb, hno with
  | 0, h, _, _ => exact absurd (Int.zero_emod p) h
  | e + 1, h, hb, hno =>
   rw [Nat.add_sub_cancel]
   have hd : dP f = Rg.pow P e * (Rg.nc (e + 1) * (dP P * b) + P * dP b) := by
    rw [hb, dP_mul, dP_pow, Rg.pow_succ]; grind
   refine mu_eq hP h0 (hg.great (dvd_trans (pow_dvd P (Nat.le_succ e)) ⟨b, hb⟩) ⟨_, hd⟩) fun h2 => ?_
   have h3 := dvd_trans h2 hg.right
   rw [hd, Rg.pow_succ] at h3
   have h4 := mul_dvd_cancel (pow_ne0 hP.ne e) h3
   have h5 : P ∣ Rg.nc (e + 1) * (dP P * b) := dvd_of_sub (f := P) (g := Rg.nc (e + 1) * (dP P * b) + P * dP b) h4 (by
    rw [show Rg.nc (e + 1) * (dP P * b) + P * dP b - Rg.nc (e + 1) * (dP P * b) = P * dP b by grind]
    exact dvd_mul _ _) |> fun _ => by
     have : P ∣ P * dP b := dvd_mul _ _
     have h6 := dvd_sub h4 this
     rwa [show Rg.nc (e + 1) * (dP P * b) + P * dP b - P * dP b = Rg.nc (e + 1) * (dP P * b) by grind] at h6
   rcases hP.prime h5 with h6 | h6
   ·exact nc_not_dvd hP h h6
   ·rcases hP.prime h6 with h7 | h7
    ·exact ir_not_dP hP h7
    ·exact hb' h7
theorem dP_zero_of {f : Po (El p m mod)} (hf : f ≠ 0) (h : ∀ P, Ir P → lead P = 1 → ((mu P f : Nat) : Int) % p = 0) : dP f = 0 := Classical.byContradiction fun hne => by
 have h1 : f ∣ Po.gcd f (dP f) := dvd_of_mu hf (gcd_ne (.inl hf)) fun P hP hl => by
  rw [mu_gcd_dP hP hf, if_pos (h P hP hl)]; exact Nat.le_refl _
 have h2 := dvd_len (dvd_trans h1 (gcd_is f (dP f)).right) hne
 have h3 := len_dP f
 have := len_pos hf
 omega
theorem mu_rtP {P f : Po (El p m mod)} (hP : Ir P) (h : dP f = 0) (hf : f ≠ 0) : mu P f = p.toNat * mu P (rtP f) := by
 have := mu_pow hP (rtP_ne h hf) p.toNat
 rwa [rtP_pow h] at this
theorem sf_rad {f w : Po (El p m mod)} (hf : f ≠ 0) (h : f = w * Po.gcd f (dP f)) : Sf w ∧ ∀ P, Ir P → mu P w = if ((mu P f : Nat) : Int) % p = 0 then 0 else 1 := by
 have h0 := gcd_ne (f := f) (g := dP f) (.inl hf)
 have hw : w ≠ 0 := fun e => hf (by rw [h, e, Rg.zero_mul])
 have key : ∀ P, Ir P → mu P w = if ((mu P f : Nat) : Int) % p = 0 then 0 else 1 := fun P hP => by
  have h1 := mu_mul hP hw h0
  rw [← h, mu_gcd_dP hP hf] at h1
  split at h1
  ·rename_i h2; rw [if_pos h2]; omega
  ·rename_i h2
   rw [if_neg h2]
   have : mu P f ≠ 0 := fun e => h2 (by rw [e]; exact Int.zero_emod p)
   omega
 exact ⟨(sf_iff_mu hw).2 fun P hP => by rw [key P hP]; split <;> omega, key⟩
end
end Go.Proofs.YtdkahdehodopoaaGreat

namespace Go.Proofs.YtdkahdehodopoaaGreat
open Po
section
variable {p m : Int} {mod : List Int} [hF : IsF p m mod]
def prd {K : Type} [Fd K] : List (Po K) → Po K
 | [] => 1
 | f :: l => f * prd l
theorem prd_append {K : Type} [Fd K] (a b : List (Po K)) : prd (a ++ b) = prd a * prd b := by
 induction a with
 | nil => exact (Rg.one_mul _).symm
 | cons x a ih => rw [List.cons_append, prd, prd, ih, Rg.mul_assoc]
theorem prd_dvd {K : Type} [Fd K] {f : Po K} : ∀ {l : List (Po K)}, f ∈ l → f ∣ prd l
 | x :: l, h => by
  rcases List.mem_cons.1 h with rfl | h
  ·exact dvd_mul _ _
  ·exact dvd_mul_ofL (prd_dvd h) x
theorem ir_dvd_prd {K : Type} [Fd K] {P : Po K} (hP : Ir P) : ∀ {l : List (Po K)}, P ∣ prd l → ∃ f ∈ l, P ∣ f
 | [], h => absurd h (hP.not_one len_one)
 | x :: l, h => by
  rcases hP.prime h with h | h
  ·exact ⟨x, List.mem_cons_self .., h⟩
  ·obtain ⟨f, hf, hd⟩ := ir_dvd_prd hP h
   exact ⟨f, List.mem_cons_of_mem _ hf, hd⟩
structure IrL {K : Type} [Fd K] (f : Po K) (Ps : List (Po K)) : Prop where
 nd : Ps.Nodup
 mem : ∀ P, P ∈ Ps ↔ Ir P ∧ lead P = 1 ∧ P ∣ f
theorem IrL.len_eq {K : Type} [Fd K] {f : Po K} {Ps Qs : List (Po K)} (h : IrL f Ps) (k : IrL f Qs) : Ps.length = Qs.length := by
 classical
 have hs : ∀ P, P ∈ Ps ↔ P ∈ Qs := fun P => (h.mem P).trans (k.mem P).symm
 rcases Nat.le_total Ps.length Qs.length with e | e
 ·exact (Fd.perm_of_sub Qs Ps k.nd (fun P hP => (hs P).2 hP) e).length_eq.symm
 ·exact (Fd.perm_of_sub Ps Qs h.nd (fun P hP => (hs P).1 hP) e).length_eq
theorem irL_ex {K : Type} [Fd K] : ∀ (n : Nat) (f : Po K), len f ≤ n → lead f = 1 → Sf f → ∃ Ps, IrL f Ps ∧ prd Ps = f
 | 0, f, h, hl, _ => absurd (eq_zero_of_len (f := f) (by omega)) (fun e => by rw [e] at hl; exact Fd.one_ne (K := K) (by rw [← hl]; rfl))
 | n + 1, f, h, hl, hs => by
  have hf : f ≠ 0 := fun e => by rw [e] at hl; exact Fd.one_ne (K := K) (by rw [← hl]; rfl)
  by_cases h2 : len f < 2
  ·have e := monic_one hl (by omega)
   subst e
   exact ⟨[], ⟨.nil, fun P => ⟨fun h => by simp at h, fun h => absurd h.2.2 (h.1.not_one len_one)⟩⟩, rfl⟩
  ·obtain ⟨P, hP, hlP, hd⟩ := ir_ex (f := f) (by omega)
   obtain ⟨g, rfl⟩ := hd
   have hg : g ≠ 0 := fun e => hf (by rw [e, Rg.mul_zero])
   have h3 := len_mul hP.ne hg
   have h4 := hP.two
   have hlg : lead g = 1 := by
    have := lead_mul hP.ne hg
    rw [hl, hlP, Rg.one_mul] at this
    exact this.symm
   obtain ⟨Ps, hPs, he⟩ := irL_ex n g (by omega) hlg (hs.of_dvd (dvd_mulL g P))
   have hno : ¬ P ∣ g := fun hd => hs P hP (mul_dvd_mul hd P)
   refine ⟨P :: Ps, ⟨List.nodup_cons.2 ⟨fun hm => hno ((hPs.mem P).1 hm).2.2, hPs.nd⟩, fun Q => ?_⟩, by rw [prd, he]⟩
   rw [List.mem_cons, hPs.mem]
   constructor
   ·rintro (rfl | ⟨a, b, c⟩)
    ·exact ⟨hP, hlP, dvd_mul _ _⟩
    ·exact ⟨a, b, dvd_mul_ofL c P⟩
   ·rintro ⟨a, b, c⟩
    by_cases e : Q = P
    ·exact .inl e
    ·exact .inr ⟨a, b, (a.prime c).resolve_left fun hd => e (a.one hP b hlP hd)⟩
def Fxd (f v : Po (El p m mod)) : Prop := f ∣ Rg.pow v (pw p m).toNat - v
theorem fxd_const {f v P : Po (El p m mod)} (h : Fxd f v) (hP : Ir P) (hd : P ∣ f) : ∃ c : El p m mod, P ∣ v - C c := by
 have hq := hF.q2
 refine fixed_const (elA_fin (p := p) (m := m) (mod := mod)) (by rw [elA_len]; omega) (fun c => by rw [elA_len]; exact all_pow c) hP ?_
 rw [elA_len]
 exact dvd_trans hd h
theorem const_uniq {v P : Po (El p m mod)} (hP : Ir P) {c d : El p m mod} (h1 : P ∣ v - C c) (h2 : P ∣ v - C d) : c = d := Classical.byContradiction fun hne => by
 have h3 := dvd_sub h2 h1
 rw [show v - C d - (v - C c) = C c - C d by grind] at h3
 have h4 : (C c : Po (El p m mod)) - C d = C (c - d) := by
  rw [Rg.sub_def, Rg.sub_def]
  show _ + -(mn d 0) = _
  rw [mn_neg]; exact mn_add _ _ 0
 rw [h4] at h3
 have h5 : c - d ≠ 0 := fun e => hne (Rg.eq_of_sub e)
 exact hP.not_one (len_mn h5 0) h3
theorem crt_one {f P : Po (El p m mod)} (hf : lead f = 1) (hs : Sf f) (hP : Ir P) (hd : P ∣ f) : ∃ E, len E < len f ∧ Fxd f E ∧ P ∣ E - 1 ∧ ∀ Q, Ir Q → Q ∣ f → ¬ Q ∣ P → Q ∣ E := by
 have hf0 : f ≠ 0 := lead_one_ne hf
 obtain ⟨g, rfl⟩ := hd
 have hg : g ≠ 0 := fun e => hf0 (by rw [e, Rg.mul_zero])
 have hno : ¬ P ∣ g := fun hd => hs P hP (mul_dvd_mul hd P)
 have h1 := (hP.gcd g).resolve_right hno
 obtain ⟨u, v, e⟩ := (gcd_is P g).bez
 rw [h1] at e
 obtain ⟨c, hc⟩ := rem_sub_dvd (v * g) hf0
 have e1 : P ∣ rem (v * g) (P * g) - 1 := ⟨-(u + g * c), by rw [← e]; grind⟩
 have e2 : g ∣ rem (v * g) (P * g) := ⟨v - P * c, by grind⟩
 refine ⟨rem (v * g) (P * g), rem_len _ hf0, ?_, e1, fun Q hQ hQd hQP => dvd_trans ((hQ.prime hQd).resolve_left hQP) e2⟩
 generalize rem (v * g) (P * g) = E at *
 have hq := hF.q2
 have hpw : ∀ n, 1 ≤ n → P ∣ Rg.pow E n - 1 ∧ E ∣ Rg.pow E n := fun n hn => by
  refine ⟨?_, dvd_pow_pos E hn⟩
  have : ∀ n, P ∣ Rg.pow E n - 1 := fun n => by
   induction n with
   | zero => rw [Rg.pow_zero, Rg.sub_self]; exact dvd_zero P
   | succ n ih =>
    obtain ⟨a, ha⟩ := ih
    obtain ⟨b, hb⟩ := e1
    exact ⟨a * E + b, by rw [Rg.pow_succ]; grind⟩
  exact this n
 have h2 := hpw (pw p m).toNat (by omega)
 refine cop_mul h1 ?_ ?_
 ·have := dvd_sub h2.1 e1
  rwa [show Rg.pow E (pw p m).toNat - 1 - (E - 1) = Rg.pow E (pw p m).toNat - E by grind] at this
 ·exact dvd_sub (dvd_trans e2 h2.2) e2
def smC {K : Type} [Fd K] (c : Nat → K) : List (Po K) → Po K
 | [] => 0
 | f :: l => C (c 0) * f + smC (fun i => c (i + 1)) l
def vcP {K : Type} [Fd K] (f : Po K) : Vc K := fun j => cf f j
theorem vcP_smC {K : Type} [Fd K] : ∀ (l : List (Po K)) (c : Nat → K), vcP (smC c l) = Vc.cmb c (l.map vcP)
 | [], _ => rfl
 | f :: l, c => by
  rw [smC, List.map_cons, Vc.cmb, ← vcP_smC l]
  refine Vc.ext fun j => ?_
  show cf (C (c 0) * f + _) j = c 0 * cf f j + cf _ j
  rw [cf_add, cf_C_mul]
theorem vcP_inj {K : Type} [Fd K] {f g : Po K} (h : vcP f = vcP g) : f = g := Po.ext fun j => congrFun h j
structure Bss (f : Po (El p m mod)) (B : List (Po (El p m mod))) : Prop where
 sub : ∀ v ∈ B, len v < len f ∧ Fxd f v
 ind : ¬ Vc.Dep (B.map vcP)
 span : ∀ v, len v < len f → Fxd f v → ∃ c, v = smC c B
theorem idem_ex {f : Po (El p m mod)} (hf : lead f = 1) (hs : Sf f) (Ps : List (Po (El p m mod))) (hn : Ps.Nodup) (h : ∀ P ∈ Ps, Ir P ∧ lead P = 1 ∧ P ∣ f) :
 ∃ Es : List (Po (El p m mod)), Es.length = Ps.length ∧ (∀ E ∈ Es, len E < len f ∧ Fxd f E) ∧ ∀ i j, i < Ps.length → j < Ps.length → Ps.getD j 0 ∣ Es.getD i 0 - (if i = j then 1 else 0) := by
 classical
 let e : Po (El p m mod) → Po (El p m mod) := fun P => if hP : P ∈ Ps then Classical.choose (crt_one hf hs (h P hP).1 (h P hP).2.2) else 0
 have he : ∀ P (hP : P ∈ Ps), len (e P) < len f ∧ Fxd f (e P) ∧ P ∣ e P - 1 ∧ ∀ Q, Ir Q → Q ∣ f → ¬ Q ∣ P → Q ∣ e P := fun P hP => by
  simp only [e]
  rw [dif_pos hP]
  exact Classical.choose_spec (crt_one hf hs (h P hP).1 (h P hP).2.2)
 refine ⟨Ps.map e, List.length_map .., fun E hE => ?_, fun i j hi hj => ?_⟩
 ·obtain ⟨P, hP, rfl⟩ := List.mem_map.1 hE
  exact ⟨(he P hP).1, (he P hP).2.1⟩
 ·have ei : (Ps.map e).getD i 0 = e (Ps.getD i 0) := by
   rw [List.getD_eq_getElem?_getD, List.getElem?_map, List.getElem?_eq_getElem hi, List.getD_eq_getElem?_getD, List.getElem?_eq_getElem hi]; rfl
  rw [ei]
  have mi := Vc.getD_eq_mem hi (0 : Po (El p m mod))
  have mj := Vc.getD_eq_mem hj (0 : Po (El p m mod))
  by_cases hij : i = j
  ·subst hij; rw [if_pos rfl]; exact (he _ mi).2.2.1
  ·rw [if_neg hij, Rg.sub_zero]
   refine (he _ mi).2.2.2 _ (h _ mj).1 (h _ mj).2.2 fun hd => hij ?_
   have := (h _ mj).1.one (h _ mi).1 (h _ mj).2.1 (h _ mi).2.1 hd
   rw [List.getD_eq_getElem?_getD, List.getElem?_eq_getElem hj, List.getD_eq_getElem?_getD, List.getElem?_eq_getElem hi] at this
   exact ((List.getElem_inj hn).1 this).symm
theorem dvd_smC {P : Po (El p m mod)} {j : Nat} : ∀ {Es : List (Po (El p m mod))} {i0 : Nat} (c : Nat → El p m mod), (∀ i, i < Es.length → P ∣ Es.getD i 0 - (if i0 + i = j then 1 else 0)) → P ∣ smC c Es - C (if i0 ≤ j ∧ j < i0 + Es.length then c (j - i0) else 0)
 | [], i0, c, _ => by
  rw [smC, if_neg (fun h => by simp at h; omega), C_zero, Rg.sub_self]; exact dvd_zero P
 | E :: Es, i0, c, h => by
  have h0 := h 0 (by simp)
  have ih := dvd_smC (Es := Es) (i0 := i0 + 1) (fun i => c (i + 1)) fun i hi => by
   have := h (i + 1) (by simpa using hi)
   rwa [List.getD_cons_succ, show i0 + (i + 1) = i0 + 1 + i by omega] at this
  rw [List.getD_cons_zero, Nat.add_zero] at h0
  obtain ⟨a, ha⟩ := h0
  obtain ⟨b, hb⟩ := ih
  rw [smC]
  by_cases e : i0 = j
  ·subst e
   rw [if_pos rfl] at ha
   rw [if_neg (by omega), C_zero] at hb
   rw [if_pos (by simp), Nat.sub_self]
   exact ⟨C (c 0) * a + b, by grind⟩
  ·rw [if_neg e] at ha
   have e2 : (i0 ≤ j ∧ j < i0 + (E :: Es).length) ↔ (i0 + 1 ≤ j ∧ j < i0 + 1 + Es.length) := by simp; omega
   by_cases e3 : i0 + 1 ≤ j ∧ j < i0 + 1 + Es.length
   ·rw [if_pos e3] at hb
    rw [if_pos (e2.2 e3), show j - i0 = j - (i0 + 1) + 1 by omega]
    exact ⟨C (c 0) * a + b, by grind⟩
   ·rw [if_neg e3] at hb
    rw [if_neg (fun h => e3 (e2.1 h))]
    exact ⟨C (c 0) * a + b, by grind⟩
theorem bss_len {f : Po (El p m mod)} (hf : lead f = 1) (hs : Sf f) {B Ps : List (Po (El p m mod))} (hB : Bss f B) (hP : IrL f Ps) : B.length = Ps.length := by
 have hf0 := lead_one_ne hf
 obtain ⟨Es, e1, e2, e3⟩ := idem_ex hf hs Ps hP.nd fun P h => (hP.mem P).1 h
 -- the idempotents span
 have hsp : ∀ v, len v < len f → Fxd f v → ∃ c, v = smC c Es := fun v hv hx => by
  have hc : ∀ j, j < Ps.length → ∃ c : El p m mod, Ps.getD j 0 ∣ v - C c := fun j hj => by
   have := (hP.mem _).1 (Vc.getD_eq_mem hj (0 : Po (El p m mod)))
   exact fxd_const hx this.1 this.2.2
  let c : Nat → El p m mod := fun j => if hj : j < Ps.length then Classical.choose (hc j hj) else 0
  have hcs : ∀ j (hj : j < Ps.length), Ps.getD j 0 ∣ v - C (c j) := fun j hj => by
   simp only [c]; rw [dif_pos hj]; exact Classical.choose_spec (hc j hj)
  refine ⟨c, ?_⟩
  have hd : f ∣ v - smC c Es := hs.dvd hf0 fun P hPi hPl hPd => by
   obtain ⟨j, hj, hjP⟩ := List.getElem_of_mem ((hP.mem P).2 ⟨hPi, hPl, hPd⟩)
   have hg : Ps.getD j 0 = P := by rw [List.getD_eq_getElem?_getD, List.getElem?_eq_getElem hj]; exact hjP
   have h1 := hcs j hj
   have h2 := dvd_smC (P := P) (j := j) (Es := Es) (i0 := 0) c fun i hi => by
    have := e3 i j (by omega) hj
    rw [hg] at this
    rwa [Nat.zero_add]
   rw [if_pos (by omega), Nat.sub_zero] at h2
   rw [hg] at h1
   have := dvd_sub h1 h2
   rwa [show v - C (c j) - (smC c Es - C (c j)) = v - smC c Es by grind] at this
  have hl : len (v - smC c Es) < len f := by
   have hle : ∀ (l : List (Po (El p m mod))) (c : Nat → El p m mod), (∀ E ∈ l, len E < len f) → len (smC c l) < len f := fun l => by
    induction l with
    | nil => intro c _; rw [smC, len_zero]; exact len_pos hf0
    | cons E l ih =>
     intro c h
     rw [smC]
     have h1 := ih (fun i => c (i + 1)) fun E' hE' => h E' (List.mem_cons_of_mem _ hE')
     have h2 := len_add (C (c 0) * E) (smC (fun i => c (i + 1)) l)
     have h3 : len (C (c 0) * E) < len f := by
      by_cases e : c 0 = 0
      ·rw [e, C_zero, Rg.zero_mul, len_zero]; exact len_pos hf0
      ·rw [len_C_mul e]; exact h E (List.mem_cons_self ..)
     omega
   have h1 := hle Es c fun E hE => (e2 E hE).1
   have h2 := len_sub v (smC c Es)
   omega
  refine Rg.eq_of_sub (Classical.byContradiction fun hne => ?_)
  have := dvd_len hd hne
  omega
 have hind : ¬ Vc.Dep (Es.map vcP) := fun ⟨c, ⟨i, hi, hc⟩, h0⟩ => hc (by
  rw [List.length_map] at hi
  rw [← vcP_smC] at h0
  have h1 : smC c Es = 0 := vcP_inj h0
  have hiP : i < Ps.length := by omega
  have h2 := dvd_smC (P := Ps.getD i 0) (j := i) (Es := Es) (i0 := 0) c fun k hk => by
   have := e3 k i (by omega) hiP
   rwa [Nat.zero_add]
  rw [if_pos (by omega), Nat.sub_zero, h1] at h2
  have hPi := ((hP.mem _).1 (Vc.getD_eq_mem hiP (0 : Po (El p m mod)))).1
  refine const_uniq (v := 0) hPi h2 ?_
  rw [C_zero, Rg.sub_self]; exact dvd_zero _)
 have s1 : ∀ r ∈ B.map vcP, Vc.SpL (Es.map vcP) r := fun r hr => by
  obtain ⟨v, hv, rfl⟩ := List.mem_map.1 hr
  obtain ⟨c, e⟩ := hsp v (hB.sub v hv).1 (hB.sub v hv).2
  rw [e, vcP_smC]; exact Vc.cmb_sp c _
 have s2 : ∀ r ∈ Es.map vcP, Vc.SpL (B.map vcP) r := fun r hr => by
  obtain ⟨v, hv, rfl⟩ := List.mem_map.1 hr
  obtain ⟨c, e⟩ := hB.span v (e2 v hv).1 (e2 v hv).2
  rw [e, vcP_smC]; exact Vc.cmb_sp c _
 have h1 : ¬ (Es.map vcP).length < (B.map vcP).length := fun h => hB.ind (Vc.dep_of_more _ _ s1 h)
 have h2 : ¬ (B.map vcP).length < (Es.map vcP).length := fun h => hind (Vc.dep_of_more _ _ s2 h)
 simp only [List.length_map] at h1 h2
 omega
theorem bss_sep {f : Po (El p m mod)} (hf : lead f = 1) (hs : Sf f) {B : List (Po (El p m mod))} (hB : Bss f B) {P Q : Po (El p m mod)} (hP : Ir P) (hQ : Ir Q) (hPf : P ∣ f) (hQf : Q ∣ f) (hne : ¬ Q ∣ P) : ∃ v ∈ B, ∀ c : El p m mod, ¬ (P ∣ v - C c ∧ Q ∣ v - C c) := by
 refine Classical.byContradiction fun hno => ?_
 have hall : ∀ v ∈ B, ∃ c : El p m mod, P ∣ v - C c ∧ Q ∣ v - C c := fun v hv => Classical.byContradiction fun h => hno ⟨v, hv, fun c hc => h ⟨c, hc⟩⟩
 obtain ⟨E, a1, a2, a3, a4⟩ := crt_one hf hs hP hPf
 obtain ⟨c, e⟩ := hB.span E a1 a2
 have key : ∀ (l : List (Po (El p m mod))) (c : Nat → El p m mod), (∀ v ∈ l, ∃ c : El p m mod, P ∣ v - C c ∧ Q ∣ v - C c) → ∃ d : El p m mod, P ∣ smC c l - C d ∧ Q ∣ smC c l - C d := fun l => by
  induction l with
  | nil => intro c _; exact ⟨0, by rw [smC, C_zero, Rg.sub_self]; exact ⟨dvd_zero P, dvd_zero Q⟩⟩
  | cons v l ih =>
   intro c h
   obtain ⟨d, ⟨a, ha⟩, ⟨b, hb⟩⟩ := ih (fun i => c (i + 1)) fun v hv => h v (List.mem_cons_of_mem _ hv)
   obtain ⟨d', ⟨a', ha'⟩, ⟨b', hb'⟩⟩ := h v (List.mem_cons_self ..)
   have hC : (C (c 0 * d' + d) : Po (El p m mod)) = C (c 0) * C d' + C d := by
    rw [C_mul]; exact (mn_add _ _ 0).symm
   refine ⟨c 0 * d' + d, ⟨C (c 0) * a' + a, ?_⟩, ⟨C (c 0) * b' + b, ?_⟩⟩
   ·rw [smC, hC]; grind
   ·rw [smC, hC]; grind
 obtain ⟨d, h1, h2⟩ := key B c hall
 rw [← e] at h1 h2
 have h3 := a4 Q hQ hQf hne
 have d1 : d = 1 := const_uniq hP h1 (by rw [C_one]; exact a3)
 have d0 : d = 0 := const_uniq hQ h2 (by rw [C_zero, Rg.sub_zero]; exact h3)
 exact Fd.one_ne (d1.symm.trans d0)
end
end Go.Proofs.YtdkahdehodopoaaGreat

namespace Go.Proofs.YtdkahdehodopoaaGreat
open Go.RowKit
section
open Vc
end
section
open Vc
end
end Go.Proofs.YtdkahdehodopoaaGreat

set_option maxRecDepth 100000
namespace Go.Proofs.YtdkahdehodopoaaGreat
open Go.RowKit
end Go.Proofs.YtdkahdehodopoaaGreat

set_option maxRecDepth 100000
namespace Go.Proofs.YtdkahdehodopoaaGreat
open Go.RowKit
end Go.Proofs.YtdkahdehodopoaaGreat

namespace Go.Proofs.YtdkahdehodopoaaGreat
open Go.RowKit
theorem ro_cut {A : Option Addr} {l : List Int} (i c : Nat) (hc : l.length ≤ c) (F : List Chunk) : CSub (ro A (ints l) :: F) (ro (cutA A i c) (ints (l.drop i)) :: ro A (ints l) :: F) := by
 by_cases h : i < c
 ·have := ro_partI (A := A) (l := l) i l.length c h F
  rwa [List.take_of_length_le (by simp)] at this
 ·have h0 : l.drop i = [] := List.drop_eq_nil_of_le (by omega)
  rw [h0]
  exact CSub.dup (c := ro A (ints l)) (d := ro (cutA A i c) (ints [])) ⟨fun w h j hj => by simp [ints] at hj, fun b hb => absurd rfl hb.1, fun h => h⟩ (fun h => h) F
end Go.Proofs.YtdkahdehodopoaaGreat

set_option maxRecDepth 100000
namespace Go.Proofs.YtdkahdehodopoaaGreat
open Go.RowKit
end Go.Proofs.YtdkahdehodopoaaGreat

set_option maxRecDepth 100000
namespace Go.Proofs.YtdkahdehodopoaaGreat
open Go.RowKit
end Go.Proofs.YtdkahdehodopoaaGreat

namespace Go.Proofs.YtdkahdehodopoaaGreat
open Go.RowKit
end Go.Proofs.YtdkahdehodopoaaGreat

set_option maxRecDepth 100000
namespace Go.Proofs.YtdkahdehodopoaaGreat
open Go.RowKit
section
end
section
end
end Go.Proofs.YtdkahdehodopoaaGreat

namespace Go.Proofs.YtdkahdehodopoaaGreat
open Go.RowKit
section
end
end Go.Proofs.YtdkahdehodopoaaGreat

set_option maxRecDepth 100000
namespace Go.Proofs.YtdkahdehodopoaaGreat
open Go.RowKit
end Go.Proofs.YtdkahdehodopoaaGreat

namespace Go.Proofs.YtdkahdehodopoaaGreat
open Go.RowKit
section
end
end Go.Proofs.YtdkahdehodopoaaGreat

namespace Go.Proofs.YtdkahdehodopoaaGreat
open Go.RowKit
section
end
theorem rows_join {e : TypeId} : ∀ (qs rs : List RowM) (F : List Chunk), CSub (rowsCh e rs :: rowsCh e qs :: F) (rowsCh e (rs ++ qs) :: F)
 | [], rs, F => by
  rw [List.append_nil]
  exact CSub.cons _ (CSub.drop _ _)
 | q :: qs, rs, F => by
  have h1 : CSub (rowsCh e rs :: rowsCh e (q :: qs) :: F) (rowsCh e rs :: q.ch e :: rowsCh e qs :: F) := CSub.cons _ (rows_uncons F)
  have h2 := h1.trans (rows_snoc (e := e) (rs := rs) (r := q) (rowsCh e qs :: F))
  have h3 := h2.trans (rows_join qs (rs ++ [q]) F)
  rwa [List.append_assoc, List.singleton_append] at h3
def prs (ps : List (Value × Value)) : List Value := ps.flatMap fun p => [p.1, p.2]
@[simp] theorem prs_length : ∀ ps, (prs ps).length = ps.length * 2
 | [] => rfl
 | p :: ps => by
  have := prs_length ps
  unfold prs at this ⊢
  rw [List.flatMap_cons, List.length_append, this, List.length_cons]; simp; omega
theorem prs_app (ps qs : List (Value × Value)) : prs (ps ++ qs) = prs ps ++ prs qs := by unfold prs; rw [List.flatMap_append]
def prD : Value × Value := (.int .i64 0, .int .i64 0)
theorem prs_get : ∀ (ps : List (Value × Value)) (j : Nat), j < ps.length → (prs ps)[j * 2]? = some (ps.getD j prD).1 ∧ (prs ps)[j * 2 + 1]? = some (ps.getD j prD).2
 | [], j, h => by simp at h
 | p :: ps, 0, _ => ⟨rfl, rfl⟩
 | p :: ps, j + 1, h => by
  have := prs_get ps j (by simpa using h)
  unfold prs at this ⊢
  rw [List.flatMap_cons, List.getD_cons_succ, show (j + 1) * 2 = j * 2 + 2 by omega, show j * 2 + 2 + 1 = j * 2 + 1 + 2 by omega]
  simpa using this
def ow2 (A : Option Addr) (e : TypeId) (cap : Nat) (ps : List (Value × Value)) : Chunk where
 foot b := ∃ ad, A = some ad ∧ ad.block = b
 excl := True
 sat w := w.ownsRow 0 e 2 (.slice A ps.length cap) ps.length (prs ps)
 loc w w' h hs := by
  obtain ⟨h0, h1⟩ := hs
  refine ⟨h0, ?_⟩
  rcases h1 with h1 | ⟨g, c, cur, hv, hb, hh, hr⟩
  ·exact .inl h1
  ·refine .inr ⟨g, c, cur, hv, hb, ?_, hr⟩
   simp only [Value.slice.injEq] at hv
   rw [h g ⟨_, hv.1, rfl⟩]
   exact hh
 cel w b hs hb := by
  obtain ⟨ad, rfl, rfl⟩ := hb
  rcases hs.2 with ⟨h1, _⟩ | ⟨g, c, cur, hv, hb, hh, _⟩
  ·cases h1
  ·simp only [Value.slice.injEq, Option.some.injEq] at hv
   rw [hv.1]
   exact ⟨_, hh, rfl⟩
theorem ow2_reads {A : Option Addr} {e : TypeId} {cap : Nat} {ps : List (Value × Value)} {w : World} (h : (ow2 A e cap ps).sat w) : (ro A (prs ps)).sat w := by
 intro j hj
 rcases h.2 with ⟨_, h0⟩ | ⟨g, c, cur, hv, _⟩
 ·rw [prs_length] at hj; omega
 ·simp only [Value.slice.injEq] at hv
  obtain ⟨rfl, _⟩ := hv
  exact ⟨_, rfl, World.ownsRow.cells h (g := g) rfl j _ (List.getElem?_eq_getElem hj)⟩
instance Rd.ofOw2 (F : List Chunk) (A : Option Addr) (e : TypeId) (cap : Nat) (ps : List (Value × Value)) : Rd (ow2 A e cap ps :: F) A (prs ps) := ⟨fun _ _ _ hm => ow2_reads (hm.sat _ (List.mem_cons_self ..)), fun b hb => ⟨_, List.mem_cons_self .., hb.2⟩⟩
class PkO2 (F : List Chunk) (A : Option Addr) (e : outParam TypeId) (cap : outParam Nat) (ps : outParam (List (Value × Value))) (F' : outParam (List Chunk)) : Prop where
 perm : F.Perm (ow2 A e cap ps :: F')
instance PkO2.head (F : List Chunk) (A : Option Addr) (e : TypeId) (cap : Nat) (ps : List (Value × Value)) : PkO2 (ow2 A e cap ps :: F) A e cap ps F := ⟨List.Perm.refl _⟩
instance PkO2.tail (c : Chunk) (F F' : List Chunk) (A : Option Addr) (e : TypeId) (cap : Nat) (ps : List (Value × Value)) [h : PkO2 F A e cap ps F'] : PkO2 (c :: F) A e cap ps (c :: F') := ⟨(h.perm.cons c).trans (List.Perm.swap ..)⟩
class S2Ty (P : Program) (t : TypeId) (e : outParam TypeId) (bytes : outParam Nat) : Prop where
 und : P.underlying t = some (.slice e)
 inf : ∃ z, (P.info? e).map (fun i => (i.zero, i.size, i.bytes)) = some (some z, 2, bytes) ∧ z.cells.size = 2
section
variable {P : Program} {N : NB} {M : Nat → Prop} {w0 : World} {L : Fr} {F F' : List Chunk} {K : Fr → List Chunk → Prop} {b : Bool} {o : Oper} {v : Value} {x y : Operand} {t t' e : TypeId} {k bytes : Nat}
theorem nil_mem2 (e : TypeId) {w : World} (hm : Mem M w0 w F) : Mem M w0 w (ow2 none e 0 [] :: F) := by
 refine ⟨hm.upd, fun c hc => ?_, List.pairwise_cons.2 ⟨fun c _ _ b' hb' => ?_, hm.sep⟩, fun c hc hex b' hb' => ?_⟩
 ·rcases List.mem_cons.1 hc with rfl | hc
  ·exact World.ownsRow_nil _ _ _ _
  ·exact hm.sat c hc
 ·obtain ⟨ad, h1, _⟩ := hb'; cases h1
 ·rcases List.mem_cons.1 hc with rfl | hc
  ·obtain ⟨ad, h1, _⟩ := hb'; cases h1
  ·exact hm.own c hc hex b' hb'
theorem rIdxT {A : Option Addr} {n c : Nat} {i : Int} {vs : List Value} (ho : o.op = .indexAddr t x y) [h : SsTy P t e 2] (hx : ev L x = some (.slice A n c)) (hy : ev L y = some (.int .i64 i)) [hr : Rd F A vs] (h0 : 0 ≤ i) (h1 : i < n) (h2 : i.toNat * 2 < vs.length) : Stl P N M w0 o L F (.pointer (some ((A.getD a0).add (i.toNat * 2)))) := fun a w hl hm => by
 obtain ⟨ad, rfl, _⟩ := hr.rd M w0 w hm _ h2
 simp [execOp, ho, hl.eval hx, hl.eval hy, Instr.indexAt, asIntOf, run_und h.und, h0, h1, run_size1 h.size]
theorem rLdT {A : Option Addr} {j : Nat} {ps : List (Value × Value)} (ho : o.op = .load t x) [h : AgTy P t 2] (hx : ev L x = some (.pointer (some ((A.getD a0).add (j * 2))))) [hr : Rd F A (prs ps)] (hj : j < ps.length) : Stl P N M w0 o L F (.agg #[(ps.getD j prD).1, (ps.getD j prD).2]) := fun a w hl hm => by
 obtain ⟨fs, hu⟩ := h.und
 have hrd := hr.rd M w0 w hm
 have hg := prs_get ps j hj
 obtain ⟨ad, rfl, _⟩ := hrd (j * 2) (by rw [prs_length]; omega)
 have hag : (isAgg t).run P w = .ok true w := by simp [isAgg, run_und hu]
 have hld : (loadCells (ad.add (j * 2)) 2).run P w = .ok #[(ps.getD j prD).1, (ps.getD j prD).2] w := by
  have h0 := loadCellsFrom_ok (P := P) (w := w) (ad := ad.add (j * 2)) [(ps.getD j prD).1, (ps.getD j prD).2] 0 #[] (fun i hi => by
   have hi2 : i < 2 := by simpa using hi
   obtain ⟨ad', h1, hc⟩ := hrd (j * 2 + i) (by rw [prs_length]; omega)
   simp only [Option.some.injEq] at h1
   subst h1
   rw [Nat.zero_add, add_add, hc]
   have h3 : (prs ps)[j * 2 + i]? = some ([(ps.getD j prD).1, (ps.getD j prD).2][i]) := by
    rcases Nat.lt_or_ge i 1 with h4 | h4
    ·have : i = 0 := by omega
     subst this; exact hg.1
    ·have : i = 1 := by omega
     subst this; exact hg.2
   rw [← h3, List.getElem?_eq_getElem])
  simpa [loadCells] using h0
 have hsz := run_size1 h.inf w
 simp [execOp, ho, hl.eval hx, Instr.loadAt, Instr.sureAddr, loadVar, hag, hsz, hld]
theorem eApp2 {A : Option Addr} {B : Addr} {n c cap : Nat} {ps : List (Value × Value)} {u0 u1 : Value} (ho : o.op = .call { callee := .builtin .append, args := #[x, y], argTypes := #[t, t] }) {d : Nat} (hdd : o.dst = some d) (hd : Nat.ble (d + 1) N.n = true) [h : S2Ty P t e bytes]
  (hx : ev L x = some (.slice A n cap)) (hy : ev L y = some (.slice (some B) 1 c)) [hp : PkO2 F A e cap ps F'] [hr : Rd F (some B) [u0, u1]] (hn : n = ps.length) (hone : [u0, u1].all (·.oneCell') = true) (hb : (ps.length + 1) * bytes ≤ 140737488355328) (hlen : ps.length + 1 ≤ 1000000000)
  (hK : ∀ (A' : Option Addr) (cap' : Nat), K (addL d (.slice A' (ps ++ [(u0, u1)]).length cap') L) (ow2 A' e cap' (ps ++ [(u0, u1)]) :: F')) : Eff P N M w0 false o L F K := fun a w hl hm => by
 subst hn
 obtain ⟨z, hzi, hzs⟩ := h.inf
 obtain ⟨i, hi, hz, hs, hby⟩ : ∃ i, P.info? e = some i ∧ i.zero = some z ∧ i.size = 2 ∧ i.bytes = bytes := by
  cases hi : P.info? e with
  | none => simp [hi] at hzi
  | some i =>
   simp only [hi, Option.map_some, Option.some.injEq, Prod.mk.injEq] at hzi
   exact ⟨i, rfl, hzi.1, hzi.2.1, hzi.2.2⟩
 have hmp := hm.perm hp.perm
 have hown : w.ownsRow 0 e 2 (.slice A ps.length cap) ps.length (prs ps) := hmp.sat _ (List.mem_cons_self ..)
 have hcells := hr.rd M w0 w hm
 obtain ⟨v', w', h1, h2, h3, _, h5⟩ := run_append_own_at (P := P) w 0 t o.type e i z 2 bytes h.und hi hz hs hby hzs (by omega) (.slice A ps.length cap) ps.length (prs ps) hown B 1 c [u0, u1] rfl
  (fun j u hu => by
   obtain ⟨hj, rfl⟩ := List.getElem?_eq_some_iff.1 hu
   obtain ⟨ad', h1, h2⟩ := hcells j hj
   simp only [Option.some.injEq] at h1
   subst h1
   exact h2) (fun u hu => List.all_eq_true.1 hone u hu) (by simp only [maxLen]; omega) hb (Nat.zero_le _)
 obtain ⟨A', cap', rfl, h6⟩ : ∃ A' cap', v' = .slice A' (ps.length + 1) cap' ∧ (∀ ad, A' = some ad → A = some ad ∨ ad.block = w.heap.size) := by
  rcases h2.2 with ⟨rfl, h0⟩ | ⟨g, cp, cur, rfl, _⟩
  ·omega
  ·refine ⟨_, _, rfl, fun ad had => ?_⟩
   simp only [Option.some.injEq] at had
   subst had
   rcases h5 with h5 | h5
   ·left
    rcases hown.2 with ⟨h3, _⟩ | ⟨g', cp', cur', h3, _⟩
    ·rw [h3] at h5; simp [Value.ownBlock] at h5
    ·simp only [Value.slice.injEq] at h3
     obtain ⟨rfl, _⟩ := h3
     simp only [Value.ownBlock, Option.some.injEq] at h5
     rw [h5]
   ·right
    simpa [Value.ownBlock] using h5
 have hrun : (execOp a.eval o).run P w = .ok (.value (.slice A' (ps.length + 1) cap')) w' := by
  simp only [execOp, ho, resolve, invoke, builtin, Sem.run_bind, Sem.run_pure, Result.andThen_ok, List.map_toArray, List.map_cons, List.map_nil, hl.eval hx, hl.eval hy, h1]
 simp only [Oper.wp, hrun, Oper.upon_value]
 have hK' := hK A' cap'
 rw [List.length_append] at hK'
 refine ⟨fun hc => absurd hc (by simp), _, _, hl.add hdd hd _, ?_, hK'⟩
 have hlen' : (ps ++ [(u0, u1)]).length = ps.length + 1 := by simp
 refine hmp.change (by exact trivial) ⟨h3.os, h3.tape, h3.output, h3.size, fun k hk hc => h3.block k hk (fun hkb => hc ?_)⟩ (by
  show w'.ownsRow 0 e 2 (.slice A' (ps ++ [(u0, u1)]).length cap') (ps ++ [(u0, u1)]).length (prs (ps ++ [(u0, u1)]))
  rw [hlen', prs_app]; exact h2) (fun b' hb' => ?_)
 ·cases A with
  | none => simp [Value.ownBlock] at hkb
  | some ad => exact ⟨ad, rfl, by simpa [Value.ownBlock] using hkb.symm⟩
 ·obtain ⟨ad, rfl, rfl⟩ := hb'
  rcases h6 ad rfl with h7 | h7
  ·exact .inl ⟨ad, h7, rfl⟩
  ·exact .inr (by omega)
theorem eApp2G {A B : Option Addr} {n m c cap : Nat} {ps qs : List (Value × Value)} (ho : o.op = .call { callee := .builtin .append, args := #[x, y], argTypes := #[t, t] }) {d : Nat} (hdd : o.dst = some d) (hd : Nat.ble (d + 1) N.n = true) [h : S2Ty P t e bytes]
  (hx : ev L x = some (.slice A n cap)) (hy : ev L y = some (.slice B m c)) [hp : PkO2 F A e cap ps F'] [hr : Rd F B (prs qs)] (hn : n = ps.length) (hm' : m = qs.length) (hone : (prs qs).all (·.oneCell') = true) (hb : (ps.length + qs.length) * bytes ≤ 140737488355328) (hlen : ps.length + qs.length ≤ 1000000000)
  (hK : ∀ (A' : Option Addr) (cap' : Nat), K (addL d (.slice A' (ps ++ qs).length cap') L) (ow2 A' e cap' (ps ++ qs) :: F')) : Eff P N M w0 false o L F K := fun a w hl hm => by
 subst hn
 subst hm'
 obtain ⟨z, hzi, hzs⟩ := h.inf
 obtain ⟨i, hi, hz, hs, hby⟩ : ∃ i, P.info? e = some i ∧ i.zero = some z ∧ i.size = 2 ∧ i.bytes = bytes := by
  cases hi : P.info? e with
  | none => simp [hi] at hzi
  | some i =>
   simp only [hi, Option.map_some, Option.some.injEq, Prod.mk.injEq] at hzi
   exact ⟨i, rfl, hzi.1, hzi.2.1, hzi.2.2⟩
 have hmp := hm.perm hp.perm
 have hown : w.ownsRow 0 e 2 (.slice A ps.length cap) ps.length (prs ps) := hmp.sat _ (List.mem_cons_self ..)
 have hcells := hr.rd M w0 w hm
 have hlen' : (ps ++ qs).length = ps.length + qs.length := List.length_append
 have key : ∃ (A' : Option Addr) (cap' : Nat) (w' : World), (Builtin.append_ #[t, t] o.type #[.slice A ps.length cap, .slice B qs.length c]).run P w = .ok (.slice A' (ps.length + qs.length) cap') w' ∧
   w'.ownsRow 0 e 2 (.slice A' (ps.length + qs.length) cap') (ps.length + qs.length) (prs (ps ++ qs)) ∧ w.grownBy w' (Value.slice A ps.length cap).ownBlock ∧ (∀ ad, A' = some ad → A = some ad ∨ ad.block = w.heap.size) := by
  cases B with
  | none =>
   have hqs : qs = [] := by
    rcases Nat.eq_zero_or_pos qs.length with h0 | h0
    ·exact List.eq_nil_of_length_eq_zero h0
    ·obtain ⟨ad, h1, _⟩ := hcells 0 (by rw [prs_length]; omega); cases h1
   subst hqs
   have hrun : (Builtin.append_ #[t, t] o.type #[.slice A ps.length cap, .slice none 0 c]).run P w = .ok (.slice A ps.length cap) w := by
    rcases hown.2 with ⟨h1, h2⟩ | ⟨g, cp, cur, h1, _, _, hnc, _⟩
    ·rw [h1]; simp [Builtin.append_, run_underlying h.und, sizeOf, typeInfo, hi, Builtin.lenOf, Builtin.firstCells]
    ·rw [h1]; simp [Builtin.append_, run_underlying h.und, sizeOf, typeInfo, hi, Builtin.lenOf, Builtin.firstCells, hnc, storeCells]
   exact ⟨A, cap, w, hrun, by simpa using hown, World.grownBy.refl w _, fun ad h => .inl h⟩
  | some ad =>
   obtain ⟨v', w', h1, h2, h3, h4, h5⟩ := run_append_own_at (P := P) w 0 t o.type e i z 2 bytes h.und hi hz hs hby hzs (by omega) (.slice A ps.length cap) ps.length (prs ps) hown ad qs.length c (prs qs) (by rw [prs_length])
    (fun j u hu => by
     obtain ⟨hj, rfl⟩ := List.getElem?_eq_some_iff.1 hu
     obtain ⟨ad', h1, h2⟩ := hcells j hj
     simp only [Option.some.injEq] at h1
     subst h1
     exact h2) (fun u hu => List.all_eq_true.1 hone u hu) (by simp only [maxLen]; omega) hb (Nat.zero_le _)
   rw [← prs_app] at h2
   rcases h2.2 with ⟨rfl, h0⟩ | ⟨g, cp, cur, rfl, _⟩
   ·exact ⟨none, 0, w', by rw [h1, h0], by rw [h0] at h2 ⊢; exact h2, h3, fun ad h => by cases h⟩
   ·refine ⟨_, _, w', h1, h2, h3, fun ad' had => ?_⟩
    simp only [Option.some.injEq] at had
    subst had
    rcases h5 with h5 | h5
    ·left
     rcases hown.2 with ⟨h3, _⟩ | ⟨g', cp', cur', h3, _⟩
     ·rw [h3] at h5; simp [Value.ownBlock] at h5
     ·simp only [Value.slice.injEq] at h3
      obtain ⟨rfl, _⟩ := h3
      simp only [Value.ownBlock, Option.some.injEq] at h5
      rw [h5]
    ·right
     simpa [Value.ownBlock] using h5
 obtain ⟨A', cap', w', h1, h2, h3, h6⟩ := key
 have hrun : (execOp a.eval o).run P w = .ok (.value (.slice A' (ps.length + qs.length) cap')) w' := by
  simp only [execOp, ho, resolve, invoke, builtin, Sem.run_bind, Sem.run_pure, Result.andThen_ok, List.map_toArray, List.map_cons, List.map_nil, hl.eval hx, hl.eval hy, h1]
 simp only [Oper.wp, hrun, Oper.upon_value]
 have hK' := hK A' cap'
 rw [List.length_append] at hK'
 refine ⟨fun hc => absurd hc (by simp), _, _, hl.add hdd hd _, ?_, hK'⟩
 refine hmp.change (by exact trivial) ⟨h3.os, h3.tape, h3.output, h3.size, fun k hk hc => h3.block k hk (fun hkb => hc ?_)⟩ (by
  show w'.ownsRow 0 e 2 (.slice A' (ps ++ qs).length cap') (ps ++ qs).length (prs (ps ++ qs))
  rw [hlen']; exact h2) (fun b' hb' => ?_)
 ·cases A with
  | none => simp [Value.ownBlock] at hkb
  | some ad => exact ⟨ad, rfl, by simpa [Value.ownBlock] using hkb.symm⟩
 ·obtain ⟨ad, rfl, rfl⟩ := hb'
  rcases h6 ad rfl with h7 | h7
  ·exact .inl ⟨ad, h7, rfl⟩
  ·exact .inr (by omega)
theorem eMake0 {n : Int} {z : Value} (ho : o.op = .makeSlice t x y) {d : Nat} (hdd : o.dst = some d) (hd : Nat.ble (d + 1) N.n = true) [h : SlTy P t e z bytes] (hx : ev L x = some (.int .i64 0)) (hy : ev L y = some (.int .i64 n)) (h0 : 0 ≤ n) (hb : bytes * n.toNat ≤ 281474976710656) (h63 : n ≤ 1000000000)
  (hK : ∀ A : Option Addr, K (addL d (.slice A 0 n.toNat) L) (ow A e n.toNat [] :: F)) : Eff P N M w0 b o L F K := eff_value hdd hd fun a w hl hm => by
 obtain ⟨i, hi, hz, hs, hby⟩ := info_parts h.inf
 obtain ⟨k, rfl⟩ := Int.eq_ofNat_of_zero_le h0
 simp only [Int.toNat_natCast] at hb hK
 obtain ⟨w', h1, h2, h3⟩ := run_make_own (P := P) w 0 t e i z 1 h.und hi hz hs .i64 .i64 k (by rw [hby]; exact hb) (by simp only [maxLen]; omega) (Nat.zero_le _)
 have hx' := ext_grown h3
 have hm' := new_ow (e := e) (vs := []) (cap := k) hx' hm h2
 refine ⟨_, w', ?_, hx', _, hm', hK _⟩
 simp only [execOp, ho, hl.eval hx, hl.eval hy, Sem.run_bind, h1, Result.andThen_ok, Sem.run_pure]
end
end Go.Proofs.YtdkahdehodopoaaGreat

set_option maxRecDepth 100000
namespace Go.Proofs.YtdkahdehodopoaaGreat
open Go.RowKit
def facE (l : Nat) : Int := if l = 0 then 7 else if l > 257 then 8 else 0
theorem facE_ok {l : Nat} (h : facE l = 0) : 1 ≤ l ∧ l ≤ 257 := by
 unfold facE at h
 split at h
 ·omega
 ·split at h <;> omega
theorem ne_of_len {p m : Int} {mod : List Int} [hF : IsF p m mod] {f : Po (El p m mod)} (h : 1 ≤ Po.len f) : f ≠ 0 := Po.len_pos_iff.1 (by omega)
theorem fac_enter_ent : Enters Tryz.prog 44 := enters_of Tryz.func44 (by kernel_rfl) (by kernel_rfl)
theorem fac_enter (g : GfM) {p m : Int} {mod : List Int} [hF : IsF p m mod] (hg : GOk g p m mod) (A : Option Addr) (n c : Nat) (a : List Int) (hn : n = a.length) (ha9 : a.length ≤ 17592186044415) (he : facE (Po.len (pol a : Po (El p m mod))) = 0) :
  Pure Tryz.prog 44 #[.pointer (some g.p), .slice A n c] [gfR g, ro A (ints a)] (one (fun v ch => ∃ B cap, v = .tuple #[.slice B (il (pol a : Po (El p m mod))).length cap, .int .i64 0] ∧ (il (pol a : Po (El p m mod))).length ≤ cap ∧ ch = ow B 3 cap (ints (il (pol a : Po (El p m mod)))))) := by
 have hil := il_length (pol a : Po (El p m mod))
 have hle := facE_ok he
 refine pure_of (args := [.pointer (some g.p), .slice A n c]) 20 Tryz.func44 rfl rfl rfl fac_enter_ent ⟨id, id, trivial⟩ (fun w0 => ?_)
 refine tS ?_
 refine tR fun _ _ _ => ?_
 iterate 2 refine pV ?_
 refine tS ?_
 refine tR fun _ _ _ => ?_
 iterate 2 refine pV ?_
 refine eV (eCall1 rfl rfl rfl (poly_CanonE g hg A n c a hn (by omega)) ⟨rfl, rfl, trivial⟩ ?_)
 rintro _ _ ⟨B1, c1, rfl, hc1, rfl⟩
 refine pV ?_
 refine tS ?_
 refine tB ?_
 refine tS ?_
 refine tR fun _ _ _ => ?_
 refine pV ?_
 refine sV (rLen rfl rfl) ?_
 iterate 2 refine pV ?_
 refine tC rfl (fun h2 => ?_) (fun h2 => ?_)
 ·try simp only [zbA] at h2
  omega --done
 ·try simp only [zbA] at h2
  refine tS ?_
  refine tR fun _ _ _ => ?_
  refine pV ?_
  refine sV (rLen rfl rfl) ?_
  refine sV (rSub rfl rfl rfl (by omega) (by omega)) ?_
  iterate 2 refine pV ?_
  refine tC rfl (fun h4 => ?_) (fun h4 => ?_)
  ·try simp only [zbA] at h4
   omega --done
  ·try simp only [zbA] at h4
   refine tK ?_
   refine tS ?_
   refine tR fun _ _ _ => ?_
   iterate 3 refine pV ?_
   exact tr_ret ⟨trivial, _, _, rfl, ⟨_, rfl, B1, c1, rfl, hc1, rfl⟩, cs _ _, trivial, trivial⟩
section
variable {p m : Int} {mod : List Int} [hF : IsF p m mod]
theorem pol_one1 : (pol [1] : Po (El p m mod)) = 1 := Po.ext fun j => by
 have hq := hF.q2
 rw [cf_pol, Po.cf_one]
 match j with
 | 0 => rw [List.getD_cons_zero, if_pos rfl]; exact el_one
 | j + 1 => rw [List.getD_cons_succ, List.getD_nil, if_neg (by omega), el_zero]
theorem fpow_congr {M x y : Po (El p m mod)} (h : M ∣ x - y) : ∀ n, M ∣ Rg.pow x n - Rg.pow y n
 | 0 => ⟨0, by show (1 : Po (El p m mod)) - 1 = M * 0; grind⟩
 | n + 1 => by
  obtain ⟨a, ha⟩ := h
  obtain ⟨c, hc⟩ := fpow_congr ⟨a, ha⟩ n
  rw [Rg.pow_succ, Rg.pow_succ]
  generalize Rg.pow x n = X1 at *
  generalize Rg.pow y n = Y1 at *
  exact ⟨c * x + Y1 * a, by grind⟩
theorem fpow_dbl (b : Po (El p m mod)) (n : Nat) : Rg.pow (b * b) n = Rg.pow b (2 * n) := by rw [Rg.mul_pow, ← Rg.pow_add, Nat.two_mul]
theorem rem_pow_step {M f b : Po (El p m mod)} {k : Nat} {W : Po (El p m mod)} (hM : M ≠ 0) (h : M ∣ f * Rg.pow b k - W) : (k % 2 = 1 → M ∣ Po.rem (f * b) M * Rg.pow (Po.rem (b * b) M) (k / 2) - W) ∧ (k % 2 ≠ 1 → M ∣ f * Rg.pow (Po.rem (b * b) M) (k / 2) - W) := by
 have h1 := Po.rem_sub_dvd (f * b) hM
 have h2 := Po.rem_sub_dvd (b * b) hM
 have h3 : ∀ n, M ∣ Rg.pow (b * b) n - Rg.pow (Po.rem (b * b) M) n := fun n => fpow_congr h2 n
 have h4 : ∀ n, Rg.pow (b * b) n = Rg.pow b (2 * n) := fun n => fpow_dbl b n
 constructor
 ·intro hk
  obtain ⟨x1, e1⟩ := h1
  obtain ⟨x3, e3⟩ := h3 (k / 2)
  obtain ⟨x, e⟩ := h
  have hk2 : k = 2 * (k / 2) + 1 := by omega
  rw [h4] at e3
  rw [hk2, Rg.pow_succ] at e
  generalize Po.rem (f * b) M = r1 at *
  generalize Rg.pow (Po.rem (b * b) M) (k / 2) = r3 at *
  generalize Rg.pow b (2 * (k / 2)) = P3 at *
  exact ⟨x - x1 * P3 - r1 * x3, by grind⟩
 ·intro hk
  obtain ⟨x3, e3⟩ := h3 (k / 2)
  obtain ⟨x, e⟩ := h
  have hk2 : k = 2 * (k / 2) := by omega
  rw [h4] at e3
  rw [hk2] at e
  generalize Rg.pow (Po.rem (b * b) M) (k / 2) = r3 at *
  generalize Rg.pow b (2 * (k / 2)) = P3 at *
  exact ⟨x - f * x3, by grind⟩
theorem rem_uniq {M f W : Po (El p m mod)} (hM : M ≠ 0) (hl : Po.len f < Po.len M) (h : M ∣ f - W) : f = Po.rem W M := by
 rw [← Po.rem_small hl]; exact (Po.rem_eq_iff hM).2 h
end
section
variable {p m : Int} {mod : List Int} [hF : IsF p m mod]
theorem len_mul_le (f g : Po (El p m mod)) : Po.len (f * g) ≤ Po.len f + Po.len g := by
 by_cases hf : f = 0
 ·rw [hf, Rg.zero_mul, Po.len_zero]; omega
 ·by_cases hg : g = 0
  ·rw [hg, Rg.mul_zero, Po.len_zero]; omega
  ·rw [Po.len_mul hf hg]; omega
theorem rem_pow_start {M W : Po (El p m mod)} (hM : M ≠ 0) (n : Nat) : M ∣ Po.rem 1 M * Rg.pow (Po.rem W M) n - Rg.pow W n := by
 obtain ⟨a, ha⟩ := Po.rem_sub_dvd (1 : Po (El p m mod)) hM
 obtain ⟨c, hc⟩ := fpow_congr (Po.rem_sub_dvd W hM) n
 generalize Po.rem 1 M = r at *
 generalize Rg.pow (Po.rem W M) n = X1 at *
 generalize Rg.pow W n = Y1 at *
 exact ⟨-(c + a * X1), by grind⟩
end
theorem poly_PowMod_ent : Enters Tryz.prog 118 := enters_of Tryz.func118 (by kernel_rfl) (by kernel_rfl)
theorem poly_PowMod (g : GfM) {p m : Int} {mod : List Int} [hF : IsF p m mod] (hg : GOk g p m mod) (A : Option Addr) (n c : Nat) (a : List Int) (hn : n = a.length) (ha9 : a.length ≤ 1000000) (k : Int) (hk0 : 0 ≤ k) (hk9 : k ≤ 1000000) (C : Option Addr) (nc d2 : Nat) (ml : List Int) (hnc : nc = ml.length) (hm9 : ml.length ≤ 1000000) (he : facE (Po.len (pol ml : Po (El p m mod))) = 0) :
  Pure Tryz.prog 118 #[.pointer (some g.p), .slice A n c, .int .i64 k, .slice C nc d2] [gfR g, ro A (ints a), ro C (ints ml)] (one (fun v ch => ∃ B cap, v = .tuple #[.slice B (il (Po.rem (Rg.pow (pol a : Po (El p m mod)) k.toNat) (pol ml : Po (El p m mod)))).length cap, .int .i64 0] ∧ ch = ow B 3 cap (ints (il (Po.rem (Rg.pow (pol a : Po (El p m mod)) k.toNat) (pol ml : Po (El p m mod))))))) := by
 have hil := il_length (pol ml : Po (El p m mod))
 have hml := facE_ok he
 have hm0 := ne_of_len hml.1
 refine pure_of (args := [.pointer (some g.p), .slice A n c, .int .i64 k, .slice C nc d2]) 77 Tryz.func118 rfl rfl rfl poly_PowMod_ent ⟨id, id, id, trivial⟩ (fun w0 => ?_)
 refine tS ?_
 refine tR fun _ _ _ => ?_
 iterate 2 refine pV ?_
 refine tS ?_
 refine tR fun _ _ _ => ?_
 iterate 2 refine pV ?_
 refine eV (eCall1 rfl rfl rfl (poly_CanonE g hg C nc d2 ml hnc (by omega)) ⟨rfl, rfl, trivial⟩ ?_)
 rintro _ _ ⟨B1, c1, rfl, hc1, rfl⟩
 refine pV ?_
 refine tS ?_
 refine tB ?_
 refine tS ?_
 refine tR fun _ _ _ => ?_
 refine pV ?_
 refine sV (rLen rfl rfl) ?_
 iterate 2 refine pV ?_
 refine tC rfl (fun h2 => ?_) (fun h2 => ?_)
 ·try simp only [zbA] at h2
  omega --done
 ·try simp only [zbA] at h2
  refine tS ?_
  refine tR fun _ _ _ => ?_
  refine pV ?_
  refine sV (rLen rfl rfl) ?_
  refine sV (rSub rfl rfl rfl (by omega) (by omega)) ?_
  iterate 2 refine pV ?_
  refine tC rfl (fun h4 => ?_) (fun h4 => ?_)
  ·try simp only [zbA] at h4
   omega --done
  ·try simp only [zbA] at h4
   refine tS ?_
   refine tR fun _ _ _ => ?_
   iterate 3 refine pV ?_
   refine tC rfl (fun h6 => ?_) (fun h6 => ?_)
   ·try simp only [zbA] at h6
    omega --done
   ·try simp only [zbA] at h6
    refine tK ?_
    refine tS ?_
    refine tR fun _ _ _ => ?_
    refine pV ?_
    refine eV (eLit1I rfl rfl rfl rfl (fun A8 => ?_))
    refine pV ?_
    refine eV (eCall2 rfl rfl rfl (poly_DivMod g hg A8 _ 1 [1] rfl (by simp) B1 _ c1 (il (pol ml : Po (El p m mod))) rfl (by omega) (by rw [pol_il]; exact hm0)) ⟨rfl, rfl, rfl, trivial⟩ ?_)
    rintro _ _ _ ⟨Q8a, q8a, B8a, c8a, rfl, rfl, rfl⟩
    iterate 7 refine pV ?_
    rw [pol_il]
    refine tS ?_
    refine tR fun _ _ _ => ?_
    iterate 3 refine pV ?_
    refine eV (eCall2 rfl rfl rfl (poly_DivMod g hg A n c a hn (by omega) B1 _ c1 (il (pol ml : Po (El p m mod))) rfl (by omega) (by rw [pol_il]; exact hm0)) ⟨rfl, rfl, rfl, trivial⟩ ?_)
    rintro _ _ _ ⟨Q9, q9, B9, c9, rfl, rfl, rfl⟩
    iterate 7 refine pV ?_
    rw [pol_il]
    refine tS ?_
    refine tB ?_
    refine tr_loop7 (fun (t : Int) (Bx : Option Addr) (cx : Nat) (f : Po (El p m mod)) (By : Option Addr) (cy : Nat) (b : Po (El p m mod)) => [(2, .int .i64 t), (11, .slice Bx (il f).length cx), (14, .slice By (il b).length cy), (0, .pointer (some g.p)), (3, .slice B1 (il (pol ml : Po (El p m mod))).length c1), (8, .slice none 0 0), (9, .int .i64 0)]) (fun (t : Int) (Bx : Option Addr) (cx : Nat) (f : Po (El p m mod)) (By : Option Addr) (cy : Nat) (b : Po (El p m mod)) => [ow Bx 3 cx (ints (il f)), ow By 3 cy (ints (il b)), ow B1 3 c1 (ints (il (pol ml : Po (El p m mod)))), gfR g]) (fun (t : Int) (Bx : Option Addr) (cx : Nat) (f : Po (El p m mod)) (By : Option Addr) (cy : Nat) (b : Po (El p m mod)) => (0 ≤ t ∧ t ≤ k) ∧ Po.len f < Po.len (pol ml : Po (El p m mod)) ∧ Po.len b < Po.len (pol ml : Po (El p m mod)) ∧ (pol ml : Po (El p m mod)) ∣ f * Rg.pow b t.toNat - Rg.pow (pol a : Po (El p m mod)) k.toNat) (fun (t : Int) (Bx : Option Addr) (cx : Nat) (f : Po (El p m mod)) (By : Option Addr) (cy : Nat) (b : Po (El p m mod)) => t.toNat) (k) (B8a) (c8a) ((Po.rem (pol [1]) (pol ml : Po (El p m mod)))) (B9) (c9) ((Po.rem (pol a : Po (El p m mod)) (pol ml : Po (El p m mod)))) ⟨rfl, rfl, rfl, rfl, rfl, rfl, rfl, trivial⟩ (by first | exact cs _ _ | exact CSub.refl _) (⟨⟨by omega, by omega⟩, Po.rem_len _ hm0, Po.rem_len _ hm0, by rw [pol_one1]; exact rem_pow_start hm0 _⟩) (fun t Bx cx f By cy b hI => ?_)
    obtain ⟨⟨ht0, ht9⟩, hfl, hbl, hd⟩ := hI
    refine tS ?_
    refine tS ?_
    refine tR fun _ _ _ => ?_
    iterate 2 refine pV ?_
    refine tC rfl (fun h10 => ?_) (fun h10 => ?_)
    ·try simp only [zbA] at h10
     refine tK ?_
     refine tS ?_
     refine tB ?_
     refine tS ?_
     refine tS ?_
     have hilf := il_length f
     have hilb := il_length b
     refine tR fun _ _ _ => ?_
     refine pV ?_
     refine sV (rRem rfl rfl rfl (by omega) (by omega)) ?_
     refine pV ?_
     refine tC rfl (fun h12 => ?_) (fun h12 => ?_)
     ·try simp only [zbA] at h12
      refine tR fun _ _ _ => ?_
      iterate 4 refine pV ?_
      refine eV (eCall1 rfl rfl rfl (poly_product g hg Bx _ cx (il f) rfl (by omega) By _ cy (il b) rfl (by omega)) ⟨rfl, rfl, rfl, trivial⟩ ?_)
      rintro _ _ ⟨B13, c13, rfl, rfl⟩
      refine pV ?_
      have hl13 := il_length (pol (il (f : Po (El p m mod))) * pol (il b) : Po (El p m mod))
      have hl13b := len_mul_le (pol (il (f : Po (El p m mod)))) (pol (il b) : Po (El p m mod))
      have e13 : Po.len (pol (il (f : Po (El p m mod))) : Po (El p m mod)) = (il f).length := by rw [pol_il, il_length]
      have e14 : Po.len (pol (il b) : Po (El p m mod)) = (il b).length := by rw [pol_il, il_length]
      refine eV (eCall2 rfl rfl rfl (poly_DivMod g hg B13 _ c13 (il (pol (il f) * pol (il b))) rfl (by omega) B1 _ c1 (il (pol ml : Po (El p m mod))) rfl (by omega) (by rw [pol_il]; exact hm0)) ⟨rfl, rfl, rfl, trivial⟩ ?_)
      rintro _ _ _ ⟨Q13a, q13a, B13a, c13a, rfl, rfl, rfl⟩
      iterate 5 refine pV ?_
      rw [pol_il, pol_il, pol_il, pol_il]
      refine tR fun _ _ _ => ?_
      iterate 4 refine pV ?_
      refine eV (eCall1 rfl rfl rfl (poly_product g hg By _ cy (il b) rfl (by omega) By _ cy (il b) rfl (by omega)) ⟨rfl, rfl, rfl, trivial⟩ ?_)
      rintro _ _ ⟨B14, c14, rfl, rfl⟩
      refine pV ?_
      have hl14 := il_length (pol (il b) * pol (il b) : Po (El p m mod))
      have hl14b := len_mul_le (pol (il b)) (pol (il b) : Po (El p m mod))
      have e15 : Po.len (pol (il b) : Po (El p m mod)) = (il b).length := by rw [pol_il, il_length]
      refine eV (eCall2 rfl rfl rfl (poly_DivMod g hg B14 _ c14 (il (pol (il b) * pol (il b))) rfl (by omega) B1 _ c1 (il (pol ml : Po (El p m mod))) rfl (by omega) (by rw [pol_il]; exact hm0)) ⟨rfl, rfl, rfl, trivial⟩ ?_)
      rintro _ _ _ ⟨Q14a, q14a, B14a, c14a, rfl, rfl, rfl⟩
      iterate 5 refine pV ?_
      rw [pol_il, pol_il, pol_il]
      refine tR fun _ _ _ => ?_
      refine pV ?_
      refine sV (rQuo rfl rfl rfl (by omega) (by omega)) ?_
      refine pV ?_
      refine ⟨t / 2, B13a, c13a, (Po.rem (f * b) (pol ml : Po (El p m mod))), B14a, c14a, (Po.rem (b * b) (pol ml : Po (El p m mod))), ⟨rfl, rfl, rfl, rfl, rfl, rfl, rfl, trivial⟩, by first | exact cs _ _ | exact CSub.refl _, ?_⟩
      exact ⟨⟨⟨by omega, by omega⟩, Po.rem_len _ hm0, Po.rem_len _ hm0, by rw [show (t / 2).toNat = t.toNat / 2 by omega]; exact (rem_pow_step hm0 hd).1 (by omega)⟩, by omega⟩
     ·try simp only [zbA] at h12
      refine tK ?_
      refine tR fun _ _ _ => ?_
      iterate 4 refine pV ?_
      refine eV (eCall1 rfl rfl rfl (poly_product g hg By _ cy (il b) rfl (by omega) By _ cy (il b) rfl (by omega)) ⟨rfl, rfl, rfl, trivial⟩ ?_)
      rintro _ _ ⟨B14, c14, rfl, rfl⟩
      refine pV ?_
      have hl14 := il_length (pol (il b) * pol (il b) : Po (El p m mod))
      have hl14b := len_mul_le (pol (il b)) (pol (il b) : Po (El p m mod))
      have e15 : Po.len (pol (il b) : Po (El p m mod)) = (il b).length := by rw [pol_il, il_length]
      refine eV (eCall2 rfl rfl rfl (poly_DivMod g hg B14 _ c14 (il (pol (il b) * pol (il b))) rfl (by omega) B1 _ c1 (il (pol ml : Po (El p m mod))) rfl (by omega) (by rw [pol_il]; exact hm0)) ⟨rfl, rfl, rfl, trivial⟩ ?_)
      rintro _ _ _ ⟨Q14a, q14a, B14a, c14a, rfl, rfl, rfl⟩
      iterate 5 refine pV ?_
      rw [pol_il, pol_il, pol_il]
      refine tR fun _ _ _ => ?_
      refine pV ?_
      refine sV (rQuo rfl rfl rfl (by omega) (by omega)) ?_
      refine pV ?_
      refine ⟨t / 2, Bx, cx, f, B14a, c14a, (Po.rem (b * b) (pol ml : Po (El p m mod))), ⟨rfl, rfl, rfl, rfl, rfl, rfl, rfl, trivial⟩, by first | exact cs _ _ | exact CSub.refl _, ?_⟩
      exact ⟨⟨⟨by omega, by omega⟩, hfl, Po.rem_len _ hm0, by rw [show (t / 2).toNat = t.toNat / 2 by omega]; exact (rem_pow_step hm0 hd).2 (by omega)⟩, by omega⟩
    ·try simp only [zbA] at h10
     refine tE ?_
     refine tS ?_
     refine tR fun _ _ _ => ?_
     iterate 3 refine pV ?_
     have htz : t.toNat = 0 := by omega
     rw [htz] at hd
     have hfe := rem_uniq hm0 hfl (show (pol ml : Po (El p m mod)) ∣ f - Rg.pow (pol a : Po (El p m mod)) k.toNat by
      have e : f * Rg.pow b 0 = f := by show f * 1 = f; grind
      rw [e] at hd; exact hd)
     subst hfe
     exact tr_ret ⟨trivial, _, _, rfl, ⟨_, rfl, Bx, cx, rfl, rfl⟩, cs _ _, trivial, trivial⟩
end Go.Proofs.YtdkahdehodopoaaGreat

set_option maxRecDepth 100000
namespace Go.Proofs.YtdkahdehodopoaaGreat
open Go.RowKit
section
variable {p m : Int} {mod : List Int} [hF : IsF p m mod]
theorem pol_X01 : (pol [0, 1] : Po (El p m mod)) = Po.X := Po.ext fun j => by
 rw [cf_pol, show (Po.X : Po (El p m mod)) = Po.mn 1 1 from rfl, Po.cf_mn]
 match j with
 | 0 => rw [List.getD_cons_zero, if_neg (by omega), el_zero]
 | 1 => rw [List.getD_cons_succ, List.getD_cons_zero, if_pos rfl]; exact el_one
 | j + 2 => rw [List.getD_cons_succ, List.getD_cons_succ, List.getD_nil, if_neg (by omega), el_zero]
end
end Go.Proofs.YtdkahdehodopoaaGreat

set_option maxRecDepth 100000
namespace Go.Proofs.YtdkahdehodopoaaGreat
open Go.RowKit
section
end
end Go.Proofs.YtdkahdehodopoaaGreat

namespace Go.Proofs.YtdkahdehodopoaaGreat
open Go.RowKit
section
variable {K : Type} [Fd K]
noncomputable def xk (f : Po K) (k : Nat) : Po K := Po.rem (Po.mn 1 k) f
end
section
end
end Go.Proofs.YtdkahdehodopoaaGreat

set_option maxRecDepth 100000
namespace Go.Proofs.YtdkahdehodopoaaGreat
open Go.RowKit
section
variable {p m : Int} {mod : List Int} [hF : IsF p m mod]
theorem xk_zero {M : Po (El p m mod)} (h2 : 2 ≤ Po.len M) : xk M 0 = 1 := by
 unfold xk
 exact Po.rem_small (by show Po.len (1 : Po (El p m mod)) < _; rw [Po.len_one]; omega)
end
theorem fac_monic_ent : Enters Tryz.prog 46 := enters_of Tryz.func46 (by kernel_rfl) (by kernel_rfl)
theorem fac_monic (g : GfM) {p m : Int} {mod : List Int} [hF : IsF p m mod] (hg : GOk g p m mod) (A : Option Addr) (n c : Nat) (a : List Int) (hn : n = a.length) (ha9 : a.length ≤ 1000000) (h0 : (pol a : Po (El p m mod)) ≠ 0) :
  Pure Tryz.prog 46 #[.pointer (some g.p), .slice A n c] [gfR g, ro A (ints a)] (one (fun v ch => ∃ B cap, v = .slice B (il (Po.mon (pol a : Po (El p m mod)))).length cap ∧ ch = ow B 3 cap (ints (il (Po.mon (pol a : Po (El p m mod))))))) := by
 refine pure_of (args := [.pointer (some g.p), .slice A n c]) 14 Tryz.func46 rfl rfl rfl fac_monic_ent ⟨id, id, trivial⟩ (fun w0 => ?_)
 refine tS ?_
 refine tR fun _ _ _ => ?_
 refine pV ?_
 refine tS ?_
 refine tR fun _ _ _ => ?_
 iterate 2 refine pV ?_
 refine eV (eCall1 rfl rfl rfl (poly_Monic g hg A n c a hn (by omega) h0) ⟨rfl, rfl, trivial⟩ ?_)
 rintro _ _ ⟨B1, c1, rfl, rfl⟩
 iterate 5 refine pV ?_
 refine tS ?_
 refine tR fun _ _ _ => ?_
 iterate 2 refine pV ?_
 exact tr_ret ⟨trivial, _, _, rfl, ⟨_, rfl, B1, c1, rfl, rfl⟩, cs _ _, trivial, trivial⟩
end Go.Proofs.YtdkahdehodopoaaGreat

set_option maxRecDepth 100000
namespace Go.Proofs.YtdkahdehodopoaaGreat
open Go.RowKit
end Go.Proofs.YtdkahdehodopoaaGreat

namespace Go.Proofs.YtdkahdehodopoaaGreat
open Go.ChangeShapes Go.WideShapes Go.ChangeAt Go.RowKit Go.Deep
structure FacM where
 r : RowM
 k : Int
def facD : FacM := ⟨rowD, 0⟩
instance : Inhabited FacM := ⟨facD⟩
def fcs (fs : List FacM) : List (Value × Value) := fs.map fun f => (f.r.hdr, .int .i64 f.k)
def rws (fs : List FacM) : List RowM := fs.map FacM.r
@[simp] theorem fcs_length (fs : List FacM) : (fcs fs).length = fs.length := by simp [fcs]
@[simp] theorem rws_length (fs : List FacM) : (rws fs).length = fs.length := by simp [rws]
theorem fcs_app (fs gs : List FacM) : fcs (fs ++ gs) = fcs fs ++ fcs gs := by simp [fcs]
theorem rws_app (fs gs : List FacM) : rws (fs ++ gs) = rws fs ++ rws gs := by simp [rws]
theorem fcs_get (fs : List FacM) (j : Nat) (h : j < fs.length) : (fcs fs).getD j prD = (.slice (fs.getD j facD).r.A (fs.getD j facD).r.xs.length (fs.getD j facD).r.cap, .int .i64 (fs.getD j facD).k) := by
 unfold fcs
 rw [List.getD_eq_getElem?_getD, List.getElem?_map, List.getD_eq_getElem?_getD, List.getElem?_eq_getElem h]; rfl
theorem fcs_get1 (fs : List FacM) (j : Nat) (h : j < fs.length) : ((fcs fs).getD j prD).1 = .slice (fs.getD j facD).r.A (fs.getD j facD).r.xs.length (fs.getD j facD).r.cap := by rw [fcs_get fs j h]
theorem fcs_get2 (fs : List FacM) (j : Nat) (h : j < fs.length) : ((fcs fs).getD j prD).2 = .int .i64 (fs.getD j facD).k := by rw [fcs_get fs j h]
section
end
instance RowIn.fac (fs : List FacM) (i : Nat) [h : InB i fs.length] : RowIn (fs.getD i facD).r (rws fs) := ⟨List.mem_map.2 ⟨_, getD_mem h.lt _, rfl⟩⟩
section
end
end Go.Proofs.YtdkahdehodopoaaGreat

set_option maxRecDepth 100000
namespace Go.Proofs.YtdkahdehodopoaaGreat
open Go.RowKit
instance tyFc : AgTy Tryz.prog 53 2 := agTy_of (by kernel_rfl)
instance tyFc0 : FdTy Tryz.prog 53 0 0 := ⟨by kernel_rfl⟩
instance tyFc1 : FdTy Tryz.prog 53 1 1 := ⟨by kernel_rfl⟩
instance zrFc : ZrTy Tryz.prog 53 [.slice none 0 0, .int .i64 0] := ⟨.agg #[.slice none 0 0, .int .i64 0], by kernel_rfl, rfl⟩
instance bdFc : BdTy Tryz.prog 53 [.slice none 0 0, .int .i64 0] [(0, 1), (1, 1)] := bdTy_of (z := .agg #[.slice none 0 0, .int .i64 0]) (by kernel_rfl) (by kernel_rfl) (by kernel_rfl) rfl
instance ssFc : SsTy Tryz.prog 48 53 2 := ⟨by kernel_rfl, by kernel_rfl⟩
instance s2Fc : S2Ty Tryz.prog 48 53 32 := ⟨by kernel_rfl, .agg #[.slice none 0 0, .int .i64 0], by kernel_rfl, rfl⟩
instance tySFc : ScTy Tryz.prog 48 := scTy_of (by kernel_rfl)
def sumF (f : Nat → Int) : Nat → Int
 | 0 => 0
 | n + 1 => sumF f n + f n
theorem sumF_mono {f : Nat → Int} (h : ∀ j, 0 ≤ f j) {a b : Nat} (hab : a ≤ b) : sumF f a ≤ sumF f b := by
 induction b with
 | zero => rw [show a = 0 by omega]; exact Int.le_refl _
 | succ b ih =>
  rcases Nat.lt_or_eq_of_le hab with e | e
  ·have := ih (by omega); have := h b; rw [sumF]; omega
  ·rw [e]; exact Int.le_refl _
section
variable (p m : Int) (mod : List Int) [hF : IsF p m mod]
noncomputable def fcP (f : FacM) : Po (El p m mod) := pol f.r.xs
noncomputable def fcD (f : FacM) : Int := max ((Po.len (fcP p m mod f) : Int) - 1) 0
noncomputable def fcT (fs : List FacM) : Nat → Int := sumF fun j => if j < fs.length then fcD p m mod (fs.getD j facD) * (fs.getD j facD).k else 0
noncomputable def prF (l : Int) (fs : List FacM) : Nat → Po (El p m mod)
 | 0 => Po.C (el l)
 | n + 1 => prF l fs n * Rg.pow (fcP p m mod (fs.getD n facD)) (fs.getD n facD).k.toNat
end
section
variable {p m : Int} {mod : List Int} [hF : IsF p m mod]
theorem fcD_nn (f : FacM) : 0 ≤ fcD p m mod f := by unfold fcD; omega
theorem fcT_nn {fs : List FacM} (h : ∀ f ∈ fs, 0 ≤ f.k) (j : Nat) : 0 ≤ (if j < fs.length then fcD p m mod (fs.getD j facD) * (fs.getD j facD).k else 0 : Int) := by
 split
 ·rename_i hj; exact Int.mul_nonneg (fcD_nn _) (h _ (getD_mem hj _))
 ·exact Int.le_refl _
theorem fcT_mono {fs : List FacM} (h : ∀ f ∈ fs, 0 ≤ f.k) {a b : Nat} (hab : a ≤ b) : fcT p m mod fs a ≤ fcT p m mod fs b := sumF_mono (fcT_nn h) hab
theorem fcT_succ {fs : List FacM} {j : Nat} (hj : j < fs.length) : fcT p m mod fs (j + 1) = fcT p m mod fs j + fcD p m mod (fs.getD j facD) * (fs.getD j facD).k := by
 have e : fcT p m mod fs (j + 1) = fcT p m mod fs j + (if j < fs.length then fcD p m mod (fs.getD j facD) * (fs.getD j facD).k else 0) := rfl
 rw [e, if_pos hj]
theorem pol_one_k (l : Int) : (pol [l] : Po (El p m mod)) = Po.C (el l) := Po.ext fun j => by
 rw [cf_pol, show ∀ c : El p m mod, Po.C c = Po.mn c 0 from fun _ => rfl, Po.cf_mn]
 match j with
 | 0 => rw [List.getD_cons_zero, if_pos rfl]
 | j + 1 => rw [List.getD_cons_succ, List.getD_nil, if_neg (by omega), el_zero]
end
end Go.Proofs.YtdkahdehodopoaaGreat

namespace Go.Proofs.YtdkahdehodopoaaGreat
open Go.RowKit
section
variable {p m : Int} {mod : List Int} [hF : IsF p m mod]
open Po
structure SqI (f : Po (El p m mod)) (b : Nat) (φ : Nat → Prop) (fs : List FacM) : Prop where
 each : ∀ e ∈ fs, ∃ (Q : Po (El p m mod)) (k : Nat), e.r.xs = il Q ∧ lead Q = 1 ∧ 2 ≤ len Q ∧ 1 ≤ k ∧ φ k ∧ e.k = ((b * k : Nat) : Int) ∧ Sf Q ∧ ∀ P, Ir P → lead P = 1 → (P ∣ Q ↔ mu P f = k)
 all : ∀ P, Ir P → lead P = 1 → 1 ≤ mu P f → φ (mu P f) → ∃ e ∈ fs, e.k = ((b * mu P f : Nat) : Int)
 nd : (fs.map FacM.k).Nodup
theorem SqI.nil {f : Po (El p m mod)} {b : Nat} {φ : Nat → Prop} (h : ∀ P, Ir P → lead P = 1 → 1 ≤ mu P f → ¬ φ (mu P f)) : SqI f b φ [] := ⟨fun e he => by simp at he, fun P hP hl h1 h2 => absurd h2 (h P hP hl h1), by simp⟩
theorem SqI.congr {f : Po (El p m mod)} {b : Nat} {φ ψ : Nat → Prop} {fs : List FacM} (h : SqI f b φ fs) (h1 : ∀ k, φ k → ψ k) (h2 : ∀ P, Ir P → lead P = 1 → 1 ≤ mu P f → ψ (mu P f) → φ (mu P f)) : SqI f b ψ fs :=
 ⟨fun e he => by
  obtain ⟨Q, k, a1, a2, a3, a4, a5, a6⟩ := h.each e he
  exact ⟨Q, k, a1, a2, a3, a4, h1 k a5, a6⟩, fun P hP hl g1 g2 => h.all P hP hl g1 (h2 P hP hl g1 g2), h.nd⟩
theorem SqI.app {f : Po (El p m mod)} {b : Nat} {φ ψ : Nat → Prop} {fs gs : List FacM} (h : SqI f b φ fs) (k : SqI f b ψ gs) (hb : 1 ≤ b) (hd : ∀ n, φ n → ¬ ψ n) : SqI f b (fun n => φ n ∨ ψ n) (fs ++ gs) :=
 ⟨fun e he => by
  rcases List.mem_append.1 he with h1 | h1
  ·obtain ⟨Q, k, a1, a2, a3, a4, a5, a6⟩ := h.each e h1
   exact ⟨Q, k, a1, a2, a3, a4, .inl a5, a6⟩
  ·obtain ⟨Q, k, a1, a2, a3, a4, a5, a6⟩ := k.each e h1
   exact ⟨Q, k, a1, a2, a3, a4, .inr a5, a6⟩, fun P hP hl g1 g2 => by
  rcases g2 with g2 | g2
  ·obtain ⟨e, he, h1⟩ := h.all P hP hl g1 g2
   exact ⟨e, List.mem_append_left _ he, h1⟩
  ·obtain ⟨e, he, h1⟩ := k.all P hP hl g1 g2
   exact ⟨e, List.mem_append_right _ he, h1⟩, by
  rw [List.map_append, List.nodup_append]
  refine ⟨h.nd, k.nd, fun x hx y hy hxy => ?_⟩
  obtain ⟨e, he, rfl⟩ := List.mem_map.1 hx
  obtain ⟨e', he', rfl⟩ := List.mem_map.1 hy
  obtain ⟨Q, k1, _, _, _, _, a5, a6, _⟩ := h.each e he
  obtain ⟨Q', k2, _, _, _, _, b5, b6, _⟩ := k.each e' he'
  rw [a6, b6] at hxy
  have h3 : b * k1 = b * k2 := by omega
  have h4 := Nat.eq_of_mul_eq_mul_left (show 0 < b by omega) h3
  subst h4
  exact hd _ a5 b5⟩
theorem SqI.one {f Q : Po (El p m mod)} {b n : Nat} {r : RowM} (hx : r.xs = il Q) (hl : lead Q = 1) (h2 : 2 ≤ len Q) (hn : 1 ≤ n) (hs : Sf Q) (hQ : ∀ P, Ir P → lead P = 1 → (P ∣ Q ↔ mu P f = n)) : SqI f b (fun k => k = n) [⟨r, ((b * n : Nat) : Int)⟩] :=
 ⟨fun e he => by
  rw [List.mem_singleton.1 he]
  exact ⟨Q, n, hx, hl, h2, hn, rfl, rfl, hs, hQ⟩, fun P hP hlP h1 h3 => ⟨_, List.mem_singleton.2 rfl, by rw [h3]⟩, by simp⟩
structure SqW (f : Po (El p m mod)) (n : Nat) (w c : Po (El p m mod)) : Prop where
 w0 : w ≠ 0
 c0 : c ≠ 0
 w : ∀ P, Ir P → mu P w = if ((mu P f : Nat) : Int) % p ≠ 0 ∧ n ≤ mu P f then 1 else 0
 c : ∀ P, Ir P → mu P c = if ((mu P f : Nat) : Int) % p = 0 then mu P f else mu P f - n
theorem quo_eq {f g : Po (El p m mod)} (hg : g ≠ 0) (h : g ∣ f) : f = quo f g * g := (quo_mul hg h).symm
theorem sqW_start {f : Po (El p m mod)} (hf : f ≠ 0) : SqW f 1 (quo f (Po.gcd f (dP f))) (Po.gcd f (dP f)) := by
 have hg := gcd_ne (f := f) (g := dP f) (.inl hf)
 have he := quo_eq hg (gcd_is f (dP f)).left
 have hw : quo f (Po.gcd f (dP f)) ≠ 0 := fun e => hf (by rw [he, e, Rg.zero_mul])
 have h := sf_rad hf he
 refine ⟨hw, hg, fun P hP => ?_, fun P hP => mu_gcd_dP hP hf⟩
 rw [h.2 P hP]
 by_cases h0 : ((mu P f : Nat) : Int) % p = 0
 ·rw [if_pos h0, if_neg (fun e => e.1 h0)]
 ·rw [if_neg h0, if_pos ⟨h0, by
   rcases Nat.eq_zero_or_pos (mu P f) with e | e
   ·rw [e] at h0; exact absurd (Int.zero_emod p) h0
   ·exact e⟩]
theorem sqW_next {f w c : Po (El p m mod)} {n : Nat} (h : SqW f n w c) (hn : 1 ≤ n) : SqW f (n + 1) (Po.gcd w c) (quo c (Po.gcd w c)) ∧ quo w (Po.gcd w c) ≠ 0 ∧ ∀ P, Ir P → mu P (quo w (Po.gcd w c)) = if ((mu P f : Nat) : Int) % p ≠ 0 ∧ mu P f = n then 1 else 0 := by
 have hg := gcd_ne (f := w) (g := c) (.inl h.w0)
 have e1 := quo_eq hg (gcd_is w c).left
 have e2 := quo_eq hg (gcd_is w c).right
 have q1 : quo w (Po.gcd w c) ≠ 0 := fun e => h.w0 (by rw [e1, e, Rg.zero_mul])
 have q2 : quo c (Po.gcd w c) ≠ 0 := fun e => h.c0 (by rw [e2, e, Rg.zero_mul])
 have hy : ∀ P, Ir P → mu P (Po.gcd w c) = if ((mu P f : Nat) : Int) % p ≠ 0 ∧ n + 1 ≤ mu P f then 1 else 0 := fun P hP => by
  rw [mu_gcd hP h.w0 h.c0, h.w P hP, h.c P hP]
  by_cases h0 : ((mu P f : Nat) : Int) % p = 0
  ·rw [if_pos h0, if_neg (fun e => e.1 h0), if_neg (fun e => e.1 h0)]; omega
  ·rw [if_neg h0]
   by_cases h1 : n + 1 ≤ mu P f
   ·rw [if_pos ⟨h0, by omega⟩, if_pos ⟨h0, h1⟩]; omega
   ·rw [if_neg (c := _ ∧ n + 1 ≤ _) (fun e => h1 e.2)]
    omega
 refine ⟨⟨hg, q2, hy, fun P hP => ?_⟩, q1, fun P hP => ?_⟩
 ·have e3 := mu_mul hP q2 hg
  rw [← e2, h.c P hP, hy P hP] at e3
  by_cases h0 : ((mu P f : Nat) : Int) % p = 0
  ·rw [if_pos h0, if_neg (fun e => e.1 h0)] at e3
   rw [if_pos h0]; omega
  ·rw [if_neg h0] at e3 ⊢
   by_cases h1 : n + 1 ≤ mu P f
   ·rw [if_pos ⟨h0, h1⟩] at e3; omega
   ·rw [if_neg (fun e => h1 e.2)] at e3; omega
 ·have e3 := mu_mul hP q1 hg
  rw [← e1, h.w P hP, hy P hP] at e3
  by_cases h0 : ((mu P f : Nat) : Int) % p = 0
  ·rw [if_neg (fun e => e.1 h0)] at e3 ⊢
   rw [if_neg (fun e => e.1 h0)] at e3; omega
  ·by_cases h1 : n + 1 ≤ mu P f
   ·rw [if_pos ⟨h0, by omega⟩, if_pos ⟨h0, h1⟩] at e3
    rw [if_neg (fun e => by omega)]; omega
   ·rw [if_neg (c := _ ∧ n + 1 ≤ _) (fun e => h1 e.2)] at e3
    by_cases h2 : mu P f = n
    ·rw [if_pos ⟨h0, by omega⟩] at e3
     rw [if_pos ⟨h0, h2⟩]; omega
    ·rw [if_neg (fun e => by omega)] at e3
     rw [if_neg (fun e => h2 e.2)]; omega
theorem sqW_part {f g : Po (El p m mod)} {n : Nat} (hg : g ≠ 0) (h : ∀ P, Ir P → mu P g = if ((mu P f : Nat) : Int) % p ≠ 0 ∧ mu P f = n then 1 else 0) (hl : 2 ≤ len g) : Sf (Po.mon g) ∧ (n : Int) % p ≠ 0 ∧ ∀ P, Ir P → lead P = 1 → (P ∣ Po.mon g ↔ mu P f = n) := by
 have hm := mon_ne hg
 have hmu : ∀ P, Ir P → (P ∣ Po.mon g ↔ 1 ≤ mu P g) := fun P hP => by
  rw [← dvd_iff_mu hP hg]
  exact ⟨fun h => dvd_trans h (mon_dvd g), fun h => dvd_trans h (dvd_mon g)⟩
 have hn : (n : Int) % p ≠ 0 := by
  obtain ⟨P, hP, hPl, hd⟩ := ir_ex hl
  have h1 := (dvd_iff_mu hP hg).1 hd
  rw [h P hP] at h1
  split at h1
  ·rename_i h2; rw [← h2.2]; exact h2.1
  ·omega
 refine ⟨(sf_iff_mu hm).2 fun P hP => ?_, hn, fun P hP hPl => ?_⟩
 ·have h1 : mu P (Po.mon g) ≤ mu P g := mu_mono hP hg (mon_dvd g)
  rw [h P hP] at h1
  split at h1 <;> omega
 ·rw [hmu P hP, h P hP]
  constructor
  ·intro h1
   split at h1
   ·rename_i h2; exact h2.2
   ·omega
  ·intro h1; rw [if_pos ⟨by rw [h1]; exact hn, h1⟩]; omega
theorem sqW_small {f g : Po (El p m mod)} {n : Nat} (hg : g ≠ 0) (h : ∀ P, Ir P → mu P g = if ((mu P f : Nat) : Int) % p ≠ 0 ∧ mu P f = n then 1 else 0) (hl : ¬ 2 ≤ len g) : ∀ P, Ir P → lead P = 1 → ¬ (((mu P f : Nat) : Int) % p ≠ 0 ∧ mu P f = n) := fun P hP hPl h1 => by
 have h2 := h P hP
 rw [if_pos h1] at h2
 have := dvd_len ((dvd_iff_mu hP hg).2 (by omega)) hg
 have := hP.two
 omega
theorem sqW_done {f w c : Po (El p m mod)} {n : Nat} (h : SqW f n w c) (hl : ¬ 2 ≤ len w) : (∀ P, Ir P → lead P = 1 → ((mu P f : Nat) : Int) % p ≠ 0 → mu P f < n) ∧ dP c = 0 ∧ ∀ P, Ir P → lead P = 1 → mu P c = if ((mu P f : Nat) : Int) % p = 0 then mu P f else 0 := by
 have h1 : ∀ P, Ir P → lead P = 1 → ((mu P f : Nat) : Int) % p ≠ 0 → mu P f < n := fun P hP hPl h0 => Nat.lt_of_not_le fun hle => by
  have h2 := h.w P hP
  rw [if_pos ⟨h0, hle⟩] at h2
  have := dvd_len ((dvd_iff_mu hP h.w0).2 (by omega)) h.w0
  have := hP.two
  omega
 have h3 : ∀ P, Ir P → lead P = 1 → mu P c = if ((mu P f : Nat) : Int) % p = 0 then mu P f else 0 := fun P hP hPl => by
  rw [h.c P hP]
  by_cases h0 : ((mu P f : Nat) : Int) % p = 0
  ·rw [if_pos h0, if_pos h0]
  ·have := h1 P hP hPl h0
   rw [if_neg h0, if_neg h0]; omega
 refine ⟨h1, dP_zero_of h.c0 fun P hP hPl => ?_, h3⟩
 rw [h3 P hP hPl]
 split
 ·assumption
 ·exact Int.zero_emod p
theorem mu_mon {P g : Po (El p m mod)} (hP : Ir P) (hg : g ≠ 0) : mu P (Po.mon g) = mu P g := Nat.le_antisymm (mu_mono hP hg (mon_dvd g)) (mu_mono hP (mon_ne hg) (dvd_mon g))
theorem SqI.root {f c : Po (El p m mod)} {b : Nat} {gs : List FacM} (hc : c ≠ 0) (hd : dP c = 0) (h : ∀ P, Ir P → lead P = 1 → mu P c = if ((mu P f : Nat) : Int) % p = 0 then mu P f else 0) (hg : SqI (Po.mon (rtP c)) (b * p.toNat) (fun _ => True) gs) : SqI f b (fun k => (k : Int) % p = 0) gs := by
 have hp2 := hF.p2
 have hr := rtP_ne hd hc
 have hmu : ∀ P, Ir P → lead P = 1 → mu P c = p.toNat * mu P (Po.mon (rtP c)) := fun P hP hPl => by rw [mu_mon hP hr]; exact mu_rtP hP hd hc
 refine ⟨fun e he => ?_, fun P hP hPl h1 h2 => ?_, hg.nd⟩
 ·obtain ⟨Q, k, a1, a2, a3, a4, _, a6, a7, a8⟩ := hg.each e he
  refine ⟨Q, p.toNat * k, a1, a2, a3, ?_, ?_, by rw [a6, Nat.mul_assoc], a7, fun P hP hPl => ?_⟩
  ·have : 1 * 1 ≤ p.toNat * k := Nat.mul_le_mul (by omega) a4
   omega
  ·rw [Int.natCast_mul, Int.toNat_of_nonneg (by omega), Int.mul_emod_right]
  ·rw [a8 P hP hPl]
   have h3 := h P hP hPl
   rw [hmu P hP hPl] at h3
   constructor
   ·intro h4
    rw [h4] at h3
    split at h3
    ·exact h3.symm
    ·have : 1 * 1 ≤ p.toNat * k := Nat.mul_le_mul (by omega) a4
     omega
   ·intro h4
    have h5 : ((mu P f : Nat) : Int) % p = 0 := by rw [h4, Int.natCast_mul, Int.toNat_of_nonneg (by omega), Int.mul_emod_right]
    rw [if_pos h5, h4] at h3
    exact Nat.eq_of_mul_eq_mul_left (by omega) h3
 ·have h3 := h P hP hPl
  rw [if_pos h2, hmu P hP hPl] at h3
  obtain ⟨e, he, h4⟩ := hg.all P hP hPl (by
   rcases Nat.eq_zero_or_pos (mu P (Po.mon (rtP c))) with e | e
   ·rw [e] at h3; omega
   ·exact e) trivial
  exact ⟨e, he, by rw [h4, ← h3, Nat.mul_assoc]⟩
end
end Go.Proofs.YtdkahdehodopoaaGreat

set_option maxRecDepth 100000
namespace Go.Proofs.YtdkahdehodopoaaGreat
open Go.RowKit
def fd1 (P : Program) (t : TypeId) (f : Nat) : Option Nat :=
 match P.underlying t with
 | some (.struct fs) => match fs[f]? with
  | some fd => if isSc P fd.type then some fd.offset else none
  | none => none
 | _ => none
class F1Ty (P : Program) (t : TypeId) (f : Nat) (off : outParam Nat) : Prop where
 off : fd1 P t f = some off
section
variable {P : Program} {N : NB} {M : Nat → Prop} {w0 : World} {L : Fr} {F : List Chunk} {o : Oper} {x : Operand} {t : TypeId}
theorem rField {f off : Nat} {vs : List Value} {v : Value} (ho : o.op = .field t x f) [h : F1Ty P t f off] (hx : ev L x = some (.agg vs.toArray)) (hv : vs[off]? = some v) : Stl P N M w0 o L F v := fun a w hl hm => by
 have h0 := h.off
 unfold fd1 at h0
 split at h0
 ·rename_i fs hu
  split at h0
  ·rename_i fd hf
   split at h0
   ·rename_i hs
    obtain ⟨d, hd, hn⟩ := (scTy_of hs).und
    have hag : (isAgg fd.type).run P w = .ok false w := by
     simp only [isAgg, Sem.run_bind, run_und hd, Result.andThen_ok]
     cases d <;> first | exact hn.elim | rfl
    simp only [Option.some.injEq] at h0
    subst h0
    have hv' : vs.toArray[fd.offset]? = some v := by simpa using hv
    simp [execOp, ho, hl.eval hx, Instr.field, run_und hu, hf, asAgg, part, hag, hv]
   ·cases h0
  ·cases h0
 ·cases h0
end
section
variable {P : Program} {N : NR} {M : Nat → Prop} {w0 : World} {L : Fr} {F : List Chunk}
theorem tr_nilQ (t e : TypeId) {c : Code} {Q : Exit → Fr → List Chunk → Prop} (h : Tr P N M w0 c L (ow2 none t 0 (fcs []) :: rowsCh e (rws []) :: F) Q) : Tr P N M w0 c L F Q := fun ds M1 w1 hb a w hl hm => h ds M1 w1 hb a w hl (nil_mem2 t ((rows_nil e F).mem hm))
end
theorem fcs_one : ∀ gs : List FacM, (prs (fcs gs)).all (·.oneCell') = true
 | [] => rfl
 | x :: gs => by
  have h := fcs_one gs
  show ((x.r.hdr).oneCell' && ((Value.int .i64 x.k).oneCell' && (prs (fcs gs)).all (·.oneCell'))) = true
  rw [h]; rfl
theorem fcs_snoc (fs : List FacM) (A : Option Addr) (c : Nat) (l : List Int) (k : Int) : fcs fs ++ [((Value.slice A l.length c : Value), (Value.int .i64 k : Value))] = fcs (fs ++ [⟨⟨A, c, l⟩, k⟩]) := by rw [fcs_app]; rfl
instance tyF10 : F1Ty Tryz.prog 24 0 0 := ⟨by kernel_rfl⟩
theorem p_le_q {p m : Int} {mod : List Int} (hF : IsF p m mod) : p ≤ pw p m := by
 have hm1 := hF.out.1.1.m1
 have hp2 := hF.p2
 have hq := qp_mul hF
 rw [Nat.mul_comm] at hq
 have h1 : 1 ≤ (pw p m).toNat / p.toNat := by
  refine Nat.one_le_iff_ne_zero.2 fun e => ?_
  rw [e] at hq
  have := hF.q2
  omega
 have h2 : p.toNat * 1 ≤ p.toNat * ((pw p m).toNat / p.toNat) := Nat.mul_le_mul_left _ h1
 omega
section
variable {p m : Int} {mod : List Int} [hF : IsF p m mod]
theorem gk_mod {g : GfM} (hg : GOk g p m mod) : g.mod.length ≤ 1000000 := by
 have h1 := hF.out.1.1.m8
 rw [hg.emod]
 rcases hF.out.1.1.low with h | h
 ·rw [h.2]; simp
 ·omega
theorem nc_el (k : Nat) : (el ((k : Int) % p) : El p m mod) = Rg.nc k := by rw [← nc_val (m := m) (mod := mod), el_of]
theorem nc_el2 {i : Int} (h : 0 ≤ i) : (el ((i + 1) % p) : El p m mod) = Rg.nc (i.toNat + 1) := by
 rw [show i + 1 = ((i.toNat + 1 : Nat) : Int) by omega, nc_el]
end
theorem poly_Derivative_ent : Enters Tryz.prog 73 := enters_of Tryz.func73 (by kernel_rfl) (by kernel_rfl)
theorem poly_Derivative (g : GfM) {p m : Int} {mod : List Int} [hF : IsF p m mod] (hg : GOk g p m mod) (A : Option Addr) (n c : Nat) (a : List Int) (hn : n = a.length) (ha9 : a.length ≤ 1000000) :
  Pure Tryz.prog 73 #[.pointer (some g.p), .slice A n c] [gfR g, ro A (ints a)] (one (fun v ch => ∃ B cap, v = .slice B (il (dP (pol a : Po (El p m mod)))).length cap ∧ ch = ow B 3 cap (ints (il (dP (pol a : Po (El p m mod))))))) := by
 have hq2 := hF.q2
 have hp2 := hF.p2
 have hgm := gk_mod hg
 refine pure_of (args := [.pointer (some g.p), .slice A n c]) 40 Tryz.func73 rfl rfl rfl poly_Derivative_ent ⟨id, id, trivial⟩ (fun w0 => ?_)
 refine tS ?_
 refine tR fun _ _ _ => ?_
 refine pV ?_
 refine tS ?_
 refine tS ?_
 refine tR fun _ _ _ => ?_
 refine pV ?_
 refine sV (rLen rfl rfl) ?_
 refine pV ?_
 refine tC rfl (fun h1 => ?_) (fun h1 => ?_)
 ·try simp only [zbA] at h1
  refine tS ?_
  refine tR fun _ _ _ => ?_
  refine pV ?_
  have hz : (pol a : Po (El p m mod)) = 0 := by rw [List.eq_nil_of_length_eq_zero (l := a) (by omega)]; exact pol_nil
  refine tr_nilI 3 ?_
  rw [hz, show dP (0 : Po (El p m mod)) = 0 from Po.ext fun j => by rw [cf_dP, Po.cf_zero, Rg.mul_zero, Po.cf_zero], il_zero]
  exact tr_ret ⟨trivial, _, _, rfl, ⟨_, rfl, none, 0, rfl, rfl⟩, cs _ _, trivial, trivial⟩
 ·try simp only [zbA] at h1
  refine tK ?_
  refine tS ?_
  refine tR fun _ _ _ => ?_
  refine pV ?_
  refine sV (rLen rfl rfl) ?_
  refine sV (rSub rfl rfl rfl (by omega) (by omega)) ?_
  refine eV (eMakeI rfl rfl rfl rfl rfl (by omega) (by omega) (by omega) (fun A3 => ?_))
  refine pV ?_
  rw [show ((n : Int) - 1).toNat = n - 1 by omega]
  refine tS ?_
  refine tR fun _ _ _ => ?_
  refine pV ?_
  refine eV (eCall1 rfl rfl rfl (gf_Field g hgm) ⟨rfl, trivial⟩ ?_)
  rintro _ _ ⟨Bf, cf, rfl, rfl⟩
  refine sV (rField rfl rfl rfl) ?_
  refine pV ?_
  rw [hg.eP]
  refine tS ?_
  refine tS ?_
  refine tR fun _ _ _ => ?_
  refine pV ?_
  refine sV (rLen rfl rfl) ?_
  refine pV ?_
  refine tB ?_
  refine tr_loop2 (fun (i : Int) (o : List Int) => [(5, .slice A3 (n - 1) (n - 1)), (20, .int .i64 i), (6, .int .i64 p), (19, .int .i64 ((n - 1 : Nat) : Int)), (0, .pointer (some g.p)), (1, .slice A n c), (4, .slice none 0 0)]) (fun (i : Int) (o : List Int) => [ow A3 3 (n - 1) (ints o), gfR g, ro A (ints a)]) (fun (i : Int) (o : List Int) => (0 ≤ i ∧ i ≤ n - 1) ∧ (o.length = n - 1 ∧ AllIn (pw p m) o) ∧ ∀ j : Nat, (j : Int) < i → (el (o.getD j 0) : El p m mod) = Rg.nc (j + 1) * el (a.getD (j + 1) 0)) (fun (i : Int) (o : List Int) => (n - i).toNat) (0) (List.replicate (n - 1) 0) ⟨rfl, rfl, rfl, rfl, rfl, rfl, rfl, trivial⟩ (by first | exact cs _ _ | exact CSub.refl _) (⟨⟨by omega, by omega⟩, ⟨by simp, allIn_rep (by omega) _⟩, fun j hj => by omega⟩) (fun i o hI => ?_)
  obtain ⟨⟨hi0, hi1⟩, ⟨hol, hoi⟩, ho⟩ := hI
  refine tS ?_
  refine tR fun _ _ _ => ?_
  refine pV ?_
  refine tS ?_
  refine tC rfl (fun h6 => ?_) (fun h6 => ?_)
  ·try simp only [zbA] at h6
   refine tK ?_
   refine tS ?_
   refine tB ?_
   refine tS ?_
   refine tR fun _ _ _ => ?_
   iterate 2 refine pV ?_
   refine tr_draw [0, 1, 2, 3, 4, 5, 6, 7, 8, 9, 10, 11, 12, 13] [14] mixed (by kernel_rfl) fun _ _ _ => ?_
   iterate 4 refine pV ?_
   refine sV (rAdd rfl rfl rfl (by omega) (by omega)) ?_
   refine pV ?_
   refine sV (rRem rfl rfl rfl (by omega) (by omega)) ?_
   iterate 2 refine pV ?_
   refine sV (rAdd rfl rfl rfl (by omega) (by omega)) ?_
   refine sV (rIdxI rfl rfl rfl (by omega) (by omega) (by omega)) ?_
   refine sV (rLdI rfl rfl (by omega)) ?_
   refine eV (eCallV rfl rfl rfl (gf_MulE g hg _ _) ⟨rfl, rfl, rfl, trivial⟩ ?_)
   rw [nc_el2 (by omega)]
   refine sV (rIdxI rfl rfl rfl (by omega) (by omega) (by omega)) ?_
   refine eV (eStI rfl rfl rfl rfl (by omega) ?_)
   refine tR fun _ _ _ => ?_
   refine sV (rAdd rfl rfl rfl (by omega) (by omega)) ?_
   refine pV ?_
   refine ⟨i + 1, o.set i.toNat (Rg.nc (i.toNat + 1) * el (a.getD (i + 1).toNat 0) : El p m mod).1, ⟨rfl, rfl, rfl, rfl, rfl, rfl, rfl, trivial⟩, by first | exact cs _ _ | exact CSub.refl _, ?_⟩
   refine ⟨⟨⟨by omega, by omega⟩, ⟨by simpa using hol, hoi.set (El.bd _) _⟩, fun j hj => ?_⟩, by omega⟩
   rw [getD_set]
   by_cases he : i.toNat = j
   ·subst he; rw [if_pos ⟨rfl, by omega⟩, el_of, show (i + 1).toNat = i.toNat + 1 by omega]
   ·rw [if_neg (fun e => he e.1)]; exact ho j (by omega)
  ·try simp only [zbA] at h6
   refine tE ?_
   refine tS ?_
   refine tR fun _ _ _ => ?_
   refine pV ?_
   refine eV (eCallV rfl rfl rfl (poly_trim _ _ _ o (by omega) (by omega) (by omega)) ⟨rfl, trivial⟩ ?_)
   refine pV ?_
   have hp : (pol o : Po (El p m mod)) = dP (pol a) := Po.ext fun j => by
    rw [cf_dP, cf_pol, cf_pol]
    by_cases h : (j : Int) < i
    ·exact ho j h
    ·rw [getD_out (l := a) (by omega), getD_out (l := o) (by omega), el_zero, Rg.mul_zero]
   rw [← hp, il_trim hoi]
   exact tr_ret ⟨trivial, _, _, rfl, ⟨_, rfl, A3, n - 1, rfl, rfl⟩, (cs _ [ow A3 3 (n - 1) (ints o)]).trans (shrink_trim _ _), trivial, trivial⟩
theorem fac_quo_ent : Enters Tryz.prog 74 := enters_of Tryz.func74 (by kernel_rfl) (by kernel_rfl)
theorem fac_quo (g : GfM) {p m : Int} {mod : List Int} [hF : IsF p m mod] (hg : GOk g p m mod) (A : Option Addr) (n c : Nat) (a : List Int) (hn : n = a.length) (ha9 : a.length ≤ 1000000) (B : Option Addr) (k d : Nat) (b : List Int) (hk : k = b.length) (hb9 : b.length ≤ 1000000) (h0 : (pol b : Po (El p m mod)) ≠ 0) :
  Pure Tryz.prog 74 #[.pointer (some g.p), .slice A n c, .slice B k d] [gfR g, ro A (ints a), ro B (ints b)] (one (fun v ch => ∃ B cap, v = .slice B (il (Po.quo (pol a : Po (El p m mod)) (pol b : Po (El p m mod)))).length cap ∧ ch = ow B 3 cap (ints (il (Po.quo (pol a : Po (El p m mod)) (pol b : Po (El p m mod))))))) := by
 refine pure_of (args := [.pointer (some g.p), .slice A n c, .slice B k d]) 19 Tryz.func74 rfl rfl rfl fac_quo_ent ⟨id, id, id, trivial⟩ (fun w0 => ?_)
 refine tS ?_
 refine tR fun _ _ _ => ?_
 refine pV ?_
 refine tS ?_
 refine tR fun _ _ _ => ?_
 iterate 3 refine pV ?_
 refine eV (eCall2 rfl rfl rfl (poly_DivMod g hg A n c a hn (by omega) B k d b hk (by omega) h0) ⟨rfl, rfl, rfl, trivial⟩ ?_)
 rintro _ _ _ ⟨B1, c1, B2, c2, rfl, rfl, rfl⟩
 iterate 7 refine pV ?_
 refine tS ?_
 refine tR fun _ _ _ => ?_
 iterate 2 refine pV ?_
 exact tr_ret ⟨trivial, _, _, rfl, ⟨_, rfl, B1, c1, rfl, rfl⟩, cs _ _, trivial, trivial⟩
theorem fac_root_ent : Enters Tryz.prog 75 := enters_of Tryz.func75 (by kernel_rfl) (by kernel_rfl)
theorem fac_root (g : GfM) {p m : Int} {mod : List Int} [hF : IsF p m mod] (hg : GOk g p m mod) (A : Option Addr) (n c : Nat) (a : List Int) (hn : n = a.length) (ha9 : a.length ≤ 1000000) :
  Pure Tryz.prog 75 #[.pointer (some g.p), .slice A n c] [gfR g, ro A (ints a)] (one (fun v ch => ∃ B cap, v = .slice B (il (rtP (pol a : Po (El p m mod)))).length cap ∧ ch = ow B 3 cap (ints (il (rtP (pol a : Po (El p m mod))))))) := by
 have hq2 := hF.q2
 have hp2 := hF.p2
 have hgm := gk_mod hg
 have heq := hg.eq
 have hq9 := hF.out.1.1.q
 have hpq := p_le_q hF
 have hqd : (pw p m / p).toNat = (pw p m).toNat / p.toNat := by
  obtain ⟨a, ha⟩ := Int.eq_ofNat_of_zero_le (show 0 ≤ pw p m by omega)
  obtain ⟨b, hb⟩ := Int.eq_ofNat_of_zero_le (show 0 ≤ p by omega)
  rw [ha, hb, ← Int.natCast_ediv]
  simp only [Int.toNat_natCast]
 have hd0 : 0 ≤ pw p m / p := Int.ediv_nonneg (by omega) (by omega)
 have hd9 : pw p m / p ≤ pw p m := Int.ediv_le_self _ (by omega)
 have hn0 : 0 ≤ (n : Int) / p := Int.ediv_nonneg (by omega) (by omega)
 have hn9 : (n : Int) / p ≤ n := Int.ediv_le_self _ (by omega)
 refine pure_of (args := [.pointer (some g.p), .slice A n c]) 46 Tryz.func75 rfl rfl rfl fac_root_ent ⟨id, id, trivial⟩ (fun w0 => ?_)
 refine tS ?_
 refine tR fun _ _ _ => ?_
 refine pV ?_
 refine tS ?_
 refine tR fun _ _ _ => ?_
 refine pV ?_
 refine eV (eCall1 rfl rfl rfl (gf_Field g hgm) ⟨rfl, trivial⟩ ?_)
 rintro _ _ ⟨Bf, cf, rfl, rfl⟩
 refine sV (rField rfl rfl rfl) ?_
 refine pV ?_
 rw [hg.eP]
 refine tS ?_
 refine tR fun _ _ _ => ?_
 refine pV ?_
 refine sV (rLen rfl rfl) ?_
 refine pV ?_
 refine sV (rQuo rfl rfl rfl (by omega) (by omega)) ?_
 refine sV (rAdd rfl rfl rfl (by omega) (by omega)) ?_
 refine eV (eMake0 rfl rfl rfl rfl rfl (by omega) (by omega) (by omega) (fun A2 => ?_))
 refine pV ?_
 refine tr_chunks [ow A2 3 ((n : Int) / p + 1).toNat (ints []), gfR g, ro A (ints a)] (cs _ [ow A2 3 ((n : Int) / p + 1).toNat [], gfR g, ro A (ints a)]) ?_
 refine tS ?_
 refine tS ?_
 refine tR fun _ _ _ => ?_
 refine pV ?_
 refine tB ?_
 refine tr_loop4 (fun (i : Int) (B : Option Addr) (cb : Nat) (o : List Int) => [(7, .int .i64 i), (5, .int .i64 p), (6, .slice B o.length cb), (0, .pointer (some g.p)), (1, .slice A n c), (4, .slice none 0 0)]) (fun (i : Int) (B : Option Addr) (cb : Nat) (o : List Int) => [ow B 3 cb (ints o), gfR g, ro A (ints a)]) (fun (i : Int) (B : Option Addr) (cb : Nat) (o : List Int) => (0 ≤ i ∧ i ≤ n + p) ∧ (i = p * (o.length : Int) ∧ o.length ≤ n) ∧ ∀ j : Nat, j < o.length → (el (o.getD j 0) : El p m mod) = Rg.pow (Po.cf (pol a : Po (El p m mod)) (j * p.toNat)) ((pw p m).toNat / p.toNat)) (fun (i : Int) (B : Option Addr) (cb : Nat) (o : List Int) => (n + p - i).toNat) (0) (A2) (((n : Int) / p + 1).toNat) ([]) ⟨rfl, rfl, rfl, rfl, rfl, rfl, trivial⟩ (by first | exact cs _ _ | exact CSub.refl _) (⟨⟨by omega, by omega⟩, ⟨by simp, by simp⟩, fun j hj => by simp at hj⟩) (fun i B cb o hI => ?_)
 obtain ⟨⟨hi0, hi1⟩, ⟨hio, hon⟩, ho⟩ := hI
 refine tS ?_
 refine tS ?_
 refine tR fun _ _ _ => ?_
 iterate 2 refine pV ?_
 refine sV (rLen rfl rfl) ?_
 refine pV ?_
 refine tC rfl (fun h4 => ?_) (fun h4 => ?_)
 ·try simp only [zbA] at h4
  refine tK ?_
  refine tS ?_
  refine tB ?_
  refine tS ?_
  refine tr_draw [0, 1, 2, 3, 4, 5, 7, 6, 8, 9, 10, 11, 12, 13, 14] [] mixed (by kernel_rfl) fun _ _ _ => ?_
  iterate 3 refine pV ?_
  refine sV (rIdxI rfl rfl rfl (by omega) (by omega) (by omega)) ?_
  refine sV (rLdI rfl rfl (by omega)) ?_
  iterate 2 refine pV ?_
  refine eV (eCallV rfl rfl rfl (gf_Order _) ⟨rfl, trivial⟩ ?_)
  rw [heq]
  refine sV (rQuo rfl rfl rfl (by omega) (by omega)) ?_
  refine eV (eCallV rfl rfl rfl (gf_PowE g hg (a.getD i.toNat 0) (pw p m / p) hd0 (by omega)) ⟨rfl, rfl, rfl, trivial⟩ ?_)
  iterate 5 refine pV ?_
  refine tR fun _ _ _ => ?_
  iterate 2 refine pV ?_
  refine eV (eLit1I rfl rfl rfl rfl (fun A7 => ?_))
  refine eV (eAppI rfl rfl rfl rfl rfl (by first | rfl | simp | omega) (by first | rfl | simp | omega) (by first | omega | (simp; omega)) (fun A7a c7a => ?_))
  refine pV ?_
  refine tR fun _ _ _ => ?_
  iterate 2 refine pV ?_
  refine sV (rAdd rfl rfl rfl (by omega) (by omega)) ?_
  refine pV ?_
  refine ⟨i + p, A7a, c7a, o ++ [(Rg.pow (el (a.getD i.toNat 0) : El p m mod) (pw p m / p).toNat).1], ⟨rfl, rfl, rfl, rfl, rfl, rfl, trivial⟩, by first | exact cs _ _ | exact CSub.refl _, ?_⟩
  have hlt : o.length < n := by
   have h1 : (1 : Int) * o.length ≤ p * o.length := Int.mul_le_mul_of_nonneg_right (by omega) (by omega)
   omega
  have hxi : i.toNat = o.length * p.toNat := by
   have h2 : ((o.length * p.toNat : Nat) : Int) = p * o.length := by rw [Int.natCast_mul, Int.toNat_of_nonneg (by omega), Int.mul_comm]
   omega
  refine ⟨⟨⟨by omega, by omega⟩, ⟨?_, by simp; omega⟩, fun j hj => ?_⟩, by omega⟩
  ·rw [List.length_append, List.length_singleton]; push_cast; rw [Int.mul_add, Int.mul_one, ← hio]
  ·rw [List.length_append, List.length_singleton] at hj
   rcases Nat.lt_or_ge j o.length with h | h
   ·rw [List.getD_eq_getElem?_getD, List.getElem?_append_left h, ← List.getD_eq_getElem?_getD]; exact ho j h
   ·rw [show j = o.length by omega, List.getD_eq_getElem?_getD, List.getElem?_append_right (Nat.le_refl _), Nat.sub_self]
    show el (Rg.pow (el (a.getD i.toNat 0) : El p m mod) (pw p m / p).toNat).1 = _
    rw [el_of, hqd, hxi, cf_pol]
 ·try simp only [zbA] at h4
  refine tE ?_
  refine tS ?_
  refine tR fun _ _ _ => ?_
  iterate 2 refine pV ?_
  refine eV (eCall1 rfl rfl rfl (poly_CanonE g hg B o.length cb o rfl (by omega)) ⟨rfl, rfl, trivial⟩ ?_)
  rintro _ _ ⟨B8, c8, rfl, hc8, rfl⟩
  refine pV ?_
  have hp : (pol o : Po (El p m mod)) = rtP (pol a) := Po.ext fun j => by
   show el (o.getD j 0) = Rg.pow (Po.cf (pol a) (j * p.toNat)) ((pw p m).toNat / p.toNat)
   by_cases h : j < o.length
   ·exact ho j h
   ·have h1 : (o.length : Int) * p ≤ (j : Int) * p := Int.mul_le_mul_of_nonneg_right (by omega) (by omega)
    have h2 : ((j * p.toNat : Nat) : Int) = (j : Int) * p := by rw [Int.natCast_mul, Int.toNat_of_nonneg (by omega)]
    have h3 : a.length ≤ j * p.toNat := by rw [Int.mul_comm] at hio; omega
    have h4 : 0 < (pw p m).toNat / p.toNat := Nat.div_pos (by omega) (by omega)
    rw [getD_out (l := o) (by omega), cf_pol, getD_out (l := a) h3, el_zero, Rg.zero_pow h4]
  rw [hp]
  exact tr_ret ⟨trivial, _, _, rfl, ⟨_, rfl, B8, c8, rfl, rfl⟩, cs _ _, trivial, trivial⟩
section
variable {p m : Int} {mod : List Int} [hF : IsF p m mod]
open Po
theorem sqW_le {f w d : Po (El p m mod)} {n : Nat} (hf : f ≠ 0) (h : SqW f n w d) (hl : 2 ≤ len w) : n ≤ len f - 1 := by
 obtain ⟨P, hP, hPl, hd⟩ := ir_ex hl
 have h1 : 1 ≤ mu P w := (mu_le_iff hP h.w0 1).1 (by rw [Rg.pow_one]; exact hd)
 have h2 : n ≤ mu P f := by
  rw [h.w P hP] at h1
  split at h1
  ·rename_i h3; exact h3.2
  ·omega
 have h3 := dvd_len (mu_spec hP hf).1 hf
 rw [len_powN (hP.ne)] at h3
 have h4 : mu P f * 1 ≤ mu P f * (len P - 1) := Nat.mul_le_mul_left _ (by have := hP.two; omega)
 omega
theorem quo_le {f g : Po (El p m mod)} (hg : g ≠ 0) : len (quo f g) ≤ len f := by
 by_cases hk : quo f g = 0
 ·rw [hk, len_zero]; omega
 ·have h1 := Po.div_eq f hg
  have h2 := Po.rem_len f hg
  have h3 := Po.len_mul hk hg
  have h5 := Po.len_pos hk
  have e : Po.quo f g * g = f - Po.rem f g := by grind
  have h4 := Po.len_sub f (Po.rem f g)
  rw [← e] at h4
  omega
theorem rt_facts {d : Po (El p m mod)} (h : dP d = 0) (hl : 2 ≤ len d) : 2 ≤ len (Po.mon (rtP d)) ∧ len (Po.mon (rtP d)) < len d ∧ p.toNat * (len (Po.mon (rtP d)) - 1) = len d - 1 := by
 have h0 : d ≠ 0 := len_pos_iff.1 (by omega)
 have h1 := rtP_len h hl
 have h2 := len_powN (rtP_ne h h0) p.toNat
 rw [rtP_pow h] at h2
 rw [mon_len]
 exact ⟨h1.1, h1.2, by omega⟩
theorem sqI_yes {f w d : Po (El p m mod)} {n b : Nat} {fs : List FacM} {r : RowM} (hI : SqI f b (fun k => k < n ∧ (k : Int) % p ≠ 0) fs) (h : SqW f n w d) (hn : 1 ≤ n) (hb : 1 ≤ b) (hl : 2 ≤ len (quo w (Po.gcd w d))) (hx : r.xs = il (Po.mon (quo w (Po.gcd w d)))) : SqI f b (fun k => k < n + 1 ∧ (k : Int) % p ≠ 0) (fs ++ [⟨r, ((b * n : Nat) : Int)⟩]) := by
 obtain ⟨_, h1, h2⟩ := sqW_next h hn
 obtain ⟨h3, h4, h5⟩ := sqW_part h1 h2 hl
 have h6 := SqI.one (b := b) hx (mon_lead h1) (by rw [mon_len]; exact hl) hn h3 h5
 refine (hI.app h6 hb (fun k hk e => by omega)).congr (fun k hk => ?_) (fun P hP hPl h7 h8 => ?_)
 ·rcases hk with hk | hk
  ·exact ⟨by omega, hk.2⟩
  ·rw [hk]; exact ⟨by omega, h4⟩
 ·rcases Nat.lt_or_ge (mu P f) n with e | e
  ·exact .inl ⟨e, h8.2⟩
  ·exact .inr (by omega)
theorem sqI_no {f w d : Po (El p m mod)} {n b : Nat} {fs : List FacM} (hI : SqI f b (fun k => k < n ∧ (k : Int) % p ≠ 0) fs) (h : SqW f n w d) (hn : 1 ≤ n) (hl : ¬ 2 ≤ len (quo w (Po.gcd w d))) : SqI f b (fun k => k < n + 1 ∧ (k : Int) % p ≠ 0) fs := by
 obtain ⟨_, h1, h2⟩ := sqW_next h hn
 have h3 := sqW_small h1 h2 hl
 refine hI.congr (fun k hk => ⟨by omega, hk.2⟩) (fun P hP hPl h7 h8 => ⟨Nat.lt_of_le_of_ne (by omega) (fun e => h3 P hP hPl ⟨h8.2, e⟩), h8.2⟩)
theorem sqI_fin1 {f w d : Po (El p m mod)} {n b : Nat} {fs : List FacM} (hI : SqI f b (fun k => k < n ∧ (k : Int) % p ≠ 0) fs) (h : SqW f n w d) (hl : ¬ 2 ≤ len w) (hd : ¬ 2 ≤ len d) : SqI f b (fun _ => True) fs := by
 obtain ⟨h1, h2, h3⟩ := sqW_done h hl
 refine hI.congr (fun _ _ => trivial) (fun P hP hPl h7 _ => ?_)
 have h4 : ((mu P f : Nat) : Int) % p ≠ 0 := fun e => by
  have h5 := h3 P hP hPl
  rw [if_pos e] at h5
  have h6 : P ∣ d := by
   have := (mu_le_iff hP h.c0 1).2 (by omega)
   rwa [Rg.pow_one] at this
  have := dvd_len h6 h.c0
  have := hP.two
  omega
 exact ⟨h1 P hP hPl h4, h4⟩
theorem sqI_fin2 {f w d : Po (El p m mod)} {n b : Nat} {fs gs : List FacM} (hI : SqI f b (fun k => k < n ∧ (k : Int) % p ≠ 0) fs) (h : SqW f n w d) (hl : ¬ 2 ≤ len w) (hb : 1 ≤ b) (hg : SqI (Po.mon (rtP d)) (b * p.toNat) (fun _ => True) gs) : SqI f b (fun _ => True) (fs ++ gs) := by
 obtain ⟨h1, h2, h3⟩ := sqW_done h hl
 refine (hI.app (SqI.root h.c0 h2 h3 hg) hb (fun k hk e => hk.2 e)).congr (fun _ _ => trivial) (fun P hP hPl h7 _ => ?_)
 by_cases e : ((mu P f : Nat) : Int) % p = 0
 ·exact .inr e
 ·exact .inl ⟨h1 P hP hPl e, e⟩
end
theorem fac_sqfB_ent : Enters Tryz.prog 45 := enters_of Tryz.func45 (by kernel_rfl) (by kernel_rfl)
theorem fac_sqfB (g : GfM) {p m : Int} {mod : List Int} [hF : IsF p m mod] (hg : GOk g p m mod) (A : Option Addr) (n c : Nat) (f : Po (El p m mod)) (hn : n = Po.len f) (hl : Po.lead f = 1) (h9 : Po.len f ≤ 257) (b : Nat) (hb : 1 ≤ b) (hb9 : b * (Po.len f - 1) ≤ 1000000) (ih : ∀ (f2 : Po (El p m mod)) (b2 : Nat) (A2 : Option Addr) (n2 c2 : Nat), Po.len f2 < Po.len f → n2 = Po.len f2 → Po.lead f2 = 1 → 1 ≤ b2 → b2 * (Po.len f2 - 1) ≤ 1000000 → Pure Tryz.prog 45 #[.pointer (some g.p), .slice A2 n2 c2, .int .i64 b2] [gfR g, ro A2 (ints (il f2))] (two (fun v ch ch2 => ∃ B cap fs, v = .slice B fs.length cap ∧ ch = ow2 B 53 cap (fcs fs) ∧ ch2 = rowsCh 3 (rws fs) ∧ SqI (f2) (b2) (fun _ => True) fs ∧ fs.length ≤ 1000 * Po.len (f2)))) :
  Pure Tryz.prog 45 #[.pointer (some g.p), .slice A n c, .int .i64 b] [gfR g, ro A (ints (il f))] (two (fun v ch ch2 => ∃ B cap fs, v = .slice B fs.length cap ∧ ch = ow2 B 53 cap (fcs fs) ∧ ch2 = rowsCh 3 (rws fs) ∧ SqI (f) (b) (fun _ => True) fs ∧ fs.length ≤ 1000 * Po.len (f))) := by
 have hf : f ≠ 0 := fun e => by
  rw [e] at hl
  exact Fd.one_ne (K := El p m mod) (hl.symm.trans (by unfold Po.lead; exact Po.cf_zero _))
 have hfl := Po.len_pos hf
 have hp2 := hF.p2
 have hgm := gk_mod hg
 have hil := il_length f
 have hstart := sqW_start hf
 have q1 := len_dP f
 have q2 := il_length (dP f)
 have q3 := il_length (Po.gcd f (dP f))
 have q4 := Po.dvd_len (Po.gcd_is f (dP f)).left hf
 refine pure_of (args := [.pointer (some g.p), .slice A n c, .int .i64 b]) 72 Tryz.func45 rfl rfl rfl fac_sqfB_ent ⟨id, id, trivial⟩ (fun w0 => ?_)
 refine tS ?_
 refine tR fun _ _ _ => ?_
 refine pV ?_
 refine tS ?_
 refine tR fun _ _ _ => ?_
 refine pV ?_
 refine tS ?_
 refine tR fun _ _ _ => ?_
 iterate 4 refine pV ?_
 refine eV (eCall1 rfl rfl rfl (poly_Derivative g hg A n c (il f) (by omega) (by omega)) ⟨rfl, rfl, trivial⟩ ?_)
 rintro _ _ ⟨Bd, cd, rfl, rfl⟩
 rw [pol_il]
 refine eV (eCall1 rfl rfl rfl (poly_Gcd g hg A n c (il f) (by omega) (by omega) Bd _ cd (il (dP f)) rfl (by omega) (.inl (by rw [pol_il]; exact hf))) ⟨rfl, rfl, rfl, trivial⟩ ?_)
 rintro _ _ ⟨Bc, cc, rfl, rfl⟩
 refine pV ?_
 rw [pol_il, pol_il]
 refine tS ?_
 refine tR fun _ _ _ => ?_
 iterate 3 refine pV ?_
 refine eV (eCall1 rfl rfl rfl (fac_quo g hg A n c (il f) (by omega) (by omega) Bc _ cc (il (Po.gcd f (dP f))) rfl (by omega) (by rw [pol_il]; exact hstart.c0)) ⟨rfl, rfl, rfl, trivial⟩ ?_)
 rintro _ _ ⟨Bw, cw, rfl, rfl⟩
 refine pV ?_
 rw [pol_il, pol_il]
 refine tS ?_
 refine tS ?_
 refine tR fun _ _ _ => ?_
 refine pV ?_
 refine tB ?_
 refine tr_nilQ 53 3 ?_
 refine tr_loop10 (fun (k : Int) (B : Option Addr) (cb : Nat) (fs : List FacM) (Bc : Option Addr) (cc : Nat) (d : Po (El p m mod)) (Bw : Option Addr) (cw : Nat) (w : Po (El p m mod)) => [(10, .int .i64 k), (7, .slice B fs.length cb), (8, .slice Bc (il d).length cc), (9, .slice Bw (il w).length cw), (0, .pointer (some g.p)), (2, .int .i64 b), (6, .slice none 0 0)]) (fun (k : Int) (B : Option Addr) (cb : Nat) (fs : List FacM) (Bc : Option Addr) (cc : Nat) (d : Po (El p m mod)) (Bw : Option Addr) (cw : Nat) (w : Po (El p m mod)) => [ow2 B 53 cb (fcs fs), rowsCh 3 (rws fs), ow Bc 3 cc (ints (il d)), ow Bw 3 cw (ints (il w)), gfR g, ro A (ints (il f))]) (fun (k : Int) (B : Option Addr) (cb : Nat) (fs : List FacM) (Bc : Option Addr) (cc : Nat) (d : Po (El p m mod)) (Bw : Option Addr) (cw : Nat) (w : Po (El p m mod)) => (1 ≤ k ∧ fs.length + 1 ≤ k.toNat) ∧ k.toNat ≤ Po.len f ∧ SqW f k.toNat w d ∧ SqI f b (fun j => j < k.toNat ∧ (j : Int) % p ≠ 0) fs ∧ Po.len w ≤ Po.len f ∧ Po.len d ≤ Po.len f) (fun (k : Int) (B : Option Addr) (cb : Nat) (fs : List FacM) (Bc : Option Addr) (cc : Nat) (d : Po (El p m mod)) (Bw : Option Addr) (cw : Nat) (w : Po (El p m mod)) => Po.len f - k.toNat) (1) (none) (0) ([]) (Bc) (cc) (Po.gcd f (dP f)) (Bw) (cw) (Po.quo f (Po.gcd f (dP f))) ⟨rfl, rfl, rfl, rfl, rfl, rfl, rfl, trivial⟩ (by first | exact cs _ _ | exact CSub.refl _) (⟨⟨by omega, by simp⟩, by show 1 ≤ _; omega, hstart, SqI.nil (fun P _ _ h1 h2 => by have := h2.1; simp at this; omega), quo_le hstart.c0, Po.dvd_len (Po.gcd_is f (dP f)).left hf⟩) (fun k B cb fs Bc cc d Bw cw w hI => ?_)
 obtain ⟨⟨hk0, hk1⟩, hkl, hS, hQ, hwl, hdl⟩ := hI
 refine tS ?_
 refine tS ?_
 refine tR fun _ _ _ => ?_
 refine pV ?_
 refine sV (rLen rfl rfl) ?_
 refine pV ?_
 refine tC rfl (fun h5 => ?_) (fun h5 => ?_)
 ·try simp only [zbA] at h5
  refine tK ?_
  refine tS ?_
  refine tB ?_
  refine tS ?_
  have hw2 : 2 ≤ Po.len w := by rw [← il_length]; omega
  have hnx := sqW_next hS (n := k.toNat) (by omega)
  have hkf := sqW_le hf hS hw2
  have hgl := Po.dvd_len (Po.gcd_is w d).left hS.w0
  have hql := quo_le (f := d) hnx.1.w0
  have e1 := il_length w
  have e2 := il_length d
  have e3 := il_length (Po.gcd w d)
  have e4 := il_length (Po.quo w (Po.gcd w d))
  have e5 := quo_le (f := w) hnx.1.w0
  have hkb : k.toNat * b ≤ (Po.len f - 1) * b := Nat.mul_le_mul_right _ hkf
  rw [Nat.mul_comm (Po.len f - 1)] at hkb
  have hkb2 : k * (b : Int) = ((b * k.toNat : Nat) : Int) := by rw [Nat.mul_comm, Int.natCast_mul, Int.toNat_of_nonneg (by omega)]
  have hkb3 : b * k.toNat ≤ 1000000 := by rw [Nat.mul_comm]; omega
  refine tR fun _ _ _ => ?_
  iterate 3 refine pV ?_
  refine eV (eCall1 rfl rfl rfl (poly_Gcd g hg Bw _ cw (il w) rfl (by omega) Bc _ cc (il d) rfl (by omega) (.inl (by rw [pol_il]; exact hS.w0))) ⟨rfl, rfl, rfl, trivial⟩ ?_)
  rintro _ _ ⟨By, cy, rfl, rfl⟩
  refine pV ?_
  rw [pol_il, pol_il]
  refine tS ?_
  refine tS ?_
  refine tR fun _ _ _ => ?_
  iterate 3 refine pV ?_
  refine eV (eCall1 rfl rfl rfl (fac_quo g hg Bw _ cw (il w) rfl (by omega) By _ cy (il (Po.gcd w d)) rfl (by omega) (by rw [pol_il]; exact hnx.1.w0)) ⟨rfl, rfl, rfl, trivial⟩ ?_)
  rintro _ _ ⟨Bp, cp, rfl, rfl⟩
  refine pV ?_
  rw [pol_il, pol_il]
  refine tS ?_
  refine tR fun _ _ _ => ?_
  refine pV ?_
  refine sV (rLen rfl rfl) ?_
  refine pV ?_
  refine tC rfl (fun h9 => ?_) (fun h9 => ?_)
  ·try simp only [zbA] at h9
   refine tR fun _ _ _ => ?_
   iterate 3 refine pV ?_
   refine eV (eCall1 rfl rfl rfl (fac_monic g hg Bp _ cp (il (Po.quo w (Po.gcd w d))) rfl (by omega) (by rw [pol_il]; exact hnx.2.1)) ⟨rfl, rfl, trivial⟩ ?_)
   rintro _ _ ⟨Bm, cm, rfl, rfl⟩
   rw [pol_il]
   iterate 2 refine pV ?_
   refine sV (rMul rfl rfl rfl (by omega) (by omega)) ?_
   rw [hkb2]
   refine sV (rBuild rfl rfl) ?_
   refine eV (eLitS rfl rfl rfl rfl (fun p10 => ?_))
   refine eV (eApp2 rfl rfl rfl rfl rfl (by first | rfl | simp) rfl (by first | (simp; done) | (simp; omega)) (by first | (simp; done) | (simp; omega)) (fun A10a c10a => ?_))
   refine pV ?_
   rw [fcs_snoc, fcs_length]
   refine tR fun _ _ _ => ?_
   iterate 4 refine pV ?_
   refine eV (eCall1 rfl rfl rfl (fac_quo g hg Bc _ cc (il d) rfl (by omega) By _ cy (il (Po.gcd w d)) rfl (by omega) (by rw [pol_il]; exact hnx.1.w0)) ⟨rfl, rfl, rfl, trivial⟩ ?_)
   rintro _ _ ⟨Bq, cq, rfl, rfl⟩
   iterate 2 refine pV ?_
   rw [pol_il, pol_il]
   refine tR fun _ _ _ => ?_
   refine pV ?_
   refine sV (rAdd rfl rfl rfl (by omega) (by omega)) ?_
   refine pV ?_
   refine ⟨k + 1, A10a, c10a, fs ++ [⟨⟨Bm, cm, il (Po.mon (Po.quo w (Po.gcd w d)))⟩, ((b * k.toNat : Nat) : Int)⟩], Bq, cq, Po.quo d (Po.gcd w d), By, cy, Po.gcd w d, ⟨rfl, rfl, rfl, rfl, rfl, rfl, rfl, trivial⟩, by rw [rws_app]; exact rows_app (r := ⟨Bm, cm, il (Po.mon (Po.quo w (Po.gcd w d)))⟩), ?_⟩
   have hs1 : (k + 1).toNat = k.toNat + 1 := by omega
   refine ⟨⟨⟨by omega, by simp; omega⟩, by omega, by rw [hs1]; exact hnx.1, ?_, by omega, by omega⟩, by omega⟩
   rw [hs1]
   exact sqI_yes hQ hS (by omega) hb (by rw [← il_length]; omega) rfl
  ·try simp only [zbA] at h9
   refine tK ?_
   refine tR fun _ _ _ => ?_
   iterate 4 refine pV ?_
   refine eV (eCall1 rfl rfl rfl (fac_quo g hg Bc _ cc (il d) rfl (by omega) By _ cy (il (Po.gcd w d)) rfl (by omega) (by rw [pol_il]; exact hnx.1.w0)) ⟨rfl, rfl, rfl, trivial⟩ ?_)
   rintro _ _ ⟨Bq, cq, rfl, rfl⟩
   iterate 2 refine pV ?_
   rw [pol_il, pol_il]
   refine tR fun _ _ _ => ?_
   refine pV ?_
   refine sV (rAdd rfl rfl rfl (by omega) (by omega)) ?_
   refine pV ?_
   refine ⟨k + 1, B, cb, fs, Bq, cq, Po.quo d (Po.gcd w d), By, cy, Po.gcd w d, ⟨rfl, rfl, rfl, rfl, rfl, rfl, rfl, trivial⟩, by first | exact cs _ _ | exact CSub.refl _, ?_⟩
   have hs1 : (k + 1).toNat = k.toNat + 1 := by omega
   refine ⟨⟨⟨by omega, by omega⟩, by omega, by rw [hs1]; exact hnx.1, ?_, by omega, by omega⟩, by omega⟩
   rw [hs1]
   exact sqI_no hQ hS (by omega) (by rw [← il_length]; omega)
 ·try simp only [zbA] at h5
  refine tE ?_
  refine tS ?_
  refine tS ?_
  refine tR fun _ _ _ => ?_
  refine pV ?_
  refine sV (rLen rfl rfl) ?_
  refine pV ?_
  refine tC rfl (fun h12 => ?_) (fun h12 => ?_)
  ·try simp only [zbA] at h12
   have hw1 : ¬ 2 ≤ Po.len w := by rw [← il_length]; omega
   have hd2 : 2 ≤ Po.len d := by rw [← il_length]; omega
   have hdn := sqW_done hS hw1
   have hrt := rt_facts hdn.2.1 hd2
   have e2 := il_length d
   have e3 := il_length (rtP d)
   have e4 := il_length (Po.mon (rtP d))
   have e5 := Po.mon_len (rtP d)
   have hrb : b * p.toNat * (Po.len (Po.mon (rtP d)) - 1) ≤ 1000000 := by
    rw [Nat.mul_assoc, hrt.2.2]
    exact Nat.le_trans (Nat.mul_le_mul_left b (by omega)) hb9
   have hbp : b * p.toNat * 1 ≤ b * p.toNat * (Po.len (Po.mon (rtP d)) - 1) := Nat.mul_le_mul_left _ (by omega)
   have hbp2 : (b : Int) * p = ((b * p.toNat : Nat) : Int) := by rw [Int.natCast_mul, Int.toNat_of_nonneg (by omega)]
   refine tR fun _ _ _ => ?_
   iterate 5 refine pV ?_
   refine eV (eCall1 rfl rfl rfl (fac_root g hg Bc _ cc (il d) rfl (by omega)) ⟨rfl, rfl, trivial⟩ ?_)
   rintro _ _ ⟨Br, cr, rfl, rfl⟩
   rw [pol_il]
   refine eV (eCall1 rfl rfl rfl (fac_monic g hg Br _ cr (il (rtP d)) rfl (by omega) (by rw [pol_il]; exact rtP_ne hdn.2.1 hS.c0)) ⟨rfl, rfl, trivial⟩ ?_)
   rintro _ _ ⟨Bn, cn, rfl, rfl⟩
   rw [pol_il]
   iterate 2 refine pV ?_
   refine eV (eCall1 rfl rfl rfl (gf_Field g hgm) ⟨rfl, trivial⟩ ?_)
   rintro _ _ ⟨Bf, cf, rfl, rfl⟩
   refine sV (rField rfl rfl rfl) ?_
   rw [hg.eP]
   refine sV (rMul rfl rfl rfl (by omega) (by omega)) ?_
   rw [hbp2]
   refine eV (eCall2 rfl rfl rfl (ih (Po.mon (rtP d)) (b * p.toNat) Bn _ cn (by omega) (by rw [il_length]) (Po.mon_lead (rtP_ne hdn.2.1 hS.c0)) (Nat.mul_pos hb (by omega)) hrb) ⟨rfl, rfl, rfl, trivial⟩ ?_)
   rintro _ _ _ ⟨Bg, cg, gs, rfl, rfl, rfl, hgs, hgl⟩
   refine eV (eApp2G (ps := fcs fs) (qs := fcs gs) rfl rfl rfl rfl rfl (by simp) (by simp) (fcs_one gs) (by simp; omega) (by simp; omega) (fun A13a c13a => ?_))
   refine pV ?_
   rw [← fcs_app, fcs_length]
   have hfin := sqI_fin2 hQ hS hw1 hb hgs
   refine tS ?_
   refine tR fun _ _ _ => ?_
   iterate 2 refine pV ?_
   first
    | exact tr_ret ⟨trivial, _, _, rfl, ⟨_, _, rfl, A13a, c13a, fs ++ gs, rfl, rfl, rfl, hfin, by rw [List.length_append]; omega⟩, (cs _ [ow2 A13a 53 c13a (fcs (fs ++ gs)), rowsCh 3 (rws fs), rowsCh 3 (rws gs)]).trans (by rw [rws_app]; exact CSub.cons _ (rows_join _ _ _)), trivial, trivial, trivial⟩
    | exact tr_ret ⟨trivial, _, _, rfl, ⟨_, _, rfl, B, cb, fs, rfl, rfl, rfl, sqI_fin1 hQ hS (by rw [← il_length]; omega) (by rw [← il_length]; omega), by omega⟩, cs _ _, trivial, trivial, trivial⟩
  ·try simp only [zbA] at h12
   refine tK ?_
   refine tS ?_
   refine tR fun _ _ _ => ?_
   iterate 2 refine pV ?_
   first
    | exact tr_ret ⟨trivial, _, _, rfl, ⟨_, _, rfl, A13a, c13a, fs ++ gs, rfl, rfl, rfl, hfin, by rw [List.length_append]; omega⟩, (cs _ [ow2 A13a 53 c13a (fcs (fs ++ gs)), rowsCh 3 (rws fs), rowsCh 3 (rws gs)]).trans (by rw [rws_app]; exact CSub.cons _ (rows_join _ _ _)), trivial, trivial, trivial⟩
    | exact tr_ret ⟨trivial, _, _, rfl, ⟨_, _, rfl, B, cb, fs, rfl, rfl, rfl, sqI_fin1 hQ hS (by rw [← il_length]; omega) (by rw [← il_length]; omega), by omega⟩, cs _ _, trivial, trivial, trivial⟩
theorem fac_sqfN (g : GfM) {p m : Int} {mod : List Int} [hF : IsF p m mod] (hg : GOk g p m mod) : ∀ (N : Nat) (f : Po (El p m mod)) (b : Nat) (A : Option Addr) (n c : Nat), Po.len f ≤ N → n = Po.len f → Po.lead f = 1 → Po.len f ≤ 257 → 1 ≤ b → b * (Po.len f - 1) ≤ 1000000 → Pure Tryz.prog 45 #[.pointer (some g.p), .slice A n c, .int .i64 b] [gfR g, ro A (ints (il f))] (two (fun v ch ch2 => ∃ B cap fs, v = .slice B fs.length cap ∧ ch = ow2 B 53 cap (fcs fs) ∧ ch2 = rowsCh 3 (rws fs) ∧ SqI (f) (b) (fun _ => True) fs ∧ fs.length ≤ 1000 * Po.len (f)))
 | 0, f, b, A, n, c, hN, hn, hl, h9, hb, hb9 => fac_sqfB g hg A n c f hn hl h9 b hb hb9 fun f2 b2 A2 n2 c2 h2 => absurd h2 (by omega)
 | N + 1, f, b, A, n, c, hN, hn, hl, h9, hb, hb9 => fac_sqfB g hg A n c f hn hl h9 b hb hb9 fun f2 b2 A2 n2 c2 h2 h3 h4 h5 h6 => fac_sqfN g hg N f2 b2 A2 n2 c2 (by omega) h3 h4 (by omega) h5 h6
theorem fac_sqf (g : GfM) {p m : Int} {mod : List Int} [hF : IsF p m mod] (hg : GOk g p m mod) (A : Option Addr) (n c : Nat) (f : Po (El p m mod)) (hn : n = Po.len f) (hl : Po.lead f = 1) (h9 : Po.len f ≤ 257) : Pure Tryz.prog 45 #[.pointer (some g.p), .slice A n c, .int .i64 1] [gfR g, ro A (ints (il f))] (two (fun v ch ch2 => ∃ B cap fs, v = .slice B fs.length cap ∧ ch = ow2 B 53 cap (fcs fs) ∧ ch2 = rowsCh 3 (rws fs) ∧ SqI (f) (1) (fun _ => True) fs ∧ fs.length ≤ 1000 * Po.len (f))) :=
 fac_sqfN g hg _ f 1 A n c (Nat.le_refl _) hn hl h9 (Nat.le_refl _) (by omega)
end Go.Proofs.YtdkahdehodopoaaGreat

namespace Go.Proofs.YtdkahdehodopoaaGreat
open Go
def RD {α : Type} (d : Nat) : Result α → Prop
 | .ok _ w => d ≤ w.drawn
 | .halt _ w => d ≤ w.drawn
def GD (d : Nat) : GStep → Prop
 | .ended _ _ _ => True
 | .go _ w _ => d ≤ w.drawn
 | .comm _ _ _ _ w _ => d ≤ w.drawn
 | .spawn _ _ w _ => d ≤ w.drawn
 | .count _ w _ => d ≤ w.drawn
 | .timer _ _ w _ => d ≤ w.drawn
 | .alone _ _ w _ => d ≤ w.drawn
 | .newcoro _ _ _ w _ => d ≤ w.drawn
 | .coroswitch _ _ _ w _ => d ≤ w.drawn
 | .collect _ w _ => d ≤ w.drawn
 | .watch _ w _ => d ≤ w.drawn
theorem RD.mono {α : Type} {d e : Nat} {r : Result α} (h : RD e r) (hd : d ≤ e) : RD d r := by cases r <;> exact Nat.le_trans hd h
theorem GD.mono {d e : Nat} {r : GStep} (h : GD e r) (hd : d ≤ e) : GD d r := by cases r <;> first | trivial | exact Nat.le_trans hd h
theorem gd_after {d : Nat} {es : Array Event} {s : GStep} (h : GD d s) : GD d (GStep.after es s) := by cases s <;> exact h
theorem ask_drawn {α : Type} : ∀ (k : Ask α) (w : World), w.drawn ≤ (w.ask k).2.drawn
 | .done a, w => Nat.le_refl _
 | .ask what range k, w => by
  unfold World.ask
  simp only
  split
  ·exact ask_drawn _ w
  ·exact Nat.le_trans (Nat.le_succ _) (ask_drawn _ { w with drawn := w.drawn + 1 })
theorem sys_drawn (c : Sys) (w : World) : w.drawn ≤ (w.sys c).2.drawn := by
 have h := ask_drawn (Kernel.perform c w.os) w
 unfold World.sys
 split
 ·exact Nat.le_refl _
 ·rename_i heq
  rw [heq] at h
  exact h
theorem view_drawn {p : Program} {w w' : World} {a k : Addr} {u : TypeId} {v : Value} {b : Bool} {l : List Addr} (h : w.viewStore p a u k v b = .ok (w', l)) : w'.drawn = w.drawn := by
 unfold World.viewStore at h
 simp only [bind, Except.bind, pure, Except.pure, throw, throwThe, MonadExceptOf.throw] at h
 repeat' split at h
 all_goals first
  | (cases h; done)
  | (cases h; rfl)
  | skip
theorem far_drawn {p : Program} {w w' : World} {a : Addr} {v : Value} {b : Bool} {l : List Addr} (h : w.farStore p a v b = .ok (w', l)) : w'.drawn = w.drawn := by
 unfold World.farStore at h
 split at h
 ·split at h
  ·rename_i h2
   simp only [Except.ok.injEq] at h
   subst h
   exact view_drawn h2
  ·cases h
 ·cases h
theorem freeze_drawn (w : World) (a : Addr) (n : Nat) : (w.freeze a n).drawn = w.drawn := by
 unfold World.freeze
 split <;> rfl
theorem run_rd {α : Type} (p : Program) : ∀ (s : Sem α) (w : World), RD w.drawn (s.run p w)
 | .pure a, w => by unfold Sem.run; exact Nat.le_refl _
 | .load m a k, w => by
  unfold Sem.run
  split
  ·exact run_rd p _ w
  ·split
   ·exact run_rd p _ w
   ·exact Nat.le_refl _
 | .store m a v k, w => by
  have h1 := run_rd p k
  cases v <;> simp only [Sem.run] <;> first
   | exact Nat.le_refl _
   | (split <;> split <;> first | exact Nat.le_refl _ | exact h1 (w.setCell _ _) | (rename_i h; exact (h1 _).mono (by rw [far_drawn h]; exact Nat.le_refl _)))
 | .new o k, w => by unfold Sem.run; exact run_rd p _ _
 | .shape r k, w => by unfold Sem.run; exact run_rd p _ _
 | .freeze a n k, w => by unfold Sem.run; exact (run_rd p k _).mono (by rw [freeze_drawn]; exact Nat.le_refl _)
 | .frozen a k, w => by unfold Sem.run; exact run_rd p _ _
 | .getObj r k, w => by
  unfold Sem.run
  split
  ·exact Nat.le_refl _
  ·exact run_rd p _ _
  ·exact Nat.le_refl _
 | .setObj r o k, w => by
  unfold Sem.run
  split
  ·exact Nat.le_refl _
  ·exact run_rd p k _
  ·exact Nat.le_refl _
 | .choose q k, w => by
  unfold Sem.run
  split
  ·exact run_rd p _ _
  ·exact (run_rd p _ { w with drawn := w.drawn + 1 }).mono (Nat.le_succ _)
 | .sys c k, w => by unfold Sem.run; exact (run_rd p _ _).mono (sys_drawn c w)
 | .program k, w => by unfold Sem.run; exact run_rd p _ _
 | .mark m k, w => by unfold Sem.run; exact run_rd p _ _
 | .halt h, w => by unfold Sem.run; exact Nat.le_refl _
theorem runT_rd {α : Type} (p : Program) : ∀ (s : Sem α) (w : World) (es : Array Event), RD w.drawn (s.runT p w es).1
 | .pure a, w, es => by unfold Sem.runT; exact Nat.le_refl _
 | .load m a k, w, es => by
  unfold Sem.runT
  split
  ·exact runT_rd p _ w _
  ·split
   ·exact runT_rd p _ w _
   ·exact Nat.le_refl _
 | .store m a v k, w, es => by
  have h1 := runT_rd p k
  cases v <;> simp only [Sem.runT] <;> first
   | exact Nat.le_refl _
   | (split <;> split <;> first | exact Nat.le_refl _ | exact h1 (w.setCell _ _) _ | (rename_i h; exact (h1 _ _).mono (by rw [far_drawn h]; exact Nat.le_refl _)))
 | .new o k, w, es => by unfold Sem.runT; exact runT_rd p _ _ _
 | .shape r k, w, es => by unfold Sem.runT; exact runT_rd p _ _ _
 | .freeze a n k, w, es => by unfold Sem.runT; exact (runT_rd p k _ _).mono (by rw [freeze_drawn]; exact Nat.le_refl _)
 | .frozen a k, w, es => by unfold Sem.runT; exact runT_rd p _ _ _
 | .getObj r k, w, es => by
  unfold Sem.runT
  split
  ·exact Nat.le_refl _
  ·exact runT_rd p _ _ _
  ·exact Nat.le_refl _
 | .setObj r o k, w, es => by
  unfold Sem.runT
  split
  ·exact Nat.le_refl _
  ·exact runT_rd p k _ _
  ·exact Nat.le_refl _
 | .choose q k, w, es => by
  unfold Sem.runT
  split
  ·exact runT_rd p _ _ _
  ·exact (runT_rd p _ { w with drawn := w.drawn + 1 } _).mono (Nat.le_succ _)
 | .sys c k, w, es => by unfold Sem.runT; exact (runT_rd p _ _ _).mono (sys_drawn c w)
 | .program k, w, es => by unfold Sem.runT; exact runT_rd p _ _ _
 | .mark m k, w, es => by unfold Sem.runT; exact runT_rd p _ _ _
 | .halt h, w, es => by unfold Sem.runT; exact Nat.le_refl _
theorem run_ok {α : Type} {p : Program} {s : Sem α} {w w' : World} {a : α} (h : s.run p w = .ok a w') : w.drawn ≤ w'.drawn := by have := run_rd p s w; rw [h] at this; exact this
theorem run_no {α : Type} {p : Program} {s : Sem α} {w w' : World} {a : Halt} (h : s.run p w = .halt a w') : w.drawn ≤ w'.drawn := by have := run_rd p s w; rw [h] at this; exact this
theorem runT_ok {α : Type} {p : Program} {s : Sem α} {w w' : World} {a : α} {es es' : Array Event} (h : s.runT p w es = (.ok a w', es')) : w.drawn ≤ w'.drawn := by have := runT_rd p s w es; rw [h] at this; exact this
theorem runT_no {α : Type} {p : Program} {s : Sem α} {w w' : World} {a : Halt} {es es' : Array Event} (h : s.runT p w es = (.halt a w', es')) : w.drawn ≤ w'.drawn := by have := runT_rd p s w es; rw [h] at this; exact this
theorem runT1_ok {α : Type} {p : Program} {s : Sem α} {w w' : World} {a : α} {es : Array Event} (h : (s.runT p w es).1 = .ok a w') : w.drawn ≤ w'.drawn := by have := runT_rd p s w es; rw [h] at this; exact this
theorem runT1_no {α : Type} {p : Program} {s : Sem α} {w w' : World} {a : Halt} {es : Array Event} (h : (s.runT p w es).1 = .halt a w') : w.drawn ≤ w'.drawn := by have := runT_rd p s w es; rw [h] at this; exact this
theorem itT_ok {α : Type} {p : Program} {b : Bool} {s : Sem α} {w w' : World} {a : α} {es es' : Array Event} (h : (if b then s.runT p w es else (s.run p w, es')).1 = .ok a w') : w.drawn ≤ w'.drawn := by
 cases b
 ·exact run_ok h
 ·exact runT1_ok h
theorem itT_no {α : Type} {p : Program} {b : Bool} {s : Sem α} {w w' : World} {a : Halt} {es es' : Array Event} (h : (if b then s.runT p w es else (s.run p w, es')).1 = .halt a w') : w.drawn ≤ w'.drawn := by
 cases b
 ·exact run_no h
 ·exact runT1_no h
theorem gd_doReturn (p : Program) (main : Bool) (fr : Frame) (cs : List Frame) (dying : Option Dying) (v : Value) (w : World) : GD w.drawn (doReturn p main fr cs dying v w) := by
 unfold doReturn
 repeat' (first | apply gd_after | split)
 all_goals try (first | trivial | (first | exact Nat.le_refl _ | exact run_ok (by assumption) | exact run_no (by assumption) | exact runT_ok (by assumption) | exact runT_no (by assumption) | exact runT1_ok (by assumption) | exact runT1_no (by assumption) | assumption))
theorem gd_endWith (w : World) (fd : Nat) (b : ByteArray) (o : Outcome) : GD w.drawn (endWith w fd b o) := by
 unfold endWith
 repeat' (first | apply gd_after | split)
 all_goals try (first | trivial | (first | exact Nat.le_refl _ | exact run_ok (by assumption) | exact run_no (by assumption) | exact runT_ok (by assumption) | exact runT_no (by assumption) | exact runT1_ok (by assumption) | exact runT1_no (by assumption) | assumption))
theorem gd_endThrow (fr : Frame) (m : String) (w : World) : GD w.drawn (endThrow fr m w) := by
 unfold endThrow
 repeat' (first | apply gd_after | split)
 all_goals try (first | trivial | (first | exact Nat.le_refl _ | exact run_ok (by assumption) | exact run_no (by assumption) | exact runT_ok (by assumption) | exact runT_no (by assumption) | exact runT1_ok (by assumption) | exact runT1_no (by assumption) | assumption))
theorem gd_endPrinting (p : Program) (fr : Frame) (v : Value) (w : World) : GD w.drawn (endPrinting p fr v w) := by
 unfold endPrinting
 dsimp only
 split
 ·exact gd_endThrow _ _ _
 ·trivial
theorem gd_dieOf (fr : Frame) (l : List ByteArray) (m : String) (b : Bool) (w : World) : GD w.drawn (dieOf fr l m b w) := Nat.le_refl _
theorem gd_endFatal (p : Program) (fr : Frame) (cs : List Frame) (dying : Option Dying) (m : String) (w : World) : GD w.drawn (endFatal p fr cs dying m w) := by
 unfold endFatal
 extract_lets chain raw shown
 generalize shown = sh
 split
 ·exact (gd_dieOf _ _ _ _ _).mono (by (first | exact Nat.le_refl _ | exact run_ok (by assumption) | exact run_no (by assumption) | exact runT_ok (by assumption) | exact runT_no (by assumption) | exact runT1_ok (by assumption) | exact runT1_no (by assumption) | assumption))
 ·trivial
 ·trivial
theorem gd_writeOn (p : Program) (fr : Frame) (d : Dying) (f : Fatal) (w : World) : GD w.drawn (writeOn p fr d f w) := by
 unfold writeOn
 extract_lets on
 split
 ·trivial
 ·extract_lets write
  generalize write = sh
  split <;> first | trivial | (first | exact Nat.le_refl _ | exact run_ok (by assumption) | exact run_no (by assumption) | exact runT_ok (by assumption) | exact runT_no (by assumption) | exact runT1_ok (by assumption) | exact runT1_no (by assumption) | assumption)
theorem gd_die (p : Program) (fr : Frame) (d : Dying) (w : World) : GD w.drawn (die p fr d w) := by
 unfold die
 repeat' (first | apply gd_after | split)
 all_goals try (first | trivial | (first | exact Nat.le_refl _ | exact run_ok (by assumption) | exact run_no (by assumption) | exact runT_ok (by assumption) | exact runT_no (by assumption) | exact runT1_ok (by assumption) | exact runT1_no (by assumption) | assumption) | exact (gd_doReturn _ _ _ _ _ _ _).mono (by (first | exact Nat.le_refl _ | exact run_ok (by assumption) | exact run_no (by assumption) | exact runT_ok (by assumption) | exact runT_no (by assumption) | exact runT1_ok (by assumption) | exact runT1_no (by assumption) | assumption)) | exact (gd_endWith _ _ _ _).mono (by (first | exact Nat.le_refl _ | exact run_ok (by assumption) | exact run_no (by assumption) | exact runT_ok (by assumption) | exact runT_no (by assumption) | exact runT1_ok (by assumption) | exact runT1_no (by assumption) | assumption)) | exact (gd_endThrow _ _ _).mono (by (first | exact Nat.le_refl _ | exact run_ok (by assumption) | exact run_no (by assumption) | exact runT_ok (by assumption) | exact runT_no (by assumption) | exact runT1_ok (by assumption) | exact runT1_no (by assumption) | assumption)) | exact (gd_endPrinting _ _ _ _).mono (by (first | exact Nat.le_refl _ | exact run_ok (by assumption) | exact run_no (by assumption) | exact runT_ok (by assumption) | exact runT_no (by assumption) | exact runT1_ok (by assumption) | exact runT1_no (by assumption) | assumption)) | exact (gd_endFatal _ _ _ _ _ _).mono (by (first | exact Nat.le_refl _ | exact run_ok (by assumption) | exact run_no (by assumption) | exact runT_ok (by assumption) | exact runT_no (by assumption) | exact runT1_ok (by assumption) | exact runT1_no (by assumption) | assumption)) | exact (gd_writeOn _ _ _ _ _).mono (by (first | exact Nat.le_refl _ | exact run_ok (by assumption) | exact run_no (by assumption) | exact runT_ok (by assumption) | exact runT_no (by assumption) | exact runT1_ok (by assumption) | exact runT1_no (by assumption) | assumption)))
theorem gd_early (p : Program) (fr : Frame) (cs : List Frame) (dying : Option Dying) (g : Nat) (w : World) : GD w.drawn (early p fr cs dying g w) := by
 unfold early
 extract_lets refuse notYet
 have hR : GD w.drawn refuse := trivial
 have hN : ∀ w', w.drawn ≤ w'.drawn → GD w.drawn (notYet w') := fun w' h => by
  show GD w.drawn (match w'.heap[g]? with | some (.pending c elem) => _ | _ => _)
  split
  ·exact h
  ·trivial
 clear_value refuse notYet
 split
 ·exact hN _ (Nat.le_refl _)
 ·split
  ·exact hR
  ·extract_lets there
   have hT : ∀ w', w.drawn ≤ w'.drawn → GD w.drawn (there w') := fun w' h => h
   clear_value there
   repeat' split
   all_goals first
    | exact hR
    | trivial
    | exact hN _ (by (first | exact Nat.le_refl _ | exact run_ok (by assumption) | exact run_no (by assumption) | exact runT_ok (by assumption) | exact runT_no (by assumption) | exact runT1_ok (by assumption) | exact runT1_no (by assumption) | assumption))
    | exact hT _ (by (first | exact Nat.le_refl _ | exact run_ok (by assumption) | exact run_no (by assumption) | exact runT_ok (by assumption) | exact runT_no (by assumption) | exact runT1_ok (by assumption) | exact runT1_no (by assumption) | assumption))
theorem gd_callDeferred (p : Program) (fr : Frame) (cs : List Frame) (dying : Option Dying) (d : Deferred) (w : World) : GD w.drawn (callDeferred p fr cs dying d w) := by
 unfold callDeferred
 repeat' (first | apply gd_after | split)
 all_goals try (first | trivial | (first | exact Nat.le_refl _ | exact run_ok (by assumption) | exact run_no (by assumption) | exact runT_ok (by assumption) | exact runT_no (by assumption) | exact runT1_ok (by assumption) | exact runT1_no (by assumption) | assumption) | exact (gd_doReturn _ _ _ _ _ _ _).mono (by (first | exact Nat.le_refl _ | exact run_ok (by assumption) | exact run_no (by assumption) | exact runT_ok (by assumption) | exact runT_no (by assumption) | exact runT1_ok (by assumption) | exact runT1_no (by assumption) | assumption)) | exact (gd_endWith _ _ _ _).mono (by (first | exact Nat.le_refl _ | exact run_ok (by assumption) | exact run_no (by assumption) | exact runT_ok (by assumption) | exact runT_no (by assumption) | exact runT1_ok (by assumption) | exact runT1_no (by assumption) | assumption)) | exact (gd_endThrow _ _ _).mono (by (first | exact Nat.le_refl _ | exact run_ok (by assumption) | exact run_no (by assumption) | exact runT_ok (by assumption) | exact runT_no (by assumption) | exact runT1_ok (by assumption) | exact runT1_no (by assumption) | assumption)) | exact (gd_endPrinting _ _ _ _).mono (by (first | exact Nat.le_refl _ | exact run_ok (by assumption) | exact run_no (by assumption) | exact runT_ok (by assumption) | exact runT_no (by assumption) | exact runT1_ok (by assumption) | exact runT1_no (by assumption) | assumption)) | exact (gd_endFatal _ _ _ _ _ _).mono (by (first | exact Nat.le_refl _ | exact run_ok (by assumption) | exact run_no (by assumption) | exact runT_ok (by assumption) | exact runT_no (by assumption) | exact runT1_ok (by assumption) | exact runT1_no (by assumption) | assumption)) | exact (gd_writeOn _ _ _ _ _).mono (by (first | exact Nat.le_refl _ | exact run_ok (by assumption) | exact run_no (by assumption) | exact runT_ok (by assumption) | exact runT_no (by assumption) | exact runT1_ok (by assumption) | exact runT1_no (by assumption) | assumption)))
theorem gd_unwind (p : Program) (main : Bool) (fr : Frame) (cs : List Frame) (dying : Option Dying) (w : World) : GD w.drawn (unwind p main fr cs dying w) := by
 unfold unwind
 repeat' (first | apply gd_after | split)
 all_goals try (first | (first | trivial | (first | exact Nat.le_refl _ | exact run_ok (by assumption) | exact run_no (by assumption) | exact runT_ok (by assumption) | exact runT_no (by assumption) | exact runT1_ok (by assumption) | exact runT1_no (by assumption) | assumption) | exact (gd_doReturn _ _ _ _ _ _ _).mono (by (first | exact Nat.le_refl _ | exact run_ok (by assumption) | exact run_no (by assumption) | exact runT_ok (by assumption) | exact runT_no (by assumption) | exact runT1_ok (by assumption) | exact runT1_no (by assumption) | assumption)) | exact (gd_endWith _ _ _ _).mono (by (first | exact Nat.le_refl _ | exact run_ok (by assumption) | exact run_no (by assumption) | exact runT_ok (by assumption) | exact runT_no (by assumption) | exact runT1_ok (by assumption) | exact runT1_no (by assumption) | assumption)) | exact (gd_endThrow _ _ _).mono (by (first | exact Nat.le_refl _ | exact run_ok (by assumption) | exact run_no (by assumption) | exact runT_ok (by assumption) | exact runT_no (by assumption) | exact runT1_ok (by assumption) | exact runT1_no (by assumption) | assumption)) | exact (gd_endPrinting _ _ _ _).mono (by (first | exact Nat.le_refl _ | exact run_ok (by assumption) | exact run_no (by assumption) | exact runT_ok (by assumption) | exact runT_no (by assumption) | exact runT1_ok (by assumption) | exact runT1_no (by assumption) | assumption)) | exact (gd_endFatal _ _ _ _ _ _).mono (by (first | exact Nat.le_refl _ | exact run_ok (by assumption) | exact run_no (by assumption) | exact runT_ok (by assumption) | exact runT_no (by assumption) | exact runT1_ok (by assumption) | exact runT1_no (by assumption) | assumption)) | exact (gd_writeOn _ _ _ _ _).mono (by (first | exact Nat.le_refl _ | exact run_ok (by assumption) | exact run_no (by assumption) | exact runT_ok (by assumption) | exact runT_no (by assumption) | exact runT1_ok (by assumption) | exact runT1_no (by assumption) | assumption))) | exact itT_ok (by assumption) | exact itT_no (by assumption) | exact (gd_endFatal _ _ _ _ _ _).mono (itT_no (by assumption)) | exact (gd_endThrow _ _ _).mono (itT_no (by assumption)) | exact (gd_endThrow _ _ _).mono (itT_ok (by assumption)) | exact (gd_early _ _ _ _ _ _).mono (itT_no (by assumption)) | exact (gd_early _ _ _ _ _ _).mono (by (first | exact Nat.le_refl _ | exact run_ok (by assumption) | exact run_no (by assumption) | exact runT_ok (by assumption) | exact runT_no (by assumption) | exact runT1_ok (by assumption) | exact runT1_no (by assumption) | assumption)) | exact (gd_callDeferred _ _ _ _ _ _).mono (by (first | exact Nat.le_refl _ | exact run_ok (by assumption) | exact run_no (by assumption) | exact runT_ok (by assumption) | exact runT_no (by assumption) | exact runT1_ok (by assumption) | exact runT1_no (by assumption) | assumption)))
set_option maxHeartbeats 4000000 in
theorem gd_apply (p : Program) (listen : Bool) (fr : Frame) (cs : List Frame) (dying : Option Dying) (s : Sem Next) (w : World) : GD w.drawn (stepG.apply p listen fr cs dying s w) := by
 unfold stepG.apply
 repeat' (first | apply gd_after | split)
 all_goals try (first | (first | trivial | (first | exact Nat.le_refl _ | exact run_ok (by assumption) | exact run_no (by assumption) | exact runT_ok (by assumption) | exact runT_no (by assumption) | exact runT1_ok (by assumption) | exact runT1_no (by assumption) | assumption) | exact (gd_doReturn _ _ _ _ _ _ _).mono (by (first | exact Nat.le_refl _ | exact run_ok (by assumption) | exact run_no (by assumption) | exact runT_ok (by assumption) | exact runT_no (by assumption) | exact runT1_ok (by assumption) | exact runT1_no (by assumption) | assumption)) | exact (gd_endWith _ _ _ _).mono (by (first | exact Nat.le_refl _ | exact run_ok (by assumption) | exact run_no (by assumption) | exact runT_ok (by assumption) | exact runT_no (by assumption) | exact runT1_ok (by assumption) | exact runT1_no (by assumption) | assumption)) | exact (gd_endThrow _ _ _).mono (by (first | exact Nat.le_refl _ | exact run_ok (by assumption) | exact run_no (by assumption) | exact runT_ok (by assumption) | exact runT_no (by assumption) | exact runT1_ok (by assumption) | exact runT1_no (by assumption) | assumption)) | exact (gd_endPrinting _ _ _ _).mono (by (first | exact Nat.le_refl _ | exact run_ok (by assumption) | exact run_no (by assumption) | exact runT_ok (by assumption) | exact runT_no (by assumption) | exact runT1_ok (by assumption) | exact runT1_no (by assumption) | assumption)) | exact (gd_endFatal _ _ _ _ _ _).mono (by (first | exact Nat.le_refl _ | exact run_ok (by assumption) | exact run_no (by assumption) | exact runT_ok (by assumption) | exact runT_no (by assumption) | exact runT1_ok (by assumption) | exact runT1_no (by assumption) | assumption)) | exact (gd_writeOn _ _ _ _ _).mono (by (first | exact Nat.le_refl _ | exact run_ok (by assumption) | exact run_no (by assumption) | exact runT_ok (by assumption) | exact runT_no (by assumption) | exact runT1_ok (by assumption) | exact runT1_no (by assumption) | assumption))) | exact itT_ok (by assumption) | exact itT_no (by assumption) | exact (gd_endFatal _ _ _ _ _ _).mono (itT_no (by assumption)) | exact (gd_endThrow _ _ _).mono (itT_no (by assumption)) | exact (gd_endThrow _ _ _).mono (itT_ok (by assumption)) | exact (gd_early _ _ _ _ _ _).mono (itT_no (by assumption)) | exact (gd_early _ _ _ _ _ _).mono (by (first | exact Nat.le_refl _ | exact run_ok (by assumption) | exact run_no (by assumption) | exact runT_ok (by assumption) | exact runT_no (by assumption) | exact runT1_ok (by assumption) | exact runT1_no (by assumption) | assumption)) | exact (gd_callDeferred _ _ _ _ _ _).mono (by (first | exact Nat.le_refl _ | exact run_ok (by assumption) | exact run_no (by assumption) | exact runT_ok (by assumption) | exact runT_no (by assumption) | exact runT1_ok (by assumption) | exact runT1_no (by assumption) | assumption)))
theorem gd_oper (p : Program) (listen : Bool) (fr : Frame) (cs : List Frame) (dying : Option Dying) (w : World) : GD w.drawn (stepG.oper p listen fr cs dying w) := by
 unfold stepG.oper
 split
 ·trivial
 ·split <;> exact gd_apply _ _ _ _ _ _ _
theorem gd_elim {α : Type} {d : Nat} {o : Option α} {a : GStep} {f : α → GStep} (h : GD d a) (k : ∀ x, GD d (f x)) : GD d (o.elim a f) := by cases o; exact h; exact k _
set_option maxHeartbeats 4000000 in
theorem gd_exec (p : Program) (main listen : Bool) (fr : Frame) (cs : List Frame) (dying : Option Dying) (w : World) : GD w.drawn (stepG.exec p main listen fr cs dying w) := by
 unfold stepG.exec
 extract_lets go to lost leave
 have hG : ∀ f w', w.drawn ≤ w'.drawn → GD w.drawn (go f w') := fun f w' h => h
 have hT : ∀ l, GD w.drawn (to l) := fun l => Nat.le_refl _
 have hL : ∀ m, GD w.drawn (lost m) := fun m => trivial
 have hV : ∀ j, GD w.drawn (leave j) := fun j => by
  unfold leave
  split
  ·repeat' split
   all_goals first | exact hG _ _ (Nat.le_refl _) | exact hL _
  ·apply gd_after
   split
   ·exact (gd_doReturn _ _ _ _ _ _ _).mono (by (first | exact Nat.le_refl _ | exact run_ok (by assumption) | exact run_no (by assumption) | exact runT_ok (by assumption) | exact runT_no (by assumption) | exact runT1_ok (by assumption) | exact runT1_no (by assumption) | assumption))
   ·trivial
 clear_value go to lost leave
 repeat' (first
  | with_reducible apply gd_after
  | exact hV _
  | exact hT _
  | exact hL _
  | trivial
  | exact gd_elim (hV _) (fun _ => hT _)
  | exact gd_elim (hL _) (fun _ => gd_apply _ _ _ _ _ _ _)
  | exact hG _ _ (by (first | exact Nat.le_refl _ | exact run_ok (by assumption) | exact run_no (by assumption) | exact runT_ok (by assumption) | exact runT_no (by assumption) | exact runT1_ok (by assumption) | exact runT1_no (by assumption) | assumption))
  | exact gd_oper _ _ _ _ _ _
  | exact (gd_apply _ _ _ _ _ _ _).mono (by (first | exact Nat.le_refl _ | exact run_ok (by assumption) | exact run_no (by assumption) | exact runT_ok (by assumption) | exact runT_no (by assumption) | exact runT1_ok (by assumption) | exact runT1_no (by assumption) | assumption))
  | (extract_lets fr1 call1; exact (gd_apply p listen fr1 cs dying _ _).mono (by (first | exact Nat.le_refl _ | exact run_ok (by assumption) | exact run_no (by assumption) | exact runT_ok (by assumption) | exact runT_no (by assumption) | exact runT1_ok (by assumption) | exact runT1_no (by assumption) | assumption)))
  | split)
theorem gd_stepG (p : Program) (main : Bool) (g : Goroutine) (w : World) (listen : Bool) : GD w.drawn (stepG p main g w listen) := by
 unfold stepG
 split
 split
 ·exact gd_die _ _ _ _
 ·exact gd_exec _ _ _ _ _ _ _
 ·exact gd_unwind _ _ _ _ _ _
def SD (d : Nat) : Stepped → Prop
 | .next m => d ≤ m.world.drawn
 | .ended _ _ => True
theorem SD.mono {d e : Nat} {r : Stepped} (h : SD e r) (hd : d ≤ e) : SD d r := by cases r <;> first | trivial | exact Nat.le_trans hd h
theorem wait_drawn {rest : Rest} {cases : Array CommCase} {w w' : World} (h : waitingAt rest cases w = some w') : w'.drawn = w.drawn := by
 unfold waitingAt at h
 repeat' split at h
 all_goals first | (cases h; rfl) | cases h
theorem sd_comm (p : Program) (rest : Rest) (gs : Array Goroutine) (i : Nat) (g : Goroutine) (cases : Array CommCase) (blocking : Bool) (shape : CommShape) (w : World) : SD w.drawn (communicate p rest gs i g cases blocking shape w).1 := by
 unfold communicate
 extract_lets put illMade me other ready pick
 have hP : ∀ g gs w' ops, w.drawn ≤ w'.drawn → SD w.drawn (put g gs w' ops).1 := fun g gs w' ops h => h
 clear_value put illMade me other pick ready
 split
 ·trivial
 ·split
  ·split
   ·split
    ·rename_i h
     show w.drawn ≤ _
     rw [wait_drawn h]; exact Nat.le_refl _
    ·trivial
   ·exact hP _ _ _ _ (Nat.le_refl _)
  ·split
   ·trivial
   ·rename_i h
    have h1 := run_ok h
    dsimp only
    repeat' (first | split | dsimp only)
    all_goals first
     | trivial
     | exact hP _ _ _ _ h1
     | exact hP _ _ _ _ (Nat.le_trans h1 (run_ok (by assumption)))
     | exact hP _ _ _ _ (Nat.le_trans h1 (run_no (by assumption)))
     | (refine hP _ _ _ _ (Nat.le_trans h1 ?_); dsimp only; exact run_ok (by assumption))
theorem sd_look (p : Program) (gs : Array Goroutine) (rest : Rest) (w : World) : SD w.drawn (look p gs rest w) := by
 unfold look
 repeat' (first | split | dsimp only)
 all_goals first
  | trivial
  | (first | exact Nat.le_refl _ | exact run_ok (by assumption) | exact run_no (by assumption) | exact Nat.le_trans (run_ok (by assumption)) (run_ok (by assumption)) | exact Nat.le_trans (run_ok (by assumption)) (run_no (by assumption)))
  | (simp only [SD]; exact run_ok (by assumption))
theorem timer_drawn {m m' : Machine} {op : TimerOp} {v : Value} (h : timerOp m op = .ok (v, m')) : m'.world.drawn = m.world.drawn := by
 have hr : ∀ (m : Machine) k t a b, (retime m k t a b).2.world.drawn = m.world.drawn := fun m k t a b => by
  unfold retime
  split
  rename_i h
  split at h
  ·unfold drain at h
   split at h
   ·cases h; rfl
   ·cases h; rfl
  ·cases h; rfl
 have ho : ∀ (var : Addr) m2, timerOp.opened m var = some m2 → m2.world.drawn = m.world.drawn := fun var m2 h => by
  unfold timerOp.opened at h
  repeat' split at h
  all_goals first | (cases h; rfl) | cases h
 have hn : ∀ (var : Addr) (f : Nat → Timer → Value × Machine), (∀ k t, (f k t).2.world.drawn = m.world.drawn) → timerOp.named m var f = .ok (v, m') → m'.world.drawn = m.world.drawn := fun var f hf h => by
  unfold timerOp.named at h
  split at h
  ·rename_i k hk
   have := hf k (m.rest.timers.getD k default)
   simp only [Except.ok.injEq] at h
   rw [h] at this
   exact this
  ·cases h
 unfold timerOp at h
 repeat' split at h
 all_goals first
  | (cases h; rfl)
  | cases h
  | exact hn _ _ (fun k t => hr _ _ _ _ _) h
  | (refine hn _ _ (fun k t => (hr _ _ _ _ _).trans (ho _ _ (by assumption))) h)
theorem timer_le {m m' : Machine} {op : TimerOp} {v : Value} (h : timerOp m op = .ok (v, m')) : m.world.drawn ≤ m'.world.drawn := by rw [timer_drawn h]; exact Nat.le_refl _
theorem thr_drawn {fr : Frame} {m : String} {w w' : World} {g : Goroutine} {es : Array Event} (h : endThrow fr m w = .go g w' es) : w.drawn ≤ w'.drawn := by
 have := gd_endThrow fr m w
 rw [h] at this
 exact this
theorem sd_serve (p : Program) (m : Machine) (k : Nat) : SD m.world.drawn (serve p m k) := by
 unfold serve
 repeat' (first | split | dsimp only)
 all_goals first
  | trivial
  | exact Nat.le_refl _
theorem sd_runT (p : Program) (m : Machine) (i : Nat) (listen : Bool) : SD m.world.drawn (runT p m i listen).1 := by
 unfold runT
 split
 rename_i g gs hg
 dsimp only
 have h := gd_stepG p (i == 0) g m.world listen
 cases hs : stepG p (i == 0) g m.world listen <;> rw [hs] at h <;> simp only [hs]
 all_goals first
  | trivial
  | exact h
  | exact (sd_look _ _ _ _).mono h
  | exact (sd_comm _ _ _ _ _ _ _ _ _).mono h
  | ((repeat' split) <;> first | trivial | exact h | exact Nat.le_trans h (timer_le (by assumption)) | exact Nat.le_trans h (thr_drawn (by assumption)))
def MD (d : Nat) : Move → Prop
 | .goroutine m _ => d ≤ m.world.drawn
 | .machine s _ => SD d s
theorem MD.mono {d e : Nat} {r : Move} (h : MD e r) (hd : d ≤ e) : MD d r := by
 cases r
 ·exact Nat.le_trans hd h
 ·exact SD.mono h hd
theorem md_askOn (p : Program) (m : Machine) : MD m.world.drawn (askOn p m) := by
 unfold askOn
 extract_lets mono rs ds pick
 have hP : ∀ m2 : Machine, m.world.drawn ≤ m2.world.drawn → MD m.world.drawn (pick m2) := fun m2 h => by
  unfold pick
  repeat' (first | split | dsimp only)
  all_goals first
   | trivial
   | exact Nat.le_trans h (run_ok (by assumption))
   | exact Nat.le_trans h (Nat.le_trans (run_ok (by assumption)) (run_ok (by assumption)))
 clear_value mono rs ds pick
 split
 ·trivial
 ·rename_i hk
  have h1 := run_ok hk
  dsimp only
  repeat' (first | split | dsimp only)
  all_goals first
   | trivial
   | exact h1
   | exact hP _ h1
   | exact (sd_serve _ _ _).mono h1
   | exact Nat.le_trans h1 (run_ok (by assumption))
   | exact hP _ (Nat.le_trans h1 (run_ok (by assumption)))
   | (rename_i h9; have h10 := Nat.le_trans h1 (run_ok h9); exact h10)
   | (rename_i h9; have h10 := Nat.le_trans h1 (run_ok h9); exact hP _ h10)
theorem md_ask (p : Program) (m : Machine) : MD m.world.drawn (ask p m) := by
 unfold ask
 split
 ·split
  ·trivial
  ·rename_i h
   have h1 := run_ok h
   split
   ·rename_i h2
    have h3 := (sd_look p m.gs m.rest _).mono h1
    rw [h2] at h3
    exact (md_askOn _ _).mono h3
   ·rename_i h2
    exact (sd_look p m.gs m.rest _).mono h1
  ·rename_i h
   exact (md_askOn p { m with world := _ }).mono (run_ok h)
 ·exact md_askOn p m
theorem md_move (p : Program) (m : Machine) : MD m.world.drawn (move p m) := by
 unfold move
 split
 ·split
  ·exact Nat.le_refl _
  ·trivial
 ·split
  ·split
   ·exact Nat.le_refl _
   ·exact md_ask p { m with rest := _ }
  ·exact md_ask p m
theorem step_drawn {p : Program} {m m' : Machine} (h : step p m = .next m') : m.world.drawn ≤ m'.world.drawn := by
 have h1 := md_move p m
 have h2 : SD m.world.drawn (step p m) := by
  unfold step stepT
  split
  ·rename_i hm
   rw [hm] at h1
   exact (sd_runT _ _ _ _).mono h1
  ·rename_i hm
   rw [hm] at h1
   exact h1
 rw [h] at h2
 exact h2
theorem runN_drawn {p : Program} : ∀ (n : Nat) {m m' : Machine}, runN p n m = .next m' → m.world.drawn ≤ m'.world.drawn
 | 0, m, m', h => by
  simp only [runN] at h
  cases h
  exact Nat.le_refl _
 | n + 1, m, m', h => by
  simp only [runN] at h
  split at h
  ·rename_i h1
   exact Nat.le_trans (step_drawn h1) (runN_drawn n h)
  ·rename_i h1
   exact (h1 _ h).elim
theorem calls_drawn {P : Program} {f : FuncId} {args : Array Value} {w : World} {R : Ending → World → Prop} (h : Calls P f args w fun e w' => (∃ v, e = .returned v) ∧ R e w') : Calls P f args w fun e w' => R e w' ∧ w.drawn ≤ w'.drawn := fun cs => by
 obtain ⟨e, w', fr, ⟨⟨v, rfl⟩, hR⟩, hc, hf, hl⟩ := h cs
 obtain ⟨n, hn⟩ := (show Steps P _ _ from hc)
 exact ⟨_, w', fr, ⟨hR, runN_drawn n hn⟩, hc, hf, hl⟩
end Go.Proofs.YtdkahdehodopoaaGreat

set_option maxRecDepth 100000
namespace Go.Proofs.YtdkahdehodopoaaGreat
open Go Go.RowKit Go.Sort
theorem ext_grow {w w' : World} (h : Ext w w') (hd : w.drawn ≤ w'.drawn) : ∃ q os, w' = grow (w.drewN q) os := by
 refine ⟨w'.drawn - w.drawn, w'.heap.extract w.heap.size w'.heap.size, ?_⟩
 obtain ⟨h1, h2, h3, h4, h5⟩ := h
 cases w with
 | mk heap tape drawn os output =>
 cases w' with
 | mk heap' tape' drawn' os' output' =>
 simp only at h1 h2 h3 h4 h5 hd
 subst h1 h2 h3
 have e1 : drawn + (drawn' - drawn) = drawn' := by omega
 have e2 : heap ++ heap'.extract heap.size heap'.size = heap' := by
  apply Array.ext_getElem?
  intro k
  rw [Array.getElem?_append]
  split
  ·rename_i hk
   exact (h5 k hk).symm
  ·rename_i hk
   rw [Array.getElem?_extract]
   by_cases hk2 : k < heap'.size
   ·rw [if_pos (by omega)]; congr 1; omega
   ·rw [if_neg (by omega), Array.getElem?_eq_none (by omega)]
 simp only [grow, World.drewN, e1, e2]
theorem pure_calls {P : Program} {f : FuncId} {args : Array Value} {G : List Chunk} {v : Value} (h : Pure P f args G (isV v)) {w : World} (hs : ∀ c ∈ G, c.sat w) : Calls P f args w fun e w' => e = .returned v ∧ ∃ q os, w' = grow (w.drewN q) os := by
 have h1 := (h.run w hs).mono (R' := fun e w' => (∃ v, e = .returned v) ∧ (e = .returned v ∧ Ext w w')) fun e w' ⟨u, Fo, h1, h2, h3, _, _⟩ => by
  obtain ⟨rfl, _⟩ := h3
  exact ⟨⟨_, h1⟩, h1, h2⟩
 exact (calls_drawn h1).mono fun e w' ⟨⟨h2, h3⟩, h4⟩ => ⟨h2, ext_grow h3 h4⟩
theorem flat_prs {α : Type} [Inhabited α] (e : α → Value × Value) (d : Array α) : flatK (fun x => [(e x).1, (e x).2]) 2 d = (prs (d.toList.map e)).toArray := by
 refine ext_get! (by simp) fun t ht => ?_
 have ht' : t < d.size * 2 := by simpa using ht
 rw [get_flatK _ _ _ t ht']
 have hj : t / 2 < d.size := by omega
 have hg := prs_get (d.toList.map e) (t / 2) (by simpa using hj)
 have hd : (d.toList.map e).getD (t / 2) prD = e d[t / 2]! := by
  rw [List.getD_eq_getElem?_getD, List.getElem?_map, Array.getElem?_toList, Array.getElem?_eq_getElem hj, getElem!_pos d _ hj]; rfl
 rw [hd] at hg
 clear hd
 generalize d[t / 2]! = x at hg ⊢
 rcases Nat.mod_two_eq_zero_or_one t with h | h
 ·have e1 : t / 2 * 2 = t := by omega
  rw [e1] at hg
  rw [h]
  show (e x).1 = _
  rw [Array.getElem!_eq_getD, Array.getD_eq_getD_getElem?, List.getElem?_toArray, hg.1]; rfl
 ·have e1 : t / 2 * 2 + 1 = t := by omega
  rw [e1] at hg
  rw [h]
  show (e x).2 = _
  rw [Array.getElem!_eq_getD, Array.getD_eq_getD_getElem?, List.getElem?_toArray, hg.2]; rfl
theorem grownBy_flat {w : World} {g n : Nat} {os : Array Obj} (F : Array Value) : w.grownBy (grow (putRow id (Sort.ahead w n) g 0 F) os) (some g) := by
 refine ⟨rfl, rfl, rfl, by simp, fun k hk hne => ?_⟩
 rw [heap_grow_old _ _ (by simpa using hk)]
 have : g ≠ k := fun e => hne (by rw [e])
 simp [putRow, mapBlock, Sort.ahead, Array.getElem?_modify, this]
theorem heap_flat {w : World} {g n : Nat} {os : Array Obj} {cur : Array Value} {e : TypeId} {fr : Nat × Nat} (F : Array Value) (hb : w.heap[g]? = some (.cells cur e fr)) :
  (grow (putRow id (Sort.ahead w n) g 0 F) os).heap[g]? = some (.cells (putCells id 0 F cur) e fr) := by
 have hg : g < w.heap.size := (Array.getElem?_eq_some_iff.1 hb).1
 rw [heap_grow_old _ _ (by simpa using hg)]
 simp [putRow, mapBlock, Sort.ahead, Array.getElem?_modify, hb, onCells]
theorem take_flat (cur : Array Value) (vs : List Value) (h : vs.length ≤ cur.size) : (putCells id 0 vs.toArray cur).toList.take vs.length = vs := by
 apply List.ext_getElem?
 intro j
 by_cases hj : j < vs.length
 ·rw [List.getElem?_take_of_lt hj, Array.getElem?_toList]
  simp [putCells, hj, show j < cur.size by omega]
 ·rw [List.getElem?_take_eq_none (by omega), List.getElem?_eq_none (by omega)]
theorem holds_flat {w : World} {g : Nat} {cur : Array Value} {e : TypeId} {vs : List Value} (hb : w.heap[g]? = some (.cells cur e (0, 0))) (ht : cur.toList.take vs.length = vs) : Go.Sort.Holds id w g 0 vs.toArray := by
 intro j hj
 have hj' : j < vs.length := by simpa using hj
 refine ⟨?_, by simp [World.frozen?, hb]⟩
 have h1 : (cur.toList.take vs.length)[j]? = vs[j]? := by rw [ht]
 rw [List.getElem?_take_of_lt hj'] at h1
 simp only [World.cell?, hb, Nat.zero_add]
 simp only [Option.isSome_none, Bool.false_eq_true, if_false]
 rw [← Array.getElem?_toList, h1]
 simp [hj']
theorem fc_agg (w : World) : (isAgg 53).run Tryz.prog w = .ok true w := by
 obtain ⟨fs, hu⟩ := tyFc.und
 simp [isAgg, run_und hu]
theorem fc_size (w : World) : (Go.sizeOf 53).run Tryz.prog w = .ok 2 w := run_size1 tyFc.inf w
def encF (fs : List FacM) (i : Fin fs.length) : List Value := [fs[i].r.hdr, .int .i64 fs[i].k]
theorem fcs_map (fs : List FacM) : fcs fs = fs.map fun f => (f.r.hdr, (.int .i64 f.k : Value)) := rfl
theorem flat_fac (fs : List FacM) [Inhabited (Fin fs.length)] (d : Array (Fin fs.length)) : flatK (encF fs) 2 d = (prs (fcs (d.toList.map fun i => fs[i]))).toArray := by
 rw [fcs_map, List.map_map]
 exact flat_prs (fun i : Fin fs.length => (fs[i].r.hdr, (.int .i64 fs[i].k : Value))) d
theorem fin_map (fs : List FacM) : ((List.finRange fs.length).map fun i => fs[i]) = fs := List.ext_getElem (by simp) fun j h1 h2 => by simp
def FacSort : Prop := ∀ (fs : List FacM) [Inhabited (Fin fs.length)] (cf : Fin fs.length → Fin fs.length → Int) (hO : SWO (ltOf cf)) (g : Nat) (cb : Array Value) (blk off cap : Nat) (d : Array (Fin fs.length)) (w : World) (eg : Enters Tryz.prog g) (hcmp : CmpLays Tryz.prog g cb (encF fs) 2 cf blk off d.size w) (hH : HoldsK (encF fs) 2 w blk off d) (hblk : blk < w.heap.size) (hsz : d.size < 4611686018427387904),
   Calls Tryz.prog 48 #[.slice (some ⟨blk, off, none⟩) d.size cap, .func (.func g) #[] cb] w fun e w' => e = .returned (.tuple #[]) ∧ ∃ d' n os, PermIn 0 d.size d d' ∧ SortedIn (ltOf cf) 0 d.size d' ∧ w' = sortWorldK (encF fs) 2 w blk off n d' os
def FacNone : Prop := ∀ (p : Option Addr) (cap : Nat) (fv : Value) (w : World), Calls Tryz.prog 48 #[.slice p 0 cap, fv] w fun e w' => e = .returned (.tuple #[]) ∧ w' = w
theorem slc_SortFac (hlib : FacSort) (hnone : FacNone) (A : Option Addr) (n c : Nat) (fs : List FacM) (hn : n = fs.length) (h9 : fs.length ≤ 1000000000) (g : FuncId) (cb : List Value) (G : List Chunk) (hG : NoEx G) (cf : FacM → FacM → Int)
  (hp : ∀ x ∈ fs, ∀ y ∈ fs, Pure Tryz.prog g ([Value.agg #[x.r.hdr, .int .i64 x.k], Value.agg #[y.r.hdr, .int .i64 y.k]] ++ cb).toArray G (isV (.int .i64 (cf x y))))
  (hi : ∀ x ∈ fs, ¬ cf x x < 0) (ht : ∀ x ∈ fs, ∀ y ∈ fs, ∀ z ∈ fs, cf x y < 0 → cf y z < 0 → cf x z < 0) (hnt : ∀ x ∈ fs, ∀ y ∈ fs, ∀ z ∈ fs, ¬ cf x y < 0 → ¬ cf y z < 0 → ¬ cf x z < 0) :
  Mut Tryz.prog 48 #[.slice A n c, .func (.func g) #[] cb.toArray] [ow2 A 53 c (fcs fs)] G (one (fun v ch => ∃ gs : List FacM, v = .tuple #[] ∧ ch = ow2 A 53 c (fcs gs) ∧ gs.Perm fs ∧ gs.Pairwise (fun x y => ¬ cf y x < 0))) := ⟨enters_of Tryz.func48 (by kernel_rfl) (by kernel_rfl), fun w hm => by
 subst hn
 by_cases h0 : fs = []
 ·subst h0
  refine (hnone A c _ w).mono fun e w' ⟨h4, h5⟩ => ?_
  subst h4; subst h5
  exact ⟨_, _, rfl, ⟨_, rfl, [], rfl, rfl, List.Perm.refl _, List.Pairwise.nil⟩, (CSub.cons _ (CSub.nil _)).mem hm, ⟨trivial, trivial⟩⟩
 ·have hlp : 0 < fs.length := List.length_pos_iff.2 h0
  haveI : Inhabited (Fin fs.length) := ⟨⟨0, hlp⟩⟩
  have hs0 : w.ownsRow 0 53 2 (.slice A (fcs fs).length c) (fcs fs).length (prs (fcs fs)) := hm.sat _ (List.mem_cons_self ..)
  rcases hs0 with ⟨h1, ⟨h2, h3⟩ | ⟨b, cap, cur, hv, hb, hh, hc, hmx, hs, htk⟩⟩
  ·have : (fcs fs).length = 0 := by simpa using h3
   rw [fcs_length] at this
   omega
  ·simp only [Value.slice.injEq] at hv
   obtain ⟨rfl, _, rfl⟩ := hv
   rw [fcs_length] at hc
   have hlen : (prs (fcs fs)).length = fs.length * 2 := by rw [prs_length, fcs_length]
   have htk' : cur.toList.take (prs (fcs fs)).length = prs (fcs fs) := by
    rw [hlen]; rw [fcs_length] at htk; exact htk
   have hg : b < w.heap.size := (Array.getElem?_eq_some_iff.1 hh).1
   have hd0 : (List.finRange fs.length).toArray.size = fs.length := by simp
   have hfl := flat_fac fs (List.finRange fs.length).toArray
   rw [show (List.finRange fs.length).toArray.toList = List.finRange fs.length from rfl, fin_map] at hfl
   have hH : HoldsK (encF fs) 2 w b 0 (List.finRange fs.length).toArray := by
    unfold HoldsK
    rw [hfl]
    exact holds_flat hh htk'
   have hsep : ∀ e ∈ G, e.sat w ∧ ¬ e.foot b := fun e he => ⟨hm.sat e (List.mem_cons_of_mem _ he), fun hf => (List.pairwise_cons.1 hm.sep).1 e he (.inl trivial) b ⟨⟨b, 0, none⟩, rfl, rfl⟩ hf⟩
   have hcmp : CmpLays Tryz.prog g cb.toArray (encF fs) 2 (fun i j => cf fs[i] fs[j]) b 0 (List.finRange fs.length).toArray.size w := fun m os dk hdk x y => by
    have h := hp fs[x] (List.getElem_mem _) fs[y] (List.getElem_mem _)
    have h2 := pure_calls h (w := sortWorldK (encF fs) 2 w b 0 m dk os) fun e he => by
     obtain ⟨h3, h4⟩ := hsep e he
     refine e.loc w _ (fun k hk => ?_) h3
     exact (grownBy_flat (flatK (encF fs) 2 dk)).block k (e.lt w k h3 hk) (fun e1 => h4 (by cases e1; exact hk))
    rwa [← List.append_toArray] at h2
   have hO : SWO (ltOf fun i j : Fin fs.length => cf fs[i] fs[j]) := by
    refine ⟨fun x => ?_, fun x y z h1 h2 => ?_, fun x y z h1 h2 => ?_⟩
    ·exact decide_eq_false (hi _ (List.getElem_mem _))
    ·exact decide_eq_true (ht _ (List.getElem_mem _) _ (List.getElem_mem _) _ (List.getElem_mem _) (of_decide_eq_true h1) (of_decide_eq_true h2))
    ·exact decide_eq_false (hnt _ (List.getElem_mem _) _ (List.getElem_mem _) _ (List.getElem_mem _) (of_decide_eq_false h1) (of_decide_eq_false h2))
   have hcall := hlib fs _ hO g cb.toArray b 0 c (List.finRange fs.length).toArray w (hp _ (List.getElem_mem hlp) _ (List.getElem_mem hlp)).ent hcmp hH hg (by rw [hd0]; omega)
   rw [hd0] at hcall
   refine hcall.mono fun e w' ⟨h4, d', q, os, hpm, hst, h5⟩ => ?_
   subst h4
   obtain ⟨hp1, _, hp3⟩ := hpm
   rw [hd0] at hp1
   have hperm : (d'.toList.map fun i => fs[i]).Perm fs := by
    have h6 : d'.toList.Perm (List.finRange fs.length) := by
     have e1 : d'.extract 0 fs.length = d' := (congrArg (fun z => d'.extract 0 z) hp1).symm.trans Array.extract_size
     have e2 : (List.finRange fs.length).toArray.extract 0 fs.length = (List.finRange fs.length).toArray := by
      have := Array.extract_size (xs := (List.finRange fs.length).toArray)
      rwa [hd0] at this
     rw [e1, e2] at hp3
     exact hp3
    have h7 := h6.map fun i => fs[i]
    rwa [fin_map] at h7
   have hgl := hperm.length_eq
   have hfl2 := flat_fac fs d'
   have hgr : w.grownBy w' (some b) := by rw [h5]; exact grownBy_flat _
   have hown : w'.ownsRow 0 53 2 (.slice (some ⟨b, 0, none⟩) (fcs (d'.toList.map fun i => fs[i])).length c) (fcs (d'.toList.map fun i => fs[i])).length (prs (fcs (d'.toList.map fun i => fs[i]))) := by
    have hh2 := heap_flat (n := q) (os := os) (flatK (encF fs) 2 d') hh
    have hw : w' = grow (putRow id (Sort.ahead w q) b 0 (flatK (encF fs) 2 d')) os := h5
    rw [← hw, hfl2] at hh2
    refine ⟨by rw [prs_length], .inr ⟨b, c, _, rfl, hb, hh2, by rw [fcs_length, hgl]; exact hc, hmx, by simp [putCells, hs], ?_⟩⟩
    have h8 := take_flat cur (prs (fcs (d'.toList.map fun i => fs[i]))) (by rw [prs_length, fcs_length, hgl, hs]; omega)
    rw [prs_length] at h8
    exact h8
   refine ⟨_, _, rfl, ⟨_, rfl, _, rfl, rfl, hperm, ?_⟩, ?_, ⟨trivial, trivial⟩⟩
   ·rw [List.pairwise_iff_getElem]
    intro i j hi hj hij
    have hj2 : j < fs.length := by rw [← hgl]; exact hj
    have h9 := hst i j (Nat.zero_le _) hij hj2
    have hi3 : i < d'.size := by omega
    have hj3 : j < d'.size := by omega
    rw [getElem!_pos d' j hj3, getElem!_pos d' i hi3] at h9
    have h10 := of_decide_eq_false h9
    simpa using h10
   ·have hm1 : Mem (ownd [ow2 (some ⟨b, 0, none⟩) 53 c (fcs fs)]) w w [ow2 (some ⟨b, 0, none⟩) 53 c (fcs fs)] := (CSub.cons _ (CSub.nil _)).mem hm
    exact hm1.change trivial ⟨hgr.os, hgr.tape, hgr.output, hgr.size, fun k hk hf => hgr.block k hk (fun e => hf ⟨⟨b, 0, none⟩, rfl, by simpa using e.symm⟩)⟩ hown (fun k hk => .inl hk)⟩
end Go.Proofs.YtdkahdehodopoaaGreat

set_option maxRecDepth 100000
namespace Go.Proofs.YtdkahdehodopoaaGreat
open Go.RowKit
theorem rows_permM {e : TypeId} {rs qs : List RowM} (h : rs.Perm qs) (F : List Chunk) : CSub (rowsCh e rs :: F) (rowsCh e qs :: F) := fun M w0 w Z hm => by
 have hfoot : ∀ b, (rowsCh e qs).foot b ↔ (rowsCh e rs).foot b := fun b => ⟨fun ⟨r, hr, hb⟩ => ⟨r, h.mem_iff.2 hr, hb⟩, fun ⟨r, hr, hb⟩ => ⟨r, h.mem_iff.1 hr, hb⟩⟩
 obtain ⟨h1, h2⟩ := List.pairwise_cons.1 hm.sep
 refine ⟨hm.upd, fun c hc => ?_, List.pairwise_cons.2 ⟨fun c hc hex b hb => h1 c hc hex b ((hfoot b).1 hb), h2⟩, fun c hc hex b hb => ?_⟩
 ·rcases List.mem_cons.1 hc with rfl | hc
  ·obtain ⟨s1, s2⟩ := hm.sat _ (List.mem_cons_self ..)
   exact ⟨fun r hr => s1 r (h.mem_iff.2 hr), h.pairwise s2 (fun hxy b hb hb2 => hxy b hb2 hb)⟩
  ·exact hm.sat c (List.mem_cons_of_mem _ hc)
 ·rcases List.mem_cons.1 hc with rfl | hc
  ·exact hm.own _ (List.mem_cons_self ..) trivial b ((hfoot b).1 hb)
  ·exact hm.own c (List.mem_cons_of_mem _ hc) hex b hb
section
variable {p m : Int} {mod : List Int} [hF : IsF p m mod]
open Po
theorem SqI.perm {f : Po (El p m mod)} {b : Nat} {φ : Nat → Prop} {fs gs : List FacM} (h : SqI f b φ fs) (hp : gs.Perm fs) : SqI f b φ gs :=
 ⟨fun e he => h.each e (hp.mem_iff.1 he), fun P a1 a2 a3 a4 => by
  obtain ⟨e, he, h1⟩ := h.all P a1 a2 a3 a4
  exact ⟨e, hp.mem_iff.2 he, h1⟩, (hp.map FacM.k).nodup_iff.2 h.nd⟩
theorem SqI.bd {f : Po (El p m mod)} {b : Nat} {φ : Nat → Prop} {fs : List FacM} (hf : f ≠ 0) (hb : 1 ≤ b) (h : SqI f b φ fs) : ∀ e ∈ fs, 1 ≤ e.k ∧ e.k ≤ ((b * (len f - 1) : Nat) : Int) := fun e he => by
 obtain ⟨Q, k, h1, h2, h3, h4, h5, h6, h7, h8⟩ := h.each e he
 obtain ⟨P, hP, hPl, hd⟩ := ir_ex h3
 have h9 := (h8 P hP hPl).1 hd
 have h10 := dvd_len (mu_spec hP hf).1 hf
 rw [len_powN hP.ne] at h10
 have h11 : mu P f * 1 ≤ mu P f * (len P - 1) := Nat.mul_le_mul_left _ (by have := hP.two; omega)
 have h12 : b * k ≤ b * (len f - 1) := Nat.mul_le_mul_left _ (by omega)
 have h13 : 1 * 1 ≤ b * k := Nat.mul_le_mul hb h4
 rw [h6]
 omega
end
end Go.Proofs.YtdkahdehodopoaaGreat

namespace Go.Proofs.YtdkahdehodopoaaGreat
open Go Go.RowKit Go.Sort Go.Shelf
theorem facSort : FacSort := fun fs _ cf hO g cb blk off cap d w eg hcmp hH hblk hsz =>
 AnyQ.slices_SortFunc Tryz.sortFac 2 fc_agg fc_size (encF fs) (fun _ => rfl) (fun x v hv => by
  simp only [encF, List.mem_cons, List.not_mem_nil, or_false] at hv
  rcases hv with rfl | rfl <;> rfl) cf hO g cb blk off cap d w eg hcmp hH hblk hsz
theorem facNone : FacNone := fun p cap fv w => AnyF.slices_SortFunc_none Tryz.sortFac p cap fv w
end Go.Proofs.YtdkahdehodopoaaGreat

namespace Go.Proofs.YtdkahdehodopoaaGreat
open Go.RowKit
section
variable {p m : Int} {mod : List Int} [hF : IsF p m mod]
open Po
theorem lead1_ne {f : Po (El p m mod)} (h : lead f = 1) : f ≠ 0 := fun e => by
 rw [e] at h
 exact Fd.one_ne (K := El p m mod) (h.symm.trans (by unfold Po.lead; exact Po.cf_zero _))
theorem mu_pos {P f : Po (El p m mod)} (hP : Ir P) (hf : f ≠ 0) : P ∣ f ↔ 1 ≤ mu P f := by
 have := mu_le_iff hP hf 1
 rwa [Rg.pow_one] at this
theorem len_one_of_mu {g : Po (El p m mod)} (hg : g ≠ 0) (h : ∀ P, Ir P → lead P = 1 → mu P g = 0) : len g = 1 := by
 have h1 := len_pos hg
 refine Nat.le_antisymm (Nat.le_of_not_lt fun hl => ?_) h1
 obtain ⟨P, hP, hPl, hd⟩ := ir_ex hl
 have := (mu_pos hP hg).1 hd
 have := h P hP hPl
 omega
theorem one_of_len {f : Po (El p m mod)} (h : lead f = 1) (hl : len f = 1) : f = 1 := Po.ext fun j => by
 unfold lead at h
 rw [hl] at h
 by_cases hj : j = 0
 ·subst hj
  rw [h]; rfl
 ·rw [cf_ge (by omega), cf_ge (by rw [len_one]; omega)]
theorem eq_mu1 : ∀ (N : Nat) (f g : Po (El p m mod)), len f ≤ N → lead f = 1 → lead g = 1 → (∀ P, Ir P → lead P = 1 → mu P f = mu P g) → f = g
 | 0, f, g, hN, hf, hg, h => absurd (len_pos (lead1_ne hf)) (by omega)
 | N + 1, f, g, hN, hf, hg, h => by
  have hf0 := lead1_ne hf
  have hg0 := lead1_ne hg
  by_cases hl : 2 ≤ len f
  ·obtain ⟨P, hP, hPl, hd⟩ := ir_ex hl
   have h1 := (mu_pos hP hf0).1 hd
   rw [h P hP hPl] at h1
   obtain ⟨a, ha⟩ := hd
   obtain ⟨b, hb⟩ := (mu_pos hP hg0).2 h1
   have ha0 : a ≠ 0 := fun e => hf0 (by rw [ha, e, Rg.mul_zero])
   have hb0 : b ≠ 0 := fun e => hg0 (by rw [hb, e, Rg.mul_zero])
   have hla : lead a = 1 := by rw [ha, lead_mul hP.ne ha0, hPl, Rg.one_mul] at hf; exact hf
   have hlb : lead b = 1 := by rw [hb, lead_mul hP.ne hb0, hPl, Rg.one_mul] at hg; exact hg
   have hlen := len_mul hP.ne ha0
   have hP2 := hP.two
   have := len_pos ha0
   rw [← ha] at hlen
   have e := eq_mu1 N a b (by omega) hla hlb fun Q hQ hQl => by
    have h2 := h Q hQ hQl
    rw [ha, hb, mu_mul hQ hP.ne ha0, mu_mul hQ hP.ne hb0] at h2
    omega
   rw [ha, hb, e]
  ·have hl1 : len f = 1 := by have := len_pos hf0; omega
   have hf1 := one_of_len hf hl1
   have hg1 := one_of_len hg (len_one_of_mu hg0 fun P hP hPl => by rw [← h P hP hPl, hf1, mu_one hP])
   rw [hf1, hg1]
theorem prF_mu {fs : List FacM} (h : ∀ e ∈ fs, lead (fcP p m mod e) = 1 ∧ 0 ≤ e.k) : ∀ n, n ≤ fs.length → lead (prF p m mod 1 fs n) = 1 ∧ ((len (prF p m mod 1 fs n) : Nat) : Int) = fcT p m mod fs n + 1
 | 0, _ => by
  have e : prF p m mod 1 fs 0 = (1 : Po (El p m mod)) := by show C (el 1) = 1; rw [el_one]; rfl
  rw [e]
  refine ⟨?_, ?_⟩
  ·unfold lead; rw [len_one]; rfl
  ·rw [len_one]; rfl
 | n + 1, hn => by
  obtain ⟨h1, h2⟩ := prF_mu h n (by omega)
  have hm := getD_mem (l := fs) (show n < fs.length by omega) facD
  obtain ⟨h3, h4⟩ := h _ hm
  have e : prF p m mod 1 fs (n + 1) = prF p m mod 1 fs n * Rg.pow (fcP p m mod (fs.getD n facD)) (fs.getD n facD).k.toNat := rfl
  have hQ0 := lead1_ne h3
  have hlp : lead (Rg.pow (fcP p m mod (fs.getD n facD)) (fs.getD n facD).k.toNat) = 1 := by
   generalize (fs.getD n facD).k.toNat = k
   induction k with
   | zero => show lead (1 : Po (El p m mod)) = 1; unfold lead; rw [len_one]; rfl
   | succ k ih => rw [Rg.pow_succ, lead_mul (pow_ne0 hQ0 k) hQ0, ih, h3, Rg.one_mul]
  refine ⟨by rw [e, lead_mul (lead1_ne h1) (lead1_ne hlp), h1, hlp, Rg.one_mul], ?_⟩
  have hl := len_mul (lead1_ne h1) (lead1_ne hlp)
  rw [← e, len_powN hQ0] at hl
  have hq := len_pos hQ0
  have h5 := len_pos (lead1_ne h1)
  rw [fcT_succ (by omega)]
  have h6 : fcD p m mod (fs.getD n facD) = ((len (fcP p m mod (fs.getD n facD)) - 1 : Nat) : Int) := by unfold fcD; omega
  have h7 : ((fs.getD n facD).k.toNat * (len (fcP p m mod (fs.getD n facD)) - 1) : Nat) = fcD p m mod (fs.getD n facD) * (fs.getD n facD).k := by
   rw [h6, Int.natCast_mul, Int.toNat_of_nonneg h4, Int.mul_comm]
  omega
theorem prF_mu2 {fs : List FacM} (h : ∀ e ∈ fs, lead (fcP p m mod e) = 1 ∧ 0 ≤ e.k) {P : Po (El p m mod)} (hP : Ir P) {M : Nat} (hM : ∀ e ∈ fs, e.k.toNat * mu P (fcP p m mod e) = if e.k.toNat = M then M else 0) (hnd : (fs.map FacM.k).Nodup) : ∀ n, n ≤ fs.length → mu P (prF p m mod 1 fs n) = if ∃ j, j < n ∧ (fs.getD j facD).k.toNat = M then M else 0
 | 0, _ => by
  have e : prF p m mod 1 fs 0 = (1 : Po (El p m mod)) := by show C (el 1) = 1; rw [el_one]; rfl
  rw [e, mu_one hP, if_neg (fun ⟨j, hj, _⟩ => by omega)]
 | n + 1, hn => by
  have ih := prF_mu2 h hP hM hnd n (by omega)
  have hm := getD_mem (l := fs) (show n < fs.length by omega) facD
  have h1 := lead1_ne (prF_mu h n (by omega)).1
  have h2 := lead1_ne (h _ hm).1
  have e : prF p m mod 1 fs (n + 1) = prF p m mod 1 fs n * Rg.pow (fcP p m mod (fs.getD n facD)) (fs.getD n facD).k.toNat := rfl
  rw [e, mu_mul hP h1 (pow_ne0 h2 _), mu_pow hP h2, ih, hM _ hm]
  have hinj : ∀ j, j < n → (fs.getD j facD).k.toNat = M → (fs.getD n facD).k.toNat = M → False := fun j hj e1 e2 => by
   have hk := (h _ hm).2
   have hkj := (h _ (getD_mem (l := fs) (show j < fs.length by omega) facD)).2
   have e3 : (fs.getD j facD).k = (fs.getD n facD).k := by omega
   have h5 := List.pairwise_iff_getElem.1 hnd j n (by simp; omega) (by simp; omega) hj
   rw [List.getElem_map, List.getElem_map] at h5
   refine h5 ?_
   rw [List.getD_eq_getElem?_getD, List.getElem?_eq_getElem (show j < fs.length by omega), List.getD_eq_getElem?_getD, List.getElem?_eq_getElem (show n < fs.length by omega)] at e3
   exact e3
  by_cases ha : ∃ j, j < n ∧ (fs.getD j facD).k.toNat = M
  ·obtain ⟨j, hj, hjM⟩ := ha
   have hb : ¬ (fs.getD n facD).k.toNat = M := fun e2 => hinj j hj hjM e2
   rw [if_pos ⟨j, hj, hjM⟩, if_neg hb, if_pos ⟨j, by omega, hjM⟩, Nat.add_zero]
  ·rw [if_neg ha]
   by_cases hb : (fs.getD n facD).k.toNat = M
   ·rw [if_pos hb, if_pos ⟨n, by omega, hb⟩, Nat.zero_add]
   ·rw [if_neg hb, if_neg (fun ⟨j, hj, hjM⟩ => by
     rcases Nat.lt_or_eq_of_le (Nat.le_of_lt_succ hj) with e1 | e1
     ·exact ha ⟨j, e1, hjM⟩
     ·exact hb (by rw [← e1]; exact hjM))]
theorem SqI.fc {f : Po (El p m mod)} {φ : Nat → Prop} {fs : List FacM} (h : SqI f 1 φ fs) : ∀ e ∈ fs, lead (fcP p m mod e) = 1 ∧ 0 ≤ e.k ∧ 2 ≤ len (fcP p m mod e) ∧ 1 ≤ e.k ∧ Sf (fcP p m mod e) ∧ (∀ P, Ir P → lead P = 1 → (P ∣ fcP p m mod e ↔ mu P f = e.k.toNat)) ∧ e.r.xs = il (fcP p m mod e) := fun e he => by
 obtain ⟨Q, k, h1, h2, h3, h4, h5, h6, h7, h8⟩ := h.each e he
 have eQ : fcP p m mod e = Q := by unfold fcP; rw [h1, pol_il]
 rw [Nat.one_mul] at h6
 rw [eQ, show e.k.toNat = k by omega]
 exact ⟨h2, by omega, h3, by omega, h7, h8, h1⟩
theorem SqI.prod {f : Po (El p m mod)} {fs : List FacM} (hf : lead f = 1) (h : SqI f 1 (fun _ => True) fs) : prF p m mod 1 fs fs.length = f ∧ fcT p m mod fs fs.length = (len f : Int) - 1 := by
 have hf0 := lead1_ne hf
 have hfc : ∀ e ∈ fs, lead (fcP p m mod e) = 1 ∧ 0 ≤ e.k := fun e he => ⟨(h.fc e he).1, (h.fc e he).2.1⟩
 obtain ⟨h1, h2⟩ := prF_mu hfc fs.length (Nat.le_refl _)
 have e : prF p m mod 1 fs fs.length = f := eq_mu1 _ _ _ (Nat.le_refl _) h1 hf fun P hP hPl => by
  have hM : ∀ e ∈ fs, e.k.toNat * mu P (fcP p m mod e) = if e.k.toNat = mu P f then mu P f else 0 := fun e he => by
   obtain ⟨a1, a2, a3, a4, a5, a6, a7⟩ := h.fc e he
   have hQ0 := lead1_ne a1
   have h3 := a6 P hP hPl
   rw [mu_pos hP hQ0] at h3
   by_cases e1 : e.k.toNat = mu P f
   ·have h4 := h3.2 e1.symm
    have h5 := (sf_iff_mu hQ0).1 a5 P hP
    rw [if_pos e1, show mu P (fcP p m mod e) = 1 by omega, Nat.mul_one, e1]
   ·rw [if_neg e1, show mu P (fcP p m mod e) = 0 by
     refine Nat.eq_zero_of_not_pos fun h4 => e1 (h3.1 h4).symm, Nat.mul_zero]
  rw [prF_mu2 hfc hP hM h.nd fs.length (Nat.le_refl _)]
  by_cases h0 : 1 ≤ mu P f
  ·obtain ⟨e, he, hek⟩ := h.all P hP hPl h0 trivial
   obtain ⟨j, hj, rfl⟩ := List.getElem_of_mem he
   rw [if_pos ⟨j, hj, by
    rw [List.getD_eq_getElem?_getD, List.getElem?_eq_getElem hj]
    show fs[j].k.toNat = _
    rw [hek, Nat.one_mul]; rfl⟩]
  ·split <;> omega
 refine ⟨e, ?_⟩
 rw [e] at h2
 omega
theorem SqI.le {f : Po (El p m mod)} {fs : List FacM} (hf : lead f = 1) (h : SqI f 1 (fun _ => True) fs) : ∀ e ∈ fs, len (fcP p m mod e) ≤ len f ∧ e.r.xs.length ≤ len f := fun e he => by
 obtain ⟨j, hj, rfl⟩ := List.getElem_of_mem he
 have hp := (h.prod hf).2
 have hnn : ∀ e ∈ fs, 0 ≤ e.k := fun e he => (h.fc e he).2.1
 have h1 := fcT_succ (p := p) (m := m) (mod := mod) hj
 have h2 := fcT_mono (p := p) (m := m) (mod := mod) hnn (show j + 1 ≤ fs.length by omega)
 have h3 := fcT_mono (p := p) (m := m) (mod := mod) hnn (Nat.zero_le j)
 have e0 : fcT p m mod fs 0 = 0 := rfl
 have eg : fs.getD j facD = fs[j] := by rw [List.getD_eq_getElem?_getD, List.getElem?_eq_getElem hj]; rfl
 rw [eg] at h1
 obtain ⟨a1, a2, a3, a4, a5, a6, a7⟩ := h.fc _ he
 have h4 : fcD p m mod fs[j] * 1 ≤ fcD p m mod fs[j] * fs[j].k := Int.mul_le_mul_of_nonneg_left a4 (fcD_nn _)
 have h5 : fcD p m mod fs[j] = max ((len (fcP p m mod fs[j]) : Int) - 1) 0 := rfl
 have h6 : len (fcP p m mod fs[j]) ≤ len f := by omega
 exact ⟨h6, by rw [a7, il_length]; exact h6⟩
end
end Go.Proofs.YtdkahdehodopoaaGreat

namespace Go.Proofs.YtdkahdehodopoaaGreat
open Go.RowKit
section
variable {K : Type} [Fd K]
open Vc
def lpV (n : Nat) (u : Vc K) : Po K := ⟨fun j => if j < n then u j else 0, n, fun j hj => if_neg (by omega)⟩
def rpV (n : Nat) (u : Vc K) : Po K := ⟨fun j => if j < n then u (n + j) else 0, n, fun j hj => if_neg (by omega)⟩
theorem cf_lpV (n : Nat) (u : Vc K) (j : Nat) : Po.cf (lpV n u) j = if j < n then u j else 0 := rfl
theorem cf_rpV (n : Nat) (u : Vc K) (j : Nat) : Po.cf (rpV n u) j = if j < n then u (n + j) else 0 := rfl
theorem lpV_len (n : Nat) (u : Vc K) : Po.len (lpV n u) ≤ n := Po.len_le fun j hj => if_neg (by omega)
theorem rpV_len (n : Nat) (u : Vc K) : Po.len (rpV n u) ≤ n := Po.len_le fun j hj => if_neg (by omega)
theorem lpV_add (n : Nat) (u v : Vc K) (c : K) : lpV n (u + sc c v) = lpV n u + Po.C c * lpV n v := Po.ext fun j => by
 rw [Po.cf_add, Po.cf_C_mul, cf_lpV, cf_lpV, cf_lpV]
 by_cases h : j < n
 ·rw [if_pos h, if_pos h, if_pos h]; rfl
 ·rw [if_neg h, if_neg h, if_neg h, Fd.mul_zero, Rg.add_zero]
theorem rpV_add (n : Nat) (u v : Vc K) (c : K) : rpV n (u + sc c v) = rpV n u + Po.C c * rpV n v := Po.ext fun j => by
 rw [Po.cf_add, Po.cf_C_mul, cf_rpV, cf_rpV, cf_rpV]
 by_cases h : j < n
 ·rw [if_pos h, if_pos h, if_pos h]; rfl
 ·rw [if_neg h, if_neg h, if_neg h, Fd.mul_zero, Rg.add_zero]
theorem lpV_zero (n : Nat) : lpV n (0 : Vc K) = 0 := Po.ext fun j => by rw [cf_lpV, Po.cf_zero]; split <;> rfl
theorem rpV_zero (n : Nat) : rpV n (0 : Vc K) = 0 := Po.ext fun j => by rw [cf_rpV, Po.cf_zero]; split <;> rfl
theorem cmb_erase : ∀ (V : List (Vc K)) (i : Nat) (c : Nat → K), i < V.length → ∃ u, SpL (V.eraseIdx i) u ∧ cmb c V = sc (c i) (V.getD i 0) + u
 | v :: V, 0, c, _ => ⟨cmb (fun i => c (i + 1)) V, cmb_sp _ V, rfl⟩
 | v :: V, i + 1, c, h => by
  obtain ⟨u, h1, h2⟩ := cmb_erase V i (fun i => c (i + 1)) (by simpa using h)
  refine ⟨u + sc (c 0) v, .add _ (h1.mono fun r hr => .of (List.mem_cons_of_mem _ hr)) (List.mem_cons_self ..), ?_⟩
  rw [cmb, h2]
  show sc (c 0) v + (sc (c (i + 1)) (V.getD i 0) + u) = sc (c (i + 1)) (V.getD i 0) + (u + sc (c 0) v)
  ac_rfl
theorem indep_of_span {V T : List (Vc K)} (hl : V.length ≤ T.length) (hT : ¬ Dep T) (hs : ∀ t ∈ T, SpL V t) : ¬ Dep V := fun ⟨c, ⟨i, hi, hc⟩, h0⟩ => hT (by
 obtain ⟨u, h1, h2⟩ := cmb_erase V i c hi
 rw [h0] at h2
 have hVi : SpL (V.eraseIdx i) (V.getD i 0) := by
  have e : V.getD i 0 = sc (-(Fd.inv (c i))) u := Vc.ext fun j => by
   have h3 := congrFun h2 j
   rw [zero_at, add_at, sc_at] at h3
   rw [sc_at]
   have h4 := Fd.inv_mul (c i) hc
   have h5 : V.getD i 0 j = Fd.inv (c i) * (c i * V.getD i 0 j) := by rw [← Rg.mul_assoc, h4, Rg.one_mul]
   rw [h5]
   have h6 : c i * V.getD i 0 j = -(u j) := by grind
   rw [h6]; grind
  rw [e]; exact h1.scale _
 refine dep_of_more (V.eraseIdx i) T (fun t ht => (hs t ht).mono fun r hr => ?_) (by rw [List.length_eraseIdx]; split <;> omega)
 obtain ⟨j, hj, rfl⟩ := List.getElem_of_mem hr
 by_cases hij : j = i
 ·subst hij
  rw [List.getD_eq_getElem?_getD, List.getElem?_eq_getElem hj] at hVi
  exact hVi
 ·exact .of (List.mem_eraseIdx_iff_getElem.2 ⟨j, hj, hij, rfl⟩))
theorem cmb_drop : ∀ (a : Nat) (c : Nat → K) (V : List (Vc K)), a ≤ V.length → (∀ i, i < a → c i = 0) → cmb c V = cmb (fun i => c (a + i)) (V.drop a)
 | 0, c, V, _, _ => by simp
 | a + 1, c, v :: V, h, hz => by
  rw [cmb, hz 0 (by omega), zero_sc, zero_add, List.drop_succ_cons, cmb_drop a (fun i => c (i + 1)) V (by simpa using h) (fun i hi => hz (i + 1) (by omega))]
  congr 1
  funext i
  congr 1
  omega
end
section
variable {p m : Int} {mod : List Int} [hF : IsF p m mod]
open Po Vc
noncomputable def phiP (v : Po (El p m mod)) : Po (El p m mod) := Rg.pow v (pw p m).toNat - v
theorem phiP_add (u v : Po (El p m mod)) : phiP (u + v) = phiP u + phiP v := by
 unfold phiP
 have := frobQ u v 1
 rw [Nat.pow_one] at this
 rw [this]; grind
theorem phiP_C (c : El p m mod) (u : Po (El p m mod)) : phiP (C c * u) = C c * phiP u := by
 unfold phiP
 have hcp : ∀ k, Rg.pow (C c : Po (El p m mod)) k = C (Rg.pow c k) := fun k => by
  induction k with
  | zero => exact C_one.symm
  | succ k ih => rw [Rg.pow_succ, Rg.pow_succ, ih, C_mul]
 rw [Rg.mul_pow, hcp, all_pow]; grind
theorem phiP_zero : phiP (0 : Po (El p m mod)) = 0 := by
 have hq := hF.q2
 unfold phiP
 rw [Rg.zero_pow (by omega), Rg.sub_self]
def Gr (f : Po (El p m mod)) (n : Nat) (u : Vc (El p m mod)) : Prop := (∀ j, n + n ≤ j → u j = 0) ∧ f ∣ phiP (rpV n u) - lpV n u
theorem Gr.add {f : Po (El p m mod)} {n : Nat} {u v : Vc (El p m mod)} (h : Gr f n u) (k : Gr f n v) (c : El p m mod) : Gr f n (u + sc c v) := by
 refine ⟨fun j hj => by rw [add_at, sc_at, h.1 j hj, k.1 j hj, Fd.mul_zero, Rg.add_zero], ?_⟩
 rw [rpV_add, lpV_add, phiP_add, phiP_C]
 have := dvd_add h.2 (dvd_mul_ofL k.2 (C c))
 rwa [show phiP (rpV n u) - lpV n u + C c * (phiP (rpV n v) - lpV n v) = phiP (rpV n u) + C c * phiP (rpV n v) - (lpV n u + C c * lpV n v) by grind] at this
theorem Gr.zero (f : Po (El p m mod)) (n : Nat) : Gr f n 0 := ⟨fun _ _ => rfl, by rw [rpV_zero, lpV_zero, phiP_zero, Rg.sub_self]; exact dvd_zero f⟩
theorem Gr.span {f : Po (El p m mod)} {n : Nat} {V : List (Vc (El p m mod))} (h : ∀ v ∈ V, Gr f n v) {u : Vc (El p m mod)} (hu : SpL V u) : Gr f n u := Sp.lift hu (Gr.zero f n) fun u c r h1 h2 => h1.add (h r h2) c
theorem Gr.eq {f : Po (El p m mod)} {n : Nat} (hf : len f = n + 1) {u v : Vc (El p m mod)} (h : Gr f n u) (k : Gr f n v) (he : rpV n u = rpV n v) : u = v := by
 have h1 := dvd_sub h.2 k.2
 rw [he, show phiP (rpV n v) - lpV n u - (phiP (rpV n v) - lpV n v) = lpV n v - lpV n u by grind] at h1
 have h2 : lpV n v - lpV n u = 0 := Classical.byContradiction fun hne => by
  have := dvd_len h1 hne
  have h3 := len_sub (lpV n v) (lpV n u)
  have := lpV_len n v
  have := lpV_len n u
  omega
 refine Vc.ext fun j => ?_
 rcases Nat.lt_or_ge j n with hj | hj
 ·have h3 := congrArg (fun g => cf g j) h2
  simp only [cf_sub, cf_zero, cf_lpV, if_pos hj] at h3
  grind
 ·rcases Nat.lt_or_ge j (n + n) with hj2 | hj2
  ·have h3 := congrArg (fun g => cf g (j - n)) he
   simp only [cf_rpV, if_pos (show j - n < n by omega), show n + (j - n) = j by omega] at h3
   exact h3
  ·rw [h.1 j hj2, k.1 j hj2]
theorem cmb_at_drop (c : Nat → El p m mod) (R : List (Vc (El p m mod))) (j : Nat) : cmb c R j = Rg.sm R.length (fun i => c i * (R.getD i 0) j) := cmb_at c 0 R j
structure Sta (f : Po (El p m mod)) (n : Nat) (V : List (Vc (El p m mod))) : Prop where
 len : V.length = n
 gr : ∀ v ∈ V, Gr f n v
 one : ∀ i j, i < n → j < n → V.getD i 0 (n + j) = if i = j then 1 else 0
theorem Sta.cmb {f : Po (El p m mod)} {n : Nat} {V : List (Vc (El p m mod))} (h : Sta f n V) (c : Nat → El p m mod) {j : Nat} (hj : j < n) : cmb c V (n + j) = c j := by
 rw [cmb_at_drop, h.len, Rg.sm_one hj (fun i hi hne => by rw [h.one i j hi hj, if_neg hne, Fd.mul_zero]), h.one j j hj hj, if_pos rfl, Rg.mul_one]
theorem Sta.span {f : Po (El p m mod)} {n : Nat} {V : List (Vc (El p m mod))} (h : Sta f n V) (hf : Po.len f = n + 1) (u : Vc (El p m mod)) : SpL V u ↔ Gr f n u := by
 refine ⟨Gr.span h.gr, fun hu => ?_⟩
 have e : u = Vc.cmb (fun k => u (n + k)) V := Gr.eq hf hu (Gr.span h.gr (cmb_sp _ V)) (Po.ext fun j => by
  rw [cf_rpV, cf_rpV]
  by_cases hj : j < n
  ·rw [if_pos hj, if_pos hj, h.cmb _ hj]
  ·rw [if_neg hj, if_neg hj])
 rw [e]; exact cmb_sp _ V
theorem Sta.ind {f : Po (El p m mod)} {n : Nat} {V : List (Vc (El p m mod))} (h : Sta f n V) : ¬ Dep V := fun ⟨c, ⟨i, hi, hc⟩, h0⟩ => hc (by
 rw [h.len] at hi
 rw [← h.cmb c hi, h0]; rfl)
structure Fwd (f : Po (El p m mod)) (n : Nat) (V : List (Vc (El p m mod))) (c a : Nat) : Prop where
 len : V.length = n
 sp : ∀ u, SpL V u ↔ Gr f n u
 zer : ∀ i j, a ≤ i → i < n → j < c → V.getD i 0 j = 0
 piv : ∀ i, i < a → ∃ d, d < n ∧ V.getD i 0 d ≠ 0 ∧ ∀ k, i < k → k < n → V.getD k 0 d = 0
variable {f : Po (El p m mod)} {n c a : Nat} {V : List (Vc (El p m mod))}
theorem Sta.fwd (h : Sta f n V) (hf : Po.len f = n + 1) : Fwd f n V 0 0 := ⟨h.len, h.span hf, fun i j _ _ hj => absurd hj (Nat.not_lt_zero _), fun i hi => absurd hi (Nat.not_lt_zero _)⟩
theorem Fwd.skip (h : Fwd f n V c a) (hz : ∀ i, a ≤ i → i < n → V.getD i 0 c = 0) : Fwd f n V (c + 1) a :=
 ⟨h.len, h.sp, fun i j h1 h2 h3 => by
  rcases Nat.lt_or_eq_of_le (Nat.le_of_lt_succ h3) with e | e
  ·exact h.zer i j h1 h2 e
  ·rw [e]; exact hz i h1 h2, h.piv⟩
theorem Fwd.swap (h : Fwd f n V c a) {k : Nat} (hk : a ≤ k) (hkn : k < n) : Fwd f n ((V.set a (V.getD k 0)).set k (V.getD a 0)) c a := by
 have hl := h.len
 have hg : ∀ i, ((V.set a (V.getD k 0)).set k (V.getD a 0)).getD i 0 = if i = k then V.getD a 0 else if i = a then V.getD k 0 else V.getD i 0 := fun i => by
  rw [getD_setV, getD_setV, List.length_set]
  by_cases e1 : i = k
  ·subst e1; rw [if_pos ⟨rfl, by omega⟩, if_pos rfl]
  ·rw [if_neg (fun e => e1 e.1.symm), if_neg e1]
   by_cases e2 : i = a
   ·subst e2; rw [if_pos ⟨rfl, by omega⟩, if_pos rfl]
   ·rw [if_neg (fun e => e2 e.1.symm), if_neg e2]
 refine ⟨by simpa using hl, fun u => ?_, fun i j h1 h2 h3 => ?_, fun i hi => ?_⟩
 ·rw [← h.sp u]
  refine (span_perm (swap_perm 0 V (by omega) (by omega)) u).symm
 ·rw [hg]
  split
  ·exact h.zer a j (Nat.le_refl _) (by omega) h3
  ·split
   ·exact h.zer k j hk hkn h3
   ·exact h.zer i j h1 h2 h3
 ·obtain ⟨d, d1, d2, d3⟩ := h.piv i hi
  refine ⟨d, d1, by rw [hg, if_neg (by omega), if_neg (by omega)]; exact d2, fun q q1 q2 => ?_⟩
  rw [hg]
  split
  ·exact d3 a hi (by omega)
  ·split
   ·exact d3 k (by omega) hkn
   ·exact d3 q q1 q2
theorem Fwd.plus (h : Fwd f n V c a) {i : Nat} (hi : a < i) (hin : i < n) (e : El p m mod) : Fwd f n (V.set i (V.getD i 0 + sc e (V.getD a 0))) c a := by
 have hl := h.len
 have hg : ∀ q, (V.set i (V.getD i 0 + sc e (V.getD a 0))).getD q 0 = if q = i then V.getD i 0 + sc e (V.getD a 0) else V.getD q 0 := fun q => by
  rw [getD_setV]
  by_cases e1 : q = i
  ·subst e1; rw [if_pos ⟨rfl, by omega⟩, if_pos rfl]
  ·rw [if_neg (fun e => e1 e.1.symm), if_neg e1]
 refine ⟨by simpa using hl, fun u => ?_, fun q j h1 h2 h3 => ?_, fun q hq => ?_⟩
 ·rw [← h.sp u]
  refine (span_set (by omega) ((Sp.of (getD_eq_mem (by omega) 0)).plus ((Sp.of (getD_eq_mem (by omega) 0)).scale e)) ?_ u).symm
  have m1 : SpL (V.set i (V.getD i 0 + sc e (V.getD a 0))) (V.getD i 0 + sc e (V.getD a 0)) := .of (by
   have := getD_eq_mem (l := V.set i (V.getD i 0 + sc e (V.getD a 0))) (i := i) (by simp; omega) 0
   rwa [hg, if_pos rfl] at this)
  have m2 : SpL (V.set i (V.getD i 0 + sc e (V.getD a 0))) (V.getD a 0) := .of (by
   have := getD_eq_mem (l := V.set i (V.getD i 0 + sc e (V.getD a 0))) (i := a) (by simp; omega) 0
   rwa [hg, if_neg (by omega)] at this)
  have := m1.plus (m2.scale (-e))
  have e2 : V.getD i 0 + sc e (V.getD a 0) + sc (-e) (V.getD a 0) = V.getD i 0 := Vc.ext fun j => by rw [add_at, add_at, sc_at, sc_at]; grind
  rwa [e2] at this
 ·rw [hg]
  split
  ·rw [add_at, sc_at, h.zer i j (by omega) hin h3, h.zer a j (Nat.le_refl _) (by omega) h3, Fd.mul_zero, Rg.add_zero]
  ·exact h.zer q j h1 h2 h3
 ·obtain ⟨d, d1, d2, d3⟩ := h.piv q hq
  refine ⟨d, d1, by rw [hg, if_neg (by omega)]; exact d2, fun r r1 r2 => ?_⟩
  rw [hg]
  split
  ·rw [add_at, sc_at, d3 i (by omega) hin, d3 a hq (by omega), Fd.mul_zero, Rg.add_zero]
  ·exact d3 r r1 r2
theorem Fwd.push (h : Fwd f n V c a) (hcn : c < n) (han : a < n) (h1 : V.getD a 0 c ≠ 0) (h0 : ∀ i, a < i → i < n → V.getD i 0 c = 0) : Fwd f n V (c + 1) (a + 1) :=
 ⟨h.len, h.sp, fun i j i1 i2 i3 => by
  rcases Nat.lt_or_eq_of_le (Nat.le_of_lt_succ i3) with e | e
  ·exact h.zer i j (by omega) i2 e
  ·rw [e]; exact h0 i (by omega) i2, fun i hi => by
  rcases Nat.lt_or_eq_of_le (Nat.le_of_lt_succ hi) with e | e
  ·exact h.piv i e
  ·subst e; exact ⟨c, hcn, h1, h0⟩⟩
theorem cmb_rp (n : Nat) : ∀ (c : Nat → El p m mod) (L : List (Vc (El p m mod))), cmb c ((L.map (rpV n)).map vcP) = vcP (rpV n (cmb c L))
 | c, [] => by
  rw [List.map_nil, List.map_nil]
  show (0 : Vc (El p m mod)) = vcP (rpV n 0)
  rw [rpV_zero]; rfl
 | c, u :: L => by
  rw [List.map_cons, List.map_cons, cmb, cmb_rp n _ L, cmb, add_comm (sc (c 0) u), rpV_add]
  refine Vc.ext fun j => ?_
  show c 0 * cf (rpV n u) j + cf (rpV n _) j = cf (_ + C (c 0) * rpV n u) j
  rw [cf_add, cf_C_mul]
  grind
theorem dep_drop {a : Nat} (ha : a ≤ V.length) (h : Dep (V.drop a)) : Dep V := by
 obtain ⟨c, ⟨i, hi, hc⟩, h0⟩ := h
 rw [List.length_drop] at hi
 refine ⟨fun k => if k < a then 0 else c (k - a), ⟨a + i, by omega, by show (if a + i < a then (0 : El p m mod) else c (a + i - a)) ≠ 0; rw [if_neg (by omega), show a + i - a = i by omega]; exact hc⟩, ?_⟩
 rw [cmb_drop a _ V ha (fun k hk => if_pos hk)]
 have e : (fun i => if a + i < a then (0 : El p m mod) else c (a + i - a)) = c := funext fun k => by rw [if_neg (by omega), show a + k - a = k by omega]
 rw [e]; exact h0
theorem Fwd.done (h : Fwd f n V c a) (hf : Po.len f = n + 1) {T : List (Vc (El p m mod))} (hT : Sta f n T) (hc : n ≤ c ∨ n ≤ a) (han : a ≤ n) : Bss f ((V.drop a).map (rpV n)) := by
 have hl := h.len
 have hV : ¬ Dep V := indep_of_span (by rw [hl, hT.len]; exact Nat.le_refl _) hT.ind fun t ht => (h.sp t).2 (hT.gr t ht)
 have hgr : ∀ v ∈ V, Gr f n v := fun v hv => (h.sp v).1 (.of hv)
 refine ⟨fun v hv => ?_, fun hd => ?_, fun v hv hfx => ?_⟩
 ·obtain ⟨u, hu, rfl⟩ := List.mem_map.1 hv
  obtain ⟨i, hi, rfl⟩ := List.getElem_of_mem hu
  rw [List.length_drop] at hi
  have hg : (V.drop a)[i]'(by rw [List.length_drop]; exact hi) = V.getD (a + i) 0 := by
   rw [List.getElem_drop, List.getD_eq_getElem?_getD, List.getElem?_eq_getElem (show a + i < V.length by omega)]; rfl
  rw [hg]
  refine ⟨by have := rpV_len n (V.getD (a + i) 0); omega, ?_⟩
  have h1 := (hgr _ (getD_eq_mem (l := V) (show a + i < V.length by omega) 0)).2
  have h2 : lpV n (V.getD (a + i) 0) = 0 := Po.ext fun j => by
   rw [cf_lpV, cf_zero]
   split
   ·rename_i hj
    rcases hc with hc | hc
    ·exact h.zer (a + i) j (by omega) (by omega) (by omega)
    ·omega
   ·rfl
  rw [h2, show phiP (rpV n (V.getD (a + i) 0)) - 0 = phiP (rpV n (V.getD (a + i) 0)) by grind] at h1
  exact h1
 ·obtain ⟨e, ⟨i, hi, hne⟩, h0⟩ := hd
  rw [List.length_map, List.length_map] at hi
  rw [cmb_rp] at h0
  have h1 : rpV n (cmb e (V.drop a)) = rpV n 0 := vcP_inj (by rw [h0, rpV_zero]; rfl)
  have h2 := Gr.eq hf (Gr.span (fun v hv => hgr v (List.mem_of_mem_drop hv)) (cmb_sp e (V.drop a))) (Gr.zero f n) h1
  exact hV (dep_drop (by omega) ⟨e, ⟨i, hi, hne⟩, h2⟩)
 ·have hlv : Po.len v ≤ n := by omega
  have hcf : ∀ j, n ≤ j → cf v j = 0 := fun j hj => cf_ge (by omega)
  let u : Vc (El p m mod) := fun j => if j < n then 0 else cf v (j - n)
  have hru : rpV n u = v := Po.ext fun j => by
   rw [cf_rpV]
   by_cases hj : j < n
   ·rw [if_pos hj]
    show (if n + j < n then (0 : El p m mod) else cf v (n + j - n)) = _
    rw [if_neg (by omega), show n + j - n = j by omega]
   ·rw [if_neg hj, hcf j (by omega)]
  have hlu : lpV n u = 0 := Po.ext fun j => by
   rw [cf_lpV, cf_zero]
   split
   ·rename_i hj
    exact if_pos hj
   ·rfl
  have hu : Gr f n u := ⟨fun j hj => by
   show (if j < n then (0 : El p m mod) else cf v (j - n)) = 0
   rw [if_neg (by omega), hcf _ (by omega)], by
   rw [hru, hlu, show phiP v - 0 = phiP v by grind]; exact hfx⟩
  obtain ⟨e, he⟩ := sp_cmb ((h.sp u).2 hu)
  have hz : ∀ i, i < a → e i = 0 := fun i => by
   induction i using Nat.strongRecOn with
   | ind i ih =>
    intro hi
    obtain ⟨d, d1, d2, d3⟩ := h.piv i hi
    have h1 : u d = 0 := if_pos d1
    rw [he, cmb_at_drop, hl, Rg.sm_one (show i < n by omega) (fun k hk hne => by
     rcases Nat.lt_or_gt_of_ne hne with e1 | e1
     ·rw [ih k e1 (by omega), Fd.zero_mul]
     ·rw [d3 k e1 hk, Fd.mul_zero])] at h1
    exact (Fd.mul_eq_zero h1).resolve_right d2
  rw [cmb_drop a e V (by omega) hz] at he
  refine ⟨fun i => e (a + i), vcP_inj ?_⟩
  rw [vcP_smC, cmb_rp, ← he, hru]
end
end Go.Proofs.YtdkahdehodopoaaGreat

namespace Go.Proofs.YtdkahdehodopoaaGreat
open Go.RowKit
section
variable {p m : Int} {mod : List Int} [hF : IsF p m mod]
open Po
theorem pow_mn (i : Nat) : ∀ k, Rg.pow (mn 1 i : Po (El p m mod)) k = mn 1 (i * k)
 | 0 => by rw [Nat.mul_zero]; rfl
 | k + 1 => by rw [Rg.pow_succ, pow_mn i k, mn_mul, Rg.mul_one, Nat.mul_succ]
theorem phiP_mn (i : Nat) : phiP (mn 1 i : Po (El p m mod)) = mn 1 (i * (pw p m).toNat) - mn 1 i := by
 unfold phiP
 rw [pow_mn]
theorem gr_row {f : Po (El p m mod)} (hf : f ≠ 0) {n i : Nat} {u : Vc (El p m mod)} (h0 : ∀ j, n + n ≤ j → u j = 0) (h1 : lpV n u = xk f (i * (pw p m).toNat) - mn 1 i) (h2 : rpV n u = mn 1 i) : Gr f n u := ⟨h0, by
 rw [h1, h2, phiP_mn]
 obtain ⟨z, hz⟩ := Po.rem_sub_dvd (mn 1 (i * (pw p m).toNat)) hf
 unfold xk
 refine ⟨z, ?_⟩
 rw [← hz]
 generalize (mn 1 (i * (pw p m).toNat) : Po (El p m mod)).rem f = r
 generalize (mn 1 (i * (pw p m).toNat) : Po (El p m mod)) = t
 generalize (mn 1 i : Po (El p m mod)) = s
 grind⟩
theorem xk_add {f : Po (El p m mod)} (hf : f ≠ 0) (a b : Nat) : Po.rem (xk f a * xk f b) f = xk f (a + b) := by
 unfold xk
 rw [rem_eq_iff hf]
 have e : (mn 1 (a + b) : Po (El p m mod)) = mn 1 a * mn 1 b := by rw [mn_mul, Rg.mul_one]
 rw [e]
 obtain ⟨y, hy⟩ := Po.rem_sub_dvd (mn 1 a : Po (El p m mod)) hf
 obtain ⟨z, hz⟩ := Po.rem_sub_dvd (mn 1 b : Po (El p m mod)) hf
 generalize (mn 1 a : Po (El p m mod)).rem f = r at *
 generalize (mn 1 b : Po (El p m mod)).rem f = t at *
 generalize (mn 1 a : Po (El p m mod)) = u at *
 generalize (mn 1 b : Po (El p m mod)) = v at *
 refine ⟨-(y * t) - u * z, ?_⟩
 have h1 : r = u - f * y := by grind
 have h2 : t = v - f * z := by grind
 rw [h1, h2]; grind
end
end Go.Proofs.YtdkahdehodopoaaGreat

namespace Go.Proofs.YtdkahdehodopoaaGreat
open Po
section
variable {p m : Int} {mod : List Int} [hF : IsF p m mod]
def Cst (v g : Po (El p m mod)) : Prop := ∃ c : El p m mod, g ∣ v - C c
theorem Cst.of_dvd {v g d : Po (El p m mod)} (h : Cst v g) (hd : d ∣ g) : Cst v d := by
 obtain ⟨c, hc⟩ := h
 exact ⟨c, dvd_trans hd hc⟩
structure Pts (f : Po (El p m mod)) (ps : List (Po (El p m mod))) : Prop where
 each : ∀ g ∈ ps, lead g = 1 ∧ 2 ≤ len g
 prod : prd ps = f
theorem Pts.one {f : Po (El p m mod)} (hl : lead f = 1) (h2 : 2 ≤ len f) : Pts f [f] := ⟨fun g hg => by
 rw [List.mem_singleton] at hg
 subst hg; exact ⟨hl, h2⟩, by rw [prd, prd, Rg.mul_one]⟩
theorem nodup_prd {K : Type} [Fd K] : ∀ {Qs : List (Po K)}, (∀ Q ∈ Qs, Ir Q) → Sf (prd Qs) → Qs.Nodup
 | [], _, _ => .nil
 | Q :: Qs, h, hs => by
  rw [prd] at hs
  refine List.nodup_cons.2 ⟨fun hm => hs Q (h Q (List.mem_cons_self ..)) (mul_dvd_mul (prd_dvd hm) Q), nodup_prd (fun R hR => h R (List.mem_cons_of_mem _ hR)) (hs.of_dvd (dvd_mulL _ _))⟩
theorem irL_prd {K : Type} [Fd K] {Qs : List (Po K)} (h : ∀ Q ∈ Qs, Ir Q ∧ lead Q = 1) (hs : Sf (prd Qs)) : IrL (prd Qs) Qs :=
 ⟨nodup_prd (fun Q hQ => (h Q hQ).1) hs, fun P => ⟨fun hP => ⟨(h P hP).1, (h P hP).2, prd_dvd hP⟩, fun ⟨h1, h2, h3⟩ => by
  obtain ⟨Q, hQ, hd⟩ := ir_dvd_prd h1 h3
  rw [h1.one (h Q hQ).1 h2 (h Q hQ).2 hd]; exact hQ⟩⟩
theorem flat_ir {K : Type} [Fd K] : ∀ {ps : List (Po K)}, (∀ g ∈ ps, lead g = 1 ∧ 2 ≤ len g) → Sf (prd ps) → ∃ Qs, (∀ Q ∈ Qs, Ir Q ∧ lead Q = 1) ∧ prd Qs = prd ps ∧ ps.length ≤ Qs.length ∧ (Qs.length ≤ ps.length → ∀ g ∈ ps, Ir g)
 | [], _, _ => ⟨[], fun Q hQ => by simp at hQ, rfl, Nat.le_refl _, fun _ g hg => by simp at hg⟩
 | g :: ps, h, hs => by
  rw [prd] at hs
  have hg := h g (List.mem_cons_self ..)
  obtain ⟨Ls, h1, h2⟩ := irL_ex (len g) g (Nat.le_refl _) hg.1 (hs.of_dvd (dvd_mul _ _))
  obtain ⟨Qs, q1, q2, q3, q4⟩ := flat_ir (ps := ps) (fun x hx => h x (List.mem_cons_of_mem _ hx)) (hs.of_dvd (dvd_mulL _ _))
  have hL : 1 ≤ Ls.length := by
   cases Ls with
   | nil =>
    rw [prd] at h2
    rw [← h2, len_one] at hg
    omega
   | cons x l => simp
  refine ⟨Ls ++ Qs, fun Q hQ => ?_, by rw [prd_append, h2, q2, prd], by simp; omega, fun hl x hx => ?_⟩
  ·rcases List.mem_append.1 hQ with hQ | hQ
   ·have := (h1.mem Q).1 hQ
    exact ⟨this.1, this.2.1⟩
   ·exact q1 Q hQ
  ·simp only [List.length_append, List.length_cons] at hl
   rcases List.mem_cons.1 hx with rfl | hx
   ·match Ls, h1, h2, hL, hl with
    | [P], h1, h2, _, _ =>
     rw [prd, prd, Rg.mul_one] at h2
     rw [← h2]
     exact ((h1.mem P).1 (List.mem_cons_self ..)).1
    | _ :: _ :: _, _, _, _, hl => simp only [List.length_cons] at hl; omega
   ·exact q4 (by omega) x hx
theorem spl_done {f : Po (El p m mod)} {ps B : List (Po (El p m mod))} (hp : Pts f ps) (hf : lead f = 1) (hs : Sf f) (hB : Bss f B) (h : ps.length = B.length ∨ ∀ v ∈ B, ∀ g ∈ ps, Cst v g) : IrL f ps := by
 have hir : ∀ g ∈ ps, Ir g := by
  rcases h with h | h
  ·have hsp : Sf (prd ps) := by rw [hp.prod]; exact hs
   obtain ⟨Qs, q1, q2, q3, q4⟩ := flat_ir hp.each hsp
   have h1 := irL_prd q1 (by rw [q2]; exact hsp)
   rw [q2, hp.prod] at h1
   have h2 := bss_len hf hs hB h1
   exact q4 (by omega)
  ·intro g hg
   have hgf : g ∣ f := by rw [← hp.prod]; exact prd_dvd hg
   refine ir_of_no (hp.each g hg).2 fun P hP hd => Classical.byContradiction fun hne => ?_
   obtain ⟨k, rfl⟩ := hd
   have hg0 := lead_one_ne (hp.each _ hg).1
   have hk : k ≠ 0 := fun e => hg0 (by rw [e, Rg.mul_zero])
   have hl := len_mul hP.ne hk
   have h2 := hP.two
   have h3 := len_pos hk
   obtain ⟨Q, hQ, hlQ, hd⟩ := ir_ex (f := k) (by omega)
   have hQP : ¬ Q ∣ P := fun hd2 => hs P hP (dvd_trans (mul_dvd_mul (dvd_trans (hQ.assoc hP hd2) hd) P) hgf)
   obtain ⟨v, hv, hno⟩ := bss_sep hf hs hB hP hQ (dvd_trans (dvd_mul _ _) hgf) (dvd_trans (dvd_mul_ofL hd P) hgf) hQP
   obtain ⟨c, hc⟩ := h v hv _ hg
   exact hno c ⟨dvd_trans (dvd_mul _ _) hc, dvd_trans (dvd_mul_ofL hd P) hc⟩
 have := irL_prd (Qs := ps) (fun g hg => ⟨hir g hg, (hp.each g hg).1⟩) (by rw [hp.prod]; exact hs)
 rwa [hp.prod] at this
structure SpE (v g : Po (El p m mod)) (pre : List Int) (ds : List (Po (El p m mod))) (rest : Po (El p m mod)) : Prop where
 each : ∀ d ∈ ds, lead d = 1 ∧ 2 ≤ len d ∧ Cst v d
 prod : prd ds * rest = g
 mon : lead rest = 1
 no : ∀ P, Ir P → P ∣ rest → ∀ s ∈ pre, ¬ P ∣ v - C (el s)
variable {f v g rest : Po (El p m mod)} {pre : List Int} {ds : List (Po (El p m mod))}
theorem SpE.start (hg : lead g = 1) : SpE v g [] [] g := ⟨fun d hd => by simp at hd, by rw [prd, Rg.one_mul], hg, fun P _ _ s hs => by simp at hs⟩
theorem prd_one : ∀ {l : List (Po (El p m mod))} (x : Po (El p m mod)), prd (l ++ [x]) = prd l * x := fun x => by rw [prd_append, prd, prd, Rg.mul_one]
theorem quo_mon (hr : lead rest = 1) {d : Po (El p m mod)} (hd : d ∣ rest) (hl : lead d = 1) : lead (quo rest d) = 1 := by
 have h0 := lead_one_ne hr
 have hd0 := lead_one_ne hl
 have e := quo_mul hd0 hd
 have hq : quo rest d ≠ 0 := fun h => h0 (by rw [← e, h, Rg.zero_mul])
 have := lead_mul hq hd0
 rw [e, hr, hl, Rg.mul_one] at this
 exact this.symm
theorem SpE.yes (h : SpE v g pre ds rest) (hs : Sf g) (s : Int) (h2 : 2 ≤ len (Po.gcd rest (v - C (el s)))) : SpE v g (pre ++ [s]) (ds ++ [Po.gcd rest (v - C (el s))]) (quo rest (Po.gcd rest (v - C (el s)))) := by
 have h0 := lead_one_ne h.mon
 have hd := (gcd_is rest (v - C (el s))).left
 have hd2 := (gcd_is rest (v - C (el s))).right
 have hl : lead (Po.gcd rest (v - C (el s))) = 1 := gcd_monic (.inl h0)
 have hgr := (gcd_is rest (v - C (el s)))
 have e := quo_mul (lead_one_ne hl) hd
 refine ⟨fun d hm => ?_, by rw [prd_one, Rg.mul_assoc, Rg.mul_comm (Po.gcd _ _), e]; exact h.prod, quo_mon h.mon hd hl, fun P hP hPr t ht => ?_⟩
 ·rcases List.mem_append.1 hm with hm | hm
  ·exact h.each d hm
  ·rw [List.mem_singleton] at hm
   subst hm
   exact ⟨hl, h2, el s, hd2⟩
 ·have hPr2 : P ∣ rest := by rw [← e]; exact dvd_trans hPr (dvd_mul _ _)
  rcases List.mem_append.1 ht with ht | ht
  ·exact h.no P hP hPr2 t ht
  ·rw [List.mem_singleton] at ht
   subst ht
   intro hPv
   have hPd : P ∣ Po.gcd rest (v - C (el t)) := (gcd_is _ _).great hPr2 hPv
   have : P * P ∣ rest := by rw [← e]; exact dvd_mul2 hPr hPd
   exact hs P hP (by rw [← h.prod]; exact dvd_mul_ofL this _)
theorem SpE.no' (h : SpE v g pre ds rest) (s : Int) (h2 : ¬ 2 ≤ len (Po.gcd rest (v - C (el s)))) : SpE v g (pre ++ [s]) ds rest := by
 refine ⟨h.each, h.prod, h.mon, fun P hP hPr t ht => ?_⟩
 rcases List.mem_append.1 ht with ht | ht
 ·exact h.no P hP hPr t ht
 ·rw [List.mem_singleton] at ht
  subst ht
  intro hPv
  have hPd : P ∣ Po.gcd rest (v - C (el t)) := (gcd_is _ _).great hPr hPv
  have h3 := dvd_len hPd (gcd_ne (.inl (lead_one_ne h.mon)))
  have := hP.two
  omega
theorem SpE.end1 (h : SpE v g pre ds rest) (h2 : ¬ 2 ≤ len rest) : prd ds = g := by
 have := h.prod
 rwa [monic_one h.mon (by omega), Rg.mul_one] at this
theorem SpE.end2 (h : SpE v g pre ds rest) (hv : Fxd f v) (hgf : g ∣ f) (hall : ∀ c : El p m mod, ∃ s ∈ pre, (el s : El p m mod) = c) : prd ds = g := h.end1 fun h2 => by
 obtain ⟨P, hP, hlP, hd⟩ := ir_ex h2
 have hPg : P ∣ g := by rw [← h.prod]; exact dvd_mul_ofL hd _
 obtain ⟨c, hc⟩ := fxd_const hv hP (dvd_trans hPg hgf)
 obtain ⟨s, hs, e⟩ := hall c
 exact h.no P hP hd s hs (by rw [e]; exact hc)
structure SpP (B : List (Po (El p m mod))) (v : Po (El p m mod)) (ps : List (Po (El p m mod))) (i : Nat) (ns : List (Po (El p m mod))) : Prop where
 each : ∀ d ∈ ns, (lead d = 1 ∧ 2 ≤ len d ∧ Cst v d) ∧ ∃ g ∈ ps, d ∣ g
 prod : prd ns = prd (ps.take i)
variable {B ps ns : List (Po (El p m mod))} {i : Nat}
theorem SpP.start : SpP B v ps 0 [] := ⟨fun d hd => by simp at hd, by rw [List.take_zero]⟩
theorem take_getD {α : Type} {l : List α} {i : Nat} (h : i < l.length) (z : α) : l.take (i + 1) = l.take i ++ [l.getD i z] := by
 rw [List.take_add_one, List.getElem?_eq_getElem h, List.getD_eq_getElem?_getD, List.getElem?_eq_getElem h]; rfl
theorem SpP.next (h : SpP B v ps i ns) (hi : i < ps.length) (he : ∀ d ∈ ds, lead d = 1 ∧ 2 ≤ len d ∧ Cst v d) (hp : prd ds = ps.getD i 0) : SpP B v ps (i + 1) (ns ++ ds) := by
 refine ⟨fun d hd => ?_, by rw [prd_append, h.prod, hp, take_getD hi 0, prd_one]⟩
 rcases List.mem_append.1 hd with hd | hd
 ·exact h.each d hd
 ·exact ⟨he d hd, ps.getD i 0, Vc.getD_eq_mem hi 0, by rw [← hp]; exact prd_dvd hd⟩
structure SpB (f : Po (El p m mod)) (B : List (Po (El p m mod))) (j : Nat) (ps : List (Po (El p m mod))) : Prop where
 pts : Pts f ps
 cst : ∀ v ∈ B.take j, ∀ g ∈ ps, Cst v g
theorem SpB.start (hf : lead f = 1) (h2 : 2 ≤ len f) : SpB f B 0 [f] := ⟨Pts.one hf h2, fun v hv => by simp at hv⟩
theorem SpB.skip {j : Nat} (h : SpB f B j ps) (hj : j < B.length) (h2 : ¬ 2 ≤ len (B.getD j 0)) : SpB f B (j + 1) ps := ⟨h.pts, fun v hv g hg => by
 rw [take_getD hj 0] at hv
 rcases List.mem_append.1 hv with hv | hv
 ·exact h.cst v hv g hg
 ·rw [List.mem_singleton] at hv
  rw [hv]
  refine ⟨cf (B.getD j 0) 0, ?_⟩
  have e : B.getD j 0 - C (cf (B.getD j 0) 0) = 0 := Po.ext fun k => by
   rw [cf_sub, cf_mn, cf_zero]
   by_cases hk : k = 0
   ·rw [if_pos hk, hk, Rg.sub_self]
   ·rw [if_neg hk, cf_ge (by omega), Rg.sub_self]
  rw [e]; exact dvd_zero g⟩
theorem SpB.next {j : Nat} (h : SpB f B j ps) (hj : j < B.length) (hn : SpP B (B.getD j 0) ps ps.length ns) : SpB f B (j + 1) ns := by
 refine ⟨⟨fun d hd => ?_, by rw [hn.prod, List.take_length, h.pts.prod]⟩, fun v hv g hg => ?_⟩
 ·have := (hn.each d hd).1
  exact ⟨this.1, this.2.1⟩
 ·obtain ⟨⟨_, _, h3⟩, x, hx, hd⟩ := hn.each g hg
  rw [take_getD hj 0] at hv
  rcases List.mem_append.1 hv with hv | hv
  ·exact (h.cst v hv x hx).of_dvd hd
  ·rw [List.mem_singleton] at hv
   rw [hv]; exact h3
theorem SpB.done {j : Nat} (h : SpB f B j ps) (hf : lead f = 1) (hs : Sf f) (hB : Bss f B) (hj : ps.length = B.length ∨ B.length ≤ j) : IrL f ps :=
 spl_done h.pts hf hs hB (hj.imp_right fun hj => by
  have := h.cst
  rwa [List.take_of_length_le hj] at this)
theorem prd_cnt : ∀ l : List (Po (El p m mod)), (∀ g ∈ l, lead g = 1 ∧ 2 ≤ len g) → l.length + 1 ≤ len (prd l)
 | [], _ => by rw [prd, len_one]; simp
 | x :: l, h => by
  have h1 := prd_cnt l fun g hg => h g (List.mem_cons_of_mem _ hg)
  have h2 := h x (List.mem_cons_self ..)
  have h3 : prd l ≠ 0 := len_pos_iff.1 (by omega)
  have := len_mul (lead_one_ne h2.1) h3
  rw [prd, List.length_cons]
  omega
theorem Pts.le (h : Pts f ps) : ps.length + 1 ≤ len f := by
 rw [← h.prod]; exact prd_cnt ps h.each
theorem Pts.dvd (h : Pts f ps) {g : Po (El p m mod)} (hg : g ∈ ps) : g ∣ f := by rw [← h.prod]; exact prd_dvd hg
theorem SpE.le (h : SpE v g pre ds rest) (hg : g ≠ 0) : ds.length + 1 ≤ len g ∧ len rest ≤ len g := by
 have h1 := prd_cnt ds fun d hd => ⟨(h.each d hd).1, (h.each d hd).2.1⟩
 have h2 := dvd_len (show prd ds ∣ g by rw [← h.prod]; exact dvd_mul _ _) hg
 have h3 := dvd_len (show rest ∣ g by rw [← h.prod]; exact dvd_mulL _ _) hg
 omega
theorem SpP.le (h : SpP B v ps i ns) (hp : Pts f ps) (hf : f ≠ 0) : ns.length + 1 ≤ len f := by
 have h1 := prd_cnt ns fun d hd => ⟨(h.each d hd).1.1, (h.each d hd).1.2.1⟩
 have h2 : prd ns ∣ f := by
  rw [h.prod, ← hp.prod]
  have e : prd ps = prd (ps.take i) * prd (ps.drop i) := by rw [← prd_append, List.take_append_drop]
  rw [e]; exact dvd_mul _ _
 have := dvd_len h2 hf
 omega
theorem SpE.gcd_le (h : SpE v g pre ds rest) (w : Po (El p m mod)) : len (Po.gcd rest w) ≤ len rest := dvd_len (gcd_is rest w).left (lead_one_ne h.mon)
theorem SpE.ne (h : SpE v g pre ds rest) : rest ≠ 0 := lead_one_ne h.mon
theorem SpE.ne2 (h : SpE v g pre ds rest) (w : Po (El p m mod)) : Po.gcd rest w ≠ 0 := gcd_ne (.inl h.ne)
end
end Go.Proofs.YtdkahdehodopoaaGreat

namespace Go.Proofs.YtdkahdehodopoaaGreat
open Go.RowKit
theorem cutA_zeroR (A : Option Addr) (c : Nat) : A = cutA A 0 c := by
 unfold cutA
 split
 ·cases A with
  | none => rfl
  | some a => simp [shA, Addr.add]
 ·rfl
theorem row_ro {rs : List RowM} {r : RowM} (h : r ∈ rs) (F : List Chunk) : CSub (rowsR rs :: F) (ro r.A (ints r.xs) :: rowsR rs :: F) :=
 CSub.dup (c := rowsR rs) (d := ro r.A (ints r.xs)) ⟨fun w hs => hs r h, fun b hb => ⟨r, h, hb⟩, fun h => h⟩ (fun h => h) F
theorem rowsR_one {r : RowM} (F : List Chunk) : CSub (ro r.A (ints r.xs) :: F) (rowsR [r] :: F) :=
 CSub.weak (c := ro r.A (ints r.xs)) (d := rowsR [r]) ⟨fun w hs s h => by
  simp only [List.mem_singleton] at h
  subst h; exact hs, fun b hb => by
  obtain ⟨s, h, hf⟩ := hb
  simp only [List.mem_singleton] at h
  subst h; exact hf, fun h => h⟩ F
theorem ro_cutH {A : Option Addr} {rs : List RowM} (i c : Nat) (hc : rs.length ≤ c) (F : List Chunk) : CSub (ro A (hdrs rs) :: F) (ro (cutA A i c) (hdrs (rs.drop i)) :: ro A (hdrs rs) :: F) := by
 have e : hdrs (rs.drop i) = ((hdrs rs).drop i).take rs.length := by
  rw [List.take_of_length_le (by simp)]
  simp [hdrs, List.map_drop]
 by_cases h : i < c
 ·rw [e]; exact ro_part (A := A) (vs := hdrs rs) i rs.length c h F
 ·have h0 : rs.drop i = [] := List.drop_eq_nil_of_le (by omega)
  rw [h0]
  exact CSub.dup (c := ro A (hdrs rs)) (d := ro (cutA A i c) (hdrs [])) ⟨fun w h j hj => by simp [hdrs] at hj, fun b hb => absurd rfl hb.1, fun h => h⟩ (fun h => h) F
theorem tr_capR {P : Program} {N : NR} {M : Nat → Prop} {w0 : World} {L : Fr} {F F' : List Chunk} (e : TypeId) (rs : List RowM) {c : Code} {Q : Exit → Fr → List Chunk → Prop} [hp : Pk F (rowsCh e rs) F'] (h : (∀ r ∈ rs, r.xs.length ≤ r.cap) → Tr P N M w0 c L F Q) : Tr P N M w0 c L F Q := fun ds M1 w1 hb a w hl hm => by
 refine h (fun r hr => ?_) ds M1 w1 hb a w hl hm
 have h1 : w.ownsRow 0 e 1 (.slice r.A (ints r.xs).length r.cap) (ints r.xs).length (ints r.xs) := ((hm.perm hp.perm).sat _ (List.mem_cons_self ..)).1 r hr
 have hi : (ints r.xs).length = r.xs.length := by simp
 rcases h1 with ⟨h1, h2 | ⟨g, c, cur, hv, hb, hh, hc, hm, hs, ht⟩⟩
 ·omega
 ·simp only [Value.slice.injEq] at hv
  omega
end Go.Proofs.YtdkahdehodopoaaGreat

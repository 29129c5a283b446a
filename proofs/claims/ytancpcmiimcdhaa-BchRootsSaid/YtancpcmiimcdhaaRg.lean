/-
  RINGS AND SERIES. One sentence: commutative rings, finite sums, and the ring of power series over a ring.
  Conditions: each theorem's own, written out in it. No program is named here.
-/
import Derived.Test.YtancpcmiimcdhaaUtil
set_option linter.unusedSimpArgs false
set_option linter.unusedVariables false
set_option linter.unusedSectionVars false
namespace Go.Proofs.Ytancpcmiimcdhaa

class Rg (R : Type) extends Add R, Mul R, Neg R, Zero R, One R where
  add_assoc : ∀ a b c : R, a + b + c = a + (b + c)
  add_comm : ∀ a b : R, a + b = b + a
  zero_add : ∀ a : R, 0 + a = a
  neg_add : ∀ a : R, -a + a = 0
  mul_assoc : ∀ a b c : R, a * b * c = a * (b * c)
  mul_comm : ∀ a b : R, a * b = b * a
  one_mul : ∀ a : R, 1 * a = a
  add_mul : ∀ a b c : R, (a + b) * c = a * c + b * c
namespace Rg
variable {R : Type} [Rg R]
instance : Sub R := ⟨fun a b => a + -b⟩
theorem sub_def (a b : R) : a - b = a + -b := rfl
instance : Std.Associative (α := R) (· + ·) := ⟨Rg.add_assoc⟩
instance : Std.Commutative (α := R) (· + ·) := ⟨Rg.add_comm⟩
instance : Std.Associative (α := R) (· * ·) := ⟨Rg.mul_assoc⟩
instance : Std.Commutative (α := R) (· * ·) := ⟨Rg.mul_comm⟩
theorem add_zero (a : R) : a + 0 = a := by rw [Rg.add_comm, Rg.zero_add]
theorem add_neg (a : R) : a + -a = 0 := by rw [Rg.add_comm, Rg.neg_add]
theorem mul_one (a : R) : a * 1 = a := by rw [Rg.mul_comm, Rg.one_mul]
theorem mul_add (a b c : R) : a * (b + c) = a * b + a * c := by rw [Rg.mul_comm, Rg.add_mul, Rg.mul_comm b, Rg.mul_comm c]
theorem add_left_cancel {a b c : R} (h : a + b = a + c) : b = c := by
  have h1 : -a + (a + b) = -a + (a + c) := by rw [h]
  rwa [← Rg.add_assoc, ← Rg.add_assoc, Rg.neg_add, Rg.zero_add, Rg.zero_add] at h1
theorem add_right_cancel {a b c : R} (h : b + a = c + a) : b = c := add_left_cancel (a := a) (by rw [Rg.add_comm a b, Rg.add_comm a c, h])
theorem zero_mul (a : R) : 0 * a = 0 := by
  have h : 0 * a + 0 * a = 0 * a + 0 := by rw [← Rg.add_mul, Rg.zero_add, add_zero]
  exact add_left_cancel h
theorem mul_zero (a : R) : a * 0 = 0 := by rw [Rg.mul_comm, zero_mul]
theorem neg_mul (a b : R) : -a * b = -(a * b) := by
  refine add_left_cancel (a := a * b) ?_
  rw [← Rg.add_mul, add_neg, zero_mul, add_neg]
theorem mul_neg (a b : R) : a * -b = -(a * b) := by rw [Rg.mul_comm, neg_mul, Rg.mul_comm]
theorem neg_zero : -(0 : R) = 0 := by have := Rg.neg_add (0 : R); rwa [add_zero] at this
theorem neg_neg (a : R) : - -a = a := by refine add_left_cancel (a := -a) ?_; rw [add_neg, Rg.neg_add]
theorem neg_add_rev (a b : R) : -(a + b) = -a + -b := by
  refine add_left_cancel (a := a + b) ?_
  rw [add_neg]
  have : a + b + (-a + -b) = (a + -a) + (b + -b) := by ac_rfl
  rw [this, add_neg, add_neg, add_zero]
theorem sub_self (a : R) : a - a = 0 := add_neg a
theorem sub_zero (a : R) : a - 0 = a := by rw [sub_def, neg_zero, add_zero]
theorem zero_sub (a : R) : 0 - a = -a := by rw [sub_def, Rg.zero_add]
theorem sub_mul (a b c : R) : (a - b) * c = a * c - b * c := by rw [sub_def, Rg.add_mul, neg_mul]; rfl
theorem mul_sub (a b c : R) : a * (b - c) = a * b - a * c := by rw [sub_def, mul_add, mul_neg]; rfl
theorem sub_add_cancel (a b : R) : a - b + b = a := by rw [sub_def, Rg.add_assoc, Rg.neg_add, add_zero]
theorem add_sub_cancel (a b : R) : a + b - b = a := by rw [sub_def, Rg.add_assoc, add_neg, add_zero]
theorem eq_of_sub {a b : R} (h : a - b = 0) : a = b := by rw [← sub_add_cancel a b, h, Rg.zero_add]
theorem sub_of_eq {a b : R} (h : a = b) : a - b = 0 := by rw [h, sub_self]
theorem eq_sub_of_add {a b c : R} (h : a + b = c) : a = c - b := by rw [← h, add_sub_cancel]
theorem add_of_eq_sub {a b c : R} (h : a = c - b) : a + b = c := by rw [h, sub_add_cancel]
theorem neg_sub (a b : R) : -(a - b) = b - a := by rw [sub_def, neg_add_rev, neg_neg, Rg.add_comm]; rfl
theorem neg_eq_zero {a : R} (h : -a = 0) : a = 0 := by rw [← neg_neg a, h, neg_zero]
theorem neg_inj {a b : R} (h : -a = -b) : a = b := by rw [← neg_neg a, h, neg_neg]
theorem sub_sub (a b c : R) : a - b - c = a - (b + c) := by simp only [sub_def, neg_add_rev]; ac_rfl
theorem add_sub_assoc (a b c : R) : a + b - c = a + (b - c) := by simp only [sub_def]; ac_rfl
theorem sub_add_eq (a b c : R) : a - b + c = a + c - b := by simp only [sub_def]; ac_rfl
theorem add_sub_add (a b c d : R) : a + b - (c + d) = (a - c) + (b - d) := by simp only [sub_def, neg_add_rev]; ac_rfl
theorem sub_add_sub (a b c : R) : (a - b) + (b - c) = a - c := by
  have : (a - b) + (b - c) = a + -c + (-b + b) := by simp only [sub_def]; ac_rfl
  rw [this, Rg.neg_add, add_zero]; rfl

/-! ### Powers -/
def pow (a : R) : Nat → R
  | 0 => 1
  | n + 1 => pow a n * a
theorem pow_succ (a : R) (n : Nat) : pow a (n + 1) = pow a n * a := rfl
theorem pow_zero (a : R) : pow a 0 = 1 := rfl
theorem pow_add (a : R) (m : Nat) : ∀ n, pow a (m + n) = pow a m * pow a n
  | 0 => (mul_one _).symm
  | n + 1 => by rw [← Nat.add_assoc, pow, pow_add a m n, pow, Rg.mul_assoc]
theorem one_pow : ∀ n, pow (1 : R) n = 1
  | 0 => rfl
  | n + 1 => by rw [pow, one_pow n, Rg.one_mul]
theorem pow_mul (a : R) (m : Nat) : ∀ n, pow a (m * n) = pow (pow a m) n
  | 0 => rfl
  | n + 1 => by rw [Nat.mul_succ, pow_add, pow_mul a m n, pow]
theorem mul_pow (a b : R) : ∀ n, pow (a * b) n = pow a n * pow b n
  | 0 => (Rg.one_mul _).symm
  | n + 1 => by rw [pow, mul_pow a b n, pow, pow]; ac_rfl
theorem pow_one (a : R) : pow a 1 = a := Rg.one_mul a
theorem zero_pow {n : Nat} (h : 0 < n) : pow (0 : R) n = 0 := by
  obtain ⟨k, rfl⟩ : ∃ k, n = k + 1 := ⟨n - 1, by omega⟩
  exact mul_zero _

/-! ### Sums -/
def sm (n : Nat) (f : Nat → R) : R := match n with
  | 0 => 0
  | n + 1 => sm n f + f n
theorem sm_zero (f : Nat → R) : sm 0 f = 0 := rfl
theorem sm_succ (n : Nat) (f : Nat → R) : sm (n + 1) f = sm n f + f n := rfl
theorem sm_congr {f g : Nat → R} : ∀ {n : Nat}, (∀ i, i < n → f i = g i) → sm n f = sm n g
  | 0, _ => rfl
  | n + 1, h => by rw [sm_succ, sm_succ, sm_congr (fun i hi => h i (by omega)), h n (by omega)]
theorem sm_add (f g : Nat → R) : ∀ n, sm n (fun i => f i + g i) = sm n f + sm n g
  | 0 => (Rg.zero_add _).symm
  | n + 1 => by rw [sm_succ, sm_add f g n, sm_succ, sm_succ]; ac_rfl
theorem sm_neg (f : Nat → R) : ∀ n, sm n (fun i => -f i) = -sm n f
  | 0 => neg_zero.symm
  | n + 1 => by rw [sm_succ, sm_neg f n, sm_succ, neg_add_rev]
theorem sm_mul (c : R) (f : Nat → R) : ∀ n, sm n (fun i => c * f i) = c * sm n f
  | 0 => (mul_zero _).symm
  | n + 1 => by rw [sm_succ, sm_mul c f n, sm_succ, mul_add]
theorem sm_mulR (c : R) (f : Nat → R) (n : Nat) : sm n (fun i => f i * c) = sm n f * c := by
  rw [Rg.mul_comm, ← sm_mul]
  exact sm_congr fun i _ => Rg.mul_comm _ _
theorem sm_none {f : Nat → R} : ∀ {n : Nat}, (∀ i, i < n → f i = 0) → sm n f = 0
  | 0, _ => rfl
  | n + 1, h => by rw [sm_succ, sm_none (fun i hi => h i (by omega)), h n (by omega), add_zero]
theorem sm_left (f : Nat → R) : ∀ n, sm (n + 1) f = f 0 + sm n (fun i => f (i + 1))
  | 0 => by rw [sm_succ, sm_zero, sm_zero, Rg.zero_add, add_zero]
  | n + 1 => by rw [sm_succ, sm_left f n, sm_succ, Rg.add_assoc]
theorem sm_rev (f : Nat → R) : ∀ n, sm n f = sm n (fun i => f (n - 1 - i))
  | 0 => rfl
  | n + 1 => by
    rw [sm_left (fun i => f (n + 1 - 1 - i)), sm_succ, sm_rev f n, Rg.add_comm]
    refine congr (congrArg _ rfl) (sm_congr fun i hi => ?_)
    congr 1; omega
theorem sm_one {f : Nat → R} {n k : Nat} (hk : k < n) (h : ∀ i, i < n → i ≠ k → f i = 0) : sm n f = f k := by
  induction n with
  | zero => omega
  | succ n ih =>
    rw [sm_succ]
    by_cases hkn : k = n
    · subst hkn
      rw [sm_none (fun i hi => h i (by omega) (by omega)), Rg.zero_add]
    · rw [ih (by omega) (fun i hi hne => h i (by omega) hne), h n (by omega) (fun e => hkn e.symm), add_zero]
theorem sm_more {f : Nat → R} {n : Nat} (m : Nat) (h : ∀ i, n ≤ i → f i = 0) : sm (n + m) f = sm n f := by
  induction m with
  | zero => rfl
  | succ m ih => rw [← Nat.add_assoc, sm_succ, ih, h _ (by omega), add_zero]
theorem sm_more' {f : Nat → R} {n m : Nat} (hnm : n ≤ m) (h : ∀ i, n ≤ i → i < m → f i = 0) : sm m f = sm n f := by
  have h1 : sm m f = sm m (fun i => if i < n then f i else 0) := sm_congr fun i hi => by
    split
    · rfl
    · exact h i (by omega) hi
  have h2 : sm n f = sm n (fun i => if i < n then f i else 0) := sm_congr fun i hi => by rw [if_pos hi]
  rw [h1, h2, show m = n + (m - n) by omega]
  exact sm_more _ fun i hi => by rw [if_neg (by omega)]
theorem sm_split (f : Nat → R) (n : Nat) : ∀ m, sm (n + m) f = sm n f + sm m (fun i => f (n + i))
  | 0 => (add_zero _).symm
  | m + 1 => by rw [← Nat.add_assoc, sm_succ, sm_split f n m, sm_succ, Rg.add_assoc]
theorem sm_swap (f : Nat → Nat → R) (m : Nat) : ∀ n, sm n (fun i => sm m (fun j => f i j)) = sm m (fun j => sm n (fun i => f i j))
  | 0 => (sm_none fun _ _ => rfl).symm
  | n + 1 => by
    rw [sm_succ, sm_swap f m n, ← sm_add]
    rfl
/-- Over a triangle, row by row or column by column. -/
theorem sm_tri (f : Nat → Nat → R) : ∀ n, sm n (fun i => sm (i + 1) (fun j => f j (i - j))) = sm n (fun j => sm (n - j) (fun k => f j k))
  | 0 => rfl
  | n + 1 => by
    rw [sm_succ, sm_tri f n]
    have h1 : sm (n + 1) (fun j => sm (n + 1 - j) (fun k => f j k)) = sm (n + 1) (fun j => sm (n - j) (fun k => f j k) + f j (n - j)) := sm_congr fun j hj => by
      rw [show n + 1 - j = (n - j) + 1 by omega, sm_succ]
    rw [h1, sm_add, sm_succ (f := fun j => sm (n - j) (fun k => f j k)), Nat.sub_self, sm_zero, add_zero]
end Rg

/-! ### Series -/
def Ser (R : Type) : Type := Nat → R
namespace Ser
variable {R : Type} [Rg R]
open Rg
def mul (f g : Ser R) : Ser R := fun n => sm (n + 1) (fun i => f i * g (n - i))
instance : Add (Ser R) := ⟨fun f g n => f n + g n⟩
instance : Neg (Ser R) := ⟨fun f n => -f n⟩
instance : Zero (Ser R) := ⟨fun _ => 0⟩
instance : One (Ser R) := ⟨fun n => if n = 0 then 1 else 0⟩
instance : Mul (Ser R) := ⟨mul⟩
theorem ext {f g : Ser R} (h : ∀ n, f n = g n) : f = g := funext h
theorem add_at (f g : Ser R) (n : Nat) : (f + g) n = f n + g n := rfl
theorem neg_at (f : Ser R) (n : Nat) : (-f) n = -f n := rfl
theorem zero_at (n : Nat) : (0 : Ser R) n = 0 := rfl
theorem one_at (n : Nat) : (1 : Ser R) n = if n = 0 then 1 else 0 := rfl
theorem mul_at (f g : Ser R) (n : Nat) : (f * g) n = sm (n + 1) (fun i => f i * g (n - i)) := rfl
theorem mul_comm' (f g : Ser R) : f * g = g * f := ext fun n => by
  rw [mul_at, mul_at, sm_rev]
  refine sm_congr fun i hi => ?_
  rw [Rg.mul_comm]
  congr 2 <;> omega
theorem mul_assoc' (f g h : Ser R) : f * g * h = f * (g * h) := ext fun n => by
  simp only [mul_at]
  have h1 : sm (n + 1) (fun i => sm (i + 1) (fun j => f j * g (i - j)) * h (n - i)) = sm (n + 1) (fun i => sm (i + 1) (fun j => f j * g (i - j) * h (n - j - (i - j)))) := sm_congr fun i hi => by
    rw [← sm_mulR]
    exact sm_congr fun j hj => by rw [show n - j - (i - j) = n - i by omega]
  rw [h1, sm_tri (fun j k => f j * g k * h (n - j - k))]
  refine sm_congr fun j hj => ?_
  rw [← sm_mul, show n - j + 1 = n + 1 - j by omega]
  exact sm_congr fun k hk => Rg.mul_assoc _ _ _
theorem one_mul' (f : Ser R) : 1 * f = f := ext fun n => by
  rw [mul_at, sm_one (k := 0) (by omega) (fun i hi hne => by rw [one_at, if_neg hne, zero_mul])]
  rw [one_at, if_pos rfl, Rg.one_mul, Nat.sub_zero]
theorem add_mul' (f g h : Ser R) : (f + g) * h = f * h + g * h := ext fun n => by
  rw [add_at, mul_at, mul_at, mul_at, ← sm_add]
  exact sm_congr fun i _ => by rw [add_at, Rg.add_mul]
instance : Rg (Ser R) where
  add_assoc f g h := ext fun n => Rg.add_assoc _ _ _
  add_comm f g := ext fun n => Rg.add_comm _ _
  zero_add f := ext fun n => Rg.zero_add _
  neg_add f := ext fun n => Rg.neg_add _
  mul_assoc := mul_assoc'
  mul_comm := mul_comm'
  one_mul := one_mul'
  add_mul := add_mul'
theorem sub_at (f g : Ser R) (n : Nat) : (f - g) n = f n - g n := rfl
/-- Nothing from n on. -/
def Bd (f : Ser R) (n : Nat) : Prop := ∀ j, n ≤ j → f j = 0
theorem Bd.mono {f : Ser R} {n m : Nat} (h : Bd f n) (hm : n ≤ m) : Bd f m := fun j hj => h j (by omega)
theorem Bd.add {f g : Ser R} {n : Nat} (h : Bd f n) (k : Bd g n) : Bd (f + g) n := fun j hj => by rw [add_at, h j hj, k j hj, Rg.zero_add]
theorem Bd.neg {f : Ser R} {n : Nat} (h : Bd f n) : Bd (-f) n := fun j hj => by rw [neg_at, h j hj, neg_zero]
theorem Bd.mul {f g : Ser R} {n m : Nat} (h : Bd f n) (k : Bd g (m + 1)) : Bd (f * g) (n + m) := fun j hj => by
  rw [mul_at]
  refine sm_none fun i hi => ?_
  by_cases hin : n ≤ i
  · rw [h i hin, zero_mul]
  · rw [k (j - i) (by omega), mul_zero]
theorem Bd.zero (n : Nat) : Bd (0 : Ser R) n := fun _ _ => rfl
theorem Bd.one : Bd (1 : Ser R) 1 := fun j hj => by rw [one_at, if_neg (by omega)]
/-- The top coefficient of a product. -/
theorem top_mul {f g : Ser R} {n m : Nat} (h : Bd f (n + 1)) (k : Bd g (m + 1)) : (f * g) (n + m) = f n * g m := by
  rw [mul_at, sm_one (k := n) (by omega) (fun i hi hne => ?_)]
  · rw [show n + m - n = m by omega]
  · by_cases hin : n < i
    · rw [h i (by omega), zero_mul]
    · rw [k (n + m - i) (by omega), mul_zero]
end Ser
end Go.Proofs.Ytancpcmiimcdhaa

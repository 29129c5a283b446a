/-
  ORDEREDDECODES, PART 7 OF 10. One sentence: the texts behind the law OrderedDecodes, put together.
  Conditions: each theorem's own, written out in it.
-/
import Derived.Test.YtfdjdokdabmmdaaGreatK6
set_option linter.unusedSimpArgs false
set_option linter.unusedVariables false
set_option linter.unusedSectionVars false
namespace Go.Proofs.YtfdjdokdabmmdaaGreat
open Go.RowKit
def lmb (n : Nat) : List Int := if h : n = 0 then [] else ((n % 4294967296 : Nat) : Int) :: lmb (n / 4294967296)
termination_by n
decreasing_by omega
theorem lmb_zero : lmb 0 = [] := by rw [lmb]; rfl
theorem lmb_pos {n : Nat} (h : n ≠ 0) : lmb n = ((n % 4294967296 : Nat) : Int) :: lmb (n / 4294967296) := by rw [lmb, dif_neg h]
theorem lmb_ind {p : Nat → Prop} (h0 : p 0) (h1 : ∀ n, n ≠ 0 → p (n / 4294967296) → p n) (n : Nat) : p n := by
 induction n using Nat.strongRecOn with
 | ind n ih =>
  by_cases h : n = 0
  ·rw [h]; exact h0
  ·exact h1 n h (ih _ (by omega))
theorem vN_lmb (n : Nat) : vN (lmb n) = n := by
 refine lmb_ind (p := fun n => vN (lmb n) = n) ?_ (fun n h ih => ?_) n
 ·rw [lmb_zero]; rfl
 ·rw [lmb_pos h, vN, ih]; omega
theorem lmb_lm (n : Nat) : Lm (lmb n) := by
 refine lmb_ind (p := fun n => Lm (lmb n)) ?_ (fun n h ih => ?_) n
 ·rw [lmb_zero]; intro x hx; simp at hx
 ·rw [lmb_pos h]
  intro x hx
  rcases List.mem_cons.1 hx with rfl | hx
  ·omega
  ·exact ih x hx
theorem lmb_len {n k : Nat} : n < 4294967296 ^ k → (lmb n).length ≤ k := by
 induction k generalizing n with
 | zero => intro h; rw [show n = 0 by simpa using h, lmb_zero]; simp
 | succ k ih =>
  intro h
  by_cases h0 : n = 0
  ·rw [h0, lmb_zero]; simp
  ·rw [lmb_pos h0, List.length_cons]
   have := ih (n := n / 4294967296) (by rw [Nat.pow_succ] at h; omega)
   omega
theorem lmb_nil {n : Nat} : (lmb n).length = 0 ↔ n = 0 := by
 constructor
 ·intro h
  by_cases h0 : n = 0
  ·exact h0
  ·rw [lmb_pos h0] at h; simp at h
 ·rintro rfl; rw [lmb_zero]; rfl
theorem lmb_of : ∀ {l : List Int}, Lm l → (l = [] ∨ l.getD (l.length - 1) 0 ≠ 0) → l = lmb (vN l).toNat
 | [], _, _ => by rw [show (vN []).toNat = 0 from rfl, lmb_zero]
 | x :: l, h, h1 => by
  have hx := h x (List.mem_cons_self ..)
  have hl : Lm l := fun y hy => h y (List.mem_cons_of_mem _ hy)
  have hn := vN_nn hl
  have h2 : l = [] ∨ l.getD (l.length - 1) 0 ≠ 0 := by
   cases l with
   | nil => exact .inl rfl
   | cons y l =>
    right
    have := h1.resolve_left (by simp)
    simpa using this
  have ih := lmb_of hl h2
  have hv : vN (x :: l) = x + 4294967296 * vN l := rfl
  have hp : (vN (x :: l)).toNat ≠ 0 := by
   intro h0
   have hz : x + 4294967296 * vN l = 0 := by omega
   have hl0 : vN l = 0 := by omega
   rw [hl0] at ih
   rw [show ((0 : Int).toNat) = 0 from rfl, lmb_zero] at ih
   rw [ih] at h1
   have := h1.resolve_left (by simp)
   simp at this
   omega
  rw [lmb_pos hp, show (vN (x :: l)).toNat / 4294967296 = (vN l).toNat by omega, ← ih]
  congr 1
  omega
theorem lmb_cut {l : List Int} (h : Lm l) {k : Nat} (hk : k ≤ l.length) (h0 : ∀ j, k ≤ j → l.getD j 0 = 0) (h1 : k = 0 ∨ l.getD (k - 1) 0 ≠ 0) : l.take k = lmb (vN l).toNat := by
 have h2 := lmb_of (l := l.take k) (fun x hx => h x (List.mem_of_mem_take hx)) (by
  rcases Nat.eq_zero_or_pos k with h3 | h3
  ·left; rw [h3]; rfl
  ·right
   have h4 := h1.resolve_left (by omega)
   rw [List.length_take, Nat.min_eq_left hk, List.getD_eq_getElem?_getD, List.getElem?_take_of_lt (by omega), ← List.getD_eq_getElem?_getD]
   exact h4)
 rwa [vN_cut h0] at h2
theorem lmb_ge {n k : Nat} (h : (lmb n).length ≤ k) : n < 4294967296 ^ k := by
 have h1 := vN_lt (lmb_lm n)
 rw [vN_lmb] at h1
 have h2 : (4294967296 : Int) ^ (lmb n).length = ((4294967296 ^ (lmb n).length : Nat) : Int) := by rw [Int.natCast_pow]; rfl
 have h3 : 4294967296 ^ (lmb n).length ≤ 4294967296 ^ k := Nat.pow_le_pow_right (by omega) h
 omega
theorem lmb_short {l : List Int} (h : Lm l) : (lmb (vN l).toNat).length ≤ l.length := lmb_len (by
 have h1 := vN_lt h
 have h2 := vN_nn h
 have e : (4294967296 : Int) ^ l.length = ((4294967296 ^ l.length : Nat) : Int) := by rw [Int.natCast_pow]; rfl
 omega)
theorem vN_ext {a b : List Int} (h : ∀ j, a.getD j 0 = b.getD j 0) : vN a = vN b := by
 have h1 := vN_cut (l := a) (k := b.length) fun j hj => by rw [h, getD_out hj]
 have h2 : a.take b.length ++ List.replicate (b.length - a.length) 0 = b := ext_getD (by simp; omega) fun j => by
  rw [← h]
  rw [List.getD_eq_getElem?_getD, List.getD_eq_getElem?_getD, List.getElem?_append]
  split
  ·rename_i h3; rw [List.getElem?_take]; split
   ·rfl
   ·rename_i h4; simp at h3; omega
  ·rename_i h3
   simp at h3
   by_cases h4 : b.length ≤ j
   ·have h5 : a.getD j 0 = 0 := by rw [h, getD_out h4]
    rw [List.getD_eq_getElem?_getD] at h5; rw [h5]
    rw [List.getElem?_replicate]; split <;> rfl
   ·have h5 : a.getD j 0 = 0 := getD_out (by omega)
    rw [List.getD_eq_getElem?_getD] at h5; rw [h5]
    rw [List.getElem?_replicate]; split <;> rfl
 have h3 := congrArg vN h2
 rw [vN_app, vN_zeros, Int.mul_zero, Int.add_zero] at h3
 rw [← h1, h3]
theorem lm_app {a b : List Int} (ha : Lm a) (hb : Lm b) : Lm (a ++ b) := fun x hx => by
 rcases List.mem_append.1 hx with h | h
 ·exact ha x h
 ·exact hb x h
theorem lm_one {x : Int} (h0 : 0 ≤ x) (h1 : x < 4294967296) : Lm [x] := fun y hy => by
 rw [List.mem_singleton.1 hy]; exact ⟨h0, h1⟩
theorem lm_set {a : List Int} (ha : Lm a) {k : Nat} {x : Int} (h0 : 0 ≤ x) (h1 : x < 4294967296) : Lm (a.set k x) := fun y hy => by
 rcases List.mem_or_eq_of_mem_set hy with h | rfl
 ·exact ha y h
 ·exact ⟨h0, h1⟩
theorem lm_rep (n : Nat) : Lm (List.replicate n 0) := fun y hy => by
 rw [(List.mem_replicate.1 hy).2]; omega
theorem lm_nil : Lm [] := fun y hy => by simp at hy
def cmpZ (a b : Int) : Int := if a < b then -1 else if a > b then 1 else 0
def hN (l : List Int) (k : Nat) : Int := vN (l.drop k)
theorem hN_step (l : List Int) (k : Nat) : hN l k = l.getD k 0 + 4294967296 * hN l (k + 1) := by
 unfold hN
 by_cases hk : k < l.length
 ·have e : l.drop k = l.getD k 0 :: l.drop (k + 1) := by
   rw [List.drop_eq_getElem_cons hk, List.getD_eq_getElem?_getD, List.getElem?_eq_getElem hk]; rfl
  rw [e, vN]
 ·rw [List.drop_eq_nil_of_le (by omega), List.drop_eq_nil_of_le (by omega), getD_out (by omega)]; rfl
theorem hN_zero (l : List Int) : hN l 0 = vN l := rfl
theorem hN_out {l : List Int} {k : Nat} (h : l.length ≤ k) : hN l k = 0 := by unfold hN; rw [List.drop_eq_nil_of_le h]; rfl
theorem hN_set {l : List Int} {k j : Nat} {x : Int} (h : j < k) : hN (l.set j x) k = hN l k := by
 unfold hN
 rw [List.drop_set]
 rw [if_pos h]
theorem vN_tk (l : List Int) (k : Nat) : vN (l.take (k + 1)) = vN (l.take k) + 4294967296 ^ k * l.getD k 0 := by
 by_cases hk : k < l.length
 ·exact vN_take hk
 ·rw [List.take_of_length_le (by omega), List.take_of_length_le (by omega), getD_out (by omega)]; simp
theorem vN_all {l : List Int} {k : Nat} (h : l.length ≤ k) : vN (l.take k) = vN l := by rw [List.take_of_length_le h]
theorem vN_split (l : List Int) (k : Nat) : vN l = vN (l.take k) + 4294967296 ^ k * hN l k := by
 by_cases hk : k ≤ l.length
 ·have h1 := vN_app (l.take k) (l.drop k)
  rw [List.take_append_drop, List.length_take, Nat.min_eq_left hk] at h1
  exact h1
 ·rw [vN_all (by omega), hN_out (by omega)]; simp
theorem vN_tk_lt {l : List Int} (h : Lm l) (k : Nat) : vN (l.take k) < 4294967296 ^ k := by
 have h1 := vN_lt (l := l.take k) fun x hx => h x (List.mem_of_mem_take hx)
 have h2 : (l.take k).length ≤ k := by rw [List.length_take]; omega
 have h3 : (4294967296 : Int) ^ (l.take k).length ≤ 4294967296 ^ k := by
  have := Nat.pow_le_pow_right (show 0 < 4294967296 by omega) h2
  have e1 : (4294967296 : Int) ^ (l.take k).length = ((4294967296 ^ (l.take k).length : Nat) : Int) := by rw [Int.natCast_pow]; rfl
  have e2 : (4294967296 : Int) ^ k = ((4294967296 ^ k : Nat) : Int) := by rw [Int.natCast_pow]; rfl
  omega
 omega
theorem hN_ext {a b : List Int} (k : Nat) (h : ∀ j : Nat, k ≤ j → a.getD j 0 = b.getD j 0) : hN a k = hN b k := vN_ext fun j => by
 have h1 := h (k + j) (by omega)
 rw [List.getD_eq_getElem?_getD, List.getD_eq_getElem?_getD] at h1 ⊢
 rw [List.getElem?_drop, List.getElem?_drop]; exact h1
theorem vN_lt2 {a b : List Int} (ha : Lm a) (hb : Lm b) (k : Nat) (h : ∀ j : Nat, k < j → a.getD j 0 = b.getD j 0) (hlt : a.getD k 0 < b.getD k 0) : vN a < vN b := by
 have h1 := hN_ext (a := a) (b := b) (k + 1) fun j hj => h j (by omega)
 have h2 := hN_step a k
 have h3 := hN_step b k
 have h4 := vN_split a k
 have h5 := vN_split b k
 have h6 := vN_tk_lt ha k
 have h7 : 0 ≤ vN (b.take k) := vN_nn fun x hx => hb x (List.mem_of_mem_take hx)
 have hp : (0 : Int) < 4294967296 ^ k := Int.pow_pos (by omega)
 have h8 : (4294967296 : Int) ^ k * (hN a k + 1) ≤ 4294967296 ^ k * hN b k := Int.mul_le_mul_of_nonneg_left (by omega) (by omega)
 rw [Int.mul_add, Int.mul_one] at h8
 omega
theorem add_alg {O a b x y c P : Int} (h : O + P * c = a + b) {k : Nat} (hP : (4294967296 : Int) ^ k = P := by rfl) : (O + P * vN [(x + y + c) % 4294967296]) + 4294967296 ^ (k + 1) * ((x + y + c) / 4294967296) = (a + P * x) + (b + P * y) := by
 have h1 := Int.emod_add_mul_ediv (x + y + c) 4294967296
 generalize (x + y + c) % 4294967296 = r at *
 generalize (x + y + c) / 4294967296 = q at *
 rw [Int.pow_succ, hP]
 simp only [vN]
 have : c = r + 4294967296 * q - x - y := by omega
 subst this
 grind
theorem mul_alg {O W x y z c K : Int} {i j : Nat} (h : O + 4294967296 ^ (i + j) * c = W + 4294967296 ^ i * x * K) : O + 4294967296 ^ (i + j) * ((x * y + z + c) % 4294967296 - z) + 4294967296 ^ (i + j + 1) * ((x * y + z + c) / 4294967296) = W + 4294967296 ^ i * x * (K + 4294967296 ^ j * y) := by
 have h1 := Int.emod_add_mul_ediv (x * y + z + c) 4294967296
 generalize (x * y + z + c) % 4294967296 = r at *
 generalize (x * y + z + c) / 4294967296 = q at *
 have e : (4294967296 : Int) ^ (i + j) = 4294967296 ^ i * 4294967296 ^ j := Int.pow_add ..
 rw [Int.pow_succ, e]
 rw [e] at h
 clear e
 generalize (4294967296 : Int) ^ i = P at *
 generalize (4294967296 : Int) ^ j = Q at *
 have : c = r + 4294967296 * q - x * y - z := by omega
 subst this
 grind
def bitl (n : Nat) : Nat := if h : n = 0 then 0 else bitl (n / 2) + 1
termination_by n
decreasing_by omega
theorem bitl_zero : bitl 0 = 0 := by rw [bitl]; rfl
theorem bitl_pos {n : Nat} (h : n ≠ 0) : bitl n = bitl (n / 2) + 1 := by rw [bitl, dif_neg h]
theorem bitl_lt {n k : Nat} : n < 2 ^ k → bitl n ≤ k := by
 induction k generalizing n with
 | zero => intro h; rw [show n = 0 by simpa using h, bitl_zero]; simp
 | succ k ih =>
  intro h
  by_cases h0 : n = 0
  ·rw [h0, bitl_zero]; simp
  ·rw [bitl_pos h0]
   have := ih (n := n / 2) (by rw [Nat.pow_succ] at h; omega)
   omega
theorem bitl_ge {n k : Nat} : 2 ^ k ≤ n → k < bitl n := by
 induction k generalizing n with
 | zero => intro h; rw [bitl_pos (by simp at h; omega)]; omega
 | succ k ih =>
  intro h
  have h1 : 0 < 2 ^ k := Nat.two_pow_pos k
  rw [Nat.pow_succ] at h
  rw [bitl_pos (by omega)]
  have := ih (n := n / 2) (by omega)
  omega
theorem bitl_one {n : Nat} : bitl n ≤ 1 ↔ n ≤ 1 := by
 constructor
 ·intro h
  rcases Nat.lt_or_ge n 2 with h1 | h1
  ·omega
  ·have := bitl_ge (k := 1) (n := n) (by omega); omega
 ·intro h; exact bitl_lt (by omega)
theorem bitl_div {n : Nat} (k : Nat) (h : 2 ^ k ≤ n) : bitl n = bitl (n / 2 ^ k) + k := by
 induction k generalizing n with
 | zero => simp
 | succ k ih =>
  have h1 : 0 < 2 ^ k := Nat.two_pow_pos k
  rw [Nat.pow_succ] at h
  rw [bitl_pos (by omega), ih (n := n / 2) (by omega), Nat.div_div_eq_div_mul, Nat.pow_succ, Nat.mul_comm 2]; omega
theorem bitl_lmb {n : Nat} (h : n ≠ 0) : (bitl n : Int) = bitl ((lmb n).getD ((lmb n).length - 1) 0).toNat + 32 * (((lmb n).length : Int) - 1) := by
 revert h
 refine lmb_ind (p := fun n => n ≠ 0 → (bitl n : Int) = bitl ((lmb n).getD ((lmb n).length - 1) 0).toNat + 32 * (((lmb n).length : Int) - 1)) (fun h => absurd rfl h) (fun n h ih _ => ?_) n
 rw [lmb_pos h]
 by_cases h1 : n / 4294967296 = 0
 ·rw [h1, lmb_zero, Nat.mod_eq_of_lt (by omega)]; simp
 ·have h2 := ih h1
  have h3 : (lmb (n / 4294967296)).length ≠ 0 := fun h => h1 (lmb_nil.1 h)
  rw [List.length_cons, show (lmb (n / 4294967296)).length + 1 - 1 = ((lmb (n / 4294967296)).length - 1) + 1 by omega, List.getD_cons_succ]
  have h4 := bitl_div (n := n) 32 (by omega)
  rw [show (2 : Nat) ^ 32 = 4294967296 from rfl] at h4
  omega
theorem lmb_mul (x y : Nat) : (vN (lmb x) * vN (lmb y)).toNat = x * y := by rw [vN_lmb, vN_lmb, ← Int.natCast_mul]; rfl
theorem lmb_add (x y : Nat) : (vN (lmb x) + vN (lmb y)).toNat = x + y := by rw [vN_lmb, vN_lmb, ← Int.natCast_add]; rfl
def hlf : Nat → Int
 | 0 => 0
 | f + 1 => ((2 ^ f : Nat) : Int)
theorem hlf_pos (f : Nat) : 1 ≤ hlf (f + 1) := by
 have := Nat.two_pow_pos f
 rw [hlf]; omega
theorem hlf_nn : ∀ e, 0 ≤ hlf e
 | 0 => Int.le_refl _
 | f + 1 => by have := hlf_pos f; omega
theorem hlf_le {e : Nat} (h : e ≤ 19) : hlf e ≤ 262144 := by
 cases e with
 | zero => decide
 | succ f =>
  have : 2 ^ f ≤ 2 ^ 18 := Nat.pow_le_pow_right (by omega) (by omega)
  rw [hlf]; omega
theorem hlf_half : ∀ f, hlf (f + 1) / 2 = hlf f
 | 0 => by decide
 | f + 1 => by rw [hlf, hlf, Nat.pow_succ]; omega
theorem pow_bit (n f : Nat) : 2 * (n / 2 ^ (f + 1)) + (n / 2 ^ f) % 2 = n / 2 ^ f := by
 rw [Nat.pow_succ, ← Nat.div_div_eq_div_mul]; omega
theorem hlf_bit (n f : Nat) : ((n : Int) / hlf (f + 1) % 2 = 1) ↔ (n / 2 ^ f) % 2 = 1 := by
 rw [hlf, ← Int.natCast_ediv]; omega
theorem pow_sq (a n f : Nat) : (n / 2 ^ f) % 2 ≠ 1 → a ^ (n / 2 ^ (f + 1)) * a ^ (n / 2 ^ (f + 1)) = a ^ (n / 2 ^ f) := fun h => by
 rw [← Nat.pow_add]; congr 1
 have := pow_bit n f; omega
theorem pow_sq1 (a n f : Nat) : (n / 2 ^ f) % 2 = 1 → a ^ (n / 2 ^ (f + 1)) * a ^ (n / 2 ^ (f + 1)) * a = a ^ (n / 2 ^ f) := fun h => by
 rw [← Nat.pow_add, ← Nat.pow_succ]; congr 1
 have := pow_bit n f; omega
theorem pow_len {a e : Nat} (ha : a ≤ 256) (he : e ≤ 256) : (lmb (a ^ e)).length ≤ 65 := lmb_len (by
 have h1 := Nat.pow_le_pow_left ha e
 have h2 := Nat.pow_le_pow_right (show 0 < 256 by omega) he
 have h3 : 256 ^ 256 < 4294967296 ^ 65 := by decide
 exact Nat.lt_of_le_of_lt h1 (Nat.lt_of_le_of_lt h2 h3))
theorem pow_len2 {a e : Nat} (ha : a ≤ 256) (he : e ≤ 256) : (lmb (a ^ e * a ^ e)).length ≤ 130 := lmb_len (by
 have h1 := Nat.pow_le_pow_left ha e
 have h2 := Nat.pow_le_pow_right (show 0 < 256 by omega) he
 have h3 : a ^ e ≤ 256 ^ 256 := Nat.le_trans h1 h2
 have h4 := Nat.mul_le_mul h3 h3
 have h5 : 256 ^ 256 * 256 ^ 256 < 4294967296 ^ 130 := by decide
 exact Nat.lt_of_le_of_lt h4 h5)
theorem lmb_one : lmb 1 = [1] := by rw [lmb_pos (by omega)]; simp [lmb_zero]
theorem lmb_mul_len {l : List Int} (h : Lm l) {n : Int} (h0 : 0 ≤ n) (h1 : n < 4294967296) : (lmb (vN l * n).toNat).length ≤ l.length + 1 := lmb_len (by
 have h2 := vN_lt h
 have h3 := vN_nn h
 have h4 : vN l * n ≤ vN l * 4294967296 := Int.mul_le_mul_of_nonneg_left (by omega) h3
 have h5 : (4294967296 : Int) ^ (l.length + 1) = ((4294967296 ^ (l.length + 1) : Nat) : Int) := by rw [Int.natCast_pow]; rfl
 have h6 : 0 ≤ vN l * n := Int.mul_nonneg h3 h0
 rw [Int.pow_succ] at h5
 omega)
theorem bin_mul : ∀ n k : Nat, k ≤ n → (k + 1) * bin n (k + 1) = (n - k) * bin n k
 | 0, k, h => by
  rw [show k = 0 by omega]; rfl
 | m + 1, 0, _ => by
  have h := bin_abs m 0
  rw [bin_zero] at h
  rw [bin_zero]
  simpa using h
 | m + 1, j + 1, h => by
  have h1 := bin_abs m (j + 1)
  have h2 := bin_mul m j (by omega)
  rw [h1, bin, Nat.mul_add, show m + 1 - (j + 1) = m - j by omega, ← h2, ← Nat.add_mul]
  congr 1
  omega
theorem bin_len {n k : Nat} (hn : n ≤ 256) : (lmb (bin n k)).length ≤ 9 := lmb_len (by
 have h1 := bin_le n k
 have h2 := Nat.pow_le_pow_right (show 0 < 2 by omega) hn
 have h3 : 2 ^ 256 < 4294967296 ^ 9 := by decide
 exact Nat.lt_of_le_of_lt h1 (Nat.lt_of_le_of_lt h2 h3))
theorem bin_mulZ {n : Nat} {i : Int} (h0 : 0 ≤ i) (h1 : i < n) : vN (lmb (bin n i.toNat)) * ((n : Int) - i) = (i + 1) * (bin n (i + 1).toNat : Nat) := by
 have h := congrArg (fun z : Nat => (z : Int)) (bin_mul n i.toNat (by omega))
 simp only [Int.natCast_mul] at h
 rw [show ((i.toNat + 1 : Nat) : Int) = i + 1 by omega, show ((n - i.toNat : Nat) : Int) = n - i by omega] at h
 rw [vN_lmb, show (i + 1).toNat = i.toNat + 1 by omega, h, Int.mul_comm]
theorem small_alg {P O d r p : Int} (h : P = d * O + r) : p + 4294967296 * P = d * ((r * 4294967296 + p) / d + 4294967296 * O) + (r * 4294967296 + p) % d := by
 have h1 := Int.emod_add_mul_ediv (r * 4294967296 + p) d
 generalize (r * 4294967296 + p) % d = y at *
 generalize (r * 4294967296 + p) / d = z at *
 grind
theorem small_end {d O r R : Int} (hd : 1 ≤ d) (h0 : 0 ≤ r) (h1 : r < d) (h : d * R = d * O + r) : O = R := by
 have h2 : r = d * (R - O) := by rw [Int.mul_sub]; omega
 have h3 : R - O = 0 := by
  rcases Int.lt_trichotomy (R - O) 0 with h4 | h4 | h4
  ·have := Int.mul_le_mul_of_nonneg_left (show R - O ≤ -1 by omega) (show 0 ≤ d by omega); omega
  ·exact h4
  ·have := Int.mul_le_mul_of_nonneg_left (show 1 ≤ R - O by omega) (show 0 ≤ d by omega); omega
 omega
theorem sbin_lt {x n j : Nat} (hx : x + 1 ≤ 256) (hn : n ≤ 256) : sbin x n j < 4294967296 ^ 65 := Nat.lt_of_le_of_lt (sbin_le x n j) (lmb_ge (pow_len hx hn))
theorem sbin_len {x n j : Nat} (hx : x + 1 ≤ 256) (hn : n ≤ 256) : (lmb (sbin x n j)).length ≤ 65 := lmb_len (sbin_lt hx hn)
theorem pat_len {x n i : Nat} (hx : x + 1 ≤ 256) (hn : n ≤ 256) : (lmb (x ^ i * bin n i)).length ≤ 65 := lmb_len (by
 have h1 := sbin_lt (j := i + 1) hx hn
 rw [sbin, Nat.mul_comm] at h1
 omega)
theorem cmpZ_le {a b : Int} : cmpZ a b ≤ 0 ↔ a ≤ b := by
 unfold cmpZ
 split
 ·omega
 ·split <;> omega
end Go.Proofs.YtfdjdokdabmmdaaGreat

namespace Go.Proofs.YtfdjdokdabmmdaaGreat
open Go.RowKit
def w32 (xs : List Int) : List Value := xs.map (Value.int .u32)
@[simp] theorem w32_length (xs : List Int) : (w32 xs).length = xs.length := by simp [w32]
theorem w32_set (xs : List Int) (j : Nat) (x : Int) : w32 (xs.set j x) = (w32 xs).set j (.int .u32 x) := by unfold w32; rw [List.map_set]
theorem w32_app (xs ys : List Int) : w32 (xs ++ ys) = w32 xs ++ w32 ys := by unfold w32; rw [List.map_append]
theorem w32_one (xs : List Int) : ∀ u ∈ w32 xs, u.oneCell' = true := fun u hu => by
 obtain ⟨x, _, rfl⟩ := List.mem_map.1 hu
 rfl
section
variable {P : Program} {N : NB} {M : Nat → Prop} {w0 : World} {L : Fr} {F F' : List Chunk} {K : Fr → List Chunk → Prop} {b : Bool} {o : Oper} {v z : Value} {x y : Operand} {t t' e : TypeId} {bytes : Nat}
theorem rIdxW {by_ : Nat} {A : Option Addr} {n c : Nat} {i : Int} {xs : List Int} (ho : o.op = .indexAddr t x y) [h : SlTy P t e z by_] (hx : ev L x = some (.slice A n c)) (hy : ev L y = some (.int .i64 i)) [hr : Rd F A (w32 xs)] (h0 : 0 ≤ i) (h1 : i < n) (h2 : i < xs.length) :
  Stl P N M w0 o L F (.pointer (some ((A.getD a0).add i.toNat))) := rIdx ho (h := h) hx hy (hr := hr) h0 h1 (by simpa using h2)
theorem rLdW {A : Option Addr} {j : Nat} {xs : List Int} (ho : o.op = .load t x) [h : ScTy P t] (hx : ev L x = some (.pointer (some ((A.getD a0).add j)))) [hr : Rd F A (w32 xs)] (hj : j < xs.length) : Stl P N M w0 o L F (.int .u32 (xs.getD j 0)) :=
 rLdV ho (h := h) hx (hr := hr) (by rw [w32, List.getElem?_map, List.getElem?_eq_getElem hj, List.getD_eq_getElem?_getD, List.getElem?_eq_getElem hj]; rfl)
theorem eStW {A : Option Addr} {j cap : Nat} {xs : List Int} {n : Int} (ho : o.op = .store t x y) (hd : o.dst = none) [h : ScTy P t] (hx : ev L x = some (.pointer (some ((A.getD a0).add j)))) (hy : ev L y = some (.int .u32 n)) [hp : PkOw F A e cap (w32 xs) F'] (hj : j < xs.length)
  (hK : K L (ow A e cap (w32 (xs.set j n)) :: F')) : Eff P N M w0 false o L F K := eSt ho hd (h := h) hx hy (hp := hp) (by simpa using hj) rfl rfl (by rw [← w32_set]; exact hK)
theorem eMakeW {n : Int} (ho : o.op = .makeSlice t x y) {d : Nat} (hdd : o.dst = some d) (hd : Nat.ble (d + 1) N.n = true) [h : SlTy P t e (.int .u32 0) bytes] (hx : ev L x = some (.int .i64 n)) (hy : ev L y = some (.int .i64 n)) (h0 : 0 ≤ n) (hb : bytes * n.toNat ≤ 281474976710656) (h63 : n ≤ 9223372036854775807)
  (hK : ∀ A : Option Addr, K (addL d (.slice A n.toNat n.toNat) L) (ow A e n.toNat (w32 (List.replicate n.toNat 0)) :: F)) : Eff P N M w0 b o L F K := eMake ho hdd hd (h := h) hx hy h0 hb h63 (fun A => by
 have e1 : List.replicate n.toNat (Value.int .u32 0) = w32 (List.replicate n.toNat 0) := by simp [w32]
 rw [e1]; exact hK A)
theorem eAppW {A B : Option Addr} {n m c cap : Nat} {xs ys : List Int} (ho : o.op = .call { callee := .builtin .append, args := #[x, y], argTypes := #[t, t] }) {d : Nat} (hdd : o.dst = some d) (hd : Nat.ble (d + 1) N.n = true) [h : SlTy P t e z 4]
  (hx : ev L x = some (.slice A n cap)) (hy : ev L y = some (.slice B m c)) [hp : PkOw F A e cap (w32 xs) F'] [hr : Rd F B (w32 ys)] (hn : n = xs.length) (hm' : m = ys.length) (hb : xs.length + ys.length ≤ 17592186044416)
  (hK : ∀ (A' : Option Addr) (cap' : Nat), K (addL d (.slice A' (xs ++ ys).length cap') L) (ow A' e cap' (w32 (xs ++ ys)) :: F')) : Eff P N M w0 false o L F K :=
 eApp ho hdd hd (h := h) hx hy (hp := hp) (hr := hr) (by simpa using hn) (by simpa using hm') (w32_one ys) (by simp only [w32_length]; omega) (by simp only [w32_length]; omega) (fun A' cap' => by
  have h1 := hK A' cap'
  rw [w32_app, List.length_append] at h1
  rw [w32_length, w32_length]; exact h1)
theorem eLit0W (ho : o.op = .buildSlice t 0 #[]) {d : Nat} (hdd : o.dst = some d) (hd : Nat.ble (d + 1) N.n = true) [h : SlTy P t e z bytes] (hK : ∀ A : Option Addr, K (addL d (.slice A 0 0) L) (ow A e 0 (w32 []) :: F)) : Eff P N M w0 b o L F K := eLit0 ho hdd hd (h := h) hK
theorem eLit1W {n0 : Int} (ho : o.op = .buildSlice t 1 #[(0, x)]) {d : Nat} (hdd : o.dst = some d) (hd : Nat.ble (d + 1) N.n = true) [h : SlTy P t e z bytes] (hx : ev L x = some (.int .u32 n0)) (hK : ∀ A : Option Addr, K (addL d (.slice A 1 1) L) (ow A e 1 (w32 [n0]) :: F)) : Eff P N M w0 b o L F K := eLit1 ho hdd hd (h := h) hx rfl hK
theorem eLit2W {n0 n1 : Int} (ho : o.op = .buildSlice t 2 #[(0, x), (1, y)]) {d : Nat} (hdd : o.dst = some d) (hd : Nat.ble (d + 1) N.n = true) [h : SlTy P t e z bytes] (hx : ev L x = some (.int .u32 n0)) (hy : ev L y = some (.int .u32 n1)) (hK : ∀ A : Option Addr, K (addL d (.slice A 2 2) L) (ow A e 2 (w32 [n0, n1]) :: F)) : Eff P N M w0 b o L F K := eLit2 ho hdd hd (h := h) hx rfl hy rfl hK
theorem rQuo32 {m n : Int} (ho : o.op = .binOp .quo t x y t') (hx : ev L x = some (.int .u32 m)) (hy : ev L y = some (.int .u32 n)) (h1 : 0 ≤ m ∧ m ≤ 4294967295) (h2 : 1 ≤ n) : Stl P N M w0 o L F (.int .u32 (m / n)) :=
 stl_pure fun a hl => by
  have hn : n ≠ 0 := by omega
  simp [execOp, ho, hl.eval hx, hl.eval hy, eqGuard, binOp, Op.intDiv, hn, IntWalk.u32_quo m n ⟨h1.1, h1.2, h2⟩]
theorem rShl32 {k' : IntKind} {m : Int} (ho : o.op = .binOp .shl t x y t') (hx : ev L x = some (.int .u64 m)) (hy : ev L y = some (.int k' 32)) (h1 : 0 ≤ m) (h2 : m < 4294967296) : Stl P N M w0 o L F (.int .u64 (m * 4294967296)) :=
 stl_pure fun a hl => by
  have h4 : min (32 : Int).toNat IntKind.u64.bits = 32 := by rfl
  have h5 : (2 : Int) ^ 32 = 4294967296 := by rfl
  have h6 := IntWalk.u64_in (m * 4294967296) ⟨by omega, by omega⟩
  simp only [execOp, ho, hl.eval hx, hl.eval hy, eqGuard, binOp, Op.shift, h4, h5, h6]
  rfl
theorem tr_nilW {N : NR} (e : TypeId) {c : Code} {Q : Exit → Fr → List Chunk → Prop} (h : Tr P N M w0 c L (ow none e 0 (w32 []) :: F) Q) : Tr P N M w0 c L F Q := tr_nil e h
theorem ro_take {A : Option Addr} {vs : List Value} (k : Nat) (F : List Chunk) : CSub (ro A vs :: F) (ro A (vs.take k) :: F) :=
 CSub.weak (c := ro A vs) (d := ro A (vs.take k)) ⟨fun w hs j hj => by
  obtain ⟨ad, h1, h2⟩ := hs j (by rw [List.length_take] at hj; omega)
  exact ⟨ad, h1, by rw [h2, List.getElem_take]⟩, fun b hb => by
  obtain ⟨hne, h⟩ := hb
  exact ⟨fun h0 => hne (by rw [h0]; simp), h⟩, fun h => h⟩ F
theorem w32_take (l : List Int) (k : Nat) : (w32 l).take k = w32 (l.take k) := by unfold w32; rw [List.map_take]
end
end Go.Proofs.YtfdjdokdabmmdaaGreat

set_option maxRecDepth 100000
namespace Go.Proofs.YtfdjdokdabmmdaaGreat
open Go.RowKit
instance tyW : ScTy Tryz.prog 89 := scTy_of (by kernel_rfl)
instance tyN : ScTy Tryz.prog 49 := scTy_of (by kernel_rfl)
instance tySlN : SlTy Tryz.prog 49 89 (.int .u32 0) 4 := ⟨by kernel_rfl, by kernel_rfl, rfl⟩
theorem undU32 : Tryz.prog.underlying 89 = some (.int .u32) := by kernel_rfl
theorem ref_limb_ent : Enters Tryz.prog 55 := enters_of Tryz.func55 (by kernel_rfl) (by kernel_rfl)
theorem ref_limb (X : Option Addr) (nx cx : Nat) (l : List Int) (hnx : nx = l.length) (hlm : Lm l) (i : Int) (hi : 0 ≤ i) :
  Pure Tryz.prog 55 #[.slice X nx cx, .int .i64 i] [ro X (w32 l)] (isV (.int .u64 (l.getD i.toNat 0))) := by
 refine pure_of (args := [.slice X nx cx, .int .i64 i]) 14 Tryz.func55 rfl rfl rfl ref_limb_ent ⟨id, trivial⟩ (fun w0 => ?_)
 refine tS ?_
 refine tR fun _ _ _ => ?_
 refine pV ?_
 refine tS ?_
 refine tS ?_
 refine tR fun _ _ _ => ?_
 iterate 2 refine pV ?_
 refine sV (rLen rfl rfl) ?_
 refine pV ?_
 refine tC rfl (fun h1 => ?_) (fun h1 => ?_)
 ·try simp only [zbA] at h1
  refine tS ?_
  have hli := hlm.get i.toNat
  refine tR fun _ _ _ => ?_
  iterate 2 refine pV ?_
  refine sV (rIdxW rfl rfl rfl (by omega) (by omega) (by omega)) ?_
  refine sV (rLdW rfl rfl (by omega)) ?_
  refine sV (rConv rfl undU32 undU64 rfl (IntWalk.u64_in _ ⟨by omega, by omega⟩)) ?_
  refine pV ?_
  exact tr_ret ⟨trivial, _, _, rfl, ⟨rfl, rfl⟩, CSub.nil _, trivial⟩
 ·try simp only [zbA] at h1
  refine tK ?_
  refine tS ?_
  refine tR fun _ _ _ => ?_
  refine pV ?_
  exact tr_ret ⟨trivial, _, _, rfl, ⟨by rw [getD_out (by omega)], rfl⟩, CSub.nil _, trivial⟩
theorem ref_Trim_ent : Enters Tryz.prog 53 := enters_of Tryz.func53 (by kernel_rfl) (by kernel_rfl)
theorem ref_Trim (X : Option Addr) (nx cx : Nat) (l : List Int) (hnx : nx = l.length) (hlnx : Lm l) (h9nx : nx ≤ 4000000) (hcx : nx ≤ cx) :
  Pure Tryz.prog 53 #[.slice X nx cx] [ro X (w32 l)] (one (fun v ch => ∃ B c, v = .slice B (lmb ((vN l).toNat)).length c ∧ ch = ow B 89 c (w32 (lmb ((vN l).toNat))) ∧ (lmb ((vN l).toNat)).length ≤ c)) := by
 refine pure_of (args := [.slice X nx cx]) 23 Tryz.func53 rfl rfl rfl ref_Trim_ent ⟨id, trivial⟩ (fun w0 => ?_)
 refine tS ?_
 refine tR fun _ _ _ => ?_
 refine pV ?_
 refine tS ?_
 refine tR fun _ _ _ => ?_
 refine pV ?_
 refine sV (rLen rfl rfl) ?_
 refine pV ?_
 refine tS ?_
 refine tB ?_
 refine tr_loop1 (fun (k : Int) => [(3, .int .i64 k), (0, .slice X nx cx), (2, .slice none 0 0)]) (fun (k : Int) => [ro X (w32 l)]) (fun (k : Int) => (0 ≤ k ∧ k ≤ nx) ∧ ∀ j, k.toNat ≤ j → l.getD j 0 = 0) (fun (k : Int) => k.toNat) (nx) ⟨rfl, rfl, rfl, trivial⟩ (by first | exact cs _ _ | exact CSub.refl _) (⟨⟨by omega, by omega⟩, fun j hj => getD_out (by omega)⟩) (fun k hI => ?_)
 obtain ⟨⟨hk0, hk1⟩, hz⟩ := hI
 refine tS ?_
 refine tS ?_
 refine tR fun _ _ _ => ?_
 iterate 3 refine pV ?_
 refine stg rfl rfl rfl rfl rfl (fun hb => by (have hq := hb; try simp only [zbA] at hq); exact rMove rfl rfl) ?_
 refine stg rfl rfl rfl rfl rfl (fun hb => by (have hq := hb; try simp only [zbA] at hq); exact rMove rfl rfl) ?_
 refine stg rfl rfl rfl rfl rfl (fun hb => by (have hq := hb; try simp only [zbA] at hq); exact rSub rfl (evg rfl hb) rfl (by omega) (by omega)) ?_
 refine stg rfl rfl rfl rfl rfl (fun hb => by (have hq := hb; try simp only [zbA] at hq); exact rIdxW rfl (evg rfl hb) (evg rfl hb) (by omega) (by omega) (by omega)) ?_
 refine stg rfl rfl rfl rfl rfl (fun hb => by (have hq := hb; try simp only [zbA] at hq); exact rLdW rfl (evg rfl hb) (by omega)) ?_
 refine stg rfl rfl rfl rfl rfl (fun hb => by (have hq := hb; try simp only [zbA] at hq); exact rEqlK rfl (evg rfl hb) rfl) ?_
 refine sV (rAndB rfl rfl rfl rfl) ?_
 refine tC rfl (fun h2 => ?_) (fun h2 => ?_)
 ·try simp only [zbA] at h2
  refine tK ?_
  refine tB ?_
  refine tR fun _ _ _ => ?_
  refine pV ?_
  refine sV (rSub rfl rfl rfl (by omega) (by omega)) ?_
  refine pV ?_
  refine ⟨k - 1, ⟨rfl, rfl, rfl, trivial⟩, by first | exact cs _ _ | exact CSub.refl _, ?_⟩
  refine ⟨⟨⟨by omega, by omega⟩, fun j hj => ?_⟩, by omega⟩
  rcases Nat.lt_or_ge j k.toNat with h | h
  ·rw [show j = (k - 1).toNat by omega]; exact h2.2
  ·exact hz j h
 ·try simp only [zbA] at h2
  refine tE ?_
  refine tS ?_
  refine tr_chunks _ (ro_take k.toNat []) ?_
  rw [w32_take]
  refine tR fun _ _ _ => ?_
  refine eV (eLit0W rfl rfl rfl  (fun A4 => ?_))
  iterate 2 refine pV ?_
  refine sV (rCutHi rfl rfl rfl (by omega) (by omega)) ?_
  refine eV (eAppW rfl rfl rfl rfl rfl (by rfl) (by rw [List.length_take]; omega) (by rw [List.length_take]; simp; omega) (fun A4a c4a => ?_))
  refine pV ?_
  rw [List.nil_append, lmb_cut hlnx (k := k.toNat) (by omega) hz (h2.elim (fun h => .inl (by omega)) (fun h => .inr (by rw [show k.toNat - 1 = (k - 1).toNat by omega]; exact h)))]
  refine tr_cap A4a 89 c4a (w32 (lmb (vN l).toNat)) fun hcap => ?_
  rw [w32_length] at hcap
  exact tr_ret ⟨trivial, _, _, rfl, ⟨_, rfl, A4a, c4a, rfl, rfl, hcap⟩, cs _ _, trivial, trivial⟩
theorem ref_NOf_ent : Enters Tryz.prog 25 := enters_of Tryz.func25 (by kernel_rfl) (by kernel_rfl)
theorem ref_NOf (n : Int) (hn0 : 0 ≤ n) (hn9 : n ≤ 18446744073709551615) :
  Pure Tryz.prog 25 #[.int .u64 n] [] (one (fun v ch => ∃ B c, v = .slice B (lmb (n.toNat)).length c ∧ ch = ow B 89 c (w32 (lmb (n.toNat))) ∧ (lmb (n.toNat)).length ≤ c)) := by
 refine pure_of (args := [.int .u64 n]) 11 Tryz.func25 rfl rfl rfl ref_NOf_ent trivial (fun w0 => ?_)
 refine tS ?_
 refine tR fun _ _ _ => ?_
 refine pV ?_
 refine tS ?_
 have hl2 : Lm [n % 4294967296, n / 4294967296] := fun x hx => by
  simp only [List.mem_cons, List.not_mem_nil, or_false] at hx
  rcases hx with rfl | rfl <;> omega
 have hv : (vN [n % 4294967296, n / 4294967296]).toNat = n.toNat := by simp only [vN]; omega
 refine tR fun _ _ _ => ?_
 refine pV ?_
 refine sV (rRemU rfl rfl rfl (by omega) (by omega)) ?_
 refine sV (rConv rfl undU64 undU32 rfl (IntWalk.u32_in _ ⟨by omega, by omega⟩)) ?_
 refine pV ?_
 refine sV (rQuoU rfl rfl rfl (by omega) (by omega)) ?_
 refine sV (rConv rfl undU64 undU32 rfl (IntWalk.u32_in _ ⟨by omega, by omega⟩)) ?_
 refine eV (eLit2W rfl rfl rfl rfl rfl (fun A1 => ?_))
 refine eV (eCall1 rfl rfl rfl (ref_Trim A1 2 2 [n % 4294967296, n / 4294967296] rfl hl2 (by omega) (by omega)) ⟨rfl, trivial⟩ ?_)
 rintro _ _ ⟨B1a, c1a, rfl, rfl, hc1a⟩
 refine pV ?_
 rw [hv] at hc1a ⊢
 exact tr_ret ⟨trivial, _, _, rfl, ⟨_, rfl, B1a, c1a, rfl, rfl, hc1a⟩, cs _ _, trivial, trivial⟩
theorem ref_NCmp_ent : Enters Tryz.prog 29 := enters_of Tryz.func29 (by kernel_rfl) (by kernel_rfl)
theorem ref_NCmp (X : Option Addr) (nx cx : Nat) (l : List Int) (hnx : nx = l.length) (hlnx : Lm l) (h9nx : nx ≤ 1000000) (Y : Option Addr) (ny cy : Nat) (k : List Int) (hny : ny = k.length) (hlny : Lm k) (h9ny : ny ≤ 1000000) :
  Pure Tryz.prog 29 #[.slice X nx cx, .slice Y ny cy] [ro X (w32 l), ro Y (w32 k)] (isV (.int .i64 (cmpZ (vN l) (vN k)))) := by
 refine pure_of (args := [.slice X nx cx, .slice Y ny cy]) 30 Tryz.func29 rfl rfl rfl ref_NCmp_ent ⟨id, id, trivial⟩ (fun w0 => ?_)
 refine tS ?_
 refine tR fun _ _ _ => ?_
 refine pV ?_
 refine tS ?_
 refine tS ?_
 refine tR fun _ _ _ => ?_
 refine pV ?_
 refine sV (rLen rfl rfl) ?_
 refine pV ?_
 refine sV (rLen rfl rfl) ?_
 refine sV (rMax rfl rfl rfl) ?_
 refine sV (rSub rfl rfl rfl (by omega) (by omega)) ?_
 refine pV ?_
 refine tB ?_
 refine tr_loop1 (fun (i : Int) => [(5, .int .i64 i), (0, .slice X nx cx), (1, .slice Y ny cy)]) (fun (i : Int) => [ro X (w32 l), ro Y (w32 k)]) (fun (i : Int) => (-1 ≤ i ∧ i < max (nx : Int) ny) ∧ ∀ j : Nat, i < j → l.getD j 0 = k.getD j 0) (fun (i : Int) => (i + 1).toNat) (max (nx : Int) ny - 1) ⟨rfl, rfl, rfl, trivial⟩ (by first | exact cs _ _ | exact CSub.refl _) (⟨⟨by omega, by omega⟩, fun j hj => by rw [getD_out (by omega), getD_out (by omega)]⟩) (fun i hI => ?_)
 obtain ⟨⟨hi0, hi1⟩, hz⟩ := hI
 refine tS ?_
 refine tS ?_
 refine tR fun _ _ _ => ?_
 iterate 2 refine pV ?_
 refine tC rfl (fun h2 => ?_) (fun h2 => ?_)
 ·try simp only [zbA] at h2
  refine tK ?_
  refine tS ?_
  refine tB ?_
  refine tS ?_
  refine tS ?_
  refine tR fun _ _ _ => ?_
  iterate 2 refine pV ?_
  refine eV (eCallV rfl rfl rfl (ref_limb X nx cx l hnx hlnx i (by omega)) ⟨rfl, rfl, trivial⟩ ?_)
  iterate 2 refine pV ?_
  refine eV (eCallV rfl rfl rfl (ref_limb Y ny cy k hny hlny i (by omega)) ⟨rfl, rfl, trivial⟩ ?_)
  refine sV (rLssK rfl rfl rfl) ?_
  refine tC rfl (fun h4 => ?_) (fun h4 => ?_)
  ·try simp only [zbA] at h4
   refine tS ?_
   refine tR fun _ _ _ => ?_
   refine pV ?_
   exact tr_ret ⟨trivial, _, _, rfl, ⟨by rw [cmpZ, if_pos (vN_lt2 hlnx hlny i.toNat (fun j hj => hz j (by omega)) h4)], rfl⟩, CSub.nil _, trivial⟩
  ·try simp only [zbA] at h4
   refine tK ?_
   refine tS ?_
   refine tR fun _ _ _ => ?_
   iterate 2 refine pV ?_
   refine eV (eCallV rfl rfl rfl (ref_limb X nx cx l hnx hlnx i (by omega)) ⟨rfl, rfl, trivial⟩ ?_)
   iterate 2 refine pV ?_
   refine eV (eCallV rfl rfl rfl (ref_limb Y ny cy k hny hlny i (by omega)) ⟨rfl, rfl, trivial⟩ ?_)
   refine sV (rGtrK rfl rfl rfl) ?_
   refine tC rfl (fun h6 => ?_) (fun h6 => ?_)
   ·try simp only [zbA] at h6
    refine tS ?_
    refine tR fun _ _ _ => ?_
    refine pV ?_
    exact tr_ret ⟨trivial, _, _, rfl, ⟨by
     have h9 := vN_lt2 hlny hlnx i.toNat (fun j hj => (hz j (by omega)).symm) h6
     rw [cmpZ, if_neg (by omega), if_pos h9], rfl⟩, CSub.nil _, trivial⟩
   ·try simp only [zbA] at h6
    refine tK ?_
    refine tR fun _ _ _ => ?_
    refine pV ?_
    refine sV (rSub rfl rfl rfl (by omega) (by omega)) ?_
    refine pV ?_
    refine ⟨i - 1, ⟨rfl, rfl, rfl, trivial⟩, by first | exact cs _ _ | exact CSub.refl _, ?_⟩
    refine ⟨⟨⟨by omega, by omega⟩, fun j hj => ?_⟩, by omega⟩
    by_cases h : i < (j : Int)
    ·exact hz j h
    ·rw [show j = i.toNat by omega]; omega
 ·try simp only [zbA] at h2
  refine tE ?_
  refine tS ?_
  refine tR fun _ _ _ => ?_
  refine pV ?_
  exact tr_ret ⟨trivial, _, _, rfl, ⟨by rw [vN_ext (a := l) (b := k) (fun j => hz j (by omega)), cmpZ, if_neg (by omega), if_neg (by omega)], rfl⟩, CSub.nil _, trivial⟩
theorem ref_NAdd_ent : Enters Tryz.prog 26 := enters_of Tryz.func26 (by kernel_rfl) (by kernel_rfl)
theorem ref_NAdd (X : Option Addr) (nx cx : Nat) (l : List Int) (hnx : nx = l.length) (hlnx : Lm l) (h9nx : nx ≤ 1000000) (Y : Option Addr) (ny cy : Nat) (k : List Int) (hny : ny = k.length) (hlny : Lm k) (h9ny : ny ≤ 1000000) :
  Pure Tryz.prog 26 #[.slice X nx cx, .slice Y ny cy] [ro X (w32 l), ro Y (w32 k)] (one (fun v ch => ∃ B c, v = .slice B (lmb ((vN l + vN k).toNat)).length c ∧ ch = ow B 89 c (w32 (lmb ((vN l + vN k).toNat))) ∧ (lmb ((vN l + vN k).toNat)).length ≤ c)) := by
 refine pure_of (args := [.slice X nx cx, .slice Y ny cy]) 44 Tryz.func26 rfl rfl rfl ref_NAdd_ent ⟨id, id, trivial⟩ (fun w0 => ?_)
 refine tS ?_
 refine tR fun _ _ _ => ?_
 refine pV ?_
 refine tS ?_
 refine tR fun _ _ _ => ?_
 refine pV ?_
 refine tS ?_
 refine tR fun _ _ _ => ?_
 refine pV ?_
 refine tS ?_
 refine tS ?_
 refine tR fun _ _ _ => ?_
 refine pV ?_
 refine tB ?_
 refine tr_nilW 89 ?_
 refine tr_loop5 (fun (i : Int) (cy2 : Int) (B : Option Addr) (cb : Nat) (o : List Int) => [(5, .slice B o.length cb), (6, .int .u64 cy2), (7, .int .i64 i), (0, .slice X nx cx), (1, .slice Y ny cy), (4, .slice none 0 0)]) (fun (i : Int) (cy2 : Int) (B : Option Addr) (cb : Nat) (o : List Int) => [ow B 89 cb (w32 o), ro X (w32 l), ro Y (w32 k)]) (fun (i : Int) (cy2 : Int) (B : Option Addr) (cb : Nat) (o : List Int) => (0 ≤ i ∧ i ≤ max (nx : Int) ny + 1) ∧ (0 ≤ cy2 ∧ cy2 ≤ 1) ∧ (o.length : Int) = i ∧ Lm o ∧ (max (nx : Int) ny < i → cy2 = 0) ∧ vN o + 4294967296 ^ i.toNat * cy2 = vN (l.take i.toNat) + vN (k.take i.toNat)) (fun (i : Int) (cy2 : Int) (B : Option Addr) (cb : Nat) (o : List Int) => (max (nx : Int) ny + 1 - i).toNat) (0) (0) (none) (0) ([]) ⟨rfl, rfl, rfl, rfl, rfl, rfl, trivial⟩ (by first | exact cs _ _ | exact CSub.refl _) (⟨⟨by omega, by omega⟩, ⟨by omega, by omega⟩, rfl, lm_nil, fun _ => rfl, by simp [vN]⟩) (fun i cy2 B cb o hI => ?_)
 obtain ⟨⟨hi0, hi1⟩, ⟨hc0, hc1⟩, hol0, hol, hcz, hs⟩ := hI
 refine tS ?_
 refine tS ?_
 refine tR fun _ _ _ => ?_
 iterate 2 refine pV ?_
 refine sV (rLen rfl rfl) ?_
 iterate 2 refine pV ?_
 refine stg rfl rfl rfl rfl rfl (fun hb => by (have hq := hb; try simp only [zbA] at hq); exact rMove rfl rfl) ?_
 refine stg rfl rfl rfl rfl rfl (fun hb => by (have hq := hb; try simp only [zbA] at hq); exact rMove rfl rfl) ?_
 refine stg rfl rfl rfl rfl rfl (fun hb => by (have hq := hb; try simp only [zbA] at hq); exact rLen rfl (evg rfl hb)) ?_
 refine stg rfl rfl rfl rfl rfl (fun hb => by (have hq := hb; try simp only [zbA] at hq); exact rLss rfl (evg rfl hb) (evg rfl hb)) ?_
 refine sV (rOrB rfl rfl rfl rfl) ?_
 refine pV ?_
 refine stg rfl rfl rfl rfl rfl (fun hb => by (have hq := hb; try simp only [zbA] at hq); exact rMove rfl rfl) ?_
 refine stg rfl rfl rfl rfl rfl (fun hb => by (have hq := hb; try simp only [zbA] at hq); exact rGtrK rfl (evg rfl hb) rfl) ?_
 refine sV (rOrB rfl rfl rfl rfl) ?_
 refine tC rfl (fun h4 => ?_) (fun h4 => ?_)
 ·try simp only [zbA] at h4
  refine tK ?_
  refine tS ?_
  refine tB ?_
  refine tS ?_
  have hli := hlnx.get i.toNat
  have hki := hlny.get i.toNat
  refine tR fun _ _ _ => ?_
  iterate 2 refine pV ?_
  refine eV (eCallV rfl rfl rfl (ref_limb X nx cx l hnx hlnx i (by omega)) ⟨rfl, rfl, trivial⟩ ?_)
  iterate 2 refine pV ?_
  refine eV (eCallV rfl rfl rfl (ref_limb Y ny cy k hny hlny i (by omega)) ⟨rfl, rfl, trivial⟩ ?_)
  refine sV (rAddU rfl rfl rfl (by omega) (by omega)) ?_
  refine pV ?_
  refine sV (rAddU rfl rfl rfl (by omega) (by omega)) ?_
  refine pV ?_
  refine tS ?_
  refine tR fun _ _ _ => ?_
  iterate 2 refine pV ?_
  refine sV (rRemU rfl rfl rfl (by omega) (by omega)) ?_
  refine sV (rConv rfl undU64 undU32 rfl (IntWalk.u32_in _ ⟨by omega, by omega⟩)) ?_
  refine eV (eLit1W rfl rfl rfl rfl (fun A7 => ?_))
  refine eV (eAppW rfl rfl rfl rfl rfl (by first | rfl | simp | omega) (by first | rfl | simp | omega) (by first | omega | (simp; omega)) (fun A7a c7a => ?_))
  refine pV ?_
  refine tR fun _ _ _ => ?_
  refine pV ?_
  refine sV (rQuoU rfl rfl rfl (by omega) (by omega)) ?_
  refine pV ?_
  refine tR fun _ _ _ => ?_
  refine pV ?_
  refine sV (rAdd rfl rfl rfl (by omega) (by omega)) ?_
  refine pV ?_
  refine ⟨i + 1, (l.getD i.toNat 0 + k.getD i.toNat 0 + cy2) / 4294967296, A7a, c7a, o ++ [(l.getD i.toNat 0 + k.getD i.toNat 0 + cy2) % 4294967296], ⟨rfl, rfl, rfl, rfl, rfl, rfl, trivial⟩, by first | exact cs _ _ | exact CSub.refl _, ?_⟩
  refine ⟨⟨⟨by omega, by omega⟩, ⟨by omega, by omega⟩, by simp; omega, lm_app hol (lm_one (by omega) (by omega)), fun h => ?_, ?_⟩, by omega⟩
  ·have e1 : l.getD i.toNat 0 = 0 := getD_out (by omega)
   have e2 : k.getD i.toNat 0 = 0 := getD_out (by omega)
   omega
  ·rw [show (i + 1).toNat = i.toNat + 1 by omega, vN_tk, vN_tk, vN_app, show o.length = i.toNat by omega]
   exact add_alg hs
 ·try simp only [zbA] at h4
  refine tE ?_
  refine tS ?_
  refine tr_cap B 89 cb (w32 o) fun hcap => ?_
  rw [w32_length] at hcap
  have hc0 : cy2 = 0 := by omega
  have hv : vN o = vN l + vN k := by
   rw [hc0, Int.mul_zero, Int.add_zero, vN_all (by omega), vN_all (by omega)] at hs; exact hs
  refine tR fun _ _ _ => ?_
  refine pV ?_
  refine eV (eCall1 rfl rfl rfl (ref_Trim B _ cb o rfl hol (by omega) hcap) ⟨rfl, trivial⟩ ?_)
  rintro _ _ ⟨B9, c9, rfl, rfl, hc9⟩
  refine pV ?_
  rw [hv] at hc9 ⊢
  exact tr_ret ⟨trivial, _, _, rfl, ⟨_, rfl, B9, c9, rfl, rfl, hc9⟩, cs _ _, trivial, trivial⟩
theorem ref_NMul_ent : Enters Tryz.prog 27 := enters_of Tryz.func27 (by kernel_rfl) (by kernel_rfl)
theorem ref_NMul (X : Option Addr) (nx cx : Nat) (l : List Int) (hnx : nx = l.length) (hlnx : Lm l) (h9nx : nx ≤ 1000000) (Y : Option Addr) (ny cy : Nat) (k : List Int) (hny : ny = k.length) (hlny : Lm k) (h9ny : ny ≤ 1000000) :
  Pure Tryz.prog 27 #[.slice X nx cx, .slice Y ny cy] [ro X (w32 l), ro Y (w32 k)] (one (fun v ch => ∃ B c, v = .slice B (lmb ((vN l * vN k).toNat)).length c ∧ ch = ow B 89 c (w32 (lmb ((vN l * vN k).toNat))) ∧ (lmb ((vN l * vN k).toNat)).length ≤ c)) := by
 refine pure_of (args := [.slice X nx cx, .slice Y ny cy]) 69 Tryz.func27 rfl rfl rfl ref_NMul_ent ⟨id, id, trivial⟩ (fun w0 => ?_)
 refine tS ?_
 refine tR fun _ _ _ => ?_
 refine pV ?_
 refine tS ?_
 refine tR fun _ _ _ => ?_
 refine pV ?_
 refine sV (rLen rfl rfl) ?_
 refine pV ?_
 refine sV (rLen rfl rfl) ?_
 refine sV (rAdd rfl rfl rfl (by omega) (by omega)) ?_
 refine eV (eMakeW rfl rfl rfl rfl rfl (by omega) (by omega) (by omega) (fun A1 => ?_))
 refine pV ?_
 refine tS ?_
 refine tS ?_
 refine tR fun _ _ _ => ?_
 refine pV ?_
 refine tB ?_
 refine tr_loop2 (fun (i : Int) (o : List Int) => [(5, .slice A1 ((nx : Int) + ny).toNat ((nx : Int) + ny).toNat), (6, .int .i64 i), (0, .slice X nx cx), (1, .slice Y ny cy), (4, .slice none 0 0)]) (fun (i : Int) (o : List Int) => [ow A1 89 ((nx : Int) + ny).toNat (w32 o), ro X (w32 l), ro Y (w32 k)]) (fun (i : Int) (o : List Int) => (0 ≤ i ∧ i ≤ nx) ∧ o.length = nx + ny ∧ Lm o ∧ vN o = vN (l.take i.toNat) * vN k ∧ ∀ t : Nat, i + ny ≤ t → o.getD t 0 = 0) (fun (i : Int) (o : List Int) => (nx - i).toNat) (0) (List.replicate ((nx : Int) + ny).toNat 0) ⟨rfl, rfl, rfl, rfl, rfl, trivial⟩ (by first | exact cs _ _ | exact CSub.refl _) (⟨⟨by omega, by omega⟩, by rw [List.length_replicate]; omega, lm_rep _, by rw [vN_zeros]; simp [vN], fun t _ => rep_get _ _⟩) (fun i o hI => ?_)
 obtain ⟨⟨hi0, hi1⟩, hoL, hol, hs, hz⟩ := hI
 refine tS ?_
 refine tS ?_
 refine tR fun _ _ _ => ?_
 iterate 2 refine pV ?_
 refine sV (rLen rfl rfl) ?_
 refine pV ?_
 refine tC rfl (fun h3 => ?_) (fun h3 => ?_)
 ·try simp only [zbA] at h3
  refine tK ?_
  refine tS ?_
  refine tB ?_
  refine tS ?_
  refine tR fun _ _ _ => ?_
  refine pV ?_
  refine tS ?_
  refine tS ?_
  refine tR fun _ _ _ => ?_
  refine pV ?_
  refine tB ?_
  refine tr_loop3 (fun (j : Int) (cy2 : Int) (o2 : List Int) => [(5, .slice A1 ((nx : Int) + ny).toNat ((nx : Int) + ny).toNat), (7, .int .u64 cy2), (8, .int .i64 j), (0, .slice X nx cx), (1, .slice Y ny cy), (4, .slice none 0 0), (6, .int .i64 i), (16, .int .i64 i), (17, .slice X nx cx), (18, .int .i64 nx)]) (fun (j : Int) (cy2 : Int) (o2 : List Int) => [ow A1 89 ((nx : Int) + ny).toNat (w32 o2), ro X (w32 l), ro Y (w32 k)]) (fun (j : Int) (cy2 : Int) (o2 : List Int) => (0 ≤ j ∧ j ≤ ny) ∧ (0 ≤ cy2 ∧ cy2 < 4294967296) ∧ o2.length = nx + ny ∧ Lm o2 ∧ vN o2 + 4294967296 ^ (i + j).toNat * cy2 = vN (l.take i.toNat) * vN k + 4294967296 ^ i.toNat * l.getD i.toNat 0 * vN (k.take j.toNat) ∧ ∀ t : Nat, i + ny ≤ t → o2.getD t 0 = 0) (fun (j : Int) (cy2 : Int) (o2 : List Int) => (ny - j).toNat) (0) (0) (o) ⟨rfl, rfl, rfl, rfl, rfl, rfl, rfl, rfl, rfl, rfl, trivial⟩ (by first | exact cs _ _ | exact CSub.refl _) (⟨⟨by omega, by omega⟩, ⟨by omega, by omega⟩, hoL, hol, by rw [hs]; simp [vN], hz⟩) (fun j cy2 o2 hI => ?_)
  obtain ⟨⟨hj0, hj1⟩, ⟨hc0, hc1⟩, hoL2, hol2, hs2, hz2⟩ := hI
  refine tS ?_
  refine tS ?_
  refine tR fun _ _ _ => ?_
  iterate 2 refine pV ?_
  refine sV (rLen rfl rfl) ?_
  refine pV ?_
  refine tC rfl (fun h7 => ?_) (fun h7 => ?_)
  ·try simp only [zbA] at h7
   refine tK ?_
   refine tS ?_
   refine tB ?_
   refine tS ?_
   have hli := hlnx.get i.toNat
   have hkj := hlny.get j.toNat
   have hoj := hol2.get (i + j).toNat
   have hlk : 0 ≤ l.getD i.toNat 0 * k.getD j.toNat 0 := Int.mul_nonneg hli.1 hkj.1
   have hlk9 : l.getD i.toNat 0 * k.getD j.toNat 0 ≤ 4294967295 * 4294967295 := Int.mul_le_mul (by omega) (by omega) hkj.1 (by omega)
   refine tr_draw [0, 1, 2, 3, 4, 5, 6, 7, 8, 9, 10, 11, 12, 13, 14, 15, 16, 17, 18, 19, 20, 21] [] mixed (by kernel_rfl) fun _ _ _ => ?_
   iterate 2 refine pV ?_
   refine sV (rIdxW rfl rfl rfl (by omega) (by omega) (by omega)) ?_
   refine sV (rLdW rfl rfl (by omega)) ?_
   refine sV (rConv rfl undU32 undU64 rfl (IntWalk.u64_in _ ⟨by omega, by omega⟩)) ?_
   iterate 2 refine pV ?_
   refine sV (rIdxW rfl rfl rfl (by omega) (by omega) (by omega)) ?_
   refine sV (rLdW rfl rfl (by omega)) ?_
   refine sV (rConv rfl undU32 undU64 rfl (IntWalk.u64_in _ ⟨by omega, by omega⟩)) ?_
   refine sV (rMulU rfl rfl rfl (by omega) (by omega)) ?_
   iterate 3 refine pV ?_
   refine sV (rAdd rfl rfl rfl (by omega) (by omega)) ?_
   refine sV (rIdxW rfl rfl rfl (by omega) (by omega) (by omega)) ?_
   refine sV (rLdW rfl rfl (by omega)) ?_
   refine sV (rConv rfl undU32 undU64 rfl (IntWalk.u64_in _ ⟨by omega, by omega⟩)) ?_
   refine sV (rAddU rfl rfl rfl (by omega) (by omega)) ?_
   refine pV ?_
   refine sV (rAddU rfl rfl rfl (by omega) (by omega)) ?_
   refine pV ?_
   refine tS ?_
   refine tR fun _ _ _ => ?_
   iterate 3 refine pV ?_
   refine sV (rAdd rfl rfl rfl (by omega) (by omega)) ?_
   refine pV ?_
   refine sV (rRemU rfl rfl rfl (by omega) (by omega)) ?_
   refine sV (rConv rfl undU64 undU32 rfl (IntWalk.u32_in _ ⟨by omega, by omega⟩)) ?_
   refine sV (rIdxW rfl rfl rfl (by omega) (by omega) (by omega)) ?_
   refine eV (eStW rfl rfl rfl rfl (by omega) ?_)
   refine tR fun _ _ _ => ?_
   refine pV ?_
   refine sV (rQuoU rfl rfl rfl (by omega) (by omega)) ?_
   refine pV ?_
   refine tR fun _ _ _ => ?_
   refine pV ?_
   refine sV (rAdd rfl rfl rfl (by omega) (by omega)) ?_
   refine pV ?_
   refine ⟨j + 1, (l.getD i.toNat 0 * k.getD j.toNat 0 + o2.getD (i + j).toNat 0 + cy2) / 4294967296, o2.set (i + j).toNat ((l.getD i.toNat 0 * k.getD j.toNat 0 + o2.getD (i + j).toNat 0 + cy2) % 4294967296), ⟨rfl, rfl, rfl, rfl, rfl, rfl, rfl, rfl, rfl, rfl, trivial⟩, by first | exact cs _ _ | exact CSub.refl _, ?_⟩
   refine ⟨⟨⟨by omega, by omega⟩, ⟨by omega, by omega⟩, by simp; omega, lm_set hol2 (by omega) (by omega), ?_, fun t ht => ?_⟩, by omega⟩
   ·rw [show (j + 1).toNat = j.toNat + 1 by omega, vN_tk, vN_set (by omega), show (i + (j + 1)).toNat = (i + j).toNat + 1 by omega]
    rw [show (i + j).toNat = i.toNat + j.toNat by omega] at hs2 ⊢
    exact mul_alg hs2
   ·rw [getD_set, if_neg (by omega)]; exact hz2 t ht
  ·try simp only [zbA] at h7
   refine tE ?_
   refine tR fun _ _ _ => ?_
   iterate 3 refine pV ?_
   refine sV (rLen rfl rfl) ?_
   refine sV (rAdd rfl rfl rfl (by omega) (by omega)) ?_
   refine pV ?_
   refine sV (rConv rfl undU64 undU32 rfl (IntWalk.u32_in _ ⟨by omega, by omega⟩)) ?_
   refine sV (rIdxW rfl rfl rfl (by omega) (by omega) (by omega)) ?_
   refine eV (eStW rfl rfl rfl rfl (by omega) ?_)
   refine tR fun _ _ _ => ?_
   refine pV ?_
   refine sV (rAdd rfl rfl rfl (by omega) (by omega)) ?_
   refine pV ?_
   refine ⟨i + 1, o2.set (i + ny).toNat cy2, ⟨rfl, rfl, rfl, rfl, rfl, trivial⟩, by first | exact cs _ _ | exact CSub.refl _, ?_⟩
   refine ⟨⟨⟨by omega, by omega⟩, by simp; omega, lm_set hol2 (by omega) (by omega), ?_, fun t ht => ?_⟩, by omega⟩
   ·rw [show (i + 1).toNat = i.toNat + 1 by omega, vN_tk, vN_set (by omega), hz2 _ (by omega)]
    have hjn : j = ny := by omega
    rw [hjn, vN_all (l := k) (by omega), show (i + (ny : Int)).toNat = (i + (ny : Int)).toNat from rfl] at hs2
    rw [Int.sub_zero, hs2, Int.add_mul]
   ·rw [getD_set, if_neg (by omega)]; exact hz2 t (by omega)
 ·try simp only [zbA] at h3
  refine tE ?_
  refine tS ?_
  have hnn : ((nx : Int) + ny).toNat = o.length := by omega
  have hv : vN o = vN l * vN k := by rw [hs, vN_all (by omega)]
  refine tR fun _ _ _ => ?_
  refine pV ?_
  refine eV (eCall1 rfl rfl rfl (ref_Trim A1 _ _ o hnn hol (by omega) (by omega)) ⟨rfl, trivial⟩ ?_)
  rintro _ _ ⟨B13, c13, rfl, rfl, hc13⟩
  refine pV ?_
  rw [hv] at hc13 ⊢
  exact tr_ret ⟨trivial, _, _, rfl, ⟨_, rfl, B13, c13, rfl, rfl, hc13⟩, cs _ _, trivial, trivial⟩
theorem ref_NBits_ent : Enters Tryz.prog 54 := enters_of Tryz.func54 (by kernel_rfl) (by kernel_rfl)
theorem ref_NBits (X : Option Addr) (nx cx : Nat) (l : List Int) (hnx : nx = l.length) (hlnx : Lm l) (h9nx : nx ≤ 1000000) (hcx : nx ≤ cx) :
  Pure Tryz.prog 54 #[.slice X nx cx] [ro X (w32 l)] (isV (.int .i64 (bitl (vN l).toNat))) := by
 refine pure_of (args := [.slice X nx cx]) 27 Tryz.func54 rfl rfl rfl ref_NBits_ent ⟨id, trivial⟩ (fun w0 => ?_)
 refine tS ?_
 refine tR fun _ _ _ => ?_
 refine pV ?_
 refine tS ?_
 have hll := lmb_short hlnx
 have hlm := lmb_lm (vN l).toNat
 refine tR fun _ _ _ => ?_
 refine pV ?_
 refine eV (eCall1 rfl rfl rfl (ref_Trim X nx cx l hnx hlnx (by omega) hcx) ⟨rfl, trivial⟩ ?_)
 rintro _ _ ⟨B1, c1, rfl, rfl, hc1⟩
 refine pV ?_
 refine tS ?_
 refine tS ?_
 refine tR fun _ _ _ => ?_
 refine pV ?_
 refine sV (rLen rfl rfl) ?_
 refine pV ?_
 refine tC rfl (fun h2 => ?_) (fun h2 => ?_)
 ·try simp only [zbA] at h2
  refine tS ?_
  refine tR fun _ _ _ => ?_
  refine pV ?_
  exact tr_ret ⟨trivial, _, _, rfl, ⟨by rw [show (vN l).toNat = 0 from lmb_nil.1 (by omega), bitl_zero]; rfl, rfl⟩, CSub.nil _, trivial⟩
 ·try simp only [zbA] at h2
  refine tK ?_
  refine tS ?_
  have hn0 : (vN l).toNat ≠ 0 := fun h => by rw [h, lmb_zero] at h2; simp at h2
  have hbl := bitl_lmb hn0
  have hlg := hlm.get ((lmb (vN l).toNat).length - 1)
  have hb32 := bitl_lt (n := ((lmb (vN l).toNat).getD ((lmb (vN l).toNat).length - 1) 0).toNat) (k := 32) (by omega)
  have hlp : 1 ≤ (lmb (vN l).toNat).length := by have := mt lmb_nil.1 hn0; omega
  refine tR fun _ _ _ => ?_
  refine pV ?_
  refine sV (rLen rfl rfl) ?_
  refine sV (rSub rfl rfl rfl (by omega) (by omega)) ?_
  refine sV (rMul rfl rfl rfl (by omega) (by omega)) ?_
  refine pV ?_
  refine tS ?_
  refine tS ?_
  refine tR fun _ _ _ => ?_
  iterate 2 refine pV ?_
  refine sV (rLen rfl rfl) ?_
  refine sV (rSub rfl rfl rfl (by omega) (by omega)) ?_
  refine sV (rIdxW rfl rfl rfl (by omega) (by omega) (by omega)) ?_
  refine sV (rLdW rfl rfl (by omega)) ?_
  refine pV ?_
  rw [show (((lmb (vN l).toNat).length : Int) - 1).toNat = (lmb (vN l).toNat).length - 1 by omega]
  refine tB ?_
  refine tr_loop2 (fun (s : Int) (t : Int) => [(3, .int .i64 s), (4, .int .u32 t), (2, .int .i64 0)]) (fun (s : Int) (t : Int) => []) (fun (s : Int) (t : Int) => (0 ≤ t ∧ t < 4294967296) ∧ 0 ≤ s ∧ s + bitl t.toNat = (bitl (vN l).toNat : Int)) (fun (s : Int) (t : Int) => t.toNat) (32 * (((lmb (vN l).toNat).length : Int) - 1)) ((lmb (vN l).toNat).getD ((lmb (vN l).toNat).length - 1) 0) ⟨rfl, rfl, rfl, trivial⟩ (by first | exact cs _ _ | exact CSub.refl _) (⟨⟨by omega, by omega⟩, by omega, by omega⟩) (fun s t hI => ?_)
  obtain ⟨⟨ht0, ht1⟩, hs0, hs⟩ := hI
  refine tS ?_
  refine tS ?_
  refine tR fun _ _ _ => ?_
  refine pV ?_
  refine sV (rGtrK rfl rfl rfl) ?_
  refine tC rfl (fun h6 => ?_) (fun h6 => ?_)
  ·try simp only [zbA] at h6
   refine tK ?_
   refine tS ?_
   refine tB ?_
   refine tR fun _ _ _ => ?_
   refine pV ?_
   refine sV (rAdd rfl rfl rfl (by omega) (by omega)) ?_
   refine pV ?_
   refine tR fun _ _ _ => ?_
   refine pV ?_
   refine sV (rQuo32 rfl rfl rfl (by omega) (by omega)) ?_
   refine pV ?_
   refine ⟨s + 1, t / 2, ⟨rfl, rfl, rfl, trivial⟩, by first | exact cs _ _ | exact CSub.refl _, ?_⟩
   have hbp := bitl_pos (n := t.toNat) (by omega)
   rw [show t.toNat / 2 = (t / 2).toNat by omega] at hbp
   exact ⟨⟨⟨by omega, by omega⟩, by omega, by omega⟩, by omega⟩
  ·try simp only [zbA] at h6
   refine tE ?_
   refine tS ?_
   refine tR fun _ _ _ => ?_
   iterate 2 refine pV ?_
   exact tr_ret ⟨trivial, _, _, rfl, ⟨by rw [show t = 0 by omega, show ((0 : Int).toNat) = 0 from rfl, bitl_zero] at hs; rw [← hs]; simp, rfl⟩, CSub.nil _, trivial⟩
end Go.Proofs.YtfdjdokdabmmdaaGreat

set_option maxRecDepth 100000
namespace Go.Proofs.YtfdjdokdabmmdaaGreat
open Go.RowKit
theorem pow_triv {a n : Nat} (ha : a ≤ 1) (hn : n ≠ 0) : a ^ n = a := by
 rcases Nat.eq_zero_or_pos a with h | h
 ·rw [h, Nat.zero_pow (by omega)]
 ·rw [show a = 1 by omega, Nat.one_pow]
theorem ref_NPow_ent : Enters Tryz.prog 24 := enters_of Tryz.func24 (by kernel_rfl) (by kernel_rfl)
theorem ref_NPow (X : Option Addr) (nx cx : Nat) (l : List Int) (hnx : nx = l.length) (hlnx : Lm l) (h9nx : nx ≤ 1000000) (hcx : nx ≤ cx) (n : Nat) (hn : n ≤ 256) (ha : vN l ≤ 256) :
  Pure Tryz.prog 24 #[.slice X nx cx, .int .i64 n] [ro X (w32 l)] (one (fun v ch => ∃ B c, v = .tuple #[.slice B (lmb ((vN l).toNat ^ n)).length c, .int .i64 0] ∧ ch = ow B 89 c (w32 (lmb ((vN l).toNat ^ n))) ∧ (lmb ((vN l).toNat ^ n)).length ≤ c)) := by
 refine pure_of (args := [.slice X nx cx, .int .i64 n]) 41 Tryz.func24 rfl rfl rfl ref_NPow_ent ⟨id, trivial⟩ (fun w0 => ?_)
 refine tS ?_
 refine tR fun _ _ _ => ?_
 iterate 2 refine pV ?_
 refine tS ?_
 refine tS ?_
 have hvn := vN_nn hlnx
 have hll := lmb_short hlnx
 refine tR fun _ _ _ => ?_
 iterate 2 refine pV ?_
 refine tC rfl (fun h1 => ?_) (fun h1 => ?_)
 ·try simp only [zbA] at h1
  omega --done
 ·try simp only [zbA] at h1
  refine tK ?_
  refine tS ?_
  refine tR fun _ _ _ => ?_
  refine pV ?_
  refine eV (eCall1 rfl rfl rfl (ref_Trim X nx cx l hnx hlnx (by omega) hcx) ⟨rfl, trivial⟩ ?_)
  rintro _ _ ⟨B3, c3, rfl, rfl, hc3⟩
  refine pV ?_
  refine tS ?_
  refine tS ?_
  refine tR fun _ _ _ => ?_
  iterate 2 refine pV ?_
  refine tC rfl (fun h4 => ?_) (fun h4 => ?_)
  ·try simp only [zbA] at h4
   refine tS ?_
   refine tR fun _ _ _ => ?_
   refine eV (eLit1W rfl rfl rfl rfl (fun A5 => ?_))
   iterate 2 refine pV ?_
   have hz : n = 0 := by omega
   subst hz
   rw [Nat.pow_zero, lmb_one]
   exact tr_ret ⟨trivial, _, _, rfl, ⟨_, rfl, A5, 1, rfl, rfl, Nat.le_refl _⟩, cs _ _, trivial, trivial⟩
  ·try simp only [zbA] at h4
   refine tK ?_
   refine tS ?_
   refine tS ?_
   refine tR fun _ _ _ => ?_
   refine pV ?_
   refine eV (eCallV rfl rfl rfl (ref_NBits B3 _ c3 (lmb (vN l).toNat) rfl (lmb_lm _) (by omega) hc3) ⟨rfl, trivial⟩ ?_)
   refine pV ?_
   rw [show ((vN (lmb (vN l).toNat)).toNat) = (vN l).toNat by rw [vN_lmb]; rfl]
   refine tC rfl (fun h6 => ?_) (fun h6 => ?_)
   ·try simp only [zbA] at h6
    refine tS ?_
    refine tR fun _ _ _ => ?_
    iterate 3 refine pV ?_
    have hp1 : (vN l).toNat ^ n = (vN l).toNat := pow_triv (bitl_one.1 (by omega)) (by omega)
    rw [hp1]
    exact tr_ret ⟨trivial, _, _, rfl, ⟨_, rfl, B3, c3, rfl, rfl, hc3⟩, cs _ _, trivial, trivial⟩
   ·try simp only [zbA] at h6
    refine tK ?_
    refine tS ?_
    refine tS ?_
    refine tR fun _ _ _ => ?_
    iterate 2 refine pV ?_
    refine tC rfl (fun h8 => ?_) (fun h8 => ?_)
    ·try simp only [zbA] at h8
     omega --done
    ·try simp only [zbA] at h8
     refine tK ?_
     refine tS ?_
     refine tR fun _ _ _ => ?_
     refine eV (eLit1W rfl rfl rfl rfl (fun A10 => ?_))
     refine pV ?_
     refine tS ?_
     refine tS ?_
     refine tR fun _ _ _ => ?_
     refine pV ?_
     refine tB ?_
     refine tr_loop4 (fun (e : Nat) (B : Option Addr) (cb : Nat) (o : List Int) => [(6, .slice B o.length cb), (7, .int .i64 (hlf e)), (0, .slice B3 (lmb ((vN l).toNat)).length c3), (1, .int .i64 n)]) (fun (e : Nat) (B : Option Addr) (cb : Nat) (o : List Int) => [ow B 89 cb (w32 o), ow B3 89 c3 (w32 (lmb (vN l).toNat))]) (fun (e : Nat) (B : Option Addr) (cb : Nat) (o : List Int) => e ≤ 19 ∧ o.length ≤ cb ∧ o = lmb ((vN l).toNat ^ (n / 2 ^ e))) (fun (e : Nat) (B : Option Addr) (cb : Nat) (o : List Int) => e) (19) (A10) (1) ([1]) ⟨rfl, rfl, rfl, rfl, trivial⟩ (by first | exact cs _ _ | exact CSub.refl _) (⟨by omega, Nat.le_refl _, by rw [Nat.div_eq_of_lt (by omega), Nat.pow_zero, lmb_one]⟩) (fun e B cb o hI => ?_)
     obtain ⟨he, hcb, rfl⟩ := hI
     have hd0 := hlf_nn e
     have hd9 := hlf_le he
     refine tS ?_
     refine tS ?_
     refine tR fun _ _ _ => ?_
     iterate 2 refine pV ?_
     refine tC rfl (fun h12 => ?_) (fun h12 => ?_)
     ·try simp only [zbA] at h12
      refine tK ?_
      refine tS ?_
      refine tB ?_
      refine tS ?_
      obtain ⟨f, rfl⟩ : ∃ f, e = f + 1 := ⟨e - 1, by cases e with | zero => simp [hlf] at h12 | succ f => omega⟩
      have hd1 := hlf_pos f
      have hdn : 0 ≤ (n : Int) / hlf (f + 1) := Int.ediv_nonneg (by omega) (by omega)
      have hdq : n / 2 ^ (f + 1) ≤ 256 := Nat.le_trans (Nat.div_le_self _ _) hn
      have hL1 := pow_len (a := (vN l).toNat) (by omega) hdq
      have hL2 := pow_len2 (a := (vN l).toNat) (by omega) hdq
      refine tR fun _ _ _ => ?_
      iterate 2 refine pV ?_
      refine eV (eCall1 rfl rfl rfl (ref_NMul B _ cb (lmb ((vN l).toNat ^ (n / 2 ^ (f + 1)))) rfl (lmb_lm _) (by omega) B _ cb (lmb ((vN l).toNat ^ (n / 2 ^ (f + 1)))) rfl (lmb_lm _) (by omega)) ⟨rfl, rfl, trivial⟩ ?_)
      rintro _ _ ⟨B14, c14, rfl, rfl, hc14⟩
      refine pV ?_
      rw [lmb_mul] at hc14 ⊢
      refine tS ?_
      refine tS ?_
      refine tR fun _ _ _ => ?_
      iterate 2 refine pV ?_
      refine sV (rQuo rfl rfl rfl (by omega) (by omega)) ?_
      refine sV (rRem rfl rfl rfl (by omega) (by omega)) ?_
      refine pV ?_
      refine tC rfl (fun h15 => ?_) (fun h15 => ?_)
      ·try simp only [zbA] at h15
       refine tR fun _ _ _ => ?_
       iterate 2 refine pV ?_
       refine eV (eCall1 rfl rfl rfl (ref_NMul B14 _ c14 (lmb ((vN l).toNat ^ (n / 2 ^ (f + 1)) * (vN l).toNat ^ (n / 2 ^ (f + 1)))) rfl (lmb_lm _) (by omega) B3 _ c3 (lmb ((vN l).toNat)) rfl (lmb_lm _) (by omega)) ⟨rfl, rfl, trivial⟩ ?_)
       rintro _ _ ⟨B16, c16, rfl, rfl, hc16⟩
       refine pV ?_
       rw [lmb_mul, pow_sq1 _ _ _ ((hlf_bit n f).1 h15)] at hc16 ⊢
       refine tS ?_
       have hL3 := pow_len (a := (vN l).toNat) (by omega) (show n / 2 ^ f ≤ 256 from Nat.le_trans (Nat.div_le_self _ _) hn)
       have hpe : (n / 2 ^ f) % 2 ≠ 1 → (vN l).toNat ^ (n / 2 ^ (f + 1)) * (vN l).toNat ^ (n / 2 ^ (f + 1)) = (vN l).toNat ^ (n / 2 ^ f) := pow_sq _ _ _
       refine tR fun _ _ _ => ?_
       refine pV ?_
       refine sV (rLen rfl rfl) ?_
       refine pV ?_
       refine tC rfl (fun h17 => ?_) (fun h17 => ?_)
       ·try simp only [zbA] at h17
        omega --done
       ·try simp only [zbA] at h17
        refine tK ?_
        refine tR fun _ _ _ => ?_
        refine pV ?_
        refine sV (rQuo rfl rfl rfl (by omega) (by omega)) ?_
        refine pV ?_
        rw [hlf_half]
        refine ⟨f, B16, c16, lmb ((vN l).toNat ^ (n / 2 ^ f)), ⟨rfl, rfl, rfl, rfl, trivial⟩, by first | exact cs _ _ | exact CSub.refl _, ?_⟩
        exact ⟨⟨by omega, hc16, rfl⟩, by omega⟩
      ·try simp only [zbA] at h15
       refine tK ?_
       refine tS ?_
       have hL3 := pow_len (a := (vN l).toNat) (by omega) (show n / 2 ^ f ≤ 256 from Nat.le_trans (Nat.div_le_self _ _) hn)
       have hpe : (n / 2 ^ f) % 2 ≠ 1 → (vN l).toNat ^ (n / 2 ^ (f + 1)) * (vN l).toNat ^ (n / 2 ^ (f + 1)) = (vN l).toNat ^ (n / 2 ^ f) := pow_sq _ _ _
       refine tR fun _ _ _ => ?_
       refine pV ?_
       refine sV (rLen rfl rfl) ?_
       refine pV ?_
       refine tC rfl (fun h17 => ?_) (fun h17 => ?_)
       ·try simp only [zbA] at h17
        omega --done
       ·try simp only [zbA] at h17
        refine tK ?_
        refine tR fun _ _ _ => ?_
        refine pV ?_
        refine sV (rQuo rfl rfl rfl (by omega) (by omega)) ?_
        refine pV ?_
        rw [hlf_half]
        refine ⟨f, B14, c14, lmb ((vN l).toNat ^ (n / 2 ^ (f + 1)) * (vN l).toNat ^ (n / 2 ^ (f + 1))), ⟨rfl, rfl, rfl, rfl, trivial⟩, by first | exact cs _ _ | exact CSub.refl _, ?_⟩
        exact ⟨⟨by omega, hc14, by rw [hpe (fun h => h15 ((hlf_bit n f).2 h))]⟩, by omega⟩
     ·try simp only [zbA] at h12
      refine tE ?_
      refine tS ?_
      refine tR fun _ _ _ => ?_
      iterate 3 refine pV ?_
      have hez : e = 0 := by cases e with | zero => rfl | succ f => (have := hlf_pos f; omega)
      subst hez
      rw [Nat.pow_zero, Nat.div_one] at hcb ⊢
      exact tr_ret ⟨trivial, _, _, rfl, ⟨_, rfl, B, cb, rfl, rfl, hcb⟩, cs _ _, trivial, trivial⟩
theorem ref_Nsmall_ent : Enters Tryz.prog 56 := enters_of Tryz.func56 (by kernel_rfl) (by kernel_rfl)
theorem ref_Nsmall (X : Option Addr) (nx cx : Nat) (l : List Int) (hnx : nx = l.length) (hlnx : Lm l) (h9nx : nx ≤ 100000) (n d : Int) (hn0 : 0 ≤ n) (hn9 : n ≤ 2147483648) (hd1 : 1 ≤ d) (hd9 : d ≤ 2147483648) (r : Nat) (hr : vN l * n = d * (r : Int)) :
  Pure Tryz.prog 56 #[.slice X nx cx, .int .i64 n, .int .i64 d] [ro X (w32 l)] (one (fun v ch => ∃ B c, v = .slice B (lmb (r)).length c ∧ ch = ow B 89 c (w32 (lmb (r))) ∧ (lmb (r)).length ≤ c)) := by
 refine pure_of (args := [.slice X nx cx, .int .i64 n, .int .i64 d]) 48 Tryz.func56 rfl rfl rfl ref_Nsmall_ent ⟨id, trivial⟩ (fun w0 => ?_)
 refine tS ?_
 refine tR fun _ _ _ => ?_
 refine pV ?_
 refine tS ?_
 have hnl := lmb_len (n := n.toNat) (k := 2) (by omega)
 have hml := lmb_mul_len hlnx (n := n) hn0 (by omega)
 rw [hr] at hml
 refine tR fun _ _ _ => ?_
 iterate 2 refine pV ?_
 refine sV (rConv rfl undI undU64 rfl (IntWalk.u64_in _ ⟨by omega, by omega⟩)) ?_
 refine eV (eCall1 rfl rfl rfl (ref_NOf n (by omega) (by omega)) ⟨rfl, trivial⟩ ?_)
 rintro _ _ ⟨B1, c1, rfl, rfl, hc1⟩
 refine eV (eCall1 rfl rfl rfl (ref_NMul X nx cx l hnx hlnx (by omega) B1 _ c1 (lmb n.toNat) rfl (lmb_lm _) (by omega)) ⟨rfl, rfl, trivial⟩ ?_)
 rintro _ _ ⟨B1a, c1a, rfl, rfl, hc1a⟩
 refine pV ?_
 rw [vN_lmb, show (vN l * ((n.toNat : Nat) : Int)).toNat = (d * (r : Int)).toNat by rw [Int.toNat_of_nonneg hn0, hr]]
 refine tS ?_
 have hlm := lmb_lm (d * (r : Int)).toNat
 have hdr : 0 ≤ d * (r : Int) := Int.mul_nonneg (by omega) (by omega)
 refine tR fun _ _ _ => ?_
 refine pV ?_
 refine sV (rLen rfl rfl) ?_
 refine eV (eMakeW rfl rfl rfl rfl rfl (by omega) (by omega) (by omega) (fun A2 => ?_))
 refine pV ?_
 refine tS ?_
 refine tR fun _ _ _ => ?_
 refine pV ?_
 refine tS ?_
 refine tS ?_
 refine tR fun _ _ _ => ?_
 refine pV ?_
 refine sV (rLen rfl rfl) ?_
 refine sV (rSub rfl rfl rfl (by omega) (by omega)) ?_
 refine pV ?_
 refine tB ?_
 refine tr_loop3 (fun (i : Int) (rest : Int) (o : List Int) => [(8, .int .u64 rest), (9, .int .i64 i), (0, .slice B1a (lmb (d * (r : Int)).toNat).length c1a), (7, .slice A2 ((lmb (d * (r : Int)).toNat).length : Int).toNat ((lmb (d * (r : Int)).toNat).length : Int).toNat), (2, .int .i64 d), (6, .slice none 0 0)]) (fun (i : Int) (rest : Int) (o : List Int) => [ow A2 89 ((lmb (d * (r : Int)).toNat).length : Int).toNat (w32 o), ow B1a 89 c1a (w32 (lmb (d * (r : Int)).toNat))]) (fun (i : Int) (rest : Int) (o : List Int) => (-1 ≤ i ∧ i < (lmb (d * (r : Int)).toNat).length) ∧ (0 ≤ rest ∧ rest < d) ∧ ((lmb (d * (r : Int)).toNat).length : Int).toNat = o.length ∧ Lm o ∧ hN (lmb (d * (r : Int)).toNat) (i + 1).toNat = d * hN o (i + 1).toNat + rest) (fun (i : Int) (rest : Int) (o : List Int) => (i + 1).toNat) (((lmb (d * (r : Int)).toNat).length : Int) - 1) (0) (List.replicate ((lmb (d * (r : Int)).toNat).length : Int).toNat 0) ⟨rfl, rfl, rfl, rfl, rfl, rfl, trivial⟩ (by first | exact cs _ _ | exact CSub.refl _) (⟨⟨by omega, by omega⟩, ⟨by omega, by omega⟩, by rw [List.length_replicate], lm_rep _, by rw [hN_out (by omega), hN_out (by rw [List.length_replicate]; omega)]; simp⟩) (fun i rest o hI => ?_)
 obtain ⟨⟨hi0, hi1⟩, ⟨hr0, hr1⟩, hoL, hol, hs⟩ := hI
 refine tS ?_
 refine tS ?_
 refine tR fun _ _ _ => ?_
 iterate 2 refine pV ?_
 refine tC rfl (fun h5 => ?_) (fun h5 => ?_)
 ·try simp only [zbA] at h5
  refine tK ?_
  refine tS ?_
  refine tB ?_
  refine tS ?_
  have hpi := hlm.get i.toNat
  have hq0 : 0 ≤ (rest * 4294967296 + (lmb (d * (r : Int)).toNat).getD i.toNat 0) / d := Int.ediv_nonneg (by omega) (by omega)
  have hq9 : (rest * 4294967296 + (lmb (d * (r : Int)).toNat).getD i.toNat 0) / d < 4294967296 := Int.ediv_lt_of_lt_mul (by omega) (by omega)
  have hm0 := Int.emod_nonneg (rest * 4294967296 + (lmb (d * (r : Int)).toNat).getD i.toNat 0) (show d ≠ 0 by omega)
  have hm9 := Int.emod_lt_of_pos (rest * 4294967296 + (lmb (d * (r : Int)).toNat).getD i.toNat 0) (show 0 < d by omega)
  refine tR fun _ _ _ => ?_
  refine pV ?_
  refine sV (rShl32 rfl rfl rfl (by omega) (by omega)) ?_
  iterate 2 refine pV ?_
  refine sV (rIdxW rfl rfl rfl (by omega) (by omega) (by omega)) ?_
  refine sV (rLdW rfl rfl (by omega)) ?_
  refine sV (rConv rfl undU32 undU64 rfl (IntWalk.u64_in _ ⟨by omega, by omega⟩)) ?_
  refine sV (rAddU rfl rfl rfl (by omega) (by omega)) ?_
  refine pV ?_
  refine tS ?_
  refine tR fun _ _ _ => ?_
  iterate 4 refine pV ?_
  refine sV (rConv rfl undI undU64 rfl (IntWalk.u64_in _ ⟨by omega, by omega⟩)) ?_
  refine sV (rQuoU rfl rfl rfl (by omega) (by omega)) ?_
  refine sV (rConv rfl undU64 undU32 rfl (IntWalk.u32_in _ ⟨by omega, by omega⟩)) ?_
  refine sV (rIdxW rfl rfl rfl (by omega) (by omega) (by omega)) ?_
  refine eV (eStW rfl rfl rfl rfl (by omega) ?_)
  refine tR fun _ _ _ => ?_
  iterate 2 refine pV ?_
  refine sV (rConv rfl undI undU64 rfl (IntWalk.u64_in _ ⟨by omega, by omega⟩)) ?_
  refine sV (rRemU rfl rfl rfl (by omega) (by omega)) ?_
  refine pV ?_
  refine tR fun _ _ _ => ?_
  refine pV ?_
  refine sV (rSub rfl rfl rfl (by omega) (by omega)) ?_
  refine pV ?_
  refine ⟨i - 1, (rest * 4294967296 + (lmb (d * (r : Int)).toNat).getD i.toNat 0) % d, o.set i.toNat ((rest * 4294967296 + (lmb (d * (r : Int)).toNat).getD i.toNat 0) / d), ⟨rfl, rfl, rfl, rfl, rfl, rfl, trivial⟩, by first | exact cs _ _ | exact CSub.refl _, ?_⟩
  refine ⟨⟨⟨by omega, by omega⟩, ⟨by omega, by omega⟩, by rw [List.length_set]; exact hoL, lm_set hol (by omega) (by omega), ?_⟩, by omega⟩
  rw [show (i - 1 + 1).toNat = i.toNat by omega, hN_step, hN_step (o.set _ _), hN_set (by omega), getD_set, if_pos ⟨rfl, by omega⟩]
  rw [show (i + 1).toNat = i.toNat + 1 by omega] at hs
  exact small_alg hs
 ·try simp only [zbA] at h5
  refine tE ?_
  refine tS ?_
  have hiz : i = -1 := by omega
  rw [hiz, show ((-1 : Int) + 1).toNat = 0 from rfl, hN_zero, hN_zero, vN_lmb, Int.toNat_of_nonneg hdr] at hs
  have hvo := small_end hd1 hr0 hr1 hs
  refine tR fun _ _ _ => ?_
  refine pV ?_
  refine eV (eCall1 rfl rfl rfl (ref_Trim A2 _ _ o hoL hol (by omega) (by omega)) ⟨rfl, trivial⟩ ?_)
  rintro _ _ ⟨B10, c10, rfl, rfl, hc10⟩
  refine pV ?_
  rw [hvo, Int.toNat_natCast] at hc10 ⊢
  exact tr_ret ⟨trivial, _, _, rfl, ⟨_, rfl, B10, c10, rfl, rfl, hc10⟩, cs _ _, trivial, trivial⟩
theorem ref_NChoose_ent : Enters Tryz.prog 28 := enters_of Tryz.func28 (by kernel_rfl) (by kernel_rfl)
theorem ref_NChoose (n k : Nat) (hk : k ≤ n) (hn : n ≤ 256) :
  Pure Tryz.prog 28 #[.int .i64 n, .int .i64 k] [] (one (fun v ch => ∃ B c, v = .slice B (lmb (bin n k)).length c ∧ ch = ow B 89 c (w32 (lmb (bin n k))) ∧ (lmb (bin n k)).length ≤ c)) := by
 refine pure_of (args := [.int .i64 n, .int .i64 k]) 29 Tryz.func28 rfl rfl rfl ref_NChoose_ent trivial (fun w0 => ?_)
 refine tS ?_
 refine tR fun _ _ _ => ?_
 refine pV ?_
 refine tS ?_
 refine tS ?_
 refine tR fun _ _ _ => ?_
 iterate 3 refine pV ?_
 refine stg rfl rfl rfl rfl rfl (fun hb => by (have hq := hb; try simp only [zbA] at hq); exact rMove rfl rfl) ?_
 refine stg rfl rfl rfl rfl rfl (fun hb => by (have hq := hb; try simp only [zbA] at hq); exact rMove rfl rfl) ?_
 refine stg rfl rfl rfl rfl rfl (fun hb => by (have hq := hb; try simp only [zbA] at hq); exact rGtr rfl (evg rfl hb) (evg rfl hb)) ?_
 refine sV (rOrB rfl rfl rfl rfl) ?_
 refine tC rfl (fun h1 => ?_) (fun h1 => ?_)
 ·try simp only [zbA] at h1
  omega --done
 ·try simp only [zbA] at h1
  refine tK ?_
  refine tS ?_
  refine tR fun _ _ _ => ?_
  refine eV (eLit1W rfl rfl rfl rfl (fun A3 => ?_))
  refine pV ?_
  refine tS ?_
  refine tS ?_
  refine tR fun _ _ _ => ?_
  refine pV ?_
  refine tB ?_
  refine tr_loop4 (fun (i : Int) (B : Option Addr) (cb : Nat) (o : List Int) => [(5, .slice B o.length cb), (6, .int .i64 i), (0, .int .i64 n), (1, .int .i64 k), (4, .slice none 0 0)]) (fun (i : Int) (B : Option Addr) (cb : Nat) (o : List Int) => [ow B 89 cb (w32 o)]) (fun (i : Int) (B : Option Addr) (cb : Nat) (o : List Int) => (0 ≤ i ∧ i ≤ k) ∧ o.length ≤ cb ∧ o = lmb (bin n i.toNat)) (fun (i : Int) (B : Option Addr) (cb : Nat) (o : List Int) => (k - i).toNat) (0) (A3) (1) ([1]) ⟨rfl, rfl, rfl, rfl, rfl, trivial⟩ (by first | exact cs _ _ | exact CSub.refl _) (⟨⟨by omega, by omega⟩, Nat.le_refl _, by rw [show ((0 : Int).toNat) = 0 from rfl, bin_zero, lmb_one]⟩) (fun i B cb o hI => ?_)
  obtain ⟨⟨hi0, hi1⟩, hcb, rfl⟩ := hI
  refine tS ?_
  refine tS ?_
  refine tR fun _ _ _ => ?_
  iterate 3 refine pV ?_
  refine tC rfl (fun h5 => ?_) (fun h5 => ?_)
  ·try simp only [zbA] at h5
   refine tK ?_
   refine tS ?_
   refine tB ?_
   have hbl := bin_len (n := n) (k := i.toNat) hn
   refine tR fun _ _ _ => ?_
   iterate 3 refine pV ?_
   refine sV (rSub rfl rfl rfl (by omega) (by omega)) ?_
   refine pV ?_
   refine sV (rAdd rfl rfl rfl (by omega) (by omega)) ?_
   refine eV (eCall1 rfl rfl rfl (ref_Nsmall B _ cb (lmb (bin n i.toNat)) rfl (lmb_lm _) (by omega) (n - i) (i + 1) (by omega) (by omega) (by omega) (by omega) (bin n (i + 1).toNat) (bin_mulZ hi0 (by omega))) ⟨rfl, rfl, rfl, trivial⟩ ?_)
   rintro _ _ ⟨B7, c7, rfl, rfl, hc7⟩
   refine pV ?_
   refine tR fun _ _ _ => ?_
   refine pV ?_
   refine sV (rAdd rfl rfl rfl (by omega) (by omega)) ?_
   refine pV ?_
   refine ⟨i + 1, B7, c7, lmb (bin n (i + 1).toNat), ⟨rfl, rfl, rfl, rfl, rfl, trivial⟩, by first | exact cs _ _ | exact CSub.refl _, ?_⟩
   exact ⟨⟨⟨by omega, by omega⟩, hc7, rfl⟩, by omega⟩
  ·try simp only [zbA] at h5
   refine tE ?_
   refine tS ?_
   refine tR fun _ _ _ => ?_
   iterate 2 refine pV ?_
   have hik : i.toNat = k := by omega
   rw [hik] at hcb ⊢
   exact tr_ret ⟨trivial, _, _, rfl, ⟨_, rfl, B, cb, rfl, rfl, hcb⟩, cs _ _, trivial, trivial⟩
end Go.Proofs.YtfdjdokdabmmdaaGreat

set_option maxRecDepth 100000
namespace Go.Proofs.YtfdjdokdabmmdaaGreat
open Go.RowKit
def RefI (cost : List Int → Int) (dif : List Int → Nat) (r : Nat) (wd : Nat → List Int) (z : Nat) (o : List Int) : Prop :=
 (o = [] ∧ ∀ i, i < z → ¬ dif (wd i) ≤ r) ∨ (∃ i0, i0 < z ∧ o = wd i0 ∧ dif o ≤ r ∧ ∀ i, i < z → dif (wd i) ≤ r → cost o < cost (wd i) ∨ (cost o = cost (wd i) ∧ i0 ≤ i))
theorem RefI.zero (cost : List Int → Int) (dif : List Int → Nat) (r : Nat) (wd : Nat → List Int) : RefI cost dif r wd 0 [] := .inl ⟨rfl, fun i h => by omega⟩
theorem RefI.take {cost : List Int → Int} {dif : List Int → Nat} {r : Nat} {wd : Nat → List Int} {z : Nat} {o : List Int} (h : RefI cost dif r wd z o) (hne : ∀ i, wd i ≠ []) (hd : dif (wd z) ≤ r) (hc : o = [] ∨ cost (wd z) < cost o) : RefI cost dif r wd (z + 1) (wd z) := by
 refine .inr ⟨z, by omega, rfl, hd, fun i hi hdi => ?_⟩
 rcases Nat.lt_or_ge i z with h1 | h1
 ·rcases h with ⟨_, h2⟩ | ⟨i0, h2, h3, h4, h5⟩
  ·exact absurd hdi (h2 i h1)
  ·have hc2 := hc.resolve_left (fun e => hne i0 (by rw [← h3]; exact e))
   rcases h5 i h1 hdi with h6 | h6 <;> exact .inl (by omega)
 ·rw [show i = z by omega]; exact .inr ⟨rfl, Nat.le_refl _⟩
theorem RefI.pass {cost : List Int → Int} {dif : List Int → Nat} {r : Nat} {wd : Nat → List Int} {z : Nat} {o : List Int} (h : RefI cost dif r wd z o) (hn : ¬ (dif (wd z) ≤ r ∧ (o = [] ∨ cost (wd z) < cost o))) : RefI cost dif r wd (z + 1) o := by
 rcases h with ⟨h1, h2⟩ | ⟨i0, h2, h3, h4, h5⟩
 ·refine .inl ⟨h1, fun i hi hd => ?_⟩
  rcases Nat.lt_or_ge i z with h3 | h3
  ·exact h2 i h3 hd
  ·rw [show i = z by omega] at hd; exact hn ⟨hd, .inl h1⟩
 ·refine .inr ⟨i0, by omega, h3, h4, fun i hi hd => ?_⟩
  rcases Nat.lt_or_ge i z with h6 | h6
  ·exact h5 i h6 hd
  ·have e : i = z := by omega
   subst e
   have h7 : ¬ cost (wd i) < cost o := fun h => hn ⟨hd, .inr h⟩
   rcases Int.lt_or_eq_of_le (Int.not_lt.1 h7) with h8 | h8
   ·exact .inl h8
   ·exact .inr ⟨h8, by omega⟩
section
variable {p m : Int} {mod : List Int} [hF : IsF p m mod]
theorem word_ix {w : Nat} {rs : List RowM} (hg : Gd (pw p m) w rs) (hf : formP p m mod w rs) {i j : Int} (h0 : 0 ≤ i) (h1 : i < j) (h2 : j < pw p m ^ rs.length) : lexLt (wordZ p m mod w rs i) (wordZ p m mod w rs j) := by
 obtain ⟨qs, hR⟩ := hf
 have hq := hF.q2
 exact word_lex hR (digM_in (by omega) i _) (digM_in (by omega) j _) (by rw [digM_length, vsR_length]) (by rw [digM_length, vsR_length]) (wordZ_in _ _ _) (wordZ_in _ _ _) (wordZ_vec hg i) (wordZ_vec hg j) (digM_lex hq _ i j h0 h1 h2)
theorem ref_best {rs : List RowM} {w n : Nat} {cost : List Int → Int} {bs h o y : List Int} {r : Nat} (hw : w = n) (hg : Gd (pw p m) w rs) (hf : formP p m mod w rs) (hI : RefI cost (fun x => difT bs x h bs.length) r (fun i => wordZ p m mod w rs i) (pw p m ^ rs.length).toNat o) (hb : Bst cost (Cand p m mod rs n bs h r) y) : o = y := by
 subst hw
 have hq := hF.q2
 have hp : (0 : Int) < pw p m ^ rs.length := Int.pow_pos (by omega)
 have hix : ∀ x, Cand p m mod rs w bs h r x → ∃ i : Nat, i < (pw p m ^ rs.length).toNat ∧ x = wordZ p m mod w rs i := fun x hx => by
  obtain ⟨z, h0, h1, h2⟩ := cw_index hg hx.1 hx.2.1 hx.2.2.1
  exact ⟨z.toNat, by omega, by rw [Int.toNat_of_nonneg h0]; exact h2⟩
 refine Bst.uniq (n := w) (fun x hx => hx.1) (a := o) ?_ hb
 obtain ⟨iy, hiy, hye⟩ := hix y hb.1
 rcases hI with ⟨_, h2⟩ | ⟨i0, h2, h3, h4, h5⟩
 ·exact absurd hb.1.2.2.2 (by rw [hye]; exact h2 iy hiy)
 ·subst h3
  refine ⟨⟨wordZ_length _ _ _, wordZ_in _ _ _, wordZ_cw hg _, h4⟩, fun x hx hbet => ?_⟩
  obtain ⟨ix, hix, hxe⟩ := hix x hx
  subst hxe
  have h9 := h5 ix hix hx.2.2.2
  unfold bet at hbet
  dsimp only at h9 hbet
  rcases h9 with h6 | ⟨h6, h7⟩
  ·rcases hbet with h8 | ⟨h8, _⟩ <;> omega
  ·rcases hbet with h8 | ⟨_, h8⟩
   ·omega
   ·rcases Nat.lt_or_eq_of_le h7 with h9 | h9
    ·exact lexLt.asym h8 (word_ix hg hf (by omega) (by omega) (by omega))
    ·rw [h9] at h8; exact lexLt.asym h8 h8
end
theorem num_ChooseW_ent : Enters Tryz.prog 31 := enters_of Tryz.func31 (by kernel_rfl) (by kernel_rfl)
theorem num_ChooseW (n k : Int) (hk0 : 0 ≤ k) (hkn : k ≤ n) (hn9 : n ≤ 64) :
  Pure Tryz.prog 31 #[.int .i64 n, .int .i64 k, .int .i64 65536] [] (val (fun v => ∃ az ez : Int, v = .tuple #[.int .i64 az, .int .i64 ez] ∧ (ez = 0 → az = (bin n.toNat k.toNat : Int) ∧ 0 ≤ az ∧ az ≤ 65536))) := by
 refine pure_of (args := [.int .i64 n, .int .i64 k, .int .i64 65536]) 70 Tryz.func31 rfl rfl rfl num_ChooseW_ent trivial (fun w0 => ?_)
 refine tS ?_
 refine tR fun _ _ _ => ?_
 iterate 2 refine pV ?_
 refine tS ?_
 refine tS ?_
 refine tR fun _ _ _ => ?_
 iterate 3 refine pV ?_
 refine stg rfl rfl rfl rfl rfl (fun hb => by (have hq := hb; try simp only [zbA] at hq); exact rMove rfl rfl) ?_
 refine stg rfl rfl rfl rfl rfl (fun hb => by (have hq := hb; try simp only [zbA] at hq); exact rLss rfl (evg rfl hb) rfl) ?_
 refine sV (rOrB rfl rfl rfl rfl) ?_
 refine pV ?_
 refine stg rfl rfl rfl rfl rfl (fun hb => by (have hq := hb; try simp only [zbA] at hq); exact rMove rfl rfl) ?_
 refine stg rfl rfl rfl rfl rfl (fun hb => by (have hq := hb; try simp only [zbA] at hq); exact rLss rfl (evg rfl hb) rfl) ?_
 refine sV (rOrB rfl rfl rfl rfl) ?_
 refine tC rfl (fun h1 => ?_) (fun h1 => ?_)
 ·try simp only [zbA] at h1
  omega --done
 ·try simp only [zbA] at h1
  refine tK ?_
  refine tS ?_
  refine tS ?_
  refine tR fun _ _ _ => ?_
  iterate 3 refine pV ?_
  refine tC rfl (fun h3 => ?_) (fun h3 => ?_)
  ·try simp only [zbA] at h3
   omega --done
  ·try simp only [zbA] at h3
   refine tK ?_
   refine tS ?_
   refine tS ?_
   refine tR fun _ _ _ => ?_
   iterate 2 refine pV ?_
   refine tC rfl (fun h5 => ?_) (fun h5 => ?_)
   ·try simp only [zbA] at h5
    omega --done
   ·try simp only [zbA] at h5
    refine tK ?_
    refine tS ?_
    refine tR fun _ _ _ => ?_
    iterate 3 refine pV ?_
    refine sV (rSub rfl rfl rfl (by omega) (by omega)) ?_
    refine sV (rMin rfl rfl rfl) ?_
    refine pV ?_
    refine tS ?_
    refine tR fun _ _ _ => ?_
    refine pV ?_
    refine tS ?_
    refine tS ?_
    refine tR fun _ _ _ => ?_
    refine pV ?_
    refine tB ?_
    refine tr_loop2 (fun (i : Int) (o : Int) => [(1, .int .i64 (min k (n - k))), (9, .int .i64 i), (8, .int .i64 o), (0, .int .i64 n), (2, .int .i64 65536)]) (fun (i : Int) (o : Int) => []) (fun (i : Int) (o : Int) => (1 ≤ i ∧ i ≤ min k (n - k) + 1) ∧ (0 ≤ o ∧ o ≤ 65536) ∧ o = (bin ((n - min k (n - k)).toNat + (i - 1).toNat) (i - 1).toNat : Int)) (fun (i : Int) (o : Int) => (min k (n - k) + 1 - i).toNat) (1) (1) ⟨rfl, rfl, rfl, rfl, rfl, trivial⟩ (by first | exact cs _ _ | exact CSub.refl _) (⟨⟨by omega, by omega⟩, ⟨by omega, by omega⟩, by rw [show ((1 : Int) - 1).toNat = 0 by rfl, bin_zero]; rfl⟩) (fun i o hI => ?_)
    obtain ⟨⟨hi0, hi1⟩, ⟨ho0, ho1⟩, ho⟩ := hI
    refine tS ?_
    refine tS ?_
    refine tR fun _ _ _ => ?_
    iterate 3 refine pV ?_
    refine tC rfl (fun h10 => ?_) (fun h10 => ?_)
    ·try simp only [zbA] at h10
     refine tK ?_
     refine tS ?_
     refine tB ?_
     refine tS ?_
     have habs := bin_abs ((n - min k (n - k)).toNat + (i - 1).toNat) ((i - 1).toNat)
     have hmul : o * (n - min k (n - k) + i) = (bin ((n - min k (n - k)).toNat + (i - 1).toNat + 1) ((i - 1).toNat + 1) : Int) * i := by
      have e1 : (((n - min k (n - k)).toNat + (i - 1).toNat + 1 : Nat) : Int) = n - min k (n - k) + i := by omega
      have e2 : (((i - 1).toNat + 1 : Nat) : Int) = i := by omega
      have e3 := congrArg (fun z : Nat => (z : Int)) habs
      simp only [Int.natCast_mul] at e3
      rw [e1, e2, ← ho] at e3
      rw [Int.mul_comm o, ← e3, Int.mul_comm]
     have hq : o * (n - min k (n - k) + i) / i = (bin ((n - min k (n - k)).toNat + (i - 1).toNat + 1) ((i - 1).toNat + 1) : Int) := by rw [hmul, Int.mul_ediv_cancel _ (by omega)]
     have hm0 : 0 ≤ o * (n - min k (n - k) + i) := Int.mul_nonneg (by omega) (by omega)
     have hm9 : o * (n - min k (n - k) + i) ≤ 65536 * 64 := Int.mul_le_mul (by omega) (by omega) (by omega) (by omega)
     have hqd : o * (n - min k (n - k) + i) / i ≤ o * (n - min k (n - k) + i) := Int.ediv_le_self _ hm0
     have hqd0 : 0 ≤ o * (n - min k (n - k) + i) / i := Int.ediv_nonneg hm0 (by omega)
     refine tR fun _ _ _ => ?_
     refine pV ?_
     refine sV (rConv rfl undI undU64 rfl (IntWalk.u64_in _ ⟨by omega, by omega⟩)) ?_
     iterate 2 refine pV ?_
     refine sV (rSub rfl rfl rfl (by omega) (by omega)) ?_
     refine pV ?_
     refine sV (rAdd rfl rfl rfl (by omega) (by omega)) ?_
     refine sV (rConv rfl undI undU64 rfl (IntWalk.u64_in _ ⟨by omega, by omega⟩)) ?_
     refine eV (eCallV rfl rfl rfl (bits_Mul64 o (n - min k (n - k) + i) (by omega) (by omega) (by omega) (by omega) (by omega) (by omega)) ⟨rfl, rfl, trivial⟩ ?_)
     iterate 5 refine pV ?_
     refine tS ?_
     refine tS ?_
     refine tR fun _ _ _ => ?_
     iterate 2 refine pV ?_
     refine sV (rConv rfl undI undU64 rfl (IntWalk.u64_in _ ⟨by omega, by omega⟩)) ?_
     refine sV (rGeqK rfl rfl rfl) ?_
     refine tC rfl (fun h13 => ?_) (fun h13 => ?_)
     ·try simp only [zbA] at h13
      omega --done
     ·try simp only [zbA] at h13
      refine tK ?_
      refine tS ?_
      refine tR fun _ _ _ => ?_
      iterate 3 refine pV ?_
      refine sV (rConv rfl undI undU64 rfl (IntWalk.u64_in _ ⟨by omega, by omega⟩)) ?_
      refine eV (eCallV rfl rfl rfl (bits_Div64 (o * (n - min k (n - k) + i)) i (by omega) (by omega) (by omega) (by omega)) ⟨rfl, rfl, rfl, trivial⟩ ?_)
      iterate 5 refine pV ?_
      refine tS ?_
      refine tS ?_
      refine tR fun _ _ _ => ?_
      iterate 2 refine pV ?_
      refine sV (rConv rfl undI undU64 rfl (IntWalk.u64_in _ ⟨by omega, by omega⟩)) ?_
      refine sV (rGtrK rfl rfl rfl) ?_
      refine tC rfl (fun h16 => ?_) (fun h16 => ?_)
      ·try simp only [zbA] at h16
       refine tS ?_
       refine tR fun _ _ _ => ?_
       iterate 2 refine pV ?_
       exact tr_ret ⟨trivial, _, _, rfl, ⟨rfl, _, _, rfl, fun h => absurd h (by decide)⟩, CSub.nil _, trivial⟩
      ·try simp only [zbA] at h16
       refine tK ?_
       refine tR fun _ _ _ => ?_
       refine pV ?_
       refine sV (rConv rfl undU64 undI rfl (IntWalk.i64_in _ ⟨by omega, by omega⟩)) ?_
       refine pV ?_
       refine tR fun _ _ _ => ?_
       refine pV ?_
       refine sV (rAdd rfl rfl rfl (by omega) (by omega)) ?_
       refine pV ?_
       refine ⟨i + 1, o * (n - min k (n - k) + i) / i, ⟨rfl, rfl, rfl, rfl, rfl, trivial⟩, by first | exact cs _ _ | exact CSub.refl _, ?_⟩
       exact ⟨⟨⟨by omega, by omega⟩, ⟨by omega, by omega⟩, by rw [hq, show (i + 1 - 1).toNat = (i - 1).toNat + 1 by omega]; rfl⟩, by omega⟩
    ·try simp only [zbA] at h10
     refine tE ?_
     refine tS ?_
     refine tR fun _ _ _ => ?_
     iterate 3 refine pV ?_
     have hik : i = min k (n - k) + 1 := by omega
     have hfin : o = (bin n.toNat k.toNat : Int) := by
      rw [ho, hik, show (min k (n - k) + 1 - 1).toNat = (min k (n - k)).toNat by omega, show (n - min k (n - k)).toNat + (min k (n - k)).toNat = n.toNat by omega]
      rcases Int.le_total k (n - k) with h | h
      ·rw [Int.min_eq_left h]
      ·rw [Int.min_eq_right h, bin_sym n.toNat (n - k).toNat k.toNat (by omega)]
     exact tr_ret ⟨trivial, _, _, rfl, ⟨rfl, _, _, rfl, fun _ => ⟨hfin, ho0, ho1⟩⟩, CSub.nil _, trivial⟩
theorem num_ExpW_ent : Enters Tryz.prog 32 := enters_of Tryz.func32 (by kernel_rfl) (by kernel_rfl)
theorem num_ExpW (b e : Int) (hb1 : 1 ≤ b) (hb9 : b ≤ 65536) (he0 : 0 ≤ e) (he9 : e ≤ 1000) :
  Pure Tryz.prog 32 #[.int .i64 b, .int .i64 e, .int .i64 65536] [] (val (fun v => ∃ az ez : Int, v = .tuple #[.int .i64 az, .int .i64 ez] ∧ (ez = 0 → az = ((b ^ e.toNat) : Int) ∧ 0 ≤ az ∧ az ≤ 65536))) := by
 refine pure_of (args := [.int .i64 b, .int .i64 e, .int .i64 65536]) 44 Tryz.func32 rfl rfl rfl num_ExpW_ent trivial (fun w0 => ?_)
 refine tS ?_
 refine tR fun _ _ _ => ?_
 iterate 2 refine pV ?_
 refine tS ?_
 refine tS ?_
 refine tR fun _ _ _ => ?_
 iterate 3 refine pV ?_
 refine stg rfl rfl rfl rfl rfl (fun hb => by (have hq := hb; try simp only [zbA] at hq); exact rMove rfl rfl) ?_
 refine stg rfl rfl rfl rfl rfl (fun hb => by (have hq := hb; try simp only [zbA] at hq); exact rLss rfl (evg rfl hb) rfl) ?_
 refine sV (rOrB rfl rfl rfl rfl) ?_
 refine pV ?_
 refine stg rfl rfl rfl rfl rfl (fun hb => by (have hq := hb; try simp only [zbA] at hq); exact rMove rfl rfl) ?_
 refine stg rfl rfl rfl rfl rfl (fun hb => by (have hq := hb; try simp only [zbA] at hq); exact rLss rfl (evg rfl hb) rfl) ?_
 refine sV (rOrB rfl rfl rfl rfl) ?_
 refine tC rfl (fun h1 => ?_) (fun h1 => ?_)
 ·try simp only [zbA] at h1
  omega --done
 ·try simp only [zbA] at h1
  refine tK ?_
  refine tS ?_
  refine tS ?_
  refine tR fun _ _ _ => ?_
  iterate 3 refine pV ?_
  refine stg rfl rfl rfl rfl rfl (fun hb => by (have hq := hb; try simp only [zbA] at hq); exact rMove rfl rfl) ?_
  refine stg rfl rfl rfl rfl rfl (fun hb => by (have hq := hb; try simp only [zbA] at hq); exact rGtr rfl (evg rfl hb) rfl) ?_
  refine sV (rAndB rfl rfl rfl rfl) ?_
  refine tC rfl (fun h3 => ?_) (fun h3 => ?_)
  ·try simp only [zbA] at h3
   omega --done
  ·try simp only [zbA] at h3
   refine tK ?_
   refine tS ?_
   refine tS ?_
   refine tR fun _ _ _ => ?_
   iterate 2 refine pV ?_
   refine tC rfl (fun h5 => ?_) (fun h5 => ?_)
   ·try simp only [zbA] at h5
    omega --done
   ·try simp only [zbA] at h5
    refine tK ?_
    refine tS ?_
    refine tR fun _ _ _ => ?_
    refine pV ?_
    refine tS ?_
    refine tB ?_
    refine tr_loop2 (fun (t : Int) (o : Int) => [(1, .int .i64 t), (8, .int .i64 o), (0, .int .i64 b), (2, .int .i64 65536)]) (fun (t : Int) (o : Int) => []) (fun (t : Int) (o : Int) => (0 ≤ t ∧ t ≤ e) ∧ (1 ≤ o ∧ o ≤ 65536) ∧ o = b ^ (e - t).toNat) (fun (t : Int) (o : Int) => t.toNat) (e) (1) ⟨rfl, rfl, rfl, rfl, trivial⟩ (by first | exact cs _ _ | exact CSub.refl _) (⟨⟨by omega, by omega⟩, ⟨by omega, by omega⟩, by rw [show (e - e).toNat = 0 by omega, Int.pow_zero]⟩) (fun t o hI => ?_)
    obtain ⟨⟨ht0, ht1⟩, ⟨ho0, ho1⟩, ho⟩ := hI
    refine tS ?_
    refine tS ?_
    refine tR fun _ _ _ => ?_
    iterate 3 refine pV ?_
    refine stg rfl rfl rfl rfl rfl (fun hb => by (have hq := hb; try simp only [zbA] at hq); exact rMove rfl rfl) ?_
    refine stg rfl rfl rfl rfl rfl (fun hb => by (have hq := hb; try simp only [zbA] at hq); exact rGtr rfl (evg rfl hb) rfl) ?_
    refine sV (rAndB rfl rfl rfl rfl) ?_
    refine tC rfl (fun h8 => ?_) (fun h8 => ?_)
    ·try simp only [zbA] at h8
     refine tK ?_
     refine tS ?_
     refine tB ?_
     refine tS ?_
     refine tS ?_
     have hdv0 : 0 ≤ 65536 / b := Int.ediv_nonneg (by omega) (by omega)
     refine tR fun _ _ _ => ?_
     iterate 3 refine pV ?_
     refine sV (rQuo rfl rfl rfl (by omega) (by omega)) ?_
     refine pV ?_
     refine tC rfl (fun h10 => ?_) (fun h10 => ?_)
     ·try simp only [zbA] at h10
      refine tS ?_
      refine tR fun _ _ _ => ?_
      iterate 2 refine pV ?_
      exact tr_ret ⟨trivial, _, _, rfl, ⟨rfl, _, _, rfl, fun h => absurd h (by decide)⟩, CSub.nil _, trivial⟩
     ·try simp only [zbA] at h10
      refine tK ?_
      have hob : o * b ≤ 65536 := Int.mul_le_of_le_ediv (by omega) (by omega)
      have hob0 : 0 < o * b := Int.mul_pos (by omega) (by omega)
      refine tR fun _ _ _ => ?_
      iterate 2 refine pV ?_
      refine sV (rMul rfl rfl rfl (by omega) (by omega)) ?_
      refine pV ?_
      refine tR fun _ _ _ => ?_
      refine pV ?_
      refine sV (rSub rfl rfl rfl (by omega) (by omega)) ?_
      refine pV ?_
      refine ⟨t - 1, o * b, ⟨rfl, rfl, rfl, rfl, trivial⟩, by first | exact cs _ _ | exact CSub.refl _, ?_⟩
      exact ⟨⟨⟨by omega, by omega⟩, ⟨by omega, by omega⟩, by rw [show (e - (t - 1)).toNat = (e - t).toNat + 1 by omega, Int.pow_succ, ho]⟩, by omega⟩
    ·try simp only [zbA] at h8
     refine tE ?_
     refine tS ?_
     refine tR fun _ _ _ => ?_
     iterate 3 refine pV ?_
     have hfin : o = b ^ e.toNat := by
      rw [ho]
      by_cases h1 : b = 1
      ·rw [h1, Int.one_pow, Int.one_pow]
      ·rw [show (e - t).toNat = e.toNat by omega]
     exact tr_ret ⟨trivial, _, _, rfl, ⟨rfl, _, _, rfl, fun _ => ⟨hfin, by omega, ho1⟩⟩, CSub.nil _, trivial⟩
theorem ord_DecodeE_ent : Enters Tryz.prog 8 := enters_of Tryz.func8 (by kernel_rfl) (by kernel_rfl)
theorem ord_DecodeE (p m : Int) (A : Option Addr) (c : Nat) (mod : List Int) (hl9 : mod.length ≤ 17592186044415) (w : Int) (Aa : Option Addr) (n ca : Nat) (rs : List RowM) (hn : n = rs.length) (h9 : rs.length ≤ 17592186044415) (h8 : ∀ r ∈ rs, r.xs.length ≤ 17592186044415) (he : codC p m mod w rs ≠ 0) (T : Option Addr) (nt ct : Nat) (ts : List RowM) (hnt : nt = ts.length) (t9 : ts.length ≤ 17592186044415) (t8 : ∀ r ∈ ts, r.xs.length ≤ 17592186044415) (r : Int) :
  Pure Tryz.prog 8 #[.agg #[.int .i64 p, .int .i64 m, .slice A mod.length c, .int .i64 w, .slice Aa n ca], .slice T nt ct, .int .i64 r] [ro A (ints mod), ro Aa (hdrs rs), rowsR rs, ro T (hdrs ts), rowsR ts] (isV (.tuple #[.slice none 0 0, .int .i64 (codC p m mod w rs)])) := by
 refine pure_of (args := [.agg #[.int .i64 p, .int .i64 m, .slice A mod.length c, .int .i64 w, .slice Aa n ca], .slice T nt ct, .int .i64 r]) 173 Tryz.func8 rfl rfl rfl ord_DecodeE_ent ⟨id, id, id, id, id, trivial⟩ (fun w0 => ?_)
 refine tS ?_
 refine tR fun _ _ _ => ?_
 refine eV (eBox rfl rfl rfl rfl rfl (fun p0 => ?_))
 iterate 2 refine pV ?_
 refine tS ?_
 refine tR fun _ _ _ => ?_
 refine sV (rLdS rfl rfl rfl) ?_
 refine pV ?_
 refine eV (eCallV rfl rfl rfl (ord_checkedE p m A c mod hl9 w Aa n ca rs hn h9 h8 he T nt ct ts hnt t9 t8) ⟨rfl, rfl, trivial⟩ ?_)
 iterate 5 refine pV ?_
 refine tS ?_
 refine tS ?_
 refine tR fun _ _ _ => ?_
 iterate 2 refine pV ?_
 refine tC rfl (fun h2 => ?_) (fun h2 => ?_)
 ·try simp only [zbA] at h2
  refine tS ?_
  refine tR fun _ _ _ => ?_
  iterate 3 refine pV ?_
  exact tr_ret ⟨trivial, _, _, rfl, ⟨rfl, rfl⟩, CSub.nil _, trivial⟩
 ·try simp only [zbA] at h2
  omega --done
theorem ord_DecodeR_ent : Enters Tryz.prog 8 := enters_of Tryz.func8 (by kernel_rfl) (by kernel_rfl)
theorem ord_DecodeR (p m : Int) (A : Option Addr) (c : Nat) (mod : List Int) [hF : IsF p m mod] (w : Int) (Aa : Option Addr) (n ca : Nat) (rs : List RowM) (hn : n = rs.length) (h9 : rs.length ≤ 256) (hc : CodeOk p m mod w rs) (T : Option Addr) (nt ct : Nat) (ts : List RowM) (hnt : nt = ts.length) (t9 : ts.length ≤ 17592186044415) (t8 : ∀ r ∈ ts, r.xs.length ≤ 17592186044415) (ho : ordC (pw p m) w (xss ts) ≠ 0) (r : Int) :
  Pure Tryz.prog 8 #[.agg #[.int .i64 p, .int .i64 m, .slice A mod.length c, .int .i64 w, .slice Aa n ca], .slice T nt ct, .int .i64 r] [ro A (ints mod), ro Aa (hdrs rs), rowsR rs, ro T (hdrs ts), rowsR ts] (isV (.tuple #[.slice none 0 0, .int .i64 (ordC (pw p m) w (xss ts))])) := by
 refine pure_of (args := [.agg #[.int .i64 p, .int .i64 m, .slice A mod.length c, .int .i64 w, .slice Aa n ca], .slice T nt ct, .int .i64 r]) 173 Tryz.func8 rfl rfl rfl ord_DecodeR_ent ⟨id, id, id, id, id, trivial⟩ (fun w0 => ?_)
 refine tS ?_
 refine tR fun _ _ _ => ?_
 refine eV (eBox rfl rfl rfl rfl rfl (fun p0 => ?_))
 iterate 2 refine pV ?_
 refine tS ?_
 refine tR fun _ _ _ => ?_
 refine sV (rLdS rfl rfl rfl) ?_
 refine pV ?_
 refine eV (eCallV rfl rfl rfl (ord_checkedR p m A c mod w Aa n ca rs hn h9 hc T nt ct ts hnt t9 t8 ho) ⟨rfl, rfl, trivial⟩ ?_)
 iterate 5 refine pV ?_
 refine tS ?_
 refine tS ?_
 refine tR fun _ _ _ => ?_
 iterate 2 refine pV ?_
 refine tC rfl (fun h2 => ?_) (fun h2 => ?_)
 ·try simp only [zbA] at h2
  refine tS ?_
  refine tR fun _ _ _ => ?_
  iterate 3 refine pV ?_
  exact tr_ret ⟨trivial, _, _, rfl, ⟨rfl, rfl⟩, CSub.nil _, trivial⟩
 ·try simp only [zbA] at h2
  omega --done
theorem ord_DecodeO_ent : Enters Tryz.prog 8 := enters_of Tryz.func8 (by kernel_rfl) (by kernel_rfl)
theorem ord_DecodeO (p m : Int) (A : Option Addr) (c : Nat) (mod : List Int) [hF : IsF p m mod] (w : Int) (Aa : Option Addr) (n ca : Nat) (rs : List RowM) (hn : n = rs.length) (h9 : rs.length ≤ 256) (hc : CodeOk p m mod w rs) (T : Option Addr) (nt ct : Nat) (ts : List RowM) (hnt : nt = ts.length) (t9 : ts.length ≤ 17592186044415) (t8 : ∀ r ∈ ts, r.xs.length ≤ 17592186044415) (ho : ordC (pw p m) w (xss ts) = 0) (r : Int) (hro : r < 0 ∨ r > n) :
  Pure Tryz.prog 8 #[.agg #[.int .i64 p, .int .i64 m, .slice A mod.length c, .int .i64 w, .slice Aa n ca], .slice T nt ct, .int .i64 r] [ro A (ints mod), ro Aa (hdrs rs), rowsR rs, ro T (hdrs ts), rowsR ts] (isV (.tuple #[.slice none 0 0, .int .i64 (6)])) := by
 refine pure_of (args := [.agg #[.int .i64 p, .int .i64 m, .slice A mod.length c, .int .i64 w, .slice Aa n ca], .slice T nt ct, .int .i64 r]) 173 Tryz.func8 rfl rfl rfl ord_DecodeO_ent ⟨id, id, id, id, id, trivial⟩ (fun w0 => ?_)
 refine tS ?_
 refine tR fun _ _ _ => ?_
 refine eV (eBox rfl rfl rfl rfl rfl (fun p0 => ?_))
 iterate 2 refine pV ?_
 refine tS ?_
 refine tR fun _ _ _ => ?_
 refine sV (rLdS rfl rfl rfl) ?_
 refine pV ?_
 refine eV (eCall1 rfl rfl rfl (ord_checkedG p m A c mod w Aa n ca rs hn h9 hc T nt ct ts hnt t9 t8 ho) ⟨rfl, rfl, trivial⟩ ?_)
 rintro _ _ ⟨g, rfl, rfl, hg⟩
 iterate 5 refine pV ?_
 refine tS ?_
 refine tS ?_
 refine tR fun _ _ _ => ?_
 iterate 2 refine pV ?_
 refine tC rfl (fun h2 => ?_) (fun h2 => ?_)
 ·try simp only [zbA] at h2
  first | exact absurd trivial h2 | exact absurd rfl h2 | omega | (exact absurd h2 (by simp)) --done
 ·try simp only [zbA] at h2
  refine tK ?_
  refine tS ?_
  refine tR fun _ _ _ => ?_
  refine sV (rFld rfl rfl) ?_
  refine sV (rLdF rfl rfl rfl) ?_
  refine sV (rLen rfl rfl) ?_
  refine pV ?_
  refine tS ?_
  refine tS ?_
  refine tR fun _ _ _ => ?_
  iterate 3 refine pV ?_
  refine stg rfl rfl rfl rfl rfl (fun hb => by (have hq := hb; try simp only [zbA] at hq); exact rMove rfl rfl) ?_
  refine stg rfl rfl rfl rfl rfl (fun hb => by (have hq := hb; try simp only [zbA] at hq); exact rMove rfl rfl) ?_
  refine stg rfl rfl rfl rfl rfl (fun hb => by (have hq := hb; try simp only [zbA] at hq); exact rGtr rfl (evg rfl hb) (evg rfl hb)) ?_
  refine sV (rOrB rfl rfl rfl rfl) ?_
  refine tC rfl (fun h5 => ?_) (fun h5 => ?_)
  ·try simp only [zbA] at h5
   refine tS ?_
   refine tR fun _ _ _ => ?_
   iterate 2 refine pV ?_
   exact tr_ret ⟨trivial, _, _, rfl, ⟨rfl, rfl⟩, CSub.nil _, trivial⟩
  ·try simp only [zbA] at h5
   omega --done
theorem ord_DecodeB_ent : Enters Tryz.prog 8 := enters_of Tryz.func8 (by kernel_rfl) (by kernel_rfl)
theorem ord_DecodeB (p m : Int) (A : Option Addr) (c : Nat) (mod : List Int) [hF : IsF p m mod] (w : Int) (Aa : Option Addr) (n ca : Nat) (rs : List RowM) (hn : n = rs.length) (h9 : rs.length ≤ 256) (hc : CodeOk p m mod w rs) (T : Option Addr) (nt ct : Nat) (ts : List RowM) (hnt : nt = ts.length) (t9 : ts.length ≤ 17592186044415) (t8 : ∀ r ∈ ts, r.xs.length ≤ 17592186044415) (ho : ordC (pw p m) w (xss ts) = 0) (r : Nat) (hr : r ≤ n) (hbig : 65536 < sbin ((pw p m).toNat - 1) n (r + 1)) :
  Pure Tryz.prog 8 #[.agg #[.int .i64 p, .int .i64 m, .slice A mod.length c, .int .i64 w, .slice Aa n ca], .slice T nt ct, .int .i64 r] [ro A (ints mod), ro Aa (hdrs rs), rowsR rs, ro T (hdrs ts), rowsR ts] (isV (.tuple #[.slice none 0 0, .int .i64 (8)])) := by
 have h9c := h9
 have hq2 := hF.q2
 have hq256 := hF.out.1.1.q
 have hlen := hc.len
 refine pure_of (args := [.agg #[.int .i64 p, .int .i64 m, .slice A mod.length c, .int .i64 w, .slice Aa n ca], .slice T nt ct, .int .i64 r]) 173 Tryz.func8 rfl rfl rfl ord_DecodeB_ent ⟨id, id, id, id, id, trivial⟩ (fun w0 => ?_)
 refine tS ?_
 refine tR fun _ _ _ => ?_
 refine eV (eBox rfl rfl rfl rfl rfl (fun p0 => ?_))
 iterate 2 refine pV ?_
 refine tS ?_
 refine tR fun _ _ _ => ?_
 refine sV (rLdS rfl rfl rfl) ?_
 refine pV ?_
 refine eV (eCall1 rfl rfl rfl (ord_checkedG p m A c mod w Aa n ca rs hn h9 hc T nt ct ts hnt t9 t8 ho) ⟨rfl, rfl, trivial⟩ ?_)
 rintro _ _ ⟨g, rfl, rfl, hg⟩
 iterate 5 refine pV ?_
 refine tS ?_
 refine tS ?_
 refine tR fun _ _ _ => ?_
 iterate 2 refine pV ?_
 refine tC rfl (fun h2 => ?_) (fun h2 => ?_)
 ·try simp only [zbA] at h2
  first | exact absurd trivial h2 | exact absurd rfl h2 | omega | (exact absurd h2 (by simp)) --done
 ·try simp only [zbA] at h2
  refine tK ?_
  refine tS ?_
  refine tR fun _ _ _ => ?_
  refine sV (rFld rfl rfl) ?_
  refine sV (rLdF rfl rfl rfl) ?_
  refine sV (rLen rfl rfl) ?_
  refine pV ?_
  refine tS ?_
  refine tS ?_
  refine tR fun _ _ _ => ?_
  iterate 3 refine pV ?_
  refine stg rfl rfl rfl rfl rfl (fun hb => by (have hq := hb; try simp only [zbA] at hq); exact rMove rfl rfl) ?_
  refine stg rfl rfl rfl rfl rfl (fun hb => by (have hq := hb; try simp only [zbA] at hq); exact rMove rfl rfl) ?_
  refine stg rfl rfl rfl rfl rfl (fun hb => by (have hq := hb; try simp only [zbA] at hq); exact rGtr rfl (evg rfl hb) (evg rfl hb)) ?_
  refine sV (rOrB rfl rfl rfl rfl) ?_
  refine tC rfl (fun h5 => ?_) (fun h5 => ?_)
  ·try simp only [zbA] at h5
   omega --done
  ·try simp only [zbA] at h5
   refine tK ?_
   refine tS ?_
   refine tR fun _ _ _ => ?_
   refine pV ?_
   refine tS ?_
   refine tS ?_
   refine tR fun _ _ _ => ?_
   refine pV ?_
   refine sV (rAdd rfl rfl rfl (by omega) (by omega)) ?_
   refine pV ?_
   refine tB ?_
   refine tr_loop2 (fun (i : Int) (o : Int) => [(11, .int .i64 o), (52, .int .i64 (r + 1)), (53, .int .i64 i), (1, .slice T nt ct), (2, .int .i64 r), (3, .pointer (some p0)), (8, .pointer (some g.p)), (10, .int .i64 n)]) (fun (i : Int) (o : Int) => [gfN g, blk p0 27 [.int .i64 p, .int .i64 m, .slice A mod.length c, .int .i64 w, .slice Aa n ca], ro A (ints mod), ro Aa (hdrs rs), rowsR rs, ro T (hdrs ts), rowsR ts]) (fun (i : Int) (o : Int) => (0 ≤ i ∧ i ≤ r + 1) ∧ o = (sbin ((pw p m).toNat - 1) n i.toNat : Int) ∧ o ≤ 65536) (fun (i : Int) (o : Int) => (r + 1 - i).toNat) (0) (0) ⟨rfl, rfl, rfl, rfl, rfl, rfl, rfl, rfl, trivial⟩ (by first | exact cs _ _ | exact CSub.refl _) (⟨⟨by omega, by omega⟩, rfl, by omega⟩) (fun i o hI => ?_)
   obtain ⟨⟨hi0, hi1⟩, ho2, ho9⟩ := hI
   refine tS ?_
   refine tR fun _ _ _ => ?_
   refine pV ?_
   refine tS ?_
   refine tC rfl (fun h9 => ?_) (fun h9 => ?_)
   ·try simp only [zbA] at h9
    refine tK ?_
    refine tS ?_
    refine tB ?_
    refine tS ?_
    refine tR fun _ _ _ => ?_
    iterate 2 refine pV ?_
    refine tS ?_
    have hgq := hg.eq
    refine tR fun _ _ _ => ?_
    iterate 2 refine pV ?_
    refine eV (eCall0 rfl rfl rfl (num_ChooseW n i (by omega) (by omega) (by omega)) ⟨rfl, rfl, rfl, trivial⟩ ?_)
    rintro _ ⟨a1, e1, rfl, ha1⟩
    iterate 5 refine pV ?_
    refine tS ?_
    refine tR fun _ _ _ => ?_
    refine pV ?_
    refine eV (eCallV rfl rfl rfl (gf_Order g) ⟨rfl, trivial⟩ ?_)
    rw [hgq]
    refine sV (rSub rfl rfl rfl (by omega) (by omega)) ?_
    refine pV ?_
    refine eV (eCall0 rfl rfl rfl (num_ExpW (pw p m - 1) i (by omega) (by omega) (by omega) (by omega)) ⟨rfl, rfl, rfl, trivial⟩ ?_)
    rintro _ ⟨a2, e2, rfl, ha2⟩
    iterate 5 refine pV ?_
    refine tS ?_
    refine tS ?_
    have hpr : (e1 = 0 ∧ e2 = 0) → 0 ≤ a1 * a2 ∧ a1 * a2 ≤ 65536 * 65536 := fun h => by
     have h1 := ha1 h.1
     have h2 := ha2 h.2
     exact ⟨Int.mul_nonneg h1.2.1 h2.2.1, Int.mul_le_mul h1.2.2 h2.2.2 h2.2.1 (by omega)⟩
    refine tR fun _ _ _ => ?_
    iterate 3 refine pV ?_
    refine stg rfl rfl rfl rfl rfl (fun hb => by (have hq := hb; try simp only [zbA] at hq); exact rMove rfl rfl) ?_
    refine stg rfl rfl rfl rfl rfl (fun hb => by (have hq := hb; try simp only [zbA] at hq); exact rNeq rfl (evg rfl hb) rfl) ?_
    refine sV (rOrB rfl rfl rfl rfl) ?_
    refine pV ?_
    refine stg rfl rfl rfl rfl rfl (fun hb => by (have hq := hb; try simp only [zbA] at hq); exact rMove rfl rfl) ?_
    refine stg rfl rfl rfl rfl rfl (fun hb => by (have hq := hb; try simp only [zbA] at hq); exact rMove rfl rfl) ?_
    refine stg rfl rfl rfl rfl rfl (fun hb => by (have hq := hb; try simp only [zbA] at hq); exact rMul rfl (evg rfl hb) (evg rfl hb) (by omega) (by omega)) ?_
    refine stg rfl rfl rfl rfl rfl (fun hb => by (have hq := hb; try simp only [zbA] at hq); exact rMove rfl rfl) ?_
    refine stg rfl rfl rfl rfl rfl (fun hb => by (have hq := hb; try simp only [zbA] at hq); exact rSub rfl rfl (evg rfl hb) (by omega) (by omega)) ?_
    refine stg rfl rfl rfl rfl rfl (fun hb => by (have hq := hb; try simp only [zbA] at hq); exact rGtr rfl (evg rfl hb) (evg rfl hb)) ?_
    refine sV (rOrB rfl rfl rfl rfl) ?_
    refine tC rfl (fun h13 => ?_) (fun h13 => ?_)
    ·try simp only [zbA] at h13
     refine tS ?_
     refine tR fun _ _ _ => ?_
     iterate 2 refine pV ?_
     exact tr_ret ⟨trivial, _, _, rfl, ⟨rfl, rfl⟩, CSub.nil _, trivial⟩
    ·try simp only [zbA] at h13
     refine tK ?_
     have hee : e1 = 0 ∧ e2 = 0 := by omega
     have hp2 := hpr hee
     have hp3 : a1 * a2 = ((bin n i.toNat * ((pw p m).toNat - 1) ^ i.toNat : Nat) : Int) := by
      rw [(ha1 hee.1).1, (ha2 hee.2).1, Int.natCast_mul, Int.natCast_pow, show (((pw p m).toNat - 1 : Nat) : Int) = pw p m - 1 by omega, Int.toNat_natCast]
     refine tR fun _ _ _ => ?_
     iterate 3 refine pV ?_
     refine sV (rMul rfl rfl rfl (by omega) (by omega)) ?_
     refine sV (rAdd rfl rfl rfl (by omega) (by omega)) ?_
     refine pV ?_
     refine tR fun _ _ _ => ?_
     refine sV (rAdd rfl rfl rfl (by omega) (by omega)) ?_
     refine pV ?_
     refine ⟨i + 1, o + a1 * a2, ⟨rfl, rfl, rfl, rfl, rfl, rfl, rfl, rfl, trivial⟩, by first | exact cs _ _ | exact CSub.refl _, ?_⟩
     exact ⟨⟨⟨by omega, by omega⟩, by rw [show (i + 1).toNat = i.toNat + 1 by omega, sbin, hp3, ho2]; rfl, by omega⟩, by omega⟩
   ·try simp only [zbA] at h9
    have : i = r + 1 := by omega
    subst this
    rw [show ((r : Int) + 1).toNat = r + 1 by omega] at ho2
    omega --done
theorem ref_Patterns_ent : Enters Tryz.prog 7 := enters_of Tryz.func7 (by kernel_rfl) (by kernel_rfl)
theorem ref_Patterns (p m : Int) (A : Option Addr) (c : Nat) (mod : List Int) [hF : IsF p m mod] (w : Int) (Aa : Option Addr) (n ca : Nat) (rs : List RowM) (hn : n = rs.length) (h9 : rs.length ≤ 256) (hc : CodeOk p m mod w rs) (r : Nat) (hr : r ≤ n) :
  Pure Tryz.prog 7 #[.agg #[.int .i64 p, .int .i64 m, .slice A mod.length c, .int .i64 w, .slice Aa n ca], .int .i64 r] [ro A (ints mod), ro Aa (hdrs rs), rowsR rs] (isV (.bool (decide (sbin ((pw p m).toNat - 1) rs.length (r + 1) ≤ 65536)))) := by
 have h9c := h9
 have hq2 := hF.q2
 have hq256 := hF.out.1.1.q
 have hlen := hc.len
 have hord := hF.ord
 have hsl : ∀ j, (lmb (sbin ((pw p m).toNat - 1) rs.length j)).length ≤ 65 := fun j => sbin_len (by omega) (by omega)
 refine pure_of (args := [.agg #[.int .i64 p, .int .i64 m, .slice A mod.length c, .int .i64 w, .slice Aa n ca], .int .i64 r]) 39 Tryz.func7 rfl rfl rfl ref_Patterns_ent ⟨id, id, id, trivial⟩ (fun w0 => ?_)
 refine tS ?_
 refine tR fun _ _ _ => ?_
 refine eV (eBox rfl rfl rfl rfl rfl (fun p0 => ?_))
 refine pV ?_
 refine tS ?_
 refine tR fun _ _ _ => ?_
 refine eV (eLit0W rfl rfl rfl  (fun A1 => ?_))
 refine pV ?_
 refine tS ?_
 refine tS ?_
 refine tR fun _ _ _ => ?_
 refine pV ?_
 refine tB ?_
 refine tr_loop4 (fun (i : Nat) (B : Option Addr) (cb : Nat) (o : List Int) => [(5, .slice B o.length cb), (6, .int .i64 i), (1, .int .i64 r), (2, .pointer (some p0)), (4, .bool false)]) (fun (i : Nat) (B : Option Addr) (cb : Nat) (o : List Int) => [ow B 89 cb (w32 o), blk p0 27 [.int .i64 p, .int .i64 m, .slice A mod.length c, .int .i64 w, .slice Aa n ca], ro A (ints mod), ro Aa (hdrs rs), rowsR rs]) (fun (i : Nat) (B : Option Addr) (cb : Nat) (o : List Int) => i ≤ r + 1 ∧ o.length ≤ cb ∧ o = lmb (sbin ((pw p m).toNat - 1) rs.length i)) (fun (i : Nat) (B : Option Addr) (cb : Nat) (o : List Int) => r + 1 - i) (0) (A1) (0) ([]) ⟨rfl, rfl, rfl, rfl, rfl, trivial⟩ (by first | exact cs _ _ | exact CSub.refl _) (⟨by omega, Nat.le_refl _, by rw [sbin, lmb_zero]⟩) (fun i B cb o hI => ?_)
 obtain ⟨hi1, hcb, rfl⟩ := hI
 refine tS ?_
 refine tS ?_
 refine tR fun _ _ _ => ?_
 iterate 3 refine pV ?_
 refine tC rfl (fun h3 => ?_) (fun h3 => ?_)
 ·try simp only [zbA] at h3
  refine tK ?_
  refine tS ?_
  refine tB ?_
  refine tS ?_
  have hs1 := hsl i
  have hqn : (pw p m - 1).toNat = (pw p m).toNat - 1 := by omega
  have hpl := pow_len (a := (pw p m).toNat - 1) (e := i) (by omega) (by omega)
  have hbl := bin_len (n := n) (k := i) (by omega)
  have hql := lmb_len (n := (pw p m - 1).toNat) (k := 1) (by omega)
  refine tR fun _ _ _ => ?_
  refine sV (rFld rfl rfl) ?_
  refine sV (rLdSF rfl rfl) ?_
  refine eV (eCallV rfl rfl rfl (ref_order p m A c mod) ⟨rfl, trivial⟩ ?_)
  rw [hord]
  refine sV (rSub rfl rfl rfl (by omega) (by omega)) ?_
  refine sV (rConv rfl undI undU64 rfl (IntWalk.u64_in _ ⟨by omega, by omega⟩)) ?_
  refine eV (eCall1 rfl rfl rfl (ref_NOf (pw p m - 1) (by omega) (by omega)) ⟨rfl, trivial⟩ ?_)
  rintro _ _ ⟨B5a, c5a, rfl, rfl, hc5a⟩
  refine pV ?_
  refine eV (eCall1 rfl rfl rfl (ref_NPow B5a _ c5a (lmb (pw p m - 1).toNat) rfl (lmb_lm _) (by omega) hc5a i (by omega) (by rw [vN_lmb]; omega)) ⟨rfl, rfl, trivial⟩ ?_)
  rintro _ _ ⟨B5b, c5b, rfl, rfl, hc5b⟩
  iterate 5 refine pV ?_
  rw [vN_lmb, Int.toNat_natCast, hqn] at hc5b ⊢
  have hml := pat_len (x := (pw p m).toNat - 1) (n := n) (i := i) (by omega) (by omega)
  refine tR fun _ _ _ => ?_
  iterate 2 refine pV ?_
  refine sV (rFld rfl rfl) ?_
  refine sV (rLdF rfl rfl rfl) ?_
  refine sV (rLen rfl rfl) ?_
  refine pV ?_
  refine eV (eCall1 rfl rfl rfl (ref_NChoose n i (by omega) (by omega)) ⟨rfl, rfl, trivial⟩ ?_)
  rintro _ _ ⟨B6, c6, rfl, rfl, hc6⟩
  refine eV (eCall1 rfl rfl rfl (ref_NMul B5b _ c5b (lmb (((pw p m).toNat - 1) ^ i)) rfl (lmb_lm _) (by omega) B6 _ c6 (lmb (bin n i)) rfl (lmb_lm _) (by omega)) ⟨rfl, rfl, trivial⟩ ?_)
  rintro _ _ ⟨B6a, c6a, rfl, rfl, hc6a⟩
  rw [lmb_mul]
  refine eV (eCall1 rfl rfl rfl (ref_NAdd B _ cb (lmb (sbin ((pw p m).toNat - 1) rs.length i)) rfl (lmb_lm _) (by omega) B6a _ c6a (lmb (((pw p m).toNat - 1) ^ i * bin n i)) rfl (lmb_lm _) (by omega)) ⟨rfl, rfl, trivial⟩ ?_)
  rintro _ _ ⟨B6b, c6b, rfl, rfl, hc6b⟩
  refine pV ?_
  rw [lmb_add, show sbin ((pw p m).toNat - 1) rs.length i + ((pw p m).toNat - 1) ^ i * bin n i = sbin ((pw p m).toNat - 1) rs.length (i + 1) by rw [sbin, Nat.mul_comm, hn]] at hc6b ⊢
  refine tR fun _ _ _ => ?_
  refine pV ?_
  refine sV (rAdd rfl rfl rfl (by omega) (by omega)) ?_
  refine pV ?_
  refine ⟨i + 1, B6b, c6b, lmb (sbin ((pw p m).toNat - 1) rs.length (i + 1)), ⟨rfl, rfl, rfl, rfl, rfl, trivial⟩, by first | exact cs _ _ | exact CSub.refl _, ?_⟩
  exact ⟨⟨by omega, hc6b, rfl⟩, by omega⟩
 ·try simp only [zbA] at h3
  refine tE ?_
  refine tS ?_
  have hir : i = r + 1 := by omega
  subst hir
  have hs2 := hsl (r + 1)
  have h65 := lmb_len (n := (65536 : Int).toNat) (k := 1) (by omega)
  refine tR fun _ _ _ => ?_
  refine pV ?_
  refine eV (eCall1 rfl rfl rfl (ref_NOf 65536 (by omega) (by omega)) ⟨rfl, trivial⟩ ?_)
  rintro _ _ ⟨B7, c7, rfl, rfl, hc7⟩
  refine eV (eCallV rfl rfl rfl (ref_NCmp B _ cb (lmb (sbin ((pw p m).toNat - 1) rs.length (r + 1))) rfl (lmb_lm _) (by omega) B7 _ c7 (lmb (65536 : Int).toNat) rfl (lmb_lm _) (by omega)) ⟨rfl, rfl, trivial⟩ ?_)
  iterate 2 refine pV ?_
  exact tr_ret ⟨trivial, _, _, rfl, ⟨congrArg Value.bool (decide_eq_decide.2 (by rw [cmpZ_le, vN_lmb, vN_lmb]; omega)), rfl⟩, CSub.nil _, trivial⟩
end Go.Proofs.YtfdjdokdabmmdaaGreat

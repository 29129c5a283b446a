/-
  SMALL FACTS ON LISTS AND INTS. One sentence: what walks over lists want again and again.
  Conditions: each theorem's own, written out in it. No program is named here.
-/
import Derived.Test.YtjmojhflnjbgaaaSymG
set_option linter.unusedSimpArgs false
set_option linter.unusedVariables false
namespace Go.Proofs.Ytjmojhflnjbgaaa

theorem take_next {α : Type} (d : α) (xs : List α) (k : Int) (h0 : 0 ≤ k) (h : k < xs.length) : xs.take (k + 1).toNat = xs.take k.toNat ++ [xs.getD k.toNat d] := by
  have e : (k + 1).toNat = k.toNat + 1 := by omega
  have hk : k.toNat < xs.length := by omega
  rw [e, List.take_add_one, List.getElem?_eq_getElem hk]
  simp [hk]
theorem take_len {α : Type} (xs : List α) (k : Int) (h : (xs.length : Int) ≤ k) : xs.take k.toNat = xs := List.take_of_length_le (by omega)
theorem mul_bd (a b A B : Int) (h1 : -A ≤ a) (h2 : a ≤ A) (h3 : -B ≤ b) (h4 : b ≤ B) : -(A * B) ≤ a * b ∧ a * b ≤ A * B := by
  have hA : 0 ≤ A := by omega
  have hB : 0 ≤ B := by omega
  have h5 : (a * b).natAbs ≤ (A * B).natAbs := by
    rw [Int.natAbs_mul, Int.natAbs_mul]
    exact Nat.mul_le_mul (by omega) (by omega)
  have h6 : ((A * B).natAbs : Int) = A * B := Int.natAbs_of_nonneg (Int.mul_nonneg hA hB)
  omega
theorem mul_bd0 (a b A B : Int) (h1 : 0 ≤ a) (h2 : a ≤ A) (h3 : 0 ≤ b) (h4 : b ≤ B) : 0 ≤ a * b ∧ a * b ≤ A * B := by
  have := mul_bd a b A B (by omega) h2 (by omega) h4
  exact ⟨Int.mul_nonneg h1 h3, this.2⟩
theorem tup2 {k k' : IntKind} {a a' b b' : Int} (h : a = a') (h' : b = b') : Value.tuple #[.int k a, .int k' b] = .tuple #[.int k a', .int k' b'] := by rw [h, h']
theorem int_eq {k : IntKind} {a b : Int} (h : a = b) : Value.int k a = .int k b := by rw [h]
theorem bool_eq {a b : Bool} (h : a = b) : Value.bool a = .bool b := by rw [h]
end Go.Proofs.Ytjmojhflnjbgaaa

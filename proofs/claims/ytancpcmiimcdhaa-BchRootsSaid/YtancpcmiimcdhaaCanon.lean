/-
  CANONICAL LISTS. One sentence: lists of coefficients in canonical form, and their order.
  Conditions: each theorem's own, written out in it. No program is named here.
-/
import Derived.Test.YtancpcmiimcdhaaDig
import Derived.Test.YtancpcmiimcdhaaBest
set_option linter.unusedSimpArgs false
set_option linter.unusedVariables false
namespace Go.Proofs.Ytancpcmiimcdhaa

def inI (q x : Int) : Int := if 0 ≤ x ∧ x < q then x else 0
theorem inI_bd {q : Int} (hq : 1 ≤ q) (x : Int) : 0 ≤ inI q x ∧ inI q x < q := by unfold inI; split <;> omega
theorem inI_in {q x : Int} (h0 : 0 ≤ x) (h1 : x < q) : inI q x = x := by rw [inI, if_pos ⟨h0, h1⟩]
def trimL : List Int → List Int
  | [] => []
  | x :: xs => match trimL xs with
    | [] => if x = 0 then [] else [x]
    | y :: ys => x :: y :: ys
theorem trimL_snoc0 : ∀ xs : List Int, trimL (xs ++ [0]) = trimL xs
  | [] => rfl
  | x :: xs => by rw [List.cons_append, trimL, trimL_snoc0 xs, trimL]
theorem trimL_snoc {y : Int} (hy : y ≠ 0) : ∀ xs : List Int, trimL (xs ++ [y]) = xs ++ [y]
  | [] => by simp [trimL, hy]
  | x :: xs => by
    rw [List.cons_append, trimL, trimL_snoc hy xs]
    cases xs <;> rfl
theorem trimL_length (xs : List Int) : (trimL xs).length ≤ xs.length := by
  induction xs with
  | nil => simp [trimL]
  | cons x xs ih =>
    rw [trimL]
    split
    · split <;> simp
    · rename_i y ys h
      rw [h] at ih
      simp only [List.length_cons] at ih ⊢
      omega
/-- What trimming leaves is the head of the list. -/
theorem trimL_take : ∀ xs : List Int, trimL xs = xs.take (trimL xs).length
  | [] => rfl
  | x :: xs => by
    have ih := trimL_take xs
    rw [trimL]
    split
    · split <;> simp
    · rename_i y ys h
      rw [h] at ih
      simp only [List.length_cons, List.take_succ_cons]
      rw [← List.length_cons (a := y), ← ih]
theorem trimL_split (xs : List Int) : xs = trimL xs ++ xs.drop (trimL xs).length := by
  conv => lhs; rw [← List.take_append_drop (trimL xs).length xs]
  rw [← trimL_take]
/-- One step of the loop that trims. -/
theorem trim_step {xs : List Int} {k : Nat} (hk : 0 < k) (hkl : k ≤ xs.length) (h : trimL (xs.take k) = trimL xs) (h0 : xs.getD (k - 1) 0 = 0) : trimL (xs.take (k - 1)) = trimL xs := by
  rw [← h]
  have h1 : xs.take k = xs.take (k - 1) ++ [0] := by
    conv => lhs; rw [show k = (k - 1) + 1 by omega, List.take_add_one]
    rw [List.getD_eq_getElem?_getD, List.getElem?_eq_getElem (by omega)] at h0
    rw [List.getElem?_eq_getElem (by omega)]
    simp only [Option.getD_some] at h0
    rw [h0]; rfl
  rw [h1, trimL_snoc0]
theorem trim_done {xs : List Int} {k : Nat} (hkl : k ≤ xs.length) (h : trimL (xs.take k) = trimL xs) (h0 : k = 0 ∨ xs.getD (k - 1) 0 ≠ 0) : (trimL xs).length = k := by
  rw [← h]
  rcases Nat.eq_zero_or_pos k with hk | hk
  · subst hk; simp [trimL]
  · rcases h0 with h0 | h0
    · omega
    · have h1 : xs.take k = xs.take (k - 1) ++ [xs.getD (k - 1) 0] := by
        conv => lhs; rw [show k = (k - 1) + 1 by omega, List.take_add_one]
        rw [List.getD_eq_getElem?_getD, List.getElem?_eq_getElem (by omega)]
        rfl
      rw [h1, trimL_snoc h0]
      simp
      omega
def canL (q : Int) (l : List Int) : List Int := trimL (l.map (inI q))
theorem canL_length (q : Int) (l : List Int) : (canL q l).length ≤ l.length := by
  have := trimL_length (l.map (inI q))
  simpa [canL] using this
theorem canL_in {q : Int} (hq : 1 ≤ q) (l : List Int) : AllIn q (canL q l) := fun c hc => by
  unfold canL at hc
  rw [trimL_take] at hc
  obtain ⟨x, _, rfl⟩ := List.mem_map.1 (List.mem_of_mem_take hc)
  exact inI_bd hq x
/-- Compared from the top down. -/
def cmpN (a b : List Int) : Nat → Int
  | 0 => 0
  | n + 1 => if a.getD n 0 < b.getD n 0 then -1 else if a.getD n 0 > b.getD n 0 then 1 else cmpN a b n
def cmpL (a b : List Int) : Int := if a.length < b.length then -1 else if a.length > b.length then 1 else cmpN a b a.length
theorem cmpN_neg (a b : List Int) : ∀ n, cmpN b a n = - cmpN a b n
  | 0 => rfl
  | n + 1 => by
    have := cmpN_neg a b n
    simp only [cmpN]
    split <;> split <;> (try split) <;> omega
theorem cmpL_neg (a b : List Int) : cmpL b a = - cmpL a b := by
  unfold cmpL
  have := cmpN_neg a b a.length
  by_cases h1 : a.length < b.length
  · rw [if_neg (by omega), if_pos (by omega), if_pos h1]; rfl
  · by_cases h2 : a.length > b.length
    · rw [if_pos (by omega), if_neg h1, if_pos h2]
    · rw [if_neg (by omega), if_neg (by omega), if_neg h1, if_neg h2, show b.length = a.length by omega]
      exact this
theorem cmpL_bd (a b : List Int) : -1 ≤ cmpL a b ∧ cmpL a b ≤ 1 := by
  have : ∀ n, -1 ≤ cmpN a b n ∧ cmpN a b n ≤ 1 := fun n => by
    induction n with
    | zero => simp [cmpN]
    | succ n ih => simp only [cmpN]; split <;> (try split) <;> omega
  have := this a.length
  unfold cmpL
  split <;> (try split) <;> omega
end Go.Proofs.Ytancpcmiimcdhaa

/-
  RUNS OF ZEROS. One sentence: what a run proves for a list of zeros modulo n, and the lists by which the two texts ask for it.
  Conditions: each theorem's own, written out in it. No program is named here.
-/
import Derived.Test.YtjmojhflnjbgaaaUtil
set_option linter.unusedSimpArgs false
set_option linter.unusedVariables false
namespace Go.Proofs.Ytjmojhflnjbgaaa

/-- x is one of the zeros, modulo n. -/
def Zer (n : Int) (zs : List Int) (x : Int) : Prop := ∃ z ∈ zs, z % n = x % n

def memL (n : Int) (zs : List Int) : List Bool := zs.foldl (fun bs z => bs.set (z % n).toNat true) (List.replicate n.toNat false)
theorem foldl_set_length (n : Int) : ∀ (zs : List Int) (bs : List Bool), (zs.foldl (fun bs z => bs.set (z % n).toNat true) bs).length = bs.length
  | [], bs => rfl
  | z :: zs, bs => by rw [List.foldl_cons, foldl_set_length n zs]; simp
theorem memL_length (n : Int) (zs : List Int) : (memL n zs).length = n.toNat := by rw [memL, foldl_set_length]; simp
theorem foldl_set_get (n : Int) (j : Nat) : ∀ (zs : List Int) (bs : List Bool), j < bs.length → ((zs.foldl (fun bs z => bs.set (z % n).toNat true) bs).getD j false = true ↔ bs.getD j false = true ∨ ∃ z ∈ zs, (z % n).toNat = j)
  | [], bs, h => by simp
  | z :: zs, bs, h => by
    rw [List.foldl_cons, foldl_set_get n j zs _ (by simpa using h)]
    by_cases hz : (z % n).toNat = j
    · subst hz
      simp [List.getElem?_set, h]
    · simp [List.getElem?_set, hz, h]
theorem memL_get (n : Int) (hn : 1 ≤ n) (zs : List Int) (x : Int) : (memL n zs).getD (x % n).toNat false = true ↔ Zer n zs x := by
  have h0 := Int.emod_nonneg x (show n ≠ 0 by omega)
  have h1 := Int.emod_lt_of_pos x (show 0 < n by omega)
  rw [memL, foldl_set_get n _ zs _ (by simp; omega)]
  have hf : (List.replicate n.toNat false).getD (x % n).toNat false = false := by
    rw [List.getD_eq_getElem?_getD, List.getElem?_replicate]; split <;> rfl
  rw [hf]
  constructor
  · rintro (h | ⟨z, hz, he⟩)
    · cases h
    · have h2 := Int.emod_nonneg z (show n ≠ 0 by omega)
      exact ⟨z, hz, by omega⟩
  · rintro ⟨z, hz, he⟩
    exact .inr ⟨z, hz, by rw [he]⟩
theorem memL_snoc (n : Int) (zs : List Int) (z : Int) : memL n (zs ++ [z]) = (memL n zs).set (z % n).toNat true := by simp [memL]

def resid (n : Int) (zs : List Int) : List Int := zs.map (· % n)
theorem resid_mem (n : Int) (zs : List Int) (x : Int) : x % n ∈ resid n zs ↔ Zer n zs x := by simp [resid, Zer]
theorem resid_snoc (n : Int) (zs : List Int) (z : Int) : resid n (zs ++ [z]) = resid n zs ++ [z % n] := by simp [resid]

/-- The exponents of a run are zeros. -/
def RunOk (n : Int) (zs : List Int) (s t c x m : Int) : Prop := ∀ i : Int, 0 ≤ i → i < c → ∀ j : Int, 0 ≤ j → j ≤ m → Zer n zs (s + i * t + j * x)
def Far (a : Int) : Prop := a < -2147483648 ∨ a > 2147483648
def RunArgs (n s t c x m : Int) : Prop := Far s ∨ Far t ∨ Far x ∨ c < 1 ∨ c > n ∨ m < 0 ∨ m > n
def RunBad (n t c x m : Int) : Prop := Int.gcd t n ≠ 1 ∨ (m > 0 ∧ (Int.gcd x n : Int) > c)
open Classical in
/-- The error of Check's arguments. -/
noncomputable def chkA (n s t c x m : Int) : Int := if n < 1 ∨ n > 64 then 4 else if RunArgs n s t c x m then 6 else 0
theorem chkA_ok {n s t c x m : Int} (h : chkA n s t c x m = 0) : (1 ≤ n ∧ n ≤ 64) ∧ ¬ RunArgs n s t c x m := by
  unfold chkA at h
  split at h
  · cases h
  · split at h
    · cases h
    · exact ⟨by omega, by assumption⟩
open Classical in
/-- What Check returns. -/
noncomputable def chk (n : Int) (zs : List Int) (s t c x m : Int) : Int × Int :=
  if n < 1 ∨ n > 64 then (0, 4) else if RunArgs n s t c x m then (0, 6) else if RunBad n t c x m then (0, 13) else if RunOk n zs s t c x m then (c + 1 + m, 0) else (0, 13)
end Go.Proofs.Ytjmojhflnjbgaaa

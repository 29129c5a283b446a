/-
  SORTING. One sentence: what slices.Sort does with a slice of one's own, out of the kit's contract.
  Conditions: each theorem's own, written out in it.
-/
import Derived.Test.YtjmojhflnjbgaaaCos
import Derived.Test.YtjmojhflnjbgaaaTypes
import Derived.Test.YtjmojhflnjbgaaaShelf
import Derived.Sort.OwnSortedInts
set_option linter.unusedSimpArgs false
set_option linter.unusedVariables false
set_option maxRecDepth 100000
namespace Go.Proofs.Ytjmojhflnjbgaaa
open Go.RowKit
theorem slc_Sort_ent : Enters Try.prog 100 := enters_of Try.func100 (by kernel_rfl) (by kernel_rfl)
theorem slc_Sort (A : Option Addr) (n c : Nat) (xs : List Int) (hn : n = xs.length) (h9 : xs.length ≤ 1000000000) :
    Mut Try.prog 100 #[.slice A n c] [ow A 3 c (ints xs)] [] (one (fun v ch => v = .tuple #[] ∧ ch = ow A 3 c (ints (sortI xs)))) := ⟨slc_Sort_ent, fun w hm => by
  subst hn
  have h0 : w.ownsRow 0 3 1 (.slice A (ints xs).length c) (ints xs).length (ints xs) := hm.sat _ (List.mem_cons_self ..)
  have hnd := h0
  rcases h0 with ⟨h1, ⟨h2, h3⟩ | ⟨g, cap, cur, hv, hb, hh, hc, hmx, hs, ht⟩⟩
  · simp only [Value.slice.injEq] at h2
    obtain ⟨rfl, _, rfl⟩ := h2
    have hx : xs = [] := by simpa using h3
    subst hx
    have hsx : sortI [] = [] := List.eq_nil_of_length_eq_zero (by rw [sortI_length]; rfl)
    refine (Try.slices_Sort_int_none none 0 w).mono fun e w' ⟨h4, h5⟩ => ?_
    subst h4; subst h5
    exact ⟨_, _, rfl, ⟨_, rfl, rfl, rfl⟩, by rw [hsx]; simpa using hm, ⟨trivial, trivial⟩⟩
  · simp only [Value.slice.injEq] at hv
    obtain ⟨rfl, _, rfl⟩ := hv
    have hlen : (ints xs).length = xs.length := by simp
    rw [hlen, Nat.mul_one] at ht
    rw [hlen] at hc
    have hH := holds_of_blockI (ss := xs) hh (by simpa [ints] using ht)
    have hg : g < w.heap.size := (Array.getElem?_eq_some_iff.1 hh).1
    refine (Try.slices_Sort_int g 0 c xs w hH hg (by omega)).mono fun e w' ⟨h4, n, os, h5⟩ => ?_
    subst h4
    have hgr : w.grownBy w' (some g) := by rw [h5]; exact Go.grownBy_sortedI _
    have hown : w'.ownsRow 0 3 1 (.slice (some ⟨g, 0, none⟩) (ints (sortI xs)).length c) (ints (sortI xs)).length (ints (sortI xs)) := by
      have h6 := Go.ownsRow_sortedI (w := w) (base := 0) (g := g) (cap := c) (n := n) (e := 3) (os := os) (cur := cur) (ss := xs) (ts := sortI xs) (sortI_length xs) (Nat.zero_le _) hh hc hmx hs
      have hl2 : (ints (sortI xs)).length = xs.length := by simp [sortI_length]
      rw [h5, hl2]
      exact h6
    refine ⟨_, _, rfl, ⟨_, rfl, rfl, rfl⟩, ?_, ⟨trivial, trivial⟩⟩
    refine (hm.change (c := ow (some ⟨g, 0, none⟩) 3 c (ints xs)) (F := []) (d := ow (some ⟨g, 0, none⟩) 3 c (ints (sortI xs))) trivial ⟨hgr.os, hgr.tape, hgr.output, hgr.size, fun k hk hf => hgr.block k hk (fun e => hf ⟨⟨g, 0, none⟩, rfl, by simpa using e.symm⟩)⟩ hown (fun b hb => .inl hb) : Mem _ w w' _)⟩
end Go.Proofs.Ytjmojhflnjbgaaa

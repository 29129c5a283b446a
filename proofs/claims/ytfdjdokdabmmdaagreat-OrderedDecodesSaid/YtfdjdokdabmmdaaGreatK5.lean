/-
  ORDEREDDECODES, PART 5 OF 10. One sentence: the texts behind the law OrderedDecodes, put together.
  Conditions: each theorem's own, written out in it.
-/
import Derived.Test.YtfdjdokdabmmdaaGreatK4
set_option linter.unusedSimpArgs false
set_option linter.unusedVariables false
set_option linter.unusedSectionVars false
namespace Go.Proofs.YtfdjdokdabmmdaaGreat
def bin : Nat → Nat → Nat
 | _, 0 => 1
 | 0, _ + 1 => 0
 | n + 1, k + 1 => bin n k + bin n (k + 1)
theorem bin_zero (n : Nat) : bin n 0 = 1 := by cases n <;> rfl
theorem bin_gt : ∀ n k, n < k → bin n k = 0
 | 0, k + 1, _ => rfl
 | n + 1, k + 1, h => by rw [bin, bin_gt n k (by omega), bin_gt n (k + 1) (by omega)]
theorem bin_self : ∀ n, bin n n = 1
 | 0 => rfl
 | n + 1 => by rw [bin, bin_self n, bin_gt n (n + 1) (by omega)]
theorem bin_abs : ∀ n k, (k + 1) * bin (n + 1) (k + 1) = (n + 1) * bin n k
 | 0, 0 => rfl
 | 0, k + 1 => by rw [bin_gt (0 + 1) (k + 1 + 1) (by omega), bin_gt 0 (k + 1) (by omega), Nat.mul_zero, Nat.mul_zero]
 | n + 1, 0 => by
  have ih := bin_abs n 0
  have e : bin (n + 1 + 1) (0 + 1) = bin (n + 1) 0 + bin (n + 1) (0 + 1) := rfl
  rw [e, bin_zero]
  rw [bin_zero] at ih
  omega
 | n + 1, k + 1 => by
  have h1 := bin_abs n k
  have h2 := bin_abs n (k + 1)
  rw [bin, Nat.mul_add, h2]
  have e : bin (n + 1) (k + 1) = bin n k + bin n (k + 1) := rfl
  have h3 : (k + 1 + 1) * bin (n + 1) (k + 1) = (n + 1) * bin n k + bin (n + 1) (k + 1) := by rw [Nat.add_mul (k + 1) 1, h1, Nat.one_mul]
  rw [h3, e, Nat.add_mul (n + 1) 1, Nat.one_mul, Nat.mul_add]
  omega
theorem bin_sym : ∀ s a b, a + b = s → bin s a = bin s b
 | 0, a, b, h => by
  have e1 : a = 0 := by omega
  have e2 : b = 0 := by omega
  rw [e1, e2]
 | s + 1, 0, b, h => by
  have e : b = s + 1 := by omega
  rw [e, bin_self, bin_zero]
 | s + 1, a + 1, 0, h => by
  have e : a + 1 = s + 1 := by omega
  rw [e, bin_self, bin_zero]
 | s + 1, a + 1, b + 1, h => by
  rw [bin, bin, bin_sym s a (b + 1) (by omega), bin_sym s (a + 1) b (by omega), Nat.add_comm]
def sbin (x n : Nat) : Nat → Nat
 | 0 => 0
 | j + 1 => sbin x n j + bin n j * x ^ j
theorem sbin_step (x n : Nat) : ∀ j, sbin x (n + 1) (j + 1) = sbin x n (j + 1) + x * sbin x n j
 | 0 => by simp [sbin, bin_zero]
 | j + 1 => by
  have ih := sbin_step x n j
  have e1 : sbin x (n + 1) (j + 1 + 1) = sbin x (n + 1) (j + 1) + bin (n + 1) (j + 1) * x ^ (j + 1) := rfl
  have e2 : sbin x n (j + 1 + 1) = sbin x n (j + 1) + bin n (j + 1) * x ^ (j + 1) := rfl
  have e3 : sbin x n (j + 1) = sbin x n j + bin n j * x ^ j := rfl
  have e4 : x * sbin x n (j + 1) = x * sbin x n j + bin n j * x ^ (j + 1) := by
   rw [e3, Nat.mul_add, Nat.pow_succ, Nat.mul_left_comm, Nat.mul_comm x (x ^ j)]
  have e5 : bin (n + 1) (j + 1) * x ^ (j + 1) = bin n j * x ^ (j + 1) + bin n (j + 1) * x ^ (j + 1) := by rw [bin, Nat.add_mul]
  omega
theorem sbin_le (x : Nat) : ∀ n j, sbin x n j ≤ (x + 1) ^ n
 | 0, j => by
  have : ∀ j, sbin x 0 (j + 1) = 1 := fun j => by
   induction j with
   | zero => simp [sbin, bin_zero]
   | succ j ih => rw [sbin, ih, bin_gt 0 (j + 1) (by omega), Nat.zero_mul]
  match j with
  | 0 => exact Nat.zero_le _
  | j + 1 => rw [this, Nat.pow_zero]; exact Nat.le_refl _
 | n + 1, 0 => Nat.zero_le _
 | n + 1, j + 1 => by
  have h1 := sbin_le x n (j + 1)
  have h2 := Nat.mul_le_mul_left x (sbin_le x n j)
  rw [sbin_step, Nat.pow_succ, Nat.mul_add, Nat.mul_one, Nat.mul_comm ((x + 1) ^ n) x]
  omega
theorem bin_le (n k : Nat) : bin n k ≤ 2 ^ n := by
 have h : sbin 1 n (k + 1) ≤ 2 ^ n := sbin_le 1 n (k + 1)
 have e : sbin 1 n (k + 1) = sbin 1 n k + bin n k * 1 ^ k := rfl
 rw [Nat.one_pow, Nat.mul_one] at e
 omega
end Go.Proofs.YtfdjdokdabmmdaaGreat

namespace Go.Proofs.YtfdjdokdabmmdaaGreat
open Go.RowKit
def lexLt (a b : List Int) : Prop := ∃ k, (∀ j, j < k → a.getD j 0 = b.getD j 0) ∧ a.getD k 0 < b.getD k 0
theorem lexLt.asym {a b : List Int} (h : lexLt a b) : ¬ lexLt b a := by
 rintro ⟨k', h1', h2'⟩
 obtain ⟨k, h1, h2⟩ := h
 rcases Nat.lt_trichotomy k k' with e | e | e
 ·have := h1' k e; omega
 ·subst e; omega
 ·have := h1 k' e; omega
theorem lexLt.ne {a b : List Int} (h : lexLt a b) : a ≠ b := fun e => by
 subst e; exact h.asym h
theorem lex_total {a b : List Int} (hl : a.length = b.length) (hne : a ≠ b) : lexLt a b ∨ lexLt b a := by
 have : ∃ k, a.getD k 0 ≠ b.getD k 0 := Classical.byContradiction fun hno => hne (ext_getD hl fun j => Classical.byContradiction fun h => hno ⟨j, h⟩)
 obtain ⟨k, hk, hmin⟩ := nat_least this
 have hj : ∀ j, j < k → a.getD j 0 = b.getD j 0 := fun j hj => Classical.byContradiction fun h => hmin j hj h
 rcases Int.lt_or_gt_of_ne hk with h | h
 ·exact .inl ⟨k, hj, h⟩
 ·exact .inr ⟨k, fun j hj' => (hj j hj').symm, h⟩
def bet (cost : List Int → Int) (x y : List Int) : Prop := cost x < cost y ∨ (cost x = cost y ∧ lexLt x y)
def Bst (cost : List Int → Int) (S : List Int → Prop) (b : List Int) : Prop := S b ∧ ∀ y, S y → ¬ bet cost y b
theorem Bst.uniq {cost : List Int → Int} {S : List Int → Prop} {n : Nat} (hn : ∀ x, S x → x.length = n) {a b : List Int} (ha : Bst cost S a) (hb : Bst cost S b) : a = b := Classical.byContradiction fun hne => by
 have h1 := ha.2 b hb.1
 have h2 := hb.2 a ha.1
 unfold bet at h1 h2
 have e : cost a = cost b := by omega
 rcases lex_total (by rw [hn a ha.1, hn b hb.1]) hne with h | h
 ·exact h2 (.inr ⟨e, h⟩)
 ·exact h1 (.inr ⟨e.symm, h⟩)
theorem Bst.iff {cost : List Int → Int} {S T : List Int → Prop} {b : List Int} (h : Bst cost S b) (hi : ∀ x, S x ↔ T x) : Bst cost T b := ⟨(hi b).1 h.1, fun y hy => h.2 y ((hi y).2 hy)⟩
theorem Bst.le {cost : List Int → Int} {S : List Int → Prop} {b : List Int} (h : Bst cost S b) {y : List Int} (hy : S y) : cost b ≤ cost y := by
 have := h.2 y hy
 unfold bet at this
 omega
def StJ (cost : List Int → Int) (S : List Int → Prop) : Option (List Int) → Prop
 | none => ∀ y, ¬ S y
 | some b => Bst cost S b
theorem bet.trans {cost : List Int → Int} {x y z : List Int} (h : bet cost x y) (k : bet cost y z) : bet cost x z := by
 unfold bet at *
 rcases h with h | ⟨h, hl⟩
 ·rcases k with k | ⟨k, _⟩ <;> exact .inl (by omega)
 ·rcases k with k | ⟨k, kl⟩
  ·exact .inl (by omega)
  ·refine .inr ⟨by omega, ?_⟩
   obtain ⟨a, a1, a2⟩ := hl
   obtain ⟨b, b1, b2⟩ := kl
   rcases Nat.lt_trichotomy a b with e | e | e
   ·exact ⟨a, fun j hj => (a1 j hj).trans (b1 j (by omega)), by rw [← b1 a e]; exact a2⟩
   ·subst e; exact ⟨a, fun j hj => (a1 j hj).trans (b1 j hj), by omega⟩
   ·exact ⟨b, fun j hj => (a1 j (by omega)).trans (b1 j hj), by rw [a1 b e]; exact b2⟩
theorem StJ.take {cost : List Int → Int} {S : List Int → Prop} {st : Option (List Int)} (h : StJ cost S st) {x : List Int} (hx : ∀ b, st = some b → bet cost x b) : StJ cost (fun y => S y ∨ y = x) (some x) := by
 refine ⟨.inr rfl, fun y hy hb => ?_⟩
 rcases hy with hy | rfl
 ·match st, h, hx with
  | none, h, _ => exact h y hy
  | some b, h, hx => exact h.2 y hy (hb.trans (hx b rfl))
 ·unfold bet at hb
  rcases hb with hb | ⟨_, hb⟩
  ·omega
  ·exact hb.ne rfl
theorem StJ.pass {cost : List Int → Int} {S : List Int → Prop} {b x : List Int} (h : StJ cost S (some b)) (hx : ¬ bet cost x b) : StJ cost (fun y => S y ∨ y = x) (some b) :=
 ⟨.inl h.1, fun y hy => by
  rcases hy with hy | rfl
  ·exact h.2 y hy
  ·exact hx⟩
theorem StJ.iff {cost : List Int → Int} {S T : List Int → Prop} {st : Option (List Int)} (h : StJ cost S st) (hi : ∀ x, S x ↔ T x) : StJ cost T st := by
 match st, h with
 | none, h => exact fun y hy => h y ((hi y).2 hy)
 | some b, h => exact Bst.iff h hi
section
variable {K : Type} [Fd K]
open Vc
inductive Rch (R : List (Vc K)) : Nat → Nat → Vc K → Vc K → Prop
 | stop (i more : Nat) (w : Vc K) : Rch R i more w w
 | skip {i more : Nat} {w x : Vc K} : i < R.length → Rch R (i + 1) more w x → Rch R i more w x
 | go {i more : Nat} {w x : Vc K} (a : K) : i < R.length → a ≠ 0 → Rch R (i + 1) more (w + sc a (R.getD i 0)) x → Rch R i (more + 1) w x
theorem Rch.late {R : List (Vc K)} {more : Nat} {w x : Vc K} : ∀ {i j : Nat}, i ≤ j → j ≤ R.length → Rch R j more w x → Rch R i more w x := by
 intro i j hij hj h
 obtain ⟨d, rfl⟩ := Nat.le.dest hij
 clear hij
 induction d with
 | zero => exact h
 | succ d ih => exact ih (by omega) (.skip (by omega) h)
theorem rch_iff {R : List (Vc K)} {i more : Nat} {w x : Vc K} : Rch R i more w x ↔ x = w ∨ ∃ t a, 1 ≤ more ∧ i ≤ t ∧ t < R.length ∧ a ≠ 0 ∧ Rch R (t + 1) (more - 1) (w + sc a (R.getD t 0)) x := by
 constructor
 ·intro h
  induction h with
  | stop => exact .inl rfl
  | skip hi _ ih =>
   rcases ih with e | ⟨t, a, h1, h2, h3, h4, h5⟩
   ·exact .inl e
   ·exact .inr ⟨t, a, h1, by omega, h3, h4, h5⟩
  | @go i more w x a hi ha h _ => exact .inr ⟨i, a, by omega, Nat.le_refl _, hi, ha, h⟩
 ·rintro (rfl | ⟨t, a, h1, h2, h3, h4, h5⟩)
  ·exact .stop ..
  ·obtain ⟨m, rfl⟩ : ∃ m, more = m + 1 := ⟨more - 1, by omega⟩
   exact .late h2 (by omega) (.go a h3 h4 h5)
def lcF (R : List (Vc K)) (c : Nat → K) : Nat → Nat → Vc K
 | _, 0 => 0
 | i, d + 1 => sc (c i) (R.getD i 0) + lcF R c (i + 1) d
open Classical in
noncomputable def cntG (c : Nat → K) : Nat → Nat → Nat
 | _, 0 => 0
 | i, d + 1 => (if c i = 0 then 0 else 1) + cntG c (i + 1) d
theorem rch_of {R : List (Vc K)} (c : Nat → K) : ∀ (d i more : Nat) (w : Vc K), i + d = R.length → cntG c i d ≤ more → Rch R i more w (w + lcF R c i d)
 | 0, i, more, w, _, _ => by rw [lcF, Vc.add_zero]; exact .stop ..
 | d + 1, i, more, w, hd, hc => by
  rw [cntG] at hc
  rw [lcF]
  by_cases h : c i = 0
  ·rw [if_pos h] at hc
   rw [h, Vc.zero_sc, Vc.zero_add]
   exact .skip (by omega) (rch_of c d (i + 1) more w (by omega) (by omega))
  ·rw [if_neg h] at hc
   obtain ⟨m, rfl⟩ : ∃ m, more = m + 1 := ⟨more - 1, by omega⟩
   rw [← Vc.add_assoc]
   exact .go (c i) (by omega) h (rch_of c d (i + 1) m _ (by omega) (by omega))
theorem lcF_congr {R : List (Vc K)} {c c' : Nat → K} : ∀ (d i : Nat), (∀ t, i ≤ t → c t = c' t) → lcF R c i d = lcF R c' i d ∧ cntG c i d = cntG c' i d
 | 0, _, _ => ⟨rfl, rfl⟩
 | d + 1, i, h => by
  have ih := lcF_congr (R := R) d (i + 1) fun t ht => h t (by omega)
  rw [lcF, lcF, cntG, cntG, h i (Nat.le_refl _), ih.1, ih.2]; exact ⟨rfl, rfl⟩
theorem of_rch {R : List (Vc K)} {i more : Nat} {w x : Vc K} (h : Rch R i more w x) (hi : i ≤ R.length) : ∃ c, x = w + lcF R c i (R.length - i) ∧ cntG c i (R.length - i) ≤ more := by
 induction h with
 | stop i more w =>
  have : ∀ d i, lcF R (fun _ => (0 : K)) i d = 0 ∧ cntG (fun _ => (0 : K)) i d = 0 := fun d => by
   induction d with
   | zero => exact fun i => ⟨rfl, rfl⟩
   | succ d ih =>
    intro i
    rw [lcF, cntG, (ih (i + 1)).1, (ih (i + 1)).2, Vc.zero_sc, Vc.zero_add, if_pos rfl]; exact ⟨rfl, rfl⟩
  exact ⟨fun _ => 0, by rw [(this _ i).1, Vc.add_zero], by rw [(this _ i).2]; omega⟩
 | @skip i more w x hi' _ ih =>
  obtain ⟨c, h1, h2⟩ := ih (by omega)
  have hc := lcF_congr (R := R) (c := fun t => if t = i then 0 else c t) (c' := c) (R.length - (i + 1)) (i + 1) fun t ht => if_neg (by omega)
  refine ⟨fun t => if t = i then 0 else c t, ?_, ?_⟩
  ·rw [show R.length - i = R.length - (i + 1) + 1 by omega, lcF, if_pos rfl, Vc.zero_sc, Vc.zero_add, hc.1]; exact h1
  ·rw [show R.length - i = R.length - (i + 1) + 1 by omega, cntG, if_pos rfl, if_pos rfl, hc.2]; omega
 | @go i more w x a hi' ha _ ih =>
  obtain ⟨c, h1, h2⟩ := ih (by omega)
  have hc := lcF_congr (R := R) (c := fun t => if t = i then a else c t) (c' := c) (R.length - (i + 1)) (i + 1) fun t ht => if_neg (by omega)
  refine ⟨fun t => if t = i then a else c t, ?_, ?_⟩
  ·rw [show R.length - i = R.length - (i + 1) + 1 by omega, lcF, if_pos rfl, hc.1, ← Vc.add_assoc]; exact h1
  ·rw [show R.length - i = R.length - (i + 1) + 1 by omega, cntG, if_pos rfl, if_neg ha, hc.2]; omega
theorem lcF_at (R : List (Vc K)) (c : Nat → K) (j : Nat) : ∀ d i, lcF R c i d j = Rg.sm d (fun t => c (i + t) * R.getD (i + t) 0 j)
 | 0, _ => rfl
 | d + 1, i => by
  rw [lcF, Vc.add_at, lcF_at R c j d (i + 1), Rg.sm_left]
  congr 1
  exact Rg.sm_congr fun t _ => by rw [show i + 1 + t = i + (t + 1) by omega]
theorem lcF_cmb (R : List (Vc K)) (c : Nat → K) : lcF R c 0 R.length = cmb c R := Vc.ext fun j => by
 rw [lcF_at, cmb_at _ 0]
 exact Rg.sm_congr fun t _ => by rw [Nat.zero_add]
end
def digM (q : Int) : Nat → Int → List Int
 | 0, _ => []
 | k + 1, i => i / q ^ k % q :: digM q k i
theorem digM_length (q i : Int) : ∀ k, (digM q k i).length = k
 | 0 => rfl
 | k + 1 => by rw [digM, List.length_cons, digM_length q i k]
theorem digM_in {q : Int} (hq : 1 ≤ q) (i : Int) : ∀ k, AllIn q (digM q k i)
 | 0 => fun c hc => by simp [digM] at hc
 | k + 1 => fun c hc => by
  rw [digM] at hc
  rcases List.mem_cons.1 hc with rfl | hc
  ·exact ⟨Int.emod_nonneg _ (by omega), Int.emod_lt_of_pos _ (by omega)⟩
  ·exact digM_in hq i k c hc
theorem dig_low {q : Int} (hq : 1 ≤ q) (i : Int) {t n : Nat} (h : t < n) : (i % q ^ n) / q ^ t % q = i / q ^ t % q := by
 obtain ⟨d, rfl⟩ := Nat.le.dest (show t + 1 ≤ n from h)
 have hp : 0 < q ^ t := Int.pow_pos (by omega)
 have e : q ^ (t + 1 + d) = q ^ t * (q * q ^ d) := by rw [Int.pow_add, Int.pow_succ, Int.mul_assoc]
 have h1 := Int.emod_add_mul_ediv i (q ^ (t + 1 + d))
 have h2 : i / q ^ t = (i % q ^ (t + 1 + d)) / q ^ t + q * (q ^ d * (i / q ^ (t + 1 + d))) := by
  rw [show (i / q ^ t) = (i % q ^ (t + 1 + d) + q ^ t * (q * (q ^ d * (i / q ^ (t + 1 + d))))) / q ^ t by
   congr 1
   calc i = i % q ^ (t + 1 + d) + q ^ (t + 1 + d) * (i / q ^ (t + 1 + d)) := h1.symm
    _ = _ := by rw [show q ^ (t + 1 + d) * (i / q ^ (t + 1 + d)) = q ^ t * (q * (q ^ d * (i / q ^ (t + 1 + d)))) by
     rw [← Int.mul_assoc, ← Int.mul_assoc, Int.mul_assoc (q ^ t), ← e]]]
  rw [Int.add_mul_ediv_left _ _ (by omega)]
 rw [h2, Int.add_mul_emod_self_left]
theorem digM_low {q : Int} (hq : 1 ≤ q) (i : Int) (n : Nat) : ∀ k, k ≤ n → digM q k (i % q ^ n) = digM q k i
 | 0, _ => rfl
 | k + 1, h => by rw [digM, digM, digM_low hq i n k (by omega), dig_low hq i (by omega)]
theorem lexLt.cons {x : Int} {a b : List Int} (h : lexLt a b) : lexLt (x :: a) (x :: b) := by
 obtain ⟨k, h1, h2⟩ := h
 refine ⟨k + 1, fun j hj => ?_, by simpa using h2⟩
 match j with
 | 0 => rfl
 | j + 1 => simpa using h1 j (by omega)
theorem digM_lex {q : Int} (hq : 2 ≤ q) : ∀ (k : Nat) (i j : Int), 0 ≤ i → i < j → j < q ^ k → lexLt (digM q k i) (digM q k j)
 | 0, i, j, h0, h1, h2 => by rw [Int.pow_zero] at h2; omega
 | k + 1, i, j, h0, h1, h2 => by
  have hp : 0 < q ^ k := Int.pow_pos (by omega)
  rw [Int.pow_succ] at h2
  have a1 : i / q ^ k < q := Int.ediv_lt_of_lt_mul hp (by rw [Int.mul_comm]; omega)
  have b1 : j / q ^ k < q := Int.ediv_lt_of_lt_mul hp (by rw [Int.mul_comm]; omega)
  have a0 : 0 ≤ i / q ^ k := Int.ediv_nonneg h0 (by omega)
  have b0 : 0 ≤ j / q ^ k := Int.ediv_nonneg (by omega) (by omega)
  have hab : i / q ^ k ≤ j / q ^ k := Int.ediv_le_ediv hp (by omega)
  rw [digM, digM, Int.emod_eq_of_lt a0 a1, Int.emod_eq_of_lt b0 b1]
  by_cases e : i / q ^ k = j / q ^ k
  ·rw [e]
   refine lexLt.cons ?_
   rw [← digM_low (by omega) i k k (Nat.le_refl _), ← digM_low (by omega) j k k (Nat.le_refl _)]
   have hi := Int.emod_add_mul_ediv i (q ^ k)
   have hj := Int.emod_add_mul_ediv j (q ^ k)
   rw [e] at hi
   exact digM_lex hq k _ _ (Int.emod_nonneg _ (by omega)) (by omega) (Int.emod_lt_of_pos _ hp)
  ·exact ⟨0, fun j hj => by omega, by show i / q ^ k < j / q ^ k; omega⟩
theorem digM_surj {q : Int} (hq : 2 ≤ q) : ∀ l : List Int, AllIn q l → ∃ i, 0 ≤ i ∧ i < q ^ l.length ∧ digM q l.length i = l
 | [], _ => ⟨0, by omega, by simp, rfl⟩
 | x :: l, h => by
  obtain ⟨i, h0, h1, h2⟩ := digM_surj hq l fun c hc => h c (List.mem_cons_of_mem _ hc)
  have hx := h x (List.mem_cons_self ..)
  have hp : 0 < q ^ l.length := Int.pow_pos (by omega)
  have e1 : (i + q ^ l.length * x) / q ^ l.length = x := by rw [Int.add_mul_ediv_left _ _ (by omega), Int.ediv_eq_zero_of_lt h0 h1, Int.zero_add]
  have e2 : (i + q ^ l.length * x) % q ^ l.length = i := by rw [Int.add_mul_emod_self_left, Int.emod_eq_of_lt h0 h1]
  refine ⟨i + q ^ l.length * x, ?_, ?_, ?_⟩
  ·have := Int.mul_nonneg (Int.le_of_lt hp) hx.1; omega
  ·have h3 : q ^ l.length * (x + 1) ≤ q ^ l.length * q := Int.mul_le_mul_of_nonneg_left (by omega) (by omega)
   rw [List.length_cons, Int.pow_succ]
   rw [Int.mul_add, Int.mul_one] at h3
   omega
  ·rw [List.length_cons, digM, e1, Int.emod_eq_of_lt hx.1 hx.2, ← digM_low (by omega) _ l.length l.length (Nat.le_refl _), e2, h2]
section
variable {p m : Int} {mod : List Int} [hF : IsF p m mod]
open Vc
theorem word_lex {n : Nat} {R : List (Vc (El p m mod))} {ps : List Nat} (hR : Rr n R ps) {a b x y : List Int} (ha : AllIn (pw p m) a) (hb : AllIn (pw p m) b) (hal : a.length = R.length) (hbl : b.length = R.length)
  (hx : AllIn (pw p m) x) (hy : AllIn (pw p m) y) (hxe : (rw' x : Vc (El p m mod)) = cmb (fun i => el (a.getD i 0)) R) (hye : (rw' y : Vc (El p m mod)) = cmb (fun i => el (b.getD i 0)) R) (h : lexLt a b) : lexLt x y := by
 obtain ⟨k, h1, h2⟩ := h
 have hq := hF.q2
 have hk : k < R.length := Nat.lt_of_not_le fun hle => by
  rw [getD_out (by omega), getD_out (by omega)] at h2; omega
 have hkp : k < ps.length := by rw [hR.len]; exact hk
 have vx : ∀ j, x.getD j 0 = (cmb (fun i => el (a.getD i 0)) R j : El p m mod).1 := fun j => by
  rw [← hxe, rw_at, el_in (hx.get (by omega) j)]
 have vy : ∀ j, y.getD j 0 = (cmb (fun i => el (b.getD i 0)) R j : El p m mod).1 := fun j => by
  rw [← hye, rw_at, el_in (hy.get (by omega) j)]
 refine ⟨ps.getD k 0, fun j hj => ?_, ?_⟩
 ·rw [vx, vy, cmb_at _ 0, cmb_at _ 0]
  refine congrArg (fun z : El p m mod => z.1) (Rg.sm_congr fun t ht => ?_)
  rcases Nat.lt_or_ge t k with e | e
  ·rw [h1 t e]
  ·have htp : t < ps.length := by rw [hR.len]; exact ht
   have : ps.getD k 0 ≤ ps.getD t 0 := by
    by_cases e2 : t = k
    ·rw [e2]; exact Nat.le_refl _
    ·exact Nat.le_of_lt (hR.rise k t (by omega) htp)
   rw [hR.low t j htp (by omega), Rg.mul_zero, Rg.mul_zero]
 ·rw [vx, vy, hR.at_piv _ hkp, hR.at_piv _ hkp, el_in (ha.get (by omega) k), el_in (hb.get (by omega) k)]
  exact h2
end
end Go.Proofs.YtfdjdokdabmmdaaGreat

namespace Go.Proofs.YtfdjdokdabmmdaaGreat
open Go.ChangeShapes Go.WideShapes Go.ChangeAt Go.RowKit
theorem get_ISSw {H : Type} {enc : TypeId × Value → H} {P : Program} {w : World} {b : Nat} {t e f : TypeId} {v : Value} {d : DataW H} {p : List MemPlace} (ht : P.underlying t = some (.slice e)) (he : P.underlying e = some (.slice f)) (hf : P.underlying f = some (.int .i64)) (hc : P.cellsOf e = 1) (hcf : P.cellsOf f = 1) (hb : P.bytesOf e = 24) (hbf : P.bytesOf f = 8) (hw : Light P t d) (hv : Value.okWide P w .any b t v) (h : DataW.Trod enc P w 0 (fun _ => true) true t v d p) :
  ∃ (A : Option Addr) (c : Nat) (rs : List RowM), v = .slice A rs.length c ∧ (ro A (hdrs rs)).sat w ∧ (rowsR rs).sat w ∧ rs.length ≤ 17592186044415 ∧ (∀ r ∈ rs, r.xs.length ≤ 17592186044415) ∧ ∀ r ∈ rs, r.xs.length ≤ r.cap := by
 obtain ⟨a0, l0, c0, rfl⟩ := okWide_slice ht hv
 obtain ⟨fuel, hf'⟩ := h
 obtain ⟨A, c, rs, h1, h2⟩ := open_ISSw ht he hf hc hcf hb hbf hw hf'
 simp [Value.cells] at h1
 exact ⟨A, c, rs, by rw [h1.1, h1.2.1, h1.2.2], h2⟩
end Go.Proofs.YtfdjdokdabmmdaaGreat

set_option maxRecDepth 100000
namespace Go.Proofs.YtfdjdokdabmmdaaGreat
open Go.RowKit
def RowOk (q : Int) (r : List Int) : Prop := (r.length : Int) = q ∧ ∀ x ∈ r, 0 ≤ x ∧ x ≤ 2147483648
theorem ordR_ok {q : Int} : ∀ {tb : List (List Int)}, (∀ r ∈ tb, RowOk q r) → ordR q tb = 0
 | [], _ => rfl
 | r :: tb, h => by
  have h1 := h r (List.mem_cons_self ..)
  rw [ordR, if_neg (fun k => k h1.1), if_neg (fun ⟨x, hx, hb⟩ => by have := h1.2 x hx; omega)]
  exact ordR_ok fun s hs => h s (List.mem_cons_of_mem _ hs)
theorem ordR_bad {q : Int} : ∀ {tb : List (List Int)} {k : Nat}, k < tb.length → (∀ j, j < k → RowOk q (tb.getD j [])) → ¬ RowOk q (tb.getD k []) → ordR q tb = if ((tb.getD k []).length : Int) ≠ q then 3 else 6
 | r :: tb, 0, _, _, h => by
  rw [List.getD_cons_zero] at h ⊢
  rw [ordR]
  by_cases h1 : (r.length : Int) = q
  ·have hn : ¬ ((r.length : Int) ≠ q) := fun k => k h1
   rw [if_neg hn, if_neg hn, if_pos]
   refine Classical.byContradiction fun hno => h ⟨h1, fun x hx => ?_⟩
   have : ¬ (x < 0 ∨ x > 2147483648) := fun hb => hno ⟨x, hx, hb⟩
   omega
  ·rw [if_pos h1, if_pos h1]
 | r :: tb, k + 1, hk, hall, h => by
  have h1 := hall 0 (by omega)
  rw [List.getD_cons_zero] at h1
  rw [List.getD_cons_succ] at h ⊢
  rw [ordR, if_neg (fun k => k h1.1), if_neg (fun ⟨x, hx, hb⟩ => by have := h1.2 x hx; omega)]
  exact ordR_bad (by simpa using hk) (fun j hj => by
   have := hall (j + 1) (by omega)
   rwa [List.getD_cons_succ] at this) h
def ordC (q w : Int) (tb : List (List Int)) : Int := if (tb.length : Int) ≠ w then 3 else ordR q tb
theorem ordC_len {q w : Int} {tb : List (List Int)} (h : (tb.length : Int) ≠ w) : ordC q w tb = 3 := if_pos h
theorem ordC_ok {q w : Int} {ts : List RowM} (h : (ts.length : Int) = w) (h1 : ∀ j : Nat, j < ts.length → RowOk q (ts.getD j rowD).xs) : ordC q w (xss ts) = 0 := by
 unfold ordC
 rw [xss_length, if_neg (fun k => k h)]
 exact ordR_ok (xss_get fun j hj => h1 j hj)
theorem ordC_bad {q w : Int} {ts : List RowM} (h : (ts.length : Int) = w) {k : Nat} (hk : k < ts.length) (hall : ∀ j : Nat, j < k → RowOk q (ts.getD j rowD).xs) (hb : ¬ RowOk q (ts.getD k rowD).xs) : ordC q w (xss ts) = if ((ts.getD k rowD).xs.length : Int) ≠ q then 3 else 6 := by
 unfold ordC
 rw [xss_length, if_neg (fun k => k h), ordR_bad (k := k) (by rw [xss_length]; exact hk) (fun j hj => by rw [xss_getD]; exact hall j hj) (by rw [xss_getD]; exact hb), xss_getD]
structure TabOk (q w : Int) (ts : List RowM) : Prop where
 len : (ts.length : Int) = w
 row : ∀ r ∈ ts, RowOk q r.xs
theorem ordC_zero {q w : Int} {ts : List RowM} (h : ordC q w (xss ts) = 0) : TabOk q w ts := by
 unfold ordC at h
 split at h
 ·cases h
 ·rename_i h1
  have h2 := ordR_zero h
  exact ⟨by rw [xss_length] at h1; omega, xss_all.1 fun r hr => h2 r hr⟩
theorem TabOk.zero {q w : Int} {ts : List RowM} (h : TabOk q w ts) : ordC q w (xss ts) = 0 := ordC_ok h.len fun j hj => h.row _ (getD_mem hj _)
theorem TabOk.get {q w : Int} {ts : List RowM} (h : TabOk q w ts) {j : Nat} (hj : j < ts.length) : RowOk q (ts.getD j rowD).xs := h.row _ (getD_mem hj _)
theorem RowOk.at {q : Int} {r : List Int} (h : RowOk q r) (j : Nat) : 0 ≤ r.getD j 0 ∧ r.getD j 0 ≤ 2147483648 := by
 by_cases hj : j < r.length
 ·exact h.2 _ (getD_mem hj _)
 ·rw [getD_out (by omega)]; omega
theorem ord_checkedE_ent : Enters Tryz.prog 30 := enters_of Tryz.func30 (by kernel_rfl) (by kernel_rfl)
theorem ord_checkedE (p m : Int) (A : Option Addr) (c : Nat) (mod : List Int) (hl9 : mod.length ≤ 17592186044415) (w : Int) (Aa : Option Addr) (n ca : Nat) (rs : List RowM) (hn : n = rs.length) (h9 : rs.length ≤ 17592186044415) (h8 : ∀ r ∈ rs, r.xs.length ≤ 17592186044415) (he : codC p m mod w rs ≠ 0) (T : Option Addr) (nt ct : Nat) (ts : List RowM) (hnt : nt = ts.length) (t9 : ts.length ≤ 17592186044415) (t8 : ∀ r ∈ ts, r.xs.length ≤ 17592186044415) :
  Pure Tryz.prog 30 #[.agg #[.int .i64 p, .int .i64 m, .slice A mod.length c, .int .i64 w, .slice Aa n ca], .slice T nt ct] [ro A (ints mod), ro Aa (hdrs rs), rowsR rs, ro T (hdrs ts), rowsR ts] (isV (.tuple #[.pointer none, .int .i64 (codC p m mod w rs)])) := by
 refine pure_of (args := [.agg #[.int .i64 p, .int .i64 m, .slice A mod.length c, .int .i64 w, .slice Aa n ca], .slice T nt ct]) 55 Tryz.func30 rfl rfl rfl ord_checkedE_ent ⟨id, id, id, id, id, trivial⟩ (fun w0 => ?_)
 refine tS ?_
 refine tR fun _ _ _ => ?_
 refine eV (eBox rfl rfl rfl rfl rfl (fun p0 => ?_))
 iterate 2 refine pV ?_
 refine tS ?_
 refine tS ?_
 refine tR fun _ _ _ => ?_
 refine sV (rLdS rfl rfl rfl) ?_
 refine eV (eCallV rfl rfl rfl (code_Check p m A c mod hl9 w Aa n ca rs hn h9 h8) ⟨rfl, trivial⟩ ?_)
 refine pV ?_
 refine tS ?_
 refine tR fun _ _ _ => ?_
 iterate 2 refine pV ?_
 refine tC rfl (fun h2 => ?_) (fun h2 => ?_)
 ·try simp only [zbA] at h2
  refine tS ?_
  refine tR fun _ _ _ => ?_
  iterate 3 refine pV ?_
  exact tr_ret ⟨trivial, _, _, rfl, ⟨rfl, rfl⟩, CSub.nil _, trivial⟩
 ·try simp only [zbA] at h2
  omega --done
theorem ord_checkedR_ent : Enters Tryz.prog 30 := enters_of Tryz.func30 (by kernel_rfl) (by kernel_rfl)
theorem ord_checkedR (p m : Int) (A : Option Addr) (c : Nat) (mod : List Int) [hF : IsF p m mod] (w : Int) (Aa : Option Addr) (n ca : Nat) (rs : List RowM) (hn : n = rs.length) (h9 : rs.length ≤ 256) (hc : CodeOk p m mod w rs) (T : Option Addr) (nt ct : Nat) (ts : List RowM) (hnt : nt = ts.length) (t9 : ts.length ≤ 17592186044415) (t8 : ∀ r ∈ ts, r.xs.length ≤ 17592186044415) (ho : ordC (pw p m) w (xss ts) ≠ 0) :
  Pure Tryz.prog 30 #[.agg #[.int .i64 p, .int .i64 m, .slice A mod.length c, .int .i64 w, .slice Aa n ca], .slice T nt ct] [ro A (ints mod), ro Aa (hdrs rs), rowsR rs, ro T (hdrs ts), rowsR ts] (isV (.tuple #[.pointer none, .int .i64 (ordC (pw p m) w (xss ts))])) := by
 have hl9 := hF.short
 have hn1 := hc.n1
 have hn64 := hc.n64
 have hlen := hc.len
 have hgd := hc.good
 have h8 := hgd.h8 (N := 17592186044415) (by omega)
 have hck := hc.zero
 have hq2 := hF.q2
 refine pure_of (args := [.agg #[.int .i64 p, .int .i64 m, .slice A mod.length c, .int .i64 w, .slice Aa n ca], .slice T nt ct]) 55 Tryz.func30 rfl rfl rfl ord_checkedR_ent ⟨id, id, id, id, id, trivial⟩ (fun w0 => ?_)
 refine tS ?_
 refine tR fun _ _ _ => ?_
 refine eV (eBox rfl rfl rfl rfl rfl (fun p0 => ?_))
 iterate 2 refine pV ?_
 refine tS ?_
 refine tS ?_
 refine tR fun _ _ _ => ?_
 refine sV (rLdS rfl rfl rfl) ?_
 refine eV (eCallV rfl rfl rfl (code_Check _ _ _ _ _ (by omega) w Aa _ ca rs hn (by omega) h8) ⟨rfl, trivial⟩ ?_)
 refine pV ?_
 refine tS ?_
 refine tR fun _ _ _ => ?_
 iterate 2 refine pV ?_
 refine tC rfl (fun h2 => ?_) (fun h2 => ?_)
 ·try simp only [zbA] at h2
  omega --done
 ·try simp only [zbA] at h2
  refine tK ?_
  refine tS ?_
  refine tR fun _ _ _ => ?_
  refine sV (rFld rfl rfl) ?_
  refine sV (rLdSF rfl rfl) ?_
  refine eV (eCall1 rfl rfl rfl (fld_New_ok _ _ _ _ _ (by omega) hF.out) ⟨rfl, trivial⟩ ?_)
  rintro _ _ ⟨g, rfl, rfl, hg⟩
  iterate 5 refine pV ?_
  refine tS ?_
  refine tS ?_
  refine tR fun _ _ _ => ?_
  refine pV ?_
  refine sV (rLen rfl rfl) ?_
  refine sV (rFld rfl rfl) ?_
  refine sV (rLdF rfl rfl rfl) ?_
  refine pV ?_
  refine tC rfl (fun h5 => ?_) (fun h5 => ?_)
  ·try simp only [zbA] at h5
   refine tS ?_
   refine tR fun _ _ _ => ?_
   iterate 2 refine pV ?_
   exact tr_ret ⟨trivial, _, _, rfl, ⟨by rw [ordC_len (by rw [xss_length]; omega)], rfl⟩, CSub.nil _, trivial⟩
  ·try simp only [zbA] at h5
   refine tK ?_
   refine tS ?_
   refine tS ?_
   have hgq := hg.eq
   refine tR fun _ _ _ => ?_
   refine pV ?_
   refine sV (rLen rfl rfl) ?_
   refine pV ?_
   refine tB ?_
   refine tr_loop1 (fun (k : Int) => [(31, .int .i64 k), (7, .pointer (some g.p)), (29, .slice T nt ct), (30, .int .i64 nt)]) (fun (k : Int) => [gfN g, blk p0 27 [.int .i64 p, .int .i64 m, .slice A mod.length c, .int .i64 w, .slice Aa n ca], ro A (ints mod), ro Aa (hdrs rs), rowsR rs, ro T (hdrs ts), rowsR ts]) (fun (k : Int) => (0 ≤ k ∧ k ≤ nt) ∧ ∀ j : Nat, (j : Int) < k → RowOk (pw p m) (ts.getD j rowD).xs) (fun (k : Int) => (nt - k).toNat) (0) ⟨rfl, rfl, rfl, rfl, trivial⟩ (by first | exact cs _ _ | exact CSub.refl _) (⟨⟨by omega, by omega⟩, fun j hj => by omega⟩) (fun k hI => ?_)
   obtain ⟨⟨hk0, hk1⟩, hall⟩ := hI
   refine tS ?_
   refine tR fun _ _ _ => ?_
   refine pV ?_
   refine tS ?_
   refine tC rfl (fun h8 => ?_) (fun h8 => ?_)
   ·try simp only [zbA] at h8
    refine tK ?_
    refine tS ?_
    refine tB ?_
    refine tS ?_
    haveI : InB (k : Int).toNat ts.length := ⟨by omega⟩
    have htk := t8 _ (getD_mem (show (k : Int).toNat < ts.length by omega) rowD)
    refine tR fun _ _ _ => ?_
    refine sV (rIdxR rfl rfl rfl (by omega) (by omega) (by omega)) ?_
    refine sV (rLdR rfl rfl (by omega)) ?_
    refine pV ?_
    refine tS ?_
    refine tS ?_
    refine tR fun _ _ _ => ?_
    refine pV ?_
    refine sV (rLen rfl rfl) ?_
    refine pV ?_
    refine eV (eCallV rfl rfl rfl (gf_Order _) ⟨rfl, trivial⟩ ?_)
    refine pV ?_
    refine tC rfl (fun h10 => ?_) (fun h10 => ?_)
    ·try simp only [zbA] at h10
     refine tS ?_
     refine tR fun _ _ _ => ?_
     iterate 2 refine pV ?_
     have hallN : ∀ j : Nat, j < k.toNat → RowOk (pw p m) (ts.getD j rowD).xs := fun j hj => hall j (by omega)
     have hbd := ordC_bad (w := w) (by omega) (show k.toNat < ts.length by omega) hallN (fun h => by have := h.1; omega)
     rw [if_pos (by omega)] at hbd
     exact tr_ret ⟨trivial, _, _, rfl, ⟨by rw [hbd], rfl⟩, CSub.nil _, trivial⟩
    ·try simp only [zbA] at h10
     refine tK ?_
     refine tS ?_
     refine tR fun _ _ _ => ?_
     refine pV ?_
     refine sV (rLen rfl rfl) ?_
     refine pV ?_
     refine tB ?_
     refine tr_loop1 (fun (j : Int) => [(42, .int .i64 j), (40, .slice (ts.getD k.toNat rowD).A (ts.getD k.toNat rowD).xs.length (ts.getD k.toNat rowD).cap), (41, .int .i64 (ts.getD k.toNat rowD).xs.length), (7, .pointer (some g.p)), (29, .slice T nt ct), (30, .int .i64 nt), (31, .int .i64 k), (37, .pointer (some g.p))]) (fun (j : Int) => [gfN g, blk p0 27 [.int .i64 p, .int .i64 m, .slice A mod.length c, .int .i64 w, .slice Aa n ca], ro A (ints mod), ro Aa (hdrs rs), rowsR rs, ro T (hdrs ts), rowsR ts]) (fun (j : Int) => (0 ≤ j ∧ j ≤ (ts.getD k.toNat rowD).xs.length) ∧ ∀ i : Nat, (i : Int) < j → 0 ≤ (ts.getD k.toNat rowD).xs.getD i 0 ∧ (ts.getD k.toNat rowD).xs.getD i 0 ≤ 2147483648) (fun (j : Int) => ((ts.getD k.toNat rowD).xs.length - j).toNat) (0) ⟨rfl, rfl, rfl, rfl, rfl, rfl, rfl, rfl, trivial⟩ (by first | exact cs _ _ | exact CSub.refl _) (⟨⟨by omega, by omega⟩, fun i hi => by omega⟩) (fun j hI => ?_)
     obtain ⟨⟨hj0, hj1⟩, hall2⟩ := hI
     refine tS ?_
     refine tR fun _ _ _ => ?_
     refine pV ?_
     refine tS ?_
     refine tC rfl (fun h13 => ?_) (fun h13 => ?_)
     ·try simp only [zbA] at h13
      refine tK ?_
      refine tS ?_
      refine tB ?_
      refine tS ?_
      refine tR fun _ _ _ => ?_
      refine sV (rIdxI rfl rfl rfl (by omega) (by omega) (by omega)) ?_
      refine sV (rLdI rfl rfl (by omega)) ?_
      refine pV ?_
      refine tS ?_
      refine tR fun _ _ _ => ?_
      iterate 3 refine pV ?_
      refine stg rfl rfl rfl rfl rfl (fun hb => by (have hq := hb; try simp only [zbA] at hq); exact rMove rfl rfl) ?_
      refine stg rfl rfl rfl rfl rfl (fun hb => by (have hq := hb; try simp only [zbA] at hq); exact rGtr rfl (evg rfl hb) rfl) ?_
      refine sV (rOrB rfl rfl rfl rfl) ?_
      refine tC rfl (fun h15 => ?_) (fun h15 => ?_)
      ·try simp only [zbA] at h15
       refine tS ?_
       refine tR fun _ _ _ => ?_
       iterate 2 refine pV ?_
       have hallN : ∀ j : Nat, j < k.toNat → RowOk (pw p m) (ts.getD j rowD).xs := fun j hj => hall j (by omega)
       have hbd := ordC_bad (w := w) (by omega) (show k.toNat < ts.length by omega) hallN (fun h => by have := h.at j.toNat; omega)
       rw [if_neg (by omega)] at hbd
       exact tr_ret ⟨trivial, _, _, rfl, ⟨by rw [hbd], rfl⟩, CSub.nil _, trivial⟩
      ·try simp only [zbA] at h15
       refine tK ?_
       refine tR fun _ _ _ => ?_
       refine sV (rAdd rfl rfl rfl (by omega) (by omega)) ?_
       refine pV ?_
       refine ⟨j + 1, ⟨rfl, rfl, rfl, rfl, rfl, rfl, rfl, rfl, trivial⟩, by first | exact cs _ _ | exact CSub.refl _, ?_⟩
       refine ⟨⟨⟨by omega, by omega⟩, fun i hi => ?_⟩, by omega⟩
       by_cases he : (i : Int) = j
       ·have : i = j.toNat := by omega
        subst this; omega
       ·exact hall2 i (by omega)
     ·try simp only [zbA] at h13
      refine tE ?_
      refine tR fun _ _ _ => ?_
      refine sV (rAdd rfl rfl rfl (by omega) (by omega)) ?_
      refine pV ?_
      refine ⟨k + 1, ⟨rfl, rfl, rfl, rfl, trivial⟩, by first | exact cs _ _ | exact CSub.refl _, ?_⟩
      refine ⟨⟨⟨by omega, by omega⟩, fun j hj => ?_⟩, by omega⟩
      by_cases he : (j : Int) = k
      ·have : j = k.toNat := by omega
       subst this
       exact ⟨by omega, fun x hx => by
        obtain ⟨i, hi, rfl⟩ := List.getElem_of_mem hx
        have := hall2 i (by omega)
        rwa [List.getD_eq_getElem?_getD, List.getElem?_eq_getElem hi] at this⟩
      ·exact hall j (by omega)
   ·try simp only [zbA] at h8
    refine tE ?_
    refine tS ?_
    refine tR fun _ _ _ => ?_
    iterate 3 refine pV ?_
    exact absurd (ordC_ok (by omega) fun j hj => hall j (by omega)) ho
theorem ord_checkedG_ent : Enters Tryz.prog 30 := enters_of Tryz.func30 (by kernel_rfl) (by kernel_rfl)
theorem ord_checkedG (p m : Int) (A : Option Addr) (c : Nat) (mod : List Int) [hF : IsF p m mod] (w : Int) (Aa : Option Addr) (n ca : Nat) (rs : List RowM) (hn : n = rs.length) (h9 : rs.length ≤ 256) (hc : CodeOk p m mod w rs) (T : Option Addr) (nt ct : Nat) (ts : List RowM) (hnt : nt = ts.length) (t9 : ts.length ≤ 17592186044415) (t8 : ∀ r ∈ ts, r.xs.length ≤ 17592186044415) (ho : ordC (pw p m) w (xss ts) = 0) :
  Pure Tryz.prog 30 #[.agg #[.int .i64 p, .int .i64 m, .slice A mod.length c, .int .i64 w, .slice Aa n ca], .slice T nt ct] [ro A (ints mod), ro Aa (hdrs rs), rowsR rs, ro T (hdrs ts), rowsR ts] (one (fun v ch => ∃ g : GfM, v = .tuple #[.pointer (some g.p), .int .i64 0] ∧ ch = gfN g ∧ GOk g p m mod)) := by
 have hl9 := hF.short
 have hn1 := hc.n1
 have hn64 := hc.n64
 have hlen := hc.len
 have hgd := hc.good
 have h8 := hgd.h8 (N := 17592186044415) (by omega)
 have hck := hc.zero
 have hq2 := hF.q2
 have htl := (ordC_zero ho).len
 refine pure_of (args := [.agg #[.int .i64 p, .int .i64 m, .slice A mod.length c, .int .i64 w, .slice Aa n ca], .slice T nt ct]) 55 Tryz.func30 rfl rfl rfl ord_checkedG_ent ⟨id, id, id, id, id, trivial⟩ (fun w0 => ?_)
 refine tS ?_
 refine tR fun _ _ _ => ?_
 refine eV (eBox rfl rfl rfl rfl rfl (fun p0 => ?_))
 iterate 2 refine pV ?_
 refine tS ?_
 refine tS ?_
 refine tR fun _ _ _ => ?_
 refine sV (rLdS rfl rfl rfl) ?_
 refine eV (eCallV rfl rfl rfl (code_Check _ _ _ _ _ (by omega) w Aa _ ca rs hn (by omega) h8) ⟨rfl, trivial⟩ ?_)
 refine pV ?_
 refine tS ?_
 refine tR fun _ _ _ => ?_
 iterate 2 refine pV ?_
 refine tC rfl (fun h2 => ?_) (fun h2 => ?_)
 ·try simp only [zbA] at h2
  omega --done
 ·try simp only [zbA] at h2
  refine tK ?_
  refine tS ?_
  refine tR fun _ _ _ => ?_
  refine sV (rFld rfl rfl) ?_
  refine sV (rLdSF rfl rfl) ?_
  refine eV (eCall1 rfl rfl rfl (fld_New_ok _ _ _ _ _ (by omega) hF.out) ⟨rfl, trivial⟩ ?_)
  rintro _ _ ⟨g, rfl, rfl, hg⟩
  iterate 5 refine pV ?_
  refine tS ?_
  refine tS ?_
  refine tR fun _ _ _ => ?_
  refine pV ?_
  refine sV (rLen rfl rfl) ?_
  refine sV (rFld rfl rfl) ?_
  refine sV (rLdF rfl rfl rfl) ?_
  refine pV ?_
  refine tC rfl (fun h5 => ?_) (fun h5 => ?_)
  ·try simp only [zbA] at h5
   omega --done
  ·try simp only [zbA] at h5
   refine tK ?_
   refine tS ?_
   refine tS ?_
   have hgq := hg.eq
   refine tR fun _ _ _ => ?_
   refine pV ?_
   refine sV (rLen rfl rfl) ?_
   refine pV ?_
   refine tB ?_
   refine tr_loop1 (fun (k : Int) => [(31, .int .i64 k), (7, .pointer (some g.p)), (29, .slice T nt ct), (30, .int .i64 nt)]) (fun (k : Int) => [gfN g, blk p0 27 [.int .i64 p, .int .i64 m, .slice A mod.length c, .int .i64 w, .slice Aa n ca], ro A (ints mod), ro Aa (hdrs rs), rowsR rs, ro T (hdrs ts), rowsR ts]) (fun (k : Int) => (0 ≤ k ∧ k ≤ nt) ∧ ∀ j : Nat, (j : Int) < k → RowOk (pw p m) (ts.getD j rowD).xs) (fun (k : Int) => (nt - k).toNat) (0) ⟨rfl, rfl, rfl, rfl, trivial⟩ (by first | exact cs _ _ | exact CSub.refl _) (⟨⟨by omega, by omega⟩, fun j hj => by omega⟩) (fun k hI => ?_)
   obtain ⟨⟨hk0, hk1⟩, hall⟩ := hI
   refine tS ?_
   refine tR fun _ _ _ => ?_
   refine pV ?_
   refine tS ?_
   refine tC rfl (fun h8 => ?_) (fun h8 => ?_)
   ·try simp only [zbA] at h8
    refine tK ?_
    refine tS ?_
    refine tB ?_
    refine tS ?_
    haveI : InB (k : Int).toNat ts.length := ⟨by omega⟩
    have htk := t8 _ (getD_mem (show (k : Int).toNat < ts.length by omega) rowD)
    refine tR fun _ _ _ => ?_
    refine sV (rIdxR rfl rfl rfl (by omega) (by omega) (by omega)) ?_
    refine sV (rLdR rfl rfl (by omega)) ?_
    refine pV ?_
    refine tS ?_
    refine tS ?_
    refine tR fun _ _ _ => ?_
    refine pV ?_
    refine sV (rLen rfl rfl) ?_
    refine pV ?_
    refine eV (eCallV rfl rfl rfl (gf_Order _) ⟨rfl, trivial⟩ ?_)
    refine pV ?_
    refine tC rfl (fun h10 => ?_) (fun h10 => ?_)
    ·try simp only [zbA] at h10
     have hallN : ∀ j : Nat, j < k.toNat → RowOk (pw p m) (ts.getD j rowD).xs := fun j hj => hall j (by omega)
     have hbd := ordC_bad (w := w) (by omega) (show k.toNat < ts.length by omega) hallN (fun h => by have := h.1; omega)
     rw [if_pos (by omega)] at hbd
     omega --done
    ·try simp only [zbA] at h10
     refine tK ?_
     refine tS ?_
     refine tR fun _ _ _ => ?_
     refine pV ?_
     refine sV (rLen rfl rfl) ?_
     refine pV ?_
     refine tB ?_
     refine tr_loop1 (fun (j : Int) => [(42, .int .i64 j), (40, .slice (ts.getD k.toNat rowD).A (ts.getD k.toNat rowD).xs.length (ts.getD k.toNat rowD).cap), (41, .int .i64 (ts.getD k.toNat rowD).xs.length), (7, .pointer (some g.p)), (29, .slice T nt ct), (30, .int .i64 nt), (31, .int .i64 k), (37, .pointer (some g.p))]) (fun (j : Int) => [gfN g, blk p0 27 [.int .i64 p, .int .i64 m, .slice A mod.length c, .int .i64 w, .slice Aa n ca], ro A (ints mod), ro Aa (hdrs rs), rowsR rs, ro T (hdrs ts), rowsR ts]) (fun (j : Int) => (0 ≤ j ∧ j ≤ (ts.getD k.toNat rowD).xs.length) ∧ ∀ i : Nat, (i : Int) < j → 0 ≤ (ts.getD k.toNat rowD).xs.getD i 0 ∧ (ts.getD k.toNat rowD).xs.getD i 0 ≤ 2147483648) (fun (j : Int) => ((ts.getD k.toNat rowD).xs.length - j).toNat) (0) ⟨rfl, rfl, rfl, rfl, rfl, rfl, rfl, rfl, trivial⟩ (by first | exact cs _ _ | exact CSub.refl _) (⟨⟨by omega, by omega⟩, fun i hi => by omega⟩) (fun j hI => ?_)
     obtain ⟨⟨hj0, hj1⟩, hall2⟩ := hI
     refine tS ?_
     refine tR fun _ _ _ => ?_
     refine pV ?_
     refine tS ?_
     refine tC rfl (fun h13 => ?_) (fun h13 => ?_)
     ·try simp only [zbA] at h13
      refine tK ?_
      refine tS ?_
      refine tB ?_
      refine tS ?_
      refine tR fun _ _ _ => ?_
      refine sV (rIdxI rfl rfl rfl (by omega) (by omega) (by omega)) ?_
      refine sV (rLdI rfl rfl (by omega)) ?_
      refine pV ?_
      refine tS ?_
      refine tR fun _ _ _ => ?_
      iterate 3 refine pV ?_
      refine stg rfl rfl rfl rfl rfl (fun hb => by (have hq := hb; try simp only [zbA] at hq); exact rMove rfl rfl) ?_
      refine stg rfl rfl rfl rfl rfl (fun hb => by (have hq := hb; try simp only [zbA] at hq); exact rGtr rfl (evg rfl hb) rfl) ?_
      refine sV (rOrB rfl rfl rfl rfl) ?_
      refine tC rfl (fun h15 => ?_) (fun h15 => ?_)
      ·try simp only [zbA] at h15
       have hallN : ∀ j : Nat, j < k.toNat → RowOk (pw p m) (ts.getD j rowD).xs := fun j hj => hall j (by omega)
       have hbd := ordC_bad (w := w) (by omega) (show k.toNat < ts.length by omega) hallN (fun h => by have := h.at j.toNat; omega)
       rw [if_neg (by omega)] at hbd
       omega --done
      ·try simp only [zbA] at h15
       refine tK ?_
       refine tR fun _ _ _ => ?_
       refine sV (rAdd rfl rfl rfl (by omega) (by omega)) ?_
       refine pV ?_
       refine ⟨j + 1, ⟨rfl, rfl, rfl, rfl, rfl, rfl, rfl, rfl, trivial⟩, by first | exact cs _ _ | exact CSub.refl _, ?_⟩
       refine ⟨⟨⟨by omega, by omega⟩, fun i hi => ?_⟩, by omega⟩
       by_cases he : (i : Int) = j
       ·have : i = j.toNat := by omega
        subst this; omega
       ·exact hall2 i (by omega)
     ·try simp only [zbA] at h13
      refine tE ?_
      refine tR fun _ _ _ => ?_
      refine sV (rAdd rfl rfl rfl (by omega) (by omega)) ?_
      refine pV ?_
      refine ⟨k + 1, ⟨rfl, rfl, rfl, rfl, trivial⟩, by first | exact cs _ _ | exact CSub.refl _, ?_⟩
      refine ⟨⟨⟨by omega, by omega⟩, fun j hj => ?_⟩, by omega⟩
      by_cases he : (j : Int) = k
      ·have : j = k.toNat := by omega
       subst this
       exact ⟨by omega, fun x hx => by
        obtain ⟨i, hi, rfl⟩ := List.getElem_of_mem hx
        have := hall2 i (by omega)
        rwa [List.getD_eq_getElem?_getD, List.getElem?_eq_getElem hi] at this⟩
      ·exact hall j (by omega)
   ·try simp only [zbA] at h8
    refine tE ?_
    refine tS ?_
    refine tR fun _ _ _ => ?_
    iterate 3 refine pV ?_
    exact tr_ret ⟨trivial, _, _, rfl, ⟨_, rfl, g, rfl, rfl, hg⟩, cs _ _, ⟨trivial, trivial, trivial, trivial⟩, trivial⟩
theorem ref_OCheckE_ent : Enters Tryz.prog 6 := enters_of Tryz.func6 (by kernel_rfl) (by kernel_rfl)
theorem ref_OCheckE (p m : Int) (A : Option Addr) (c : Nat) (mod : List Int) (hl9 : mod.length ≤ 17592186044415) (w : Int) (Aa : Option Addr) (n ca : Nat) (rs : List RowM) (hn : n = rs.length) (h9 : rs.length ≤ 17592186044415) (h8 : ∀ r ∈ rs, r.xs.length ≤ 17592186044415) (he : codC p m mod w rs ≠ 0) (T : Option Addr) (nt ct : Nat) (ts : List RowM) (hnt : nt = ts.length) (t9 : ts.length ≤ 17592186044415) (t8 : ∀ r ∈ ts, r.xs.length ≤ 17592186044415) :
  Pure Tryz.prog 6 #[.agg #[.int .i64 p, .int .i64 m, .slice A mod.length c, .int .i64 w, .slice Aa n ca], .slice T nt ct] [ro A (ints mod), ro Aa (hdrs rs), rowsR rs, ro T (hdrs ts), rowsR ts] (isV (.int .i64 (codC p m mod w rs))) := by
 refine pure_of (args := [.agg #[.int .i64 p, .int .i64 m, .slice A mod.length c, .int .i64 w, .slice Aa n ca], .slice T nt ct]) 60 Tryz.func6 rfl rfl rfl ref_OCheckE_ent ⟨id, id, id, id, id, trivial⟩ (fun w0 => ?_)
 refine tS ?_
 refine tR fun _ _ _ => ?_
 refine eV (eBox rfl rfl rfl rfl rfl (fun p0 => ?_))
 refine pV ?_
 refine tS ?_
 refine tR fun _ _ _ => ?_
 refine sV (rLdS rfl rfl rfl) ?_
 refine eV (eCallV rfl rfl rfl (ref_CCheck p m A c mod hl9 w Aa n ca rs hn h9 h8) ⟨rfl, trivial⟩ ?_)
 refine pV ?_
 refine tS ?_
 refine tS ?_
 refine tR fun _ _ _ => ?_
 iterate 2 refine pV ?_
 refine tC rfl (fun h2 => ?_) (fun h2 => ?_)
 ·try simp only [zbA] at h2
  refine tS ?_
  refine tR fun _ _ _ => ?_
  iterate 2 refine pV ?_
  exact tr_ret ⟨trivial, _, _, rfl, ⟨rfl, rfl⟩, CSub.nil _, trivial⟩
 ·try simp only [zbA] at h2
  omega --done
theorem ref_OCheck_ent : Enters Tryz.prog 6 := enters_of Tryz.func6 (by kernel_rfl) (by kernel_rfl)
theorem ref_OCheck (p m : Int) (A : Option Addr) (c : Nat) (mod : List Int) [hF : IsF p m mod] (w : Int) (Aa : Option Addr) (n ca : Nat) (rs : List RowM) (hn : n = rs.length) (h9 : rs.length ≤ 256) (hc : CodeOk p m mod w rs) (T : Option Addr) (nt ct : Nat) (ts : List RowM) (hnt : nt = ts.length) (t9 : ts.length ≤ 17592186044415) (t8 : ∀ r ∈ ts, r.xs.length ≤ 17592186044415) :
  Pure Tryz.prog 6 #[.agg #[.int .i64 p, .int .i64 m, .slice A mod.length c, .int .i64 w, .slice Aa n ca], .slice T nt ct] [ro A (ints mod), ro Aa (hdrs rs), rowsR rs, ro T (hdrs ts), rowsR ts] (isV (.int .i64 (ordC (pw p m) w (xss ts)))) := by
 have hl9 := hF.short
 have hn1 := hc.n1
 have hn64 := hc.n64
 have hlen := hc.len
 have hgd := hc.good
 have h8 := hgd.h8 (N := 17592186044415) (by omega)
 have hck := hc.zero
 have hq2 := hF.q2
 have hgq := hF.ord
 refine pure_of (args := [.agg #[.int .i64 p, .int .i64 m, .slice A mod.length c, .int .i64 w, .slice Aa n ca], .slice T nt ct]) 60 Tryz.func6 rfl rfl rfl ref_OCheck_ent ⟨id, id, id, id, id, trivial⟩ (fun w0 => ?_)
 refine tS ?_
 refine tR fun _ _ _ => ?_
 refine eV (eBox rfl rfl rfl rfl rfl (fun p0 => ?_))
 refine pV ?_
 refine tS ?_
 refine tR fun _ _ _ => ?_
 refine sV (rLdS rfl rfl rfl) ?_
 refine eV (eCallV rfl rfl rfl (ref_CCheck _ _ _ _ _ (by omega) w Aa _ ca rs hn (by omega) h8) ⟨rfl, trivial⟩ ?_)
 refine pV ?_
 refine tS ?_
 refine tS ?_
 refine tR fun _ _ _ => ?_
 iterate 2 refine pV ?_
 refine tC rfl (fun h2 => ?_) (fun h2 => ?_)
 ·try simp only [zbA] at h2
  omega --done
 ·try simp only [zbA] at h2
  refine tK ?_
  refine tS ?_
  refine tS ?_
  refine tR fun _ _ _ => ?_
  refine pV ?_
  refine sV (rLen rfl rfl) ?_
  refine sV (rFld rfl rfl) ?_
  refine sV (rLdF rfl rfl rfl) ?_
  refine pV ?_
  refine tC rfl (fun h4 => ?_) (fun h4 => ?_)
  ·try simp only [zbA] at h4
   refine tS ?_
   refine tR fun _ _ _ => ?_
   refine pV ?_
   exact tr_ret ⟨trivial, _, _, rfl, ⟨by rw [ordC_len (by rw [xss_length]; omega)], rfl⟩, CSub.nil _, trivial⟩
  ·try simp only [zbA] at h4
   refine tK ?_
   refine tS ?_
   refine tS ?_
   refine tR fun _ _ _ => ?_
   refine pV ?_
   refine tB ?_
   refine tr_loop1 (fun (k : Int) => [(6, .int .i64 k), (1, .slice T nt ct), (2, .pointer (some p0))]) (fun (k : Int) => [blk p0 27 [.int .i64 p, .int .i64 m, .slice A mod.length c, .int .i64 w, .slice Aa n ca], ro A (ints mod), ro Aa (hdrs rs), rowsR rs, ro T (hdrs ts), rowsR ts]) (fun (k : Int) => (0 ≤ k ∧ k ≤ nt) ∧ ∀ j : Nat, (j : Int) < k → RowOk (pw p m) (ts.getD j rowD).xs) (fun (k : Int) => (nt - k).toNat) (0) ⟨rfl, rfl, rfl, trivial⟩ (by first | exact cs _ _ | exact CSub.refl _) (⟨⟨by omega, by omega⟩, fun j hj => by omega⟩) (fun k hI => ?_)
   obtain ⟨⟨hk0, hk1⟩, hall⟩ := hI
   refine tS ?_
   refine tS ?_
   refine tR fun _ _ _ => ?_
   iterate 2 refine pV ?_
   refine sV (rLen rfl rfl) ?_
   refine pV ?_
   refine tC rfl (fun h7 => ?_) (fun h7 => ?_)
   ·try simp only [zbA] at h7
    refine tK ?_
    refine tS ?_
    refine tB ?_
    refine tS ?_
    refine tS ?_
    haveI : InB (k : Int).toNat ts.length := ⟨by omega⟩
    have htk := t8 _ (getD_mem (show (k : Int).toNat < ts.length by omega) rowD)
    refine tr_draw [0, 1, 2, 3, 4, 5, 6, 7, 8] [] mixed (by kernel_rfl) fun _ _ _ => ?_
    iterate 2 refine pV ?_
    refine sV (rIdxR rfl rfl rfl (by omega) (by omega) (by omega)) ?_
    refine sV (rLdR rfl rfl (by omega)) ?_
    refine sV (rLen rfl rfl) ?_
    refine sV (rFld rfl rfl) ?_
    refine sV (rLdSF rfl rfl) ?_
    refine eV (eCallV rfl rfl rfl (ref_order p m A c mod) ⟨rfl, trivial⟩ ?_)
    refine pV ?_
    refine tC rfl (fun h9 => ?_) (fun h9 => ?_)
    ·try simp only [zbA] at h9
     refine tS ?_
     refine tR fun _ _ _ => ?_
     refine pV ?_
     have hallN : ∀ j : Nat, j < k.toNat → RowOk (pw p m) (ts.getD j rowD).xs := fun j hj => hall j (by omega)
     have hbd := ordC_bad (w := w) (by omega) (show k.toNat < ts.length by omega) hallN (fun h => by have := h.1; omega)
     rw [if_pos (by omega)] at hbd
     exact tr_ret ⟨trivial, _, _, rfl, ⟨by rw [hbd], rfl⟩, CSub.nil _, trivial⟩
    ·try simp only [zbA] at h9
     refine tK ?_
     refine tS ?_
     refine tR fun _ _ _ => ?_
     refine pV ?_
     refine tB ?_
     refine tr_loop1 (fun (j : Int) => [(7, .int .i64 j), (1, .slice T nt ct), (2, .pointer (some p0)), (6, .int .i64 k), (18, .int .i64 k), (19, .slice T nt ct), (20, .int .i64 nt), (24, .slice T nt ct), (25, .int .i64 k), (30, .agg #[.int .i64 p, .int .i64 m, .slice A mod.length c])]) (fun (j : Int) => [blk p0 27 [.int .i64 p, .int .i64 m, .slice A mod.length c, .int .i64 w, .slice Aa n ca], ro A (ints mod), ro Aa (hdrs rs), rowsR rs, ro T (hdrs ts), rowsR ts]) (fun (j : Int) => (0 ≤ j ∧ j ≤ (ts.getD k.toNat rowD).xs.length) ∧ ∀ i : Nat, (i : Int) < j → 0 ≤ (ts.getD k.toNat rowD).xs.getD i 0 ∧ (ts.getD k.toNat rowD).xs.getD i 0 ≤ 2147483648) (fun (j : Int) => ((ts.getD k.toNat rowD).xs.length - j).toNat) (0) ⟨rfl, rfl, rfl, rfl, rfl, rfl, rfl, rfl, rfl, rfl, trivial⟩ (by first | exact cs _ _ | exact CSub.refl _) (⟨⟨by omega, by omega⟩, fun i hi => by omega⟩) (fun j hI => ?_)
     obtain ⟨⟨hj0, hj1⟩, hall2⟩ := hI
     refine tS ?_
     refine tS ?_
     haveI : InB (k : Int).toNat ts.length := ⟨by omega⟩
     have htk := t8 _ (getD_mem (show (k : Int).toNat < ts.length by omega) rowD)
     refine tR fun _ _ _ => ?_
     iterate 3 refine pV ?_
     refine sV (rIdxR rfl rfl rfl (by omega) (by omega) (by omega)) ?_
     refine sV (rLdR rfl rfl (by omega)) ?_
     refine sV (rLen rfl rfl) ?_
     refine pV ?_
     refine tC rfl (fun h12 => ?_) (fun h12 => ?_)
     ·try simp only [zbA] at h12
      refine tK ?_
      refine tS ?_
      refine tB ?_
      refine tS ?_
      haveI : InB (k : Int).toNat ts.length := ⟨by omega⟩
      have htk := t8 _ (getD_mem (show (k : Int).toNat < ts.length by omega) rowD)
      refine tR fun _ _ _ => ?_
      iterate 2 refine pV ?_
      refine sV (rIdxR rfl rfl rfl (by omega) (by omega) (by omega)) ?_
      refine sV (rLdR rfl rfl (by omega)) ?_
      refine pV ?_
      refine sV (rIdxI rfl rfl rfl (by omega) (by omega) (by omega)) ?_
      refine sV (rLdI rfl rfl (by omega)) ?_
      iterate 2 refine pV ?_
      refine stg rfl rfl rfl rfl rfl (fun hb => by (have hq := hb; try simp only [zbA] at hq); exact rMove rfl rfl) ?_
      refine stg rfl rfl rfl rfl rfl (fun hb => by (have hq := hb; try simp only [zbA] at hq); exact rMove rfl rfl) ?_
      refine stg rfl rfl rfl rfl rfl (fun hb => by (have hq := hb; try simp only [zbA] at hq); exact rIdxR rfl (evg rfl hb) (evg rfl hb) (by omega) (by omega) (by omega)) ?_
      refine stg rfl rfl rfl rfl rfl (fun hb => by (have hq := hb; try simp only [zbA] at hq); exact rLdR rfl (evg rfl hb) (by omega)) ?_
      refine stg rfl rfl rfl rfl rfl (fun hb => by (have hq := hb; try simp only [zbA] at hq); exact rMove rfl rfl) ?_
      refine stg rfl rfl rfl rfl rfl (fun hb => by (have hq := hb; try simp only [zbA] at hq); exact rIdxI rfl (evg rfl hb) (evg rfl hb) (by omega) (by omega) (by omega)) ?_
      refine stg rfl rfl rfl rfl rfl (fun hb => by (have hq := hb; try simp only [zbA] at hq); exact rLdI rfl (evg rfl hb) (by omega)) ?_
      refine stg rfl rfl rfl rfl rfl (fun hb => by (have hq := hb; try simp only [zbA] at hq); exact rGtr rfl (evg rfl hb) rfl) ?_
      refine sV (rOrB rfl rfl rfl rfl) ?_
      refine tC rfl (fun h14 => ?_) (fun h14 => ?_)
      ·try simp only [zbA] at h14
       refine tS ?_
       refine tR fun _ _ _ => ?_
       refine pV ?_
       have hallN : ∀ j : Nat, j < k.toNat → RowOk (pw p m) (ts.getD j rowD).xs := fun j hj => hall j (by omega)
       have hbd := ordC_bad (w := w) (by omega) (show k.toNat < ts.length by omega) hallN (fun h => by have := h.at j.toNat; omega)
       rw [if_neg (by omega)] at hbd
       exact tr_ret ⟨trivial, _, _, rfl, ⟨by rw [hbd], rfl⟩, CSub.nil _, trivial⟩
      ·try simp only [zbA] at h14
       refine tK ?_
       refine tR fun _ _ _ => ?_
       refine pV ?_
       refine sV (rAdd rfl rfl rfl (by omega) (by omega)) ?_
       refine pV ?_
       refine ⟨j + 1, ⟨rfl, rfl, rfl, rfl, rfl, rfl, rfl, rfl, rfl, rfl, trivial⟩, by first | exact cs _ _ | exact CSub.refl _, ?_⟩
       refine ⟨⟨⟨by omega, by omega⟩, fun i hi => ?_⟩, by omega⟩
       by_cases he : (i : Int) = j
       ·have : i = j.toNat := by omega
        subst this; omega
       ·exact hall2 i (by omega)
     ·try simp only [zbA] at h12
      refine tE ?_
      refine tR fun _ _ _ => ?_
      refine pV ?_
      refine sV (rAdd rfl rfl rfl (by omega) (by omega)) ?_
      refine pV ?_
      refine ⟨k + 1, ⟨rfl, rfl, rfl, trivial⟩, by first | exact cs _ _ | exact CSub.refl _, ?_⟩
      refine ⟨⟨⟨by omega, by omega⟩, fun j hj => ?_⟩, by omega⟩
      by_cases he : (j : Int) = k
      ·have : j = k.toNat := by omega
       subst this
       exact ⟨by omega, fun x hx => by
        obtain ⟨i, hi, rfl⟩ := List.getElem_of_mem hx
        have := hall2 i (by omega)
        rwa [List.getD_eq_getElem?_getD, List.getElem?_eq_getElem hi] at this⟩
      ·exact hall j (by omega)
   ·try simp only [zbA] at h7
    refine tE ?_
    refine tS ?_
    refine tR fun _ _ _ => ?_
    refine pV ?_
    have hok := ordC_ok (q := pw p m) (w := w) (ts := ts) (by omega) fun j hj => hall j (by omega)
    exact tr_ret ⟨trivial, _, _, rfl, ⟨by rw [hok], rfl⟩, CSub.nil _, trivial⟩
theorem law42_few_ent : Enters Tryz.prog 5 := enters_of Tryz.func5 (by kernel_rfl) (by kernel_rfl)
theorem law42_few (p m : Int) (A : Option Addr) (c : Nat) (mod : List Int) (hl9 : mod.length ≤ 17592186044415) (w : Int) (Aa : Option Addr) (n ca : Nat) (rs : List RowM) (hn : n = rs.length) (h9 : rs.length ≤ 17592186044415) (h8 : ∀ r ∈ rs, r.xs.length ≤ 17592186044415) (hl : rs.length ≤ 64) :
  Pure Tryz.prog 5 #[.agg #[.int .i64 p, .int .i64 m, .slice A mod.length c, .int .i64 w, .slice Aa n ca]] [ro Aa (hdrs rs), rowsR rs] (val (fun v => ∃ b : Bool, v = .bool b ∧ (b = true → rs.length ≤ 64 ∧ ∀ r ∈ rs, r.xs.length ≤ 4200))) := by
 refine pure_of (args := [.agg #[.int .i64 p, .int .i64 m, .slice A mod.length c, .int .i64 w, .slice Aa n ca]]) 11 Tryz.func5 rfl rfl rfl law42_few_ent ⟨id, id, trivial⟩ (fun w0 => ?_)
 refine tS ?_
 refine tR fun _ _ _ => ?_
 refine eV (eBox rfl rfl rfl rfl rfl (fun p0 => ?_))
 refine pV ?_
 refine tS ?_
 refine tR fun _ _ _ => ?_
 refine sV (rFld rfl rfl) ?_
 refine sV (rLdF rfl rfl rfl) ?_
 refine sV (rLen rfl rfl) ?_
 iterate 2 refine pV ?_
 refine stT rfl rfl rfl (by simp; omega) rfl rfl (rLdS rfl rfl rfl) ?_
 refine efT rfl rfl rfl (by simp; omega) (eCall0 rfl rfl rfl (ref_CFew p m A c mod hl9 w Aa n ca rs hn h9 h8) ⟨rfl, rfl, trivial⟩ ?_)
 rintro _ ⟨b, rfl, hb⟩
 refine sV (rPick1 rfl rfl (by simp; omega) rfl) ?_
 refine pV ?_
 exact tr_ret ⟨trivial, _, _, rfl, ⟨rfl, b, by simp, fun h => ⟨hl, hb h⟩⟩, CSub.nil _, trivial⟩
theorem law42_few0_ent : Enters Tryz.prog 5 := enters_of Tryz.func5 (by kernel_rfl) (by kernel_rfl)
theorem law42_few0 (p m : Int) (A : Option Addr) (c : Nat) (mod : List Int) (hl9 : mod.length ≤ 17592186044415) (w : Int) (Aa : Option Addr) (n ca : Nat) (rs : List RowM) (hn : n = rs.length) (h9 : rs.length ≤ 17592186044415) (h8 : ∀ r ∈ rs, r.xs.length ≤ 17592186044415) (hl : ¬ rs.length ≤ 64) :
  Pure Tryz.prog 5 #[.agg #[.int .i64 p, .int .i64 m, .slice A mod.length c, .int .i64 w, .slice Aa n ca]] [ro Aa (hdrs rs), rowsR rs] (val (fun v => ∃ b : Bool, v = .bool b ∧ (b = true → rs.length ≤ 64 ∧ ∀ r ∈ rs, r.xs.length ≤ 4200))) := by
 refine pure_of (args := [.agg #[.int .i64 p, .int .i64 m, .slice A mod.length c, .int .i64 w, .slice Aa n ca]]) 11 Tryz.func5 rfl rfl rfl law42_few0_ent ⟨id, id, trivial⟩ (fun w0 => ?_)
 refine tS ?_
 refine tR fun _ _ _ => ?_
 refine eV (eBox rfl rfl rfl rfl rfl (fun p0 => ?_))
 refine pV ?_
 refine tS ?_
 refine tR fun _ _ _ => ?_
 refine sV (rFld rfl rfl) ?_
 refine sV (rLdF rfl rfl rfl) ?_
 refine sV (rLen rfl rfl) ?_
 iterate 2 refine pV ?_
 refine skF rfl rfl (by simp; omega) rfl rfl ?_
 refine skF rfl rfl (by simp; omega) rfl rfl ?_
 refine sV (rPick0 rfl rfl (by simp; omega) rfl) ?_
 refine pV ?_
 exact tr_ret ⟨trivial, _, _, rfl, ⟨rfl, false, by simp, fun h => by cases h⟩, CSub.nil _, trivial⟩
theorem law42_fewC (p m : Int) (A : Option Addr) (c : Nat) (mod : List Int) (hl9 : mod.length ≤ 17592186044415) (w : Int) (Aa : Option Addr) (n ca : Nat) (rs : List RowM) (hn : n = rs.length) (h9 : rs.length ≤ 17592186044415) (h8 : ∀ r ∈ rs, r.xs.length ≤ 17592186044415) : Pure Tryz.prog 5 #[.agg #[.int .i64 p, .int .i64 m, .slice A mod.length c, .int .i64 w, .slice Aa n ca]] [ro Aa (hdrs rs), rowsR rs] (val (fun v => ∃ b : Bool, v = .bool b ∧ (b = true → rs.length ≤ 64 ∧ ∀ r ∈ rs, r.xs.length ≤ 4200))) := by
 by_cases hl : rs.length ≤ 64
 ·exact law42_few p m A c mod hl9 w Aa n ca rs hn h9 h8 hl
 ·exact law42_few0 p m A c mod hl9 w Aa n ca rs hn h9 h8 hl
def hardL (ts : List RowM) : List Int := (xss ts).map fun r => (hardI r : Int)
def relL (ts : List RowM) : List Int := (xss ts).map relI
@[simp] theorem hardL_length (ts : List RowM) : (hardL ts).length = ts.length := by simp [hardL]
@[simp] theorem relL_length (ts : List RowM) : (relL ts).length = ts.length := by simp [relL]
theorem map_take1 {α : Type} (f : List Int → α) (ts : List RowM) {k : Nat} (hk : k < ts.length) : ((xss ts).map f).take (k + 1) = ((xss ts).map f).take k ++ [f (ts.getD k rowD).xs] := by
 rw [List.take_add_one, List.getElem?_map]
 have : (xss ts)[k]? = some (ts.getD k rowD).xs := by
  rw [xss, List.getElem?_map, List.getElem?_eq_getElem hk, List.getD_eq_getElem?_getD, List.getElem?_eq_getElem hk]; rfl
 rw [this]; rfl
theorem hardL_take (ts : List RowM) {k : Nat} (hk : k < ts.length) : (hardL ts).take (k + 1) = (hardL ts).take k ++ [(hardI (ts.getD k rowD).xs : Int)] := map_take1 _ ts hk
theorem relL_take (ts : List RowM) {k : Nat} (hk : k < ts.length) : (relL ts).take (k + 1) = (relL ts).take k ++ [relI (ts.getD k rowD).xs] := map_take1 _ ts hk
theorem hardL_getD (ts : List RowM) {k : Nat} (hk : k < ts.length) : (hardL ts).getD k 0 = (hardI (ts.getD k rowD).xs : Int) := by
 rw [hardL, List.getD_eq_getElem?_getD, List.getElem?_map, xss, List.getElem?_map, List.getElem?_eq_getElem hk, List.getD_eq_getElem?_getD, List.getElem?_eq_getElem hk]; rfl
theorem relL_getD (ts : List RowM) {k : Nat} (hk : k < ts.length) : (relL ts).getD k 0 = relI (ts.getD k rowD).xs := by
 rw [relL, List.getD_eq_getElem?_getD, List.getElem?_map, xss, List.getElem?_map, List.getElem?_eq_getElem hk, List.getD_eq_getElem?_getD, List.getElem?_eq_getElem hk]; rfl
theorem amin_yes {r : List Int} {k : Nat} (h : r.getD k 0 < r.getD (amin r k) 0) : amin r (k + 1) = k := by rw [amin, if_pos h]
theorem amin_no {r : List Int} {k : Nat} (h : ¬ r.getD k 0 < r.getD (amin r k) 0) : amin r (k + 1) = amin r k := by rw [amin, if_neg h]
theorem sec_yes {r : List Int} {b k : Nat} (h : k ≠ b ∧ (sec r b k < 0 ∨ r.getD k 0 < sec r b k)) : sec r b (k + 1) = r.getD k 0 := by rw [sec, if_pos h]
theorem sec_no {r : List Int} {b k : Nat} (h : ¬ (k ≠ b ∧ (sec r b k < 0 ∨ r.getD k 0 < sec r b k))) : sec r b (k + 1) = sec r b k := by rw [sec, if_neg h]
theorem ord_hard_ent : Enters Tryz.prog 38 := enters_of Tryz.func38 (by kernel_rfl) (by kernel_rfl)
theorem ord_hard (T : Option Addr) (nt ct : Nat) (ts : List RowM) (hnt : nt = ts.length) (q : Int) (hq2 : 2 ≤ q) (hq9 : q ≤ 256) (t64 : ts.length ≤ 64) (htr : ∀ r ∈ ts, RowOk q r.xs) :
  Pure Tryz.prog 38 #[.slice T nt ct] [ro T (hdrs ts), rowsR ts] (two (fun v c1 c2 => ∃ B cb D cd, v = .tuple #[.slice B (hardL ts).length cb, .slice D (relL ts).length cd] ∧ c1 = ow B 3 cb (ints (hardL ts)) ∧ c2 = ow D 3 cd (ints (relL ts)))) := by
 refine pure_of (args := [.slice T nt ct]) 70 Tryz.func38 rfl rfl rfl ord_hard_ent ⟨id, id, trivial⟩ (fun w0 => ?_)
 refine tS ?_
 refine tR fun _ _ _ => ?_
 iterate 2 refine pV ?_
 refine tS ?_
 refine tS ?_
 refine tR fun _ _ _ => ?_
 refine pV ?_
 refine sV (rLen rfl rfl) ?_
 refine pV ?_
 refine tB ?_
 refine tr_nilI 3 ?_
 refine tr_nilI 3 ?_
 refine tr_loop7 (fun (k : Int) (B : Option Addr) (cb : Nat) (o : List Int) (D : Option Addr) (cd : Nat) (u : List Int) => [(2, .slice B o.length cb), (3, .slice D u.length cd), (14, .int .i64 k), (12, .slice T nt ct), (13, .int .i64 nt)]) (fun (k : Int) (B : Option Addr) (cb : Nat) (o : List Int) (D : Option Addr) (cd : Nat) (u : List Int) => [ow B 3 cb (ints o), ow D 3 cd (ints u), ro T (hdrs ts), rowsR ts]) (fun (k : Int) (B : Option Addr) (cb : Nat) (o : List Int) (D : Option Addr) (cd : Nat) (u : List Int) => (0 ≤ k ∧ k ≤ nt) ∧ o = (hardL ts).take k.toNat ∧ u = (relL ts).take k.toNat) (fun (k : Int) (B : Option Addr) (cb : Nat) (o : List Int) (D : Option Addr) (cd : Nat) (u : List Int) => (nt - k).toNat) (0) (none) (0) ([]) (none) (0) ([]) ⟨rfl, rfl, rfl, rfl, rfl, trivial⟩ (by first | exact cs _ _ | exact CSub.refl _) (⟨⟨by omega, by omega⟩, rfl, rfl⟩) (fun k B cb o D cd u hI => ?_)
 obtain ⟨⟨hk0, hk1⟩, ho, hu⟩ := hI
 have hol : o.length = k.toNat := by rw [ho, List.length_take, hardL_length]; omega
 have hul : u.length = k.toNat := by rw [hu, List.length_take, relL_length]; omega
 refine tS ?_
 refine tR fun _ _ _ => ?_
 refine pV ?_
 refine tS ?_
 refine tC rfl (fun h2 => ?_) (fun h2 => ?_)
 ·try simp only [zbA] at h2
  refine tK ?_
  refine tS ?_
  refine tB ?_
  refine tS ?_
  haveI : InB k.toNat ts.length := ⟨by omega⟩
  have htk := htr _ (getD_mem (show k.toNat < ts.length by omega) rowD)
  have htl := htk.1
  have hpos : 0 < (ts.getD k.toNat rowD).xs.length := by omega
  refine tR fun _ _ _ => ?_
  refine sV (rIdxR rfl rfl rfl (by omega) (by omega) (by omega)) ?_
  refine sV (rLdR rfl rfl (by omega)) ?_
  refine pV ?_
  refine tS ?_
  refine tR fun _ _ _ => ?_
  refine pV ?_
  refine tS ?_
  refine tS ?_
  refine tR fun _ _ _ => ?_
  refine pV ?_
  refine sV (rLen rfl rfl) ?_
  refine pV ?_
  refine tB ?_
  refine tr_loop2 (fun (j : Int) (b : Int) => [(20, .int .i64 j), (6, .int .i64 b), (5, .slice (ts.getD k.toNat rowD).A (ts.getD k.toNat rowD).xs.length (ts.getD k.toNat rowD).cap), (18, .slice (ts.getD k.toNat rowD).A (ts.getD k.toNat rowD).xs.length (ts.getD k.toNat rowD).cap), (19, .int .i64 (ts.getD k.toNat rowD).xs.length), (2, .slice B o.length cb), (3, .slice D u.length cd), (12, .slice T nt ct), (13, .int .i64 nt), (14, .int .i64 k)]) (fun (j : Int) (b : Int) => [ow B 3 cb (ints o), ow D 3 cd (ints u), ro T (hdrs ts), rowsR ts]) (fun (j : Int) (b : Int) => (0 ≤ j ∧ j ≤ (ts.getD k.toNat rowD).xs.length) ∧ b = (amin (ts.getD k.toNat rowD).xs j.toNat : Int)) (fun (j : Int) (b : Int) => ((ts.getD k.toNat rowD).xs.length - j).toNat) (0) (0) ⟨rfl, rfl, rfl, rfl, rfl, rfl, rfl, rfl, rfl, rfl, trivial⟩ (by first | exact cs _ _ | exact CSub.refl _) (⟨⟨by omega, by omega⟩, rfl⟩) (fun j b hI => ?_)
  obtain ⟨⟨hj0, hj1⟩, hb⟩ := hI
  have hbl := amin_lt hpos j.toNat (by omega)
  refine tS ?_
  refine tR fun _ _ _ => ?_
  refine pV ?_
  refine tS ?_
  refine tC rfl (fun h6 => ?_) (fun h6 => ?_)
  ·try simp only [zbA] at h6
   refine tK ?_
   refine tS ?_
   refine tB ?_
   refine tS ?_
   refine tR fun _ _ _ => ?_
   refine pV ?_
   refine sV (rIdxI rfl rfl rfl (by omega) (by omega) (by omega)) ?_
   refine sV (rLdI rfl rfl (by omega)) ?_
   iterate 2 refine pV ?_
   refine tS ?_
   refine tR fun _ _ _ => ?_
   iterate 3 refine pV ?_
   refine sV (rIdxI rfl rfl rfl (by omega) (by omega) (by omega)) ?_
   refine sV (rLdI rfl rfl (by omega)) ?_
   refine pV ?_
   refine tC rfl (fun h8 => ?_) (fun h8 => ?_)
   ·try simp only [zbA] at h8
    refine tR fun _ _ _ => ?_
    iterate 2 refine pV ?_
    refine tR fun _ _ _ => ?_
    refine sV (rAdd rfl rfl rfl (by omega) (by omega)) ?_
    refine pV ?_
    refine ⟨j + 1, j, ⟨rfl, rfl, rfl, rfl, rfl, rfl, rfl, rfl, rfl, rfl, trivial⟩, by first | exact cs _ _ | exact CSub.refl _, ?_⟩
    exact ⟨⟨⟨by omega, by omega⟩, by rw [show (j + 1).toNat = j.toNat + 1 by omega, amin_yes (by rw [hb] at h8; simpa using h8)]; omega⟩, by omega⟩
   ·try simp only [zbA] at h8
    refine tK ?_
    refine tR fun _ _ _ => ?_
    refine sV (rAdd rfl rfl rfl (by omega) (by omega)) ?_
    refine pV ?_
    refine ⟨j + 1, b, ⟨rfl, rfl, rfl, rfl, rfl, rfl, rfl, rfl, rfl, rfl, trivial⟩, by first | exact cs _ _ | exact CSub.refl _, ?_⟩
    exact ⟨⟨⟨by omega, by omega⟩, by rw [show (j + 1).toNat = j.toNat + 1 by omega, amin_no (by rw [hb] at h8; simpa using h8)]; exact hb⟩, by omega⟩
  ·try simp only [zbA] at h6
   refine tE ?_
   refine tS ?_
   refine tR fun _ _ _ => ?_
   refine pV ?_
   refine tS ?_
   refine tS ?_
   refine tR fun _ _ _ => ?_
   refine pV ?_
   refine sV (rLen rfl rfl) ?_
   refine pV ?_
   refine tB ?_
   refine tr_loop2 (fun (i : Int) (s : Int) => [(35, .int .i64 i), (9, .int .i64 s), (6, .int .i64 b), (5, .slice (ts.getD k.toNat rowD).A (ts.getD k.toNat rowD).xs.length (ts.getD k.toNat rowD).cap), (33, .slice (ts.getD k.toNat rowD).A (ts.getD k.toNat rowD).xs.length (ts.getD k.toNat rowD).cap), (34, .int .i64 (ts.getD k.toNat rowD).xs.length), (2, .slice B o.length cb), (3, .slice D u.length cd), (12, .slice T nt ct), (13, .int .i64 nt), (14, .int .i64 k), (18, .slice (ts.getD k.toNat rowD).A (ts.getD k.toNat rowD).xs.length (ts.getD k.toNat rowD).cap), (19, .int .i64 (ts.getD k.toNat rowD).xs.length), (20, .int .i64 j)]) (fun (i : Int) (s : Int) => [ow B 3 cb (ints o), ow D 3 cd (ints u), ro T (hdrs ts), rowsR ts]) (fun (i : Int) (s : Int) => (0 ≤ i ∧ i ≤ (ts.getD k.toNat rowD).xs.length) ∧ s = sec (ts.getD k.toNat rowD).xs b.toNat i.toNat) (fun (i : Int) (s : Int) => ((ts.getD k.toNat rowD).xs.length - i).toNat) (0) (-1) ⟨rfl, rfl, rfl, rfl, rfl, rfl, rfl, rfl, rfl, rfl, rfl, rfl, rfl, rfl, trivial⟩ (by first | exact cs _ _ | exact CSub.refl _) (⟨⟨by omega, by omega⟩, rfl⟩) (fun i s hI => ?_)
   obtain ⟨⟨hi0, hi1⟩, hs⟩ := hI
   have hsb := sec_bd (b := b.toNat) htk.2 (by omega) i.toNat (by omega)
   refine tS ?_
   refine tR fun _ _ _ => ?_
   refine pV ?_
   refine tS ?_
   refine tC rfl (fun h13 => ?_) (fun h13 => ?_)
   ·try simp only [zbA] at h13
    refine tK ?_
    refine tS ?_
    refine tB ?_
    refine tS ?_
    refine tR fun _ _ _ => ?_
    refine pV ?_
    refine sV (rIdxI rfl rfl rfl (by omega) (by omega) (by omega)) ?_
    refine sV (rLdI rfl rfl (by omega)) ?_
    iterate 2 refine pV ?_
    refine tS ?_
    refine tR fun _ _ _ => ?_
    iterate 4 refine pV ?_
    refine stg rfl rfl rfl rfl rfl (fun hb => by (have hq := hb; try simp only [zbA] at hq); exact rMove rfl rfl) ?_
    refine stg rfl rfl rfl rfl rfl (fun hb => by (have hq := hb; try simp only [zbA] at hq); exact rLss rfl (evg rfl hb) rfl) ?_
    refine stg rfl rfl rfl rfl rfl (fun hb => by (have hq := hb; try simp only [zbA] at hq); exact rMove rfl (evg rfl hb)) ?_
    refine stg2 rfl rfl rfl rfl rfl (fun hb => by (have hq := hb; try simp only [zbA] at hq); exact rMove rfl rfl) ?_
    refine stg2 rfl rfl rfl rfl rfl (fun hb => by (have hq := hb; try simp only [zbA] at hq); exact rMove rfl rfl) ?_
    refine stg2 rfl rfl rfl rfl rfl (fun hb => by (have hq := hb; try simp only [zbA] at hq); exact rLss rfl (evg rfl hb) (evg rfl hb)) ?_
    refine stg rfl rfl rfl rfl rfl (fun hb => by (have hq := hb; try simp only [zbA] at hq); exact rOrB rfl (evg rfl hb) rfl (evgp rfl hb)) ?_
    refine sV (rAndB rfl rfl rfl rfl) ?_
    refine tC rfl (fun h15 => ?_) (fun h15 => ?_)
    ·try simp only [zbA] at h15
     refine tR fun _ _ _ => ?_
     iterate 2 refine pV ?_
     refine tR fun _ _ _ => ?_
     refine sV (rAdd rfl rfl rfl (by omega) (by omega)) ?_
     refine pV ?_
     refine ⟨i + 1, (ts.getD k.toNat rowD).xs.getD i.toNat 0, ⟨rfl, rfl, rfl, rfl, rfl, rfl, rfl, rfl, rfl, rfl, rfl, rfl, rfl, rfl, trivial⟩, by first | exact cs _ _ | exact CSub.refl _, ?_⟩
     exact ⟨⟨⟨by omega, by omega⟩, by rw [show (i + 1).toNat = i.toNat + 1 by omega, sec_yes (by rw [← hs]; omega)]⟩, by omega⟩
    ·try simp only [zbA] at h15
     refine tK ?_
     refine tR fun _ _ _ => ?_
     refine sV (rAdd rfl rfl rfl (by omega) (by omega)) ?_
     refine pV ?_
     refine ⟨i + 1, s, ⟨rfl, rfl, rfl, rfl, rfl, rfl, rfl, rfl, rfl, rfl, rfl, rfl, rfl, rfl, trivial⟩, by first | exact cs _ _ | exact CSub.refl _, ?_⟩
     exact ⟨⟨⟨by omega, by omega⟩, by rw [show (i + 1).toNat = i.toNat + 1 by omega, sec_no (by rw [← hs]; omega)]; exact hs⟩, by omega⟩
   ·try simp only [zbA] at h13
    refine tE ?_
    refine tS ?_
    refine tR fun _ _ _ => ?_
    iterate 2 refine pV ?_
    refine eV (eLit1I rfl rfl rfl rfl (fun A18 => ?_))
    refine eV (eAppI rfl rfl rfl rfl rfl (by first | rfl | simp | omega) (by first | rfl | simp | omega) (by first | omega | (simp; omega)) (fun A18a c18a => ?_))
    refine pV ?_
    have hrb := htk.at b.toNat
    have hsb := sec_bd (b := b.toNat) htk.2 (by omega) i.toNat (by omega)
    refine tR fun _ _ _ => ?_
    iterate 4 refine pV ?_
    refine sV (rIdxI rfl rfl rfl (by omega) (by omega) (by omega)) ?_
    refine sV (rLdI rfl rfl (by omega)) ?_
    refine sV (rSub rfl rfl rfl (by omega) (by omega)) ?_
    refine eV (eLit1I rfl rfl rfl rfl (fun A19 => ?_))
    refine eV (eAppI rfl rfl rfl rfl rfl (by first | rfl | simp | omega) (by first | rfl | simp | omega) (by first | omega | (simp; omega)) (fun A19a c19a => ?_))
    refine pV ?_
    refine tR fun _ _ _ => ?_
    refine sV (rAdd rfl rfl rfl (by omega) (by omega)) ?_
    refine pV ?_
    refine ⟨k + 1, A18a, c18a, o ++ [b], A19a, c19a, u ++ [s - (ts.getD k.toNat rowD).xs.getD b.toNat 0], ⟨rfl, rfl, rfl, rfl, rfl, trivial⟩, by first | exact cs _ _ | exact CSub.refl _, ?_⟩
    have hkk : (k + 1).toNat = k.toNat + 1 := by omega
    have hbh : b = (hardI (ts.getD k.toNat rowD).xs : Int) := by rw [hb, show j.toNat = (ts.getD k.toNat rowD).xs.length by omega]; rfl
    have hsh : s - (ts.getD k.toNat rowD).xs.getD b.toNat 0 = relI (ts.getD k.toNat rowD).xs := by rw [hs, hbh, show i.toNat = (ts.getD k.toNat rowD).xs.length by omega]; rfl
    exact ⟨⟨⟨by omega, by omega⟩, by rw [hkk, hardL_take ts (by omega), ← ho, hbh], by rw [hkk, relL_take ts (by omega), ← hu, hsh]⟩, by omega⟩
 ·try simp only [zbA] at h2
  refine tE ?_
  refine tS ?_
  refine tR fun _ _ _ => ?_
  iterate 4 refine pV ?_
  have hkt : k.toNat = ts.length := by omega
  have ho2 : o = hardL ts := by rw [ho, hkt, ← hardL_length, List.take_length]
  have hu2 : u = relL ts := by rw [hu, hkt, ← relL_length, List.take_length]
  subst ho2 hu2
  exact tr_ret ⟨trivial, _, _, rfl, ⟨_, _, rfl, B, cb, D, cd, rfl, rfl, rfl⟩, cs _ _, trivial, trivial, trivial⟩
end Go.Proofs.YtfdjdokdabmmdaaGreat

set_option maxRecDepth 100000
namespace Go.Proofs.YtfdjdokdabmmdaaGreat
open Go.RowKit
def cstT (tb : List (List Int)) (l : List Int) : Nat → Int
 | 0 => 0
 | k + 1 => cstT tb l k + (tb.getD k []).getD (l.getD k 0).toNat 0
def cstL (tb : List (List Int)) (l : List Int) : Int := cstT tb l l.length
theorem cstT_bd {q : Int} {ts : List RowM} (htr : ∀ r ∈ ts, RowOk q r.xs) (l : List Int) : ∀ k, k ≤ ts.length → 0 ≤ cstT (xss ts) l k ∧ cstT (xss ts) l k ≤ k * 2147483648
 | 0, _ => by simp [cstT]
 | k + 1, hk => by
  have ih := cstT_bd htr l k (by omega)
  have h := (htr _ (getD_mem (show k < ts.length by omega) rowD)).at (l.getD k 0).toNat
  rw [cstT, xss_getD]
  omega
theorem cstT_succ (ts : List RowM) (l : List Int) (k : Nat) : cstT (xss ts) l (k + 1) = cstT (xss ts) l k + (ts.getD k rowD).xs.getD (l.getD k 0).toNat 0 := by rw [cstT, xss_getD]
theorem ord_total_ent : Enters Tryz.prog 70 := enters_of Tryz.func70 (by kernel_rfl) (by kernel_rfl)
theorem ord_total (T : Option Addr) (nt ct : Nat) (ts : List RowM) (hnt : nt = ts.length) (q : Int) (hq2 : 2 ≤ q) (hq9 : q ≤ 256) (t64 : ts.length ≤ 64) (htr : ∀ r ∈ ts, RowOk q r.xs) (X : Option Addr) (nx cx : Nat) (l : List Int) (hnx : nx = l.length) (hlt : l.length = ts.length) (hin : AllIn q l) :
  Pure Tryz.prog 70 #[.slice T nt ct, .slice X nx cx] [ro T (hdrs ts), rowsR ts, ro X (ints l)] (isV (.int .i64 (cstL (xss ts) l))) := by
 refine pure_of (args := [.slice T nt ct, .slice X nx cx]) 26 Tryz.func70 rfl rfl rfl ord_total_ent ⟨id, id, id, trivial⟩ (fun w0 => ?_)
 refine tS ?_
 refine tR fun _ _ _ => ?_
 refine pV ?_
 refine tS ?_
 refine tR fun _ _ _ => ?_
 refine pV ?_
 refine tS ?_
 refine tS ?_
 refine tR fun _ _ _ => ?_
 refine pV ?_
 refine sV (rLen rfl rfl) ?_
 refine pV ?_
 refine tB ?_
 refine tr_loop2 (fun (k : Int) (s : Int) => [(10, .int .i64 k), (5, .int .i64 s), (0, .slice T nt ct), (4, .int .i64 0), (8, .slice X nx cx), (9, .int .i64 nx)]) (fun (k : Int) (s : Int) => [ro T (hdrs ts), rowsR ts, ro X (ints l)]) (fun (k : Int) (s : Int) => (0 ≤ k ∧ k ≤ nx) ∧ s = cstT (xss ts) l k.toNat) (fun (k : Int) (s : Int) => (nx - k).toNat) (0) (0) ⟨rfl, rfl, rfl, rfl, rfl, rfl, trivial⟩ (by first | exact cs _ _ | exact CSub.refl _) (⟨⟨by omega, by omega⟩, rfl⟩) (fun k s hI => ?_)
 obtain ⟨⟨hk0, hk1⟩, hs⟩ := hI
 have hcb := cstT_bd htr l k.toNat (by omega)
 refine tS ?_
 refine tR fun _ _ _ => ?_
 refine pV ?_
 refine tS ?_
 refine tC rfl (fun h3 => ?_) (fun h3 => ?_)
 ·try simp only [zbA] at h3
  refine tK ?_
  refine tS ?_
  refine tB ?_
  refine tS ?_
  refine tR fun _ _ _ => ?_
  refine pV ?_
  refine sV (rIdxI rfl rfl rfl (by omega) (by omega) (by omega)) ?_
  refine sV (rLdI rfl rfl (by omega)) ?_
  iterate 2 refine pV ?_
  haveI : InB k.toNat ts.length := ⟨by omega⟩
  have htk := htr _ (getD_mem (show k.toNat < ts.length by omega) rowD)
  have htl := htk.1
  have hpos : 0 < (ts.getD k.toNat rowD).xs.length := by omega
  have hrb := htk.at (l.getD k.toNat 0).toNat
  have hlk := hin.get (by omega) k.toNat
  refine tR fun _ _ _ => ?_
  iterate 3 refine pV ?_
  refine sV (rIdxR rfl rfl rfl (by omega) (by omega) (by omega)) ?_
  refine sV (rLdR rfl rfl (by omega)) ?_
  refine pV ?_
  refine sV (rIdxI rfl rfl rfl (by omega) (by omega) (by omega)) ?_
  refine sV (rLdI rfl rfl (by omega)) ?_
  refine sV (rAdd rfl rfl rfl (by omega) (by omega)) ?_
  refine pV ?_
  refine tR fun _ _ _ => ?_
  refine sV (rAdd rfl rfl rfl (by omega) (by omega)) ?_
  refine pV ?_
  refine ⟨k + 1, s + (ts.getD k.toNat rowD).xs.getD (l.getD k.toNat 0).toNat 0, ⟨rfl, rfl, rfl, rfl, rfl, rfl, trivial⟩, by first | exact cs _ _ | exact CSub.refl _, ?_⟩
  exact ⟨⟨⟨by omega, by omega⟩, by rw [show (k + 1).toNat = k.toNat + 1 by omega, cstT_succ, hs]⟩, by omega⟩
 ·try simp only [zbA] at h3
  refine tE ?_
  refine tS ?_
  refine tR fun _ _ _ => ?_
  iterate 2 refine pV ?_
  have hkx : k.toNat = l.length := by omega
  exact tr_ret ⟨trivial, _, _, rfl, ⟨by rw [hs, hkx]; rfl, rfl⟩, CSub.nil _, trivial⟩
theorem ref_OCost_ent : Enters Tryz.prog 20 := enters_of Tryz.func20 (by kernel_rfl) (by kernel_rfl)
theorem ref_OCost (T : Option Addr) (nt ct : Nat) (ts : List RowM) (hnt : nt = ts.length) (q : Int) (hq2 : 2 ≤ q) (hq9 : q ≤ 256) (t64 : ts.length ≤ 64) (htr : ∀ r ∈ ts, RowOk q r.xs) (X : Option Addr) (nx cx : Nat) (l : List Int) (hnx : nx = l.length) (hlt : l.length = ts.length) (hin : AllIn q l) :
  Pure Tryz.prog 20 #[.slice T nt ct, .slice X nx cx] [ro T (hdrs ts), rowsR ts, ro X (ints l)] (isV (.int .i64 (cstL (xss ts) l))) := by
 refine pure_of (args := [.slice T nt ct, .slice X nx cx]) 26 Tryz.func20 rfl rfl rfl ref_OCost_ent ⟨id, id, id, trivial⟩ (fun w0 => ?_)
 refine tS ?_
 refine tR fun _ _ _ => ?_
 refine pV ?_
 refine tS ?_
 refine tR fun _ _ _ => ?_
 refine pV ?_
 refine tS ?_
 refine tS ?_
 refine tR fun _ _ _ => ?_
 refine pV ?_
 refine tB ?_
 refine tr_loop2 (fun (k : Int) (s : Int) => [(6, .int .i64 k), (5, .int .i64 s), (0, .slice T nt ct), (1, .slice X nx cx), (4, .int .i64 0)]) (fun (k : Int) (s : Int) => [ro T (hdrs ts), rowsR ts, ro X (ints l)]) (fun (k : Int) (s : Int) => (0 ≤ k ∧ k ≤ nx) ∧ s = cstT (xss ts) l k.toNat) (fun (k : Int) (s : Int) => (nx - k).toNat) (0) (0) ⟨rfl, rfl, rfl, rfl, rfl, trivial⟩ (by first | exact cs _ _ | exact CSub.refl _) (⟨⟨by omega, by omega⟩, rfl⟩) (fun k s hI => ?_)
 obtain ⟨⟨hk0, hk1⟩, hs⟩ := hI
 have hcb := cstT_bd htr l k.toNat (by omega)
 refine tS ?_
 refine tS ?_
 refine tR fun _ _ _ => ?_
 iterate 2 refine pV ?_
 refine sV (rLen rfl rfl) ?_
 refine pV ?_
 refine tC rfl (fun h3 => ?_) (fun h3 => ?_)
 ·try simp only [zbA] at h3
  refine tK ?_
  refine tS ?_
  refine tB ?_
  haveI : InB k.toNat ts.length := ⟨by omega⟩
  have htk := htr _ (getD_mem (show k.toNat < ts.length by omega) rowD)
  have htl := htk.1
  have hpos : 0 < (ts.getD k.toNat rowD).xs.length := by omega
  have hrb := htk.at (l.getD k.toNat 0).toNat
  have hlk := hin.get (by omega) k.toNat
  refine tr_draw [0, 1, 2, 3, 4, 5, 6, 7, 8, 9, 10, 11, 12] [] mixed (by kernel_rfl) fun _ _ _ => ?_
  iterate 3 refine pV ?_
  refine sV (rIdxR rfl rfl rfl (by omega) (by omega) (by omega)) ?_
  refine sV (rLdR rfl rfl (by omega)) ?_
  iterate 2 refine pV ?_
  refine sV (rIdxI rfl rfl rfl (by omega) (by omega) (by omega)) ?_
  refine sV (rLdI rfl rfl (by omega)) ?_
  refine sV (rIdxI rfl rfl rfl (by omega) (by omega) (by omega)) ?_
  refine sV (rLdI rfl rfl (by omega)) ?_
  refine sV (rAdd rfl rfl rfl (by omega) (by omega)) ?_
  refine pV ?_
  refine tR fun _ _ _ => ?_
  refine pV ?_
  refine sV (rAdd rfl rfl rfl (by omega) (by omega)) ?_
  refine pV ?_
  refine ⟨k + 1, s + (ts.getD k.toNat rowD).xs.getD (l.getD k.toNat 0).toNat 0, ⟨rfl, rfl, rfl, rfl, rfl, trivial⟩, by first | exact cs _ _ | exact CSub.refl _, ?_⟩
  exact ⟨⟨⟨by omega, by omega⟩, by rw [show (k + 1).toNat = k.toNat + 1 by omega, cstT_succ, hs]⟩, by omega⟩
 ·try simp only [zbA] at h3
  refine tE ?_
  refine tS ?_
  refine tR fun _ _ _ => ?_
  iterate 2 refine pV ?_
  have hkx : k.toNat = l.length := by omega
  exact tr_ret ⟨trivial, _, _, rfl, ⟨by rw [hs, hkx]; rfl, rfl⟩, CSub.nil _, trivial⟩
theorem ref_OHard_ent : Enters Tryz.prog 42 := enters_of Tryz.func42 (by kernel_rfl) (by kernel_rfl)
theorem ref_OHard (T : Option Addr) (nt ct : Nat) (ts : List RowM) (hnt : nt = ts.length) (q : Int) (hq2 : 2 ≤ q) (hq9 : q ≤ 256) (t64 : ts.length ≤ 64) (htr : ∀ r ∈ ts, RowOk q r.xs) :
  Pure Tryz.prog 42 #[.slice T nt ct] [ro T (hdrs ts), rowsR ts] (one (fun v ch => ∃ B cb, v = .slice B (hardL ts).length cb ∧ ch = ow B 3 cb (ints (hardL ts)))) := by
 refine pure_of (args := [.slice T nt ct]) 43 Tryz.func42 rfl rfl rfl ref_OHard_ent ⟨id, id, trivial⟩ (fun w0 => ?_)
 refine tS ?_
 refine tR fun _ _ _ => ?_
 refine pV ?_
 refine tS ?_
 refine tR fun _ _ _ => ?_
 refine pV ?_
 refine tS ?_
 refine tS ?_
 refine tR fun _ _ _ => ?_
 refine pV ?_
 refine tB ?_
 refine tr_nilI 3 ?_
 refine tr_loop4 (fun (k : Int) (B : Option Addr) (cb : Nat) (o : List Int) => [(3, .slice B o.length cb), (4, .int .i64 k), (0, .slice T nt ct), (2, .slice none 0 0)]) (fun (k : Int) (B : Option Addr) (cb : Nat) (o : List Int) => [ow B 3 cb (ints o), ro T (hdrs ts), rowsR ts]) (fun (k : Int) (B : Option Addr) (cb : Nat) (o : List Int) => (0 ≤ k ∧ k ≤ nt) ∧ o = (hardL ts).take k.toNat) (fun (k : Int) (B : Option Addr) (cb : Nat) (o : List Int) => (nt - k).toNat) (0) (none) (0) ([]) ⟨rfl, rfl, rfl, rfl, trivial⟩ (by first | exact cs _ _ | exact CSub.refl _) (⟨⟨by omega, by omega⟩, rfl⟩) (fun k B cb o hI => ?_)
 obtain ⟨⟨hk0, hk1⟩, ho⟩ := hI
 have hol : o.length = k.toNat := by rw [ho, List.length_take, hardL_length]; omega
 refine tS ?_
 refine tS ?_
 refine tR fun _ _ _ => ?_
 iterate 2 refine pV ?_
 refine sV (rLen rfl rfl) ?_
 refine pV ?_
 refine tC rfl (fun h3 => ?_) (fun h3 => ?_)
 ·try simp only [zbA] at h3
  refine tK ?_
  refine tS ?_
  refine tB ?_
  refine tS ?_
  refine tR fun _ _ _ => ?_
  refine pV ?_
  refine tS ?_
  refine tS ?_
  refine tR fun _ _ _ => ?_
  refine pV ?_
  refine tB ?_
  refine tr_loop2 (fun (j : Int) (b : Int) => [(6, .int .i64 j), (5, .int .i64 b), (0, .slice T nt ct), (2, .slice none 0 0), (3, .slice B o.length cb), (4, .int .i64 k), (7, .int .i64 k), (8, .slice T nt ct), (9, .int .i64 nt)]) (fun (j : Int) (b : Int) => [ow B 3 cb (ints o), ro T (hdrs ts), rowsR ts]) (fun (j : Int) (b : Int) => (0 ≤ j ∧ j ≤ (ts.getD k.toNat rowD).xs.length) ∧ b = (amin (ts.getD k.toNat rowD).xs j.toNat : Int)) (fun (j : Int) (b : Int) => ((ts.getD k.toNat rowD).xs.length - j).toNat) (0) (0) ⟨rfl, rfl, rfl, rfl, rfl, rfl, rfl, rfl, rfl, trivial⟩ (by first | exact cs _ _ | exact CSub.refl _) (⟨⟨by omega, by omega⟩, rfl⟩) (fun j b hI => ?_)
  haveI : InB k.toNat ts.length := ⟨by omega⟩
  have htk := htr _ (getD_mem (show k.toNat < ts.length by omega) rowD)
  have htl := htk.1
  have hpos : 0 < (ts.getD k.toNat rowD).xs.length := by omega
  obtain ⟨⟨hj0, hj1⟩, hb⟩ := hI
  have hbl := amin_lt hpos j.toNat (by omega)
  refine tS ?_
  refine tS ?_
  haveI : InB k.toNat ts.length := ⟨by omega⟩
  have htk := htr _ (getD_mem (show k.toNat < ts.length by omega) rowD)
  have htl := htk.1
  have hpos : 0 < (ts.getD k.toNat rowD).xs.length := by omega
  refine tR fun _ _ _ => ?_
  iterate 3 refine pV ?_
  refine sV (rIdxR rfl rfl rfl (by omega) (by omega) (by omega)) ?_
  refine sV (rLdR rfl rfl (by omega)) ?_
  refine sV (rLen rfl rfl) ?_
  refine pV ?_
  refine tC rfl (fun h7 => ?_) (fun h7 => ?_)
  ·try simp only [zbA] at h7
   refine tK ?_
   refine tS ?_
   refine tB ?_
   refine tS ?_
   haveI : InB k.toNat ts.length := ⟨by omega⟩
   have htk := htr _ (getD_mem (show k.toNat < ts.length by omega) rowD)
   have htl := htk.1
   have hpos : 0 < (ts.getD k.toNat rowD).xs.length := by omega
   refine tr_draw [0, 1, 2, 3, 4, 5, 6, 7, 8, 9, 10, 11, 12, 13, 14] [] mixed (by kernel_rfl) fun _ _ _ => ?_
   iterate 2 refine pV ?_
   refine sV (rIdxR rfl rfl rfl (by omega) (by omega) (by omega)) ?_
   refine sV (rLdR rfl rfl (by omega)) ?_
   refine pV ?_
   refine sV (rIdxI rfl rfl rfl (by omega) (by omega) (by omega)) ?_
   refine sV (rLdI rfl rfl (by omega)) ?_
   iterate 2 refine pV ?_
   refine sV (rIdxR rfl rfl rfl (by omega) (by omega) (by omega)) ?_
   refine sV (rLdR rfl rfl (by omega)) ?_
   refine pV ?_
   refine sV (rIdxI rfl rfl rfl (by omega) (by omega) (by omega)) ?_
   refine sV (rLdI rfl rfl (by omega)) ?_
   refine pV ?_
   refine tC rfl (fun h9 => ?_) (fun h9 => ?_)
   ·try simp only [zbA] at h9
    refine tR fun _ _ _ => ?_
    iterate 2 refine pV ?_
    refine tR fun _ _ _ => ?_
    refine pV ?_
    refine sV (rAdd rfl rfl rfl (by omega) (by omega)) ?_
    refine pV ?_
    refine ⟨j + 1, j, ⟨rfl, rfl, rfl, rfl, rfl, rfl, rfl, rfl, rfl, trivial⟩, by first | exact cs _ _ | exact CSub.refl _, ?_⟩
    exact ⟨⟨⟨by omega, by omega⟩, by rw [show (j + 1).toNat = j.toNat + 1 by omega, amin_yes (by rw [hb] at h9; simpa using h9)]; omega⟩, by omega⟩
   ·try simp only [zbA] at h9
    refine tK ?_
    refine tR fun _ _ _ => ?_
    refine pV ?_
    refine sV (rAdd rfl rfl rfl (by omega) (by omega)) ?_
    refine pV ?_
    refine ⟨j + 1, b, ⟨rfl, rfl, rfl, rfl, rfl, rfl, rfl, rfl, rfl, trivial⟩, by first | exact cs _ _ | exact CSub.refl _, ?_⟩
    exact ⟨⟨⟨by omega, by omega⟩, by rw [show (j + 1).toNat = j.toNat + 1 by omega, amin_no (by rw [hb] at h9; simpa using h9)]; exact hb⟩, by omega⟩
  ·try simp only [zbA] at h7
   refine tE ?_
   refine tR fun _ _ _ => ?_
   iterate 2 refine pV ?_
   refine eV (eLit1I rfl rfl rfl rfl (fun A11 => ?_))
   refine eV (eAppI rfl rfl rfl rfl rfl (by first | rfl | simp | omega) (by first | rfl | simp | omega) (by first | omega | (simp; omega)) (fun A11a c11a => ?_))
   refine pV ?_
   refine tR fun _ _ _ => ?_
   refine pV ?_
   refine sV (rAdd rfl rfl rfl (by omega) (by omega)) ?_
   refine pV ?_
   refine ⟨k + 1, A11a, c11a, o ++ [b], ⟨rfl, rfl, rfl, rfl, trivial⟩, by first | exact cs _ _ | exact CSub.refl _, ?_⟩
   have hkk : (k + 1).toNat = k.toNat + 1 := by omega
   have hbh : b = (hardI (ts.getD k.toNat rowD).xs : Int) := by rw [hb, show j.toNat = (ts.getD k.toNat rowD).xs.length by omega]; rfl
   exact ⟨⟨⟨by omega, by omega⟩, by rw [hkk, hardL_take ts (by omega), ← ho, hbh]⟩, by omega⟩
 ·try simp only [zbA] at h3
  refine tE ?_
  refine tS ?_
  refine tR fun _ _ _ => ?_
  iterate 2 refine pV ?_
  have hkt : k.toNat = ts.length := by omega
  have ho2 : o = hardL ts := by rw [ho, hkt, ← hardL_length, List.take_length]
  subst ho2
  exact tr_ret ⟨trivial, _, _, rfl, ⟨_, rfl, B, cb, rfl, rfl⟩, cs _ _, trivial, trivial⟩
theorem ref_ORel_ent : Enters Tryz.prog 78 := enters_of Tryz.func78 (by kernel_rfl) (by kernel_rfl)
theorem ref_ORel (T : Option Addr) (nt ct : Nat) (ts : List RowM) (hnt : nt = ts.length) (q : Int) (hq2 : 2 ≤ q) (hq9 : q ≤ 256) (t64 : ts.length ≤ 64) (htr : ∀ r ∈ ts, RowOk q r.xs) :
  Pure Tryz.prog 78 #[.slice T nt ct] [ro T (hdrs ts), rowsR ts] (one (fun v ch => ∃ B cb, v = .slice B (relL ts).length cb ∧ ch = ow B 3 cb (ints (relL ts)))) := by
 refine pure_of (args := [.slice T nt ct]) 69 Tryz.func78 rfl rfl rfl ref_ORel_ent ⟨id, id, trivial⟩ (fun w0 => ?_)
 refine tS ?_
 refine tR fun _ _ _ => ?_
 refine pV ?_
 refine tS ?_
 refine tR fun _ _ _ => ?_
 refine pV ?_
 refine eV (eCall1 rfl rfl rfl (ref_OHard T nt ct ts hnt q hq2 hq9 t64 htr) ⟨rfl, trivial⟩ ?_)
 rintro _ _ ⟨A1, c1, rfl, rfl⟩
 refine pV ?_
 refine tS ?_
 refine tR fun _ _ _ => ?_
 refine pV ?_
 refine tS ?_
 refine tS ?_
 refine tR fun _ _ _ => ?_
 refine pV ?_
 refine tB ?_
 refine tr_nilI 3 ?_
 refine tr_loop4 (fun (k : Int) (B : Option Addr) (cb : Nat) (o : List Int) => [(4, .slice B o.length cb), (5, .int .i64 k), (0, .slice T nt ct), (2, .slice none 0 0), (3, .slice A1 (hardL ts).length c1)]) (fun (k : Int) (B : Option Addr) (cb : Nat) (o : List Int) => [ow B 3 cb (ints o), ow A1 3 c1 (ints (hardL ts)), ro T (hdrs ts), rowsR ts]) (fun (k : Int) (B : Option Addr) (cb : Nat) (o : List Int) => (0 ≤ k ∧ k ≤ nt) ∧ o = (relL ts).take k.toNat) (fun (k : Int) (B : Option Addr) (cb : Nat) (o : List Int) => (nt - k).toNat) (0) (none) (0) ([]) ⟨rfl, rfl, rfl, rfl, rfl, trivial⟩ (by first | exact cs _ _ | exact CSub.refl _) (⟨⟨by omega, by omega⟩, rfl⟩) (fun k B cb o hI => ?_)
 obtain ⟨⟨hk0, hk1⟩, ho⟩ := hI
 have hol : o.length = k.toNat := by rw [ho, List.length_take, relL_length]; omega
 refine tS ?_
 refine tS ?_
 refine tR fun _ _ _ => ?_
 iterate 2 refine pV ?_
 refine sV (rLen rfl rfl) ?_
 refine pV ?_
 refine tC rfl (fun h4 => ?_) (fun h4 => ?_)
 ·try simp only [zbA] at h4
  refine tK ?_
  refine tS ?_
  refine tB ?_
  refine tS ?_
  refine tR fun _ _ _ => ?_
  refine pV ?_
  refine tS ?_
  refine tS ?_
  refine tR fun _ _ _ => ?_
  refine pV ?_
  refine tB ?_
  refine tr_loop2 (fun (i : Int) (s : Int) => [(7, .int .i64 i), (6, .int .i64 s), (0, .slice T nt ct), (2, .slice none 0 0), (3, .slice A1 (hardL ts).length c1), (4, .slice B o.length cb), (5, .int .i64 k), (10, .int .i64 k), (11, .slice T nt ct), (12, .int .i64 nt)]) (fun (i : Int) (s : Int) => [ow B 3 cb (ints o), ow A1 3 c1 (ints (hardL ts)), ro T (hdrs ts), rowsR ts]) (fun (i : Int) (s : Int) => (0 ≤ i ∧ i ≤ (ts.getD k.toNat rowD).xs.length) ∧ s = sec (ts.getD k.toNat rowD).xs (hardI (ts.getD k.toNat rowD).xs) i.toNat) (fun (i : Int) (s : Int) => ((ts.getD k.toNat rowD).xs.length - i).toNat) (0) (-1) ⟨rfl, rfl, rfl, rfl, rfl, rfl, rfl, rfl, rfl, rfl, trivial⟩ (by first | exact cs _ _ | exact CSub.refl _) (⟨⟨by omega, by omega⟩, rfl⟩) (fun i s hI => ?_)
  haveI : InB k.toNat ts.length := ⟨by omega⟩
  have htk := htr _ (getD_mem (show k.toNat < ts.length by omega) rowD)
  have htl := htk.1
  have hpos : 0 < (ts.getD k.toNat rowD).xs.length := by omega
  obtain ⟨⟨hi0, hi1⟩, hs⟩ := hI
  have hsb := sec_bd (b := hardI (ts.getD k.toNat rowD).xs) htk.2 (by omega) i.toNat (by omega)
  have hhk := hardL_getD ts (show k.toNat < ts.length by omega)
  have hhl := hardI_lt hpos
  refine tS ?_
  refine tS ?_
  haveI : InB k.toNat ts.length := ⟨by omega⟩
  have htk := htr _ (getD_mem (show k.toNat < ts.length by omega) rowD)
  have htl := htk.1
  have hpos : 0 < (ts.getD k.toNat rowD).xs.length := by omega
  refine tR fun _ _ _ => ?_
  iterate 3 refine pV ?_
  refine sV (rIdxR rfl rfl rfl (by omega) (by omega) (by omega)) ?_
  refine sV (rLdR rfl rfl (by omega)) ?_
  refine sV (rLen rfl rfl) ?_
  refine pV ?_
  refine tC rfl (fun h8 => ?_) (fun h8 => ?_)
  ·try simp only [zbA] at h8
   refine tK ?_
   refine tS ?_
   refine tB ?_
   refine tS ?_
   haveI : InB k.toNat ts.length := ⟨by omega⟩
   have htk := htr _ (getD_mem (show k.toNat < ts.length by omega) rowD)
   have htl := htk.1
   have hpos : 0 < (ts.getD k.toNat rowD).xs.length := by omega
   have hhk := hardL_getD ts (show k.toNat < ts.length by omega)
   have hhl := hardI_lt hpos
   have hhln := hardL_length ts
   refine tR fun _ _ _ => ?_
   iterate 3 refine pV ?_
   refine sV (rIdxI rfl rfl rfl (by omega) (by omega) (by omega)) ?_
   refine sV (rLdI rfl rfl (by omega)) ?_
   iterate 2 refine pV ?_
   refine stg rfl rfl rfl rfl rfl (fun hb => by (have hq := hb; try simp only [zbA] at hq); exact rMove rfl rfl) ?_
   refine stg rfl rfl rfl rfl rfl (fun hb => by (have hq := hb; try simp only [zbA] at hq); exact rLss rfl (evg rfl hb) rfl) ?_
   refine stg rfl rfl rfl rfl rfl (fun hb => by (have hq := hb; try simp only [zbA] at hq); exact rMove rfl (evg rfl hb)) ?_
   refine stg2 rfl rfl rfl rfl rfl (fun hb => by (have hq := hb; try simp only [zbA] at hq); exact rMove rfl rfl) ?_
   refine stg2 rfl rfl rfl rfl rfl (fun hb => by (have hq := hb; try simp only [zbA] at hq); exact rMove rfl rfl) ?_
   refine stg2 rfl rfl rfl rfl rfl (fun hb => by (have hq := hb; try simp only [zbA] at hq); exact rIdxR rfl (evg rfl hb) (evg rfl hb) (by omega) (by omega) (by omega)) ?_
   refine stg2 rfl rfl rfl rfl rfl (fun hb => by (have hq := hb; try simp only [zbA] at hq); exact rLdR rfl (evg rfl hb) (by omega)) ?_
   refine stg2 rfl rfl rfl rfl rfl (fun hb => by (have hq := hb; try simp only [zbA] at hq); exact rMove rfl rfl) ?_
   refine stg2 rfl rfl rfl rfl rfl (fun hb => by (have hq := hb; try simp only [zbA] at hq); exact rIdxI rfl (evg rfl hb) (evg rfl hb) (by omega) (by omega) (by omega)) ?_
   refine stg2 rfl rfl rfl rfl rfl (fun hb => by (have hq := hb; try simp only [zbA] at hq); exact rLdI rfl (evg rfl hb) (by omega)) ?_
   refine stg2 rfl rfl rfl rfl rfl (fun hb => by (have hq := hb; try simp only [zbA] at hq); exact rMove rfl rfl) ?_
   refine stg2 rfl rfl rfl rfl rfl (fun hb => by (have hq := hb; try simp only [zbA] at hq); exact rLss rfl (evg rfl hb) (evg rfl hb)) ?_
   refine stg rfl rfl rfl rfl rfl (fun hb => by (have hq := hb; try simp only [zbA] at hq); exact rOrB rfl (evg rfl hb) rfl (evgp rfl hb)) ?_
   refine sV (rAndB rfl rfl rfl rfl) ?_
   refine tC rfl (fun h10 => ?_) (fun h10 => ?_)
   ·try simp only [zbA] at h10
    haveI : InB k.toNat ts.length := ⟨by omega⟩
    have htk := htr _ (getD_mem (show k.toNat < ts.length by omega) rowD)
    have htl := htk.1
    have hpos : 0 < (ts.getD k.toNat rowD).xs.length := by omega
    refine tR fun _ _ _ => ?_
    iterate 2 refine pV ?_
    refine sV (rIdxR rfl rfl rfl (by omega) (by omega) (by omega)) ?_
    refine sV (rLdR rfl rfl (by omega)) ?_
    refine pV ?_
    refine sV (rIdxI rfl rfl rfl (by omega) (by omega) (by omega)) ?_
    refine sV (rLdI rfl rfl (by omega)) ?_
    refine pV ?_
    refine tR fun _ _ _ => ?_
    refine pV ?_
    refine sV (rAdd rfl rfl rfl (by omega) (by omega)) ?_
    refine pV ?_
    refine ⟨i + 1, (ts.getD k.toNat rowD).xs.getD i.toNat 0, ⟨rfl, rfl, rfl, rfl, rfl, rfl, rfl, rfl, rfl, rfl, trivial⟩, by first | exact cs _ _ | exact CSub.refl _, ?_⟩
    exact ⟨⟨⟨by omega, by omega⟩, by rw [show (i + 1).toNat = i.toNat + 1 by omega, sec_yes (by rw [← hs]; omega)]⟩, by omega⟩
   ·try simp only [zbA] at h10
    refine tK ?_
    refine tR fun _ _ _ => ?_
    refine pV ?_
    refine sV (rAdd rfl rfl rfl (by omega) (by omega)) ?_
    refine pV ?_
    refine ⟨i + 1, s, ⟨rfl, rfl, rfl, rfl, rfl, rfl, rfl, rfl, rfl, rfl, trivial⟩, by first | exact cs _ _ | exact CSub.refl _, ?_⟩
    exact ⟨⟨⟨by omega, by omega⟩, by rw [show (i + 1).toNat = i.toNat + 1 by omega, sec_no (by rw [← hs]; omega)]; exact hs⟩, by omega⟩
  ·try simp only [zbA] at h8
   refine tE ?_
   haveI : InB k.toNat ts.length := ⟨by omega⟩
   have htk := htr _ (getD_mem (show k.toNat < ts.length by omega) rowD)
   have htl := htk.1
   have hpos : 0 < (ts.getD k.toNat rowD).xs.length := by omega
   have hhk := hardL_getD ts (show k.toNat < ts.length by omega)
   have hhl := hardI_lt hpos
   have hhln := hardL_length ts
   have hsb := sec_bd (b := hardI (ts.getD k.toNat rowD).xs) htk.2 (by omega) i.toNat (by omega)
   have hrb := htk.at (hardI (ts.getD k.toNat rowD).xs)
   refine tr_plan [ow A1 3 c1 (ints (hardL ts)), ro T (hdrs ts), rowsR ts] [(0, 0), (0, 1), (2, 2), (2, 3), (0, 4), (0, 5), (2, 6), (2, 7), (0, 8), (0, 9), (0, 10), (0, 11), (0, 12), (0, 13), (1, 14), (0, 15)] mixed (by kernel_rfl) fun _ _ _ => ?_
   iterate 2 refine pV ?_
   refine stF rfl rfl rfl rfl (cs _ _) (rMove rfl rfl) ?_
   refine stF rfl rfl rfl rfl (cs _ _) (rMove rfl rfl) ?_
   refine sV (rIdxR rfl rfl rfl (by omega) (by omega) (by omega)) ?_
   refine sV (rLdR rfl rfl (by omega)) ?_
   refine stF rfl rfl rfl rfl (cs _ _) (rMove rfl rfl) ?_
   refine stF rfl rfl rfl rfl (cs _ _) (rMove rfl rfl) ?_
   refine sV (rIdxI rfl rfl rfl (by omega) (by omega) (by omega)) ?_
   refine sV (rLdI rfl rfl (by omega)) ?_
   simp only [hhk, Int.toNat_natCast]
   refine sV (rIdxI rfl rfl rfl (by omega) (by omega) (by omega)) ?_
   refine sV (rLdI rfl rfl (by omega)) ?_
   simp only [Int.toNat_natCast]
   refine sV (rSub rfl rfl rfl (by omega) (by omega)) ?_
   refine eV (eLit1I rfl rfl rfl rfl (fun A12 => ?_))
   refine eV (eAppI rfl rfl rfl rfl rfl (by first | rfl | simp | omega) (by first | rfl | simp | omega) (by first | omega | (simp; omega)) (fun A12a c12a => ?_))
   refine ⟨cs _ _, ?_⟩
   refine pV ?_
   refine tR fun _ _ _ => ?_
   refine pV ?_
   refine sV (rAdd rfl rfl rfl (by omega) (by omega)) ?_
   refine pV ?_
   refine ⟨k + 1, A12a, c12a, o ++ [s - (ts.getD k.toNat rowD).xs.getD (hardI (ts.getD k.toNat rowD).xs) 0], ⟨rfl, rfl, rfl, rfl, rfl, trivial⟩, by first | exact cs _ _ | exact CSub.refl _, ?_⟩
   have hkk : (k + 1).toNat = k.toNat + 1 := by omega
   have hsh : s - (ts.getD k.toNat rowD).xs.getD (hardI (ts.getD k.toNat rowD).xs) 0 = relI (ts.getD k.toNat rowD).xs := by rw [hs, show i.toNat = (ts.getD k.toNat rowD).xs.length by omega]; rfl
   exact ⟨⟨⟨by omega, by omega⟩, by rw [hkk, relL_take ts (by omega), ← ho, hsh]⟩, by omega⟩
 ·try simp only [zbA] at h4
  refine tE ?_
  refine tS ?_
  refine tR fun _ _ _ => ?_
  iterate 2 refine pV ?_
  have hkt : k.toNat = ts.length := by omega
  have ho2 : o = relL ts := by rw [ho, hkt, ← relL_length, List.take_length]
  subst ho2
  exact tr_ret ⟨trivial, _, _, rfl, ⟨_, rfl, B, cb, rfl, rfl⟩, cs _ _, trivial, trivial⟩
end Go.Proofs.YtfdjdokdabmmdaaGreat

namespace Go.Proofs.YtfdjdokdabmmdaaGreat
open Go.RowKit
namespace Vc
section
variable {K : Type} [Fd K] {W : Vc K → Prop} {n c : Nat} {ps : List Nat}
theorem eli_clear {V : List (Vc K)} (h : Eli W n V c ps) (hk : ps.length < V.length) (h1 : V.getD ps.length 0 c = 1) : ∀ k, k ≤ V.length → ∃ V' : List (Vc K), Eli W n V' c ps ∧ V'.length = V.length ∧ V'.getD ps.length 0 = V.getD ps.length 0 ∧ ∀ i, i < k → i ≠ ps.length → V'.getD i 0 c = 0
 | 0, _ => ⟨V, h, rfl, rfl, fun i hi => by omega⟩
 | k + 1, hk1 => by
  obtain ⟨V', e1, e2, e3, e4⟩ := eli_clear h hk h1 k (by omega)
  by_cases hkp : k = ps.length
  ·exact ⟨V', e1, e2, e3, fun i hi hne => e4 i (by omega) hne⟩
  ·refine ⟨_, e1.plus (i := k) (by omega) (by omega) hkp (-(V'.getD k 0 c)), by simpa using e2, ?_, fun i hi hne => ?_⟩
   ·rw [getD_setV, if_neg (fun e => hkp e.1)]; exact e3
   ·rw [getD_setV]
    by_cases e : k = i
    ·subst e
     rw [if_pos ⟨rfl, by omega⟩, add_at, sc_at, e3, h1]; grind
    ·rw [if_neg (fun x => e x.1)]; exact e4 i (by omega) hne
theorem eli_next {V : List (Vc K)} (h : Eli W n V c ps) : ∃ (V' : List (Vc K)) (ps' : List Nat), Eli W n V' (c + 1) ps' ∧ V'.length = V.length := by
 by_cases hz : ∀ i, ps.length ≤ i → i < V.length → V.getD i 0 c = 0
 ·exact ⟨V, ps, h.skip hz, rfl⟩
 ·have : ∃ a, ps.length ≤ a ∧ a < V.length ∧ V.getD a 0 c ≠ 0 := Classical.byContradiction fun hno => hz fun i h1 h2 => Classical.byContradiction fun h3 => hno ⟨i, h1, h2, h3⟩
  obtain ⟨a, h1, h2, h3⟩ := this
  have hk : ps.length < V.length := by omega
  have s1 := h.swap h1 h2
  have e0 : ((V.set ps.length (V.getD a 0)).set a (V.getD ps.length 0)).getD ps.length 0 = V.getD a 0 := by
   rw [getD_setV, getD_setV, List.length_set]
   by_cases e : a = ps.length
   ·subst e; rw [if_pos ⟨rfl, h2⟩]
   ·rw [if_neg (fun x => e x.1), if_pos ⟨rfl, hk⟩]
  have l1 : ((V.set ps.length (V.getD a 0)).set a (V.getD ps.length 0)).length = V.length := by simp
  generalize (V.set ps.length (V.getD a 0)).set a (V.getD ps.length 0) = V1 at s1 e0 l1
  have s2 := s1.scale (by omega) (Fd.inv_ne h3)
  have e1 : (V1.set ps.length (sc (Fd.inv (V.getD a 0 c)) (V1.getD ps.length 0))).getD ps.length 0 c = 1 := by
   rw [getD_setV, if_pos ⟨rfl, by omega⟩, sc_at, e0]; exact Fd.inv_mul _ h3
  have l2 : (V1.set ps.length (sc (Fd.inv (V.getD a 0 c)) (V1.getD ps.length 0))).length = V.length := by simpa using l1
  generalize V1.set ps.length (sc (Fd.inv (V.getD a 0 c)) (V1.getD ps.length 0)) = V2 at s2 e1 l2
  obtain ⟨V3, f1, f2, f3, f4⟩ := eli_clear s2 (by omega) e1 V2.length (Nat.le_refl _)
  exact ⟨V3, ps ++ [c], f1.push (by omega) (by rw [f3]; exact e1) (fun i hi hne => f4 i (by omega) hne), by omega⟩
theorem rr_ex {V : List (Vc K)} (hs : ∀ i j, i < V.length → n ≤ j → V.getD i 0 j = 0) : ∃ (E : List (Vc K)) (qs : List Nat), Rr n E qs ∧ ∀ u, SpL E u ↔ SpL V u := by
 have key : ∀ c, ∃ (V' : List (Vc K)) (ps : List Nat), Eli (SpL V) n V' c ps ∧ V'.length = V.length := fun c => by
  induction c with
  | zero => exact ⟨V, [], Eli.start hs, rfl⟩
  | succ c ih =>
   obtain ⟨V', ps, h, hl⟩ := ih
   obtain ⟨V2, ps2, h2, hl2⟩ := eli_next h
   exact ⟨V2, ps2, h2, by omega⟩
 obtain ⟨V', ps, h, _⟩ := key n
 obtain ⟨h1, h2⟩ := h.done (.inl (Nat.le_refl _)) (Nat.le_refl _)
 exact ⟨_, ps, h1, h2⟩
end
end Vc
theorem xss_take1 {rs : List RowM} {j : Nat} (h : j < rs.length) : (xss rs).take (j + 1) = (xss rs).take j ++ [(rs.getD j rowD).xs] := by
 rw [List.take_add_one, List.getElem?_eq_getElem (show j < (xss rs).length by rw [xss_length]; exact h)]
 have := xss_getD rs j
 rw [List.getD_eq_getElem?_getD, List.getElem?_eq_getElem (show j < (xss rs).length by rw [xss_length]; exact h)] at this
 rw [← this]; rfl
def pkL (os xs : List Int) : List Int := os.map fun i => xs.getD i.toNat 0
theorem pkL_length (os xs : List Int) : (pkL os xs).length = os.length := by simp [pkL]
theorem pkL_getD {os xs : List Int} {j : Nat} (h : j < os.length) : (pkL os xs).getD j 0 = xs.getD (os.getD j 0).toNat 0 := by
 rw [pkL, List.getD_eq_getElem?_getD, List.getElem?_map, List.getElem?_eq_getElem h, List.getD_eq_getElem?_getD (l := os), List.getElem?_eq_getElem h]; rfl
theorem pkL_in {q : Int} (hq : 1 ≤ q) {os xs : List Int} (h : AllIn q xs) : AllIn q (pkL os xs) := fun y hy => by
 obtain ⟨i, _, rfl⟩ := List.mem_map.1 hy
 exact h.get hq _
theorem toN_getD (os : List Int) (j : Nat) : (os.map Int.toNat).getD j 0 = (os.getD j 0).toNat := by
 rw [List.getD_eq_getElem?_getD, List.getElem?_map, List.getD_eq_getElem?_getD]
 cases os[j]? <;> rfl
section
variable {p m : Int} {mod : List Int} [hF : IsF p m mod]
theorem rw_pk (os xs : List Int) : (rw' (pkL os xs) : Vc (El p m mod)) = Vc.pk (os.map Int.toNat) (rw' xs) := Vc.ext fun j => by
 unfold Vc.pk
 rw [List.length_map]
 by_cases h : j < os.length
 ·rw [if_pos h, rw_at, pkL_getD h, rw_at, toN_getD]
 ·rw [if_neg h, rw_at, getD_out (by rw [pkL_length]; omega), el_zero]
theorem vsR_pk {qs rs : List RowM} {os : List Int} (h : xss qs = (xss rs).map (pkL os)) : (vsR qs : List (Vc (El p m mod))) = (vsR rs).map (Vc.pk (os.map Int.toNat)) := by
 rw [vsR_xss, vsR_xss, h, List.map_map, List.map_map]
 exact List.map_congr_left fun xs _ => rw_pk os xs
theorem gd_pk {q : Int} (hq : 1 ≤ q) {w : Nat} {qs rs : List RowM} {os : List Int} (hg : Gd q w rs) (h : xss qs = (xss rs).map (pkL os)) : Gd q os.length qs := fun r hr => by
 have h1 : r.xs ∈ xss qs := List.mem_map.2 ⟨r, hr, rfl⟩
 rw [h] at h1
 obtain ⟨xs, hx, he⟩ := List.mem_map.1 h1
 obtain ⟨r', hr', rfl⟩ := List.mem_map.1 hx
 rw [← he]
 exact ⟨pkL_length _ _, pkL_in hq (hg r' hr').2⟩
noncomputable def indB (p m : Int) (mod : List Int) [hF : IsF p m mod] (rs : List RowM) (os : List Int) : Bool := @decide (Vc.Ind (vsR rs : List (Vc (El p m mod))) (os.map Int.toNat)) (Classical.propDecidable _)
theorem indB_iff {rs : List RowM} {os : List Int} : indB p m mod rs os = true ↔ Vc.Ind (vsR rs : List (Vc (El p m mod))) (os.map Int.toNat) := by unfold indB; exact @decide_eq_true_iff _ (Classical.propDecidable _)
def BasOf (p m : Int) (mod : List Int) [hF : IsF p m mod] (rs : List RowM) (o bs : List Int) : Prop := ∃ (E : List (Vc (El p m mod))) (qs : List Nat), Vc.Rr o.length E qs ∧ (∀ u, Vc.SpL E u ↔ Vc.SpL ((vsR rs).map (Vc.pk (o.map Int.toNat))) u) ∧ bs = qs.map fun q => o.getD q 0
theorem BasOf.one {rs : List RowM} {o a b : List Int} (h : BasOf p m mod rs o a) (k : BasOf p m mod rs o b) : a = b := by
 obtain ⟨E, qs, h1, h2, rfl⟩ := h
 obtain ⟨E', qs', k1, k2, rfl⟩ := k
 rw [(h1.uniq k1 fun u => (h2 u).trans (k2 u).symm).2]
theorem pk_supp (rs : List RowM) (o : List Int) : ∀ i j, i < ((vsR rs : List (Vc (El p m mod))).map (Vc.pk (o.map Int.toNat))).length → o.length ≤ j → ((vsR rs : List (Vc (El p m mod))).map (Vc.pk (o.map Int.toNat))).getD i 0 j = 0 := fun i j hi hj => by
 have := Vc.getD_eq_mem hi (0 : Vc (El p m mod))
 obtain ⟨u, _, hu⟩ := List.mem_map.1 this
 rw [← hu]
 exact Vc.pk_out u (by rw [List.length_map]; exact hj)
theorem mapT (o : List Int) (qs : List Nat) (t : Nat) : ((qs.take t).map fun q => o.getD q 0).map Int.toNat = (qs.take t).map fun q => (o.map Int.toNat).getD q 0 := by
 rw [List.map_map]
 exact List.map_congr_left fun q _ => (toN_getD o q).symm
theorem bas_step {rs : List RowM} {o : List Int} {E : List (Vc (El p m mod))} {qs : List Nat} (h : Vc.Rr o.length E qs) (hs : ∀ u, Vc.SpL E u ↔ Vc.SpL ((vsR rs).map (Vc.pk (o.map Int.toNat))) u) {t i : Nat} (hi : i < o.length) (ht : t ≤ qs.length)
  (hlow : ∀ k, k < t → qs.getD k 0 < i) (hup : ∀ k, t ≤ k → k < qs.length → i ≤ qs.getD k 0) : indB p m mod rs ((qs.take t).map (fun q => o.getD q 0) ++ [o.getD i 0]) = true ↔ t < qs.length ∧ qs.getD t 0 = i := by
 have hl : (o.map Int.toNat).length = o.length := List.length_map ..
 have := Vc.greedy (R := (vsR rs : List (Vc (El p m mod)))) (o := o.map Int.toNat) (E := E) (ps := qs) (by rw [hl]; exact h) hs (t := t) (i := i) (by omega) ht hlow hup
 rw [indB_iff, List.map_append, mapT]
 rw [toN_getD] at this
 exact this
end
end Go.Proofs.YtfdjdokdabmmdaaGreat

set_option maxRecDepth 100000
namespace Go.Proofs.YtfdjdokdabmmdaaGreat
open Go.RowKit
theorem slc_insF_ent : Enters Tryz.prog 120 := enters_of Tryz.func120 (by kernel_rfl) (by kernel_rfl)
theorem slc_insF (A : Option Addr) (n c : Nat) (xs : List Int) (hn : n = xs.length) (h9 : xs.length ≤ 1000000) (a b : Int) (ha : 0 ≤ a) (hab : a ≤ b) (hb : b ≤ xs.length) (f : FuncId) (lb : List Value) (Gc : List Chunk) (r : Int → Int) (hr : ∀ x, 0 ≤ r x ∧ r x ≤ 4294967296) (hf : ∀ x ∈ xs, ∀ y ∈ xs, Pure Tryz.prog f ([Value.int .i64 x, Value.int .i64 y] ++ lb).toArray Gc (isV (.int .i64 (r y - r x)))) (ht : Tie r (gd xs) a.toNat b.toNat) :
  Mut Tryz.prog 120 #[.slice A n c, .int .i64 a, .int .i64 b, .func (.func f) #[] lb.toArray] [ow A 3 c (ints xs)] [bun Gc] (one (fun v ch => v = .tuple #[] ∧ ∃ ys : List Int, ch = ow A 3 c (ints ys) ∧ SrtTo r xs ys a.toNat b.toNat)) := by
 refine mut_of (args := [.slice A n c, .int .i64 a, .int .i64 b, .func (.func f) #[] lb.toArray]) 53 (F := [ow A 3 c (ints xs), bun Gc]) rfl Tryz.func120 rfl rfl rfl slc_insF_ent (fun w0 => ?_)
 refine tS ?_
 refine tR fun _ _ _ => ?_
 refine pV ?_
 refine sV (rAdd rfl rfl rfl (by omega) (by omega)) ?_
 refine pV ?_
 refine tB ?_
 refine tr_loop2 (fun (i : Int) (ys : List Int) => [(0, .slice A n c), (8, .int .i64 i), (1, .int .i64 a), (2, .int .i64 b), (3, .func (.func f) #[] lb.toArray)]) (fun (i : Int) (ys : List Int) => [ow A 3 c (ints ys), bun Gc]) (fun (i : Int) (ys : List Int) => (a + 1 ≤ i ∧ (i ≤ b ∨ i = a + 1)) ∧ ys.Perm xs ∧ Frm (gd xs) (gd ys) a.toNat b.toNat ∧ Srt r (gd ys) a.toNat i.toNat ∧ Tie r (gd ys) a.toNat b.toNat) (fun (i : Int) (ys : List Int) => (b - i).toNat) ((a + 1)) (xs) ⟨rfl, rfl, rfl, rfl, rfl, trivial⟩ (by first | exact cs _ _ | exact CSub.refl _) (⟨⟨by omega, .inr rfl⟩, List.Perm.refl _, Frm.refl _ _ _, fun u v h1 h2 h3 => by omega, ht⟩) (fun i ys hI => ?_)
 obtain ⟨⟨hi0, hi1⟩, hp0, hfr0, hs0, ht0⟩ := hI
 have hyl := hp0.length_eq
 refine tS ?_
 refine tS ?_
 refine tR fun _ _ _ => ?_
 iterate 3 refine pV ?_
 refine tC rfl (fun h1 => ?_) (fun h1 => ?_)
 ·try simp only [zbA] at h1
  refine tK ?_
  refine tS ?_
  refine tB ?_
  refine tS ?_
  refine tR fun _ _ _ => ?_
  iterate 2 refine pV ?_
  refine tB ?_
  refine tr_loop2 (fun (j : Int) (zs : List Int) => [(0, .slice A n c), (9, .int .i64 j), (1, .int .i64 a), (2, .int .i64 b), (3, .func (.func f) #[] lb.toArray), (8, .int .i64 i), (12, .int .i64 i), (13, .int .i64 b), (17, .int .i64 i)]) (fun (j : Int) (zs : List Int) => [ow A 3 c (ints zs), bun Gc]) (fun (j : Int) (zs : List Int) => (a ≤ j ∧ j ≤ i) ∧ zs.Perm xs ∧ Frm (gd xs) (gd zs) a.toNat b.toNat ∧ InsJ r (gd zs) a.toNat b.toNat i.toNat j.toNat) (fun (j : Int) (zs : List Int) => j.toNat) (i) (ys) ⟨rfl, rfl, rfl, rfl, rfl, rfl, rfl, rfl, rfl, trivial⟩ (by first | exact cs _ _ | exact CSub.refl _) (⟨⟨by omega, by omega⟩, hp0, hfr0, InsJ.start hs0 ht0 (by omega)⟩) (fun j zs hI => ?_)
  obtain ⟨⟨hj0, hj1⟩, hp, hfr, hJ⟩ := hI
  have hzl := hp.length_eq
  have hm1 : zs.getD j.toNat 0 ∈ xs := hp.mem_iff.1 (getD_mem (show (j.toNat) < zs.length by omega) 0)
  have hm2 : zs.getD (j - 1).toNat 0 ∈ xs := hp.mem_iff.1 (getD_mem (show ((j - 1).toNat) < zs.length by omega) 0)
  have hb1 := hr (zs.getD j.toNat 0)
  have hb2 := hr (zs.getD (j - 1).toNat 0)
  refine tS ?_
  refine tS ?_
  refine tr_draw [0, 1, 2, 3, 4, 5, 6, 7, 8, 9, 10, 11, 12, 13, 14, 15, 16] [] mixed (by kernel_rfl) fun _ _ _ => ?_
  iterate 4 refine pV ?_
  refine stg rfl rfl rfl rfl rfl (fun hb => by (have hq := hb; try simp only [zbA] at hq); exact rMove rfl rfl) ?_
  refine stg rfl rfl rfl rfl rfl (fun hb => by (have hq := hb; try simp only [zbA] at hq); exact rMove rfl rfl) ?_
  refine stg rfl rfl rfl rfl rfl (fun hb => by (have hq := hb; try simp only [zbA] at hq); exact rMove rfl rfl) ?_
  refine stg rfl rfl rfl rfl rfl (fun hb => by (have hq := hb; try simp only [zbA] at hq); exact rIdxI rfl (evg rfl hb) (evg rfl hb) (by omega) (by omega) (by omega)) ?_
  refine stg rfl rfl rfl rfl rfl (fun hb => by (have hq := hb; try simp only [zbA] at hq); exact rLdI rfl (evg rfl hb) (by omega)) ?_
  refine stg rfl rfl rfl rfl rfl (fun hb => by (have hq := hb; try simp only [zbA] at hq); exact rMove rfl rfl) ?_
  refine stg rfl rfl rfl rfl rfl (fun hb => by (have hq := hb; try simp only [zbA] at hq); exact rMove rfl rfl) ?_
  refine stg rfl rfl rfl rfl rfl (fun hb => by (have hq := hb; try simp only [zbA] at hq); exact rSub rfl (evg rfl hb) rfl (by omega) (by omega)) ?_
  refine stg rfl rfl rfl rfl rfl (fun hb => by (have hq := hb; try simp only [zbA] at hq); exact rIdxI rfl (evg rfl hb) (evg rfl hb) (by omega) (by omega) (by omega)) ?_
  refine stg rfl rfl rfl rfl rfl (fun hb => by (have hq := hb; try simp only [zbA] at hq); exact rLdI rfl (evg rfl hb) (by omega)) ?_
  refine efg rfl rfl rfl rfl rfl (fun hb => by (have hq := hb; try simp only [zbA] at hq); exact eCallFV rfl rfl rfl (evg rfl hb) (hf _ hm1 _ hm2) ⟨(evg rfl hb), (evg rfl hb), trivial⟩ ent_bun ⟨rfl, rfl⟩) ?_
  refine stg rfl rfl rfl rfl rfl (fun hb => by (have hq := hb; try simp only [zbA] at hq); exact rLss rfl (evg rfl hb) rfl) ?_
  refine sV (rAndB rfl rfl rfl rfl) ?_
  refine tC rfl (fun h4 => ?_) (fun h4 => ?_)
  ·try simp only [zbA] at h4
   refine tK ?_
   refine tS ?_
   refine tB ?_
   refine tr_plan [] [(0, 0), (0, 1), (2, 2), (2, 3), (2, 4), (0, 5), (0, 6), (0, 7), (0, 8), (0, 9), (0, 10), (0, 11), (0, 12), (0, 13), (0, 14), (1, 15), (0, 16), (1, 17)] mixed (by kernel_rfl) fun _ _ _ => ?_
   iterate 2 refine pV ?_
   refine stF rfl rfl rfl rfl (cs _ _) (rMove rfl rfl) ?_
   refine stF rfl rfl rfl rfl (cs _ _) (rMove rfl rfl) ?_
   refine stF rfl rfl rfl rfl (cs _ _) (rSub rfl rfl rfl (by omega) (by omega)) ?_
   iterate 2 refine pV ?_
   refine sV (rSub rfl rfl rfl (by omega) (by omega)) ?_
   refine sV (rIdxI rfl rfl rfl (by omega) (by omega) (by omega)) ?_
   refine sV (rLdI rfl rfl (by omega)) ?_
   iterate 2 refine pV ?_
   refine sV (rIdxI rfl rfl rfl (by omega) (by omega) (by omega)) ?_
   refine sV (rLdI rfl rfl (by omega)) ?_
   refine sV (rIdxI rfl rfl rfl (by omega) (by omega) (by omega)) ?_
   refine eV (eStI rfl rfl rfl rfl (by omega) ?_)
   refine ⟨cs _ _, ?_⟩
   refine sV (rIdxI rfl rfl rfl (by omega) (by omega) (by rw [List.length_set]; omega)) ?_
   refine eV (eStI rfl rfl rfl rfl (by rw [List.length_set]; omega) ?_)
   refine ⟨cs _ _, ?_⟩
   refine tR fun _ _ _ => ?_
   refine pV ?_
   refine sV (rSub rfl rfl rfl (by omega) (by omega)) ?_
   refine pV ?_
   refine ⟨j - 1, swL zs j.toNat (j - 1).toNat, ⟨rfl, rfl, rfl, rfl, rfl, rfl, rfl, rfl, rfl, trivial⟩, by first | exact cs _ _ | exact CSub.refl _, ?_⟩
   have e := gd_swL (xs := zs) (i := j.toNat) (j := (j - 1).toNat) (by omega) (by omega)
   refine ⟨⟨⟨by omega, by omega⟩, (swL_perm (by omega) (by omega)).trans hp, ?_, ?_⟩, by omega⟩
   ·rw [e]; exact hfr.trans (swp_frm _ (by omega) (by omega) (by omega) (by omega))
   ·rw [e, show (j - 1).toNat = j.toNat - 1 by omega]
    refine hJ.step (by omega) (by omega) (by omega) ?_
    have e2 : (gd zs) (j.toNat - 1) = zs.getD (j - 1).toNat 0 := by rw [show (j - 1).toNat = j.toNat - 1 by omega]; rfl
    rw [e2]
    show _ < r (zs.getD j.toNat 0)
    omega
  ·try simp only [zbA] at h4
   refine tE ?_
   refine tR fun _ _ _ => ?_
   refine pV ?_
   refine sV (rAdd rfl rfl rfl (by omega) (by omega)) ?_
   refine pV ?_
   refine ⟨i + 1, zs, ⟨rfl, rfl, rfl, rfl, rfl, trivial⟩, by first | exact cs _ _ | exact CSub.refl _, ?_⟩
   have hst := hJ.stop (by omega) (by omega) (by omega) (by
    by_cases hja : j = a
    ·exact .inl (by omega)
    ·refine .inr ?_
     have e : (gd zs) (j.toNat - 1) = zs.getD (j - 1).toNat 0 := by rw [show (j - 1).toNat = j.toNat - 1 by omega]; rfl
     rw [e]
     show r (zs.getD j.toNat 0) ≤ _
     omega)
   exact ⟨⟨⟨by omega, .inl (by omega)⟩, hp, hfr, by rw [show (i + 1).toNat = i.toNat + 1 by omega]; exact hst.1, hst.2⟩, by omega⟩
 ·try simp only [zbA] at h1
  refine tE ?_
  have hsf : Srt r (gd ys) a.toNat b.toNat := hs0.sub (Nat.le_refl _) (by omega)
  exact ⟨trivial, _, _, .nil, ⟨_, rfl, rfl, ys, rfl, ⟨hp0, hfr0, hsf⟩⟩, cs _ _, trivial, trivial⟩
theorem slc_swr_ent : Enters Tryz.prog 130 := enters_of Tryz.func130 (by kernel_rfl) (by kernel_rfl)
theorem slc_swr (A : Option Addr) (n c : Nat) (xs : List Int) (hn : n = xs.length) (h9 : xs.length ≤ 1000000) (a b z : Int) (ha : 0 ≤ a) (hn0 : 0 ≤ z) (hab : a + z ≤ b) (hb : b + z ≤ xs.length) (fv : Value) :
  Mut Tryz.prog 130 #[.slice A n c, .int .i64 a, .int .i64 b, .int .i64 z, fv] [ow A 3 c (ints xs)] [] (one (fun v ch => v = .tuple #[] ∧ ∃ ys : List Int, ch = ow A 3 c (ints ys) ∧ ys.Perm xs ∧ gd ys = swr (gd xs) a.toNat b.toNat z.toNat)) := by
 refine mut_of (args := [.slice A n c, .int .i64 a, .int .i64 b, .int .i64 z, fv]) 38 (F := [ow A 3 c (ints xs)]) rfl Tryz.func130 rfl rfl rfl slc_swr_ent (fun w0 => ?_)
 refine tS ?_
 refine tR fun _ _ _ => ?_
 refine pV ?_
 refine tB ?_
 refine tr_loop2 (fun (i : Int) (zs : List Int) => [(0, .slice A n c), (10, .int .i64 i), (1, .int .i64 a), (2, .int .i64 b), (3, .int .i64 z)]) (fun (i : Int) (zs : List Int) => [ow A 3 c (ints zs)]) (fun (i : Int) (zs : List Int) => (0 ≤ i ∧ i ≤ z) ∧ zs.Perm xs ∧ gd zs = swr (gd xs) a.toNat b.toNat i.toNat) (fun (i : Int) (zs : List Int) => (z - i).toNat) (0) (xs) ⟨rfl, rfl, rfl, rfl, rfl, trivial⟩ (by first | exact cs _ _ | exact CSub.refl _) (⟨⟨by omega, by omega⟩, List.Perm.refl _, by rw [Int.toNat_zero, swr_zero]⟩) (fun i zs hI => ?_)
 obtain ⟨⟨hi0, hi1⟩, hp, hg⟩ := hI
 have hzl := hp.length_eq
 refine tS ?_
 refine tS ?_
 refine tR fun _ _ _ => ?_
 iterate 3 refine pV ?_
 refine tC rfl (fun h1 => ?_) (fun h1 => ?_)
 ·try simp only [zbA] at h1
  refine tK ?_
  refine tS ?_
  refine tB ?_
  refine tr_plan [] [(0, 0), (0, 1), (0, 2), (0, 3), (2, 4), (2, 5), (2, 6), (2, 7), (0, 8), (0, 9), (0, 10), (0, 11), (0, 12), (0, 13), (0, 14), (0, 15), (0, 16), (0, 17), (0, 18), (0, 19), (0, 20), (1, 21), (0, 22), (1, 23)] mixed (by kernel_rfl) fun _ _ _ => ?_
  iterate 3 refine pV ?_
  refine sV (rAdd rfl rfl rfl (by omega) (by omega)) ?_
  refine stF rfl rfl rfl rfl (cs _ _) (rMove rfl rfl) ?_
  refine stF rfl rfl rfl rfl (cs _ _) (rMove rfl rfl) ?_
  refine stF rfl rfl rfl rfl (cs _ _) (rMove rfl rfl) ?_
  refine stF rfl rfl rfl rfl (cs _ _) (rAdd rfl rfl rfl (by omega) (by omega)) ?_
  iterate 3 refine pV ?_
  refine sV (rAdd rfl rfl rfl (by omega) (by omega)) ?_
  refine sV (rIdxI rfl rfl rfl (by omega) (by omega) (by omega)) ?_
  refine sV (rLdI rfl rfl (by omega)) ?_
  iterate 3 refine pV ?_
  refine sV (rAdd rfl rfl rfl (by omega) (by omega)) ?_
  refine sV (rIdxI rfl rfl rfl (by omega) (by omega) (by omega)) ?_
  refine sV (rLdI rfl rfl (by omega)) ?_
  refine sV (rIdxI rfl rfl rfl (by omega) (by omega) (by omega)) ?_
  refine eV (eStI rfl rfl rfl rfl (by omega) ?_)
  refine ⟨cs _ _, ?_⟩
  refine sV (rIdxI rfl rfl rfl (by omega) (by omega) (by rw [List.length_set]; omega)) ?_
  refine eV (eStI rfl rfl rfl rfl (by rw [List.length_set]; omega) ?_)
  refine ⟨cs _ _, ?_⟩
  refine tR fun _ _ _ => ?_
  refine pV ?_
  refine sV (rAdd rfl rfl rfl (by omega) (by omega)) ?_
  refine pV ?_
  refine ⟨i + 1, swL zs (a + i).toNat (b + i).toNat, ⟨rfl, rfl, rfl, rfl, rfl, trivial⟩, by first | exact cs _ _ | exact CSub.refl _, ?_⟩
  have e := gd_swL (xs := zs) (i := (a + i).toNat) (j := (b + i).toNat) (by omega) (by omega)
  refine ⟨⟨⟨by omega, by omega⟩, (swL_perm (by omega) (by omega)).trans hp, ?_⟩, by omega⟩
  rw [e, hg, show (a + i).toNat = a.toNat + i.toNat by omega, show (b + i).toNat = b.toNat + i.toNat by omega, show (i + 1).toNat = i.toNat + 1 by omega]
  exact swr_succ _ (by omega)
 ·try simp only [zbA] at h1
  refine tE ?_
  have hin : i = z := by omega
  rw [hin] at hg
  exact ⟨trivial, _, _, .nil, ⟨_, rfl, rfl, zs, rfl, ⟨hp, hg⟩⟩, cs _ _, trivial, trivial⟩
theorem slc_rot_ent : Enters Tryz.prog 129 := enters_of Tryz.func129 (by kernel_rfl) (by kernel_rfl)
theorem slc_rot (A : Option Addr) (n c : Nat) (xs : List Int) (hn : n = xs.length) (h9 : xs.length ≤ 1000000) (a m b : Int) (ha : 0 ≤ a) (ham : a < m) (hmb : m < b) (hb : b ≤ xs.length) (fv : Value) :
  Mut Tryz.prog 129 #[.slice A n c, .int .i64 a, .int .i64 m, .int .i64 b, fv] [ow A 3 c (ints xs)] [] (one (fun v ch => v = .tuple #[] ∧ ∃ ys : List Int, ch = ow A 3 c (ints ys) ∧ ys.Perm xs ∧ gd ys = rot (gd xs) a.toNat m.toNat b.toNat)) := by
 refine mut_of (args := [.slice A n c, .int .i64 a, .int .i64 m, .int .i64 b, fv]) 58 (F := [ow A 3 c (ints xs)]) rfl Tryz.func129 rfl rfl rfl slc_rot_ent (fun w0 => ?_)
 refine tS ?_
 refine tR fun _ _ _ => ?_
 iterate 2 refine pV ?_
 refine sV (rSub rfl rfl rfl (by omega) (by omega)) ?_
 refine pV ?_
 refine tS ?_
 refine tR fun _ _ _ => ?_
 iterate 2 refine pV ?_
 refine sV (rSub rfl rfl rfl (by omega) (by omega)) ?_
 refine pV ?_
 refine tS ?_
 refine tB ?_
 refine tr_loop3 (fun (i : Int) (j : Int) (zs : List Int) => [(0, .slice A n c), (10, .int .i64 i), (11, .int .i64 j), (2, .int .i64 m), (4, fv)]) (fun (i : Int) (j : Int) (zs : List Int) => [ow A 3 c (ints zs)]) (fun (i : Int) (j : Int) (zs : List Int) => (1 ≤ i ∧ i ≤ m - a ∧ 1 ≤ j ∧ m + j ≤ b) ∧ zs.Perm xs ∧ rot (gd zs) (m.toNat - i.toNat) m.toNat (m.toNat + j.toNat) = rot (gd xs) a.toNat m.toNat b.toNat) (fun (i : Int) (j : Int) (zs : List Int) => (i + j).toNat) ((m - a)) ((b - m)) (xs) ⟨rfl, rfl, rfl, rfl, rfl, trivial⟩ (by first | exact cs _ _ | exact CSub.refl _) (⟨⟨by omega, by omega, by omega, by omega⟩, List.Perm.refl _, by rw [show m.toNat - (m - a).toNat = a.toNat by omega, show m.toNat + (b - m).toNat = b.toNat by omega]⟩) (fun i j zs hI => ?_)
 obtain ⟨⟨hi0, hi1, hj0, hj1⟩, hp, hg⟩ := hI
 have hzl := hp.length_eq
 refine tS ?_
 refine tS ?_
 refine tR fun _ _ _ => ?_
 iterate 3 refine pV ?_
 refine tC rfl (fun h2 => ?_) (fun h2 => ?_)
 ·try simp only [zbA] at h2
  refine tK ?_
  refine tB ?_
  refine tS ?_
  refine tR fun _ _ _ => ?_
  iterate 3 refine pV ?_
  refine tC rfl (fun h3 => ?_) (fun h3 => ?_)
  ·try simp only [zbA] at h3
   refine tS ?_
   refine tR fun _ _ _ => ?_
   iterate 3 refine pV ?_
   refine sV (rSub rfl rfl rfl (by omega) (by omega)) ?_
   iterate 3 refine pV ?_
   refine eV (eCallM1 rfl rfl rfl (slc_swr A n c zs (by omega) (by omega) (m - i) m j (by omega) (by omega) (by omega) (by omega) _) ⟨rfl, rfl, rfl, rfl, rfl, trivial⟩ ?_)
   rintro _ _ ⟨rfl, us, rfl, hpu, hgu⟩
   refine tR fun _ _ _ => ?_
   iterate 2 refine pV ?_
   refine sV (rSub rfl rfl rfl (by omega) (by omega)) ?_
   refine pV ?_
   refine ⟨i - j, j, us, ⟨rfl, rfl, rfl, rfl, rfl, trivial⟩, by first | exact cs _ _ | exact CSub.refl _, ?_⟩
   refine ⟨⟨⟨by omega, by omega, by omega, by omega⟩, hpu.trans hp, ?_⟩, by omega⟩
   rw [← hg, hgu, show (m - i).toNat = m.toNat - i.toNat by omega, show m.toNat - (i - j).toNat = m.toNat - i.toNat + j.toNat by omega]
   exact rot_gt _ (by omega) (by omega)
  ·try simp only [zbA] at h3
   refine tS ?_
   refine tR fun _ _ _ => ?_
   iterate 3 refine pV ?_
   refine sV (rSub rfl rfl rfl (by omega) (by omega)) ?_
   iterate 2 refine pV ?_
   refine sV (rAdd rfl rfl rfl (by omega) (by omega)) ?_
   refine pV ?_
   refine sV (rSub rfl rfl rfl (by omega) (by omega)) ?_
   iterate 2 refine pV ?_
   refine eV (eCallM1 rfl rfl rfl (slc_swr A n c zs (by omega) (by omega) (m - i) (m + j - i) i (by omega) (by omega) (by omega) (by omega) _) ⟨rfl, rfl, rfl, rfl, rfl, trivial⟩ ?_)
   rintro _ _ ⟨rfl, us, rfl, hpu, hgu⟩
   refine tR fun _ _ _ => ?_
   iterate 2 refine pV ?_
   refine sV (rSub rfl rfl rfl (by omega) (by omega)) ?_
   refine pV ?_
   refine ⟨i, j - i, us, ⟨rfl, rfl, rfl, rfl, rfl, trivial⟩, by first | exact cs _ _ | exact CSub.refl _, ?_⟩
   refine ⟨⟨⟨by omega, by omega, by omega, by omega⟩, hpu.trans hp, ?_⟩, by omega⟩
   rw [← hg, hgu, show (m - i).toNat = m.toNat - i.toNat by omega, show (m + j - i).toNat = m.toNat + j.toNat - i.toNat by omega, show (j - i).toNat = j.toNat - i.toNat by omega]
   exact rot_lt _ (by omega) (by omega)
 ·try simp only [zbA] at h2
  refine tE ?_
  refine tR fun _ _ _ => ?_
  iterate 3 refine pV ?_
  refine sV (rSub rfl rfl rfl (by omega) (by omega)) ?_
  iterate 3 refine pV ?_
  refine eV (eCallM1 rfl rfl rfl (slc_swr A n c zs (by omega) (by omega) (m - i) m i (by omega) (by omega) (by omega) (by omega) _) ⟨rfl, rfl, rfl, rfl, rfl, trivial⟩ ?_)
  rintro _ _ ⟨rfl, us, rfl, hpu, hgu⟩
  have hij : i = j := by omega
  have hfin : gd us = rot (gd xs) a.toNat m.toNat b.toNat := by
   rw [← hg, hgu, ← hij, show (m - i).toNat = m.toNat - i.toNat by omega]
   exact rot_eq _ (by omega)
  exact ⟨trivial, _, _, .nil, ⟨_, rfl, rfl, us, rfl, ⟨hpu.trans hp, hfin⟩⟩, cs _ _, trivial, trivial⟩
theorem slc_symS_ent : Enters Tryz.prog 121 := enters_of Tryz.func121 (by kernel_rfl) (by kernel_rfl)
theorem slc_symS (A : Option Addr) (n c : Nat) (xs : List Int) (hn : n = xs.length) (h9 : xs.length ≤ 1000000) (a m b : Int) (ha : 0 ≤ a) (ham : a < m) (hmb : m < b) (hb : b ≤ xs.length) (f : FuncId) (lb : List Value) (Gc : List Chunk) (r : Int → Int) (hr : ∀ x, 0 ≤ r x ∧ r x ≤ 4294967296) (hf : ∀ x ∈ xs, ∀ y ∈ xs, Pure Tryz.prog f ([Value.int .i64 x, Value.int .i64 y] ++ lb).toArray Gc (isV (.int .i64 (r y - r x)))) (hA : Srt r (gd xs) a.toNat m.toNat) (hB : Srt r (gd xs) m.toNat b.toNat) (hc : Crs r (gd xs) a.toNat m.toNat b.toNat) (ih : ∀ (xs' : List Int) (a' m' b' : Int), xs'.length = xs.length → xs'.Perm xs → 0 ≤ a' → a' < m' → m' < b' → b' ≤ xs.length → b' - a' < b - a → Srt r (gd xs') a'.toNat m'.toNat → Srt r (gd xs') m'.toNat b'.toNat → Crs r (gd xs') a'.toNat m'.toNat b'.toNat → Mut Tryz.prog 121 #[.slice A n c, .int .i64 a', .int .i64 m', .int .i64 b', .func (.func f) #[] lb.toArray] [ow A 3 c (ints xs')] [bun Gc] (one (fun v ch => v = .tuple #[] ∧ ∃ ys : List Int, ch = ow A 3 c (ints ys) ∧ SrtTo r xs' ys a'.toNat b'.toNat))) :
  Mut Tryz.prog 121 #[.slice A n c, .int .i64 a, .int .i64 m, .int .i64 b, .func (.func f) #[] lb.toArray] [ow A 3 c (ints xs)] [bun Gc] (one (fun v ch => v = .tuple #[] ∧ ∃ ys : List Int, ch = ow A 3 c (ints ys) ∧ SrtTo r xs ys a.toNat b.toNat)) := by
 refine mut_of (args := [.slice A n c, .int .i64 a, .int .i64 m, .int .i64 b, .func (.func f) #[] lb.toArray]) 220 (F := [ow A 3 c (ints xs), bun Gc]) rfl Tryz.func121 rfl rfl rfl slc_symS_ent (fun w0 => ?_)
 refine tS ?_
 refine tS ?_
 refine tR fun _ _ _ => ?_
 iterate 2 refine pV ?_
 refine sV (rSub rfl rfl rfl (by omega) (by omega)) ?_
 refine pV ?_
 refine tC rfl (fun h0 => ?_) (fun h0 => ?_)
 ·try simp only [zbA] at h0
  refine tS ?_
  refine tR fun _ _ _ => ?_
  iterate 2 refine pV ?_
  refine tS ?_
  refine tR fun _ _ _ => ?_
  iterate 2 refine pV ?_
  refine tS ?_
  refine tB ?_
  refine tr_loop2 (fun (i : Int) (j : Int) => [(0, .slice A n c), (1, .int .i64 a), (2, .int .i64 m), (3, .int .i64 b), (4, .func (.func f) #[] lb.toArray), (10, .int .i64 i), (11, .int .i64 j)]) (fun (i : Int) (j : Int) => [ow A 3 c (ints xs), bun Gc]) (fun (i : Int) (j : Int) => (m ≤ i ∧ i ≤ j ∧ j ≤ b) ∧ (∀ u : Nat, a.toNat + 1 ≤ u → u < i.toNat → r (gd xs a.toNat) < r (gd xs u)) ∧ ∀ u : Nat, j.toNat ≤ u → u < b.toNat → r (gd xs u) ≤ r (gd xs a.toNat)) (fun (i : Int) (j : Int) => (j - i).toNat) (m) (b) ⟨rfl, rfl, rfl, rfl, rfl, rfl, rfl, trivial⟩ (by first | exact cs _ _ | exact CSub.refl _) (⟨⟨by omega, by omega, by omega⟩, fun u h1 h2 => by omega, fun u h1 h2 => by omega⟩) (fun i j hI => ?_)
  obtain ⟨⟨hi0, hij, hj1⟩, hlo, hup⟩ := hI
  refine tS ?_
  refine tS ?_
  refine tR fun _ _ _ => ?_
  iterate 3 refine pV ?_
  refine tC rfl (fun h3 => ?_) (fun h3 => ?_)
  ·try simp only [zbA] at h3
   refine tK ?_
   refine tB ?_
   refine tS ?_
   refine tR fun _ _ _ => ?_
   iterate 2 refine pV ?_
   refine sV (rAdd rfl rfl rfl (by omega) (by omega)) ?_
   refine sV (rConv rfl undI undUint rfl (IntWalk.u64_in _ ⟨by omega, by omega⟩)) ?_
   refine sV (rShr1 rfl rfl rfl) ?_
   refine sV (rConv rfl undUint undI rfl (IntWalk.i64_in _ ⟨by omega, by omega⟩)) ?_
   refine pV ?_
   refine tS ?_
   have hm1 : xs.getD ((i + j) / 2).toNat 0 ∈ xs := getD_mem (show (((i + j) / 2).toNat) < xs.length by omega) 0
   have hm2 : xs.getD a.toNat 0 ∈ xs := getD_mem (show (a.toNat) < xs.length by omega) 0
   have hb1 := hr (xs.getD ((i + j) / 2).toNat 0)
   have hb2 := hr (xs.getD a.toNat 0)
   refine tr_draw [0, 1, 2, 3, 4, 5, 6, 7, 8, 9, 10] [] mixed (by kernel_rfl) fun _ _ _ => ?_
   iterate 3 refine pV ?_
   refine sV (rIdxI rfl rfl rfl (by omega) (by omega) (by omega)) ?_
   refine sV (rLdI rfl rfl (by omega)) ?_
   iterate 2 refine pV ?_
   refine sV (rIdxI rfl rfl rfl (by omega) (by omega) (by omega)) ?_
   refine sV (rLdI rfl rfl (by omega)) ?_
   refine eV (eCallFV rfl rfl rfl rfl (hf _ hm1 _ hm2) ⟨rfl, rfl, trivial⟩ ent_bun ?_)
   refine pV ?_
   refine tC rfl (fun h5 => ?_) (fun h5 => ?_)
   ·try simp only [zbA] at h5
    refine tR fun _ _ _ => ?_
    refine pV ?_
    refine sV (rAdd rfl rfl rfl (by omega) (by omega)) ?_
    refine pV ?_
    refine ⟨(i + j) / 2 + 1, j, ⟨rfl, rfl, rfl, rfl, rfl, rfl, rfl, trivial⟩, by first | exact cs _ _ | exact CSub.refl _, ?_⟩
    refine ⟨⟨⟨by omega, by omega, by omega⟩, fun u h1 h2 => ?_, hup⟩, by omega⟩
    have h5' : r (gd xs a.toNat) < r (gd xs ((i + j) / 2).toNat) := by show r (xs.getD _ 0) < r (xs.getD _ 0); omega
    by_cases e : u = ((i + j) / 2).toNat
    ·rw [e]; exact h5'
    ·have := hB u ((i + j) / 2).toNat (by omega) (by omega) (by omega)
     unfold ltO at this; omega
   ·try simp only [zbA] at h5
    refine tR fun _ _ _ => ?_
    iterate 2 refine pV ?_
    refine ⟨i, (i + j) / 2, ⟨rfl, rfl, rfl, rfl, rfl, rfl, rfl, trivial⟩, by first | exact cs _ _ | exact CSub.refl _, ?_⟩
    refine ⟨⟨⟨by omega, by omega, by omega⟩, hlo, fun u h1 h2 => ?_⟩, by omega⟩
    have h5' : r (gd xs ((i + j) / 2).toNat) ≤ r (gd xs a.toNat) := by show r (xs.getD _ 0) ≤ r (xs.getD _ 0); omega
    by_cases e : u = ((i + j) / 2).toNat
    ·rw [e]; exact h5'
    ·have := hB ((i + j) / 2).toNat u (by omega) (by omega) (by omega)
     unfold ltO at this; omega
  ·try simp only [zbA] at h3
   refine tE ?_
   refine tS ?_
   refine tS ?_
   refine tR fun _ _ _ => ?_
   iterate 2 refine pV ?_
   refine tB ?_
   refine tr_loop2 (fun (k : Int) (zs : List Int) => [(0, .slice A n c), (10, .int .i64 i), (13, .int .i64 k), (1, .int .i64 a), (2, .int .i64 m), (3, .int .i64 b), (4, .func (.func f) #[] lb.toArray)]) (fun (k : Int) (zs : List Int) => [ow A 3 c (ints zs), bun Gc]) (fun (k : Int) (zs : List Int) => (a ≤ k ∧ k ≤ i - 1) ∧ zs.Perm xs ∧ gd zs = rot (gd xs) a.toNat (a.toNat + 1) (k.toNat + 1)) (fun (k : Int) (zs : List Int) => (i - k).toNat) (a) (xs) ⟨rfl, rfl, rfl, rfl, rfl, rfl, rfl, trivial⟩ (by first | exact cs _ _ | exact CSub.refl _) (⟨⟨by omega, by omega⟩, List.Perm.refl _, (rot_id _ (.inr rfl) (by omega)).symm⟩) (fun k zs hI => ?_)
   obtain ⟨⟨hk0, hk1⟩, hp, hg⟩ := hI
   have hzl := hp.length_eq
   refine tS ?_
   refine tS ?_
   refine tR fun _ _ _ => ?_
   iterate 2 refine pV ?_
   refine sV (rSub rfl rfl rfl (by omega) (by omega)) ?_
   refine pV ?_
   refine tC rfl (fun h9 => ?_) (fun h9 => ?_)
   ·try simp only [zbA] at h9
    refine tK ?_
    refine tS ?_
    refine tB ?_
    refine tr_plan [] [(0, 0), (0, 1), (2, 2), (2, 3), (2, 4), (0, 5), (0, 6), (0, 7), (0, 8), (0, 9), (0, 10), (0, 11), (0, 12), (0, 13), (0, 14), (1, 15), (0, 16), (1, 17)] mixed (by kernel_rfl) fun _ _ _ => ?_
    iterate 2 refine pV ?_
    refine stF rfl rfl rfl rfl (cs _ _) (rMove rfl rfl) ?_
    refine stF rfl rfl rfl rfl (cs _ _) (rMove rfl rfl) ?_
    refine stF rfl rfl rfl rfl (cs _ _) (rAdd rfl rfl rfl (by omega) (by omega)) ?_
    iterate 2 refine pV ?_
    refine sV (rAdd rfl rfl rfl (by omega) (by omega)) ?_
    refine sV (rIdxI rfl rfl rfl (by omega) (by omega) (by omega)) ?_
    refine sV (rLdI rfl rfl (by omega)) ?_
    iterate 2 refine pV ?_
    refine sV (rIdxI rfl rfl rfl (by omega) (by omega) (by omega)) ?_
    refine sV (rLdI rfl rfl (by omega)) ?_
    refine sV (rIdxI rfl rfl rfl (by omega) (by omega) (by omega)) ?_
    refine eV (eStI rfl rfl rfl rfl (by omega) ?_)
    refine ⟨cs _ _, ?_⟩
    refine sV (rIdxI rfl rfl rfl (by omega) (by omega) (by rw [List.length_set]; omega)) ?_
    refine eV (eStI rfl rfl rfl rfl (by rw [List.length_set]; omega) ?_)
    refine ⟨cs _ _, ?_⟩
    refine tR fun _ _ _ => ?_
    refine pV ?_
    refine sV (rAdd rfl rfl rfl (by omega) (by omega)) ?_
    refine pV ?_
    refine ⟨k + 1, swL zs k.toNat (k + 1).toNat, ⟨rfl, rfl, rfl, rfl, rfl, rfl, rfl, trivial⟩, by first | exact cs _ _ | exact CSub.refl _, ?_⟩
    have e := gd_swL (xs := zs) (i := k.toNat) (j := (k + 1).toNat) (by omega) (by omega)
    refine ⟨⟨⟨by omega, by omega⟩, (swL_perm (by omega) (by omega)).trans hp, ?_⟩, by omega⟩
    rw [e, hg, show (k + 1).toNat = k.toNat + 1 by omega]
    exact rot_first_succ _ (by omega)
   ·try simp only [zbA] at h9
    refine tE ?_
    have hki : k = i - 1 := by omega
    rw [show k.toNat + 1 = i.toNat by omega] at hg
    have hms : m.toNat = a.toNat + 1 := by omega
    have hS := mrg_first (i := i.toNat) (hms ▸ hB) (hms ▸ hc) (by omega) (by omega) hlo (fun u h1 h2 => hup u (by omega) h2)
    exact tr_ret ⟨trivial, _, _, .nil, ⟨_, rfl, rfl, zs, rfl, SrtTo.of_rot hp hg (by omega) (by omega) (Nat.le_refl _) (by omega) hS⟩, cs _ _, trivial, trivial⟩
 ·try simp only [zbA] at h0
  refine tK ?_
  refine tS ?_
  refine tS ?_
  refine tR fun _ _ _ => ?_
  iterate 2 refine pV ?_
  refine sV (rSub rfl rfl rfl (by omega) (by omega)) ?_
  refine pV ?_
  refine tC rfl (fun h12 => ?_) (fun h12 => ?_)
  ·try simp only [zbA] at h12
   refine tS ?_
   refine tR fun _ _ _ => ?_
   iterate 2 refine pV ?_
   refine tS ?_
   refine tR fun _ _ _ => ?_
   iterate 2 refine pV ?_
   refine tS ?_
   refine tB ?_
   refine tr_loop2 (fun (i : Int) (j : Int) => [(0, .slice A n c), (1, .int .i64 a), (2, .int .i64 m), (3, .int .i64 b), (4, .func (.func f) #[] lb.toArray), (14, .int .i64 i), (15, .int .i64 j)]) (fun (i : Int) (j : Int) => [ow A 3 c (ints xs), bun Gc]) (fun (i : Int) (j : Int) => (a ≤ i ∧ i ≤ j ∧ j ≤ m) ∧ (∀ u : Nat, a.toNat ≤ u → u < i.toNat → r (gd xs m.toNat) ≤ r (gd xs u)) ∧ ∀ u : Nat, j.toNat ≤ u → u < m.toNat → r (gd xs u) < r (gd xs m.toNat)) (fun (i : Int) (j : Int) => (j - i).toNat) (a) (m) ⟨rfl, rfl, rfl, rfl, rfl, rfl, rfl, trivial⟩ (by first | exact cs _ _ | exact CSub.refl _) (⟨⟨by omega, by omega, by omega⟩, fun u h1 h2 => by omega, fun u h1 h2 => by omega⟩) (fun i j hI => ?_)
   obtain ⟨⟨hi0, hij, hj1⟩, hlo, hup⟩ := hI
   refine tS ?_
   refine tS ?_
   refine tR fun _ _ _ => ?_
   iterate 3 refine pV ?_
   refine tC rfl (fun h15 => ?_) (fun h15 => ?_)
   ·try simp only [zbA] at h15
    refine tK ?_
    refine tB ?_
    refine tS ?_
    refine tR fun _ _ _ => ?_
    iterate 2 refine pV ?_
    refine sV (rAdd rfl rfl rfl (by omega) (by omega)) ?_
    refine sV (rConv rfl undI undUint rfl (IntWalk.u64_in _ ⟨by omega, by omega⟩)) ?_
    refine sV (rShr1 rfl rfl rfl) ?_
    refine sV (rConv rfl undUint undI rfl (IntWalk.i64_in _ ⟨by omega, by omega⟩)) ?_
    refine pV ?_
    refine tS ?_
    have hm1 : xs.getD m.toNat 0 ∈ xs := getD_mem (show (m.toNat) < xs.length by omega) 0
    have hm2 : xs.getD ((i + j) / 2).toNat 0 ∈ xs := getD_mem (show (((i + j) / 2).toNat) < xs.length by omega) 0
    have hb1 := hr (xs.getD m.toNat 0)
    have hb2 := hr (xs.getD ((i + j) / 2).toNat 0)
    refine tr_draw [0, 1, 2, 3, 4, 5, 6, 7, 8, 9, 10, 11] [] mixed (by kernel_rfl) fun _ _ _ => ?_
    iterate 3 refine pV ?_
    refine sV (rIdxI rfl rfl rfl (by omega) (by omega) (by omega)) ?_
    refine sV (rLdI rfl rfl (by omega)) ?_
    iterate 2 refine pV ?_
    refine sV (rIdxI rfl rfl rfl (by omega) (by omega) (by omega)) ?_
    refine sV (rLdI rfl rfl (by omega)) ?_
    refine eV (eCallFV rfl rfl rfl rfl (hf _ hm1 _ hm2) ⟨rfl, rfl, trivial⟩ ent_bun ?_)
    refine pV ?_
    refine sV (rNotB rfl rfl) ?_
    refine tC rfl (fun h17 => ?_) (fun h17 => ?_)
    ·try simp only [zbA] at h17
     refine tR fun _ _ _ => ?_
     refine pV ?_
     refine sV (rAdd rfl rfl rfl (by omega) (by omega)) ?_
     refine pV ?_
     refine ⟨(i + j) / 2 + 1, j, ⟨rfl, rfl, rfl, rfl, rfl, rfl, rfl, trivial⟩, by first | exact cs _ _ | exact CSub.refl _, ?_⟩
     refine ⟨⟨⟨by omega, by omega, by omega⟩, fun u h1 h2 => ?_, hup⟩, by omega⟩
     have h5' : r (gd xs m.toNat) ≤ r (gd xs ((i + j) / 2).toNat) := by show r (xs.getD _ 0) ≤ r (xs.getD _ 0); omega
     by_cases e : u = ((i + j) / 2).toNat
     ·rw [e]; exact h5'
     ·have := hA u ((i + j) / 2).toNat (by omega) (by omega) (by omega)
      unfold ltO at this; omega
    ·try simp only [zbA] at h17
     refine tR fun _ _ _ => ?_
     iterate 2 refine pV ?_
     refine ⟨i, (i + j) / 2, ⟨rfl, rfl, rfl, rfl, rfl, rfl, rfl, trivial⟩, by first | exact cs _ _ | exact CSub.refl _, ?_⟩
     refine ⟨⟨⟨by omega, by omega, by omega⟩, hlo, fun u h1 h2 => ?_⟩, by omega⟩
     have h5' : r (gd xs ((i + j) / 2).toNat) < r (gd xs m.toNat) := by show r (xs.getD _ 0) < r (xs.getD _ 0); omega
     by_cases e : u = ((i + j) / 2).toNat
     ·rw [e]; exact h5'
     ·have := hA ((i + j) / 2).toNat u (by omega) (by omega) (by omega)
      unfold ltO at this; omega
   ·try simp only [zbA] at h15
    refine tE ?_
    refine tS ?_
    refine tS ?_
    refine tR fun _ _ _ => ?_
    iterate 2 refine pV ?_
    refine tB ?_
    refine tr_loop2 (fun (k : Int) (zs : List Int) => [(0, .slice A n c), (14, .int .i64 i), (17, .int .i64 k), (1, .int .i64 a), (2, .int .i64 m), (3, .int .i64 b), (4, .func (.func f) #[] lb.toArray)]) (fun (k : Int) (zs : List Int) => [ow A 3 c (ints zs), bun Gc]) (fun (k : Int) (zs : List Int) => (i ≤ k ∧ k ≤ m) ∧ zs.Perm xs ∧ gd zs = rot (gd xs) k.toNat m.toNat (m.toNat + 1)) (fun (k : Int) (zs : List Int) => (k - i).toNat) (m) (xs) ⟨rfl, rfl, rfl, rfl, rfl, rfl, rfl, trivial⟩ (by first | exact cs _ _ | exact CSub.refl _) (⟨⟨by omega, by omega⟩, List.Perm.refl _, (rot_id _ (.inl rfl) (Nat.le_refl _)).symm⟩) (fun k zs hI => ?_)
    obtain ⟨⟨hk0, hk1⟩, hp, hg⟩ := hI
    have hzl := hp.length_eq
    refine tS ?_
    refine tS ?_
    refine tR fun _ _ _ => ?_
    iterate 3 refine pV ?_
    refine tC rfl (fun h21 => ?_) (fun h21 => ?_)
    ·try simp only [zbA] at h21
     refine tK ?_
     refine tS ?_
     refine tB ?_
     refine tr_plan [] [(0, 0), (0, 1), (2, 2), (2, 3), (2, 4), (0, 5), (0, 6), (0, 7), (0, 8), (0, 9), (0, 10), (0, 11), (0, 12), (0, 13), (0, 14), (1, 15), (0, 16), (1, 17)] mixed (by kernel_rfl) fun _ _ _ => ?_
     iterate 2 refine pV ?_
     refine stF rfl rfl rfl rfl (cs _ _) (rMove rfl rfl) ?_
     refine stF rfl rfl rfl rfl (cs _ _) (rMove rfl rfl) ?_
     refine stF rfl rfl rfl rfl (cs _ _) (rSub rfl rfl rfl (by omega) (by omega)) ?_
     iterate 2 refine pV ?_
     refine sV (rSub rfl rfl rfl (by omega) (by omega)) ?_
     refine sV (rIdxI rfl rfl rfl (by omega) (by omega) (by omega)) ?_
     refine sV (rLdI rfl rfl (by omega)) ?_
     iterate 2 refine pV ?_
     refine sV (rIdxI rfl rfl rfl (by omega) (by omega) (by omega)) ?_
     refine sV (rLdI rfl rfl (by omega)) ?_
     refine sV (rIdxI rfl rfl rfl (by omega) (by omega) (by omega)) ?_
     refine eV (eStI rfl rfl rfl rfl (by omega) ?_)
     refine ⟨cs _ _, ?_⟩
     refine sV (rIdxI rfl rfl rfl (by omega) (by omega) (by rw [List.length_set]; omega)) ?_
     refine eV (eStI rfl rfl rfl rfl (by rw [List.length_set]; omega) ?_)
     refine ⟨cs _ _, ?_⟩
     refine tR fun _ _ _ => ?_
     refine pV ?_
     refine sV (rSub rfl rfl rfl (by omega) (by omega)) ?_
     refine pV ?_
     refine ⟨k - 1, swL zs k.toNat (k - 1).toNat, ⟨rfl, rfl, rfl, rfl, rfl, rfl, rfl, trivial⟩, by first | exact cs _ _ | exact CSub.refl _, ?_⟩
     have e := gd_swL (xs := zs) (i := k.toNat) (j := (k - 1).toNat) (by omega) (by omega)
     refine ⟨⟨⟨by omega, by omega⟩, (swL_perm (by omega) (by omega)).trans hp, ?_⟩, by omega⟩
     rw [e, hg, show (k - 1).toNat = k.toNat - 1 by omega]
     exact rot_last_succ _ (by omega) (by omega)
    ·try simp only [zbA] at h21
     refine tE ?_
     have hki : k = i := by omega
     have hbs : b.toNat = m.toNat + 1 := by omega
     rw [hki] at hg
     have hS := mrg_last (i := i.toNat) hA (hbs ▸ hc) (by omega) (by omega) hlo (fun u h1 h2 => hup u (by omega) h2)
     rw [← hbs] at hS hg
     exact tr_ret ⟨trivial, _, _, .nil, ⟨_, rfl, rfl, zs, rfl, SrtTo.of_rot hp hg (by omega) (by omega) (by omega) (Nat.le_refl _) hS⟩, cs _ _, trivial, trivial⟩
  ·try simp only [zbA] at h12
   refine tK ?_
   refine tS ?_
   refine tR fun _ _ _ => ?_
   iterate 2 refine pV ?_
   refine sV (rAdd rfl rfl rfl (by omega) (by omega)) ?_
   refine sV (rConv rfl undI undUint rfl (IntWalk.u64_in _ ⟨by omega, by omega⟩)) ?_
   refine sV (rShr1 rfl rfl rfl) ?_
   refine sV (rConv rfl undUint undI rfl (IntWalk.i64_in _ ⟨by omega, by omega⟩)) ?_
   refine pV ?_
   refine tS ?_
   refine tR fun _ _ _ => ?_
   iterate 2 refine pV ?_
   refine sV (rAdd rfl rfl rfl (by omega) (by omega)) ?_
   refine pV ?_
   refine tS ?_
   refine tR fun _ _ _ => ?_
   iterate 2 refine pV ?_
   refine tr_join (fun (q : Int × Int) => match q with | (s, q) => [(0, .slice A n c), (1, .int .i64 a), (2, .int .i64 m), (3, .int .i64 b), (4, .func (.func f) #[] lb.toArray), (18, .int .i64 ((a + b) / 2)), (19, .int .i64 ((a + b) / 2 + m)), (20, .int .i64 s), (21, .int .i64 q)]) (fun (q : Int × Int) => match q with | (s, q) => [ow A 3 c (ints xs), bun Gc]) (fun (q : Int × Int) => match q with | (s, q) => (a ≤ s ∧ s ≤ q ∧ q ≤ m ∧ q ≤ ((a + b) / 2) ∧ ((a + b) / 2 + m) - b ≤ s) ∧ (s = a ∨ ((a + b) / 2 + m) - s = b) ∧ (q = m ∨ ((a + b) / 2 + m) - q = m)) ?_ ?_
   ·refine tS ?_
    refine tR fun _ _ _ => ?_
    iterate 3 refine pV ?_
    refine tC rfl (fun h27 => ?_) (fun h27 => ?_)
    ·try simp only [zbA] at h27
     refine tS ?_
     refine tR fun _ _ _ => ?_
     iterate 2 refine pV ?_
     refine sV (rSub rfl rfl rfl (by omega) (by omega)) ?_
     refine pV ?_
     refine tR fun _ _ _ => ?_
     iterate 2 refine pV ?_
     refine ⟨((((a + b) / 2 + m) - b), ((a + b) / 2)), ⟨rfl, rfl, rfl, rfl, rfl, rfl, rfl, rfl, rfl, trivial⟩, by first | exact cs _ _ | exact CSub.refl _, ?_⟩
     exact ⟨⟨by omega, by omega, by omega, by omega, by omega⟩, .inr (by omega), .inr (by omega)⟩
    ·try simp only [zbA] at h27
     refine tS ?_
     refine tR fun _ _ _ => ?_
     iterate 2 refine pV ?_
     refine tR fun _ _ _ => ?_
     iterate 2 refine pV ?_
     refine ⟨(a, m), ⟨rfl, rfl, rfl, rfl, rfl, rfl, rfl, rfl, rfl, trivial⟩, by first | exact cs _ _ | exact CSub.refl _, ?_⟩
     exact ⟨⟨by omega, by omega, by omega, by omega, by omega⟩, .inl rfl, .inl rfl⟩
   ·rintro ⟨s, q⟩ hI
    obtain ⟨⟨hs1, hs2, hs3, hs4, hs5⟩, hse, hqe⟩ := hI
    refine tS ?_
    refine tR fun _ _ _ => ?_
    refine pV ?_
    refine sV (rSub rfl rfl rfl (by omega) (by omega)) ?_
    refine pV ?_
    refine tS ?_
    refine tB ?_
    refine tr_loop2 (fun (s2 : Int) (q2 : Int) => [(0, .slice A n c), (1, .int .i64 a), (2, .int .i64 m), (3, .int .i64 b), (4, .func (.func f) #[] lb.toArray), (20, .int .i64 s2), (21, .int .i64 q2), (22, .int .i64 (((a + b) / 2 + m) - 1)), (18, .int .i64 ((a + b) / 2)), (19, .int .i64 ((a + b) / 2 + m))]) (fun (s2 : Int) (q2 : Int) => [ow A 3 c (ints xs), bun Gc]) (fun (s2 : Int) (q2 : Int) => (s ≤ s2 ∧ s2 ≤ q2 ∧ q2 ≤ q) ∧ (s2 = s ∨ r (gd xs (((a + b) / 2 + m) - s2).toNat) ≤ r (gd xs (s2 - 1).toNat)) ∧ (q2 = q ∨ r (gd xs q2.toNat) < r (gd xs (((a + b) / 2 + m) - q2 - 1).toNat))) (fun (s2 : Int) (q2 : Int) => (q2 - s2).toNat) (s) (q) ⟨rfl, rfl, rfl, rfl, rfl, rfl, rfl, rfl, rfl, rfl, trivial⟩ (by first | exact cs _ _ | exact CSub.refl _) (⟨⟨by omega, by omega, by omega⟩, .inl rfl, .inl rfl⟩) (fun s2 q2 hI => ?_)
    obtain ⟨⟨hs0, hsq, hq1⟩, hlo, hup⟩ := hI
    refine tS ?_
    refine tS ?_
    refine tR fun _ _ _ => ?_
    iterate 3 refine pV ?_
    refine tC rfl (fun h33 => ?_) (fun h33 => ?_)
    ·try simp only [zbA] at h33
     refine tK ?_
     refine tB ?_
     refine tS ?_
     refine tR fun _ _ _ => ?_
     iterate 2 refine pV ?_
     refine sV (rAdd rfl rfl rfl (by omega) (by omega)) ?_
     refine sV (rConv rfl undI undUint rfl (IntWalk.u64_in _ ⟨by omega, by omega⟩)) ?_
     refine sV (rShr1 rfl rfl rfl) ?_
     refine sV (rConv rfl undUint undI rfl (IntWalk.i64_in _ ⟨by omega, by omega⟩)) ?_
     refine pV ?_
     refine tS ?_
     have hm1 : xs.getD (((a + b) / 2 + m) - 1 - (s2 + q2) / 2).toNat 0 ∈ xs := getD_mem (show ((((a + b) / 2 + m) - 1 - (s2 + q2) / 2).toNat) < xs.length by omega) 0
     have hm2 : xs.getD ((s2 + q2) / 2).toNat 0 ∈ xs := getD_mem (show (((s2 + q2) / 2).toNat) < xs.length by omega) 0
     have hb1 := hr (xs.getD (((a + b) / 2 + m) - 1 - (s2 + q2) / 2).toNat 0)
     have hb2 := hr (xs.getD ((s2 + q2) / 2).toNat 0)
     refine tr_draw [0, 1, 2, 3, 4, 5, 6, 7, 8, 9, 10, 11, 12, 13] [] mixed (by kernel_rfl) fun _ _ _ => ?_
     iterate 4 refine pV ?_
     refine sV (rSub rfl rfl rfl (by omega) (by omega)) ?_
     refine sV (rIdxI rfl rfl rfl (by omega) (by omega) (by omega)) ?_
     refine sV (rLdI rfl rfl (by omega)) ?_
     iterate 2 refine pV ?_
     refine sV (rIdxI rfl rfl rfl (by omega) (by omega) (by omega)) ?_
     refine sV (rLdI rfl rfl (by omega)) ?_
     refine eV (eCallFV rfl rfl rfl rfl (hf _ hm1 _ hm2) ⟨rfl, rfl, trivial⟩ ent_bun ?_)
     refine pV ?_
     refine sV (rNotB rfl rfl) ?_
     refine tC rfl (fun h35 => ?_) (fun h35 => ?_)
     ·try simp only [zbA] at h35
      refine tR fun _ _ _ => ?_
      refine pV ?_
      refine sV (rAdd rfl rfl rfl (by omega) (by omega)) ?_
      refine pV ?_
      refine ⟨(s2 + q2) / 2 + 1, q2, ⟨rfl, rfl, rfl, rfl, rfl, rfl, rfl, rfl, rfl, rfl, trivial⟩, by first | exact cs _ _ | exact CSub.refl _, ?_⟩
      refine ⟨⟨⟨by omega, by omega, by omega⟩, .inr ?_, hup⟩, by omega⟩
      rw [show (((a + b) / 2 + m) - ((s2 + q2) / 2 + 1)).toNat = (((a + b) / 2 + m) - 1 - (s2 + q2) / 2).toNat by omega, show ((s2 + q2) / 2 + 1 - 1).toNat = ((s2 + q2) / 2).toNat by omega]
      show r (xs.getD _ 0) ≤ r (xs.getD _ 0)
      omega
     ·try simp only [zbA] at h35
      refine tR fun _ _ _ => ?_
      iterate 2 refine pV ?_
      refine ⟨s2, (s2 + q2) / 2, ⟨rfl, rfl, rfl, rfl, rfl, rfl, rfl, rfl, rfl, rfl, trivial⟩, by first | exact cs _ _ | exact CSub.refl _, ?_⟩
      refine ⟨⟨⟨by omega, by omega, by omega⟩, hlo, .inr ?_⟩, by omega⟩
      rw [show (((a + b) / 2 + m) - (s2 + q2) / 2 - 1).toNat = (((a + b) / 2 + m) - 1 - (s2 + q2) / 2).toNat by omega]
      show r (xs.getD _ 0) < r (xs.getD _ 0)
      omega
    ·try simp only [zbA] at h33
     refine tE ?_
     refine tS ?_
     refine tR fun _ _ _ => ?_
     iterate 2 refine pV ?_
     refine sV (rSub rfl rfl rfl (by omega) (by omega)) ?_
     refine pV ?_
     refine tr_join (fun (q : (List Int)) => match q with | zs => [(0, .slice A n c), (1, .int .i64 a), (2, .int .i64 m), (3, .int .i64 b), (4, .func (.func f) #[] lb.toArray), (18, .int .i64 ((a + b) / 2)), (20, .int .i64 s2), (24, .int .i64 (((a + b) / 2 + m) - s2))]) (fun (q : (List Int)) => match q with | zs => [ow A 3 c (ints zs), bun Gc]) (fun (q : (List Int)) => match q with | zs => zs.Perm xs ∧ gd zs = rot (gd xs) s2.toNat m.toNat (((a + b) / 2 + m) - s2).toNat) ?_ ?_
     ·refine tS ?_
      refine tR fun _ _ _ => ?_
      iterate 4 refine pV ?_
      refine stg rfl rfl rfl rfl rfl (fun hb => by (have hq := hb; try simp only [zbA] at hq); exact rMove rfl rfl) ?_
      refine stg rfl rfl rfl rfl rfl (fun hb => by (have hq := hb; try simp only [zbA] at hq); exact rMove rfl rfl) ?_
      refine stg rfl rfl rfl rfl rfl (fun hb => by (have hq := hb; try simp only [zbA] at hq); exact rLss rfl (evg rfl hb) (evg rfl hb)) ?_
      refine sV (rAndB rfl rfl rfl rfl) ?_
      refine tC rfl (fun h39 => ?_) (fun h39 => ?_)
      ·try simp only [zbA] at h39
       refine tR fun _ _ _ => ?_
       iterate 5 refine pV ?_
       refine eV (eCallM1 rfl rfl rfl (slc_rot A n c xs hn h9 s2 m (((a + b) / 2 + m) - s2) (by omega) (by omega) (by omega) (by omega) _) ⟨rfl, rfl, rfl, rfl, rfl, trivial⟩ ?_)
       rintro _ _ ⟨rfl, zs, rfl, hpz, hgz⟩
       refine ⟨(zs), ⟨rfl, rfl, rfl, rfl, rfl, rfl, rfl, rfl, trivial⟩, by first | exact cs _ _ | exact CSub.refl _, ?_⟩
       exact ⟨hpz, hgz⟩
      ·try simp only [zbA] at h39
       refine tK ?_
       refine ⟨(xs), ⟨rfl, rfl, rfl, rfl, rfl, rfl, rfl, rfl, trivial⟩, by first | exact cs _ _ | exact CSub.refl _, ?_⟩
       exact ⟨List.Perm.refl _, (rot_id _ (by omega) (by omega)).symm⟩
     ·rintro zs hI
      obtain ⟨hpz, hgz⟩ := hI
      have hzl := hpz.length_eq
      have hH := half_of (mid := (((a + b) / 2)).toNat) (s := s2.toNat) hA hB hc (by omega) (by omega) (by omega) (by omega) (by omega) (by omega) (by omega) (by omega) (by
       rcases hlo with h | h
       ·rcases hse with h' | h'
        ·exact .inl (by omega)
        ·exact .inr (.inl (by omega))
       ·refine .inr (.inr ?_)
        rw [show (((a + b) / 2)).toNat + m.toNat - s2.toNat = (((a + b) / 2 + m) - s2).toNat by omega, show s2.toNat - 1 = (s2 - 1).toNat by omega]; exact h) (by
       rcases hup with h | h
       ·rcases hqe with h' | h'
        ·exact .inl (by omega)
        ·exact .inr (.inl (by omega))
       ·refine .inr (.inr ?_)
        rw [show (((a + b) / 2)).toNat + m.toNat - s2.toNat - 1 = (((a + b) / 2 + m) - q2 - 1).toNat by omega, show s2.toNat = q2.toNat by omega]; exact h)
      rw [show (((a + b) / 2)).toNat + m.toNat - s2.toNat = (((a + b) / 2 + m) - s2).toNat by omega, ← hgz] at hH
      refine tr_join (fun (q : (List Int)) => match q with | us => [(0, .slice A n c), (1, .int .i64 a), (2, .int .i64 m), (3, .int .i64 b), (4, .func (.func f) #[] lb.toArray), (18, .int .i64 ((a + b) / 2)), (24, .int .i64 (((a + b) / 2 + m) - s2))]) (fun (q : (List Int)) => match q with | us => [ow A 3 c (ints us), bun Gc]) (fun (q : (List Int)) => match q with | us => us.Perm zs ∧ Frm (gd zs) (gd us) a.toNat (((a + b) / 2)).toNat ∧ Srt r (gd us) a.toNat (((a + b) / 2)).toNat) ?_ ?_
      ·refine tS ?_
       refine tR fun _ _ _ => ?_
       iterate 4 refine pV ?_
       refine stg rfl rfl rfl rfl rfl (fun hb => by (have hq := hb; try simp only [zbA] at hq); exact rMove rfl rfl) ?_
       refine stg rfl rfl rfl rfl rfl (fun hb => by (have hq := hb; try simp only [zbA] at hq); exact rMove rfl rfl) ?_
       refine stg rfl rfl rfl rfl rfl (fun hb => by (have hq := hb; try simp only [zbA] at hq); exact rLss rfl (evg rfl hb) (evg rfl hb)) ?_
       refine sV (rAndB rfl rfl rfl rfl) ?_
       refine tC rfl (fun h41 => ?_) (fun h41 => ?_)
       ·try simp only [zbA] at h41
        refine tR fun _ _ _ => ?_
        iterate 5 refine pV ?_
        refine eV (eCallM1 rfl rfl rfl (ih zs a s2 ((a + b) / 2) (by omega) hpz (by omega) (by omega) (by omega) (by omega) (by omega) hH.s1 hH.s2 hH.c1) ⟨rfl, rfl, rfl, rfl, rfl, trivial⟩ ?_)
        rintro _ _ ⟨rfl, us, rfl, hsu⟩
        refine ⟨(us), ⟨rfl, rfl, rfl, rfl, rfl, rfl, rfl, trivial⟩, by first | exact cs _ _ | exact CSub.refl _, ?_⟩
        exact ⟨hsu.perm, hsu.frm, hsu.srt⟩
       ·try simp only [zbA] at h41
        refine tK ?_
        refine ⟨(zs), ⟨rfl, rfl, rfl, rfl, rfl, rfl, rfl, trivial⟩, by first | exact cs _ _ | exact CSub.refl _, ?_⟩
        exact ⟨List.Perm.refl _, Frm.refl _ _ _, hH.s1.two hH.s2 (by omega)⟩
      ·rintro us hI
       obtain ⟨hpu, hfu, hsu⟩ := hI
       have hul := hpu.length_eq
       refine tS ?_
       refine tR fun _ _ _ => ?_
       iterate 4 refine pV ?_
       refine stg rfl rfl rfl rfl rfl (fun hb => by (have hq := hb; try simp only [zbA] at hq); exact rMove rfl rfl) ?_
       refine stg rfl rfl rfl rfl rfl (fun hb => by (have hq := hb; try simp only [zbA] at hq); exact rMove rfl rfl) ?_
       refine stg rfl rfl rfl rfl rfl (fun hb => by (have hq := hb; try simp only [zbA] at hq); exact rLss rfl (evg rfl hb) (evg rfl hb)) ?_
       refine sV (rAndB rfl rfl rfl rfl) ?_
       refine tC rfl (fun h43 => ?_) (fun h43 => ?_)
       ·try simp only [zbA] at h43
        refine tR fun _ _ _ => ?_
        iterate 5 refine pV ?_
        refine eV (eCallM1 rfl rfl rfl (ih us ((a + b) / 2) (((a + b) / 2 + m) - s2) b (by omega) (hpu.trans hpz) (by omega) (by omega) (by omega) (by omega) (by omega) (hH.s3.frm hfu (.inr (by omega))) (hH.s4.frm hfu (.inr (by omega))) (fun u v h1 h2 h3 h4 e => by rw [hfu.1 u (by omega), hfu.1 v (by omega)] at e ⊢; exact hH.c2 u v h1 h2 h3 h4 e)) ⟨rfl, rfl, rfl, rfl, rfl, trivial⟩ ?_)
        rintro _ _ ⟨rfl, ws, rfl, hsw⟩
        have hfz : Frm (gd xs) (gd zs) a.toNat b.toNat := by rw [hgz]; exact (rot_frm _ (by omega) (by omega)).mono (by omega) (by omega)
        exact ⟨trivial, _, _, .nil, ⟨_, rfl, rfl, ws, rfl, ⟨hsw.perm.trans (hpu.trans hpz), (hfz.trans (hfu.mono (by omega) (by omega))).trans (hsw.frm.mono (by omega) (by omega)), half_done hH.all hfu hsw.frm hsu hsw.srt⟩⟩, cs _ _, trivial, trivial⟩
       ·try simp only [zbA] at h43
        refine tK ?_
        have hfz : Frm (gd xs) (gd zs) a.toNat b.toNat := by rw [hgz]; exact (rot_frm _ (by omega) (by omega)).mono (by omega) (by omega)
        have hs2 : Srt r (gd us) ((a + b) / 2).toNat b.toNat := (hH.s3.frm hfu (.inr (by omega))).two (hH.s4.frm hfu (.inr (by omega))) (by omega)
        exact ⟨trivial, _, _, .nil, ⟨_, rfl, rfl, us, rfl, ⟨hpu.trans hpz, hfz.trans (hfu.mono (by omega) (by omega)), half_done hH.all hfu (Frm.refl _ _ _) hsu hs2⟩⟩, cs _ _, trivial, trivial⟩
theorem slc_sym (A : Option Addr) (n c : Nat) (f : FuncId) (lb : List Value) (Gc : List Chunk) (r : Int → Int) (hr : ∀ x, 0 ≤ r x ∧ r x ≤ 4294967296) : ∀ (N : Nat) (xs : List Int) (hn : n = xs.length) (h9 : xs.length ≤ 1000000) (a m b : Int) (ha : 0 ≤ a) (ham : a < m) (hmb : m < b) (hb : b ≤ xs.length) (hN : (b - a).toNat ≤ N) (hf : ∀ x ∈ xs, ∀ y ∈ xs, Pure Tryz.prog f ([Value.int .i64 x, Value.int .i64 y] ++ lb).toArray Gc (isV (.int .i64 (r y - r x)))) (hA : Srt r (gd xs) a.toNat m.toNat) (hB : Srt r (gd xs) m.toNat b.toNat) (hc : Crs r (gd xs) a.toNat m.toNat b.toNat),
  Mut Tryz.prog 121 #[.slice A n c, .int .i64 a, .int .i64 m, .int .i64 b, .func (.func f) #[] lb.toArray] [ow A 3 c (ints xs)] [bun Gc] (one (fun v ch => v = .tuple #[] ∧ ∃ ys : List Int, ch = ow A 3 c (ints ys) ∧ SrtTo r xs ys a.toNat b.toNat))
 | 0, xs, hn, h9, a, m, b, ha, ham, hmb, hb, hN, hf, hA, hB, hc => by omega
 | N + 1, xs, hn, h9, a, m, b, ha, ham, hmb, hb, hN, hf, hA, hB, hc => by
  refine slc_symS A n c xs hn h9 a m b ha ham hmb hb f lb Gc r hr hf hA hB hc fun xs' a' m' b' hl hp h0 h1 h2 h3 h4 hA' hB' hc' => ?_
  exact slc_sym A n c f lb Gc r hr N xs' (by omega) (by omega) a' m' b' h0 h1 h2 (by omega) (by omega) (fun x hx y hy => hf x (hp.mem_iff.1 hx) y (hp.mem_iff.1 hy)) hA' hB' hc'
end Go.Proofs.YtfdjdokdabmmdaaGreat

set_option maxRecDepth 100000
namespace Go.Proofs.YtfdjdokdabmmdaaGreat
open Go.RowKit
theorem slc_stab_ent : Enters Tryz.prog 93 := enters_of Tryz.func93 (by kernel_rfl) (by kernel_rfl)
theorem slc_stab (A : Option Addr) (n c : Nat) (xs : List Int) (hn : n = xs.length) (h9 : xs.length ≤ 1000000) (f : FuncId) (lb : List Value) (Gc : List Chunk) (r : Int → Int) (hr : ∀ x, 0 ≤ r x ∧ r x ≤ 4294967296) (hf : ∀ x ∈ xs, ∀ y ∈ xs, Pure Tryz.prog f ([Value.int .i64 x, Value.int .i64 y] ++ lb).toArray Gc (isV (.int .i64 (r y - r x)))) (ht : Tie r (gd xs) 0 xs.length) :
  Mut Tryz.prog 93 #[.slice A n c, .int .i64 n, .func (.func f) #[] lb.toArray] [ow A 3 c (ints xs)] [bun Gc] (one (fun v ch => v = .tuple #[] ∧ ∃ ys : List Int, ch = ow A 3 c (ints ys) ∧ ys.Perm xs ∧ Srt r (gd ys) 0 xs.length)) := by
 refine mut_of (args := [.slice A n c, .int .i64 n, .func (.func f) #[] lb.toArray]) 63 (F := [ow A 3 c (ints xs), bun Gc]) rfl Tryz.func93 rfl rfl rfl slc_stab_ent (fun w0 => ?_)
 refine tS ?_
 refine tR fun _ _ _ => ?_
 refine pV ?_
 refine tS ?_
 refine tR fun _ _ _ => ?_
 iterate 3 refine pV ?_
 refine tS ?_
 refine tB ?_
 refine tr_loop3 (fun (a : Int) (b : Int) (ys : List Int) => [(6, .int .i64 20), (7, .int .i64 a), (8, .int .i64 b), (0, .slice A n c), (1, .int .i64 n), (2, .func (.func f) #[] lb.toArray)]) (fun (a : Int) (b : Int) (ys : List Int) => [ow A 3 c (ints ys), bun Gc]) (fun (a : Int) (b : Int) (ys : List Int) => (0 ≤ a ∧ b = a + 20 ∧ a ≤ n) ∧ 20 ∣ a.toNat ∧ ys.Perm xs ∧ Tie r (gd ys) 0 xs.length ∧ Blk r (gd ys) 20 xs.length a.toNat) (fun (a : Int) (b : Int) (ys : List Int) => (n + 20 - a).toNat) (0) (20) (xs) ⟨rfl, rfl, rfl, rfl, rfl, rfl, trivial⟩ (by first | exact cs _ _ | exact CSub.refl _) (⟨⟨by omega, by omega, by omega⟩, by omega, List.Perm.refl _, ht, fun c _ h => by omega⟩) (fun a b ys hI => ?_)
 obtain ⟨⟨ha0, hb0, han⟩, hdv, hp1, ht1, hbl⟩ := hI
 have hyl := hp1.length_eq
 refine tS ?_
 refine tS ?_
 refine tR fun _ _ _ => ?_
 iterate 3 refine pV ?_
 refine tC rfl (fun h2 => ?_) (fun h2 => ?_)
 ·try simp only [zbA] at h2
  refine tK ?_
  refine tB ?_
  refine tS ?_
  refine tR fun _ _ _ => ?_
  iterate 4 refine pV ?_
  refine eV (eCallM1 rfl rfl rfl (slc_insF A n c ys (by omega) (by omega) a b (by omega) (by omega) (by omega) f lb Gc r hr (fun x hx y hy => hf x (hp1.mem_iff.1 hx) y (hp1.mem_iff.1 hy)) (ht1.sub (by omega) (by omega))) ⟨rfl, rfl, rfl, rfl, trivial⟩ ?_)
  rintro _ _ ⟨rfl, zs, rfl, hsz⟩
  refine tS ?_
  refine tR fun _ _ _ => ?_
  iterate 2 refine pV ?_
  refine tR fun _ _ _ => ?_
  iterate 2 refine pV ?_
  refine sV (rAdd rfl rfl rfl (by omega) (by omega)) ?_
  refine pV ?_
  refine ⟨b, (b + 20), zs, ⟨rfl, rfl, rfl, rfl, rfl, rfl, trivial⟩, by first | exact cs _ _ | exact CSub.refl _, ?_⟩
  have hpz := hsz.perm.trans hp1
  have hzl := hpz.length_eq
  have ht2 : Tie r (gd zs) 0 xs.length := ht1.frm hsz.frm hsz.srt.tie (by omega) (by omega)
  refine ⟨⟨⟨by omega, by omega, by omega⟩, by omega, hpz, ht2, ?_⟩, by omega⟩
  rw [show b.toNat = a.toNat + 20 by omega]
  refine blk_push (blk_frm hbl hsz.frm hdv (Nat.le_refl _)) hdv ?_
  rw [show min (a.toNat + 20) xs.length = b.toNat by omega]
  exact hsz.srt
 ·try simp only [zbA] at h2
  refine tE ?_
  refine tS ?_
  refine tR fun _ _ _ => ?_
  iterate 4 refine pV ?_
  refine eV (eCallM1 rfl rfl rfl (slc_insF A n c ys (by omega) (by omega) a n (by omega) (by omega) (by omega) f lb Gc r hr (fun x hx y hy => hf x (hp1.mem_iff.1 hx) y (hp1.mem_iff.1 hy)) (ht1.sub (by omega) (by omega))) ⟨rfl, rfl, rfl, rfl, trivial⟩ ?_)
  rintro _ _ ⟨rfl, zs, rfl, hsz⟩
  have hpz := hsz.perm.trans hp1
  have hzl := hpz.length_eq
  have ht2 : Tie r (gd zs) 0 xs.length := ht1.frm hsz.frm hsz.srt.tie (by omega) (by omega)
  have hbl2 : Blk r (gd zs) (20 : Int).toNat xs.length xs.length := by
   by_cases han2 : a = n
   ·have h1 := blk_frm hbl hsz.frm hdv (Nat.le_refl _)
    exact fun e he hen hen2 => h1 e he (by omega) hen2
   ·have h1 := blk_push (blk_frm hbl hsz.frm hdv (Nat.le_refl _)) hdv (by
     rw [show min (a.toNat + 20) xs.length = (n : Int).toNat by omega]
     exact hsz.srt)
    exact fun e he hen hen2 => h1 e he (by omega) hen2
  refine tB ?_
  refine tr_loop2 (fun (bs : Int) (ys2 : List Int) => [(6, .int .i64 bs), (0, .slice A n c), (1, .int .i64 n), (2, .func (.func f) #[] lb.toArray)]) (fun (bs : Int) (ys2 : List Int) => [ow A 3 c (ints ys2), bun Gc]) (fun (bs : Int) (ys2 : List Int) => (1 ≤ bs ∧ bs ≤ 2000020) ∧ ys2.Perm xs ∧ Tie r (gd ys2) 0 xs.length ∧ Blk r (gd ys2) bs.toNat xs.length xs.length) (fun (bs : Int) (ys2 : List Int) => (4000041 - bs).toNat) (20) (zs) ⟨rfl, rfl, rfl, rfl, trivial⟩ (by first | exact cs _ _ | exact CSub.refl _) (⟨⟨by omega, by omega⟩, hpz, ht2, hbl2⟩) (fun bs ys2 hI => ?_)
  obtain ⟨⟨hbs0, hbs1⟩, hp2, ht3, hbl3⟩ := hI
  have hyl2 := hp2.length_eq
  refine tS ?_
  refine tS ?_
  refine tR fun _ _ _ => ?_
  iterate 3 refine pV ?_
  refine tC rfl (fun h7 => ?_) (fun h7 => ?_)
  ·try simp only [zbA] at h7
   refine tK ?_
   refine tB ?_
   refine tS ?_
   refine tR fun _ _ _ => ?_
   refine pV ?_
   refine sV (rMul rfl rfl rfl (by omega) (by omega)) ?_
   iterate 2 refine pV ?_
   refine tS ?_
   refine tB ?_
   refine tr_loop3 (fun (a : Int) (b : Int) (zs2 : List Int) => [(6, .int .i64 bs), (7, .int .i64 a), (8, .int .i64 b), (0, .slice A n c), (1, .int .i64 n), (2, .func (.func f) #[] lb.toArray), (28, .int .i64 bs), (29, .int .i64 n), (31, .int .i64 bs)]) (fun (a : Int) (b : Int) (zs2 : List Int) => [ow A 3 c (ints zs2), bun Gc]) (fun (a : Int) (b : Int) (zs2 : List Int) => (0 ≤ a ∧ b = a + 2 * bs ∧ a ≤ n) ∧ (2 * bs).toNat ∣ a.toNat ∧ zs2.Perm xs ∧ Tie r (gd zs2) 0 xs.length ∧ Blk r (gd zs2) (2 * bs).toNat xs.length a.toNat ∧ ∀ e : Nat, bs.toNat ∣ e → a.toNat ≤ e → e < xs.length → Srt r (gd zs2) e (min (e + bs.toNat) xs.length)) (fun (a : Int) (b : Int) (zs2 : List Int) => (n + 1 - a).toNat) (0) ((2 * bs)) (ys2) ⟨rfl, rfl, rfl, rfl, rfl, rfl, rfl, rfl, rfl, trivial⟩ (by first | exact cs _ _ | exact CSub.refl _) (⟨⟨by omega, by omega, by omega⟩, Nat.dvd_zero _, hp2, ht3, fun c _ h => by omega, fun e he _ hen => hbl3 e he hen hen⟩) (fun a b zs2 hI => ?_)
   obtain ⟨⟨ha0, hb0, han⟩, hdv, hp1, ht1, hbl, hrest⟩ := hI
   have hzl2 := hp1.length_eq
   have hdb : bs.toNat ∣ a.toNat := Nat.dvd_trans ⟨2, by omega⟩ hdv
   refine tS ?_
   refine tS ?_
   refine tR fun _ _ _ => ?_
   iterate 3 refine pV ?_
   refine tC rfl (fun h9 => ?_) (fun h9 => ?_)
   ·try simp only [zbA] at h9
    refine tK ?_
    refine tB ?_
    refine tS ?_
    have hA := hrest a.toNat hdb (Nat.le_refl _) (by omega)
    rw [show min (a.toNat + bs.toNat) xs.length = (a + bs).toNat by omega] at hA
    have hB := hrest (a + bs).toNat (by rw [show (a + bs).toNat = a.toNat + bs.toNat by omega]; exact Nat.dvd_add hdb (Nat.dvd_refl _)) (by omega) (by omega)
    rw [show min ((a + bs).toNat + bs.toNat) xs.length = b.toNat by omega] at hB
    have hC : Crs r (gd zs2) a.toNat (a + bs).toNat b.toNat := (ht1.sub (by omega) (by omega) : Tie r (gd zs2) a.toNat b.toNat).crs _
    refine tR fun _ _ _ => ?_
    iterate 4 refine pV ?_
    refine sV (rAdd rfl rfl rfl (by omega) (by omega)) ?_
    iterate 2 refine pV ?_
    refine eV (eCallM1 rfl rfl rfl (slc_sym A n c f lb Gc r hr _ zs2 (by omega) (by omega) a (a + bs) b (by omega) (by omega) (by omega) (by omega) (Nat.le_refl _) (fun x hx y hy => hf x (hp1.mem_iff.1 hx) y (hp1.mem_iff.1 hy)) hA hB hC) ⟨rfl, rfl, rfl, rfl, rfl, trivial⟩ ?_)
    rintro _ _ ⟨rfl, us, rfl, hsu⟩
    refine tS ?_
    refine tR fun _ _ _ => ?_
    iterate 2 refine pV ?_
    refine tR fun _ _ _ => ?_
    iterate 2 refine pV ?_
    refine sV (rMul rfl rfl rfl (by omega) (by omega)) ?_
    refine sV (rAdd rfl rfl rfl (by omega) (by omega)) ?_
    refine pV ?_
    refine ⟨b, (b + 2 * bs), us, ⟨rfl, rfl, rfl, rfl, rfl, rfl, rfl, rfl, rfl, trivial⟩, by first | exact cs _ _ | exact CSub.refl _, ?_⟩
    have hpu := hsu.perm.trans hp1
    have hul := hpu.length_eq
    refine ⟨⟨⟨by omega, by omega, by omega⟩, ?_, hpu, ht1.frm hsu.frm hsu.srt.tie (by omega) (by omega), ?_, fun e he hae hen => ?_⟩, by omega⟩
    ·rw [show b.toNat = a.toNat + (2 * bs).toNat by omega]; exact Nat.dvd_add hdv (Nat.dvd_refl _)
    ·rw [show b.toNat = a.toNat + (2 * bs).toNat by omega]
     refine blk_push (blk_frm hbl hsu.frm hdv (Nat.le_refl _)) hdv ?_
     rw [show min (a.toNat + (2 * bs).toNat) xs.length = b.toNat by omega]
     exact hsu.srt
    ·exact (hrest e he (by omega) hen).frm hsu.frm (.inr (by omega))
   ·try simp only [zbA] at h9
    refine tE ?_
    refine tS ?_
    refine tS ?_
    refine tR fun _ _ _ => ?_
    iterate 2 refine pV ?_
    refine sV (rAdd rfl rfl rfl (by omega) (by omega)) ?_
    refine pV ?_
    refine tS ?_
    refine tR fun _ _ _ => ?_
    iterate 3 refine pV ?_
    refine tC rfl (fun h14 => ?_) (fun h14 => ?_)
    ·try simp only [zbA] at h14
     have hA := hrest a.toNat hdb (Nat.le_refl _) (by omega)
     rw [show min (a.toNat + bs.toNat) xs.length = (a + bs).toNat by omega] at hA
     have hB := hrest (a + bs).toNat (by rw [show (a + bs).toNat = a.toNat + bs.toNat by omega]; exact Nat.dvd_add hdb (Nat.dvd_refl _)) (by omega) (by omega)
     rw [show min ((a + bs).toNat + bs.toNat) xs.length = (n : Int).toNat by omega] at hB
     have hC : Crs r (gd zs2) a.toNat (a + bs).toNat (n : Int).toNat := (ht1.sub (by omega) (by omega) : Tie r (gd zs2) a.toNat (n : Int).toNat).crs _
     refine tR fun _ _ _ => ?_
     iterate 5 refine pV ?_
     refine eV (eCallM1 rfl rfl rfl (slc_sym A n c f lb Gc r hr _ zs2 (by omega) (by omega) a (a + bs) n (by omega) (by omega) (by omega) (by omega) (Nat.le_refl _) (fun x hx y hy => hf x (hp1.mem_iff.1 hx) y (hp1.mem_iff.1 hy)) hA hB hC) ⟨rfl, rfl, rfl, rfl, rfl, trivial⟩ ?_)
     rintro _ _ ⟨rfl, us, rfl, hsu⟩
     refine tR fun _ _ _ => ?_
     refine pV ?_
     refine sV (rMul rfl rfl rfl (by omega) (by omega)) ?_
     refine pV ?_
     refine ⟨bs * 2, us, ⟨rfl, rfl, rfl, rfl, trivial⟩, by first | exact cs _ _ | exact CSub.refl _, ?_⟩
     have hpu := hsu.perm.trans hp1
     have hdv2 : bs.toNat ∣ a.toNat := Nat.dvd_trans ⟨2, by omega⟩ hdv
     have ht4 : Tie r (gd us) 0 xs.length := ht1.frm hsu.frm hsu.srt.tie (by omega) (by omega)
     refine ⟨⟨⟨by omega, by omega⟩, hpu, ht4, ?_⟩, by omega⟩
     rw [show (bs * 2).toNat = (2 * bs).toNat by omega]
     have h1 := blk_push (blk_frm hbl hsu.frm hdv (Nat.le_refl _)) hdv (by
      rw [show min (a.toNat + (2 * bs).toNat) xs.length = (n : Int).toNat by omega]
      exact hsu.srt)
     exact fun c hc hcn hcn2 => h1 c hc (by omega) hcn2
    ·try simp only [zbA] at h14
     refine tK ?_
     refine tR fun _ _ _ => ?_
     refine pV ?_
     refine sV (rMul rfl rfl rfl (by omega) (by omega)) ?_
     refine pV ?_
     refine ⟨bs * 2, zs2, ⟨rfl, rfl, rfl, rfl, trivial⟩, by first | exact cs _ _ | exact CSub.refl _, ?_⟩
     refine ⟨⟨⟨by omega, by omega⟩, hp1, ht1, ?_⟩, by omega⟩
     rw [show (bs * 2).toNat = (2 * bs).toNat by omega]
     by_cases han2 : a = n
     ·exact fun c hc hcn hcn2 => hbl c hc (by omega) hcn2
     ·have h1 := blk_push hbl hdv (by
       have := hrest a.toNat (Nat.dvd_trans ⟨2, by omega⟩ hdv) (Nat.le_refl _) (by omega)
       rw [show min (a.toNat + bs.toNat) xs.length = xs.length by omega] at this
       rw [show min (a.toNat + (2 * bs).toNat) xs.length = xs.length by omega]
       exact this)
      exact fun c hc hcn hcn2 => h1 c hc (by omega) hcn2
  ·try simp only [zbA] at h7
   refine tE ?_
   have hfin : Srt r (gd ys2) 0 xs.length := by
    by_cases h0 : xs.length = 0
    ·exact fun u v h1 h2 h3 => by omega
    ·have := hbl3 0 (Nat.dvd_zero _) (by omega) (by omega)
     rwa [show min (0 + bs.toNat) xs.length = xs.length by omega] at this
   exact ⟨trivial, _, _, .nil, ⟨_, rfl, rfl, ys2, rfl, ⟨hp2, hfin⟩⟩, cs _ _, trivial, trivial⟩
theorem slc_SortStab_ent : Enters Tryz.prog 61 := enters_of Tryz.func61 (by kernel_rfl) (by kernel_rfl)
theorem slc_SortStab (A : Option Addr) (n c : Nat) (xs : List Int) (hn : n = xs.length) (h9 : xs.length ≤ 1000000) (f : FuncId) (lb : List Value) (Gc : List Chunk) (r : Int → Int) (hr : ∀ x, 0 ≤ r x ∧ r x ≤ 4294967296) (hf : ∀ x ∈ xs, ∀ y ∈ xs, Pure Tryz.prog f ([Value.int .i64 x, Value.int .i64 y] ++ lb).toArray Gc (isV (.int .i64 (r y - r x)))) (ht : Tie r (gd xs) 0 xs.length) :
  Mut Tryz.prog 61 #[.slice A n c, .func (.func f) #[] lb.toArray] [ow A 3 c (ints xs)] [bun Gc] (one (fun v ch => v = .tuple #[] ∧ ∃ ys : List Int, ch = ow A 3 c (ints ys) ∧ ys.Perm xs ∧ Srt r (gd ys) 0 xs.length)) := by
 refine mut_of (args := [.slice A n c, .func (.func f) #[] lb.toArray]) 9 (F := [ow A 3 c (ints xs), bun Gc]) rfl Tryz.func61 rfl rfl rfl slc_SortStab_ent (fun w0 => ?_)
 refine tR fun _ _ _ => ?_
 iterate 2 refine pV ?_
 refine sV (rLen rfl rfl) ?_
 refine pV ?_
 refine eV (eCallM1 rfl rfl rfl (slc_stab A n c xs hn h9 f lb Gc r hr hf ht) ⟨rfl, rfl, rfl, trivial⟩ ?_)
 rintro _ _ ⟨rfl, ys, rfl, hpy, hsy⟩
 exact ⟨trivial, _, _, .nil, ⟨_, rfl, rfl, ys, rfl, ⟨hpy, hsy⟩⟩, cs _ _, trivial, trivial⟩
def rlF (ts : List RowM) : Int → Int := fun x => (relL ts).getD x.toNat 0
theorem sec_hi {r : List Int} {q : Int} (h : RowOk q r) (h2 : 2 ≤ q) : 0 ≤ relI r ∧ relI r ≤ 2147483648 := by
 have hl := h.1
 have h0 : 0 < r.length := by omega
 have hh := hardI_lt h0
 have hb := sec_bd (b := hardI r) h.2 (by omega) r.length (Nat.le_refl _)
 have ha := h.at (hardI r)
 have hn : ∃ j, j < r.length ∧ j ≠ hardI r := by
  by_cases e : hardI r = 0
  ·exact ⟨1, by omega, by omega⟩
  ·exact ⟨0, h0, fun e' => e e'.symm⟩
 have hnn := sec_nn (b := hardI r) (fun x hx => (h.2 x hx).1) r.length (Nat.le_refl _) hn
 have hge : r.getD (hardI r) 0 ≤ sec r (hardI r) r.length := by
  have key : ∀ k, k ≤ r.length → 0 ≤ sec r (hardI r) k → r.getD (hardI r) 0 ≤ sec r (hardI r) k := fun k => by
   induction k with
   | zero => intro _ h; rw [sec] at h; omega
   | succ k ih =>
    intro hk
    rw [sec]
    split
    ·intro _; exact hardI_min (by omega)
    ·exact ih (by omega)
  exact key _ (Nat.le_refl _) hnn
 unfold relI
 omega
theorem rlF_bd {ts : List RowM} {q : Int} (htr : ∀ r ∈ ts, RowOk q r.xs) (h2 : 2 ≤ q) (x : Int) : 0 ≤ rlF ts x ∧ rlF ts x ≤ 2147483648 := by
 unfold rlF
 by_cases h : x.toNat < ts.length
 ·rw [relL_getD ts h]; exact sec_hi (htr _ (getD_mem h _)) h2
 ·rw [getD_out (by rw [relL_length]; omega)]; omega
theorem rlF_at (ts : List RowM) (k : Nat) : rlF ts k = (relL ts).getD k 0 := by
 unfold rlF; rw [Int.toNat_natCast]
theorem ref_OOrder_ent : Enters Tryz.prog 47 := enters_of Tryz.func47 (by kernel_rfl) (by kernel_rfl)
theorem ref_OOrder (T : Option Addr) (nt ct : Nat) (ts : List RowM) (hnt : nt = ts.length) (q : Int) (hq2 : 2 ≤ q) (hq9 : q ≤ 256) (t64 : ts.length ≤ 64) (htr : ∀ r ∈ ts, RowOk q r.xs) :
  Pure Tryz.prog 47 #[.slice T nt ct] [ro T (hdrs ts), rowsR ts] (one (fun v ch => ∃ B cb o, v = .slice B o.length cb ∧ ch = ow B 3 cb (ints o) ∧ OrdS (rlF ts) ts.length o)) := by
 have hrll := relL_length ts
 refine pure_of (args := [.slice T nt ct]) 53 Tryz.func47 rfl rfl rfl ref_OOrder_ent ⟨id, id, trivial⟩ (fun w0 => ?_)
 refine tS ?_
 refine tR fun _ _ _ => ?_
 refine pV ?_
 refine tS ?_
 refine tR fun _ _ _ => ?_
 refine pV ?_
 refine eV (eCall1 rfl rfl rfl (ref_ORel T nt ct ts hnt q hq2 hq9 t64 htr) ⟨rfl, trivial⟩ ?_)
 rintro _ _ ⟨A1, c1, rfl, rfl⟩
 refine pV ?_
 refine tS ?_
 refine tR fun _ _ _ => ?_
 refine pV ?_
 refine sV (rLen rfl rfl) ?_
 refine eV (eMakeB rfl rfl rfl rfl rfl (by omega) (by omega) (by omega) (fun A2 => ?_))
 refine pV ?_
 refine tS ?_
 refine tR fun _ _ _ => ?_
 refine pV ?_
 refine tS ?_
 refine tB ?_
 refine tr_nilI 3 ?_
 refine tr_loop4 (fun (B : Option Addr) (cb : Nat) (o : List Int) (us : List Bool) => [(4, .slice A2 (relL ts).length (relL ts).length), (5, .slice B o.length cb), (2, .slice none 0 0), (3, .slice A1 (relL ts).length c1)]) (fun (B : Option Addr) (cb : Nat) (o : List Int) (us : List Bool) => [ow B 3 cb (ints o), ow A2 4 (relL ts).length (bools us), ow A1 3 c1 (ints (relL ts)), ro T (hdrs ts), rowsR ts]) (fun (B : Option Addr) (cb : Nat) (o : List Int) (us : List Bool) => OrdJ (rlF ts) ts.length o us ∧ o.length ≤ ts.length) (fun (B : Option Addr) (cb : Nat) (o : List Int) (us : List Bool) => (ts.length - o.length)) (none) (0) ([]) (List.replicate (relL ts).length false) ⟨rfl, rfl, rfl, rfl, trivial⟩ (by first | exact cs _ _ | exact CSub.refl _) (⟨by rw [hrll]; exact OrdJ.start _ _, by simp⟩) (fun B cb o us hI => ?_)
 obtain ⟨hJ, hol⟩ := hI
 have hul := hJ.ulen
 refine tS ?_
 refine tS ?_
 refine tR fun _ _ _ => ?_
 refine pV ?_
 refine sV (rLen rfl rfl) ?_
 refine pV ?_
 refine sV (rLen rfl rfl) ?_
 refine pV ?_
 refine tC rfl (fun h4 => ?_) (fun h4 => ?_)
 ·try simp only [zbA] at h4
  refine tK ?_
  refine tB ?_
  refine tS ?_
  refine tR fun _ _ _ => ?_
  refine pV ?_
  refine tS ?_
  refine tS ?_
  refine tR fun _ _ _ => ?_
  refine pV ?_
  refine tB ?_
  refine tr_loop2 (fun (i : Int) (best : Int) => [(7, .int .i64 i), (6, .int .i64 best), (2, .slice none 0 0), (3, .slice A1 (relL ts).length c1), (4, .slice A2 (relL ts).length (relL ts).length), (5, .slice B o.length cb), (13, .slice B o.length cb), (14, .int .i64 o.length), (15, .slice A1 (relL ts).length c1)]) (fun (i : Int) (best : Int) => [ow B 3 cb (ints o), ow A2 4 (relL ts).length (bools us), ow A1 3 c1 (ints (relL ts)), ro T (hdrs ts), rowsR ts]) (fun (i : Int) (best : Int) => (0 ≤ i ∧ i ≤ (relL ts).length) ∧ BstJ (rlF ts) us i.toNat best) (fun (i : Int) (best : Int) => ((relL ts).length - i).toNat) (0) (-1) ⟨rfl, rfl, rfl, rfl, rfl, rfl, rfl, rfl, rfl, trivial⟩ (by first | exact cs _ _ | exact CSub.refl _) (⟨⟨by omega, by omega⟩, BstJ.start _ _⟩) (fun i best hI => ?_)
  obtain ⟨⟨hi0, hi1⟩, hbj⟩ := hI
  have hbr : best < (relL ts).length := by rcases hbj with ⟨h1, _⟩ | ⟨b, h1, h2, _⟩ <;> omega
  have hbn : -1 ≤ best := by rcases hbj with ⟨h1, _⟩ | ⟨b, h1, h2, _⟩ <;> omega
  refine tS ?_
  refine tS ?_
  refine tR fun _ _ _ => ?_
  iterate 2 refine pV ?_
  refine sV (rLen rfl rfl) ?_
  refine pV ?_
  refine tC rfl (fun h7 => ?_) (fun h7 => ?_)
  ·try simp only [zbA] at h7
   refine tK ?_
   refine tS ?_
   refine tB ?_
   refine tS ?_
   refine tr_draw [0, 1, 2, 3, 4, 5, 6, 7, 8, 9, 10, 11, 12, 13, 14, 15, 16, 17, 18, 19] [] mixed (by kernel_rfl) fun _ _ _ => ?_
   iterate 2 refine pV ?_
   refine sV (rIdxB rfl rfl rfl (by omega) (by omega) (by omega)) ?_
   refine sV (rLdB rfl rfl (by omega)) ?_
   refine sV (rNotB rfl rfl) ?_
   refine pV ?_
   refine stg rfl rfl rfl rfl rfl (fun hb => by (have hq := hb; try simp only [zbA] at hq); exact rMove rfl rfl) ?_
   refine stg rfl rfl rfl rfl rfl (fun hb => by (have hq := hb; try simp only [zbA] at hq); exact rLss rfl (evg rfl hb) rfl) ?_
   refine stg rfl rfl rfl rfl rfl (fun hb => by (have hq := hb; try simp only [zbA] at hq); exact rMove rfl (evg rfl hb)) ?_
   refine stg2 rfl rfl rfl rfl rfl (fun hb => by (have hq := hb; try simp only [zbA] at hq); exact rMove rfl rfl) ?_
   refine stg2 rfl rfl rfl rfl rfl (fun hb => by (have hq := hb; try simp only [zbA] at hq); exact rMove rfl rfl) ?_
   refine stg2 rfl rfl rfl rfl rfl (fun hb => by (have hq := hb; try simp only [zbA] at hq); exact rIdxI rfl (evg rfl hb) (evg rfl hb) (by omega) (by omega) (by omega)) ?_
   refine stg2 rfl rfl rfl rfl rfl (fun hb => by (have hq := hb; try simp only [zbA] at hq); exact rLdI rfl (evg rfl hb) (by omega)) ?_
   refine stg2 rfl rfl rfl rfl rfl (fun hb => by (have hq := hb; try simp only [zbA] at hq); exact rMove rfl rfl) ?_
   refine stg2 rfl rfl rfl rfl rfl (fun hb => by (have hq := hb; try simp only [zbA] at hq); exact rMove rfl rfl) ?_
   refine stg2 rfl rfl rfl rfl rfl (fun hb => by (have hq := hb; try simp only [zbA] at hq); exact rIdxI rfl (evg rfl hb) (evg rfl hb) (by omega) (by omega) (by omega)) ?_
   refine stg2 rfl rfl rfl rfl rfl (fun hb => by (have hq := hb; try simp only [zbA] at hq); exact rLdI rfl (evg rfl hb) (by omega)) ?_
   refine stg2 rfl rfl rfl rfl rfl (fun hb => by (have hq := hb; try simp only [zbA] at hq); exact rGtr rfl (evg rfl hb) (evg rfl hb)) ?_
   refine stg rfl rfl rfl rfl rfl (fun hb => by (have hq := hb; try simp only [zbA] at hq); exact rOrB rfl (evg rfl hb) rfl (evgp rfl hb)) ?_
   refine sV (rAndB rfl rfl rfl rfl) ?_
   refine tC rfl (fun h9 => ?_) (fun h9 => ?_)
   ·try simp only [zbA] at h9
    refine tR fun _ _ _ => ?_
    iterate 2 refine pV ?_
    refine tR fun _ _ _ => ?_
    refine pV ?_
    refine sV (rAdd rfl rfl rfl (by omega) (by omega)) ?_
    refine pV ?_
    refine ⟨i + 1, i, ⟨rfl, rfl, rfl, rfl, rfl, rfl, rfl, rfl, rfl, trivial⟩, by first | exact cs _ _ | exact CSub.refl _, ?_⟩
    have hr1 := rlF_at ts i.toNat
    refine ⟨⟨⟨by omega, by omega⟩, ?_⟩, by omega⟩
    rw [show (i + 1).toNat = i.toNat + 1 by omega]
    have := hbj.take (by simpa using h9.1) (by
     rcases h9.2 with h | h
     ·exact .inl h
     ·refine .inr ?_
      rw [hr1]
      exact h)
    rwa [Int.toNat_of_nonneg hi0] at this
   ·try simp only [zbA] at h9
    refine tK ?_
    refine tR fun _ _ _ => ?_
    refine pV ?_
    refine sV (rAdd rfl rfl rfl (by omega) (by omega)) ?_
    refine pV ?_
    refine ⟨i + 1, best, ⟨rfl, rfl, rfl, rfl, rfl, rfl, rfl, rfl, rfl, trivial⟩, by first | exact cs _ _ | exact CSub.refl _, ?_⟩
    have hr1 := rlF_at ts i.toNat
    refine ⟨⟨⟨by omega, by omega⟩, ?_⟩, by omega⟩
    rw [show (i + 1).toNat = i.toNat + 1 by omega]
    cases hc : us.getD i.toNat false with
    | true => exact hbj.used hc
    | false =>
     refine hbj.pass fun h => ?_
     rcases h9 with h9 | h9
     ·rw [hc] at h9; cases h9
     ·rcases h with h | h
      ·omega
      ·rw [hr1] at h
       have h' : (relL ts).getD best.toNat 0 < (relL ts).getD i.toNat 0 := h
       omega
  ·try simp only [zbA] at h7
   refine tE ?_
   refine tS ?_
   have hbpos : 0 ≤ best := by
    obtain ⟨k, hk, hkn⟩ := hJ.some_left (by omega)
    rcases hbj with ⟨_, h2⟩ | ⟨b, h1, _⟩
    ·exact absurd ((hJ.us k hk).1 (h2 k (by omega))) hkn
    ·omega
   refine tR fun _ _ _ => ?_
   iterate 2 refine pV ?_
   refine sV (rIdxB rfl rfl rfl (by omega) (by omega) (by omega)) ?_
   refine eV (eStB rfl rfl rfl rfl (by omega) ?_)
   refine tR fun _ _ _ => ?_
   iterate 2 refine pV ?_
   refine eV (eLit1I rfl rfl rfl rfl (fun A12 => ?_))
   refine eV (eAppI rfl rfl rfl rfl rfl (by first | rfl | simp | omega) (by first | rfl | simp | omega) (by first | omega | (simp; omega)) (fun A12a c12a => ?_))
   refine pV ?_
   refine ⟨A12a, c12a, o ++ [best], us.set best.toNat true, ⟨rfl, rfl, rfl, rfl, trivial⟩, by first | exact cs _ _ | exact CSub.refl _, ?_⟩
   obtain ⟨k, hk, hkn⟩ := hJ.some_left (by omega)
   have hju : i.toNat = ts.length := by omega
   rw [hju] at hbj
   rcases hbj with ⟨_, h2⟩ | ⟨b, h1, h2, h3, h4⟩
   ·exact absurd ((hJ.us k hk).1 (h2 k hk)) hkn
   ·subst h1
    have hno : (b : Int) ∉ o := fun h => by rw [(hJ.us b h2).2 h] at h3; cases h3
    have hfr : ∀ k : Nat, k < ts.length → (k : Int) ∉ o → us.getD k false = false := fun k hk hkn => by
     cases hc : us.getD k false with
     | false => rfl
     | true => exact absurd ((hJ.us k hk).1 hc) hkn
    refine ⟨⟨?_, by rw [List.length_append]; simp; omega⟩, by rw [List.length_append]; simp; omega⟩
    rw [Int.toNat_natCast]
    exact hJ.push h2 hno fun k hk hkn hne => h4 k hk (hfr k hk hkn) hne
 ·try simp only [zbA] at h4
  refine tE ?_
  refine tS ?_
  refine tR fun _ _ _ => ?_
  iterate 2 refine pV ?_
  exact tr_ret ⟨trivial, _, _, rfl, ⟨_, rfl, B, cb, o, rfl, rfl, hJ.done (by omega)⟩, cs _ _, trivial, trivial⟩
end Go.Proofs.YtfdjdokdabmmdaaGreat

set_option maxRecDepth 100000
namespace Go.Proofs.YtfdjdokdabmmdaaGreat
open Go.RowKit
theorem ref_Pick_ent : Enters Tryz.prog 45 := enters_of Tryz.func45 (by kernel_rfl) (by kernel_rfl)
theorem ref_Pick (X : Option Addr) (nx cx : Nat) (l : List Int) (hnx : nx = l.length) (hl : l.length ≤ 1000000) (Q : Option Addr) (nq cq : Nat) (os : List Int) (hnq : nq = os.length) (hq9 : os.length ≤ 1000000) (hos : ∀ i ∈ os, 0 ≤ i ∧ i < l.length) :
  Pure Tryz.prog 45 #[.slice X nx cx, .slice Q nq cq] [ro X (ints l), ro Q (ints os)] (one (fun v ch => ∃ B cb, v = .slice B nq cb ∧ ch = ow B 3 cb (ints (pkL os l)))) := by
 refine pure_of (args := [.slice X nx cx, .slice Q nq cq]) 27 Tryz.func45 rfl rfl rfl ref_Pick_ent ⟨id, id, trivial⟩ (fun w0 => ?_)
 refine tS ?_
 refine tR fun _ _ _ => ?_
 refine pV ?_
 refine tS ?_
 refine tR fun _ _ _ => ?_
 refine pV ?_
 refine sV (rLen rfl rfl) ?_
 refine eV (eMakeI rfl rfl rfl rfl rfl (by omega) (by omega) (by omega) (fun A1 => ?_))
 refine pV ?_
 simp only [Int.toNat_natCast]
 refine tS ?_
 refine tS ?_
 refine tR fun _ _ _ => ?_
 refine pV ?_
 refine tB ?_
 refine tr_loop2 (fun (k : Int) (o : List Int) => [(5, .slice A1 nq nq), (6, .int .i64 k), (0, .slice X nx cx), (1, .slice Q nq cq), (4, .slice none 0 0)]) (fun (k : Int) (o : List Int) => [ow A1 3 nq (ints o), ro X (ints l), ro Q (ints os)]) (fun (k : Int) (o : List Int) => (0 ≤ k ∧ k ≤ nq) ∧ o.length = nq ∧ ∀ j : Nat, (j : Int) < k → o.getD j 0 = l.getD (os.getD j 0).toNat 0) (fun (k : Int) (o : List Int) => (nq - k).toNat) (0) (List.replicate nq 0) ⟨rfl, rfl, rfl, rfl, rfl, trivial⟩ (by first | exact cs _ _ | exact CSub.refl _) (⟨⟨by omega, by omega⟩, by simp, fun j hj => by omega⟩) (fun k o hI => ?_)
 obtain ⟨⟨hk0, hk1⟩, hol, ho⟩ := hI
 refine tS ?_
 refine tS ?_
 refine tR fun _ _ _ => ?_
 iterate 2 refine pV ?_
 refine sV (rLen rfl rfl) ?_
 refine pV ?_
 refine tC rfl (fun h3 => ?_) (fun h3 => ?_)
 ·try simp only [zbA] at h3
  refine tK ?_
  refine tS ?_
  refine tB ?_
  have hb := hos _ (getD_mem (show k.toNat < os.length by omega) 0)
  refine tR fun _ _ _ => ?_
  iterate 5 refine pV ?_
  refine sV (rIdxI rfl rfl rfl (by omega) (by omega) (by omega)) ?_
  refine sV (rLdI rfl rfl (by omega)) ?_
  refine sV (rIdxI rfl rfl rfl (by omega) (by omega) (by omega)) ?_
  refine sV (rLdI rfl rfl (by omega)) ?_
  refine sV (rIdxI rfl rfl rfl (by omega) (by omega) (by omega)) ?_
  refine eV (eStI rfl rfl rfl rfl (by omega) ?_)
  refine tR fun _ _ _ => ?_
  refine pV ?_
  refine sV (rAdd rfl rfl rfl (by omega) (by omega)) ?_
  refine pV ?_
  refine ⟨k + 1, o.set k.toNat (l.getD (os.getD k.toNat 0).toNat 0), ⟨rfl, rfl, rfl, rfl, rfl, trivial⟩, by first | exact cs _ _ | exact CSub.refl _, ?_⟩
  refine ⟨⟨⟨by omega, by omega⟩, by simpa using hol, fun j hj => ?_⟩, by omega⟩
  rw [getD_set]
  by_cases he : k.toNat = j
  ·subst he; rw [if_pos ⟨rfl, by omega⟩]
  ·rw [if_neg (fun h => he h.1)]; exact ho j (by omega)
 ·try simp only [zbA] at h3
  refine tE ?_
  refine tS ?_
  refine tR fun _ _ _ => ?_
  iterate 2 refine pV ?_
  have hfin : o = pkL os l := ext_getD (by rw [pkL_length]; omega) fun j => by
   by_cases hj : j < os.length
   ·rw [pkL_getD hj]; exact ho j (by omega)
   ·rw [getD_out (by omega), getD_out (by rw [pkL_length]; omega)]
  subst hfin
  exact tr_ret ⟨trivial, _, _, rfl, ⟨_, rfl, A1, nq, rfl, rfl⟩, cs _ _, trivial, trivial⟩
theorem ref_Indep_ent : Enters Tryz.prog 16 := enters_of Tryz.func16 (by kernel_rfl) (by kernel_rfl)
theorem ref_Indep (p m : Int) (A : Option Addr) (c : Nat) (mod : List Int) [hF : IsF p m mod] (w : Int) (Aa : Option Addr) (n ca : Nat) (rs : List RowM) (hn : n = rs.length) (h9 : rs.length ≤ 256) (hc : CodeOk p m mod w rs) (Q : Option Addr) (nq cq : Nat) (os : List Int) (hnq : nq = os.length) (hq9 : os.length ≤ 1000) (hos : ∀ i ∈ os, 0 ≤ i ∧ i < w) :
  Pure Tryz.prog 16 #[.agg #[.int .i64 p, .int .i64 m, .slice A mod.length c, .int .i64 w, .slice Aa n ca], .slice Q nq cq] [ro A (ints mod), ro Aa (hdrs rs), rowsR rs, ro Q (ints os)] (isV (.bool (indB p m mod rs os))) := by
 have hl9 := hF.short
 have hn1 := hc.n1
 have hn64 := hc.n64
 have hlen := hc.len
 have hgd := hc.good
 have h8 := hgd.h8 (N := 17592186044415) (by omega)
 have hck := hc.zero
 have hq2 := hF.q2
 refine pure_of (args := [.agg #[.int .i64 p, .int .i64 m, .slice A mod.length c, .int .i64 w, .slice Aa n ca], .slice Q nq cq]) 40 Tryz.func16 rfl rfl rfl ref_Indep_ent ⟨id, id, id, id, trivial⟩ (fun w0 => ?_)
 refine tS ?_
 refine tR fun _ _ _ => ?_
 refine eV (eBox rfl rfl rfl rfl rfl (fun p0 => ?_))
 refine pV ?_
 refine tS ?_
 refine tR fun _ _ _ => ?_
 refine pV ?_
 refine tS ?_
 refine tS ?_
 refine tR fun _ _ _ => ?_
 refine pV ?_
 refine tB ?_
 refine tr_nilR 22 3 ?_
 refine tr_loop4 (fun (k : Int) (AQ : Option Addr) (c2 : Nat) (qs : List RowM) => [(5, .slice AQ qs.length c2), (6, .int .i64 k), (1, .slice Q nq cq), (2, .pointer (some p0)), (4, .bool false)]) (fun (k : Int) (AQ : Option Addr) (c2 : Nat) (qs : List RowM) => [ow AQ 22 c2 (hdrs qs), rowsCh 3 qs, blk p0 27 [.int .i64 p, .int .i64 m, .slice A mod.length c, .int .i64 w, .slice Aa n ca], ro A (ints mod), ro Aa (hdrs rs), rowsR rs, ro Q (ints os)]) (fun (k : Int) (AQ : Option Addr) (c2 : Nat) (qs : List RowM) => (0 ≤ k ∧ k ≤ n) ∧ xss qs = ((xss rs).take k.toNat).map (pkL os)) (fun (k : Int) (AQ : Option Addr) (c2 : Nat) (qs : List RowM) => (n - k).toNat) (0) (none) (0) ([]) ⟨rfl, rfl, rfl, rfl, rfl, trivial⟩ (by first | exact cs _ _ | exact CSub.refl _) (⟨⟨by omega, by omega⟩, rfl⟩) (fun k AQ c2 qs hI => ?_)
 obtain ⟨⟨hk0, hk1⟩, hqs⟩ := hI
 have hql : qs.length = k.toNat := by have := congrArg List.length hqs; simp at this; omega
 refine tS ?_
 refine tS ?_
 refine tR fun _ _ _ => ?_
 refine pV ?_
 refine sV (rFld rfl rfl) ?_
 refine sV (rLdF rfl rfl rfl) ?_
 refine sV (rLen rfl rfl) ?_
 refine pV ?_
 refine tC rfl (fun h3 => ?_) (fun h3 => ?_)
 ·try simp only [zbA] at h3
  refine tK ?_
  refine tS ?_
  refine tB ?_
  haveI : InB k.toNat rs.length := ⟨by omega⟩
  have hgk := hgd.get (show k.toNat < rs.length by omega)
  have hgk1 := hgk.1
  refine tR fun _ _ _ => ?_
  refine pV ?_
  refine sV (rFld rfl rfl) ?_
  refine sV (rLdF rfl rfl rfl) ?_
  refine pV ?_
  refine sV (rIdxR rfl rfl rfl (by omega) (by omega) (by omega)) ?_
  refine sV (rLdR rfl rfl (by omega)) ?_
  refine pV ?_
  refine eV (eCall1 rfl rfl rfl (ref_Pick _ _ _ (rs.getD k.toNat rowD).xs rfl (by omega) Q nq cq os hnq (by omega) (fun i hi => by have := hos i hi; omega)) ⟨rfl, rfl, trivial⟩ ?_)
  rintro _ _ ⟨B5, cp5, rfl, rfl⟩
  refine eV (eLit1 rfl rfl rfl rfl rfl (fun A5a => ?_))
  refine eV (eAppRn (pkL os (rs.getD k.toNat rowD).xs) (by rw [pkL_length]; omega) rfl rfl rfl rfl rfl (by first | rfl | simp) (by omega) (fun A5b c5b => ?_))
  refine pV ?_
  refine tR fun _ _ _ => ?_
  refine pV ?_
  refine sV (rAdd rfl rfl rfl (by omega) (by omega)) ?_
  refine pV ?_
  refine ⟨k + 1, A5b, c5b, qs ++ [⟨B5, cp5, pkL os (rs.getD k.toNat rowD).xs⟩], ⟨rfl, rfl, rfl, rfl, rfl, trivial⟩, by exact rows_app, ?_⟩
  refine ⟨⟨⟨by omega, by omega⟩, ?_⟩, by omega⟩
  rw [show (k + 1).toNat = k.toNat + 1 by omega, xss_take1 (by omega), xss_snoc, hqs, List.map_append]; rfl
 ·try simp only [zbA] at h3
  refine tE ?_
  refine tS ?_
  have hkr : (xss rs).take k.toNat = xss rs := List.take_of_length_le (by rw [xss_length]; omega)
  rw [hkr] at hqs
  have hgq : Gd (pw p m) (nq : Int).toNat qs := by
   have := gd_pk (by omega) hgd hqs
   rwa [show (nq : Int).toNat = os.length by omega]
  refine tR fun _ _ _ => ?_
  refine sV (rFld rfl rfl) ?_
  refine sV (rLdSF rfl rfl) ?_
  iterate 2 refine pV ?_
  refine sV (rLen rfl rfl) ?_
  refine eV (eCall3 rfl rfl rfl (ref_RCanon _ _ _ _ _ (nq : Int) (by omega) (by omega) AQ _ c2 qs rfl (by omega) hgq) ⟨rfl, rfl, rfl, trivial⟩ ?_)
  rintro _ _ _ _ ⟨r3, B6, cg6, Bp6, cp6, ps6, rfl, rfl, rfl, rfl, hR6, hk6⟩
  iterate 5 refine pV ?_
  refine tS ?_
  refine tR fun _ _ _ => ?_
  refine pV ?_
  refine sV (rLen rfl rfl) ?_
  refine pV ?_
  refine sV (rLen rfl rfl) ?_
  iterate 2 refine pV ?_
  obtain ⟨qq, hpq, hrq⟩ := hR6.form
  have hspq := hR6.span
  rw [vsR_pk hqs] at hspq
  rw [show (nq : Int).toNat = (os.map Int.toNat).length by rw [List.length_map]; omega] at hrq
  have hii := Vc.ind_iff hrq hspq
  have hpl : ps6.length = qq.length := by rw [hpq, List.length_map]
  rw [List.length_map] at hii
  have hval : indB p m mod rs os = decide ((ps6.length : Int) = nq) := Bool.eq_iff_iff.2 (by rw [indB_iff, ← hii, decide_eq_true_iff]; omega)
  exact tr_ret ⟨trivial, _, _, rfl, ⟨by rw [hval], rfl⟩, CSub.nil _, trivial⟩
theorem ref_OBasis_ent : Enters Tryz.prog 17 := enters_of Tryz.func17 (by kernel_rfl) (by kernel_rfl)
theorem ref_OBasis (p m : Int) (A : Option Addr) (c : Nat) (mod : List Int) [hF : IsF p m mod] (w : Int) (Aa : Option Addr) (n ca : Nat) (rs : List RowM) (hn : n = rs.length) (h9 : rs.length ≤ 256) (hc : CodeOk p m mod w rs) (T : Option Addr) (nt ct : Nat) (ts : List RowM) (hnt : nt = ts.length) (htab : TabOk (pw p m) w ts) :
  Pure Tryz.prog 17 #[.agg #[.int .i64 p, .int .i64 m, .slice A mod.length c, .int .i64 w, .slice Aa n ca], .slice T nt ct] [ro A (ints mod), ro Aa (hdrs rs), rowsR rs, ro T (hdrs ts), rowsR ts] (one (fun v ch => ∃ B cb bs o, v = .slice B bs.length cb ∧ ch = ow B 3 cb (ints bs) ∧ OrdS (rlF ts) ts.length o ∧ BasOf p m mod rs o bs)) := by
 have hl9 := hF.short
 have hn1 := hc.n1
 have hn64 := hc.n64
 have hlen := hc.len
 have hgd := hc.good
 have h8 := hgd.h8 (N := 17592186044415) (by omega)
 have hck := hc.zero
 have hq2 := hF.q2
 have htl := htab.len
 have hq256 := hF.out.1.1.q
 refine pure_of (args := [.agg #[.int .i64 p, .int .i64 m, .slice A mod.length c, .int .i64 w, .slice Aa n ca], .slice T nt ct]) 31 Tryz.func17 rfl rfl rfl ref_OBasis_ent ⟨id, id, id, id, id, trivial⟩ (fun w0 => ?_)
 refine tS ?_
 refine tR fun _ _ _ => ?_
 refine eV (eBox rfl rfl rfl rfl rfl (fun p0 => ?_))
 refine pV ?_
 refine tS ?_
 refine tR fun _ _ _ => ?_
 refine pV ?_
 refine eV (eCall1 rfl rfl rfl (ref_OOrder T nt ct ts hnt (pw p m) hq2 hq256 (by omega) htab.row) ⟨rfl, trivial⟩ ?_)
 rintro _ _ ⟨B1, c1, o, rfl, rfl, hO⟩
 refine pV ?_
 have hol := hO.len
 obtain ⟨E9, qs, hRr, hsp⟩ := Vc.rr_ex (pk_supp (p := p) (m := m) (mod := mod) rs o)
 refine tS ?_
 refine tR fun _ _ _ => ?_
 refine pV ?_
 refine tS ?_
 refine tS ?_
 refine tR fun _ _ _ => ?_
 refine pV ?_
 refine tB ?_
 refine tr_nilI 3 ?_
 refine tr_loop4 (fun (i : Int) (B : Option Addr) (cb : Nat) (l : List Int) => [(6, .slice B l.length cb), (7, .int .i64 i), (2, .pointer (some p0)), (4, .slice none 0 0), (5, .slice B1 o.length c1)]) (fun (i : Int) (B : Option Addr) (cb : Nat) (l : List Int) => [ow B 3 cb (ints l), blk p0 27 [.int .i64 p, .int .i64 m, .slice A mod.length c, .int .i64 w, .slice Aa n ca], ow B1 3 c1 (ints o), ro A (ints mod), ro Aa (hdrs rs), rowsR rs, ro T (hdrs ts), rowsR ts]) (fun (i : Int) (B : Option Addr) (cb : Nat) (l : List Int) => (0 ≤ i ∧ i ≤ o.length) ∧ ∃ t : Nat, t ≤ qs.length ∧ l = (qs.take t).map (fun q => o.getD q 0) ∧ (∀ k, k < t → qs.getD k 0 < i.toNat) ∧ ∀ k, t ≤ k → k < qs.length → i.toNat ≤ qs.getD k 0) (fun (i : Int) (B : Option Addr) (cb : Nat) (l : List Int) => (o.length - i).toNat) (0) (none) (0) ([]) ⟨rfl, rfl, rfl, rfl, rfl, trivial⟩ (by first | exact cs _ _ | exact CSub.refl _) (⟨⟨by omega, by omega⟩, 0, by omega, rfl, fun k hk => by omega, fun k _ _ => by omega⟩) (fun i B cb l hI => ?_)
 obtain ⟨⟨hi0, hi1⟩, t, ht, hl, hlow, hup⟩ := hI
 have hql : qs.length ≤ o.length := by
  rcases Nat.eq_zero_or_pos qs.length with h | h
  ·omega
  ·have a := Vc.rise_ge hRr.rise (qs.length - 1) (by omega)
   have b := hRr.lt (qs.length - 1) (by omega)
   omega
 have hll : l.length = t := by rw [hl, List.length_map, List.length_take]; omega
 refine tS ?_
 refine tS ?_
 refine tR fun _ _ _ => ?_
 iterate 2 refine pV ?_
 refine sV (rLen rfl rfl) ?_
 refine pV ?_
 refine tC rfl (fun h4 => ?_) (fun h4 => ?_)
 ·try simp only [zbA] at h4
  refine tK ?_
  refine tS ?_
  refine tB ?_
  refine tr_mid (fun (q : (Option Addr) × Nat) => match q with | (Bm, cm) => [(2, .pointer (some p0)), (4, .slice none 0 0), (5, .slice B1 o.length c1), (6, .slice B l.length cb), (7, .int .i64 i), (8, .slice Bm (l ++ [o.getD i.toNat 0]).length cm)]) (fun (q : (Option Addr) × Nat) => match q with | (Bm, cm) => [ow Bm 3 cm (ints (l ++ [o.getD i.toNat 0])), ow B 3 cb (ints l), blk p0 27 [.int .i64 p, .int .i64 m, .slice A mod.length c, .int .i64 w, .slice Aa n ca], ow B1 3 c1 (ints o), ro A (ints mod), ro Aa (hdrs rs), rowsR rs, ro T (hdrs ts), rowsR ts]) ?_ ?_
  ·refine tr_tree (.one 1 (.one 3 (.one 4 (.one 5 (.one 6 (.two 0 (.two 2 (.one 7 .nil) 7 (.one 2 .nil)) 7 (.one 0 (.one 2 .nil)))))))) [8, 9] mixed (by kernel_rfl) fun _ _ _ => ?_
   iterate 3 refine pV ?_
   refine sV (rIdxI rfl rfl rfl (by omega) (by omega) (by omega)) ?_
   refine sV (rLdI rfl rfl (by omega)) ?_
   refine ⟨?_, ?_⟩
   ·refine eV (eLit0I rfl rfl rfl  (fun A6 => ?_))
    refine ⟨?_, ?_⟩
    ·refine eV (eAppXI rfl rfl rfl rfl rfl (by first | rfl | simp | omega) (by first | rfl | simp | omega) (by first | rfl | simp | omega) (by first | omega | (simp; omega)) (fun A6a c6a => ?_))
     refine eV (eLit1I rfl rfl rfl rfl (fun A6b => ?_))
     refine eV (eAppI rfl rfl rfl rfl rfl (by first | rfl | simp | omega) (by first | rfl | simp | omega) (by first | omega | (simp; omega)) (fun A6c c6c => ?_))
     refine pV ?_
     rw [List.nil_append]
     exact ⟨rfl, (A6c, c6c), ⟨rfl, rfl, rfl, rfl, rfl, rfl, trivial⟩, by first | exact cs _ _ | exact CSub.refl _⟩
    ·refine eV (eLit1I rfl rfl rfl rfl (fun A6b => ?_))
     refine eV (eAppXI rfl rfl rfl rfl rfl (by first | rfl | simp | omega) (by first | rfl | simp | omega) (by first | rfl | simp | omega) (by first | omega | (simp; omega)) (fun A6a c6a => ?_))
     refine eV (eAppI rfl rfl rfl rfl rfl (by first | rfl | simp | omega) (by first | rfl | simp | omega) (by first | omega | (simp; omega)) (fun A6c c6c => ?_))
     refine pV ?_
     rw [List.nil_append]
     exact ⟨rfl, (A6c, c6c), ⟨rfl, rfl, rfl, rfl, rfl, rfl, trivial⟩, by first | exact cs _ _ | exact CSub.refl _⟩
   ·refine eV (eLit1I rfl rfl rfl rfl (fun A6b => ?_))
    refine eV (eLit0I rfl rfl rfl  (fun A6 => ?_))
    refine eV (eAppXI rfl rfl rfl rfl rfl (by first | rfl | simp | omega) (by first | rfl | simp | omega) (by first | rfl | simp | omega) (by first | omega | (simp; omega)) (fun A6a c6a => ?_))
    refine eV (eAppI rfl rfl rfl rfl rfl (by first | rfl | simp | omega) (by first | rfl | simp | omega) (by first | omega | (simp; omega)) (fun A6c c6c => ?_))
    refine pV ?_
    rw [List.nil_append]
    exact ⟨rfl, (A6c, c6c), ⟨rfl, rfl, rfl, rfl, rfl, rfl, trivial⟩, by first | exact cs _ _ | exact CSub.refl _⟩
  ·rintro ⟨Bm, cm⟩
   refine tS ?_
   have hln : ∀ x ∈ l ++ [o.getD i.toNat 0], 0 ≤ x ∧ x < w := fun x hx => by
    have : x ∈ o := by
     rcases List.mem_append.1 hx with hx | hx
     ·rw [hl] at hx
      obtain ⟨q, hq, rfl⟩ := List.mem_map.1 hx
      obtain ⟨j, hj, rfl⟩ := List.getElem_of_mem (List.mem_of_mem_take hq)
      have := hRr.lt j hj
      rw [List.getD_eq_getElem?_getD, List.getElem?_eq_getElem hj] at this
      exact getD_mem this 0
     ·rw [List.mem_singleton.1 hx]; exact getD_mem (by omega) 0
    have := hO.bd x this
    omega
   have hst := bas_step hRr hsp (t := t) (i := i.toNat) (by omega) ht hlow hup
   rw [← hl] at hst
   refine tR fun _ _ _ => ?_
   refine sV (rLdS rfl rfl rfl) ?_
   refine pV ?_
   refine eV (eCallV rfl rfl rfl (ref_Indep p m A c mod w Aa n ca rs hn h9 hc Bm _ cm (l ++ [o.getD i.toNat 0]) rfl (by rw [List.length_append]; simp; omega) hln) ⟨rfl, rfl, trivial⟩ ?_)
   refine tC rfl (fun h7 => ?_) (fun h7 => ?_)
   ·try simp only [zbA] at h7
    refine tR fun _ _ _ => ?_
    iterate 2 refine pV ?_
    refine tR fun _ _ _ => ?_
    refine pV ?_
    refine sV (rAdd rfl rfl rfl (by omega) (by omega)) ?_
    refine pV ?_
    refine ⟨i + 1, Bm, cm, l ++ [o.getD i.toNat 0], ⟨rfl, rfl, rfl, rfl, rfl, trivial⟩, by first | exact cs _ _ | exact CSub.refl _, ?_⟩
    obtain ⟨h1, h2⟩ := hst.1 h7
    refine ⟨⟨⟨by omega, by omega⟩, t + 1, by omega, ?_, fun k hk => ?_, fun k hk hk2 => ?_⟩, by omega⟩
    ·rw [hl, List.take_add_one, List.map_append]
     congr 1
     rw [List.getElem?_eq_getElem h1]
     rw [List.getD_eq_getElem?_getD, List.getElem?_eq_getElem h1] at h2
     have h3 : qs[t] = i.toNat := h2
     simp [h3]
    ·by_cases e : k = t
     ·subst e; omega
     ·have := hlow k (by omega); omega
    ·have := hRr.rise t k (by omega) hk2; omega
   ·try simp only [zbA] at h7
    refine tK ?_
    refine tR fun _ _ _ => ?_
    refine pV ?_
    refine sV (rAdd rfl rfl rfl (by omega) (by omega)) ?_
    refine pV ?_
    refine ⟨i + 1, B, cb, l, ⟨rfl, rfl, rfl, rfl, rfl, trivial⟩, by first | exact cs _ _ | exact CSub.refl _, ?_⟩
    have hno : ¬ (t < qs.length ∧ qs.getD t 0 = i.toNat) := fun h => by
     rw [hst.2 h] at h7; exact absurd h7 (by simp)
    refine ⟨⟨⟨by omega, by omega⟩, t, ht, hl, fun k hk => by have := hlow k hk; omega, fun k hk hk2 => ?_⟩, by omega⟩
    have h1 := hup k hk hk2
    by_cases e : k = t
    ·subst e
     have : qs.getD k 0 ≠ i.toNat := fun h => hno ⟨hk2, h⟩
     omega
    ·have h2 := hup t (Nat.le_refl _) (by omega)
     have := hRr.rise t k (by omega) hk2
     omega
 ·try simp only [zbA] at h4
  refine tE ?_
  refine tS ?_
  refine tR fun _ _ _ => ?_
  iterate 2 refine pV ?_
  have htq : t = qs.length := Nat.le_antisymm ht (Nat.le_of_not_lt fun h => by
   have a := hup t (Nat.le_refl _) h
   have b := hRr.lt t h
   omega)
  rw [htq, List.take_length] at hl
  exact tr_ret ⟨trivial, _, _, rfl, ⟨_, rfl, B, cb, l, o, rfl, rfl, hO, E9, qs, hRr, hsp, hl⟩, cs _ _, trivial, trivial⟩
theorem mat_Columns_ent : Enters Tryz.prog 35 := enters_of Tryz.func35 (by kernel_rfl) (by kernel_rfl)
theorem mat_Columns (p m : Int) (A : Option Addr) (c : Nat) (mod : List Int) [hF : IsF p m mod] (w : Int) (Aa : Option Addr) (n ca : Nat) (rs : List RowM) (hn : n = rs.length) (h9 : rs.length ≤ 256) (hc : CodeOk p m mod w rs) (Q : Option Addr) (nq cq : Nat) (os : List Int) (hnq : nq = os.length) (hq9 : os.length ≤ 256) (hos : ∀ i ∈ os, 0 ≤ i ∧ i < w) :
  Pure Tryz.prog 35 #[.agg #[.int .i64 p, .int .i64 m, .slice A mod.length c], .agg #[.int .i64 w, .slice Aa n ca], .slice Q nq cq] [ro A (ints mod), ro Aa (hdrs rs), rowsR rs, ro Q (ints os)] (two (fun v ca cb => ∃ B cb2 r3, v = .tuple #[.agg #[.int .i64 nq, .slice B r3.length cb2], .int .i64 0] ∧ ca = ow B 22 cb2 (hdrs r3) ∧ cb = rowsCh 3 r3 ∧ xss r3 = (xss rs).map (pkL os))) := by
 have hl9 := hF.short
 have hn1 := hc.n1
 have hn64 := hc.n64
 have hlen := hc.len
 have hgd := hc.good
 have h8 := hgd.h8 (N := 17592186044415) (by omega)
 have hck := hc.zero
 have hq2 := hF.q2
 refine pure_ofC (args := [.agg #[.int .i64 p, .int .i64 m, .slice A mod.length c], .agg #[.int .i64 w, .slice Aa n ca], .slice Q nq cq]) 85 Tryz.func35 rfl rfl rfl mat_Columns_ent ⟨id, id, id, id, trivial⟩ (fun w0 => ?_)
 refine tS ?_
 refine tR fun _ _ _ => ?_
 refine eV (eBox rfl rfl rfl rfl rfl (fun p0 => ?_))
 refine eV (eBox rfl rfl rfl rfl rfl (fun p0a => ?_))
 refine eV (eAlloc rfl rfl rfl (fun p0b => ?_))
 refine pV ?_
 refine tS ?_
 refine tS ?_
 refine tR fun _ _ _ => ?_
 refine sV (rLdS rfl rfl rfl) ?_
 refine sV (rLdS rfl rfl rfl) ?_
 refine eV (eLitS rfl rfl rfl rfl (fun p1 => ?_))
 refine eV (eCall1 rfl rfl rfl (mat_openG _ _ _ _ _ (by omega) _ _ w Aa _ ca rs hn (by omega) h8 hc.row) ⟨rfl, rfl, trivial⟩ ?_)
 rintro _ _ ⟨g, rfl, rfl, hg⟩
 iterate 5 refine pV ?_
 refine tS ?_
 refine tR fun _ _ _ => ?_
 iterate 2 refine pV ?_
 refine tC rfl (fun h2 => ?_) (fun h2 => ?_)
 ·try simp only [zbA] at h2
  first | exact absurd trivial h2 | exact absurd rfl h2 | omega | (exact absurd h2 (by simp)) --done
 ·try simp only [zbA] at h2
  refine tK ?_
  refine tS ?_
  refine tS ?_
  refine tR fun _ _ _ => ?_
  refine pV ?_
  refine sV (rLen rfl rfl) ?_
  refine pV ?_
  refine tC rfl (fun h4 => ?_) (fun h4 => ?_)
  ·try simp only [zbA] at h4
   omega --done
  ·try simp only [zbA] at h4
   refine tK ?_
   refine tS ?_
   refine tS ?_
   refine tR fun _ _ _ => ?_
   refine pV ?_
   refine sV (rLen rfl rfl) ?_
   refine pV ?_
   refine tB ?_
   refine tr_loop1 (fun (k : Int) => [(35, .int .i64 k), (2, .slice Q nq cq), (4, .pointer (some p0a)), (6, .pointer (some p0b)), (33, .slice Q nq cq), (34, .int .i64 nq)]) (fun (k : Int) => [gfN g, blk p0b 67 [.int .i64 0, .slice none 0 0], blk p0 24 [.int .i64 p, .int .i64 m, .slice A mod.length c], blk p0a 67 [.int .i64 w, .slice Aa n ca], ro A (ints mod), ro Aa (hdrs rs), rowsR rs, ro Q (ints os)]) (fun (k : Int) => 0 ≤ k ∧ k ≤ nq) (fun (k : Int) => (nq - k).toNat) (0) ⟨rfl, rfl, rfl, rfl, rfl, rfl, trivial⟩ (by first | exact cs _ _ | exact CSub.refl _) (⟨by omega, by omega⟩) (fun k hI => ?_)
   refine tS ?_
   refine tR fun _ _ _ => ?_
   refine pV ?_
   refine tS ?_
   refine tC rfl (fun h7 => ?_) (fun h7 => ?_)
   ·try simp only [zbA] at h7
    refine tK ?_
    refine tS ?_
    refine tB ?_
    refine tS ?_
    refine tR fun _ _ _ => ?_
    refine sV (rIdxI rfl rfl rfl (by omega) (by omega) (by omega)) ?_
    refine sV (rLdI rfl rfl (by omega)) ?_
    refine pV ?_
    refine tS ?_
    refine tR fun _ _ _ => ?_
    iterate 3 refine pV ?_
    refine stg rfl rfl rfl rfl rfl (fun hb => by (have hq := hb; try simp only [zbA] at hq); exact rMove rfl rfl) ?_
    refine stg rfl rfl rfl rfl rfl (fun hb => by (have hq := hb; try simp only [zbA] at hq); exact rFld rfl rfl) ?_
    refine stg rfl rfl rfl rfl rfl (fun hb => by (have hq := hb; try simp only [zbA] at hq); exact rLdF rfl (evg rfl hb) rfl) ?_
    refine stg rfl rfl rfl rfl rfl (fun hb => by (have hq := hb; try simp only [zbA] at hq); exact rGeq rfl (evg rfl hb) (evg rfl hb)) ?_
    refine sV (rOrB rfl rfl rfl rfl) ?_
    refine tC rfl (fun h9 => ?_) (fun h9 => ?_)
    ·try simp only [zbA] at h9
     have hb := hos _ (getD_mem (show k.toNat < os.length by omega) 0)
     omega --done
    ·try simp only [zbA] at h9
     refine tK ?_
     refine tR fun _ _ _ => ?_
     refine sV (rAdd rfl rfl rfl (by omega) (by omega)) ?_
     refine pV ?_
     refine ⟨k + 1, ⟨rfl, rfl, rfl, rfl, rfl, rfl, trivial⟩, by first | exact cs _ _ | exact CSub.refl _, ?_⟩
     exact ⟨⟨by omega, by omega⟩, by omega⟩
   ·try simp only [zbA] at h7
    refine tE ?_
    refine tS ?_
    refine tR fun _ _ _ => ?_
    refine pV ?_
    refine sV (rLen rfl rfl) ?_
    refine sV (rBuild rfl rfl) ?_
    refine eV (eAlloc rfl rfl rfl (fun p12 => ?_))
    refine eV (eStS rfl rfl rfl rfl rfl rfl ?_)
    refine tS ?_
    refine tS ?_
    refine tR fun _ _ _ => ?_
    refine sV (rFld rfl rfl) ?_
    refine sV (rLdF rfl rfl rfl) ?_
    refine sV (rLen rfl rfl) ?_
    refine pV ?_
    refine tB ?_
    refine tr_nilR 22 3 ?_
    refine tr_loop4 (fun (k : Int) (AQ : Option Addr) (c2 : Nat) (qs : List RowM) => [(12, .pointer (some p12)), (55, .int .i64 k), (53, .slice Aa n ca), (54, .int .i64 n), (2, .slice Q nq cq), (6, .pointer (some p0b))]) (fun (k : Int) (AQ : Option Addr) (c2 : Nat) (qs : List RowM) => [ow AQ 22 c2 (hdrs qs), rowsCh 3 qs, blk p12 67 [.int .i64 nq, .slice AQ qs.length c2], blk p0b 67 [.int .i64 0, .slice none 0 0], gfN g, blk p0 24 [.int .i64 p, .int .i64 m, .slice A mod.length c], blk p0a 67 [.int .i64 w, .slice Aa n ca], ro A (ints mod), ro Aa (hdrs rs), rowsR rs, ro Q (ints os)]) (fun (k : Int) (AQ : Option Addr) (c2 : Nat) (qs : List RowM) => (0 ≤ k ∧ k ≤ n) ∧ xss qs = ((xss rs).take k.toNat).map (pkL os)) (fun (k : Int) (AQ : Option Addr) (c2 : Nat) (qs : List RowM) => (n - k).toNat) (0) (none) (0) ([]) ⟨rfl, rfl, rfl, rfl, rfl, rfl, trivial⟩ (by first | exact cs _ _ | exact CSub.refl _) (⟨⟨by omega, by omega⟩, rfl⟩) (fun k AQ c2 qs hI => ?_)
    obtain ⟨⟨hk0, hk1⟩, hqs⟩ := hI
    have hql : qs.length = k.toNat := by have := congrArg List.length hqs; simp at this; omega
    refine tS ?_
    refine tR fun _ _ _ => ?_
    refine pV ?_
    refine tS ?_
    refine tC rfl (fun h14 => ?_) (fun h14 => ?_)
    ·try simp only [zbA] at h14
     refine tK ?_
     refine tS ?_
     refine tB ?_
     refine tS ?_
     refine tR fun _ _ _ => ?_
     refine sV (rIdxR rfl rfl rfl (by omega) (by omega) (by omega)) ?_
     refine sV (rLdR rfl rfl (by omega)) ?_
     refine pV ?_
     refine tS ?_
     haveI : InB k.toNat rs.length := ⟨by omega⟩
     have hgk := hgd.get (show k.toNat < rs.length by omega)
     have hgk1 := hgk.1
     refine tR fun _ _ _ => ?_
     refine pV ?_
     refine sV (rLen rfl rfl) ?_
     refine eV (eMakeI rfl rfl rfl rfl rfl (by omega) (by omega) (by omega) (fun A16 => ?_))
     refine pV ?_
     simp only [Int.toNat_natCast]
     refine tS ?_
     refine tS ?_
     refine tR fun _ _ _ => ?_
     refine pV ?_
     refine sV (rLen rfl rfl) ?_
     refine pV ?_
     refine tB ?_
     refine tr_loop2 (fun (j : Int) (y : List Int) => [(64, .int .i64 j), (15, .slice A16 nq nq), (14, .slice (rs.getD k.toNat rowD).A (rs.getD k.toNat rowD).xs.length (rs.getD k.toNat rowD).cap), (2, .slice Q nq cq), (6, .pointer (some p0b)), (12, .pointer (some p12)), (53, .slice Aa n ca), (54, .int .i64 n), (55, .int .i64 k), (59, .slice Q nq cq), (60, .int .i64 nq), (61, .slice A16 nq nq), (62, .slice Q nq cq), (63, .int .i64 nq)]) (fun (j : Int) (y : List Int) => [ow A16 3 nq (ints y), ow AQ 22 c2 (hdrs qs), rowsCh 3 qs, blk p12 67 [.int .i64 nq, .slice AQ qs.length c2], blk p0b 67 [.int .i64 0, .slice none 0 0], gfN g, blk p0 24 [.int .i64 p, .int .i64 m, .slice A mod.length c], blk p0a 67 [.int .i64 w, .slice Aa n ca], ro A (ints mod), ro Aa (hdrs rs), rowsR rs, ro Q (ints os)]) (fun (j : Int) (y : List Int) => (0 ≤ j ∧ j ≤ nq) ∧ y.length = nq ∧ ∀ z : Nat, (z : Int) < j → y.getD z 0 = (rs.getD k.toNat rowD).xs.getD (os.getD z 0).toNat 0) (fun (j : Int) (y : List Int) => (nq - j).toNat) (0) (List.replicate nq 0) ⟨rfl, rfl, rfl, rfl, rfl, rfl, rfl, rfl, rfl, rfl, rfl, rfl, rfl, rfl, trivial⟩ (by first | exact cs _ _ | exact CSub.refl _) (⟨⟨by omega, by omega⟩, by simp, fun z hz => by omega⟩) (fun j y hI => ?_)
     obtain ⟨⟨hj0, hj1⟩, hyl, hy⟩ := hI
     refine tS ?_
     refine tR fun _ _ _ => ?_
     refine pV ?_
     refine tS ?_
     refine tC rfl (fun h18 => ?_) (fun h18 => ?_)
     ·try simp only [zbA] at h18
      refine tK ?_
      refine tS ?_
      refine tB ?_
      refine tS ?_
      refine tR fun _ _ _ => ?_
      refine pV ?_
      refine sV (rIdxI rfl rfl rfl (by omega) (by omega) (by omega)) ?_
      refine sV (rLdI rfl rfl (by omega)) ?_
      iterate 2 refine pV ?_
      have hb := hos _ (getD_mem (show j.toNat < os.length by omega) 0)
      refine tR fun _ _ _ => ?_
      iterate 4 refine pV ?_
      refine sV (rIdxI rfl rfl rfl (by omega) (by omega) (by omega)) ?_
      refine sV (rLdI rfl rfl (by omega)) ?_
      refine sV (rIdxI rfl rfl rfl (by omega) (by omega) (by omega)) ?_
      refine eV (eStI rfl rfl rfl rfl (by omega) ?_)
      refine tR fun _ _ _ => ?_
      refine sV (rAdd rfl rfl rfl (by omega) (by omega)) ?_
      refine pV ?_
      refine ⟨j + 1, y.set j.toNat ((rs.getD k.toNat rowD).xs.getD (os.getD j.toNat 0).toNat 0), ⟨rfl, rfl, rfl, rfl, rfl, rfl, rfl, rfl, rfl, rfl, rfl, rfl, rfl, rfl, trivial⟩, by first | exact cs _ _ | exact CSub.refl _, ?_⟩
      refine ⟨⟨⟨by omega, by omega⟩, by simpa using hyl, fun z hz => ?_⟩, by omega⟩
      rw [getD_set]
      by_cases he : j.toNat = z
      ·subst he; rw [if_pos ⟨rfl, by omega⟩]
      ·rw [if_neg (fun h => he h.1)]; exact hy z (by omega)
     ·try simp only [zbA] at h18
      refine tE ?_
      have hjq : j.toNat = os.length := by omega
      have hyf : y = pkL os (rs.getD k.toNat rowD).xs := ext_getD (by rw [pkL_length]; omega) fun z => by
       by_cases hz : z < os.length
       ·rw [pkL_getD hz]; exact hy z (by omega)
       ·rw [getD_out (by omega), getD_out (by rw [pkL_length]; omega)]
      subst hyf
      refine tR fun _ _ _ => ?_
      refine sV (rFld rfl rfl) ?_
      refine sV (rLdF rfl rfl rfl) ?_
      refine pV ?_
      refine eV (eLit1 rfl rfl rfl rfl rfl (fun A22 => ?_))
      refine eV (eAppRn (pkL os (rs.getD k.toNat rowD).xs) (by rw [pkL_length]; omega) rfl rfl rfl rfl rfl (by first | rfl | simp) (by omega) (fun A22a c22a => ?_))
      refine sV (rFld rfl rfl) ?_
      refine eV (eStF rfl rfl rfl rfl rfl (by simp) rfl rfl ?_)
      simp only [List.set_cons_succ, List.set_cons_zero]
      refine tR fun _ _ _ => ?_
      refine sV (rAdd rfl rfl rfl (by omega) (by omega)) ?_
      refine pV ?_
      refine ⟨k + 1, A22a, c22a, qs ++ [⟨A16, nq, pkL os (rs.getD k.toNat rowD).xs⟩], ⟨rfl, rfl, rfl, rfl, rfl, rfl, trivial⟩, by exact rows_app, ?_⟩
      refine ⟨⟨⟨by omega, by omega⟩, ?_⟩, by omega⟩
      rw [show (k + 1).toNat = k.toNat + 1 by omega, xss_take1 (by omega), xss_snoc, hqs, List.map_append]; rfl
    ·try simp only [zbA] at h14
     refine tE ?_
     refine tS ?_
     refine tR fun _ _ _ => ?_
     refine sV (rLdS rfl rfl rfl) ?_
     refine eV (eStS rfl rfl rfl rfl rfl rfl ?_)
     refine pV ?_
     have hkr : (xss rs).take k.toNat = xss rs := List.take_of_length_le (by rw [xss_length]; omega)
     rw [hkr] at hqs
     exact tr_ret ⟨trivial, _, _, (.cell rfl (cellS rfl) (.tmp rfl .nil)), ⟨_, _, rfl, AQ, c2, qs, rfl, rfl, rfl, hqs⟩, cs _ _, trivial, trivial, trivial⟩
end Go.Proofs.YtfdjdokdabmmdaaGreat

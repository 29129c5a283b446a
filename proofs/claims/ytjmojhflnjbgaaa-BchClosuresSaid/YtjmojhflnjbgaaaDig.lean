/-
  DIGITS, POWERS, PRIMES. One sentence: numbers as lists of digits in base p, powers of p, and primes, as the two texts reckon them.
  Conditions: each theorem's own, written out in it. No program is named here.
-/
import Derived.Test.YtjmojhflnjbgaaaNum
set_option linter.unusedSimpArgs false
set_option linter.unusedVariables false
namespace Go.Proofs.Ytjmojhflnjbgaaa

def digs (p : Int) : Nat → Int → List Int
  | 0, _ => []
  | m + 1, x => x % p :: digs p m (x / p)
def vl (p : Int) : List Int → Int
  | [] => 0
  | d :: ds => d + p * vl p ds
theorem digs_length (p : Int) : ∀ (m : Nat) (x : Int), (digs p m x).length = m
  | 0, _ => rfl
  | m + 1, x => by simp [digs, digs_length p m]
/-- All entries are from 0 to p - 1. -/
def AllIn (p : Int) (l : List Int) : Prop := ∀ c ∈ l, 0 ≤ c ∧ c < p
theorem digs_in {p : Int} (hp : 1 ≤ p) : ∀ (m : Nat) (x : Int), AllIn p (digs p m x)
  | 0, _, c, h => by simp [digs] at h
  | m + 1, x, c, h => by
    simp only [digs, List.mem_cons] at h
    rcases h with rfl | h
    · exact ⟨Int.emod_nonneg _ (by omega), Int.emod_lt_of_pos _ (by omega)⟩
    · exact digs_in hp m _ c h
theorem AllIn.get {p : Int} {l : List Int} (hp : 1 ≤ p) (h : AllIn p l) (i : Nat) : 0 ≤ l.getD i 0 ∧ l.getD i 0 < p := by
  by_cases hi : i < l.length
  · rw [List.getD_eq_getElem?_getD, List.getElem?_eq_getElem hi]
    exact h _ (List.getElem_mem hi)
  · rw [List.getD_eq_getElem?_getD, List.getElem?_eq_none (by omega)]
    simp; omega
theorem AllIn.set {p : Int} {l : List Int} (h : AllIn p l) {v : Int} (hv : 0 ≤ v ∧ v < p) (i : Nat) : AllIn p (l.set i v) := fun c hc => by
  rcases List.mem_or_eq_of_mem_set hc with h1 | h1
  · exact h c h1
  · rw [h1]; exact hv
theorem digs_snoc {p : Int} (hp : 0 ≤ p) : ∀ (k : Nat) (x : Int), digs p (k + 1) x = digs p k x ++ [x / p ^ k % p]
  | 0, x => by simp [digs]
  | k + 1, x => by
    have h := digs_snoc hp k (x / p)
    rw [digs, h, digs]
    simp only [List.cons_append, List.cons.injEq, true_and, List.append_cancel_left_eq, and_true]
    rw [Int.pow_succ, Int.mul_comm, Int.ediv_ediv_of_nonneg hp]
/-- A power of p, its exponent an Int. -/
def pw (p k : Int) : Int := p ^ k.toNat
theorem pw_zero (p : Int) : pw p 0 = 1 := by simp [pw]
theorem pw_succ (p : Int) {k : Int} (hk : 0 ≤ k) : pw p (k + 1) = pw p k * p := by
  have : (k + 1).toNat = k.toNat + 1 := by omega
  rw [pw, this, Int.pow_succ]; rfl
theorem pw_pos {p : Int} (hp : 1 ≤ p) (k : Int) : 1 ≤ pw p k := by
  have : 0 < p ^ k.toNat := Int.pow_pos (by omega)
  unfold pw; omega
theorem pw_mono {p : Int} (hp : 1 ≤ p) {a : Int} (ha : 0 ≤ a) : ∀ {b : Int}, a ≤ b → pw p a ≤ pw p b := by
  intro b hab
  obtain ⟨n, rfl⟩ : ∃ n : Nat, b = a + n := ⟨(b - a).toNat, by omega⟩
  clear hab
  induction n with
  | zero => simp
  | succ n ih =>
    rw [show a + ((n + 1 : Nat) : Int) = (a + n) + 1 by omega, pw_succ p (by omega)]
    have h1 := pw_pos hp (a + n)
    have h2 : pw p (a + n) * 1 ≤ pw p (a + n) * p := Int.mul_le_mul_of_nonneg_left hp (by omega)
    rw [Int.mul_one] at h2
    exact Int.le_trans ih h2
def ordI (p m : Int) : Int := if p < 2 ∨ p > 256 ∨ m < 1 ∨ m > 8 ∨ pw p m > 256 then 0 else pw p m
theorem ord_bad {p m k : Int} (hp : 2 ≤ p) (hk : 0 ≤ k) (hkm : k ≤ m) (h : pw p k > 256) : ordI p m = 0 := by
  have := pw_mono (p := p) (by omega) hk hkm
  rw [ordI, if_pos (by omega)]
theorem ord_ok {p m : Int} (hp : 2 ≤ p) (hp2 : p ≤ 256) (hm : 1 ≤ m) (hm2 : m ≤ 8) (h : pw p m ≤ 256) : ordI p m = pw p m := by rw [ordI, if_neg (by omega)]
theorem ord_cases {p m : Int} (h : ordI p m ≠ 0) : 2 ≤ p ∧ p ≤ 256 ∧ 1 ≤ m ∧ m ≤ 8 ∧ pw p m ≤ 256 ∧ ordI p m = pw p m := by
  unfold ordI at h ⊢
  split at h
  · exact absurd rfl h
  · rename_i h1
    rw [if_neg h1]
    omega

def IsP (n : Int) : Prop := 2 ≤ n ∧ ∀ d, 2 ≤ d → d < n → n % d ≠ 0
theorem isP_of {n d : Int} (hd : 2 ≤ d) (hn : 2 ≤ n) (h : ∀ e, 2 ≤ e → e < d → n % e ≠ 0) (hdd : n < d * d) : IsP n := ⟨hn, fun e he hen h0 => by
  by_cases hed : e < d
  · exact h e he hed h0
  · have h1 := Int.mul_ediv_add_emod n e
    rw [h0, Int.add_zero] at h1
    generalize hk : n / e = k at h1
    have hkd : k < d := by
      refine Int.lt_of_not_ge (fun hkd => ?_)
      have h2 : d * d ≤ e * k := Int.mul_le_mul (by omega) hkd (by omega) (by omega)
      omega
    have hk2 : 2 ≤ k := by
      refine Int.le_of_not_gt (fun hk2 => ?_)
      have h3 : e * k ≤ e * 1 := Int.mul_le_mul_of_nonneg_left (by omega) (by omega)
      omega
    exact h k hk2 hkd (by rw [← h1]; exact Int.mul_emod_left e k)⟩
theorem not_isP {n d : Int} (hd : 2 ≤ d) (hdd : d < n) (h : n % d = 0) : ¬ IsP n := fun hp => hp.2 d hd hdd h
noncomputable def bIsP (n : Int) : Bool := @decide (IsP n) (Classical.propDecidable _)
theorem bIsP_iff (n : Int) : bIsP n = true ↔ IsP n := by unfold bIsP; exact @decide_eq_true_iff _ (Classical.propDecidable _)
theorem bIsP_true {n : Int} (h : IsP n) : bIsP n = true := (bIsP_iff n).2 h
theorem bIsP_false {n : Int} (h : ¬ IsP n) : bIsP n = false := Bool.eq_false_iff.2 (fun h2 => h ((bIsP_iff n).1 h2))
theorem vl_in {p : Int} (hp : 1 ≤ p) : ∀ (l : List Int), AllIn p l → 0 ≤ vl p l ∧ vl p l < p ^ l.length
  | [], _ => by simp [vl]
  | d :: ds, h => by
    have h1 := vl_in hp ds (fun c hc => h c (by simp [hc]))
    have h2 := h d (by simp)
    simp only [vl, List.length_cons, Int.pow_succ]
    have h3 : 0 ≤ p * vl p ds := Int.mul_nonneg (by omega) h1.1
    have h4 : p * (vl p ds + 1) ≤ p * p ^ ds.length := Int.mul_le_mul_of_nonneg_left (by omega) (by omega)
    rw [Int.mul_add, Int.mul_one] at h4
    rw [Int.mul_comm (p ^ ds.length)]
    omega
theorem pw_bd {p : Int} (hp : 1 ≤ p) {k m : Nat} (hk : k ≤ m) : p ^ k ≤ p ^ m := by
  have := pw_mono (p := p) hp (a := (k : Int)) (b := (m : Int)) (by omega) (by omega)
  simpa [pw] using this
theorem drop_getD {l : List Int} {i : Nat} (h : i < l.length) : l.drop i = l.getD i 0 :: l.drop (i + 1) := by
  rw [List.drop_eq_getElem_cons h]
  simp [h]

/-! ### The product of two residues, by Horner's rule -/
def hprev (out : List Int) (j : Nat) : Int := if j = 0 then 0 else out.getD (j - 1) 0
def hent (p : Int) (low a out : List Int) (b : Int) (j : Nat) : Int := (hprev out j + (p - out.getD (out.length - 1) 0) * low.getD j 0 + b * a.getD j 0) % p
def hstep (p : Int) (low a out : List Int) (b : Int) : List Int := (List.range out.length).map (hent p low a out b)
def hmulL (p : Int) (low a : List Int) (m : Nat) : List Int → List Int
  | [] => List.replicate m 0
  | b :: bs => hstep p low a (hmulL p low a m bs) b
def mulI (p m : Int) (low : List Int) (x y : Int) : Int := vl p (hmulL p low (digs p m.toNat x) m.toNat (digs p m.toNat y))
theorem hstep_length (p : Int) (low a out : List Int) (b : Int) : (hstep p low a out b).length = out.length := by simp [hstep]
theorem hmulL_length (p : Int) (low a : List Int) (m : Nat) : ∀ (bs : List Int), (hmulL p low a m bs).length = m
  | [] => by simp [hmulL]
  | b :: bs => by rw [hmulL, hstep_length, hmulL_length p low a m bs]
theorem hmulL_in {p : Int} (hp : 1 ≤ p) (low a : List Int) (m : Nat) : ∀ (bs : List Int), AllIn p (hmulL p low a m bs)
  | [], c, hc => by
    have := List.eq_of_mem_replicate hc
    omega
  | b :: bs, c, hc => by
    simp only [hmulL, hstep, List.mem_map] at hc
    obtain ⟨j, _, rfl⟩ := hc
    exact ⟨Int.emod_nonneg _ (by omega), Int.emod_lt_of_pos _ (by omega)⟩
theorem hstep_of {p : Int} {low a out l : List Int} {b : Int} (hl : l.length = out.length) (h : ∀ k, k < out.length → l.getD k 0 = hent p low a out b k) : l = hstep p low a out b := by
  apply List.ext_getElem (by rw [hstep_length, hl])
  intro k h1 h2
  have h3 := h k (by omega)
  rw [List.getD_eq_getElem?_getD, List.getElem?_eq_getElem h1] at h3
  simpa [hstep] using h3
structure Shp (p m : Int) (mod : List Int) : Prop where
  p2 : 2 ≤ p
  p9 : p ≤ 256
  m1 : 1 ≤ m
  m8 : m ≤ 8
  q : pw p m ≤ 256
  low : (m = 1 ∧ mod = []) ∨ (2 ≤ m ∧ (mod.length : Int) = m)
  ent : AllIn p mod
/-- The shape of a field's description. -/
def ShpP (p m : Int) (mod : List Int) : Prop := Shp p m mod ∧ IsP p
noncomputable def bShp (p m : Int) (mod : List Int) : Bool := @decide (ShpP p m mod) (Classical.propDecidable _)
theorem bShp_iff (p m : Int) (mod : List Int) : bShp p m mod = true ↔ ShpP p m mod := by unfold bShp; exact @decide_eq_true_iff _ (Classical.propDecidable _)
theorem bShp_true {p m : Int} {mod : List Int} (h : ShpP p m mod) : bShp p m mod = true := (bShp_iff p m mod).2 h
theorem bShp_false {p m : Int} {mod : List Int} (h : ¬ ShpP p m mod) : bShp p m mod = false := Bool.eq_false_iff.2 (fun h2 => h ((bShp_iff p m mod).1 h2))
theorem Shp.ord {p m : Int} {mod : List Int} (h : Shp p m mod) : ordI p m = pw p m := ord_ok h.p2 h.p9 h.m1 h.m8 h.q
theorem Shp.q2 {p m : Int} {mod : List Int} (h : Shp p m mod) : 2 ≤ pw p m := by
  have hp := h.p2
  have h1 := pw_mono (p := p) (by omega) (a := 1) (b := m) (by omega) h.m1
  have h2 := pw_succ p (k := 0) (by omega)
  rw [pw_zero, Int.zero_add, Int.one_mul] at h2
  omega
theorem not_shp_ord {p m : Int} {mod : List Int} (h : ordI p m = 0) : ¬ ShpP p m mod := fun hs => by
  have h1 := hs.1.ord
  have h2 := hs.1.q2
  omega
/-- The powers of x: 1, x, x x, .. -/
def pwI (p m : Int) (mod : List Int) (x : Int) : Nat → Int
  | 0 => 1
  | 1 => x
  | n + 2 => mulI p m mod (pwI p m mod x (n + 1)) x
/-- The powers of x till one is 0 or comes again. -/
structure PowOk (p m : Int) (mod : List Int) (x : Int) (l : List Int) : Prop where
  one : 1 ≤ l.length
  get : ∀ i, i < l.length → l.getD i 0 = pwI p m mod x i
  nz : ∀ y ∈ l, 0 < y ∧ y < pw p m
  nodup : l.Nodup
  stop : pwI p m mod x l.length = 0 ∨ pwI p m mod x l.length ∈ l
/-- All residues but 0 are powers of x. -/
structure IsGen (p m : Int) (mod : List Int) (x : Int) (l : List Int) : Prop where
  x1 : 1 ≤ x
  x2 : x < pw p m
  pow : PowOk p m mod x l
  len : (l.length : Int) = pw p m - 1
  last : mulI p m mod (l.getD (pw p m - 2).toNat 0) x = 1
/-- What generator returns. -/
def GenR (p m : Int) (mod : List Int) (l : List Int) : Prop := (∃ x, IsGen p m mod x l) ∨ (l = [] ∧ ∀ x, 1 ≤ x → x < pw p m → ∃ l', PowOk p m mod x l' ∧ ¬ ((l'.length : Int) = pw p m - 1 ∧ mulI p m mod (l'.getD (pw p m - 2).toNat 0) x = 1))
/-- A duplicate-free list of numbers from 1 to q - 1 is not longer than that. -/
theorem nodup_len : ∀ (n : Nat) (l : List Int), l.Nodup → (∀ y ∈ l, 0 < y ∧ y ≤ n) → l.length ≤ n
  | 0, l, _, h => by
    cases l with
    | nil => simp
    | cons a l => have := h a (by simp); omega
  | n + 1, l, hd, h => by
    have h1 := nodup_len n (l.erase ((n + 1 : Nat) : Int)) (hd.erase _) (fun y hy => by
      have h2 := hd.mem_erase_iff.1 hy
      have := h y h2.2
      omega)
    have h2 := List.length_erase (l := l) (a := ((n + 1 : Nat) : Int))
    split at h2 <;> omega
theorem nodup_len' {q : Int} (l : List Int) (hd : l.Nodup) (h : ∀ y ∈ l, 0 < y ∧ y < q) (hq : 1 ≤ q) : (l.length : Int) ≤ q - 1 := by
  have := nodup_len (q - 1).toNat l hd (fun y hy => by have := h y hy; omega)
  omega
theorem mulI_bd {p m : Int} {mod : List Int} (h : Shp p m mod) (x y : Int) : 0 ≤ mulI p m mod x y ∧ mulI p m mod x y < pw p m := by
  have h1 := vl_in (p := p) (by have := h.p2; omega) (hmulL p mod (digs p m.toNat x) m.toNat (digs p m.toNat y)) (hmulL_in (by have := h.p2; omega) _ _ _ _)
  rw [hmulL_length] at h1
  exact h1
/-- A field's table, as New makes it. -/
structure GOk (g : GfM) (p m : Int) (mod : List Int) : Prop where
  eP : g.P = p
  eM : g.M = m
  emod : g.mod = mod
  shp : ShpP p m mod
  eq : g.q = pw p m
  gen : ∃ x, IsGen p m mod x g.exp
  llen : g.log.length = g.q.toNat
  log0 : g.log.getD 0 0 = 0
  log : ∀ i : Nat, i < g.exp.length → g.log.getD (g.exp.getD i 0).toNat 0 = i
/-- The description is one of a field, as New sees it. -/
def FldN (p m : Int) (mod : List Int) : Prop := ShpP p m mod ∧ ∃ x l, IsGen p m mod x l
theorem PowOk.unique {p m : Int} {mod : List Int} {x : Int} {l l' : List Int} (h : PowOk p m mod x l) (h' : PowOk p m mod x l') : l = l' := by
  have key : ∀ {l l' : List Int}, PowOk p m mod x l → PowOk p m mod x l' → l.length ≤ l'.length := fun {l l'} h h' => by
    refine Nat.le_of_not_lt (fun hlt => ?_)
    have h1 := h.get l'.length hlt
    have hmem : l.getD l'.length 0 ∈ l := by
      rw [List.getD_eq_getElem?_getD, List.getElem?_eq_getElem hlt]
      exact List.getElem_mem hlt
    rcases h'.stop with h2 | h2
    · have := (h.nz _ hmem).1
      omega
    · obtain ⟨i, hi, he⟩ := List.getElem_of_mem h2
      have h3 := h'.get i hi
      rw [List.getD_eq_getElem?_getD, List.getElem?_eq_getElem hi] at h3
      have h4 := h.get i (by omega)
      rw [List.getD_eq_getElem?_getD, List.getElem?_eq_getElem hlt] at h1
      rw [List.getD_eq_getElem?_getD, List.getElem?_eq_getElem (show i < l.length by omega)] at h4
      simp only [Option.getD_some] at h1 h3 h4
      have h5 : l[i]'(by omega) = l[l'.length] := by rw [h4, h1, ← h3, he]
      have h6 := (List.pairwise_iff_getElem.1 h.nodup) i l'.length (by omega) hlt hi
      exact h6 h5
  have hl : l.length = l'.length := Nat.le_antisymm (key h h') (key h' h)
  apply List.ext_getElem hl
  intro i h1 h2
  have h3 := h.get i h1
  have h4 := h'.get i h2
  rw [List.getD_eq_getElem?_getD, List.getElem?_eq_getElem h1] at h3
  rw [List.getD_eq_getElem?_getD, List.getElem?_eq_getElem h2] at h4
  simpa using h3.trans h4.symm
theorem GenR.nil {p m : Int} {mod : List Int} (h : GenR p m mod []) : ¬ ∃ x l, IsGen p m mod x l := fun ⟨x, l, hg⟩ => by
  rcases h with ⟨x', h'⟩ | ⟨_, h'⟩
  · have := h'.pow.one
    simp at this
  · obtain ⟨l', h1, h2⟩ := h' x hg.x1 hg.x2
    have := hg.pow.unique h1
    subst this
    exact h2 ⟨hg.len, hg.last⟩

/-! ### The reference's trial division -/
def dent (p : Int) (low r : List Int) (i k : Nat) : Int := if k = i then 0 else if i ≤ k + low.length ∧ k < i then (r.getD k 0 + (p - r.getD i 0) * low.getD (k + low.length - i) 0) % p else r.getD k 0
def dstep (p : Int) (low r : List Int) (i : Nat) : List Int := (List.range r.length).map (dent p low r i)
def dloop (p : Int) (low : List Int) : Nat → List Int → List Int
  | 0, r => r
  | n + 1, r => dloop p low n (dstep p low r (low.length + n))
def divL (p : Int) (low mod : List Int) : List Int := dloop p low (mod.length + 1 - low.length) (mod ++ [1])
def bDiv (p : Int) (low mod : List Int) : Bool := (divL p low mod).all (fun c => c == 0)
theorem dstep_length (p : Int) (low r : List Int) (i : Nat) : (dstep p low r i).length = r.length := by simp [dstep]
theorem dstep_of {p : Int} {low r l : List Int} {i : Nat} (hl : l.length = r.length) (h : ∀ k, k < r.length → l.getD k 0 = dent p low r i k) : l = dstep p low r i := by
  apply List.ext_getElem (by rw [dstep_length, hl])
  intro k h1 h2
  have h3 := h k (by omega)
  rw [List.getD_eq_getElem?_getD, List.getElem?_eq_getElem h1] at h3
  simpa [dstep] using h3
theorem dstep_in {p : Int} (hp : 1 ≤ p) {low r : List Int} {i : Nat} (hr : AllIn p r) : AllIn p (dstep p low r i) := fun c hc => by
  simp only [dstep, List.mem_map] at hc
  obtain ⟨k, _, rfl⟩ := hc
  unfold dent
  split
  · omega
  · split
    · exact ⟨Int.emod_nonneg _ (by omega), Int.emod_lt_of_pos _ (by omega)⟩
    · exact hr.get hp k
theorem bDiv_false {p : Int} {low mod : List Int} {k : Nat} (h : (divL p low mod).getD k 0 ≠ 0) : bDiv p low mod = false := by
  refine Bool.eq_false_iff.2 (fun h2 => h ?_)
  unfold bDiv at h2
  rw [List.all_eq_true] at h2
  by_cases hk : k < (divL p low mod).length
  · rw [List.getD_eq_getElem?_getD, List.getElem?_eq_getElem hk]
    simpa using h2 _ (List.getElem_mem hk)
  · rw [List.getD_eq_getElem?_getD, List.getElem?_eq_none (by omega)]; rfl
theorem bDiv_true {p : Int} {low mod : List Int} (h : ∀ k, k < (divL p low mod).length → (divL p low mod).getD k 0 = 0) : bDiv p low mod = true := by
  unfold bDiv
  rw [List.all_eq_true]
  intro c hc
  obtain ⟨k, hk, rfl⟩ := List.getElem_of_mem hc
  have := h k hk
  rw [List.getD_eq_getElem?_getD, List.getElem?_eq_getElem hk] at this
  simpa using this
/-- No monic polynomial of a degree from 1 to half of the modulus's divides it. -/
def Irr (p : Int) (mod : List Int) : Prop := ∀ d : Nat, 1 ≤ d → 2 * d ≤ mod.length → ∀ v : Int, 0 ≤ v → v < p ^ d → bDiv p (digs p d v) mod = false
noncomputable def bIrr (p : Int) (mod : List Int) : Bool := @decide (Irr p mod) (Classical.propDecidable _)
theorem bIrr_iff (p : Int) (mod : List Int) : bIrr p mod = true ↔ Irr p mod := by unfold bIrr; exact @decide_eq_true_iff _ (Classical.propDecidable _)
theorem bIrr_true {p : Int} {mod : List Int} (h : Irr p mod) : bIrr p mod = true := (bIrr_iff p mod).2 h
theorem bIrr_false {p : Int} {mod : List Int} (h : ¬ Irr p mod) : bIrr p mod = false := Bool.eq_false_iff.2 (fun h2 => h ((bIrr_iff p mod).1 h2))
/-- The description is one of a field, as the reference sees it. -/
def FldR (p m : Int) (mod : List Int) : Prop := ShpP p m mod ∧ (m = 1 ∨ Irr p mod)
open Classical in
noncomputable def chkF (p m : Int) (mod : List Int) : Int := if FldR p m mod then 0 else 1
theorem chkF_ok {p m : Int} {mod : List Int} (h : FldR p m mod) : chkF p m mod = 0 := by rw [chkF, if_pos h]
theorem chkF_no {p m : Int} {mod : List Int} (h : ¬ FldR p m mod) : chkF p m mod = 1 := by rw [chkF, if_neg h]
end Go.Proofs.Ytjmojhflnjbgaaa

/-
  FIELDS. One sentence: what a field is, its powers, the zeros of polynomials, and that the elements but 0 of a finite field are the powers of one of them.
  Conditions: each theorem's own, written out in it. No program is named here.
-/
import Derived.Test.YtancpcmiimcdhaaRg
set_option linter.unusedSimpArgs false
set_option linter.unusedVariables false
set_option linter.unusedSectionVars false
namespace Go.Proofs.Ytancpcmiimcdhaa

class Fd (K : Type) extends Rg K where
  inv : K → K
  inv_mul : ∀ a : K, a ≠ 0 → inv a * a = 1
  one_ne : (1 : K) ≠ 0
namespace Fd
variable {K : Type} [Fd K]
theorem sub_def (a b : K) : a - b = a + -b := rfl
theorem add_zero (a : K) : a + 0 = a := Rg.add_zero a
theorem add_neg (a : K) : a + -a = 0 := Rg.add_neg a
theorem mul_one (a : K) : a * 1 = a := Rg.mul_one a
theorem mul_add (a b c : K) : a * (b + c) = a * b + a * c := Rg.mul_add a b c
theorem add_left_cancel {a b c : K} (h : a + b = a + c) : b = c := Rg.add_left_cancel h
theorem add_right_cancel {a b c : K} (h : b + a = c + a) : b = c := Rg.add_right_cancel h
theorem zero_mul (a : K) : 0 * a = 0 := Rg.zero_mul a
theorem mul_zero (a : K) : a * 0 = 0 := Rg.mul_zero a
theorem neg_mul (a b : K) : -a * b = -(a * b) := Rg.neg_mul a b
theorem mul_neg (a b : K) : a * -b = -(a * b) := Rg.mul_neg a b
theorem neg_zero : -(0 : K) = 0 := Rg.neg_zero
theorem neg_neg (a : K) : - -a = a := Rg.neg_neg a
theorem neg_add_rev (a b : K) : -(a + b) = -a + -b := Rg.neg_add_rev a b
theorem sub_self (a : K) : a - a = 0 := Rg.sub_self a
theorem sub_mul (a b c : K) : (a - b) * c = a * c - b * c := Rg.sub_mul a b c
theorem mul_sub (a b c : K) : a * (b - c) = a * b - a * c := Rg.mul_sub a b c
theorem sub_add_cancel (a b : K) : a - b + b = a := Rg.sub_add_cancel a b
theorem add_sub_cancel (a b : K) : a + b - b = a := Rg.add_sub_cancel a b
theorem eq_of_sub {a b : K} (h : a - b = 0) : a = b := Rg.eq_of_sub h
theorem mul_inv (a : K) (h : a ≠ 0) : a * inv a = 1 := by rw [Rg.mul_comm, Fd.inv_mul a h]
theorem mul_eq_zero {a b : K} (h : a * b = 0) : a = 0 ∨ b = 0 := by
  by_cases ha : a = 0
  · exact .inl ha
  · right
    have h1 : inv a * (a * b) = 0 := by rw [h, mul_zero]
    rwa [← Rg.mul_assoc, Fd.inv_mul a ha, Rg.one_mul] at h1
theorem mul_ne {a b : K} (ha : a ≠ 0) (hb : b ≠ 0) : a * b ≠ 0 := fun h => (mul_eq_zero h).elim ha hb
theorem mul_left_cancel {a b c : K} (ha : a ≠ 0) (h : a * b = a * c) : b = c := by
  have h1 : inv a * (a * b) = inv a * (a * c) := by rw [h]
  rwa [← Rg.mul_assoc, ← Rg.mul_assoc, Fd.inv_mul a ha, Rg.one_mul, Rg.one_mul] at h1
theorem inv_ne {a : K} (h : a ≠ 0) : inv a ≠ 0 := fun h1 => Fd.one_ne (K := K) (by rw [← Fd.inv_mul a h, h1, zero_mul])

/-! ### Powers -/
def pow (a : K) : Nat → K
  | 0 => 1
  | n + 1 => pow a n * a
theorem pow_add (a : K) (m : Nat) : ∀ n, pow a (m + n) = pow a m * pow a n
  | 0 => (mul_one _).symm
  | n + 1 => by rw [← Nat.add_assoc, pow, pow_add a m n, pow, Rg.mul_assoc]
theorem one_pow : ∀ n, pow (1 : K) n = 1
  | 0 => rfl
  | n + 1 => by rw [pow, one_pow n, Rg.one_mul]
theorem pow_mul (a : K) (m : Nat) : ∀ n, pow a (m * n) = pow (pow a m) n
  | 0 => rfl
  | n + 1 => by rw [Nat.mul_succ, pow_add, pow_mul a m n, pow]
theorem mul_pow (a b : K) : ∀ n, pow (a * b) n = pow a n * pow b n
  | 0 => (Rg.one_mul _).symm
  | n + 1 => by rw [pow, mul_pow a b n, pow, pow]; ac_rfl
theorem pow_ne {a : K} (h : a ≠ 0) : ∀ n, pow a n ≠ 0
  | 0 => Fd.one_ne
  | n + 1 => mul_ne (pow_ne h n) h
theorem pow_one (a : K) : pow a 1 = a := Rg.one_mul a
theorem zero_pow {n : Nat} (h : 0 < n) : pow (0 : K) n = 0 := by
  obtain ⟨k, rfl⟩ : ∃ k, n = k + 1 := ⟨n - 1, by omega⟩
  exact mul_zero _

theorem pow_eq (a : K) : ∀ n, pow a n = Rg.pow a n
  | 0 => rfl
  | n + 1 => by rw [pow, pow_eq a n]; rfl
/-! ### Zeros of polynomials -/
def ev : List K → K → K
  | [], _ => 0
  | c :: cs, x => c + x * ev cs x
def dv (a : K) : List K → List K
  | [] => []
  | [_] => []
  | _ :: d :: ds => ev (d :: ds) a :: dv a (d :: ds)
theorem dv_length (a : K) : ∀ cs : List K, (dv a cs).length = cs.length - 1
  | [] => rfl
  | [_] => rfl
  | _ :: d :: ds => by simp [dv, dv_length a (d :: ds)]
theorem ev_dv (a x : K) : ∀ cs : List K, ev cs x = (x - a) * ev (dv a cs) x + ev cs a
  | [] => by simp only [ev, dv]; rw [mul_zero, Rg.zero_add]
  | [c] => by simp only [ev, dv, mul_zero, Rg.zero_add, add_zero]
  | c :: d :: ds => by
    have ih := ev_dv a x (d :: ds)
    rw [dv, ev, ih]
    show c + x * ((x - a) * ev (dv a (d :: ds)) x + ev (d :: ds) a) = (x - a) * (ev (d :: ds) a + x * ev (dv a (d :: ds)) x) + (c + a * ev (d :: ds) a)
    generalize ev (dv a (d :: ds)) x = q
    generalize ev (d :: ds) a = r
    rw [mul_add, mul_add (x - a), sub_mul x a r, sub_def (x * r) (a * r)]
    have h1 : x * ((x - a) * q) = (x - a) * (x * q) := by ac_rfl
    rw [h1]
    have h2 : x * r + -(a * r) + (x - a) * (x * q) + (c + a * r) = c + ((x - a) * (x * q) + x * r) + (-(a * r) + a * r) := by ac_rfl
    rw [h2, Rg.neg_add, add_zero]
theorem dv_last (a l : K) : ∀ cs : List K, 2 ≤ cs.length → cs.getLast? = some l → (dv a cs).getLast? = some l
  | [], h, _ => by simp at h
  | [_], h, _ => by simp at h
  | [c, d], _, h => by
    simp at h
    simp [dv, ev, h, mul_zero, add_zero]
  | c :: d :: e :: es, _, h => by
    have ih := dv_last a l (d :: e :: es) (by simp) (by simpa using h)
    rw [dv]
    have h1 : dv a (d :: e :: es) ≠ [] := fun h2 => by rw [h2] at ih; cases ih
    cases hq : dv a (d :: e :: es) with
    | nil => exact absurd hq h1
    | cons q qs => rw [hq] at ih; simpa using ih
/-- A polynomial of degree n has at most n zeros. -/
theorem roots_le {l : K} (hl : l ≠ 0) : ∀ (n : Nat) (cs : List K), cs.length = n + 1 → cs.getLast? = some l → ∀ rs : List K, rs.Nodup → (∀ r ∈ rs, ev cs r = 0) → rs.length ≤ n
  | 0, cs, hlen, hlast, rs, hnd, hr => by
    match cs, hlen with
    | [c], _ =>
      simp at hlast
      subst hlast
      cases rs with
      | nil => simp
      | cons r rs =>
        have := hr r (by simp)
        simp only [ev, mul_zero, add_zero] at this
        exact absurd this hl
  | n + 1, cs, hlen, hlast, rs, hnd, hr => by
    cases rs with
    | nil => simp
    | cons a rs =>
      have ha := hr a (by simp)
      have hnd' := List.nodup_cons.1 hnd
      have ih := roots_le hl n (dv a cs) (by rw [dv_length, hlen]; rfl) (dv_last a l cs (by omega) hlast) rs hnd'.2 (fun r hrm => by
        have h1 := hr r (List.mem_cons_of_mem _ hrm)
        rw [ev_dv a r cs, ha, add_zero] at h1
        rcases mul_eq_zero h1 with h2 | h2
        · have : r = a := eq_of_sub h2
          subst this
          exact absurd hrm hnd'.1
        · exact h2)
      simp only [List.length_cons]
      omega

/-! ### Finite fields -/
theorem perm_of_sub {α : Type} [DecidableEq α] : ∀ (l1 l2 : List α), l1.Nodup → (∀ a ∈ l1, a ∈ l2) → l2.length ≤ l1.length → l1.Perm l2
  | [], l2, _, _, h => by
    have : l2 = [] := List.eq_nil_of_length_eq_zero (by simpa using h)
    subst this; exact List.Perm.refl _
  | a :: t, l2, hnd, hs, h => by
    have ha := hs a (by simp)
    have h1 := List.nodup_cons.1 hnd
    have h2 := perm_of_sub t (l2.erase a) h1.2 (fun b hb => by
      have hne : b ≠ a := fun e => h1.1 (e ▸ hb)
      exact (List.mem_erase_of_ne hne).2 (hs b (List.mem_cons_of_mem _ hb))) (by
      rw [List.length_erase_of_mem ha]
      simp only [List.length_cons] at h
      omega)
    exact (h2.cons a).trans (List.perm_cons_erase ha).symm
def prod : List K → K
  | [] => 1
  | a :: l => a * prod l
theorem prod_perm {l l' : List K} (h : l.Perm l') : prod l = prod l' := by
  induction h with
  | nil => rfl
  | cons a _ ih => simp only [prod, ih]
  | swap a b l => simp only [prod]; ac_rfl
  | trans _ _ h1 h2 => rw [h1, h2]
theorem prod_map (a : K) : ∀ l : List K, prod (l.map (a * ·)) = pow a l.length * prod l
  | [] => (Rg.one_mul _).symm
  | b :: l => by
    simp only [List.map_cons, prod, prod_map a l, List.length_cons, pow]
    ac_rfl
theorem prod_ne : ∀ l : List K, (∀ a ∈ l, a ≠ 0) → prod l ≠ 0
  | [], _ => Fd.one_ne
  | a :: l, h => mul_ne (h a (by simp)) (prod_ne l (fun b hb => h b (by simp [hb])))
/-- All elements but 0. -/
structure Nz (K : Type) [Fd K] (l : List K) : Prop where
  nd : l.Nodup
  mem : ∀ a : K, a ∈ l ↔ a ≠ 0
variable [DecidableEq K]
theorem Nz.pow {l : List K} (h : Nz K l) {a : K} (ha : a ≠ 0) : Fd.pow a l.length = 1 := by
  have hnd : (l.map (a * ·)).Nodup := by
    refine List.pairwise_map.2 (h.nd.imp ?_)
    intro b c hbc e
    exact hbc (mul_left_cancel ha e)
  have hp : (l.map (a * ·)).Perm l := perm_of_sub _ _ hnd (fun b hb => by
    obtain ⟨c, hc, rfl⟩ := List.mem_map.1 hb
    exact (h.mem _).2 (mul_ne ha ((h.mem c).1 hc))) (by simp)
  have h1 := prod_perm hp
  rw [prod_map] at h1
  have h2 := prod_ne l (fun b hb => (h.mem b).1 hb)
  have h3 : prod l * Fd.pow a l.length = prod l * 1 := by rw [mul_one, Rg.mul_comm, h1]
  exact mul_left_cancel h2 h3
/-- An element whose k-th power is not 1. -/
theorem Nz.not_one {l : List K} (h : Nz K l) {k : Nat} (hk : 0 < k) (hkl : k < l.length) : ∃ a : K, a ≠ 0 ∧ Fd.pow a k ≠ 1 := by
  refine Classical.byContradiction fun hno => ?_
  have hall : ∀ a ∈ l, Fd.pow a k = 1 := fun a ha => Classical.byContradiction fun h1 => hno ⟨a, (h.mem a).1 ha, h1⟩
  -- -1 + x^k
  have hev : ∀ (j : Nat) (x : K), ev (List.replicate j 0 ++ [1]) x = Fd.pow x j := by
    intro j x
    induction j with
    | zero => simp [ev, Fd.pow, mul_zero, add_zero]
    | succ j ih =>
      rw [List.replicate_succ, List.cons_append, ev, ih, Rg.zero_add, Fd.pow, Rg.mul_comm]
  obtain ⟨j, rfl⟩ : ∃ j, k = j + 1 := ⟨k - 1, by omega⟩
  have h1 := roots_le (l := (1 : K)) Fd.one_ne (j + 1) ((-1) :: (List.replicate j 0 ++ [1])) (by simp) (by
    cases j <;> simp [List.getLast?_cons, List.getLast?_append]) l h.nd (fun r hr => by
    have h2 : r * Fd.pow r j = 1 := by rw [Rg.mul_comm]; exact hall r hr
    rw [ev, hev, h2, Rg.neg_add])
  omega

/-- Order d: the powers of g that are 1 are those whose exponents d divides. -/
def Ord (g : K) (d : Nat) : Prop := g ≠ 0 ∧ pow g d = 1 ∧ ∀ t, pow g t = 1 → d ∣ t
theorem pow_mod {g : K} {d : Nat} (h : pow g d = 1) (t : Nat) : pow g t = pow g (t % d) := by
  have h1 : pow g t = pow g (d * (t / d) + t % d) := by rw [Nat.div_add_mod]
  rw [h1, pow_add, pow_mul, h, one_pow, Rg.one_mul]
theorem pow_gcd {g : K} (hg : g ≠ 0) : ∀ (a b : Nat), pow g a = 1 → pow g b = 1 → pow g (Nat.gcd a b) = 1 := by
  intro a
  induction a using Nat.strongRecOn with
  | _ a ih =>
    intro b ha hb
    rcases Nat.eq_zero_or_pos a with h | h
    · subst h; simpa using hb
    · rw [Nat.gcd_rec]
      exact ih (b % a) (Nat.mod_lt _ h) a (by rw [← pow_mod ha]; exact hb) ha
theorem strip {r : Nat} (hr : 2 ≤ r) : ∀ (d : Nat), 0 < d → ∃ e d', d = r ^ e * d' ∧ ¬ r ∣ d' := by
  intro d
  induction d using Nat.strongRecOn with
  | _ d ih =>
    intro hd
    by_cases h : r ∣ d
    · obtain ⟨k, rfl⟩ := h
      have hk : 0 < k := Nat.pos_of_ne_zero (fun e => by subst e; simp at hd)
      obtain ⟨e, d', h1, h2⟩ := ih k (by
        have : 1 * k < r * k := Nat.mul_lt_mul_of_pos_right (by omega) hk
        omega) hk
      exact ⟨e + 1, d', by rw [h1, Nat.pow_succ]; rw [Nat.mul_comm (r ^ e) r, Nat.mul_assoc], h2⟩
    · exact ⟨0, d, by simp, h⟩
theorem least_factor {d : Nat} (hd : 2 ≤ d) : ∃ r, 2 ≤ r ∧ r ∣ d ∧ ∀ u, 2 ≤ u → u ∣ d → r ≤ u := by
  have key : ∀ n, (∃ r, 2 ≤ r ∧ r ≤ n ∧ r ∣ d) → ∃ r, 2 ≤ r ∧ r ∣ d ∧ ∀ u, 2 ≤ u → u ∣ d → r ≤ u := by
    intro n
    induction n with
    | zero => rintro ⟨r, h1, h2, _⟩; omega
    | succ n ih =>
      rintro ⟨r, h1, h2, h3⟩
      by_cases h : ∃ r, 2 ≤ r ∧ r ≤ n ∧ r ∣ d
      · exact ih h
      · exact ⟨r, h1, h3, fun u hu hud => Nat.le_of_not_lt (fun hlt => h ⟨u, hu, by omega, hud⟩)⟩
  exact key d ⟨d, hd, Nat.le_refl _, Nat.dvd_refl _⟩
/-- A divisor of a prime's power but the power itself divides the power before. -/
theorem dvd_pow_pred {r : Nat} (hr : 2 ≤ r) (hp : ∀ u, 2 ≤ u → u ∣ r → u = r) {e s : Nat} (hs : s ∣ r ^ (e + 1)) (hne : s ≠ r ^ (e + 1)) : s ∣ r ^ e := by
  obtain ⟨u, hu⟩ := hs
  have hru : r ∣ u := by
    refine Classical.byContradiction fun hno => ?_
    have hg : Nat.gcd u r = 1 := by
      have h1 : Nat.gcd u r ∣ r := Nat.gcd_dvd_right u r
      have h0 : Nat.gcd u r ≠ 0 := fun h => by
        have := Nat.eq_zero_of_gcd_eq_zero_right h
        omega
      rcases Nat.lt_or_ge (Nat.gcd u r) 2 with h2 | h2
      · omega
      · have h3 := hp _ h2 h1
        exact absurd (by rw [← h3]; exact Nat.gcd_dvd_left u r) hno
    have hc : Nat.Coprime u (r ^ (e + 1)) := Nat.Coprime.pow_right (e + 1) hg
    have hu1 : u = 1 := Nat.Coprime.eq_one_of_dvd hc ⟨s, by rw [hu, Nat.mul_comm]⟩
    rw [hu1, Nat.mul_one] at hu
    exact hne hu.symm
  obtain ⟨k, rfl⟩ := hru
  refine ⟨k, ?_⟩
  have h1 : r * r ^ e = r * (s * k) := by rw [← Nat.pow_succ', hu, Nat.mul_left_comm]
  exact Nat.eq_of_mul_eq_mul_left (by omega) h1
theorem Nz.ord {l : List K} (h : Nz K l) : ∀ d : Nat, 0 < d → d ∣ l.length → ∃ g : K, Ord g d := by
  intro d
  induction d using Nat.strongRecOn with
  | _ d ih =>
    intro hd hdl
    by_cases hd1 : d = 1
    · subst hd1
      exact ⟨1, Fd.one_ne, one_pow 1, fun t _ => Nat.one_dvd t⟩
    · obtain ⟨r, hr2, hrd, hrl⟩ := least_factor (d := d) (by omega)
      have hp : ∀ u, 2 ≤ u → u ∣ r → u = r := fun u hu hur => Nat.le_antisymm (Nat.le_of_dvd (by omega) hur) (hrl u hu (Nat.dvd_trans hur hrd))
      obtain ⟨e, d', he, hnd⟩ := strip hr2 d hd
      obtain ⟨e1, rfl⟩ : ∃ e1, e = e1 + 1 := by
        refine ⟨e - 1, ?_⟩
        rcases Nat.eq_zero_or_pos e with h0 | h0
        · subst h0; rw [Nat.pow_zero, Nat.one_mul] at he; rw [he] at hrd; exact absurd hrd hnd
        · omega
      have hd'0 : 0 < d' := Nat.pos_of_ne_zero (fun h0 => hnd (h0 ▸ Nat.dvd_zero r))
      have hre2 : 2 ≤ r ^ (e1 + 1) := by
        have h1 : 1 ≤ r ^ e1 := Nat.one_le_pow _ _ (by omega)
        rw [Nat.pow_succ]
        calc 2 = 1 * 2 := rfl
          _ ≤ r ^ e1 * r := Nat.mul_le_mul h1 hr2
      have hd'lt : d' < d := by
        rw [he]
        have : 1 * d' < r ^ (e1 + 1) * d' := Nat.mul_lt_mul_of_pos_right (by omega) hd'0
        omega
      obtain ⟨g', hg0, hg1, hg2⟩ := ih d' hd'lt hd'0 (Nat.dvd_trans ⟨r ^ (e1 + 1), by rw [he, Nat.mul_comm]⟩ hdl)
      obtain ⟨n1, hn1⟩ : r ^ (e1 + 1) ∣ l.length := Nat.dvd_trans ⟨d', he⟩ hdl
      have hn0 : 0 < l.length := by
        have : (1 : K) ∈ l := (h.mem 1).2 Fd.one_ne
        exact List.length_pos_of_mem this
      have hn1p : 0 < n1 := Nat.pos_of_ne_zero (fun h0 => by subst h0; omega)
      have hre1 : 0 < r ^ e1 := Nat.pow_pos (by omega)
      obtain ⟨x, hx0, hx⟩ := h.not_one (k := r ^ e1 * n1) (Nat.mul_pos hre1 hn1p) (by
        rw [hn1, Nat.pow_succ, Nat.mul_assoc]
        refine Nat.mul_lt_mul_of_pos_left ?_ hre1
        have : 1 * n1 < r * n1 := Nat.mul_lt_mul_of_pos_right (by omega) hn1p
        omega)
      -- y has order r^(e1+1)
      have hy0 : Fd.pow x n1 ≠ 0 := pow_ne hx0 n1
      have hy1 : Fd.pow (Fd.pow x n1) (r ^ (e1 + 1)) = 1 := by rw [← pow_mul, Nat.mul_comm, ← hn1]; exact h.pow hx0
      have hy2 : ∀ t, Fd.pow (Fd.pow x n1) t = 1 → r ^ (e1 + 1) ∣ t := fun t ht => by
        have h1 := pow_gcd hy0 t (r ^ (e1 + 1)) ht hy1
        by_cases h2 : Nat.gcd t (r ^ (e1 + 1)) = r ^ (e1 + 1)
        · rw [← h2]; exact Nat.gcd_dvd_left _ _
        · exfalso
          obtain ⟨k, hk⟩ := dvd_pow_pred hr2 hp (Nat.gcd_dvd_right t (r ^ (e1 + 1))) h2
          apply hx
          rw [Nat.mul_comm, pow_mul, hk, pow_mul, h1, one_pow]
      have hcop : Nat.Coprime d' (r ^ (e1 + 1)) := by
        refine Nat.Coprime.pow_right _ ?_
        have h1 : Nat.gcd d' r ∣ r := Nat.gcd_dvd_right d' r
        have h0 : Nat.gcd d' r ≠ 0 := fun h => by
          have := Nat.eq_zero_of_gcd_eq_zero_right h
          omega
        show Nat.gcd d' r = 1
        rcases Nat.lt_or_ge (Nat.gcd d' r) 2 with h2 | h2
        · omega
        · have h3 := hp _ h2 h1
          exact absurd (by rw [← h3]; exact Nat.gcd_dvd_left d' r) hnd
      refine ⟨g' * Fd.pow x n1, mul_ne hg0 hy0, ?_, fun t ht => ?_⟩
      · rw [mul_pow, he]
        have h1 : Fd.pow g' (r ^ (e1 + 1) * d') = 1 := by rw [Nat.mul_comm, pow_mul, hg1, one_pow]
        have h2 : Fd.pow (Fd.pow x n1) (r ^ (e1 + 1) * d') = 1 := by rw [pow_mul, hy1, one_pow]
        rw [h1, h2, Rg.one_mul]
      · rw [mul_pow] at ht
        have h1 : d' ∣ t := by
          have h2 : Fd.pow g' (t * r ^ (e1 + 1)) = 1 := by
            have h3 : Fd.pow (Fd.pow g' t * Fd.pow (Fd.pow x n1) t) (r ^ (e1 + 1)) = 1 := by rw [ht, one_pow]
            rw [mul_pow, ← pow_mul, ← pow_mul, Nat.mul_comm t, pow_mul (Fd.pow x n1), hy1, one_pow, mul_one] at h3
            rw [Nat.mul_comm]; exact h3
          exact hcop.dvd_of_dvd_mul_right (hg2 _ h2)
        have h2 : r ^ (e1 + 1) ∣ t := by
          obtain ⟨k, rfl⟩ := h1
          rw [pow_mul g', hg1, one_pow, Rg.one_mul] at ht
          exact hy2 _ ht
        rw [he]
        exact hcop.symm.mul_dvd_of_dvd_of_dvd h2 h1
/-- A generator. -/
theorem Nz.gen {l : List K} (h : Nz K l) : ∃ g : K, Ord g l.length := h.ord _ (by
  have : (1 : K) ∈ l := (h.mem 1).2 Fd.one_ne
  exact List.length_pos_of_mem this) (Nat.dvd_refl _)
end Fd
end Go.Proofs.Ytancpcmiimcdhaa

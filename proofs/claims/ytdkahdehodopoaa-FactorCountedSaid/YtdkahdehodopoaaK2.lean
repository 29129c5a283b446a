/-
  FACTORCOUNTED, PART 2 OF 8. One sentence: the texts behind the law FactorCounted, put together.
  Conditions: each theorem's own, written out in it.
-/
import Derived.Test.YtdkahdehodopoaaK1
set_option linter.unusedSimpArgs false
set_option linter.unusedVariables false
set_option linter.unusedSectionVars false
namespace Go.Proofs.Ytdkahdehodopoaa
class Fd (K : Type) extends Rg K where
 inv : K → K
 inv_mul : ∀ a : K, a ≠ 0 → inv a * a = 1
 one_ne : (1 : K) ≠ 0
namespace Fd
variable {K : Type} [Fd K]
theorem sub_def (a b : K) : a - b = a + -b := rfl
theorem add_zero (a : K) : a + 0 = a := Rg.add_zero a
theorem add_neg (a : K) : a + -a = 0 := Rg.add_neg a
theorem mul_one (a : K) : a * 1 = a := Rg.mul_one a
theorem mul_add (a b c : K) : a * (b + c) = a * b + a * c := Rg.mul_add a b c
theorem add_left_cancel {a b c : K} (h : a + b = a + c) : b = c := Rg.add_left_cancel h
theorem zero_mul (a : K) : 0 * a = 0 := Rg.zero_mul a
theorem mul_zero (a : K) : a * 0 = 0 := Rg.mul_zero a
theorem neg_mul (a b : K) : -a * b = -(a * b) := Rg.neg_mul a b
theorem mul_neg (a b : K) : a * -b = -(a * b) := Rg.mul_neg a b
theorem neg_zero : -(0 : K) = 0 := Rg.neg_zero
theorem neg_neg (a : K) : - -a = a := Rg.neg_neg a
theorem neg_add_rev (a b : K) : -(a + b) = -a + -b := Rg.neg_add_rev a b
theorem sub_self (a : K) : a - a = 0 := Rg.sub_self a
theorem sub_mul (a b c : K) : (a - b) * c = a * c - b * c := Rg.sub_mul a b c
theorem mul_sub (a b c : K) : a * (b - c) = a * b - a * c := Rg.mul_sub a b c
theorem sub_add_cancel (a b : K) : a - b + b = a := Rg.sub_add_cancel a b
theorem add_sub_cancel (a b : K) : a + b - b = a := Rg.add_sub_cancel a b
theorem eq_of_sub {a b : K} (h : a - b = 0) : a = b := Rg.eq_of_sub h
theorem mul_inv (a : K) (h : a ≠ 0) : a * inv a = 1 := by rw [Rg.mul_comm, Fd.inv_mul a h]
theorem mul_eq_zero {a b : K} (h : a * b = 0) : a = 0 ∨ b = 0 := by
 by_cases ha : a = 0
 ·exact .inl ha
 ·right
  have h1 : inv a * (a * b) = 0 := by rw [h, mul_zero]
  rwa [← Rg.mul_assoc, Fd.inv_mul a ha, Rg.one_mul] at h1
theorem mul_ne {a b : K} (ha : a ≠ 0) (hb : b ≠ 0) : a * b ≠ 0 := fun h => (mul_eq_zero h).elim ha hb
theorem mul_left_cancel {a b c : K} (ha : a ≠ 0) (h : a * b = a * c) : b = c := by
 have h1 : inv a * (a * b) = inv a * (a * c) := by rw [h]
 rwa [← Rg.mul_assoc, ← Rg.mul_assoc, Fd.inv_mul a ha, Rg.one_mul, Rg.one_mul] at h1
theorem inv_ne {a : K} (h : a ≠ 0) : inv a ≠ 0 := fun h1 => Fd.one_ne (K := K) (by rw [← Fd.inv_mul a h, h1, zero_mul])
def pow (a : K) : Nat → K
 | 0 => 1
 | n + 1 => pow a n * a
theorem pow_add (a : K) (m : Nat) : ∀ n, pow a (m + n) = pow a m * pow a n
 | 0 => (mul_one _).symm
 | n + 1 => by rw [← Nat.add_assoc, pow, pow_add a m n, pow, Rg.mul_assoc]
theorem one_pow : ∀ n, pow (1 : K) n = 1
 | 0 => rfl
 | n + 1 => by rw [pow, one_pow n, Rg.one_mul]
theorem pow_mul (a : K) (m : Nat) : ∀ n, pow a (m * n) = pow (pow a m) n
 | 0 => rfl
 | n + 1 => by rw [Nat.mul_succ, pow_add, pow_mul a m n, pow]
theorem mul_pow (a b : K) : ∀ n, pow (a * b) n = pow a n * pow b n
 | 0 => (Rg.one_mul _).symm
 | n + 1 => by rw [pow, mul_pow a b n, pow, pow]; ac_rfl
theorem pow_ne {a : K} (h : a ≠ 0) : ∀ n, pow a n ≠ 0
 | 0 => Fd.one_ne
 | n + 1 => mul_ne (pow_ne h n) h
theorem pow_one (a : K) : pow a 1 = a := Rg.one_mul a
theorem zero_pow {n : Nat} (h : 0 < n) : pow (0 : K) n = 0 := by
 obtain ⟨k, rfl⟩ : ∃ k, n = k + 1 := ⟨n - 1, by omega⟩
 exact mul_zero _
theorem pow_eq (a : K) : ∀ n, pow a n = Rg.pow a n
 | 0 => rfl
 | n + 1 => by rw [pow, pow_eq a n]; rfl
def ev : List K → K → K
 | [], _ => 0
 | c :: cs, x => c + x * ev cs x
def dv (a : K) : List K → List K
 | [] => []
 | [_] => []
 | _ :: d :: ds => ev (d :: ds) a :: dv a (d :: ds)
theorem dv_length (a : K) : ∀ cs : List K, (dv a cs).length = cs.length - 1
 | [] => rfl
 | [_] => rfl
 | _ :: d :: ds => by simp [dv, dv_length a (d :: ds)]
theorem ev_dv (a x : K) : ∀ cs : List K, ev cs x = (x - a) * ev (dv a cs) x + ev cs a
 | [] => by simp only [ev, dv]; rw [mul_zero, Rg.zero_add]
 | [c] => by simp only [ev, dv, mul_zero, Rg.zero_add, add_zero]
 | c :: d :: ds => by
  have ih := ev_dv a x (d :: ds)
  rw [dv, ev, ih]
  show c + x * ((x - a) * ev (dv a (d :: ds)) x + ev (d :: ds) a) = (x - a) * (ev (d :: ds) a + x * ev (dv a (d :: ds)) x) + (c + a * ev (d :: ds) a)
  generalize ev (dv a (d :: ds)) x = q
  generalize ev (d :: ds) a = r
  rw [mul_add, mul_add (x - a), sub_mul x a r, sub_def (x * r) (a * r)]
  have h1 : x * ((x - a) * q) = (x - a) * (x * q) := by ac_rfl
  rw [h1]
  have h2 : x * r + -(a * r) + (x - a) * (x * q) + (c + a * r) = c + ((x - a) * (x * q) + x * r) + (-(a * r) + a * r) := by ac_rfl
  rw [h2, Rg.neg_add, add_zero]
theorem dv_last (a l : K) : ∀ cs : List K, 2 ≤ cs.length → cs.getLast? = some l → (dv a cs).getLast? = some l
 | [], h, _ => by simp at h
 | [_], h, _ => by simp at h
 | [c, d], _, h => by
  simp at h
  simp [dv, ev, h, mul_zero, add_zero]
 | c :: d :: e :: es, _, h => by
  have ih := dv_last a l (d :: e :: es) (by simp) (by simpa using h)
  rw [dv]
  have h1 : dv a (d :: e :: es) ≠ [] := fun h2 => by rw [h2] at ih; cases ih
  cases hq : dv a (d :: e :: es) with
  | nil => exact absurd hq h1
  | cons q qs => rw [hq] at ih; simpa using ih
theorem roots_le {l : K} (hl : l ≠ 0) : ∀ (n : Nat) (cs : List K), cs.length = n + 1 → cs.getLast? = some l → ∀ rs : List K, rs.Nodup → (∀ r ∈ rs, ev cs r = 0) → rs.length ≤ n
 | 0, cs, hlen, hlast, rs, hnd, hr => by
  match cs, hlen with
  | [c], _ =>
   simp at hlast
   subst hlast
   cases rs with
   | nil => simp
   | cons r rs =>
    have := hr r (by simp)
    simp only [ev, mul_zero, add_zero] at this
    exact absurd this hl
 | n + 1, cs, hlen, hlast, rs, hnd, hr => by
  cases rs with
  | nil => simp
  | cons a rs =>
   have ha := hr a (by simp)
   have hnd' := List.nodup_cons.1 hnd
   have ih := roots_le hl n (dv a cs) (by rw [dv_length, hlen]; rfl) (dv_last a l cs (by omega) hlast) rs hnd'.2 (fun r hrm => by
    have h1 := hr r (List.mem_cons_of_mem _ hrm)
    rw [ev_dv a r cs, ha, add_zero] at h1
    rcases mul_eq_zero h1 with h2 | h2
    ·have : r = a := eq_of_sub h2
     subst this
     exact absurd hrm hnd'.1
    ·exact h2)
   simp only [List.length_cons]
   omega
theorem perm_of_sub {α : Type} [DecidableEq α] : ∀ (l1 l2 : List α), l1.Nodup → (∀ a ∈ l1, a ∈ l2) → l2.length ≤ l1.length → l1.Perm l2
 | [], l2, _, _, h => by
  have : l2 = [] := List.eq_nil_of_length_eq_zero (by simpa using h)
  subst this; exact List.Perm.refl _
 | a :: t, l2, hnd, hs, h => by
  have ha := hs a (by simp)
  have h1 := List.nodup_cons.1 hnd
  have h2 := perm_of_sub t (l2.erase a) h1.2 (fun b hb => by
   have hne : b ≠ a := fun e => h1.1 (e ▸ hb)
   exact (List.mem_erase_of_ne hne).2 (hs b (List.mem_cons_of_mem _ hb))) (by
   rw [List.length_erase_of_mem ha]
   simp only [List.length_cons] at h
   omega)
  exact (h2.cons a).trans (List.perm_cons_erase ha).symm
def prod : List K → K
 | [] => 1
 | a :: l => a * prod l
theorem prod_perm {l l' : List K} (h : l.Perm l') : prod l = prod l' := by
 induction h with
 | nil => rfl
 | cons a _ ih => simp only [prod, ih]
 | swap a b l => simp only [prod]; ac_rfl
 | trans _ _ h1 h2 => rw [h1, h2]
theorem prod_map (a : K) : ∀ l : List K, prod (l.map (a * ·)) = pow a l.length * prod l
 | [] => (Rg.one_mul _).symm
 | b :: l => by
  simp only [List.map_cons, prod, prod_map a l, List.length_cons, pow]
  ac_rfl
theorem prod_ne : ∀ l : List K, (∀ a ∈ l, a ≠ 0) → prod l ≠ 0
 | [], _ => Fd.one_ne
 | a :: l, h => mul_ne (h a (by simp)) (prod_ne l (fun b hb => h b (by simp [hb])))
structure Nz (K : Type) [Fd K] (l : List K) : Prop where
 nd : l.Nodup
 mem : ∀ a : K, a ∈ l ↔ a ≠ 0
variable [DecidableEq K]
theorem Nz.pow {l : List K} (h : Nz K l) {a : K} (ha : a ≠ 0) : Fd.pow a l.length = 1 := by
 have hnd : (l.map (a * ·)).Nodup := by
  refine List.pairwise_map.2 (h.nd.imp ?_)
  intro b c hbc e
  exact hbc (mul_left_cancel ha e)
 have hp : (l.map (a * ·)).Perm l := perm_of_sub _ _ hnd (fun b hb => by
  obtain ⟨c, hc, rfl⟩ := List.mem_map.1 hb
  exact (h.mem _).2 (mul_ne ha ((h.mem c).1 hc))) (by simp)
 have h1 := prod_perm hp
 rw [prod_map] at h1
 have h2 := prod_ne l (fun b hb => (h.mem b).1 hb)
 have h3 : prod l * Fd.pow a l.length = prod l * 1 := by rw [mul_one, Rg.mul_comm, h1]
 exact mul_left_cancel h2 h3
theorem Nz.not_one {l : List K} (h : Nz K l) {k : Nat} (hk : 0 < k) (hkl : k < l.length) : ∃ a : K, a ≠ 0 ∧ Fd.pow a k ≠ 1 := by
 refine Classical.byContradiction fun hno => ?_
 have hall : ∀ a ∈ l, Fd.pow a k = 1 := fun a ha => Classical.byContradiction fun h1 => hno ⟨a, (h.mem a).1 ha, h1⟩
 -- -1 + x^k
 have hev : ∀ (j : Nat) (x : K), ev (List.replicate j 0 ++ [1]) x = Fd.pow x j := by
  intro j x
  induction j with
  | zero => simp [ev, Fd.pow, mul_zero, add_zero]
  | succ j ih =>
   rw [List.replicate_succ, List.cons_append, ev, ih, Rg.zero_add, Fd.pow, Rg.mul_comm]
 obtain ⟨j, rfl⟩ : ∃ j, k = j + 1 := ⟨k - 1, by omega⟩
 have h1 := roots_le (l := (1 : K)) Fd.one_ne (j + 1) ((-1) :: (List.replicate j 0 ++ [1])) (by simp) (by
  cases j <;> simp [List.getLast?_cons, List.getLast?_append]) l h.nd (fun r hr => by
  have h2 : r * Fd.pow r j = 1 := by rw [Rg.mul_comm]; exact hall r hr
  rw [ev, hev, h2, Rg.neg_add])
 omega
def Ord (g : K) (d : Nat) : Prop := g ≠ 0 ∧ pow g d = 1 ∧ ∀ t, pow g t = 1 → d ∣ t
theorem pow_mod {g : K} {d : Nat} (h : pow g d = 1) (t : Nat) : pow g t = pow g (t % d) := by
 have h1 : pow g t = pow g (d * (t / d) + t % d) := by rw [Nat.div_add_mod]
 rw [h1, pow_add, pow_mul, h, one_pow, Rg.one_mul]
theorem pow_gcd {g : K} (hg : g ≠ 0) : ∀ (a b : Nat), pow g a = 1 → pow g b = 1 → pow g (Nat.gcd a b) = 1 := by
 intro a
 induction a using Nat.strongRecOn with
 | _ a ih =>
  intro b ha hb
  rcases Nat.eq_zero_or_pos a with h | h
  ·subst h; simpa using hb
  ·rw [Nat.gcd_rec]
   exact ih (b % a) (Nat.mod_lt _ h) a (by rw [← pow_mod ha]; exact hb) ha
theorem strip {r : Nat} (hr : 2 ≤ r) : ∀ (d : Nat), 0 < d → ∃ e d', d = r ^ e * d' ∧ ¬ r ∣ d' := by
 intro d
 induction d using Nat.strongRecOn with
 | _ d ih =>
  intro hd
  by_cases h : r ∣ d
  ·obtain ⟨k, rfl⟩ := h
   have hk : 0 < k := Nat.pos_of_ne_zero (fun e => by subst e; simp at hd)
   obtain ⟨e, d', h1, h2⟩ := ih k (by
    have : 1 * k < r * k := Nat.mul_lt_mul_of_pos_right (by omega) hk
    omega) hk
   exact ⟨e + 1, d', by rw [h1, Nat.pow_succ]; rw [Nat.mul_comm (r ^ e) r, Nat.mul_assoc], h2⟩
  ·exact ⟨0, d, by simp, h⟩
theorem least_factor {d : Nat} (hd : 2 ≤ d) : ∃ r, 2 ≤ r ∧ r ∣ d ∧ ∀ u, 2 ≤ u → u ∣ d → r ≤ u := by
 have key : ∀ n, (∃ r, 2 ≤ r ∧ r ≤ n ∧ r ∣ d) → ∃ r, 2 ≤ r ∧ r ∣ d ∧ ∀ u, 2 ≤ u → u ∣ d → r ≤ u := by
  intro n
  induction n with
  | zero => rintro ⟨r, h1, h2, _⟩; omega
  | succ n ih =>
   rintro ⟨r, h1, h2, h3⟩
   by_cases h : ∃ r, 2 ≤ r ∧ r ≤ n ∧ r ∣ d
   ·exact ih h
   ·exact ⟨r, h1, h3, fun u hu hud => Nat.le_of_not_lt (fun hlt => h ⟨u, hu, by omega, hud⟩)⟩
 exact key d ⟨d, hd, Nat.le_refl _, Nat.dvd_refl _⟩
theorem dvd_pow_pred {r : Nat} (hr : 2 ≤ r) (hp : ∀ u, 2 ≤ u → u ∣ r → u = r) {e s : Nat} (hs : s ∣ r ^ (e + 1)) (hne : s ≠ r ^ (e + 1)) : s ∣ r ^ e := by
 obtain ⟨u, hu⟩ := hs
 have hru : r ∣ u := by
  refine Classical.byContradiction fun hno => ?_
  have hg : Nat.gcd u r = 1 := by
   have h1 : Nat.gcd u r ∣ r := Nat.gcd_dvd_right u r
   have h0 : Nat.gcd u r ≠ 0 := fun h => by
    have := Nat.eq_zero_of_gcd_eq_zero_right h
    omega
   rcases Nat.lt_or_ge (Nat.gcd u r) 2 with h2 | h2
   ·omega
   ·have h3 := hp _ h2 h1
    exact absurd (by rw [← h3]; exact Nat.gcd_dvd_left u r) hno
  have hc : Nat.Coprime u (r ^ (e + 1)) := Nat.Coprime.pow_right (e + 1) hg
  have hu1 : u = 1 := Nat.Coprime.eq_one_of_dvd hc ⟨s, by rw [hu, Nat.mul_comm]⟩
  rw [hu1, Nat.mul_one] at hu
  exact hne hu.symm
 obtain ⟨k, rfl⟩ := hru
 refine ⟨k, ?_⟩
 have h1 : r * r ^ e = r * (s * k) := by rw [← Nat.pow_succ', hu, Nat.mul_left_comm]
 exact Nat.eq_of_mul_eq_mul_left (by omega) h1
theorem Nz.ord {l : List K} (h : Nz K l) : ∀ d : Nat, 0 < d → d ∣ l.length → ∃ g : K, Ord g d := by
 intro d
 induction d using Nat.strongRecOn with
 | _ d ih =>
  intro hd hdl
  by_cases hd1 : d = 1
  ·subst hd1
   exact ⟨1, Fd.one_ne, one_pow 1, fun t _ => Nat.one_dvd t⟩
  ·obtain ⟨r, hr2, hrd, hrl⟩ := least_factor (d := d) (by omega)
   have hp : ∀ u, 2 ≤ u → u ∣ r → u = r := fun u hu hur => Nat.le_antisymm (Nat.le_of_dvd (by omega) hur) (hrl u hu (Nat.dvd_trans hur hrd))
   obtain ⟨e, d', he, hnd⟩ := strip hr2 d hd
   obtain ⟨e1, rfl⟩ : ∃ e1, e = e1 + 1 := by
    refine ⟨e - 1, ?_⟩
    rcases Nat.eq_zero_or_pos e with h0 | h0
    ·subst h0; rw [Nat.pow_zero, Nat.one_mul] at he; rw [he] at hrd; exact absurd hrd hnd
    ·omega
   have hd'0 : 0 < d' := Nat.pos_of_ne_zero (fun h0 => hnd (h0 ▸ Nat.dvd_zero r))
   have hre2 : 2 ≤ r ^ (e1 + 1) := by
    have h1 : 1 ≤ r ^ e1 := Nat.one_le_pow _ _ (by omega)
    rw [Nat.pow_succ]
    calc 2 = 1 * 2 := rfl
     _ ≤ r ^ e1 * r := Nat.mul_le_mul h1 hr2
   have hd'lt : d' < d := by
    rw [he]
    have : 1 * d' < r ^ (e1 + 1) * d' := Nat.mul_lt_mul_of_pos_right (by omega) hd'0
    omega
   obtain ⟨g', hg0, hg1, hg2⟩ := ih d' hd'lt hd'0 (Nat.dvd_trans ⟨r ^ (e1 + 1), by rw [he, Nat.mul_comm]⟩ hdl)
   obtain ⟨n1, hn1⟩ : r ^ (e1 + 1) ∣ l.length := Nat.dvd_trans ⟨d', he⟩ hdl
   have hn0 : 0 < l.length := by
    have : (1 : K) ∈ l := (h.mem 1).2 Fd.one_ne
    exact List.length_pos_of_mem this
   have hn1p : 0 < n1 := Nat.pos_of_ne_zero (fun h0 => by subst h0; omega)
   have hre1 : 0 < r ^ e1 := Nat.pow_pos (by omega)
   obtain ⟨x, hx0, hx⟩ := h.not_one (k := r ^ e1 * n1) (Nat.mul_pos hre1 hn1p) (by
    rw [hn1, Nat.pow_succ, Nat.mul_assoc]
    refine Nat.mul_lt_mul_of_pos_left ?_ hre1
    have : 1 * n1 < r * n1 := Nat.mul_lt_mul_of_pos_right (by omega) hn1p
    omega)
   -- y has order r^(e1+1)
   have hy0 : Fd.pow x n1 ≠ 0 := pow_ne hx0 n1
   have hy1 : Fd.pow (Fd.pow x n1) (r ^ (e1 + 1)) = 1 := by rw [← pow_mul, Nat.mul_comm, ← hn1]; exact h.pow hx0
   have hy2 : ∀ t, Fd.pow (Fd.pow x n1) t = 1 → r ^ (e1 + 1) ∣ t := fun t ht => by
    have h1 := pow_gcd hy0 t (r ^ (e1 + 1)) ht hy1
    by_cases h2 : Nat.gcd t (r ^ (e1 + 1)) = r ^ (e1 + 1)
    ·rw [← h2]; exact Nat.gcd_dvd_left _ _
    ·exfalso
     obtain ⟨k, hk⟩ := dvd_pow_pred hr2 hp (Nat.gcd_dvd_right t (r ^ (e1 + 1))) h2
     apply hx
     rw [Nat.mul_comm, pow_mul, hk, pow_mul, h1, one_pow]
   have hcop : Nat.Coprime d' (r ^ (e1 + 1)) := by
    refine Nat.Coprime.pow_right _ ?_
    have h1 : Nat.gcd d' r ∣ r := Nat.gcd_dvd_right d' r
    have h0 : Nat.gcd d' r ≠ 0 := fun h => by
     have := Nat.eq_zero_of_gcd_eq_zero_right h
     omega
    show Nat.gcd d' r = 1
    rcases Nat.lt_or_ge (Nat.gcd d' r) 2 with h2 | h2
    ·omega
    ·have h3 := hp _ h2 h1
     exact absurd (by rw [← h3]; exact Nat.gcd_dvd_left d' r) hnd
   refine ⟨g' * Fd.pow x n1, mul_ne hg0 hy0, ?_, fun t ht => ?_⟩
   ·rw [mul_pow, he]
    have h1 : Fd.pow g' (r ^ (e1 + 1) * d') = 1 := by rw [Nat.mul_comm, pow_mul, hg1, one_pow]
    have h2 : Fd.pow (Fd.pow x n1) (r ^ (e1 + 1) * d') = 1 := by rw [pow_mul, hy1, one_pow]
    rw [h1, h2, Rg.one_mul]
   ·rw [mul_pow] at ht
    have h1 : d' ∣ t := by
     have h2 : Fd.pow g' (t * r ^ (e1 + 1)) = 1 := by
      have h3 : Fd.pow (Fd.pow g' t * Fd.pow (Fd.pow x n1) t) (r ^ (e1 + 1)) = 1 := by rw [ht, one_pow]
      rw [mul_pow, ← pow_mul, ← pow_mul, Nat.mul_comm t, pow_mul (Fd.pow x n1), hy1, one_pow, mul_one] at h3
      rw [Nat.mul_comm]; exact h3
     exact hcop.dvd_of_dvd_mul_right (hg2 _ h2)
    have h2 : r ^ (e1 + 1) ∣ t := by
     obtain ⟨k, rfl⟩ := h1
     rw [pow_mul g', hg1, one_pow, Rg.one_mul] at ht
     exact hy2 _ ht
    rw [he]
    exact hcop.symm.mul_dvd_of_dvd_of_dvd h2 h1
theorem Nz.gen {l : List K} (h : Nz K l) : ∃ g : K, Ord g l.length := h.ord _ (by
 have : (1 : K) ∈ l := (h.mem 1).2 Fd.one_ne
 exact List.length_pos_of_mem this) (Nat.dvd_refl _)
end Fd
end Go.Proofs.Ytdkahdehodopoaa

namespace Go.Proofs.Ytdkahdehodopoaa
open Rg Ser
def Po (K : Type) [Fd K] : Type := { f : Ser K // ∃ n, Bd f n }
theorem nat_least {P : Nat → Prop} (h : ∃ n, P n) : ∃ n, P n ∧ ∀ k, k < n → ¬ P k := by
 obtain ⟨n, hn⟩ := h
 induction n using Nat.strongRecOn with
 | _ n ih =>
  by_cases h1 : ∃ k, k < n ∧ P k
  ·obtain ⟨k, h2, h3⟩ := h1
   exact ih k h2 h3
  ·exact ⟨n, hn, fun k hk hp => h1 ⟨k, hk, hp⟩⟩
namespace Po
variable {K : Type} [Fd K]
def cf (f : Po K) (n : Nat) : K := f.1 n
theorem ext {f g : Po K} (h : ∀ n, cf f n = cf g n) : f = g := Subtype.ext (funext h)
theorem bd_mul' {f g : Ser K} {n m : Nat} (h : Bd f n) (k : Bd g m) : Bd (f * g) (n + m) := h.mul (k.mono (by omega))
instance : Add (Po K) := ⟨fun f g => ⟨f.1 + g.1, by
 obtain ⟨n, hn⟩ := f.2
 obtain ⟨m, hm⟩ := g.2
 exact ⟨n + m, (hn.mono (by omega)).add (hm.mono (by omega))⟩⟩⟩
instance : Neg (Po K) := ⟨fun f => ⟨-f.1, by
 obtain ⟨n, hn⟩ := f.2
 exact ⟨n, hn.neg⟩⟩⟩
instance : Zero (Po K) := ⟨⟨0, 0, Bd.zero 0⟩⟩
instance : One (Po K) := ⟨⟨1, 1, Bd.one⟩⟩
instance : Mul (Po K) := ⟨fun f g => ⟨f.1 * g.1, by
 obtain ⟨n, hn⟩ := f.2
 obtain ⟨m, hm⟩ := g.2
 exact ⟨n + m, bd_mul' hn hm⟩⟩⟩
instance : Rg (Po K) where
 add_assoc f g h := Subtype.ext (Rg.add_assoc _ _ _)
 add_comm f g := Subtype.ext (Rg.add_comm _ _)
 zero_add f := Subtype.ext (Rg.zero_add _)
 neg_add f := Subtype.ext (Rg.neg_add _)
 mul_assoc f g h := Subtype.ext (Rg.mul_assoc _ _ _)
 mul_comm f g := Subtype.ext (Rg.mul_comm _ _)
 one_mul f := Subtype.ext (Rg.one_mul _)
 add_mul f g h := Subtype.ext (Rg.add_mul _ _ _)
theorem cf_add (f g : Po K) (n : Nat) : cf (f + g) n = cf f n + cf g n := rfl
theorem cf_neg (f : Po K) (n : Nat) : cf (-f) n = -cf f n := rfl
theorem cf_sub (f g : Po K) (n : Nat) : cf (f - g) n = cf f n - cf g n := rfl
theorem cf_one (n : Nat) : cf (1 : Po K) n = if n = 0 then 1 else 0 := rfl
theorem cf_mul (f g : Po K) (n : Nat) : cf (f * g) n = sm (n + 1) (fun i => cf f i * cf g (n - i)) := rfl
def Sh (f : Po K) (n : Nat) : Prop := ∀ j, n ≤ j → cf f j = 0
theorem Sh.mono {f : Po K} {n m : Nat} (h : Sh f n) (hm : n ≤ m) : Sh f m := fun j hj => h j (by omega)
theorem Sh.add {f g : Po K} {n : Nat} (h : Sh f n) (k : Sh g n) : Sh (f + g) n := Bd.add h k
theorem Sh.neg {f : Po K} {n : Nat} (h : Sh f n) : Sh (-f) n := Bd.neg h
theorem Sh.sub {f g : Po K} {n : Nat} (h : Sh f n) (k : Sh g n) : Sh (f - g) n := h.add k.neg
theorem Sh.mul {f g : Po K} {n m : Nat} (h : Sh f n) (k : Sh g (m + 1)) : Sh (f * g) (n + m) := Bd.mul h k
theorem top_mul {f g : Po K} {n m : Nat} (h : Sh f (n + 1)) (k : Sh g (m + 1)) : cf (f * g) (n + m) = cf f n * cf g m := Ser.top_mul h k
noncomputable def len (f : Po K) : Nat := Classical.choose (nat_least f.2)
theorem len_sh (f : Po K) : Sh f (len f) := (Classical.choose_spec (nat_least f.2)).1
theorem len_min (f : Po K) {k : Nat} (h : k < len f) : ¬ Sh f k := (Classical.choose_spec (nat_least f.2)).2 k h
theorem len_le {f : Po K} {n : Nat} (h : Sh f n) : len f ≤ n := Nat.le_of_not_lt fun h' => len_min f h' h
theorem cf_ge {f : Po K} {j : Nat} (h : len f ≤ j) : cf f j = 0 := len_sh f j h
theorem lead_ne {f : Po K} {n : Nat} (h : len f = n + 1) : cf f n ≠ 0 := fun h0 => len_min f (k := n) (by omega) fun j hj => by
 by_cases hjn : j = n
 ·rw [hjn]; exact h0
 ·exact cf_ge (by omega)
theorem len_eq {f : Po K} {n : Nat} (h : Sh f (n + 1)) (h0 : cf f n ≠ 0) : len f = n + 1 := by
 have h1 := len_le h
 rcases Nat.lt_or_ge n (len f) with h2 | h2
 ·omega
 ·exact absurd (cf_ge h2) h0
theorem len_zero : len (0 : Po K) = 0 := Nat.le_zero.1 (len_le fun _ _ => rfl)
theorem eq_zero_of_len {f : Po K} (h : len f = 0) : f = 0 := ext fun n => cf_ge (by omega)
theorem len_pos {f : Po K} (h : f ≠ 0) : 0 < len f := Nat.pos_of_ne_zero fun h0 => h (eq_zero_of_len h0)
theorem len_pos_iff {f : Po K} : 0 < len f ↔ f ≠ 0 := ⟨fun h h0 => by rw [h0, len_zero] at h; omega, len_pos⟩
theorem len_one : len (1 : Po K) = 1 := len_eq (n := 0) (fun j hj => by rw [cf_one, if_neg (by omega)]) (by rw [cf_one, if_pos rfl]; exact Fd.one_ne)
theorem one_ne : (1 : Po K) ≠ 0 := len_pos_iff.1 (by rw [len_one]; omega)
theorem len_add (f g : Po K) : len (f + g) ≤ max (len f) (len g) := len_le (((len_sh f).mono (Nat.le_max_left ..)).add ((len_sh g).mono (Nat.le_max_right ..)))
theorem len_neg (f : Po K) : len (-f) = len f := by
 have h1 : ∀ f : Po K, len (-f) ≤ len f := fun f => len_le (len_sh f).neg
 have h2 := h1 f
 have h3 := h1 (-f)
 rw [Rg.neg_neg] at h3
 omega
theorem len_sub (f g : Po K) : len (f - g) ≤ max (len f) (len g) := by
 have := len_add f (-g)
 rw [len_neg] at this
 exact this
noncomputable def lead (f : Po K) : K := cf f (len f - 1)
theorem lead_nz {f : Po K} (h : f ≠ 0) : lead f ≠ 0 := lead_ne (by have := len_pos h; omega)
theorem len_mul {f g : Po K} (hf : f ≠ 0) (hg : g ≠ 0) : len (f * g) = len f + len g - 1 := by
 obtain ⟨n, hn⟩ : ∃ n, len f = n + 1 := ⟨len f - 1, by have := len_pos hf; omega⟩
 obtain ⟨m, hm⟩ : ∃ m, len g = m + 1 := ⟨len g - 1, by have := len_pos hg; omega⟩
 have h1 := hn ▸ len_sh f
 have h2 := hm ▸ len_sh g
 rw [hn, hm, show n + 1 + (m + 1) - 1 = (n + m) + 1 by omega]
 refine len_eq ?_ ?_
 ·rw [show n + m + 1 = (n + 1) + m by omega]; exact h1.mul h2
 ·rw [top_mul h1 h2]
  exact Fd.mul_ne (lead_ne hn) (lead_ne hm)
theorem mul_ne {f g : Po K} (hf : f ≠ 0) (hg : g ≠ 0) : f * g ≠ 0 := len_pos_iff.1 (by rw [len_mul hf hg]; have := len_pos hf; have := len_pos hg; omega)
theorem mul_eq_zero {f g : Po K} (h : f * g = 0) : f = 0 ∨ g = 0 := by
 by_cases hf : f = 0
 ·exact .inl hf
 ·exact .inr (Classical.byContradiction fun hg => mul_ne hf hg h)
theorem mul_cancel {f g h : Po K} (hf : f ≠ 0) (e : f * g = f * h) : g = h := by
 have h1 : f * (g - h) = 0 := by rw [mul_sub, e, sub_self]
 exact eq_of_sub ((mul_eq_zero h1).resolve_left hf)
theorem lead_mul {f g : Po K} (hf : f ≠ 0) (hg : g ≠ 0) : lead (f * g) = lead f * lead g := by
 obtain ⟨n, hn⟩ : ∃ n, len f = n + 1 := ⟨len f - 1, by have := len_pos hf; omega⟩
 obtain ⟨m, hm⟩ : ∃ m, len g = m + 1 := ⟨len g - 1, by have := len_pos hg; omega⟩
 have h1 := hn ▸ len_sh f
 have h2 := hm ▸ len_sh g
 unfold lead
 rw [len_mul hf hg, hn, hm, show n + 1 + (m + 1) - 1 - 1 = n + m by omega]
 exact top_mul h1 h2
def mn (c : K) (n : Nat) : Po K := ⟨fun j => if j = n then c else 0, n + 1, fun j hj => if_neg (by omega)⟩
theorem cf_mn (c : K) (n j : Nat) : cf (mn c n) j = if j = n then c else 0 := rfl
abbrev C (c : K) : Po K := mn c 0
abbrev X : Po K := mn 1 1
theorem cf_mn_mul (c : K) (n : Nat) (f : Po K) (j : Nat) : cf (mn c n * f) j = if j < n then 0 else c * cf f (j - n) := by
 rw [cf_mul]
 by_cases h : j < n
 ·rw [if_pos h]
  exact sm_none fun i hi => by rw [cf_mn, if_neg (by omega), zero_mul]
 ·rw [if_neg h, sm_one (k := n) (by omega) (fun i hi hne => by rw [cf_mn, if_neg hne, zero_mul])]
  rw [cf_mn, if_pos rfl]
theorem cf_C_mul (c : K) (f : Po K) (j : Nat) : cf (C c * f) j = c * cf f j := by rw [cf_mn_mul, if_neg (by omega)]; rfl
theorem mn_mul (c d : K) (n m : Nat) : mn c n * mn d m = mn (c * d) (n + m) := ext fun j => by
 rw [cf_mn_mul, cf_mn, cf_mn]
 by_cases h : j < n
 ·rw [if_pos h, if_neg (by omega)]
 ·rw [if_neg h]
  by_cases h2 : j - n = m
  ·rw [if_pos h2, if_pos (by omega)]
  ·rw [if_neg h2, if_neg (by omega), mul_zero]
theorem C_mul (c d : K) : C c * C d = C (c * d) := mn_mul c d 0 0
theorem mn_add (c d : K) (n : Nat) : mn c n + mn d n = mn (c + d) n := ext fun j => by
 rw [cf_add, cf_mn, cf_mn, cf_mn]
 split
 ·rfl
 ·exact Rg.zero_add _
theorem mn_neg (c : K) (n : Nat) : -mn c n = mn (-c) n := ext fun j => by
 rw [cf_neg, cf_mn, cf_mn]
 split
 ·rfl
 ·exact neg_zero
theorem C_one : C (1 : K) = 1 := ext fun j => rfl
theorem mn_zero (n : Nat) : mn (0 : K) n = 0 := ext fun j => by rw [cf_mn]; split <;> rfl
theorem C_zero : C (0 : K) = 0 := mn_zero 0
theorem mn_sh (c : K) (n : Nat) : Sh (mn c n) (n + 1) := fun j hj => by rw [cf_mn, if_neg (by omega)]
theorem len_mn {c : K} (hc : c ≠ 0) (n : Nat) : len (mn c n) = n + 1 := len_eq (mn_sh c n) (by rw [cf_mn, if_pos rfl]; exact hc)
theorem lead_mn {c : K} (hc : c ≠ 0) (n : Nat) : lead (mn c n) = c := by
 unfold lead
 rw [len_mn hc, Nat.add_sub_cancel, cf_mn, if_pos rfl]
theorem lead_C {c : K} (hc : c ≠ 0) : lead (C c) = c := lead_mn hc 0
theorem mn_ne {c : K} (hc : c ≠ 0) (n : Nat) : mn c n ≠ 0 := len_pos_iff.1 (by rw [len_mn hc]; omega)
theorem C_ne {c : K} (hc : c ≠ 0) : C c ≠ 0 := mn_ne hc 0
theorem pow_X : ∀ n, Rg.pow (X : Po K) n = mn 1 n
 | 0 => C_one.symm
 | n + 1 => by rw [Rg.pow, pow_X n, mn_mul, Rg.one_mul]
theorem len_C_mul {c : K} (hc : c ≠ 0) (f : Po K) : len (C c * f) = len f := by
 by_cases hf : f = 0
 ·rw [hf, mul_zero]
 ·rw [len_mul (C_ne hc) hf, len_mn hc]; omega
theorem len_le_one {f : Po K} (h : len f ≤ 1) : f = C (cf f 0) := ext fun j => by
 rw [cf_mn]
 split
 ·rename_i h0; rw [h0]
 ·exact cf_ge (by omega)
def Dvd' (f g : Po K) : Prop := ∃ h, g = f * h
instance : Dvd (Po K) := ⟨Dvd'⟩
theorem dvd_refl (f : Po K) : f ∣ f := ⟨1, (Rg.mul_one f).symm⟩
theorem dvd_trans {f g h : Po K} (a : f ∣ g) (b : g ∣ h) : f ∣ h := by
 obtain ⟨u, rfl⟩ := a
 obtain ⟨v, rfl⟩ := b
 exact ⟨u * v, Rg.mul_assoc _ _ _⟩
theorem dvd_mul (f g : Po K) : f ∣ f * g := ⟨g, rfl⟩
theorem dvd_mulL (f g : Po K) : f ∣ g * f := ⟨g, Rg.mul_comm _ _⟩
theorem dvd_mul_ofL {f g : Po K} (h : f ∣ g) (k : Po K) : f ∣ k * g := dvd_trans h (dvd_mulL g k)
theorem dvd_add {f g h : Po K} (a : f ∣ g) (b : f ∣ h) : f ∣ g + h := by
 obtain ⟨u, rfl⟩ := a
 obtain ⟨v, rfl⟩ := b
 exact ⟨u + v, (mul_add _ _ _).symm⟩
theorem dvd_neg {f g : Po K} (a : f ∣ g) : f ∣ -g := by
 obtain ⟨u, rfl⟩ := a
 exact ⟨-u, (mul_neg _ _).symm⟩
theorem dvd_sub {f g h : Po K} (a : f ∣ g) (b : f ∣ h) : f ∣ g - h := dvd_add a (dvd_neg b)
theorem dvd_zero (f : Po K) : f ∣ 0 := ⟨0, (mul_zero f).symm⟩
theorem zero_dvd {f : Po K} (h : (0 : Po K) ∣ f) : f = 0 := by
 obtain ⟨u, rfl⟩ := h
 exact zero_mul u
theorem one_dvd (f : Po K) : 1 ∣ f := ⟨f, (Rg.one_mul f).symm⟩
theorem dvd_len {f g : Po K} (h : f ∣ g) (hg : g ≠ 0) : len f ≤ len g := by
 obtain ⟨u, rfl⟩ := h
 have hf : f ≠ 0 := fun e => hg (by rw [e, zero_mul])
 have hu : u ≠ 0 := fun e => hg (by rw [e, mul_zero])
 rw [len_mul hf hu]
 have := len_pos hu
 omega
theorem dvd_of_sub {f g h : Po K} (a : f ∣ g) (b : f ∣ g - h) : f ∣ h := by
 have h1 : h = g - (g - h) := by rw [sub_def, neg_sub, ← Rg.add_comm, sub_add_cancel]
 rw [h1]
 exact dvd_sub a b
theorem C_dvd {c : K} (hc : c ≠ 0) (f : Po K) : C c ∣ f := ⟨C (Fd.inv c) * f, by rw [← Rg.mul_assoc, C_mul, Fd.mul_inv c hc, C_one, Rg.one_mul]⟩
theorem div_step {f g : Po K} (hg : g ≠ 0) {n : Nat} (hn : Sh f (len g + n)) : Sh (f - mn (cf f (len g + n - 1) * Fd.inv (lead g)) n * g) (len g + n - 1) := fun j hj => by
 have hp := len_pos hg
 rw [cf_sub, cf_mn_mul, if_neg (by omega)]
 by_cases hjn : j = len g + n - 1
 ·subst hjn
  have h1 : cf g (len g + n - 1 - n) = lead g := by unfold lead; congr 1; omega
  rw [h1, Rg.mul_assoc, Fd.inv_mul _ (lead_nz hg), Rg.mul_one, sub_self]
 ·rw [hn j (by omega), cf_ge (f := g) (by omega), mul_zero, sub_self]
theorem div_ex {g : Po K} (hg : g ≠ 0) : ∀ (n : Nat) (f : Po K), Sh f (len g + n) → ∃ q r : Po K, f = q * g + r ∧ len r < len g
 | 0, f, hf => by
  have hp := len_pos hg
  have hs := div_step hg hf
  rw [Nat.add_zero] at hs
  refine ⟨mn (cf f (len g - 1) * Fd.inv (lead g)) 0, f - mn (cf f (len g - 1) * Fd.inv (lead g)) 0 * g, by rw [Rg.add_comm, sub_add_cancel], ?_⟩
  have := len_le hs
  omega
 | n + 1, f, hf => by
  have hp := len_pos hg
  have hs := div_step hg hf
  rw [show len g + (n + 1) - 1 = len g + n by omega] at hs
  obtain ⟨q, r, h1, h2⟩ := div_ex hg n _ hs
  refine ⟨mn (cf f (len g + n) * Fd.inv (lead g)) (n + 1) + q, r, ?_, h2⟩
  rw [Rg.add_mul, Rg.add_assoc, ← h1, Rg.add_comm, sub_add_cancel]
theorem div_uniq {g q q' r r' : Po K} (h : q * g + r = q' * g + r') (hr : len r < len g) (hr' : len r' < len g) : q = q' ∧ r = r' := by
 have hg : g ≠ 0 := len_pos_iff.1 (by omega)
 have h1 : (q - q') * g = r' - r := by
  rw [sub_mul]
  refine (eq_sub_of_add ?_)
  rw [sub_add_eq, h]
  rw [Rg.add_comm, add_sub_cancel]
 have h2 : q - q' = 0 := Classical.byContradiction fun hne => by
  have h3 := len_mul hne hg
  rw [h1] at h3
  have h4 := len_sub r' r
  have := len_pos hne
  omega
 have h3 := eq_of_sub h2
 subst h3
 exact ⟨rfl, add_left_cancel h⟩
theorem divm (f g : Po K) (hg : g ≠ 0) : ∃ q r : Po K, f = q * g + r ∧ len r < len g := div_ex hg (len f) f ((len_sh f).mono (by omega))
open Classical in
noncomputable def quo (f g : Po K) : Po K := if h : g ≠ 0 then Classical.choose (divm f g h) else 0
open Classical in
noncomputable def rem (f g : Po K) : Po K := if h : g ≠ 0 then Classical.choose (Classical.choose_spec (divm f g h)) else f
theorem div_eq (f : Po K) {g : Po K} (hg : g ≠ 0) : f = quo f g * g + rem f g := by
 unfold quo rem
 rw [dif_pos hg, dif_pos hg]
 exact (Classical.choose_spec (Classical.choose_spec (divm f g hg))).1
theorem rem_len (f : Po K) {g : Po K} (hg : g ≠ 0) : len (rem f g) < len g := by
 unfold rem
 rw [dif_pos hg]
 exact (Classical.choose_spec (Classical.choose_spec (divm f g hg))).2
theorem div_of {f g q r : Po K} (h : f = q * g + r) (hr : len r < len g) : quo f g = q ∧ rem f g = r := by
 have hg : g ≠ 0 := len_pos_iff.1 (by omega)
 exact div_uniq ((div_eq f hg).symm.trans h) (rem_len f hg) hr
theorem rem_zero_iff {f g : Po K} (hg : g ≠ 0) : rem f g = 0 ↔ g ∣ f := by
 constructor
 ·intro h
  refine ⟨quo f g, ?_⟩
  have := div_eq f hg
  rw [h, add_zero, Rg.mul_comm] at this
  exact this
 ·rintro ⟨u, rfl⟩
  exact (div_of (q := u) (r := 0) (by rw [add_zero, Rg.mul_comm]) (by rw [len_zero]; exact len_pos hg)).2
theorem rem_small {f g : Po K} (h : len f < len g) : rem f g = f := (div_of (q := 0) (r := f) (by rw [zero_mul, Rg.zero_add]) h).2
theorem rem_sub_dvd (f : Po K) {g : Po K} (hg : g ≠ 0) : g ∣ f - rem f g := by
 have h := div_eq f hg
 refine ⟨quo f g, ?_⟩
 rw [Rg.mul_comm]
 exact (eq_sub_of_add h.symm).symm
theorem rem_eq_iff {f f' g : Po K} (hg : g ≠ 0) : rem f g = rem f' g ↔ g ∣ f - f' := by
 constructor
 ·intro h
  have h1 := dvd_sub (rem_sub_dvd f hg) (rem_sub_dvd f' hg)
  rw [h] at h1
  have h2 : f - rem f' g - (f' - rem f' g) = f - f' := by
   simp only [sub_def, neg_add_rev, Rg.neg_neg]
   have : f + -rem f' g + (-f' + rem f' g) = f + -f' + (-rem f' g + rem f' g) := by ac_rfl
   rw [this, Rg.neg_add, add_zero]
  rwa [h2] at h1
 ·rintro ⟨u, hu⟩
  have h1 := div_eq f' hg
  refine (div_of (q := u + quo f' g) (r := rem f' g) ?_ (rem_len f' hg)).2
  rw [Rg.add_mul, Rg.add_assoc, ← h1, Rg.mul_comm, ← hu, sub_add_cancel]
noncomputable def mon (f : Po K) : Po K := C (Fd.inv (lead f)) * f
theorem mon_zero : mon (0 : Po K) = 0 := mul_zero _
theorem mon_len (f : Po K) : len (mon f) = len f := by
 by_cases hf : f = 0
 ·rw [hf, mon_zero]
 ·exact len_C_mul (Fd.inv_ne (lead_nz hf)) f
theorem mon_lead {f : Po K} (hf : f ≠ 0) : lead (mon f) = 1 := by
 have h1 := C_ne (Fd.inv_ne (lead_nz hf))
 unfold mon
 rw [lead_mul h1 hf]
 rw [lead_C (Fd.inv_ne (lead_nz hf)), Fd.inv_mul _ (lead_nz hf)]
theorem mon_dvd (f : Po K) : mon f ∣ f := by
 by_cases hf : f = 0
 ·rw [hf]; exact dvd_zero _
 ·refine ⟨C (lead f), ?_⟩
  unfold mon
  have : C (Fd.inv (lead f)) * f * C (lead f) = (C (Fd.inv (lead f)) * C (lead f)) * f := by ac_rfl
  rw [this, C_mul, Fd.inv_mul _ (lead_nz hf), C_one, Rg.one_mul]
theorem monic_eq {f g : Po K} (h1 : f ∣ g) (h2 : g ∣ f) (hf : lead f = 1) (hg : lead g = 1) : f = g := by
 by_cases hf0 : f = 0
 ·rw [hf0] at h1 ⊢; exact (zero_dvd h1).symm
 ·have hg0 : g ≠ 0 := fun e => hf0 (by rw [e] at h2; exact zero_dvd h2)
  obtain ⟨u, hu⟩ := h1
  have hu0 : u ≠ 0 := fun e => hg0 (by rw [hu, e, mul_zero])
  have h3 := dvd_len h2 hf0
  have h4 := len_mul hf0 hu0
  rw [← hu] at h4
  have h5 := len_pos hf0
  have h6 := len_pos hu0
  have h7 := len_le_one (f := u) (by omega)
  have h8 := lead_mul hf0 hu0
  rw [← hu, hf, hg, Rg.one_mul] at h8
  have h9 : lead u = cf u 0 := by unfold lead; congr 1; omega
  rw [h9] at h8
  rw [h7, ← h8, C_one, Rg.mul_one] at hu
  exact hu.symm
open Classical in
noncomputable def gcdN : Nat → Po K → Po K → Po K
 | 0, f, _ => mon f
 | n + 1, f, g => if g = 0 then mon f else gcdN n g (rem f g)
noncomputable def gcd (f g : Po K) : Po K := gcdN (len g) f g
open Classical in
theorem gcdN_succ (n : Nat) (f g : Po K) : gcdN (n + 1) f g = if g = 0 then mon f else gcdN n g (rem f g) := rfl
theorem gcdN_0 (f g : Po K) : gcdN 0 f g = mon f := rfl
theorem gcdN_more : ∀ (n : Nat) (f g : Po K), len g ≤ n → gcdN (n + 1) f g = gcdN n f g
 | 0, f, g, h => by
  have := eq_zero_of_len (Nat.le_zero.1 h)
  rw [gcdN_succ, if_pos this, gcdN_0]
 | n + 1, f, g, h => by
  rw [gcdN_succ (n + 1) f g, gcdN_succ n f g]
  split
  ·rfl
  ·rename_i hg
   exact gcdN_more n g (rem f g) (by have := rem_len f hg; omega)
theorem gcdN_eq : ∀ (m n : Nat) (f g : Po K), len g ≤ n → gcdN (n + m) f g = gcdN n f g
 | 0, _, _, _, _ => rfl
 | m + 1, n, f, g, h => by rw [← Nat.add_assoc, gcdN_more _ f g (by omega), gcdN_eq m n f g h]
theorem gcd_zero (f : Po K) : gcd f 0 = mon f := by unfold gcd; rw [len_zero]; rfl
theorem gcd_step (f : Po K) {g : Po K} (hg : g ≠ 0) : gcd f g = gcd g (rem f g) := by
 unfold gcd
 obtain ⟨n, hn⟩ : ∃ n, len g = n + 1 := ⟨len g - 1, by have := len_pos hg; omega⟩
 have hr := rem_len f hg
 rw [hn, gcdN_succ, if_neg hg]
 obtain ⟨m, hm⟩ : ∃ m, n = len (rem f g) + m := ⟨n - len (rem f g), by omega⟩
 rw [hm]
 exact gcdN_eq m _ _ _ (Nat.le_refl _)
structure IsG (f g d : Po K) : Prop where
 left : d ∣ f
 right : d ∣ g
 bez : ∃ u v : Po K, u * f + v * g = d
 mon : d = 0 ∨ lead d = 1
theorem IsG.great {f g d c : Po K} (h : IsG f g d) (h1 : c ∣ f) (h2 : c ∣ g) : c ∣ d := by
 obtain ⟨u, v, rfl⟩ := h.bez
 exact dvd_add (dvd_mul_ofL h1 u) (dvd_mul_ofL h2 v)
theorem gcdN_is : ∀ (n : Nat) (f g : Po K), len g ≤ n → IsG f g (gcdN n f g)
 | 0, f, g, h => by
  have hg := eq_zero_of_len (Nat.le_zero.1 h)
  subst hg
  rw [gcdN_0]
  refine ⟨mon_dvd f, dvd_zero _, ⟨C (Fd.inv (lead f)), 0, by rw [mul_zero, add_zero]; rfl⟩, ?_⟩
  by_cases hf : f = 0
  ·exact .inl (by rw [hf, mon_zero])
  ·exact .inr (mon_lead hf)
 | n + 1, f, g, h => by
  rw [gcdN_succ]
  split
  ·rename_i hg
   subst hg
   refine ⟨mon_dvd f, dvd_zero _, ⟨C (Fd.inv (lead f)), 0, by rw [mul_zero, add_zero]; rfl⟩, ?_⟩
   by_cases hf : f = 0
   ·exact .inl (by rw [hf, mon_zero])
   ·exact .inr (mon_lead hf)
  ·rename_i hg
   obtain ⟨a, b, ⟨u, v, c⟩, d⟩ := gcdN_is n g (rem f g) (by have := rem_len f hg; omega)
   have he := div_eq f hg
   refine ⟨?_, a, ⟨v, u - v * quo f g, ?_⟩, d⟩
   ·have h0 : gcdN n g (rem f g) ∣ quo f g * g + rem f g := dvd_add (dvd_mul_ofL a _) b
    rwa [← he] at h0
   ·rw [← c]
    have h1 : rem f g = f - quo f g * g := by rw [Rg.add_comm] at he; exact eq_sub_of_add he.symm
    have h2 : v * (quo f g * g) = v * quo f g * g := (Rg.mul_assoc _ _ _).symm
    rw [h1, mul_sub, sub_mul, h2]
    generalize v * quo f g * g = a
    generalize v * f = b
    generalize u * g = c
    simp only [sub_def]
    ac_rfl
theorem gcd_is (f g : Po K) : IsG f g (gcd f g) := gcdN_is _ _ _ (Nat.le_refl _)
theorem gcd_ne {f g : Po K} (h : f ≠ 0 ∨ g ≠ 0) : gcd f g ≠ 0 := fun e => by
 have h1 := (gcd_is f g).left
 have h2 := (gcd_is f g).right
 rw [e] at h1 h2
 rcases h with h | h
 ·exact h (zero_dvd h1)
 ·exact h (zero_dvd h2)
theorem gcd_monic {f g : Po K} (h : f ≠ 0 ∨ g ≠ 0) : lead (gcd f g) = 1 := (gcd_is f g).mon.resolve_left (gcd_ne h)
noncomputable def val (f : Po K) (x : K) : K := sm (len f) (fun i => cf f i * Rg.pow x i)
theorem val_eq {f : Po K} {n : Nat} (h : Sh f n) (x : K) : val f x = sm n (fun i => cf f i * Rg.pow x i) :=
 (sm_more' (len_le h) fun i hi _ => by rw [cf_ge hi, zero_mul]).symm
theorem val_add (f g : Po K) (x : K) : val (f + g) x = val f x + val g x := by
 have h1 := (len_sh f).mono (Nat.le_max_left (len f) (len g))
 have h2 := (len_sh g).mono (Nat.le_max_right (len f) (len g))
 rw [val_eq h1, val_eq h2, val_eq (h1.add h2), ← sm_add]
 exact sm_congr fun i _ => by rw [cf_add, Rg.add_mul]
theorem val_mn (c : K) (n : Nat) (x : K) : val (mn c n) x = c * Rg.pow x n := by
 rw [val_eq (mn_sh c n), sm_one (k := n) (by omega) (fun i hi hne => by rw [cf_mn, if_neg hne, zero_mul]), cf_mn, if_pos rfl]
theorem val_C (c x : K) : val (C c) x = c := by rw [val_mn]; exact Rg.mul_one c
theorem val_zero (x : K) : val (0 : Po K) x = 0 := by rw [← C_zero, val_C]
theorem val_neg (f : Po K) (x : K) : val (-f) x = -val f x := by
 refine add_left_cancel (a := val f x) ?_
 rw [← val_add, Rg.add_neg, Rg.add_neg, val_zero]
theorem val_sub (f g : Po K) (x : K) : val (f - g) x = val f x - val g x := by
 show val (f + -g) x = _
 rw [val_add, val_neg]; rfl
theorem val_mn_mul (c : K) (n : Nat) (f : Po K) (x : K) : val (mn c n * f) x = c * Rg.pow x n * val f x := by
 have h1 : Sh (mn c n * f) (n + len f) := fun j hj => by
  rw [cf_mn_mul, if_neg (by omega), cf_ge (by omega), mul_zero]
 rw [val_eq h1, sm_split, sm_none (fun i hi => by rw [cf_mn_mul, if_pos hi, zero_mul]), Rg.zero_add]
 unfold val
 rw [← sm_mul]
 refine sm_congr fun i hi => ?_
 rw [cf_mn_mul, if_neg (by omega), show n + i - n = i by omega, pow_add]
 ac_rfl
theorem ind {P : Po K → Prop} (h0 : P 0) (h1 : ∀ (c : K) (n : Nat) (f : Po K), P f → P (f + mn c n)) : ∀ f, P f := by
 have key : ∀ (n : Nat) (f : Po K), Sh f n → P f := by
  intro n
  induction n with
  | zero => exact fun f hf => by rw [ext (f := f) (g := 0) (fun j => hf j (by omega))]; exact h0
  | succ n ih =>
   intro f hf
   have h2 : f = (f - mn (cf f n) n) + mn (cf f n) n := (sub_add_cancel _ _).symm
   rw [h2]
   refine h1 _ _ _ (ih _ fun j hj => ?_)
   rw [cf_sub, cf_mn]
   by_cases hjn : j = n
   ·rw [if_pos hjn, hjn, sub_self]
   ·rw [if_neg hjn, hf j (by omega), sub_self]
 exact fun f => key (len f) f (len_sh f)
theorem val_mul (f g : Po K) (x : K) : val (f * g) x = val f x * val g x := by
 induction f using ind with
 | h0 => rw [zero_mul, val_zero, zero_mul]
 | h1 c n f ih => rw [Rg.add_mul, val_add, ih, val_mn_mul, val_add, val_mn, Rg.add_mul]
theorem val_X (x : K) : val X x = x := by rw [val_mn, Rg.one_mul]; exact Rg.pow_one x
def lin (a : K) : Po K := X - C a
theorem lin_sh (a : K) : Sh (lin a) 2 := ((mn_sh 1 1).sub ((mn_sh a 0).mono (by omega)))
theorem cf_lin (a : K) (j : Nat) : cf (lin a) j = if j = 0 then -a else if j = 1 then 1 else 0 := by
 unfold lin
 rw [cf_sub, cf_mn, cf_mn]
 by_cases h0 : j = 0
 ·subst h0; rw [if_neg (by omega), if_pos rfl, if_pos rfl, zero_sub]
 ·rw [if_neg h0, if_neg h0]
  split
  ·rw [Rg.sub_zero]
  ·rw [Rg.sub_zero]
theorem len_lin (a : K) : len (lin a) = 2 := len_eq (lin_sh a) (by rw [cf_lin, if_neg (by omega), if_pos rfl]; exact Fd.one_ne)
theorem lin_ne (a : K) : lin a ≠ 0 := len_pos_iff.1 (by rw [len_lin]; omega)
theorem val_lin (a x : K) : val (lin a) x = x - a := by unfold lin; rw [val_sub, val_X, val_C]
theorem root_iff (f : Po K) (a : K) : val f a = 0 ↔ lin a ∣ f := by
 constructor
 ·intro h
  have h1 := div_eq f (lin_ne a)
  have h2 := rem_len f (lin_ne a)
  rw [len_lin] at h2
  have h3 := len_le_one (f := rem f (lin a)) (by omega)
  have h4 : val f a = cf (rem f (lin a)) 0 := by
   rw [h1, val_add, val_mul, val_lin, sub_self, mul_zero, Rg.zero_add, h3, val_C]
   rw [← h3, ← h1]
  rw [← rem_zero_iff (lin_ne a), h3, ← h4, h, C_zero]
 ·rintro ⟨u, rfl⟩
  rw [val_mul, val_lin, sub_self, zero_mul]
end Po
end Go.Proofs.Ytdkahdehodopoaa

namespace Go.Proofs.Ytdkahdehodopoaa
open Rg
def Vc (K : Type) : Type := Nat → K
namespace Vc
variable {K : Type} [Fd K]
instance : Add (Vc K) := ⟨fun u v j => u j + v j⟩
instance : Zero (Vc K) := ⟨fun _ => 0⟩
instance : Neg (Vc K) := ⟨fun u j => -u j⟩
instance : Sub (Vc K) := ⟨fun u v j => u j - v j⟩
def sc (c : K) (v : Vc K) : Vc K := fun j => c * v j
theorem ext {u v : Vc K} (h : ∀ j, u j = v j) : u = v := funext h
theorem add_at (u v : Vc K) (j : Nat) : (u + v) j = u j + v j := rfl
theorem neg_at (u : Vc K) (j : Nat) : (-u) j = -u j := rfl
theorem add_assoc (u v w : Vc K) : u + v + w = u + (v + w) := ext fun j => Rg.add_assoc _ _ _
theorem add_comm (u v : Vc K) : u + v = v + u := ext fun j => Rg.add_comm _ _
instance : Std.Associative (α := Vc K) (· + ·) := ⟨add_assoc⟩
instance : Std.Commutative (α := Vc K) (· + ·) := ⟨add_comm⟩
theorem add_zero (u : Vc K) : u + 0 = u := ext fun j => Rg.add_zero _
theorem zero_add (u : Vc K) : 0 + u = u := ext fun j => Rg.zero_add _
end Vc
end Go.Proofs.Ytdkahdehodopoaa

namespace Go.Proofs.Ytdkahdehodopoaa
def digs (p : Int) : Nat → Int → List Int
 | 0, _ => []
 | m + 1, x => x % p :: digs p m (x / p)
def vl (p : Int) : List Int → Int
 | [] => 0
 | d :: ds => d + p * vl p ds
theorem digs_length (p : Int) : ∀ (m : Nat) (x : Int), (digs p m x).length = m
 | 0, _ => rfl
 | m + 1, x => by simp [digs, digs_length p m]
def AllIn (p : Int) (l : List Int) : Prop := ∀ c ∈ l, 0 ≤ c ∧ c < p
theorem digs_in {p : Int} (hp : 1 ≤ p) : ∀ (m : Nat) (x : Int), AllIn p (digs p m x)
 | 0, _, c, h => by simp [digs] at h
 | m + 1, x, c, h => by
  simp only [digs, List.mem_cons] at h
  rcases h with rfl | h
  ·exact ⟨Int.emod_nonneg _ (by omega), Int.emod_lt_of_pos _ (by omega)⟩
  ·exact digs_in hp m _ c h
theorem AllIn.get {p : Int} {l : List Int} (hp : 1 ≤ p) (h : AllIn p l) (i : Nat) : 0 ≤ l.getD i 0 ∧ l.getD i 0 < p := by
 by_cases hi : i < l.length
 ·rw [List.getD_eq_getElem?_getD, List.getElem?_eq_getElem hi]
  exact h _ (List.getElem_mem hi)
 ·rw [List.getD_eq_getElem?_getD, List.getElem?_eq_none (by omega)]
  simp; omega
theorem AllIn.set {p : Int} {l : List Int} (h : AllIn p l) {v : Int} (hv : 0 ≤ v ∧ v < p) (i : Nat) : AllIn p (l.set i v) := fun c hc => by
 rcases List.mem_or_eq_of_mem_set hc with h1 | h1
 ·exact h c h1
 ·rw [h1]; exact hv
theorem digs_snoc {p : Int} (hp : 0 ≤ p) : ∀ (k : Nat) (x : Int), digs p (k + 1) x = digs p k x ++ [x / p ^ k % p]
 | 0, x => by simp [digs]
 | k + 1, x => by
  have h := digs_snoc hp k (x / p)
  rw [digs, h, digs]
  simp only [List.cons_append, List.cons.injEq, true_and, List.append_cancel_left_eq, and_true]
  rw [Int.pow_succ, Int.mul_comm, Int.ediv_ediv_of_nonneg hp]
def pw (p k : Int) : Int := p ^ k.toNat
theorem pw_zero (p : Int) : pw p 0 = 1 := by simp [pw]
theorem pw_succ (p : Int) {k : Int} (hk : 0 ≤ k) : pw p (k + 1) = pw p k * p := by
 have : (k + 1).toNat = k.toNat + 1 := by omega
 rw [pw, this, Int.pow_succ]; rfl
theorem pw_pos {p : Int} (hp : 1 ≤ p) (k : Int) : 1 ≤ pw p k := by
 have : 0 < p ^ k.toNat := Int.pow_pos (by omega)
 unfold pw; omega
theorem pw_mono {p : Int} (hp : 1 ≤ p) {a : Int} (ha : 0 ≤ a) : ∀ {b : Int}, a ≤ b → pw p a ≤ pw p b := by
 intro b hab
 obtain ⟨n, rfl⟩ : ∃ n : Nat, b = a + n := ⟨(b - a).toNat, by omega⟩
 clear hab
 induction n with
 | zero => simp
 | succ n ih =>
  rw [show a + ((n + 1 : Nat) : Int) = (a + n) + 1 by omega, pw_succ p (by omega)]
  have h1 := pw_pos hp (a + n)
  have h2 : pw p (a + n) * 1 ≤ pw p (a + n) * p := Int.mul_le_mul_of_nonneg_left hp (by omega)
  rw [Int.mul_one] at h2
  exact Int.le_trans ih h2
def ordI (p m : Int) : Int := if p < 2 ∨ p > 256 ∨ m < 1 ∨ m > 8 ∨ pw p m > 256 then 0 else pw p m
theorem ord_bad {p m k : Int} (hp : 2 ≤ p) (hk : 0 ≤ k) (hkm : k ≤ m) (h : pw p k > 256) : ordI p m = 0 := by
 have := pw_mono (p := p) (by omega) hk hkm
 rw [ordI, if_pos (by omega)]
theorem ord_ok {p m : Int} (hp : 2 ≤ p) (hp2 : p ≤ 256) (hm : 1 ≤ m) (hm2 : m ≤ 8) (h : pw p m ≤ 256) : ordI p m = pw p m := by rw [ordI, if_neg (by omega)]
theorem ord_cases {p m : Int} (h : ordI p m ≠ 0) : 2 ≤ p ∧ p ≤ 256 ∧ 1 ≤ m ∧ m ≤ 8 ∧ pw p m ≤ 256 ∧ ordI p m = pw p m := by
 unfold ordI at h ⊢
 split at h
 ·exact absurd rfl h
 ·rename_i h1
  rw [if_neg h1]
  omega
def IsP (n : Int) : Prop := 2 ≤ n ∧ ∀ d, 2 ≤ d → d < n → n % d ≠ 0
theorem isP_of {n d : Int} (hd : 2 ≤ d) (hn : 2 ≤ n) (h : ∀ e, 2 ≤ e → e < d → n % e ≠ 0) (hdd : n < d * d) : IsP n := ⟨hn, fun e he hen h0 => by
 by_cases hed : e < d
 ·exact h e he hed h0
 ·have h1 := Int.mul_ediv_add_emod n e
  rw [h0, Int.add_zero] at h1
  generalize hk : n / e = k at h1
  have hkd : k < d := by
   refine Int.lt_of_not_ge (fun hkd => ?_)
   have h2 : d * d ≤ e * k := Int.mul_le_mul (by omega) hkd (by omega) (by omega)
   omega
  have hk2 : 2 ≤ k := by
   refine Int.le_of_not_gt (fun hk2 => ?_)
   have h3 : e * k ≤ e * 1 := Int.mul_le_mul_of_nonneg_left (by omega) (by omega)
   omega
  exact h k hk2 hkd (by rw [← h1]; exact Int.mul_emod_left e k)⟩
theorem not_isP {n d : Int} (hd : 2 ≤ d) (hdd : d < n) (h : n % d = 0) : ¬ IsP n := fun hp => hp.2 d hd hdd h
noncomputable def bIsP (n : Int) : Bool := @decide (IsP n) (Classical.propDecidable _)
theorem bIsP_iff (n : Int) : bIsP n = true ↔ IsP n := by unfold bIsP; exact @decide_eq_true_iff _ (Classical.propDecidable _)
theorem bIsP_true {n : Int} (h : IsP n) : bIsP n = true := (bIsP_iff n).2 h
theorem bIsP_false {n : Int} (h : ¬ IsP n) : bIsP n = false := Bool.eq_false_iff.2 (fun h2 => h ((bIsP_iff n).1 h2))
theorem vl_in {p : Int} (hp : 1 ≤ p) : ∀ (l : List Int), AllIn p l → 0 ≤ vl p l ∧ vl p l < p ^ l.length
 | [], _ => by simp [vl]
 | d :: ds, h => by
  have h1 := vl_in hp ds (fun c hc => h c (by simp [hc]))
  have h2 := h d (by simp)
  simp only [vl, List.length_cons, Int.pow_succ]
  have h3 : 0 ≤ p * vl p ds := Int.mul_nonneg (by omega) h1.1
  have h4 : p * (vl p ds + 1) ≤ p * p ^ ds.length := Int.mul_le_mul_of_nonneg_left (by omega) (by omega)
  rw [Int.mul_add, Int.mul_one] at h4
  rw [Int.mul_comm (p ^ ds.length)]
  omega
theorem pw_bd {p : Int} (hp : 1 ≤ p) {k m : Nat} (hk : k ≤ m) : p ^ k ≤ p ^ m := by
 have := pw_mono (p := p) hp (a := (k : Int)) (b := (m : Int)) (by omega) (by omega)
 simpa [pw] using this
theorem drop_getD {l : List Int} {i : Nat} (h : i < l.length) : l.drop i = l.getD i 0 :: l.drop (i + 1) := by
 rw [List.drop_eq_getElem_cons h]
 simp [h]
def hprev (out : List Int) (j : Nat) : Int := if j = 0 then 0 else out.getD (j - 1) 0
def hent (p : Int) (low a out : List Int) (b : Int) (j : Nat) : Int := (hprev out j + (p - out.getD (out.length - 1) 0) * low.getD j 0 + b * a.getD j 0) % p
def hstep (p : Int) (low a out : List Int) (b : Int) : List Int := (List.range out.length).map (hent p low a out b)
def hmulL (p : Int) (low a : List Int) (m : Nat) : List Int → List Int
 | [] => List.replicate m 0
 | b :: bs => hstep p low a (hmulL p low a m bs) b
def mulI (p m : Int) (low : List Int) (x y : Int) : Int := vl p (hmulL p low (digs p m.toNat x) m.toNat (digs p m.toNat y))
theorem hstep_length (p : Int) (low a out : List Int) (b : Int) : (hstep p low a out b).length = out.length := by simp [hstep]
theorem hmulL_length (p : Int) (low a : List Int) (m : Nat) : ∀ (bs : List Int), (hmulL p low a m bs).length = m
 | [] => by simp [hmulL]
 | b :: bs => by rw [hmulL, hstep_length, hmulL_length p low a m bs]
theorem hmulL_in {p : Int} (hp : 1 ≤ p) (low a : List Int) (m : Nat) : ∀ (bs : List Int), AllIn p (hmulL p low a m bs)
 | [], c, hc => by
  have := List.eq_of_mem_replicate hc
  omega
 | b :: bs, c, hc => by
  simp only [hmulL, hstep, List.mem_map] at hc
  obtain ⟨j, _, rfl⟩ := hc
  exact ⟨Int.emod_nonneg _ (by omega), Int.emod_lt_of_pos _ (by omega)⟩
theorem hstep_of {p : Int} {low a out l : List Int} {b : Int} (hl : l.length = out.length) (h : ∀ k, k < out.length → l.getD k 0 = hent p low a out b k) : l = hstep p low a out b := by
 apply List.ext_getElem (by rw [hstep_length, hl])
 intro k h1 h2
 have h3 := h k (by omega)
 rw [List.getD_eq_getElem?_getD, List.getElem?_eq_getElem h1] at h3
 simpa [hstep] using h3
structure Shp (p m : Int) (mod : List Int) : Prop where
 p2 : 2 ≤ p
 p9 : p ≤ 256
 m1 : 1 ≤ m
 m8 : m ≤ 8
 q : pw p m ≤ 256
 low : (m = 1 ∧ mod = []) ∨ (2 ≤ m ∧ (mod.length : Int) = m)
 ent : AllIn p mod
def ShpP (p m : Int) (mod : List Int) : Prop := Shp p m mod ∧ IsP p
noncomputable def bShp (p m : Int) (mod : List Int) : Bool := @decide (ShpP p m mod) (Classical.propDecidable _)
theorem bShp_iff (p m : Int) (mod : List Int) : bShp p m mod = true ↔ ShpP p m mod := by unfold bShp; exact @decide_eq_true_iff _ (Classical.propDecidable _)
theorem bShp_true {p m : Int} {mod : List Int} (h : ShpP p m mod) : bShp p m mod = true := (bShp_iff p m mod).2 h
theorem bShp_false {p m : Int} {mod : List Int} (h : ¬ ShpP p m mod) : bShp p m mod = false := Bool.eq_false_iff.2 (fun h2 => h ((bShp_iff p m mod).1 h2))
theorem Shp.ord {p m : Int} {mod : List Int} (h : Shp p m mod) : ordI p m = pw p m := ord_ok h.p2 h.p9 h.m1 h.m8 h.q
theorem Shp.q2 {p m : Int} {mod : List Int} (h : Shp p m mod) : 2 ≤ pw p m := by
 have hp := h.p2
 have h1 := pw_mono (p := p) (by omega) (a := 1) (b := m) (by omega) h.m1
 have h2 := pw_succ p (k := 0) (by omega)
 rw [pw_zero, Int.zero_add, Int.one_mul] at h2
 omega
theorem not_shp_ord {p m : Int} {mod : List Int} (h : ordI p m = 0) : ¬ ShpP p m mod := fun hs => by
 have h1 := hs.1.ord
 have h2 := hs.1.q2
 omega
def pwI (p m : Int) (mod : List Int) (x : Int) : Nat → Int
 | 0 => 1
 | 1 => x
 | n + 2 => mulI p m mod (pwI p m mod x (n + 1)) x
structure PowOk (p m : Int) (mod : List Int) (x : Int) (l : List Int) : Prop where
 one : 1 ≤ l.length
 get : ∀ i, i < l.length → l.getD i 0 = pwI p m mod x i
 nz : ∀ y ∈ l, 0 < y ∧ y < pw p m
 nodup : l.Nodup
 stop : pwI p m mod x l.length = 0 ∨ pwI p m mod x l.length ∈ l
structure IsGen (p m : Int) (mod : List Int) (x : Int) (l : List Int) : Prop where
 x1 : 1 ≤ x
 x2 : x < pw p m
 pow : PowOk p m mod x l
 len : (l.length : Int) = pw p m - 1
 last : mulI p m mod (l.getD (pw p m - 2).toNat 0) x = 1
def GenR (p m : Int) (mod : List Int) (l : List Int) : Prop := (∃ x, IsGen p m mod x l) ∨ (l = [] ∧ ∀ x, 1 ≤ x → x < pw p m → ∃ l', PowOk p m mod x l' ∧ ¬ ((l'.length : Int) = pw p m - 1 ∧ mulI p m mod (l'.getD (pw p m - 2).toNat 0) x = 1))
theorem nodup_len : ∀ (n : Nat) (l : List Int), l.Nodup → (∀ y ∈ l, 0 < y ∧ y ≤ n) → l.length ≤ n
 | 0, l, _, h => by
  cases l with
  | nil => simp
  | cons a l => have := h a (by simp); omega
 | n + 1, l, hd, h => by
  have h1 := nodup_len n (l.erase ((n + 1 : Nat) : Int)) (hd.erase _) (fun y hy => by
   have h2 := hd.mem_erase_iff.1 hy
   have := h y h2.2
   omega)
  have h2 := List.length_erase (l := l) (a := ((n + 1 : Nat) : Int))
  split at h2 <;> omega
theorem nodup_len' {q : Int} (l : List Int) (hd : l.Nodup) (h : ∀ y ∈ l, 0 < y ∧ y < q) (hq : 1 ≤ q) : (l.length : Int) ≤ q - 1 := by
 have := nodup_len (q - 1).toNat l hd (fun y hy => by have := h y hy; omega)
 omega
theorem mulI_bd {p m : Int} {mod : List Int} (h : Shp p m mod) (x y : Int) : 0 ≤ mulI p m mod x y ∧ mulI p m mod x y < pw p m := by
 have h1 := vl_in (p := p) (by have := h.p2; omega) (hmulL p mod (digs p m.toNat x) m.toNat (digs p m.toNat y)) (hmulL_in (by have := h.p2; omega) _ _ _ _)
 rw [hmulL_length] at h1
 exact h1
structure GOk (g : GfM) (p m : Int) (mod : List Int) : Prop where
 eP : g.P = p
 eM : g.M = m
 emod : g.mod = mod
 shp : ShpP p m mod
 eq : g.q = pw p m
 gen : ∃ x, IsGen p m mod x g.exp
 llen : g.log.length = g.q.toNat
 log0 : g.log.getD 0 0 = 0
 log : ∀ i : Nat, i < g.exp.length → g.log.getD (g.exp.getD i 0).toNat 0 = i
def FldN (p m : Int) (mod : List Int) : Prop := ShpP p m mod ∧ ∃ x l, IsGen p m mod x l
theorem PowOk.unique {p m : Int} {mod : List Int} {x : Int} {l l' : List Int} (h : PowOk p m mod x l) (h' : PowOk p m mod x l') : l = l' := by
 have key : ∀ {l l' : List Int}, PowOk p m mod x l → PowOk p m mod x l' → l.length ≤ l'.length := fun {l l'} h h' => by
  refine Nat.le_of_not_lt (fun hlt => ?_)
  have h1 := h.get l'.length hlt
  have hmem : l.getD l'.length 0 ∈ l := by
   rw [List.getD_eq_getElem?_getD, List.getElem?_eq_getElem hlt]
   exact List.getElem_mem hlt
  rcases h'.stop with h2 | h2
  ·have := (h.nz _ hmem).1
   omega
  ·obtain ⟨i, hi, he⟩ := List.getElem_of_mem h2
   have h3 := h'.get i hi
   rw [List.getD_eq_getElem?_getD, List.getElem?_eq_getElem hi] at h3
   have h4 := h.get i (by omega)
   rw [List.getD_eq_getElem?_getD, List.getElem?_eq_getElem hlt] at h1
   rw [List.getD_eq_getElem?_getD, List.getElem?_eq_getElem (show i < l.length by omega)] at h4
   simp only [Option.getD_some] at h1 h3 h4
   have h5 : l[i]'(by omega) = l[l'.length] := by rw [h4, h1, ← h3, he]
   have h6 := (List.pairwise_iff_getElem.1 h.nodup) i l'.length (by omega) hlt hi
   exact h6 h5
 have hl : l.length = l'.length := Nat.le_antisymm (key h h') (key h' h)
 apply List.ext_getElem hl
 intro i h1 h2
 have h3 := h.get i h1
 have h4 := h'.get i h2
 rw [List.getD_eq_getElem?_getD, List.getElem?_eq_getElem h1] at h3
 rw [List.getD_eq_getElem?_getD, List.getElem?_eq_getElem h2] at h4
 simpa using h3.trans h4.symm
theorem GenR.nil {p m : Int} {mod : List Int} (h : GenR p m mod []) : ¬ ∃ x l, IsGen p m mod x l := fun ⟨x, l, hg⟩ => by
 rcases h with ⟨x', h'⟩ | ⟨_, h'⟩
 ·have := h'.pow.one
  simp at this
 ·obtain ⟨l', h1, h2⟩ := h' x hg.x1 hg.x2
  have := hg.pow.unique h1
  subst this
  exact h2 ⟨hg.len, hg.last⟩
def dent (p : Int) (low r : List Int) (i k : Nat) : Int := if k = i then 0 else if i ≤ k + low.length ∧ k < i then (r.getD k 0 + (p - r.getD i 0) * low.getD (k + low.length - i) 0) % p else r.getD k 0
def dstep (p : Int) (low r : List Int) (i : Nat) : List Int := (List.range r.length).map (dent p low r i)
def dloop (p : Int) (low : List Int) : Nat → List Int → List Int
 | 0, r => r
 | n + 1, r => dloop p low n (dstep p low r (low.length + n))
def divL (p : Int) (low mod : List Int) : List Int := dloop p low (mod.length + 1 - low.length) (mod ++ [1])
def bDiv (p : Int) (low mod : List Int) : Bool := (divL p low mod).all (fun c => c == 0)
theorem dstep_length (p : Int) (low r : List Int) (i : Nat) : (dstep p low r i).length = r.length := by simp [dstep]
theorem dstep_of {p : Int} {low r l : List Int} {i : Nat} (hl : l.length = r.length) (h : ∀ k, k < r.length → l.getD k 0 = dent p low r i k) : l = dstep p low r i := by
 apply List.ext_getElem (by rw [dstep_length, hl])
 intro k h1 h2
 have h3 := h k (by omega)
 rw [List.getD_eq_getElem?_getD, List.getElem?_eq_getElem h1] at h3
 simpa [dstep] using h3
theorem dstep_in {p : Int} (hp : 1 ≤ p) {low r : List Int} {i : Nat} (hr : AllIn p r) : AllIn p (dstep p low r i) := fun c hc => by
 simp only [dstep, List.mem_map] at hc
 obtain ⟨k, _, rfl⟩ := hc
 unfold dent
 split
 ·omega
 ·split
  ·exact ⟨Int.emod_nonneg _ (by omega), Int.emod_lt_of_pos _ (by omega)⟩
  ·exact hr.get hp k
theorem bDiv_false {p : Int} {low mod : List Int} {k : Nat} (h : (divL p low mod).getD k 0 ≠ 0) : bDiv p low mod = false := by
 refine Bool.eq_false_iff.2 (fun h2 => h ?_)
 unfold bDiv at h2
 rw [List.all_eq_true] at h2
 by_cases hk : k < (divL p low mod).length
 ·rw [List.getD_eq_getElem?_getD, List.getElem?_eq_getElem hk]
  simpa using h2 _ (List.getElem_mem hk)
 ·rw [List.getD_eq_getElem?_getD, List.getElem?_eq_none (by omega)]; rfl
theorem bDiv_true {p : Int} {low mod : List Int} (h : ∀ k, k < (divL p low mod).length → (divL p low mod).getD k 0 = 0) : bDiv p low mod = true := by
 unfold bDiv
 rw [List.all_eq_true]
 intro c hc
 obtain ⟨k, hk, rfl⟩ := List.getElem_of_mem hc
 have := h k hk
 rw [List.getD_eq_getElem?_getD, List.getElem?_eq_getElem hk] at this
 simpa using this
def Irr (p : Int) (mod : List Int) : Prop := ∀ d : Nat, 1 ≤ d → 2 * d ≤ mod.length → ∀ v : Int, 0 ≤ v → v < p ^ d → bDiv p (digs p d v) mod = false
noncomputable def bIrr (p : Int) (mod : List Int) : Bool := @decide (Irr p mod) (Classical.propDecidable _)
theorem bIrr_iff (p : Int) (mod : List Int) : bIrr p mod = true ↔ Irr p mod := by unfold bIrr; exact @decide_eq_true_iff _ (Classical.propDecidable _)
theorem bIrr_true {p : Int} {mod : List Int} (h : Irr p mod) : bIrr p mod = true := (bIrr_iff p mod).2 h
theorem bIrr_false {p : Int} {mod : List Int} (h : ¬ Irr p mod) : bIrr p mod = false := Bool.eq_false_iff.2 (fun h2 => h ((bIrr_iff p mod).1 h2))
def FldR (p m : Int) (mod : List Int) : Prop := ShpP p m mod ∧ (m = 1 ∨ Irr p mod)
open Classical in
noncomputable def chkF (p m : Int) (mod : List Int) : Int := if FldR p m mod then 0 else 1
theorem chkF_ok {p m : Int} {mod : List Int} (h : FldR p m mod) : chkF p m mod = 0 := by rw [chkF, if_pos h]
theorem chkF_no {p m : Int} {mod : List Int} (h : ¬ FldR p m mod) : chkF p m mod = 1 := by rw [chkF, if_neg h]
end Go.Proofs.Ytdkahdehodopoaa

set_option maxRecDepth 100000
namespace Go.Proofs.Ytdkahdehodopoaa
open Go.RowKit
theorem fld_digits_ent : Enters Try.prog 101 := enters_of Try.func101 (by kernel_rfl) (by kernel_rfl)
theorem fld_digits (x : Int) (hx : 0 ≤ x) (hx9 : x ≤ 9223372036854775807) (p : Int) (hp : 2 ≤ p) (hp2 : p ≤ 256) (m : Int) (hm : 0 ≤ m) (hm2 : m ≤ 64) :
  Pure Try.prog 101 #[.int .i64 x, .int .i64 p, .int .i64 m] [] (one (fun v ch => ∃ B, v = .slice B m.toNat m.toNat ∧ ch = ow B 3 m.toNat (ints (digs p m.toNat x)))) := by
 have hnn : ((m.toNat : Nat) : Int) = m := by omega
 refine pure_of (args := [.int .i64 x, .int .i64 p, .int .i64 m]) 27 Try.func101 rfl rfl rfl fld_digits_ent trivial (fun w0 => ?_)
 refine tS ?_
 refine tR fun _ _ _ => ?_
 refine pV ?_
 refine tS ?_
 refine tR fun _ _ _ => ?_
 refine pV ?_
 refine eV (eMakeI rfl rfl rfl rfl rfl (by omega) (by omega) (by omega) (fun A1 => ?_))
 refine pV ?_
 refine tS ?_
 refine tS ?_
 refine tR fun _ _ _ => ?_
 refine pV ?_
 refine sV (rLen rfl rfl) ?_
 rw [hnn]
 refine pV ?_
 refine tB ?_
 refine tr_loop3 (fun (k : Int) (x2 : Int) (l : List Int) => [(0, .int .i64 x2), (1, .int .i64 p), (2, .int .i64 m), (7, .slice A1 m.toNat m.toNat), (12, .int .i64 m), (13, .int .i64 k)]) (fun (k : Int) (x2 : Int) (l : List Int) => [ow A1 3 m.toNat (ints l)]) (fun (k : Int) (x2 : Int) (l : List Int) => 0 ≤ k ∧ k ≤ m ∧ (0 ≤ x2 ∧ x2 ≤ 9223372036854775807) ∧ l.length = m.toNat ∧ l.take k.toNat = digs p k.toNat x ∧ x2 = x / p ^ k.toNat) (fun (k : Int) (x2 : Int) (l : List Int) => (m - k).toNat) (0) (x) (List.replicate m.toNat 0) ⟨rfl, rfl, rfl, rfl, rfl, rfl, trivial⟩ (by first | exact cs _ _ | exact CSub.refl _) (⟨by omega, by omega, ⟨by omega, by omega⟩, by simp, by simp [digs], by simp⟩) (fun k x2 l hI => ?_)
 obtain ⟨hk0, hk1, ⟨hx2, hx3⟩, hl, htk, hxe⟩ := hI
 have hq0 := Int.ediv_nonneg hx2 (show 0 ≤ p by omega)
 have hq1 := Int.ediv_le_self p hx2
 refine tS ?_
 refine tR fun _ _ _ => ?_
 refine pV ?_
 refine tS ?_
 refine tC rfl (fun h3 => ?_) (fun h3 => ?_)
 ·try simp only [zbA] at h3
  refine tK ?_
  refine tS ?_
  refine tB ?_
  refine tS ?_
  refine tR fun _ _ _ => ?_
  iterate 2 refine pV ?_
  refine tS ?_
  refine tR fun _ _ _ => ?_
  iterate 4 refine pV ?_
  refine sV (rRem rfl rfl rfl (by omega) (by omega)) ?_
  refine sV (rIdxI rfl rfl rfl (by omega) (by omega) (by omega)) ?_
  refine eV (eStI rfl rfl rfl rfl (by omega) ?_)
  refine tR fun _ _ _ => ?_
  iterate 2 refine pV ?_
  refine sV (rQuo rfl rfl rfl (by omega) (by omega)) ?_
  refine pV ?_
  refine tR fun _ _ _ => ?_
  refine sV (rAdd rfl rfl rfl (by omega) (by omega)) ?_
  refine pV ?_
  refine ⟨k + 1, x2 / p, l.set k.toNat (x2 % p), ⟨rfl, rfl, rfl, rfl, rfl, rfl, trivial⟩, by first | exact cs _ _ | exact CSub.refl _, ?_⟩
  have hkk : (k + 1).toNat = k.toNat + 1 := by omega
  refine ⟨⟨by omega, by omega, ⟨hq0, by omega⟩, by simpa using hl, ?_, ?_⟩, by omega⟩
  ·rw [hkk, digs_snoc (by omega), ← htk, ← hxe, List.take_add_one, List.take_set_of_le (Nat.le_refl _), List.getElem?_set_self (by omega)]
   rfl
  ·rw [hkk, Int.pow_succ, hxe, Int.ediv_ediv_of_nonneg (Int.pow_nonneg (by omega))]
 ·try simp only [zbA] at h3
  refine tE ?_
  refine tS ?_
  refine tR fun _ _ _ => ?_
  iterate 2 refine pV ?_
  have hkm : k = m := by omega
  subst hkm
  rw [List.take_of_length_le (by omega)] at htk
  rw [htk]
  exact tr_ret ⟨trivial, _, _, rfl, ⟨_, rfl, _, rfl, rfl⟩, cs _ _, trivial, trivial⟩
theorem ref_digits_ent : Enters Try.prog 87 := enters_of Try.func87 (by kernel_rfl) (by kernel_rfl)
theorem ref_digits (x : Int) (hx : 0 ≤ x) (hx9 : x ≤ 9223372036854775807) (p : Int) (hp : 2 ≤ p) (hp2 : p ≤ 256) (m : Int) (hm : 0 ≤ m) (hm2 : m ≤ 64) :
  Pure Try.prog 87 #[.int .i64 x, .int .i64 p, .int .i64 m] [] (one (fun v ch => ∃ B, v = .slice B m.toNat m.toNat ∧ ch = ow B 3 m.toNat (ints (digs p m.toNat x)))) := by
 have hnn : ((m.toNat : Nat) : Int) = m := by omega
 refine pure_of (args := [.int .i64 x, .int .i64 p, .int .i64 m]) 26 Try.func87 rfl rfl rfl ref_digits_ent trivial (fun w0 => ?_)
 refine tS ?_
 refine tR fun _ _ _ => ?_
 refine pV ?_
 refine tS ?_
 refine tR fun _ _ _ => ?_
 refine pV ?_
 refine eV (eMakeI rfl rfl rfl rfl rfl (by omega) (by omega) (by omega) (fun A1 => ?_))
 refine pV ?_
 refine tS ?_
 refine tS ?_
 refine tR fun _ _ _ => ?_
 refine pV ?_
 refine tB ?_
 refine tr_loop3 (fun (k : Int) (x2 : Int) (l : List Int) => [(0, .int .i64 x2), (1, .int .i64 p), (2, .int .i64 m), (7, .slice A1 m.toNat m.toNat), (8, .int .i64 k)]) (fun (k : Int) (x2 : Int) (l : List Int) => [ow A1 3 m.toNat (ints l)]) (fun (k : Int) (x2 : Int) (l : List Int) => 0 ≤ k ∧ k ≤ m ∧ (0 ≤ x2 ∧ x2 ≤ 9223372036854775807) ∧ l.length = m.toNat ∧ l.take k.toNat = digs p k.toNat x ∧ x2 = x / p ^ k.toNat) (fun (k : Int) (x2 : Int) (l : List Int) => (m - k).toNat) (0) (x) (List.replicate m.toNat 0) ⟨rfl, rfl, rfl, rfl, rfl, trivial⟩ (by first | exact cs _ _ | exact CSub.refl _) (⟨by omega, by omega, ⟨by omega, by omega⟩, by simp, by simp [digs], by simp⟩) (fun k x2 l hI => ?_)
 obtain ⟨hk0, hk1, ⟨hx2, hx3⟩, hl, htk, hxe⟩ := hI
 have hq0 := Int.ediv_nonneg hx2 (show 0 ≤ p by omega)
 have hq1 := Int.ediv_le_self p hx2
 refine tS ?_
 refine tS ?_
 refine tR fun _ _ _ => ?_
 iterate 3 refine pV ?_
 refine tC rfl (fun h3 => ?_) (fun h3 => ?_)
 ·try simp only [zbA] at h3
  refine tK ?_
  refine tS ?_
  refine tB ?_
  refine tS ?_
  refine tR fun _ _ _ => ?_
  iterate 4 refine pV ?_
  refine sV (rRem rfl rfl rfl (by omega) (by omega)) ?_
  refine sV (rIdxI rfl rfl rfl (by omega) (by omega) (by omega)) ?_
  refine eV (eStI rfl rfl rfl rfl (by omega) ?_)
  refine tR fun _ _ _ => ?_
  iterate 2 refine pV ?_
  refine sV (rQuo rfl rfl rfl (by omega) (by omega)) ?_
  refine pV ?_
  refine tR fun _ _ _ => ?_
  refine pV ?_
  refine sV (rAdd rfl rfl rfl (by omega) (by omega)) ?_
  refine pV ?_
  refine ⟨k + 1, x2 / p, l.set k.toNat (x2 % p), ⟨rfl, rfl, rfl, rfl, rfl, trivial⟩, by first | exact cs _ _ | exact CSub.refl _, ?_⟩
  have hkk : (k + 1).toNat = k.toNat + 1 := by omega
  refine ⟨⟨by omega, by omega, ⟨hq0, by omega⟩, by simpa using hl, ?_, ?_⟩, by omega⟩
  ·rw [hkk, digs_snoc (by omega), ← htk, ← hxe, List.take_add_one, List.take_set_of_le (Nat.le_refl _), List.getElem?_set_self (by omega)]
   rfl
  ·rw [hkk, Int.pow_succ, hxe, Int.ediv_ediv_of_nonneg (Int.pow_nonneg (by omega))]
 ·try simp only [zbA] at h3
  refine tE ?_
  refine tS ?_
  refine tR fun _ _ _ => ?_
  iterate 2 refine pV ?_
  have hkm : k = m := by omega
  subst hkm
  rw [List.take_of_length_le (by omega)] at htk
  rw [htk]
  exact tr_ret ⟨trivial, _, _, rfl, ⟨_, rfl, _, rfl, rfl⟩, cs _ _, trivial, trivial⟩
theorem fld_value_ent : Enters Try.prog 102 := enters_of Try.func102 (by kernel_rfl) (by kernel_rfl)
theorem fld_value (A : Option Addr) (n c : Nat) (d : List Int) (p : Int) (hp : 2 ≤ p) (hp2 : p ≤ 256) (hn : n = d.length) (hn2 : n ≤ 64) (hd : AllIn p d) (hq : p ^ d.length ≤ 256) :
  Pure Try.prog 102 #[.slice A n c, .int .i64 p] [ro A (ints d)] (isV (.int .i64 (vl p d))) := by
 refine pure_of (args := [.slice A n c, .int .i64 p]) 23 Try.func102 rfl rfl rfl fld_value_ent ⟨id, trivial⟩ (fun w0 => ?_)
 refine tS ?_
 refine tR fun _ _ _ => ?_
 refine pV ?_
 refine tS ?_
 refine tR fun _ _ _ => ?_
 refine pV ?_
 refine tS ?_
 refine tS ?_
 refine tR fun _ _ _ => ?_
 refine pV ?_
 refine sV (rLen rfl rfl) ?_
 refine sV (rSub rfl rfl rfl (by omega) (by omega)) ?_
 refine pV ?_
 refine tB ?_
 refine tr_loop2 (fun (i : Int) (s : Int) => [(0, .slice A n c), (1, .int .i64 p), (5, .int .i64 s), (6, .int .i64 i)]) (fun (i : Int) (s : Int) => [ro A (ints d)]) (fun (i : Int) (s : Int) => -1 ≤ i ∧ i < d.length ∧ s = vl p (d.drop (i + 1).toNat)) (fun (i : Int) (s : Int) => (i + 1).toNat) ((n : Int) - 1) (0) ⟨rfl, rfl, rfl, rfl, trivial⟩ (by first | exact cs _ _ | exact CSub.refl _) (⟨by omega, by omega, by rw [List.drop_of_length_le (by omega)]; rfl⟩) (fun i s hI => ?_)
 obtain ⟨hi0, hi1, hs⟩ := hI
 have hv := vl_in (p := p) (by omega) (d.drop (i + 1).toNat) (fun c hc => hd c (List.mem_of_mem_drop hc))
 have hpb := pw_bd (p := p) (by omega) (k := (d.drop (i + 1).toNat).length) (m := d.length) (by simp)
 have hmb := mul_bd0 s p 256 256 (by omega) (by omega) (by omega) (by omega)
 have hgd := hd.get (by omega) i.toNat
 refine tS ?_
 refine tS ?_
 refine tR fun _ _ _ => ?_
 iterate 2 refine pV ?_
 refine tC rfl (fun h3 => ?_) (fun h3 => ?_)
 ·try simp only [zbA] at h3
  refine tK ?_
  refine tS ?_
  refine tB ?_
  refine tR fun _ _ _ => ?_
  iterate 2 refine pV ?_
  refine sV (rMul rfl rfl rfl (by omega) (by omega)) ?_
  iterate 2 refine pV ?_
  refine sV (rIdxI rfl rfl rfl (by omega) (by omega) (by omega)) ?_
  refine sV (rLdI rfl rfl (by omega)) ?_
  refine sV (rAdd rfl rfl rfl (by omega) (by omega)) ?_
  refine pV ?_
  refine tR fun _ _ _ => ?_
  refine pV ?_
  refine sV (rSub rfl rfl rfl (by omega) (by omega)) ?_
  refine pV ?_
  refine ⟨i - 1, s * p + d.getD i.toNat 0, ⟨rfl, rfl, rfl, rfl, trivial⟩, by first | exact cs _ _ | exact CSub.refl _, ?_⟩
  refine ⟨⟨by omega, by omega, ?_⟩, by omega⟩
  rw [show (i - 1 + 1).toNat = i.toNat by omega, drop_getD (show i.toNat < d.length by omega), vl, hs, show (i + 1).toNat = i.toNat + 1 by omega, Int.mul_comm, Int.add_comm]
 ·try simp only [zbA] at h3
  refine tE ?_
  refine tS ?_
  refine tR fun _ _ _ => ?_
  iterate 2 refine pV ?_
  have him : i = -1 := by omega
  subst him
  exact tr_ret ⟨trivial, _, _, rfl, ⟨by rw [hs]; simp, rfl⟩, CSub.nil _, trivial⟩
theorem fld_order_ent : Enters Try.prog 48 := enters_of Try.func48 (by kernel_rfl) (by kernel_rfl)
theorem fld_order (p m : Int) :
  Pure Try.prog 48 #[.int .i64 p, .int .i64 m] [] (isV (.int .i64 (ordI p m))) := by
 refine pure_of (args := [.int .i64 p, .int .i64 m]) 30 Try.func48 rfl rfl rfl fld_order_ent trivial (fun w0 => ?_)
 refine tS ?_
 refine tR fun _ _ _ => ?_
 refine pV ?_
 refine tS ?_
 refine tS ?_
 refine tR fun _ _ _ => ?_
 iterate 3 refine pV ?_
 refine stg rfl rfl rfl rfl rfl (fun hb => by (have hq := hb; try simp only [zbA] at hq); exact rMove rfl rfl) ?_
 refine stg rfl rfl rfl rfl rfl (fun hb => by (have hq := hb; try simp only [zbA] at hq); exact rGtr rfl (evg rfl hb) rfl) ?_
 refine sV (rOrB rfl rfl rfl rfl) ?_
 refine pV ?_
 refine stg rfl rfl rfl rfl rfl (fun hb => by (have hq := hb; try simp only [zbA] at hq); exact rMove rfl rfl) ?_
 refine stg rfl rfl rfl rfl rfl (fun hb => by (have hq := hb; try simp only [zbA] at hq); exact rLss rfl (evg rfl hb) rfl) ?_
 refine sV (rOrB rfl rfl rfl rfl) ?_
 refine pV ?_
 refine stg rfl rfl rfl rfl rfl (fun hb => by (have hq := hb; try simp only [zbA] at hq); exact rMove rfl rfl) ?_
 refine stg rfl rfl rfl rfl rfl (fun hb => by (have hq := hb; try simp only [zbA] at hq); exact rGtr rfl (evg rfl hb) rfl) ?_
 refine sV (rOrB rfl rfl rfl rfl) ?_
 refine tC rfl (fun h1 => ?_) (fun h1 => ?_)
 ·try simp only [zbA] at h1
  refine tS ?_
  refine tR fun _ _ _ => ?_
  refine pV ?_
  exact tr_ret ⟨trivial, _, _, rfl, ⟨by rw [ordI, if_pos (by omega)], rfl⟩, CSub.nil _, trivial⟩
 ·try simp only [zbA] at h1
  refine tK ?_
  refine tS ?_
  refine tR fun _ _ _ => ?_
  refine pV ?_
  refine tS ?_
  refine tS ?_
  refine tR fun _ _ _ => ?_
  iterate 2 refine pV ?_
  refine tB ?_
  refine tr_loop2 (fun (k : Int) (q : Int) => [(0, .int .i64 p), (1, .int .i64 m), (5, .int .i64 q), (20, .int .i64 m), (21, .int .i64 k)]) (fun (k : Int) (q : Int) => []) (fun (k : Int) (q : Int) => 0 ≤ k ∧ k ≤ m ∧ q ≤ 256 ∧ q = pw p k) (fun (k : Int) (q : Int) => (m - k).toNat) (0) (1) ⟨rfl, rfl, rfl, rfl, rfl, trivial⟩ (by first | exact cs _ _ | exact CSub.refl _) (⟨by omega, by omega, by omega, (pw_zero p).symm⟩) (fun k q hI => ?_)
  obtain ⟨hk0, hk1, hk2, hqe⟩ := hI
  have hp1 := pw_pos (p := p) (by omega) k
  have hmb := mul_bd0 q p 256 256 (by omega) (by omega) (by omega) (by omega)
  have hps := pw_succ p hk0
  refine tS ?_
  refine tR fun _ _ _ => ?_
  refine pV ?_
  refine tS ?_
  refine tC rfl (fun h5 => ?_) (fun h5 => ?_)
  ·try simp only [zbA] at h5
   refine tK ?_
   refine tS ?_
   refine tB ?_
   refine tS ?_
   refine tR fun _ _ _ => ?_
   iterate 2 refine pV ?_
   refine sV (rMul rfl rfl rfl (by omega) (by omega)) ?_
   refine pV ?_
   refine tS ?_
   refine tR fun _ _ _ => ?_
   iterate 2 refine pV ?_
   refine tC rfl (fun h7 => ?_) (fun h7 => ?_)
   ·try simp only [zbA] at h7
    refine tS ?_
    refine tR fun _ _ _ => ?_
    refine pV ?_
    exact tr_ret ⟨trivial, _, _, rfl, ⟨by rw [ord_bad (k := k + 1) (by omega) (by omega) (by omega) (by rw [hps, ← hqe]; omega)], rfl⟩, CSub.nil _, trivial⟩
   ·try simp only [zbA] at h7
    refine tK ?_
    refine tR fun _ _ _ => ?_
    refine sV (rAdd rfl rfl rfl (by omega) (by omega)) ?_
    refine pV ?_
    refine ⟨k + 1, q * p, ⟨rfl, rfl, rfl, rfl, rfl, trivial⟩, by first | exact cs _ _ | exact CSub.refl _, ?_⟩
    exact ⟨⟨by omega, by omega, by omega, by rw [hqe, hps]⟩, by omega⟩
  ·try simp only [zbA] at h5
   refine tE ?_
   refine tS ?_
   refine tR fun _ _ _ => ?_
   iterate 2 refine pV ?_
   have hkm : k = m := by omega
   subst hkm
   exact tr_ret ⟨trivial, _, _, rfl, ⟨by rw [ord_ok (by omega) (by omega) (by omega) (by omega) (by omega), hqe], rfl⟩, CSub.nil _, trivial⟩
theorem fld_isPrime_ent : Enters Try.prog 80 := enters_of Try.func80 (by kernel_rfl) (by kernel_rfl)
theorem fld_isPrime (n : Int) (hn : n ≤ 1000000) :
  Pure Try.prog 80 #[.int .i64 n] [] (isV (.bool (bIsP n))) := by
 refine pure_of (args := [.int .i64 n]) 17 Try.func80 rfl rfl rfl fld_isPrime_ent trivial (fun w0 => ?_)
 refine tS ?_
 refine tR fun _ _ _ => ?_
 refine pV ?_
 refine tS ?_
 refine tS ?_
 refine tR fun _ _ _ => ?_
 refine pV ?_
 refine tB ?_
 refine tr_loop1 (fun (d : Int) => [(0, .int .i64 n), (3, .int .i64 d)]) (fun (d : Int) => []) (fun (d : Int) => 2 ≤ d ∧ d ≤ 1000001 ∧ ∀ e, 2 ≤ e → e < d → n % e ≠ 0) (fun (d : Int) => (n + 1 - d).toNat) (2) ⟨rfl, rfl, trivial⟩ (by first | exact cs _ _ | exact CSub.refl _) (⟨by omega, by omega, fun e _ _ => by omega⟩) (fun d hI => ?_)
 obtain ⟨hd0, hd1, hd2⟩ := hI
 have hmb := mul_bd0 d d 1000001 1000001 (by omega) (by omega) (by omega) (by omega)
 have hdl : d * 2 ≤ d * d := Int.mul_le_mul_of_nonneg_left hd0 (by omega)
 refine tS ?_
 refine tS ?_
 refine tR fun _ _ _ => ?_
 iterate 2 refine pV ?_
 refine sV (rMul rfl rfl rfl (by omega) (by omega)) ?_
 iterate 2 refine pV ?_
 refine tC rfl (fun h2 => ?_) (fun h2 => ?_)
 ·try simp only [zbA] at h2
  refine tK ?_
  refine tS ?_
  refine tB ?_
  refine tS ?_
  refine tR fun _ _ _ => ?_
  iterate 2 refine pV ?_
  refine sV (rRem rfl rfl rfl (by omega) (by omega)) ?_
  refine pV ?_
  refine tC rfl (fun h4 => ?_) (fun h4 => ?_)
  ·try simp only [zbA] at h4
   refine tS ?_
   refine tR fun _ _ _ => ?_
   refine pV ?_
   exact tr_ret ⟨trivial, _, _, rfl, ⟨by rw [bIsP_false (not_isP hd0 (by omega) h4)], rfl⟩, CSub.nil _, trivial⟩
  ·try simp only [zbA] at h4
   refine tK ?_
   refine tR fun _ _ _ => ?_
   refine pV ?_
   refine sV (rAdd rfl rfl rfl (by omega) (by omega)) ?_
   refine pV ?_
   refine ⟨d + 1, ⟨rfl, rfl, trivial⟩, by first | exact cs _ _ | exact CSub.refl _, ?_⟩
   exact ⟨⟨by omega, by omega, fun e e0 e1 => by
    by_cases he : e = d
    ·subst he; exact h4
    ·exact hd2 e e0 (by omega)⟩, by omega⟩
 ·try simp only [zbA] at h2
  refine tE ?_
  refine tS ?_
  refine tR fun _ _ _ => ?_
  iterate 3 refine pV ?_
  have hb : decide (n ≥ 2) = bIsP n := by
   by_cases h : n ≥ 2
   ·rw [bIsP_true (isP_of hd0 h hd2 (by omega)), decide_eq_true h]
   ·rw [bIsP_false (fun h2 => h h2.1), decide_eq_false h]
  exact tr_ret ⟨trivial, _, _, rfl, ⟨by rw [hb], rfl⟩, CSub.nil _, trivial⟩
theorem ref_prime_ent : Enters Try.prog 53 := enters_of Try.func53 (by kernel_rfl) (by kernel_rfl)
theorem ref_prime (n : Int) (hn0 : 2 ≤ n) (hn : n ≤ 1000000) :
  Pure Try.prog 53 #[.int .i64 n] [] (isV (.bool (bIsP n))) := by
 refine pure_of (args := [.int .i64 n]) 13 Try.func53 rfl rfl rfl ref_prime_ent trivial (fun w0 => ?_)
 refine tS ?_
 refine tR fun _ _ _ => ?_
 refine pV ?_
 refine tS ?_
 refine tS ?_
 refine tR fun _ _ _ => ?_
 refine pV ?_
 refine tB ?_
 refine tr_loop1 (fun (d : Int) => [(0, .int .i64 n), (3, .int .i64 d)]) (fun (d : Int) => []) (fun (d : Int) => 2 ≤ d ∧ d ≤ n ∧ ∀ e, 2 ≤ e → e < d → n % e ≠ 0) (fun (d : Int) => (n + 1 - d).toNat) (2) ⟨rfl, rfl, trivial⟩ (by first | exact cs _ _ | exact CSub.refl _) (⟨by omega, by omega, fun e _ _ => by omega⟩) (fun d hI => ?_)
 obtain ⟨hd0, hd1, hd2⟩ := hI
 refine tS ?_
 refine tS ?_
 refine tR fun _ _ _ => ?_
 iterate 3 refine pV ?_
 refine tC rfl (fun h2 => ?_) (fun h2 => ?_)
 ·try simp only [zbA] at h2
  refine tK ?_
  refine tS ?_
  refine tB ?_
  refine tS ?_
  refine tR fun _ _ _ => ?_
  iterate 2 refine pV ?_
  refine sV (rRem rfl rfl rfl (by omega) (by omega)) ?_
  refine pV ?_
  refine tC rfl (fun h4 => ?_) (fun h4 => ?_)
  ·try simp only [zbA] at h4
   refine tS ?_
   refine tR fun _ _ _ => ?_
   refine pV ?_
   exact tr_ret ⟨trivial, _, _, rfl, ⟨by rw [bIsP_false (not_isP hd0 (by omega) h4)], rfl⟩, CSub.nil _, trivial⟩
  ·try simp only [zbA] at h4
   refine tK ?_
   refine tR fun _ _ _ => ?_
   refine pV ?_
   refine sV (rAdd rfl rfl rfl (by omega) (by omega)) ?_
   refine pV ?_
   refine ⟨d + 1, ⟨rfl, rfl, trivial⟩, by first | exact cs _ _ | exact CSub.refl _, ?_⟩
   exact ⟨⟨by omega, by omega, fun e e0 e1 => by
    by_cases he : e = d
    ·subst he; exact h4
    ·exact hd2 e e0 (by omega)⟩, by omega⟩
 ·try simp only [zbA] at h2
  refine tE ?_
  refine tS ?_
  refine tR fun _ _ _ => ?_
  refine pV ?_
  exact tr_ret ⟨trivial, _, _, rfl, ⟨by rw [bIsP_true ⟨hn0, fun e e0 e1 => hd2 e e0 (by omega)⟩], rfl⟩, CSub.nil _, trivial⟩
theorem ref_order_ent : Enters Try.prog 11 := enters_of Try.func11 (by kernel_rfl) (by kernel_rfl)
theorem ref_order (p m : Int) (A : Option Addr) (c : Nat) (mod : List Int) :
  Pure Try.prog 11 #[.agg #[.int .i64 p, .int .i64 m, .slice A mod.length c]] [ro A (ints mod)] (isV (.int .i64 (ordI p m))) := by
 refine pure_of (args := [.agg #[.int .i64 p, .int .i64 m, .slice A mod.length c]]) 34 Try.func11 rfl rfl rfl ref_order_ent ⟨id, trivial⟩ (fun w0 => ?_)
 refine tS ?_
 refine tR fun _ _ _ => ?_
 refine eV (eBox rfl rfl rfl rfl rfl (fun p0 => ?_))
 refine pV ?_
 refine tS ?_
 refine tS ?_
 refine tR fun _ _ _ => ?_
 refine sV (rFld rfl rfl) ?_
 refine sV (rLdF rfl rfl rfl) ?_
 iterate 2 refine pV ?_
 refine stg rfl rfl rfl rfl rfl (fun hb => by (have hq := hb; try simp only [zbA] at hq); exact rFld rfl rfl) ?_
 refine stg rfl rfl rfl rfl rfl (fun hb => by (have hq := hb; try simp only [zbA] at hq); exact rLdF rfl (evg rfl hb) rfl) ?_
 refine stg rfl rfl rfl rfl rfl (fun hb => by (have hq := hb; try simp only [zbA] at hq); exact rLss rfl (evg rfl hb) rfl) ?_
 refine sV (rOrB rfl rfl rfl rfl) ?_
 refine pV ?_
 refine stg rfl rfl rfl rfl rfl (fun hb => by (have hq := hb; try simp only [zbA] at hq); exact rFld rfl rfl) ?_
 refine stg rfl rfl rfl rfl rfl (fun hb => by (have hq := hb; try simp only [zbA] at hq); exact rLdF rfl (evg rfl hb) rfl) ?_
 refine stg rfl rfl rfl rfl rfl (fun hb => by (have hq := hb; try simp only [zbA] at hq); exact rGtr rfl (evg rfl hb) rfl) ?_
 refine sV (rOrB rfl rfl rfl rfl) ?_
 refine tC rfl (fun h1 => ?_) (fun h1 => ?_)
 ·try simp only [zbA] at h1
  refine tS ?_
  refine tR fun _ _ _ => ?_
  refine pV ?_
  exact tr_ret ⟨trivial, _, _, rfl, ⟨by rw [ordI, if_pos (by omega)], rfl⟩, CSub.nil _, trivial⟩
 ·try simp only [zbA] at h1
  refine tK ?_
  refine tS ?_
  refine tR fun _ _ _ => ?_
  refine pV ?_
  refine tS ?_
  refine tS ?_
  refine tR fun _ _ _ => ?_
  refine pV ?_
  refine tB ?_
  refine tr_loop2 (fun (k : Int) (q : Int) => [(1, .pointer (some p0)), (3, .int .i64 q), (4, .int .i64 k)]) (fun (k : Int) (q : Int) => [blk p0 24 [.int .i64 p, .int .i64 m, .slice A mod.length c]]) (fun (k : Int) (q : Int) => (0 ≤ k ∧ k ≤ m) ∧ q ≤ 256 ∧ q = pw p k ∧ (p > 256 → k = 0)) (fun (k : Int) (q : Int) => (m - k).toNat) (0) (1) ⟨rfl, rfl, rfl, trivial⟩ (by first | exact cs _ _ | exact CSub.refl _) (⟨⟨by omega, by omega⟩, by omega, (pw_zero p).symm, fun _ => rfl⟩) (fun k q hI => ?_)
  obtain ⟨⟨hk0, hk1⟩, hk2, hqe, hpk⟩ := hI
  have hp1 := pw_pos (p := p) (by omega) k
  have hps := pw_succ p hk0
  have hdiv := Int.ediv_lt_iff_lt_mul (a := 256) (b := q) (c := p) (by omega)
  have hqp : q * p = pw p (k + 1) := by rw [hqe, hps]
  rw [hqp] at hdiv
  refine tS ?_
  refine tS ?_
  refine tR fun _ _ _ => ?_
  refine pV ?_
  refine sV (rFld rfl rfl) ?_
  refine sV (rLdF rfl rfl rfl) ?_
  refine pV ?_
  refine tC rfl (fun h5 => ?_) (fun h5 => ?_)
  ·try simp only [zbA] at h5
   refine tK ?_
   refine tS ?_
   refine tB ?_
   refine tS ?_
   refine tS ?_
   refine tR fun _ _ _ => ?_
   refine pV ?_
   refine sV (rFld rfl rfl) ?_
   refine sV (rLdF rfl rfl rfl) ?_
   refine sV (rQuo rfl rfl rfl (by omega) (by omega)) ?_
   refine pV ?_
   refine tC rfl (fun h7 => ?_) (fun h7 => ?_)
   ·try simp only [zbA] at h7
    refine tS ?_
    refine tR fun _ _ _ => ?_
    refine pV ?_
    exact tr_ret ⟨trivial, _, _, rfl, ⟨by rw [ord_bad (k := k + 1) (by omega) (by omega) (by omega) (by omega)], rfl⟩, CSub.nil _, trivial⟩
   ·try simp only [zbA] at h7
    refine tK ?_
    have hqpn : 0 ≤ q * p := Int.mul_nonneg (by omega) (by omega)
    refine tR fun _ _ _ => ?_
    refine pV ?_
    refine sV (rFld rfl rfl) ?_
    refine sV (rLdF rfl rfl rfl) ?_
    refine sV (rMul rfl rfl rfl (by omega) (by omega)) ?_
    refine pV ?_
    refine tR fun _ _ _ => ?_
    refine pV ?_
    refine sV (rAdd rfl rfl rfl (by omega) (by omega)) ?_
    refine pV ?_
    refine ⟨k + 1, q * p, ⟨rfl, rfl, rfl, trivial⟩, by first | exact cs _ _ | exact CSub.refl _, ?_⟩
    exact ⟨⟨⟨by omega, by omega⟩, by rw [hqe, ← hps]; omega, by rw [hqe, hps], fun h => by
     have h1 := pw_mono (p := p) (by omega) (a := 1) (b := k + 1) (by omega) (by omega)
     have h2 := pw_succ p (k := 0) (by omega)
     rw [pw_zero, Int.zero_add, Int.one_mul] at h2
     omega⟩, by omega⟩
  ·try simp only [zbA] at h5
   refine tE ?_
   refine tS ?_
   refine tR fun _ _ _ => ?_
   iterate 2 refine pV ?_
   have hkm : k = m := by omega
   subst hkm
   exact tr_ret ⟨trivial, _, _, rfl, ⟨by rw [ord_ok (by omega) (by omega) (by omega) (by omega) (by omega), hqe], rfl⟩, CSub.nil _, trivial⟩
end Go.Proofs.Ytdkahdehodopoaa

set_option maxRecDepth 100000
namespace Go.Proofs.Ytdkahdehodopoaa
open Go.RowKit
theorem fld_mul_ent : Enters Try.prog 82 := enters_of Try.func82 (by kernel_rfl) (by kernel_rfl)
theorem fld_mul (p m : Int) (A : Option Addr) (c : Nat) (mod : List Int) (hs : Shp p m mod) (x y : Int) (hx : 0 ≤ x) (hx9 : x ≤ 256) (hy : 0 ≤ y) (hy9 : y ≤ 256) :
  Pure Try.prog 82 #[.agg #[.int .i64 p, .int .i64 m, .slice A mod.length c], .int .i64 x, .int .i64 y] [ro A (ints mod)] (isV (.int .i64 (mulI p m mod x y))) := by
 have hnn : ((m.toNat : Nat) : Int) = m := by have := hs.m1; omega
 have hp2 := hs.p2
 have hp9 := hs.p9
 have hm1 := hs.m1
 have hm8 := hs.m8
 have hqq := hs.q
 have hlow := hs.low
 have hdx := digs_length p m.toNat x
 have hdy := digs_length p m.toNat y
 have hdxi := digs_in (p := p) (by omega) m.toNat x
 have hdyi := digs_in (p := p) (by omega) m.toNat y
 have hmi := hs.ent
 refine pure_of (args := [.agg #[.int .i64 p, .int .i64 m, .slice A mod.length c], .int .i64 x, .int .i64 y]) 97 Try.func82 rfl rfl rfl fld_mul_ent ⟨id, trivial⟩ (fun w0 => ?_)
 refine tS ?_
 refine tR fun _ _ _ => ?_
 refine eV (eBox rfl rfl rfl rfl rfl (fun p0 => ?_))
 refine pV ?_
 refine tS ?_
 refine tr_draw [0, 1, 2, 3, 4, 6, 7, 8, 9, 10, 5, 11, 12, 13] [] mixed (by kernel_rfl) fun _ _ _ => ?_
 refine pV ?_
 refine sV (rFld rfl rfl) ?_
 refine sV (rLdF rfl rfl rfl) ?_
 refine sV (rFld rfl rfl) ?_
 refine sV (rLdF rfl rfl rfl) ?_
 refine pV ?_
 refine sV (rFld rfl rfl) ?_
 refine sV (rLdF rfl rfl rfl) ?_
 refine sV (rFld rfl rfl) ?_
 refine sV (rLdF rfl rfl rfl) ?_
 refine eV (eCall1 rfl rfl rfl (fld_digits _ (by omega) (by omega) _ (by omega) (by omega) _ (by omega) (by omega)) ⟨rfl, rfl, rfl, trivial⟩ ?_)
 rintro _ _ ⟨B1, rfl, rfl⟩
 refine eV (eCall1 rfl rfl rfl (fld_digits _ (by omega) (by omega) _ (by omega) (by omega) _ (by omega) (by omega)) ⟨rfl, rfl, rfl, trivial⟩ ?_)
 rintro _ _ ⟨B1a, rfl, rfl⟩
 iterate 2 refine pV ?_
 refine tS ?_
 refine tR fun _ _ _ => ?_
 refine sV (rFld rfl rfl) ?_
 refine sV (rLdF rfl rfl rfl) ?_
 refine eV (eMakeI rfl rfl rfl rfl rfl (by omega) (by omega) (by omega) (fun A2 => ?_))
 refine pV ?_
 refine tS ?_
 refine tS ?_
 refine tR fun _ _ _ => ?_
 refine sV (rFld rfl rfl) ?_
 refine sV (rLdF rfl rfl rfl) ?_
 refine sV (rSub rfl rfl rfl (by omega) (by omega)) ?_
 refine pV ?_
 refine tB ?_
 refine tr_loop2 (fun (i : Int) (o : List Int) => [(3, .pointer (some p0)), (7, .slice B1 m.toNat m.toNat), (8, .slice B1a m.toNat m.toNat), (9, .slice A2 m.toNat m.toNat), (10, .int .i64 i)]) (fun (i : Int) (o : List Int) => [ow A2 3 m.toNat (ints o), ow B1a 3 m.toNat (ints (digs p m.toNat y)), ow B1 3 m.toNat (ints (digs p m.toNat x)), blk p0 24 [.int .i64 p, .int .i64 m, .slice A mod.length c], ro A (ints mod)]) (fun (i : Int) (o : List Int) => -1 ≤ i ∧ i < m ∧ o = hmulL p mod (digs p m.toNat x) m.toNat ((digs p m.toNat y).drop (i + 1).toNat)) (fun (i : Int) (o : List Int) => (i + 1).toNat) (m - 1) (List.replicate m.toNat 0) ⟨rfl, rfl, rfl, rfl, rfl, trivial⟩ (by first | exact cs _ _ | exact CSub.refl _) (⟨by omega, by omega, by rw [List.drop_of_length_le (by omega)]; rfl⟩) (fun i o hI => ?_)
 obtain ⟨hi0, hi1, ho⟩ := hI
 have hol : o.length = m.toNat := by rw [ho, hmulL_length]
 have hoi : AllIn p o := by rw [ho]; exact hmulL_in (by omega) _ _ _ _
 refine tS ?_
 refine tS ?_
 refine tR fun _ _ _ => ?_
 iterate 2 refine pV ?_
 refine tC rfl (fun h4 => ?_) (fun h4 => ?_)
 ·try simp only [zbA] at h4
  refine tK ?_
  refine tS ?_
  refine tB ?_
  refine tS ?_
  refine tR fun _ _ _ => ?_
  refine pV ?_
  refine sV (rFld rfl rfl) ?_
  refine sV (rLdF rfl rfl rfl) ?_
  refine sV (rSub rfl rfl rfl (by omega) (by omega)) ?_
  refine sV (rIdxI rfl rfl rfl (by omega) (by omega) (by omega)) ?_
  refine sV (rLdI rfl rfl (by omega)) ?_
  refine pV ?_
  refine tS ?_
  refine tr_draw [0, 1, 2, 3, 4, 5, 6] [7] mixed (by kernel_rfl) fun _ _ _ => ?_
  refine pV ?_
  refine sV (rCut rfl rfl rfl (by omega) (by omega) (by omega)) ?_
  refine pV ?_
  refine sV (rFld rfl rfl) ?_
  refine sV (rLdF rfl rfl rfl) ?_
  refine sV (rSub rfl rfl rfl (by omega) (by omega)) ?_
  refine sV (rCutHi rfl rfl rfl (by omega) (by omega)) ?_
  refine eV (eCopyI rfl rfl rfl rfl rfl rfl (by first | omega | (simp; omega)) (by first | omega | (simp; omega)) ?_)
  have h1n : ((1 : Int)).toNat = 1 := rfl
  have hcp : o.take ((1 : Int)).toNat ++ o.take (min (m - 1).toNat (m.toNat - ((1 : Int)).toNat)) ++ o.drop (((1 : Int)).toNat + min (m - 1).toNat (m.toNat - ((1 : Int)).toNat)) = o.take 1 ++ o.take (m.toNat - 1) := by
   rw [h1n, show min (m - 1).toNat (m.toNat - 1) = m.toNat - 1 by omega, List.drop_of_length_le (by omega), List.append_nil]
  have hcl : (o.take 1 ++ o.take (m.toNat - 1)).length = m.toNat := by simp; omega
  have hcopy : ∀ k : Nat, k < m.toNat → ((o.take 1 ++ o.take (m.toNat - 1)).set 0 0).getD k 0 = hprev o k := fun k hk => by
   rw [getD_set]
   unfold hprev
   by_cases hk0 : k = 0
   ·subst hk0; rw [if_pos ⟨rfl, by omega⟩, if_pos rfl]
   ·rw [if_neg (by omega), if_neg hk0, List.getD_eq_getElem?_getD, List.getElem?_append_right (by simp; omega), List.getElem?_take, if_pos (by simp; omega), List.getD_eq_getElem?_getD]
    simp
    rw [show k - min 1 o.length = k - 1 by omega]
  rw [hcp]
  refine tS ?_
  refine tR fun _ _ _ => ?_
  refine pV ?_
  refine sV (rIdxI rfl rfl rfl (by omega) (by omega) (by omega)) ?_
  refine eV (eStI rfl rfl rfl rfl (by omega) ?_)
  refine tS ?_
  refine tR fun _ _ _ => ?_
  refine pV ?_
  refine sV (rLen rfl rfl) ?_
  rw [hnn]
  refine pV ?_
  refine tB ?_
  refine tr_loop2 (fun (j : Int) (l : List Int) => [(3, .pointer (some p0)), (7, .slice B1 m.toNat m.toNat), (8, .slice B1a m.toNat m.toNat), (9, .slice A2 m.toNat m.toNat), (10, .int .i64 i), (11, .int .i64 (o.getD (m - 1).toNat 0)), (53, .int .i64 m), (54, .int .i64 j)]) (fun (j : Int) (l : List Int) => [ow A2 3 m.toNat (ints l), ow B1a 3 m.toNat (ints (digs p m.toNat y)), ow B1 3 m.toNat (ints (digs p m.toNat x)), blk p0 24 [.int .i64 p, .int .i64 m, .slice A mod.length c], ro A (ints mod)]) (fun (j : Int) (l : List Int) => 0 ≤ j ∧ j ≤ m ∧ l.length = m.toNat ∧ (∀ k : Nat, (k : Int) < j → k < m.toNat → l.getD k 0 = hent p mod (digs p m.toNat x) o ((digs p m.toNat y).getD i.toNat 0) k) ∧ ∀ k : Nat, j ≤ k → k < m.toNat → l.getD k 0 = hprev o k) (fun (j : Int) (l : List Int) => (m - j).toNat) (0) ((o.take 1 ++ o.take (m.toNat - 1)).set 0 0) ⟨rfl, rfl, rfl, rfl, rfl, rfl, rfl, rfl, trivial⟩ (by first | exact cs _ _ | exact CSub.refl _) (⟨by omega, by omega, by simp; omega, fun k k0 k1 => by omega, fun k k0 k1 => hcopy k k1⟩) (fun j l hI => ?_)
  obtain ⟨hj0, hj1, hl, hdone, htodo⟩ := hI
  have htop := hoi.get (by omega) (m - 1).toNat
  have hg1 := hmi.get (by omega) j.toNat
  have hg2 := hdxi.get (by omega) j.toNat
  have hg3 := hdyi.get (by omega) i.toNat
  have hmb1 := mul_bd0 (p - o.getD (m - 1).toNat 0) (mod.getD j.toNat 0) 256 256 (by omega) (by omega) (by omega) (by omega)
  have hmb2 := mul_bd0 ((digs p m.toNat y).getD i.toNat 0) ((digs p m.toNat x).getD j.toNat 0) 256 256 (by omega) (by omega) (by omega) (by omega)
  have hg4 : j < m → l.getD j.toNat 0 = hprev o j.toNat := fun h => htodo j.toNat (by omega) (by omega)
  have hg5 : 0 ≤ hprev o j.toNat ∧ hprev o j.toNat < p := by
   unfold hprev; split
   ·omega
   ·exact hoi.get (by omega) _
  have hent0 : hent p mod (digs p m.toNat x) o ((digs p m.toNat y).getD i.toNat 0) j.toNat = (hprev o j.toNat + (p - o.getD (m - 1).toNat 0) * mod.getD j.toNat 0 + (digs p m.toNat y).getD i.toNat 0 * (digs p m.toNat x).getD j.toNat 0) % p := by
   unfold hent; rw [hol, show m.toNat - 1 = (m - 1).toNat by omega]
  have hm10 : m = 1 → mod.getD j.toNat 0 = 0 := fun h => by
   rcases hlow with h1 | h1
   ·rw [h1.2]; rfl
   ·omega
  refine tS ?_
  refine tR fun _ _ _ => ?_
  refine pV ?_
  refine tS ?_
  refine tC rfl (fun h10 => ?_) (fun h10 => ?_)
  ·try simp only [zbA] at h10
   refine tK ?_
   refine tS ?_
   refine tB ?_
   refine tS ?_
   refine tR fun _ _ _ => ?_
   iterate 2 refine pV ?_
   refine tS ?_
   refine tR fun _ _ _ => ?_
   refine pV ?_
   refine tS ?_
   refine tS ?_
   refine tR fun _ _ _ => ?_
   refine sV (rFld rfl rfl) ?_
   refine sV (rLdF rfl rfl rfl) ?_
   refine pV ?_
   refine tC rfl (fun h13 => ?_) (fun h13 => ?_)
   ·try simp only [zbA] at h13
    refine tR fun _ _ _ => ?_
    refine sV (rFld rfl rfl) ?_
    refine sV (rLdF rfl rfl rfl) ?_
    refine pV ?_
    refine sV (rIdxI rfl rfl rfl (by omega) (by omega) (by omega)) ?_
    refine sV (rLdI rfl rfl (by omega)) ?_
    refine pV ?_
    refine tr_draw [0, 1, 2, 3, 4, 5, 6, 7, 8, 9, 10, 11, 12, 13, 14, 15, 16, 17, 18, 19, 20, 21, 22, 23, 24, 25, 26] [27] mixed (by kernel_rfl) fun _ _ _ => ?_
    iterate 4 refine pV ?_
    refine sV (rIdxI rfl rfl rfl (by omega) (by omega) (by omega)) ?_
    refine sV (rLdI rfl rfl (by omega)) ?_
    refine sV (rFld rfl rfl) ?_
    refine sV (rLdF rfl rfl rfl) ?_
    refine pV ?_
    refine sV (rSub rfl rfl rfl (by omega) (by omega)) ?_
    refine pV ?_
    refine sV (rMul rfl rfl rfl (by omega) (by omega)) ?_
    refine sV (rAdd rfl rfl rfl (by omega) (by omega)) ?_
    iterate 2 refine pV ?_
    refine sV (rIdxI rfl rfl rfl (by omega) (by omega) (by omega)) ?_
    refine sV (rLdI rfl rfl (by omega)) ?_
    iterate 2 refine pV ?_
    refine sV (rIdxI rfl rfl rfl (by omega) (by omega) (by omega)) ?_
    refine sV (rLdI rfl rfl (by omega)) ?_
    refine sV (rMul rfl rfl rfl (by omega) (by omega)) ?_
    refine sV (rAdd rfl rfl rfl (by omega) (by omega)) ?_
    refine sV (rFld rfl rfl) ?_
    refine sV (rLdF rfl rfl rfl) ?_
    refine sV (rRem rfl rfl rfl (by omega) (by omega)) ?_
    refine sV (rIdxI rfl rfl rfl (by omega) (by omega) (by omega)) ?_
    refine eV (eStI rfl rfl rfl rfl (by omega) ?_)
    refine tR fun _ _ _ => ?_
    refine sV (rAdd rfl rfl rfl (by omega) (by omega)) ?_
    refine pV ?_
    refine ⟨j + 1, l.set j.toNat ((l.getD j.toNat 0 + (p - o.getD (m - 1).toNat 0) * mod.getD j.toNat 0 + (digs p m.toNat y).getD i.toNat 0 * (digs p m.toNat x).getD j.toNat 0) % p), ⟨rfl, rfl, rfl, rfl, rfl, rfl, rfl, rfl, trivial⟩, by first | exact cs _ _ | exact CSub.refl _, ?_⟩
    have hval : (l.getD j.toNat 0 + (p - o.getD (m - 1).toNat 0) * mod.getD j.toNat 0 + (digs p m.toNat y).getD i.toNat 0 * (digs p m.toNat x).getD j.toNat 0) % p = hent p mod (digs p m.toNat x) o ((digs p m.toNat y).getD i.toNat 0) j.toNat := by rw [hent0, hg4 h10]
    rw [hval]
    exact ⟨⟨by omega, by omega, by simpa using hl, fun k k0 k1 => by
     rw [getD_set]
     by_cases hkj : j.toNat = k
     ·subst hkj; rw [if_pos ⟨rfl, by omega⟩]
     ·rw [if_neg (by omega)]; exact hdone k (by omega) k1, fun k k0 k1 => by
     rw [getD_set, if_neg (by omega)]; exact htodo k (by omega) k1⟩, by omega⟩
   ·try simp only [zbA] at h13
    refine tK ?_
    refine tr_draw [0, 1, 2, 3, 4, 5, 6, 7, 8, 9, 10, 11, 12, 13, 14, 15, 16, 17, 18, 19, 20, 21, 22, 23, 24, 25, 26] [27] mixed (by kernel_rfl) fun _ _ _ => ?_
    iterate 4 refine pV ?_
    refine sV (rIdxI rfl rfl rfl (by omega) (by omega) (by omega)) ?_
    refine sV (rLdI rfl rfl (by omega)) ?_
    refine sV (rFld rfl rfl) ?_
    refine sV (rLdF rfl rfl rfl) ?_
    refine pV ?_
    refine sV (rSub rfl rfl rfl (by omega) (by omega)) ?_
    refine pV ?_
    refine sV (rMul rfl rfl rfl (by omega) (by omega)) ?_
    refine sV (rAdd rfl rfl rfl (by omega) (by omega)) ?_
    iterate 2 refine pV ?_
    refine sV (rIdxI rfl rfl rfl (by omega) (by omega) (by omega)) ?_
    refine sV (rLdI rfl rfl (by omega)) ?_
    iterate 2 refine pV ?_
    refine sV (rIdxI rfl rfl rfl (by omega) (by omega) (by omega)) ?_
    refine sV (rLdI rfl rfl (by omega)) ?_
    refine sV (rMul rfl rfl rfl (by omega) (by omega)) ?_
    refine sV (rAdd rfl rfl rfl (by omega) (by omega)) ?_
    refine sV (rFld rfl rfl) ?_
    refine sV (rLdF rfl rfl rfl) ?_
    refine sV (rRem rfl rfl rfl (by omega) (by omega)) ?_
    refine sV (rIdxI rfl rfl rfl (by omega) (by omega) (by omega)) ?_
    refine eV (eStI rfl rfl rfl rfl (by omega) ?_)
    refine tR fun _ _ _ => ?_
    refine sV (rAdd rfl rfl rfl (by omega) (by omega)) ?_
    refine pV ?_
    refine ⟨j + 1, l.set j.toNat ((l.getD j.toNat 0 + (p - o.getD (m - 1).toNat 0) * 0 + (digs p m.toNat y).getD i.toNat 0 * (digs p m.toNat x).getD j.toNat 0) % p), ⟨rfl, rfl, rfl, rfl, rfl, rfl, rfl, rfl, trivial⟩, by first | exact cs _ _ | exact CSub.refl _, ?_⟩
    have hval : (l.getD j.toNat 0 + (p - o.getD (m - 1).toNat 0) * 0 + (digs p m.toNat y).getD i.toNat 0 * (digs p m.toNat x).getD j.toNat 0) % p = hent p mod (digs p m.toNat x) o ((digs p m.toNat y).getD i.toNat 0) j.toNat := by rw [hent0, hg4 h10, hm10 (by omega)]
    rw [hval]
    exact ⟨⟨by omega, by omega, by simpa using hl, fun k k0 k1 => by
     rw [getD_set]
     by_cases hkj : j.toNat = k
     ·subst hkj; rw [if_pos ⟨rfl, by omega⟩]
     ·rw [if_neg (by omega)]; exact hdone k (by omega) k1, fun k k0 k1 => by
     rw [getD_set, if_neg (by omega)]; exact htodo k (by omega) k1⟩, by omega⟩
  ·try simp only [zbA] at h10
   refine tE ?_
   refine tR fun _ _ _ => ?_
   refine pV ?_
   refine sV (rSub rfl rfl rfl (by omega) (by omega)) ?_
   refine pV ?_
   refine ⟨i - 1, l, ⟨rfl, rfl, rfl, rfl, rfl, trivial⟩, by first | exact cs _ _ | exact CSub.refl _, ?_⟩
   refine ⟨⟨by omega, by omega, ?_⟩, by omega⟩
   rw [show (i - 1 + 1).toNat = i.toNat by omega, drop_getD (show i.toNat < (digs p m.toNat y).length by omega), hmulL, show i.toNat + 1 = (i + 1).toNat by omega, ← ho]
   exact hstep_of (by omega) (fun k hk => hdone k (by omega) (by omega))
 ·try simp only [zbA] at h4
  refine tE ?_
  refine tS ?_
  have him : i = -1 := by omega
  have hpm : p ^ o.length ≤ 256 := by rw [hol]; exact hqq
  refine tR fun _ _ _ => ?_
  refine pV ?_
  refine sV (rFld rfl rfl) ?_
  refine sV (rLdF rfl rfl rfl) ?_
  refine eV (eCallV rfl rfl rfl (fld_value _ _ _ o _ (by omega) (by omega) (by omega) (by omega) hoi (by omega)) ⟨rfl, rfl, trivial⟩ ?_)
  refine pV ?_
  have him : i = -1 := by omega
  subst him
  exact tr_ret ⟨trivial, _, _, rfl, ⟨by
   rw [mulI, ho]; rfl, rfl⟩, CSub.nil _, trivial⟩
theorem fld_powers_ent : Enters Try.prog 81 := enters_of Try.func81 (by kernel_rfl) (by kernel_rfl)
theorem fld_powers (p m : Int) (A : Option Addr) (c : Nat) (mod : List Int) (hs : Shp p m mod) (q : Int) (hq : q = pw p m) (x : Int) (hx : 1 ≤ x) (hx9 : x < q) :
  Pure Try.prog 81 #[.agg #[.int .i64 p, .int .i64 m, .slice A mod.length c], .int .i64 q, .int .i64 x] [ro A (ints mod)] (one (fun v ch => ∃ B l cap, v = .slice B l.length cap ∧ PowOk p m mod x l ∧ ch = ow B 3 cap (ints l))) := by
 have hp2 := hs.p2
 have hp9 := hs.p9
 have hm1 := hs.m1
 have hm8 := hs.m8
 have hqq := hs.q
 have hq2 : 2 ≤ pw p m := by
  have h1 := pw_mono (p := p) (by omega) (a := 1) (b := m) (by omega) hm1
  have h2 := pw_succ p (k := 0) (by omega)
  rw [pw_zero, Int.zero_add, Int.one_mul] at h2
  omega
 have hrl : (List.replicate q.toNat false).length = q.toNat := by simp
 refine pure_of (args := [.agg #[.int .i64 p, .int .i64 m, .slice A mod.length c], .int .i64 q, .int .i64 x]) 37 Try.func81 rfl rfl rfl fld_powers_ent ⟨id, trivial⟩ (fun w0 => ?_)
 refine tS ?_
 refine tR fun _ _ _ => ?_
 refine eV (eBox rfl rfl rfl rfl rfl (fun p0 => ?_))
 refine pV ?_
 refine tS ?_
 refine tR fun _ _ _ => ?_
 refine eV (eLit1I rfl rfl rfl rfl (fun A1 => ?_))
 refine pV ?_
 refine tS ?_
 refine tR fun _ _ _ => ?_
 refine pV ?_
 refine eV (eMakeB rfl rfl rfl rfl rfl (by omega) (by omega) (by omega) (fun A2 => ?_))
 refine pV ?_
 refine tS ?_
 refine tR fun _ _ _ => ?_
 refine pV ?_
 refine sV (rIdxB rfl rfl rfl (by omega) (by omega) (by omega)) ?_
 refine eV (eStB rfl rfl rfl rfl (by omega) ?_)
 refine tS ?_
 refine tS ?_
 refine tR fun _ _ _ => ?_
 iterate 2 refine pV ?_
 refine tB ?_
 refine tr_loop5 (fun (y : Int) (l : List Int) (sn : List Bool) (B : Option Addr) (cap : Nat) => [(1, .int .i64 q), (2, .int .i64 x), (3, .pointer (some p0)), (7, .slice B l.length cap), (8, .slice A2 q.toNat q.toNat), (9, .int .i64 y)]) (fun (y : Int) (l : List Int) (sn : List Bool) (B : Option Addr) (cap : Nat) => [ow B 3 cap (ints l), ow A2 4 q.toNat (bools sn), blk p0 24 [.int .i64 p, .int .i64 m, .slice A mod.length c], ro A (ints mod)]) (fun (y : Int) (l : List Int) (sn : List Bool) (B : Option Addr) (cap : Nat) => (0 ≤ y ∧ y < q) ∧ (1 ≤ l.length ∧ (l.length : Int) ≤ q - 1) ∧ (∀ i, i < l.length → l.getD i 0 = pwI p m mod x i) ∧ (∀ z ∈ l, 0 < z ∧ z < pw p m) ∧ l.Nodup ∧ y = pwI p m mod x l.length ∧ sn.length = q.toNat ∧ ∀ z, 0 ≤ z → z < q → (sn.getD z.toNat false = true ↔ z ∈ l)) (fun (y : Int) (l : List Int) (sn : List Bool) (B : Option Addr) (cap : Nat) => (q - l.length).toNat) (x) ([1]) ((List.replicate q.toNat false).set ((1 : Int)).toNat true) (A1) (1) ⟨rfl, rfl, rfl, rfl, rfl, rfl, trivial⟩ (by first | exact cs _ _ | exact CSub.refl _) (⟨⟨by omega, by omega⟩, ⟨by simp, by simp; omega⟩, fun i hi => by
      have h0 : i = 0 := by simp at hi; omega
      subst h0; rfl, fun z hz => by simp at hz; omega, by simp, rfl, by simp, fun z z0 z1 => by
      rw [getD_set]
      by_cases hz : z = 1
      ·subst hz; simp; omega
      ·rw [if_neg (by omega), List.getD_eq_getElem?_getD, List.getElem?_replicate, if_pos (by omega)]
       simp [hz]⟩) (fun y l sn B cap hI => ?_)
 obtain ⟨⟨hy0, hy1⟩, ⟨hl0, hl1⟩, hget, hnz, hnd, hye, hsl, hsn⟩ := hI
 have hmb := mulI_bd hs y x
 refine tS ?_
 refine tS ?_
 refine tR fun _ _ _ => ?_
 iterate 3 refine pV ?_
 refine stg rfl rfl rfl rfl rfl (fun hb => by (have hq := hb; try simp only [zbA] at hq); exact rMove rfl rfl) ?_
 refine stg rfl rfl rfl rfl rfl (fun hb => by (have hq := hb; try simp only [zbA] at hq); exact rMove rfl rfl) ?_
 refine stg rfl rfl rfl rfl rfl (fun hb => by (have hq := hb; try simp only [zbA] at hq); exact rIdxB rfl (evg rfl hb) (evg rfl hb) (by omega) (by omega) (by omega)) ?_
 refine stg rfl rfl rfl rfl rfl (fun hb => by (have hq := hb; try simp only [zbA] at hq); exact rLdB rfl (evg rfl hb) (by omega)) ?_
 refine stg rfl rfl rfl rfl rfl (fun hb => by (have hq := hb; try simp only [zbA] at hq); exact rNotB rfl (evg rfl hb)) ?_
 refine sV (rAndB rfl rfl rfl rfl) ?_
 refine tC rfl (fun h5 => ?_) (fun h5 => ?_)
 ·try simp only [zbA] at h5
  refine tK ?_
  refine tS ?_
  refine tB ?_
  refine tS ?_
  refine tR fun _ _ _ => ?_
  iterate 2 refine pV ?_
  refine sV (rIdxB rfl rfl rfl (by omega) (by omega) (by omega)) ?_
  refine eV (eStB rfl rfl rfl rfl (by omega) ?_)
  refine tR fun _ _ _ => ?_
  iterate 2 refine pV ?_
  refine eV (eLit1I rfl rfl rfl rfl (fun A8 => ?_))
  refine eV (eAppI rfl rfl rfl rfl rfl (by first | rfl | simp) (by first | rfl | simp) (by first | omega | (simp; omega)) (fun A8a c8a => ?_))
  refine pV ?_
  refine tR fun _ _ _ => ?_
  refine sV (rLdS rfl rfl rfl) ?_
  iterate 2 refine pV ?_
  refine eV (eCallV rfl rfl rfl (fld_mul _ _ _ _ _ hs _ _ (by omega) (by omega) (by omega) (by omega)) ⟨rfl, rfl, rfl, trivial⟩ ?_)
  refine pV ?_
  refine ⟨mulI p m mod y x, l ++ [y], sn.set y.toNat true, A8a, c8a, ⟨rfl, rfl, rfl, rfl, rfl, rfl, trivial⟩, by first | exact cs _ _ | exact CSub.refl _, ?_⟩
  have hyl : ¬ y ∈ l := fun h => by
   have := (hsn y hy0 hy1).2 h
   rw [h5.2] at this
   cases this
  have hnd2 : (l ++ [y]).Nodup := by
   rw [List.nodup_append]
   exact ⟨hnd, by simp, fun a ha b hb => by simp at hb; subst hb; exact fun e => hyl (e ▸ ha)⟩
  have hnz2 : ∀ z ∈ l ++ [y], 0 < z ∧ z < pw p m := fun z hz => by
   rcases List.mem_append.1 hz with h | h
   ·exact hnz z h
   ·simp at h; omega
  have hlen2 := nodup_len' (q := q) (l ++ [y]) hnd2 (fun z hz => by have := hnz2 z hz; omega) (by omega)
  refine ⟨⟨⟨by omega, by omega⟩, ⟨by simp, hlen2⟩, fun i hi => ?_, hnz2, hnd2, ?_, by simpa using hsl, fun z z0 z1 => ?_⟩, by simp; omega⟩
  ·by_cases hil : i < l.length
   ·rw [← hget i hil, List.getD_eq_getElem?_getD, List.getD_eq_getElem?_getD, List.getElem?_append_left hil]
   ·have hie : i = l.length := by simp at hi; omega
    subst hie
    rw [List.getD_eq_getElem?_getD, List.getElem?_append_right (Nat.le_refl _)]
    simpa using hye
  ·rw [List.length_append, List.length_singleton, hye]
   obtain ⟨n, hn⟩ : ∃ n, l.length = n + 1 := ⟨l.length - 1, by omega⟩
   rw [hn]; rfl
  ·rw [getD_set]
   by_cases hz : y.toNat = z.toNat
   ·have : y = z := by omega
    subst this
    rw [if_pos ⟨rfl, by omega⟩]; simp
   ·rw [if_neg (by omega), hsn z z0 z1]
    have : z ≠ y := by omega
    simp [this]
 ·try simp only [zbA] at h5
  refine tE ?_
  refine tS ?_
  refine tR fun _ _ _ => ?_
  iterate 2 refine pV ?_
  exact tr_ret ⟨trivial, _, _, rfl, ⟨_, rfl, _, _, _, rfl, ⟨hl0, hget, hnz, hnd, by
   rw [← hye]
   rcases h5 with h | h
   ·exact .inl (by omega)
   ·exact .inr ((hsn y hy0 hy1).1 h)⟩, rfl⟩, cs _ _, trivial, trivial⟩
theorem fld_gen_ent : Enters Try.prog 47 := enters_of Try.func47 (by kernel_rfl) (by kernel_rfl)
theorem fld_gen (p m : Int) (A : Option Addr) (c : Nat) (mod : List Int) (hs : Shp p m mod) (q : Int) (hq : q = pw p m) :
  Pure Try.prog 47 #[.agg #[.int .i64 p, .int .i64 m, .slice A mod.length c], .int .i64 q] [ro A (ints mod)] (one (fun v ch => ∃ B l cap, v = .slice B l.length cap ∧ GenR p m mod l ∧ (l = [] → B = none) ∧ ch = ow B 3 cap (ints l))) := by
 have hp2 := hs.p2
 have hp9 := hs.p9
 have hm1 := hs.m1
 have hm8 := hs.m8
 have hqq := hs.q
 have hq2 : 2 ≤ pw p m := by
  have h1 := pw_mono (p := p) (by omega) (a := 1) (b := m) (by omega) hm1
  have h2 := pw_succ p (k := 0) (by omega)
  rw [pw_zero, Int.zero_add, Int.one_mul] at h2
  omega
 refine pure_of (args := [.agg #[.int .i64 p, .int .i64 m, .slice A mod.length c], .int .i64 q]) 33 Try.func47 rfl rfl rfl fld_gen_ent ⟨id, trivial⟩ (fun w0 => ?_)
 refine tS ?_
 refine tR fun _ _ _ => ?_
 refine eV (eBox rfl rfl rfl rfl rfl (fun p0 => ?_))
 refine pV ?_
 refine tS ?_
 refine tS ?_
 refine tR fun _ _ _ => ?_
 refine pV ?_
 refine tB ?_
 refine tr_loop1 (fun (x : Int) => [(1, .int .i64 q), (2, .pointer (some p0)), (5, .int .i64 x)]) (fun (x : Int) => [blk p0 24 [.int .i64 p, .int .i64 m, .slice A mod.length c], ro A (ints mod)]) (fun (x : Int) => 1 ≤ x ∧ x ≤ q ∧ ∀ x2, 1 ≤ x2 → x2 < x → ∃ l, PowOk p m mod x2 l ∧ ¬ ((l.length : Int) = pw p m - 1 ∧ mulI p m mod (l.getD (pw p m - 2).toNat 0) x2 = 1)) (fun (x : Int) => (q - x).toNat) (1) ⟨rfl, rfl, rfl, trivial⟩ (by first | exact cs _ _ | exact CSub.refl _) (⟨by omega, by omega, fun x2 h1 h2 => by omega⟩) (fun x hI => ?_)
 obtain ⟨hx0, hx1, hno⟩ := hI
 refine tS ?_
 refine tS ?_
 refine tR fun _ _ _ => ?_
 iterate 3 refine pV ?_
 refine tC rfl (fun h2 => ?_) (fun h2 => ?_)
 ·try simp only [zbA] at h2
  refine tK ?_
  refine tS ?_
  refine tB ?_
  refine tS ?_
  refine tR fun _ _ _ => ?_
  refine sV (rLdS rfl rfl rfl) ?_
  iterate 2 refine pV ?_
  refine eV (eCall1 rfl rfl rfl (fld_powers _ _ _ _ _ hs _ (by assumption) _ (by omega) (by omega)) ⟨rfl, rfl, rfl, trivial⟩ ?_)
  rintro _ _ ⟨B4, l4, c4, rfl, hl4, rfl⟩
  refine pV ?_
  refine tS ?_
  have hge : (l4.length : Int) = q - 1 → 0 < l4.getD (q - 2).toNat 0 ∧ l4.getD (q - 2).toNat 0 < q := fun h => by
   have h1 : (q - 2).toNat < l4.length := by omega
   rw [List.getD_eq_getElem?_getD, List.getElem?_eq_getElem h1]
   have h2 := hl4.nz _ (List.getElem_mem h1)
   rw [← hq] at h2
   exact h2
  refine tr_draw [0, 1, 2, 3, 4, 5, 6, 7, 8, 9, 10, 11, 12, 13, 14, 15] [] mixed (by kernel_rfl) fun _ _ _ => ?_
  refine pV ?_
  refine sV (rLen rfl rfl) ?_
  refine pV ?_
  refine sV (rSub rfl rfl rfl (by omega) (by omega)) ?_
  iterate 2 refine pV ?_
  refine stg rfl rfl rfl rfl rfl (fun hb => by (have hq := hb; try simp only [zbA] at hq); exact rLdS rfl rfl rfl) ?_
  refine stg rfl rfl rfl rfl rfl (fun hb => by (have hq := hb; try simp only [zbA] at hq); exact rMove rfl rfl) ?_
  refine stg rfl rfl rfl rfl rfl (fun hb => by (have hq := hb; try simp only [zbA] at hq); exact rMove rfl rfl) ?_
  refine stg rfl rfl rfl rfl rfl (fun hb => by (have hq := hb; try simp only [zbA] at hq); exact rSub rfl (evg rfl hb) rfl (by omega) (by omega)) ?_
  refine stg rfl rfl rfl rfl rfl (fun hb => by (have hq := hb; try simp only [zbA] at hq); exact rIdxI rfl (evg rfl hb) (evg rfl hb) (by omega) (by omega) (by omega)) ?_
  refine stg rfl rfl rfl rfl rfl (fun hb => by (have hq := hb; try simp only [zbA] at hq); exact rLdI rfl (evg rfl hb) (by omega)) ?_
  refine stg rfl rfl rfl rfl rfl (fun hb => by (have hq := hb; try simp only [zbA] at hq); exact rMove rfl rfl) ?_
  refine efg rfl rfl rfl rfl rfl (fun hb => by (have hq := hb; try simp only [zbA] at hq); exact eCallV rfl rfl rfl (fld_mul _ _ _ _ _ hs _ _ (by omega) (by omega) (by omega) (by omega)) ⟨(evg rfl hb), (evg rfl hb), (evg rfl hb), trivial⟩ ⟨rfl, rfl⟩) ?_
  refine stg rfl rfl rfl rfl rfl (fun hb => by (have hq := hb; try simp only [zbA] at hq); exact rEql rfl (evg rfl hb) rfl) ?_
  refine sV (rAndB rfl rfl rfl rfl) ?_
  refine tC rfl (fun h5 => ?_) (fun h5 => ?_)
  ·try simp only [zbA] at h5
   refine tS ?_
   refine tR fun _ _ _ => ?_
   iterate 2 refine pV ?_
   exact tr_ret ⟨trivial, _, _, rfl, ⟨_, rfl, _, _, _, rfl, .inl ⟨x, by omega, by omega, hl4, by omega, by rw [← hq]; exact h5.2⟩, fun h => by
    have := hl4.one
    rw [h] at this
    simp at this, rfl⟩, cs _ _, trivial, trivial⟩
  ·try simp only [zbA] at h5
   refine tK ?_
   refine tR fun _ _ _ => ?_
   refine pV ?_
   refine sV (rAdd rfl rfl rfl (by omega) (by omega)) ?_
   refine pV ?_
   refine ⟨x + 1, ⟨rfl, rfl, rfl, trivial⟩, by first | exact cs _ _ | exact CSub.refl _, ?_⟩
   exact ⟨⟨by omega, by omega, fun x2 h1 h2 => by
    by_cases hxx : x2 = x
    ·subst hxx
     refine ⟨l4, hl4, fun h => ?_⟩
     rw [← hq] at h
     rcases h5 with h5 | h5
     ·exact h5 h.1
     ·exact h5 h.2
    ·exact hno x2 h1 (by omega)⟩, by omega⟩
 ·try simp only [zbA] at h2
  refine tE ?_
  refine tS ?_
  have hxq : x = q := by omega
  refine tr_nil 3 ?_
  refine tR fun _ _ _ => ?_
  refine pV ?_
  exact tr_ret ⟨trivial, _, _, rfl, ⟨_, rfl, none, [], 0, rfl, .inr ⟨rfl, fun x2 h1 h2 => hno x2 h1 (by omega)⟩, fun _ => rfl, rfl⟩, cs _ [ow none 3 0 []], trivial, trivial⟩
theorem fld_shape_ent : Enters Try.prog 46 := enters_of Try.func46 (by kernel_rfl) (by kernel_rfl)
theorem fld_shape (p m : Int) (A : Option Addr) (c : Nat) (mod : List Int) (hl9 : mod.length ≤ 17592186044415) :
  Pure Try.prog 46 #[.agg #[.int .i64 p, .int .i64 m, .slice A mod.length c]] [ro A (ints mod)] (isV (.bool (bShp p m mod))) := by
 have hord := @ord_cases p m
 refine pure_of (args := [.agg #[.int .i64 p, .int .i64 m, .slice A mod.length c]]) 46 Try.func46 rfl rfl rfl fld_shape_ent ⟨id, trivial⟩ (fun w0 => ?_)
 refine tS ?_
 refine tR fun _ _ _ => ?_
 refine eV (eBox rfl rfl rfl rfl rfl (fun p0 => ?_))
 refine pV ?_
 refine tS ?_
 refine tS ?_
 refine tR fun _ _ _ => ?_
 refine sV (rFld rfl rfl) ?_
 refine sV (rLdF rfl rfl rfl) ?_
 refine sV (rFld rfl rfl) ?_
 refine sV (rLdF rfl rfl rfl) ?_
 refine eV (eCallV rfl rfl rfl (fld_order _ _) ⟨rfl, rfl, trivial⟩ ?_)
 iterate 2 refine pV ?_
 refine stg rfl rfl rfl rfl rfl (fun hb => by (have hq := hb; try simp only [zbA] at hq); exact rFld rfl rfl) ?_
 refine stg rfl rfl rfl rfl rfl (fun hb => by (have hq := hb; try simp only [zbA] at hq); exact rLdF rfl (evg rfl hb) rfl) ?_
 skip
 refine efg rfl rfl rfl rfl rfl (fun hb => by (have hq := hb; try simp only [zbA] at hq); exact eCallV rfl rfl rfl (fld_isPrime _ (by omega)) ⟨(evg rfl hb), trivial⟩ ⟨rfl, rfl⟩) ?_
 refine stg rfl rfl rfl rfl rfl (fun hb => by (have hq := hb; try simp only [zbA] at hq); exact rNotB rfl (evg rfl hb)) ?_
 refine sV (rOrB rfl rfl rfl rfl) ?_
 refine tC rfl (fun h1 => ?_) (fun h1 => ?_)
 ·try simp only [zbA] at h1
  refine tS ?_
  refine tR fun _ _ _ => ?_
  refine pV ?_
  have hno : ¬ ShpP p m mod := fun h => by
   rcases h1 with h1 | h1
   ·exact not_shp_ord h1 h
   ·rw [bIsP_true h.2] at h1; cases h1
  exact tr_ret ⟨trivial, _, _, rfl, ⟨by rw [bShp_false hno], rfl⟩, CSub.nil _, trivial⟩
 ·try simp only [zbA] at h1
  have hcc := hord (by omega)
  obtain ⟨hp2, hp9, hm1, hm8, hqq, hoe⟩ := hcc
  have hprime := (bIsP_iff p).1 h1.2
  refine tK ?_
  refine tS ?_
  refine tS ?_
  refine tR fun _ _ _ => ?_
  refine sV (rFld rfl rfl) ?_
  refine sV (rLdF rfl rfl rfl) ?_
  refine pV ?_
  refine tC rfl (fun h3 => ?_) (fun h3 => ?_)
  ·try simp only [zbA] at h3
   refine tS ?_
   refine tR fun _ _ _ => ?_
   refine sV (rFld rfl rfl) ?_
   refine sV (rLdF rfl rfl rfl) ?_
   refine sV (rLen rfl rfl) ?_
   iterate 2 refine pV ?_
   have hb : decide ((mod.length : Int) = 0) = bShp p m mod := by
    by_cases h : (mod.length : Int) = 0
    ·have hm0 : mod = [] := List.eq_nil_of_length_eq_zero (by omega)
     rw [decide_eq_true h, bShp_true ⟨⟨hp2, hp9, hm1, hm8, hqq, .inl ⟨h3, hm0⟩, by rw [hm0]; exact fun c hc => by simp at hc⟩, hprime⟩]
    ·rw [decide_eq_false h, bShp_false (fun hs => by
      rcases hs.1.low with h2 | h2
      ·rw [h2.2] at h; exact h rfl
      ·omega)]
   exact tr_ret ⟨trivial, _, _, rfl, ⟨by rw [hb], rfl⟩, CSub.nil _, trivial⟩
  ·try simp only [zbA] at h3
   refine tK ?_
   refine tS ?_
   refine tS ?_
   refine tR fun _ _ _ => ?_
   refine sV (rFld rfl rfl) ?_
   refine sV (rLdF rfl rfl rfl) ?_
   refine sV (rLen rfl rfl) ?_
   refine sV (rFld rfl rfl) ?_
   refine sV (rLdF rfl rfl rfl) ?_
   refine pV ?_
   refine tC rfl (fun h5 => ?_) (fun h5 => ?_)
   ·try simp only [zbA] at h5
    refine tS ?_
    refine tR fun _ _ _ => ?_
    refine pV ?_
    exact tr_ret ⟨trivial, _, _, rfl, ⟨by rw [bShp_false (fun hs => by
     rcases hs.1.low with h2 | h2
     ·exact h3 h2.1
     ·exact h5 h2.2)], rfl⟩, CSub.nil _, trivial⟩
   ·try simp only [zbA] at h5
    refine tK ?_
    refine tS ?_
    refine tS ?_
    refine tR fun _ _ _ => ?_
    refine sV (rFld rfl rfl) ?_
    refine sV (rLdF rfl rfl rfl) ?_
    refine sV (rLen rfl rfl) ?_
    refine pV ?_
    refine tB ?_
    refine tr_loop1 (fun (k : Int) => [(1, .pointer (some p0)), (31, .slice A mod.length c), (32, .int .i64 mod.length), (33, .int .i64 k)]) (fun (k : Int) => [blk p0 24 [.int .i64 p, .int .i64 m, .slice A mod.length c], ro A (ints mod)]) (fun (k : Int) => 0 ≤ k ∧ k ≤ mod.length ∧ AllIn p (mod.take k.toNat)) (fun (k : Int) => (mod.length - k).toNat) (0) ⟨rfl, rfl, rfl, rfl, trivial⟩ (by first | exact cs _ _ | exact CSub.refl _) (⟨by omega, by omega, fun c hc => by simp at hc⟩) (fun k hI => ?_)
    obtain ⟨hk0, hk1, hkin⟩ := hI
    refine tS ?_
    refine tR fun _ _ _ => ?_
    refine pV ?_
    refine tS ?_
    refine tC rfl (fun h8 => ?_) (fun h8 => ?_)
    ·try simp only [zbA] at h8
     refine tK ?_
     refine tS ?_
     refine tB ?_
     refine tS ?_
     refine tR fun _ _ _ => ?_
     refine sV (rIdxI rfl rfl rfl (by omega) (by omega) (by omega)) ?_
     refine sV (rLdI rfl rfl (by omega)) ?_
     refine pV ?_
     refine tS ?_
     refine tR fun _ _ _ => ?_
     iterate 3 refine pV ?_
     refine stg rfl rfl rfl rfl rfl (fun hb => by (have hq := hb; try simp only [zbA] at hq); exact rMove rfl rfl) ?_
     refine stg rfl rfl rfl rfl rfl (fun hb => by (have hq := hb; try simp only [zbA] at hq); exact rFld rfl rfl) ?_
     refine stg rfl rfl rfl rfl rfl (fun hb => by (have hq := hb; try simp only [zbA] at hq); exact rLdF rfl (evg rfl hb) rfl) ?_
     refine stg rfl rfl rfl rfl rfl (fun hb => by (have hq := hb; try simp only [zbA] at hq); exact rGeq rfl (evg rfl hb) (evg rfl hb)) ?_
     refine sV (rOrB rfl rfl rfl rfl) ?_
     refine tC rfl (fun h10 => ?_) (fun h10 => ?_)
     ·try simp only [zbA] at h10
      refine tS ?_
      refine tR fun _ _ _ => ?_
      refine pV ?_
      exact tr_ret ⟨trivial, _, _, rfl, ⟨by rw [bShp_false (fun hs => by
       have := hs.1.ent.get (by omega) k.toNat
       omega)], rfl⟩, CSub.nil _, trivial⟩
     ·try simp only [zbA] at h10
      refine tK ?_
      refine tR fun _ _ _ => ?_
      refine sV (rAdd rfl rfl rfl (by omega) (by omega)) ?_
      refine pV ?_
      refine ⟨k + 1, ⟨rfl, rfl, rfl, rfl, trivial⟩, by first | exact cs _ _ | exact CSub.refl _, ?_⟩
      refine ⟨⟨by omega, by omega, fun z hz => ?_⟩, by omega⟩
      rw [take_next 0 mod k hk0 (by omega)] at hz
      rcases List.mem_append.1 hz with h | h
      ·exact hkin z h
      ·simp only [List.mem_singleton] at h
       rw [h]
       omega
    ·try simp only [zbA] at h8
     refine tE ?_
     refine tS ?_
     refine tR fun _ _ _ => ?_
     refine pV ?_
     rw [take_len mod k (by omega)] at hkin
     exact tr_ret ⟨trivial, _, _, rfl, ⟨by rw [bShp_true ⟨⟨hp2, hp9, hm1, hm8, hqq, .inr ⟨by omega, by omega⟩, hkin⟩, hprime⟩], rfl⟩, CSub.nil _, trivial⟩
theorem fld_New_ent : Enters Try.prog 28 := enters_of Try.func28 (by kernel_rfl) (by kernel_rfl)
theorem fld_New (p m : Int) (A : Option Addr) (c : Nat) (mod : List Int) (hl9 : mod.length ≤ 17592186044415) :
  Pure Try.prog 28 #[.agg #[.int .i64 p, .int .i64 m, .slice A mod.length c]] [ro A (ints mod)] (fun v Fo => (v = .tuple #[.pointer none, .int .i64 1] ∧ Fo = [] ∧ ¬ FldN p m mod) ∨ ∃ g : GfM, v = .tuple #[.pointer (some g.p), .int .i64 0] ∧ Fo = [gfN g] ∧ GOk g p m mod) := by
 refine pure_of (args := [.agg #[.int .i64 p, .int .i64 m, .slice A mod.length c]]) 53 Try.func28 rfl rfl rfl fld_New_ent ⟨id, trivial⟩ (fun w0 => ?_)
 refine tS ?_
 refine tR fun _ _ _ => ?_
 refine eV (eBox rfl rfl rfl rfl rfl (fun p0 => ?_))
 iterate 2 refine pV ?_
 refine tS ?_
 refine tS ?_
 refine tR fun _ _ _ => ?_
 refine sV (rLdS rfl rfl rfl) ?_
 refine eV (eCallV rfl rfl rfl (fld_shape _ _ _ _ _ (by omega)) ⟨rfl, trivial⟩ ?_)
 refine sV (rNotB rfl rfl) ?_
 refine tC rfl (fun h1 => ?_) (fun h1 => ?_)
 ·try simp only [zbA] at h1
  refine tS ?_
  refine tR fun _ _ _ => ?_
  iterate 2 refine pV ?_
  exact tr_ret ⟨trivial, _, _, rfl, .inl ⟨rfl, rfl, fun h => by
   rw [bShp_true h.1] at h1; cases h1⟩, CSub.nil _, trivial⟩
 ·try simp only [zbA] at h1
  have hs := (bShp_iff p m mod).1 h1
  have hord := hs.1.ord
  have hs1 := hs.1
  refine tK ?_
  refine tS ?_
  refine tR fun _ _ _ => ?_
  refine sV (rFld rfl rfl) ?_
  refine sV (rLdF rfl rfl rfl) ?_
  refine sV (rFld rfl rfl) ?_
  refine sV (rLdF rfl rfl rfl) ?_
  refine eV (eCallV rfl rfl rfl (fld_order _ _) ⟨rfl, rfl, trivial⟩ ?_)
  refine pV ?_
  refine tS ?_
  rw [hord]
  refine tR fun _ _ _ => ?_
  refine sV (rLdS rfl rfl rfl) ?_
  refine pV ?_
  refine eV (eCall1 rfl rfl rfl (fld_gen _ _ _ _ _ hs1 _ rfl) ⟨rfl, rfl, trivial⟩ ?_)
  rintro _ _ ⟨B4, l4, c4, rfl, hl4, hn4, rfl⟩
  refine pV ?_
  refine tS ?_
  refine tS ?_
  refine tR fun _ _ _ => ?_
  refine pV ?_
  refine sV (rNilS rfl rfl rfl) ?_
  refine tC rfl (fun h5 => ?_) (fun h5 => ?_)
  ·try simp only [zbA] at h5
   refine tr_emptyI (A := B4) (xs := l4) (fun hemp => ?_)
   have hl0 := hemp h5
   refine tS ?_
   refine tR fun _ _ _ => ?_
   iterate 2 refine pV ?_
   exact tr_ret ⟨trivial, _, _, rfl, .inl ⟨rfl, rfl, fun h => by
    rw [hl0] at hl4
    exact hl4.nil h.2⟩, CSub.nil _, trivial⟩
  ·try simp only [zbA] at h5
   refine tK ?_
   have hgn : l4 ≠ [] := fun h => by
    rw [hn4 h] at h5
    cases h5
   obtain ⟨x, hgen⟩ : ∃ x, IsGen p m mod x l4 := by
    rcases hl4 with h | h
    ·exact h
    ·exact absurd h.1 hgn
   have hqq := hs1.q
   have hq2 := hs1.q2
   have hlen := hgen.len
   refine tr_mid (fun (q : Addr × (Option Addr) × Nat × (Option Addr)) => match q with | (pg, Am, cm, Al) => [(5, .slice B4 l4.length c4), (6, .pointer (some pg))]) (fun (q : Addr × (Option Addr) × Nat × (Option Addr)) => match q with | (pg, Am, cm, Al) => [blk pg 102 [.int .i64 p, .int .i64 m, .slice Am mod.length cm, .int .i64 (pw p m), .slice B4 l4.length c4, .slice Al (pw p m).toNat (pw p m).toNat], ow Am 3 cm (ints mod), ow B4 3 c4 (ints l4), ow Al 3 (pw p m).toNat (ints (List.replicate (pw p m).toNat 0))]) ?_ ?_
   ·refine tr_tree (.one 0 (.one 1 (.one 2 (.one 3 (.one 5 (.one 6 (.one 9 (.one 10 (.one 11 (.two 4 (.two 7 (.one 8 (.one 12 (.one 13 (.one 14 (.one 15 .nil))))) 12 (.one 7 (.one 8 (.one 13 (.one 14 (.one 15 .nil)))))) 12 (.one 4 (.one 7 (.one 8 (.one 13 (.one 14 (.one 15 .nil)))))))))))))))) [] mixed (by kernel_rfl) fun _ _ _ => ?_
    refine sV (rFld rfl rfl) ?_
    refine sV (rLdF rfl rfl rfl) ?_
    refine sV (rFld rfl rfl) ?_
    refine sV (rLdF rfl rfl rfl) ?_
    refine sV (rFld rfl rfl) ?_
    refine sV (rLdF rfl rfl rfl) ?_
    iterate 3 refine pV ?_
    refine ⟨?_, ?_⟩
    ·refine eV (eLit0I rfl rfl rfl  (fun A7 => ?_))
     refine ⟨?_, ?_⟩
     ·refine eV (eAppXI rfl rfl rfl rfl rfl (by first | rfl | simp) (by first | rfl | simp) (by first | rfl | simp) (by first | omega | (simp; omega)) (fun A7a c7a => ?_))
      rw [List.nil_append]
      refine sV (rBuild rfl rfl) ?_
      refine eV (eMakeI rfl rfl rfl rfl rfl (by omega) (by omega) (by omega) (fun A7b => ?_))
      refine sV (rBuild rfl rfl) ?_
      refine eV (eBox rfl rfl rfl rfl rfl (fun p7c => ?_))
      refine pV ?_
      exact ⟨rfl, (p7c, A7a, c7a, A7b), ⟨rfl, rfl, trivial⟩, by first | exact cs _ _ | exact CSub.refl _⟩
     ·refine eV (eMakeI rfl rfl rfl rfl rfl (by omega) (by omega) (by omega) (fun A7b => ?_))
      refine eV (eAppXI rfl rfl rfl rfl rfl (by first | rfl | simp) (by first | rfl | simp) (by first | rfl | simp) (by first | omega | (simp; omega)) (fun A7a c7a => ?_))
      rw [List.nil_append]
      refine sV (rBuild rfl rfl) ?_
      refine sV (rBuild rfl rfl) ?_
      refine eV (eBox rfl rfl rfl rfl rfl (fun p7c => ?_))
      refine pV ?_
      exact ⟨rfl, (p7c, A7a, c7a, A7b), ⟨rfl, rfl, trivial⟩, by first | exact cs _ _ | exact CSub.refl _⟩
    ·refine eV (eMakeI rfl rfl rfl rfl rfl (by omega) (by omega) (by omega) (fun A7b => ?_))
     refine eV (eLit0I rfl rfl rfl  (fun A7 => ?_))
     refine eV (eAppXI rfl rfl rfl rfl rfl (by first | rfl | simp) (by first | rfl | simp) (by first | rfl | simp) (by first | omega | (simp; omega)) (fun A7a c7a => ?_))
     rw [List.nil_append]
     refine sV (rBuild rfl rfl) ?_
     refine sV (rBuild rfl rfl) ?_
     refine eV (eBox rfl rfl rfl rfl rfl (fun p7c => ?_))
     refine pV ?_
     exact ⟨rfl, (p7c, A7a, c7a, A7b), ⟨rfl, rfl, trivial⟩, by first | exact cs _ _ | exact CSub.refl _⟩
   ·rintro ⟨pg, Am, cm, Al⟩
    refine tS ?_
    refine tS ?_
    refine tR fun _ _ _ => ?_
    refine pV ?_
    refine sV (rLen rfl rfl) ?_
    refine pV ?_
    refine tB ?_
    refine tr_loop2 (fun (k : Int) (lg : List Int) => [(6, .pointer (some pg)), (37, .slice B4 l4.length c4), (38, .int .i64 l4.length), (39, .int .i64 k)]) (fun (k : Int) (lg : List Int) => [blk pg 102 [.int .i64 p, .int .i64 m, .slice Am mod.length cm, .int .i64 (pw p m), .slice B4 l4.length c4, .slice Al (pw p m).toNat (pw p m).toNat], ow Am 3 cm (ints mod), ow B4 3 c4 (ints l4), ow Al 3 (pw p m).toNat (ints lg)]) (fun (k : Int) (lg : List Int) => 0 ≤ k ∧ k ≤ l4.length ∧ lg.length = (pw p m).toNat ∧ lg.getD 0 0 = 0 ∧ ∀ i : Nat, (i : Int) < k → lg.getD (l4.getD i 0).toNat 0 = i) (fun (k : Int) (lg : List Int) => (l4.length - k).toNat) (0) (List.replicate (pw p m).toNat 0) ⟨rfl, rfl, rfl, rfl, trivial⟩ (by first | exact cs _ _ | exact CSub.refl _) (⟨by omega, by omega, by simp, by rw [List.getD_eq_getElem?_getD, List.getElem?_replicate]; split <;> rfl, fun i hi => by omega⟩) (fun k lg hI => ?_)
    obtain ⟨hk0, hk1, hll, hlz, hlg⟩ := hI
    have hent : k < l4.length → 0 < l4.getD k.toNat 0 ∧ l4.getD k.toNat 0 < pw p m := fun h => by
     rw [List.getD_eq_getElem?_getD, List.getElem?_eq_getElem (show k.toNat < l4.length by omega)]
     exact hgen.pow.nz _ (List.getElem_mem _)
    refine tS ?_
    refine tR fun _ _ _ => ?_
    refine pV ?_
    refine tS ?_
    refine tC rfl (fun h9 => ?_) (fun h9 => ?_)
    ·try simp only [zbA] at h9
     refine tK ?_
     refine tS ?_
     refine tB ?_
     refine tS ?_
     refine tR fun _ _ _ => ?_
     refine pV ?_
     refine sV (rIdxI rfl rfl rfl (by omega) (by omega) (by omega)) ?_
     refine sV (rLdI rfl rfl (by omega)) ?_
     iterate 2 refine pV ?_
     have hentk := hent h9
     refine tR fun _ _ _ => ?_
     refine pV ?_
     refine sV (rNil rfl rfl) ?_
     refine sV (rFld rfl rfl) ?_
     refine sV (rLdF rfl rfl rfl) ?_
     iterate 2 refine pV ?_
     refine sV (rIdxI rfl rfl rfl (by omega) (by omega) (by omega)) ?_
     refine eV (eStI rfl rfl rfl rfl (by omega) ?_)
     refine tR fun _ _ _ => ?_
     refine sV (rAdd rfl rfl rfl (by omega) (by omega)) ?_
     refine pV ?_
     refine ⟨k + 1, lg.set (l4.getD k.toNat 0).toNat k, ⟨rfl, rfl, rfl, rfl, trivial⟩, by first | exact cs _ _ | exact CSub.refl _, ?_⟩
     have he := hent h9
     refine ⟨⟨by omega, by omega, by simpa using hll, by rw [getD_set, if_neg (by omega)]; exact hlz, fun i hi => ?_⟩, by omega⟩
     rw [getD_set]
     by_cases hik : (i : Int) = k
     ·have : i = k.toNat := by omega
      rw [this, if_pos ⟨rfl, by omega⟩]
      omega
     ·have hne : ¬ l4.getD k.toNat 0 = l4.getD i 0 := fun e => by
       rw [List.getD_eq_getElem?_getD, List.getElem?_eq_getElem (show k.toNat < l4.length by omega), List.getD_eq_getElem?_getD, List.getElem?_eq_getElem (show i < l4.length by omega)] at e
       exact (List.pairwise_iff_getElem.1 hgen.pow.nodup) i k.toNat (by omega) (by omega) (by omega) (by simpa using e.symm)
      have hie : 0 < l4.getD i 0 := by
       rw [List.getD_eq_getElem?_getD, List.getElem?_eq_getElem (show i < l4.length by omega)]
       exact (hgen.pow.nz _ (List.getElem_mem _)).1
      rw [if_neg (by omega)]
      exact hlg i (by omega)
    ·try simp only [zbA] at h9
     refine tE ?_
     refine tS ?_
     refine tR fun _ _ _ => ?_
     iterate 3 refine pV ?_
     have hkk : k = l4.length := by omega
     refine tr_ret ⟨trivial, _, _, rfl, .inr ⟨⟨pg, p, m, Am, cm, mod, pw p m, B4, c4, l4, Al, (pw p m).toNat, lg⟩, rfl, rfl, ⟨rfl, rfl, rfl, hs, rfl, ⟨x, hgen⟩, hll, hlz, fun i hi => hlg i (by have h7 : i < l4.length := hi; omega)⟩⟩, ?_, gfO_excl _ _ _, trivial⟩
     have hc : [.int .i64 p, .int .i64 m, .slice Am mod.length cm, .int .i64 (pw p m), .slice B4 l4.length c4, .slice Al (pw p m).toNat (pw p m).toNat] = GfM.cells ⟨pg, p, m, Am, cm, mod, pw p m, B4, c4, l4, Al, (pw p m).toNat, lg⟩ := by simp [GfM.cells, hll]
     rw [hc]
     exact csub_gfO _ _ ⟨pg, p, m, Am, cm, mod, pw p m, B4, c4, l4, Al, (pw p m).toNat, lg⟩ []
end Go.Proofs.Ytdkahdehodopoaa

set_option maxRecDepth 100000
namespace Go.Proofs.Ytdkahdehodopoaa
open Go.RowKit
theorem ref_divides_ent : Enters Try.prog 86 := enters_of Try.func86 (by kernel_rfl) (by kernel_rfl)
theorem ref_divides (A : Option Addr) (ln c : Nat) (low : List Int) (B : Option Addr) (cB : Nat) (mod : List Int) (p : Int) (hp : 2 ≤ p) (hp2 : p ≤ 256) (hln : ln = low.length) (h1 : 1 ≤ low.length) (h2 : 2 * low.length ≤ mod.length) (h9 : mod.length ≤ 64) (hlow : AllIn p low) (hmod : AllIn p mod) :
  Pure Try.prog 86 #[.slice A ln c, .slice B mod.length cB, .int .i64 p] [ro A (ints low), ro B (ints mod)] (isV (.bool (bDiv p low mod))) := by
 have hlen0 : ([] ++ mod ++ [(1 : Int)]).length = mod.length + 1 := by simp
 have hcast : (ln : Int) = low.length := by omega
 have hin0 : AllIn p (mod ++ [(1 : Int)]) := fun z hz => by
  rcases List.mem_append.1 hz with h | h
  ·exact hmod z h
  ·simp at h; omega
 refine pure_of (args := [.slice A ln c, .slice B mod.length cB, .int .i64 p]) 78 Try.func86 rfl rfl rfl ref_divides_ent ⟨id, id, trivial⟩ (fun w0 => ?_)
 refine tS ?_
 refine tR fun _ _ _ => ?_
 refine pV ?_
 refine tS ?_
 refine tR fun _ _ _ => ?_
 refine pV ?_
 refine sV (rLen rfl rfl) ?_
 rw [hcast]
 refine pV ?_
 refine tS ?_
 refine tR fun _ _ _ => ?_
 refine eV (eLit0I rfl rfl rfl  (fun A2 => ?_))
 refine pV ?_
 refine eV (eAppI rfl rfl rfl rfl rfl (by first | rfl | simp) (by first | rfl | simp) (by first | omega | (simp; omega)) (fun A2a c2a => ?_))
 refine pV ?_
 refine tS ?_
 refine tR fun _ _ _ => ?_
 refine pV ?_
 refine eV (eLit1I rfl rfl rfl rfl (fun A3 => ?_))
 refine eV (eAppI rfl rfl rfl rfl rfl (by first | rfl | simp) (by first | rfl | simp) (by first | omega | (simp; omega)) (fun A3a c3a => ?_))
 refine pV ?_
 refine tS ?_
 refine tS ?_
 refine tR fun _ _ _ => ?_
 rw [hlen0]
 refine pV ?_
 refine sV (rLen rfl rfl) ?_
 refine sV (rSub rfl rfl rfl (by omega) (by omega)) ?_
 refine pV ?_
 refine tB ?_
 refine tr_loop2 (fun (i : Int) (r : List Int) => [(0, .slice A ln c), (2, .int .i64 p), (7, .int .i64 low.length), (8, .slice A3a (mod.length + 1) c3a), (9, .int .i64 i)]) (fun (i : Int) (r : List Int) => [ow A3a 3 c3a (ints r), ro A (ints low)]) (fun (i : Int) (r : List Int) => (low.length : Int) - 1 ≤ i ∧ i ≤ mod.length ∧ r.length = mod.length + 1 ∧ AllIn p r ∧ dloop p low (i + 1 - low.length).toNat r = divL p low mod) (fun (i : Int) (r : List Int) => (i + 1 - low.length).toNat) (((mod.length + 1 : Nat) : Int) - 1) (mod ++ [1]) ⟨rfl, rfl, rfl, rfl, rfl, trivial⟩ (by rw [show ([] ++ mod ++ [(1 : Int)]) = mod ++ [1] by simp]; exact cs _ _) (⟨by omega, by omega, by simp, hin0, by unfold divL; congr 1; omega⟩) (fun i r hI => ?_)
 obtain ⟨hi0, hi1, hrl, hri, hrd⟩ := hI
 have hgi := hri.get (by omega) i.toNat
 refine tS ?_
 refine tS ?_
 refine tR fun _ _ _ => ?_
 iterate 3 refine pV ?_
 refine tC rfl (fun h5 => ?_) (fun h5 => ?_)
 ·try simp only [zbA] at h5
  refine tK ?_
  refine tS ?_
  refine tB ?_
  refine tS ?_
  refine tR fun _ _ _ => ?_
  iterate 2 refine pV ?_
  refine sV (rIdxI rfl rfl rfl (by omega) (by omega) (by omega)) ?_
  refine sV (rLdI rfl rfl (by omega)) ?_
  refine pV ?_
  refine tS ?_
  refine tS ?_
  refine tR fun _ _ _ => ?_
  refine pV ?_
  refine tB ?_
  refine tr_loop2 (fun (j : Int) (r2 : List Int) => [(0, .slice A ln c), (2, .int .i64 p), (7, .int .i64 low.length), (8, .slice A3a (mod.length + 1) c3a), (9, .int .i64 i), (10, .int .i64 (r.getD i.toNat 0)), (11, .int .i64 j)]) (fun (j : Int) (r2 : List Int) => [ow A3a 3 c3a (ints r2), ro A (ints low)]) (fun (j : Int) (r2 : List Int) => (0 ≤ j ∧ j ≤ low.length) ∧ r2.length = mod.length + 1 ∧ AllIn p r2 ∧ (∀ k : Nat, i - low.length ≤ k → (k : Int) < i - low.length + j → r2.getD k 0 = (r.getD k 0 + (p - r.getD i.toNat 0) * low.getD (k + low.length - i.toNat) 0) % p) ∧ ∀ k : Nat, ¬ (i - low.length ≤ k ∧ (k : Int) < i - low.length + j) → r2.getD k 0 = r.getD k 0) (fun (j : Int) (r2 : List Int) => (low.length - j).toNat) (0) (r) ⟨rfl, rfl, rfl, rfl, rfl, rfl, rfl, trivial⟩ (by first | exact cs _ _ | exact CSub.refl _) (⟨⟨by omega, by omega⟩, hrl, hri, fun k k0 k1 => by omega, fun k _ => rfl⟩) (fun j r2 hI => ?_)
  obtain ⟨⟨hj0, hj1⟩, hr2l, hr2i, hdone, htodo⟩ := hI
  have hg1 := hlow.get (by omega) j.toNat
  have hg2 := hr2i.get (by omega) (i - low.length + j).toNat
  have hmb := mul_bd0 (p - r.getD i.toNat 0) (low.getD j.toNat 0) 256 256 (by omega) (by omega) (by omega) (by omega)
  have hv0 := Int.emod_nonneg (r2.getD (i - low.length + j).toNat 0 + (p - r.getD i.toNat 0) * low.getD j.toNat 0) (show p ≠ 0 by omega)
  have hv1 := Int.emod_lt_of_pos (r2.getD (i - low.length + j).toNat 0 + (p - r.getD i.toNat 0) * low.getD j.toNat 0) (show 0 < p by omega)
  refine tS ?_
  refine tS ?_
  refine tR fun _ _ _ => ?_
  iterate 3 refine pV ?_
  refine tC rfl (fun h9 => ?_) (fun h9 => ?_)
  ·try simp only [zbA] at h9
   refine tK ?_
   refine tS ?_
   refine tB ?_
   refine tr_draw [0, 1, 2, 3, 4, 5, 6, 7, 8, 9, 10, 11, 12, 13, 14, 15, 16, 17, 18, 19, 20, 21, 22, 23, 24, 25] [26] mixed (by kernel_rfl) fun _ _ _ => ?_
   iterate 3 refine pV ?_
   refine sV (rSub rfl rfl rfl (by omega) (by omega)) ?_
   refine pV ?_
   refine sV (rAdd rfl rfl rfl (by omega) (by omega)) ?_
   iterate 3 refine pV ?_
   refine sV (rSub rfl rfl rfl (by omega) (by omega)) ?_
   refine pV ?_
   refine sV (rAdd rfl rfl rfl (by omega) (by omega)) ?_
   refine sV (rIdxI rfl rfl rfl (by omega) (by omega) (by omega)) ?_
   refine sV (rLdI rfl rfl (by omega)) ?_
   iterate 2 refine pV ?_
   refine sV (rSub rfl rfl rfl (by omega) (by omega)) ?_
   iterate 2 refine pV ?_
   refine sV (rIdxI rfl rfl rfl (by omega) (by omega) (by omega)) ?_
   refine sV (rLdI rfl rfl (by omega)) ?_
   refine sV (rMul rfl rfl rfl (by omega) (by omega)) ?_
   refine sV (rAdd rfl rfl rfl (by omega) (by omega)) ?_
   refine pV ?_
   refine sV (rRem rfl rfl rfl (by omega) (by omega)) ?_
   refine sV (rIdxI rfl rfl rfl (by omega) (by omega) (by omega)) ?_
   refine eV (eStI rfl rfl rfl rfl (by omega) ?_)
   refine tR fun _ _ _ => ?_
   refine pV ?_
   refine sV (rAdd rfl rfl rfl (by omega) (by omega)) ?_
   refine pV ?_
   refine ⟨j + 1, r2.set (i - low.length + j).toNat ((r2.getD (i - low.length + j).toNat 0 + (p - r.getD i.toNat 0) * low.getD j.toNat 0) % p), ⟨rfl, rfl, rfl, rfl, rfl, rfl, rfl, trivial⟩, by first | exact cs _ _ | exact CSub.refl _, ?_⟩
   refine ⟨⟨⟨by omega, by omega⟩, by simpa using hr2l, hr2i.set ⟨hv0, hv1⟩ _, fun k k0 k1 => ?_, fun k hk => ?_⟩, by omega⟩
   ·rw [getD_set]
    by_cases hkk : (i - low.length + j).toNat = k
    ·rw [if_pos ⟨hkk, by omega⟩, hkk, htodo k (by omega), show k + low.length - i.toNat = j.toNat by omega]
    ·rw [if_neg (by omega)]; exact hdone k k0 (by omega)
   ·rw [getD_set, if_neg (by omega)]
    exact htodo k (by omega)
  ·try simp only [zbA] at h9
   refine tE ?_
   refine tR fun _ _ _ => ?_
   iterate 2 refine pV ?_
   refine sV (rIdxI rfl rfl rfl (by omega) (by omega) (by omega)) ?_
   refine eV (eStI rfl rfl rfl rfl (by omega) ?_)
   refine tR fun _ _ _ => ?_
   refine pV ?_
   refine sV (rSub rfl rfl rfl (by omega) (by omega)) ?_
   refine pV ?_
   refine ⟨i - 1, r2.set i.toNat 0, ⟨rfl, rfl, rfl, rfl, rfl, trivial⟩, by first | exact cs _ _ | exact CSub.refl _, ?_⟩
   have hjd : j = low.length := by omega
   have hset : r2.set i.toNat 0 = dstep p low r i.toNat := dstep_of (by simp; omega) (fun k hk => by
    rw [getD_set]
    unfold dent
    by_cases hki : i.toNat = k
    ·rw [if_pos ⟨hki, by omega⟩, if_pos hki.symm]
    ·rw [if_neg (by omega), if_neg (by omega)]
     by_cases hkr : i.toNat ≤ k + low.length ∧ k < i.toNat
     ·rw [if_pos hkr]; exact hdone k (by omega) (by omega)
     ·rw [if_neg hkr]; exact htodo k (by omega))
   refine ⟨⟨by omega, by omega, by simp; omega, by rw [hset]; exact dstep_in (by omega) hri, ?_⟩, by omega⟩
   rw [hset, ← hrd, show (i + 1 - low.length).toNat = (i - 1 + 1 - low.length).toNat + 1 by omega, dloop, show low.length + (i - 1 + 1 - low.length).toNat = i.toNat by omega]
 ·try simp only [zbA] at h5
  refine tE ?_
  refine tS ?_
  refine tS ?_
  have him : i = low.length - 1 := by omega
  rw [him, show ((low.length : Int) - 1 + 1 - low.length).toNat = 0 by omega, dloop] at hrd
  refine tR fun _ _ _ => ?_
  refine pV ?_
  refine tB ?_
  refine tr_loop1 (fun (k : Int) => [(8, .slice A3a (mod.length + 1) c3a), (12, .int .i64 k)]) (fun (k : Int) => [ow A3a 3 c3a (ints r)]) (fun (k : Int) => 0 ≤ k ∧ k ≤ mod.length + 1 ∧ ∀ n : Nat, (n : Int) < k → r.getD n 0 = 0) (fun (k : Int) => (mod.length + 1 - k).toNat) (0) ⟨rfl, rfl, trivial⟩ (by first | exact cs _ _ | exact CSub.refl _) (⟨by omega, by omega, fun n hn => by omega⟩) (fun k hI => ?_)
  obtain ⟨hk0, hk1, hk2⟩ := hI
  refine tS ?_
  refine tS ?_
  refine tR fun _ _ _ => ?_
  iterate 2 refine pV ?_
  refine sV (rLen rfl rfl) ?_
  refine pV ?_
  refine tC rfl (fun h14 => ?_) (fun h14 => ?_)
  ·try simp only [zbA] at h14
   refine tK ?_
   refine tS ?_
   refine tB ?_
   refine tS ?_
   refine tR fun _ _ _ => ?_
   iterate 2 refine pV ?_
   refine sV (rIdxI rfl rfl rfl (by omega) (by omega) (by omega)) ?_
   refine sV (rLdI rfl rfl (by omega)) ?_
   refine pV ?_
   refine tC rfl (fun h16 => ?_) (fun h16 => ?_)
   ·try simp only [zbA] at h16
    refine tS ?_
    refine tR fun _ _ _ => ?_
    refine pV ?_
    exact tr_ret ⟨trivial, _, _, rfl, ⟨by rw [bDiv_false (k := k.toNat) (by rw [← hrd]; exact h16)], rfl⟩, CSub.nil _, trivial⟩
   ·try simp only [zbA] at h16
    refine tK ?_
    refine tR fun _ _ _ => ?_
    refine pV ?_
    refine sV (rAdd rfl rfl rfl (by omega) (by omega)) ?_
    refine pV ?_
    refine ⟨k + 1, ⟨rfl, rfl, trivial⟩, by first | exact cs _ _ | exact CSub.refl _, ?_⟩
    exact ⟨⟨by omega, by omega, fun n hn => by
     by_cases hnk : (n : Int) = k
     ·have : n = k.toNat := by omega
      rw [this]; omega
     ·exact hk2 n (by omega)⟩, by omega⟩
  ·try simp only [zbA] at h14
   refine tE ?_
   refine tS ?_
   refine tR fun _ _ _ => ?_
   refine pV ?_
   exact tr_ret ⟨trivial, _, _, rfl, ⟨by rw [bDiv_true (fun n hn => by rw [← hrd]; exact hk2 n (by rw [← hrd] at hn; omega))], rfl⟩, CSub.nil _, trivial⟩
theorem ref_irr_ent : Enters Try.prog 54 := enters_of Try.func54 (by kernel_rfl) (by kernel_rfl)
theorem ref_irr (B : Option Addr) (cB : Nat) (mod : List Int) (p : Int) (hp : 2 ≤ p) (hp2 : p ≤ 256) (hl2 : 2 ≤ mod.length) (h9 : mod.length ≤ 64) (hq : pw p mod.length ≤ 256) (hmod : AllIn p mod) :
  Pure Try.prog 54 #[.slice B mod.length cB, .int .i64 p] [ro B (ints mod)] (isV (.bool (bIrr p mod))) := by
 refine pure_of (args := [.slice B mod.length cB, .int .i64 p]) 30 Try.func54 rfl rfl rfl ref_irr_ent ⟨id, trivial⟩ (fun w0 => ?_)
 refine tS ?_
 refine tR fun _ _ _ => ?_
 refine pV ?_
 refine tS ?_
 refine tR fun _ _ _ => ?_
 refine pV ?_
 refine tS ?_
 refine tS ?_
 refine tR fun _ _ _ => ?_
 refine pV ?_
 refine tB ?_
 refine tr_loop2 (fun (d : Int) (cn : Int) => [(0, .slice B mod.length cB), (1, .int .i64 p), (5, .int .i64 cn), (6, .int .i64 d)]) (fun (d : Int) (cn : Int) => [ro B (ints mod)]) (fun (d : Int) (cn : Int) => 1 ≤ d ∧ 2 * d ≤ mod.length + 2 ∧ cn = pw p (d - 1) ∧ ∀ e : Nat, 1 ≤ e → (e : Int) < d → ∀ v : Int, 0 ≤ v → v < p ^ e → bDiv p (digs p e v) mod = false) (fun (d : Int) (cn : Int) => (mod.length + 2 - d).toNat) (1) (1) ⟨rfl, rfl, rfl, rfl, trivial⟩ (by first | exact cs _ _ | exact CSub.refl _) (⟨by omega, by omega, by simp [pw], fun e e0 e1 => by omega⟩) (fun d cn hI => ?_)
 obtain ⟨hd0, hd1, hcn, hno⟩ := hI
 have hps := pw_succ p (k := d - 1) (by omega)
 rw [show d - 1 + 1 = d by omega] at hps
 have hpd := pw_mono (p := p) (by omega) (a := d) (b := mod.length) (by omega)
 have hpd1 := pw_mono (p := p) (by omega) (a := d - 1) (b := mod.length) (by omega)
 have hpp := pw_pos (p := p) (by omega) (d - 1)
 have hmb := fun h : pw p (d - 1) ≤ 256 => mul_bd0 (pw p (d - 1)) p 256 256 (by omega) h (by omega) (by omega)
 have hmb2 := hmb (Int.le_trans (hpd1 (by omega)) hq)
 rw [← hcn] at hmb2 hps
 refine tS ?_
 refine tS ?_
 refine tR fun _ _ _ => ?_
 refine pV ?_
 refine sV (rMul rfl rfl rfl (by omega) (by omega)) ?_
 refine pV ?_
 refine sV (rLen rfl rfl) ?_
 refine pV ?_
 refine tC rfl (fun h3 => ?_) (fun h3 => ?_)
 ·try simp only [zbA] at h3
  refine tK ?_
  refine tS ?_
  refine tB ?_
  refine tS ?_
  refine tR fun _ _ _ => ?_
  iterate 2 refine pV ?_
  refine sV (rMul rfl rfl rfl (by omega) (by omega)) ?_
  refine pV ?_
  refine tS ?_
  refine tR fun _ _ _ => ?_
  refine pV ?_
  refine tB ?_
  refine tr_loop1 (fun (v : Int) => [(0, .slice B mod.length cB), (1, .int .i64 p), (5, .int .i64 (cn * p)), (6, .int .i64 d), (7, .int .i64 v)]) (fun (v : Int) => [ro B (ints mod)]) (fun (v : Int) => 0 ≤ v ∧ v ≤ cn * p ∧ ∀ v2, 0 ≤ v2 → v2 < v → bDiv p (digs p d.toNat v2) mod = false) (fun (v : Int) => (cn * p - v).toNat) (0) ⟨rfl, rfl, rfl, rfl, rfl, trivial⟩ (by first | exact cs _ _ | exact CSub.refl _) (⟨by omega, by omega, fun v2 h1 h2 => by omega⟩) (fun v hI => ?_)
  obtain ⟨hv0, hv1, hnv⟩ := hI
  have hdl := digs_length p d.toNat v
  have hdi := digs_in (p := p) (by omega) d.toNat v
  refine tS ?_
  refine tS ?_
  refine tR fun _ _ _ => ?_
  iterate 3 refine pV ?_
  refine tC rfl (fun h7 => ?_) (fun h7 => ?_)
  ·try simp only [zbA] at h7
   refine tK ?_
   refine tS ?_
   refine tB ?_
   refine tS ?_
   refine tR fun _ _ _ => ?_
   iterate 3 refine pV ?_
   refine eV (eCall1 rfl rfl rfl (ref_digits _ (by omega) (by omega) _ (by omega) (by omega) _ (by omega) (by omega)) ⟨rfl, rfl, rfl, trivial⟩ ?_)
   rintro _ _ ⟨B9, rfl, rfl⟩
   iterate 2 refine pV ?_
   refine eV (eCallV rfl rfl rfl (ref_divides _ _ _ (digs p d.toNat v) _ _ _ _ hp hp2 (by omega) (by omega) (by omega) (by omega) hdi hmod) ⟨rfl, rfl, rfl, trivial⟩ ?_)
   refine tC rfl (fun h9 => ?_) (fun h9 => ?_)
   ·try simp only [zbA] at h9
    have h9a := h9
    refine tS ?_
    refine tR fun _ _ _ => ?_
    refine pV ?_
    exact tr_ret ⟨trivial, _, _, rfl, ⟨by rw [bIrr_false (fun hi => by
     have h5 := hi d.toNat (by omega) (by omega) v hv0 (by rw [← hps] at h7; exact h7)
     rw [h9a] at h5; cases h5)], rfl⟩, CSub.nil _, trivial⟩
   ·try simp only [zbA] at h9
    have h9a := h9
    refine tK ?_
    refine tR fun _ _ _ => ?_
    refine pV ?_
    refine sV (rAdd rfl rfl rfl (by omega) (by omega)) ?_
    refine pV ?_
    refine ⟨v + 1, ⟨rfl, rfl, rfl, rfl, rfl, trivial⟩, by first | exact cs _ _ | exact CSub.refl _, ?_⟩
    exact ⟨⟨by omega, by omega, fun v2 h1 h2 => by
     by_cases hvv : v2 = v
     ·rw [hvv]; exact h9a
     ·exact hnv v2 h1 (by omega)⟩, by omega⟩
  ·try simp only [zbA] at h7
   refine tE ?_
   refine tR fun _ _ _ => ?_
   refine pV ?_
   refine sV (rAdd rfl rfl rfl (by omega) (by omega)) ?_
   refine pV ?_
   refine ⟨d + 1, cn * p, ⟨rfl, rfl, rfl, rfl, trivial⟩, by first | exact cs _ _ | exact CSub.refl _, ?_⟩
   refine ⟨⟨by omega, by omega, by rw [show d + 1 - 1 = d by omega, hps], fun e e0 e1 v2 v0 v1 => ?_⟩, by omega⟩
   by_cases hed : (e : Int) = d
   ·have he : e = d.toNat := by omega
    subst he
    exact hnv v2 v0 (by rw [show v = pw p d by omega]; exact v1)
   ·exact hno e e0 (by omega) v2 v0 v1
 ·try simp only [zbA] at h3
  refine tE ?_
  refine tS ?_
  refine tR fun _ _ _ => ?_
  refine pV ?_
  exact tr_ret ⟨trivial, _, _, rfl, ⟨by rw [bIrr_true (fun e e1 e2 v2 v0 v1 => hno e e1 (by omega) v2 v0 v1)], rfl⟩, CSub.nil _, trivial⟩
theorem ref_fldCheck_ent : Enters Try.prog 22 := enters_of Try.func22 (by kernel_rfl) (by kernel_rfl)
theorem ref_fldCheck (p m : Int) (A : Option Addr) (c : Nat) (mod : List Int) (hl9 : mod.length ≤ 17592186044415) :
  Pure Try.prog 22 #[.agg #[.int .i64 p, .int .i64 m, .slice A mod.length c]] [ro A (ints mod)] (isV (.int .i64 (chkF p m mod))) := by
 have hord := @ord_cases p m
 refine pure_of (args := [.agg #[.int .i64 p, .int .i64 m, .slice A mod.length c]]) 54 Try.func22 rfl rfl rfl ref_fldCheck_ent ⟨id, trivial⟩ (fun w0 => ?_)
 refine tS ?_
 refine tR fun _ _ _ => ?_
 refine eV (eBox rfl rfl rfl rfl rfl (fun p0 => ?_))
 refine pV ?_
 refine tS ?_
 refine tS ?_
 refine tR fun _ _ _ => ?_
 refine sV (rLdS rfl rfl rfl) ?_
 refine eV (eCallV rfl rfl rfl (ref_order _ _ _ _ _) ⟨rfl, trivial⟩ ?_)
 iterate 2 refine pV ?_
 refine stg rfl rfl rfl rfl rfl (fun hb => by (have hq := hb; try simp only [zbA] at hq); exact rFld rfl rfl) ?_
 refine stg rfl rfl rfl rfl rfl (fun hb => by (have hq := hb; try simp only [zbA] at hq); exact rLdF rfl (evg rfl hb) rfl) ?_
 refine efg rfl rfl rfl rfl rfl (fun hb => by (have hq := hb; try simp only [zbA] at hq); exact eCallV rfl rfl rfl (ref_prime _ (by omega) (by omega)) ⟨(evg rfl hb), trivial⟩ ⟨rfl, rfl⟩) ?_
 refine stg rfl rfl rfl rfl rfl (fun hb => by (have hq := hb; try simp only [zbA] at hq); exact rNotB rfl (evg rfl hb)) ?_
 refine sV (rOrB rfl rfl rfl rfl) ?_
 refine tC rfl (fun h1 => ?_) (fun h1 => ?_)
 ·try simp only [zbA] at h1
  refine tS ?_
  refine tR fun _ _ _ => ?_
  refine pV ?_
  have hno : ¬ FldR p m mod := fun h => by
   rcases h1 with h1 | h1
   ·exact not_shp_ord h1 h.1
   ·rw [bIsP_true h.1.2] at h1; cases h1
  exact tr_ret ⟨trivial, _, _, rfl, ⟨by rw [chkF_no hno], rfl⟩, CSub.nil _, trivial⟩
 ·try simp only [zbA] at h1
  have hcc := hord (by omega)
  obtain ⟨hp2, hp9, hm1, hm8, hqq, hoe⟩ := hcc
  have hprime := (bIsP_iff p).1 h1.2
  refine tK ?_
  refine tS ?_
  refine tS ?_
  refine tR fun _ _ _ => ?_
  refine sV (rFld rfl rfl) ?_
  refine sV (rLdF rfl rfl rfl) ?_
  refine pV ?_
  refine tC rfl (fun h3 => ?_) (fun h3 => ?_)
  ·try simp only [zbA] at h3
   refine tS ?_
   refine tS ?_
   refine tR fun _ _ _ => ?_
   refine sV (rFld rfl rfl) ?_
   refine sV (rLdF rfl rfl rfl) ?_
   refine sV (rLen rfl rfl) ?_
   refine pV ?_
   refine tC rfl (fun h4 => ?_) (fun h4 => ?_)
   ·try simp only [zbA] at h4
    refine tS ?_
    refine tR fun _ _ _ => ?_
    refine pV ?_
    exact tr_ret ⟨trivial, _, _, rfl, ⟨by rw [chkF_no (fun h => by
     rcases h.1.1.low with h2 | h2
     ·rw [h2.2] at h4; exact h4 rfl
     ·omega)], rfl⟩, CSub.nil _, trivial⟩
   ·try simp only [zbA] at h4
    refine tK ?_
    refine tS ?_
    refine tR fun _ _ _ => ?_
    refine pV ?_
    have hm0 : mod = [] := List.eq_nil_of_length_eq_zero (by omega)
    exact tr_ret ⟨trivial, _, _, rfl, ⟨by rw [chkF_ok ⟨⟨⟨hp2, hp9, hm1, hm8, hqq, .inl ⟨h3, hm0⟩, by rw [hm0]; exact fun c hc => by simp at hc⟩, hprime⟩, .inl h3⟩], rfl⟩, CSub.nil _, trivial⟩
  ·try simp only [zbA] at h3
   refine tK ?_
   refine tS ?_
   refine tS ?_
   refine tR fun _ _ _ => ?_
   refine sV (rFld rfl rfl) ?_
   refine sV (rLdF rfl rfl rfl) ?_
   refine sV (rLen rfl rfl) ?_
   refine sV (rFld rfl rfl) ?_
   refine sV (rLdF rfl rfl rfl) ?_
   refine pV ?_
   refine tC rfl (fun h7 => ?_) (fun h7 => ?_)
   ·try simp only [zbA] at h7
    refine tS ?_
    refine tR fun _ _ _ => ?_
    refine pV ?_
    exact tr_ret ⟨trivial, _, _, rfl, ⟨by rw [chkF_no (fun h => by
     rcases h.1.1.low with h2 | h2
     ·exact h3 h2.1
     ·exact h7 h2.2)], rfl⟩, CSub.nil _, trivial⟩
   ·try simp only [zbA] at h7
    refine tK ?_
    refine tS ?_
    refine tS ?_
    refine tR fun _ _ _ => ?_
    refine pV ?_
    refine tB ?_
    refine tr_loop1 (fun (k : Int) => [(1, .pointer (some p0)), (3, .int .i64 k)]) (fun (k : Int) => [blk p0 24 [.int .i64 p, .int .i64 m, .slice A mod.length c], ro A (ints mod)]) (fun (k : Int) => 0 ≤ k ∧ k ≤ m ∧ AllIn p (mod.take k.toNat)) (fun (k : Int) => (m - k).toNat) (0) ⟨rfl, rfl, trivial⟩ (by first | exact cs _ _ | exact CSub.refl _) (⟨by omega, by omega, fun c hc => by simp at hc⟩) (fun k hI => ?_)
    obtain ⟨hk0, hk1, hkin⟩ := hI
    refine tS ?_
    refine tS ?_
    refine tR fun _ _ _ => ?_
    refine pV ?_
    refine sV (rFld rfl rfl) ?_
    refine sV (rLdF rfl rfl rfl) ?_
    refine pV ?_
    refine tC rfl (fun h10 => ?_) (fun h10 => ?_)
    ·try simp only [zbA] at h10
     refine tK ?_
     refine tS ?_
     refine tB ?_
     refine tS ?_
     refine tr_draw [0, 1, 2, 3, 4, 5, 6, 7, 8, 9, 10, 11, 12, 13, 14, 15] [] mixed (by kernel_rfl) fun _ _ _ => ?_
     refine sV (rFld rfl rfl) ?_
     refine sV (rLdF rfl rfl rfl) ?_
     refine pV ?_
     refine sV (rIdxI rfl rfl rfl (by omega) (by omega) (by omega)) ?_
     refine sV (rLdI rfl rfl (by omega)) ?_
     iterate 2 refine pV ?_
     refine stg rfl rfl rfl rfl rfl (fun hb => by (have hq := hb; try simp only [zbA] at hq); exact rFld rfl rfl) ?_
     refine stg rfl rfl rfl rfl rfl (fun hb => by (have hq := hb; try simp only [zbA] at hq); exact rLdF rfl (evg rfl hb) rfl) ?_
     refine stg rfl rfl rfl rfl rfl (fun hb => by (have hq := hb; try simp only [zbA] at hq); exact rMove rfl rfl) ?_
     refine stg rfl rfl rfl rfl rfl (fun hb => by (have hq := hb; try simp only [zbA] at hq); exact rIdxI rfl (evg rfl hb) (evg rfl hb) (by omega) (by omega) (by omega)) ?_
     refine stg rfl rfl rfl rfl rfl (fun hb => by (have hq := hb; try simp only [zbA] at hq); exact rLdI rfl (evg rfl hb) (by omega)) ?_
     refine stg rfl rfl rfl rfl rfl (fun hb => by (have hq := hb; try simp only [zbA] at hq); exact rFld rfl rfl) ?_
     refine stg rfl rfl rfl rfl rfl (fun hb => by (have hq := hb; try simp only [zbA] at hq); exact rLdF rfl (evg rfl hb) rfl) ?_
     refine stg rfl rfl rfl rfl rfl (fun hb => by (have hq := hb; try simp only [zbA] at hq); exact rGeq rfl (evg rfl hb) (evg rfl hb)) ?_
     refine sV (rOrB rfl rfl rfl rfl) ?_
     refine tC rfl (fun h12 => ?_) (fun h12 => ?_)
     ·try simp only [zbA] at h12
      refine tS ?_
      refine tR fun _ _ _ => ?_
      refine pV ?_
      exact tr_ret ⟨trivial, _, _, rfl, ⟨by rw [chkF_no (fun h => by
       have := h.1.1.ent.get (by omega) k.toNat
       omega)], rfl⟩, CSub.nil _, trivial⟩
     ·try simp only [zbA] at h12
      refine tK ?_
      refine tR fun _ _ _ => ?_
      refine pV ?_
      refine sV (rAdd rfl rfl rfl (by omega) (by omega)) ?_
      refine pV ?_
      refine ⟨k + 1, ⟨rfl, rfl, trivial⟩, by first | exact cs _ _ | exact CSub.refl _, ?_⟩
      refine ⟨⟨by omega, by omega, fun z hz => ?_⟩, by omega⟩
      rw [take_next 0 mod k hk0 (by omega)] at hz
      rcases List.mem_append.1 hz with h | h
      ·exact hkin z h
      ·simp only [List.mem_singleton] at h
       rw [h]
       omega
    ·try simp only [zbA] at h10
     refine tE ?_
     refine tS ?_
     refine tS ?_
     rw [take_len mod k (by omega)] at hkin
     have hml : (mod.length : Int) = m := by omega
     have hqm : pw p mod.length ≤ 256 := by rw [hml]; exact hqq
     have hshp : ShpP p m mod := ⟨⟨hp2, hp9, hm1, hm8, hqq, .inr ⟨by omega, by omega⟩, hkin⟩, hprime⟩
     refine tR fun _ _ _ => ?_
     refine sV (rFld rfl rfl) ?_
     refine sV (rLdF rfl rfl rfl) ?_
     refine sV (rFld rfl rfl) ?_
     refine sV (rLdF rfl rfl rfl) ?_
     refine eV (eCallV rfl rfl rfl (ref_irr _ _ _ _ (by omega) (by omega) (by omega) (by omega) (by omega) (by assumption)) ⟨rfl, rfl, trivial⟩ ?_)
     refine sV (rNotB rfl rfl) ?_
     refine tC rfl (fun h14 => ?_) (fun h14 => ?_)
     ·try simp only [zbA] at h14
      skip
      refine tS ?_
      refine tR fun _ _ _ => ?_
      refine pV ?_
      exact tr_ret ⟨trivial, _, _, rfl, ⟨by rw [chkF_no (fun h => by
       rcases h.2 with h2 | h2
       ·exact h3 h2
       ·rw [bIrr_true h2] at h14; cases h14)], rfl⟩, CSub.nil _, trivial⟩
     ·try simp only [zbA] at h14
      refine tK ?_
      refine tS ?_
      refine tR fun _ _ _ => ?_
      refine pV ?_
      exact tr_ret ⟨trivial, _, _, rfl, ⟨by rw [chkF_ok ⟨hshp, .inr ((bIrr_iff p mod).1 h14)⟩], rfl⟩, CSub.nil _, trivial⟩
end Go.Proofs.Ytdkahdehodopoaa

namespace Go.Proofs.Ytdkahdehodopoaa
def inI (q x : Int) : Int := if 0 ≤ x ∧ x < q then x else 0
theorem inI_bd {q : Int} (hq : 1 ≤ q) (x : Int) : 0 ≤ inI q x ∧ inI q x < q := by unfold inI; split <;> omega
theorem inI_in {q x : Int} (h0 : 0 ≤ x) (h1 : x < q) : inI q x = x := by rw [inI, if_pos ⟨h0, h1⟩]
def trimL : List Int → List Int
 | [] => []
 | x :: xs => match trimL xs with
  | [] => if x = 0 then [] else [x]
  | y :: ys => x :: y :: ys
theorem trimL_snoc0 : ∀ xs : List Int, trimL (xs ++ [0]) = trimL xs
 | [] => rfl
 | x :: xs => by rw [List.cons_append, trimL, trimL_snoc0 xs, trimL]
theorem trimL_snoc {y : Int} (hy : y ≠ 0) : ∀ xs : List Int, trimL (xs ++ [y]) = xs ++ [y]
 | [] => by simp [trimL, hy]
 | x :: xs => by
  rw [List.cons_append, trimL, trimL_snoc hy xs]
  cases xs <;> rfl
theorem trimL_take : ∀ xs : List Int, trimL xs = xs.take (trimL xs).length
 | [] => rfl
 | x :: xs => by
  have ih := trimL_take xs
  rw [trimL]
  split
  ·split <;> simp
  ·rename_i y ys h
   rw [h] at ih
   simp only [List.length_cons, List.take_succ_cons]
   rw [← List.length_cons (a := y), ← ih]
theorem trimL_split (xs : List Int) : xs = trimL xs ++ xs.drop (trimL xs).length := by
 conv => lhs; rw [← List.take_append_drop (trimL xs).length xs]
 rw [← trimL_take]
theorem trim_step {xs : List Int} {k : Nat} (hk : 0 < k) (hkl : k ≤ xs.length) (h : trimL (xs.take k) = trimL xs) (h0 : xs.getD (k - 1) 0 = 0) : trimL (xs.take (k - 1)) = trimL xs := by
 rw [← h]
 have h1 : xs.take k = xs.take (k - 1) ++ [0] := by
  conv => lhs; rw [show k = (k - 1) + 1 by omega, List.take_add_one]
  rw [List.getD_eq_getElem?_getD, List.getElem?_eq_getElem (by omega)] at h0
  rw [List.getElem?_eq_getElem (by omega)]
  simp only [Option.getD_some] at h0
  rw [h0]; rfl
 rw [h1, trimL_snoc0]
theorem trim_done {xs : List Int} {k : Nat} (hkl : k ≤ xs.length) (h : trimL (xs.take k) = trimL xs) (h0 : k = 0 ∨ xs.getD (k - 1) 0 ≠ 0) : (trimL xs).length = k := by
 rw [← h]
 rcases Nat.eq_zero_or_pos k with hk | hk
 ·subst hk; simp [trimL]
 ·rcases h0 with h0 | h0
  ·omega
  ·have h1 : xs.take k = xs.take (k - 1) ++ [xs.getD (k - 1) 0] := by
    conv => lhs; rw [show k = (k - 1) + 1 by omega, List.take_add_one]
    rw [List.getD_eq_getElem?_getD, List.getElem?_eq_getElem (by omega)]
    rfl
   rw [h1, trimL_snoc h0]
   simp
   omega
def canL (q : Int) (l : List Int) : List Int := trimL (l.map (inI q))
end Go.Proofs.Ytdkahdehodopoaa

namespace Go.Proofs.Ytdkahdehodopoaa
abbrev Row := Nat → Int
def Row.add (u v : Row) : Row := fun j => u j + v j
def Row.sm (c : Int) (v : Row) : Row := fun j => c * v j
def Row.z : Row := fun _ => 0
def Sup (n : Nat) (v : Row) : Prop := ∀ j, n ≤ j → v j = 0
structure Lin (T : Row → Row) : Prop where
 add : ∀ u v, T (u.add v) = (T u).add (T v)
 sm : ∀ c v, T (Row.sm c v) = Row.sm c (T v)
theorem Lin.z {T : Row → Row} (h : Lin T) : T Row.z = Row.z := by
 have := h.sm 0 Row.z
 have e : Row.sm 0 Row.z = Row.z := by funext j; simp [Row.sm, Row.z]
 rw [e] at this
 rw [this]; funext j; simp [Row.sm, Row.z]
def it (T : Row → Row) : Nat → Row → Row
 | 0, v => v
 | n + 1, v => T (it T n v)
theorem it_lin {T : Row → Row} (h : Lin T) : ∀ n, Lin (it T n)
 | 0 => ⟨fun _ _ => rfl, fun _ _ => rfl⟩
 | n + 1 => ⟨fun u v => by simp only [it, (it_lin h n).add, h.add], fun c v => by simp only [it, (it_lin h n).sm, h.sm]⟩
theorem it_comm (T : Row → Row) : ∀ (n : Nat) (v : Row), it T n (T v) = T (it T n v)
 | 0, _ => rfl
 | n + 1, v => by simp only [it, it_comm T n v]
def pl (T : Row → Row) : Nat → Row → Row → Row
 | 0, _, _ => Row.z
 | n + 1, Q, v => (pl T n Q v).add (Row.sm (Q n) (it T n v))
theorem Row.add_z (u : Row) : u.add Row.z = u := by funext j; simp [Row.add, Row.z]
theorem Row.z_add (u : Row) : Row.z.add u = u := by funext j; simp [Row.add, Row.z]
theorem Row.add_comm (u v : Row) : u.add v = v.add u := by funext j; simp only [Row.add]; omega
theorem Row.add_assoc (u v w : Row) : (u.add v).add w = u.add (v.add w) := by funext j; simp only [Row.add]; omega
theorem Row.sm_z (c : Int) : Row.sm c Row.z = Row.z := by funext j; simp [Row.sm, Row.z]
theorem Row.zero_sm (v : Row) : Row.sm 0 v = Row.z := by funext j; simp [Row.sm, Row.z]
theorem Row.sm_add (c : Int) (u v : Row) : Row.sm c (u.add v) = (Row.sm c u).add (Row.sm c v) := by funext j; simp [Row.sm, Row.add, Int.mul_add]
theorem Row.add_sm (c d : Int) (u : Row) : Row.sm (c + d) u = (Row.sm c u).add (Row.sm d u) := by funext j; simp [Row.sm, Row.add, Int.add_mul]
theorem Row.sm_sm (c d : Int) (u : Row) : Row.sm c (Row.sm d u) = Row.sm (c * d) u := by funext j; simp [Row.sm, Int.mul_assoc]
theorem Row.add4 (a b c d : Row) : (a.add b).add (c.add d) = (a.add c).add (b.add d) := by funext j; simp only [Row.add]; omega
theorem pl_lin {T : Row → Row} (h : Lin T) : ∀ n Q, Lin (pl T n Q)
 | 0, _ => ⟨fun _ _ => (Row.add_z _).symm, fun c _ => (Row.sm_z c).symm⟩
 | n + 1, Q => ⟨fun u v => by
   simp only [pl, (pl_lin h n Q).add, (it_lin h n).add, Row.sm_add]
   exact Row.add4 _ _ _ _, fun c v => by
   simp only [pl, (pl_lin h n Q).sm, (it_lin h n).sm, Row.sm_add, Row.sm_sm, Int.mul_comm]⟩
theorem pl_comm {T : Row → Row} (h : Lin T) : ∀ (n : Nat) (Q v : Row), pl T n Q (T v) = T (pl T n Q v)
 | 0, _, _ => h.z.symm
 | n + 1, Q, v => by simp only [pl, pl_comm h n Q v, it_comm, h.add, h.sm]
theorem pl_it {T : Row → Row} (h : Lin T) (n : Nat) (Q : Row) : ∀ (k : Nat) (v : Row), pl T n Q (it T k v) = it T k (pl T n Q v)
 | 0, _ => rfl
 | k + 1, v => by simp only [it, pl_comm h, pl_it h n Q k v]
theorem pl_pl {T : Row → Row} (h : Lin T) (n : Nat) (Q : Row) : ∀ (m : Nat) (R v : Row), pl T n Q (pl T m R v) = pl T m R (pl T n Q v)
 | 0, _, _ => (pl_lin h n Q).z
 | m + 1, R, v => by simp only [pl, (pl_lin h n Q).add, (pl_lin h n Q).sm, pl_pl h n Q m R v, pl_it h]
theorem pl_addQ {T : Row → Row} : ∀ (n : Nat) (Q Q' v : Row), pl T n (Q.add Q') v = (pl T n Q v).add (pl T n Q' v)
 | 0, _, _, _ => (Row.add_z _).symm
 | n + 1, Q, Q', v => by
  simp only [pl, pl_addQ n Q Q' v]
  rw [show Q.add Q' n = Q n + Q' n from rfl, Row.add_sm]
  exact Row.add4 _ _ _ _
theorem pl_smQ {T : Row → Row} : ∀ (n : Nat) (c : Int) (Q v : Row), pl T n (Row.sm c Q) v = Row.sm c (pl T n Q v)
 | 0, c, _, _ => (Row.sm_z c).symm
 | n + 1, c, Q, v => by
  simp only [pl, pl_smQ n c Q v, Row.sm_add, Row.sm_sm]
  rfl
theorem pl_cong {T : Row → Row} : ∀ (n : Nat) (Q Q' v : Row), (∀ i, i < n → Q i = Q' i) → pl T n Q v = pl T n Q' v
 | 0, _, _, _, _ => rfl
 | n + 1, Q, Q', v, h => by simp only [pl, pl_cong n Q Q' v (fun i hi => h i (by omega)), h n (by omega)]
theorem pl_bound {T : Row → Row} {n : Nat} {Q : Row} (hQ : Sup n Q) (v : Row) : ∀ k, pl T (n + k) Q v = pl T n Q v
 | 0 => rfl
 | k + 1 => by
  rw [← Nat.add_assoc, pl, pl_bound hQ v k, hQ (n + k) (by omega), Row.zero_sm, Row.add_z]
theorem pl_bound' {T : Row → Row} {n m : Nat} {Q : Row} (hQ : Sup n Q) (v : Row) (h : n ≤ m) : pl T m Q v = pl T n Q v := by
 have := pl_bound (T := T) hQ v (m - n)
 rwa [show n + (m - n) = m by omega] at this
theorem pl_z {T : Row → Row} (h : Lin T) (n : Nat) (Q : Row) : pl T n Q Row.z = Row.z := (pl_lin h n Q).z
def sh (v : Row) : Row := fun j => if j = 0 then 0 else v (j - 1)
theorem sh_lin : Lin sh := ⟨fun u v => by funext j; simp only [sh, Row.add]; split <;> omega, fun c v => by funext j; simp only [sh, Row.sm]; split <;> simp⟩
def e0 : Row := fun j => if j = 0 then 1 else 0
def ee (k : Nat) : Row := fun j => if j = k then 1 else 0
theorem sh_ee (k : Nat) : sh (ee k) = ee (k + 1) := by
 funext j
 simp only [sh, ee]
 by_cases h : j = 0
 ·simp [h]
 ·by_cases h2 : j - 1 = k
  ·rw [if_neg h, if_pos h2, if_pos (by omega)]
  ·rw [if_neg h, if_neg h2, if_neg (by omega)]
theorem sh_sup {n : Nat} {v : Row} (h : Sup n v) : Sup (n + 1) (sh v) := fun j hj => by
 simp only [sh]; rw [if_neg (by omega)]; exact h _ (by omega)
theorem it_sh_sup {n : Nat} {v : Row} (h : Sup n v) : ∀ k, Sup (n + k) (it sh k v)
 | 0 => h
 | k + 1 => by
  have := sh_sup (it_sh_sup h k)
  rwa [Nat.add_assoc] at this
theorem it_sh (v : Row) : ∀ (k j : Nat), it sh k v j = if j < k then 0 else v (j - k)
 | 0, j => by simp [it]
 | k + 1, j => by
  simp only [it, sh, it_sh v k]
  by_cases h : j = 0
  ·simp [h]
  ·rw [if_neg h]
   by_cases h2 : j - 1 < k
   ·rw [if_pos h2, if_pos (by omega)]
   ·rw [if_neg h2, if_neg (by omega), show j - 1 - k = j - (k + 1) by omega]
theorem pl_sh {T : Row → Row} (h : Lin T) : ∀ (n : Nat) (f v : Row), pl T (n + 1) (sh f) v = T (pl T n f v)
 | 0, f, v => by
  simp only [pl]
  rw [show sh f 0 = 0 from rfl, Row.zero_sm, Row.add_z, h.z]
 | n + 1, f, v => by
  rw [pl, pl_sh h n f v]
  rw [show sh f (n + 1) = f n from rfl]
  simp only [pl, h.add, h.sm, it]
theorem pl_it_sh {T : Row → Row} (h : Lin T) (m : Nat) (g v : Row) : ∀ (i : Nat), pl T (m + i) (it sh i g) v = it T i (pl T m g v)
 | 0 => rfl
 | i + 1 => by
  show pl T (m + i + 1) (sh (it sh i g)) v = T (it T i (pl T m g v))
  rw [pl_sh h, pl_it_sh h m g v i]
theorem pl_mul {T : Row → Row} (h : Lin T) {m : Nat} {g : Row} (hg : Sup m g) (Q v : Row) (k : Nat) : ∀ (n : Nat), n ≤ k + 1 → pl T (m + k) (pl sh n Q g) v = pl T n Q (pl T m g v)
 | 0, _ => by
  show pl T (m + k) Row.z v = Row.z
  have := pl_bound' (T := T) (n := 0) (m := m + k) (Q := Row.z) (fun _ _ => rfl) v (by omega)
  rw [this]; rfl
 | n + 1, hn => by
  simp only [pl, pl_addQ, pl_smQ, pl_mul h hg Q v k n (by omega)]
  congr 2
  rw [← pl_it_sh h]
  exact pl_bound' (it_sh_sup hg n) v (by omega)
def tm (M : Nat) (low : Row) (v : Row) : Row := fun j => if j < M then sh v j - v (M - 1) * low j else 0
theorem tm_lin (M : Nat) (low : Row) : Lin (tm M low) := ⟨fun u v => by
  funext j
  simp only [tm, Row.add]
  split
  ·have := congrFun (sh_lin.add u v) j
   simp only [Row.add] at this
   rw [this, Int.add_mul]; omega
  ·omega, fun c v => by
  funext j
  simp only [tm, Row.sm]
  split
  ·have := congrFun (sh_lin.sm c v) j
   simp only [Row.sm] at this
   rw [this, Int.mul_sub, Int.mul_assoc]
  ·simp⟩
theorem tm_sup (M : Nat) (low v : Row) : Sup M (tm M low v) := fun j hj => by simp only [tm]; rw [if_neg (by omega)]
theorem sup_add {n : Nat} {u v : Row} (hu : Sup n u) (hv : Sup n v) : Sup n (u.add v) := fun j hj => by simp only [Row.add, hu j hj, hv j hj]; rfl
theorem sup_sm {n : Nat} {u : Row} (c : Int) (hu : Sup n u) : Sup n (Row.sm c u) := fun j hj => by simp only [Row.sm, hu j hj]; simp
theorem it_tm_sup {M : Nat} {low v : Row} (hv : Sup M v) : ∀ n, Sup M (it (tm M low) n v)
 | 0 => hv
 | n + 1 => tm_sup M low _
theorem pl_tm_sup {M : Nat} {low v : Row} (hv : Sup M v) : ∀ n Q, Sup M (pl (tm M low) n Q v)
 | 0, _ => fun _ _ => rfl
 | n + 1, Q => sup_add (pl_tm_sup hv n Q) (sup_sm _ (it_tm_sup hv n))
theorem tm_ee {M : Nat} {low : Row} {k : Nat} (hk : k + 1 < M) : tm M low (ee k) = ee (k + 1) := by
 funext j
 simp only [tm, sh_ee]
 have h1 : ee k (M - 1) = 0 := by simp only [ee]; rw [if_neg (by omega)]
 rw [h1]
 by_cases hj : j < M
 ·rw [if_pos hj]; omega
 ·rw [if_neg hj]; simp only [ee]; rw [if_neg (by omega)]
theorem it_tm_e {M : Nat} {low : Row} : ∀ (k : Nat), k < M → it (tm M low) k (ee 0) = ee k
 | 0, _ => rfl
 | k + 1, h => by
  have h1 := it_tm_e (low := low) k (show k < M by omega)
  simp only [it, h1, tm_ee h]
theorem pl_tm_e {M : Nat} {low : Row} (a : Row) : ∀ (n : Nat), n ≤ M → pl (tm M low) n a (ee 0) = fun j => if j < n then a j else 0
 | 0, _ => by funext j; simp [pl, Row.z]
 | n + 1, h => by
  funext j
  have h3 := pl_tm_e (low := low) a n (show n ≤ M by omega)
  have h4 := it_tm_e (low := low) n (show n < M by omega)
  simp only [pl, h3, h4, Row.add, Row.sm, ee]
  by_cases h1 : j < n
  ·rw [if_pos h1, if_neg (by omega), if_pos (by omega)]; omega
  ·by_cases h2 : j = n
   ·rw [if_neg h1, if_pos h2, if_pos (by omega), h2]; omega
   ·rw [if_neg h1, if_neg h2, if_neg (by omega)]; omega
theorem pl_tm_self {M : Nat} {low a : Row} (ha : Sup M a) : pl (tm M low) M a (ee 0) = a := by
 rw [pl_tm_e a M (Nat.le_refl _)]
 funext j
 split
 ·rfl
 ·exact (ha j (by omega)).symm
def fF (M : Nat) (low : Row) : Row := fun j => if j < M then low j else if j = M then 1 else 0
theorem fF_e {M : Nat} {low : Row} (hM : 1 ≤ M) : pl (tm M low) (M + 1) (fF M low) (ee 0) = Row.z := by
 rw [pl]
 have h1 : pl (tm M low) M (fF M low) (ee 0) = fun j => if j < M then low j else 0 := by
  rw [pl_tm_e _ M (Nat.le_refl _)]
  funext j
  by_cases h : j < M
  ·simp [fF, h]
  ·simp [h]
 have h2 : fF M low M = 1 := by simp [fF]
 have h3 : it (tm M low) M (ee 0) = tm M low (ee (M - 1)) := by
  obtain ⟨k, rfl⟩ : ∃ k, M = k + 1 := ⟨M - 1, by omega⟩
  have h4 := it_tm_e (low := low) k (show k < k + 1 by omega)
  simp only [it, h4]
  rfl
 rw [h1, h2, h3]
 funext j
 simp only [Row.add, Row.sm, tm, Row.z, sh_ee]
 have h4 : ee (M - 1) (M - 1) = 1 := by simp [ee]
 rw [h4]
 by_cases h : j < M
 ·rw [if_pos h, if_pos h]
  have h5 : ee (M - 1 + 1) j = 0 := by simp only [ee]; rw [if_neg (by omega)]
  rw [h5]; omega
 ·rw [if_neg h, if_neg h]; omega
theorem fF_v {M : Nat} {low v : Row} (hM : 1 ≤ M) (hv : Sup M v) : pl (tm M low) (M + 1) (fF M low) v = Row.z := by
 have h := pl_tm_self (low := low) hv
 rw [← h, pl_pl (tm_lin M low), fF_e hM, pl_z (tm_lin M low)]
def rm (M : Nat) (low a b : Row) : Row := pl (tm M low) M b a
theorem rm_comm {M : Nat} {low a b : Row} (ha : Sup M a) (hb : Sup M b) : rm M low a b = rm M low b a := by
 have h1 : rm M low a b = pl (tm M low) M b (pl (tm M low) M a (ee 0)) := by rw [pl_tm_self ha]; rfl
 rw [h1, pl_pl (tm_lin M low), pl_tm_self hb]
 rfl
theorem rm_swap {M : Nat} {low a b c : Row} : rm M low (rm M low a b) c = rm M low (rm M low a c) b := pl_pl (tm_lin M low) M c M b a
theorem rm_sup {M : Nat} {low a b : Row} (ha : Sup M a) : Sup M (rm M low a b) := pl_tm_sup ha M b
theorem rm_assoc {M : Nat} {low a b c : Row} (ha : Sup M a) (hb : Sup M b) (hc : Sup M c) : rm M low (rm M low a b) c = rm M low a (rm M low b c) := by
 rw [rm_comm ha hb, rm_swap, rm_comm (rm_sup hb) ha]
theorem rm_one {M : Nat} {low a : Row} (ha : Sup M a) (hM : 1 ≤ M) : rm M low (ee 0) a = a := pl_tm_self ha
theorem rm_addL {M : Nat} {low a b c : Row} : rm M low (a.add b) c = (rm M low a c).add (rm M low b c) := (pl_lin (tm_lin M low) M c).add a b
def Cg (p : Int) (u v : Row) : Prop := ∃ w : Row, u = v.add (Row.sm p w)
theorem Cg.refl (p : Int) (u : Row) : Cg p u u := ⟨Row.z, by rw [Row.sm_z, Row.add_z]⟩
theorem Cg.of_eq {p : Int} {u v : Row} (h : u = v) : Cg p u v := h ▸ Cg.refl p u
theorem Cg.symm {p : Int} {u v : Row} (h : Cg p u v) : Cg p v u := by
 obtain ⟨w, rfl⟩ := h
 exact ⟨Row.sm (-1) w, by funext j; simp only [Row.add, Row.sm]; grind⟩
theorem Cg.trans {p : Int} {u v w : Row} (h : Cg p u v) (k : Cg p v w) : Cg p u w := by
 obtain ⟨x, rfl⟩ := h
 obtain ⟨y, rfl⟩ := k
 exact ⟨y.add x, by rw [Row.sm_add, Row.add_assoc]⟩
theorem Cg.add {p : Int} {u v u' v' : Row} (h : Cg p u v) (k : Cg p u' v') : Cg p (u.add u') (v.add v') := by
 obtain ⟨x, rfl⟩ := h
 obtain ⟨y, rfl⟩ := k
 exact ⟨x.add y, by rw [Row.sm_add]; exact Row.add4 _ _ _ _⟩
theorem Cg.sm {p : Int} {u v : Row} (c : Int) (h : Cg p u v) : Cg p (Row.sm c u) (Row.sm c v) := by
 obtain ⟨x, rfl⟩ := h
 exact ⟨Row.sm c x, by rw [Row.sm_add, Row.sm_sm, Row.sm_sm, Int.mul_comm]⟩
theorem Cg.lin {p : Int} {u v : Row} {T : Row → Row} (hT : Lin T) (h : Cg p u v) : Cg p (T u) (T v) := by
 obtain ⟨x, rfl⟩ := h
 exact ⟨T x, by rw [hT.add, hT.sm]⟩
theorem Cg.pl {p : Int} {Q Q' u v : Row} {T : Row → Row} (hT : Lin T) (n : Nat) (hQ : Cg p Q Q') (h : Cg p u v) : Cg p (pl T n Q u) (Go.Proofs.Ytdkahdehodopoaa.pl T n Q' v) := by
 refine Cg.trans (Cg.lin (pl_lin hT n Q) h) ?_
 obtain ⟨x, rfl⟩ := hQ
 exact ⟨Go.Proofs.Ytdkahdehodopoaa.pl T n x v, by rw [pl_addQ, pl_smQ]⟩
theorem Cg.of {p : Int} {u v : Row} (h : ∀ j, u j % p = v j % p) : Cg p u v := ⟨fun j => u j / p - v j / p, by
 funext j
 have h1 := Int.mul_ediv_add_emod (u j) p
 have h2 := Int.mul_ediv_add_emod (v j) p
 have h3 := h j
 simp only [Row.add, Row.sm, Int.mul_sub]
 omega⟩
theorem Cg.emod {p : Int} {u v : Row} (h : Cg p u v) (j : Nat) : u j % p = v j % p := by
 obtain ⟨x, rfl⟩ := h
 simp [Row.add, Row.sm]
end Go.Proofs.Ytdkahdehodopoaa

namespace Go.Proofs.Ytdkahdehodopoaa
def rl (l : List Int) : Row := fun j => l.getD j 0
theorem rl_sup (l : List Int) : Sup l.length (rl l) := fun j hj => by
 simp only [rl]; rw [List.getD_eq_getElem?_getD, List.getElem?_eq_none hj]; rfl
def rv (p : Int) (M : Nat) (u : Row) : Int := vl p ((List.range M).map (fun j => u j % p))
def dg (p : Int) (M : Nat) (x : Int) : Row := rl (digs p M x)
theorem dg_sup (p : Int) (M : Nat) (x : Int) : Sup M (dg p M x) := by
 have := rl_sup (digs p M x)
 rwa [digs_length] at this
theorem digs_vl {p : Int} (hp : 2 ≤ p) : ∀ (l : List Int), AllIn p l → digs p l.length (vl p l) = l
 | [], _ => rfl
 | d :: ds, h => by
  have h1 := h d (by simp)
  have h2 : (d + p * vl p ds) % p = d := by
   rw [Int.add_mul_emod_self_left]
   exact Int.emod_eq_of_lt h1.1 h1.2
  have h3 : (d + p * vl p ds) / p = vl p ds := by
   rw [Int.add_mul_ediv_left _ _ (by omega)]
   have : d / p = 0 := Int.ediv_eq_zero_of_lt h1.1 h1.2
   omega
  simp only [vl, List.length_cons, digs, h2, h3, digs_vl hp ds (fun c hc => h c (by simp [hc]))]
theorem vl_digs {p : Int} (hp : 2 ≤ p) : ∀ (M : Nat) (x : Int), 0 ≤ x → x < p ^ M → vl p (digs p M x) = x
 | 0, x, h0, h1 => by simp at h1; simp [vl, digs]; omega
 | M + 1, x, h0, h1 => by
  have h2 : x / p < p ^ M := Int.ediv_lt_of_lt_mul (by omega) (by rwa [Int.pow_succ] at h1)
  simp only [digs, vl, vl_digs hp M (x / p) (Int.ediv_nonneg h0 (by omega)) h2]
  have := Int.mul_ediv_add_emod x p
  omega
theorem rv_cong {p : Int} {M : Nat} {u v : Row} (h : ∀ j, j < M → u j % p = v j % p) : rv p M u = rv p M v := by
 unfold rv
 congr 1
 apply List.map_congr_left
 intro j hj
 exact h j (List.mem_range.1 hj)
theorem rv_cg {p : Int} {M : Nat} {u v : Row} (h : Cg p u v) : rv p M u = rv p M v := rv_cong fun j _ => h.emod j
theorem rv_bd {p : Int} (hp : 2 ≤ p) (M : Nat) (u : Row) : 0 ≤ rv p M u ∧ rv p M u < p ^ M := by
 have h := vl_in (p := p) (by omega) ((List.range M).map (fun j => u j % p)) (fun c hc => by
  obtain ⟨j, _, rfl⟩ := List.mem_map.1 hc
  exact ⟨Int.emod_nonneg _ (by omega), Int.emod_lt_of_pos _ (by omega)⟩)
 simpa [rv] using h
theorem dg_rv {p : Int} (hp : 2 ≤ p) (M : Nat) (u : Row) (j : Nat) (hj : j < M) : dg p M (rv p M u) j = u j % p := by
 have h := digs_vl hp ((List.range M).map (fun j => u j % p)) (fun c hc => by
  obtain ⟨j, _, rfl⟩ := List.mem_map.1 hc
  exact ⟨Int.emod_nonneg _ (by omega), Int.emod_lt_of_pos _ (by omega)⟩)
 simp only [List.length_map, List.length_range] at h
 simp only [dg, rl, rv, h]
 rw [List.getD_eq_getElem?_getD, List.getElem?_map, List.getElem?_range hj]
 rfl
theorem dg_rv_cg {p : Int} (hp : 2 ≤ p) {M : Nat} {u : Row} (hu : Sup M u) : Cg p (dg p M (rv p M u)) u := Cg.of fun j => by
 by_cases hj : j < M
 ·rw [dg_rv hp M u j hj, Int.emod_emod]
 ·rw [dg_sup p M _ j (by omega), hu j (by omega)]
theorem rv_dg {p : Int} (hp : 2 ≤ p) {M : Nat} {x : Int} (h0 : 0 ≤ x) (h1 : x < p ^ M) : rv p M (dg p M x) = x := by
 have h : (List.range M).map (fun j => dg p M x j % p) = digs p M x := by
  apply List.ext_getElem
  ·simp [digs_length]
  ·intro i h2 h3
   have h4 := (digs_in (p := p) (by omega) M x) _ (List.getElem_mem h3)
   have h5 : dg p M x i = (digs p M x)[i] := by
    simp only [dg, rl]
    rw [List.getD_eq_getElem?_getD, List.getElem?_eq_getElem h3]; rfl
   simp only [List.getElem_map, List.getElem_range, h5]
   exact Int.emod_eq_of_lt h4.1 h4.2
 unfold rv
 rw [h]
 exact vl_digs hp M x h0 h1
theorem dg_zero {p : Int} (hp : 2 ≤ p) (M : Nat) : dg p M 0 = Row.z := by
 have : ∀ M, digs p M 0 = List.replicate M 0 := fun M => by
  induction M with
  | zero => rfl
  | succ M ih => simp [digs, ih, List.replicate_succ]
 funext j
 simp only [dg, rl, this, Row.z]
 rw [List.getD_eq_getElem?_getD, List.getElem?_replicate]
 split <;> rfl
theorem dg_one {p : Int} (hp : 2 ≤ p) {M : Nat} (hM : 1 ≤ M) : dg p M 1 = ee 0 := by
 obtain ⟨k, rfl⟩ : ∃ k, M = k + 1 := ⟨M - 1, by omega⟩
 have h1 : (1 : Int) % p = 1 := Int.emod_eq_of_lt (by omega) (by omega)
 have h2 : (1 : Int) / p = 0 := Int.ediv_eq_zero_of_lt (by omega) (by omega)
 have h3 := dg_zero hp k
 funext j
 simp only [dg, rl, digs, h1, h2, ee]
 cases j with
 | zero => rfl
 | succ j =>
  have := congrFun h3 j
  simp only [dg, rl, Row.z] at this
  simpa using this
theorem pl_cons {T : Row → Row} (h : Lin T) : ∀ (n : Nat) (Q v : Row), pl T (n + 1) Q v = (Row.sm (Q 0) v).add (T (pl T n (fun i => Q (i + 1)) v))
 | 0, Q, v => by simp only [pl, h.z, Row.add_z, Row.z_add]; rfl
 | n + 1, Q, v => by
  rw [pl, pl_cons h n Q v]
  simp only [pl, h.add, h.sm, it, Row.add_assoc]
theorem hmulL_row (p : Int) (low a : List Int) (M : Nat) (hlow : low.length ≤ M) (ha : a.length = M) : ∀ (bs : List Int), Cg p (rl (hmulL p low a M bs)) (pl (tm M (rl low)) bs.length (rl bs) (rl a))
 | [] => Cg.of_eq (by
   funext j
   simp only [hmulL, rl, pl, Row.z, List.length_nil]
   rw [List.getD_eq_getElem?_getD, List.getElem?_replicate]; split <;> rfl)
 | b :: bs => by
  have ih := hmulL_row p low a M hlow ha bs
  have hT := tm_lin M (rl low)
  rw [List.length_cons, pl_cons hT]
  have h1 : (fun i => rl (b :: bs) (i + 1)) = rl bs := by funext i; simp [rl]
  have h2 : rl (b :: bs) 0 = b := rfl
  rw [h1, h2]
  refine Cg.trans ?_ (Cg.add (Cg.refl p (Row.sm b (rl a))) (Cg.lin hT ih))
  have hl := hmulL_length p low a M bs
  refine Cg.of fun j => ?_
  by_cases hj : j < M
  ·have h3 : rl (hmulL p low a M (b :: bs)) j = hent p low a (hmulL p low a M bs) b j := by
    simp only [rl, hmulL, hstep]
    rw [List.getD_eq_getElem?_getD, List.getElem?_map, List.getElem?_range (by omega)]
    rfl
   rw [h3]
   unfold hent
   simp only [Row.add, Row.sm, tm, if_pos hj, Int.emod_emod, hl]
   have h4 : hprev (hmulL p low a M bs) j = sh (rl (hmulL p low a M bs)) j := by
    simp only [hprev, sh, rl]
   rw [h4]
   simp only [rl]
   generalize sh _ j = s
   generalize (hmulL p low a M bs).getD (M - 1) 0 = t
   generalize low.getD j 0 = l
   generalize b * a.getD j 0 = e
   have h5 : s + (p - t) * l + e = (e + (s - t * l)) + p * l := by grind
   rw [h5, Int.add_mul_emod_self_left]
  ·have h3 : rl (hmulL p low a M (b :: bs)) j = 0 := by
    have := rl_sup (hmulL p low a M (b :: bs)) j (by rw [hmulL_length]; omega)
    exact this
   have h4 : rl a j = 0 := rl_sup a j (by omega)
   rw [h3]
   simp only [Row.add, Row.sm, h4, tm, if_neg hj]
   simp
theorem mulI_eq {p m : Int} {mod : List Int} (h : Shp p m mod) (x y : Int) : mulI p m mod x y = rv p m.toNat (rm m.toNat (rl mod) (dg p m.toNat x) (dg p m.toNat y)) := by
 have hp := h.p2
 have hm := h.m1
 have hlow : mod.length ≤ m.toNat := by
  rcases h.low with h1 | h1
  ·rw [h1.2]; simp
  ·omega
 have h1 := hmulL_row p mod (digs p m.toNat x) m.toNat hlow (digs_length p m.toNat x) (digs p m.toNat y)
 rw [digs_length] at h1
 show mulI p m mod x y = rv p m.toNat (pl (tm m.toNat (rl mod)) m.toNat (rl (digs p m.toNat y)) (rl (digs p m.toNat x)))
 rw [← rv_cg (M := m.toNat) h1]
 have h2 := hmulL_in (p := p) (by omega) mod (digs p m.toNat x) m.toNat (digs p m.toNat y)
 have h3 := hmulL_length p mod (digs p m.toNat x) m.toNat (digs p m.toNat y)
 unfold mulI rv
 congr 1
 apply List.ext_getElem
 ·simp [h3]
 ·intro i h4 h5
  have h6 := h2 _ (List.getElem_mem h4)
  simp only [List.getElem_map, List.getElem_range, rl]
  rw [List.getD_eq_getElem?_getD, List.getElem?_eq_getElem h4]
  exact (Int.emod_eq_of_lt h6.1 h6.2).symm
section
variable {p m : Int} {mod : List Int}
theorem mulI_cg (h : Shp p m mod) (x y : Int) : Cg p (dg p m.toNat (mulI p m mod x y)) (rm m.toNat (rl mod) (dg p m.toNat x) (dg p m.toNat y)) := by
 rw [mulI_eq h]
 exact dg_rv_cg h.p2 (rm_sup (dg_sup _ _ _))
theorem rm_cg {M : Nat} {low a a' b b' : Row} (ha : Cg p a a') (hb : Cg p b b') : Cg p (rm M low a b) (rm M low a' b') := Cg.pl (tm_lin M low) M hb ha
theorem mulI_comm (h : Shp p m mod) (x y : Int) : mulI p m mod x y = mulI p m mod y x := by
 rw [mulI_eq h, mulI_eq h, rm_comm (dg_sup _ _ _) (dg_sup _ _ _)]
theorem mulI_assoc (h : Shp p m mod) (x y z : Int) : mulI p m mod (mulI p m mod x y) z = mulI p m mod x (mulI p m mod y z) := by
 rw [mulI_eq h (mulI p m mod x y) z, mulI_eq h x (mulI p m mod y z)]
 refine rv_cg ?_
 refine Cg.trans (rm_cg (mulI_cg h x y) (Cg.refl _ _)) ?_
 rw [rm_assoc (dg_sup _ _ _) (dg_sup _ _ _) (dg_sup _ _ _)]
 exact rm_cg (Cg.refl _ _) (mulI_cg h y z).symm
theorem mulI_one (h : Shp p m mod) {x : Int} (h0 : 0 ≤ x) (h1 : x < pw p m) : mulI p m mod 1 x = x := by
 have hm := h.m1
 rw [mulI_eq h, dg_one h.p2 (by omega), rm_one (dg_sup _ _ _) (by omega)]
 exact rv_dg h.p2 h0 h1
theorem mulI_zero (h : Shp p m mod) (x : Int) : mulI p m mod 0 x = 0 := by
 rw [mulI_eq h, dg_zero h.p2]
 have h1 : rm m.toNat (rl mod) Row.z (dg p m.toNat x) = Row.z := pl_z (tm_lin _ _) _ _
 rw [h1, ← dg_zero h.p2 m.toNat]
 exact rv_dg h.p2 (by omega) (Int.pow_pos (by have := h.p2; omega))
def addI (p m : Int) (x y : Int) : Int := rv p m.toNat ((dg p m.toNat x).add (dg p m.toNat y))
def negI (p m : Int) (x : Int) : Int := rv p m.toNat (Row.sm (-1) (dg p m.toNat x))
theorem addI_cg (hp : 2 ≤ p) (x y : Int) : Cg p (dg p m.toNat (addI p m x y)) ((dg p m.toNat x).add (dg p m.toNat y)) := dg_rv_cg hp (sup_add (dg_sup _ _ _) (dg_sup _ _ _))
theorem addI_comm (x y : Int) : addI p m x y = addI p m y x := by unfold addI; rw [Row.add_comm]
theorem addI_assoc (hp : 2 ≤ p) (x y z : Int) : addI p m (addI p m x y) z = addI p m x (addI p m y z) := by
 unfold addI
 refine rv_cg ?_
 refine Cg.trans (Cg.add (addI_cg hp x y) (Cg.refl _ _)) ?_
 rw [Row.add_assoc]
 exact Cg.add (Cg.refl _ _) (addI_cg hp y z).symm
theorem addI_zero (hp : 2 ≤ p) {x : Int} (h0 : 0 ≤ x) (h1 : x < pw p m) : addI p m 0 x = x := by
 unfold addI
 rw [dg_zero hp, Row.z_add]
 exact rv_dg hp h0 h1
theorem addI_neg (hp : 2 ≤ p) (x : Int) : addI p m x (negI p m x) = 0 := by
 have h : Cg p ((dg p m.toNat x).add (dg p m.toNat (negI p m x))) Row.z := by
  refine Cg.trans (Cg.add (Cg.refl _ _) (dg_rv_cg hp (sup_sm _ (dg_sup _ _ _)))) (Cg.of_eq ?_)
  funext j; simp only [Row.add, Row.sm, Row.z]; omega
 unfold addI
 rw [rv_cg h, ← dg_zero hp m.toNat]
 exact rv_dg hp (by omega) (Int.pow_pos (by omega))
theorem mulI_add (h : Shp p m mod) (x y z : Int) : mulI p m mod (addI p m x y) z = addI p m (mulI p m mod x z) (mulI p m mod y z) := by
 rw [mulI_eq h]
 unfold addI
 refine rv_cg ?_
 refine Cg.trans (rm_cg (dg_rv_cg h.p2 (sup_add (dg_sup _ _ _) (dg_sup _ _ _))) (Cg.refl _ _)) ?_
 rw [rm_addL]
 exact Cg.add (mulI_cg h x z).symm (mulI_cg h y z).symm
theorem pwI_bd (h : Shp p m mod) {x : Int} (hx : 0 ≤ x ∧ x < pw p m) : ∀ n, 0 ≤ pwI p m mod x n ∧ pwI p m mod x n < pw p m
 | 0 => by have := h.q2; simp only [pwI]; omega
 | 1 => hx
 | n + 2 => mulI_bd h _ _
theorem pwI_succ (h : Shp p m mod) {x : Int} (hx : 0 ≤ x ∧ x < pw p m) : ∀ n, pwI p m mod x (n + 1) = mulI p m mod (pwI p m mod x n) x
 | 0 => (mulI_one h hx.1 hx.2).symm
 | n + 1 => rfl
theorem pwI_add (h : Shp p m mod) {x : Int} (hx : 0 ≤ x ∧ x < pw p m) (i : Nat) : ∀ j, pwI p m mod x (i + j) = mulI p m mod (pwI p m mod x i) (pwI p m mod x j)
 | 0 => by
  have := pwI_bd h hx i
  rw [show pwI p m mod x 0 = 1 from rfl, mulI_comm h, mulI_one h this.1 this.2]
  rfl
 | j + 1 => by rw [← Nat.add_assoc, pwI_succ h hx, pwI_add h hx i j, mulI_assoc h, ← pwI_succ h hx]
theorem IsGen.all {x : Int} {l : List Int} (hg : IsGen p m mod x l) {y : Int} (h0 : 0 < y) (h1 : y < pw p m) : y ∈ l := by
 refine Classical.byContradiction fun hy => ?_
 have h2 := nodup_len' (q := pw p m) (y :: l) (List.nodup_cons.2 ⟨hy, hg.pow.nodup⟩) (fun z hz => by
  rcases List.mem_cons.1 hz with rfl | hz
  ·exact ⟨h0, h1⟩
  ·exact hg.pow.nz z hz) (by omega)
 have h3 := hg.len
 simp only [List.length_cons] at h2
 omega
theorem IsGen.mem_pw {x : Int} {l : List Int} (hg : IsGen p m mod x l) {y : Int} (hy : y ∈ l) : ∃ i, i < l.length ∧ y = pwI p m mod x i := by
 obtain ⟨i, hi, rfl⟩ := List.getElem_of_mem hy
 have h := hg.pow.get i hi
 rw [List.getD_eq_getElem?_getD, List.getElem?_eq_getElem hi] at h
 exact ⟨i, hi, h⟩
theorem IsGen.pw_mem (hs : Shp p m mod) {x : Int} {l : List Int} (hg : IsGen p m mod x l) : ∀ n, pwI p m mod x n ∈ l := by
 have hx : 0 ≤ x ∧ x < pw p m := ⟨by have := hg.x1; omega, hg.x2⟩
 have h1 := hg.len
 have h2 := hg.pow.one
 have at_ : ∀ i, i < l.length → pwI p m mod x i ∈ l := fun i hi => by
  rw [← hg.pow.get i hi, List.getD_eq_getElem?_getD, List.getElem?_eq_getElem hi]
  exact List.getElem_mem hi
 intro n
 induction n with
 | zero => exact at_ 0 (by omega)
 | succ n ih =>
  obtain ⟨i, hi, he⟩ := hg.mem_pw ih
  rw [pwI_succ hs hx, he]
  by_cases hil : i + 1 < l.length
  ·rw [← pwI_succ hs hx]; exact at_ _ hil
  ·have hie : i = (pw p m - 2).toNat := by omega
   rw [← hg.pow.get i hi, hie, hg.last]
   exact at_ 0 (by omega)
theorem IsGen.no_zero (hs : Shp p m mod) {x : Int} {l : List Int} (hg : IsGen p m mod x l) {u v : Int} (hu : 0 < u ∧ u < pw p m) (hv : 0 < v ∧ v < pw p m) : mulI p m mod u v ≠ 0 := by
 have hx : 0 ≤ x ∧ x < pw p m := ⟨by have := hg.x1; omega, hg.x2⟩
 obtain ⟨i, _, rfl⟩ := hg.mem_pw (hg.all hu.1 hu.2)
 obtain ⟨j, _, rfl⟩ := hg.mem_pw (hg.all hv.1 hv.2)
 rw [← pwI_add hs hx]
 have := hg.pow.nz _ (hg.pw_mem hs (i + j))
 omega
end
def gF (low : List Int) : Row := rl (low ++ [1])
theorem gF_sup (low : List Int) : Sup (low.length + 1) (gF low) := by
 have := rl_sup (low ++ [1])
 rw [List.length_append] at this
 exact this
theorem gF_lo (low : List Int) {k : Nat} (h : k < low.length) : gF low k = low.getD k 0 := by
 simp only [gF, rl, List.getD_eq_getElem?_getD, List.getElem?_append_left h]
theorem gF_top (low : List Int) : gF low low.length = 1 := by
 simp [gF, rl, List.getD_eq_getElem?_getD]
theorem dstep_row {p : Int} {low r : List Int} {n : Nat} (hr : low.length + n < r.length) : Cg p (rl r) ((rl (dstep p low r (low.length + n))).add (Row.sm (r.getD (low.length + n) 0) (it sh n (gF low)))) := Cg.of fun k => by
 simp only [Row.add, Row.sm, it_sh]
 by_cases hk : k < r.length
 ·have h1 : rl (dstep p low r (low.length + n)) k = dent p low r (low.length + n) k := by
   simp only [rl, dstep]
   rw [List.getD_eq_getElem?_getD, List.getElem?_map, List.getElem?_range hk]
   rfl
  rw [h1]
  unfold dent
  by_cases h2 : k = low.length + n
  ·subst h2
   rw [if_pos rfl, if_neg (by omega), show low.length + n - n = low.length by omega, gF_top]
   simp only [rl]
   congr 1
   omega
  ·rw [if_neg h2]
   by_cases h3 : k < n
   ·rw [if_pos h3, if_neg (by omega)]
    simp only [rl]
    congr 1
    omega
   ·rw [if_neg h3]
    by_cases h4 : k < low.length + n
    ·rw [if_pos ⟨by omega, h4⟩, gF_lo low (by omega), show k + low.length - (low.length + n) = k - n by omega]
     simp only [rl]
     generalize r.getD k 0 = a
     generalize r.getD (low.length + n) 0 = c
     generalize low.getD (k - n) 0 = l
     rw [Int.emod_add_emod]
     have : a + (p - c) * l + c * l = a + p * l := by grind
     rw [this, Int.add_mul_emod_self_left]
    ·rw [if_neg (by omega), gF_sup low (k - n) (by omega)]
     simp only [rl]
     congr 1
     omega
 ·have h1 : rl (dstep p low r (low.length + n)) k = 0 := rl_sup _ k (by rw [dstep_length]; omega)
  have h2 : rl r k = 0 := rl_sup _ k (by omega)
  rw [h1, h2, if_neg (by omega), gF_sup low (k - n) (by omega)]
  simp
theorem dloop_row {p : Int} {low : List Int} : ∀ (n : Nat) (r : List Int), low.length + n ≤ r.length → ∃ Q : Row, Sup n Q ∧ Cg p (rl r) ((rl (dloop p low n r)).add (pl sh n Q (gF low))) ∧ (1 ≤ n → Q (n - 1) = r.getD (low.length + n - 1) 0)
 | 0, r, _ => ⟨Row.z, fun _ _ => rfl, Cg.of_eq (by simp only [dloop, pl, Row.add_z]), fun h => by omega⟩
 | n + 1, r, h => by
  have hsl := dstep_length p low r (low.length + n)
  obtain ⟨Q, h1, h2, _⟩ := dloop_row (p := p) (low := low) n (dstep p low r (low.length + n)) (by omega)
  have hQ : ∀ i, (fun i => if i < n then Q i else if i = n then r.getD (low.length + n) 0 else 0 : Row) i = if i < n then Q i else if i = n then r.getD (low.length + n) 0 else 0 := fun _ => rfl
  generalize (fun i => if i < n then Q i else if i = n then r.getD (low.length + n) 0 else 0 : Row) = Q2 at hQ
  refine ⟨Q2, fun j hj => by rw [hQ, if_neg (by omega), if_neg (by omega)], ?_, fun _ => by rw [hQ, if_neg (by omega), if_pos (by omega)]; rfl⟩
  refine Cg.trans (dstep_row (p := p) (low := low) (r := r) (n := n) (by omega)) ?_
  refine Cg.trans (Cg.add h2 (Cg.refl _ _)) (Cg.of_eq ?_)
  have h3 : pl sh n Q2 (gF low) = pl sh n Q (gF low) := pl_cong n _ _ _ (fun i hi => by rw [hQ, if_pos hi])
  have h4 : Q2 n = r.getD (low.length + n) 0 := by rw [hQ, if_neg (by omega), if_pos rfl]
  rw [Row.add_assoc, dloop, pl, h3, h4]
theorem fF_rl {mod : List Int} : rl (mod ++ [1]) = fF mod.length (rl mod) := by
 funext j
 simp only [rl, fF]
 by_cases h : j < mod.length
 ·rw [if_pos h, List.getD_eq_getElem?_getD, List.getElem?_append_left h, List.getD_eq_getElem?_getD]
 ·rw [if_neg h]
  by_cases h2 : j = mod.length
  ·subst h2; simp [List.getD_eq_getElem?_getD]
  ·rw [if_neg h2, List.getD_eq_getElem?_getD, List.getElem?_eq_none (by simp; omega)]; rfl
theorem ne_zero_row {p : Int} (hp : 2 ≤ p) {M : Nat} {u : Row} {k : Nat} (hk : k < M) (hu : u k % p ≠ 0) : 0 < rv p M u := by
 have h0 := (rv_bd hp M u).1
 have h3 : rv p M u ≠ 0 := fun e => hu (by
  have h1 := dg_rv hp M u k hk
  rw [e, dg_zero hp] at h1
  exact h1.symm)
 omega
theorem irr_of_gen {p m : Int} {mod : List Int} (hs : Shp p m mod) (hm : 2 ≤ m) {x : Int} {l : List Int} (hg : IsGen p m mod x l) : Irr p mod := by
 intro d hd hd2 v hv0 hv1
 have hp := hs.p2
 have hml : (mod.length : Int) = m := by
  rcases hs.low with h | h
  ·omega
  ·exact h.2
 have hM : m.toNat = mod.length := by omega
 cases hb : bDiv p (digs p d v) mod with
 | false => rfl
 | true =>
  exfalso
  have hlen := digs_length p d v
  generalize hlo : digs p d v = low at hb hlen
  obtain ⟨Q, hQ, hc, htop⟩ := dloop_row (p := p) (low := low) (mod.length + 1 - low.length) (mod ++ [1]) (by simp; omega)
  have hz : rl (dloop p low (mod.length + 1 - low.length) (mod ++ [1])) = Row.z := by
   funext j
   unfold bDiv divL at hb
   rw [List.all_eq_true] at hb
   simp only [rl, Row.z]
   by_cases hj : j < (dloop p low (mod.length + 1 - low.length) (mod ++ [1])).length
   ·rw [List.getD_eq_getElem?_getD, List.getElem?_eq_getElem hj]
    simpa using hb _ (List.getElem_mem hj)
   ·rw [List.getD_eq_getElem?_getD, List.getElem?_eq_none (by omega)]; rfl
  rw [hz, Row.z_add, fF_rl] at hc
  have htop' := htop (by omega)
  rw [show low.length + (mod.length + 1 - low.length) - 1 = mod.length by omega] at htop'
  have htop2 : (mod ++ [(1 : Int)]).getD mod.length 0 = 1 := by simp [List.getD_eq_getElem?_getD]
  rw [htop2] at htop'
  -- the two residues
  have hgs : Sup mod.length (gF low) := fun j hj => gF_sup low j (by omega)
  have hQs : Sup mod.length Q := fun j hj => hQ j (by omega)
  have hu : 0 < rv p mod.length (gF low) := ne_zero_row hp (k := low.length) (by omega) (by rw [gF_top, Int.emod_eq_of_lt (by omega) (by omega)]; omega)
  have hw : 0 < rv p mod.length Q := ne_zero_row hp (k := mod.length + 1 - low.length - 1) (by omega) (by rw [htop', Int.emod_eq_of_lt (by omega) (by omega)]; omega)
  have hu2 := (rv_bd hp mod.length (gF low)).2
  have hw2 := (rv_bd hp mod.length Q).2
  have hpw : pw p m = p ^ mod.length := by unfold pw; rw [hM]
  refine hg.no_zero hs ⟨hu, by rw [hpw]; exact hu2⟩ ⟨hw, by rw [hpw]; exact hw2⟩ ?_
  rw [mulI_eq hs, hM]
  have h1 : Cg p (rm mod.length (rl mod) (dg p mod.length (rv p mod.length (gF low))) (dg p mod.length (rv p mod.length Q))) Row.z := by
   refine Cg.trans (rm_cg (dg_rv_cg hp hgs) (dg_rv_cg hp hQs)) ?_
   have hT := tm_lin mod.length (rl mod)
   unfold rm
   rw [pl_bound' hQ _ (by omega)]
   have h2 : gF low = pl (tm mod.length (rl mod)) (low.length + 1) (gF low) (ee 0) := by
    rw [pl_tm_e (low := rl mod) (gF low) (low.length + 1) (by omega)]
    funext j
    split
    ·rfl
    ·exact gF_sup low j (by omega)
   rw [h2, ← pl_mul hT (gF_sup low) Q (ee 0) (mod.length - low.length) (mod.length + 1 - low.length) (by omega), show low.length + 1 + (mod.length - low.length) = mod.length + 1 by omega]
   refine Cg.trans (Cg.pl hT _ hc.symm (Cg.refl _ _)) (Cg.of_eq (fF_e (by omega)))
  rw [rv_cg h1, ← dg_zero hp mod.length]
  exact rv_dg hp (by omega) (Int.pow_pos (by omega))
theorem fldR_of_N {p m : Int} {mod : List Int} (h : FldN p m mod) : FldR p m mod := by
 obtain ⟨hs, x, l, hg⟩ := h
 refine ⟨hs, ?_⟩
 by_cases hm : m = 1
 ·exact .inl hm
 ·exact .inr (irr_of_gen hs.1 (by have := hs.1.m1; omega) hg)
end Go.Proofs.Ytdkahdehodopoaa

namespace Go.Proofs.Ytdkahdehodopoaa
theorem least_nat {P : Nat → Prop} (h : ∃ n, P n) : ∃ n, P n ∧ ∀ k, k < n → ¬ P k := by
 obtain ⟨n, hn⟩ := h
 induction n using Nat.strongRecOn with
 | _ n ih =>
  by_cases h : ∃ k, k < n ∧ P k
  ·obtain ⟨k, hk, hp⟩ := h
   exact ih k hk hp
  ·exact ⟨n, hn, fun k hk hp => h ⟨k, hk, hp⟩⟩
theorem prime_inv {p c : Int} (hp : IsP p) (hc : c % p ≠ 0) : ∃ u : Int, (u * c) % p = 1 := by
 have h2 := hp.1
 have hg : Int.gcd c p = 1 := by
  have h0 : (Int.gcd c p : Int) ∣ p := Int.gcd_dvd_right ..
  have h1 : (Int.gcd c p : Int) ∣ c := Int.gcd_dvd_left ..
  have hle : (Int.gcd c p : Int) ≤ p := Int.le_of_dvd (by omega) h0
  have hne0 : Int.gcd c p ≠ 0 := fun h => by
   rw [h] at h0
   have := Int.zero_dvd.1 h0
   omega
  rcases Nat.lt_or_ge (Int.gcd c p) 2 with h3 | h3
  ·omega
  ·exfalso
   by_cases h4 : (Int.gcd c p : Int) < p
   ·exact hp.2 _ (by omega) h4 (Int.emod_eq_zero_of_dvd h0)
   ·have h5 : (Int.gcd c p : Int) = p := by omega
    rw [h5] at h1
    exact hc (Int.emod_eq_zero_of_dvd h1)
 obtain ⟨u, hu⟩ := inverse (by omega) hg
 exact ⟨u, by rw [hu, Int.emod_eq_of_lt (by omega) (by omega)]⟩
theorem cg_z {p : Int} {u : Row} (h : ∀ j, u j % p = 0) : Cg p u Row.z := Cg.of fun j => by rw [h j]; rfl
theorem cg_z_emod {p : Int} {u : Row} (h : Cg p u Row.z) (j : Nat) : u j % p = 0 := by rw [h.emod j]; rfl
theorem it_sh_e : ∀ k, it sh k (ee 0) = ee k
 | 0 => rfl
 | k + 1 => by simp only [it, it_sh_e k, sh_ee]
theorem pl_sh_e (a : Row) : ∀ n, pl sh n a (ee 0) = fun j => if j < n then a j else 0
 | 0 => by funext j; simp [pl, Row.z]
 | n + 1 => by
  funext j
  have h3 := pl_sh_e a n
  have h4 := it_sh_e n
  simp only [pl, h3, h4, Row.add, Row.sm, ee]
  by_cases h1 : j < n
  ·rw [if_pos h1, if_neg (by omega), if_pos (by omega)]; omega
  ·by_cases h2 : j = n
   ·rw [if_neg h1, if_pos h2, if_pos (by omega), h2]; omega
   ·rw [if_neg h1, if_neg h2, if_neg (by omega)]; omega
theorem pl_sh_self {n : Nat} {a : Row} (ha : Sup n a) : pl sh n a (ee 0) = a := by
 rw [pl_sh_e]
 funext j
 split
 ·rfl
 ·exact (ha j (by omega)).symm
theorem sup_mono {n k : Nat} {u : Row} (h : Sup n u) (hk : n ≤ k) : Sup k u := fun j hj => h j (by omega)
theorem pl_sh_sup {e : Nat} {G : Row} (hG : Sup (e + 1) G) (h : Row) : ∀ N, Sup (N + e) (pl sh N h G)
 | 0 => fun _ _ => rfl
 | N + 1 => by
  refine sup_add (sup_mono (pl_sh_sup hG h N) (by omega)) (sup_sm _ ?_)
  have := it_sh_sup hG N
  exact sup_mono this (by omega)
theorem uniq {p : Int} {e : Nat} {G R : Row} (hG : Sup (e + 1) G) (hG1 : G e = 1) (hR : Sup e R) : ∀ (N : Nat) (h : Row), Cg p (pl sh N h G) R → Cg p R Row.z
 | 0, h, hc => hc.symm
 | N + 1, h, hc => by
  have h1 := hc.emod (N + e)
  have h2 : pl sh (N + 1) h G (N + e) = h N := by
   simp only [pl, Row.add, Row.sm, it_sh]
   rw [pl_sh_sup hG h N (N + e) (by omega), if_neg (by omega), show N + e - N = e by omega, hG1]
   omega
  rw [h2, hR (N + e) (by omega)] at h1
  refine uniq hG hG1 hR N h (Cg.trans ?_ hc)
  have h3 : Cg p (Row.sm (h N) (it sh N G)) Row.z := cg_z fun j => by
   simp only [Row.sm]
   rw [Int.mul_emod, h1]; simp
  have h4 := Cg.add (Cg.refl p (pl sh N h G)) h3.symm
  rw [Row.add_z] at h4
  exact h4
theorem dloop_in {p : Int} (hp : 1 ≤ p) {low : List Int} : ∀ (n : Nat) (r : List Int), AllIn p r → AllIn p (dloop p low n r)
 | 0, r, h => h
 | n + 1, r, h => dloop_in hp n _ (dstep_in hp h)
theorem dloop_sup {p : Int} {low : List Int} : ∀ (n : Nat) (r : List Int), Sup (low.length + n) (rl r) → Sup low.length (rl (dloop p low n r))
 | 0, r, h => h
 | n + 1, r, h => dloop_sup n _ (fun j hj => by
   by_cases hjl : j < r.length
   ·have h1 : rl (dstep p low r (low.length + n)) j = dent p low r (low.length + n) j := by
     simp only [rl, dstep]
     rw [List.getD_eq_getElem?_getD, List.getElem?_map, List.getElem?_range hjl]
     rfl
    rw [h1]
    unfold dent
    by_cases h2 : j = low.length + n
    ·rw [if_pos h2]
    ·rw [if_neg h2, if_neg (by omega)]
     exact h j (by omega)
   ·exact rl_sup _ j (by rw [dstep_length]; omega))
theorem bDiv_of_zero {p : Int} (hp : 2 ≤ p) {low mod : List Int} (hmod : AllIn p mod) (h : Cg p (rl (divL p low mod)) Row.z) : bDiv p low mod = true := bDiv_true fun k hk => by
 have hin : AllIn p (divL p low mod) := dloop_in (by omega) _ _ (fun z hz => by
  rcases List.mem_append.1 hz with h1 | h1
  ·exact hmod z h1
  ·simp at h1; omega)
 have h1 := cg_z_emod h k
 have h2 := hin.get (by omega) k
 have h3 : (divL p low mod).getD k 0 % p = 0 := h1
 rw [Int.emod_eq_of_lt h2.1 h2.2] at h3
 exact h3
theorem gF_cg {p : Int} (hp : 2 ≤ p) {d : Nat} {g : Row} (hg : Sup (d + 1) g) (hg1 : g d = 1) : Cg p (gF (digs p d (rv p d g))) g := Cg.of fun j => by
 have hl := digs_length p d (rv p d g)
 by_cases h1 : j < d
 ·rw [gF_lo _ (by omega)]
  have := dg_rv hp d g j h1
  simp only [dg, rl] at this
  rw [this, Int.emod_emod]
 ·by_cases h2 : j = d
  ·subst h2
   have : gF (digs p j (rv p j g)) j = 1 := by
    have h3 := gF_top (digs p j (rv p j g))
    rwa [hl] at h3
   rw [this, hg1]
  ·rw [gF_sup _ j (by omega), hg j (by omega)]
def An (p : Int) (M : Nat) (low a : Row) (d : Nat) (g : Row) : Prop := Sup (d + 1) g ∧ g d = 1 ∧ Cg p (pl (tm M low) (d + 1) g a) Row.z
theorem monic_of {p : Int} (hp : IsP p) {M : Nat} {low a h : Row} {n : Nat} (hh : Sup n h) (hne : ∃ k, k < n ∧ h k % p ≠ 0) (hz : Cg p (pl (tm M low) n h a) Row.z) : ∃ d, d < n ∧ ∃ g, An p M low a d g := by
 have hT := tm_lin M low
 -- the top index
 obtain ⟨k, hk, hkmax⟩ : ∃ k, (k < n ∧ h k % p ≠ 0) ∧ ∀ i, k < i → h i % p = 0 := by
  obtain ⟨k0, hk0, hk1⟩ := hne
  obtain ⟨e, he, hmin⟩ := least_nat (P := fun e => e < n ∧ h (n - 1 - e) % p ≠ 0) ⟨n - 1 - k0, by omega, by rw [show n - 1 - (n - 1 - k0) = k0 by omega]; exact hk1⟩
  refine ⟨n - 1 - e, ⟨by omega, he.2⟩, fun i hi => ?_⟩
  by_cases hin : i < n
  ·refine Classical.byContradiction fun hno => hmin (n - 1 - i) (by omega) ⟨by omega, ?_⟩
   rw [show n - 1 - (n - 1 - i) = i by omega]; exact hno
  ·rw [hh i (by omega)]; rfl
 obtain ⟨c, hc⟩ := prime_inv hp hk.2
 have hg : ∀ i, (fun i => if i < k then c * h i else if i = k then 1 else 0 : Row) i = if i < k then c * h i else if i = k then 1 else 0 := fun _ => rfl
 generalize (fun i => if i < k then c * h i else if i = k then 1 else 0 : Row) = g at hg
 have hgs : Sup (k + 1) g := fun j hj => by rw [hg, if_neg (by omega), if_neg (by omega)]
 refine ⟨k, hk.1, g, hgs, by rw [hg, if_neg (by omega), if_pos rfl], ?_⟩
 have hcg : Cg p g (Row.sm c h) := Cg.of fun i => by
  rw [hg]
  simp only [Row.sm]
  by_cases h1 : i < k
  ·rw [if_pos h1]
  ·rw [if_neg h1]
   by_cases h2 : i = k
   ·rw [if_pos h2, h2, hc]
    have := hp.1
    exact Int.emod_eq_of_lt (by omega) (by omega)
   ·rw [if_neg h2, Int.mul_emod, hkmax i (by omega)]; simp
 rw [← pl_bound' (T := tm M low) hgs a (show k + 1 ≤ n by omega)]
 refine Cg.trans (Cg.pl hT n hcg (Cg.refl _ _)) ?_
 rw [pl_smQ]
 have := Cg.sm c hz
 rwa [Row.sm_z] at this
theorem rv_zero {p : Int} (hp : 2 ≤ p) (M : Nat) : rv p M Row.z = 0 := by
 rw [← dg_zero hp M]
 exact rv_dg hp (by omega) (Int.pow_pos (by omega))
theorem zero_of_cg {p : Int} (hp : 2 ≤ p) {M : Nat} {u : Int} (h0 : 0 ≤ u) (h1 : u < p ^ M) (h : Cg p (dg p M u) Row.z) : u = 0 := by
 rw [← rv_dg hp h0 h1, rv_cg h, rv_zero hp]
theorem cg_of_rv {p : Int} (hp : 2 ≤ p) {M : Nat} {w : Row} (hw : Sup M w) (h : rv p M w = 0) : Cg p w Row.z := cg_z fun j => by
 by_cases hj : j < M
 ·rw [← dg_rv hp M w j hj, h, dg_zero hp]; rfl
 ·rw [hw j (by omega)]; rfl
theorem no_zero_irr {p m : Int} {mod : List Int} (hsp : ShpP p m mod) (hm : 2 ≤ m) (hirr : Irr p mod) {u v : Int} (hu : 0 < u ∧ u < pw p m) (hv : 0 < v ∧ v < pw p m) : mulI p m mod u v ≠ 0 := by
 intro hzero
 have hs := hsp.1
 have hpp := hsp.2
 have hp := hs.p2
 have hml : (mod.length : Int) = m := by
  rcases hs.low with h | h
  ·omega
  ·exact h.2
 have hM : m.toNat = mod.length := by omega
 have hpw : pw p m = p ^ mod.length := by unfold pw; rw [hM]
 rw [mulI_eq hs, hM] at hzero
 rw [hpw] at hu hv
 generalize hL : mod.length = M at *
 have hT := tm_lin M (rl mod)
 have ha : Sup M (dg p M u) := dg_sup _ _ _
 have hb : Sup M (dg p M v) := dg_sup _ _ _
 have hab := cg_of_rv hp (rm_sup ha) hzero
 have hne : ∀ {x : Int}, 0 < x ∧ x < p ^ M → ∃ k, k < M ∧ dg p M x k % p ≠ 0 := fun {x} hx => by
  refine Classical.byContradiction fun hno => ?_
  have h1 : Cg p (dg p M x) Row.z := cg_z fun j => by
   by_cases hj : j < M
   ·exact Classical.byContradiction fun h2 => hno ⟨j, hj, h2⟩
   ·rw [dg_sup p M x j (by omega)]; rfl
  have := zero_of_cg hp (by omega) hx.2 h1
  omega
 have hane := hne hu
 have hbne := hne hv
 generalize dg p M u = a at ha hab hane
 obtain ⟨d0, hd0, g0, hg0⟩ := monic_of hpp hb hbne hab
 obtain ⟨d, ⟨g, hg⟩, hmin⟩ := least_nat (P := fun d => ∃ g, An p M (rl mod) a d g) ⟨d0, g0, hg0⟩
 have hdM : d < M := by
  refine Nat.lt_of_le_of_lt (Nat.le_of_not_lt (fun hlt => hmin d0 hlt ⟨g0, hg0⟩)) hd0
 obtain ⟨hgs, hg1, hga⟩ := hg
 have hd1 : 1 ≤ d := by
  rcases Nat.eq_zero_or_pos d with h | h
  ·exfalso
   subst h
   have h1 : pl (tm M (rl mod)) (0 + 1) g a = a := by
    simp only [pl, it, Row.z_add, hg1]
    funext j; simp [Row.sm]
   rw [h1] at hga
   obtain ⟨k, _, hk⟩ := hane
   exact hk (cg_z_emod hga k)
  ·exact h
 -- the modulus divided by g
 have hll := digs_length p d (rv p d g)
 have hgF := gF_cg hp hgs hg1
 have hvb := rv_bd hp d g
 generalize hlo : digs p d (rv p d g) = low at hll hgF
 have hmodlen : (mod ++ [(1 : Int)]).length = M + 1 := by simp [hL]
 obtain ⟨Q, hQ, hc, htop⟩ := dloop_row (p := p) (low := low) (mod.length + 1 - low.length) (mod ++ [1]) (by omega)
 have hRs : Sup low.length (rl (divL p low mod)) := dloop_sup _ _ (by
  have h1 := rl_sup (mod ++ [(1 : Int)])
  exact sup_mono h1 (by omega))
 have hfF : rl (mod ++ [1]) = fF M (rl mod) := by rw [fF_rl, hL]
 rw [hfF] at hc
 have hc1 : Cg p (fF M (rl mod)) ((rl (divL p low mod)).add (pl sh (mod.length + 1 - low.length) Q (gF low))) := hc
 clear hc
 generalize hRd : rl (divL p low mod) = R at hRs hc1
 have hQ1 : Q (mod.length + 1 - low.length - 1) = 1 := by
  rw [htop (by omega), show low.length + (mod.length + 1 - low.length) - 1 = mod.length by omega]
  simp [List.getD_eq_getElem?_getD]
 have hRa : Cg p (pl (tm M (rl mod)) d R a) Row.z := by
  have h1 := Cg.pl hT (M + 1) hc1 (Cg.refl p a)
  rw [fF_v (by omega) ha, pl_addQ] at h1
  have h2 : pl (tm M (rl mod)) (M + 1) (pl sh (mod.length + 1 - low.length) Q (gF low)) a = pl (tm M (rl mod)) (mod.length + 1 - low.length) Q (pl (tm M (rl mod)) (low.length + 1) (gF low) a) := by
   rw [← pl_mul hT (gF_sup low) Q a (M - low.length) (mod.length + 1 - low.length) (by omega), show low.length + 1 + (M - low.length) = M + 1 by omega]
  have h3 : Cg p (pl (tm M (rl mod)) (low.length + 1) (gF low) a) Row.z := by
   rw [hll]
   exact Cg.trans (Cg.pl hT _ hgF (Cg.refl _ _)) hga
  have h4 : Cg p (pl (tm M (rl mod)) (M + 1) (pl sh (mod.length + 1 - low.length) Q (gF low)) a) Row.z := by
   rw [h2]
   have h5 := Cg.pl hT (mod.length + 1 - low.length) (Cg.refl p Q) h3
   rwa [pl_z hT] at h5
  have h6 := Cg.trans h1 (Cg.add (Cg.refl p (pl (tm M (rl mod)) (M + 1) R a)) h4)
  rw [Row.add_z, pl_bound' (T := tm M (rl mod)) (sup_mono hRs (show low.length ≤ d by omega)) a (show d ≤ M + 1 by omega)] at h6
  exact h6.symm
 have hRz : Cg p R Row.z := cg_z fun j => by
  refine Classical.byContradiction fun hno => ?_
  have hjd : j < d := Nat.lt_of_not_le (fun hge => hno (by rw [hRs j (by omega)]; rfl))
  obtain ⟨d', hd', g', hg'⟩ := monic_of hpp (sup_mono hRs (show low.length ≤ d by omega)) ⟨j, hjd, hno⟩ hRa
  exact hmin d' hd' ⟨g', hg'⟩
 have hbd : bDiv p low mod = true := bDiv_of_zero hp hs.ent (by rw [hRd]; exact hRz)
 by_cases h2d : 2 * d ≤ M
 ·have h1 := hirr d hd1 (by omega) (rv p d g) hvb.1 hvb.2
  rw [hlo, hbd] at h1
  cases h1
 ·-- the other factor
  have hn : mod.length + 1 - low.length = (M - d) + 1 := by omega
  rw [hn] at hQ hQ1 hc1
  rw [show M - d + 1 - 1 = M - d by omega] at hQ1
  have hll2 := digs_length p (M - d) (rv p (M - d) Q)
  have hgF2 := gF_cg hp hQ hQ1
  have hvb2 := rv_bd hp (M - d) Q
  have h1 := hirr (M - d) (by omega) (by omega) (rv p (M - d) Q) hvb2.1 hvb2.2
  generalize hlo2 : digs p (M - d) (rv p (M - d) Q) = low2 at hll2 hgF2 h1
  obtain ⟨Q2, hQ2, hc2, _⟩ := dloop_row (p := p) (low := low2) (mod.length + 1 - low2.length) (mod ++ [1]) (by omega)
  have hRs2 : Sup low2.length (rl (divL p low2 mod)) := dloop_sup _ _ (by
   have h1 := rl_sup (mod ++ [(1 : Int)])
   exact sup_mono h1 (by omega))
  rw [hfF] at hc2
  have hc3 : Cg p (fF M (rl mod)) ((rl (divL p low2 mod)).add (pl sh (mod.length + 1 - low2.length) Q2 (gF low2))) := hc2
  clear hc2
  rw [show mod.length + 1 - low2.length = d + 1 by omega] at hc3
  have hz2 : Cg p (rl (divL p low2 mod)) Row.z := by
   refine uniq (gF_sup low2) (gF_top low2) hRs2 (d + 1) (g.add (Row.sm (-1) Q2)) ?_
   -- f is g Q
   have h2 : Cg p (fF M (rl mod)) (pl sh (M - d + 1) Q (gF low)) := by
    have := Cg.trans hc1 (Cg.add hRz (Cg.refl p (pl sh (M - d + 1) Q (gF low))))
    rwa [Row.z_add] at this
   have h3 : Cg p (pl sh (M - d + 1) Q (gF low)) (pl sh (d + 1) g (gF low2)) := by
    refine Cg.trans (Cg.pl sh_lin _ (Cg.refl p Q) hgF) ?_
    have h4 : pl sh (M - d + 1) Q g = pl sh (d + 1) g Q := by
     have h5 := pl_sh_self hgs
     have h6 := pl_sh_self hQ
     calc pl sh (M - d + 1) Q g = pl sh (M - d + 1) Q (pl sh (d + 1) g (ee 0)) := by rw [h5]
      _ = pl sh (d + 1) g (pl sh (M - d + 1) Q (ee 0)) := pl_pl sh_lin _ _ _ _ _
      _ = pl sh (d + 1) g Q := by rw [h6]
    rw [h4]
    exact Cg.pl sh_lin _ (Cg.refl p g) hgF2.symm
   have h7 := Cg.trans hc3.symm (Cg.trans h2 h3)
   -- R2 + Q2 G = g G
   have h8 := Cg.add h7.symm (Cg.refl p (Row.sm (-1) (pl sh (d + 1) Q2 (gF low2))))
   rw [pl_addQ, pl_smQ]
   refine Cg.trans h8 (Cg.of_eq ?_)
   funext j; simp only [Row.add, Row.sm]; omega
  have hbd2 : bDiv p low2 mod = true := bDiv_of_zero hp hs.ent hz2
  rw [hbd2] at h1
  cases h1
theorem no_zero_prime {p : Int} (hsp : ShpP p 1 []) {u v : Int} (hu : 0 < u ∧ u < pw p 1) (hv : 0 < v ∧ v < pw p 1) : mulI p 1 [] u v ≠ 0 := by
 intro hz
 have hs := hsp.1
 have hp := hs.p2
 have hpw : pw p 1 = p := by
  have h2 := pw_succ p (k := 0) (by omega)
  rw [pw_zero, Int.zero_add, Int.one_mul] at h2
  exact h2
 rw [hpw] at hu hv
 rw [mulI_eq hs] at hz
 have h1 := cg_of_rv hp (rm_sup (dg_sup _ _ _)) hz
 have h2 := cg_z_emod h1 0
 have hd : ∀ x : Int, 0 ≤ x → x < p → dg p 1 x 0 = x := fun x h0 h1 => by
  simp only [dg, rl, digs]
  rw [Int.emod_eq_of_lt h0 h1]; rfl
 have h3 : rm (1 : Int).toNat (rl []) (dg p (1 : Int).toNat u) (dg p (1 : Int).toNat v) 0 = v * u := by
  show rm 1 (rl []) (dg p 1 u) (dg p 1 v) 0 = v * u
  simp only [rm, pl, it, Row.add, Row.z, Row.sm, hd u (by omega) hu.2, hd v (by omega) hv.2]
  omega
 rw [h3] at h2
 obtain ⟨c, hc⟩ := prime_inv (c := v) hsp.2 (by rw [Int.emod_eq_of_lt (by omega) hv.2]; omega)
 have h4 : (c * (v * u)) % p = u := by
  rw [← Int.mul_assoc, Int.mul_emod, hc, Int.one_mul, Int.emod_emod, Int.emod_eq_of_lt (by omega) hu.2]
 rw [Int.mul_emod, h2] at h4
 simp at h4
 omega
theorem no_zero {p m : Int} {mod : List Int} (h : FldR p m mod) {u v : Int} (hu : 0 < u ∧ u < pw p m) (hv : 0 < v ∧ v < pw p m) : mulI p m mod u v ≠ 0 := by
 rcases h.1.1.low with h1 | h1
 ·obtain ⟨rfl, rfl⟩ := h1
  exact no_zero_prime h.1 hu hv
 ·rcases h.2 with h2 | h2
  ·omega
  ·exact no_zero_irr h.1 h1.1 h2 hu hv
def El (p m : Int) (_mod : List Int) : Type := { x : Int // 0 ≤ x ∧ x < pw p m }
instance (p m : Int) (mod : List Int) : DecidableEq (El p m mod) := inferInstanceAs (DecidableEq { x : Int // 0 ≤ x ∧ x < pw p m })
theorem El.ext {p m : Int} {mod : List Int} {a b : El p m mod} (h : a.1 = b.1) : a = b := Subtype.ext h
theorem addI_bd {p m : Int} (hp : 2 ≤ p) (x y : Int) : 0 ≤ addI p m x y ∧ addI p m x y < pw p m := rv_bd hp _ _
theorem negI_bd {p m : Int} (hp : 2 ≤ p) (x : Int) : 0 ≤ negI p m x ∧ negI p m x < pw p m := rv_bd hp _ _
theorem negI_add {p m : Int} (hp : 2 ≤ p) (x : Int) : addI p m (negI p m x) x = 0 := by rw [addI_comm, addI_neg hp]
theorem addI_zeroR {p m : Int} (hp : 2 ≤ p) {x : Int} (h0 : 0 ≤ x) (h1 : x < pw p m) : addI p m x 0 = x := by rw [addI_comm]; exact addI_zero hp h0 h1
section
variable {p m : Int} {mod : List Int}
theorem mul_inj (h : FldR p m mod) {x y z : Int} (hx : 0 ≤ x ∧ x < pw p m) (hy : 0 ≤ y ∧ y < pw p m) (hz : 0 < z ∧ z < pw p m) (he : mulI p m mod x z = mulI p m mod y z) : x = y := by
 have hs := h.1.1
 have hp := hs.p2
 have h1 : mulI p m mod (addI p m x (negI p m y)) z = 0 := by
  rw [mulI_add hs, he, ← mulI_add hs, addI_neg hp, mulI_zero hs]
 have h2 := addI_bd (m := m) hp x (negI p m y)
 have h3 : addI p m x (negI p m y) = 0 := by
  refine Classical.byContradiction fun hne => ?_
  exact no_zero h ⟨by omega, h2.2⟩ hz h1
 have h4 : addI p m (addI p m x (negI p m y)) y = y := by rw [h3]; exact addI_zero hp hy.1 hy.2
 rw [addI_assoc hp, negI_add hp, addI_zeroR hp hx.1 hx.2] at h4
 exact h4
theorem inv_ex (h : FldR p m mod) {z : Int} (hz : 0 < z ∧ z < pw p m) : ∃ y, 0 ≤ y ∧ y < pw p m ∧ mulI p m mod y z = 1 := by
 have hs := h.1.1
 have hq := hs.q2
 -- the products with z are all different
 refine Classical.byContradiction fun hno => ?_
 let l := (List.range (pw p m - 1).toNat).map (fun i : Nat => mulI p m mod ((i : Int) + 1) z)
 have hnd : l.Nodup := by
  refine List.pairwise_map.2 (List.nodup_range.imp_of_mem ?_)
  intro i j hi hj hij e
  have h1 := List.mem_range.1 hi
  have h2 := List.mem_range.1 hj
  have := mul_inj h (x := (i : Int) + 1) (y := (j : Int) + 1) ⟨by omega, by omega⟩ ⟨by omega, by omega⟩ hz e
  omega
 have hb : ∀ y ∈ l, 0 < y ∧ y < pw p m := fun y hy => by
  obtain ⟨i, hi, rfl⟩ := List.mem_map.1 hy
  have h1 := List.mem_range.1 hi
  have h2 := mulI_bd hs ((i : Int) + 1) z
  have h3 := no_zero h (u := (i : Int) + 1) (v := z) ⟨by omega, by omega⟩ hz
  exact ⟨by omega, h2.2⟩
 have h1l : (1 : Int) ∉ l := fun hm => by
  obtain ⟨i, hi, he⟩ := List.mem_map.1 hm
  have h1 := List.mem_range.1 hi
  exact hno ⟨(i : Int) + 1, by omega, by omega, he⟩
 have h2 := nodup_len' (q := pw p m) (1 :: l) (List.nodup_cons.2 ⟨h1l, hnd⟩) (fun y hy => by
  rcases List.mem_cons.1 hy with rfl | hy
  ·omega
  ·exact hb y hy) (by omega)
 have h3 : l.length = (pw p m - 1).toNat := by simp [l]
 simp only [List.length_cons] at h2
 omega
open Classical in
noncomputable def invI (p m : Int) (mod : List Int) (z : Int) : Int := if h : ∃ y, 0 ≤ y ∧ y < pw p m ∧ mulI p m mod y z = 1 then Classical.choose h else 0
theorem invI_spec (h : FldR p m mod) {z : Int} (hz : 0 < z ∧ z < pw p m) : 0 ≤ invI p m mod z ∧ invI p m mod z < pw p m ∧ mulI p m mod (invI p m mod z) z = 1 := by
 rw [invI, dif_pos (inv_ex h hz)]
 exact Classical.choose_spec (inv_ex h hz)
theorem invI_bd (hs : Shp p m mod) (z : Int) : 0 ≤ invI p m mod z ∧ invI p m mod z < pw p m := by
 unfold invI
 split
 ·rename_i h
  have := Classical.choose_spec h
  exact ⟨this.1, this.2.1⟩
 ·have := hs.q2; omega
@[reducible] noncomputable def elFd (h : FldR p m mod) : Fd (El p m mod) where
 add a b := ⟨addI p m a.1 b.1, addI_bd h.1.1.p2 _ _⟩
 mul a b := ⟨mulI p m mod a.1 b.1, mulI_bd h.1.1 _ _⟩
 neg a := ⟨negI p m a.1, negI_bd h.1.1.p2 _⟩
 zero := ⟨0, by have := h.1.1.q2; omega⟩
 one := ⟨1, by have := h.1.1.q2; omega⟩
 inv a := ⟨invI p m mod a.1, invI_bd h.1.1 _⟩
 add_assoc a b c := El.ext (addI_assoc h.1.1.p2 _ _ _)
 add_comm a b := El.ext (addI_comm _ _)
 zero_add a := El.ext (addI_zero h.1.1.p2 a.2.1 a.2.2)
 neg_add a := El.ext (negI_add h.1.1.p2 _)
 mul_assoc a b c := El.ext (mulI_assoc h.1.1 _ _ _)
 mul_comm a b := El.ext (mulI_comm h.1.1 _ _)
 one_mul a := El.ext (mulI_one h.1.1 a.2.1 a.2.2)
 add_mul a b c := El.ext (mulI_add h.1.1 _ _ _)
 inv_mul a ha := El.ext ((invI_spec h ⟨by
  have h1 : a.1 ≠ 0 := fun e => ha (El.ext e)
  have := a.2.1
  omega, a.2.2⟩).2.2)
 one_ne h1 := by
  have h2 : (1 : Int) = 0 := congrArg Subtype.val h1
  omega
theorem filterMap_some {α β : Type} {f : α → Option β} {g : α → β} : ∀ {l : List α}, (∀ i ∈ l, f i = some (g i)) → l.filterMap f = l.map g
 | [], _ => rfl
 | a :: l, h => by
  rw [List.filterMap_cons, h a (by simp), List.map_cons, filterMap_some (fun i hi => h i (List.mem_cons_of_mem _ hi))]
def elNz (p m : Int) (mod : List Int) : List (El p m mod) := (List.range (pw p m - 1).toNat).filterMap (fun i : Nat => if h : (i : Int) + 1 < pw p m then some ⟨(i : Int) + 1, by omega, h⟩ else none)
theorem elNz_map (p m : Int) (mod : List Int) : (elNz p m mod).map (fun a => a.1) = (List.range (pw p m - 1).toNat).map (fun i : Nat => (i : Int) + 1) := by
 unfold elNz
 rw [List.map_filterMap]
 have h : ∀ i ∈ List.range (pw p m - 1).toNat, (Option.map (fun a : El p m mod => a.1) (if h : (i : Int) + 1 < pw p m then some ⟨(i : Int) + 1, by omega, h⟩ else none)) = some ((i : Int) + 1) := fun i hi => by
  have := List.mem_range.1 hi
  rw [dif_pos (by omega)]; rfl
 exact filterMap_some h
theorem elNz_len (p m : Int) (mod : List Int) : (elNz p m mod).length = (pw p m - 1).toNat := by
 have := congrArg List.length (elNz_map p m mod)
 simpa using this
theorem elNz_nz (h : FldR p m mod) : @Fd.Nz (El p m mod) (elFd h) (elNz p m mod) := by
 letI := elFd h
 refine ⟨?_, fun a => ?_⟩
 ·have h1 : ((elNz p m mod).map (fun a => a.1)).Nodup := by
   rw [elNz_map]
   refine List.pairwise_map.2 (List.nodup_range.imp ?_)
   intro i j hij e
   omega
  exact List.Pairwise.of_map (fun a => a.1) (fun a b hab e => hab (by rw [e])) h1
 ·have h2 : a ∈ elNz p m mod ↔ a.1 ∈ (elNz p m mod).map (fun a => a.1) := ⟨fun h => List.mem_map.2 ⟨a, h, rfl⟩, fun h => by
   obtain ⟨b, hb, he⟩ := List.mem_map.1 h
   exact El.ext he ▸ hb⟩
  rw [h2, elNz_map]
  have h3 := a.2
  constructor
  ·intro h4 h5
   obtain ⟨i, hi, he⟩ := List.mem_map.1 h4
   have : a.1 = 0 := congrArg Subtype.val h5
   omega
  ·intro h4
   have h5 : a.1 ≠ 0 := fun e => h4 (El.ext e)
   exact List.mem_map.2 ⟨(a.1 - 1).toNat, List.mem_range.2 (by omega), by omega⟩
theorem pow_val (h : FldR p m mod) (g : El p m mod) : ∀ n, (@Fd.pow _ (elFd h) g n).1 = pwI p m mod g.1 n
 | 0 => rfl
 | n + 1 => by
  rw [pwI_succ h.1.1 g.2, ← pow_val h g n]
  rfl
theorem gen_ex (h : FldR p m mod) : ∃ x l, IsGen p m mod x l := by
 letI := elFd h
 have hs := h.1.1
 have hq := hs.q2
 obtain ⟨g, hg⟩ := (elNz_nz h).gen
 rw [elNz_len] at hg
 obtain ⟨hg0, hg1, hg2⟩ := hg
 have hx := g.2
 have hx0 : g.1 ≠ 0 := fun e => hg0 (El.ext e)
 let n := (pw p m - 1).toNat
 let l := (List.range n).map (fun i => pwI p m mod g.1 i)
 have hlen : l.length = n := by simp [l]
 have hget : ∀ i, i < n → l.getD i 0 = pwI p m mod g.1 i := fun i hi => by
  simp only [l]
  rw [List.getD_eq_getElem?_getD, List.getElem?_map, List.getElem?_range hi]; rfl
 have hpn : pwI p m mod g.1 n = 1 := by rw [← pow_val h]; exact congrArg Subtype.val hg1
 have hnz : ∀ i, 0 < pwI p m mod g.1 i := fun i => by
  have h1 := Fd.pow_ne hg0 i
  have h2 : (Fd.pow g i).1 ≠ 0 := fun e => h1 (El.ext e)
  rw [pow_val h] at h2
  have := (pwI_bd hs hx i).1
  omega
 have hnd : l.Nodup := by
  refine List.pairwise_iff_getElem.2 (fun i j hi hj hij e => ?_)
  rw [hlen] at hi hj
  simp only [l, List.getElem_map, List.getElem_range] at e
  have h1 : Fd.pow g i = Fd.pow g j := El.ext (by rw [pow_val h, pow_val h, e])
  have h2 : Fd.pow g (j - i) = 1 := by
   have h3 : Fd.pow g i * Fd.pow g (j - i) = Fd.pow g i * 1 := by
    rw [← Fd.pow_add, show i + (j - i) = j by omega, ← h1, Fd.mul_one]
   exact Fd.mul_left_cancel (Fd.pow_ne hg0 i) h3
  have h4 := Nat.le_of_dvd (by omega) (hg2 _ h2)
  omega
 refine ⟨g.1, l, by omega, hx.2, ⟨by omega, fun i hi => hget i (by omega), fun y hy => ?_, hnd, ?_⟩, by omega, ?_⟩
 ·obtain ⟨i, _, rfl⟩ := List.mem_map.1 hy
  exact ⟨hnz i, (pwI_bd hs hx i).2⟩
 ·rw [hlen, hpn]
  exact .inr (List.mem_map.2 ⟨0, List.mem_range.2 (by omega), rfl⟩)
 ·rw [hget _ (by omega), ← pwI_succ hs hx, show (pw p m - 2).toNat + 1 = n by omega, hpn]
theorem fldN_iff : FldN p m mod ↔ FldR p m mod := ⟨fldR_of_N, fun h => ⟨h.1, gen_ex h⟩⟩
end
end Go.Proofs.Ytdkahdehodopoaa

/-
  FACTORFROBENIUS, PART 3 OF 9. One sentence: the texts behind the law FactorFrobenius, put together.
  Conditions: each theorem's own, written out in it.
-/
import Derived.ProofKit
import Derived.Deep.Slices
import Derived.SizedLaws
import Derived.OpenShut
import Derived.ShutString
import Derived.ChangeOld
import Derived.RangeFuncNested
import Derived.RangeFuncBound
import Derived.RangeFuncCalls
import Derived.RangeFuncLeaves
import Derived.Shelf.Abstract
import Derived.Shelf.RegionOpen
import Derived.WalkKit
import Derived.OwnWalkIn
import Derived.TacticsInMore
import Derived.LoopNIn
import Derived.LoopIn
import Derived.Test.YtbhoeaijpnjgdaaShelf
import Derived.Sort.OwnSortedInts
import Derived.Test.YtbhoeaijpnjgdaaK2
set_option linter.unusedSimpArgs false
set_option linter.unusedVariables false
set_option linter.unusedSectionVars false
namespace Go.Proofs.Ytbhoeaijpnjgdaa
abbrev Row := Nat → Int
def Row.add (u v : Row) : Row := fun j => u j + v j
def Row.sm (c : Int) (v : Row) : Row := fun j => c * v j
def Row.z : Row := fun _ => 0
def Sup (n : Nat) (v : Row) : Prop := ∀ j, n ≤ j → v j = 0
structure Lin (T : Row → Row) : Prop where
 add : ∀ u v, T (u.add v) = (T u).add (T v)
 sm : ∀ c v, T (Row.sm c v) = Row.sm c (T v)
theorem Lin.z {T : Row → Row} (h : Lin T) : T Row.z = Row.z := by
 have := h.sm 0 Row.z
 have e : Row.sm 0 Row.z = Row.z := by funext j; simp [Row.sm, Row.z]
 rw [e] at this
 rw [this]; funext j; simp [Row.sm, Row.z]
def it (T : Row → Row) : Nat → Row → Row
 | 0, v => v
 | n + 1, v => T (it T n v)
theorem it_lin {T : Row → Row} (h : Lin T) : ∀ n, Lin (it T n)
 | 0 => ⟨fun _ _ => rfl, fun _ _ => rfl⟩
 | n + 1 => ⟨fun u v => by simp only [it, (it_lin h n).add, h.add], fun c v => by simp only [it, (it_lin h n).sm, h.sm]⟩
theorem it_comm (T : Row → Row) : ∀ (n : Nat) (v : Row), it T n (T v) = T (it T n v)
 | 0, _ => rfl
 | n + 1, v => by simp only [it, it_comm T n v]
def pl (T : Row → Row) : Nat → Row → Row → Row
 | 0, _, _ => Row.z
 | n + 1, Q, v => (pl T n Q v).add (Row.sm (Q n) (it T n v))
theorem Row.add_z (u : Row) : u.add Row.z = u := by funext j; simp [Row.add, Row.z]
theorem Row.z_add (u : Row) : Row.z.add u = u := by funext j; simp [Row.add, Row.z]
theorem Row.add_comm (u v : Row) : u.add v = v.add u := by funext j; simp only [Row.add]; omega
theorem Row.add_assoc (u v w : Row) : (u.add v).add w = u.add (v.add w) := by funext j; simp only [Row.add]; omega
theorem Row.sm_z (c : Int) : Row.sm c Row.z = Row.z := by funext j; simp [Row.sm, Row.z]
theorem Row.zero_sm (v : Row) : Row.sm 0 v = Row.z := by funext j; simp [Row.sm, Row.z]
theorem Row.sm_add (c : Int) (u v : Row) : Row.sm c (u.add v) = (Row.sm c u).add (Row.sm c v) := by funext j; simp [Row.sm, Row.add, Int.mul_add]
theorem Row.add_sm (c d : Int) (u : Row) : Row.sm (c + d) u = (Row.sm c u).add (Row.sm d u) := by funext j; simp [Row.sm, Row.add, Int.add_mul]
theorem Row.sm_sm (c d : Int) (u : Row) : Row.sm c (Row.sm d u) = Row.sm (c * d) u := by funext j; simp [Row.sm, Int.mul_assoc]
theorem Row.add4 (a b c d : Row) : (a.add b).add (c.add d) = (a.add c).add (b.add d) := by funext j; simp only [Row.add]; omega
theorem pl_lin {T : Row → Row} (h : Lin T) : ∀ n Q, Lin (pl T n Q)
 | 0, _ => ⟨fun _ _ => (Row.add_z _).symm, fun c _ => (Row.sm_z c).symm⟩
 | n + 1, Q => ⟨fun u v => by
   simp only [pl, (pl_lin h n Q).add, (it_lin h n).add, Row.sm_add]
   exact Row.add4 _ _ _ _, fun c v => by
   simp only [pl, (pl_lin h n Q).sm, (it_lin h n).sm, Row.sm_add, Row.sm_sm, Int.mul_comm]⟩
theorem pl_comm {T : Row → Row} (h : Lin T) : ∀ (n : Nat) (Q v : Row), pl T n Q (T v) = T (pl T n Q v)
 | 0, _, _ => h.z.symm
 | n + 1, Q, v => by simp only [pl, pl_comm h n Q v, it_comm, h.add, h.sm]
theorem pl_it {T : Row → Row} (h : Lin T) (n : Nat) (Q : Row) : ∀ (k : Nat) (v : Row), pl T n Q (it T k v) = it T k (pl T n Q v)
 | 0, _ => rfl
 | k + 1, v => by simp only [it, pl_comm h, pl_it h n Q k v]
theorem pl_pl {T : Row → Row} (h : Lin T) (n : Nat) (Q : Row) : ∀ (m : Nat) (R v : Row), pl T n Q (pl T m R v) = pl T m R (pl T n Q v)
 | 0, _, _ => (pl_lin h n Q).z
 | m + 1, R, v => by simp only [pl, (pl_lin h n Q).add, (pl_lin h n Q).sm, pl_pl h n Q m R v, pl_it h]
theorem pl_addQ {T : Row → Row} : ∀ (n : Nat) (Q Q' v : Row), pl T n (Q.add Q') v = (pl T n Q v).add (pl T n Q' v)
 | 0, _, _, _ => (Row.add_z _).symm
 | n + 1, Q, Q', v => by
  simp only [pl, pl_addQ n Q Q' v]
  rw [show Q.add Q' n = Q n + Q' n from rfl, Row.add_sm]
  exact Row.add4 _ _ _ _
theorem pl_smQ {T : Row → Row} : ∀ (n : Nat) (c : Int) (Q v : Row), pl T n (Row.sm c Q) v = Row.sm c (pl T n Q v)
 | 0, c, _, _ => (Row.sm_z c).symm
 | n + 1, c, Q, v => by
  simp only [pl, pl_smQ n c Q v, Row.sm_add, Row.sm_sm]
  rfl
theorem pl_cong {T : Row → Row} : ∀ (n : Nat) (Q Q' v : Row), (∀ i, i < n → Q i = Q' i) → pl T n Q v = pl T n Q' v
 | 0, _, _, _, _ => rfl
 | n + 1, Q, Q', v, h => by simp only [pl, pl_cong n Q Q' v (fun i hi => h i (by omega)), h n (by omega)]
theorem pl_bound {T : Row → Row} {n : Nat} {Q : Row} (hQ : Sup n Q) (v : Row) : ∀ k, pl T (n + k) Q v = pl T n Q v
 | 0 => rfl
 | k + 1 => by
  rw [← Nat.add_assoc, pl, pl_bound hQ v k, hQ (n + k) (by omega), Row.zero_sm, Row.add_z]
theorem pl_bound' {T : Row → Row} {n m : Nat} {Q : Row} (hQ : Sup n Q) (v : Row) (h : n ≤ m) : pl T m Q v = pl T n Q v := by
 have := pl_bound (T := T) hQ v (m - n)
 rwa [show n + (m - n) = m by omega] at this
theorem pl_z {T : Row → Row} (h : Lin T) (n : Nat) (Q : Row) : pl T n Q Row.z = Row.z := (pl_lin h n Q).z
def sh (v : Row) : Row := fun j => if j = 0 then 0 else v (j - 1)
theorem sh_lin : Lin sh := ⟨fun u v => by funext j; simp only [sh, Row.add]; split <;> omega, fun c v => by funext j; simp only [sh, Row.sm]; split <;> simp⟩
def e0 : Row := fun j => if j = 0 then 1 else 0
def ee (k : Nat) : Row := fun j => if j = k then 1 else 0
theorem sh_ee (k : Nat) : sh (ee k) = ee (k + 1) := by
 funext j
 simp only [sh, ee]
 by_cases h : j = 0
 ·simp [h]
 ·by_cases h2 : j - 1 = k
  ·rw [if_neg h, if_pos h2, if_pos (by omega)]
  ·rw [if_neg h, if_neg h2, if_neg (by omega)]
theorem sh_sup {n : Nat} {v : Row} (h : Sup n v) : Sup (n + 1) (sh v) := fun j hj => by
 simp only [sh]; rw [if_neg (by omega)]; exact h _ (by omega)
theorem it_sh_sup {n : Nat} {v : Row} (h : Sup n v) : ∀ k, Sup (n + k) (it sh k v)
 | 0 => h
 | k + 1 => by
  have := sh_sup (it_sh_sup h k)
  rwa [Nat.add_assoc] at this
theorem it_sh (v : Row) : ∀ (k j : Nat), it sh k v j = if j < k then 0 else v (j - k)
 | 0, j => by simp [it]
 | k + 1, j => by
  simp only [it, sh, it_sh v k]
  by_cases h : j = 0
  ·simp [h]
  ·rw [if_neg h]
   by_cases h2 : j - 1 < k
   ·rw [if_pos h2, if_pos (by omega)]
   ·rw [if_neg h2, if_neg (by omega), show j - 1 - k = j - (k + 1) by omega]
theorem pl_sh {T : Row → Row} (h : Lin T) : ∀ (n : Nat) (f v : Row), pl T (n + 1) (sh f) v = T (pl T n f v)
 | 0, f, v => by
  simp only [pl]
  rw [show sh f 0 = 0 from rfl, Row.zero_sm, Row.add_z, h.z]
 | n + 1, f, v => by
  rw [pl, pl_sh h n f v]
  rw [show sh f (n + 1) = f n from rfl]
  simp only [pl, h.add, h.sm, it]
theorem pl_it_sh {T : Row → Row} (h : Lin T) (m : Nat) (g v : Row) : ∀ (i : Nat), pl T (m + i) (it sh i g) v = it T i (pl T m g v)
 | 0 => rfl
 | i + 1 => by
  show pl T (m + i + 1) (sh (it sh i g)) v = T (it T i (pl T m g v))
  rw [pl_sh h, pl_it_sh h m g v i]
theorem pl_mul {T : Row → Row} (h : Lin T) {m : Nat} {g : Row} (hg : Sup m g) (Q v : Row) (k : Nat) : ∀ (n : Nat), n ≤ k + 1 → pl T (m + k) (pl sh n Q g) v = pl T n Q (pl T m g v)
 | 0, _ => by
  show pl T (m + k) Row.z v = Row.z
  have := pl_bound' (T := T) (n := 0) (m := m + k) (Q := Row.z) (fun _ _ => rfl) v (by omega)
  rw [this]; rfl
 | n + 1, hn => by
  simp only [pl, pl_addQ, pl_smQ, pl_mul h hg Q v k n (by omega)]
  congr 2
  rw [← pl_it_sh h]
  exact pl_bound' (it_sh_sup hg n) v (by omega)
def tm (M : Nat) (low : Row) (v : Row) : Row := fun j => if j < M then sh v j - v (M - 1) * low j else 0
theorem tm_lin (M : Nat) (low : Row) : Lin (tm M low) := ⟨fun u v => by
  funext j
  simp only [tm, Row.add]
  split
  ·have := congrFun (sh_lin.add u v) j
   simp only [Row.add] at this
   rw [this, Int.add_mul]; omega
  ·omega, fun c v => by
  funext j
  simp only [tm, Row.sm]
  split
  ·have := congrFun (sh_lin.sm c v) j
   simp only [Row.sm] at this
   rw [this, Int.mul_sub, Int.mul_assoc]
  ·simp⟩
theorem tm_sup (M : Nat) (low v : Row) : Sup M (tm M low v) := fun j hj => by simp only [tm]; rw [if_neg (by omega)]
theorem sup_add {n : Nat} {u v : Row} (hu : Sup n u) (hv : Sup n v) : Sup n (u.add v) := fun j hj => by simp only [Row.add, hu j hj, hv j hj]; rfl
theorem sup_sm {n : Nat} {u : Row} (c : Int) (hu : Sup n u) : Sup n (Row.sm c u) := fun j hj => by simp only [Row.sm, hu j hj]; simp
theorem it_tm_sup {M : Nat} {low v : Row} (hv : Sup M v) : ∀ n, Sup M (it (tm M low) n v)
 | 0 => hv
 | n + 1 => tm_sup M low _
theorem pl_tm_sup {M : Nat} {low v : Row} (hv : Sup M v) : ∀ n Q, Sup M (pl (tm M low) n Q v)
 | 0, _ => fun _ _ => rfl
 | n + 1, Q => sup_add (pl_tm_sup hv n Q) (sup_sm _ (it_tm_sup hv n))
theorem tm_ee {M : Nat} {low : Row} {k : Nat} (hk : k + 1 < M) : tm M low (ee k) = ee (k + 1) := by
 funext j
 simp only [tm, sh_ee]
 have h1 : ee k (M - 1) = 0 := by simp only [ee]; rw [if_neg (by omega)]
 rw [h1]
 by_cases hj : j < M
 ·rw [if_pos hj]; omega
 ·rw [if_neg hj]; simp only [ee]; rw [if_neg (by omega)]
theorem it_tm_e {M : Nat} {low : Row} : ∀ (k : Nat), k < M → it (tm M low) k (ee 0) = ee k
 | 0, _ => rfl
 | k + 1, h => by
  have h1 := it_tm_e (low := low) k (show k < M by omega)
  simp only [it, h1, tm_ee h]
theorem pl_tm_e {M : Nat} {low : Row} (a : Row) : ∀ (n : Nat), n ≤ M → pl (tm M low) n a (ee 0) = fun j => if j < n then a j else 0
 | 0, _ => by funext j; simp [pl, Row.z]
 | n + 1, h => by
  funext j
  have h3 := pl_tm_e (low := low) a n (show n ≤ M by omega)
  have h4 := it_tm_e (low := low) n (show n < M by omega)
  simp only [pl, h3, h4, Row.add, Row.sm, ee]
  by_cases h1 : j < n
  ·rw [if_pos h1, if_neg (by omega), if_pos (by omega)]; omega
  ·by_cases h2 : j = n
   ·rw [if_neg h1, if_pos h2, if_pos (by omega), h2]; omega
   ·rw [if_neg h1, if_neg h2, if_neg (by omega)]; omega
theorem pl_tm_self {M : Nat} {low a : Row} (ha : Sup M a) : pl (tm M low) M a (ee 0) = a := by
 rw [pl_tm_e a M (Nat.le_refl _)]
 funext j
 split
 ·rfl
 ·exact (ha j (by omega)).symm
def fF (M : Nat) (low : Row) : Row := fun j => if j < M then low j else if j = M then 1 else 0
theorem fF_e {M : Nat} {low : Row} (hM : 1 ≤ M) : pl (tm M low) (M + 1) (fF M low) (ee 0) = Row.z := by
 rw [pl]
 have h1 : pl (tm M low) M (fF M low) (ee 0) = fun j => if j < M then low j else 0 := by
  rw [pl_tm_e _ M (Nat.le_refl _)]
  funext j
  by_cases h : j < M
  ·simp [fF, h]
  ·simp [h]
 have h2 : fF M low M = 1 := by simp [fF]
 have h3 : it (tm M low) M (ee 0) = tm M low (ee (M - 1)) := by
  obtain ⟨k, rfl⟩ : ∃ k, M = k + 1 := ⟨M - 1, by omega⟩
  have h4 := it_tm_e (low := low) k (show k < k + 1 by omega)
  simp only [it, h4]
  rfl
 rw [h1, h2, h3]
 funext j
 simp only [Row.add, Row.sm, tm, Row.z, sh_ee]
 have h4 : ee (M - 1) (M - 1) = 1 := by simp [ee]
 rw [h4]
 by_cases h : j < M
 ·rw [if_pos h, if_pos h]
  have h5 : ee (M - 1 + 1) j = 0 := by simp only [ee]; rw [if_neg (by omega)]
  rw [h5]; omega
 ·rw [if_neg h, if_neg h]; omega
theorem fF_v {M : Nat} {low v : Row} (hM : 1 ≤ M) (hv : Sup M v) : pl (tm M low) (M + 1) (fF M low) v = Row.z := by
 have h := pl_tm_self (low := low) hv
 rw [← h, pl_pl (tm_lin M low), fF_e hM, pl_z (tm_lin M low)]
def rm (M : Nat) (low a b : Row) : Row := pl (tm M low) M b a
theorem rm_comm {M : Nat} {low a b : Row} (ha : Sup M a) (hb : Sup M b) : rm M low a b = rm M low b a := by
 have h1 : rm M low a b = pl (tm M low) M b (pl (tm M low) M a (ee 0)) := by rw [pl_tm_self ha]; rfl
 rw [h1, pl_pl (tm_lin M low), pl_tm_self hb]
 rfl
theorem rm_swap {M : Nat} {low a b c : Row} : rm M low (rm M low a b) c = rm M low (rm M low a c) b := pl_pl (tm_lin M low) M c M b a
theorem rm_sup {M : Nat} {low a b : Row} (ha : Sup M a) : Sup M (rm M low a b) := pl_tm_sup ha M b
theorem rm_assoc {M : Nat} {low a b c : Row} (ha : Sup M a) (hb : Sup M b) (hc : Sup M c) : rm M low (rm M low a b) c = rm M low a (rm M low b c) := by
 rw [rm_comm ha hb, rm_swap, rm_comm (rm_sup hb) ha]
theorem rm_one {M : Nat} {low a : Row} (ha : Sup M a) (hM : 1 ≤ M) : rm M low (ee 0) a = a := pl_tm_self ha
theorem rm_addL {M : Nat} {low a b c : Row} : rm M low (a.add b) c = (rm M low a c).add (rm M low b c) := (pl_lin (tm_lin M low) M c).add a b
def Cg (p : Int) (u v : Row) : Prop := ∃ w : Row, u = v.add (Row.sm p w)
theorem Cg.refl (p : Int) (u : Row) : Cg p u u := ⟨Row.z, by rw [Row.sm_z, Row.add_z]⟩
theorem Cg.of_eq {p : Int} {u v : Row} (h : u = v) : Cg p u v := h ▸ Cg.refl p u
theorem Cg.symm {p : Int} {u v : Row} (h : Cg p u v) : Cg p v u := by
 obtain ⟨w, rfl⟩ := h
 exact ⟨Row.sm (-1) w, by funext j; simp only [Row.add, Row.sm]; grind⟩
theorem Cg.trans {p : Int} {u v w : Row} (h : Cg p u v) (k : Cg p v w) : Cg p u w := by
 obtain ⟨x, rfl⟩ := h
 obtain ⟨y, rfl⟩ := k
 exact ⟨y.add x, by rw [Row.sm_add, Row.add_assoc]⟩
theorem Cg.add {p : Int} {u v u' v' : Row} (h : Cg p u v) (k : Cg p u' v') : Cg p (u.add u') (v.add v') := by
 obtain ⟨x, rfl⟩ := h
 obtain ⟨y, rfl⟩ := k
 exact ⟨x.add y, by rw [Row.sm_add]; exact Row.add4 _ _ _ _⟩
theorem Cg.sm {p : Int} {u v : Row} (c : Int) (h : Cg p u v) : Cg p (Row.sm c u) (Row.sm c v) := by
 obtain ⟨x, rfl⟩ := h
 exact ⟨Row.sm c x, by rw [Row.sm_add, Row.sm_sm, Row.sm_sm, Int.mul_comm]⟩
theorem Cg.lin {p : Int} {u v : Row} {T : Row → Row} (hT : Lin T) (h : Cg p u v) : Cg p (T u) (T v) := by
 obtain ⟨x, rfl⟩ := h
 exact ⟨T x, by rw [hT.add, hT.sm]⟩
theorem Cg.pl {p : Int} {Q Q' u v : Row} {T : Row → Row} (hT : Lin T) (n : Nat) (hQ : Cg p Q Q') (h : Cg p u v) : Cg p (pl T n Q u) (Go.Proofs.Ytbhoeaijpnjgdaa.pl T n Q' v) := by
 refine Cg.trans (Cg.lin (pl_lin hT n Q) h) ?_
 obtain ⟨x, rfl⟩ := hQ
 exact ⟨Go.Proofs.Ytbhoeaijpnjgdaa.pl T n x v, by rw [pl_addQ, pl_smQ]⟩
theorem Cg.of {p : Int} {u v : Row} (h : ∀ j, u j % p = v j % p) : Cg p u v := ⟨fun j => u j / p - v j / p, by
 funext j
 have h1 := Int.mul_ediv_add_emod (u j) p
 have h2 := Int.mul_ediv_add_emod (v j) p
 have h3 := h j
 simp only [Row.add, Row.sm, Int.mul_sub]
 omega⟩
theorem Cg.emod {p : Int} {u v : Row} (h : Cg p u v) (j : Nat) : u j % p = v j % p := by
 obtain ⟨x, rfl⟩ := h
 simp [Row.add, Row.sm]
end Go.Proofs.Ytbhoeaijpnjgdaa

namespace Go.Proofs.Ytbhoeaijpnjgdaa
def rl (l : List Int) : Row := fun j => l.getD j 0
theorem rl_sup (l : List Int) : Sup l.length (rl l) := fun j hj => by
 simp only [rl]; rw [List.getD_eq_getElem?_getD, List.getElem?_eq_none hj]; rfl
def rv (p : Int) (M : Nat) (u : Row) : Int := vl p ((List.range M).map (fun j => u j % p))
def dg (p : Int) (M : Nat) (x : Int) : Row := rl (digs p M x)
theorem dg_sup (p : Int) (M : Nat) (x : Int) : Sup M (dg p M x) := by
 have := rl_sup (digs p M x)
 rwa [digs_length] at this
theorem digs_vl {p : Int} (hp : 2 ≤ p) : ∀ (l : List Int), AllIn p l → digs p l.length (vl p l) = l
 | [], _ => rfl
 | d :: ds, h => by
  have h1 := h d (by simp)
  have h2 : (d + p * vl p ds) % p = d := by
   rw [Int.add_mul_emod_self_left]
   exact Int.emod_eq_of_lt h1.1 h1.2
  have h3 : (d + p * vl p ds) / p = vl p ds := by
   rw [Int.add_mul_ediv_left _ _ (by omega)]
   have : d / p = 0 := Int.ediv_eq_zero_of_lt h1.1 h1.2
   omega
  simp only [vl, List.length_cons, digs, h2, h3, digs_vl hp ds (fun c hc => h c (by simp [hc]))]
theorem vl_digs {p : Int} (hp : 2 ≤ p) : ∀ (M : Nat) (x : Int), 0 ≤ x → x < p ^ M → vl p (digs p M x) = x
 | 0, x, h0, h1 => by simp at h1; simp [vl, digs]; omega
 | M + 1, x, h0, h1 => by
  have h2 : x / p < p ^ M := Int.ediv_lt_of_lt_mul (by omega) (by rwa [Int.pow_succ] at h1)
  simp only [digs, vl, vl_digs hp M (x / p) (Int.ediv_nonneg h0 (by omega)) h2]
  have := Int.mul_ediv_add_emod x p
  omega
theorem rv_cong {p : Int} {M : Nat} {u v : Row} (h : ∀ j, j < M → u j % p = v j % p) : rv p M u = rv p M v := by
 unfold rv
 congr 1
 apply List.map_congr_left
 intro j hj
 exact h j (List.mem_range.1 hj)
theorem rv_cg {p : Int} {M : Nat} {u v : Row} (h : Cg p u v) : rv p M u = rv p M v := rv_cong fun j _ => h.emod j
theorem rv_bd {p : Int} (hp : 2 ≤ p) (M : Nat) (u : Row) : 0 ≤ rv p M u ∧ rv p M u < p ^ M := by
 have h := vl_in (p := p) (by omega) ((List.range M).map (fun j => u j % p)) (fun c hc => by
  obtain ⟨j, _, rfl⟩ := List.mem_map.1 hc
  exact ⟨Int.emod_nonneg _ (by omega), Int.emod_lt_of_pos _ (by omega)⟩)
 simpa [rv] using h
theorem dg_rv {p : Int} (hp : 2 ≤ p) (M : Nat) (u : Row) (j : Nat) (hj : j < M) : dg p M (rv p M u) j = u j % p := by
 have h := digs_vl hp ((List.range M).map (fun j => u j % p)) (fun c hc => by
  obtain ⟨j, _, rfl⟩ := List.mem_map.1 hc
  exact ⟨Int.emod_nonneg _ (by omega), Int.emod_lt_of_pos _ (by omega)⟩)
 simp only [List.length_map, List.length_range] at h
 simp only [dg, rl, rv, h]
 rw [List.getD_eq_getElem?_getD, List.getElem?_map, List.getElem?_range hj]
 rfl
theorem dg_rv_cg {p : Int} (hp : 2 ≤ p) {M : Nat} {u : Row} (hu : Sup M u) : Cg p (dg p M (rv p M u)) u := Cg.of fun j => by
 by_cases hj : j < M
 ·rw [dg_rv hp M u j hj, Int.emod_emod]
 ·rw [dg_sup p M _ j (by omega), hu j (by omega)]
theorem rv_dg {p : Int} (hp : 2 ≤ p) {M : Nat} {x : Int} (h0 : 0 ≤ x) (h1 : x < p ^ M) : rv p M (dg p M x) = x := by
 have h : (List.range M).map (fun j => dg p M x j % p) = digs p M x := by
  apply List.ext_getElem
  ·simp [digs_length]
  ·intro i h2 h3
   have h4 := (digs_in (p := p) (by omega) M x) _ (List.getElem_mem h3)
   have h5 : dg p M x i = (digs p M x)[i] := by
    simp only [dg, rl]
    rw [List.getD_eq_getElem?_getD, List.getElem?_eq_getElem h3]; rfl
   simp only [List.getElem_map, List.getElem_range, h5]
   exact Int.emod_eq_of_lt h4.1 h4.2
 unfold rv
 rw [h]
 exact vl_digs hp M x h0 h1
theorem dg_zero {p : Int} (hp : 2 ≤ p) (M : Nat) : dg p M 0 = Row.z := by
 have : ∀ M, digs p M 0 = List.replicate M 0 := fun M => by
  induction M with
  | zero => rfl
  | succ M ih => simp [digs, ih, List.replicate_succ]
 funext j
 simp only [dg, rl, this, Row.z]
 rw [List.getD_eq_getElem?_getD, List.getElem?_replicate]
 split <;> rfl
theorem dg_one {p : Int} (hp : 2 ≤ p) {M : Nat} (hM : 1 ≤ M) : dg p M 1 = ee 0 := by
 obtain ⟨k, rfl⟩ : ∃ k, M = k + 1 := ⟨M - 1, by omega⟩
 have h1 : (1 : Int) % p = 1 := Int.emod_eq_of_lt (by omega) (by omega)
 have h2 : (1 : Int) / p = 0 := Int.ediv_eq_zero_of_lt (by omega) (by omega)
 have h3 := dg_zero hp k
 funext j
 simp only [dg, rl, digs, h1, h2, ee]
 cases j with
 | zero => rfl
 | succ j =>
  have := congrFun h3 j
  simp only [dg, rl, Row.z] at this
  simpa using this
theorem pl_cons {T : Row → Row} (h : Lin T) : ∀ (n : Nat) (Q v : Row), pl T (n + 1) Q v = (Row.sm (Q 0) v).add (T (pl T n (fun i => Q (i + 1)) v))
 | 0, Q, v => by simp only [pl, h.z, Row.add_z, Row.z_add]; rfl
 | n + 1, Q, v => by
  rw [pl, pl_cons h n Q v]
  simp only [pl, h.add, h.sm, it, Row.add_assoc]
theorem hmulL_row (p : Int) (low a : List Int) (M : Nat) (hlow : low.length ≤ M) (ha : a.length = M) : ∀ (bs : List Int), Cg p (rl (hmulL p low a M bs)) (pl (tm M (rl low)) bs.length (rl bs) (rl a))
 | [] => Cg.of_eq (by
   funext j
   simp only [hmulL, rl, pl, Row.z, List.length_nil]
   rw [List.getD_eq_getElem?_getD, List.getElem?_replicate]; split <;> rfl)
 | b :: bs => by
  have ih := hmulL_row p low a M hlow ha bs
  have hT := tm_lin M (rl low)
  rw [List.length_cons, pl_cons hT]
  have h1 : (fun i => rl (b :: bs) (i + 1)) = rl bs := by funext i; simp [rl]
  have h2 : rl (b :: bs) 0 = b := rfl
  rw [h1, h2]
  refine Cg.trans ?_ (Cg.add (Cg.refl p (Row.sm b (rl a))) (Cg.lin hT ih))
  have hl := hmulL_length p low a M bs
  refine Cg.of fun j => ?_
  by_cases hj : j < M
  ·have h3 : rl (hmulL p low a M (b :: bs)) j = hent p low a (hmulL p low a M bs) b j := by
    simp only [rl, hmulL, hstep]
    rw [List.getD_eq_getElem?_getD, List.getElem?_map, List.getElem?_range (by omega)]
    rfl
   rw [h3]
   unfold hent
   simp only [Row.add, Row.sm, tm, if_pos hj, Int.emod_emod, hl]
   have h4 : hprev (hmulL p low a M bs) j = sh (rl (hmulL p low a M bs)) j := by
    simp only [hprev, sh, rl]
   rw [h4]
   simp only [rl]
   generalize sh _ j = s
   generalize (hmulL p low a M bs).getD (M - 1) 0 = t
   generalize low.getD j 0 = l
   generalize b * a.getD j 0 = e
   have h5 : s + (p - t) * l + e = (e + (s - t * l)) + p * l := by grind
   rw [h5, Int.add_mul_emod_self_left]
  ·have h3 : rl (hmulL p low a M (b :: bs)) j = 0 := by
    have := rl_sup (hmulL p low a M (b :: bs)) j (by rw [hmulL_length]; omega)
    exact this
   have h4 : rl a j = 0 := rl_sup a j (by omega)
   rw [h3]
   simp only [Row.add, Row.sm, h4, tm, if_neg hj]
   simp
theorem mulI_eq {p m : Int} {mod : List Int} (h : Shp p m mod) (x y : Int) : mulI p m mod x y = rv p m.toNat (rm m.toNat (rl mod) (dg p m.toNat x) (dg p m.toNat y)) := by
 have hp := h.p2
 have hm := h.m1
 have hlow : mod.length ≤ m.toNat := by
  rcases h.low with h1 | h1
  ·rw [h1.2]; simp
  ·omega
 have h1 := hmulL_row p mod (digs p m.toNat x) m.toNat hlow (digs_length p m.toNat x) (digs p m.toNat y)
 rw [digs_length] at h1
 show mulI p m mod x y = rv p m.toNat (pl (tm m.toNat (rl mod)) m.toNat (rl (digs p m.toNat y)) (rl (digs p m.toNat x)))
 rw [← rv_cg (M := m.toNat) h1]
 have h2 := hmulL_in (p := p) (by omega) mod (digs p m.toNat x) m.toNat (digs p m.toNat y)
 have h3 := hmulL_length p mod (digs p m.toNat x) m.toNat (digs p m.toNat y)
 unfold mulI rv
 congr 1
 apply List.ext_getElem
 ·simp [h3]
 ·intro i h4 h5
  have h6 := h2 _ (List.getElem_mem h4)
  simp only [List.getElem_map, List.getElem_range, rl]
  rw [List.getD_eq_getElem?_getD, List.getElem?_eq_getElem h4]
  exact (Int.emod_eq_of_lt h6.1 h6.2).symm
section
variable {p m : Int} {mod : List Int}
theorem mulI_cg (h : Shp p m mod) (x y : Int) : Cg p (dg p m.toNat (mulI p m mod x y)) (rm m.toNat (rl mod) (dg p m.toNat x) (dg p m.toNat y)) := by
 rw [mulI_eq h]
 exact dg_rv_cg h.p2 (rm_sup (dg_sup _ _ _))
theorem rm_cg {M : Nat} {low a a' b b' : Row} (ha : Cg p a a') (hb : Cg p b b') : Cg p (rm M low a b) (rm M low a' b') := Cg.pl (tm_lin M low) M hb ha
theorem mulI_comm (h : Shp p m mod) (x y : Int) : mulI p m mod x y = mulI p m mod y x := by
 rw [mulI_eq h, mulI_eq h, rm_comm (dg_sup _ _ _) (dg_sup _ _ _)]
theorem mulI_assoc (h : Shp p m mod) (x y z : Int) : mulI p m mod (mulI p m mod x y) z = mulI p m mod x (mulI p m mod y z) := by
 rw [mulI_eq h (mulI p m mod x y) z, mulI_eq h x (mulI p m mod y z)]
 refine rv_cg ?_
 refine Cg.trans (rm_cg (mulI_cg h x y) (Cg.refl _ _)) ?_
 rw [rm_assoc (dg_sup _ _ _) (dg_sup _ _ _) (dg_sup _ _ _)]
 exact rm_cg (Cg.refl _ _) (mulI_cg h y z).symm
theorem mulI_one (h : Shp p m mod) {x : Int} (h0 : 0 ≤ x) (h1 : x < pw p m) : mulI p m mod 1 x = x := by
 have hm := h.m1
 rw [mulI_eq h, dg_one h.p2 (by omega), rm_one (dg_sup _ _ _) (by omega)]
 exact rv_dg h.p2 h0 h1
theorem mulI_zero (h : Shp p m mod) (x : Int) : mulI p m mod 0 x = 0 := by
 rw [mulI_eq h, dg_zero h.p2]
 have h1 : rm m.toNat (rl mod) Row.z (dg p m.toNat x) = Row.z := pl_z (tm_lin _ _) _ _
 rw [h1, ← dg_zero h.p2 m.toNat]
 exact rv_dg h.p2 (by omega) (Int.pow_pos (by have := h.p2; omega))
def addI (p m : Int) (x y : Int) : Int := rv p m.toNat ((dg p m.toNat x).add (dg p m.toNat y))
def negI (p m : Int) (x : Int) : Int := rv p m.toNat (Row.sm (-1) (dg p m.toNat x))
theorem addI_cg (hp : 2 ≤ p) (x y : Int) : Cg p (dg p m.toNat (addI p m x y)) ((dg p m.toNat x).add (dg p m.toNat y)) := dg_rv_cg hp (sup_add (dg_sup _ _ _) (dg_sup _ _ _))
theorem addI_comm (x y : Int) : addI p m x y = addI p m y x := by unfold addI; rw [Row.add_comm]
theorem addI_assoc (hp : 2 ≤ p) (x y z : Int) : addI p m (addI p m x y) z = addI p m x (addI p m y z) := by
 unfold addI
 refine rv_cg ?_
 refine Cg.trans (Cg.add (addI_cg hp x y) (Cg.refl _ _)) ?_
 rw [Row.add_assoc]
 exact Cg.add (Cg.refl _ _) (addI_cg hp y z).symm
theorem addI_zero (hp : 2 ≤ p) {x : Int} (h0 : 0 ≤ x) (h1 : x < pw p m) : addI p m 0 x = x := by
 unfold addI
 rw [dg_zero hp, Row.z_add]
 exact rv_dg hp h0 h1
theorem addI_neg (hp : 2 ≤ p) (x : Int) : addI p m x (negI p m x) = 0 := by
 have h : Cg p ((dg p m.toNat x).add (dg p m.toNat (negI p m x))) Row.z := by
  refine Cg.trans (Cg.add (Cg.refl _ _) (dg_rv_cg hp (sup_sm _ (dg_sup _ _ _)))) (Cg.of_eq ?_)
  funext j; simp only [Row.add, Row.sm, Row.z]; omega
 unfold addI
 rw [rv_cg h, ← dg_zero hp m.toNat]
 exact rv_dg hp (by omega) (Int.pow_pos (by omega))
theorem mulI_add (h : Shp p m mod) (x y z : Int) : mulI p m mod (addI p m x y) z = addI p m (mulI p m mod x z) (mulI p m mod y z) := by
 rw [mulI_eq h]
 unfold addI
 refine rv_cg ?_
 refine Cg.trans (rm_cg (dg_rv_cg h.p2 (sup_add (dg_sup _ _ _) (dg_sup _ _ _))) (Cg.refl _ _)) ?_
 rw [rm_addL]
 exact Cg.add (mulI_cg h x z).symm (mulI_cg h y z).symm
theorem pwI_bd (h : Shp p m mod) {x : Int} (hx : 0 ≤ x ∧ x < pw p m) : ∀ n, 0 ≤ pwI p m mod x n ∧ pwI p m mod x n < pw p m
 | 0 => by have := h.q2; simp only [pwI]; omega
 | 1 => hx
 | n + 2 => mulI_bd h _ _
theorem pwI_succ (h : Shp p m mod) {x : Int} (hx : 0 ≤ x ∧ x < pw p m) : ∀ n, pwI p m mod x (n + 1) = mulI p m mod (pwI p m mod x n) x
 | 0 => (mulI_one h hx.1 hx.2).symm
 | n + 1 => rfl
theorem pwI_add (h : Shp p m mod) {x : Int} (hx : 0 ≤ x ∧ x < pw p m) (i : Nat) : ∀ j, pwI p m mod x (i + j) = mulI p m mod (pwI p m mod x i) (pwI p m mod x j)
 | 0 => by
  have := pwI_bd h hx i
  rw [show pwI p m mod x 0 = 1 from rfl, mulI_comm h, mulI_one h this.1 this.2]
  rfl
 | j + 1 => by rw [← Nat.add_assoc, pwI_succ h hx, pwI_add h hx i j, mulI_assoc h, ← pwI_succ h hx]
theorem IsGen.all {x : Int} {l : List Int} (hg : IsGen p m mod x l) {y : Int} (h0 : 0 < y) (h1 : y < pw p m) : y ∈ l := by
 refine Classical.byContradiction fun hy => ?_
 have h2 := nodup_len' (q := pw p m) (y :: l) (List.nodup_cons.2 ⟨hy, hg.pow.nodup⟩) (fun z hz => by
  rcases List.mem_cons.1 hz with rfl | hz
  ·exact ⟨h0, h1⟩
  ·exact hg.pow.nz z hz) (by omega)
 have h3 := hg.len
 simp only [List.length_cons] at h2
 omega
theorem IsGen.mem_pw {x : Int} {l : List Int} (hg : IsGen p m mod x l) {y : Int} (hy : y ∈ l) : ∃ i, i < l.length ∧ y = pwI p m mod x i := by
 obtain ⟨i, hi, rfl⟩ := List.getElem_of_mem hy
 have h := hg.pow.get i hi
 rw [List.getD_eq_getElem?_getD, List.getElem?_eq_getElem hi] at h
 exact ⟨i, hi, h⟩
theorem IsGen.pw_mem (hs : Shp p m mod) {x : Int} {l : List Int} (hg : IsGen p m mod x l) : ∀ n, pwI p m mod x n ∈ l := by
 have hx : 0 ≤ x ∧ x < pw p m := ⟨by have := hg.x1; omega, hg.x2⟩
 have h1 := hg.len
 have h2 := hg.pow.one
 have at_ : ∀ i, i < l.length → pwI p m mod x i ∈ l := fun i hi => by
  rw [← hg.pow.get i hi, List.getD_eq_getElem?_getD, List.getElem?_eq_getElem hi]
  exact List.getElem_mem hi
 intro n
 induction n with
 | zero => exact at_ 0 (by omega)
 | succ n ih =>
  obtain ⟨i, hi, he⟩ := hg.mem_pw ih
  rw [pwI_succ hs hx, he]
  by_cases hil : i + 1 < l.length
  ·rw [← pwI_succ hs hx]; exact at_ _ hil
  ·have hie : i = (pw p m - 2).toNat := by omega
   rw [← hg.pow.get i hi, hie, hg.last]
   exact at_ 0 (by omega)
theorem IsGen.no_zero (hs : Shp p m mod) {x : Int} {l : List Int} (hg : IsGen p m mod x l) {u v : Int} (hu : 0 < u ∧ u < pw p m) (hv : 0 < v ∧ v < pw p m) : mulI p m mod u v ≠ 0 := by
 have hx : 0 ≤ x ∧ x < pw p m := ⟨by have := hg.x1; omega, hg.x2⟩
 obtain ⟨i, _, rfl⟩ := hg.mem_pw (hg.all hu.1 hu.2)
 obtain ⟨j, _, rfl⟩ := hg.mem_pw (hg.all hv.1 hv.2)
 rw [← pwI_add hs hx]
 have := hg.pow.nz _ (hg.pw_mem hs (i + j))
 omega
end
def gF (low : List Int) : Row := rl (low ++ [1])
theorem gF_sup (low : List Int) : Sup (low.length + 1) (gF low) := by
 have := rl_sup (low ++ [1])
 rw [List.length_append] at this
 exact this
theorem gF_lo (low : List Int) {k : Nat} (h : k < low.length) : gF low k = low.getD k 0 := by
 simp only [gF, rl, List.getD_eq_getElem?_getD, List.getElem?_append_left h]
theorem gF_top (low : List Int) : gF low low.length = 1 := by
 simp [gF, rl, List.getD_eq_getElem?_getD]
theorem dstep_row {p : Int} {low r : List Int} {n : Nat} (hr : low.length + n < r.length) : Cg p (rl r) ((rl (dstep p low r (low.length + n))).add (Row.sm (r.getD (low.length + n) 0) (it sh n (gF low)))) := Cg.of fun k => by
 simp only [Row.add, Row.sm, it_sh]
 by_cases hk : k < r.length
 ·have h1 : rl (dstep p low r (low.length + n)) k = dent p low r (low.length + n) k := by
   simp only [rl, dstep]
   rw [List.getD_eq_getElem?_getD, List.getElem?_map, List.getElem?_range hk]
   rfl
  rw [h1]
  unfold dent
  by_cases h2 : k = low.length + n
  ·subst h2
   rw [if_pos rfl, if_neg (by omega), show low.length + n - n = low.length by omega, gF_top]
   simp only [rl]
   congr 1
   omega
  ·rw [if_neg h2]
   by_cases h3 : k < n
   ·rw [if_pos h3, if_neg (by omega)]
    simp only [rl]
    congr 1
    omega
   ·rw [if_neg h3]
    by_cases h4 : k < low.length + n
    ·rw [if_pos ⟨by omega, h4⟩, gF_lo low (by omega), show k + low.length - (low.length + n) = k - n by omega]
     simp only [rl]
     generalize r.getD k 0 = a
     generalize r.getD (low.length + n) 0 = c
     generalize low.getD (k - n) 0 = l
     rw [Int.emod_add_emod]
     have : a + (p - c) * l + c * l = a + p * l := by grind
     rw [this, Int.add_mul_emod_self_left]
    ·rw [if_neg (by omega), gF_sup low (k - n) (by omega)]
     simp only [rl]
     congr 1
     omega
 ·have h1 : rl (dstep p low r (low.length + n)) k = 0 := rl_sup _ k (by rw [dstep_length]; omega)
  have h2 : rl r k = 0 := rl_sup _ k (by omega)
  rw [h1, h2, if_neg (by omega), gF_sup low (k - n) (by omega)]
  simp
theorem dloop_row {p : Int} {low : List Int} : ∀ (n : Nat) (r : List Int), low.length + n ≤ r.length → ∃ Q : Row, Sup n Q ∧ Cg p (rl r) ((rl (dloop p low n r)).add (pl sh n Q (gF low))) ∧ (1 ≤ n → Q (n - 1) = r.getD (low.length + n - 1) 0)
 | 0, r, _ => ⟨Row.z, fun _ _ => rfl, Cg.of_eq (by simp only [dloop, pl, Row.add_z]), fun h => by omega⟩
 | n + 1, r, h => by
  have hsl := dstep_length p low r (low.length + n)
  obtain ⟨Q, h1, h2, _⟩ := dloop_row (p := p) (low := low) n (dstep p low r (low.length + n)) (by omega)
  have hQ : ∀ i, (fun i => if i < n then Q i else if i = n then r.getD (low.length + n) 0 else 0 : Row) i = if i < n then Q i else if i = n then r.getD (low.length + n) 0 else 0 := fun _ => rfl
  generalize (fun i => if i < n then Q i else if i = n then r.getD (low.length + n) 0 else 0 : Row) = Q2 at hQ
  refine ⟨Q2, fun j hj => by rw [hQ, if_neg (by omega), if_neg (by omega)], ?_, fun _ => by rw [hQ, if_neg (by omega), if_pos (by omega)]; rfl⟩
  refine Cg.trans (dstep_row (p := p) (low := low) (r := r) (n := n) (by omega)) ?_
  refine Cg.trans (Cg.add h2 (Cg.refl _ _)) (Cg.of_eq ?_)
  have h3 : pl sh n Q2 (gF low) = pl sh n Q (gF low) := pl_cong n _ _ _ (fun i hi => by rw [hQ, if_pos hi])
  have h4 : Q2 n = r.getD (low.length + n) 0 := by rw [hQ, if_neg (by omega), if_pos rfl]
  rw [Row.add_assoc, dloop, pl, h3, h4]
theorem fF_rl {mod : List Int} : rl (mod ++ [1]) = fF mod.length (rl mod) := by
 funext j
 simp only [rl, fF]
 by_cases h : j < mod.length
 ·rw [if_pos h, List.getD_eq_getElem?_getD, List.getElem?_append_left h, List.getD_eq_getElem?_getD]
 ·rw [if_neg h]
  by_cases h2 : j = mod.length
  ·subst h2; simp [List.getD_eq_getElem?_getD]
  ·rw [if_neg h2, List.getD_eq_getElem?_getD, List.getElem?_eq_none (by simp; omega)]; rfl
theorem ne_zero_row {p : Int} (hp : 2 ≤ p) {M : Nat} {u : Row} {k : Nat} (hk : k < M) (hu : u k % p ≠ 0) : 0 < rv p M u := by
 have h0 := (rv_bd hp M u).1
 have h3 : rv p M u ≠ 0 := fun e => hu (by
  have h1 := dg_rv hp M u k hk
  rw [e, dg_zero hp] at h1
  exact h1.symm)
 omega
theorem irr_of_gen {p m : Int} {mod : List Int} (hs : Shp p m mod) (hm : 2 ≤ m) {x : Int} {l : List Int} (hg : IsGen p m mod x l) : Irr p mod := by
 intro d hd hd2 v hv0 hv1
 have hp := hs.p2
 have hml : (mod.length : Int) = m := by
  rcases hs.low with h | h
  ·omega
  ·exact h.2
 have hM : m.toNat = mod.length := by omega
 cases hb : bDiv p (digs p d v) mod with
 | false => rfl
 | true =>
  exfalso
  have hlen := digs_length p d v
  generalize hlo : digs p d v = low at hb hlen
  obtain ⟨Q, hQ, hc, htop⟩ := dloop_row (p := p) (low := low) (mod.length + 1 - low.length) (mod ++ [1]) (by simp; omega)
  have hz : rl (dloop p low (mod.length + 1 - low.length) (mod ++ [1])) = Row.z := by
   funext j
   unfold bDiv divL at hb
   rw [List.all_eq_true] at hb
   simp only [rl, Row.z]
   by_cases hj : j < (dloop p low (mod.length + 1 - low.length) (mod ++ [1])).length
   ·rw [List.getD_eq_getElem?_getD, List.getElem?_eq_getElem hj]
    simpa using hb _ (List.getElem_mem hj)
   ·rw [List.getD_eq_getElem?_getD, List.getElem?_eq_none (by omega)]; rfl
  rw [hz, Row.z_add, fF_rl] at hc
  have htop' := htop (by omega)
  rw [show low.length + (mod.length + 1 - low.length) - 1 = mod.length by omega] at htop'
  have htop2 : (mod ++ [(1 : Int)]).getD mod.length 0 = 1 := by simp [List.getD_eq_getElem?_getD]
  rw [htop2] at htop'
  -- the two residues
  have hgs : Sup mod.length (gF low) := fun j hj => gF_sup low j (by omega)
  have hQs : Sup mod.length Q := fun j hj => hQ j (by omega)
  have hu : 0 < rv p mod.length (gF low) := ne_zero_row hp (k := low.length) (by omega) (by rw [gF_top, Int.emod_eq_of_lt (by omega) (by omega)]; omega)
  have hw : 0 < rv p mod.length Q := ne_zero_row hp (k := mod.length + 1 - low.length - 1) (by omega) (by rw [htop', Int.emod_eq_of_lt (by omega) (by omega)]; omega)
  have hu2 := (rv_bd hp mod.length (gF low)).2
  have hw2 := (rv_bd hp mod.length Q).2
  have hpw : pw p m = p ^ mod.length := by unfold pw; rw [hM]
  refine hg.no_zero hs ⟨hu, by rw [hpw]; exact hu2⟩ ⟨hw, by rw [hpw]; exact hw2⟩ ?_
  rw [mulI_eq hs, hM]
  have h1 : Cg p (rm mod.length (rl mod) (dg p mod.length (rv p mod.length (gF low))) (dg p mod.length (rv p mod.length Q))) Row.z := by
   refine Cg.trans (rm_cg (dg_rv_cg hp hgs) (dg_rv_cg hp hQs)) ?_
   have hT := tm_lin mod.length (rl mod)
   unfold rm
   rw [pl_bound' hQ _ (by omega)]
   have h2 : gF low = pl (tm mod.length (rl mod)) (low.length + 1) (gF low) (ee 0) := by
    rw [pl_tm_e (low := rl mod) (gF low) (low.length + 1) (by omega)]
    funext j
    split
    ·rfl
    ·exact gF_sup low j (by omega)
   rw [h2, ← pl_mul hT (gF_sup low) Q (ee 0) (mod.length - low.length) (mod.length + 1 - low.length) (by omega), show low.length + 1 + (mod.length - low.length) = mod.length + 1 by omega]
   refine Cg.trans (Cg.pl hT _ hc.symm (Cg.refl _ _)) (Cg.of_eq (fF_e (by omega)))
  rw [rv_cg h1, ← dg_zero hp mod.length]
  exact rv_dg hp (by omega) (Int.pow_pos (by omega))
theorem fldR_of_N {p m : Int} {mod : List Int} (h : FldN p m mod) : FldR p m mod := by
 obtain ⟨hs, x, l, hg⟩ := h
 refine ⟨hs, ?_⟩
 by_cases hm : m = 1
 ·exact .inl hm
 ·exact .inr (irr_of_gen hs.1 (by have := hs.1.m1; omega) hg)
end Go.Proofs.Ytbhoeaijpnjgdaa

namespace Go.Proofs.Ytbhoeaijpnjgdaa
theorem least_nat {P : Nat → Prop} (h : ∃ n, P n) : ∃ n, P n ∧ ∀ k, k < n → ¬ P k := by
 obtain ⟨n, hn⟩ := h
 induction n using Nat.strongRecOn with
 | _ n ih =>
  by_cases h : ∃ k, k < n ∧ P k
  ·obtain ⟨k, hk, hp⟩ := h
   exact ih k hk hp
  ·exact ⟨n, hn, fun k hk hp => h ⟨k, hk, hp⟩⟩
theorem prime_inv {p c : Int} (hp : IsP p) (hc : c % p ≠ 0) : ∃ u : Int, (u * c) % p = 1 := by
 have h2 := hp.1
 have hg : Int.gcd c p = 1 := by
  have h0 : (Int.gcd c p : Int) ∣ p := Int.gcd_dvd_right ..
  have h1 : (Int.gcd c p : Int) ∣ c := Int.gcd_dvd_left ..
  have hle : (Int.gcd c p : Int) ≤ p := Int.le_of_dvd (by omega) h0
  have hne0 : Int.gcd c p ≠ 0 := fun h => by
   rw [h] at h0
   have := Int.zero_dvd.1 h0
   omega
  rcases Nat.lt_or_ge (Int.gcd c p) 2 with h3 | h3
  ·omega
  ·exfalso
   by_cases h4 : (Int.gcd c p : Int) < p
   ·exact hp.2 _ (by omega) h4 (Int.emod_eq_zero_of_dvd h0)
   ·have h5 : (Int.gcd c p : Int) = p := by omega
    rw [h5] at h1
    exact hc (Int.emod_eq_zero_of_dvd h1)
 obtain ⟨u, hu⟩ := inverse (by omega) hg
 exact ⟨u, by rw [hu, Int.emod_eq_of_lt (by omega) (by omega)]⟩
theorem cg_z {p : Int} {u : Row} (h : ∀ j, u j % p = 0) : Cg p u Row.z := Cg.of fun j => by rw [h j]; rfl
theorem cg_z_emod {p : Int} {u : Row} (h : Cg p u Row.z) (j : Nat) : u j % p = 0 := by rw [h.emod j]; rfl
theorem it_sh_e : ∀ k, it sh k (ee 0) = ee k
 | 0 => rfl
 | k + 1 => by simp only [it, it_sh_e k, sh_ee]
theorem pl_sh_e (a : Row) : ∀ n, pl sh n a (ee 0) = fun j => if j < n then a j else 0
 | 0 => by funext j; simp [pl, Row.z]
 | n + 1 => by
  funext j
  have h3 := pl_sh_e a n
  have h4 := it_sh_e n
  simp only [pl, h3, h4, Row.add, Row.sm, ee]
  by_cases h1 : j < n
  ·rw [if_pos h1, if_neg (by omega), if_pos (by omega)]; omega
  ·by_cases h2 : j = n
   ·rw [if_neg h1, if_pos h2, if_pos (by omega), h2]; omega
   ·rw [if_neg h1, if_neg h2, if_neg (by omega)]; omega
theorem pl_sh_self {n : Nat} {a : Row} (ha : Sup n a) : pl sh n a (ee 0) = a := by
 rw [pl_sh_e]
 funext j
 split
 ·rfl
 ·exact (ha j (by omega)).symm
theorem sup_mono {n k : Nat} {u : Row} (h : Sup n u) (hk : n ≤ k) : Sup k u := fun j hj => h j (by omega)
theorem pl_sh_sup {e : Nat} {G : Row} (hG : Sup (e + 1) G) (h : Row) : ∀ N, Sup (N + e) (pl sh N h G)
 | 0 => fun _ _ => rfl
 | N + 1 => by
  refine sup_add (sup_mono (pl_sh_sup hG h N) (by omega)) (sup_sm _ ?_)
  have := it_sh_sup hG N
  exact sup_mono this (by omega)
theorem uniq {p : Int} {e : Nat} {G R : Row} (hG : Sup (e + 1) G) (hG1 : G e = 1) (hR : Sup e R) : ∀ (N : Nat) (h : Row), Cg p (pl sh N h G) R → Cg p R Row.z
 | 0, h, hc => hc.symm
 | N + 1, h, hc => by
  have h1 := hc.emod (N + e)
  have h2 : pl sh (N + 1) h G (N + e) = h N := by
   simp only [pl, Row.add, Row.sm, it_sh]
   rw [pl_sh_sup hG h N (N + e) (by omega), if_neg (by omega), show N + e - N = e by omega, hG1]
   omega
  rw [h2, hR (N + e) (by omega)] at h1
  refine uniq hG hG1 hR N h (Cg.trans ?_ hc)
  have h3 : Cg p (Row.sm (h N) (it sh N G)) Row.z := cg_z fun j => by
   simp only [Row.sm]
   rw [Int.mul_emod, h1]; simp
  have h4 := Cg.add (Cg.refl p (pl sh N h G)) h3.symm
  rw [Row.add_z] at h4
  exact h4
theorem dloop_in {p : Int} (hp : 1 ≤ p) {low : List Int} : ∀ (n : Nat) (r : List Int), AllIn p r → AllIn p (dloop p low n r)
 | 0, r, h => h
 | n + 1, r, h => dloop_in hp n _ (dstep_in hp h)
theorem dloop_sup {p : Int} {low : List Int} : ∀ (n : Nat) (r : List Int), Sup (low.length + n) (rl r) → Sup low.length (rl (dloop p low n r))
 | 0, r, h => h
 | n + 1, r, h => dloop_sup n _ (fun j hj => by
   by_cases hjl : j < r.length
   ·have h1 : rl (dstep p low r (low.length + n)) j = dent p low r (low.length + n) j := by
     simp only [rl, dstep]
     rw [List.getD_eq_getElem?_getD, List.getElem?_map, List.getElem?_range hjl]
     rfl
    rw [h1]
    unfold dent
    by_cases h2 : j = low.length + n
    ·rw [if_pos h2]
    ·rw [if_neg h2, if_neg (by omega)]
     exact h j (by omega)
   ·exact rl_sup _ j (by rw [dstep_length]; omega))
theorem bDiv_of_zero {p : Int} (hp : 2 ≤ p) {low mod : List Int} (hmod : AllIn p mod) (h : Cg p (rl (divL p low mod)) Row.z) : bDiv p low mod = true := bDiv_true fun k hk => by
 have hin : AllIn p (divL p low mod) := dloop_in (by omega) _ _ (fun z hz => by
  rcases List.mem_append.1 hz with h1 | h1
  ·exact hmod z h1
  ·simp at h1; omega)
 have h1 := cg_z_emod h k
 have h2 := hin.get (by omega) k
 have h3 : (divL p low mod).getD k 0 % p = 0 := h1
 rw [Int.emod_eq_of_lt h2.1 h2.2] at h3
 exact h3
theorem gF_cg {p : Int} (hp : 2 ≤ p) {d : Nat} {g : Row} (hg : Sup (d + 1) g) (hg1 : g d = 1) : Cg p (gF (digs p d (rv p d g))) g := Cg.of fun j => by
 have hl := digs_length p d (rv p d g)
 by_cases h1 : j < d
 ·rw [gF_lo _ (by omega)]
  have := dg_rv hp d g j h1
  simp only [dg, rl] at this
  rw [this, Int.emod_emod]
 ·by_cases h2 : j = d
  ·subst h2
   have : gF (digs p j (rv p j g)) j = 1 := by
    have h3 := gF_top (digs p j (rv p j g))
    rwa [hl] at h3
   rw [this, hg1]
  ·rw [gF_sup _ j (by omega), hg j (by omega)]
def An (p : Int) (M : Nat) (low a : Row) (d : Nat) (g : Row) : Prop := Sup (d + 1) g ∧ g d = 1 ∧ Cg p (pl (tm M low) (d + 1) g a) Row.z
theorem monic_of {p : Int} (hp : IsP p) {M : Nat} {low a h : Row} {n : Nat} (hh : Sup n h) (hne : ∃ k, k < n ∧ h k % p ≠ 0) (hz : Cg p (pl (tm M low) n h a) Row.z) : ∃ d, d < n ∧ ∃ g, An p M low a d g := by
 have hT := tm_lin M low
 -- the top index
 obtain ⟨k, hk, hkmax⟩ : ∃ k, (k < n ∧ h k % p ≠ 0) ∧ ∀ i, k < i → h i % p = 0 := by
  obtain ⟨k0, hk0, hk1⟩ := hne
  obtain ⟨e, he, hmin⟩ := least_nat (P := fun e => e < n ∧ h (n - 1 - e) % p ≠ 0) ⟨n - 1 - k0, by omega, by rw [show n - 1 - (n - 1 - k0) = k0 by omega]; exact hk1⟩
  refine ⟨n - 1 - e, ⟨by omega, he.2⟩, fun i hi => ?_⟩
  by_cases hin : i < n
  ·refine Classical.byContradiction fun hno => hmin (n - 1 - i) (by omega) ⟨by omega, ?_⟩
   rw [show n - 1 - (n - 1 - i) = i by omega]; exact hno
  ·rw [hh i (by omega)]; rfl
 obtain ⟨c, hc⟩ := prime_inv hp hk.2
 have hg : ∀ i, (fun i => if i < k then c * h i else if i = k then 1 else 0 : Row) i = if i < k then c * h i else if i = k then 1 else 0 := fun _ => rfl
 generalize (fun i => if i < k then c * h i else if i = k then 1 else 0 : Row) = g at hg
 have hgs : Sup (k + 1) g := fun j hj => by rw [hg, if_neg (by omega), if_neg (by omega)]
 refine ⟨k, hk.1, g, hgs, by rw [hg, if_neg (by omega), if_pos rfl], ?_⟩
 have hcg : Cg p g (Row.sm c h) := Cg.of fun i => by
  rw [hg]
  simp only [Row.sm]
  by_cases h1 : i < k
  ·rw [if_pos h1]
  ·rw [if_neg h1]
   by_cases h2 : i = k
   ·rw [if_pos h2, h2, hc]
    have := hp.1
    exact Int.emod_eq_of_lt (by omega) (by omega)
   ·rw [if_neg h2, Int.mul_emod, hkmax i (by omega)]; simp
 rw [← pl_bound' (T := tm M low) hgs a (show k + 1 ≤ n by omega)]
 refine Cg.trans (Cg.pl hT n hcg (Cg.refl _ _)) ?_
 rw [pl_smQ]
 have := Cg.sm c hz
 rwa [Row.sm_z] at this
theorem rv_zero {p : Int} (hp : 2 ≤ p) (M : Nat) : rv p M Row.z = 0 := by
 rw [← dg_zero hp M]
 exact rv_dg hp (by omega) (Int.pow_pos (by omega))
theorem zero_of_cg {p : Int} (hp : 2 ≤ p) {M : Nat} {u : Int} (h0 : 0 ≤ u) (h1 : u < p ^ M) (h : Cg p (dg p M u) Row.z) : u = 0 := by
 rw [← rv_dg hp h0 h1, rv_cg h, rv_zero hp]
theorem cg_of_rv {p : Int} (hp : 2 ≤ p) {M : Nat} {w : Row} (hw : Sup M w) (h : rv p M w = 0) : Cg p w Row.z := cg_z fun j => by
 by_cases hj : j < M
 ·rw [← dg_rv hp M w j hj, h, dg_zero hp]; rfl
 ·rw [hw j (by omega)]; rfl
theorem no_zero_irr {p m : Int} {mod : List Int} (hsp : ShpP p m mod) (hm : 2 ≤ m) (hirr : Irr p mod) {u v : Int} (hu : 0 < u ∧ u < pw p m) (hv : 0 < v ∧ v < pw p m) : mulI p m mod u v ≠ 0 := by
 intro hzero
 have hs := hsp.1
 have hpp := hsp.2
 have hp := hs.p2
 have hml : (mod.length : Int) = m := by
  rcases hs.low with h | h
  ·omega
  ·exact h.2
 have hM : m.toNat = mod.length := by omega
 have hpw : pw p m = p ^ mod.length := by unfold pw; rw [hM]
 rw [mulI_eq hs, hM] at hzero
 rw [hpw] at hu hv
 generalize hL : mod.length = M at *
 have hT := tm_lin M (rl mod)
 have ha : Sup M (dg p M u) := dg_sup _ _ _
 have hb : Sup M (dg p M v) := dg_sup _ _ _
 have hab := cg_of_rv hp (rm_sup ha) hzero
 have hne : ∀ {x : Int}, 0 < x ∧ x < p ^ M → ∃ k, k < M ∧ dg p M x k % p ≠ 0 := fun {x} hx => by
  refine Classical.byContradiction fun hno => ?_
  have h1 : Cg p (dg p M x) Row.z := cg_z fun j => by
   by_cases hj : j < M
   ·exact Classical.byContradiction fun h2 => hno ⟨j, hj, h2⟩
   ·rw [dg_sup p M x j (by omega)]; rfl
  have := zero_of_cg hp (by omega) hx.2 h1
  omega
 have hane := hne hu
 have hbne := hne hv
 generalize dg p M u = a at ha hab hane
 obtain ⟨d0, hd0, g0, hg0⟩ := monic_of hpp hb hbne hab
 obtain ⟨d, ⟨g, hg⟩, hmin⟩ := least_nat (P := fun d => ∃ g, An p M (rl mod) a d g) ⟨d0, g0, hg0⟩
 have hdM : d < M := by
  refine Nat.lt_of_le_of_lt (Nat.le_of_not_lt (fun hlt => hmin d0 hlt ⟨g0, hg0⟩)) hd0
 obtain ⟨hgs, hg1, hga⟩ := hg
 have hd1 : 1 ≤ d := by
  rcases Nat.eq_zero_or_pos d with h | h
  ·exfalso
   subst h
   have h1 : pl (tm M (rl mod)) (0 + 1) g a = a := by
    simp only [pl, it, Row.z_add, hg1]
    funext j; simp [Row.sm]
   rw [h1] at hga
   obtain ⟨k, _, hk⟩ := hane
   exact hk (cg_z_emod hga k)
  ·exact h
 -- the modulus divided by g
 have hll := digs_length p d (rv p d g)
 have hgF := gF_cg hp hgs hg1
 have hvb := rv_bd hp d g
 generalize hlo : digs p d (rv p d g) = low at hll hgF
 have hmodlen : (mod ++ [(1 : Int)]).length = M + 1 := by simp [hL]
 obtain ⟨Q, hQ, hc, htop⟩ := dloop_row (p := p) (low := low) (mod.length + 1 - low.length) (mod ++ [1]) (by omega)
 have hRs : Sup low.length (rl (divL p low mod)) := dloop_sup _ _ (by
  have h1 := rl_sup (mod ++ [(1 : Int)])
  exact sup_mono h1 (by omega))
 have hfF : rl (mod ++ [1]) = fF M (rl mod) := by rw [fF_rl, hL]
 rw [hfF] at hc
 have hc1 : Cg p (fF M (rl mod)) ((rl (divL p low mod)).add (pl sh (mod.length + 1 - low.length) Q (gF low))) := hc
 clear hc
 generalize hRd : rl (divL p low mod) = R at hRs hc1
 have hQ1 : Q (mod.length + 1 - low.length - 1) = 1 := by
  rw [htop (by omega), show low.length + (mod.length + 1 - low.length) - 1 = mod.length by omega]
  simp [List.getD_eq_getElem?_getD]
 have hRa : Cg p (pl (tm M (rl mod)) d R a) Row.z := by
  have h1 := Cg.pl hT (M + 1) hc1 (Cg.refl p a)
  rw [fF_v (by omega) ha, pl_addQ] at h1
  have h2 : pl (tm M (rl mod)) (M + 1) (pl sh (mod.length + 1 - low.length) Q (gF low)) a = pl (tm M (rl mod)) (mod.length + 1 - low.length) Q (pl (tm M (rl mod)) (low.length + 1) (gF low) a) := by
   rw [← pl_mul hT (gF_sup low) Q a (M - low.length) (mod.length + 1 - low.length) (by omega), show low.length + 1 + (M - low.length) = M + 1 by omega]
  have h3 : Cg p (pl (tm M (rl mod)) (low.length + 1) (gF low) a) Row.z := by
   rw [hll]
   exact Cg.trans (Cg.pl hT _ hgF (Cg.refl _ _)) hga
  have h4 : Cg p (pl (tm M (rl mod)) (M + 1) (pl sh (mod.length + 1 - low.length) Q (gF low)) a) Row.z := by
   rw [h2]
   have h5 := Cg.pl hT (mod.length + 1 - low.length) (Cg.refl p Q) h3
   rwa [pl_z hT] at h5
  have h6 := Cg.trans h1 (Cg.add (Cg.refl p (pl (tm M (rl mod)) (M + 1) R a)) h4)
  rw [Row.add_z, pl_bound' (T := tm M (rl mod)) (sup_mono hRs (show low.length ≤ d by omega)) a (show d ≤ M + 1 by omega)] at h6
  exact h6.symm
 have hRz : Cg p R Row.z := cg_z fun j => by
  refine Classical.byContradiction fun hno => ?_
  have hjd : j < d := Nat.lt_of_not_le (fun hge => hno (by rw [hRs j (by omega)]; rfl))
  obtain ⟨d', hd', g', hg'⟩ := monic_of hpp (sup_mono hRs (show low.length ≤ d by omega)) ⟨j, hjd, hno⟩ hRa
  exact hmin d' hd' ⟨g', hg'⟩
 have hbd : bDiv p low mod = true := bDiv_of_zero hp hs.ent (by rw [hRd]; exact hRz)
 by_cases h2d : 2 * d ≤ M
 ·have h1 := hirr d hd1 (by omega) (rv p d g) hvb.1 hvb.2
  rw [hlo, hbd] at h1
  cases h1
 ·-- the other factor
  have hn : mod.length + 1 - low.length = (M - d) + 1 := by omega
  rw [hn] at hQ hQ1 hc1
  rw [show M - d + 1 - 1 = M - d by omega] at hQ1
  have hll2 := digs_length p (M - d) (rv p (M - d) Q)
  have hgF2 := gF_cg hp hQ hQ1
  have hvb2 := rv_bd hp (M - d) Q
  have h1 := hirr (M - d) (by omega) (by omega) (rv p (M - d) Q) hvb2.1 hvb2.2
  generalize hlo2 : digs p (M - d) (rv p (M - d) Q) = low2 at hll2 hgF2 h1
  obtain ⟨Q2, hQ2, hc2, _⟩ := dloop_row (p := p) (low := low2) (mod.length + 1 - low2.length) (mod ++ [1]) (by omega)
  have hRs2 : Sup low2.length (rl (divL p low2 mod)) := dloop_sup _ _ (by
   have h1 := rl_sup (mod ++ [(1 : Int)])
   exact sup_mono h1 (by omega))
  rw [hfF] at hc2
  have hc3 : Cg p (fF M (rl mod)) ((rl (divL p low2 mod)).add (pl sh (mod.length + 1 - low2.length) Q2 (gF low2))) := hc2
  clear hc2
  rw [show mod.length + 1 - low2.length = d + 1 by omega] at hc3
  have hz2 : Cg p (rl (divL p low2 mod)) Row.z := by
   refine uniq (gF_sup low2) (gF_top low2) hRs2 (d + 1) (g.add (Row.sm (-1) Q2)) ?_
   -- f is g Q
   have h2 : Cg p (fF M (rl mod)) (pl sh (M - d + 1) Q (gF low)) := by
    have := Cg.trans hc1 (Cg.add hRz (Cg.refl p (pl sh (M - d + 1) Q (gF low))))
    rwa [Row.z_add] at this
   have h3 : Cg p (pl sh (M - d + 1) Q (gF low)) (pl sh (d + 1) g (gF low2)) := by
    refine Cg.trans (Cg.pl sh_lin _ (Cg.refl p Q) hgF) ?_
    have h4 : pl sh (M - d + 1) Q g = pl sh (d + 1) g Q := by
     have h5 := pl_sh_self hgs
     have h6 := pl_sh_self hQ
     calc pl sh (M - d + 1) Q g = pl sh (M - d + 1) Q (pl sh (d + 1) g (ee 0)) := by rw [h5]
      _ = pl sh (d + 1) g (pl sh (M - d + 1) Q (ee 0)) := pl_pl sh_lin _ _ _ _ _
      _ = pl sh (d + 1) g Q := by rw [h6]
    rw [h4]
    exact Cg.pl sh_lin _ (Cg.refl p g) hgF2.symm
   have h7 := Cg.trans hc3.symm (Cg.trans h2 h3)
   -- R2 + Q2 G = g G
   have h8 := Cg.add h7.symm (Cg.refl p (Row.sm (-1) (pl sh (d + 1) Q2 (gF low2))))
   rw [pl_addQ, pl_smQ]
   refine Cg.trans h8 (Cg.of_eq ?_)
   funext j; simp only [Row.add, Row.sm]; omega
  have hbd2 : bDiv p low2 mod = true := bDiv_of_zero hp hs.ent hz2
  rw [hbd2] at h1
  cases h1
theorem no_zero_prime {p : Int} (hsp : ShpP p 1 []) {u v : Int} (hu : 0 < u ∧ u < pw p 1) (hv : 0 < v ∧ v < pw p 1) : mulI p 1 [] u v ≠ 0 := by
 intro hz
 have hs := hsp.1
 have hp := hs.p2
 have hpw : pw p 1 = p := by
  have h2 := pw_succ p (k := 0) (by omega)
  rw [pw_zero, Int.zero_add, Int.one_mul] at h2
  exact h2
 rw [hpw] at hu hv
 rw [mulI_eq hs] at hz
 have h1 := cg_of_rv hp (rm_sup (dg_sup _ _ _)) hz
 have h2 := cg_z_emod h1 0
 have hd : ∀ x : Int, 0 ≤ x → x < p → dg p 1 x 0 = x := fun x h0 h1 => by
  simp only [dg, rl, digs]
  rw [Int.emod_eq_of_lt h0 h1]; rfl
 have h3 : rm (1 : Int).toNat (rl []) (dg p (1 : Int).toNat u) (dg p (1 : Int).toNat v) 0 = v * u := by
  show rm 1 (rl []) (dg p 1 u) (dg p 1 v) 0 = v * u
  simp only [rm, pl, it, Row.add, Row.z, Row.sm, hd u (by omega) hu.2, hd v (by omega) hv.2]
  omega
 rw [h3] at h2
 obtain ⟨c, hc⟩ := prime_inv (c := v) hsp.2 (by rw [Int.emod_eq_of_lt (by omega) hv.2]; omega)
 have h4 : (c * (v * u)) % p = u := by
  rw [← Int.mul_assoc, Int.mul_emod, hc, Int.one_mul, Int.emod_emod, Int.emod_eq_of_lt (by omega) hu.2]
 rw [Int.mul_emod, h2] at h4
 simp at h4
 omega
theorem no_zero {p m : Int} {mod : List Int} (h : FldR p m mod) {u v : Int} (hu : 0 < u ∧ u < pw p m) (hv : 0 < v ∧ v < pw p m) : mulI p m mod u v ≠ 0 := by
 rcases h.1.1.low with h1 | h1
 ·obtain ⟨rfl, rfl⟩ := h1
  exact no_zero_prime h.1 hu hv
 ·rcases h.2 with h2 | h2
  ·omega
  ·exact no_zero_irr h.1 h1.1 h2 hu hv
def El (p m : Int) (_mod : List Int) : Type := { x : Int // 0 ≤ x ∧ x < pw p m }
instance (p m : Int) (mod : List Int) : DecidableEq (El p m mod) := inferInstanceAs (DecidableEq { x : Int // 0 ≤ x ∧ x < pw p m })
theorem El.ext {p m : Int} {mod : List Int} {a b : El p m mod} (h : a.1 = b.1) : a = b := Subtype.ext h
theorem addI_bd {p m : Int} (hp : 2 ≤ p) (x y : Int) : 0 ≤ addI p m x y ∧ addI p m x y < pw p m := rv_bd hp _ _
theorem negI_bd {p m : Int} (hp : 2 ≤ p) (x : Int) : 0 ≤ negI p m x ∧ negI p m x < pw p m := rv_bd hp _ _
theorem negI_add {p m : Int} (hp : 2 ≤ p) (x : Int) : addI p m (negI p m x) x = 0 := by rw [addI_comm, addI_neg hp]
theorem addI_zeroR {p m : Int} (hp : 2 ≤ p) {x : Int} (h0 : 0 ≤ x) (h1 : x < pw p m) : addI p m x 0 = x := by rw [addI_comm]; exact addI_zero hp h0 h1
section
variable {p m : Int} {mod : List Int}
theorem mul_inj (h : FldR p m mod) {x y z : Int} (hx : 0 ≤ x ∧ x < pw p m) (hy : 0 ≤ y ∧ y < pw p m) (hz : 0 < z ∧ z < pw p m) (he : mulI p m mod x z = mulI p m mod y z) : x = y := by
 have hs := h.1.1
 have hp := hs.p2
 have h1 : mulI p m mod (addI p m x (negI p m y)) z = 0 := by
  rw [mulI_add hs, he, ← mulI_add hs, addI_neg hp, mulI_zero hs]
 have h2 := addI_bd (m := m) hp x (negI p m y)
 have h3 : addI p m x (negI p m y) = 0 := by
  refine Classical.byContradiction fun hne => ?_
  exact no_zero h ⟨by omega, h2.2⟩ hz h1
 have h4 : addI p m (addI p m x (negI p m y)) y = y := by rw [h3]; exact addI_zero hp hy.1 hy.2
 rw [addI_assoc hp, negI_add hp, addI_zeroR hp hx.1 hx.2] at h4
 exact h4
theorem inv_ex (h : FldR p m mod) {z : Int} (hz : 0 < z ∧ z < pw p m) : ∃ y, 0 ≤ y ∧ y < pw p m ∧ mulI p m mod y z = 1 := by
 have hs := h.1.1
 have hq := hs.q2
 -- the products with z are all different
 refine Classical.byContradiction fun hno => ?_
 let l := (List.range (pw p m - 1).toNat).map (fun i : Nat => mulI p m mod ((i : Int) + 1) z)
 have hnd : l.Nodup := by
  refine List.pairwise_map.2 (List.nodup_range.imp_of_mem ?_)
  intro i j hi hj hij e
  have h1 := List.mem_range.1 hi
  have h2 := List.mem_range.1 hj
  have := mul_inj h (x := (i : Int) + 1) (y := (j : Int) + 1) ⟨by omega, by omega⟩ ⟨by omega, by omega⟩ hz e
  omega
 have hb : ∀ y ∈ l, 0 < y ∧ y < pw p m := fun y hy => by
  obtain ⟨i, hi, rfl⟩ := List.mem_map.1 hy
  have h1 := List.mem_range.1 hi
  have h2 := mulI_bd hs ((i : Int) + 1) z
  have h3 := no_zero h (u := (i : Int) + 1) (v := z) ⟨by omega, by omega⟩ hz
  exact ⟨by omega, h2.2⟩
 have h1l : (1 : Int) ∉ l := fun hm => by
  obtain ⟨i, hi, he⟩ := List.mem_map.1 hm
  have h1 := List.mem_range.1 hi
  exact hno ⟨(i : Int) + 1, by omega, by omega, he⟩
 have h2 := nodup_len' (q := pw p m) (1 :: l) (List.nodup_cons.2 ⟨h1l, hnd⟩) (fun y hy => by
  rcases List.mem_cons.1 hy with rfl | hy
  ·omega
  ·exact hb y hy) (by omega)
 have h3 : l.length = (pw p m - 1).toNat := by simp [l]
 simp only [List.length_cons] at h2
 omega
open Classical in
noncomputable def invI (p m : Int) (mod : List Int) (z : Int) : Int := if h : ∃ y, 0 ≤ y ∧ y < pw p m ∧ mulI p m mod y z = 1 then Classical.choose h else 0
theorem invI_spec (h : FldR p m mod) {z : Int} (hz : 0 < z ∧ z < pw p m) : 0 ≤ invI p m mod z ∧ invI p m mod z < pw p m ∧ mulI p m mod (invI p m mod z) z = 1 := by
 rw [invI, dif_pos (inv_ex h hz)]
 exact Classical.choose_spec (inv_ex h hz)
theorem invI_bd (hs : Shp p m mod) (z : Int) : 0 ≤ invI p m mod z ∧ invI p m mod z < pw p m := by
 unfold invI
 split
 ·rename_i h
  have := Classical.choose_spec h
  exact ⟨this.1, this.2.1⟩
 ·have := hs.q2; omega
@[reducible] noncomputable def elFd (h : FldR p m mod) : Fd (El p m mod) where
 add a b := ⟨addI p m a.1 b.1, addI_bd h.1.1.p2 _ _⟩
 mul a b := ⟨mulI p m mod a.1 b.1, mulI_bd h.1.1 _ _⟩
 neg a := ⟨negI p m a.1, negI_bd h.1.1.p2 _⟩
 zero := ⟨0, by have := h.1.1.q2; omega⟩
 one := ⟨1, by have := h.1.1.q2; omega⟩
 inv a := ⟨invI p m mod a.1, invI_bd h.1.1 _⟩
 add_assoc a b c := El.ext (addI_assoc h.1.1.p2 _ _ _)
 add_comm a b := El.ext (addI_comm _ _)
 zero_add a := El.ext (addI_zero h.1.1.p2 a.2.1 a.2.2)
 neg_add a := El.ext (negI_add h.1.1.p2 _)
 mul_assoc a b c := El.ext (mulI_assoc h.1.1 _ _ _)
 mul_comm a b := El.ext (mulI_comm h.1.1 _ _)
 one_mul a := El.ext (mulI_one h.1.1 a.2.1 a.2.2)
 add_mul a b c := El.ext (mulI_add h.1.1 _ _ _)
 inv_mul a ha := El.ext ((invI_spec h ⟨by
  have h1 : a.1 ≠ 0 := fun e => ha (El.ext e)
  have := a.2.1
  omega, a.2.2⟩).2.2)
 one_ne h1 := by
  have h2 : (1 : Int) = 0 := congrArg Subtype.val h1
  omega
theorem filterMap_some {α β : Type} {f : α → Option β} {g : α → β} : ∀ {l : List α}, (∀ i ∈ l, f i = some (g i)) → l.filterMap f = l.map g
 | [], _ => rfl
 | a :: l, h => by
  rw [List.filterMap_cons, h a (by simp), List.map_cons, filterMap_some (fun i hi => h i (List.mem_cons_of_mem _ hi))]
def elNz (p m : Int) (mod : List Int) : List (El p m mod) := (List.range (pw p m - 1).toNat).filterMap (fun i : Nat => if h : (i : Int) + 1 < pw p m then some ⟨(i : Int) + 1, by omega, h⟩ else none)
theorem elNz_map (p m : Int) (mod : List Int) : (elNz p m mod).map (fun a => a.1) = (List.range (pw p m - 1).toNat).map (fun i : Nat => (i : Int) + 1) := by
 unfold elNz
 rw [List.map_filterMap]
 have h : ∀ i ∈ List.range (pw p m - 1).toNat, (Option.map (fun a : El p m mod => a.1) (if h : (i : Int) + 1 < pw p m then some ⟨(i : Int) + 1, by omega, h⟩ else none)) = some ((i : Int) + 1) := fun i hi => by
  have := List.mem_range.1 hi
  rw [dif_pos (by omega)]; rfl
 exact filterMap_some h
theorem elNz_len (p m : Int) (mod : List Int) : (elNz p m mod).length = (pw p m - 1).toNat := by
 have := congrArg List.length (elNz_map p m mod)
 simpa using this
theorem elNz_nz (h : FldR p m mod) : @Fd.Nz (El p m mod) (elFd h) (elNz p m mod) := by
 letI := elFd h
 refine ⟨?_, fun a => ?_⟩
 ·have h1 : ((elNz p m mod).map (fun a => a.1)).Nodup := by
   rw [elNz_map]
   refine List.pairwise_map.2 (List.nodup_range.imp ?_)
   intro i j hij e
   omega
  exact List.Pairwise.of_map (fun a => a.1) (fun a b hab e => hab (by rw [e])) h1
 ·have h2 : a ∈ elNz p m mod ↔ a.1 ∈ (elNz p m mod).map (fun a => a.1) := ⟨fun h => List.mem_map.2 ⟨a, h, rfl⟩, fun h => by
   obtain ⟨b, hb, he⟩ := List.mem_map.1 h
   exact El.ext he ▸ hb⟩
  rw [h2, elNz_map]
  have h3 := a.2
  constructor
  ·intro h4 h5
   obtain ⟨i, hi, he⟩ := List.mem_map.1 h4
   have : a.1 = 0 := congrArg Subtype.val h5
   omega
  ·intro h4
   have h5 : a.1 ≠ 0 := fun e => h4 (El.ext e)
   exact List.mem_map.2 ⟨(a.1 - 1).toNat, List.mem_range.2 (by omega), by omega⟩
theorem pow_val (h : FldR p m mod) (g : El p m mod) : ∀ n, (@Fd.pow _ (elFd h) g n).1 = pwI p m mod g.1 n
 | 0 => rfl
 | n + 1 => by
  rw [pwI_succ h.1.1 g.2, ← pow_val h g n]
  rfl
theorem gen_ex (h : FldR p m mod) : ∃ x l, IsGen p m mod x l := by
 letI := elFd h
 have hs := h.1.1
 have hq := hs.q2
 obtain ⟨g, hg⟩ := (elNz_nz h).gen
 rw [elNz_len] at hg
 obtain ⟨hg0, hg1, hg2⟩ := hg
 have hx := g.2
 have hx0 : g.1 ≠ 0 := fun e => hg0 (El.ext e)
 let n := (pw p m - 1).toNat
 let l := (List.range n).map (fun i => pwI p m mod g.1 i)
 have hlen : l.length = n := by simp [l]
 have hget : ∀ i, i < n → l.getD i 0 = pwI p m mod g.1 i := fun i hi => by
  simp only [l]
  rw [List.getD_eq_getElem?_getD, List.getElem?_map, List.getElem?_range hi]; rfl
 have hpn : pwI p m mod g.1 n = 1 := by rw [← pow_val h]; exact congrArg Subtype.val hg1
 have hnz : ∀ i, 0 < pwI p m mod g.1 i := fun i => by
  have h1 := Fd.pow_ne hg0 i
  have h2 : (Fd.pow g i).1 ≠ 0 := fun e => h1 (El.ext e)
  rw [pow_val h] at h2
  have := (pwI_bd hs hx i).1
  omega
 have hnd : l.Nodup := by
  refine List.pairwise_iff_getElem.2 (fun i j hi hj hij e => ?_)
  rw [hlen] at hi hj
  simp only [l, List.getElem_map, List.getElem_range] at e
  have h1 : Fd.pow g i = Fd.pow g j := El.ext (by rw [pow_val h, pow_val h, e])
  have h2 : Fd.pow g (j - i) = 1 := by
   have h3 : Fd.pow g i * Fd.pow g (j - i) = Fd.pow g i * 1 := by
    rw [← Fd.pow_add, show i + (j - i) = j by omega, ← h1, Fd.mul_one]
   exact Fd.mul_left_cancel (Fd.pow_ne hg0 i) h3
  have h4 := Nat.le_of_dvd (by omega) (hg2 _ h2)
  omega
 refine ⟨g.1, l, by omega, hx.2, ⟨by omega, fun i hi => hget i (by omega), fun y hy => ?_, hnd, ?_⟩, by omega, ?_⟩
 ·obtain ⟨i, _, rfl⟩ := List.mem_map.1 hy
  exact ⟨hnz i, (pwI_bd hs hx i).2⟩
 ·rw [hlen, hpn]
  exact .inr (List.mem_map.2 ⟨0, List.mem_range.2 (by omega), rfl⟩)
 ·rw [hget _ (by omega), ← pwI_succ hs hx, show (pw p m - 2).toNat + 1 = n by omega, hpn]
theorem fldN_iff : FldN p m mod ↔ FldR p m mod := ⟨fldR_of_N, fun h => ⟨h.1, gen_ex h⟩⟩
end
end Go.Proofs.Ytbhoeaijpnjgdaa

set_option maxRecDepth 100000
namespace Go.Proofs.Ytbhoeaijpnjgdaa
open Go.RowKit
theorem gf_Is_ent : Enters Try.prog 118 := enters_of Try.func118 (by kernel_rfl) (by kernel_rfl)
theorem gf_Is (g : GfM) (x : Int) :
  Pure Try.prog 118 #[.pointer (some g.p), .int .i64 x] [gfR g] (isV (.bool (decide (x ≥ 0) && decide (x < g.q)))) := by
 refine pure_of (args := [.pointer (some g.p), .int .i64 x]) 15 Try.func118 rfl rfl rfl gf_Is_ent ⟨id, trivial⟩ (fun w0 => ?_)
 refine tS ?_
 refine tR fun _ _ _ => ?_
 refine pV ?_
 refine tS ?_
 refine tR fun _ _ _ => ?_
 iterate 3 refine pV ?_
 refine stg rfl rfl rfl rfl rfl (fun hb => by (have hq := hb; try simp only [zbA] at hq); exact rMove rfl rfl) ?_
 refine stg rfl rfl rfl rfl rfl (fun hb => by (have hq := hb; try simp only [zbA] at hq); exact rMove rfl rfl) ?_
 refine stg rfl rfl rfl rfl rfl (fun hb => by (have hq := hb; try simp only [zbA] at hq); exact rNil rfl (evg rfl hb)) ?_
 refine stg rfl rfl rfl rfl rfl (fun hb => by (have hq := hb; try simp only [zbA] at hq); exact rFld rfl (evg rfl hb)) ?_
 refine stg rfl rfl rfl rfl rfl (fun hb => by (have hq := hb; try simp only [zbA] at hq); exact rLdF rfl (evg rfl hb) rfl) ?_
 refine stg rfl rfl rfl rfl rfl (fun hb => by (have hq := hb; try simp only [zbA] at hq); exact rLss rfl (evg rfl hb) (evg rfl hb)) ?_
 refine sV (rAndB rfl rfl rfl rfl) ?_
 refine pV ?_
 exact tr_ret ⟨trivial, _, _, rfl, ⟨rfl, rfl⟩, CSub.nil _, trivial⟩
theorem poly_trim_ent : Enters Try.prog 111 := enters_of Try.func111 (by kernel_rfl) (by kernel_rfl)
theorem poly_trim (A : Option Addr) (n c : Nat) (l : List Int) (hn : n = l.length) (hc : n ≤ c) (hl9 : l.length ≤ 17592186044415) :
  Pure Try.prog 111 #[.slice A n c] [ro A (ints l)] (isV (.slice A (trimL l).length c)) := by
 refine pure_of (args := [.slice A n c]) 21 Try.func111 rfl rfl rfl poly_trim_ent ⟨id, trivial⟩ (fun w0 => ?_)
 refine tS ?_
 refine tR fun _ _ _ => ?_
 refine pV ?_
 refine tS ?_
 refine tB ?_
 refine tr_loop1 (fun (k : Nat) => [(0, .slice A k c)]) (fun (k : Nat) => [ro A (ints l)]) (fun (k : Nat) => k ≤ l.length ∧ trimL (l.take k) = trimL l) (fun (k : Nat) => k) (n) ⟨rfl, trivial⟩ (by first | exact cs _ _ | exact CSub.refl _) (⟨by omega, by rw [List.take_of_length_le (by omega)]⟩) (fun k hI => ?_)
 obtain ⟨hk0, hk1⟩ := hI
 refine tS ?_
 refine tS ?_
 refine tR fun _ _ _ => ?_
 refine pV ?_
 refine sV (rLen rfl rfl) ?_
 iterate 2 refine pV ?_
 refine stg rfl rfl rfl rfl rfl (fun hb => by (have hq := hb; try simp only [zbA] at hq); exact rMove rfl rfl) ?_
 refine stg rfl rfl rfl rfl rfl (fun hb => by (have hq := hb; try simp only [zbA] at hq); exact rMove rfl rfl) ?_
 refine stg rfl rfl rfl rfl rfl (fun hb => by (have hq := hb; try simp only [zbA] at hq); exact rLen rfl (evg rfl hb)) ?_
 refine stg rfl rfl rfl rfl rfl (fun hb => by (have hq := hb; try simp only [zbA] at hq); exact rSub rfl (evg rfl hb) rfl (by omega) (by omega)) ?_
 refine stg rfl rfl rfl rfl rfl (fun hb => by (have hq := hb; try simp only [zbA] at hq); exact rIdxI rfl (evg rfl hb) (evg rfl hb) (by omega) (by omega) (by omega)) ?_
 refine stg rfl rfl rfl rfl rfl (fun hb => by (have hq := hb; try simp only [zbA] at hq); exact rLdI rfl (evg rfl hb) (by omega)) ?_
 refine stg rfl rfl rfl rfl rfl (fun hb => by (have hq := hb; try simp only [zbA] at hq); exact rEql rfl (evg rfl hb) rfl) ?_
 refine sV (rAndB rfl rfl rfl rfl) ?_
 refine tC rfl (fun h1 => ?_) (fun h1 => ?_)
 ·try simp only [zbA] at h1
  refine tK ?_
  refine tB ?_
  refine tR fun _ _ _ => ?_
  iterate 2 refine pV ?_
  refine sV (rLen rfl rfl) ?_
  refine sV (rSub rfl rfl rfl (by omega) (by omega)) ?_
  refine sV (rCutHi rfl rfl rfl (by omega) (by omega)) ?_
  refine pV ?_
  refine ⟨((k : Int) - 1).toNat, ⟨rfl, trivial⟩, by first | exact cs _ _ | exact CSub.refl _, ?_⟩
  have hkk : ((k : Int) - 1).toNat = k - 1 := by omega
  rw [hkk] at h1 ⊢
  exact ⟨⟨by omega, trim_step (by omega) hk0 hk1 h1.2⟩, by omega⟩
 ·try simp only [zbA] at h1
  refine tE ?_
  refine tS ?_
  refine tR fun _ _ _ => ?_
  iterate 2 refine pV ?_
  have hd := trim_done hk0 hk1 (by
   rcases h1 with h1 | h1
   ·exact .inl (by omega)
   ·rw [show ((k : Int) - 1).toNat = k - 1 by omega] at h1
    exact .inr h1)
  exact tr_ret ⟨trivial, _, _, rfl, ⟨by rw [hd], rfl⟩, CSub.nil _, trivial⟩
theorem poly_CanonS_ent : Enters Try.prog 61 := enters_of Try.func61 (by kernel_rfl) (by kernel_rfl)
theorem poly_CanonS (g : GfM) (A : Option Addr) (n c : Nat) (l : List Int) (hn : n = l.length) (hl9 : l.length ≤ 17592186044415) :
  Pure Try.prog 61 #[.pointer (some g.p), .slice A n c] [gfR g, ro A (ints l)] (one (fun v ch => ∃ B cap, v = .slice B (canL g.q l).length cap ∧ (canL g.q l).length ≤ cap ∧ ch = ow B 3 cap (ints (canL g.q l)))) := by
 have hnn : ((n : Int)).toNat = n := by omega
 refine pure_of (args := [.pointer (some g.p), .slice A n c]) 28 Try.func61 rfl rfl rfl poly_CanonS_ent ⟨id, id, trivial⟩ (fun w0 => ?_)
 refine tS ?_
 refine tR fun _ _ _ => ?_
 refine pV ?_
 refine tS ?_
 refine tR fun _ _ _ => ?_
 refine pV ?_
 refine sV (rLen rfl rfl) ?_
 refine eV (eMakeI rfl rfl rfl rfl rfl (by omega) (by omega) (by omega) (fun A1 => ?_))
 refine pV ?_
 refine tS ?_
 refine tS ?_
 refine tR fun _ _ _ => ?_
 rw [hnn]
 refine pV ?_
 refine sV (rLen rfl rfl) ?_
 refine pV ?_
 refine tB ?_
 refine tr_loop2 (fun (k : Int) (o : List Int) => [(0, .pointer (some g.p)), (5, .slice A1 n n), (11, .slice A n c), (12, .int .i64 n), (13, .int .i64 k)]) (fun (k : Int) (o : List Int) => [ow A1 3 n (ints o), gfR g, ro A (ints l)]) (fun (k : Int) (o : List Int) => 0 ≤ k ∧ k ≤ n ∧ o.length = n ∧ (∀ j : Nat, (j : Int) < k → o.getD j 0 = inI g.q (l.getD j 0)) ∧ ∀ j : Nat, k ≤ j → o.getD j 0 = 0) (fun (k : Int) (o : List Int) => (n - k).toNat) (0) (List.replicate n 0) ⟨rfl, rfl, rfl, rfl, rfl, trivial⟩ (by first | exact cs _ _ | exact CSub.refl _) (⟨by omega, by omega, by simp, fun j hj => by omega, fun j _ => by rw [List.getD_eq_getElem?_getD, List.getElem?_replicate]; split <;> rfl⟩) (fun k o hI => ?_)
 obtain ⟨hk0, hk1, hol, hdone, htodo⟩ := hI
 refine tS ?_
 refine tR fun _ _ _ => ?_
 refine pV ?_
 refine tS ?_
 refine tC rfl (fun h3 => ?_) (fun h3 => ?_)
 ·try simp only [zbA] at h3
  refine tK ?_
  refine tS ?_
  refine tB ?_
  refine tS ?_
  refine tR fun _ _ _ => ?_
  refine pV ?_
  refine sV (rIdxI rfl rfl rfl (by omega) (by omega) (by omega)) ?_
  refine sV (rLdI rfl rfl (by omega)) ?_
  iterate 2 refine pV ?_
  refine tS ?_
  refine tR fun _ _ _ => ?_
  iterate 2 refine pV ?_
  refine eV (eCallV rfl rfl rfl (gf_Is _ _) ⟨rfl, rfl, trivial⟩ ?_)
  refine tC rfl (fun h5 => ?_) (fun h5 => ?_)
  ·try simp only [zbA] at h5
   refine tR fun _ _ _ => ?_
   iterate 3 refine pV ?_
   refine sV (rIdxI rfl rfl rfl (by omega) (by omega) (by omega)) ?_
   refine eV (eStI rfl rfl rfl rfl (by omega) ?_)
   refine tR fun _ _ _ => ?_
   refine sV (rAdd rfl rfl rfl (by omega) (by omega)) ?_
   refine pV ?_
   refine ⟨k + 1, o.set k.toNat (l.getD k.toNat 0), ⟨rfl, rfl, rfl, rfl, rfl, trivial⟩, by first | exact cs _ _ | exact CSub.refl _, ?_⟩
   refine ⟨⟨by omega, by omega, by simpa using hol, fun j hj => ?_, fun j hj => by rw [getD_set, if_neg (by omega)]; exact htodo j (by omega)⟩, by omega⟩
   rw [getD_set]
   by_cases hjk : k.toNat = j
   ·subst hjk; rw [if_pos ⟨rfl, by omega⟩, inI_in (by omega) (by omega)]
   ·rw [if_neg (by omega)]; exact hdone j (by omega)
  ·try simp only [zbA] at h5
   refine tK ?_
   refine tR fun _ _ _ => ?_
   refine sV (rAdd rfl rfl rfl (by omega) (by omega)) ?_
   refine pV ?_
   refine ⟨k + 1, o, ⟨rfl, rfl, rfl, rfl, rfl, trivial⟩, by first | exact cs _ _ | exact CSub.refl _, ?_⟩
   refine ⟨⟨by omega, by omega, hol, fun j hj => ?_, fun j hj => htodo j (by omega)⟩, by omega⟩
   by_cases hjk : (j : Int) = k
   ·have hj2 : j = k.toNat := by omega
    rw [htodo j (by omega), hj2, inI, if_neg (by omega)]
   ·exact hdone j (by omega)
 ·try simp only [zbA] at h3
  refine tE ?_
  refine tS ?_
  have hkn : k = n := by omega
  have ho : o = l.map (inI g.q) := by
   apply List.ext_getElem (by simp; omega)
   intro i h1 h2
   have h3 := hdone i (by omega)
   rw [List.getD_eq_getElem?_getD, List.getElem?_eq_getElem h1, List.getD_eq_getElem?_getD, List.getElem?_eq_getElem (show i < l.length by omega)] at h3
   simpa using h3
  refine tR fun _ _ _ => ?_
  refine pV ?_
  refine eV (eCallV rfl rfl rfl (poly_trim _ _ _ o (by omega) (by omega) (by omega)) ⟨rfl, trivial⟩ ?_)
  refine pV ?_
  have hsp := trimL_split o
  have hco : canL g.q l = trimL o := by rw [ho]; rfl
  refine tr_ret ⟨trivial, _, _, rfl, ⟨_, rfl, A1, n, by rw [hco], by have := congrArg List.length hsp; rw [List.length_append] at this; rw [hco]; omega, rfl⟩, ?_, trivial, trivial⟩
  rw [hco]
  have hsh := ow_shrink (e := 3) (A := A1) (cap := n) (vs := ints (trimL o)) (ws := ints (o.drop (trimL o).length)) [gfR g, ro A (ints l)]
  rw [← ints_append, ← hsp] at hsh
  exact hsh.trans (cs _ _)
theorem poly_Canon (g : GfM) (A : Option Addr) (n c : Nat) (l : List Int) (hn : n = l.length) (hl9 : l.length ≤ 17592186044415) :
  Pure Try.prog 61 #[.pointer (some g.p), .slice A n c] [gfR g, ro A (ints l)] (one (fun v ch => ∃ B cap, v = .slice B (canL g.q l).length cap ∧ ch = ow B 3 cap (ints (canL g.q l)))) :=
 (poly_CanonS g A n c l hn hl9).mono fun v Fo ⟨ch, h1, B, cap, h2, _, h3⟩ => ⟨ch, h1, B, cap, h2, h3⟩
theorem ref_Is_ent : Enters Try.prog 143 := enters_of Try.func143 (by kernel_rfl) (by kernel_rfl)
theorem ref_Is (p m : Int) (A : Option Addr) (c : Nat) (mod : List Int) (x : Int) :
  Pure Try.prog 143 #[.agg #[.int .i64 p, .int .i64 m, .slice A mod.length c], .int .i64 x] [ro A (ints mod)] (isV (.bool (decide (x ≥ 0) && decide (x < ordI p m)))) := by
 refine pure_of (args := [.agg #[.int .i64 p, .int .i64 m, .slice A mod.length c], .int .i64 x]) 13 Try.func143 rfl rfl rfl ref_Is_ent ⟨id, trivial⟩ (fun w0 => ?_)
 refine tS ?_
 refine tR fun _ _ _ => ?_
 refine eV (eBox rfl rfl rfl rfl rfl (fun p0 => ?_))
 refine pV ?_
 refine tS ?_
 refine tR fun _ _ _ => ?_
 iterate 3 refine pV ?_
 refine stg rfl rfl rfl rfl rfl (fun hb => by (have hq := hb; try simp only [zbA] at hq); exact rMove rfl rfl) ?_
 refine stg rfl rfl rfl rfl rfl (fun hb => by (have hq := hb; try simp only [zbA] at hq); exact rLdS rfl rfl rfl) ?_
 refine efg rfl rfl rfl rfl rfl (fun hb => by (have hq := hb; try simp only [zbA] at hq); exact eCallV rfl rfl rfl (ref_order _ _ _ _ _) ⟨(evg rfl hb), trivial⟩ ⟨rfl, rfl⟩) ?_
 refine stg rfl rfl rfl rfl rfl (fun hb => by (have hq := hb; try simp only [zbA] at hq); exact rLss rfl (evg rfl hb) (evg rfl hb)) ?_
 refine sV (rAndB rfl rfl rfl rfl) ?_
 refine pV ?_
 exact tr_ret ⟨trivial, _, _, rfl, ⟨rfl, rfl⟩, CSub.nil _, trivial⟩
theorem ref_In_ent : Enters Try.prog 100 := enters_of Try.func100 (by kernel_rfl) (by kernel_rfl)
theorem ref_In (p m : Int) (A : Option Addr) (c : Nat) (mod : List Int) (x : Int) :
  Pure Try.prog 100 #[.agg #[.int .i64 p, .int .i64 m, .slice A mod.length c], .int .i64 x] [ro A (ints mod)] (isV (.int .i64 (inI (ordI p m) x))) := by
 refine pure_of (args := [.agg #[.int .i64 p, .int .i64 m, .slice A mod.length c], .int .i64 x]) 9 Try.func100 rfl rfl rfl ref_In_ent ⟨id, trivial⟩ (fun w0 => ?_)
 refine tS ?_
 refine tR fun _ _ _ => ?_
 refine eV (eBox rfl rfl rfl rfl rfl (fun p0 => ?_))
 refine pV ?_
 refine tS ?_
 refine tS ?_
 refine tR fun _ _ _ => ?_
 refine sV (rLdS rfl rfl rfl) ?_
 refine pV ?_
 refine eV (eCallV rfl rfl rfl (ref_Is _ _ _ _ _ _) ⟨rfl, rfl, trivial⟩ ?_)
 refine tC rfl (fun h1 => ?_) (fun h1 => ?_)
 ·try simp only [zbA] at h1
  refine tS ?_
  refine tR fun _ _ _ => ?_
  iterate 2 refine pV ?_
  exact tr_ret ⟨trivial, _, _, rfl, ⟨by rw [inI, if_pos ⟨by omega, by omega⟩], rfl⟩, CSub.nil _, trivial⟩
 ·try simp only [zbA] at h1
  refine tK ?_
  refine tS ?_
  refine tR fun _ _ _ => ?_
  refine pV ?_
  exact tr_ret ⟨trivial, _, _, rfl, ⟨by rw [inI, if_neg (by omega)], rfl⟩, CSub.nil _, trivial⟩
theorem ref_Canon_ent : Enters Try.prog 43 := enters_of Try.func43 (by kernel_rfl) (by kernel_rfl)
theorem ref_Canon (p m : Int) (A : Option Addr) (c : Nat) (mod : List Int) (B : Option Addr) (n cB : Nat) (l : List Int) (hn : n = l.length) (hl9 : l.length ≤ 17592186044415) :
  Pure Try.prog 43 #[.agg #[.int .i64 p, .int .i64 m, .slice A mod.length c], .slice B n cB] [ro A (ints mod), ro B (ints l)] (one (fun v ch => ∃ B cap, v = .slice B (canL (ordI p m) l).length cap ∧ ch = ow B 3 cap (ints (canL (ordI p m) l)))) := by
 have hlm : (l.map (inI (ordI p m))).length = l.length := by simp
 have hget : ∀ k : Nat, k < l.length → (l.map (inI (ordI p m))).getD k 0 = inI (ordI p m) (l.getD k 0) := fun k hk => by
  simp [List.getD_eq_getElem?_getD, List.getElem?_eq_getElem hk]
 generalize hlmd : l.map (inI (ordI p m)) = lm at hlm hget
 refine pure_of (args := [.agg #[.int .i64 p, .int .i64 m, .slice A mod.length c], .slice B n cB]) 41 Try.func43 rfl rfl rfl ref_Canon_ent ⟨id, id, trivial⟩ (fun w0 => ?_)
 refine tS ?_
 refine tR fun _ _ _ => ?_
 refine eV (eBox rfl rfl rfl rfl rfl (fun p0 => ?_))
 refine pV ?_
 refine tS ?_
 refine tR fun _ _ _ => ?_
 refine pV ?_
 refine tS ?_
 refine tS ?_
 refine tR fun _ _ _ => ?_
 refine pV ?_
 refine tB ?_
 refine tr_loop2 (fun (k : Int) (e : Int) => [(1, .slice B n cB), (2, .pointer (some p0)), (5, .int .i64 e), (6, .int .i64 k)]) (fun (k : Int) (e : Int) => [blk p0 24 [.int .i64 p, .int .i64 m, .slice A mod.length c], ro A (ints mod), ro B (ints l)]) (fun (k : Int) (e : Int) => (0 ≤ k ∧ k ≤ n) ∧ (0 ≤ e ∧ e ≤ k) ∧ trimL (lm.take k.toNat) = lm.take e.toNat) (fun (k : Int) (e : Int) => (n - k).toNat) (0) (0) ⟨rfl, rfl, rfl, rfl, trivial⟩ (by first | exact cs _ _ | exact CSub.refl _) (⟨⟨by omega, by omega⟩, ⟨by omega, by omega⟩, by simp [trimL]⟩) (fun k e hI => ?_)
 obtain ⟨⟨hk0, hk1⟩, ⟨he0, he1⟩, htr⟩ := hI
 refine tS ?_
 refine tS ?_
 refine tR fun _ _ _ => ?_
 iterate 2 refine pV ?_
 refine sV (rLen rfl rfl) ?_
 refine pV ?_
 refine tC rfl (fun h3 => ?_) (fun h3 => ?_)
 ·try simp only [zbA] at h3
  refine tK ?_
  refine tS ?_
  refine tB ?_
  refine tS ?_
  refine tr_draw [0, 1, 2, 3, 4, 5, 6] [] mixed (by kernel_rfl) fun _ _ _ => ?_
  refine sV (rLdS rfl rfl rfl) ?_
  iterate 2 refine pV ?_
  refine sV (rIdxI rfl rfl rfl (by omega) (by omega) (by omega)) ?_
  refine sV (rLdI rfl rfl (by omega)) ?_
  refine eV (eCallV rfl rfl rfl (ref_In _ _ _ _ _ _) ⟨rfl, rfl, trivial⟩ ?_)
  refine pV ?_
  refine tC rfl (fun h5 => ?_) (fun h5 => ?_)
  ·try simp only [zbA] at h5
   refine tR fun _ _ _ => ?_
   refine pV ?_
   refine sV (rAdd rfl rfl rfl (by omega) (by omega)) ?_
   refine pV ?_
   refine tR fun _ _ _ => ?_
   refine pV ?_
   refine sV (rAdd rfl rfl rfl (by omega) (by omega)) ?_
   refine pV ?_
   refine ⟨k + 1, k + 1, ⟨rfl, rfl, rfl, rfl, trivial⟩, by first | exact cs _ _ | exact CSub.refl _, ?_⟩
   refine ⟨⟨⟨by omega, by omega⟩, ⟨by omega, by omega⟩, ?_⟩, by omega⟩
   rw [take_next 0 lm k hk0 (by omega), hget _ (by omega), trimL_snoc h5]
  ·try simp only [zbA] at h5
   refine tK ?_
   refine tR fun _ _ _ => ?_
   refine pV ?_
   refine sV (rAdd rfl rfl rfl (by omega) (by omega)) ?_
   refine pV ?_
   refine ⟨k + 1, e, ⟨rfl, rfl, rfl, rfl, trivial⟩, by first | exact cs _ _ | exact CSub.refl _, ?_⟩
   refine ⟨⟨⟨by omega, by omega⟩, ⟨by omega, by omega⟩, ?_⟩, by omega⟩
   rw [take_next 0 lm k hk0 (by omega), hget _ (by omega), h5, trimL_snoc0, htr]
 ·try simp only [zbA] at h3
  refine tE ?_
  refine tS ?_
  have hkn : k.toNat = lm.length := by omega
  rw [hkn, List.take_length] at htr
  have htl : (trimL lm).length = e.toNat := by rw [htr, List.length_take]; omega
  refine tR fun _ _ _ => ?_
  refine pV ?_
  refine eV (eMakeI rfl rfl rfl rfl rfl (by omega) (by omega) (by omega) (fun A7 => ?_))
  refine pV ?_
  refine tS ?_
  refine tS ?_
  refine tR fun _ _ _ => ?_
  refine pV ?_
  refine tB ?_
  refine tr_loop2 (fun (j : Int) (o : List Int) => [(1, .slice B n cB), (2, .pointer (some p0)), (5, .int .i64 e), (7, .slice A7 e.toNat e.toNat), (8, .int .i64 j)]) (fun (j : Int) (o : List Int) => [ow A7 3 e.toNat (ints o), blk p0 24 [.int .i64 p, .int .i64 m, .slice A mod.length c], ro A (ints mod), ro B (ints l)]) (fun (j : Int) (o : List Int) => (0 ≤ j ∧ j ≤ e) ∧ o.length = e.toNat ∧ ∀ i : Nat, (i : Int) < j → o.getD i 0 = lm.getD i 0) (fun (j : Int) (o : List Int) => (e - j).toNat) (0) (List.replicate e.toNat 0) ⟨rfl, rfl, rfl, rfl, rfl, trivial⟩ (by first | exact cs _ _ | exact CSub.refl _) (⟨⟨by omega, by omega⟩, by simp, fun i hi => by omega⟩) (fun j o hI => ?_)
  obtain ⟨⟨hj0, hj1⟩, hol, ho⟩ := hI
  refine tS ?_
  refine tS ?_
  refine tR fun _ _ _ => ?_
  iterate 3 refine pV ?_
  refine tC rfl (fun h9 => ?_) (fun h9 => ?_)
  ·try simp only [zbA] at h9
   refine tK ?_
   refine tS ?_
   refine tB ?_
   refine tr_draw [0, 1, 2, 3, 4, 5, 6, 7, 8] [9] mixed (by kernel_rfl) fun _ _ _ => ?_
   iterate 2 refine pV ?_
   refine sV (rLdS rfl rfl rfl) ?_
   iterate 2 refine pV ?_
   refine sV (rIdxI rfl rfl rfl (by omega) (by omega) (by omega)) ?_
   refine sV (rLdI rfl rfl (by omega)) ?_
   refine eV (eCallV rfl rfl rfl (ref_In _ _ _ _ _ _) ⟨rfl, rfl, trivial⟩ ?_)
   refine sV (rIdxI rfl rfl rfl (by omega) (by omega) (by omega)) ?_
   refine eV (eStI rfl rfl rfl rfl (by omega) ?_)
   refine tR fun _ _ _ => ?_
   refine pV ?_
   refine sV (rAdd rfl rfl rfl (by omega) (by omega)) ?_
   refine pV ?_
   refine ⟨j + 1, o.set j.toNat (inI (ordI p m) (l.getD j.toNat 0)), ⟨rfl, rfl, rfl, rfl, rfl, trivial⟩, by first | exact cs _ _ | exact CSub.refl _, ?_⟩
   refine ⟨⟨⟨by omega, by omega⟩, by simpa using hol, fun i hi => ?_⟩, by omega⟩
   rw [getD_set]
   by_cases hij : j.toNat = i
   ·subst hij; rw [if_pos ⟨rfl, by omega⟩, hget _ (by omega)]
   ·rw [if_neg (by omega)]; exact ho i (by omega)
  ·try simp only [zbA] at h9
   refine tE ?_
   refine tS ?_
   refine tR fun _ _ _ => ?_
   iterate 2 refine pV ?_
   have hje : j = e := by omega
   have hoe : o = canL (ordI p m) l := by
    unfold canL
    rw [hlmd, htr]
    apply List.ext_getElem (by rw [List.length_take]; omega)
    intro i h1 h2
    have h3 := ho i (by omega)
    rw [List.getD_eq_getElem?_getD, List.getElem?_eq_getElem h1, List.getD_eq_getElem?_getD, List.getElem?_eq_getElem (by omega)] at h3
    simpa using h3
   rw [← hol, hoe]
   exact tr_ret ⟨trivial, _, _, rfl, ⟨_, rfl, A7, _, rfl, rfl⟩, cs _ _, trivial, trivial⟩
theorem fac_Compare_ent : Enters Try.prog 97 := enters_of Try.func97 (by kernel_rfl) (by kernel_rfl)
theorem fac_Compare (g : GfM) (Aa : Option Addr) (na ca : Nat) (a : List Int) (ha : na = a.length) (ha9 : a.length ≤ 17592186044415) (Ab : Option Addr) (nb cb : Nat) (b : List Int) (hb : nb = b.length) (hb9 : b.length ≤ 17592186044415) :
  Pure Try.prog 97 #[.pointer (some g.p), .slice Aa na ca, .slice Ab nb cb] [gfR g, ro Aa (ints a), ro Ab (ints b)] (isV (.int .i64 (cmpL (canL g.q a) (canL g.q b)))) := by
 have hla := canL_length g.q a
 have hlb := canL_length g.q b
 refine pure_of (args := [.pointer (some g.p), .slice Aa na ca, .slice Ab nb cb]) 53 Try.func97 rfl rfl rfl fac_Compare_ent ⟨id, id, id, trivial⟩ (fun w0 => ?_)
 refine tS ?_
 refine tR fun _ _ _ => ?_
 refine pV ?_
 refine tS ?_
 refine tR fun _ _ _ => ?_
 iterate 2 refine pV ?_
 refine eV (eCall1 rfl rfl rfl (poly_Canon g _ _ _ a (by omega) (by omega)) ⟨rfl, rfl, trivial⟩ ?_)
 rintro _ _ ⟨B1, c1, rfl, rfl⟩
 iterate 2 refine pV ?_
 refine eV (eCall1 rfl rfl rfl (poly_Canon g _ _ _ b (by omega) (by omega)) ⟨rfl, rfl, trivial⟩ ?_)
 rintro _ _ ⟨B1a, c1a, rfl, rfl⟩
 iterate 2 refine pV ?_
 refine tS ?_
 refine tS ?_
 refine tR fun _ _ _ => ?_
 refine pV ?_
 refine sV (rLen rfl rfl) ?_
 refine pV ?_
 refine sV (rLen rfl rfl) ?_
 refine pV ?_
 refine tC rfl (fun h2 => ?_) (fun h2 => ?_)
 ·try simp only [zbA] at h2
  refine tS ?_
  refine tS ?_
  refine tR fun _ _ _ => ?_
  refine pV ?_
  refine sV (rLen rfl rfl) ?_
  refine pV ?_
  refine sV (rLen rfl rfl) ?_
  refine pV ?_
  refine tC rfl (fun h3 => ?_) (fun h3 => ?_)
  ·try simp only [zbA] at h3
   refine tS ?_
   refine tR fun _ _ _ => ?_
   refine pV ?_
   exact tr_ret ⟨trivial, _, _, rfl, ⟨by rw [cmpL, if_pos (by omega)], rfl⟩, CSub.nil _, trivial⟩
  ·try simp only [zbA] at h3
   refine tK ?_
   refine tS ?_
   refine tR fun _ _ _ => ?_
   refine pV ?_
   exact tr_ret ⟨trivial, _, _, rfl, ⟨by rw [cmpL, if_neg (by omega), if_pos (by omega)], rfl⟩, CSub.nil _, trivial⟩
 ·try simp only [zbA] at h2
  refine tK ?_
  refine tS ?_
  refine tS ?_
  refine tR fun _ _ _ => ?_
  refine pV ?_
  refine sV (rLen rfl rfl) ?_
  refine sV (rSub rfl rfl rfl (by omega) (by omega)) ?_
  refine pV ?_
  refine tB ?_
  refine tr_loop1 (fun (i : Int) => [(7, .slice B1 (canL g.q a).length c1), (8, .slice B1a (canL g.q b).length c1a), (9, .int .i64 i)]) (fun (i : Int) => [ow B1a 3 c1a (ints (canL g.q b)), ow B1 3 c1 (ints (canL g.q a))]) (fun (i : Int) => (-1 ≤ i ∧ i < (canL g.q a).length) ∧ cmpN (canL g.q a) (canL g.q b) (i + 1).toNat = cmpL (canL g.q a) (canL g.q b)) (fun (i : Int) => (i + 1).toNat) (((canL g.q a).length : Int) - 1) ⟨rfl, rfl, rfl, trivial⟩ (by first | exact cs _ _ | exact CSub.refl _) (⟨⟨by omega, by omega⟩, by rw [cmpL, if_neg (by omega), if_neg (by omega)]; congr 1; omega⟩) (fun i hI => ?_)
  obtain ⟨⟨hi0, hi1⟩, hi2⟩ := hI
  have hst : 0 ≤ i → (i + 1).toNat = i.toNat + 1 := fun h => by omega
  refine tS ?_
  refine tS ?_
  refine tR fun _ _ _ => ?_
  iterate 2 refine pV ?_
  refine tC rfl (fun h7 => ?_) (fun h7 => ?_)
  ·try simp only [zbA] at h7
   refine tK ?_
   refine tS ?_
   refine tB ?_
   refine tB ?_
   refine tS ?_
   refine tr_draw [0, 1, 2, 3, 4, 5, 6, 7, 8, 9] [] mixed (by kernel_rfl) fun _ _ _ => ?_
   iterate 2 refine pV ?_
   refine sV (rIdxI rfl rfl rfl (by omega) (by omega) (by omega)) ?_
   refine sV (rLdI rfl rfl (by omega)) ?_
   iterate 2 refine pV ?_
   refine sV (rIdxI rfl rfl rfl (by omega) (by omega) (by omega)) ?_
   refine sV (rLdI rfl rfl (by omega)) ?_
   iterate 2 refine pV ?_
   refine tC rfl (fun h9 => ?_) (fun h9 => ?_)
   ·try simp only [zbA] at h9
    refine tS ?_
    refine tR fun _ _ _ => ?_
    refine pV ?_
    rw [hst (by omega), cmpN, if_pos (by omega)] at hi2
    exact tr_ret ⟨trivial, _, _, rfl, ⟨by rw [← hi2], rfl⟩, CSub.nil _, trivial⟩
   ·try simp only [zbA] at h9
    refine tS ?_
    refine tr_draw [0, 1, 2, 3, 4, 5, 6, 7, 8, 9] [] mixed (by kernel_rfl) fun _ _ _ => ?_
    iterate 2 refine pV ?_
    refine sV (rIdxI rfl rfl rfl (by omega) (by omega) (by omega)) ?_
    refine sV (rLdI rfl rfl (by omega)) ?_
    iterate 2 refine pV ?_
    refine sV (rIdxI rfl rfl rfl (by omega) (by omega) (by omega)) ?_
    refine sV (rLdI rfl rfl (by omega)) ?_
    iterate 2 refine pV ?_
    refine tC rfl (fun h11 => ?_) (fun h11 => ?_)
    ·try simp only [zbA] at h11
     refine tS ?_
     refine tR fun _ _ _ => ?_
     refine pV ?_
     rw [hst (by omega), cmpN, if_neg (by omega), if_pos (by omega)] at hi2
     exact tr_ret ⟨trivial, _, _, rfl, ⟨by rw [← hi2], rfl⟩, CSub.nil _, trivial⟩
    ·try simp only [zbA] at h11
     refine tK ?_
     refine tR fun _ _ _ => ?_
     refine pV ?_
     refine sV (rSub rfl rfl rfl (by omega) (by omega)) ?_
     refine pV ?_
     refine ⟨i - 1, ⟨rfl, rfl, rfl, trivial⟩, by first | exact cs _ _ | exact CSub.refl _, ?_⟩
     refine ⟨⟨⟨by omega, by omega⟩, ?_⟩, by omega⟩
     rw [hst (by omega), cmpN, if_neg (by omega), if_neg (by omega)] at hi2
     rw [show (i - 1 + 1).toNat = i.toNat by omega]
     exact hi2
  ·try simp only [zbA] at h7
   refine tE ?_
   refine tS ?_
   refine tR fun _ _ _ => ?_
   refine pV ?_
   have him : i = -1 := by omega
   subst him
   exact tr_ret ⟨trivial, _, _, rfl, ⟨by rw [← hi2]; rfl, rfl⟩, CSub.nil _, trivial⟩
theorem fld_New_no (p m : Int) (A : Option Addr) (c : Nat) (mod : List Int) (hl9 : mod.length ≤ 17592186044415) (h : ¬ FldR p m mod) : Pure Try.prog 46 #[.agg #[.int .i64 p, .int .i64 m, .slice A mod.length c]] [ro A (ints mod)] (isV (.tuple #[.pointer none, .int .i64 1])) :=
 (fld_New p m A c mod hl9).mono fun v Fo hr => by
  rcases hr with ⟨h1, h2, _⟩ | ⟨g, _, _, hg⟩
  ·exact ⟨h1, h2⟩
  ·obtain ⟨x, hx⟩ := hg.gen
   exact absurd (fldN_iff.1 ⟨hg.shp, x, _, hx⟩) h
theorem fld_New_ok (p m : Int) (A : Option Addr) (c : Nat) (mod : List Int) (hl9 : mod.length ≤ 17592186044415) (h : FldR p m mod) : Pure Try.prog 46 #[.agg #[.int .i64 p, .int .i64 m, .slice A mod.length c]] [ro A (ints mod)] (one (fun v ch => ∃ g : GfM, v = .tuple #[.pointer (some g.p), .int .i64 0] ∧ ch = gfN g ∧ GOk g p m mod)) :=
 (fld_New p m A c mod hl9).mono fun v Fo hr => by
  rcases hr with ⟨_, _, h3⟩ | ⟨g, h1, h2, hg⟩
  ·exact absurd (fldN_iff.2 h) h3
  ·exact ⟨_, h2, g, h1, rfl, hg⟩
theorem law_open_no_ent : Enters Try.prog 12 := enters_of Try.func12 (by kernel_rfl) (by kernel_rfl)
theorem law_open_no (p m : Int) (A : Option Addr) (c : Nat) (mod : List Int) (hl9 : mod.length ≤ 17592186044415) (hF : ¬ FldR p m mod) :
  Pure Try.prog 12 #[.agg #[.int .i64 p, .int .i64 m, .slice A mod.length c]] [ro A (ints mod)] (isV (.tuple #[.pointer none, .bool true, .bool true])) := by
 refine pure_of (args := [.agg #[.int .i64 p, .int .i64 m, .slice A mod.length c]]) 23 Try.func12 rfl rfl rfl law_open_no_ent ⟨id, trivial⟩ (fun w0 => ?_)
 refine tS ?_
 refine tR fun _ _ _ => ?_
 refine eV (eBox rfl rfl rfl rfl rfl (fun p0 => ?_))
 iterate 3 refine pV ?_
 refine tS ?_
 refine tR fun _ _ _ => ?_
 refine sV (rLdS rfl rfl rfl) ?_
 refine eV (eCallV rfl rfl rfl (fld_New_no _ _ _ _ _ (by omega) hF) ⟨rfl, trivial⟩ ?_)
 iterate 5 refine pV ?_
 refine tS ?_
 refine tS ?_
 refine tR fun _ _ _ => ?_
 refine sV (rLdS rfl rfl rfl) ?_
 refine eV (eCallV rfl rfl rfl (ref_fldCheck _ _ _ _ _ (by omega)) ⟨rfl, trivial⟩ ?_)
 refine pV ?_
 refine tC rfl (fun h2 => ?_) (fun h2 => ?_)
 ·try simp only [zbA] at h2
  refine tS ?_
  refine tR fun _ _ _ => ?_
  iterate 5 refine pV ?_
  exact tr_ret ⟨trivial, _, _, rfl, ⟨by simp, rfl⟩, CSub.nil _, trivial⟩
 ·try simp only [zbA] at h2
  rw [chkF_no hF] at h2
  omega --done
theorem law_open_ok_ent : Enters Try.prog 12 := enters_of Try.func12 (by kernel_rfl) (by kernel_rfl)
theorem law_open_ok (p m : Int) (A : Option Addr) (c : Nat) (mod : List Int) (hl9 : mod.length ≤ 17592186044415) (hF : FldR p m mod) :
  Pure Try.prog 12 #[.agg #[.int .i64 p, .int .i64 m, .slice A mod.length c]] [ro A (ints mod)] (one (fun v ch => ∃ g : GfM, v = .tuple #[.pointer (some g.p), .bool false, .bool true] ∧ ch = gfN g ∧ GOk g p m mod)) := by
 refine pure_of (args := [.agg #[.int .i64 p, .int .i64 m, .slice A mod.length c]]) 23 Try.func12 rfl rfl rfl law_open_ok_ent ⟨id, trivial⟩ (fun w0 => ?_)
 refine tS ?_
 refine tR fun _ _ _ => ?_
 refine eV (eBox rfl rfl rfl rfl rfl (fun p0 => ?_))
 iterate 3 refine pV ?_
 refine tS ?_
 refine tR fun _ _ _ => ?_
 refine sV (rLdS rfl rfl rfl) ?_
 refine eV (eCall1 rfl rfl rfl (fld_New_ok _ _ _ _ _ (by omega) hF) ⟨rfl, trivial⟩ ?_)
 rintro _ _ ⟨g, rfl, rfl, hg⟩
 iterate 5 refine pV ?_
 refine tS ?_
 refine tS ?_
 refine tR fun _ _ _ => ?_
 refine sV (rLdS rfl rfl rfl) ?_
 refine eV (eCallV rfl rfl rfl (ref_fldCheck _ _ _ _ _ (by omega)) ⟨rfl, trivial⟩ ?_)
 refine pV ?_
 refine tC rfl (fun h2 => ?_) (fun h2 => ?_)
 ·try simp only [zbA] at h2
  rw [chkF_ok hF] at h2
  exact absurd rfl h2 --done
 ·try simp only [zbA] at h2
  refine tK ?_
  refine tS ?_
  refine tS ?_
  refine tR fun _ _ _ => ?_
  iterate 3 refine pV ?_
  refine stg rfl rfl rfl rfl rfl (fun hb => by (have hq := hb; try simp only [zbA] at hq); exact rMove rfl rfl) ?_
  refine stg rfl rfl rfl rfl rfl (fun hb => by (have hq := hb; try simp only [zbA] at hq); exact rNilP rfl (evg rfl hb) rfl) ?_
  refine sV (rOrB rfl rfl rfl rfl) ?_
  refine tC rfl (fun h4 => ?_) (fun h4 => ?_)
  ·try simp only [zbA] at h4
   simp at h4 --done
  ·try simp only [zbA] at h4
   refine tK ?_
   refine tS ?_
   refine tR fun _ _ _ => ?_
   iterate 4 refine pV ?_
   exact tr_ret ⟨trivial, _, _, rfl, ⟨_, rfl, g, rfl, rfl, hg⟩, cs _ _, gfO_excl _ _ _, trivial⟩
end Go.Proofs.Ytbhoeaijpnjgdaa

namespace Go.Proofs.Ytbhoeaijpnjgdaa
section
variable {g : GfM} {p m : Int} {mod : List Int}
theorem GOk.fld (h : GOk g p m mod) : FldR p m mod := by
 obtain ⟨x, hx⟩ := h.gen
 exact fldN_iff.1 ⟨h.shp, x, _, hx⟩
theorem GOk.q2 (h : GOk g p m mod) : 2 ≤ g.q ∧ g.q ≤ 256 := by
 have h1 := h.shp.1.q2
 have h2 := h.shp.1.q
 have h3 := h.eq
 omega
theorem GOk.elen (h : GOk g p m mod) : (g.exp.length : Int) = g.q - 1 := by
 obtain ⟨x, hx⟩ := h.gen
 rw [h.eq]; exact hx.len
theorem GOk.llen' (h : GOk g p m mod) : (g.log.length : Int) = g.q := by
 have := h.llen
 have := h.q2
 omega
theorem GOk.log_spec (h : GOk g p m mod) {y : Int} (h0 : 0 < y) (h1 : y < g.q) : 0 ≤ g.log.getD y.toNat 0 ∧ g.log.getD y.toNat 0 < g.q - 1 ∧ g.exp.getD (g.log.getD y.toNat 0).toNat 0 = y := by
 obtain ⟨x, hx⟩ := h.gen
 have hl := h.elen
 have hm := hx.all h0 (by rw [← h.eq]; exact h1)
 obtain ⟨i, hi, he⟩ := List.getElem_of_mem hm
 have h2 := h.log i hi
 have h3 : g.exp.getD i 0 = y := by rw [List.getD_eq_getElem?_getD, List.getElem?_eq_getElem hi]; exact he
 rw [h3] at h2
 rw [h2]
 exact ⟨by omega, by omega, by rw [Int.toNat_natCast]; exact h3⟩
theorem GOk.exp_bd (h : GOk g p m mod) {i : Int} (h0 : 0 ≤ i) (h1 : i < g.q - 1) : 0 < g.exp.getD i.toNat 0 ∧ g.exp.getD i.toNat 0 < g.q := by
 obtain ⟨x, hx⟩ := h.gen
 have hl := h.elen
 have hi : i.toNat < g.exp.length := by omega
 have := hx.pow.nz _ (List.getElem_mem hi)
 rw [List.getD_eq_getElem?_getD, List.getElem?_eq_getElem hi, h.eq]
 exact this
theorem IsGen.pw_q {x : Int} {l : List Int} (hs : Shp p m mod) (hg : IsGen p m mod x l) : pwI p m mod x l.length = 1 := by
 have hx : 0 ≤ x ∧ x < pw p m := ⟨by have := hg.x1; omega, hg.x2⟩
 have h1 := hg.len
 have h2 := hg.pow.one
 have h3 := hg.pow.get (l.length - 1) (by omega)
 have h4 := hg.last
 rw [show (pw p m - 2).toNat = l.length - 1 by omega, h3, ← pwI_succ hs hx, show l.length - 1 + 1 = l.length by omega] at h4
 exact h4
theorem IsGen.pw_mod {x : Int} {l : List Int} (hs : Shp p m mod) (hg : IsGen p m mod x l) (n : Nat) : pwI p m mod x n = pwI p m mod x (n % l.length) := by
 have hx : 0 ≤ x ∧ x < pw p m := ⟨by have := hg.x1; omega, hg.x2⟩
 have key : ∀ k r, pwI p m mod x (l.length * k + r) = pwI p m mod x r := by
  intro k r
  induction k with
  | zero => simp
  | succ k ih =>
   have hb := pwI_bd hs hx (l.length * k + r)
   rw [show l.length * (k + 1) + r = l.length + (l.length * k + r) by rw [Nat.mul_succ]; omega, pwI_add hs hx, hg.pw_q hs, mulI_one hs hb.1 hb.2, ih]
 have h1 := key (n / l.length) (n % l.length)
 rwa [Nat.div_add_mod] at h1
theorem GOk.mul (h : GOk g p m mod) {a b : Int} (ha : 0 < a ∧ a < g.q) (hb : 0 < b ∧ b < g.q) : g.exp.getD ((g.log.getD a.toNat 0 + g.log.getD b.toNat 0) % (g.q - 1)).toNat 0 = mulI p m mod a b := by
 obtain ⟨x, hx⟩ := h.gen
 have hs := h.shp.1
 have hl := h.elen
 have hq := h.q2
 have hxb : 0 ≤ x ∧ x < pw p m := ⟨by have := hx.x1; omega, hx.x2⟩
 obtain ⟨i0, i1, i2⟩ := h.log_spec ha.1 ha.2
 obtain ⟨j0, j1, j2⟩ := h.log_spec hb.1 hb.2
 generalize g.log.getD a.toNat 0 = i at *
 generalize g.log.getD b.toNat 0 = j at *
 have h1 := hx.pow.get i.toNat (by omega)
 have h2 := hx.pow.get j.toNat (by omega)
 have e0 := Int.emod_nonneg (i + j) (show g.q - 1 ≠ 0 by omega)
 have e1 := Int.emod_lt_of_pos (i + j) (show 0 < g.q - 1 by omega)
 have h3 := hx.pow.get ((i + j) % (g.q - 1)).toNat (by omega)
 rw [i2] at h1
 rw [j2] at h2
 rw [h3, h1, h2, ← pwI_add hs hxb, hx.pw_mod hs (i.toNat + j.toNat)]
 congr 1
 have : (((i.toNat + j.toNat) % g.exp.length : Nat) : Int) = (i + j) % (g.q - 1) := by
  rw [← hl]
  simp only [Int.natCast_emod, Int.natCast_add]
  rw [Int.toNat_of_nonneg i0, Int.toNat_of_nonneg j0]
 omega
theorem GOk.inv (h : GOk g p m mod) {a : Int} (ha : 0 < a ∧ a < g.q) : g.exp.getD ((g.q - 1 - g.log.getD a.toNat 0) % (g.q - 1)).toNat 0 = invI p m mod a := by
 have hs := h.shp.1
 have hq := h.q2
 have heq := h.eq
 have hF := h.fld
 obtain ⟨i0, i1, i2⟩ := h.log_spec ha.1 ha.2
 have e0 := Int.emod_nonneg (g.q - 1 - g.log.getD a.toNat 0) (show g.q - 1 ≠ 0 by omega)
 have e1 := Int.emod_lt_of_pos (g.q - 1 - g.log.getD a.toNat 0) (show 0 < g.q - 1 by omega)
 have hb := h.exp_bd e0 e1
 have hi := invI_spec hF (z := a) ⟨ha.1, by omega⟩
 refine mul_inj hF (z := a) ⟨by omega, by omega⟩ ⟨hi.1, hi.2.1⟩ ⟨ha.1, by omega⟩ ?_
 rw [hi.2.2, ← h.mul hb ha]
 obtain ⟨j0, j1, j2⟩ := h.log_spec hb.1 hb.2
 obtain ⟨x, hx⟩ := h.gen
 have hl := h.elen
 -- the logarithm of exp k is k
 have h5 : g.log.getD (g.exp.getD ((g.q - 1 - g.log.getD a.toNat 0) % (g.q - 1)).toNat 0).toNat 0 = (g.q - 1 - g.log.getD a.toNat 0) % (g.q - 1) := by
  have := h.log ((g.q - 1 - g.log.getD a.toNat 0) % (g.q - 1)).toNat (by omega)
  rw [this]; omega
 rw [h5]
 have h6 : ((g.q - 1 - g.log.getD a.toNat 0) % (g.q - 1) + g.log.getD a.toNat 0) % (g.q - 1) = 0 := by
  rw [Int.emod_add_emod, show g.q - 1 - g.log.getD a.toNat 0 + g.log.getD a.toNat 0 = g.q - 1 by omega, Int.emod_self]
 rw [h6]
 have := hx.pow.get 0 (by omega)
 exact this
structure OrdI (p m : Int) (mod : List Int) (y : Int) (t : Nat) : Prop where
 pos : 1 ≤ t
 one : pwI p m mod y t = 1
 least : ∀ s, 1 ≤ s → s < t → pwI p m mod y s ≠ 1
theorem OrdI.unique {y : Int} {t t' : Nat} (h : OrdI p m mod y t) (h' : OrdI p m mod y t') : t = t' := by
 rcases Nat.lt_trichotomy t t' with h1 | h1 | h1
 ·exact absurd h.one (h'.least t h.pos h1)
 ·exact h1
 ·exact absurd h'.one (h.least t' h'.pos h1)
open Classical in
noncomputable def mord (p m : Int) (mod : List Int) (y : Int) : Nat := if h : ∃ t, OrdI p m mod y t then Classical.choose h else 0
theorem OrdI.eq {y : Int} {t : Nat} (h : OrdI p m mod y t) : mord p m mod y = t := by
 have h1 : ∃ t, OrdI p m mod y t := ⟨t, h⟩
 rw [mord, dif_pos h1]
 exact (Classical.choose_spec h1).unique h
theorem pwI_mul (hs : Shp p m mod) {x : Int} (hx : 0 ≤ x ∧ x < pw p m) (i : Nat) : ∀ t, pwI p m mod (pwI p m mod x i) t = pwI p m mod x (i * t)
 | 0 => rfl
 | t + 1 => by
  rw [pwI_succ hs (pwI_bd hs hx i), pwI_mul hs hx i t, ← pwI_add hs hx, Nat.mul_succ]
theorem IsGen.pw_one {x : Int} {l : List Int} (hs : Shp p m mod) (hg : IsGen p m mod x l) (k : Nat) : pwI p m mod x k = 1 ↔ l.length ∣ k := by
 have h1 := hg.pow.one
 rw [hg.pw_mod hs k]
 constructor
 ·intro h
  refine Nat.dvd_of_mod_eq_zero ?_
  have h2 := hg.pow.get (k % l.length) (Nat.mod_lt _ h1)
  have h3 := hg.pow.get 0 (by omega)
  have h4 : pwI p m mod x 0 = 1 := rfl
  rcases Nat.eq_zero_or_pos (k % l.length) with h5 | h5
  ·exact h5
  ·exfalso
   have h6 := Nat.mod_lt k h1
   rw [h, ← h4, ← h3] at h2
   rw [List.getD_eq_getElem?_getD, List.getElem?_eq_getElem h6, List.getD_eq_getElem?_getD, List.getElem?_eq_getElem (show 0 < l.length by omega)] at h2
   exact (List.pairwise_iff_getElem.1 hg.pow.nodup) 0 (k % l.length) (by omega) h6 h5 (by simpa using h2.symm)
 ·intro h
  rw [Nat.mod_eq_zero_of_dvd h]; rfl
theorem GOk.ord (h : GOk g p m mod) {y : Int} (hy : 0 < y ∧ y < g.q) : OrdI p m mod y ((g.q - 1).toNat / Nat.gcd (g.q - 1).toNat (g.log.getD y.toNat 0).toNat) := by
 obtain ⟨x, hx⟩ := h.gen
 have hs := h.shp.1
 have hl := h.elen
 have hq := h.q2
 have hxb : 0 ≤ x ∧ x < pw p m := ⟨by have := hx.x1; omega, hx.x2⟩
 obtain ⟨i0, i1, i2⟩ := h.log_spec hy.1 hy.2
 generalize (g.log.getD y.toNat 0) = i at *
 have hn : g.exp.length = (g.q - 1).toNat := by omega
 have h1 := hx.pow.get i.toNat (by omega)
 rw [i2] at h1
 generalize i.toNat = k at *
 have hone := fun t => hx.pw_one hs (k * t)
 rw [hn] at hone
 generalize hN : (g.q - 1).toNat = n at *
 have hn0 : 0 < n := by omega
 have hg0 : 0 < Nat.gcd n k := Nat.gcd_pos_of_pos_left _ hn0
 have hdn : Nat.gcd n k ∣ n := Nat.gcd_dvd_left _ _
 have hdk : Nat.gcd n k ∣ k := Nat.gcd_dvd_right _ _
 have hpos : 1 ≤ n / Nat.gcd n k := Nat.div_pos (Nat.le_of_dvd hn0 hdn) hg0
 have key : ∀ t, n ∣ k * t ↔ n / Nat.gcd n k ∣ t := fun t => by
  have hc : Nat.Coprime (n / Nat.gcd n k) (k / Nat.gcd n k) := Nat.coprime_div_gcd_div_gcd hg0
  have e1 : n = Nat.gcd n k * (n / Nat.gcd n k) := (Nat.mul_div_cancel' hdn).symm
  have e2 : k = Nat.gcd n k * (k / Nat.gcd n k) := (Nat.mul_div_cancel' hdk).symm
  constructor
  ·intro hd
   have h3 : Nat.gcd n k * (n / Nat.gcd n k) ∣ Nat.gcd n k * ((k / Nat.gcd n k) * t) := by
    rw [← e1, ← Nat.mul_assoc, ← e2]; exact hd
   exact hc.dvd_of_dvd_mul_left (Nat.dvd_of_mul_dvd_mul_left hg0 h3)
  ·rintro ⟨c, rfl⟩
   have : k * (n / Nat.gcd n k * c) = n * ((k / Nat.gcd n k) * c) := by
    clear hpos hc
    generalize n / Nat.gcd n k = a at e1 e2 ⊢
    generalize k / Nat.gcd n k = b at e1 e2 ⊢
    generalize Nat.gcd n k = d at e1 e2 ⊢
    calc k * (a * c) = (d * b) * (a * c) := by rw [← e2]
     _ = (d * a) * (b * c) := by ac_rfl
     _ = n * (b * c) := by rw [← e1]
   rw [this]
   exact Nat.dvd_mul_right _ _
 refine ⟨hpos, ?_, fun s hs1 hs2 he => ?_⟩
 ·rw [h1, pwI_mul hs hxb, hone, key]
  exact Nat.dvd_refl _
 ·rw [h1, pwI_mul hs hxb, hone, key] at he
  have := Nat.le_of_dvd (by omega) he
  omega
end
theorem vl_take {p : Int} (hp : 2 ≤ p) {c : List Int} (hc : AllIn p c) {M : Nat} (hM : M ≤ c.length) : vl p (c.take M) = rv p M (rl c) := by
 unfold rv
 congr 1
 apply List.ext_getElem
 ·simp; omega
 ·intro i h1 h2
  have h3 : i < c.length := by simp at h1; omega
  have h4 := hc _ (List.getElem_mem h3)
  simp only [List.getElem_take, List.getElem_map, List.getElem_range, rl]
  rw [List.getD_eq_getElem?_getD, List.getElem?_eq_getElem h3]
  exact (Int.emod_eq_of_lt h4.1 h4.2).symm
end Go.Proofs.Ytbhoeaijpnjgdaa

set_option maxRecDepth 100000
namespace Go.Proofs.Ytbhoeaijpnjgdaa
open Go.RowKit
theorem gf_in_ent : Enters Try.prog 119 := enters_of Try.func119 (by kernel_rfl) (by kernel_rfl)
theorem gf_in (g : GfM) (x : Int) :
  Pure Try.prog 119 #[.pointer (some g.p), .int .i64 x] [gfR g] (isV (.int .i64 (inI g.q x))) := by
 refine pure_of (args := [.pointer (some g.p), .int .i64 x]) 9 Try.func119 rfl rfl rfl gf_in_ent ⟨id, trivial⟩ (fun w0 => ?_)
 refine tS ?_
 refine tR fun _ _ _ => ?_
 refine pV ?_
 refine tS ?_
 refine tS ?_
 refine tR fun _ _ _ => ?_
 iterate 2 refine pV ?_
 refine eV (eCallV rfl rfl rfl (gf_Is _ _) ⟨rfl, rfl, trivial⟩ ?_)
 refine tC rfl (fun h1 => ?_) (fun h1 => ?_)
 ·try simp only [zbA] at h1
  refine tS ?_
  refine tR fun _ _ _ => ?_
  iterate 2 refine pV ?_
  exact tr_ret ⟨trivial, _, _, rfl, ⟨by rw [inI, if_pos ⟨by omega, by omega⟩], rfl⟩, CSub.nil _, trivial⟩
 ·try simp only [zbA] at h1
  refine tK ?_
  refine tS ?_
  refine tR fun _ _ _ => ?_
  refine pV ?_
  exact tr_ret ⟨trivial, _, _, rfl, ⟨by rw [inI, if_neg (by omega)], rfl⟩, CSub.nil _, trivial⟩
theorem gf_Order_ent : Enters Try.prog 69 := enters_of Try.func69 (by kernel_rfl) (by kernel_rfl)
theorem gf_Order (g : GfM) :
  Pure Try.prog 69 #[.pointer (some g.p)] [gfR g] (isV (.int .i64 g.q)) := by
 refine pure_of (args := [.pointer (some g.p)]) 7 Try.func69 rfl rfl rfl gf_Order_ent ⟨id, trivial⟩ (fun w0 => ?_)
 refine tS ?_
 refine tR fun _ _ _ => ?_
 refine pV ?_
 refine tS ?_
 refine tR fun _ _ _ => ?_
 refine pV ?_
 refine sV (rNil rfl rfl) ?_
 refine sV (rFld rfl rfl) ?_
 refine sV (rLdF rfl rfl rfl) ?_
 refine pV ?_
 exact tr_ret ⟨trivial, _, _, rfl, ⟨rfl, rfl⟩, CSub.nil _, trivial⟩
end Go.Proofs.Ytbhoeaijpnjgdaa

set_option maxRecDepth 100000
namespace Go.Proofs.Ytbhoeaijpnjgdaa
open Go.RowKit
theorem ref_Digits_ent : Enters Try.prog 98 := enters_of Try.func98 (by kernel_rfl) (by kernel_rfl)
theorem ref_Digits (p m : Int) (A : Option Addr) (c : Nat) (mod : List Int) (hs : Shp p m mod) (x : Int) :
  Pure Try.prog 98 #[.agg #[.int .i64 p, .int .i64 m, .slice A mod.length c], .int .i64 x] [ro A (ints mod)] (one (fun v ch => ∃ B, v = .slice B m.toNat m.toNat ∧ ch = ow B 3 m.toNat (ints (digs p m.toNat (inI (ordI p m) x))))) := by
 have hp2 := hs.p2
 have hp9 := hs.p9
 have hm1 := hs.m1
 have hm8 := hs.m8
 have hqq := hs.q
 have hoq := hs.ord
 have hq2 := hs.q2
 have hib := inI_bd (q := ordI p m) (by omega) x
 refine pure_of (args := [.agg #[.int .i64 p, .int .i64 m, .slice A mod.length c], .int .i64 x]) 13 Try.func98 rfl rfl rfl ref_Digits_ent ⟨id, trivial⟩ (fun w0 => ?_)
 refine tS ?_
 refine tR fun _ _ _ => ?_
 refine eV (eBox rfl rfl rfl rfl rfl (fun p0 => ?_))
 refine pV ?_
 refine tS ?_
 refine tr_draw [0, 1, 3, 4, 5, 6, 2, 7, 8] [] mixed (by kernel_rfl) fun _ _ _ => ?_
 refine sV (rLdS rfl rfl rfl) ?_
 refine pV ?_
 refine sV (rFld rfl rfl) ?_
 refine sV (rLdF rfl rfl rfl) ?_
 refine sV (rFld rfl rfl) ?_
 refine sV (rLdF rfl rfl rfl) ?_
 refine eV (eCallV rfl rfl rfl (ref_In _ _ _ _ _ _) ⟨rfl, rfl, trivial⟩ ?_)
 refine eV (eCall1 rfl rfl rfl (ref_digits _ (by omega) (by omega) _ (by omega) (by omega) _ (by omega) (by omega)) ⟨rfl, rfl, rfl, trivial⟩ ?_)
 rintro _ _ ⟨B1a, rfl, rfl⟩
 refine pV ?_
 exact tr_ret ⟨trivial, _, _, rfl, ⟨_, rfl, _, rfl, rfl⟩, cs _ _, trivial, trivial⟩
theorem ref_Value_ent : Enters Try.prog 99 := enters_of Try.func99 (by kernel_rfl) (by kernel_rfl)
theorem ref_Value (p m : Int) (A : Option Addr) (c : Nat) (mod : List Int) (hp : 2 ≤ p) (hp2 : p ≤ 256) (B : Option Addr) (n cB : Nat) (d : List Int) (hn : n ≤ d.length) (hn2 : n ≤ 64) (hd : AllIn p d) (hq : p ^ n ≤ 256) :
  Pure Try.prog 99 #[.agg #[.int .i64 p, .int .i64 m, .slice A mod.length c], .slice B n cB] [ro A (ints mod), ro B (ints d)] (isV (.int .i64 (vl p (d.take n)))) := by
 have htl : (d.take n).length = n := by rw [List.length_take]; omega
 have hti : AllIn p (d.take n) := fun z hz => hd z (List.mem_of_mem_take hz)
 have htg : ∀ i : Nat, i < n → (d.take n).getD i 0 = d.getD i 0 := fun i hi => by simp [List.getD_eq_getElem?_getD, List.getElem?_take, hi]
 refine pure_of (args := [.agg #[.int .i64 p, .int .i64 m, .slice A mod.length c], .slice B n cB]) 24 Try.func99 rfl rfl rfl ref_Value_ent ⟨id, id, trivial⟩ (fun w0 => ?_)
 refine tS ?_
 refine tR fun _ _ _ => ?_
 refine eV (eBox rfl rfl rfl rfl rfl (fun p0 => ?_))
 refine pV ?_
 refine tS ?_
 refine tR fun _ _ _ => ?_
 refine pV ?_
 refine tS ?_
 refine tS ?_
 refine tR fun _ _ _ => ?_
 refine pV ?_
 refine sV (rLen rfl rfl) ?_
 refine sV (rSub rfl rfl rfl (by omega) (by omega)) ?_
 refine pV ?_
 refine tB ?_
 refine tr_loop2 (fun (i : Int) (s : Int) => [(1, .slice B n cB), (2, .pointer (some p0)), (5, .int .i64 s), (6, .int .i64 i)]) (fun (i : Int) (s : Int) => [blk p0 24 [.int .i64 p, .int .i64 m, .slice A mod.length c], ro B (ints d)]) (fun (i : Int) (s : Int) => -1 ≤ i ∧ i < n ∧ s = vl p ((d.take n).drop (i + 1).toNat)) (fun (i : Int) (s : Int) => (i + 1).toNat) ((n : Int) - 1) (0) ⟨rfl, rfl, rfl, rfl, trivial⟩ (by first | exact cs _ _ | exact CSub.refl _) (⟨by omega, by omega, by rw [List.drop_of_length_le (by omega)]; rfl⟩) (fun i s hI => ?_)
 obtain ⟨hi0, hi1, hs⟩ := hI
 have hv := vl_in (p := p) (by omega) ((d.take n).drop (i + 1).toNat) (fun c hc => hti c (List.mem_of_mem_drop hc))
 have hpb := pw_bd (p := p) (by omega) (k := ((d.take n).drop (i + 1).toNat).length) (m := n) (by rw [List.length_drop]; omega)
 have hmb := mul_bd0 s p 256 256 (by omega) (by omega) (by omega) (by omega)
 have hgd := hd.get (by omega) i.toNat
 refine tS ?_
 refine tS ?_
 refine tR fun _ _ _ => ?_
 iterate 2 refine pV ?_
 refine tC rfl (fun h3 => ?_) (fun h3 => ?_)
 ·try simp only [zbA] at h3
  refine tK ?_
  refine tS ?_
  refine tB ?_
  refine tr_draw [0, 1, 2, 3, 4, 5, 6, 7, 8, 9] [] mixed (by kernel_rfl) fun _ _ _ => ?_
  refine pV ?_
  refine sV (rFld rfl rfl) ?_
  refine sV (rLdF rfl rfl rfl) ?_
  refine sV (rMul rfl rfl rfl (by omega) (by omega)) ?_
  iterate 2 refine pV ?_
  refine sV (rIdxI rfl rfl rfl (by omega) (by omega) (by omega)) ?_
  refine sV (rLdI rfl rfl (by omega)) ?_
  refine sV (rAdd rfl rfl rfl (by omega) (by omega)) ?_
  refine pV ?_
  refine tR fun _ _ _ => ?_
  refine pV ?_
  refine sV (rSub rfl rfl rfl (by omega) (by omega)) ?_
  refine pV ?_
  refine ⟨i - 1, s * p + d.getD i.toNat 0, ⟨rfl, rfl, rfl, rfl, trivial⟩, by first | exact cs _ _ | exact CSub.refl _, ?_⟩
  refine ⟨⟨by omega, by omega, ?_⟩, by omega⟩
  rw [show (i - 1 + 1).toNat = i.toNat by omega, drop_getD (show i.toNat < (d.take n).length by omega), vl, hs, show (i + 1).toNat = i.toNat + 1 by omega, Int.mul_comm, Int.add_comm, htg _ (by omega)]
 ·try simp only [zbA] at h3
  refine tE ?_
  refine tS ?_
  refine tR fun _ _ _ => ?_
  iterate 2 refine pV ?_
  have him : i = -1 := by omega
  subst him
  exact tr_ret ⟨trivial, _, _, rfl, ⟨by rw [hs]; simp, rfl⟩, CSub.nil _, trivial⟩
end Go.Proofs.Ytbhoeaijpnjgdaa

namespace Go.Proofs.Ytbhoeaijpnjgdaa
open Go.ChangeShapes Go.WideShapes Go.ChangeAt Go.RowKit Go.Deep
def Fits (n : Int) : Prop := -9223372036854775808 ≤ n ∧ n ≤ 9223372036854775807
theorem fits_of_wf {n : Int} (h : (Lit.int .i64 n).wf = true) : Fits n := by
 simp [Lit.wf, IntKind.min, IntKind.max, IntKind.bits, IntKind.signed] at h
 unfold Fits
 omega
section
variable {H : Type} {enc : TypeId × Value → H} {P : Program} {w : World} {held : Bool} {t e : TypeId} {fuel : Nat} {cs : List Value} {x : DataW H × List MemPlace}
theorem open_I (ht : P.underlying t = some (.int .i64)) (h : DataW.trod enc P w 0 (fun _ => true) held fuel t cs = some x) : ∃ n, cs = [.int .i64 n] ∧ Fits n := by
 obtain ⟨n, h1, _, h3⟩ := DataW.trod_int ht h
 exact ⟨n, h1, fits_of_wf h3⟩
end
section
variable {H : Type} {enc : TypeId × Value → H} {P : Program} {w : World} {b : Nat} {t e : TypeId} {v : Value} {d : DataW H} {p : List MemPlace}
theorem get_I (ht : P.underlying t = some (.int .i64)) (hv : Value.okWide P w .any b t v) (h : DataW.Trod enc P w 0 (fun _ => true) true t v d p) : ∃ n, v = .int .i64 n ∧ Fits n := by
 obtain ⟨n, rfl, _, _, hn⟩ := open_int ht hv h
 exact ⟨n, rfl, fits_of_wf hn⟩
def fdInfo (P : Program) (t : TypeId) (i : Nat) : Option (Nat × TypeId × Nat) :=
 match P.underlying t with
 | some (.struct fs) => (fs[i]?).map fun f => (f.offset, f.type, P.cellsOf f.type)
 | _ => none
def isSt (P : Program) (t : TypeId) : Bool := match P.underlying t with | some (.struct _) => true | _ => false
end
def Light {H : Type} (P : Program) (t : TypeId) (d : DataW H) : Prop := ∀ n ∈ d.weights P t, n ≤ reachBytes
theorem light_of {H : Type} {P : Program} {ts : List TypeId} {ds : List (DataW H)} (h : (DataW.weightsEach P ts ds).all (· ≤ reachBytes) = true) {j : Nat} {t : TypeId} {d : DataW H} (ht : ts[j]? = some t) (hd : ds[j]? = some d) : Light P t d := fun n hn => by
 have := List.all_eq_true.1 h _ (DataW.weights_mem_each ht hd n hn)
 simpa using this
section
variable {H : Type} {enc : TypeId × Value → H} {P : Program} {w : World} {held : Bool} {t e : TypeId} {fuel : Nat} {cs : List Value} {x : DataW H × List MemPlace}
theorem open_ISw (ht : P.underlying t = some (.slice e)) (he : P.underlying e = some (.int .i64)) (hc : P.cellsOf e = 1) (hb : P.bytesOf e = 8) (hw : Light P t x.1) (h : DataW.trod enc P w 0 (fun _ => true) held fuel t cs = some x) :
  ∃ (A : Option Addr) (c : Nat) (xs : List Int), cs = [.slice A xs.length c] ∧ xs.length ≤ c ∧ (ro A (ints xs)).sat w ∧ (∀ z ∈ xs, Fits z) ∧ xs.length ≤ 17592186044415 := by
 rcases open_ints ht he hc h with ⟨rfl, _⟩ | ⟨a, len, cap, zs, rfl, _, hl, hm, hz, hx, hcell, hwz⟩
 ·exact ⟨none, 0, [], rfl, Nat.le_refl _, fun j hj => by simp [ints] at hj, fun z hz => by simp at hz, by simp⟩
 ·simp only [if_true] at hz
  have hlen : (zs.take len).length = len := by rw [List.length_take]; omega
  have hwt := hw (((lits .i64 (zs.take len) : List (DataW H)).length + (lits .i64 (zs.drop len) : List (DataW H)).length) * P.bytesOf e) (by rw [hx]; simp [DataW.weights, ht])
  refine ⟨some a, cap, zs.take len, by rw [hlen], by rw [hlen]; exact hl, fun j hj => ?_, fun z hz' => fits_of_wf (hwz z (List.mem_of_mem_take hz')), ?_⟩
  ·rw [ints_length, hlen] at hj
   refine ⟨a, rfl, ?_⟩
   rw [hcell j (by omega)]
   have hj' : j < zs.length := by omega
   simp [ints, hj']
  ·rw [hb] at hwt
   simp only [lits, List.length_map, hlen, reachBytes] at hwt
   omega
end
section
variable {H : Type} {enc : TypeId × Value → H} {P : Program} {w : World} {b : Nat} {t e : TypeId} {v : Value} {d : DataW H} {p : List MemPlace}
theorem get_FdW (hst : isSt P t = true) (hw : Light P t d) (hv : Value.okWide P w .any b t v) (h : DataW.Trod enc P w 0 (fun _ => true) true t v d p) :
  ∃ l : List Value, v = .agg l.toArray ∧ l.length = P.cellsOf t ∧ ∀ (i off : Nat) (ty : TypeId) (n : Nat), fdInfo P t i = some (off, ty, n) → ∃ m y, DataW.trod enc P w 0 (fun _ => true) true m ty ((l.drop off).take n) = some y ∧ Light P ty y.1 := by
 unfold isSt at hst
 split at hst
 ·rename_i fs hu
  obtain ⟨cs, rfl, _⟩ := okWide_struct hu hv
  obtain ⟨fuel, hf⟩ := h
  obtain ⟨xs, n, _, hx, h1, h2, h3⟩ := DataW.trod_struct hu hf
  have hd : d = .agg (xs.map (·.1)) := congrArg Prod.fst hx
  refine ⟨cs.toList, rfl, h1, fun i off ty k hi => ?_⟩
  simp only [fdInfo, hu] at hi
  cases hfi : fs[i]? with
  | none => simp [hfi] at hi
  | some f =>
   simp only [hfi, Option.map_some, Option.some.injEq, Prod.mk.injEq] at hi
   obtain ⟨rfl, rfl, rfl⟩ := hi
   have hlt : i < xs.length := by rw [h2]; exact (Array.getElem?_eq_some_iff.1 hfi).1
   refine ⟨n, xs[i], (h3 i f hfi).trans (List.getElem?_eq_getElem hlt), fun k hk => hw k ?_⟩
   rw [hd]
   simp only [DataW.weights, hu]
   refine DataW.weights_mem_each (j := i) (t := f.type) (d := xs[i].1) (by simp [hfi]) (by simp [hlt]) k hk
 ·cases hst
end
section
variable {H : Type} {enc : TypeId × Value → H} {P : Program} {w : World} {held : Bool} {t e f : TypeId} {fuel : Nat} {cs : List Value} {x : DataW H × List MemPlace}
instance : Inhabited RowM := ⟨rowD⟩
end
theorem joined_of {P : Program} {f : FuncId} {fn : Func} {s : ChangeSpec} {c : OpenClaim}
  (h1 : (c.wf (OpenSpec.ofChange s) && laidOutB P && mapsRowed P && fn.params.all (P.readableRec ·) && namedTie P c.named s.vars && (c.stops == []) && (P.stops == []) && (c.knobs == []) && (P.stopKnobs == [])) = true)
  (h2 : (c.inPlace == P.inPlace f) = true) (h3 : (c.unfollowed == P.unfollowed f) = true) (h4 : (c.recurses == P.recurses f) = true) (h5 : (c.named == P.varsNamed f) = true)
  (h6 : (c.maps == (fn.params.toList ++ s.plain.varTypes P).any (P.mapsRec ·)) = true) (h7 : (c.ifaces == (fn.params.toList ++ s.plain.varTypes P).any (P.ifacesRec ·)) = true) (h8 : (c.mapsOut == P.mapsAmong fn.resultTypes.toList) = true)
  (h9 : (c.loops == (fn.params.toList ++ s.plain.varTypes P).any (P.loopsFrom ·)) = true) (h10 : (c.wideKeys == (fn.params.toList ++ s.plain.varTypes P ++ fn.resultTypes.toList).any (P.wideKeysFrom ·)) = true)
  (h11 : s.vars.all (P.varReadable ·) = true) (h12 : fn.resultTypes.all (fun t => P.readableRec t && decide (t < P.types.size)) = true) (h13 : (c.ifacesOut == fn.resultTypes.toList.any (P.ifacesRec ·)) = true) (h14 : (c.loopsOut == fn.resultTypes.toList.any (P.loopsFrom ·)) = true)
  (h15 : (c.plainKeys == P.plainKeys) = true) (h16 : c.shortTexts.isNone = true) (h17 : P.stopsHeard = true) (h18 : P.mayEnter = true) (h19 : (c.lifted == P.liftsFinal) = true) (h20 : (P.make == some c.make) = true)
  (h21 : (c.kinds == (if c.domain.isEmpty then [] else fn.params.toList.map fun t => match P.underlying t with | some (.int k) => some k | _ => none)) = true) (h22 : (c.pinned == c.pinnedBy) = true)
  (h23 : (c.veiled == (fn.params.toList ++ s.plain.varTypes P ++ fn.resultTypes.toList).any (P.veiledRec ·)) = true) (h24 : c.veiledFits P fn.params.toList (fn.params.toList ++ s.plain.varTypes P ++ fn.resultTypes.toList) = true) : joinedFacts P f fn s c = true := by
 unfold joinedFacts
 simp only [Bool.and_eq_true] at h1 ⊢
 obtain ⟨⟨⟨⟨⟨⟨⟨⟨a1, a2⟩, a3⟩, a4⟩, a5⟩, a6⟩, a7⟩, a8⟩, a9⟩ := h1
 and_intros <;> assumption
end Go.Proofs.Ytbhoeaijpnjgdaa

set_option maxRecDepth 100000
namespace Go.Proofs.Ytbhoeaijpnjgdaa
open Go.ChangeShapes Go.WideShapes Go.ChangeAt Go.RowKit
theorem get_F {H : Type} {enc : TypeId × Value → H} {w : World} {b : Nat} {v : Value} {d : DataW H} {p : List MemPlace} (hw : Light Try.prog 24 d) (hv : Value.okWide Try.prog w .any b 24 v) (h : DataW.Trod enc Try.prog w 0 (fun _ => true) true 24 v d p) :
  ∃ (P M : Int) (A : Option Addr) (c : Nat) (mod : List Int), v = .agg #[.int .i64 P, .int .i64 M, .slice A mod.length c] ∧ (ro A (ints mod)).sat w ∧ mod.length ≤ 17592186044415 := by
 obtain ⟨l, rfl, h1, h2⟩ := get_FdW (by kernel_rfl) hw hv h
 have hl : l.length = 3 := h1.trans (by kernel_rfl)
 obtain ⟨n0, y0, hy0, _⟩ := h2 0 0 3 1 (by kernel_rfl)
 obtain ⟨a0, e0, _⟩ := open_I Try.underlying3 hy0
 obtain ⟨n1, y1, hy1, _⟩ := h2 1 1 3 1 (by kernel_rfl)
 obtain ⟨a1, e1, _⟩ := open_I Try.underlying3 hy1
 obtain ⟨n2, y2, hy2, hl2⟩ := h2 2 2 22 1 (by kernel_rfl)
 obtain ⟨A, c, xs, e2, _, h3, _, h4⟩ := open_ISw Try.underlying22 Try.underlying3 (by kernel_rfl) (by kernel_rfl) hl2 hy2
 match l, hl with
 | [b0, b1, b2], _ =>
  simp at e0 e1 e2
  exact ⟨a0, a1, A, c, xs, by rw [e0, e1, e2], h3, h4⟩
end Go.Proofs.Ytbhoeaijpnjgdaa

namespace Go.Proofs.Ytbhoeaijpnjgdaa
open Rg
theorem trimL_beyond : ∀ (xs : List Int) (j : Nat), (trimL xs).length ≤ j → xs.getD j 0 = 0
 | [], j, _ => rfl
 | x :: xs, j, h => by
  rw [trimL] at h
  split at h
  ·rename_i h0
   cases j with
   | zero =>
    split at h
    ·rename_i hx; rw [hx]; rfl
    ·simp at h
   | succ j =>
    have := trimL_beyond xs j (by rw [h0]; simp)
    simpa using this
  ·rename_i y ys h0
   cases j with
   | zero => simp at h
   | succ j =>
    have := trimL_beyond xs j (by rw [h0]; simpa using h)
    simpa using this
theorem trimL_last : ∀ (xs : List Int) (k : Nat), (trimL xs).length = k + 1 → xs.getD k 0 ≠ 0
 | [], k, h => by simp [trimL] at h
 | x :: xs, k, h => by
  rw [trimL] at h
  split at h
  ·split at h
   ·simp at h
   ·rename_i hx
    simp at h
    subst h
    exact hx
  ·rename_i y ys h0
   cases k with
   | zero => simp at h
   | succ k =>
    have := trimL_last xs k (by rw [h0]; simpa using h)
    simpa using this
theorem trimL_getD (xs : List Int) (j : Nat) : (trimL xs).getD j 0 = xs.getD j 0 := by
 by_cases h : j < (trimL xs).length
 ·conv => rhs; rw [trimL_split xs]
  rw [List.getD_eq_getElem?_getD, List.getD_eq_getElem?_getD, List.getElem?_append_left h]
 ·rw [trimL_beyond xs j (by omega), List.getD_eq_getElem?_getD, List.getElem?_eq_none (by omega)]; rfl
class IsF (p m : Int) (mod : List Int) : Prop where
 out : FldR p m mod
noncomputable instance elF (p m : Int) (mod : List Int) [h : IsF p m mod] : Fd (El p m mod) := elFd h.out
theorem IsF.q2 {p m : Int} {mod : List Int} (h : IsF p m mod) : 2 ≤ pw p m := h.out.1.1.q2
theorem IsF.ord {p m : Int} {mod : List Int} (h : IsF p m mod) : ordI p m = pw p m := h.out.1.1.ord
section
variable {p m : Int} {mod : List Int} [hF : IsF p m mod]
def el (x : Int) : El p m mod := ⟨inI (pw p m) x, inI_bd (by have := hF.q2; omega) x⟩
theorem el_in {x : Int} (h : 0 ≤ x ∧ x < pw p m) : (el x : El p m mod).1 = x := inI_in h.1 h.2
theorem el_of (a : El p m mod) : el a.1 = a := El.ext (inI_in a.2.1 a.2.2)
theorem el_zero : (el 0 : El p m mod) = 0 := El.ext (inI_in (Int.le_refl 0) (by have := hF.q2; omega))
theorem el_one : (el 1 : El p m mod) = 1 := El.ext (inI_in (by omega) (by have := hF.q2; omega))
theorem one_val : (1 : El p m mod).1 = 1 := rfl
theorem add_val (a b : El p m mod) : (a + b).1 = addI p m a.1 b.1 := rfl
theorem val_zero_iff (a : El p m mod) : a.1 = 0 ↔ a = 0 := ⟨fun h => El.ext h, fun h => by rw [h]; rfl⟩
theorem el_eq_zero {x : Int} (h : 0 ≤ x ∧ x < pw p m) : (el x : El p m mod) = 0 ↔ x = 0 := by rw [← val_zero_iff, el_in h]
noncomputable def pol (l : List Int) : Po (El p m mod) := ⟨fun j => el (l.getD j 0), l.length, fun j hj => by
 show el (l.getD j 0) = 0
 rw [List.getD_eq_getElem?_getD, List.getElem?_eq_none hj]; exact el_zero⟩
theorem cf_pol (l : List Int) (j : Nat) : Po.cf (pol l : Po (El p m mod)) j = el (l.getD j 0) := rfl
theorem pol_sh (l : List Int) : Po.Sh (pol l : Po (El p m mod)) l.length := fun j hj => by
 rw [cf_pol, List.getD_eq_getElem?_getD, List.getElem?_eq_none hj]; exact el_zero
noncomputable def il (f : Po (El p m mod)) : List Int := (List.range (Po.len f)).map fun j => (Po.cf f j).1
theorem il_length (f : Po (El p m mod)) : (il f).length = Po.len f := by simp [il]
theorem il_getD (f : Po (El p m mod)) (j : Nat) : (il f).getD j 0 = (Po.cf f j).1 := by
 by_cases h : j < Po.len f
 ·rw [List.getD_eq_getElem?_getD, List.getElem?_eq_getElem (by rw [il_length]; exact h)]
  simp [il]
 ·rw [List.getD_eq_getElem?_getD, List.getElem?_eq_none (by rw [il_length]; omega), Po.cf_ge (by omega)]; rfl
theorem il_in (f : Po (El p m mod)) : AllIn (pw p m) (il f) := fun c hc => by
 obtain ⟨j, _, rfl⟩ := List.mem_map.1 hc
 exact (Po.cf f j).2
theorem pol_il (f : Po (El p m mod)) : pol (il f) = f := Po.ext fun j => by rw [cf_pol, il_getD, el_of]
theorem il_inj {f g : Po (El p m mod)} (h : il f = il g) : f = g := by rw [← pol_il f, h, pol_il]
theorem getD_map0 (q : Int) (l : List Int) (j : Nat) : (l.map (inI q)).getD j 0 = inI q (l.getD j 0) := by
 by_cases h : j < l.length
 ·simp [List.getD_eq_getElem?_getD, h]
 ·rw [List.getD_eq_getElem?_getD, List.getElem?_eq_none (by simpa using h), List.getD_eq_getElem?_getD, List.getElem?_eq_none (by omega)]
  simp [inI]
theorem len_pol (l : List Int) : Po.len (pol l : Po (El p m mod)) = (canL (pw p m) l).length := by
 have hb : ∀ j, (canL (pw p m) l).length ≤ j → Po.cf (pol l : Po (El p m mod)) j = 0 := fun j hj => by
  have h1 := trimL_beyond (l.map (inI (pw p m))) j hj
  rw [getD_map0] at h1
  exact El.ext h1
 rcases Nat.eq_zero_or_pos (canL (pw p m) l).length with h | h
 ·rw [h] at hb ⊢
  exact Nat.le_zero.1 (Po.len_le hb)
 ·obtain ⟨k, hk⟩ : ∃ k, (canL (pw p m) l).length = k + 1 := ⟨_, (Nat.sub_add_cancel h).symm⟩
  rw [hk] at hb ⊢
  refine Po.len_eq hb fun h0 => ?_
  have h1 := trimL_last (l.map (inI (pw p m))) k hk
  rw [getD_map0] at h1
  exact h1 (congrArg Subtype.val h0)
theorem ext_getD {a b : List Int} (hl : a.length = b.length) (h : ∀ j, a.getD j 0 = b.getD j 0) : a = b := List.ext_getElem hl fun j h1 h2 => by
 have := h j
 rw [List.getD_eq_getElem?_getD, List.getElem?_eq_getElem h1, List.getD_eq_getElem?_getD, List.getElem?_eq_getElem h2] at this
 exact this
theorem il_pol (l : List Int) : il (pol l : Po (El p m mod)) = canL (pw p m) l := ext_getD (by rw [il_length, len_pol]) fun j => by
 rw [il_getD, cf_pol]
 unfold canL
 rw [trimL_getD, getD_map0]; rfl
theorem canL_of_in {q : Int} {l : List Int} (h : AllIn q l) : canL q l = trimL l := by
 unfold canL
 congr 1
 conv => rhs; rw [← List.map_id l]
 exact List.map_congr_left fun x hx => inI_in (h x hx).1 (h x hx).2
theorem il_trim {l : List Int} (h : AllIn (pw p m) l) : il (pol l : Po (El p m mod)) = trimL l := by rw [il_pol, canL_of_in h]
theorem pol_nil : (pol [] : Po (El p m mod)) = 0 := Po.ext fun j => el_zero
theorem il_zero : il (0 : Po (El p m mod)) = [] := by unfold il; rw [Po.len_zero]; rfl
theorem il_self {l : List Int} (h : AllIn (pw p m) l) (h0 : l = [] ∨ l.getD (l.length - 1) 0 ≠ 0) : il (pol l : Po (El p m mod)) = l := by
 rw [il_trim h]
 have h1 := trim_done (xs := l) (k := l.length) (Nat.le_refl _) (by rw [List.take_length]) (by
  rcases h0 with h0 | h0
  ·exact .inl (by rw [h0]; rfl)
  ·exact .inr h0)
 rw [trimL_take, h1, List.take_length]
noncomputable def rw' (l : List Int) : Vc (El p m mod) := fun j => el (l.getD j 0)
theorem rw_at (l : List Int) (j : Nat) : (rw' l : Vc (El p m mod)) j = el (l.getD j 0) := rfl
end
end Go.Proofs.Ytbhoeaijpnjgdaa

namespace Go.Proofs.Ytbhoeaijpnjgdaa
def addD (p : Int) : Nat → Int → Int → Int
 | 0, _, _ => 0
 | n + 1, x, y => (x % p + y % p) % p + p * addD p n (x / p) (y / p)
def negD (p : Int) : Nat → Int → Int
 | 0, _ => 0
 | n + 1, x => (p - x % p) % p + p * negD p n (x / p)
theorem dg_head (p : Int) (M : Nat) (x : Int) : dg p (M + 1) x 0 = x % p := rfl
theorem rv_head (p : Int) (M : Nat) (u : Row) : rv p (M + 1) u = u 0 % p + p * rv p M (fun j => u (j + 1)) := by
 unfold rv
 rw [List.range_succ_eq_map, List.map_cons, List.map_map, vl]
 rfl
theorem add_rec (p : Int) : ∀ (M : Nat) (x y : Int), rv p M ((dg p M x).add (dg p M y)) = addD p M x y
 | 0, _, _ => rfl
 | M + 1, x, y => by
  rw [rv_head, addD, ← add_rec p M]
  rfl
theorem addI_rec (p m x y : Int) : addI p m x y = addD p m.toNat x y := add_rec p _ x y
theorem neg_rec {p : Int} (hp : 2 ≤ p) : ∀ (M : Nat) (x : Int), rv p M (Row.sm (-1) (dg p M x)) = negD p M x
 | 0, _ => rfl
 | M + 1, x => by
  rw [rv_head, negD, ← neg_rec hp M]
  have h1 : Row.sm (-1) (dg p (M + 1) x) 0 % p = (p - x % p) % p := by
   simp only [Row.sm, dg_head]
   rw [show (-1 : Int) * (x % p) = (p - x % p) + p * (-1) by omega, Int.add_mul_emod_self_left]
  rw [h1]
  rfl
theorem negI_rec {p : Int} (hp : 2 ≤ p) (m x : Int) : negI p m x = negD p m.toNat x := neg_rec hp _ x
theorem addD_bd {p : Int} (hp : 2 ≤ p) : ∀ (n : Nat) (x y : Int), 0 ≤ addD p n x y ∧ addD p n x y < p ^ n := fun n x y => by
 have := rv_bd hp n ((dg p n x).add (dg p n y))
 rwa [add_rec] at this
theorem negD_bd {p : Int} (hp : 2 ≤ p) : ∀ (n : Nat) (x : Int), 0 ≤ negD p n x ∧ negD p n x < p ^ n := fun n x => by
 have := rv_bd hp n (Row.sm (-1) (dg p n x))
 rwa [neg_rec hp] at this
theorem addD_zero (p : Int) : ∀ n : Nat, addD p n 0 0 = 0
 | 0 => rfl
 | n + 1 => by simp [addD, addD_zero p n]
theorem negD_zero (p : Int) : ∀ n : Nat, negD p n 0 = 0
 | 0 => rfl
 | n + 1 => by simp [negD, negD_zero p n]
theorem ediv_lt_pow {p x : Int} (hp : 2 ≤ p) {n : Nat} (h : x < p ^ (n + 1)) : x / p < p ^ n := Int.ediv_lt_of_lt_mul (by omega) (by rwa [Int.pow_succ] at h)
theorem xor_rec : ∀ (n x y : Nat), x < 2 ^ n → y < 2 ^ n → addD 2 n x y = ((x ^^^ y : Nat) : Int)
 | 0, x, y, hx, hy => by
  have h1 : x = 0 := by simpa using hx
  have h2 : y = 0 := by simpa using hy
  subst h1; subst h2
  simp [addD]
 | n + 1, x, y, hx, hy => by
  have h1 : x / 2 < 2 ^ n := by rw [Nat.pow_succ] at hx; omega
  have h2 : y / 2 < 2 ^ n := by rw [Nat.pow_succ] at hy; omega
  have ih := xor_rec n (x / 2) (y / 2) h1 h2
  rw [addD]
  have e1 : ((x : Int) / 2) = ((x / 2 : Nat) : Int) := by omega
  have e2 : ((y : Int) / 2) = ((y / 2 : Nat) : Int) := by omega
  rw [e1, e2, ih, ← Nat.xor_div_two]
  have e3 : (x ^^^ y) % 2 = (x + y) % 2 := by
   have h3 := Nat.xor_mod_two_pow (a := x) (b := y) (n := 1)
   rw [Nat.pow_one] at h3
   rw [h3]
   rcases Nat.mod_two_eq_zero_or_one x with hx0 | hx0 <;> rcases Nat.mod_two_eq_zero_or_one y with hy0 | hy0 <;> rw [hx0, hy0] <;> simp <;> omega
  have e4 := Nat.div_add_mod (x ^^^ y) 2
  have e5 : ((x : Int) % 2 + (y : Int) % 2) % 2 = (((x + y) % 2 : Nat) : Int) := by omega
  rw [e5, ← e3]
  omega
theorem addI_two {m x y : Int} (hx : 0 ≤ x ∧ x < pw 2 m) (hy : 0 ≤ y ∧ y < pw 2 m) : addI 2 m x y = ((x.toNat ^^^ y.toNat : Nat) : Int) := by
 rw [addI_rec]
 have h1 : ((2 ^ m.toNat : Nat) : Int) = pw 2 m := by rw [Int.natCast_pow]; rfl
 have := xor_rec m.toNat x.toNat y.toNat (by omega) (by omega)
 rwa [Int.toNat_of_nonneg hx.1, Int.toNat_of_nonneg hy.1] at this
section
end
end Go.Proofs.Ytbhoeaijpnjgdaa

set_option maxRecDepth 100000
namespace Go.Proofs.Ytbhoeaijpnjgdaa
open Go.RowKit Go.Shelf
attribute [local go_sem] Oper.semAt_some
set_option maxRecDepth 100000 in
set_option maxHeartbeats 2000000 in
theorem elems_in (F : Fence) (n : Nat) (hF : F.fn 168) (hro : F.round = none) (hn : 1 ≤ n) (l Bs b q : Nat) (hq : q ≤ 256) (J Jx : List Int → World → Prop)
  (hY : ∀ pre x W, J pre W → pre.length < q → YieldAt F (n - 1) Try.prog l #[.int .i64 x] W fun e W' =>
   (e = .returned (.bool true) ∧ J (pre ++ [x]) W' ∧ True) ∨ (e = .returned (.bool false) ∧ Jx (pre ++ [x]) W'))
  (W : World) (hBs : W.cell? ⟨Bs, 0, none⟩ = some (.pointer (some ⟨b, 0, none⟩))) (hc : W.cell? ⟨b, 3, none⟩ = some (.int .i64 q)) (h0 : J [] W) :
  CallsIn F n Try.prog 168 #[.func (.yield l) #[] #[], .pointer (some ⟨Bs, 0, none⟩)] W fun e W' => (∃ v, e = .returned v) ∧
   ((∃ ys, ys = upI q ∧ J ys W') ∨ (∃ pre, (∃ k, k ≤ q ∧ pre = upI k) ∧ Jx pre W')) := by
 refine callsIn_of_wp Try.func168 rfl hF ?_ hro
 simp only [Try.ntmps168, List.size_toArray, List.length_cons, List.length_nil, Nat.reduceAdd, Nat.reduceSub, Array.replicate_succ, Array.replicate_zero, List.push_toArray, List.append_toArray, List.nil_append, List.cons_append]
 gi_wp2
 gi_loopw [8] (fun i wr => ∃ k : Nat, k ≤ q ∧ i = .int .i64 k ∧ J (upI k) wr)
  (fun i _ => q - (intOf i).toNat)
 case atStart => exact ⟨0, Nat.zero_le _, rfl, h0⟩
 case round =>
  obtain ⟨k, hk, rfl, hJs⟩ := hrel
  by_cases hlt : k < q
  ·obtain ⟨fn, tmps, assign, body, hy, hR⟩ := hY _ (k : Int) wr hJs (by rw [upI_length]; exact hlt)
   gi_wp2
   refine hR.mono ?_
   rintro e W3 (⟨rfl, hJ3, _⟩ | ⟨rfl, hJx3⟩)
   ·gi_wp2
    go_roundw
    case rel => exact ⟨k + 1, by omega, by simp, by rw [upI_succ]; exact hJ3⟩
    case measure => simp [intOf]; omega
   ·gi_wp2
    refine bodyPost_ret (results_none rfl _ _ _) rfl ?_
    exact ⟨⟨_, rfl⟩, .inr ⟨_, ⟨k + 1, by omega, (upI_succ _).symm⟩, hJx3⟩⟩
  ·obtain rfl : k = q := by omega
   gi_wp2
   go_end0
   exact ⟨⟨_, rfl⟩, .inl ⟨_, rfl, hJs⟩⟩
theorem elems_gives {Bs : Addr} {g : GfM} {e : TypeId} {F F' : List Chunk} (hq0 : 0 ≤ g.q) (hq : g.q ≤ 256) [hB : PkBlk F Bs e [.pointer (some g.p)] F'] [hG : HasGF F g] :
  Gives Try.prog F 168 #[.pointer (some Bs)] g.q.toNat := ⟨fun M w0 w hm => by
 have h1 := (hm.perm hB.perm).sat _ (List.mem_cons_self ..)
 have h2 := (hG.has M w0 w hm).1
 have hb := h1.1
 have hp := h2.1
 obtain ⟨ad, e1, hc⟩ := blk_reads h1 0 (by simp)
 simp only [Option.some.injEq] at e1
 subst e1
 obtain ⟨ad, e2, hc2⟩ := h2.2 3 (by simp [GfM.cells])
 simp only [Option.some.injEq] at e2
 subst e2
 simp only [GfM.cells, List.getElem_cons_zero, List.getElem_cons_succ] at hc hc2
 rw [hb, add_new] at hc
 rw [hp, add_new] at hc2
 intro l J Jx W hW _ _ hY h0
 have k1 : W.cell? ⟨Bs.block, 0, none⟩ = some (.pointer (some ⟨g.p.block, 0, none⟩)) := by
  rw [hW.cell (p := ⟨Bs.block, 0, none⟩) (World.block_lt_of_cell? _ _ hc), hc, ← hp]
 have k2 : W.cell? ⟨g.p.block, 3, none⟩ = some (.int .i64 g.q.toNat) := by
  rw [hW.cell (p := ⟨g.p.block, 3, none⟩) (World.block_lt_of_cell? _ _ hc2), hc2, Int.toNat_of_nonneg hq0]
 have := elems_in (WR none) 1 trivial rfl (Nat.le_refl _) l Bs.block g.p.block g.q.toNat (by omega) J Jx hY W k1 k2 h0
 rw [hb]
 exact this⟩
end Go.Proofs.Ytbhoeaijpnjgdaa

set_option maxRecDepth 100000
namespace Go.Proofs.Ytbhoeaijpnjgdaa
open Go.RowKit
theorem gf_Elements1_ent : Enters Try.prog 168 := enters_of Try.func168 (by kernel_rfl) (by kernel_rfl)
theorem gf_Elements_ent : Enters Try.prog 141 := enters_of Try.func141 (by kernel_rfl) (by kernel_rfl)
theorem gf_Elements (g : GfM) :
  Pure Try.prog 141 #[.pointer (some g.p)] [gfR g] (one (fun v ch => ∃ Bs : Addr, v = .func (.func 168) #[] #[.pointer (some Bs)] ∧ ch = blk Bs 25 [.pointer (some g.p)])) := by
 refine pure_of (args := [.pointer (some g.p)]) 4 Try.func141 rfl rfl rfl gf_Elements_ent ⟨id, trivial⟩ (fun w0 => ?_)
 refine tS ?_
 refine tR fun _ _ _ => ?_
 refine eV (eBox rfl rfl rfl rfl rfl (fun p0 => ?_))
 refine pV ?_
 refine tS ?_
 refine tR fun _ _ _ => ?_
 refine sV (rFun rfl rfl rfl) ?_
 refine pV ?_
 exact tr_ret ⟨trivial, _, _, rfl, ⟨_, rfl, p0, rfl, rfl⟩, cs _ _, trivial, trivial⟩
end Go.Proofs.Ytbhoeaijpnjgdaa

namespace Go.Proofs.Ytbhoeaijpnjgdaa
end Go.Proofs.Ytbhoeaijpnjgdaa

set_option maxRecDepth 100000
namespace Go.Proofs.Ytbhoeaijpnjgdaa
open Go.RowKit
end Go.Proofs.Ytbhoeaijpnjgdaa

set_option maxRecDepth 100000
namespace Go.Proofs.Ytbhoeaijpnjgdaa
open Go.RowKit
theorem take_eq_next {α : Type} (d : α) (a b : List α) {k : Nat} (hl : a.length = b.length) (hk : k < a.length) (h : a.take k = b.take k) (he : a.getD k d = b.getD k d) : a.take (k + 1) = b.take (k + 1) := by
 rw [List.take_add_one, List.take_add_one, h, List.getElem?_eq_getElem hk, List.getElem?_eq_getElem (show k < b.length by omega)]
 rw [List.getD_eq_getElem?_getD, List.getElem?_eq_getElem hk, List.getD_eq_getElem?_getD, List.getElem?_eq_getElem (show k < b.length by omega)] at he
 simp only [Option.getD_some] at he
 rw [he]
end Go.Proofs.Ytbhoeaijpnjgdaa

namespace Go.Proofs.Ytbhoeaijpnjgdaa
namespace Rg
section
variable {R : Type} [Rg R]
def nc : Nat → R
 | 0 => 0
 | 1 => 1
 | n + 2 => nc (n + 1) + 1
theorem nc_succ : ∀ n : Nat, (nc (n + 1) : R) = nc n + 1
 | 0 => (Rg.zero_add (1 : R)).symm
 | _ + 1 => rfl
def ic : Int → R
 | .ofNat n => nc n
 | .negSucc n => -(nc (n + 1))
@[reducible] def grindOf (n : Nat) : OfNat R n := match n with
 | 0 => Zero.toOfNat0
 | 1 => One.toOfNat1
 | n + 2 => ⟨nc (n + 2)⟩
theorem of_nc : ∀ n : Nat, (@OfNat.ofNat R n (grindOf n)) = nc n
 | 0 => rfl
 | 1 => rfl
 | _ + 2 => rfl
instance (priority := low) grindSemi : Lean.Grind.Semiring R where
 natCast := ⟨nc⟩
 ofNat := grindOf
 nsmul := ⟨fun n a => nc n * a⟩
 npow := ⟨fun a n => Rg.pow a n⟩
 add_zero := Rg.add_zero
 add_comm := Rg.add_comm
 add_assoc := Rg.add_assoc
 mul_assoc := Rg.mul_assoc
 mul_one := Rg.mul_one
 one_mul := Rg.one_mul
 left_distrib := Rg.mul_add
 right_distrib := Rg.add_mul
 zero_mul := Rg.zero_mul
 mul_zero := Rg.mul_zero
 pow_zero := fun _ => rfl
 pow_succ := fun _ _ => rfl
 ofNat_succ := fun n => by rw [of_nc, of_nc]; exact nc_succ n
 ofNat_eq_natCast := fun n => of_nc n
 nsmul_eq_natCast_mul := fun _ _ => rfl
theorem ic_neg : ∀ i : Int, (ic (-i) : R) = -ic i
 | .ofNat 0 => (Rg.neg_zero (R := R)).symm
 | .ofNat (_ + 1) => rfl
 | .negSucc n => (Rg.neg_neg (nc (n + 1) : R)).symm
instance (priority := low) grindRing : Lean.Grind.CommRing R where
 intCast := ⟨ic⟩
 zsmul := ⟨fun i a => ic i * a⟩
 neg_add_cancel := Rg.neg_add
 sub_eq_add_neg := fun _ _ => rfl
 neg_zsmul := fun i a => by show ic (-i) * a = -(ic i * a); rw [ic_neg, Rg.neg_mul]
 zsmul_natCast_eq_nsmul := fun _ _ => rfl
 intCast_ofNat := fun n => (of_nc n).symm
 intCast_neg := ic_neg
 mul_comm := Rg.mul_comm
end
end Rg
end Go.Proofs.Ytbhoeaijpnjgdaa

namespace Go.Proofs.Ytbhoeaijpnjgdaa
section
variable {p m : Int} {mod : List Int} [hF : IsF p m mod]
theorem cf_set (l : List Int) {k : Nat} (v : Int) (hk : k < l.length) (j : Nat) : (el ((l.set k v).getD j 0) : El p m mod) = if j = k then el v else el (l.getD j 0) := by
 rw [getD_set]
 by_cases h : k = j
 ·subst h; rw [if_pos ⟨rfl, hk⟩, if_pos rfl]
 ·rw [if_neg (by omega), if_neg (by omega)]
theorem pol_set (l : List Int) {k : Nat} (v : Int) (hk : k < l.length) : (pol (l.set k v) : Po (El p m mod)) = pol l + Po.mn (el v - el (l.getD k 0)) k := Po.ext fun j => by
 rw [Po.cf_add, cf_pol, cf_pol, Po.cf_mn, cf_set l v hk]
 by_cases h : j = k
 ·subst h; rw [if_pos rfl, if_pos rfl]; grind
 ·rw [if_neg h, if_neg h]; grind
theorem pol_set_add (l : List Int) {k : Nat} {v : Int} {d : El p m mod} (hk : k < l.length) (h : (el v : El p m mod) = el (l.getD k 0) + d) : (pol (l.set k v) : Po (El p m mod)) = pol l + Po.mn d k := by
 rw [pol_set l v hk, h]
 congr 2
 grind
theorem getD_take (l : List Int) (k j : Nat) : (l.take k).getD j 0 = if j < k then l.getD j 0 else 0 := by
 rw [List.getD_eq_getElem?_getD, List.getElem?_take]
 split
 ·rw [List.getD_eq_getElem?_getD]
 ·rfl
theorem pol_take_zero (l : List Int) : (pol (l.take 0) : Po (El p m mod)) = 0 := by rw [List.take_zero]; exact pol_nil
theorem pol_take_succ (l : List Int) (k : Nat) : (pol (l.take (k + 1)) : Po (El p m mod)) = pol (l.take k) + Po.mn (el (l.getD k 0)) k := Po.ext fun j => by
 rw [Po.cf_add, cf_pol, cf_pol, Po.cf_mn, getD_take, getD_take]
 by_cases h : j = k
 ·subst h
  rw [if_pos (by omega), if_neg (by omega), if_pos rfl, el_zero]
  grind
 ·by_cases h2 : j < k
  ·rw [if_pos (by omega), if_pos h2, if_neg h]; grind
  ·rw [if_neg (by omega), if_neg h2, if_neg h]; grind
theorem pol_rep (n : Nat) : (pol (List.replicate n 0) : Po (El p m mod)) = 0 := Po.ext fun j => by
 rw [cf_pol, show (List.replicate n (0 : Int)).getD j 0 = 0 by rw [List.getD_eq_getElem?_getD, List.getElem?_replicate]; split <;> rfl, el_zero]
 rfl
theorem il_map {f : Po (El p m mod)} {c : El p m mod} (hc : c ≠ 0) : (il f).map (fun y => (c * el y : El p m mod).1) = il (Po.C c * f) := ext_getD (by rw [List.length_map, il_length, il_length, Po.len_C_mul hc]) fun j => by
 rw [il_getD, Po.cf_C_mul, List.getD_eq_getElem?_getD, List.getElem?_map]
 by_cases hj : j < (il f).length
 ·rw [List.getElem?_eq_getElem hj]
  have h1 := il_getD f j
  rw [List.getD_eq_getElem?_getD, List.getElem?_eq_getElem hj, Option.getD_some] at h1
  rw [Option.map_some, Option.getD_some, h1, el_of]
 ·rw [List.getElem?_eq_none (by omega), Option.map_none, Option.getD_none]
  rw [il_length] at hj
  rw [Po.cf_ge (by omega), Rg.mul_zero]
  rfl
end
end Go.Proofs.Ytbhoeaijpnjgdaa

set_option maxRecDepth 100000
namespace Go.Proofs.Ytbhoeaijpnjgdaa
open Go.RowKit
theorem negI_in {p m : Int} (hp : 2 ≤ p) (x : Int) : inI (pw p m) (negI p m x) = negI p m x := inI_in (negI_bd hp x).1 (negI_bd hp x).2
theorem pow_pos1 {p : Int} (hp : 2 ≤ p) (k : Nat) : 1 ≤ p ^ k := by
 have : 0 < p ^ k := Int.pow_pos (by omega)
 omega
theorem wp_le {w p z q : Int} (hw : 1 ≤ w) (hp : 1 ≤ p) (hz : 1 ≤ z) (h : w * p * z = q) : 1 ≤ w * p ∧ w * p ≤ q := by
 have h1 : 0 < w * p := Int.mul_pos (by omega) (by omega)
 have h2 : w * p * 1 ≤ w * p * z := Int.mul_le_mul_of_nonneg_left hz (by omega)
 omega
theorem le_wp {w z q : Int} (hw : 1 ≤ w) (hz : 1 ≤ z) (h : w * z = q) : z ≤ q := by
 have h1 : 1 * z ≤ w * z := Int.mul_le_mul_of_nonneg_right hw (by omega)
 omega
theorem ltEq {a b c : Int} (h : a < b) (e : b = c) : a < c := by omega
theorem digit_w {d p w q : Int} (h0 : 0 ≤ d) (h1 : d < p) (hw : 1 ≤ w) (h : w * p ≤ q) : 0 ≤ d * w ∧ d * w ≤ q := by
 have h2 : d * w ≤ p * w := Int.mul_le_mul_of_nonneg_right (by omega) (by omega)
 have h3 : 0 ≤ d * w := Int.mul_nonneg h0 (by omega)
 rw [Int.mul_comm p w] at h2
 omega
theorem gf_Add_ent : Enters Try.prog 122 := enters_of Try.func122 (by kernel_rfl) (by kernel_rfl)
theorem gf_Add (g : GfM) (p m : Int) (mod : List Int) (hg : GOk g p m mod) (x y : Int) :
  Pure Try.prog 122 #[.pointer (some g.p), .int .i64 x, .int .i64 y] [gfR g] (isV (.int .i64 (addI p m (inI g.q x) (inI g.q y)))) := by
 obtain rfl := hg.eP
 have hq := hg.q2
 have hel := hg.elen
 have hll := hg.llen'
 have heq := hg.eq
 have hp2 := hg.shp.1.p2
 have hp9 := hg.shp.1.p9
 have hxb := inI_bd (q := g.q) (by omega) x
 have hyb := inI_bd (q := g.q) (by omega) y
 have htb := addI_bd (m := m) hp2 (inI g.q x) (inI g.q y)
 have hrec := addI_rec g.P m (inI g.q x) (inI g.q y)
 refine pure_of (args := [.pointer (some g.p), .int .i64 x, .int .i64 y]) 77 Try.func122 rfl rfl rfl gf_Add_ent ⟨id, trivial⟩ (fun w0 => ?_)
 refine tS ?_
 refine tR fun _ _ _ => ?_
 refine pV ?_
 refine tS ?_
 refine tR fun _ _ _ => ?_
 iterate 2 refine pV ?_
 refine eV (eCallV rfl rfl rfl (gf_in _ _) ⟨rfl, rfl, trivial⟩ ?_)
 iterate 2 refine pV ?_
 refine eV (eCallV rfl rfl rfl (gf_in _ _) ⟨rfl, rfl, trivial⟩ ?_)
 iterate 2 refine pV ?_
 refine tS ?_
 refine tS ?_
 refine tR fun _ _ _ => ?_
 refine pV ?_
 refine sV (rNil rfl rfl) ?_
 refine sV (rFld rfl rfl) ?_
 refine sV (rFldN rfl rfl) ?_
 refine sV (rLdF rfl rfl rfl) ?_
 refine pV ?_
 refine tC rfl (fun h2 => ?_) (fun h2 => ?_)
 ·try simp only [zbA] at h2
  refine tS ?_
  have h2x := addI_two (m := m) (x := inI g.q x) (y := inI g.q y)
  refine tR fun _ _ _ => ?_
  iterate 2 refine pV ?_
  refine sV (rXor rfl rfl rfl (by omega) (by omega)) ?_
  refine pV ?_
  exact tr_ret ⟨trivial, _, _, rfl, ⟨by rw [← h2x (by rw [← h2, ← heq]; exact hxb) (by rw [← h2, ← heq]; exact hyb), h2], rfl⟩, CSub.nil _, trivial⟩
 ·try simp only [zbA] at h2
  refine tK ?_
  refine tS ?_
  refine tR fun _ _ _ => ?_
  iterate 2 refine pV ?_
  refine tS ?_
  refine tB ?_
  refine tr_loop5 (fun (k : Nat) (a : Int) (b : Int) (s : Int) (w : Int) => [(0, .pointer (some g.p)), (1, .int .i64 a), (2, .int .i64 b), (7, .int .i64 s), (8, .int .i64 w)]) (fun (k : Nat) (a : Int) (b : Int) (s : Int) (w : Int) => [gfR g]) (fun (k : Nat) (a : Int) (b : Int) (s : Int) (w : Int) => (0 ≤ a ∧ a < g.P ^ k) ∧ (0 ≤ b ∧ b < g.P ^ k) ∧ 0 ≤ s ∧ 1 ≤ w ∧ w * g.P ^ k = g.q ∧ s + w * addD g.P k a b = addI g.P m (inI g.q x) (inI g.q y)) (fun (k : Nat) (a : Int) (b : Int) (s : Int) (w : Int) => k) (m.toNat) (inI g.q x) (inI g.q y) (0) (1) ⟨rfl, rfl, rfl, rfl, rfl, trivial⟩ (by first | exact cs _ _ | exact CSub.refl _) (⟨⟨hxb.1, ltEq hxb.2 heq⟩, ⟨hyb.1, ltEq hyb.2 heq⟩, by omega, by omega, by rw [Int.one_mul, heq]; rfl, by rw [Int.one_mul, Int.zero_add, hrec]⟩) (fun k a b s w hI => ?_)
  obtain ⟨⟨ha0, ha1⟩, ⟨hb0, hb1⟩, hs0, hw1, hw, hs⟩ := hI
  refine tS ?_
  refine tS ?_
  refine tR fun _ _ _ => ?_
  iterate 3 refine pV ?_
  refine stg rfl rfl rfl rfl rfl (fun hb => by (have hq := hb; try simp only [zbA] at hq); exact rMove rfl rfl) ?_
  refine stg rfl rfl rfl rfl rfl (fun hb => by (have hq := hb; try simp only [zbA] at hq); exact rGtr rfl (evg rfl hb) rfl) ?_
  refine sV (rOrB rfl rfl rfl rfl) ?_
  refine tC rfl (fun h5 => ?_) (fun h5 => ?_)
  ·try simp only [zbA] at h5
   refine tK ?_
   refine tB ?_
   refine tS ?_
   have hk0 : k ≠ 0 := fun e => by
    subst e
    simp only [Int.pow_zero] at ha1 hb1
    omega
   obtain ⟨j, rfl⟩ : ∃ j, k = j + 1 := ⟨k - 1, by omega⟩
   have hpj := pow_pos1 hp2 j
   have hwq : w * g.P * g.P ^ j = g.q := by rw [← hw, Int.pow_succ, Int.mul_assoc, Int.mul_comm g.P]
   have hwp := wp_le hw1 (by omega) hpj hwq
   have hpq := le_wp hw1 (pow_pos1 hp2 (j + 1)) hw
   have e0 := Int.emod_nonneg a (show g.P ≠ 0 by omega)
   have e1 := Int.emod_lt_of_pos a (show 0 < g.P by omega)
   have e2 := Int.emod_nonneg b (show g.P ≠ 0 by omega)
   have e3 := Int.emod_lt_of_pos b (show 0 < g.P by omega)
   have e4 := Int.emod_nonneg (a % g.P + b % g.P) (show g.P ≠ 0 by omega)
   have e5 := Int.emod_lt_of_pos (a % g.P + b % g.P) (show 0 < g.P by omega)
   have hdw := digit_w e4 e5 hw1 hwp.2
   have had := addD_bd hp2 (j + 1) a b
   have hwa := Int.mul_nonneg (show 0 ≤ w by omega) had.1
   refine tr_draw [0, 1, 2, 3, 4, 5, 6, 7, 8, 9, 10, 11, 12, 13, 14, 15, 16, 17, 18, 19, 20, 21, 22, 23, 24, 25] [] mixed (by kernel_rfl) fun _ _ _ => ?_
   iterate 3 refine pV ?_
   refine sV (rNil rfl rfl) ?_
   refine sV (rFld rfl rfl) ?_
   refine sV (rFldN rfl rfl) ?_
   refine sV (rLdF rfl rfl rfl) ?_
   refine sV (rRem rfl rfl rfl (by omega) (by omega)) ?_
   iterate 2 refine pV ?_
   refine sV (rNil rfl rfl) ?_
   refine sV (rFld rfl rfl) ?_
   refine sV (rFldN rfl rfl) ?_
   refine sV (rLdF rfl rfl rfl) ?_
   refine sV (rRem rfl rfl rfl (by omega) (by omega)) ?_
   refine sV (rAdd rfl rfl rfl (by omega) (by omega)) ?_
   refine pV ?_
   refine sV (rNil rfl rfl) ?_
   refine sV (rFld rfl rfl) ?_
   refine sV (rFldN rfl rfl) ?_
   refine sV (rLdF rfl rfl rfl) ?_
   refine sV (rRem rfl rfl rfl (by omega) (by omega)) ?_
   refine pV ?_
   refine sV (rMul rfl rfl rfl (by omega) (by omega)) ?_
   refine sV (rAdd rfl rfl rfl (by omega) (by omega)) ?_
   refine pV ?_
   refine tS ?_
   refine tR fun _ _ _ => ?_
   iterate 2 refine pV ?_
   refine sV (rNil rfl rfl) ?_
   refine sV (rFld rfl rfl) ?_
   refine sV (rFldN rfl rfl) ?_
   refine sV (rLdF rfl rfl rfl) ?_
   refine sV (rMul rfl rfl rfl (by omega) (by omega)) ?_
   refine pV ?_
   refine tS ?_
   refine tR fun _ _ _ => ?_
   iterate 2 refine pV ?_
   refine sV (rNil rfl rfl) ?_
   refine sV (rFld rfl rfl) ?_
   refine sV (rFldN rfl rfl) ?_
   refine sV (rLdF rfl rfl rfl) ?_
   refine sV (rQuo rfl rfl rfl (by omega) (by omega)) ?_
   refine pV ?_
   refine tR fun _ _ _ => ?_
   iterate 2 refine pV ?_
   refine sV (rNil rfl rfl) ?_
   refine sV (rFld rfl rfl) ?_
   refine sV (rFldN rfl rfl) ?_
   refine sV (rLdF rfl rfl rfl) ?_
   refine sV (rQuo rfl rfl rfl (by omega) (by omega)) ?_
   refine pV ?_
   refine ⟨j, a / g.P, b / g.P, s + (a % g.P + b % g.P) % g.P * w, w * g.P, ⟨rfl, rfl, rfl, rfl, rfl, trivial⟩, by first | exact cs _ _ | exact CSub.refl _, ?_⟩
   refine ⟨⟨⟨Int.ediv_nonneg ha0 (by omega), ediv_lt_pow hp2 ha1⟩, ⟨Int.ediv_nonneg hb0 (by omega), ediv_lt_pow hp2 hb1⟩, by omega, by omega, hwq, ?_⟩, by omega⟩
   rw [← hs, addD]
   grind
  ·try simp only [zbA] at h5
   skip
   refine tE ?_
   refine tS ?_
   refine tR fun _ _ _ => ?_
   iterate 2 refine pV ?_
   have ha00 : a = 0 := by omega
   have hb00 : b = 0 := by omega
   subst ha00 hb00
   rw [addD_zero, Int.mul_zero, Int.add_zero] at hs
   exact tr_ret ⟨trivial, _, _, rfl, ⟨by rw [hs], rfl⟩, CSub.nil _, trivial⟩
theorem gf_Neg_ent : Enters Try.prog 72 := enters_of Try.func72 (by kernel_rfl) (by kernel_rfl)
theorem gf_Neg (g : GfM) (p m : Int) (mod : List Int) (hg : GOk g p m mod) (x : Int) :
  Pure Try.prog 72 #[.pointer (some g.p), .int .i64 x] [gfR g] (isV (.int .i64 (negI p m (inI g.q x)))) := by
 obtain rfl := hg.eP
 have hq := hg.q2
 have hel := hg.elen
 have hll := hg.llen'
 have heq := hg.eq
 have hp2 := hg.shp.1.p2
 have hp9 := hg.shp.1.p9
 have hxb := inI_bd (q := g.q) (by omega) x
 have htb := negI_bd (m := m) hp2 (inI g.q x)
 have hrec := negI_rec hp2 m (inI g.q x)
 refine pure_of (args := [.pointer (some g.p), .int .i64 x]) 50 Try.func72 rfl rfl rfl gf_Neg_ent ⟨id, trivial⟩ (fun w0 => ?_)
 refine tS ?_
 refine tR fun _ _ _ => ?_
 refine pV ?_
 refine tS ?_
 refine tR fun _ _ _ => ?_
 iterate 2 refine pV ?_
 refine eV (eCallV rfl rfl rfl (gf_in _ _) ⟨rfl, rfl, trivial⟩ ?_)
 refine pV ?_
 refine tS ?_
 refine tR fun _ _ _ => ?_
 iterate 2 refine pV ?_
 refine tS ?_
 refine tB ?_
 refine tr_loop4 (fun (k : Nat) (a : Int) (s : Int) (w : Int) => [(0, .pointer (some g.p)), (1, .int .i64 a), (5, .int .i64 s), (6, .int .i64 w)]) (fun (k : Nat) (a : Int) (s : Int) (w : Int) => [gfR g]) (fun (k : Nat) (a : Int) (s : Int) (w : Int) => (0 ≤ a ∧ a < g.P ^ k) ∧ 0 ≤ s ∧ 1 ≤ w ∧ w * g.P ^ k = g.q ∧ s + w * negD g.P k a = negI g.P m (inI g.q x)) (fun (k : Nat) (a : Int) (s : Int) (w : Int) => k) (m.toNat) (inI g.q x) (0) (1) ⟨rfl, rfl, rfl, rfl, trivial⟩ (by first | exact cs _ _ | exact CSub.refl _) (⟨⟨hxb.1, ltEq hxb.2 heq⟩, by omega, by omega, by rw [Int.one_mul, heq]; rfl, by rw [Int.one_mul, Int.zero_add, hrec]⟩) (fun k a s w hI => ?_)
 obtain ⟨⟨ha0, ha1⟩, hs0, hw1, hw, hs⟩ := hI
 refine tS ?_
 refine tS ?_
 refine tR fun _ _ _ => ?_
 iterate 2 refine pV ?_
 refine tC rfl (fun h3 => ?_) (fun h3 => ?_)
 ·try simp only [zbA] at h3
  refine tK ?_
  refine tB ?_
  refine tS ?_
  have hk0 : k ≠ 0 := fun e => by
   subst e
   simp only [Int.pow_zero] at ha1
   omega
  obtain ⟨j, rfl⟩ : ∃ j, k = j + 1 := ⟨k - 1, by omega⟩
  have hpj := pow_pos1 hp2 j
  have hwq : w * g.P * g.P ^ j = g.q := by rw [← hw, Int.pow_succ, Int.mul_assoc, Int.mul_comm g.P]
  have hwp := wp_le hw1 (by omega) hpj hwq
  have hpq := le_wp hw1 (pow_pos1 hp2 (j + 1)) hw
  have e0 := Int.emod_nonneg a (show g.P ≠ 0 by omega)
  have e1 := Int.emod_lt_of_pos a (show 0 < g.P by omega)
  have e4 := Int.emod_nonneg (g.P - a % g.P) (show g.P ≠ 0 by omega)
  have e5 := Int.emod_lt_of_pos (g.P - a % g.P) (show 0 < g.P by omega)
  have hdw := digit_w e4 e5 hw1 hwp.2
  have had := negD_bd hp2 (j + 1) a
  have hwa := Int.mul_nonneg (show 0 ≤ w by omega) had.1
  refine tr_draw [0, 1, 2, 3, 4, 5, 6, 7, 8, 9, 10, 11, 12, 13, 14, 15, 16, 17, 18, 19, 20, 21, 22, 23] [] mixed (by kernel_rfl) fun _ _ _ => ?_
  iterate 2 refine pV ?_
  refine sV (rNil rfl rfl) ?_
  refine sV (rFld rfl rfl) ?_
  refine sV (rFldN rfl rfl) ?_
  refine sV (rLdF rfl rfl rfl) ?_
  iterate 2 refine pV ?_
  refine sV (rNil rfl rfl) ?_
  refine sV (rFld rfl rfl) ?_
  refine sV (rFldN rfl rfl) ?_
  refine sV (rLdF rfl rfl rfl) ?_
  refine sV (rRem rfl rfl rfl (by omega) (by omega)) ?_
  refine sV (rSub rfl rfl rfl (by omega) (by omega)) ?_
  refine pV ?_
  refine sV (rNil rfl rfl) ?_
  refine sV (rFld rfl rfl) ?_
  refine sV (rFldN rfl rfl) ?_
  refine sV (rLdF rfl rfl rfl) ?_
  refine sV (rRem rfl rfl rfl (by omega) (by omega)) ?_
  refine pV ?_
  refine sV (rMul rfl rfl rfl (by omega) (by omega)) ?_
  refine sV (rAdd rfl rfl rfl (by omega) (by omega)) ?_
  refine pV ?_
  refine tS ?_
  refine tR fun _ _ _ => ?_
  iterate 2 refine pV ?_
  refine sV (rNil rfl rfl) ?_
  refine sV (rFld rfl rfl) ?_
  refine sV (rFldN rfl rfl) ?_
  refine sV (rLdF rfl rfl rfl) ?_
  refine sV (rMul rfl rfl rfl (by omega) (by omega)) ?_
  refine pV ?_
  refine tR fun _ _ _ => ?_
  iterate 2 refine pV ?_
  refine sV (rNil rfl rfl) ?_
  refine sV (rFld rfl rfl) ?_
  refine sV (rFldN rfl rfl) ?_
  refine sV (rLdF rfl rfl rfl) ?_
  refine sV (rQuo rfl rfl rfl (by omega) (by omega)) ?_
  refine pV ?_
  refine ⟨j, a / g.P, s + (g.P - a % g.P) % g.P * w, w * g.P, ⟨rfl, rfl, rfl, rfl, trivial⟩, by first | exact cs _ _ | exact CSub.refl _, ?_⟩
  refine ⟨⟨⟨Int.ediv_nonneg ha0 (by omega), ediv_lt_pow hp2 ha1⟩, by omega, by omega, hwq, ?_⟩, by omega⟩
  rw [← hs, negD]
  grind
 ·try simp only [zbA] at h3
  refine tE ?_
  refine tS ?_
  refine tR fun _ _ _ => ?_
  iterate 2 refine pV ?_
  have ha00 : a = 0 := by omega
  subst ha00
  rw [negD_zero, Int.mul_zero, Int.add_zero] at hs
  exact tr_ret ⟨trivial, _, _, rfl, ⟨by rw [hs], rfl⟩, CSub.nil _, trivial⟩
theorem gf_Sub_ent : Enters Try.prog 70 := enters_of Try.func70 (by kernel_rfl) (by kernel_rfl)
theorem gf_Sub (g : GfM) (p m : Int) (mod : List Int) (hg : GOk g p m mod) (x y : Int) :
  Pure Try.prog 70 #[.pointer (some g.p), .int .i64 x, .int .i64 y] [gfR g] (isV (.int .i64 (addI p m (inI g.q x) (negI p m (inI g.q y))))) := by
 refine pure_of (args := [.pointer (some g.p), .int .i64 x, .int .i64 y]) 13 Try.func70 rfl rfl rfl gf_Sub_ent ⟨id, trivial⟩ (fun w0 => ?_)
 refine tS ?_
 refine tR fun _ _ _ => ?_
 refine pV ?_
 refine tS ?_
 refine tR fun _ _ _ => ?_
 iterate 4 refine pV ?_
 refine eV (eCallV rfl rfl rfl (gf_Neg g p m mod hg _) ⟨rfl, rfl, trivial⟩ ?_)
 refine eV (eCallV rfl rfl rfl (gf_Add g p m mod hg _ _) ⟨rfl, rfl, rfl, trivial⟩ ?_)
 refine pV ?_
 exact tr_ret ⟨trivial, _, _, rfl, ⟨by rw [hg.eq, negI_in hg.shp.1.p2], rfl⟩, CSub.nil _, trivial⟩
theorem gf_Mul_ent : Enters Try.prog 71 := enters_of Try.func71 (by kernel_rfl) (by kernel_rfl)
theorem gf_Mul (g : GfM) (p m : Int) (mod : List Int) (hg : GOk g p m mod) (x y : Int) :
  Pure Try.prog 71 #[.pointer (some g.p), .int .i64 x, .int .i64 y] [gfR g] (isV (.int .i64 (mulI p m mod (inI g.q x) (inI g.q y)))) := by
 obtain rfl := hg.eP
 have hq := hg.q2
 have hel := hg.elen
 have hll := hg.llen'
 have heq := hg.eq
 have hp2 := hg.shp.1.p2
 have hp9 := hg.shp.1.p9
 have hxb := inI_bd (q := g.q) (by omega) x
 have hyb := inI_bd (q := g.q) (by omega) y
 refine pure_of (args := [.pointer (some g.p), .int .i64 x, .int .i64 y]) 46 Try.func71 rfl rfl rfl gf_Mul_ent ⟨id, trivial⟩ (fun w0 => ?_)
 refine tS ?_
 refine tR fun _ _ _ => ?_
 refine pV ?_
 refine tS ?_
 refine tR fun _ _ _ => ?_
 iterate 2 refine pV ?_
 refine eV (eCallV rfl rfl rfl (gf_in _ _) ⟨rfl, rfl, trivial⟩ ?_)
 iterate 2 refine pV ?_
 refine eV (eCallV rfl rfl rfl (gf_in _ _) ⟨rfl, rfl, trivial⟩ ?_)
 iterate 2 refine pV ?_
 refine tS ?_
 refine tS ?_
 refine tR fun _ _ _ => ?_
 iterate 3 refine pV ?_
 refine stg rfl rfl rfl rfl rfl (fun hb => by (have hq := hb; try simp only [zbA] at hq); exact rMove rfl rfl) ?_
 refine stg rfl rfl rfl rfl rfl (fun hb => by (have hq := hb; try simp only [zbA] at hq); exact rEql rfl (evg rfl hb) rfl) ?_
 refine sV (rOrB rfl rfl rfl rfl) ?_
 refine tC rfl (fun h2 => ?_) (fun h2 => ?_)
 ·try simp only [zbA] at h2
  refine tS ?_
  refine tR fun _ _ _ => ?_
  refine pV ?_
  exact tr_ret ⟨trivial, _, _, rfl, ⟨by
   rcases h2 with h | h
   ·rw [h, mulI_zero hg.shp.1]
   ·rw [h, mulI_comm hg.shp.1, mulI_zero hg.shp.1], rfl⟩, CSub.nil _, trivial⟩
 ·try simp only [zbA] at h2
  refine tK ?_
  refine tS ?_
  have hlx := hg.log_spec (y := inI g.q x) (by omega) (by omega)
  have hly := hg.log_spec (y := inI g.q y) (by omega) (by omega)
  have e0 := Int.emod_nonneg (g.log.getD (inI g.q x).toNat 0 + g.log.getD (inI g.q y).toNat 0) (show g.q - 1 ≠ 0 by omega)
  have e1 := Int.emod_lt_of_pos (g.log.getD (inI g.q x).toNat 0 + g.log.getD (inI g.q y).toNat 0) (show 0 < g.q - 1 by omega)
  refine tr_draw [0, 1, 2, 3, 4, 5, 6, 7, 8, 9, 10, 11, 12, 13, 14, 15, 16, 17, 18, 19, 20, 21, 22, 23, 24, 25, 26, 27] [] mixed (by kernel_rfl) fun _ _ _ => ?_
  refine pV ?_
  refine sV (rNil rfl rfl) ?_
  refine sV (rFld rfl rfl) ?_
  refine sV (rLdF rfl rfl rfl) ?_
  refine pV ?_
  refine sV (rNil rfl rfl) ?_
  refine sV (rFld rfl rfl) ?_
  refine sV (rLdF rfl rfl rfl) ?_
  refine pV ?_
  refine sV (rIdxI rfl rfl rfl (by omega) (by omega) (by omega)) ?_
  refine sV (rLdI rfl rfl (by omega)) ?_
  refine pV ?_
  refine sV (rNil rfl rfl) ?_
  refine sV (rFld rfl rfl) ?_
  refine sV (rLdF rfl rfl rfl) ?_
  refine pV ?_
  refine sV (rIdxI rfl rfl rfl (by omega) (by omega) (by omega)) ?_
  refine sV (rLdI rfl rfl (by omega)) ?_
  refine sV (rAdd rfl rfl rfl (by omega) (by omega)) ?_
  refine pV ?_
  refine sV (rNil rfl rfl) ?_
  refine sV (rFld rfl rfl) ?_
  refine sV (rLdF rfl rfl rfl) ?_
  refine sV (rSub rfl rfl rfl (by omega) (by omega)) ?_
  refine sV (rRem rfl rfl rfl (by omega) (by omega)) ?_
  refine sV (rIdxI rfl rfl rfl (by omega) (by omega) (by omega)) ?_
  refine sV (rLdI rfl rfl (by omega)) ?_
  refine pV ?_
  exact tr_ret ⟨trivial, _, _, rfl, ⟨by rw [hg.mul ⟨by omega, by omega⟩ ⟨by omega, by omega⟩], rfl⟩, CSub.nil _, trivial⟩
theorem gf_Inv_ent : Enters Try.prog 146 := enters_of Try.func146 (by kernel_rfl) (by kernel_rfl)
theorem gf_Inv (g : GfM) (p m : Int) (mod : List Int) (hg : GOk g p m mod) (x : Int) :
  Pure Try.prog 146 #[.pointer (some g.p), .int .i64 x] [gfR g] (isV (if inI g.q x = 0 then .tuple #[.int .i64 0, .int .i64 7] else .tuple #[.int .i64 (invI p m mod (inI g.q x)), .int .i64 0])) := by
 obtain rfl := hg.eP
 have hq := hg.q2
 have hel := hg.elen
 have hll := hg.llen'
 have heq := hg.eq
 have hp2 := hg.shp.1.p2
 have hp9 := hg.shp.1.p9
 have hxb := inI_bd (q := g.q) (by omega) x
 refine pure_of (args := [.pointer (some g.p), .int .i64 x]) 36 Try.func146 rfl rfl rfl gf_Inv_ent ⟨id, trivial⟩ (fun w0 => ?_)
 refine tS ?_
 refine tR fun _ _ _ => ?_
 iterate 2 refine pV ?_
 refine tS ?_
 refine tR fun _ _ _ => ?_
 iterate 2 refine pV ?_
 refine eV (eCallV rfl rfl rfl (gf_in _ _) ⟨rfl, rfl, trivial⟩ ?_)
 refine pV ?_
 refine tS ?_
 refine tS ?_
 refine tR fun _ _ _ => ?_
 iterate 2 refine pV ?_
 refine tC rfl (fun h2 => ?_) (fun h2 => ?_)
 ·try simp only [zbA] at h2
  refine tS ?_
  refine tR fun _ _ _ => ?_
  iterate 2 refine pV ?_
  exact tr_ret ⟨trivial, _, _, rfl, ⟨by rw [if_pos h2], rfl⟩, CSub.nil _, trivial⟩
 ·try simp only [zbA] at h2
  refine tK ?_
  refine tS ?_
  have hlx := hg.log_spec (y := inI g.q x) (by omega) (by omega)
  have e0 := Int.emod_nonneg (g.q - 1 - g.log.getD (inI g.q x).toNat 0) (show g.q - 1 ≠ 0 by omega)
  have e1 := Int.emod_lt_of_pos (g.q - 1 - g.log.getD (inI g.q x).toNat 0) (show 0 < g.q - 1 by omega)
  refine tr_draw [0, 1, 2, 3, 4, 5, 6, 7, 8, 9, 10, 11, 12, 13, 14, 15, 16, 17, 18, 19, 20, 21, 22, 23, 24, 25, 26] [] mixed (by kernel_rfl) fun _ _ _ => ?_
  refine pV ?_
  refine sV (rNil rfl rfl) ?_
  refine sV (rFld rfl rfl) ?_
  refine sV (rLdF rfl rfl rfl) ?_
  refine pV ?_
  refine sV (rNil rfl rfl) ?_
  refine sV (rFld rfl rfl) ?_
  refine sV (rLdF rfl rfl rfl) ?_
  refine sV (rSub rfl rfl rfl (by omega) (by omega)) ?_
  refine pV ?_
  refine sV (rNil rfl rfl) ?_
  refine sV (rFld rfl rfl) ?_
  refine sV (rLdF rfl rfl rfl) ?_
  refine pV ?_
  refine sV (rIdxI rfl rfl rfl (by omega) (by omega) (by omega)) ?_
  refine sV (rLdI rfl rfl (by omega)) ?_
  refine sV (rSub rfl rfl rfl (by omega) (by omega)) ?_
  refine pV ?_
  refine sV (rNil rfl rfl) ?_
  refine sV (rFld rfl rfl) ?_
  refine sV (rLdF rfl rfl rfl) ?_
  refine sV (rSub rfl rfl rfl (by omega) (by omega)) ?_
  refine sV (rRem rfl rfl rfl (by omega) (by omega)) ?_
  refine sV (rIdxI rfl rfl rfl (by omega) (by omega) (by omega)) ?_
  refine sV (rLdI rfl rfl (by omega)) ?_
  iterate 2 refine pV ?_
  exact tr_ret ⟨trivial, _, _, rfl, ⟨by rw [if_neg h2, hg.inv ⟨by omega, by omega⟩], rfl⟩, CSub.nil _, trivial⟩
theorem gf_Scale_ent : Enters Try.prog 120 := enters_of Try.func120 (by kernel_rfl) (by kernel_rfl)
theorem gf_Scale (g : GfM) (p m : Int) (mod : List Int) (hg : GOk g p m mod) (x : Int) (A : Option Addr) (n c : Nat) (l : List Int) (hn : n = l.length) (h9 : l.length ≤ 17592186044415) :
  Pure Try.prog 120 #[.pointer (some g.p), .int .i64 x, .slice A n c] [gfR g, ro A (ints l)] (one (fun v ch => ∃ B, v = .slice B l.length l.length ∧ ch = ow B 3 l.length (ints (l.map fun y => mulI p m mod (inI g.q x) (inI g.q y))))) := by
 refine pure_of (args := [.pointer (some g.p), .int .i64 x, .slice A n c]) 29 Try.func120 rfl rfl rfl gf_Scale_ent ⟨id, id, trivial⟩ (fun w0 => ?_)
 refine tS ?_
 refine tR fun _ _ _ => ?_
 refine pV ?_
 refine tS ?_
 refine tR fun _ _ _ => ?_
 refine pV ?_
 refine sV (rLen rfl rfl) ?_
 refine eV (eMakeI rfl rfl rfl rfl rfl (by omega) (by omega) (by omega) (fun A1 => ?_))
 refine pV ?_
 refine tS ?_
 refine tS ?_
 refine tR fun _ _ _ => ?_
 refine pV ?_
 refine sV (rLen rfl rfl) ?_
 refine pV ?_
 refine tB ?_
 refine tr_loop2 (fun (k : Int) (o : List Int) => [(0, .pointer (some g.p)), (1, .int .i64 x), (7, .slice A1 n n), (13, .slice A n c), (14, .int .i64 n), (15, .int .i64 k)]) (fun (k : Int) (o : List Int) => [ow A1 3 n (ints o), gfR g, ro A (ints l)]) (fun (k : Int) (o : List Int) => (0 ≤ k ∧ k ≤ n) ∧ o.length = n ∧ ∀ j : Nat, (j : Int) < k → o.getD j 0 = mulI p m mod (inI g.q x) (inI g.q (l.getD j 0))) (fun (k : Int) (o : List Int) => (n - k).toNat) (0) (List.replicate n 0) ⟨rfl, rfl, rfl, rfl, rfl, rfl, trivial⟩ (by first | exact cs _ _ | exact CSub.refl _) (⟨⟨by omega, by omega⟩, by simp, fun j hj => by omega⟩) (fun k o hI => ?_)
 obtain ⟨hk, hol, ho⟩ := hI
 refine tS ?_
 refine tR fun _ _ _ => ?_
 refine pV ?_
 refine tS ?_
 refine tC rfl (fun h3 => ?_) (fun h3 => ?_)
 ·try simp only [zbA] at h3
  refine tK ?_
  refine tS ?_
  refine tB ?_
  refine tS ?_
  refine tR fun _ _ _ => ?_
  refine pV ?_
  refine sV (rIdxI rfl rfl rfl (by omega) (by omega) (by omega)) ?_
  refine sV (rLdI rfl rfl (by omega)) ?_
  iterate 2 refine pV ?_
  refine tR fun _ _ _ => ?_
  iterate 5 refine pV ?_
  refine eV (eCallV rfl rfl rfl (gf_Mul g p m mod hg _ _) ⟨rfl, rfl, rfl, trivial⟩ ?_)
  refine sV (rIdxI rfl rfl rfl (by omega) (by omega) (by omega)) ?_
  refine eV (eStI rfl rfl rfl rfl (by omega) ?_)
  refine tR fun _ _ _ => ?_
  refine sV (rAdd rfl rfl rfl (by omega) (by omega)) ?_
  refine pV ?_
  refine ⟨k + 1, o.set k.toNat (mulI p m mod (inI g.q x) (inI g.q (l.getD k.toNat 0))), ⟨rfl, rfl, rfl, rfl, rfl, rfl, trivial⟩, by first | exact cs _ _ | exact CSub.refl _, ?_⟩
  refine ⟨⟨⟨by omega, by omega⟩, by simpa using hol, fun j hj => ?_⟩, by omega⟩
  rw [getD_set]
  by_cases he : k.toNat = j
  ·subst he; rw [if_pos ⟨rfl, by omega⟩]
  ·rw [if_neg (by omega)]; exact ho j (by omega)
 ·try simp only [zbA] at h3
  refine tE ?_
  refine tS ?_
  refine tR fun _ _ _ => ?_
  iterate 2 refine pV ?_
  have hm : o = l.map fun y => mulI p m mod (inI g.q x) (inI g.q y) := by
   refine List.ext_getElem (by simp; omega) fun j h1 h2 => ?_
   have := ho j (by omega)
   rw [List.getD_eq_getElem?_getD, List.getElem?_eq_getElem h1, List.getD_eq_getElem?_getD, List.getElem?_eq_getElem (show j < l.length by omega)] at this
   simpa using this
  rw [hm]
  subst hn
  exact tr_ret ⟨trivial, _, _, rfl, ⟨_, rfl, _, rfl, rfl⟩, cs _ _, trivial, trivial⟩
theorem ref_Neg_ent : Enters Try.prog 41 := enters_of Try.func41 (by kernel_rfl) (by kernel_rfl)
theorem ref_Neg (p m : Int) (A : Option Addr) (c : Nat) (mod : List Int) (hs : Shp p m mod) (x : Int) :
  Pure Try.prog 41 #[.agg #[.int .i64 p, .int .i64 m, .slice A mod.length c], .int .i64 x] [ro A (ints mod)] (isV (.int .i64 (negI p m (inI (ordI p m) x)))) := by
 have hp2 := hs.p2
 have hp9 := hs.p9
 have hm1 := hs.m1
 have hm8 := hs.m8
 have hqq := hs.q
 have hoq := hs.ord
 have hpm : p ^ m.toNat ≤ 256 := hqq
 have hal := digs_length p m.toNat (inI (ordI p m) x)
 have hai := digs_in (p := p) (by omega) m.toNat (inI (ordI p m) x)
 have hvt : ∀ c : List Int, AllIn p c → m.toNat ≤ c.length → vl p (c.take m.toNat) = rv p m.toNat (rl c) := fun c h1 h2 => vl_take hp2 h1 h2
 have hdef : negI p m (inI (ordI p m) x) = rv p m.toNat (Row.sm (-1) (rl (digs p m.toNat (inI (ordI p m) x)))) := rfl
 rw [hdef]
 generalize ha : digs p m.toNat (inI (ordI p m) x) = a at hal hai
 refine pure_of (args := [.agg #[.int .i64 p, .int .i64 m, .slice A mod.length c], .int .i64 x]) 32 Try.func41 rfl rfl rfl ref_Neg_ent ⟨id, trivial⟩ (fun w0 => ?_)
 refine tS ?_
 refine tR fun _ _ _ => ?_
 refine eV (eBox rfl rfl rfl rfl rfl (fun p0 => ?_))
 refine pV ?_
 refine tS ?_
 refine tR fun _ _ _ => ?_
 refine sV (rLdS rfl rfl rfl) ?_
 refine pV ?_
 refine eV (eCall1 rfl rfl rfl (ref_Digits _ _ _ _ _ hs _) ⟨rfl, rfl, trivial⟩ ?_)
 rintro _ _ ⟨B1, rfl, rfl⟩
 refine pV ?_
 rw [ha]
 refine tS ?_
 refine tS ?_
 refine tR fun _ _ _ => ?_
 refine pV ?_
 refine tB ?_
 refine tr_loop2 (fun (k : Int) (o : List Int) => [(2, .pointer (some p0)), (5, .slice B1 m.toNat m.toNat), (6, .int .i64 k)]) (fun (k : Int) (o : List Int) => [ow B1 3 m.toNat (ints o), blk p0 24 [.int .i64 p, .int .i64 m, .slice A mod.length c], ro A (ints mod)]) (fun (k : Int) (o : List Int) => (0 ≤ k ∧ k ≤ m) ∧ o.length = m.toNat ∧ AllIn p o ∧ (∀ j : Nat, (j : Int) < k → o.getD j 0 = (p - a.getD j 0) % p) ∧ ∀ j : Nat, k ≤ j → o.getD j 0 = a.getD j 0) (fun (k : Int) (o : List Int) => (m - k).toNat) (0) (a) ⟨rfl, rfl, rfl, trivial⟩ (by first | exact cs _ _ | exact CSub.refl _) (⟨⟨by omega, by omega⟩, hal, hai, fun j hj => by omega, fun j hj => rfl⟩) (fun k o hI => ?_)
 obtain ⟨⟨hk, hk1⟩, hol, hoi, ho1, ho2⟩ := hI
 have hg1 := hoi.get (by omega) k.toNat
 have e0 := Int.emod_nonneg (p - o.getD k.toNat 0) (show p ≠ 0 by omega)
 have e1 := Int.emod_lt_of_pos (p - o.getD k.toNat 0) (show 0 < p by omega)
 refine tS ?_
 refine tS ?_
 refine tR fun _ _ _ => ?_
 iterate 2 refine pV ?_
 refine sV (rLen rfl rfl) ?_
 refine pV ?_
 refine tC rfl (fun h3 => ?_) (fun h3 => ?_)
 ·try simp only [zbA] at h3
  refine tK ?_
  refine tS ?_
  refine tB ?_
  refine tr_draw [0, 1, 2, 3, 4, 5, 6, 7, 8, 9, 10, 11, 12] [13] mixed (by kernel_rfl) fun _ _ _ => ?_
  iterate 2 refine pV ?_
  refine sV (rFld rfl rfl) ?_
  refine sV (rLdF rfl rfl rfl) ?_
  iterate 2 refine pV ?_
  refine sV (rIdxI rfl rfl rfl (by omega) (by omega) (by omega)) ?_
  refine sV (rLdI rfl rfl (by omega)) ?_
  refine sV (rSub rfl rfl rfl (by omega) (by omega)) ?_
  refine sV (rFld rfl rfl) ?_
  refine sV (rLdF rfl rfl rfl) ?_
  refine sV (rRem rfl rfl rfl (by omega) (by omega)) ?_
  refine sV (rIdxI rfl rfl rfl (by omega) (by omega) (by omega)) ?_
  refine eV (eStI rfl rfl rfl rfl (by omega) ?_)
  refine tR fun _ _ _ => ?_
  refine pV ?_
  refine sV (rAdd rfl rfl rfl (by omega) (by omega)) ?_
  refine pV ?_
  refine ⟨k + 1, o.set k.toNat ((p - o.getD k.toNat 0) % p), ⟨rfl, rfl, rfl, trivial⟩, by first | exact cs _ _ | exact CSub.refl _, ?_⟩
  refine ⟨⟨⟨by omega, by omega⟩, by simpa using hol, hoi.set ⟨e0, e1⟩ _, fun j hj => ?_, fun j hj => ?_⟩, by omega⟩
  ·rw [getD_set]
   by_cases he : k.toNat = j
   ·subst he; rw [if_pos ⟨rfl, by omega⟩, ho2 k.toNat (by omega)]
   ·rw [if_neg (by omega)]; exact ho1 j (by omega)
  ·rw [getD_set, if_neg (by omega)]; exact ho2 j (by omega)
 ·try simp only [zbA] at h3
  refine tE ?_
  refine tS ?_
  refine tR fun _ _ _ => ?_
  refine sV (rLdS rfl rfl rfl) ?_
  refine pV ?_
  refine eV (eCallV rfl rfl rfl (ref_Value _ _ _ _ _ (by omega) (by omega) _ _ _ o (by omega) (by omega) hoi (by omega)) ⟨rfl, rfl, trivial⟩ ?_)
  refine pV ?_
  have hkm : k = m := by omega
  exact tr_ret ⟨trivial, _, _, rfl, ⟨by rw [hvt o hoi (by omega)]; exact congrArg _ (rv_cong fun j hj => by rw [show rl o j = (p - a.getD j 0) % p from ho1 j (by omega), Int.emod_emod]; show _ = (-1 * a.getD j 0) % p; rw [show p - a.getD j 0 = -1 * a.getD j 0 + p by omega, Int.add_emod_right]), rfl⟩, CSub.nil _, trivial⟩
end Go.Proofs.Ytbhoeaijpnjgdaa

set_option maxRecDepth 100000
namespace Go.Proofs.Ytbhoeaijpnjgdaa
open Go.RowKit
theorem gf_AddE (g : GfM) {p m : Int} {mod : List Int} [hF : IsF p m mod] (hg : GOk g p m mod) (x y : Int) : Pure Try.prog 122 #[.pointer (some g.p), .int .i64 x, .int .i64 y] [gfR g] (isV (.int .i64 (el x + el y : El p m mod).1)) := by
 have h := gf_Add g p m mod hg x y
 rw [hg.eq] at h
 exact h
theorem gf_SubE (g : GfM) {p m : Int} {mod : List Int} [hF : IsF p m mod] (hg : GOk g p m mod) (x y : Int) : Pure Try.prog 70 #[.pointer (some g.p), .int .i64 x, .int .i64 y] [gfR g] (isV (.int .i64 (el x - el y : El p m mod).1)) := by
 have h := gf_Sub g p m mod hg x y
 rw [hg.eq] at h
 exact h
theorem gf_MulE (g : GfM) {p m : Int} {mod : List Int} [hF : IsF p m mod] (hg : GOk g p m mod) (x y : Int) : Pure Try.prog 71 #[.pointer (some g.p), .int .i64 x, .int .i64 y] [gfR g] (isV (.int .i64 (el x * el y : El p m mod).1)) := by
 have h := gf_Mul g p m mod hg x y
 rw [hg.eq] at h
 exact h
theorem gf_NegE (g : GfM) {p m : Int} {mod : List Int} [hF : IsF p m mod] (hg : GOk g p m mod) (x : Int) : Pure Try.prog 72 #[.pointer (some g.p), .int .i64 x] [gfR g] (isV (.int .i64 (-el x : El p m mod).1)) := by
 have h := gf_Neg g p m mod hg x
 rw [hg.eq] at h
 exact h
theorem gf_InvE (g : GfM) {p m : Int} {mod : List Int} [hF : IsF p m mod] (hg : GOk g p m mod) (x : Int) (hx : (el x : El p m mod) ≠ 0) : Pure Try.prog 146 #[.pointer (some g.p), .int .i64 x] [gfR g] (isV (.tuple #[.int .i64 (Fd.inv (el x : El p m mod)).1, .int .i64 0])) := by
 have h := gf_Inv g p m mod hg x
 have e : ¬ inI (pw p m) x = 0 := fun e => hx ((val_zero_iff (el x : El p m mod)).1 e)
 rw [hg.eq, if_neg e] at h
 exact h
theorem gf_ScaleE (g : GfM) {p m : Int} {mod : List Int} [hF : IsF p m mod] (hg : GOk g p m mod) (x : Int) (A : Option Addr) (n c : Nat) (l : List Int) (hn : n = l.length) (h9 : l.length ≤ 17592186044415) : Pure Try.prog 120 #[.pointer (some g.p), .int .i64 x, .slice A n c] [gfR g, ro A (ints l)] (one (fun v ch => ∃ B, v = .slice B l.length l.length ∧ ch = ow B 3 l.length (ints (l.map fun y => (el x * el y : El p m mod).1)))) := by
 have h := gf_Scale g p m mod hg x A n c l hn h9
 rw [hg.eq] at h
 exact h
theorem poly_CanonE (g : GfM) {p m : Int} {mod : List Int} [hF : IsF p m mod] (hg : GOk g p m mod) (A : Option Addr) (n c : Nat) (a : List Int) (hn : n = a.length) (ha9 : a.length ≤ 17592186044415) : Pure Try.prog 61 #[.pointer (some g.p), .slice A n c] [gfR g, ro A (ints a)] (one (fun v ch => ∃ B cap, v = .slice B (il (pol a : Po (El p m mod))).length cap ∧ (il (pol a : Po (El p m mod))).length ≤ cap ∧ ch = ow B 3 cap (ints (il (pol a : Po (El p m mod)))))) := by
 have h := poly_CanonS g A n c a hn ha9
 rw [hg.eq, ← il_pol (mod := mod)] at h
 exact h
theorem El.bd {p m : Int} {mod : List Int} (a : El p m mod) : 0 ≤ a.1 ∧ a.1 < pw p m := a.2
theorem shrink_trim {A : Option Addr} {e : TypeId} {cap : Nat} (l : List Int) (F : List Chunk) : CSub (ow A e cap (ints l) :: F) (ow A e cap (ints (trimL l)) :: F) := by
 have hsh := ow_shrink (e := e) (A := A) (cap := cap) (vs := ints (trimL l)) (ws := ints (l.drop (trimL l).length)) F
 rw [← ints_append, ← trimL_split l] at hsh
 exact hsh
theorem div_acc {R : Type} [Rg R] {a q b r t : R} (h : a = q * b + r) : a = (q + t) * b + (r - t * b) := by grind
theorem allIn_rep {q : Int} (hq : 0 < q) (n : Nat) : AllIn q (List.replicate n 0) := fun z hz => by have := List.eq_of_mem_replicate hz; omega
theorem rep_get (n j : Nat) : (List.replicate n (0 : Int)).getD j 0 = 0 := by rw [List.getD_eq_getElem?_getD, List.getElem?_replicate]; split <;> rfl
theorem il_le {p m : Int} {mod : List Int} [hF : IsF p m mod] (l : List Int) : (il (pol l : Po (El p m mod))).length ≤ l.length := by
 rw [il_length]
 exact Po.len_le (pol_sh l)
theorem poly_Monic_ent : Enters Try.prog 109 := enters_of Try.func109 (by kernel_rfl) (by kernel_rfl)
theorem poly_Monic (g : GfM) {p m : Int} {mod : List Int} [hF : IsF p m mod] (hg : GOk g p m mod) (A : Option Addr) (n c : Nat) (a : List Int) (hn : n = a.length) (ha9 : a.length ≤ 17592186044415) (h0 : (pol a : Po (El p m mod)) ≠ 0) :
  Pure Try.prog 109 #[.pointer (some g.p), .slice A n c] [gfR g, ro A (ints a)] (one (fun v ch => ∃ B cap, v = .tuple #[.slice B (il (Po.mon (pol a : Po (El p m mod)))).length cap, .int .i64 0] ∧ ch = ow B 3 cap (ints (il (Po.mon (pol a : Po (El p m mod))))))) := by
 have hz : 0 < (il (pol a : Po (El p m mod))).length := by rw [il_length]; exact Po.len_pos h0
 have hcl := il_le (p := p) (m := m) (mod := mod) a
 have hld : (el ((il (pol a : Po (El p m mod))).getD (((il (pol a : Po (El p m mod))).length : Int) - 1).toNat 0) : El p m mod) = Po.lead (pol a : Po (El p m mod)) := by rw [il_getD, el_of, Po.lead, il_length, show ((Po.len (pol a : Po (El p m mod)) : Int) - 1).toNat = Po.len (pol a : Po (El p m mod)) - 1 by omega]
 have hnz : (el ((il (pol a : Po (El p m mod))).getD (((il (pol a : Po (El p m mod))).length : Int) - 1).toNat 0) : El p m mod) ≠ 0 := by rw [hld]; exact Po.lead_nz h0
 have hmap := il_map (f := (pol a : Po (El p m mod))) (c := Fd.inv (Po.lead (pol a : Po (El p m mod)))) (Fd.inv_ne (Po.lead_nz h0))
 have hml : (il (Po.mon (pol a : Po (El p m mod)))).length = (il (pol a : Po (El p m mod))).length := by rw [il_length, il_length, Po.mon_len]
 refine pure_of (args := [.pointer (some g.p), .slice A n c]) 30 Try.func109 rfl rfl rfl poly_Monic_ent ⟨id, id, trivial⟩ (fun w0 => ?_)
 refine tS ?_
 refine tR fun _ _ _ => ?_
 iterate 2 refine pV ?_
 refine tS ?_
 refine tR fun _ _ _ => ?_
 iterate 2 refine pV ?_
 refine eV (eCall1 rfl rfl rfl (poly_CanonE g hg _ _ _ _ (by first | omega | rfl | simp) (by omega)) ⟨rfl, rfl, trivial⟩ ?_)
 rintro _ _ ⟨B1, c1, rfl, hcap1, rfl⟩
 refine pV ?_
 refine tS ?_
 refine tS ?_
 refine tR fun _ _ _ => ?_
 refine pV ?_
 refine sV (rLen rfl rfl) ?_
 refine pV ?_
 refine tC rfl (fun h2 => ?_) (fun h2 => ?_)
 ·try simp only [zbA] at h2
  omega --done
 ·try simp only [zbA] at h2
  refine tK ?_
  refine tS ?_
  refine tR fun _ _ _ => ?_
  iterate 3 refine pV ?_
  refine sV (rLen rfl rfl) ?_
  refine sV (rSub rfl rfl rfl (by omega) (by omega)) ?_
  refine sV (rIdxI rfl rfl rfl (by omega) (by omega) (by omega)) ?_
  refine sV (rLdI rfl rfl (by omega)) ?_
  refine eV (eCallV rfl rfl rfl (gf_InvE g hg _ hnz) ⟨rfl, rfl, trivial⟩ ?_)
  iterate 5 refine pV ?_
  refine tS ?_
  rw [hld]
  refine tR fun _ _ _ => ?_
  iterate 3 refine pV ?_
  refine eV (eCall1 rfl rfl rfl (gf_ScaleE g hg _ _ _ _ (il (pol a : Po (El p m mod))) rfl (by omega)) ⟨rfl, rfl, rfl, trivial⟩ ?_)
  rintro _ _ ⟨B5, rfl, rfl⟩
  iterate 2 refine pV ?_
  simp only [el_of]
  rw [hmap, show Po.C (Fd.inv (Po.lead (pol a : Po (El p m mod)))) * (pol a : Po (El p m mod)) = Po.mon (pol a : Po (El p m mod)) from rfl]
  exact tr_ret ⟨trivial, _, _, rfl, ⟨_, rfl, _, _, by rw [hml], rfl⟩, cs _ _, trivial, trivial⟩
theorem poly_DivMod_ent : Enters Try.prog 102 := enters_of Try.func102 (by kernel_rfl) (by kernel_rfl)
theorem poly_DivMod (g : GfM) {p m : Int} {mod : List Int} [hF : IsF p m mod] (hg : GOk g p m mod) (A : Option Addr) (n c : Nat) (a : List Int) (hn : n = a.length) (ha9 : a.length ≤ 17592186044415) (B : Option Addr) (k d : Nat) (b : List Int) (hk : k = b.length) (hb9 : b.length ≤ 17592186044415) (h0 : (pol b : Po (El p m mod)) ≠ 0) :
  Pure Try.prog 102 #[.pointer (some g.p), .slice A n c, .slice B k d] [gfR g, ro A (ints a), ro B (ints b)] (two (fun v ch ch2 => ∃ B1 c1 B2 c2, v = .tuple #[.slice B1 (il (Po.quo (pol a : Po (El p m mod)) (pol b : Po (El p m mod)))).length c1, .slice B2 (il (Po.rem (pol a : Po (El p m mod)) (pol b : Po (El p m mod)))).length c2, .int .i64 0] ∧ ch = ow B1 3 c1 (ints (il (Po.quo (pol a : Po (El p m mod)) (pol b : Po (El p m mod))))) ∧ ch2 = ow B2 3 c2 (ints (il (Po.rem (pol a : Po (El p m mod)) (pol b : Po (El p m mod))))))) := by
 have hq2 := hF.q2
 have hla := il_le (p := p) (m := m) (mod := mod) a
 have hlb := il_le (p := p) (m := m) (mod := mod) b
 have hz : 0 < (il (pol b : Po (El p m mod))).length := by rw [il_length]; exact Po.len_pos h0
 have hld : (el ((il (pol b : Po (El p m mod))).getD (((il (pol b : Po (El p m mod))).length : Int) - 1).toNat 0) : El p m mod) = Po.lead (pol b : Po (El p m mod)) := by rw [il_getD, el_of, Po.lead, il_length, show ((Po.len (pol b : Po (El p m mod)) : Int) - 1).toNat = Po.len (pol b : Po (El p m mod)) - 1 by omega]
 have hnz : (el ((il (pol b : Po (El p m mod))).getD (((il (pol b : Po (El p m mod))).length : Int) - 1).toNat 0) : El p m mod) ≠ 0 := by rw [hld]; exact Po.lead_nz h0
 refine pure_of (args := [.pointer (some g.p), .slice A n c, .slice B k d]) 96 Try.func102 rfl rfl rfl poly_DivMod_ent ⟨id, id, id, trivial⟩ (fun w0 => ?_)
 refine tS ?_
 refine tR fun _ _ _ => ?_
 iterate 3 refine pV ?_
 refine tS ?_
 refine tR fun _ _ _ => ?_
 iterate 2 refine pV ?_
 refine eV (eCall1 rfl rfl rfl (poly_CanonE g hg _ _ _ _ (by first | omega | rfl | simp) (by omega)) ⟨rfl, rfl, trivial⟩ ?_)
 rintro _ _ ⟨B1, c1, rfl, hcap1, rfl⟩
 iterate 2 refine pV ?_
 refine eV (eCall1 rfl rfl rfl (poly_CanonE g hg _ _ _ _ (by first | omega | rfl | simp) (by omega)) ⟨rfl, rfl, trivial⟩ ?_)
 rintro _ _ ⟨B1a, c1a, rfl, hcap1a, rfl⟩
 iterate 2 refine pV ?_
 refine tS ?_
 refine tS ?_
 refine tR fun _ _ _ => ?_
 refine pV ?_
 refine sV (rLen rfl rfl) ?_
 refine pV ?_
 refine tC rfl (fun h2 => ?_) (fun h2 => ?_)
 ·try simp only [zbA] at h2
  omega --done
 ·try simp only [zbA] at h2
  refine tK ?_
  refine tS ?_
  refine tR fun _ _ _ => ?_
  iterate 3 refine pV ?_
  refine sV (rLen rfl rfl) ?_
  refine sV (rSub rfl rfl rfl (by omega) (by omega)) ?_
  refine sV (rIdxI rfl rfl rfl (by omega) (by omega) (by omega)) ?_
  refine sV (rLdI rfl rfl (by omega)) ?_
  refine eV (eCallV rfl rfl rfl (gf_InvE g hg _ hnz) ⟨rfl, rfl, trivial⟩ ?_)
  iterate 5 refine pV ?_
  refine tS ?_
  rw [hld]
  refine tR fun _ _ _ => ?_
  refine pV ?_
  refine sV (rLen rfl rfl) ?_
  refine pV ?_
  refine sV (rLen rfl rfl) ?_
  refine sV (rSub rfl rfl rfl (by omega) (by omega)) ?_
  refine sV (rAdd rfl rfl rfl (by omega) (by omega)) ?_
  refine sV (rMax rfl rfl rfl) ?_
  refine eV (eMakeI rfl rfl rfl rfl rfl (by omega) (by omega) (by omega) (fun A5 => ?_))
  refine pV ?_
  generalize hN : (max 0 (((il (pol a : Po (El p m mod))).length : Int) - (il (pol b : Po (El p m mod))).length + 1)).toNat = N
  refine tS ?_
  refine tS ?_
  refine tR fun _ _ _ => ?_
  refine pV ?_
  refine sV (rLen rfl rfl) ?_
  refine pV ?_
  refine sV (rLen rfl rfl) ?_
  refine sV (rSub rfl rfl rfl (by omega) (by omega)) ?_
  refine pV ?_
  refine tB ?_
  refine tr_loop3 (fun (i : Int) (r : List Int) (qs : List Int) => [(0, .pointer (some g.p)), (2, .slice B1a (il (pol b : Po (El p m mod))).length c1a), (6, .slice A5 N N), (7, .slice B1 (il (pol a : Po (El p m mod))).length c1), (9, .int .i64 (Fd.inv (Po.lead (pol b : Po (El p m mod)))).1), (11, .int .i64 i)]) (fun (i : Int) (r : List Int) (qs : List Int) => [ow A5 3 N (ints qs), ow B1a 3 c1a (ints (il (pol b : Po (El p m mod)))), ow B1 3 c1 (ints r), gfR g]) (fun (i : Int) (r : List Int) (qs : List Int) => (i ≤ ((il (pol a : Po (El p m mod))).length : Int) - (il (pol b : Po (El p m mod))).length ∧ 0 ≤ ((il (pol b : Po (El p m mod))).length : Int) + i) ∧ (r.length = (il (pol a : Po (El p m mod))).length ∧ AllIn (pw p m) r) ∧ (qs.length = N ∧ AllIn (pw p m) qs) ∧ (∀ j : Nat, (j : Int) ≤ i → qs.getD j 0 = 0) ∧ Po.Sh (pol r : Po (El p m mod)) (((il (pol b : Po (El p m mod))).length : Int) + i).toNat ∧ (pol a : Po (El p m mod)) = pol qs * (pol b : Po (El p m mod)) + pol r) (fun (i : Int) (r : List Int) (qs : List Int) => (i + 1).toNat) (((il (pol a : Po (El p m mod))).length : Int) - (il (pol b : Po (El p m mod))).length) (il (pol a : Po (El p m mod))) (List.replicate N 0) ⟨rfl, rfl, rfl, rfl, rfl, rfl, trivial⟩ (by first | exact cs _ _ | exact CSub.refl _) (⟨⟨by omega, by omega⟩, ⟨rfl, il_in _⟩, ⟨by simp, allIn_rep (by omega) _⟩, fun j _ => rep_get _ _, fun j hj => by rw [cf_pol, il_getD, el_of]; exact Po.cf_ge (by rw [← il_length]; omega), by rw [pol_rep, pol_il]; grind⟩) (fun i r qs hI => ?_)
  obtain ⟨⟨hi0, hi1⟩, ⟨hrl, hri⟩, ⟨hql, hqi⟩, hq0, hsh, heq⟩ := hI
  refine tS ?_
  refine tS ?_
  refine tR fun _ _ _ => ?_
  iterate 2 refine pV ?_
  refine tC rfl (fun h7 => ?_) (fun h7 => ?_)
  ·try simp only [zbA] at h7
   refine tK ?_
   refine tS ?_
   refine tB ?_
   refine tS ?_
   refine tR fun _ _ _ => ?_
   iterate 4 refine pV ?_
   refine sV (rLen rfl rfl) ?_
   refine sV (rAdd rfl rfl rfl (by omega) (by omega)) ?_
   refine sV (rSub rfl rfl rfl (by omega) (by omega)) ?_
   refine sV (rIdxI rfl rfl rfl (by omega) (by omega) (by omega)) ?_
   refine sV (rLdI rfl rfl (by omega)) ?_
   refine pV ?_
   refine eV (eCallV rfl rfl rfl (gf_MulE g hg _ _) ⟨rfl, rfl, rfl, trivial⟩ ?_)
   refine pV ?_
   rw [el_of]
   generalize hc : (el (r.getD (i + (il (pol b : Po (El p m mod))).length - 1).toNat 0) * Fd.inv (Po.lead (pol b : Po (El p m mod))) : El p m mod) = cc
   have hcb := cc.2
   refine tS ?_
   refine tR fun _ _ _ => ?_
   iterate 3 refine pV ?_
   refine sV (rIdxI rfl rfl rfl (by omega) (by omega) (by omega)) ?_
   refine eV (eStI rfl rfl rfl rfl (by omega) ?_)
   skip
   refine tS ?_
   refine tR fun _ _ _ => ?_
   refine pV ?_
   refine sV (rLen rfl rfl) ?_
   refine pV ?_
   refine tB ?_
   refine tr_loop2 (fun (j : Int) (r2 : List Int) => [(0, .pointer (some g.p)), (2, .slice B1a (il (pol b : Po (El p m mod))).length c1a), (6, .slice A5 N N), (7, .slice B1 (il (pol a : Po (El p m mod))).length c1), (9, .int .i64 (Fd.inv (Po.lead (pol b : Po (El p m mod)))).1), (11, .int .i64 i), (12, .int .i64 cc.1), (67, .slice B1a (il (pol b : Po (El p m mod))).length c1a), (68, .int .i64 (il (pol b : Po (El p m mod))).length), (69, .int .i64 j)]) (fun (j : Int) (r2 : List Int) => [ow A5 3 N (ints (qs.set i.toNat cc.1)), ow B1a 3 c1a (ints (il (pol b : Po (El p m mod)))), ow B1 3 c1 (ints r2), gfR g]) (fun (j : Int) (r2 : List Int) => (0 ≤ j ∧ j ≤ (il (pol b : Po (El p m mod))).length) ∧ (r2.length = (il (pol a : Po (El p m mod))).length ∧ AllIn (pw p m) r2) ∧ (pol r2 : Po (El p m mod)) = pol r - Po.mn cc i.toNat * pol ((il (pol b : Po (El p m mod))).take j.toNat)) (fun (j : Int) (r2 : List Int) => (((il (pol b : Po (El p m mod))).length : Int) - j).toNat) (0) (r) ⟨rfl, rfl, rfl, rfl, rfl, rfl, rfl, rfl, rfl, rfl, trivial⟩ (by first | exact cs _ _ | exact CSub.refl _) (⟨⟨by omega, by omega⟩, ⟨hrl, hri⟩, by rw [Int.toNat_zero, pol_take_zero]; grind⟩) (fun j r2 hI => ?_)
   obtain ⟨⟨hj0, hj1⟩, ⟨hr2l, hr2i⟩, hr2⟩ := hI
   refine tS ?_
   refine tR fun _ _ _ => ?_
   refine pV ?_
   refine tS ?_
   refine tC rfl (fun h12 => ?_) (fun h12 => ?_)
   ·try simp only [zbA] at h12
    refine tK ?_
    refine tS ?_
    refine tB ?_
    refine tS ?_
    refine tR fun _ _ _ => ?_
    refine pV ?_
    refine sV (rIdxI rfl rfl rfl (by omega) (by omega) (by omega)) ?_
    refine sV (rLdI rfl rfl (by omega)) ?_
    iterate 2 refine pV ?_
    refine tr_draw [0, 1, 2, 3, 4, 5, 6, 7, 8, 9, 10, 11, 12, 13, 14, 15, 16] [17] mixed (by kernel_rfl) fun _ _ _ => ?_
    iterate 3 refine pV ?_
    refine sV (rAdd rfl rfl rfl (by omega) (by omega)) ?_
    iterate 4 refine pV ?_
    refine sV (rAdd rfl rfl rfl (by omega) (by omega)) ?_
    refine sV (rIdxI rfl rfl rfl (by omega) (by omega) (by omega)) ?_
    refine sV (rLdI rfl rfl (by omega)) ?_
    iterate 3 refine pV ?_
    refine eV (eCallV rfl rfl rfl (gf_MulE g hg _ _) ⟨rfl, rfl, rfl, trivial⟩ ?_)
    refine eV (eCallV rfl rfl rfl (gf_SubE g hg _ _) ⟨rfl, rfl, rfl, trivial⟩ ?_)
    refine sV (rIdxI rfl rfl rfl (by omega) (by omega) (by omega)) ?_
    refine eV (eStI rfl rfl rfl rfl (by omega) ?_)
    refine tR fun _ _ _ => ?_
    refine sV (rAdd rfl rfl rfl (by omega) (by omega)) ?_
    refine pV ?_
    refine ⟨j + 1, r2.set (i + j).toNat (el (r2.getD (i + j).toNat 0) - el (el cc.1 * el ((il (pol b : Po (El p m mod))).getD j.toNat 0) : El p m mod).1 : El p m mod).1, ⟨rfl, rfl, rfl, rfl, rfl, rfl, rfl, rfl, rfl, rfl, trivial⟩, by first | exact cs _ _ | exact CSub.refl _, ?_⟩
    refine ⟨⟨⟨by omega, by omega⟩, ⟨by simpa using hr2l, hr2i.set (El.bd _) _⟩, ?_⟩, by omega⟩
    rw [pol_set_add (d := -(cc * el ((il (pol b : Po (El p m mod))).getD j.toNat 0))) r2 (by omega) (by rw [el_of, el_of, el_of]; grind), hr2, show (j + 1).toNat = j.toNat + 1 by omega, pol_take_succ, show (i + j).toNat = i.toNat + j.toNat by omega]
    have e1 := Po.mn_mul cc (el ((il (pol b : Po (El p m mod))).getD j.toNat 0)) i.toNat j.toNat
    have e2 := Po.mn_neg (cc * el ((il (pol b : Po (El p m mod))).getD j.toNat 0)) (i.toNat + j.toNat)
    grind
   ·try simp only [zbA] at h12
    refine tE ?_
    refine tR fun _ _ _ => ?_
    refine pV ?_
    refine sV (rSub rfl rfl rfl (by omega) (by omega)) ?_
    refine pV ?_
    refine ⟨i - 1, r2, qs.set i.toNat cc.1, ⟨rfl, rfl, rfl, rfl, rfl, rfl, trivial⟩, by first | exact cs _ _ | exact CSub.refl _, ?_⟩
    have hjn : j = (il (pol b : Po (El p m mod))).length := by omega
    rw [hjn, Int.toNat_natCast, List.take_length, pol_il] at hr2
    have hds := Po.div_step (f := (pol r : Po (El p m mod))) h0 (n := i.toNat) (by rw [← il_length]; exact hsh.mono (by omega))
    have htop : Po.cf (pol r : Po (El p m mod)) (Po.len (pol b : Po (El p m mod)) + i.toNat - 1) = el (r.getD (i + (il (pol b : Po (El p m mod))).length - 1).toNat 0) := by rw [cf_pol, ← il_length, show (il (pol b : Po (El p m mod))).length + i.toNat - 1 = (i + (il (pol b : Po (El p m mod))).length - 1).toNat by omega]
    rw [htop, hc, ← hr2, ← il_length] at hds
    refine ⟨⟨⟨by omega, by omega⟩, ⟨hr2l, hr2i⟩, ⟨by simpa using hql, hqi.set hcb _⟩, fun j hj => ?_, hds.mono (by omega), ?_⟩, by omega⟩
    ·rw [getD_set, if_neg (by omega)]; exact hq0 j (by omega)
    ·rw [hr2, pol_set_add (d := cc) qs (by omega) (by rw [hq0 _ (by omega), el_zero, el_of]; grind)]
     exact div_acc heq
  ·try simp only [zbA] at h7
   refine tE ?_
   refine tS ?_
   refine tR fun _ _ _ => ?_
   refine pV ?_
   refine eV (eCallV rfl rfl rfl (poly_trim _ _ _ qs (by omega) (by omega) (by omega)) ⟨rfl, trivial⟩ ?_)
   refine pV ?_
   refine eV (eCallV rfl rfl rfl (poly_trim _ _ _ r (by omega) (by omega) (by omega)) ⟨rfl, trivial⟩ ?_)
   iterate 3 refine pV ?_
   obtain ⟨hqq, hrr⟩ := Po.div_of heq (by rw [← il_length (f := (pol b : Po (El p m mod)))]; have := Po.len_le hsh; omega)
   rw [hqq, hrr, il_trim hqi, il_trim hri]
   exact tr_ret ⟨trivial, _, _, rfl, ⟨_, _, rfl, A5, N, B1, c1, rfl, rfl, rfl⟩, (cs _ [ow A5 3 N (ints qs), ow B1 3 c1 (ints r)]).trans ((shrink_trim _ _).trans (CSub.cons _ (shrink_trim _ _))), trivial, trivial, trivial⟩
theorem poly_Gcd_ent : Enters Try.prog 50 := enters_of Try.func50 (by kernel_rfl) (by kernel_rfl)
theorem poly_Gcd (g : GfM) {p m : Int} {mod : List Int} [hF : IsF p m mod] (hg : GOk g p m mod) (A : Option Addr) (n c : Nat) (a : List Int) (hn : n = a.length) (ha9 : a.length ≤ 17592186044415) (B : Option Addr) (k d : Nat) (b : List Int) (hk : k = b.length) (hb9 : b.length ≤ 17592186044415) (h0 : (pol a : Po (El p m mod)) ≠ 0 ∨ (pol b : Po (El p m mod)) ≠ 0) :
  Pure Try.prog 50 #[.pointer (some g.p), .slice A n c, .slice B k d] [gfR g, ro A (ints a), ro B (ints b)] (one (fun v ch => ∃ B cap, v = .slice B (il (Po.gcd (pol a : Po (El p m mod)) (pol b : Po (El p m mod)))).length cap ∧ ch = ow B 3 cap (ints (il (Po.gcd (pol a : Po (El p m mod)) (pol b : Po (El p m mod))))))) := by
 have hq2 := hF.q2
 have hla := il_le (p := p) (m := m) (mod := mod) a
 have hlb := il_le (p := p) (m := m) (mod := mod) b
 refine pure_of (args := [.pointer (some g.p), .slice A n c, .slice B k d]) 38 Try.func50 rfl rfl rfl poly_Gcd_ent ⟨id, id, id, trivial⟩ (fun w0 => ?_)
 refine tS ?_
 refine tR fun _ _ _ => ?_
 refine pV ?_
 refine tS ?_
 refine tR fun _ _ _ => ?_
 iterate 2 refine pV ?_
 refine eV (eCall1 rfl rfl rfl (poly_CanonE g hg _ _ _ _ (by first | omega | rfl | simp) (by omega)) ⟨rfl, rfl, trivial⟩ ?_)
 rintro _ _ ⟨B1, c1, rfl, hcap1, rfl⟩
 iterate 2 refine pV ?_
 refine eV (eCall1 rfl rfl rfl (poly_CanonE g hg _ _ _ _ (by first | omega | rfl | simp) (by omega)) ⟨rfl, rfl, trivial⟩ ?_)
 rintro _ _ ⟨B1a, c1a, rfl, hcap1a, rfl⟩
 iterate 2 refine pV ?_
 refine tS ?_
 refine tB ?_
 refine tr_loop6 (fun (f : Po (El p m mod)) (h : Po (El p m mod)) (A6 : Option Addr) (c6 : Nat) (A7 : Option Addr) (c7 : Nat) => [(0, .pointer (some g.p)), (1, .slice A6 (il f).length c6), (2, .slice A7 (il h).length c7)]) (fun (f : Po (El p m mod)) (h : Po (El p m mod)) (A6 : Option Addr) (c6 : Nat) (A7 : Option Addr) (c7 : Nat) => [ow A6 3 c6 (ints (il f)), ow A7 3 c7 (ints (il h)), gfR g]) (fun (f : Po (El p m mod)) (h : Po (El p m mod)) (A6 : Option Addr) (c6 : Nat) (A7 : Option Addr) (c7 : Nat) => (f ≠ 0 ∨ h ≠ 0) ∧ (Po.len f ≤ 17592186044415 ∧ Po.len h ≤ 17592186044415) ∧ Po.gcd f h = Po.gcd (pol a : Po (El p m mod)) (pol b : Po (El p m mod))) (fun (f : Po (El p m mod)) (h : Po (El p m mod)) (A6 : Option Addr) (c6 : Nat) (A7 : Option Addr) (c7 : Nat) => Po.len h) ((pol a : Po (El p m mod))) ((pol b : Po (El p m mod))) (B1) (c1) (B1a) (c1a) ⟨rfl, rfl, rfl, trivial⟩ (by first | exact cs _ _ | exact CSub.refl _) (⟨h0, ⟨by rw [← il_length]; omega, by rw [← il_length]; omega⟩, rfl⟩) (fun f h A6 c6 A7 c7 hI => ?_)
 obtain ⟨hnz, ⟨hfl, hhl⟩, hgc⟩ := hI
 refine tS ?_
 refine tS ?_
 refine tR fun _ _ _ => ?_
 refine pV ?_
 refine sV (rLen rfl rfl) ?_
 refine pV ?_
 refine tC rfl (fun h2 => ?_) (fun h2 => ?_)
 ·try simp only [zbA] at h2
  refine tK ?_
  refine tB ?_
  refine tS ?_
  have hh : h ≠ 0 := Po.len_pos_iff.1 (by rw [← il_length]; omega)
  have hrl := Po.rem_len f hh
  have hgs := Po.gcd_step f hh
  refine tR fun _ _ _ => ?_
  iterate 3 refine pV ?_
  refine eV (eCall2 rfl rfl rfl (poly_DivMod g hg _ _ _ (il f) rfl (by rw [il_length]; omega) _ _ _ (il h) rfl (by rw [il_length]; omega) (by rw [pol_il]; exact hh)) ⟨rfl, rfl, rfl, trivial⟩ ?_)
  rintro _ _ _ ⟨A3, c3, B3, d3, rfl, rfl, rfl⟩
  iterate 7 refine pV ?_
  simp only [pol_il]
  refine tR fun _ _ _ => ?_
  iterate 4 refine pV ?_
  refine ⟨h, Po.rem f h, A7, c7, B3, d3, ⟨rfl, rfl, rfl, trivial⟩, by first | exact cs _ _ | exact CSub.refl _, ?_⟩
  exact ⟨⟨.inl hh, ⟨hhl, by omega⟩, by rw [← hgs, hgc]⟩, hrl⟩
 ·try simp only [zbA] at h2
  refine tE ?_
  refine tS ?_
  have hh : h = 0 := Po.eq_zero_of_len (by rw [← il_length]; omega)
  have hf0 : f ≠ 0 := hnz.resolve_right (fun e => e hh)
  rw [hh, Po.gcd_zero] at hgc
  refine tR fun _ _ _ => ?_
  iterate 2 refine pV ?_
  refine eV (eCall1 rfl rfl rfl (poly_Monic g hg _ _ _ (il f) rfl (by rw [il_length]; omega) (by rw [pol_il]; exact hf0)) ⟨rfl, rfl, trivial⟩ ?_)
  rintro _ _ ⟨B5, c5, rfl, rfl⟩
  iterate 5 refine pV ?_
  simp only [pol_il, hgc]
  refine tS ?_
  refine tR fun _ _ _ => ?_
  iterate 2 refine pV ?_
  exact tr_ret ⟨trivial, _, _, rfl, ⟨_, rfl, _, _, rfl, rfl⟩, cs _ _, trivial, trivial⟩
section
end
theorem ref_NegE (p m : Int) (A : Option Addr) (c : Nat) (mod : List Int) [hF : IsF p m mod] (x : Int) : Pure Try.prog 41 #[.agg #[.int .i64 p, .int .i64 m, .slice A mod.length c], .int .i64 x] [ro A (ints mod)] (isV (.int .i64 (-el x : El p m mod).1)) := by
 have h := ref_Neg p m A c mod hF.out.1.1 x
 rw [hF.ord] at h
 exact h
theorem ref_CanonE (p m : Int) (A : Option Addr) (c : Nat) (mod : List Int) [hF : IsF p m mod] (B : Option Addr) (n d : Nat) (a : List Int) (hn : n = a.length) (ha9 : a.length ≤ 17592186044415) : Pure Try.prog 43 #[.agg #[.int .i64 p, .int .i64 m, .slice A mod.length c], .slice B n d] [ro A (ints mod), ro B (ints a)] (one (fun v ch => ∃ B cap, v = .slice B (il (pol a : Po (El p m mod))).length cap ∧ ch = ow B 3 cap (ints (il (pol a : Po (El p m mod)))))) := by
 have h := ref_Canon p m A c mod B n d a hn ha9
 rw [hF.ord, ← il_pol (mod := mod)] at h
 exact h
end Go.Proofs.Ytbhoeaijpnjgdaa

set_option maxRecDepth 100000
namespace Go.Proofs.Ytbhoeaijpnjgdaa
open Go.RowKit
section
variable {p m : Int} {mod : List Int} [hF : IsF p m mod]
noncomputable def addR (c : El p m mod) (ds ss : List Int) : List Int := (List.range ds.length).map fun j => (el (ds.getD j 0) + c * el (ss.getD j 0) : El p m mod).1
@[simp] theorem addR_length (c : El p m mod) (ds ss : List Int) : (addR c ds ss).length = ds.length := by simp [addR]
theorem addR_get (c : El p m mod) (ds ss : List Int) {j : Nat} (h : j < ds.length) : (addR c ds ss).getD j 0 = (el (ds.getD j 0) + c * el (ss.getD j 0) : El p m mod).1 := by
 unfold addR
 rw [List.getD_eq_getElem?_getD, List.getElem?_map, List.getElem?_range h]
 rfl
theorem addR_in (c : El p m mod) (ds ss : List Int) : AllIn (pw p m) (addR c ds ss) := fun z hz => by
 obtain ⟨j, _, rfl⟩ := List.mem_map.1 hz
 exact El.bd _
theorem getD_out {l : List Int} {j : Nat} (h : l.length ≤ j) : l.getD j 0 = 0 := by rw [List.getD_eq_getElem?_getD, List.getElem?_eq_none h]; rfl
theorem rw_addR (c : El p m mod) (ds ss : List Int) (h : ss.length ≤ ds.length) : (rw' (addR c ds ss) : Vc (El p m mod)) = rw' ds + Vc.sc c (rw' ss) := Vc.ext fun j => by
 rw [Vc.add_at, Vc.sc_at, rw_at, rw_at, rw_at]
 by_cases hj : j < ds.length
 ·rw [addR_get c ds ss hj, el_of]
 ·rw [getD_out (by simpa using hj), getD_out (l := ds) (by omega), getD_out (l := ss) (by omega), el_zero]; grind
end
theorem mem_erase {rs : List RowM} {i k : Nat} (hk : k < rs.length) (h : k ≠ i) : rs.getD k rowD ∈ rs.eraseIdx i := by
 rw [List.mem_eraseIdx_iff_getElem]
 exact ⟨k, hk, h, by rw [List.getD_eq_getElem?_getD, List.getElem?_eq_getElem hk]; rfl⟩
end Go.Proofs.Ytbhoeaijpnjgdaa

namespace Go.Proofs.Ytbhoeaijpnjgdaa
namespace Vc
variable {K : Type} [Fd K]
theorem getD_setV {α : Type} (l : List α) (i j : Nat) (v d : α) : (l.set i v).getD j d = if i = j ∧ j < l.length then v else l.getD j d := by
 rw [List.getD_eq_getElem?_getD, List.getElem?_set]
 by_cases h : i = j
 ·subst h
  by_cases h2 : i < l.length
  ·rw [if_pos rfl, if_pos h2, if_pos ⟨rfl, h2⟩]; rfl
  ·rw [if_pos rfl, if_neg h2, if_neg (fun h => h2 h.2), List.getD_eq_getElem?_getD, List.getElem?_eq_none (by omega)]
 ·rw [if_neg h, if_neg (fun e => h e.1), ← List.getD_eq_getElem?_getD]
theorem span_perm {V V' : List (Vc K)} (h : V.Perm V') (u : Vc K) : SpL V u ↔ SpL V' u :=
 ⟨fun hu => hu.mono fun r hr => .of (h.mem_iff.1 hr), fun hu => hu.mono fun r hr => .of (h.mem_iff.2 hr)⟩
theorem span_set {V : List (Vc K)} {i : Nat} {v : Vc K} (hi : i < V.length) (h1 : SpL V v) (h2 : SpL (V.set i v) (V.getD i 0)) (u : Vc K) : SpL V u ↔ SpL (V.set i v) u := by
 constructor
 ·refine fun hu => hu.mono fun r hr => ?_
  obtain ⟨j, hj, rfl⟩ := List.getElem_of_mem hr
  by_cases hij : i = j
  ·subst hij
   have : V.getD i 0 = V[i] := by rw [List.getD_eq_getElem?_getD, List.getElem?_eq_getElem hi]; rfl
   rw [← this]; exact h2
  ·refine .of ?_
   rw [List.mem_iff_getElem]
   exact ⟨j, by simpa using hj, by rw [List.getElem_set_ne hij]⟩
 ·refine fun hu => hu.mono fun r hr => ?_
  rcases List.mem_or_eq_of_mem_set hr with h | h
  ·exact .of h
  ·rw [h]; exact h1
end Vc
end Go.Proofs.Ytbhoeaijpnjgdaa

set_option maxRecDepth 100000
namespace Go.Proofs.Ytbhoeaijpnjgdaa
open Go.RowKit
section
variable {p m : Int} {mod : List Int} [hF : IsF p m mod]
noncomputable def vsR (rs : List RowM) : List (Vc (El p m mod)) := rs.map fun r => rw' r.xs
@[simp] theorem vsR_length (rs : List RowM) : (vsR rs : List (Vc (El p m mod))).length = rs.length := by simp [vsR]
theorem rw_nil : (rw' [] : Vc (El p m mod)) = 0 := Vc.ext fun j => el_zero
theorem vsR_get (rs : List RowM) (i : Nat) : (vsR rs : List (Vc (El p m mod))).getD i 0 = rw' (rs.getD i rowD).xs := by
 unfold vsR
 rw [List.getD_eq_getElem?_getD, List.getElem?_map, List.getD_eq_getElem?_getD]
 cases rs[i]? with
 | none => exact rw_nil.symm
 | some r => rfl
theorem vsR_set (rs : List RowM) (i : Nat) (r : RowM) : (vsR (rs.set i r) : List (Vc (El p m mod))) = (vsR rs).set i (rw' r.xs) := by
 unfold vsR; rw [List.map_set]
theorem vsR_at (rs : List RowM) (i c : Nat) : (vsR rs : List (Vc (El p m mod))).getD i 0 c = el ((rs.getD i rowD).xs.getD c 0) := by rw [vsR_get]; rfl
end
def Gd (q : Int) (w : Nat) (rs : List RowM) : Prop := ∀ r ∈ rs, r.xs.length = w ∧ AllIn q r.xs
theorem Gd.get {q : Int} {w : Nat} {rs : List RowM} (h : Gd q w rs) {i : Nat} (hi : i < rs.length) : (rs.getD i rowD).xs.length = w ∧ AllIn q (rs.getD i rowD).xs := h _ (getD_mem hi _)
theorem Gd.set {q : Int} {w : Nat} {rs : List RowM} (h : Gd q w rs) (i : Nat) {r : RowM} (h1 : r.xs.length = w) (h2 : AllIn q r.xs) : Gd q w (rs.set i r) := fun s hs => by
 rcases List.mem_or_eq_of_mem_set hs with hs | hs
 ·exact h s hs
 ·subst hs; exact ⟨h1, h2⟩
theorem Gd.perm {q : Int} {w : Nat} {rs qs : List RowM} (h : Gd q w rs) (hp : rs.Perm qs) : Gd q w qs := fun s hs => h s (hp.mem_iff.2 hs)
theorem row_set (rs : List RowM) (i j : Nat) (r : RowM) : (rs.set i r).getD j rowD = if i = j ∧ j < rs.length then r else rs.getD j rowD := by
 rw [List.getD_eq_getElem?_getD, List.getElem?_set]
 by_cases h : i = j
 ·subst h
  by_cases h2 : i < rs.length
  ·rw [if_pos rfl, if_pos h2, if_pos ⟨rfl, h2⟩]; rfl
  ·rw [if_pos rfl, if_neg h2, if_neg (fun h => h2 h.2), List.getD_eq_getElem?_getD, List.getElem?_eq_none (by omega)]
 ·rw [if_neg h, if_neg (fun e => h e.1), ← List.getD_eq_getElem?_getD]
end Go.Proofs.Ytbhoeaijpnjgdaa

set_option maxRecDepth 100000
namespace Go.Proofs.Ytbhoeaijpnjgdaa
open Go.RowKit
theorem Gd.of {q : Int} {w : Nat} {rs qs : List RowM} (h : qs.map (·.xs) = rs.map (·.xs)) (hg : Gd q w rs) : Gd q w qs := fun r hr => by
 have h1 : r.xs ∈ rs.map (·.xs) := by rw [← h]; exact List.mem_map.2 ⟨r, hr, rfl⟩
 obtain ⟨s, hs, he⟩ := List.mem_map.1 h1
 rw [← he]; exact hg s hs
theorem Gd.take {q : Int} {w : Nat} {rs : List RowM} (h : Gd q w rs) (k : Nat) : Gd q w (rs.take k) := fun r hr => h r (List.mem_of_mem_take hr)
end Go.Proofs.Ytbhoeaijpnjgdaa

set_option maxRecDepth 100000
namespace Go.Proofs.Ytbhoeaijpnjgdaa
open Go.RowKit
end Go.Proofs.Ytbhoeaijpnjgdaa

set_option maxRecDepth 100000
namespace Go.Proofs.Ytbhoeaijpnjgdaa
open Go.RowKit
end Go.Proofs.Ytbhoeaijpnjgdaa

set_option maxRecDepth 100000
namespace Go.Proofs.Ytbhoeaijpnjgdaa
open Go.RowKit
end Go.Proofs.Ytbhoeaijpnjgdaa

set_option maxRecDepth 100000
namespace Go.Proofs.Ytbhoeaijpnjgdaa
open Go.RowKit
section
end
end Go.Proofs.Ytbhoeaijpnjgdaa

set_option maxRecDepth 100000
namespace Go.Proofs.Ytbhoeaijpnjgdaa
open Go.RowKit
def xss (rs : List RowM) : List (List Int) := rs.map (·.xs)
@[simp] theorem xss_length (rs : List RowM) : (xss rs).length = rs.length := by simp [xss]
end Go.Proofs.Ytbhoeaijpnjgdaa

namespace Go.Proofs.Ytbhoeaijpnjgdaa
open Go.RowKit
section
variable {K : Type} [Fd K]
def pv (f : Po K) : Vc K := fun j => Po.cf f j
end
section
end
section
end
end Go.Proofs.Ytbhoeaijpnjgdaa

namespace Go.Proofs.Ytbhoeaijpnjgdaa
open Go.RowKit
theorem Gd.nil (q : Int) (w : Nat) : Gd q w [] := fun r hr => by simp at hr
theorem Gd.app {q : Int} {w : Nat} {rs qs : List RowM} (h : Gd q w rs) (k : Gd q w qs) : Gd q w (rs ++ qs) := fun s hs => (List.mem_append.1 hs).elim (h s) (k s)
theorem xss_snoc (rs : List RowM) (r : RowM) : xss (rs ++ [r]) = xss rs ++ [r.xs] := by simp [xss]
theorem Gd.xss {q : Int} {w : Nat} {rs qs : List RowM} (h : Gd q w rs) (he : xss rs = xss qs) : Gd q w qs := Gd.of (rs := rs) (qs := qs) he.symm h
section
end
section
end
section
end
section
end
section
end
end Go.Proofs.Ytbhoeaijpnjgdaa

namespace Go.Proofs.Ytbhoeaijpnjgdaa
open Go.RowKit
namespace Vc
end Vc
section
end
end Go.Proofs.Ytbhoeaijpnjgdaa

namespace Go.Proofs.Ytbhoeaijpnjgdaa
open Go.RowKit
section
end
section
end
section
end
end Go.Proofs.Ytbhoeaijpnjgdaa

namespace Go.Proofs.Ytbhoeaijpnjgdaa
open Go.RowKit
section
end
end Go.Proofs.Ytbhoeaijpnjgdaa

namespace Go.Proofs.Ytbhoeaijpnjgdaa
open Go.RowKit
section
end
end Go.Proofs.Ytbhoeaijpnjgdaa

namespace Go.Proofs.Ytbhoeaijpnjgdaa
open Go.RowKit
section
variable {R : Type} [Rg R]
theorem nc_add (a : Nat) : ∀ b : Nat, (Rg.nc (a + b) : R) = Rg.nc a + Rg.nc b
 | 0 => (Rg.add_zero _).symm
 | b + 1 => by rw [← Nat.add_assoc, Rg.nc_succ, Rg.nc_succ, nc_add a b, Rg.add_assoc]
end
section
variable {K : Type} [Fd K]
def dP (f : Po K) : Po K := ⟨fun j => Rg.nc (j + 1) * Po.cf f (j + 1), by
 obtain ⟨n, hn⟩ := f.2
 exact ⟨n, fun j hj => by
  have : Po.cf f (j + 1) = 0 := hn (j + 1) (by omega)
  show Rg.nc (j + 1) * Po.cf f (j + 1) = 0
  rw [this, Rg.mul_zero]⟩⟩
theorem cf_dP (f : Po K) (j : Nat) : Po.cf (dP f) j = Rg.nc (j + 1) * Po.cf f (j + 1) := rfl
theorem dP_add (f g : Po K) : dP (f + g) = dP f + dP g := Po.ext fun j => by rw [Po.cf_add, cf_dP, cf_dP, cf_dP, Po.cf_add, Rg.mul_add]
theorem dP_zero : dP (0 : Po K) = 0 := Po.ext fun j => Rg.mul_zero _
theorem dP_mn_mul (c : K) (i : Nat) (g : Po K) : dP (Po.mn c i * g) = dP (Po.mn c i) * g + Po.mn c i * dP g := by
 have h1 : dP (Po.mn c i) = Po.mn (Rg.nc i * c) (i - 1) := Po.ext fun j => by
  rw [cf_dP, Po.cf_mn, Po.cf_mn]
  by_cases h0 : i = 0
  ·subst h0
   have hz : (Rg.nc 0 : K) = 0 := rfl
   rw [if_neg (by omega), Rg.mul_zero, hz, Rg.zero_mul]; split <;> rfl
  ·by_cases h : j + 1 = i
   ·rw [if_pos h, if_pos (by omega), h]
   ·rw [if_neg h, if_neg (by omega), Rg.mul_zero]
 rw [h1]
 refine Po.ext fun j => ?_
 rw [Po.cf_add, cf_dP, Po.cf_mn_mul, Po.cf_mn_mul, Po.cf_mn_mul, cf_dP]
 by_cases h0 : i = 0
 ·subst h0
  have hz : (Rg.nc 0 : K) = 0 := rfl
  rw [if_neg (by omega), if_neg (by omega), if_neg (by omega), hz, Rg.zero_mul, Rg.zero_mul, Rg.zero_add]
  simp only [Nat.sub_zero]
  grind
 ·by_cases h2 : j + 1 < i
  ·rw [if_pos h2, if_pos (by omega), if_pos (by omega), Rg.mul_zero, Rg.add_zero]
  ·by_cases h3 : j < i
   ·rw [if_neg h2, if_neg (by omega), if_pos h3, show j + 1 = i by omega, Nat.sub_self, show j - (i - 1) = 0 by omega, Rg.add_zero, Rg.mul_assoc]
   ·have e := nc_add (R := K) i (j + 1 - i)
    rw [show i + (j + 1 - i) = j + 1 by omega] at e
    rw [if_neg h2, if_neg (by omega), if_neg h3, e, show j - (i - 1) = j + 1 - i by omega, show j - i + 1 = j + 1 - i by omega]
    grind
theorem dP_mul (f g : Po K) : dP (f * g) = dP f * g + f * dP g := by
 refine Po.ind (P := fun f => dP (f * g) = dP f * g + f * dP g) (by rw [Rg.zero_mul, dP_zero, Rg.zero_mul, Rg.zero_mul, Rg.zero_add]) (fun c n f ih => ?_) f
 rw [Rg.add_mul, dP_add, ih, dP_mn_mul, dP_add]
 grind
end
section
variable {p m : Int} {mod : List Int} [hF : IsF p m mod]
theorem nc_val (k : Nat) : (Rg.nc k : El p m mod).1 = (k : Int) % p := by
 have hp := hF.out.1.1.p2
 have hm := hF.out.1.1.m1
 induction k with
 | zero => exact (Int.zero_emod p).symm
 | succ k ih =>
  rw [Rg.nc_succ, add_val, ih, one_val, addI_rec, show m.toNat = (m.toNat - 1) + 1 by omega, addD]
  have h1 := Int.emod_nonneg (k : Int) (show p ≠ 0 by omega)
  have h2 := Int.emod_lt_of_pos (k : Int) (show 0 < p by omega)
  rw [Int.ediv_eq_zero_of_lt h1 h2, Int.ediv_eq_zero_of_lt (show (0 : Int) ≤ 1 by omega) (show 1 < p by omega), addD_zero, Int.mul_zero, Int.add_zero, Int.emod_emod_of_dvd _ (Int.dvd_refl p), ← Int.add_emod]
  push_cast
  rfl
theorem nc_ne {n : Nat} (h : (n : Int) % p ≠ 0) : (Rg.nc n : El p m mod) ≠ 0 := fun e => h (by rw [← nc_val (m := m) (mod := mod), e]; rfl)
end
end Go.Proofs.Ytbhoeaijpnjgdaa

namespace Go.Proofs.Ytbhoeaijpnjgdaa
open Go.RowKit
theorem IsF.p2 {p m : Int} {mod : List Int} (hF : IsF p m mod) : 2 ≤ p := hF.out.1.1.p2
theorem IsF.m1 {p m : Int} {mod : List Int} (hF : IsF p m mod) : 1 ≤ m := hF.out.1.1.m1
section
variable {p m : Int} {mod : List Int} [hF : IsF p m mod]
theorem all_pow (a : El p m mod) : Rg.pow a (pw p m).toNat = a := by
 have hq := hF.q2
 by_cases h : a = 0
 ·rw [h]; exact Rg.zero_pow (by omega)
 ·have h1 := Fd.Nz.pow (elNz_nz hF.out) h
  rw [elNz_len, Fd.pow_eq] at h1
  have e : (pw p m).toNat = (pw p m - 1).toNat + 1 := by omega
  rw [e, Rg.pow_succ]
  exact (congrArg (fun z => z * a) h1).trans (Rg.one_mul a)
theorem pow_last {x : El p m mod} (hx : x ≠ 0) : Rg.pow x (pw p m - 1).toNat = 1 := by
 have h1 := Fd.Nz.pow (elNz_nz hF.out) hx
 rw [elNz_len, Fd.pow_eq] at h1
 exact h1
theorem all_powk (a : El p m mod) : ∀ k : Nat, Rg.pow a ((pw p m).toNat ^ k) = a
 | 0 => Rg.pow_one a
 | k + 1 => by rw [Nat.pow_succ, Rg.pow_mul, all_powk a k, all_pow]
end
theorem roots_len {K : Type} [Fd K] : ∀ (rs : List K) (f : Po K), rs.Nodup → f ≠ 0 → (∀ a ∈ rs, Po.val f a = 0) → rs.length < Po.len f
 | [], f, _, hf, _ => Po.len_pos hf
 | r :: rs, f, hn, hf, h => by
  obtain ⟨g, hg⟩ := (Po.root_iff f r).1 (h r (List.mem_cons_self ..))
  have hn := List.nodup_cons.1 hn
  have hg0 : g ≠ 0 := fun e => hf (by rw [hg, e, Rg.mul_zero])
  have ih := roots_len rs g hn.2 hg0 (fun a ha => by
   have h1 := h a (List.mem_cons_of_mem _ ha)
   rw [hg, Po.val_mul, Po.val_lin] at h1
   exact (Fd.mul_eq_zero h1).resolve_left (fun e => hn.1 (by have : a = r := Rg.eq_of_sub e; rwa [← this])))
  rw [hg, Po.len_mul (Po.lin_ne r) hg0, Po.len_lin, List.length_cons]
  omega
section
end
section
end
end Go.Proofs.Ytbhoeaijpnjgdaa

set_option maxRecDepth 100000
namespace Go.Proofs.Ytbhoeaijpnjgdaa
open Go.RowKit
theorem Gd.h8 {q : Int} {w N : Nat} {rs : List RowM} (h : Gd q w rs) (hw : w ≤ N) : ∀ r ∈ rs, r.xs.length ≤ N := fun r hr => by have := (h r hr).1; omega
end Go.Proofs.Ytbhoeaijpnjgdaa

set_option maxRecDepth 100000
namespace Go.Proofs.Ytbhoeaijpnjgdaa
open Go.RowKit
theorem slc_Equal_ent : Enters Try.prog 103 := enters_of Try.func103 (by kernel_rfl) (by kernel_rfl)
theorem slc_Equal (A : Option Addr) (n c : Nat) (a : List Int) (hn : n = a.length) (B : Option Addr) (m d : Nat) (b : List Int) (hm : m = b.length) (h9 : a.length ≤ 17592186044415) :
  Pure Try.prog 103 #[.slice A n c, .slice B m d] [ro A (ints a), ro B (ints b)] (isV (.bool (decide (a = b)))) := by
 refine pure_of (args := [.slice A n c, .slice B m d]) 26 Try.func103 rfl rfl rfl slc_Equal_ent ⟨id, id, trivial⟩ (fun w0 => ?_)
 refine tS ?_
 refine tR fun _ _ _ => ?_
 refine pV ?_
 refine tS ?_
 refine tS ?_
 refine tR fun _ _ _ => ?_
 refine pV ?_
 refine sV (rLen rfl rfl) ?_
 refine pV ?_
 refine sV (rLen rfl rfl) ?_
 refine pV ?_
 refine tC rfl (fun h1 => ?_) (fun h1 => ?_)
 ·try simp only [zbA] at h1
  refine tS ?_
  refine tR fun _ _ _ => ?_
  refine pV ?_
  exact tr_ret ⟨trivial, _, _, rfl, ⟨by rw [decide_eq_false (fun h => by rw [h] at hn; omega)], rfl⟩, CSub.nil _, trivial⟩
 ·try simp only [zbA] at h1
  refine tK ?_
  refine tS ?_
  refine tS ?_
  refine tR fun _ _ _ => ?_
  refine pV ?_
  refine sV (rLen rfl rfl) ?_
  refine pV ?_
  refine tB ?_
  refine tr_loop1 (fun (i : Nat) => [(13, .int .i64 i), (0, .slice A n c), (1, .slice B m d), (12, .int .i64 n)]) (fun (i : Nat) => [ro A (ints a), ro B (ints b)]) (fun (i : Nat) => i ≤ a.length ∧ a.take i = b.take i) (fun (i : Nat) => a.length - i) (0) ⟨rfl, rfl, rfl, rfl, trivial⟩ (by first | exact cs _ _ | exact CSub.refl _) (⟨by omega, rfl⟩) (fun i hI => ?_)
  obtain ⟨hi, ht⟩ := hI
  have hll : a.length = b.length := by omega
  refine tS ?_
  refine tR fun _ _ _ => ?_
  refine pV ?_
  refine tS ?_
  refine tC rfl (fun h4 => ?_) (fun h4 => ?_)
  ·try simp only [zbA] at h4
   refine tK ?_
   refine tS ?_
   refine tB ?_
   refine tS ?_
   refine tR fun _ _ _ => ?_
   iterate 2 refine pV ?_
   refine tS ?_
   refine tr_draw [0, 1, 2, 3, 4, 5, 6, 7, 8] [] mixed (by kernel_rfl) fun _ _ _ => ?_
   iterate 2 refine pV ?_
   refine sV (rIdxI rfl rfl rfl (by omega) (by omega) (by omega)) ?_
   refine sV (rLdI rfl rfl (by omega)) ?_
   iterate 2 refine pV ?_
   refine sV (rIdxI rfl rfl rfl (by omega) (by omega) (by omega)) ?_
   refine sV (rLdI rfl rfl (by omega)) ?_
   refine pV ?_
   refine tC rfl (fun h6 => ?_) (fun h6 => ?_)
   ·try simp only [zbA] at h6
    refine tS ?_
    refine tR fun _ _ _ => ?_
    refine pV ?_
    exact tr_ret ⟨trivial, _, _, rfl, ⟨by rw [decide_eq_false (fun h => h6 (by rw [h]))], rfl⟩, CSub.nil _, trivial⟩
   ·try simp only [zbA] at h6
    refine tK ?_
    refine tR fun _ _ _ => ?_
    refine sV (rAdd rfl rfl rfl (by omega) (by omega)) ?_
    refine pV ?_
    refine ⟨i + 1, ⟨rfl, rfl, rfl, rfl, trivial⟩, by first | exact cs _ _ | exact CSub.refl _, ?_⟩
    exact ⟨⟨by omega, take_eq_next 0 a b hll (by omega) ht (by simpa using h6)⟩, by omega⟩
  ·try simp only [zbA] at h4
   refine tE ?_
   refine tS ?_
   refine tR fun _ _ _ => ?_
   refine pV ?_
   have hia : i = a.length := by omega
   rw [hia, List.take_length, hll, List.take_length] at ht
   exact tr_ret ⟨trivial, _, _, rfl, ⟨by rw [decide_eq_true ht], rfl⟩, CSub.nil _, trivial⟩
end Go.Proofs.Ytbhoeaijpnjgdaa

set_option maxRecDepth 100000
namespace Go.Proofs.Ytbhoeaijpnjgdaa
open Go.RowKit
end Go.Proofs.Ytbhoeaijpnjgdaa

set_option maxRecDepth 100000
namespace Go.Proofs.Ytbhoeaijpnjgdaa
open Go.RowKit
section
end
section
variable {p m : Int} {mod : List Int} [hF : IsF p m mod]
theorem C_neg_one (f : Po (El p m mod)) : Po.C (el (-(el 1 : El p m mod)).1 : El p m mod) * f = -f := Po.ext fun j => by rw [Po.cf_C_mul, el_of, el_one, Po.cf_neg]; grind
end
theorem ref_PDegree_ent : Enters Try.prog 24 := enters_of Try.func24 (by kernel_rfl) (by kernel_rfl)
theorem ref_PDegree (p m : Int) (A : Option Addr) (c : Nat) (mod : List Int) [hF : IsF p m mod] (Xa : Option Addr) (na ca : Nat) (a : List Int) (hna : na = a.length) (ha9 : a.length ≤ 17592186044415) :
  Pure Try.prog 24 #[.agg #[.int .i64 p, .int .i64 m, .slice A mod.length c], .slice Xa na ca] [ro A (ints mod), ro Xa (ints a)] (isV (.int .i64 ((Po.len (pol a : Po (El p m mod)) : Int) - 1))) := by
 have hil := il_le (p := p) (m := m) (mod := mod) a
 refine pure_of (args := [.agg #[.int .i64 p, .int .i64 m, .slice A mod.length c], .slice Xa na ca]) 10 Try.func24 rfl rfl rfl ref_PDegree_ent ⟨id, id, trivial⟩ (fun w0 => ?_)
 refine tS ?_
 refine tR fun _ _ _ => ?_
 refine eV (eBox rfl rfl rfl rfl rfl (fun p0 => ?_))
 refine pV ?_
 refine tS ?_
 refine tR fun _ _ _ => ?_
 refine sV (rLdS rfl rfl rfl) ?_
 refine pV ?_
 refine eV (eCall1 rfl rfl rfl (ref_CanonE _ _ _ _ _ _ _ _ a hna (by omega)) ⟨rfl, rfl, trivial⟩ ?_)
 rintro _ _ ⟨B1, c1, rfl, rfl⟩
 refine sV (rLen rfl rfl) ?_
 refine sV (rSub rfl rfl rfl (by omega) (by omega)) ?_
 refine pV ?_
 exact tr_ret ⟨trivial, _, _, rfl, ⟨by rw [il_length], rfl⟩, CSub.nil _, trivial⟩
end Go.Proofs.Ytbhoeaijpnjgdaa

set_option maxRecDepth 100000
namespace Go.Proofs.Ytbhoeaijpnjgdaa
open Go.RowKit
end Go.Proofs.Ytbhoeaijpnjgdaa

set_option maxRecDepth 100000
namespace Go.Proofs.Ytbhoeaijpnjgdaa
open Go.RowKit
end Go.Proofs.Ytbhoeaijpnjgdaa

set_option maxRecDepth 100000
namespace Go.Proofs.Ytbhoeaijpnjgdaa
open Go.RowKit
section
variable {p m : Int} {mod : List Int} [hF : IsF p m mod]
theorem pow_rem {x : El p m mod} (hx : x ≠ 0) (k : Nat) : Rg.pow x (k % (pw p m - 1).toNat) = Rg.pow x k := by
 have h := Nat.div_add_mod k (pw p m - 1).toNat
 have e : Rg.pow x k = Rg.pow x ((pw p m - 1).toNat * (k / (pw p m - 1).toNat) + k % (pw p m - 1).toNat) := by rw [h]
 rw [e, Rg.pow_add, Rg.pow_mul, pow_last hx, Rg.one_pow, Rg.one_mul]
theorem exp_pow {g : GfM} (hg : GOk g p m mod) : ∃ y : El p m mod, y ≠ 0 ∧ ∀ i : Nat, i < g.exp.length → (el (g.exp.getD i 0) : El p m mod) = Rg.pow y i := by
 obtain ⟨x, hx⟩ := hg.gen
 have h1 := hx.x1
 have h2 := hx.x2
 refine ⟨el x, fun e => by rw [el_eq_zero ⟨by omega, h2⟩] at e; omega, fun i hi => El.ext ?_⟩
 have h3 := hx.pow.get i hi
 have h4 := pow_val hF.out (el x) i
 rw [Fd.pow_eq, el_in ⟨by omega, h2⟩] at h4
 have h5 : g.exp.getD i 0 ∈ g.exp := getD_mem hi 0
 have h6 := hx.pow.nz _ h5
 rw [el_in ⟨by omega, h6.2⟩, h3]
 exact h4.symm
end
theorem gf_Field_ent : Enters Try.prog 110 := enters_of Try.func110 (by kernel_rfl) (by kernel_rfl)
theorem gf_Field (g : GfM) (h9 : g.mod.length ≤ 1000000) :
  Pure Try.prog 110 #[.pointer (some g.p)] [gfR g] (one (fun v ch => ∃ B cb, v = .agg #[.int .i64 g.P, .int .i64 g.M, .slice B g.mod.length cb] ∧ ch = ow B 3 cb (ints g.mod))) := by
 refine pure_ofC (args := [.pointer (some g.p)]) 21 Try.func110 rfl rfl rfl gf_Field_ent ⟨id, trivial⟩ (fun w0 => ?_)
 refine tS ?_
 refine tR fun _ _ _ => ?_
 refine eV (eAlloc rfl rfl rfl (fun p0 => ?_))
 refine tS ?_
 refine tr_plan [gfR g] [(2, 0), (2, 1), (2, 2), (2, 3), (2, 4), (2, 5), (2, 6), (2, 7), (2, 8), (2, 9), (0, 11), (0, 12), (0, 13), (0, 14), (0, 15), (0, 10), (1, 16), (0, 17), (1, 18)] mixed (by kernel_rfl) fun _ _ _ => ?_
 refine stF rfl rfl rfl rfl (cs _ _) (rMove rfl rfl) ?_
 refine stF rfl rfl rfl rfl (cs _ _) (rNil rfl rfl) ?_
 refine stF rfl rfl rfl rfl (cs _ _) (rFld rfl rfl) ?_
 refine stF rfl rfl rfl rfl (cs _ _) (rFldN rfl rfl) ?_
 refine stF rfl rfl rfl rfl (cs _ _) (rLdF rfl rfl rfl) ?_
 refine stF rfl rfl rfl rfl (cs _ _) (rMove rfl rfl) ?_
 refine stF rfl rfl rfl rfl (cs _ _) (rNil rfl rfl) ?_
 refine stF rfl rfl rfl rfl (cs _ _) (rFld rfl rfl) ?_
 refine stF rfl rfl rfl rfl (cs _ _) (rFldN rfl rfl) ?_
 refine stF rfl rfl rfl rfl (cs _ _) (rLdF rfl rfl rfl) ?_
 refine pV ?_
 refine sV (rNil rfl rfl) ?_
 refine sV (rFld rfl rfl) ?_
 refine sV (rFldN rfl rfl) ?_
 refine sV (rLdF rfl rfl rfl) ?_
 refine eV (eLit0I rfl rfl rfl  (fun A1 => ?_))
 refine eV (eAppI rfl rfl rfl rfl rfl (by first | rfl | simp | omega) (by first | rfl | simp | omega) (by first | omega | (simp; omega)) (fun A1a c1a => ?_))
 refine ⟨cs _ _, ?_⟩
 refine sV (rBuild rfl rfl) ?_
 refine eV (eStS rfl rfl rfl rfl rfl rfl ?_)
 refine ⟨cs _ _, ?_⟩
 simp only [List.nil_append]
 exact tr_ret ⟨trivial, _, _, (.cell rfl (cellS rfl) .nil), ⟨_, rfl, A1a, c1a, rfl, rfl⟩, cs _ _, trivial, trivial⟩
theorem gf_PowE_ent : Enters Try.prog 62 := enters_of Try.func62 (by kernel_rfl) (by kernel_rfl)
theorem gf_PowE (g : GfM) {p m : Int} {mod : List Int} [hF : IsF p m mod] (hg : GOk g p m mod) (x k : Int) (hk : 0 ≤ k) (hk9 : k ≤ 9223372036854775807) :
  Pure Try.prog 62 #[.pointer (some g.p), .int .i64 x, .int .i64 k] [gfR g] (isV (.tuple #[.int .i64 (Rg.pow (el x : El p m mod) k.toNat).1, .int .i64 0])) := by
 have heq := hg.eq
 have hq2 := hF.q2
 have hq9 := hF.out.1.1.q
 have hix : (el x : El p m mod).1 = inI g.q x := by rw [hg.eq]; rfl
 have hbx := (el x : El p m mod).2
 have hel := hg.elen
 have hll := hg.llen'
 obtain ⟨y, hy0, hy⟩ := exp_pow hg
 refine pure_of (args := [.pointer (some g.p), .int .i64 x, .int .i64 k]) 54 Try.func62 rfl rfl rfl gf_PowE_ent ⟨id, trivial⟩ (fun w0 => ?_)
 refine tS ?_
 refine tR fun _ _ _ => ?_
 iterate 2 refine pV ?_
 refine tS ?_
 refine tR fun _ _ _ => ?_
 iterate 2 refine pV ?_
 refine eV (eCallV rfl rfl rfl (gf_in g _) ⟨rfl, rfl, trivial⟩ ?_)
 refine pV ?_
 refine tS ?_
 refine tB ?_
 refine tS ?_
 refine tR fun _ _ _ => ?_
 iterate 3 refine pV ?_
 refine tC rfl (fun h2 => ?_) (fun h2 => ?_)
 ·try simp only [zbA] at h2
  refine tS ?_
  refine tR fun _ _ _ => ?_
  iterate 2 refine pV ?_
  exact tr_ret ⟨trivial, _, _, rfl, ⟨by rw [show k.toNat = 0 by omega]; rfl, rfl⟩, CSub.nil _, trivial⟩
 ·try simp only [zbA] at h2
  refine tS ?_
  refine tR fun _ _ _ => ?_
  iterate 3 refine pV ?_
  refine stg rfl rfl rfl rfl rfl (fun hb => by (have hq := hb; try simp only [zbA] at hq); exact rMove rfl rfl) ?_
  refine stg rfl rfl rfl rfl rfl (fun hb => by (have hq := hb; try simp only [zbA] at hq); exact rLss rfl (evg rfl hb) rfl) ?_
  refine sV (rAndB rfl rfl rfl rfl) ?_
  refine pV ?_
  refine tC rfl (fun h4 => ?_) (fun h4 => ?_)
  ·try simp only [zbA] at h4
   refine tS ?_
   refine tR fun _ _ _ => ?_
   iterate 2 refine pV ?_
   omega
  ·try simp only [zbA] at h4
   refine tS ?_
   refine tR fun _ _ _ => ?_
   iterate 3 refine pV ?_
   refine tC rfl (fun h6 => ?_) (fun h6 => ?_)
   ·try simp only [zbA] at h6
    refine tS ?_
    refine tR fun _ _ _ => ?_
    iterate 2 refine pV ?_
    exact tr_ret ⟨trivial, _, _, rfl, ⟨by
     have hx0 : (el x : El p m mod) = 0 := (val_zero_iff (el x : El p m mod)).1 (by omega)
     rw [hx0, Rg.zero_pow (by omega)]; rfl, rfl⟩, CSub.nil _, trivial⟩
   ·try simp only [zbA] at h6
    refine tK ?_
    refine tS ?_
    have hx0 : (el x : El p m mod) ≠ 0 := fun e => by
     have := (val_zero_iff (el x : El p m mod)).2 e
     omega
    have hlx := hg.log_spec (y := inI g.q x) (by omega) (by omega)
    have e0 := Int.emod_nonneg k (show g.q - 1 ≠ 0 by omega)
    have e1 := Int.emod_lt_of_pos k (show 0 < g.q - 1 by omega)
    refine tR fun _ _ _ => ?_
    refine pV ?_
    refine sV (rNil rfl rfl) ?_
    refine sV (rFld rfl rfl) ?_
    refine sV (rLdF rfl rfl rfl) ?_
    refine sV (rSub rfl rfl rfl (by omega) (by omega)) ?_
    refine pV ?_
    refine tS ?_
    refine tR fun _ _ _ => ?_
    iterate 2 refine pV ?_
    refine sV (rRem rfl rfl rfl (by omega) (by omega)) ?_
    refine pV ?_
    refine sV (rAdd rfl rfl rfl (by omega) (by omega)) ?_
    refine pV ?_
    refine sV (rRem rfl rfl rfl (by omega) (by omega)) ?_
    refine pV ?_
    refine tS ?_
    have e2 : (k % (g.q - 1) + (g.q - 1)) % (g.q - 1) = k % (g.q - 1) := by rw [Int.add_emod_right, Int.emod_emod_of_dvd _ (Int.dvd_refl _)]
    rw [e2]
    have hmb := mul_bd0 (g.log.getD (inI g.q x).toNat 0) (k % (g.q - 1)) 256 256 (by omega) (by omega) (by omega) (by omega)
    have e3 := Int.emod_nonneg (g.log.getD (inI g.q x).toNat 0 * (k % (g.q - 1))) (show g.q - 1 ≠ 0 by omega)
    have e4 := Int.emod_lt_of_pos (g.log.getD (inI g.q x).toNat 0 * (k % (g.q - 1))) (show 0 < g.q - 1 by omega)
    refine tr_draw [0, 1, 2, 3, 4, 5, 6, 7, 8, 9, 10, 11, 12, 13, 14, 15, 16, 17, 18] [] mixed (by kernel_rfl) fun _ _ _ => ?_
    refine pV ?_
    refine sV (rNil rfl rfl) ?_
    refine sV (rFld rfl rfl) ?_
    refine sV (rLdF rfl rfl rfl) ?_
    refine pV ?_
    refine sV (rNil rfl rfl) ?_
    refine sV (rFld rfl rfl) ?_
    refine sV (rLdF rfl rfl rfl) ?_
    refine pV ?_
    refine sV (rIdxI rfl rfl rfl (by omega) (by omega) (by omega)) ?_
    refine sV (rLdI rfl rfl (by omega)) ?_
    refine pV ?_
    refine sV (rMul rfl rfl rfl (by omega) (by omega)) ?_
    refine pV ?_
    refine sV (rRem rfl rfl rfl (by omega) (by omega)) ?_
    refine sV (rIdxI rfl rfl rfl (by omega) (by omega) (by omega)) ?_
    refine sV (rLdI rfl rfl (by omega)) ?_
    iterate 2 refine pV ?_
    have hfin : g.exp.getD (g.log.getD (inI g.q x).toNat 0 * (k % (g.q - 1)) % (g.q - 1)).toNat 0 = (Rg.pow (el x : El p m mod) k.toNat).1 := by
     have h1 := hy (g.log.getD (inI g.q x).toNat 0 * (k % (g.q - 1)) % (g.q - 1)).toNat (by omega)
     have h2 := hy (g.log.getD (inI g.q x).toNat 0).toNat (by omega)
     rw [hlx.2.2] at h2
     have h3 : (el x : El p m mod) = Rg.pow y (g.log.getD (inI g.q x).toNat 0).toNat := by rw [← h2, ← hix, el_of]
     have hqe : (pw p m - 1).toNat = (g.q - 1).toNat := by rw [heq]
     have h4 : (g.log.getD (inI g.q x).toNat 0 * (k % (g.q - 1)) % (g.q - 1)).toNat = ((g.log.getD (inI g.q x).toNat 0).toNat * (k.toNat % (pw p m - 1).toNat)) % (pw p m - 1).toNat := by
      rw [hqe]
      obtain ⟨a, ha⟩ := Int.eq_ofNat_of_zero_le (show 0 ≤ g.log.getD (inI g.q x).toNat 0 by omega)
      obtain ⟨b, hb⟩ := Int.eq_ofNat_of_zero_le hk
      obtain ⟨c, hc⟩ := Int.eq_ofNat_of_zero_le (show 0 ≤ g.q - 1 by omega)
      rw [ha, hb, hc, ← Int.natCast_emod, ← Int.natCast_mul, ← Int.natCast_emod]
      simp only [Int.toNat_natCast]
     rw [h4, pow_rem hy0, Rg.pow_mul, ← h3, pow_rem hx0] at h1
     have h5 : g.exp.getD ((g.log.getD (inI g.q x).toNat 0).toNat * (k.toNat % (pw p m - 1).toNat) % (pw p m - 1).toNat) 0 ∈ g.exp := getD_mem (by rw [← h4]; omega) 0
     obtain ⟨z, hz⟩ := hg.gen
     have h6 := hz.pow.nz _ h5
     rw [← h1, el_in ⟨by omega, h6.2⟩, h4]
    exact tr_ret ⟨trivial, _, _, rfl, ⟨by rw [hfin], rfl⟩, CSub.nil _, trivial⟩
end Go.Proofs.Ytbhoeaijpnjgdaa

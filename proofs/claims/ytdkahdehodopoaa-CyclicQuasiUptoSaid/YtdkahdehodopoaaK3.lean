/-
  CYCLICQUASI, PART 3 OF 8. One sentence: the texts behind the law CyclicQuasi, put together.
  Conditions: each theorem's own, written out in it.
-/
import Derived.ProofKit
import Derived.Deep.Slices
import Derived.SizedLaws
import Derived.OpenShut
import Derived.ShutString
import Derived.ChangeOld
import Derived.Test.YtdkahdehodopoaaK2
set_option linter.unusedSimpArgs false
set_option linter.unusedVariables false
set_option linter.unusedSectionVars false
namespace Go.Proofs.Ytdkahdehodopoaa
def rl (l : List Int) : Row := fun j => l.getD j 0
theorem rl_sup (l : List Int) : Sup l.length (rl l) := fun j hj => by
 simp only [rl]; rw [List.getD_eq_getElem?_getD, List.getElem?_eq_none hj]; rfl
def rv (p : Int) (M : Nat) (u : Row) : Int := vl p ((List.range M).map (fun j => u j % p))
def dg (p : Int) (M : Nat) (x : Int) : Row := rl (digs p M x)
theorem dg_sup (p : Int) (M : Nat) (x : Int) : Sup M (dg p M x) := by
 have := rl_sup (digs p M x)
 rwa [digs_length] at this
theorem digs_vl {p : Int} (hp : 2 ≤ p) : ∀ (l : List Int), AllIn p l → digs p l.length (vl p l) = l
 | [], _ => rfl
 | d :: ds, h => by
  have h1 := h d (by simp)
  have h2 : (d + p * vl p ds) % p = d := by
   rw [Int.add_mul_emod_self_left]
   exact Int.emod_eq_of_lt h1.1 h1.2
  have h3 : (d + p * vl p ds) / p = vl p ds := by
   rw [Int.add_mul_ediv_left _ _ (by omega)]
   have : d / p = 0 := Int.ediv_eq_zero_of_lt h1.1 h1.2
   omega
  simp only [vl, List.length_cons, digs, h2, h3, digs_vl hp ds (fun c hc => h c (by simp [hc]))]
theorem vl_digs {p : Int} (hp : 2 ≤ p) : ∀ (M : Nat) (x : Int), 0 ≤ x → x < p ^ M → vl p (digs p M x) = x
 | 0, x, h0, h1 => by simp at h1; simp [vl, digs]; omega
 | M + 1, x, h0, h1 => by
  have h2 : x / p < p ^ M := Int.ediv_lt_of_lt_mul (by omega) (by rwa [Int.pow_succ] at h1)
  simp only [digs, vl, vl_digs hp M (x / p) (Int.ediv_nonneg h0 (by omega)) h2]
  have := Int.mul_ediv_add_emod x p
  omega
theorem rv_cong {p : Int} {M : Nat} {u v : Row} (h : ∀ j, j < M → u j % p = v j % p) : rv p M u = rv p M v := by
 unfold rv
 congr 1
 apply List.map_congr_left
 intro j hj
 exact h j (List.mem_range.1 hj)
theorem rv_cg {p : Int} {M : Nat} {u v : Row} (h : Cg p u v) : rv p M u = rv p M v := rv_cong fun j _ => h.emod j
theorem rv_bd {p : Int} (hp : 2 ≤ p) (M : Nat) (u : Row) : 0 ≤ rv p M u ∧ rv p M u < p ^ M := by
 have h := vl_in (p := p) (by omega) ((List.range M).map (fun j => u j % p)) (fun c hc => by
  obtain ⟨j, _, rfl⟩ := List.mem_map.1 hc
  exact ⟨Int.emod_nonneg _ (by omega), Int.emod_lt_of_pos _ (by omega)⟩)
 simpa [rv] using h
theorem dg_rv {p : Int} (hp : 2 ≤ p) (M : Nat) (u : Row) (j : Nat) (hj : j < M) : dg p M (rv p M u) j = u j % p := by
 have h := digs_vl hp ((List.range M).map (fun j => u j % p)) (fun c hc => by
  obtain ⟨j, _, rfl⟩ := List.mem_map.1 hc
  exact ⟨Int.emod_nonneg _ (by omega), Int.emod_lt_of_pos _ (by omega)⟩)
 simp only [List.length_map, List.length_range] at h
 simp only [dg, rl, rv, h]
 rw [List.getD_eq_getElem?_getD, List.getElem?_map, List.getElem?_range hj]
 rfl
theorem dg_rv_cg {p : Int} (hp : 2 ≤ p) {M : Nat} {u : Row} (hu : Sup M u) : Cg p (dg p M (rv p M u)) u := Cg.of fun j => by
 by_cases hj : j < M
 ·rw [dg_rv hp M u j hj, Int.emod_emod]
 ·rw [dg_sup p M _ j (by omega), hu j (by omega)]
theorem rv_dg {p : Int} (hp : 2 ≤ p) {M : Nat} {x : Int} (h0 : 0 ≤ x) (h1 : x < p ^ M) : rv p M (dg p M x) = x := by
 have h : (List.range M).map (fun j => dg p M x j % p) = digs p M x := by
  apply List.ext_getElem
  ·simp [digs_length]
  ·intro i h2 h3
   have h4 := (digs_in (p := p) (by omega) M x) _ (List.getElem_mem h3)
   have h5 : dg p M x i = (digs p M x)[i] := by
    simp only [dg, rl]
    rw [List.getD_eq_getElem?_getD, List.getElem?_eq_getElem h3]; rfl
   simp only [List.getElem_map, List.getElem_range, h5]
   exact Int.emod_eq_of_lt h4.1 h4.2
 unfold rv
 rw [h]
 exact vl_digs hp M x h0 h1
theorem dg_zero {p : Int} (hp : 2 ≤ p) (M : Nat) : dg p M 0 = Row.z := by
 have : ∀ M, digs p M 0 = List.replicate M 0 := fun M => by
  induction M with
  | zero => rfl
  | succ M ih => simp [digs, ih, List.replicate_succ]
 funext j
 simp only [dg, rl, this, Row.z]
 rw [List.getD_eq_getElem?_getD, List.getElem?_replicate]
 split <;> rfl
theorem dg_one {p : Int} (hp : 2 ≤ p) {M : Nat} (hM : 1 ≤ M) : dg p M 1 = ee 0 := by
 obtain ⟨k, rfl⟩ : ∃ k, M = k + 1 := ⟨M - 1, by omega⟩
 have h1 : (1 : Int) % p = 1 := Int.emod_eq_of_lt (by omega) (by omega)
 have h2 : (1 : Int) / p = 0 := Int.ediv_eq_zero_of_lt (by omega) (by omega)
 have h3 := dg_zero hp k
 funext j
 simp only [dg, rl, digs, h1, h2, ee]
 cases j with
 | zero => rfl
 | succ j =>
  have := congrFun h3 j
  simp only [dg, rl, Row.z] at this
  simpa using this
theorem pl_cons {T : Row → Row} (h : Lin T) : ∀ (n : Nat) (Q v : Row), pl T (n + 1) Q v = (Row.sm (Q 0) v).add (T (pl T n (fun i => Q (i + 1)) v))
 | 0, Q, v => by simp only [pl, h.z, Row.add_z, Row.z_add]; rfl
 | n + 1, Q, v => by
  rw [pl, pl_cons h n Q v]
  simp only [pl, h.add, h.sm, it, Row.add_assoc]
theorem hmulL_row (p : Int) (low a : List Int) (M : Nat) (hlow : low.length ≤ M) (ha : a.length = M) : ∀ (bs : List Int), Cg p (rl (hmulL p low a M bs)) (pl (tm M (rl low)) bs.length (rl bs) (rl a))
 | [] => Cg.of_eq (by
   funext j
   simp only [hmulL, rl, pl, Row.z, List.length_nil]
   rw [List.getD_eq_getElem?_getD, List.getElem?_replicate]; split <;> rfl)
 | b :: bs => by
  have ih := hmulL_row p low a M hlow ha bs
  have hT := tm_lin M (rl low)
  rw [List.length_cons, pl_cons hT]
  have h1 : (fun i => rl (b :: bs) (i + 1)) = rl bs := by funext i; simp [rl]
  have h2 : rl (b :: bs) 0 = b := rfl
  rw [h1, h2]
  refine Cg.trans ?_ (Cg.add (Cg.refl p (Row.sm b (rl a))) (Cg.lin hT ih))
  have hl := hmulL_length p low a M bs
  refine Cg.of fun j => ?_
  by_cases hj : j < M
  ·have h3 : rl (hmulL p low a M (b :: bs)) j = hent p low a (hmulL p low a M bs) b j := by
    simp only [rl, hmulL, hstep]
    rw [List.getD_eq_getElem?_getD, List.getElem?_map, List.getElem?_range (by omega)]
    rfl
   rw [h3]
   unfold hent
   simp only [Row.add, Row.sm, tm, if_pos hj, Int.emod_emod, hl]
   have h4 : hprev (hmulL p low a M bs) j = sh (rl (hmulL p low a M bs)) j := by
    simp only [hprev, sh, rl]
   rw [h4]
   simp only [rl]
   generalize sh _ j = s
   generalize (hmulL p low a M bs).getD (M - 1) 0 = t
   generalize low.getD j 0 = l
   generalize b * a.getD j 0 = e
   have h5 : s + (p - t) * l + e = (e + (s - t * l)) + p * l := by grind
   rw [h5, Int.add_mul_emod_self_left]
  ·have h3 : rl (hmulL p low a M (b :: bs)) j = 0 := by
    have := rl_sup (hmulL p low a M (b :: bs)) j (by rw [hmulL_length]; omega)
    exact this
   have h4 : rl a j = 0 := rl_sup a j (by omega)
   rw [h3]
   simp only [Row.add, Row.sm, h4, tm, if_neg hj]
   simp
theorem mulI_eq {p m : Int} {mod : List Int} (h : Shp p m mod) (x y : Int) : mulI p m mod x y = rv p m.toNat (rm m.toNat (rl mod) (dg p m.toNat x) (dg p m.toNat y)) := by
 have hp := h.p2
 have hm := h.m1
 have hlow : mod.length ≤ m.toNat := by
  rcases h.low with h1 | h1
  ·rw [h1.2]; simp
  ·omega
 have h1 := hmulL_row p mod (digs p m.toNat x) m.toNat hlow (digs_length p m.toNat x) (digs p m.toNat y)
 rw [digs_length] at h1
 show mulI p m mod x y = rv p m.toNat (pl (tm m.toNat (rl mod)) m.toNat (rl (digs p m.toNat y)) (rl (digs p m.toNat x)))
 rw [← rv_cg (M := m.toNat) h1]
 have h2 := hmulL_in (p := p) (by omega) mod (digs p m.toNat x) m.toNat (digs p m.toNat y)
 have h3 := hmulL_length p mod (digs p m.toNat x) m.toNat (digs p m.toNat y)
 unfold mulI rv
 congr 1
 apply List.ext_getElem
 ·simp [h3]
 ·intro i h4 h5
  have h6 := h2 _ (List.getElem_mem h4)
  simp only [List.getElem_map, List.getElem_range, rl]
  rw [List.getD_eq_getElem?_getD, List.getElem?_eq_getElem h4]
  exact (Int.emod_eq_of_lt h6.1 h6.2).symm
section
variable {p m : Int} {mod : List Int}
theorem mulI_cg (h : Shp p m mod) (x y : Int) : Cg p (dg p m.toNat (mulI p m mod x y)) (rm m.toNat (rl mod) (dg p m.toNat x) (dg p m.toNat y)) := by
 rw [mulI_eq h]
 exact dg_rv_cg h.p2 (rm_sup (dg_sup _ _ _))
theorem rm_cg {M : Nat} {low a a' b b' : Row} (ha : Cg p a a') (hb : Cg p b b') : Cg p (rm M low a b) (rm M low a' b') := Cg.pl (tm_lin M low) M hb ha
theorem mulI_comm (h : Shp p m mod) (x y : Int) : mulI p m mod x y = mulI p m mod y x := by
 rw [mulI_eq h, mulI_eq h, rm_comm (dg_sup _ _ _) (dg_sup _ _ _)]
theorem mulI_assoc (h : Shp p m mod) (x y z : Int) : mulI p m mod (mulI p m mod x y) z = mulI p m mod x (mulI p m mod y z) := by
 rw [mulI_eq h (mulI p m mod x y) z, mulI_eq h x (mulI p m mod y z)]
 refine rv_cg ?_
 refine Cg.trans (rm_cg (mulI_cg h x y) (Cg.refl _ _)) ?_
 rw [rm_assoc (dg_sup _ _ _) (dg_sup _ _ _) (dg_sup _ _ _)]
 exact rm_cg (Cg.refl _ _) (mulI_cg h y z).symm
theorem mulI_one (h : Shp p m mod) {x : Int} (h0 : 0 ≤ x) (h1 : x < pw p m) : mulI p m mod 1 x = x := by
 have hm := h.m1
 rw [mulI_eq h, dg_one h.p2 (by omega), rm_one (dg_sup _ _ _) (by omega)]
 exact rv_dg h.p2 h0 h1
theorem mulI_zero (h : Shp p m mod) (x : Int) : mulI p m mod 0 x = 0 := by
 rw [mulI_eq h, dg_zero h.p2]
 have h1 : rm m.toNat (rl mod) Row.z (dg p m.toNat x) = Row.z := pl_z (tm_lin _ _) _ _
 rw [h1, ← dg_zero h.p2 m.toNat]
 exact rv_dg h.p2 (by omega) (Int.pow_pos (by have := h.p2; omega))
def addI (p m : Int) (x y : Int) : Int := rv p m.toNat ((dg p m.toNat x).add (dg p m.toNat y))
def negI (p m : Int) (x : Int) : Int := rv p m.toNat (Row.sm (-1) (dg p m.toNat x))
theorem addI_cg (hp : 2 ≤ p) (x y : Int) : Cg p (dg p m.toNat (addI p m x y)) ((dg p m.toNat x).add (dg p m.toNat y)) := dg_rv_cg hp (sup_add (dg_sup _ _ _) (dg_sup _ _ _))
theorem addI_comm (x y : Int) : addI p m x y = addI p m y x := by unfold addI; rw [Row.add_comm]
theorem addI_assoc (hp : 2 ≤ p) (x y z : Int) : addI p m (addI p m x y) z = addI p m x (addI p m y z) := by
 unfold addI
 refine rv_cg ?_
 refine Cg.trans (Cg.add (addI_cg hp x y) (Cg.refl _ _)) ?_
 rw [Row.add_assoc]
 exact Cg.add (Cg.refl _ _) (addI_cg hp y z).symm
theorem addI_zero (hp : 2 ≤ p) {x : Int} (h0 : 0 ≤ x) (h1 : x < pw p m) : addI p m 0 x = x := by
 unfold addI
 rw [dg_zero hp, Row.z_add]
 exact rv_dg hp h0 h1
theorem addI_neg (hp : 2 ≤ p) (x : Int) : addI p m x (negI p m x) = 0 := by
 have h : Cg p ((dg p m.toNat x).add (dg p m.toNat (negI p m x))) Row.z := by
  refine Cg.trans (Cg.add (Cg.refl _ _) (dg_rv_cg hp (sup_sm _ (dg_sup _ _ _)))) (Cg.of_eq ?_)
  funext j; simp only [Row.add, Row.sm, Row.z]; omega
 unfold addI
 rw [rv_cg h, ← dg_zero hp m.toNat]
 exact rv_dg hp (by omega) (Int.pow_pos (by omega))
theorem mulI_add (h : Shp p m mod) (x y z : Int) : mulI p m mod (addI p m x y) z = addI p m (mulI p m mod x z) (mulI p m mod y z) := by
 rw [mulI_eq h]
 unfold addI
 refine rv_cg ?_
 refine Cg.trans (rm_cg (dg_rv_cg h.p2 (sup_add (dg_sup _ _ _) (dg_sup _ _ _))) (Cg.refl _ _)) ?_
 rw [rm_addL]
 exact Cg.add (mulI_cg h x z).symm (mulI_cg h y z).symm
theorem pwI_bd (h : Shp p m mod) {x : Int} (hx : 0 ≤ x ∧ x < pw p m) : ∀ n, 0 ≤ pwI p m mod x n ∧ pwI p m mod x n < pw p m
 | 0 => by have := h.q2; simp only [pwI]; omega
 | 1 => hx
 | n + 2 => mulI_bd h _ _
theorem pwI_succ (h : Shp p m mod) {x : Int} (hx : 0 ≤ x ∧ x < pw p m) : ∀ n, pwI p m mod x (n + 1) = mulI p m mod (pwI p m mod x n) x
 | 0 => (mulI_one h hx.1 hx.2).symm
 | n + 1 => rfl
theorem pwI_add (h : Shp p m mod) {x : Int} (hx : 0 ≤ x ∧ x < pw p m) (i : Nat) : ∀ j, pwI p m mod x (i + j) = mulI p m mod (pwI p m mod x i) (pwI p m mod x j)
 | 0 => by
  have := pwI_bd h hx i
  rw [show pwI p m mod x 0 = 1 from rfl, mulI_comm h, mulI_one h this.1 this.2]
  rfl
 | j + 1 => by rw [← Nat.add_assoc, pwI_succ h hx, pwI_add h hx i j, mulI_assoc h, ← pwI_succ h hx]
theorem IsGen.all {x : Int} {l : List Int} (hg : IsGen p m mod x l) {y : Int} (h0 : 0 < y) (h1 : y < pw p m) : y ∈ l := by
 refine Classical.byContradiction fun hy => ?_
 have h2 := nodup_len' (q := pw p m) (y :: l) (List.nodup_cons.2 ⟨hy, hg.pow.nodup⟩) (fun z hz => by
  rcases List.mem_cons.1 hz with rfl | hz
  ·exact ⟨h0, h1⟩
  ·exact hg.pow.nz z hz) (by omega)
 have h3 := hg.len
 simp only [List.length_cons] at h2
 omega
theorem IsGen.mem_pw {x : Int} {l : List Int} (hg : IsGen p m mod x l) {y : Int} (hy : y ∈ l) : ∃ i, i < l.length ∧ y = pwI p m mod x i := by
 obtain ⟨i, hi, rfl⟩ := List.getElem_of_mem hy
 have h := hg.pow.get i hi
 rw [List.getD_eq_getElem?_getD, List.getElem?_eq_getElem hi] at h
 exact ⟨i, hi, h⟩
theorem IsGen.pw_mem (hs : Shp p m mod) {x : Int} {l : List Int} (hg : IsGen p m mod x l) : ∀ n, pwI p m mod x n ∈ l := by
 have hx : 0 ≤ x ∧ x < pw p m := ⟨by have := hg.x1; omega, hg.x2⟩
 have h1 := hg.len
 have h2 := hg.pow.one
 have at_ : ∀ i, i < l.length → pwI p m mod x i ∈ l := fun i hi => by
  rw [← hg.pow.get i hi, List.getD_eq_getElem?_getD, List.getElem?_eq_getElem hi]
  exact List.getElem_mem hi
 intro n
 induction n with
 | zero => exact at_ 0 (by omega)
 | succ n ih =>
  obtain ⟨i, hi, he⟩ := hg.mem_pw ih
  rw [pwI_succ hs hx, he]
  by_cases hil : i + 1 < l.length
  ·rw [← pwI_succ hs hx]; exact at_ _ hil
  ·have hie : i = (pw p m - 2).toNat := by omega
   rw [← hg.pow.get i hi, hie, hg.last]
   exact at_ 0 (by omega)
theorem IsGen.no_zero (hs : Shp p m mod) {x : Int} {l : List Int} (hg : IsGen p m mod x l) {u v : Int} (hu : 0 < u ∧ u < pw p m) (hv : 0 < v ∧ v < pw p m) : mulI p m mod u v ≠ 0 := by
 have hx : 0 ≤ x ∧ x < pw p m := ⟨by have := hg.x1; omega, hg.x2⟩
 obtain ⟨i, _, rfl⟩ := hg.mem_pw (hg.all hu.1 hu.2)
 obtain ⟨j, _, rfl⟩ := hg.mem_pw (hg.all hv.1 hv.2)
 rw [← pwI_add hs hx]
 have := hg.pow.nz _ (hg.pw_mem hs (i + j))
 omega
end
def gF (low : List Int) : Row := rl (low ++ [1])
theorem gF_sup (low : List Int) : Sup (low.length + 1) (gF low) := by
 have := rl_sup (low ++ [1])
 rw [List.length_append] at this
 exact this
theorem gF_lo (low : List Int) {k : Nat} (h : k < low.length) : gF low k = low.getD k 0 := by
 simp only [gF, rl, List.getD_eq_getElem?_getD, List.getElem?_append_left h]
theorem gF_top (low : List Int) : gF low low.length = 1 := by
 simp [gF, rl, List.getD_eq_getElem?_getD]
theorem dstep_row {p : Int} {low r : List Int} {n : Nat} (hr : low.length + n < r.length) : Cg p (rl r) ((rl (dstep p low r (low.length + n))).add (Row.sm (r.getD (low.length + n) 0) (it sh n (gF low)))) := Cg.of fun k => by
 simp only [Row.add, Row.sm, it_sh]
 by_cases hk : k < r.length
 ·have h1 : rl (dstep p low r (low.length + n)) k = dent p low r (low.length + n) k := by
   simp only [rl, dstep]
   rw [List.getD_eq_getElem?_getD, List.getElem?_map, List.getElem?_range hk]
   rfl
  rw [h1]
  unfold dent
  by_cases h2 : k = low.length + n
  ·subst h2
   rw [if_pos rfl, if_neg (by omega), show low.length + n - n = low.length by omega, gF_top]
   simp only [rl]
   congr 1
   omega
  ·rw [if_neg h2]
   by_cases h3 : k < n
   ·rw [if_pos h3, if_neg (by omega)]
    simp only [rl]
    congr 1
    omega
   ·rw [if_neg h3]
    by_cases h4 : k < low.length + n
    ·rw [if_pos ⟨by omega, h4⟩, gF_lo low (by omega), show k + low.length - (low.length + n) = k - n by omega]
     simp only [rl]
     generalize r.getD k 0 = a
     generalize r.getD (low.length + n) 0 = c
     generalize low.getD (k - n) 0 = l
     rw [Int.emod_add_emod]
     have : a + (p - c) * l + c * l = a + p * l := by grind
     rw [this, Int.add_mul_emod_self_left]
    ·rw [if_neg (by omega), gF_sup low (k - n) (by omega)]
     simp only [rl]
     congr 1
     omega
 ·have h1 : rl (dstep p low r (low.length + n)) k = 0 := rl_sup _ k (by rw [dstep_length]; omega)
  have h2 : rl r k = 0 := rl_sup _ k (by omega)
  rw [h1, h2, if_neg (by omega), gF_sup low (k - n) (by omega)]
  simp
theorem dloop_row {p : Int} {low : List Int} : ∀ (n : Nat) (r : List Int), low.length + n ≤ r.length → ∃ Q : Row, Sup n Q ∧ Cg p (rl r) ((rl (dloop p low n r)).add (pl sh n Q (gF low))) ∧ (1 ≤ n → Q (n - 1) = r.getD (low.length + n - 1) 0)
 | 0, r, _ => ⟨Row.z, fun _ _ => rfl, Cg.of_eq (by simp only [dloop, pl, Row.add_z]), fun h => by omega⟩
 | n + 1, r, h => by
  have hsl := dstep_length p low r (low.length + n)
  obtain ⟨Q, h1, h2, _⟩ := dloop_row (p := p) (low := low) n (dstep p low r (low.length + n)) (by omega)
  have hQ : ∀ i, (fun i => if i < n then Q i else if i = n then r.getD (low.length + n) 0 else 0 : Row) i = if i < n then Q i else if i = n then r.getD (low.length + n) 0 else 0 := fun _ => rfl
  generalize (fun i => if i < n then Q i else if i = n then r.getD (low.length + n) 0 else 0 : Row) = Q2 at hQ
  refine ⟨Q2, fun j hj => by rw [hQ, if_neg (by omega), if_neg (by omega)], ?_, fun _ => by rw [hQ, if_neg (by omega), if_pos (by omega)]; rfl⟩
  refine Cg.trans (dstep_row (p := p) (low := low) (r := r) (n := n) (by omega)) ?_
  refine Cg.trans (Cg.add h2 (Cg.refl _ _)) (Cg.of_eq ?_)
  have h3 : pl sh n Q2 (gF low) = pl sh n Q (gF low) := pl_cong n _ _ _ (fun i hi => by rw [hQ, if_pos hi])
  have h4 : Q2 n = r.getD (low.length + n) 0 := by rw [hQ, if_neg (by omega), if_pos rfl]
  rw [Row.add_assoc, dloop, pl, h3, h4]
theorem fF_rl {mod : List Int} : rl (mod ++ [1]) = fF mod.length (rl mod) := by
 funext j
 simp only [rl, fF]
 by_cases h : j < mod.length
 ·rw [if_pos h, List.getD_eq_getElem?_getD, List.getElem?_append_left h, List.getD_eq_getElem?_getD]
 ·rw [if_neg h]
  by_cases h2 : j = mod.length
  ·subst h2; simp [List.getD_eq_getElem?_getD]
  ·rw [if_neg h2, List.getD_eq_getElem?_getD, List.getElem?_eq_none (by simp; omega)]; rfl
theorem ne_zero_row {p : Int} (hp : 2 ≤ p) {M : Nat} {u : Row} {k : Nat} (hk : k < M) (hu : u k % p ≠ 0) : 0 < rv p M u := by
 have h0 := (rv_bd hp M u).1
 have h3 : rv p M u ≠ 0 := fun e => hu (by
  have h1 := dg_rv hp M u k hk
  rw [e, dg_zero hp] at h1
  exact h1.symm)
 omega
theorem irr_of_gen {p m : Int} {mod : List Int} (hs : Shp p m mod) (hm : 2 ≤ m) {x : Int} {l : List Int} (hg : IsGen p m mod x l) : Irr p mod := by
 intro d hd hd2 v hv0 hv1
 have hp := hs.p2
 have hml : (mod.length : Int) = m := by
  rcases hs.low with h | h
  ·omega
  ·exact h.2
 have hM : m.toNat = mod.length := by omega
 cases hb : bDiv p (digs p d v) mod with
 | false => rfl
 | true =>
  exfalso
  have hlen := digs_length p d v
  generalize hlo : digs p d v = low at hb hlen
  obtain ⟨Q, hQ, hc, htop⟩ := dloop_row (p := p) (low := low) (mod.length + 1 - low.length) (mod ++ [1]) (by simp; omega)
  have hz : rl (dloop p low (mod.length + 1 - low.length) (mod ++ [1])) = Row.z := by
   funext j
   unfold bDiv divL at hb
   rw [List.all_eq_true] at hb
   simp only [rl, Row.z]
   by_cases hj : j < (dloop p low (mod.length + 1 - low.length) (mod ++ [1])).length
   ·rw [List.getD_eq_getElem?_getD, List.getElem?_eq_getElem hj]
    simpa using hb _ (List.getElem_mem hj)
   ·rw [List.getD_eq_getElem?_getD, List.getElem?_eq_none (by omega)]; rfl
  rw [hz, Row.z_add, fF_rl] at hc
  have htop' := htop (by omega)
  rw [show low.length + (mod.length + 1 - low.length) - 1 = mod.length by omega] at htop'
  have htop2 : (mod ++ [(1 : Int)]).getD mod.length 0 = 1 := by simp [List.getD_eq_getElem?_getD]
  rw [htop2] at htop'
  -- the two residues
  have hgs : Sup mod.length (gF low) := fun j hj => gF_sup low j (by omega)
  have hQs : Sup mod.length Q := fun j hj => hQ j (by omega)
  have hu : 0 < rv p mod.length (gF low) := ne_zero_row hp (k := low.length) (by omega) (by rw [gF_top, Int.emod_eq_of_lt (by omega) (by omega)]; omega)
  have hw : 0 < rv p mod.length Q := ne_zero_row hp (k := mod.length + 1 - low.length - 1) (by omega) (by rw [htop', Int.emod_eq_of_lt (by omega) (by omega)]; omega)
  have hu2 := (rv_bd hp mod.length (gF low)).2
  have hw2 := (rv_bd hp mod.length Q).2
  have hpw : pw p m = p ^ mod.length := by unfold pw; rw [hM]
  refine hg.no_zero hs ⟨hu, by rw [hpw]; exact hu2⟩ ⟨hw, by rw [hpw]; exact hw2⟩ ?_
  rw [mulI_eq hs, hM]
  have h1 : Cg p (rm mod.length (rl mod) (dg p mod.length (rv p mod.length (gF low))) (dg p mod.length (rv p mod.length Q))) Row.z := by
   refine Cg.trans (rm_cg (dg_rv_cg hp hgs) (dg_rv_cg hp hQs)) ?_
   have hT := tm_lin mod.length (rl mod)
   unfold rm
   rw [pl_bound' hQ _ (by omega)]
   have h2 : gF low = pl (tm mod.length (rl mod)) (low.length + 1) (gF low) (ee 0) := by
    rw [pl_tm_e (low := rl mod) (gF low) (low.length + 1) (by omega)]
    funext j
    split
    ·rfl
    ·exact gF_sup low j (by omega)
   rw [h2, ← pl_mul hT (gF_sup low) Q (ee 0) (mod.length - low.length) (mod.length + 1 - low.length) (by omega), show low.length + 1 + (mod.length - low.length) = mod.length + 1 by omega]
   refine Cg.trans (Cg.pl hT _ hc.symm (Cg.refl _ _)) (Cg.of_eq (fF_e (by omega)))
  rw [rv_cg h1, ← dg_zero hp mod.length]
  exact rv_dg hp (by omega) (Int.pow_pos (by omega))
theorem fldR_of_N {p m : Int} {mod : List Int} (h : FldN p m mod) : FldR p m mod := by
 obtain ⟨hs, x, l, hg⟩ := h
 refine ⟨hs, ?_⟩
 by_cases hm : m = 1
 ·exact .inl hm
 ·exact .inr (irr_of_gen hs.1 (by have := hs.1.m1; omega) hg)
end Go.Proofs.Ytdkahdehodopoaa

namespace Go.Proofs.Ytdkahdehodopoaa
theorem least_nat {P : Nat → Prop} (h : ∃ n, P n) : ∃ n, P n ∧ ∀ k, k < n → ¬ P k := by
 obtain ⟨n, hn⟩ := h
 induction n using Nat.strongRecOn with
 | _ n ih =>
  by_cases h : ∃ k, k < n ∧ P k
  ·obtain ⟨k, hk, hp⟩ := h
   exact ih k hk hp
  ·exact ⟨n, hn, fun k hk hp => h ⟨k, hk, hp⟩⟩
theorem prime_inv {p c : Int} (hp : IsP p) (hc : c % p ≠ 0) : ∃ u : Int, (u * c) % p = 1 := by
 have h2 := hp.1
 have hg : Int.gcd c p = 1 := by
  have h0 : (Int.gcd c p : Int) ∣ p := Int.gcd_dvd_right ..
  have h1 : (Int.gcd c p : Int) ∣ c := Int.gcd_dvd_left ..
  have hle : (Int.gcd c p : Int) ≤ p := Int.le_of_dvd (by omega) h0
  have hne0 : Int.gcd c p ≠ 0 := fun h => by
   rw [h] at h0
   have := Int.zero_dvd.1 h0
   omega
  rcases Nat.lt_or_ge (Int.gcd c p) 2 with h3 | h3
  ·omega
  ·exfalso
   by_cases h4 : (Int.gcd c p : Int) < p
   ·exact hp.2 _ (by omega) h4 (Int.emod_eq_zero_of_dvd h0)
   ·have h5 : (Int.gcd c p : Int) = p := by omega
    rw [h5] at h1
    exact hc (Int.emod_eq_zero_of_dvd h1)
 obtain ⟨u, hu⟩ := inverse (by omega) hg
 exact ⟨u, by rw [hu, Int.emod_eq_of_lt (by omega) (by omega)]⟩
theorem cg_z {p : Int} {u : Row} (h : ∀ j, u j % p = 0) : Cg p u Row.z := Cg.of fun j => by rw [h j]; rfl
theorem cg_z_emod {p : Int} {u : Row} (h : Cg p u Row.z) (j : Nat) : u j % p = 0 := by rw [h.emod j]; rfl
theorem it_sh_e : ∀ k, it sh k (ee 0) = ee k
 | 0 => rfl
 | k + 1 => by simp only [it, it_sh_e k, sh_ee]
theorem pl_sh_e (a : Row) : ∀ n, pl sh n a (ee 0) = fun j => if j < n then a j else 0
 | 0 => by funext j; simp [pl, Row.z]
 | n + 1 => by
  funext j
  have h3 := pl_sh_e a n
  have h4 := it_sh_e n
  simp only [pl, h3, h4, Row.add, Row.sm, ee]
  by_cases h1 : j < n
  ·rw [if_pos h1, if_neg (by omega), if_pos (by omega)]; omega
  ·by_cases h2 : j = n
   ·rw [if_neg h1, if_pos h2, if_pos (by omega), h2]; omega
   ·rw [if_neg h1, if_neg h2, if_neg (by omega)]; omega
theorem pl_sh_self {n : Nat} {a : Row} (ha : Sup n a) : pl sh n a (ee 0) = a := by
 rw [pl_sh_e]
 funext j
 split
 ·rfl
 ·exact (ha j (by omega)).symm
theorem sup_mono {n k : Nat} {u : Row} (h : Sup n u) (hk : n ≤ k) : Sup k u := fun j hj => h j (by omega)
theorem pl_sh_sup {e : Nat} {G : Row} (hG : Sup (e + 1) G) (h : Row) : ∀ N, Sup (N + e) (pl sh N h G)
 | 0 => fun _ _ => rfl
 | N + 1 => by
  refine sup_add (sup_mono (pl_sh_sup hG h N) (by omega)) (sup_sm _ ?_)
  have := it_sh_sup hG N
  exact sup_mono this (by omega)
theorem uniq {p : Int} {e : Nat} {G R : Row} (hG : Sup (e + 1) G) (hG1 : G e = 1) (hR : Sup e R) : ∀ (N : Nat) (h : Row), Cg p (pl sh N h G) R → Cg p R Row.z
 | 0, h, hc => hc.symm
 | N + 1, h, hc => by
  have h1 := hc.emod (N + e)
  have h2 : pl sh (N + 1) h G (N + e) = h N := by
   simp only [pl, Row.add, Row.sm, it_sh]
   rw [pl_sh_sup hG h N (N + e) (by omega), if_neg (by omega), show N + e - N = e by omega, hG1]
   omega
  rw [h2, hR (N + e) (by omega)] at h1
  refine uniq hG hG1 hR N h (Cg.trans ?_ hc)
  have h3 : Cg p (Row.sm (h N) (it sh N G)) Row.z := cg_z fun j => by
   simp only [Row.sm]
   rw [Int.mul_emod, h1]; simp
  have h4 := Cg.add (Cg.refl p (pl sh N h G)) h3.symm
  rw [Row.add_z] at h4
  exact h4
theorem dloop_in {p : Int} (hp : 1 ≤ p) {low : List Int} : ∀ (n : Nat) (r : List Int), AllIn p r → AllIn p (dloop p low n r)
 | 0, r, h => h
 | n + 1, r, h => dloop_in hp n _ (dstep_in hp h)
theorem dloop_sup {p : Int} {low : List Int} : ∀ (n : Nat) (r : List Int), Sup (low.length + n) (rl r) → Sup low.length (rl (dloop p low n r))
 | 0, r, h => h
 | n + 1, r, h => dloop_sup n _ (fun j hj => by
   by_cases hjl : j < r.length
   ·have h1 : rl (dstep p low r (low.length + n)) j = dent p low r (low.length + n) j := by
     simp only [rl, dstep]
     rw [List.getD_eq_getElem?_getD, List.getElem?_map, List.getElem?_range hjl]
     rfl
    rw [h1]
    unfold dent
    by_cases h2 : j = low.length + n
    ·rw [if_pos h2]
    ·rw [if_neg h2, if_neg (by omega)]
     exact h j (by omega)
   ·exact rl_sup _ j (by rw [dstep_length]; omega))
theorem bDiv_of_zero {p : Int} (hp : 2 ≤ p) {low mod : List Int} (hmod : AllIn p mod) (h : Cg p (rl (divL p low mod)) Row.z) : bDiv p low mod = true := bDiv_true fun k hk => by
 have hin : AllIn p (divL p low mod) := dloop_in (by omega) _ _ (fun z hz => by
  rcases List.mem_append.1 hz with h1 | h1
  ·exact hmod z h1
  ·simp at h1; omega)
 have h1 := cg_z_emod h k
 have h2 := hin.get (by omega) k
 have h3 : (divL p low mod).getD k 0 % p = 0 := h1
 rw [Int.emod_eq_of_lt h2.1 h2.2] at h3
 exact h3
theorem gF_cg {p : Int} (hp : 2 ≤ p) {d : Nat} {g : Row} (hg : Sup (d + 1) g) (hg1 : g d = 1) : Cg p (gF (digs p d (rv p d g))) g := Cg.of fun j => by
 have hl := digs_length p d (rv p d g)
 by_cases h1 : j < d
 ·rw [gF_lo _ (by omega)]
  have := dg_rv hp d g j h1
  simp only [dg, rl] at this
  rw [this, Int.emod_emod]
 ·by_cases h2 : j = d
  ·subst h2
   have : gF (digs p j (rv p j g)) j = 1 := by
    have h3 := gF_top (digs p j (rv p j g))
    rwa [hl] at h3
   rw [this, hg1]
  ·rw [gF_sup _ j (by omega), hg j (by omega)]
def An (p : Int) (M : Nat) (low a : Row) (d : Nat) (g : Row) : Prop := Sup (d + 1) g ∧ g d = 1 ∧ Cg p (pl (tm M low) (d + 1) g a) Row.z
theorem monic_of {p : Int} (hp : IsP p) {M : Nat} {low a h : Row} {n : Nat} (hh : Sup n h) (hne : ∃ k, k < n ∧ h k % p ≠ 0) (hz : Cg p (pl (tm M low) n h a) Row.z) : ∃ d, d < n ∧ ∃ g, An p M low a d g := by
 have hT := tm_lin M low
 -- the top index
 obtain ⟨k, hk, hkmax⟩ : ∃ k, (k < n ∧ h k % p ≠ 0) ∧ ∀ i, k < i → h i % p = 0 := by
  obtain ⟨k0, hk0, hk1⟩ := hne
  obtain ⟨e, he, hmin⟩ := least_nat (P := fun e => e < n ∧ h (n - 1 - e) % p ≠ 0) ⟨n - 1 - k0, by omega, by rw [show n - 1 - (n - 1 - k0) = k0 by omega]; exact hk1⟩
  refine ⟨n - 1 - e, ⟨by omega, he.2⟩, fun i hi => ?_⟩
  by_cases hin : i < n
  ·refine Classical.byContradiction fun hno => hmin (n - 1 - i) (by omega) ⟨by omega, ?_⟩
   rw [show n - 1 - (n - 1 - i) = i by omega]; exact hno
  ·rw [hh i (by omega)]; rfl
 obtain ⟨c, hc⟩ := prime_inv hp hk.2
 have hg : ∀ i, (fun i => if i < k then c * h i else if i = k then 1 else 0 : Row) i = if i < k then c * h i else if i = k then 1 else 0 := fun _ => rfl
 generalize (fun i => if i < k then c * h i else if i = k then 1 else 0 : Row) = g at hg
 have hgs : Sup (k + 1) g := fun j hj => by rw [hg, if_neg (by omega), if_neg (by omega)]
 refine ⟨k, hk.1, g, hgs, by rw [hg, if_neg (by omega), if_pos rfl], ?_⟩
 have hcg : Cg p g (Row.sm c h) := Cg.of fun i => by
  rw [hg]
  simp only [Row.sm]
  by_cases h1 : i < k
  ·rw [if_pos h1]
  ·rw [if_neg h1]
   by_cases h2 : i = k
   ·rw [if_pos h2, h2, hc]
    have := hp.1
    exact Int.emod_eq_of_lt (by omega) (by omega)
   ·rw [if_neg h2, Int.mul_emod, hkmax i (by omega)]; simp
 rw [← pl_bound' (T := tm M low) hgs a (show k + 1 ≤ n by omega)]
 refine Cg.trans (Cg.pl hT n hcg (Cg.refl _ _)) ?_
 rw [pl_smQ]
 have := Cg.sm c hz
 rwa [Row.sm_z] at this
theorem rv_zero {p : Int} (hp : 2 ≤ p) (M : Nat) : rv p M Row.z = 0 := by
 rw [← dg_zero hp M]
 exact rv_dg hp (by omega) (Int.pow_pos (by omega))
theorem zero_of_cg {p : Int} (hp : 2 ≤ p) {M : Nat} {u : Int} (h0 : 0 ≤ u) (h1 : u < p ^ M) (h : Cg p (dg p M u) Row.z) : u = 0 := by
 rw [← rv_dg hp h0 h1, rv_cg h, rv_zero hp]
theorem cg_of_rv {p : Int} (hp : 2 ≤ p) {M : Nat} {w : Row} (hw : Sup M w) (h : rv p M w = 0) : Cg p w Row.z := cg_z fun j => by
 by_cases hj : j < M
 ·rw [← dg_rv hp M w j hj, h, dg_zero hp]; rfl
 ·rw [hw j (by omega)]; rfl
theorem no_zero_irr {p m : Int} {mod : List Int} (hsp : ShpP p m mod) (hm : 2 ≤ m) (hirr : Irr p mod) {u v : Int} (hu : 0 < u ∧ u < pw p m) (hv : 0 < v ∧ v < pw p m) : mulI p m mod u v ≠ 0 := by
 intro hzero
 have hs := hsp.1
 have hpp := hsp.2
 have hp := hs.p2
 have hml : (mod.length : Int) = m := by
  rcases hs.low with h | h
  ·omega
  ·exact h.2
 have hM : m.toNat = mod.length := by omega
 have hpw : pw p m = p ^ mod.length := by unfold pw; rw [hM]
 rw [mulI_eq hs, hM] at hzero
 rw [hpw] at hu hv
 generalize hL : mod.length = M at *
 have hT := tm_lin M (rl mod)
 have ha : Sup M (dg p M u) := dg_sup _ _ _
 have hb : Sup M (dg p M v) := dg_sup _ _ _
 have hab := cg_of_rv hp (rm_sup ha) hzero
 have hne : ∀ {x : Int}, 0 < x ∧ x < p ^ M → ∃ k, k < M ∧ dg p M x k % p ≠ 0 := fun {x} hx => by
  refine Classical.byContradiction fun hno => ?_
  have h1 : Cg p (dg p M x) Row.z := cg_z fun j => by
   by_cases hj : j < M
   ·exact Classical.byContradiction fun h2 => hno ⟨j, hj, h2⟩
   ·rw [dg_sup p M x j (by omega)]; rfl
  have := zero_of_cg hp (by omega) hx.2 h1
  omega
 have hane := hne hu
 have hbne := hne hv
 generalize dg p M u = a at ha hab hane
 obtain ⟨d0, hd0, g0, hg0⟩ := monic_of hpp hb hbne hab
 obtain ⟨d, ⟨g, hg⟩, hmin⟩ := least_nat (P := fun d => ∃ g, An p M (rl mod) a d g) ⟨d0, g0, hg0⟩
 have hdM : d < M := by
  refine Nat.lt_of_le_of_lt (Nat.le_of_not_lt (fun hlt => hmin d0 hlt ⟨g0, hg0⟩)) hd0
 obtain ⟨hgs, hg1, hga⟩ := hg
 have hd1 : 1 ≤ d := by
  rcases Nat.eq_zero_or_pos d with h | h
  ·exfalso
   subst h
   have h1 : pl (tm M (rl mod)) (0 + 1) g a = a := by
    simp only [pl, it, Row.z_add, hg1]
    funext j; simp [Row.sm]
   rw [h1] at hga
   obtain ⟨k, _, hk⟩ := hane
   exact hk (cg_z_emod hga k)
  ·exact h
 -- the modulus divided by g
 have hll := digs_length p d (rv p d g)
 have hgF := gF_cg hp hgs hg1
 have hvb := rv_bd hp d g
 generalize hlo : digs p d (rv p d g) = low at hll hgF
 have hmodlen : (mod ++ [(1 : Int)]).length = M + 1 := by simp [hL]
 obtain ⟨Q, hQ, hc, htop⟩ := dloop_row (p := p) (low := low) (mod.length + 1 - low.length) (mod ++ [1]) (by omega)
 have hRs : Sup low.length (rl (divL p low mod)) := dloop_sup _ _ (by
  have h1 := rl_sup (mod ++ [(1 : Int)])
  exact sup_mono h1 (by omega))
 have hfF : rl (mod ++ [1]) = fF M (rl mod) := by rw [fF_rl, hL]
 rw [hfF] at hc
 have hc1 : Cg p (fF M (rl mod)) ((rl (divL p low mod)).add (pl sh (mod.length + 1 - low.length) Q (gF low))) := hc
 clear hc
 generalize hRd : rl (divL p low mod) = R at hRs hc1
 have hQ1 : Q (mod.length + 1 - low.length - 1) = 1 := by
  rw [htop (by omega), show low.length + (mod.length + 1 - low.length) - 1 = mod.length by omega]
  simp [List.getD_eq_getElem?_getD]
 have hRa : Cg p (pl (tm M (rl mod)) d R a) Row.z := by
  have h1 := Cg.pl hT (M + 1) hc1 (Cg.refl p a)
  rw [fF_v (by omega) ha, pl_addQ] at h1
  have h2 : pl (tm M (rl mod)) (M + 1) (pl sh (mod.length + 1 - low.length) Q (gF low)) a = pl (tm M (rl mod)) (mod.length + 1 - low.length) Q (pl (tm M (rl mod)) (low.length + 1) (gF low) a) := by
   rw [← pl_mul hT (gF_sup low) Q a (M - low.length) (mod.length + 1 - low.length) (by omega), show low.length + 1 + (M - low.length) = M + 1 by omega]
  have h3 : Cg p (pl (tm M (rl mod)) (low.length + 1) (gF low) a) Row.z := by
   rw [hll]
   exact Cg.trans (Cg.pl hT _ hgF (Cg.refl _ _)) hga
  have h4 : Cg p (pl (tm M (rl mod)) (M + 1) (pl sh (mod.length + 1 - low.length) Q (gF low)) a) Row.z := by
   rw [h2]
   have h5 := Cg.pl hT (mod.length + 1 - low.length) (Cg.refl p Q) h3
   rwa [pl_z hT] at h5
  have h6 := Cg.trans h1 (Cg.add (Cg.refl p (pl (tm M (rl mod)) (M + 1) R a)) h4)
  rw [Row.add_z, pl_bound' (T := tm M (rl mod)) (sup_mono hRs (show low.length ≤ d by omega)) a (show d ≤ M + 1 by omega)] at h6
  exact h6.symm
 have hRz : Cg p R Row.z := cg_z fun j => by
  refine Classical.byContradiction fun hno => ?_
  have hjd : j < d := Nat.lt_of_not_le (fun hge => hno (by rw [hRs j (by omega)]; rfl))
  obtain ⟨d', hd', g', hg'⟩ := monic_of hpp (sup_mono hRs (show low.length ≤ d by omega)) ⟨j, hjd, hno⟩ hRa
  exact hmin d' hd' ⟨g', hg'⟩
 have hbd : bDiv p low mod = true := bDiv_of_zero hp hs.ent (by rw [hRd]; exact hRz)
 by_cases h2d : 2 * d ≤ M
 ·have h1 := hirr d hd1 (by omega) (rv p d g) hvb.1 hvb.2
  rw [hlo, hbd] at h1
  cases h1
 ·-- the other factor
  have hn : mod.length + 1 - low.length = (M - d) + 1 := by omega
  rw [hn] at hQ hQ1 hc1
  rw [show M - d + 1 - 1 = M - d by omega] at hQ1
  have hll2 := digs_length p (M - d) (rv p (M - d) Q)
  have hgF2 := gF_cg hp hQ hQ1
  have hvb2 := rv_bd hp (M - d) Q
  have h1 := hirr (M - d) (by omega) (by omega) (rv p (M - d) Q) hvb2.1 hvb2.2
  generalize hlo2 : digs p (M - d) (rv p (M - d) Q) = low2 at hll2 hgF2 h1
  obtain ⟨Q2, hQ2, hc2, _⟩ := dloop_row (p := p) (low := low2) (mod.length + 1 - low2.length) (mod ++ [1]) (by omega)
  have hRs2 : Sup low2.length (rl (divL p low2 mod)) := dloop_sup _ _ (by
   have h1 := rl_sup (mod ++ [(1 : Int)])
   exact sup_mono h1 (by omega))
  rw [hfF] at hc2
  have hc3 : Cg p (fF M (rl mod)) ((rl (divL p low2 mod)).add (pl sh (mod.length + 1 - low2.length) Q2 (gF low2))) := hc2
  clear hc2
  rw [show mod.length + 1 - low2.length = d + 1 by omega] at hc3
  have hz2 : Cg p (rl (divL p low2 mod)) Row.z := by
   refine uniq (gF_sup low2) (gF_top low2) hRs2 (d + 1) (g.add (Row.sm (-1) Q2)) ?_
   -- f is g Q
   have h2 : Cg p (fF M (rl mod)) (pl sh (M - d + 1) Q (gF low)) := by
    have := Cg.trans hc1 (Cg.add hRz (Cg.refl p (pl sh (M - d + 1) Q (gF low))))
    rwa [Row.z_add] at this
   have h3 : Cg p (pl sh (M - d + 1) Q (gF low)) (pl sh (d + 1) g (gF low2)) := by
    refine Cg.trans (Cg.pl sh_lin _ (Cg.refl p Q) hgF) ?_
    have h4 : pl sh (M - d + 1) Q g = pl sh (d + 1) g Q := by
     have h5 := pl_sh_self hgs
     have h6 := pl_sh_self hQ
     calc pl sh (M - d + 1) Q g = pl sh (M - d + 1) Q (pl sh (d + 1) g (ee 0)) := by rw [h5]
      _ = pl sh (d + 1) g (pl sh (M - d + 1) Q (ee 0)) := pl_pl sh_lin _ _ _ _ _
      _ = pl sh (d + 1) g Q := by rw [h6]
    rw [h4]
    exact Cg.pl sh_lin _ (Cg.refl p g) hgF2.symm
   have h7 := Cg.trans hc3.symm (Cg.trans h2 h3)
   -- R2 + Q2 G = g G
   have h8 := Cg.add h7.symm (Cg.refl p (Row.sm (-1) (pl sh (d + 1) Q2 (gF low2))))
   rw [pl_addQ, pl_smQ]
   refine Cg.trans h8 (Cg.of_eq ?_)
   funext j; simp only [Row.add, Row.sm]; omega
  have hbd2 : bDiv p low2 mod = true := bDiv_of_zero hp hs.ent hz2
  rw [hbd2] at h1
  cases h1
theorem no_zero_prime {p : Int} (hsp : ShpP p 1 []) {u v : Int} (hu : 0 < u ∧ u < pw p 1) (hv : 0 < v ∧ v < pw p 1) : mulI p 1 [] u v ≠ 0 := by
 intro hz
 have hs := hsp.1
 have hp := hs.p2
 have hpw : pw p 1 = p := by
  have h2 := pw_succ p (k := 0) (by omega)
  rw [pw_zero, Int.zero_add, Int.one_mul] at h2
  exact h2
 rw [hpw] at hu hv
 rw [mulI_eq hs] at hz
 have h1 := cg_of_rv hp (rm_sup (dg_sup _ _ _)) hz
 have h2 := cg_z_emod h1 0
 have hd : ∀ x : Int, 0 ≤ x → x < p → dg p 1 x 0 = x := fun x h0 h1 => by
  simp only [dg, rl, digs]
  rw [Int.emod_eq_of_lt h0 h1]; rfl
 have h3 : rm (1 : Int).toNat (rl []) (dg p (1 : Int).toNat u) (dg p (1 : Int).toNat v) 0 = v * u := by
  show rm 1 (rl []) (dg p 1 u) (dg p 1 v) 0 = v * u
  simp only [rm, pl, it, Row.add, Row.z, Row.sm, hd u (by omega) hu.2, hd v (by omega) hv.2]
  omega
 rw [h3] at h2
 obtain ⟨c, hc⟩ := prime_inv (c := v) hsp.2 (by rw [Int.emod_eq_of_lt (by omega) hv.2]; omega)
 have h4 : (c * (v * u)) % p = u := by
  rw [← Int.mul_assoc, Int.mul_emod, hc, Int.one_mul, Int.emod_emod, Int.emod_eq_of_lt (by omega) hu.2]
 rw [Int.mul_emod, h2] at h4
 simp at h4
 omega
theorem no_zero {p m : Int} {mod : List Int} (h : FldR p m mod) {u v : Int} (hu : 0 < u ∧ u < pw p m) (hv : 0 < v ∧ v < pw p m) : mulI p m mod u v ≠ 0 := by
 rcases h.1.1.low with h1 | h1
 ·obtain ⟨rfl, rfl⟩ := h1
  exact no_zero_prime h.1 hu hv
 ·rcases h.2 with h2 | h2
  ·omega
  ·exact no_zero_irr h.1 h1.1 h2 hu hv
def El (p m : Int) (_mod : List Int) : Type := { x : Int // 0 ≤ x ∧ x < pw p m }
instance (p m : Int) (mod : List Int) : DecidableEq (El p m mod) := inferInstanceAs (DecidableEq { x : Int // 0 ≤ x ∧ x < pw p m })
theorem El.ext {p m : Int} {mod : List Int} {a b : El p m mod} (h : a.1 = b.1) : a = b := Subtype.ext h
theorem addI_bd {p m : Int} (hp : 2 ≤ p) (x y : Int) : 0 ≤ addI p m x y ∧ addI p m x y < pw p m := rv_bd hp _ _
theorem negI_bd {p m : Int} (hp : 2 ≤ p) (x : Int) : 0 ≤ negI p m x ∧ negI p m x < pw p m := rv_bd hp _ _
theorem negI_add {p m : Int} (hp : 2 ≤ p) (x : Int) : addI p m (negI p m x) x = 0 := by rw [addI_comm, addI_neg hp]
theorem addI_zeroR {p m : Int} (hp : 2 ≤ p) {x : Int} (h0 : 0 ≤ x) (h1 : x < pw p m) : addI p m x 0 = x := by rw [addI_comm]; exact addI_zero hp h0 h1
section
variable {p m : Int} {mod : List Int}
theorem mul_inj (h : FldR p m mod) {x y z : Int} (hx : 0 ≤ x ∧ x < pw p m) (hy : 0 ≤ y ∧ y < pw p m) (hz : 0 < z ∧ z < pw p m) (he : mulI p m mod x z = mulI p m mod y z) : x = y := by
 have hs := h.1.1
 have hp := hs.p2
 have h1 : mulI p m mod (addI p m x (negI p m y)) z = 0 := by
  rw [mulI_add hs, he, ← mulI_add hs, addI_neg hp, mulI_zero hs]
 have h2 := addI_bd (m := m) hp x (negI p m y)
 have h3 : addI p m x (negI p m y) = 0 := by
  refine Classical.byContradiction fun hne => ?_
  exact no_zero h ⟨by omega, h2.2⟩ hz h1
 have h4 : addI p m (addI p m x (negI p m y)) y = y := by rw [h3]; exact addI_zero hp hy.1 hy.2
 rw [addI_assoc hp, negI_add hp, addI_zeroR hp hx.1 hx.2] at h4
 exact h4
theorem inv_ex (h : FldR p m mod) {z : Int} (hz : 0 < z ∧ z < pw p m) : ∃ y, 0 ≤ y ∧ y < pw p m ∧ mulI p m mod y z = 1 := by
 have hs := h.1.1
 have hq := hs.q2
 -- the products with z are all different
 refine Classical.byContradiction fun hno => ?_
 let l := (List.range (pw p m - 1).toNat).map (fun i : Nat => mulI p m mod ((i : Int) + 1) z)
 have hnd : l.Nodup := by
  refine List.pairwise_map.2 (List.nodup_range.imp_of_mem ?_)
  intro i j hi hj hij e
  have h1 := List.mem_range.1 hi
  have h2 := List.mem_range.1 hj
  have := mul_inj h (x := (i : Int) + 1) (y := (j : Int) + 1) ⟨by omega, by omega⟩ ⟨by omega, by omega⟩ hz e
  omega
 have hb : ∀ y ∈ l, 0 < y ∧ y < pw p m := fun y hy => by
  obtain ⟨i, hi, rfl⟩ := List.mem_map.1 hy
  have h1 := List.mem_range.1 hi
  have h2 := mulI_bd hs ((i : Int) + 1) z
  have h3 := no_zero h (u := (i : Int) + 1) (v := z) ⟨by omega, by omega⟩ hz
  exact ⟨by omega, h2.2⟩
 have h1l : (1 : Int) ∉ l := fun hm => by
  obtain ⟨i, hi, he⟩ := List.mem_map.1 hm
  have h1 := List.mem_range.1 hi
  exact hno ⟨(i : Int) + 1, by omega, by omega, he⟩
 have h2 := nodup_len' (q := pw p m) (1 :: l) (List.nodup_cons.2 ⟨h1l, hnd⟩) (fun y hy => by
  rcases List.mem_cons.1 hy with rfl | hy
  ·omega
  ·exact hb y hy) (by omega)
 have h3 : l.length = (pw p m - 1).toNat := by simp [l]
 simp only [List.length_cons] at h2
 omega
open Classical in
noncomputable def invI (p m : Int) (mod : List Int) (z : Int) : Int := if h : ∃ y, 0 ≤ y ∧ y < pw p m ∧ mulI p m mod y z = 1 then Classical.choose h else 0
theorem invI_spec (h : FldR p m mod) {z : Int} (hz : 0 < z ∧ z < pw p m) : 0 ≤ invI p m mod z ∧ invI p m mod z < pw p m ∧ mulI p m mod (invI p m mod z) z = 1 := by
 rw [invI, dif_pos (inv_ex h hz)]
 exact Classical.choose_spec (inv_ex h hz)
theorem invI_bd (hs : Shp p m mod) (z : Int) : 0 ≤ invI p m mod z ∧ invI p m mod z < pw p m := by
 unfold invI
 split
 ·rename_i h
  have := Classical.choose_spec h
  exact ⟨this.1, this.2.1⟩
 ·have := hs.q2; omega
@[reducible] noncomputable def elFd (h : FldR p m mod) : Fd (El p m mod) where
 add a b := ⟨addI p m a.1 b.1, addI_bd h.1.1.p2 _ _⟩
 mul a b := ⟨mulI p m mod a.1 b.1, mulI_bd h.1.1 _ _⟩
 neg a := ⟨negI p m a.1, negI_bd h.1.1.p2 _⟩
 zero := ⟨0, by have := h.1.1.q2; omega⟩
 one := ⟨1, by have := h.1.1.q2; omega⟩
 inv a := ⟨invI p m mod a.1, invI_bd h.1.1 _⟩
 add_assoc a b c := El.ext (addI_assoc h.1.1.p2 _ _ _)
 add_comm a b := El.ext (addI_comm _ _)
 zero_add a := El.ext (addI_zero h.1.1.p2 a.2.1 a.2.2)
 neg_add a := El.ext (negI_add h.1.1.p2 _)
 mul_assoc a b c := El.ext (mulI_assoc h.1.1 _ _ _)
 mul_comm a b := El.ext (mulI_comm h.1.1 _ _)
 one_mul a := El.ext (mulI_one h.1.1 a.2.1 a.2.2)
 add_mul a b c := El.ext (mulI_add h.1.1 _ _ _)
 inv_mul a ha := El.ext ((invI_spec h ⟨by
  have h1 : a.1 ≠ 0 := fun e => ha (El.ext e)
  have := a.2.1
  omega, a.2.2⟩).2.2)
 one_ne h1 := by
  have h2 : (1 : Int) = 0 := congrArg Subtype.val h1
  omega
theorem filterMap_some {α β : Type} {f : α → Option β} {g : α → β} : ∀ {l : List α}, (∀ i ∈ l, f i = some (g i)) → l.filterMap f = l.map g
 | [], _ => rfl
 | a :: l, h => by
  rw [List.filterMap_cons, h a (by simp), List.map_cons, filterMap_some (fun i hi => h i (List.mem_cons_of_mem _ hi))]
def elNz (p m : Int) (mod : List Int) : List (El p m mod) := (List.range (pw p m - 1).toNat).filterMap (fun i : Nat => if h : (i : Int) + 1 < pw p m then some ⟨(i : Int) + 1, by omega, h⟩ else none)
theorem elNz_map (p m : Int) (mod : List Int) : (elNz p m mod).map (fun a => a.1) = (List.range (pw p m - 1).toNat).map (fun i : Nat => (i : Int) + 1) := by
 unfold elNz
 rw [List.map_filterMap]
 have h : ∀ i ∈ List.range (pw p m - 1).toNat, (Option.map (fun a : El p m mod => a.1) (if h : (i : Int) + 1 < pw p m then some ⟨(i : Int) + 1, by omega, h⟩ else none)) = some ((i : Int) + 1) := fun i hi => by
  have := List.mem_range.1 hi
  rw [dif_pos (by omega)]; rfl
 exact filterMap_some h
theorem elNz_len (p m : Int) (mod : List Int) : (elNz p m mod).length = (pw p m - 1).toNat := by
 have := congrArg List.length (elNz_map p m mod)
 simpa using this
theorem elNz_nz (h : FldR p m mod) : @Fd.Nz (El p m mod) (elFd h) (elNz p m mod) := by
 letI := elFd h
 refine ⟨?_, fun a => ?_⟩
 ·have h1 : ((elNz p m mod).map (fun a => a.1)).Nodup := by
   rw [elNz_map]
   refine List.pairwise_map.2 (List.nodup_range.imp ?_)
   intro i j hij e
   omega
  exact List.Pairwise.of_map (fun a => a.1) (fun a b hab e => hab (by rw [e])) h1
 ·have h2 : a ∈ elNz p m mod ↔ a.1 ∈ (elNz p m mod).map (fun a => a.1) := ⟨fun h => List.mem_map.2 ⟨a, h, rfl⟩, fun h => by
   obtain ⟨b, hb, he⟩ := List.mem_map.1 h
   exact El.ext he ▸ hb⟩
  rw [h2, elNz_map]
  have h3 := a.2
  constructor
  ·intro h4 h5
   obtain ⟨i, hi, he⟩ := List.mem_map.1 h4
   have : a.1 = 0 := congrArg Subtype.val h5
   omega
  ·intro h4
   have h5 : a.1 ≠ 0 := fun e => h4 (El.ext e)
   exact List.mem_map.2 ⟨(a.1 - 1).toNat, List.mem_range.2 (by omega), by omega⟩
theorem pow_val (h : FldR p m mod) (g : El p m mod) : ∀ n, (@Fd.pow _ (elFd h) g n).1 = pwI p m mod g.1 n
 | 0 => rfl
 | n + 1 => by
  rw [pwI_succ h.1.1 g.2, ← pow_val h g n]
  rfl
theorem gen_ex (h : FldR p m mod) : ∃ x l, IsGen p m mod x l := by
 letI := elFd h
 have hs := h.1.1
 have hq := hs.q2
 obtain ⟨g, hg⟩ := (elNz_nz h).gen
 rw [elNz_len] at hg
 obtain ⟨hg0, hg1, hg2⟩ := hg
 have hx := g.2
 have hx0 : g.1 ≠ 0 := fun e => hg0 (El.ext e)
 let n := (pw p m - 1).toNat
 let l := (List.range n).map (fun i => pwI p m mod g.1 i)
 have hlen : l.length = n := by simp [l]
 have hget : ∀ i, i < n → l.getD i 0 = pwI p m mod g.1 i := fun i hi => by
  simp only [l]
  rw [List.getD_eq_getElem?_getD, List.getElem?_map, List.getElem?_range hi]; rfl
 have hpn : pwI p m mod g.1 n = 1 := by rw [← pow_val h]; exact congrArg Subtype.val hg1
 have hnz : ∀ i, 0 < pwI p m mod g.1 i := fun i => by
  have h1 := Fd.pow_ne hg0 i
  have h2 : (Fd.pow g i).1 ≠ 0 := fun e => h1 (El.ext e)
  rw [pow_val h] at h2
  have := (pwI_bd hs hx i).1
  omega
 have hnd : l.Nodup := by
  refine List.pairwise_iff_getElem.2 (fun i j hi hj hij e => ?_)
  rw [hlen] at hi hj
  simp only [l, List.getElem_map, List.getElem_range] at e
  have h1 : Fd.pow g i = Fd.pow g j := El.ext (by rw [pow_val h, pow_val h, e])
  have h2 : Fd.pow g (j - i) = 1 := by
   have h3 : Fd.pow g i * Fd.pow g (j - i) = Fd.pow g i * 1 := by
    rw [← Fd.pow_add, show i + (j - i) = j by omega, ← h1, Fd.mul_one]
   exact Fd.mul_left_cancel (Fd.pow_ne hg0 i) h3
  have h4 := Nat.le_of_dvd (by omega) (hg2 _ h2)
  omega
 refine ⟨g.1, l, by omega, hx.2, ⟨by omega, fun i hi => hget i (by omega), fun y hy => ?_, hnd, ?_⟩, by omega, ?_⟩
 ·obtain ⟨i, _, rfl⟩ := List.mem_map.1 hy
  exact ⟨hnz i, (pwI_bd hs hx i).2⟩
 ·rw [hlen, hpn]
  exact .inr (List.mem_map.2 ⟨0, List.mem_range.2 (by omega), rfl⟩)
 ·rw [hget _ (by omega), ← pwI_succ hs hx, show (pw p m - 2).toNat + 1 = n by omega, hpn]
theorem fldN_iff : FldN p m mod ↔ FldR p m mod := ⟨fldR_of_N, fun h => ⟨h.1, gen_ex h⟩⟩
end
end Go.Proofs.Ytdkahdehodopoaa

set_option maxRecDepth 100000
namespace Go.Proofs.Ytdkahdehodopoaa
open Go.RowKit
theorem gf_Is_ent : Enters Try.prog 89 := enters_of Try.func89 (by kernel_rfl) (by kernel_rfl)
theorem gf_Is (g : GfM) (x : Int) :
  Pure Try.prog 89 #[.pointer (some g.p), .int .i64 x] [gfR g] (isV (.bool (decide (x ≥ 0) && decide (x < g.q)))) := by
 refine pure_of (args := [.pointer (some g.p), .int .i64 x]) 15 Try.func89 rfl rfl rfl gf_Is_ent ⟨id, trivial⟩ (fun w0 => ?_)
 refine tS ?_
 refine tR fun _ _ _ => ?_
 refine pV ?_
 refine tS ?_
 refine tR fun _ _ _ => ?_
 iterate 3 refine pV ?_
 refine stg rfl rfl rfl rfl rfl (fun hb => by (have hq := hb; try simp only [zbA] at hq); exact rMove rfl rfl) ?_
 refine stg rfl rfl rfl rfl rfl (fun hb => by (have hq := hb; try simp only [zbA] at hq); exact rMove rfl rfl) ?_
 refine stg rfl rfl rfl rfl rfl (fun hb => by (have hq := hb; try simp only [zbA] at hq); exact rNil rfl (evg rfl hb)) ?_
 refine stg rfl rfl rfl rfl rfl (fun hb => by (have hq := hb; try simp only [zbA] at hq); exact rFld rfl (evg rfl hb)) ?_
 refine stg rfl rfl rfl rfl rfl (fun hb => by (have hq := hb; try simp only [zbA] at hq); exact rLdF rfl (evg rfl hb) rfl) ?_
 refine stg rfl rfl rfl rfl rfl (fun hb => by (have hq := hb; try simp only [zbA] at hq); exact rLss rfl (evg rfl hb) (evg rfl hb)) ?_
 refine sV (rAndB rfl rfl rfl rfl) ?_
 refine pV ?_
 exact tr_ret ⟨trivial, _, _, rfl, ⟨rfl, rfl⟩, CSub.nil _, trivial⟩
theorem ref_Is_ent : Enters Try.prog 55 := enters_of Try.func55 (by kernel_rfl) (by kernel_rfl)
theorem ref_Is (p m : Int) (A : Option Addr) (c : Nat) (mod : List Int) (x : Int) :
  Pure Try.prog 55 #[.agg #[.int .i64 p, .int .i64 m, .slice A mod.length c], .int .i64 x] [ro A (ints mod)] (isV (.bool (decide (x ≥ 0) && decide (x < ordI p m)))) := by
 refine pure_of (args := [.agg #[.int .i64 p, .int .i64 m, .slice A mod.length c], .int .i64 x]) 13 Try.func55 rfl rfl rfl ref_Is_ent ⟨id, trivial⟩ (fun w0 => ?_)
 refine tS ?_
 refine tR fun _ _ _ => ?_
 refine eV (eBox rfl rfl rfl rfl rfl (fun p0 => ?_))
 refine pV ?_
 refine tS ?_
 refine tR fun _ _ _ => ?_
 iterate 3 refine pV ?_
 refine stg rfl rfl rfl rfl rfl (fun hb => by (have hq := hb; try simp only [zbA] at hq); exact rMove rfl rfl) ?_
 refine stg rfl rfl rfl rfl rfl (fun hb => by (have hq := hb; try simp only [zbA] at hq); exact rLdS rfl rfl rfl) ?_
 refine efg rfl rfl rfl rfl rfl (fun hb => by (have hq := hb; try simp only [zbA] at hq); exact eCallV rfl rfl rfl (ref_order _ _ _ _ _) ⟨(evg rfl hb), trivial⟩ ⟨rfl, rfl⟩) ?_
 refine stg rfl rfl rfl rfl rfl (fun hb => by (have hq := hb; try simp only [zbA] at hq); exact rLss rfl (evg rfl hb) (evg rfl hb)) ?_
 refine sV (rAndB rfl rfl rfl rfl) ?_
 refine pV ?_
 exact tr_ret ⟨trivial, _, _, rfl, ⟨rfl, rfl⟩, CSub.nil _, trivial⟩
theorem ref_In_ent : Enters Try.prog 138 := enters_of Try.func138 (by kernel_rfl) (by kernel_rfl)
theorem ref_In (p m : Int) (A : Option Addr) (c : Nat) (mod : List Int) (x : Int) :
  Pure Try.prog 138 #[.agg #[.int .i64 p, .int .i64 m, .slice A mod.length c], .int .i64 x] [ro A (ints mod)] (isV (.int .i64 (inI (ordI p m) x))) := by
 refine pure_of (args := [.agg #[.int .i64 p, .int .i64 m, .slice A mod.length c], .int .i64 x]) 9 Try.func138 rfl rfl rfl ref_In_ent ⟨id, trivial⟩ (fun w0 => ?_)
 refine tS ?_
 refine tR fun _ _ _ => ?_
 refine eV (eBox rfl rfl rfl rfl rfl (fun p0 => ?_))
 refine pV ?_
 refine tS ?_
 refine tS ?_
 refine tR fun _ _ _ => ?_
 refine sV (rLdS rfl rfl rfl) ?_
 refine pV ?_
 refine eV (eCallV rfl rfl rfl (ref_Is _ _ _ _ _ _) ⟨rfl, rfl, trivial⟩ ?_)
 refine tC rfl (fun h1 => ?_) (fun h1 => ?_)
 ·try simp only [zbA] at h1
  refine tS ?_
  refine tR fun _ _ _ => ?_
  iterate 2 refine pV ?_
  exact tr_ret ⟨trivial, _, _, rfl, ⟨by rw [inI, if_pos ⟨by omega, by omega⟩], rfl⟩, CSub.nil _, trivial⟩
 ·try simp only [zbA] at h1
  refine tK ?_
  refine tS ?_
  refine tR fun _ _ _ => ?_
  refine pV ?_
  exact tr_ret ⟨trivial, _, _, rfl, ⟨by rw [inI, if_neg (by omega)], rfl⟩, CSub.nil _, trivial⟩
theorem fld_New_ok (p m : Int) (A : Option Addr) (c : Nat) (mod : List Int) (hl9 : mod.length ≤ 17592186044415) (h : FldR p m mod) : Pure Try.prog 28 #[.agg #[.int .i64 p, .int .i64 m, .slice A mod.length c]] [ro A (ints mod)] (one (fun v ch => ∃ g : GfM, v = .tuple #[.pointer (some g.p), .int .i64 0] ∧ ch = gfN g ∧ GOk g p m mod)) :=
 (fld_New p m A c mod hl9).mono fun v Fo hr => by
  rcases hr with ⟨_, _, h3⟩ | ⟨g, h1, h2, hg⟩
  ·exact absurd (fldN_iff.2 h) h3
  ·exact ⟨_, h2, g, h1, rfl, hg⟩
end Go.Proofs.Ytdkahdehodopoaa

namespace Go.Proofs.Ytdkahdehodopoaa
section
variable {g : GfM} {p m : Int} {mod : List Int}
theorem GOk.fld (h : GOk g p m mod) : FldR p m mod := by
 obtain ⟨x, hx⟩ := h.gen
 exact fldN_iff.1 ⟨h.shp, x, _, hx⟩
theorem GOk.q2 (h : GOk g p m mod) : 2 ≤ g.q ∧ g.q ≤ 256 := by
 have h1 := h.shp.1.q2
 have h2 := h.shp.1.q
 have h3 := h.eq
 omega
theorem GOk.elen (h : GOk g p m mod) : (g.exp.length : Int) = g.q - 1 := by
 obtain ⟨x, hx⟩ := h.gen
 rw [h.eq]; exact hx.len
theorem GOk.llen' (h : GOk g p m mod) : (g.log.length : Int) = g.q := by
 have := h.llen
 have := h.q2
 omega
theorem GOk.log_spec (h : GOk g p m mod) {y : Int} (h0 : 0 < y) (h1 : y < g.q) : 0 ≤ g.log.getD y.toNat 0 ∧ g.log.getD y.toNat 0 < g.q - 1 ∧ g.exp.getD (g.log.getD y.toNat 0).toNat 0 = y := by
 obtain ⟨x, hx⟩ := h.gen
 have hl := h.elen
 have hm := hx.all h0 (by rw [← h.eq]; exact h1)
 obtain ⟨i, hi, he⟩ := List.getElem_of_mem hm
 have h2 := h.log i hi
 have h3 : g.exp.getD i 0 = y := by rw [List.getD_eq_getElem?_getD, List.getElem?_eq_getElem hi]; exact he
 rw [h3] at h2
 rw [h2]
 exact ⟨by omega, by omega, by rw [Int.toNat_natCast]; exact h3⟩
theorem GOk.exp_bd (h : GOk g p m mod) {i : Int} (h0 : 0 ≤ i) (h1 : i < g.q - 1) : 0 < g.exp.getD i.toNat 0 ∧ g.exp.getD i.toNat 0 < g.q := by
 obtain ⟨x, hx⟩ := h.gen
 have hl := h.elen
 have hi : i.toNat < g.exp.length := by omega
 have := hx.pow.nz _ (List.getElem_mem hi)
 rw [List.getD_eq_getElem?_getD, List.getElem?_eq_getElem hi, h.eq]
 exact this
theorem IsGen.pw_q {x : Int} {l : List Int} (hs : Shp p m mod) (hg : IsGen p m mod x l) : pwI p m mod x l.length = 1 := by
 have hx : 0 ≤ x ∧ x < pw p m := ⟨by have := hg.x1; omega, hg.x2⟩
 have h1 := hg.len
 have h2 := hg.pow.one
 have h3 := hg.pow.get (l.length - 1) (by omega)
 have h4 := hg.last
 rw [show (pw p m - 2).toNat = l.length - 1 by omega, h3, ← pwI_succ hs hx, show l.length - 1 + 1 = l.length by omega] at h4
 exact h4
theorem IsGen.pw_mod {x : Int} {l : List Int} (hs : Shp p m mod) (hg : IsGen p m mod x l) (n : Nat) : pwI p m mod x n = pwI p m mod x (n % l.length) := by
 have hx : 0 ≤ x ∧ x < pw p m := ⟨by have := hg.x1; omega, hg.x2⟩
 have key : ∀ k r, pwI p m mod x (l.length * k + r) = pwI p m mod x r := by
  intro k r
  induction k with
  | zero => simp
  | succ k ih =>
   have hb := pwI_bd hs hx (l.length * k + r)
   rw [show l.length * (k + 1) + r = l.length + (l.length * k + r) by rw [Nat.mul_succ]; omega, pwI_add hs hx, hg.pw_q hs, mulI_one hs hb.1 hb.2, ih]
 have h1 := key (n / l.length) (n % l.length)
 rwa [Nat.div_add_mod] at h1
theorem GOk.mul (h : GOk g p m mod) {a b : Int} (ha : 0 < a ∧ a < g.q) (hb : 0 < b ∧ b < g.q) : g.exp.getD ((g.log.getD a.toNat 0 + g.log.getD b.toNat 0) % (g.q - 1)).toNat 0 = mulI p m mod a b := by
 obtain ⟨x, hx⟩ := h.gen
 have hs := h.shp.1
 have hl := h.elen
 have hq := h.q2
 have hxb : 0 ≤ x ∧ x < pw p m := ⟨by have := hx.x1; omega, hx.x2⟩
 obtain ⟨i0, i1, i2⟩ := h.log_spec ha.1 ha.2
 obtain ⟨j0, j1, j2⟩ := h.log_spec hb.1 hb.2
 generalize g.log.getD a.toNat 0 = i at *
 generalize g.log.getD b.toNat 0 = j at *
 have h1 := hx.pow.get i.toNat (by omega)
 have h2 := hx.pow.get j.toNat (by omega)
 have e0 := Int.emod_nonneg (i + j) (show g.q - 1 ≠ 0 by omega)
 have e1 := Int.emod_lt_of_pos (i + j) (show 0 < g.q - 1 by omega)
 have h3 := hx.pow.get ((i + j) % (g.q - 1)).toNat (by omega)
 rw [i2] at h1
 rw [j2] at h2
 rw [h3, h1, h2, ← pwI_add hs hxb, hx.pw_mod hs (i.toNat + j.toNat)]
 congr 1
 have : (((i.toNat + j.toNat) % g.exp.length : Nat) : Int) = (i + j) % (g.q - 1) := by
  rw [← hl]
  simp only [Int.natCast_emod, Int.natCast_add]
  rw [Int.toNat_of_nonneg i0, Int.toNat_of_nonneg j0]
 omega
theorem GOk.inv (h : GOk g p m mod) {a : Int} (ha : 0 < a ∧ a < g.q) : g.exp.getD ((g.q - 1 - g.log.getD a.toNat 0) % (g.q - 1)).toNat 0 = invI p m mod a := by
 have hs := h.shp.1
 have hq := h.q2
 have heq := h.eq
 have hF := h.fld
 obtain ⟨i0, i1, i2⟩ := h.log_spec ha.1 ha.2
 have e0 := Int.emod_nonneg (g.q - 1 - g.log.getD a.toNat 0) (show g.q - 1 ≠ 0 by omega)
 have e1 := Int.emod_lt_of_pos (g.q - 1 - g.log.getD a.toNat 0) (show 0 < g.q - 1 by omega)
 have hb := h.exp_bd e0 e1
 have hi := invI_spec hF (z := a) ⟨ha.1, by omega⟩
 refine mul_inj hF (z := a) ⟨by omega, by omega⟩ ⟨hi.1, hi.2.1⟩ ⟨ha.1, by omega⟩ ?_
 rw [hi.2.2, ← h.mul hb ha]
 obtain ⟨j0, j1, j2⟩ := h.log_spec hb.1 hb.2
 obtain ⟨x, hx⟩ := h.gen
 have hl := h.elen
 -- the logarithm of exp k is k
 have h5 : g.log.getD (g.exp.getD ((g.q - 1 - g.log.getD a.toNat 0) % (g.q - 1)).toNat 0).toNat 0 = (g.q - 1 - g.log.getD a.toNat 0) % (g.q - 1) := by
  have := h.log ((g.q - 1 - g.log.getD a.toNat 0) % (g.q - 1)).toNat (by omega)
  rw [this]; omega
 rw [h5]
 have h6 : ((g.q - 1 - g.log.getD a.toNat 0) % (g.q - 1) + g.log.getD a.toNat 0) % (g.q - 1) = 0 := by
  rw [Int.emod_add_emod, show g.q - 1 - g.log.getD a.toNat 0 + g.log.getD a.toNat 0 = g.q - 1 by omega, Int.emod_self]
 rw [h6]
 have := hx.pow.get 0 (by omega)
 exact this
structure OrdI (p m : Int) (mod : List Int) (y : Int) (t : Nat) : Prop where
 pos : 1 ≤ t
 one : pwI p m mod y t = 1
 least : ∀ s, 1 ≤ s → s < t → pwI p m mod y s ≠ 1
theorem OrdI.unique {y : Int} {t t' : Nat} (h : OrdI p m mod y t) (h' : OrdI p m mod y t') : t = t' := by
 rcases Nat.lt_trichotomy t t' with h1 | h1 | h1
 ·exact absurd h.one (h'.least t h.pos h1)
 ·exact h1
 ·exact absurd h'.one (h.least t' h'.pos h1)
open Classical in
noncomputable def mord (p m : Int) (mod : List Int) (y : Int) : Nat := if h : ∃ t, OrdI p m mod y t then Classical.choose h else 0
theorem OrdI.eq {y : Int} {t : Nat} (h : OrdI p m mod y t) : mord p m mod y = t := by
 have h1 : ∃ t, OrdI p m mod y t := ⟨t, h⟩
 rw [mord, dif_pos h1]
 exact (Classical.choose_spec h1).unique h
theorem pwI_mul (hs : Shp p m mod) {x : Int} (hx : 0 ≤ x ∧ x < pw p m) (i : Nat) : ∀ t, pwI p m mod (pwI p m mod x i) t = pwI p m mod x (i * t)
 | 0 => rfl
 | t + 1 => by
  rw [pwI_succ hs (pwI_bd hs hx i), pwI_mul hs hx i t, ← pwI_add hs hx, Nat.mul_succ]
theorem IsGen.pw_one {x : Int} {l : List Int} (hs : Shp p m mod) (hg : IsGen p m mod x l) (k : Nat) : pwI p m mod x k = 1 ↔ l.length ∣ k := by
 have h1 := hg.pow.one
 rw [hg.pw_mod hs k]
 constructor
 ·intro h
  refine Nat.dvd_of_mod_eq_zero ?_
  have h2 := hg.pow.get (k % l.length) (Nat.mod_lt _ h1)
  have h3 := hg.pow.get 0 (by omega)
  have h4 : pwI p m mod x 0 = 1 := rfl
  rcases Nat.eq_zero_or_pos (k % l.length) with h5 | h5
  ·exact h5
  ·exfalso
   have h6 := Nat.mod_lt k h1
   rw [h, ← h4, ← h3] at h2
   rw [List.getD_eq_getElem?_getD, List.getElem?_eq_getElem h6, List.getD_eq_getElem?_getD, List.getElem?_eq_getElem (show 0 < l.length by omega)] at h2
   exact (List.pairwise_iff_getElem.1 hg.pow.nodup) 0 (k % l.length) (by omega) h6 h5 (by simpa using h2.symm)
 ·intro h
  rw [Nat.mod_eq_zero_of_dvd h]; rfl
theorem GOk.ord (h : GOk g p m mod) {y : Int} (hy : 0 < y ∧ y < g.q) : OrdI p m mod y ((g.q - 1).toNat / Nat.gcd (g.q - 1).toNat (g.log.getD y.toNat 0).toNat) := by
 obtain ⟨x, hx⟩ := h.gen
 have hs := h.shp.1
 have hl := h.elen
 have hq := h.q2
 have hxb : 0 ≤ x ∧ x < pw p m := ⟨by have := hx.x1; omega, hx.x2⟩
 obtain ⟨i0, i1, i2⟩ := h.log_spec hy.1 hy.2
 generalize (g.log.getD y.toNat 0) = i at *
 have hn : g.exp.length = (g.q - 1).toNat := by omega
 have h1 := hx.pow.get i.toNat (by omega)
 rw [i2] at h1
 generalize i.toNat = k at *
 have hone := fun t => hx.pw_one hs (k * t)
 rw [hn] at hone
 generalize hN : (g.q - 1).toNat = n at *
 have hn0 : 0 < n := by omega
 have hg0 : 0 < Nat.gcd n k := Nat.gcd_pos_of_pos_left _ hn0
 have hdn : Nat.gcd n k ∣ n := Nat.gcd_dvd_left _ _
 have hdk : Nat.gcd n k ∣ k := Nat.gcd_dvd_right _ _
 have hpos : 1 ≤ n / Nat.gcd n k := Nat.div_pos (Nat.le_of_dvd hn0 hdn) hg0
 have key : ∀ t, n ∣ k * t ↔ n / Nat.gcd n k ∣ t := fun t => by
  have hc : Nat.Coprime (n / Nat.gcd n k) (k / Nat.gcd n k) := Nat.coprime_div_gcd_div_gcd hg0
  have e1 : n = Nat.gcd n k * (n / Nat.gcd n k) := (Nat.mul_div_cancel' hdn).symm
  have e2 : k = Nat.gcd n k * (k / Nat.gcd n k) := (Nat.mul_div_cancel' hdk).symm
  constructor
  ·intro hd
   have h3 : Nat.gcd n k * (n / Nat.gcd n k) ∣ Nat.gcd n k * ((k / Nat.gcd n k) * t) := by
    rw [← e1, ← Nat.mul_assoc, ← e2]; exact hd
   exact hc.dvd_of_dvd_mul_left (Nat.dvd_of_mul_dvd_mul_left hg0 h3)
  ·rintro ⟨c, rfl⟩
   have : k * (n / Nat.gcd n k * c) = n * ((k / Nat.gcd n k) * c) := by
    clear hpos hc
    generalize n / Nat.gcd n k = a at e1 e2 ⊢
    generalize k / Nat.gcd n k = b at e1 e2 ⊢
    generalize Nat.gcd n k = d at e1 e2 ⊢
    calc k * (a * c) = (d * b) * (a * c) := by rw [← e2]
     _ = (d * a) * (b * c) := by ac_rfl
     _ = n * (b * c) := by rw [← e1]
   rw [this]
   exact Nat.dvd_mul_right _ _
 refine ⟨hpos, ?_, fun s hs1 hs2 he => ?_⟩
 ·rw [h1, pwI_mul hs hxb, hone, key]
  exact Nat.dvd_refl _
 ·rw [h1, pwI_mul hs hxb, hone, key] at he
  have := Nat.le_of_dvd (by omega) he
  omega
end
theorem reduce_step {p : Int} {M : Nat} {low c c' : Row} (hM : 1 ≤ M) {i : Nat} (hi : M ≤ i) (hc : ∀ k, k < i → c' k % p = (c k + (p - c i) * (if i ≤ k + M then low (k + M - i) else 0)) % p) :
  Cg p (pl (tm M low) i c' (ee 0)) (pl (tm M low) (i + 1) c (ee 0)) := by
 have hT := tm_lin M low
 -- the step as a row: minus c i times the shifted low
 have hlow : Sup M (fun j => if j < M then low j else 0 : Row) := fun j hj => by show (if j < M then _ else _) = _; rw [if_neg (by omega)]
 have h1 : Cg p (pl (tm M low) i c' (ee 0)) (pl (tm M low) i (c.add (Row.sm (-(c i)) (it sh (i - M) (fun j => if j < M then low j else 0)))) (ee 0)) := by
  have h2 : pl (tm M low) i c' (ee 0) = pl (tm M low) i (fun k => if k < i then c' k else 0) (ee 0) := pl_cong i _ _ _ (fun k hk => by rw [if_pos hk])
  have h3 : pl (tm M low) i (c.add (Row.sm (-(c i)) (it sh (i - M) (fun j => if j < M then low j else 0)))) (ee 0) = pl (tm M low) i (fun k => if k < i then (c.add (Row.sm (-(c i)) (it sh (i - M) (fun j => if j < M then low j else 0)))) k else 0) (ee 0) := pl_cong i _ _ _ (fun k hk => by rw [if_pos hk])
  rw [h2, h3]
  refine Cg.pl hT i (Cg.of fun k => ?_) (Cg.refl _ _)
  by_cases hk : k < i
  ·rw [if_pos hk, if_pos hk, hc k hk]
   simp only [Row.add, Row.sm, it_sh]
   by_cases h4 : i ≤ k + M
   ·rw [if_pos h4, if_neg (by omega), if_pos (by omega), show k - (i - M) = k + M - i by omega]
    have : c k + (p - c i) * low (k + M - i) = (c k + -(c i) * low (k + M - i)) + p * low (k + M - i) := by grind
    rw [this, Int.add_mul_emod_self_left]
   ·rw [if_neg h4, if_pos (by omega)]; simp
  ·rw [if_neg hk, if_neg hk]
 refine Cg.trans h1 (Cg.of_eq ?_)
 rw [pl_addQ, pl_smQ, pl]
 congr 1
 have h5 : pl (tm M low) i (it sh (i - M) (fun j => if j < M then low j else 0)) (ee 0) = it (tm M low) (i - M) (fun j => if j < M then low j else 0) := by
  have h6 := pl_it_sh hT M (fun j => if j < M then low j else 0) (ee 0) (i - M)
  rw [show M + (i - M) = i by omega] at h6
  rw [h6, pl_tm_self hlow]
 have h7 : it (tm M low) i (ee 0) = it (tm M low) (i - M) (Row.sm (-1) (fun j => if j < M then low j else 0)) := by
  have h8 : ∀ a b : Nat, it (tm M low) (a + b) (ee 0) = it (tm M low) a (it (tm M low) b (ee 0)) := fun a b => by
   induction a with
   | zero => simp [it]
   | succ a ih => rw [show a + 1 + b = (a + b) + 1 by omega]; simp only [it, ih]
  have h9 : it (tm M low) M (ee 0) = Row.sm (-1) (fun j => if j < M then low j else 0) := by
   obtain ⟨k, rfl⟩ : ∃ k, M = k + 1 := ⟨M - 1, by omega⟩
   have h10 := it_tm_e (low := low) k (show k < k + 1 by omega)
   simp only [it, h10]
   funext j
   simp only [tm, sh_ee, Row.sm]
   have h11 : ee k (k + 1 - 1) = 1 := by simp [ee]
   rw [h11]
   by_cases hj : j < k + 1
   ·rw [if_pos hj, if_pos hj]
    have h12 : ee (k + 1) j = 0 := by simp only [ee]; rw [if_neg (by omega)]
    rw [h12]; omega
   ·rw [if_neg hj, if_neg hj]; simp
  rw [show i = (i - M) + M by omega, h8, h9, show i - M + M - M = i - M by omega]
 rw [h5, h7, (it_lin hT (i - M)).sm, Row.sm_sm]
 congr 1
 omega
theorem conv_row {M : Nat} {low a b : Row} (ha : Sup M a) (hM : 1 ≤ M) : pl (tm M low) (2 * M - 1) (pl sh M b a) (ee 0) = rm M low a b := by
 have h := pl_mul (tm_lin M low) ha b (ee 0) (M - 1) M (by omega)
 rw [show M + (M - 1) = 2 * M - 1 by omega, pl_tm_self ha] at h
 exact h
theorem set_row {p : Int} {c : List Int} {k : Nat} {v d : Int} (hk : k < c.length) (hv : v % p = (c.getD k 0 + d) % p) : Cg p (rl (c.set k v)) ((rl c).add (Row.sm d (ee k))) := Cg.of fun j => by
 simp only [rl, Row.add, Row.sm, ee]
 rw [getD_set]
 by_cases h : k = j
 ·subst h; rw [if_pos ⟨rfl, hk⟩, if_pos rfl, hv]; congr 1; omega
 ·rw [if_neg (by omega), if_neg (by omega)]; congr 1; omega
def upTo (j : Nat) (b : Row) : Row := fun k => if k < j then b k else 0
theorem upTo_succ (i j : Nat) (b : Row) : it sh i (upTo (j + 1) b) = (it sh i (upTo j b)).add (Row.sm (b j) (ee (i + j))) := by
 funext k
 simp only [it_sh, upTo, Row.add, Row.sm, ee]
 by_cases h1 : k < i
 ·rw [if_pos h1, if_pos h1, if_neg (by omega)]; omega
 ·rw [if_neg h1, if_neg h1]
  by_cases h2 : k - i < j
  ·rw [if_pos h2, if_pos (by omega), if_neg (by omega)]; omega
  ·by_cases h3 : k = i + j
   ·rw [if_neg h2, if_pos (by omega), if_pos h3, show k - i = j by omega]; omega
   ·rw [if_neg h2, if_neg (by omega), if_neg h3]; omega
theorem upTo_all {j : Nat} {b : Row} (h : Sup j b) : upTo j b = b := by
 funext k
 simp only [upTo]
 split
 ·rfl
 ·exact (h k (by omega)).symm
theorem upTo_zero (i : Nat) (b : Row) : it sh i (upTo 0 b) = Row.z := by
 funext k
 simp only [it_sh, upTo, Row.z]
 split
 ·rfl
 ·rw [if_neg (by omega)]
theorem vl_take {p : Int} (hp : 2 ≤ p) {c : List Int} (hc : AllIn p c) {M : Nat} (hM : M ≤ c.length) : vl p (c.take M) = rv p M (rl c) := by
 unfold rv
 congr 1
 apply List.ext_getElem
 ·simp; omega
 ·intro i h1 h2
  have h3 : i < c.length := by simp at h1; omega
  have h4 := hc _ (List.getElem_mem h3)
  simp only [List.getElem_take, List.getElem_map, List.getElem_range, rl]
  rw [List.getD_eq_getElem?_getD, List.getElem?_eq_getElem h3]
  exact (Int.emod_eq_of_lt h4.1 h4.2).symm
theorem mul_done {p m : Int} {mod : List Int} (h : Shp p m mod) {X Y : Int} {c : List Int} (hc : AllIn p c) (hl : m.toNat ≤ c.length)
  (hr : Cg p (pl (tm m.toNat (rl mod)) m.toNat (rl c) (ee 0)) (rm m.toNat (rl mod) (dg p m.toNat Y) (dg p m.toNat X))) : vl p (c.take m.toNat) = mulI p m mod X Y := by
 rw [vl_take h.p2 hc hl, mulI_eq h, rm_comm (dg_sup _ _ _) (dg_sup _ _ _), ← rv_cg hr]
 refine rv_cong fun j hj => ?_
 rw [pl_tm_e (low := rl mod) (rl c) m.toNat (Nat.le_refl _)]
 simp only [if_pos hj]
end Go.Proofs.Ytdkahdehodopoaa

set_option maxRecDepth 100000
namespace Go.Proofs.Ytdkahdehodopoaa
open Go.RowKit
theorem gf_in_ent : Enters Try.prog 91 := enters_of Try.func91 (by kernel_rfl) (by kernel_rfl)
theorem gf_in (g : GfM) (x : Int) :
  Pure Try.prog 91 #[.pointer (some g.p), .int .i64 x] [gfR g] (isV (.int .i64 (inI g.q x))) := by
 refine pure_of (args := [.pointer (some g.p), .int .i64 x]) 9 Try.func91 rfl rfl rfl gf_in_ent ⟨id, trivial⟩ (fun w0 => ?_)
 refine tS ?_
 refine tR fun _ _ _ => ?_
 refine pV ?_
 refine tS ?_
 refine tS ?_
 refine tR fun _ _ _ => ?_
 iterate 2 refine pV ?_
 refine eV (eCallV rfl rfl rfl (gf_Is _ _) ⟨rfl, rfl, trivial⟩ ?_)
 refine tC rfl (fun h1 => ?_) (fun h1 => ?_)
 ·try simp only [zbA] at h1
  refine tS ?_
  refine tR fun _ _ _ => ?_
  iterate 2 refine pV ?_
  exact tr_ret ⟨trivial, _, _, rfl, ⟨by rw [inI, if_pos ⟨by omega, by omega⟩], rfl⟩, CSub.nil _, trivial⟩
 ·try simp only [zbA] at h1
  refine tK ?_
  refine tS ?_
  refine tR fun _ _ _ => ?_
  refine pV ?_
  exact tr_ret ⟨trivial, _, _, rfl, ⟨by rw [inI, if_neg (by omega)], rfl⟩, CSub.nil _, trivial⟩
end Go.Proofs.Ytdkahdehodopoaa

set_option maxRecDepth 100000
namespace Go.Proofs.Ytdkahdehodopoaa
open Go.RowKit
theorem ref_Digits_ent : Enters Try.prog 130 := enters_of Try.func130 (by kernel_rfl) (by kernel_rfl)
theorem ref_Digits (p m : Int) (A : Option Addr) (c : Nat) (mod : List Int) (hs : Shp p m mod) (x : Int) :
  Pure Try.prog 130 #[.agg #[.int .i64 p, .int .i64 m, .slice A mod.length c], .int .i64 x] [ro A (ints mod)] (one (fun v ch => ∃ B, v = .slice B m.toNat m.toNat ∧ ch = ow B 3 m.toNat (ints (digs p m.toNat (inI (ordI p m) x))))) := by
 have hp2 := hs.p2
 have hp9 := hs.p9
 have hm1 := hs.m1
 have hm8 := hs.m8
 have hqq := hs.q
 have hoq := hs.ord
 have hq2 := hs.q2
 have hib := inI_bd (q := ordI p m) (by omega) x
 refine pure_of (args := [.agg #[.int .i64 p, .int .i64 m, .slice A mod.length c], .int .i64 x]) 13 Try.func130 rfl rfl rfl ref_Digits_ent ⟨id, trivial⟩ (fun w0 => ?_)
 refine tS ?_
 refine tR fun _ _ _ => ?_
 refine eV (eBox rfl rfl rfl rfl rfl (fun p0 => ?_))
 refine pV ?_
 refine tS ?_
 refine tr_draw [0, 1, 3, 4, 5, 6, 2, 7, 8] [] mixed (by kernel_rfl) fun _ _ _ => ?_
 refine sV (rLdS rfl rfl rfl) ?_
 refine pV ?_
 refine sV (rFld rfl rfl) ?_
 refine sV (rLdF rfl rfl rfl) ?_
 refine sV (rFld rfl rfl) ?_
 refine sV (rLdF rfl rfl rfl) ?_
 refine eV (eCallV rfl rfl rfl (ref_In _ _ _ _ _ _) ⟨rfl, rfl, trivial⟩ ?_)
 refine eV (eCall1 rfl rfl rfl (ref_digits _ (by omega) (by omega) _ (by omega) (by omega) _ (by omega) (by omega)) ⟨rfl, rfl, rfl, trivial⟩ ?_)
 rintro _ _ ⟨B1a, rfl, rfl⟩
 refine pV ?_
 exact tr_ret ⟨trivial, _, _, rfl, ⟨_, rfl, _, rfl, rfl⟩, cs _ _, trivial, trivial⟩
theorem ref_Value_ent : Enters Try.prog 131 := enters_of Try.func131 (by kernel_rfl) (by kernel_rfl)
theorem ref_Value (p m : Int) (A : Option Addr) (c : Nat) (mod : List Int) (hp : 2 ≤ p) (hp2 : p ≤ 256) (B : Option Addr) (n cB : Nat) (d : List Int) (hn : n ≤ d.length) (hn2 : n ≤ 64) (hd : AllIn p d) (hq : p ^ n ≤ 256) :
  Pure Try.prog 131 #[.agg #[.int .i64 p, .int .i64 m, .slice A mod.length c], .slice B n cB] [ro A (ints mod), ro B (ints d)] (isV (.int .i64 (vl p (d.take n)))) := by
 have htl : (d.take n).length = n := by rw [List.length_take]; omega
 have hti : AllIn p (d.take n) := fun z hz => hd z (List.mem_of_mem_take hz)
 have htg : ∀ i : Nat, i < n → (d.take n).getD i 0 = d.getD i 0 := fun i hi => by simp [List.getD_eq_getElem?_getD, List.getElem?_take, hi]
 refine pure_of (args := [.agg #[.int .i64 p, .int .i64 m, .slice A mod.length c], .slice B n cB]) 24 Try.func131 rfl rfl rfl ref_Value_ent ⟨id, id, trivial⟩ (fun w0 => ?_)
 refine tS ?_
 refine tR fun _ _ _ => ?_
 refine eV (eBox rfl rfl rfl rfl rfl (fun p0 => ?_))
 refine pV ?_
 refine tS ?_
 refine tR fun _ _ _ => ?_
 refine pV ?_
 refine tS ?_
 refine tS ?_
 refine tR fun _ _ _ => ?_
 refine pV ?_
 refine sV (rLen rfl rfl) ?_
 refine sV (rSub rfl rfl rfl (by omega) (by omega)) ?_
 refine pV ?_
 refine tB ?_
 refine tr_loop2 (fun (i : Int) (s : Int) => [(1, .slice B n cB), (2, .pointer (some p0)), (5, .int .i64 s), (6, .int .i64 i)]) (fun (i : Int) (s : Int) => [blk p0 24 [.int .i64 p, .int .i64 m, .slice A mod.length c], ro B (ints d)]) (fun (i : Int) (s : Int) => -1 ≤ i ∧ i < n ∧ s = vl p ((d.take n).drop (i + 1).toNat)) (fun (i : Int) (s : Int) => (i + 1).toNat) ((n : Int) - 1) (0) ⟨rfl, rfl, rfl, rfl, trivial⟩ (by first | exact cs _ _ | exact CSub.refl _) (⟨by omega, by omega, by rw [List.drop_of_length_le (by omega)]; rfl⟩) (fun i s hI => ?_)
 obtain ⟨hi0, hi1, hs⟩ := hI
 have hv := vl_in (p := p) (by omega) ((d.take n).drop (i + 1).toNat) (fun c hc => hti c (List.mem_of_mem_drop hc))
 have hpb := pw_bd (p := p) (by omega) (k := ((d.take n).drop (i + 1).toNat).length) (m := n) (by rw [List.length_drop]; omega)
 have hmb := mul_bd0 s p 256 256 (by omega) (by omega) (by omega) (by omega)
 have hgd := hd.get (by omega) i.toNat
 refine tS ?_
 refine tS ?_
 refine tR fun _ _ _ => ?_
 iterate 2 refine pV ?_
 refine tC rfl (fun h3 => ?_) (fun h3 => ?_)
 ·try simp only [zbA] at h3
  refine tK ?_
  refine tS ?_
  refine tB ?_
  refine tr_draw [0, 1, 2, 3, 4, 5, 6, 7, 8, 9] [] mixed (by kernel_rfl) fun _ _ _ => ?_
  refine pV ?_
  refine sV (rFld rfl rfl) ?_
  refine sV (rLdF rfl rfl rfl) ?_
  refine sV (rMul rfl rfl rfl (by omega) (by omega)) ?_
  iterate 2 refine pV ?_
  refine sV (rIdxI rfl rfl rfl (by omega) (by omega) (by omega)) ?_
  refine sV (rLdI rfl rfl (by omega)) ?_
  refine sV (rAdd rfl rfl rfl (by omega) (by omega)) ?_
  refine pV ?_
  refine tR fun _ _ _ => ?_
  refine pV ?_
  refine sV (rSub rfl rfl rfl (by omega) (by omega)) ?_
  refine pV ?_
  refine ⟨i - 1, s * p + d.getD i.toNat 0, ⟨rfl, rfl, rfl, rfl, trivial⟩, by first | exact cs _ _ | exact CSub.refl _, ?_⟩
  refine ⟨⟨by omega, by omega, ?_⟩, by omega⟩
  rw [show (i - 1 + 1).toNat = i.toNat by omega, drop_getD (show i.toNat < (d.take n).length by omega), vl, hs, show (i + 1).toNat = i.toNat + 1 by omega, Int.mul_comm, Int.add_comm, htg _ (by omega)]
 ·try simp only [zbA] at h3
  refine tE ?_
  refine tS ?_
  refine tR fun _ _ _ => ?_
  iterate 2 refine pV ?_
  have him : i = -1 := by omega
  subst him
  exact tr_ret ⟨trivial, _, _, rfl, ⟨by rw [hs]; simp, rfl⟩, CSub.nil _, trivial⟩
theorem ref_Mul_ent : Enters Try.prog 128 := enters_of Try.func128 (by kernel_rfl) (by kernel_rfl)
theorem ref_Mul (p m : Int) (A : Option Addr) (c : Nat) (mod : List Int) (hs : Shp p m mod) (x y : Int) :
  Pure Try.prog 128 #[.agg #[.int .i64 p, .int .i64 m, .slice A mod.length c], .int .i64 x, .int .i64 y] [ro A (ints mod)] (isV (.int .i64 (mulI p m mod (inI (ordI p m) x) (inI (ordI p m) y)))) := by
 have hp2 := hs.p2
 have hp9 := hs.p9
 have hm1 := hs.m1
 have hm8 := hs.m8
 have hqq := hs.q
 have hlow := hs.low
 have hmi := hs.ent
 have hal := digs_length p m.toNat (inI (ordI p m) x)
 have hbl := digs_length p m.toNat (inI (ordI p m) y)
 have hai := digs_in (p := p) (by omega) m.toNat (inI (ordI p m) x)
 have hbi := digs_in (p := p) (by omega) m.toNat (inI (ordI p m) y)
 have hT := tm_lin m.toNat (rl mod)
 have hmul := @mul_done p m mod hs (inI (ordI p m) x) (inI (ordI p m) y)
 have hconv := conv_row (M := m.toNat) (low := rl mod) (a := dg p m.toNat (inI (ordI p m) y)) (b := dg p m.toNat (inI (ordI p m) x)) (dg_sup _ _ _) (by omega)
 simp only [dg] at hmul hconv
 generalize ha : digs p m.toNat (inI (ordI p m) x) = a at hal hai hmul hconv
 generalize hb : digs p m.toNat (inI (ordI p m) y) = b at hbl hbi hmul hconv
 have hbsup : Sup m.toNat (rl b) := by rw [← hbl]; exact rl_sup b
 refine pure_of (args := [.agg #[.int .i64 p, .int .i64 m, .slice A mod.length c], .int .i64 x, .int .i64 y]) 117 Try.func128 rfl rfl rfl ref_Mul_ent ⟨id, trivial⟩ (fun w0 => ?_)
 refine tS ?_
 refine tR fun _ _ _ => ?_
 refine eV (eBox rfl rfl rfl rfl rfl (fun p0 => ?_))
 refine pV ?_
 refine tS ?_
 refine tR fun _ _ _ => ?_
 refine sV (rLdS rfl rfl rfl) ?_
 refine pV ?_
 refine eV (eCall1 rfl rfl rfl (ref_Digits _ _ _ _ _ hs _) ⟨rfl, rfl, trivial⟩ ?_)
 rintro _ _ ⟨B1, rfl, rfl⟩
 refine pV ?_
 refine tS ?_
 rw [ha]
 refine tR fun _ _ _ => ?_
 refine sV (rLdS rfl rfl rfl) ?_
 refine pV ?_
 refine eV (eCall1 rfl rfl rfl (ref_Digits _ _ _ _ _ hs _) ⟨rfl, rfl, trivial⟩ ?_)
 rintro _ _ ⟨B2, rfl, rfl⟩
 refine pV ?_
 refine tS ?_
 rw [hb]
 refine tR fun _ _ _ => ?_
 refine sV (rFld rfl rfl) ?_
 refine sV (rLdF rfl rfl rfl) ?_
 refine sV (rMul rfl rfl rfl (by omega) (by omega)) ?_
 refine sV (rSub rfl rfl rfl (by omega) (by omega)) ?_
 refine eV (eMakeI rfl rfl rfl rfl rfl (by omega) (by omega) (by omega) (fun A3 => ?_))
 refine pV ?_
 refine tS ?_
 refine tS ?_
 refine tR fun _ _ _ => ?_
 refine pV ?_
 refine tB ?_
 refine tr_loop2 (fun (i : Int) (c2 : List Int) => [(3, .pointer (some p0)), (7, .slice B1 m.toNat m.toNat), (8, .slice B2 m.toNat m.toNat), (9, .slice A3 (2 * m - 1).toNat (2 * m - 1).toNat), (10, .int .i64 i)]) (fun (i : Int) (c2 : List Int) => [ow A3 3 (2 * m - 1).toNat (ints c2), ow B2 3 m.toNat (ints b), ow B1 3 m.toNat (ints a), blk p0 24 [.int .i64 p, .int .i64 m, .slice A mod.length c], ro A (ints mod)]) (fun (i : Int) (c2 : List Int) => (0 ≤ i ∧ i ≤ m) ∧ c2.length = (2 * m - 1).toNat ∧ AllIn p c2 ∧ Cg p (rl c2) (pl sh i.toNat (rl a) (rl b))) (fun (i : Int) (c2 : List Int) => (m - i).toNat) (0) (List.replicate (2 * m - 1).toNat 0) ⟨rfl, rfl, rfl, rfl, rfl, trivial⟩ (by first | exact cs _ _ | exact CSub.refl _) (⟨⟨by omega, by omega⟩, by simp, fun z hz => by have := List.eq_of_mem_replicate hz; omega, Cg.of_eq (by funext j; simp only [rl, pl, Row.z, Int.toNat_zero]; rw [List.getD_eq_getElem?_getD, List.getElem?_replicate]; split <;> rfl)⟩) (fun i c2 hI => ?_)
 obtain ⟨⟨hi0, hi1⟩, hcl, hci, hcr⟩ := hI
 refine tS ?_
 refine tS ?_
 refine tR fun _ _ _ => ?_
 refine pV ?_
 refine sV (rFld rfl rfl) ?_
 refine sV (rLdF rfl rfl rfl) ?_
 refine pV ?_
 refine tC rfl (fun h5 => ?_) (fun h5 => ?_)
 ·try simp only [zbA] at h5
  refine tK ?_
  refine tS ?_
  refine tB ?_
  refine tS ?_
  refine tR fun _ _ _ => ?_
  refine pV ?_
  refine tB ?_
  refine tr_loop2 (fun (j : Int) (c3 : List Int) => [(3, .pointer (some p0)), (7, .slice B1 m.toNat m.toNat), (8, .slice B2 m.toNat m.toNat), (9, .slice A3 (2 * m - 1).toNat (2 * m - 1).toNat), (10, .int .i64 i), (11, .int .i64 j)]) (fun (j : Int) (c3 : List Int) => [ow A3 3 (2 * m - 1).toNat (ints c3), ow B2 3 m.toNat (ints b), ow B1 3 m.toNat (ints a), blk p0 24 [.int .i64 p, .int .i64 m, .slice A mod.length c], ro A (ints mod)]) (fun (j : Int) (c3 : List Int) => (0 ≤ j ∧ j ≤ m) ∧ c3.length = (2 * m - 1).toNat ∧ AllIn p c3 ∧ Cg p (rl c3) ((pl sh i.toNat (rl a) (rl b)).add (Row.sm (rl a i.toNat) (it sh i.toNat (upTo j.toNat (rl b)))))) (fun (j : Int) (c3 : List Int) => (m - j).toNat) (0) (c2) ⟨rfl, rfl, rfl, rfl, rfl, rfl, trivial⟩ (by first | exact cs _ _ | exact CSub.refl _) (⟨⟨by omega, by omega⟩, hcl, hci, by rw [Int.toNat_zero, upTo_zero, Row.sm_z, Row.add_z]; exact hcr⟩) (fun j c3 hI => ?_)
  obtain ⟨⟨hj0, hj1⟩, hcl3, hci3, hcr3⟩ := hI
  have hg1 := hai.get (by omega) i.toNat
  have hg2 := hbi.get (by omega) j.toNat
  have hg3 := hci3.get (by omega) (i + j).toNat
  have hmb := mul_bd0 (a.getD i.toNat 0) (b.getD j.toNat 0) 256 256 (by omega) (by omega) (by omega) (by omega)
  have hv0 := Int.emod_nonneg (c3.getD (i + j).toNat 0 + a.getD i.toNat 0 * b.getD j.toNat 0) (show p ≠ 0 by omega)
  have hv1 := Int.emod_lt_of_pos (c3.getD (i + j).toNat 0 + a.getD i.toNat 0 * b.getD j.toNat 0) (show 0 < p by omega)
  refine tS ?_
  refine tS ?_
  refine tR fun _ _ _ => ?_
  refine pV ?_
  refine sV (rFld rfl rfl) ?_
  refine sV (rLdF rfl rfl rfl) ?_
  refine pV ?_
  refine tC rfl (fun h8 => ?_) (fun h8 => ?_)
  ·try simp only [zbA] at h8
   refine tK ?_
   refine tS ?_
   refine tB ?_
   refine tr_draw [0, 1, 2, 3, 4, 5, 6, 7, 8, 9, 10, 11, 12, 13, 14, 15, 16, 17, 18, 19, 20, 21, 22, 23] [24] mixed (by kernel_rfl) fun _ _ _ => ?_
   iterate 3 refine pV ?_
   refine sV (rAdd rfl rfl rfl (by omega) (by omega)) ?_
   iterate 3 refine pV ?_
   refine sV (rAdd rfl rfl rfl (by omega) (by omega)) ?_
   refine sV (rIdxI rfl rfl rfl (by omega) (by omega) (by omega)) ?_
   refine sV (rLdI rfl rfl (by omega)) ?_
   iterate 2 refine pV ?_
   refine sV (rIdxI rfl rfl rfl (by omega) (by omega) (by omega)) ?_
   refine sV (rLdI rfl rfl (by omega)) ?_
   iterate 2 refine pV ?_
   refine sV (rIdxI rfl rfl rfl (by omega) (by omega) (by omega)) ?_
   refine sV (rLdI rfl rfl (by omega)) ?_
   refine sV (rMul rfl rfl rfl (by omega) (by omega)) ?_
   refine sV (rAdd rfl rfl rfl (by omega) (by omega)) ?_
   refine sV (rFld rfl rfl) ?_
   refine sV (rLdF rfl rfl rfl) ?_
   refine sV (rRem rfl rfl rfl (by omega) (by omega)) ?_
   refine sV (rIdxI rfl rfl rfl (by omega) (by omega) (by omega)) ?_
   refine eV (eStI rfl rfl rfl rfl (by omega) ?_)
   refine tR fun _ _ _ => ?_
   refine pV ?_
   refine sV (rAdd rfl rfl rfl (by omega) (by omega)) ?_
   refine pV ?_
   refine ⟨j + 1, c3.set (i + j).toNat ((c3.getD (i + j).toNat 0 + a.getD i.toNat 0 * b.getD j.toNat 0) % p), ⟨rfl, rfl, rfl, rfl, rfl, rfl, trivial⟩, by first | exact cs _ _ | exact CSub.refl _, ?_⟩
   refine ⟨⟨⟨by omega, by omega⟩, by simpa using hcl3, hci3.set ⟨hv0, hv1⟩ _, ?_⟩, by omega⟩
   refine Cg.trans (set_row (d := a.getD i.toNat 0 * b.getD j.toNat 0) (by omega) (by rw [Int.emod_emod])) ?_
   refine Cg.trans (Cg.add hcr3 (Cg.refl _ _)) (Cg.of_eq ?_)
   rw [show (j + 1).toNat = j.toNat + 1 by omega, upTo_succ, Row.sm_add, Row.sm_sm, Row.add_assoc, show i.toNat + j.toNat = (i + j).toNat by omega]
   rfl
  ·try simp only [zbA] at h8
   refine tE ?_
   refine tR fun _ _ _ => ?_
   refine pV ?_
   refine sV (rAdd rfl rfl rfl (by omega) (by omega)) ?_
   refine pV ?_
   refine ⟨i + 1, c3, ⟨rfl, rfl, rfl, rfl, rfl, trivial⟩, by first | exact cs _ _ | exact CSub.refl _, ?_⟩
   have hjm : j.toNat = m.toNat := by omega
   refine ⟨⟨⟨by omega, by omega⟩, hcl3, hci3, ?_⟩, by omega⟩
   rw [hjm, upTo_all hbsup] at hcr3
   rw [show (i + 1).toNat = i.toNat + 1 by omega]
   exact hcr3
 ·try simp only [zbA] at h5
  refine tE ?_
  refine tS ?_
  refine tS ?_
  refine tR fun _ _ _ => ?_
  refine sV (rFld rfl rfl) ?_
  refine sV (rLdF rfl rfl rfl) ?_
  refine sV (rMul rfl rfl rfl (by omega) (by omega)) ?_
  refine sV (rSub rfl rfl rfl (by omega) (by omega)) ?_
  refine pV ?_
  refine tB ?_
  refine tr_loop2 (fun (i : Int) (c2 : List Int) => [(3, .pointer (some p0)), (7, .slice B1 m.toNat m.toNat), (8, .slice B2 m.toNat m.toNat), (9, .slice A3 (2 * m - 1).toNat (2 * m - 1).toNat), (12, .int .i64 i)]) (fun (i : Int) (c2 : List Int) => [ow A3 3 (2 * m - 1).toNat (ints c2), ow B2 3 m.toNat (ints b), ow B1 3 m.toNat (ints a), blk p0 24 [.int .i64 p, .int .i64 m, .slice A mod.length c], ro A (ints mod)]) (fun (i : Int) (c2 : List Int) => (m - 1 ≤ i ∧ i ≤ 2 * m - 2) ∧ c2.length = (2 * m - 1).toNat ∧ AllIn p c2 ∧ Cg p (pl (tm m.toNat (rl mod)) (i + 1).toNat (rl c2) (ee 0)) (rm m.toNat (rl mod) (rl b) (rl a))) (fun (i : Int) (c2 : List Int) => (i + 1).toNat) (2 * m - 2) (c2) ⟨rfl, rfl, rfl, rfl, rfl, trivial⟩ (by first | exact cs _ _ | exact CSub.refl _) (⟨⟨by omega, by omega⟩, hcl, hci, by
       rw [← hconv, show (2 * m - 2 + 1).toNat = 2 * m.toNat - 1 by omega]
       rw [show (i.toNat) = m.toNat by omega] at hcr
       exact Cg.pl hT _ hcr (Cg.refl _ _)⟩) (fun i c2 hI => ?_)
  clear hcl hci hcr hi0 hi1
  obtain ⟨⟨hi0, hi1⟩, hcl, hci, hcr⟩ := hI
  refine tS ?_
  refine tS ?_
  refine tR fun _ _ _ => ?_
  refine pV ?_
  refine sV (rFld rfl rfl) ?_
  refine sV (rLdF rfl rfl rfl) ?_
  refine pV ?_
  refine tC rfl (fun h12 => ?_) (fun h12 => ?_)
  ·try simp only [zbA] at h12
   refine tK ?_
   refine tS ?_
   refine tB ?_
   refine tS ?_
   refine tR fun _ _ _ => ?_
   refine pV ?_
   refine tB ?_
   refine tr_loop2 (fun (j : Int) (c3 : List Int) => [(3, .pointer (some p0)), (7, .slice B1 m.toNat m.toNat), (8, .slice B2 m.toNat m.toNat), (9, .slice A3 (2 * m - 1).toNat (2 * m - 1).toNat), (12, .int .i64 i), (13, .int .i64 j)]) (fun (j : Int) (c3 : List Int) => [ow A3 3 (2 * m - 1).toNat (ints c3), ow B2 3 m.toNat (ints b), ow B1 3 m.toNat (ints a), blk p0 24 [.int .i64 p, .int .i64 m, .slice A mod.length c], ro A (ints mod)]) (fun (j : Int) (c3 : List Int) => (0 ≤ j ∧ j ≤ m) ∧ c3.length = (2 * m - 1).toNat ∧ AllIn p c3 ∧ (∀ k : Nat, i - m ≤ k → (k : Int) < i - m + j → c3.getD k 0 = (c2.getD k 0 + (p - c2.getD i.toNat 0) * mod.getD (k + m.toNat - i.toNat) 0) % p) ∧ ∀ k : Nat, ¬ (i - m ≤ k ∧ (k : Int) < i - m + j) → c3.getD k 0 = c2.getD k 0) (fun (j : Int) (c3 : List Int) => (m - j).toNat) (0) (c2) ⟨rfl, rfl, rfl, rfl, rfl, rfl, trivial⟩ (by first | exact cs _ _ | exact CSub.refl _) (⟨⟨by omega, by omega⟩, hcl, hci, fun k k0 k1 => by omega, fun k _ => rfl⟩) (fun j c3 hI => ?_)
   obtain ⟨⟨hj0, hj1⟩, hcl3, hci3, hdone, htodo⟩ := hI
   have hmodl : (mod.length : Int) = m := by omega
   have hg1 := hmi.get (by omega) j.toNat
   have hg3 := hci3.get (by omega) (i - m + j).toNat
   have hg4 := hci3.get (by omega) i.toNat
   have htop := htodo i.toNat (by omega)
   have hmb := mul_bd0 (p - c3.getD i.toNat 0) (mod.getD j.toNat 0) 256 256 (by omega) (by omega) (by omega) (by omega)
   have hv0 := Int.emod_nonneg (c3.getD (i - m + j).toNat 0 + (p - c3.getD i.toNat 0) * mod.getD j.toNat 0) (show p ≠ 0 by omega)
   have hv1 := Int.emod_lt_of_pos (c3.getD (i - m + j).toNat 0 + (p - c3.getD i.toNat 0) * mod.getD j.toNat 0) (show 0 < p by omega)
   refine tS ?_
   refine tS ?_
   refine tR fun _ _ _ => ?_
   refine pV ?_
   refine sV (rFld rfl rfl) ?_
   refine sV (rLdF rfl rfl rfl) ?_
   refine pV ?_
   refine tC rfl (fun h15 => ?_) (fun h15 => ?_)
   ·try simp only [zbA] at h15
    refine tK ?_
    refine tS ?_
    refine tB ?_
    refine tr_draw [0, 1, 2, 3, 4, 5, 6, 7, 8, 9, 10, 11, 12, 13, 14, 15, 16, 17, 18, 19, 20, 21, 22, 23, 24, 25, 26, 27, 28, 29, 30, 31, 32, 33] [34] mixed (by kernel_rfl) fun _ _ _ => ?_
    iterate 2 refine pV ?_
    refine sV (rFld rfl rfl) ?_
    refine sV (rLdF rfl rfl rfl) ?_
    refine sV (rSub rfl rfl rfl (by omega) (by omega)) ?_
    refine pV ?_
    refine sV (rAdd rfl rfl rfl (by omega) (by omega)) ?_
    iterate 2 refine pV ?_
    refine sV (rFld rfl rfl) ?_
    refine sV (rLdF rfl rfl rfl) ?_
    refine sV (rSub rfl rfl rfl (by omega) (by omega)) ?_
    refine pV ?_
    refine sV (rAdd rfl rfl rfl (by omega) (by omega)) ?_
    refine sV (rIdxI rfl rfl rfl (by omega) (by omega) (by omega)) ?_
    refine sV (rLdI rfl rfl (by omega)) ?_
    refine sV (rFld rfl rfl) ?_
    refine sV (rLdF rfl rfl rfl) ?_
    iterate 2 refine pV ?_
    refine sV (rIdxI rfl rfl rfl (by omega) (by omega) (by omega)) ?_
    refine sV (rLdI rfl rfl (by omega)) ?_
    refine sV (rSub rfl rfl rfl (by omega) (by omega)) ?_
    refine sV (rFld rfl rfl) ?_
    refine sV (rLdF rfl rfl rfl) ?_
    refine pV ?_
    refine sV (rIdxI rfl rfl rfl (by omega) (by omega) (by omega)) ?_
    refine sV (rLdI rfl rfl (by omega)) ?_
    refine sV (rMul rfl rfl rfl (by omega) (by omega)) ?_
    refine sV (rAdd rfl rfl rfl (by omega) (by omega)) ?_
    refine sV (rFld rfl rfl) ?_
    refine sV (rLdF rfl rfl rfl) ?_
    refine sV (rRem rfl rfl rfl (by omega) (by omega)) ?_
    refine sV (rIdxI rfl rfl rfl (by omega) (by omega) (by omega)) ?_
    refine eV (eStI rfl rfl rfl rfl (by omega) ?_)
    refine tR fun _ _ _ => ?_
    refine pV ?_
    refine sV (rAdd rfl rfl rfl (by omega) (by omega)) ?_
    refine pV ?_
    refine ⟨j + 1, c3.set (i - m + j).toNat ((c3.getD (i - m + j).toNat 0 + (p - c3.getD i.toNat 0) * mod.getD j.toNat 0) % p), ⟨rfl, rfl, rfl, rfl, rfl, rfl, trivial⟩, by first | exact cs _ _ | exact CSub.refl _, ?_⟩
    refine ⟨⟨⟨by omega, by omega⟩, by simpa using hcl3, hci3.set ⟨hv0, hv1⟩ _, fun k k0 k1 => ?_, fun k hk => ?_⟩, by omega⟩
    ·rw [getD_set]
     by_cases hkk : (i - m + j).toNat = k
     ·rw [if_pos ⟨hkk, by omega⟩, hkk, htop, htodo k (by omega), show k + m.toNat - i.toNat = j.toNat by omega]
     ·rw [if_neg (by omega)]; exact hdone k k0 (by omega)
    ·rw [getD_set, if_neg (by omega)]
     exact htodo k (by omega)
   ·try simp only [zbA] at h15
    refine tE ?_
    refine tR fun _ _ _ => ?_
    refine pV ?_
    refine sV (rSub rfl rfl rfl (by omega) (by omega)) ?_
    refine pV ?_
    refine ⟨i - 1, c3, ⟨rfl, rfl, rfl, rfl, rfl, trivial⟩, by first | exact cs _ _ | exact CSub.refl _, ?_⟩
    refine ⟨⟨⟨by omega, by omega⟩, hcl3, hci3, ?_⟩, by omega⟩
    refine Cg.trans ?_ hcr
    rw [show (i - 1 + 1).toNat = i.toNat by omega, show (i + 1).toNat = i.toNat + 1 by omega]
    refine reduce_step (by omega) (by omega) (fun k hk => ?_)
    by_cases hkk : i.toNat ≤ k + m.toNat
    ·rw [if_pos hkk]
     have := hdone k (by omega) (by omega)
     simp only [rl]
     rw [this, Int.emod_emod]
    ·rw [if_neg hkk]
     have := htodo k (by omega)
     simp only [rl]
     rw [this]; simp
  ·try simp only [zbA] at h12
   refine tE ?_
   refine tS ?_
   have him : i = m - 1 := by omega
   have hpq : p ^ m.toNat ≤ 256 := hqq
   rw [show (i + 1).toNat = m.toNat by omega] at hcr
   refine tr_draw [0, 1, 2, 3, 4, 5, 6] [] mixed (by kernel_rfl) fun _ _ _ => ?_
   refine sV (rLdS rfl rfl rfl) ?_
   refine pV ?_
   refine sV (rFld rfl rfl) ?_
   refine sV (rLdF rfl rfl rfl) ?_
   refine sV (rCutHi rfl rfl rfl (by omega) (by omega)) ?_
   refine eV (eCallV rfl rfl rfl (ref_Value _ _ _ _ _ (by omega) (by omega) _ _ _ c2 (by omega) (by omega) hci (by omega)) ⟨rfl, rfl, trivial⟩ ?_)
   refine pV ?_
   have hres := hmul hci (by omega) hcr
   exact tr_ret ⟨trivial, _, _, rfl, ⟨by rw [hres], rfl⟩, CSub.nil _, trivial⟩
end Go.Proofs.Ytdkahdehodopoaa

namespace Go.Proofs.Ytdkahdehodopoaa
open Go.ChangeShapes Go.WideShapes Go.ChangeAt Go.RowKit Go.Deep
def Fits (n : Int) : Prop := -9223372036854775808 ≤ n ∧ n ≤ 9223372036854775807
theorem fits_of_wf {n : Int} (h : (Lit.int .i64 n).wf = true) : Fits n := by
 simp [Lit.wf, IntKind.min, IntKind.max, IntKind.bits, IntKind.signed] at h
 unfold Fits
 omega
section
variable {H : Type} {enc : TypeId × Value → H} {P : Program} {w : World} {held : Bool} {t e : TypeId} {fuel : Nat} {cs : List Value} {x : DataW H × List MemPlace}
theorem open_I (ht : P.underlying t = some (.int .i64)) (h : DataW.trod enc P w 0 (fun _ => true) held fuel t cs = some x) : ∃ n, cs = [.int .i64 n] ∧ Fits n := by
 obtain ⟨n, h1, _, h3⟩ := DataW.trod_int ht h
 exact ⟨n, h1, fits_of_wf h3⟩
end
section
variable {H : Type} {enc : TypeId × Value → H} {P : Program} {w : World} {b : Nat} {t e : TypeId} {v : Value} {d : DataW H} {p : List MemPlace}
theorem get_I (ht : P.underlying t = some (.int .i64)) (hv : Value.okWide P w .any b t v) (h : DataW.Trod enc P w 0 (fun _ => true) true t v d p) : ∃ n, v = .int .i64 n ∧ Fits n := by
 obtain ⟨n, rfl, _, _, hn⟩ := open_int ht hv h
 exact ⟨n, rfl, fits_of_wf hn⟩
def fdInfo (P : Program) (t : TypeId) (i : Nat) : Option (Nat × TypeId × Nat) :=
 match P.underlying t with
 | some (.struct fs) => (fs[i]?).map fun f => (f.offset, f.type, P.cellsOf f.type)
 | _ => none
def isSt (P : Program) (t : TypeId) : Bool := match P.underlying t with | some (.struct _) => true | _ => false
end
def Light {H : Type} (P : Program) (t : TypeId) (d : DataW H) : Prop := ∀ n ∈ d.weights P t, n ≤ reachBytes
theorem light_of {H : Type} {P : Program} {ts : List TypeId} {ds : List (DataW H)} (h : (DataW.weightsEach P ts ds).all (· ≤ reachBytes) = true) {j : Nat} {t : TypeId} {d : DataW H} (ht : ts[j]? = some t) (hd : ds[j]? = some d) : Light P t d := fun n hn => by
 have := List.all_eq_true.1 h _ (DataW.weights_mem_each ht hd n hn)
 simpa using this
section
variable {H : Type} {enc : TypeId × Value → H} {P : Program} {w : World} {held : Bool} {t e : TypeId} {fuel : Nat} {cs : List Value} {x : DataW H × List MemPlace}
theorem open_ISw (ht : P.underlying t = some (.slice e)) (he : P.underlying e = some (.int .i64)) (hc : P.cellsOf e = 1) (hb : P.bytesOf e = 8) (hw : Light P t x.1) (h : DataW.trod enc P w 0 (fun _ => true) held fuel t cs = some x) :
  ∃ (A : Option Addr) (c : Nat) (xs : List Int), cs = [.slice A xs.length c] ∧ xs.length ≤ c ∧ (ro A (ints xs)).sat w ∧ (∀ z ∈ xs, Fits z) ∧ xs.length ≤ 17592186044415 := by
 rcases open_ints ht he hc h with ⟨rfl, _⟩ | ⟨a, len, cap, zs, rfl, _, hl, hm, hz, hx, hcell, hwz⟩
 ·exact ⟨none, 0, [], rfl, Nat.le_refl _, fun j hj => by simp [ints] at hj, fun z hz => by simp at hz, by simp⟩
 ·simp only [if_true] at hz
  have hlen : (zs.take len).length = len := by rw [List.length_take]; omega
  have hwt := hw (((lits .i64 (zs.take len) : List (DataW H)).length + (lits .i64 (zs.drop len) : List (DataW H)).length) * P.bytesOf e) (by rw [hx]; simp [DataW.weights, ht])
  refine ⟨some a, cap, zs.take len, by rw [hlen], by rw [hlen]; exact hl, fun j hj => ?_, fun z hz' => fits_of_wf (hwz z (List.mem_of_mem_take hz')), ?_⟩
  ·rw [ints_length, hlen] at hj
   refine ⟨a, rfl, ?_⟩
   rw [hcell j (by omega)]
   have hj' : j < zs.length := by omega
   simp [ints, hj']
  ·rw [hb] at hwt
   simp only [lits, List.length_map, hlen, reachBytes] at hwt
   omega
end
section
variable {H : Type} {enc : TypeId × Value → H} {P : Program} {w : World} {b : Nat} {t e : TypeId} {v : Value} {d : DataW H} {p : List MemPlace}
theorem get_FdW (hst : isSt P t = true) (hw : Light P t d) (hv : Value.okWide P w .any b t v) (h : DataW.Trod enc P w 0 (fun _ => true) true t v d p) :
  ∃ l : List Value, v = .agg l.toArray ∧ l.length = P.cellsOf t ∧ ∀ (i off : Nat) (ty : TypeId) (n : Nat), fdInfo P t i = some (off, ty, n) → ∃ m y, DataW.trod enc P w 0 (fun _ => true) true m ty ((l.drop off).take n) = some y ∧ Light P ty y.1 := by
 unfold isSt at hst
 split at hst
 ·rename_i fs hu
  obtain ⟨cs, rfl, _⟩ := okWide_struct hu hv
  obtain ⟨fuel, hf⟩ := h
  obtain ⟨xs, n, _, hx, h1, h2, h3⟩ := DataW.trod_struct hu hf
  have hd : d = .agg (xs.map (·.1)) := congrArg Prod.fst hx
  refine ⟨cs.toList, rfl, h1, fun i off ty k hi => ?_⟩
  simp only [fdInfo, hu] at hi
  cases hfi : fs[i]? with
  | none => simp [hfi] at hi
  | some f =>
   simp only [hfi, Option.map_some, Option.some.injEq, Prod.mk.injEq] at hi
   obtain ⟨rfl, rfl, rfl⟩ := hi
   have hlt : i < xs.length := by rw [h2]; exact (Array.getElem?_eq_some_iff.1 hfi).1
   refine ⟨n, xs[i], (h3 i f hfi).trans (List.getElem?_eq_getElem hlt), fun k hk => hw k ?_⟩
   rw [hd]
   simp only [DataW.weights, hu]
   refine DataW.weights_mem_each (j := i) (t := f.type) (d := xs[i].1) (by simp [hfi]) (by simp [hlt]) k hk
 ·cases hst
end
section
variable {H : Type} {enc : TypeId × Value → H} {P : Program} {w : World} {held : Bool} {t e f : TypeId} {fuel : Nat} {cs : List Value} {x : DataW H × List MemPlace}
instance : Inhabited RowM := ⟨rowD⟩
end
theorem joined_of {P : Program} {f : FuncId} {fn : Func} {s : ChangeSpec} {c : OpenClaim}
  (h1 : (c.wf (OpenSpec.ofChange s) && laidOutB P && mapsRowed P && fn.params.all (P.readableRec ·) && namedTie P c.named s.vars && (c.stops == []) && (P.stops == []) && (c.knobs == []) && (P.stopKnobs == [])) = true)
  (h2 : (c.inPlace == P.inPlace f) = true) (h3 : (c.unfollowed == P.unfollowed f) = true) (h4 : (c.recurses == P.recurses f) = true) (h5 : (c.named == P.varsNamed f) = true)
  (h6 : (c.maps == (fn.params.toList ++ s.plain.varTypes P).any (P.mapsRec ·)) = true) (h7 : (c.ifaces == (fn.params.toList ++ s.plain.varTypes P).any (P.ifacesRec ·)) = true) (h8 : (c.mapsOut == P.mapsAmong fn.resultTypes.toList) = true)
  (h9 : (c.loops == (fn.params.toList ++ s.plain.varTypes P).any (P.loopsFrom ·)) = true) (h10 : (c.wideKeys == (fn.params.toList ++ s.plain.varTypes P ++ fn.resultTypes.toList).any (P.wideKeysFrom ·)) = true)
  (h11 : s.vars.all (P.varReadable ·) = true) (h12 : fn.resultTypes.all (fun t => P.readableRec t && decide (t < P.types.size)) = true) (h13 : (c.ifacesOut == fn.resultTypes.toList.any (P.ifacesRec ·)) = true) (h14 : (c.loopsOut == fn.resultTypes.toList.any (P.loopsFrom ·)) = true)
  (h15 : (c.plainKeys == P.plainKeys) = true) (h16 : c.shortTexts.isNone = true) (h17 : P.stopsHeard = true) (h18 : P.mayEnter = true) (h19 : (c.lifted == P.liftsFinal) = true) (h20 : (P.make == some c.make) = true)
  (h21 : (c.kinds == (if c.domain.isEmpty then [] else fn.params.toList.map fun t => match P.underlying t with | some (.int k) => some k | _ => none)) = true) (h22 : (c.pinned == c.pinnedBy) = true)
  (h23 : (c.veiled == (fn.params.toList ++ s.plain.varTypes P ++ fn.resultTypes.toList).any (P.veiledRec ·)) = true) (h24 : c.veiledFits P fn.params.toList (fn.params.toList ++ s.plain.varTypes P ++ fn.resultTypes.toList) = true) : joinedFacts P f fn s c = true := by
 unfold joinedFacts
 simp only [Bool.and_eq_true] at h1 ⊢
 obtain ⟨⟨⟨⟨⟨⟨⟨⟨a1, a2⟩, a3⟩, a4⟩, a5⟩, a6⟩, a7⟩, a8⟩, a9⟩ := h1
 and_intros <;> assumption
end Go.Proofs.Ytdkahdehodopoaa

set_option maxRecDepth 100000
namespace Go.Proofs.Ytdkahdehodopoaa
open Go.ChangeShapes Go.WideShapes Go.ChangeAt Go.RowKit
theorem get_F {H : Type} {enc : TypeId × Value → H} {w : World} {b : Nat} {v : Value} {d : DataW H} {p : List MemPlace} (hw : Light Try.prog 24 d) (hv : Value.okWide Try.prog w .any b 24 v) (h : DataW.Trod enc Try.prog w 0 (fun _ => true) true 24 v d p) :
  ∃ (P M : Int) (A : Option Addr) (c : Nat) (mod : List Int), v = .agg #[.int .i64 P, .int .i64 M, .slice A mod.length c] ∧ (ro A (ints mod)).sat w ∧ mod.length ≤ 17592186044415 := by
 obtain ⟨l, rfl, h1, h2⟩ := get_FdW (by kernel_rfl) hw hv h
 have hl : l.length = 3 := h1.trans (by kernel_rfl)
 obtain ⟨n0, y0, hy0, _⟩ := h2 0 0 3 1 (by kernel_rfl)
 obtain ⟨a0, e0, _⟩ := open_I Try.underlying3 hy0
 obtain ⟨n1, y1, hy1, _⟩ := h2 1 1 3 1 (by kernel_rfl)
 obtain ⟨a1, e1, _⟩ := open_I Try.underlying3 hy1
 obtain ⟨n2, y2, hy2, hl2⟩ := h2 2 2 22 1 (by kernel_rfl)
 obtain ⟨A, c, xs, e2, _, h3, _, h4⟩ := open_ISw Try.underlying22 Try.underlying3 (by kernel_rfl) (by kernel_rfl) hl2 hy2
 match l, hl with
 | [b0, b1, b2], _ =>
  simp at e0 e1 e2
  exact ⟨a0, a1, A, c, xs, by rw [e0, e1, e2], h3, h4⟩
end Go.Proofs.Ytdkahdehodopoaa

namespace Go.Proofs.Ytdkahdehodopoaa
open Rg
class IsF (p m : Int) (mod : List Int) : Prop where
 out : FldR p m mod
noncomputable instance elF (p m : Int) (mod : List Int) [h : IsF p m mod] : Fd (El p m mod) := elFd h.out
theorem IsF.q2 {p m : Int} {mod : List Int} (h : IsF p m mod) : 2 ≤ pw p m := h.out.1.1.q2
theorem IsF.ord {p m : Int} {mod : List Int} (h : IsF p m mod) : ordI p m = pw p m := h.out.1.1.ord
section
variable {p m : Int} {mod : List Int} [hF : IsF p m mod]
def el (x : Int) : El p m mod := ⟨inI (pw p m) x, inI_bd (by have := hF.q2; omega) x⟩
theorem el_in {x : Int} (h : 0 ≤ x ∧ x < pw p m) : (el x : El p m mod).1 = x := inI_in h.1 h.2
theorem el_of (a : El p m mod) : el a.1 = a := El.ext (inI_in a.2.1 a.2.2)
theorem el_zero : (el 0 : El p m mod) = 0 := El.ext (inI_in (Int.le_refl 0) (by have := hF.q2; omega))
theorem el_one : (el 1 : El p m mod) = 1 := El.ext (inI_in (by omega) (by have := hF.q2; omega))
theorem val_zero_iff (a : El p m mod) : a.1 = 0 ↔ a = 0 := ⟨fun h => El.ext h, fun h => by rw [h]; rfl⟩
theorem el_eq_zero {x : Int} (h : 0 ≤ x ∧ x < pw p m) : (el x : El p m mod) = 0 ↔ x = 0 := by rw [← val_zero_iff, el_in h]
theorem ext_getD {a b : List Int} (hl : a.length = b.length) (h : ∀ j, a.getD j 0 = b.getD j 0) : a = b := List.ext_getElem hl fun j h1 h2 => by
 have := h j
 rw [List.getD_eq_getElem?_getD, List.getElem?_eq_getElem h1, List.getD_eq_getElem?_getD, List.getElem?_eq_getElem h2] at this
 exact this
noncomputable def rw' (l : List Int) : Vc (El p m mod) := fun j => el (l.getD j 0)
theorem rw_at (l : List Int) (j : Nat) : (rw' l : Vc (El p m mod)) j = el (l.getD j 0) := rfl
end
end Go.Proofs.Ytdkahdehodopoaa

namespace Go.Proofs.Ytdkahdehodopoaa
def addD (p : Int) : Nat → Int → Int → Int
 | 0, _, _ => 0
 | n + 1, x, y => (x % p + y % p) % p + p * addD p n (x / p) (y / p)
def negD (p : Int) : Nat → Int → Int
 | 0, _ => 0
 | n + 1, x => (p - x % p) % p + p * negD p n (x / p)
theorem dg_head (p : Int) (M : Nat) (x : Int) : dg p (M + 1) x 0 = x % p := rfl
theorem rv_head (p : Int) (M : Nat) (u : Row) : rv p (M + 1) u = u 0 % p + p * rv p M (fun j => u (j + 1)) := by
 unfold rv
 rw [List.range_succ_eq_map, List.map_cons, List.map_map, vl]
 rfl
theorem add_rec (p : Int) : ∀ (M : Nat) (x y : Int), rv p M ((dg p M x).add (dg p M y)) = addD p M x y
 | 0, _, _ => rfl
 | M + 1, x, y => by
  rw [rv_head, addD, ← add_rec p M]
  rfl
theorem addI_rec (p m x y : Int) : addI p m x y = addD p m.toNat x y := add_rec p _ x y
theorem neg_rec {p : Int} (hp : 2 ≤ p) : ∀ (M : Nat) (x : Int), rv p M (Row.sm (-1) (dg p M x)) = negD p M x
 | 0, _ => rfl
 | M + 1, x => by
  rw [rv_head, negD, ← neg_rec hp M]
  have h1 : Row.sm (-1) (dg p (M + 1) x) 0 % p = (p - x % p) % p := by
   simp only [Row.sm, dg_head]
   rw [show (-1 : Int) * (x % p) = (p - x % p) + p * (-1) by omega, Int.add_mul_emod_self_left]
  rw [h1]
  rfl
theorem negI_rec {p : Int} (hp : 2 ≤ p) (m x : Int) : negI p m x = negD p m.toNat x := neg_rec hp _ x
theorem addD_bd {p : Int} (hp : 2 ≤ p) : ∀ (n : Nat) (x y : Int), 0 ≤ addD p n x y ∧ addD p n x y < p ^ n := fun n x y => by
 have := rv_bd hp n ((dg p n x).add (dg p n y))
 rwa [add_rec] at this
theorem negD_bd {p : Int} (hp : 2 ≤ p) : ∀ (n : Nat) (x : Int), 0 ≤ negD p n x ∧ negD p n x < p ^ n := fun n x => by
 have := rv_bd hp n (Row.sm (-1) (dg p n x))
 rwa [neg_rec hp] at this
theorem addD_zero (p : Int) : ∀ n : Nat, addD p n 0 0 = 0
 | 0 => rfl
 | n + 1 => by simp [addD, addD_zero p n]
theorem negD_zero (p : Int) : ∀ n : Nat, negD p n 0 = 0
 | 0 => rfl
 | n + 1 => by simp [negD, negD_zero p n]
theorem ediv_lt_pow {p x : Int} (hp : 2 ≤ p) {n : Nat} (h : x < p ^ (n + 1)) : x / p < p ^ n := Int.ediv_lt_of_lt_mul (by omega) (by rwa [Int.pow_succ] at h)
theorem xor_rec : ∀ (n x y : Nat), x < 2 ^ n → y < 2 ^ n → addD 2 n x y = ((x ^^^ y : Nat) : Int)
 | 0, x, y, hx, hy => by
  have h1 : x = 0 := by simpa using hx
  have h2 : y = 0 := by simpa using hy
  subst h1; subst h2
  simp [addD]
 | n + 1, x, y, hx, hy => by
  have h1 : x / 2 < 2 ^ n := by rw [Nat.pow_succ] at hx; omega
  have h2 : y / 2 < 2 ^ n := by rw [Nat.pow_succ] at hy; omega
  have ih := xor_rec n (x / 2) (y / 2) h1 h2
  rw [addD]
  have e1 : ((x : Int) / 2) = ((x / 2 : Nat) : Int) := by omega
  have e2 : ((y : Int) / 2) = ((y / 2 : Nat) : Int) := by omega
  rw [e1, e2, ih, ← Nat.xor_div_two]
  have e3 : (x ^^^ y) % 2 = (x + y) % 2 := by
   have h3 := Nat.xor_mod_two_pow (a := x) (b := y) (n := 1)
   rw [Nat.pow_one] at h3
   rw [h3]
   rcases Nat.mod_two_eq_zero_or_one x with hx0 | hx0 <;> rcases Nat.mod_two_eq_zero_or_one y with hy0 | hy0 <;> rw [hx0, hy0] <;> simp <;> omega
  have e4 := Nat.div_add_mod (x ^^^ y) 2
  have e5 : ((x : Int) % 2 + (y : Int) % 2) % 2 = (((x + y) % 2 : Nat) : Int) := by omega
  rw [e5, ← e3]
  omega
theorem addI_two {m x y : Int} (hx : 0 ≤ x ∧ x < pw 2 m) (hy : 0 ≤ y ∧ y < pw 2 m) : addI 2 m x y = ((x.toNat ^^^ y.toNat : Nat) : Int) := by
 rw [addI_rec]
 have h1 : ((2 ^ m.toNat : Nat) : Int) = pw 2 m := by rw [Int.natCast_pow]; rfl
 have := xor_rec m.toNat x.toNat y.toNat (by omega) (by omega)
 rwa [Int.toNat_of_nonneg hx.1, Int.toNat_of_nonneg hy.1] at this
section
variable {p m : Int} {mod : List Int} [hF : IsF p m mod]
theorem el_inj {x y : Int} (hx : 0 ≤ x ∧ x < pw p m) (hy : 0 ≤ y ∧ y < pw p m) (h : (el x : El p m mod) = el y) : x = y := by
 have := congrArg Subtype.val h
 rwa [el_in hx, el_in hy] at this
end
end Go.Proofs.Ytdkahdehodopoaa

set_option maxRecDepth 100000
namespace Go.Proofs.Ytdkahdehodopoaa
open Go.RowKit
theorem take_eq_next {α : Type} (d : α) (a b : List α) {k : Nat} (hl : a.length = b.length) (hk : k < a.length) (h : a.take k = b.take k) (he : a.getD k d = b.getD k d) : a.take (k + 1) = b.take (k + 1) := by
 rw [List.take_add_one, List.take_add_one, h, List.getElem?_eq_getElem hk, List.getElem?_eq_getElem (show k < b.length by omega)]
 rw [List.getD_eq_getElem?_getD, List.getElem?_eq_getElem hk, List.getD_eq_getElem?_getD, List.getElem?_eq_getElem (show k < b.length by omega)] at he
 simp only [Option.getD_some] at he
 rw [he]
theorem xs_getD (rs : List RowM) (k : Nat) : (rs.map (·.xs)).getD k [] = (rs.getD k rowD).xs := by
 simp only [List.getD_eq_getElem?_getD, List.getElem?_map]
 cases rs[k]? <;> rfl
theorem ref_SameInts_ent : Enters Try.prog 56 := enters_of Try.func56 (by kernel_rfl) (by kernel_rfl)
theorem ref_SameInts (A : Option Addr) (n c : Nat) (a : List Int) (hn : n = a.length) (B : Option Addr) (m d : Nat) (b : List Int) (hm : m = b.length) (h9 : a.length ≤ 1000000000000) :
  Pure Try.prog 56 #[.slice A n c, .slice B m d] [ro A (ints a), ro B (ints b)] (isV (.bool (decide (a = b)))) := by
 refine pure_of (args := [.slice A n c, .slice B m d]) 26 Try.func56 rfl rfl rfl ref_SameInts_ent ⟨id, id, trivial⟩ (fun w0 => ?_)
 refine tS ?_
 refine tR fun _ _ _ => ?_
 refine pV ?_
 refine tS ?_
 refine tS ?_
 refine tR fun _ _ _ => ?_
 refine pV ?_
 refine sV (rLen rfl rfl) ?_
 refine pV ?_
 refine sV (rLen rfl rfl) ?_
 refine pV ?_
 refine tC rfl (fun h1 => ?_) (fun h1 => ?_)
 ·try simp only [zbA] at h1
  refine tS ?_
  refine tR fun _ _ _ => ?_
  refine pV ?_
  exact tr_ret ⟨trivial, _, _, rfl, ⟨by rw [decide_eq_false (fun h => by rw [h] at hn; omega)], rfl⟩, CSub.nil _, trivial⟩
 ·try simp only [zbA] at h1
  refine tK ?_
  refine tS ?_
  refine tS ?_
  refine tR fun _ _ _ => ?_
  refine pV ?_
  refine tB ?_
  refine tr_loop1 (fun (i : Nat) => [(0, .slice A n c), (1, .slice B m d), (5, .int .i64 i)]) (fun (i : Nat) => [ro A (ints a), ro B (ints b)]) (fun (i : Nat) => i ≤ a.length ∧ a.take i = b.take i) (fun (i : Nat) => a.length - i) (0) ⟨rfl, rfl, rfl, trivial⟩ (by first | exact cs _ _ | exact CSub.refl _) (⟨by omega, rfl⟩) (fun i hI => ?_)
  obtain ⟨hi, ht⟩ := hI
  have hll : a.length = b.length := by omega
  refine tS ?_
  refine tS ?_
  refine tR fun _ _ _ => ?_
  iterate 2 refine pV ?_
  refine sV (rLen rfl rfl) ?_
  refine pV ?_
  refine tC rfl (fun h4 => ?_) (fun h4 => ?_)
  ·try simp only [zbA] at h4
   refine tK ?_
   refine tS ?_
   refine tB ?_
   refine tS ?_
   refine tr_draw [0, 1, 2, 3, 4, 5, 6, 7, 8] [] mixed (by kernel_rfl) fun _ _ _ => ?_
   iterate 2 refine pV ?_
   refine sV (rIdxI rfl rfl rfl (by omega) (by omega) (by omega)) ?_
   refine sV (rLdI rfl rfl (by omega)) ?_
   iterate 2 refine pV ?_
   refine sV (rIdxI rfl rfl rfl (by omega) (by omega) (by omega)) ?_
   refine sV (rLdI rfl rfl (by omega)) ?_
   refine pV ?_
   refine tC rfl (fun h6 => ?_) (fun h6 => ?_)
   ·try simp only [zbA] at h6
    refine tS ?_
    refine tR fun _ _ _ => ?_
    refine pV ?_
    exact tr_ret ⟨trivial, _, _, rfl, ⟨by rw [decide_eq_false (fun h => h6 (by rw [h]))], rfl⟩, CSub.nil _, trivial⟩
   ·try simp only [zbA] at h6
    refine tK ?_
    refine tR fun _ _ _ => ?_
    refine pV ?_
    refine sV (rAdd rfl rfl rfl (by omega) (by omega)) ?_
    refine pV ?_
    refine ⟨i + 1, ⟨rfl, rfl, rfl, trivial⟩, by first | exact cs _ _ | exact CSub.refl _, ?_⟩
    exact ⟨⟨by omega, take_eq_next 0 a b hll (by omega) ht (by simpa using h6)⟩, by omega⟩
  ·try simp only [zbA] at h4
   refine tE ?_
   refine tS ?_
   refine tR fun _ _ _ => ?_
   refine pV ?_
   have hia : i = a.length := by omega
   rw [hia, List.take_length, hll, List.take_length] at ht
   exact tr_ret ⟨trivial, _, _, rfl, ⟨by rw [decide_eq_true ht], rfl⟩, CSub.nil _, trivial⟩
theorem ref_SameRows_ent : Enters Try.prog 25 := enters_of Try.func25 (by kernel_rfl) (by kernel_rfl)
theorem ref_SameRows (A : Option Addr) (n c : Nat) (rs : List RowM) (hn : n = rs.length) (B : Option Addr) (m d : Nat) (qs : List RowM) (hm : m = qs.length) (h9 : rs.length ≤ 1000000000000) (h8 : ∀ r ∈ rs, r.xs.length ≤ 1000000000000) :
  Pure Try.prog 25 #[.slice A n c, .slice B m d] [ro A (hdrs rs), rowsR rs, ro B (hdrs qs), rowsR qs] (isV (.bool (decide (rs.map (·.xs) = qs.map (·.xs))))) := by
 refine pure_of (args := [.slice A n c, .slice B m d]) 27 Try.func25 rfl rfl rfl ref_SameRows_ent ⟨id, id, id, id, trivial⟩ (fun w0 => ?_)
 refine tS ?_
 refine tR fun _ _ _ => ?_
 refine pV ?_
 refine tS ?_
 refine tS ?_
 refine tR fun _ _ _ => ?_
 refine pV ?_
 refine sV (rLen rfl rfl) ?_
 refine pV ?_
 refine sV (rLen rfl rfl) ?_
 refine pV ?_
 refine tC rfl (fun h1 => ?_) (fun h1 => ?_)
 ·try simp only [zbA] at h1
  refine tS ?_
  refine tR fun _ _ _ => ?_
  refine pV ?_
  exact tr_ret ⟨trivial, _, _, rfl, ⟨by rw [decide_eq_false (fun h => by have := congrArg List.length h; simp at this; omega)], rfl⟩, CSub.nil _, trivial⟩
 ·try simp only [zbA] at h1
  refine tK ?_
  refine tS ?_
  refine tS ?_
  refine tR fun _ _ _ => ?_
  refine pV ?_
  refine tB ?_
  refine tr_loop1 (fun (i : Nat) => [(0, .slice A n c), (1, .slice B m d), (5, .int .i64 i)]) (fun (i : Nat) => [ro A (hdrs rs), rowsR rs, ro B (hdrs qs), rowsR qs]) (fun (i : Nat) => i ≤ rs.length ∧ (rs.map (·.xs)).take i = (qs.map (·.xs)).take i) (fun (i : Nat) => rs.length - i) (0) ⟨rfl, rfl, rfl, trivial⟩ (by first | exact cs _ _ | exact CSub.refl _) (⟨by omega, rfl⟩) (fun i hI => ?_)
  obtain ⟨hi, ht⟩ := hI
  have hll : rs.length = qs.length := by omega
  refine tS ?_
  refine tS ?_
  refine tR fun _ _ _ => ?_
  iterate 2 refine pV ?_
  refine sV (rLen rfl rfl) ?_
  refine pV ?_
  refine tC rfl (fun h4 => ?_) (fun h4 => ?_)
  ·try simp only [zbA] at h4
   refine tK ?_
   refine tS ?_
   refine tB ?_
   refine tS ?_
   haveI : InB (i : Int).toNat rs.length := ⟨by omega⟩
   haveI : InB (i : Int).toNat qs.length := ⟨by omega⟩
   have hr8 := h8 _ (getD_mem (show (i : Int).toNat < rs.length by omega) rowD)
   refine tr_draw [0, 1, 2, 3, 4, 5, 6, 7, 8, 9] [] mixed (by kernel_rfl) fun _ _ _ => ?_
   iterate 2 refine pV ?_
   refine sV (rIdxR rfl rfl rfl (by omega) (by omega) (by omega)) ?_
   refine sV (rLdR rfl rfl (by omega)) ?_
   iterate 2 refine pV ?_
   refine sV (rIdxR rfl rfl rfl (by omega) (by omega) (by omega)) ?_
   refine sV (rLdR rfl rfl (by omega)) ?_
   refine eV (eCallV rfl rfl rfl (ref_SameInts _ _ _ _ (by first | rfl | simp | omega) _ _ _ _ (by first | rfl | simp | omega) (by omega)) ⟨rfl, rfl, trivial⟩ ?_)
   refine sV (rNotB rfl rfl) ?_
   refine tC rfl (fun h6 => ?_) (fun h6 => ?_)
   ·try simp only [zbA] at h6
    refine tS ?_
    refine tR fun _ _ _ => ?_
    refine pV ?_
    exact tr_ret ⟨trivial, _, _, rfl, ⟨by rw [decide_eq_false (fun h => by have := congrArg (fun l => l.getD i []) h; simp only [xs_getD] at this; simp only [Int.toNat_natCast] at h6; exact h6 this)], rfl⟩, CSub.nil _, trivial⟩
   ·try simp only [zbA] at h6
    refine tK ?_
    refine tR fun _ _ _ => ?_
    refine pV ?_
    refine sV (rAdd rfl rfl rfl (by omega) (by omega)) ?_
    refine pV ?_
    refine ⟨i + 1, ⟨rfl, rfl, rfl, trivial⟩, by first | exact cs _ _ | exact CSub.refl _, ?_⟩
    exact ⟨⟨by omega, take_eq_next [] _ _ (by simpa using hll) (by rw [List.length_map]; omega) ht (by rw [xs_getD, xs_getD]; simpa using h6)⟩, by omega⟩
  ·try simp only [zbA] at h4
   refine tE ?_
   refine tS ?_
   refine tR fun _ _ _ => ?_
   refine pV ?_
   have hia : i = rs.length := by omega
   have h5 : (rs.map (fun r : RowM => r.xs)).length = i := by rw [List.length_map]; omega
   have h7 : (qs.map (fun r : RowM => r.xs)).length = i := by rw [List.length_map]; omega
   rw [List.take_of_length_le (by omega), List.take_of_length_le (by omega)] at ht
   exact tr_ret ⟨trivial, _, _, rfl, ⟨by rw [decide_eq_true ht], rfl⟩, CSub.nil _, trivial⟩
end Go.Proofs.Ytdkahdehodopoaa

namespace Go.Proofs.Ytdkahdehodopoaa
namespace Rg
section
variable {R : Type} [Rg R]
def nc : Nat → R
 | 0 => 0
 | 1 => 1
 | n + 2 => nc (n + 1) + 1
theorem nc_succ : ∀ n : Nat, (nc (n + 1) : R) = nc n + 1
 | 0 => (Rg.zero_add (1 : R)).symm
 | _ + 1 => rfl
def ic : Int → R
 | .ofNat n => nc n
 | .negSucc n => -(nc (n + 1))
@[reducible] def grindOf (n : Nat) : OfNat R n := match n with
 | 0 => Zero.toOfNat0
 | 1 => One.toOfNat1
 | n + 2 => ⟨nc (n + 2)⟩
theorem of_nc : ∀ n : Nat, (@OfNat.ofNat R n (grindOf n)) = nc n
 | 0 => rfl
 | 1 => rfl
 | _ + 2 => rfl
instance (priority := low) grindSemi : Lean.Grind.Semiring R where
 natCast := ⟨nc⟩
 ofNat := grindOf
 nsmul := ⟨fun n a => nc n * a⟩
 npow := ⟨fun a n => Rg.pow a n⟩
 add_zero := Rg.add_zero
 add_comm := Rg.add_comm
 add_assoc := Rg.add_assoc
 mul_assoc := Rg.mul_assoc
 mul_one := Rg.mul_one
 one_mul := Rg.one_mul
 left_distrib := Rg.mul_add
 right_distrib := Rg.add_mul
 zero_mul := Rg.zero_mul
 mul_zero := Rg.mul_zero
 pow_zero := fun _ => rfl
 pow_succ := fun _ _ => rfl
 ofNat_succ := fun n => by rw [of_nc, of_nc]; exact nc_succ n
 ofNat_eq_natCast := fun n => of_nc n
 nsmul_eq_natCast_mul := fun _ _ => rfl
theorem ic_neg : ∀ i : Int, (ic (-i) : R) = -ic i
 | .ofNat 0 => (Rg.neg_zero (R := R)).symm
 | .ofNat (_ + 1) => rfl
 | .negSucc n => (Rg.neg_neg (nc (n + 1) : R)).symm
instance (priority := low) grindRing : Lean.Grind.CommRing R where
 intCast := ⟨ic⟩
 zsmul := ⟨fun i a => ic i * a⟩
 neg_add_cancel := Rg.neg_add
 sub_eq_add_neg := fun _ _ => rfl
 neg_zsmul := fun i a => by show ic (-i) * a = -(ic i * a); rw [ic_neg, Rg.neg_mul]
 zsmul_natCast_eq_nsmul := fun _ _ => rfl
 intCast_ofNat := fun n => (of_nc n).symm
 intCast_neg := ic_neg
 mul_comm := Rg.mul_comm
end
end Rg
end Go.Proofs.Ytdkahdehodopoaa

namespace Go.Proofs.Ytdkahdehodopoaa
section
end
end Go.Proofs.Ytdkahdehodopoaa

set_option maxRecDepth 100000
namespace Go.Proofs.Ytdkahdehodopoaa
open Go.RowKit
theorem pow_pos1 {p : Int} (hp : 2 ≤ p) (k : Nat) : 1 ≤ p ^ k := by
 have : 0 < p ^ k := Int.pow_pos (by omega)
 omega
theorem wp_le {w p z q : Int} (hw : 1 ≤ w) (hp : 1 ≤ p) (hz : 1 ≤ z) (h : w * p * z = q) : 1 ≤ w * p ∧ w * p ≤ q := by
 have h1 : 0 < w * p := Int.mul_pos (by omega) (by omega)
 have h2 : w * p * 1 ≤ w * p * z := Int.mul_le_mul_of_nonneg_left hz (by omega)
 omega
theorem le_wp {w z q : Int} (hw : 1 ≤ w) (hz : 1 ≤ z) (h : w * z = q) : z ≤ q := by
 have h1 : 1 * z ≤ w * z := Int.mul_le_mul_of_nonneg_right hw (by omega)
 omega
theorem ltEq {a b c : Int} (h : a < b) (e : b = c) : a < c := by omega
theorem digit_w {d p w q : Int} (h0 : 0 ≤ d) (h1 : d < p) (hw : 1 ≤ w) (h : w * p ≤ q) : 0 ≤ d * w ∧ d * w ≤ q := by
 have h2 : d * w ≤ p * w := Int.mul_le_mul_of_nonneg_right (by omega) (by omega)
 have h3 : 0 ≤ d * w := Int.mul_nonneg h0 (by omega)
 rw [Int.mul_comm p w] at h2
 omega
theorem gf_Add_ent : Enters Try.prog 92 := enters_of Try.func92 (by kernel_rfl) (by kernel_rfl)
theorem gf_Add (g : GfM) (p m : Int) (mod : List Int) (hg : GOk g p m mod) (x y : Int) :
  Pure Try.prog 92 #[.pointer (some g.p), .int .i64 x, .int .i64 y] [gfR g] (isV (.int .i64 (addI p m (inI g.q x) (inI g.q y)))) := by
 obtain rfl := hg.eP
 have hq := hg.q2
 have hel := hg.elen
 have hll := hg.llen'
 have heq := hg.eq
 have hp2 := hg.shp.1.p2
 have hp9 := hg.shp.1.p9
 have hxb := inI_bd (q := g.q) (by omega) x
 have hyb := inI_bd (q := g.q) (by omega) y
 have htb := addI_bd (m := m) hp2 (inI g.q x) (inI g.q y)
 have hrec := addI_rec g.P m (inI g.q x) (inI g.q y)
 refine pure_of (args := [.pointer (some g.p), .int .i64 x, .int .i64 y]) 77 Try.func92 rfl rfl rfl gf_Add_ent ⟨id, trivial⟩ (fun w0 => ?_)
 refine tS ?_
 refine tR fun _ _ _ => ?_
 refine pV ?_
 refine tS ?_
 refine tR fun _ _ _ => ?_
 iterate 2 refine pV ?_
 refine eV (eCallV rfl rfl rfl (gf_in _ _) ⟨rfl, rfl, trivial⟩ ?_)
 iterate 2 refine pV ?_
 refine eV (eCallV rfl rfl rfl (gf_in _ _) ⟨rfl, rfl, trivial⟩ ?_)
 iterate 2 refine pV ?_
 refine tS ?_
 refine tS ?_
 refine tR fun _ _ _ => ?_
 refine pV ?_
 refine sV (rNil rfl rfl) ?_
 refine sV (rFld rfl rfl) ?_
 refine sV (rFldN rfl rfl) ?_
 refine sV (rLdF rfl rfl rfl) ?_
 refine pV ?_
 refine tC rfl (fun h2 => ?_) (fun h2 => ?_)
 ·try simp only [zbA] at h2
  refine tS ?_
  have h2x := addI_two (m := m) (x := inI g.q x) (y := inI g.q y)
  refine tR fun _ _ _ => ?_
  iterate 2 refine pV ?_
  refine sV (rXor rfl rfl rfl (by omega) (by omega)) ?_
  refine pV ?_
  exact tr_ret ⟨trivial, _, _, rfl, ⟨by rw [← h2x (by rw [← h2, ← heq]; exact hxb) (by rw [← h2, ← heq]; exact hyb), h2], rfl⟩, CSub.nil _, trivial⟩
 ·try simp only [zbA] at h2
  refine tK ?_
  refine tS ?_
  refine tR fun _ _ _ => ?_
  iterate 2 refine pV ?_
  refine tS ?_
  refine tB ?_
  refine tr_loop5 (fun (k : Nat) (a : Int) (b : Int) (s : Int) (w : Int) => [(0, .pointer (some g.p)), (1, .int .i64 a), (2, .int .i64 b), (7, .int .i64 s), (8, .int .i64 w)]) (fun (k : Nat) (a : Int) (b : Int) (s : Int) (w : Int) => [gfR g]) (fun (k : Nat) (a : Int) (b : Int) (s : Int) (w : Int) => (0 ≤ a ∧ a < g.P ^ k) ∧ (0 ≤ b ∧ b < g.P ^ k) ∧ 0 ≤ s ∧ 1 ≤ w ∧ w * g.P ^ k = g.q ∧ s + w * addD g.P k a b = addI g.P m (inI g.q x) (inI g.q y)) (fun (k : Nat) (a : Int) (b : Int) (s : Int) (w : Int) => k) (m.toNat) (inI g.q x) (inI g.q y) (0) (1) ⟨rfl, rfl, rfl, rfl, rfl, trivial⟩ (by first | exact cs _ _ | exact CSub.refl _) (⟨⟨hxb.1, ltEq hxb.2 heq⟩, ⟨hyb.1, ltEq hyb.2 heq⟩, by omega, by omega, by rw [Int.one_mul, heq]; rfl, by rw [Int.one_mul, Int.zero_add, hrec]⟩) (fun k a b s w hI => ?_)
  obtain ⟨⟨ha0, ha1⟩, ⟨hb0, hb1⟩, hs0, hw1, hw, hs⟩ := hI
  refine tS ?_
  refine tS ?_
  refine tR fun _ _ _ => ?_
  iterate 3 refine pV ?_
  refine stg rfl rfl rfl rfl rfl (fun hb => by (have hq := hb; try simp only [zbA] at hq); exact rMove rfl rfl) ?_
  refine stg rfl rfl rfl rfl rfl (fun hb => by (have hq := hb; try simp only [zbA] at hq); exact rGtr rfl (evg rfl hb) rfl) ?_
  refine sV (rOrB rfl rfl rfl rfl) ?_
  refine tC rfl (fun h5 => ?_) (fun h5 => ?_)
  ·try simp only [zbA] at h5
   refine tK ?_
   refine tB ?_
   refine tS ?_
   have hk0 : k ≠ 0 := fun e => by
    subst e
    simp only [Int.pow_zero] at ha1 hb1
    omega
   obtain ⟨j, rfl⟩ : ∃ j, k = j + 1 := ⟨k - 1, by omega⟩
   have hpj := pow_pos1 hp2 j
   have hwq : w * g.P * g.P ^ j = g.q := by rw [← hw, Int.pow_succ, Int.mul_assoc, Int.mul_comm g.P]
   have hwp := wp_le hw1 (by omega) hpj hwq
   have hpq := le_wp hw1 (pow_pos1 hp2 (j + 1)) hw
   have e0 := Int.emod_nonneg a (show g.P ≠ 0 by omega)
   have e1 := Int.emod_lt_of_pos a (show 0 < g.P by omega)
   have e2 := Int.emod_nonneg b (show g.P ≠ 0 by omega)
   have e3 := Int.emod_lt_of_pos b (show 0 < g.P by omega)
   have e4 := Int.emod_nonneg (a % g.P + b % g.P) (show g.P ≠ 0 by omega)
   have e5 := Int.emod_lt_of_pos (a % g.P + b % g.P) (show 0 < g.P by omega)
   have hdw := digit_w e4 e5 hw1 hwp.2
   have had := addD_bd hp2 (j + 1) a b
   have hwa := Int.mul_nonneg (show 0 ≤ w by omega) had.1
   refine tr_draw [0, 1, 2, 3, 4, 5, 6, 7, 8, 9, 10, 11, 12, 13, 14, 15, 16, 17, 18, 19, 20, 21, 22, 23, 24, 25] [] mixed (by kernel_rfl) fun _ _ _ => ?_
   iterate 3 refine pV ?_
   refine sV (rNil rfl rfl) ?_
   refine sV (rFld rfl rfl) ?_
   refine sV (rFldN rfl rfl) ?_
   refine sV (rLdF rfl rfl rfl) ?_
   refine sV (rRem rfl rfl rfl (by omega) (by omega)) ?_
   iterate 2 refine pV ?_
   refine sV (rNil rfl rfl) ?_
   refine sV (rFld rfl rfl) ?_
   refine sV (rFldN rfl rfl) ?_
   refine sV (rLdF rfl rfl rfl) ?_
   refine sV (rRem rfl rfl rfl (by omega) (by omega)) ?_
   refine sV (rAdd rfl rfl rfl (by omega) (by omega)) ?_
   refine pV ?_
   refine sV (rNil rfl rfl) ?_
   refine sV (rFld rfl rfl) ?_
   refine sV (rFldN rfl rfl) ?_
   refine sV (rLdF rfl rfl rfl) ?_
   refine sV (rRem rfl rfl rfl (by omega) (by omega)) ?_
   refine pV ?_
   refine sV (rMul rfl rfl rfl (by omega) (by omega)) ?_
   refine sV (rAdd rfl rfl rfl (by omega) (by omega)) ?_
   refine pV ?_
   refine tS ?_
   refine tR fun _ _ _ => ?_
   iterate 2 refine pV ?_
   refine sV (rNil rfl rfl) ?_
   refine sV (rFld rfl rfl) ?_
   refine sV (rFldN rfl rfl) ?_
   refine sV (rLdF rfl rfl rfl) ?_
   refine sV (rMul rfl rfl rfl (by omega) (by omega)) ?_
   refine pV ?_
   refine tS ?_
   refine tR fun _ _ _ => ?_
   iterate 2 refine pV ?_
   refine sV (rNil rfl rfl) ?_
   refine sV (rFld rfl rfl) ?_
   refine sV (rFldN rfl rfl) ?_
   refine sV (rLdF rfl rfl rfl) ?_
   refine sV (rQuo rfl rfl rfl (by omega) (by omega)) ?_
   refine pV ?_
   refine tR fun _ _ _ => ?_
   iterate 2 refine pV ?_
   refine sV (rNil rfl rfl) ?_
   refine sV (rFld rfl rfl) ?_
   refine sV (rFldN rfl rfl) ?_
   refine sV (rLdF rfl rfl rfl) ?_
   refine sV (rQuo rfl rfl rfl (by omega) (by omega)) ?_
   refine pV ?_
   refine ⟨j, a / g.P, b / g.P, s + (a % g.P + b % g.P) % g.P * w, w * g.P, ⟨rfl, rfl, rfl, rfl, rfl, trivial⟩, by first | exact cs _ _ | exact CSub.refl _, ?_⟩
   refine ⟨⟨⟨Int.ediv_nonneg ha0 (by omega), ediv_lt_pow hp2 ha1⟩, ⟨Int.ediv_nonneg hb0 (by omega), ediv_lt_pow hp2 hb1⟩, by omega, by omega, hwq, ?_⟩, by omega⟩
   rw [← hs, addD]
   grind
  ·try simp only [zbA] at h5
   skip
   refine tE ?_
   refine tS ?_
   refine tR fun _ _ _ => ?_
   iterate 2 refine pV ?_
   have ha00 : a = 0 := by omega
   have hb00 : b = 0 := by omega
   subst ha00 hb00
   rw [addD_zero, Int.mul_zero, Int.add_zero] at hs
   exact tr_ret ⟨trivial, _, _, rfl, ⟨by rw [hs], rfl⟩, CSub.nil _, trivial⟩
theorem gf_Neg_ent : Enters Try.prog 70 := enters_of Try.func70 (by kernel_rfl) (by kernel_rfl)
theorem gf_Neg (g : GfM) (p m : Int) (mod : List Int) (hg : GOk g p m mod) (x : Int) :
  Pure Try.prog 70 #[.pointer (some g.p), .int .i64 x] [gfR g] (isV (.int .i64 (negI p m (inI g.q x)))) := by
 obtain rfl := hg.eP
 have hq := hg.q2
 have hel := hg.elen
 have hll := hg.llen'
 have heq := hg.eq
 have hp2 := hg.shp.1.p2
 have hp9 := hg.shp.1.p9
 have hxb := inI_bd (q := g.q) (by omega) x
 have htb := negI_bd (m := m) hp2 (inI g.q x)
 have hrec := negI_rec hp2 m (inI g.q x)
 refine pure_of (args := [.pointer (some g.p), .int .i64 x]) 50 Try.func70 rfl rfl rfl gf_Neg_ent ⟨id, trivial⟩ (fun w0 => ?_)
 refine tS ?_
 refine tR fun _ _ _ => ?_
 refine pV ?_
 refine tS ?_
 refine tR fun _ _ _ => ?_
 iterate 2 refine pV ?_
 refine eV (eCallV rfl rfl rfl (gf_in _ _) ⟨rfl, rfl, trivial⟩ ?_)
 refine pV ?_
 refine tS ?_
 refine tR fun _ _ _ => ?_
 iterate 2 refine pV ?_
 refine tS ?_
 refine tB ?_
 refine tr_loop4 (fun (k : Nat) (a : Int) (s : Int) (w : Int) => [(0, .pointer (some g.p)), (1, .int .i64 a), (5, .int .i64 s), (6, .int .i64 w)]) (fun (k : Nat) (a : Int) (s : Int) (w : Int) => [gfR g]) (fun (k : Nat) (a : Int) (s : Int) (w : Int) => (0 ≤ a ∧ a < g.P ^ k) ∧ 0 ≤ s ∧ 1 ≤ w ∧ w * g.P ^ k = g.q ∧ s + w * negD g.P k a = negI g.P m (inI g.q x)) (fun (k : Nat) (a : Int) (s : Int) (w : Int) => k) (m.toNat) (inI g.q x) (0) (1) ⟨rfl, rfl, rfl, rfl, trivial⟩ (by first | exact cs _ _ | exact CSub.refl _) (⟨⟨hxb.1, ltEq hxb.2 heq⟩, by omega, by omega, by rw [Int.one_mul, heq]; rfl, by rw [Int.one_mul, Int.zero_add, hrec]⟩) (fun k a s w hI => ?_)
 obtain ⟨⟨ha0, ha1⟩, hs0, hw1, hw, hs⟩ := hI
 refine tS ?_
 refine tS ?_
 refine tR fun _ _ _ => ?_
 iterate 2 refine pV ?_
 refine tC rfl (fun h3 => ?_) (fun h3 => ?_)
 ·try simp only [zbA] at h3
  refine tK ?_
  refine tB ?_
  refine tS ?_
  have hk0 : k ≠ 0 := fun e => by
   subst e
   simp only [Int.pow_zero] at ha1
   omega
  obtain ⟨j, rfl⟩ : ∃ j, k = j + 1 := ⟨k - 1, by omega⟩
  have hpj := pow_pos1 hp2 j
  have hwq : w * g.P * g.P ^ j = g.q := by rw [← hw, Int.pow_succ, Int.mul_assoc, Int.mul_comm g.P]
  have hwp := wp_le hw1 (by omega) hpj hwq
  have hpq := le_wp hw1 (pow_pos1 hp2 (j + 1)) hw
  have e0 := Int.emod_nonneg a (show g.P ≠ 0 by omega)
  have e1 := Int.emod_lt_of_pos a (show 0 < g.P by omega)
  have e4 := Int.emod_nonneg (g.P - a % g.P) (show g.P ≠ 0 by omega)
  have e5 := Int.emod_lt_of_pos (g.P - a % g.P) (show 0 < g.P by omega)
  have hdw := digit_w e4 e5 hw1 hwp.2
  have had := negD_bd hp2 (j + 1) a
  have hwa := Int.mul_nonneg (show 0 ≤ w by omega) had.1
  refine tr_draw [0, 1, 2, 3, 4, 5, 6, 7, 8, 9, 10, 11, 12, 13, 14, 15, 16, 17, 18, 19, 20, 21, 22, 23] [] mixed (by kernel_rfl) fun _ _ _ => ?_
  iterate 2 refine pV ?_
  refine sV (rNil rfl rfl) ?_
  refine sV (rFld rfl rfl) ?_
  refine sV (rFldN rfl rfl) ?_
  refine sV (rLdF rfl rfl rfl) ?_
  iterate 2 refine pV ?_
  refine sV (rNil rfl rfl) ?_
  refine sV (rFld rfl rfl) ?_
  refine sV (rFldN rfl rfl) ?_
  refine sV (rLdF rfl rfl rfl) ?_
  refine sV (rRem rfl rfl rfl (by omega) (by omega)) ?_
  refine sV (rSub rfl rfl rfl (by omega) (by omega)) ?_
  refine pV ?_
  refine sV (rNil rfl rfl) ?_
  refine sV (rFld rfl rfl) ?_
  refine sV (rFldN rfl rfl) ?_
  refine sV (rLdF rfl rfl rfl) ?_
  refine sV (rRem rfl rfl rfl (by omega) (by omega)) ?_
  refine pV ?_
  refine sV (rMul rfl rfl rfl (by omega) (by omega)) ?_
  refine sV (rAdd rfl rfl rfl (by omega) (by omega)) ?_
  refine pV ?_
  refine tS ?_
  refine tR fun _ _ _ => ?_
  iterate 2 refine pV ?_
  refine sV (rNil rfl rfl) ?_
  refine sV (rFld rfl rfl) ?_
  refine sV (rFldN rfl rfl) ?_
  refine sV (rLdF rfl rfl rfl) ?_
  refine sV (rMul rfl rfl rfl (by omega) (by omega)) ?_
  refine pV ?_
  refine tR fun _ _ _ => ?_
  iterate 2 refine pV ?_
  refine sV (rNil rfl rfl) ?_
  refine sV (rFld rfl rfl) ?_
  refine sV (rFldN rfl rfl) ?_
  refine sV (rLdF rfl rfl rfl) ?_
  refine sV (rQuo rfl rfl rfl (by omega) (by omega)) ?_
  refine pV ?_
  refine ⟨j, a / g.P, s + (g.P - a % g.P) % g.P * w, w * g.P, ⟨rfl, rfl, rfl, rfl, trivial⟩, by first | exact cs _ _ | exact CSub.refl _, ?_⟩
  refine ⟨⟨⟨Int.ediv_nonneg ha0 (by omega), ediv_lt_pow hp2 ha1⟩, by omega, by omega, hwq, ?_⟩, by omega⟩
  rw [← hs, negD]
  grind
 ·try simp only [zbA] at h3
  refine tE ?_
  refine tS ?_
  refine tR fun _ _ _ => ?_
  iterate 2 refine pV ?_
  have ha00 : a = 0 := by omega
  subst ha00
  rw [negD_zero, Int.mul_zero, Int.add_zero] at hs
  exact tr_ret ⟨trivial, _, _, rfl, ⟨by rw [hs], rfl⟩, CSub.nil _, trivial⟩
theorem gf_Mul_ent : Enters Try.prog 64 := enters_of Try.func64 (by kernel_rfl) (by kernel_rfl)
theorem gf_Mul (g : GfM) (p m : Int) (mod : List Int) (hg : GOk g p m mod) (x y : Int) :
  Pure Try.prog 64 #[.pointer (some g.p), .int .i64 x, .int .i64 y] [gfR g] (isV (.int .i64 (mulI p m mod (inI g.q x) (inI g.q y)))) := by
 obtain rfl := hg.eP
 have hq := hg.q2
 have hel := hg.elen
 have hll := hg.llen'
 have heq := hg.eq
 have hp2 := hg.shp.1.p2
 have hp9 := hg.shp.1.p9
 have hxb := inI_bd (q := g.q) (by omega) x
 have hyb := inI_bd (q := g.q) (by omega) y
 refine pure_of (args := [.pointer (some g.p), .int .i64 x, .int .i64 y]) 46 Try.func64 rfl rfl rfl gf_Mul_ent ⟨id, trivial⟩ (fun w0 => ?_)
 refine tS ?_
 refine tR fun _ _ _ => ?_
 refine pV ?_
 refine tS ?_
 refine tR fun _ _ _ => ?_
 iterate 2 refine pV ?_
 refine eV (eCallV rfl rfl rfl (gf_in _ _) ⟨rfl, rfl, trivial⟩ ?_)
 iterate 2 refine pV ?_
 refine eV (eCallV rfl rfl rfl (gf_in _ _) ⟨rfl, rfl, trivial⟩ ?_)
 iterate 2 refine pV ?_
 refine tS ?_
 refine tS ?_
 refine tR fun _ _ _ => ?_
 iterate 3 refine pV ?_
 refine stg rfl rfl rfl rfl rfl (fun hb => by (have hq := hb; try simp only [zbA] at hq); exact rMove rfl rfl) ?_
 refine stg rfl rfl rfl rfl rfl (fun hb => by (have hq := hb; try simp only [zbA] at hq); exact rEql rfl (evg rfl hb) rfl) ?_
 refine sV (rOrB rfl rfl rfl rfl) ?_
 refine tC rfl (fun h2 => ?_) (fun h2 => ?_)
 ·try simp only [zbA] at h2
  refine tS ?_
  refine tR fun _ _ _ => ?_
  refine pV ?_
  exact tr_ret ⟨trivial, _, _, rfl, ⟨by
   rcases h2 with h | h
   ·rw [h, mulI_zero hg.shp.1]
   ·rw [h, mulI_comm hg.shp.1, mulI_zero hg.shp.1], rfl⟩, CSub.nil _, trivial⟩
 ·try simp only [zbA] at h2
  refine tK ?_
  refine tS ?_
  have hlx := hg.log_spec (y := inI g.q x) (by omega) (by omega)
  have hly := hg.log_spec (y := inI g.q y) (by omega) (by omega)
  have e0 := Int.emod_nonneg (g.log.getD (inI g.q x).toNat 0 + g.log.getD (inI g.q y).toNat 0) (show g.q - 1 ≠ 0 by omega)
  have e1 := Int.emod_lt_of_pos (g.log.getD (inI g.q x).toNat 0 + g.log.getD (inI g.q y).toNat 0) (show 0 < g.q - 1 by omega)
  refine tr_draw [0, 1, 2, 3, 4, 5, 6, 7, 8, 9, 10, 11, 12, 13, 14, 15, 16, 17, 18, 19, 20, 21, 22, 23, 24, 25, 26, 27] [] mixed (by kernel_rfl) fun _ _ _ => ?_
  refine pV ?_
  refine sV (rNil rfl rfl) ?_
  refine sV (rFld rfl rfl) ?_
  refine sV (rLdF rfl rfl rfl) ?_
  refine pV ?_
  refine sV (rNil rfl rfl) ?_
  refine sV (rFld rfl rfl) ?_
  refine sV (rLdF rfl rfl rfl) ?_
  refine pV ?_
  refine sV (rIdxI rfl rfl rfl (by omega) (by omega) (by omega)) ?_
  refine sV (rLdI rfl rfl (by omega)) ?_
  refine pV ?_
  refine sV (rNil rfl rfl) ?_
  refine sV (rFld rfl rfl) ?_
  refine sV (rLdF rfl rfl rfl) ?_
  refine pV ?_
  refine sV (rIdxI rfl rfl rfl (by omega) (by omega) (by omega)) ?_
  refine sV (rLdI rfl rfl (by omega)) ?_
  refine sV (rAdd rfl rfl rfl (by omega) (by omega)) ?_
  refine pV ?_
  refine sV (rNil rfl rfl) ?_
  refine sV (rFld rfl rfl) ?_
  refine sV (rLdF rfl rfl rfl) ?_
  refine sV (rSub rfl rfl rfl (by omega) (by omega)) ?_
  refine sV (rRem rfl rfl rfl (by omega) (by omega)) ?_
  refine sV (rIdxI rfl rfl rfl (by omega) (by omega) (by omega)) ?_
  refine sV (rLdI rfl rfl (by omega)) ?_
  refine pV ?_
  exact tr_ret ⟨trivial, _, _, rfl, ⟨by rw [hg.mul ⟨by omega, by omega⟩ ⟨by omega, by omega⟩], rfl⟩, CSub.nil _, trivial⟩
theorem gf_Inv_ent : Enters Try.prog 63 := enters_of Try.func63 (by kernel_rfl) (by kernel_rfl)
theorem gf_Inv (g : GfM) (p m : Int) (mod : List Int) (hg : GOk g p m mod) (x : Int) :
  Pure Try.prog 63 #[.pointer (some g.p), .int .i64 x] [gfR g] (isV (if inI g.q x = 0 then .tuple #[.int .i64 0, .int .i64 7] else .tuple #[.int .i64 (invI p m mod (inI g.q x)), .int .i64 0])) := by
 obtain rfl := hg.eP
 have hq := hg.q2
 have hel := hg.elen
 have hll := hg.llen'
 have heq := hg.eq
 have hp2 := hg.shp.1.p2
 have hp9 := hg.shp.1.p9
 have hxb := inI_bd (q := g.q) (by omega) x
 refine pure_of (args := [.pointer (some g.p), .int .i64 x]) 36 Try.func63 rfl rfl rfl gf_Inv_ent ⟨id, trivial⟩ (fun w0 => ?_)
 refine tS ?_
 refine tR fun _ _ _ => ?_
 iterate 2 refine pV ?_
 refine tS ?_
 refine tR fun _ _ _ => ?_
 iterate 2 refine pV ?_
 refine eV (eCallV rfl rfl rfl (gf_in _ _) ⟨rfl, rfl, trivial⟩ ?_)
 refine pV ?_
 refine tS ?_
 refine tS ?_
 refine tR fun _ _ _ => ?_
 iterate 2 refine pV ?_
 refine tC rfl (fun h2 => ?_) (fun h2 => ?_)
 ·try simp only [zbA] at h2
  refine tS ?_
  refine tR fun _ _ _ => ?_
  iterate 2 refine pV ?_
  exact tr_ret ⟨trivial, _, _, rfl, ⟨by rw [if_pos h2], rfl⟩, CSub.nil _, trivial⟩
 ·try simp only [zbA] at h2
  refine tK ?_
  refine tS ?_
  have hlx := hg.log_spec (y := inI g.q x) (by omega) (by omega)
  have e0 := Int.emod_nonneg (g.q - 1 - g.log.getD (inI g.q x).toNat 0) (show g.q - 1 ≠ 0 by omega)
  have e1 := Int.emod_lt_of_pos (g.q - 1 - g.log.getD (inI g.q x).toNat 0) (show 0 < g.q - 1 by omega)
  refine tr_draw [0, 1, 2, 3, 4, 5, 6, 7, 8, 9, 10, 11, 12, 13, 14, 15, 16, 17, 18, 19, 20, 21, 22, 23, 24, 25, 26] [] mixed (by kernel_rfl) fun _ _ _ => ?_
  refine pV ?_
  refine sV (rNil rfl rfl) ?_
  refine sV (rFld rfl rfl) ?_
  refine sV (rLdF rfl rfl rfl) ?_
  refine pV ?_
  refine sV (rNil rfl rfl) ?_
  refine sV (rFld rfl rfl) ?_
  refine sV (rLdF rfl rfl rfl) ?_
  refine sV (rSub rfl rfl rfl (by omega) (by omega)) ?_
  refine pV ?_
  refine sV (rNil rfl rfl) ?_
  refine sV (rFld rfl rfl) ?_
  refine sV (rLdF rfl rfl rfl) ?_
  refine pV ?_
  refine sV (rIdxI rfl rfl rfl (by omega) (by omega) (by omega)) ?_
  refine sV (rLdI rfl rfl (by omega)) ?_
  refine sV (rSub rfl rfl rfl (by omega) (by omega)) ?_
  refine pV ?_
  refine sV (rNil rfl rfl) ?_
  refine sV (rFld rfl rfl) ?_
  refine sV (rLdF rfl rfl rfl) ?_
  refine sV (rSub rfl rfl rfl (by omega) (by omega)) ?_
  refine sV (rRem rfl rfl rfl (by omega) (by omega)) ?_
  refine sV (rIdxI rfl rfl rfl (by omega) (by omega) (by omega)) ?_
  refine sV (rLdI rfl rfl (by omega)) ?_
  iterate 2 refine pV ?_
  exact tr_ret ⟨trivial, _, _, rfl, ⟨by rw [if_neg h2, hg.inv ⟨by omega, by omega⟩], rfl⟩, CSub.nil _, trivial⟩
theorem gf_Scale_ent : Enters Try.prog 94 := enters_of Try.func94 (by kernel_rfl) (by kernel_rfl)
theorem gf_Scale (g : GfM) (p m : Int) (mod : List Int) (hg : GOk g p m mod) (x : Int) (A : Option Addr) (n c : Nat) (l : List Int) (hn : n = l.length) (h9 : l.length ≤ 17592186044415) :
  Pure Try.prog 94 #[.pointer (some g.p), .int .i64 x, .slice A n c] [gfR g, ro A (ints l)] (one (fun v ch => ∃ B, v = .slice B l.length l.length ∧ ch = ow B 3 l.length (ints (l.map fun y => mulI p m mod (inI g.q x) (inI g.q y))))) := by
 refine pure_of (args := [.pointer (some g.p), .int .i64 x, .slice A n c]) 29 Try.func94 rfl rfl rfl gf_Scale_ent ⟨id, id, trivial⟩ (fun w0 => ?_)
 refine tS ?_
 refine tR fun _ _ _ => ?_
 refine pV ?_
 refine tS ?_
 refine tR fun _ _ _ => ?_
 refine pV ?_
 refine sV (rLen rfl rfl) ?_
 refine eV (eMakeI rfl rfl rfl rfl rfl (by omega) (by omega) (by omega) (fun A1 => ?_))
 refine pV ?_
 refine tS ?_
 refine tS ?_
 refine tR fun _ _ _ => ?_
 refine pV ?_
 refine sV (rLen rfl rfl) ?_
 refine pV ?_
 refine tB ?_
 refine tr_loop2 (fun (k : Int) (o : List Int) => [(0, .pointer (some g.p)), (1, .int .i64 x), (7, .slice A1 n n), (13, .slice A n c), (14, .int .i64 n), (15, .int .i64 k)]) (fun (k : Int) (o : List Int) => [ow A1 3 n (ints o), gfR g, ro A (ints l)]) (fun (k : Int) (o : List Int) => (0 ≤ k ∧ k ≤ n) ∧ o.length = n ∧ ∀ j : Nat, (j : Int) < k → o.getD j 0 = mulI p m mod (inI g.q x) (inI g.q (l.getD j 0))) (fun (k : Int) (o : List Int) => (n - k).toNat) (0) (List.replicate n 0) ⟨rfl, rfl, rfl, rfl, rfl, rfl, trivial⟩ (by first | exact cs _ _ | exact CSub.refl _) (⟨⟨by omega, by omega⟩, by simp, fun j hj => by omega⟩) (fun k o hI => ?_)
 obtain ⟨hk, hol, ho⟩ := hI
 refine tS ?_
 refine tR fun _ _ _ => ?_
 refine pV ?_
 refine tS ?_
 refine tC rfl (fun h3 => ?_) (fun h3 => ?_)
 ·try simp only [zbA] at h3
  refine tK ?_
  refine tS ?_
  refine tB ?_
  refine tS ?_
  refine tR fun _ _ _ => ?_
  refine pV ?_
  refine sV (rIdxI rfl rfl rfl (by omega) (by omega) (by omega)) ?_
  refine sV (rLdI rfl rfl (by omega)) ?_
  iterate 2 refine pV ?_
  refine tR fun _ _ _ => ?_
  iterate 5 refine pV ?_
  refine eV (eCallV rfl rfl rfl (gf_Mul g p m mod hg _ _) ⟨rfl, rfl, rfl, trivial⟩ ?_)
  refine sV (rIdxI rfl rfl rfl (by omega) (by omega) (by omega)) ?_
  refine eV (eStI rfl rfl rfl rfl (by omega) ?_)
  refine tR fun _ _ _ => ?_
  refine sV (rAdd rfl rfl rfl (by omega) (by omega)) ?_
  refine pV ?_
  refine ⟨k + 1, o.set k.toNat (mulI p m mod (inI g.q x) (inI g.q (l.getD k.toNat 0))), ⟨rfl, rfl, rfl, rfl, rfl, rfl, trivial⟩, by first | exact cs _ _ | exact CSub.refl _, ?_⟩
  refine ⟨⟨⟨by omega, by omega⟩, by simpa using hol, fun j hj => ?_⟩, by omega⟩
  rw [getD_set]
  by_cases he : k.toNat = j
  ·subst he; rw [if_pos ⟨rfl, by omega⟩]
  ·rw [if_neg (by omega)]; exact ho j (by omega)
 ·try simp only [zbA] at h3
  refine tE ?_
  refine tS ?_
  refine tR fun _ _ _ => ?_
  iterate 2 refine pV ?_
  have hm : o = l.map fun y => mulI p m mod (inI g.q x) (inI g.q y) := by
   refine List.ext_getElem (by simp; omega) fun j h1 h2 => ?_
   have := ho j (by omega)
   rw [List.getD_eq_getElem?_getD, List.getElem?_eq_getElem h1, List.getD_eq_getElem?_getD, List.getElem?_eq_getElem (show j < l.length by omega)] at this
   simpa using this
  rw [hm]
  subst hn
  exact tr_ret ⟨trivial, _, _, rfl, ⟨_, rfl, _, rfl, rfl⟩, cs _ _, trivial, trivial⟩
theorem ref_Add_ent : Enters Try.prog 129 := enters_of Try.func129 (by kernel_rfl) (by kernel_rfl)
theorem ref_Add (p m : Int) (A : Option Addr) (c : Nat) (mod : List Int) (hs : Shp p m mod) (x y : Int) :
  Pure Try.prog 129 #[.agg #[.int .i64 p, .int .i64 m, .slice A mod.length c], .int .i64 x, .int .i64 y] [ro A (ints mod)] (isV (.int .i64 (addI p m (inI (ordI p m) x) (inI (ordI p m) y)))) := by
 have hp2 := hs.p2
 have hp9 := hs.p9
 have hm1 := hs.m1
 have hm8 := hs.m8
 have hqq := hs.q
 have hoq := hs.ord
 have hpm : p ^ m.toNat ≤ 256 := hqq
 have hal := digs_length p m.toNat (inI (ordI p m) x)
 have hbl := digs_length p m.toNat (inI (ordI p m) y)
 have hai := digs_in (p := p) (by omega) m.toNat (inI (ordI p m) x)
 have hbi := digs_in (p := p) (by omega) m.toNat (inI (ordI p m) y)
 have hvt : ∀ c : List Int, AllIn p c → m.toNat ≤ c.length → vl p (c.take m.toNat) = rv p m.toNat (rl c) := fun c h1 h2 => vl_take hp2 h1 h2
 have hdef : addI p m (inI (ordI p m) x) (inI (ordI p m) y) = rv p m.toNat ((rl (digs p m.toNat (inI (ordI p m) x))).add (rl (digs p m.toNat (inI (ordI p m) y)))) := rfl
 rw [hdef]
 generalize ha : digs p m.toNat (inI (ordI p m) x) = a at hal hai
 generalize hb : digs p m.toNat (inI (ordI p m) y) = b at hbl hbi
 refine pure_of (args := [.agg #[.int .i64 p, .int .i64 m, .slice A mod.length c], .int .i64 x, .int .i64 y]) 40 Try.func129 rfl rfl rfl ref_Add_ent ⟨id, trivial⟩ (fun w0 => ?_)
 refine tS ?_
 refine tR fun _ _ _ => ?_
 refine eV (eBox rfl rfl rfl rfl rfl (fun p0 => ?_))
 refine pV ?_
 refine tS ?_
 refine tR fun _ _ _ => ?_
 refine sV (rLdS rfl rfl rfl) ?_
 refine pV ?_
 refine eV (eCall1 rfl rfl rfl (ref_Digits _ _ _ _ _ hs _) ⟨rfl, rfl, trivial⟩ ?_)
 rintro _ _ ⟨B1, rfl, rfl⟩
 refine pV ?_
 rw [ha]
 refine tS ?_
 refine tR fun _ _ _ => ?_
 refine sV (rLdS rfl rfl rfl) ?_
 refine pV ?_
 refine eV (eCall1 rfl rfl rfl (ref_Digits _ _ _ _ _ hs _) ⟨rfl, rfl, trivial⟩ ?_)
 rintro _ _ ⟨B2, rfl, rfl⟩
 refine pV ?_
 rw [hb]
 refine tS ?_
 refine tS ?_
 refine tR fun _ _ _ => ?_
 refine pV ?_
 refine tB ?_
 refine tr_loop2 (fun (k : Int) (o : List Int) => [(3, .pointer (some p0)), (7, .slice B1 m.toNat m.toNat), (8, .slice B2 m.toNat m.toNat), (9, .int .i64 k)]) (fun (k : Int) (o : List Int) => [ow B2 3 m.toNat (ints b), ow B1 3 m.toNat (ints o), blk p0 24 [.int .i64 p, .int .i64 m, .slice A mod.length c], ro A (ints mod)]) (fun (k : Int) (o : List Int) => (0 ≤ k ∧ k ≤ m) ∧ o.length = m.toNat ∧ AllIn p o ∧ (∀ j : Nat, (j : Int) < k → o.getD j 0 = (a.getD j 0 + b.getD j 0) % p) ∧ ∀ j : Nat, k ≤ j → o.getD j 0 = a.getD j 0) (fun (k : Int) (o : List Int) => (m - k).toNat) (0) (a) ⟨rfl, rfl, rfl, rfl, trivial⟩ (by first | exact cs _ _ | exact CSub.refl _) (⟨⟨by omega, by omega⟩, hal, hai, fun j hj => by omega, fun j hj => rfl⟩) (fun k o hI => ?_)
 obtain ⟨⟨hk, hk1⟩, hol, hoi, ho1, ho2⟩ := hI
 have hg1 := hoi.get (by omega) k.toNat
 have hg2 := hbi.get (by omega) k.toNat
 have e0 := Int.emod_nonneg (o.getD k.toNat 0 + b.getD k.toNat 0) (show p ≠ 0 by omega)
 have e1 := Int.emod_lt_of_pos (o.getD k.toNat 0 + b.getD k.toNat 0) (show 0 < p by omega)
 refine tS ?_
 refine tS ?_
 refine tR fun _ _ _ => ?_
 iterate 2 refine pV ?_
 refine sV (rLen rfl rfl) ?_
 refine pV ?_
 refine tC rfl (fun h4 => ?_) (fun h4 => ?_)
 ·try simp only [zbA] at h4
  refine tK ?_
  refine tS ?_
  refine tB ?_
  refine tr_draw [0, 1, 2, 3, 4, 5, 6, 7, 8, 9, 10, 11, 12, 13, 14] [15] mixed (by kernel_rfl) fun _ _ _ => ?_
  iterate 4 refine pV ?_
  refine sV (rIdxI rfl rfl rfl (by omega) (by omega) (by omega)) ?_
  refine sV (rLdI rfl rfl (by omega)) ?_
  iterate 2 refine pV ?_
  refine sV (rIdxI rfl rfl rfl (by omega) (by omega) (by omega)) ?_
  refine sV (rLdI rfl rfl (by omega)) ?_
  refine sV (rAdd rfl rfl rfl (by omega) (by omega)) ?_
  refine sV (rFld rfl rfl) ?_
  refine sV (rLdF rfl rfl rfl) ?_
  refine sV (rRem rfl rfl rfl (by omega) (by omega)) ?_
  refine sV (rIdxI rfl rfl rfl (by omega) (by omega) (by omega)) ?_
  refine eV (eStI rfl rfl rfl rfl (by omega) ?_)
  refine tR fun _ _ _ => ?_
  refine pV ?_
  refine sV (rAdd rfl rfl rfl (by omega) (by omega)) ?_
  refine pV ?_
  refine ⟨k + 1, o.set k.toNat ((o.getD k.toNat 0 + b.getD k.toNat 0) % p), ⟨rfl, rfl, rfl, rfl, trivial⟩, by first | exact cs _ _ | exact CSub.refl _, ?_⟩
  refine ⟨⟨⟨by omega, by omega⟩, by simpa using hol, hoi.set ⟨e0, e1⟩ _, fun j hj => ?_, fun j hj => ?_⟩, by omega⟩
  ·rw [getD_set]
   by_cases he : k.toNat = j
   ·subst he; rw [if_pos ⟨rfl, by omega⟩, ho2 k.toNat (by omega)]
   ·rw [if_neg (by omega)]; exact ho1 j (by omega)
  ·rw [getD_set, if_neg (by omega)]; exact ho2 j (by omega)
 ·try simp only [zbA] at h4
  refine tE ?_
  refine tS ?_
  refine tR fun _ _ _ => ?_
  refine sV (rLdS rfl rfl rfl) ?_
  refine pV ?_
  refine eV (eCallV rfl rfl rfl (ref_Value _ _ _ _ _ (by omega) (by omega) _ _ _ o (by omega) (by omega) hoi (by omega)) ⟨rfl, rfl, trivial⟩ ?_)
  refine pV ?_
  have hkm : k = m := by omega
  exact tr_ret ⟨trivial, _, _, rfl, ⟨by rw [hvt o hoi (by omega)]; exact congrArg _ (rv_cong fun j hj => by rw [show rl o j = (a.getD j 0 + b.getD j 0) % p from ho1 j (by omega), Int.emod_emod]; rfl), rfl⟩, CSub.nil _, trivial⟩
theorem ref_Neg_ent : Enters Try.prog 111 := enters_of Try.func111 (by kernel_rfl) (by kernel_rfl)
theorem ref_Neg (p m : Int) (A : Option Addr) (c : Nat) (mod : List Int) (hs : Shp p m mod) (x : Int) :
  Pure Try.prog 111 #[.agg #[.int .i64 p, .int .i64 m, .slice A mod.length c], .int .i64 x] [ro A (ints mod)] (isV (.int .i64 (negI p m (inI (ordI p m) x)))) := by
 have hp2 := hs.p2
 have hp9 := hs.p9
 have hm1 := hs.m1
 have hm8 := hs.m8
 have hqq := hs.q
 have hoq := hs.ord
 have hpm : p ^ m.toNat ≤ 256 := hqq
 have hal := digs_length p m.toNat (inI (ordI p m) x)
 have hai := digs_in (p := p) (by omega) m.toNat (inI (ordI p m) x)
 have hvt : ∀ c : List Int, AllIn p c → m.toNat ≤ c.length → vl p (c.take m.toNat) = rv p m.toNat (rl c) := fun c h1 h2 => vl_take hp2 h1 h2
 have hdef : negI p m (inI (ordI p m) x) = rv p m.toNat (Row.sm (-1) (rl (digs p m.toNat (inI (ordI p m) x)))) := rfl
 rw [hdef]
 generalize ha : digs p m.toNat (inI (ordI p m) x) = a at hal hai
 refine pure_of (args := [.agg #[.int .i64 p, .int .i64 m, .slice A mod.length c], .int .i64 x]) 32 Try.func111 rfl rfl rfl ref_Neg_ent ⟨id, trivial⟩ (fun w0 => ?_)
 refine tS ?_
 refine tR fun _ _ _ => ?_
 refine eV (eBox rfl rfl rfl rfl rfl (fun p0 => ?_))
 refine pV ?_
 refine tS ?_
 refine tR fun _ _ _ => ?_
 refine sV (rLdS rfl rfl rfl) ?_
 refine pV ?_
 refine eV (eCall1 rfl rfl rfl (ref_Digits _ _ _ _ _ hs _) ⟨rfl, rfl, trivial⟩ ?_)
 rintro _ _ ⟨B1, rfl, rfl⟩
 refine pV ?_
 rw [ha]
 refine tS ?_
 refine tS ?_
 refine tR fun _ _ _ => ?_
 refine pV ?_
 refine tB ?_
 refine tr_loop2 (fun (k : Int) (o : List Int) => [(2, .pointer (some p0)), (5, .slice B1 m.toNat m.toNat), (6, .int .i64 k)]) (fun (k : Int) (o : List Int) => [ow B1 3 m.toNat (ints o), blk p0 24 [.int .i64 p, .int .i64 m, .slice A mod.length c], ro A (ints mod)]) (fun (k : Int) (o : List Int) => (0 ≤ k ∧ k ≤ m) ∧ o.length = m.toNat ∧ AllIn p o ∧ (∀ j : Nat, (j : Int) < k → o.getD j 0 = (p - a.getD j 0) % p) ∧ ∀ j : Nat, k ≤ j → o.getD j 0 = a.getD j 0) (fun (k : Int) (o : List Int) => (m - k).toNat) (0) (a) ⟨rfl, rfl, rfl, trivial⟩ (by first | exact cs _ _ | exact CSub.refl _) (⟨⟨by omega, by omega⟩, hal, hai, fun j hj => by omega, fun j hj => rfl⟩) (fun k o hI => ?_)
 obtain ⟨⟨hk, hk1⟩, hol, hoi, ho1, ho2⟩ := hI
 have hg1 := hoi.get (by omega) k.toNat
 have e0 := Int.emod_nonneg (p - o.getD k.toNat 0) (show p ≠ 0 by omega)
 have e1 := Int.emod_lt_of_pos (p - o.getD k.toNat 0) (show 0 < p by omega)
 refine tS ?_
 refine tS ?_
 refine tR fun _ _ _ => ?_
 iterate 2 refine pV ?_
 refine sV (rLen rfl rfl) ?_
 refine pV ?_
 refine tC rfl (fun h3 => ?_) (fun h3 => ?_)
 ·try simp only [zbA] at h3
  refine tK ?_
  refine tS ?_
  refine tB ?_
  refine tr_draw [0, 1, 2, 3, 4, 5, 6, 7, 8, 9, 10, 11, 12] [13] mixed (by kernel_rfl) fun _ _ _ => ?_
  iterate 2 refine pV ?_
  refine sV (rFld rfl rfl) ?_
  refine sV (rLdF rfl rfl rfl) ?_
  iterate 2 refine pV ?_
  refine sV (rIdxI rfl rfl rfl (by omega) (by omega) (by omega)) ?_
  refine sV (rLdI rfl rfl (by omega)) ?_
  refine sV (rSub rfl rfl rfl (by omega) (by omega)) ?_
  refine sV (rFld rfl rfl) ?_
  refine sV (rLdF rfl rfl rfl) ?_
  refine sV (rRem rfl rfl rfl (by omega) (by omega)) ?_
  refine sV (rIdxI rfl rfl rfl (by omega) (by omega) (by omega)) ?_
  refine eV (eStI rfl rfl rfl rfl (by omega) ?_)
  refine tR fun _ _ _ => ?_
  refine pV ?_
  refine sV (rAdd rfl rfl rfl (by omega) (by omega)) ?_
  refine pV ?_
  refine ⟨k + 1, o.set k.toNat ((p - o.getD k.toNat 0) % p), ⟨rfl, rfl, rfl, trivial⟩, by first | exact cs _ _ | exact CSub.refl _, ?_⟩
  refine ⟨⟨⟨by omega, by omega⟩, by simpa using hol, hoi.set ⟨e0, e1⟩ _, fun j hj => ?_, fun j hj => ?_⟩, by omega⟩
  ·rw [getD_set]
   by_cases he : k.toNat = j
   ·subst he; rw [if_pos ⟨rfl, by omega⟩, ho2 k.toNat (by omega)]
   ·rw [if_neg (by omega)]; exact ho1 j (by omega)
  ·rw [getD_set, if_neg (by omega)]; exact ho2 j (by omega)
 ·try simp only [zbA] at h3
  refine tE ?_
  refine tS ?_
  refine tR fun _ _ _ => ?_
  refine sV (rLdS rfl rfl rfl) ?_
  refine pV ?_
  refine eV (eCallV rfl rfl rfl (ref_Value _ _ _ _ _ (by omega) (by omega) _ _ _ o (by omega) (by omega) hoi (by omega)) ⟨rfl, rfl, trivial⟩ ?_)
  refine pV ?_
  have hkm : k = m := by omega
  exact tr_ret ⟨trivial, _, _, rfl, ⟨by rw [hvt o hoi (by omega)]; exact congrArg _ (rv_cong fun j hj => by rw [show rl o j = (p - a.getD j 0) % p from ho1 j (by omega), Int.emod_emod]; show _ = (-1 * a.getD j 0) % p; rw [show p - a.getD j 0 = -1 * a.getD j 0 + p by omega, Int.add_emod_right]), rfl⟩, CSub.nil _, trivial⟩
theorem ref_Inv_ent : Enters Try.prog 109 := enters_of Try.func109 (by kernel_rfl) (by kernel_rfl)
theorem ref_Inv (p m : Int) (A : Option Addr) (c : Nat) (mod : List Int) (hF : FldR p m mod) (x : Int) :
  Pure Try.prog 109 #[.agg #[.int .i64 p, .int .i64 m, .slice A mod.length c], .int .i64 x] [ro A (ints mod)] (isV (.int .i64 (invI p m mod (inI (ordI p m) x)))) := by
 have hs := hF.1.1
 have hq2 := hs.q2
 have hp2 := hs.p2
 have hp9 := hs.p9
 have hm1 := hs.m1
 have hm8 := hs.m8
 have hqq := hs.q
 have hoq := hs.ord
 have hpm : p ^ m.toNat ≤ 256 := hqq
 have hxb := inI_bd (q := ordI p m) (by omega) x
 refine pure_of (args := [.agg #[.int .i64 p, .int .i64 m, .slice A mod.length c], .int .i64 x]) 18 Try.func109 rfl rfl rfl ref_Inv_ent ⟨id, trivial⟩ (fun w0 => ?_)
 refine tS ?_
 refine tR fun _ _ _ => ?_
 refine eV (eBox rfl rfl rfl rfl rfl (fun p0 => ?_))
 refine pV ?_
 refine tS ?_
 refine tS ?_
 refine tR fun _ _ _ => ?_
 refine pV ?_
 refine tB ?_
 refine tr_loop1 (fun (i : Int) => [(1, .int .i64 x), (2, .pointer (some p0)), (5, .int .i64 i)]) (fun (i : Int) => [blk p0 24 [.int .i64 p, .int .i64 m, .slice A mod.length c], ro A (ints mod)]) (fun (i : Int) => 1 ≤ i ∧ i ≤ pw p m ∧ ∀ j : Int, 1 ≤ j → j < i → mulI p m mod (inI (ordI p m) x) j ≠ 1) (fun (i : Int) => (pw p m - i).toNat) (1) ⟨rfl, rfl, rfl, trivial⟩ (by first | exact cs _ _ | exact CSub.refl _) (⟨by omega, by omega, fun j h1 h2 => by omega⟩) (fun i hI => ?_)
 obtain ⟨hi0, hi1, hno⟩ := hI
 refine tS ?_
 refine tS ?_
 refine tR fun _ _ _ => ?_
 refine pV ?_
 refine sV (rLdS rfl rfl rfl) ?_
 refine eV (eCallV rfl rfl rfl (ref_order _ _ _ _ _) ⟨rfl, trivial⟩ ?_)
 refine pV ?_
 refine tC rfl (fun h2 => ?_) (fun h2 => ?_)
 ·try simp only [zbA] at h2
  refine tK ?_
  refine tS ?_
  refine tB ?_
  refine tS ?_
  refine tR fun _ _ _ => ?_
  refine sV (rLdS rfl rfl rfl) ?_
  iterate 2 refine pV ?_
  refine eV (eCallV rfl rfl rfl (ref_Mul _ _ _ _ _ hs _ _) ⟨rfl, rfl, rfl, trivial⟩ ?_)
  refine pV ?_
  refine tC rfl (fun h4 => ?_) (fun h4 => ?_)
  ·try simp only [zbA] at h4
   refine tS ?_
   refine tR fun _ _ _ => ?_
   iterate 2 refine pV ?_
   rw [inI_in (q := ordI p m) (x := i) (by omega) (by omega)] at h4
   have hx0 : inI (ordI p m) x ≠ 0 := fun e => by rw [e, mulI_zero hs] at h4; omega
   have hi := invI_spec hF (z := inI (ordI p m) x) ⟨by omega, by omega⟩
   have hin : i = invI p m mod (inI (ordI p m) x) := mul_inj hF (z := inI (ordI p m) x) ⟨by omega, by omega⟩ ⟨hi.1, hi.2.1⟩ ⟨by omega, by omega⟩ (by rw [hi.2.2, mulI_comm hs, h4])
   exact tr_ret ⟨trivial, _, _, rfl, ⟨by rw [← hin], rfl⟩, CSub.nil _, trivial⟩
  ·try simp only [zbA] at h4
   refine tK ?_
   refine tR fun _ _ _ => ?_
   refine pV ?_
   refine sV (rAdd rfl rfl rfl (by omega) (by omega)) ?_
   refine pV ?_
   refine ⟨i + 1, ⟨rfl, rfl, rfl, trivial⟩, by first | exact cs _ _ | exact CSub.refl _, ?_⟩
   refine ⟨⟨by omega, by omega, fun j h1 h2 => ?_⟩, by omega⟩
   by_cases he : j = i
   ·subst he; rw [inI_in (q := ordI p m) (x := j) (by omega) (by omega)] at h4; exact h4
   ·exact hno j h1 (by omega)
 ·try simp only [zbA] at h2
  refine tE ?_
  refine tS ?_
  refine tR fun _ _ _ => ?_
  refine pV ?_
  have hz : invI p m mod (inI (ordI p m) x) = 0 := by
   unfold invI
   rw [dif_neg]
   rintro ⟨y, h1, h2, h3⟩
   have hy0 : y ≠ 0 := fun e => by rw [e, mulI_zero hs] at h3; omega
   exact hno y (by omega) (by omega) (by rw [mulI_comm hs]; exact h3)
  exact tr_ret ⟨trivial, _, _, rfl, ⟨by rw [hz], rfl⟩, CSub.nil _, trivial⟩
end Go.Proofs.Ytdkahdehodopoaa

set_option maxRecDepth 100000
namespace Go.Proofs.Ytdkahdehodopoaa
open Go.RowKit
theorem gf_AddE (g : GfM) {p m : Int} {mod : List Int} [hF : IsF p m mod] (hg : GOk g p m mod) (x y : Int) : Pure Try.prog 92 #[.pointer (some g.p), .int .i64 x, .int .i64 y] [gfR g] (isV (.int .i64 (el x + el y : El p m mod).1)) := by
 have h := gf_Add g p m mod hg x y
 rw [hg.eq] at h
 exact h
theorem gf_MulE (g : GfM) {p m : Int} {mod : List Int} [hF : IsF p m mod] (hg : GOk g p m mod) (x y : Int) : Pure Try.prog 64 #[.pointer (some g.p), .int .i64 x, .int .i64 y] [gfR g] (isV (.int .i64 (el x * el y : El p m mod).1)) := by
 have h := gf_Mul g p m mod hg x y
 rw [hg.eq] at h
 exact h
theorem gf_NegE (g : GfM) {p m : Int} {mod : List Int} [hF : IsF p m mod] (hg : GOk g p m mod) (x : Int) : Pure Try.prog 70 #[.pointer (some g.p), .int .i64 x] [gfR g] (isV (.int .i64 (-el x : El p m mod).1)) := by
 have h := gf_Neg g p m mod hg x
 rw [hg.eq] at h
 exact h
theorem gf_InvE (g : GfM) {p m : Int} {mod : List Int} [hF : IsF p m mod] (hg : GOk g p m mod) (x : Int) (hx : (el x : El p m mod) ≠ 0) : Pure Try.prog 63 #[.pointer (some g.p), .int .i64 x] [gfR g] (isV (.tuple #[.int .i64 (Fd.inv (el x : El p m mod)).1, .int .i64 0])) := by
 have h := gf_Inv g p m mod hg x
 have e : ¬ inI (pw p m) x = 0 := fun e => hx ((val_zero_iff (el x : El p m mod)).1 e)
 rw [hg.eq, if_neg e] at h
 exact h
theorem gf_ScaleE (g : GfM) {p m : Int} {mod : List Int} [hF : IsF p m mod] (hg : GOk g p m mod) (x : Int) (A : Option Addr) (n c : Nat) (l : List Int) (hn : n = l.length) (h9 : l.length ≤ 17592186044415) : Pure Try.prog 94 #[.pointer (some g.p), .int .i64 x, .slice A n c] [gfR g, ro A (ints l)] (one (fun v ch => ∃ B, v = .slice B l.length l.length ∧ ch = ow B 3 l.length (ints (l.map fun y => (el x * el y : El p m mod).1)))) := by
 have h := gf_Scale g p m mod hg x A n c l hn h9
 rw [hg.eq] at h
 exact h
theorem El.bd {p m : Int} {mod : List Int} (a : El p m mod) : 0 ≤ a.1 ∧ a.1 < pw p m := a.2
section
end
theorem ref_AddE (p m : Int) (A : Option Addr) (c : Nat) (mod : List Int) [hF : IsF p m mod] (x y : Int) : Pure Try.prog 129 #[.agg #[.int .i64 p, .int .i64 m, .slice A mod.length c], .int .i64 x, .int .i64 y] [ro A (ints mod)] (isV (.int .i64 (el x + el y : El p m mod).1)) := by
 have h := ref_Add p m A c mod hF.out.1.1 x y
 rw [hF.ord] at h
 exact h
theorem ref_MulE (p m : Int) (A : Option Addr) (c : Nat) (mod : List Int) [hF : IsF p m mod] (x y : Int) : Pure Try.prog 128 #[.agg #[.int .i64 p, .int .i64 m, .slice A mod.length c], .int .i64 x, .int .i64 y] [ro A (ints mod)] (isV (.int .i64 (el x * el y : El p m mod).1)) := by
 have h := ref_Mul p m A c mod hF.out.1.1 x y
 rw [hF.ord] at h
 exact h
theorem ref_NegE (p m : Int) (A : Option Addr) (c : Nat) (mod : List Int) [hF : IsF p m mod] (x : Int) : Pure Try.prog 111 #[.agg #[.int .i64 p, .int .i64 m, .slice A mod.length c], .int .i64 x] [ro A (ints mod)] (isV (.int .i64 (-el x : El p m mod).1)) := by
 have h := ref_Neg p m A c mod hF.out.1.1 x
 rw [hF.ord] at h
 exact h
theorem ref_InvE (p m : Int) (A : Option Addr) (c : Nat) (mod : List Int) [hF : IsF p m mod] (x : Int) : Pure Try.prog 109 #[.agg #[.int .i64 p, .int .i64 m, .slice A mod.length c], .int .i64 x] [ro A (ints mod)] (isV (.int .i64 (Fd.inv (el x) : El p m mod).1)) := by
 have h := ref_Inv p m A c mod hF.out x
 rw [hF.ord] at h
 exact h
end Go.Proofs.Ytdkahdehodopoaa

set_option maxRecDepth 100000
namespace Go.Proofs.Ytdkahdehodopoaa
open Go.RowKit
section
variable {p m : Int} {mod : List Int} [hF : IsF p m mod]
noncomputable def addR (c : El p m mod) (ds ss : List Int) : List Int := (List.range ds.length).map fun j => (el (ds.getD j 0) + c * el (ss.getD j 0) : El p m mod).1
noncomputable def sclR (c : El p m mod) (xs : List Int) : List Int := xs.map fun y => (c * el y : El p m mod).1
@[simp] theorem addR_length (c : El p m mod) (ds ss : List Int) : (addR c ds ss).length = ds.length := by simp [addR]
@[simp] theorem sclR_length (c : El p m mod) (xs : List Int) : (sclR c xs).length = xs.length := by simp [sclR]
theorem addR_get (c : El p m mod) (ds ss : List Int) {j : Nat} (h : j < ds.length) : (addR c ds ss).getD j 0 = (el (ds.getD j 0) + c * el (ss.getD j 0) : El p m mod).1 := by
 unfold addR
 rw [List.getD_eq_getElem?_getD, List.getElem?_map, List.getElem?_range h]
 rfl
theorem addR_in (c : El p m mod) (ds ss : List Int) : AllIn (pw p m) (addR c ds ss) := fun z hz => by
 obtain ⟨j, _, rfl⟩ := List.mem_map.1 hz
 exact El.bd _
theorem sclR_in (c : El p m mod) (xs : List Int) : AllIn (pw p m) (sclR c xs) := fun z hz => by
 obtain ⟨j, _, rfl⟩ := List.mem_map.1 hz
 exact El.bd _
theorem getD_out {l : List Int} {j : Nat} (h : l.length ≤ j) : l.getD j 0 = 0 := by rw [List.getD_eq_getElem?_getD, List.getElem?_eq_none h]; rfl
theorem rw_addR (c : El p m mod) (ds ss : List Int) (h : ss.length ≤ ds.length) : (rw' (addR c ds ss) : Vc (El p m mod)) = rw' ds + Vc.sc c (rw' ss) := Vc.ext fun j => by
 rw [Vc.add_at, Vc.sc_at, rw_at, rw_at, rw_at]
 by_cases hj : j < ds.length
 ·rw [addR_get c ds ss hj, el_of]
 ·rw [getD_out (by simpa using hj), getD_out (l := ds) (by omega), getD_out (l := ss) (by omega), el_zero]; grind
theorem rw_sclR (c : El p m mod) (xs : List Int) : (rw' (sclR c xs) : Vc (El p m mod)) = Vc.sc c (rw' xs) := Vc.ext fun j => by
 rw [Vc.sc_at, rw_at, rw_at]
 by_cases hj : j < xs.length
 ·unfold sclR
  rw [List.getD_eq_getElem?_getD, List.getElem?_map, List.getElem?_eq_getElem hj, List.getD_eq_getElem?_getD, List.getElem?_eq_getElem hj]
  exact el_of _
 ·rw [getD_out (by simpa using hj), getD_out (l := xs) (by omega), el_zero]; grind
end
theorem mem_erase {rs : List RowM} {i k : Nat} (hk : k < rs.length) (h : k ≠ i) : rs.getD k rowD ∈ rs.eraseIdx i := by
 rw [List.mem_eraseIdx_iff_getElem]
 exact ⟨k, hk, h, by rw [List.getD_eq_getElem?_getD, List.getElem?_eq_getElem hk]; rfl⟩
theorem mat_add_ent : Enters Try.prog 127 := enters_of Try.func127 (by kernel_rfl) (by kernel_rfl)
theorem mat_add (g : GfM) {p m : Int} {mod : List Int} [hF : IsF p m mod] (hg : GOk g p m mod) (D : Option Addr) (cd : Nat) (ds : List Int) (c : Int) (B : Option Addr) (cb : Nat) (ss : List Int) (hl : ss.length = ds.length) (h9 : ds.length ≤ 17592186044415) (hds : AllIn (pw p m) ds) :
  Mut Try.prog 127 #[.pointer (some g.p), .slice D ds.length cd, .int .i64 c, .slice B ss.length cb] [ow D 3 cd (ints ds)] [gfR g, ro B (ints ss)] (one (fun v ch => v = .tuple #[] ∧ ch = ow D 3 cd (ints (addR (el c : El p m mod) ds ss)))) := by
 refine mut_of (args := [.pointer (some g.p), .slice D ds.length cd, .int .i64 c, .slice B ss.length cb]) 33 (F := [ow D 3 cd (ints ds), gfR g, ro B (ints ss)]) rfl Try.func127 rfl rfl rfl mat_add_ent (fun w0 => ?_)
 refine tS ?_
 refine tR fun _ _ _ => ?_
 refine pV ?_
 refine sV (rLen rfl rfl) ?_
 refine pV ?_
 refine tB ?_
 refine tr_loop2 (fun (j : Int) (o : List Int) => [(0, .pointer (some g.p)), (1, .slice D ds.length cd), (2, .int .i64 c), (10, .slice B ss.length cb), (11, .int .i64 ss.length), (12, .int .i64 j)]) (fun (j : Int) (o : List Int) => [ow D 3 cd (ints o), gfR g, ro B (ints ss)]) (fun (j : Int) (o : List Int) => (0 ≤ j ∧ j ≤ ss.length) ∧ o.length = ds.length ∧ (∀ t : Nat, (t : Int) < j → o.getD t 0 = (el (ds.getD t 0) + el c * el (ss.getD t 0) : El p m mod).1) ∧ ∀ t : Nat, j ≤ t → o.getD t 0 = ds.getD t 0) (fun (j : Int) (o : List Int) => (ss.length - j).toNat) (0) (ds) ⟨rfl, rfl, rfl, rfl, rfl, rfl, trivial⟩ (by first | exact cs _ _ | exact CSub.refl _) (⟨⟨by omega, by omega⟩, rfl, fun t ht => by omega, fun t ht => rfl⟩) (fun j o hI => ?_)
 obtain ⟨⟨hj0, hj1⟩, hol, ho1, ho2⟩ := hI
 refine tS ?_
 refine tR fun _ _ _ => ?_
 refine pV ?_
 refine tS ?_
 refine tC rfl (fun h1 => ?_) (fun h1 => ?_)
 ·try simp only [zbA] at h1
  refine tK ?_
  refine tS ?_
  refine tB ?_
  refine tS ?_
  refine tR fun _ _ _ => ?_
  refine pV ?_
  refine sV (rIdxI rfl rfl rfl (by omega) (by omega) (by omega)) ?_
  refine sV (rLdI rfl rfl (by omega)) ?_
  iterate 2 refine pV ?_
  refine tS ?_
  refine tR fun _ _ _ => ?_
  iterate 2 refine pV ?_
  refine tC rfl (fun h3 => ?_) (fun h3 => ?_)
  ·try simp only [zbA] at h3
   refine tr_draw [0, 1, 2, 3, 4, 5, 6, 7, 8, 9, 10, 11, 12] [13] mixed (by kernel_rfl) fun _ _ _ => ?_
   iterate 5 refine pV ?_
   refine sV (rIdxI rfl rfl rfl (by omega) (by omega) (by omega)) ?_
   refine sV (rLdI rfl rfl (by omega)) ?_
   iterate 3 refine pV ?_
   refine eV (eCallV rfl rfl rfl (gf_MulE g hg _ _) ⟨rfl, rfl, rfl, trivial⟩ ?_)
   refine eV (eCallV rfl rfl rfl (gf_AddE g hg _ _) ⟨rfl, rfl, rfl, trivial⟩ ?_)
   refine sV (rIdxI rfl rfl rfl (by omega) (by omega) (by omega)) ?_
   refine eV (eStI rfl rfl rfl rfl (by omega) ?_)
   refine tR fun _ _ _ => ?_
   refine sV (rAdd rfl rfl rfl (by omega) (by omega)) ?_
   refine pV ?_
   refine ⟨j + 1, o.set j.toNat (el (o.getD j.toNat 0) + el (el c * el (ss.getD j.toNat 0) : El p m mod).1 : El p m mod).1, ⟨rfl, rfl, rfl, rfl, rfl, rfl, trivial⟩, by first | exact cs _ _ | exact CSub.refl _, ?_⟩
   refine ⟨⟨⟨by omega, by omega⟩, by simpa using hol, fun t ht => ?_, fun t ht => ?_⟩, by omega⟩
   ·rw [getD_set]
    by_cases he : j.toNat = t
    ·subst he; rw [if_pos ⟨rfl, by omega⟩, el_of, ho2 _ (by omega)]
    ·rw [if_neg (by omega)]; exact ho1 t (by omega)
   ·rw [getD_set, if_neg (by omega)]; exact ho2 t (by omega)
  ·try simp only [zbA] at h3
   refine tK ?_
   refine tR fun _ _ _ => ?_
   refine sV (rAdd rfl rfl rfl (by omega) (by omega)) ?_
   refine pV ?_
   refine ⟨j + 1, o, ⟨rfl, rfl, rfl, rfl, rfl, rfl, trivial⟩, by first | exact cs _ _ | exact CSub.refl _, ?_⟩
   refine ⟨⟨⟨by omega, by omega⟩, hol, fun t ht => ?_, fun t ht => ho2 t (by omega)⟩, by omega⟩
   by_cases he : j.toNat = t
   ·subst he
    have hb := hds.get (by have := hF.q2; omega) j.toNat
    rw [ho2 _ (by omega), show ss.getD j.toNat 0 = 0 by omega, el_zero, Rg.mul_zero, Rg.add_zero, el_in hb]
   ·exact ho1 t (by omega)
 ·try simp only [zbA] at h1
  refine tE ?_
  have hfin : o = addR (el c : El p m mod) ds ss := ext_getD (by simpa using hol) fun t => by
   by_cases ht : t < ds.length
   ·rw [addR_get _ _ _ ht, ho1 t (by omega)]
   ·rw [getD_out (by omega), getD_out (by simp; omega)]
  rw [← hfin]
  exact ⟨trivial, _, _, .nil, ⟨_, rfl, rfl, rfl⟩, cs _ _, trivial, trivial⟩
theorem elim_swap_ent : Enters Try.prog 124 := enters_of Try.func124 (by kernel_rfl) (by kernel_rfl)
theorem elim_swap (A : Option Addr) (n cp : Nat) (rs : List RowM) (hn : n = rs.length) (pi pk : Addr) (i k : Int) (hi : 0 ≤ i ∧ i < rs.length) (hk : 0 ≤ k ∧ k < rs.length) :
  Mut Try.prog 124 #[.slice A n cp, .pointer (some pi), .pointer (some pk)] [ow A 22 cp (hdrs rs), rowsCh 3 rs] [ro (some pi) [.int .i64 i], ro (some pk) [.int .i64 k]] (two (fun v ca cb => v = .tuple #[] ∧ ca = ow A 22 cp (hdrs ((rs.set k.toNat (rs.getD i.toNat rowD)).set i.toNat (rs.getD k.toNat rowD))) ∧ cb = rowsCh 3 ((rs.set k.toNat (rs.getD i.toNat rowD)).set i.toNat (rs.getD k.toNat rowD)))) := by
 haveI : InB i.toNat rs.length := ⟨by omega⟩
 haveI : InB k.toNat rs.length := ⟨by omega⟩
 refine mut_of (args := [.slice A n cp, .pointer (some pi), .pointer (some pk)]) 18 (F := [ow A 22 cp (hdrs rs), rowsCh 3 rs, ro (some pi) [.int .i64 i], ro (some pk) [.int .i64 k]]) rfl Try.func124 rfl rfl rfl elim_swap_ent (fun w0 => ?_)
 refine tr_plan [ro (some pi) [.int .i64 i], ro (some pk) [.int .i64 k]] [(0, 0), (0, 1), (2, 2), (2, 3), (0, 4), (0, 5), (0, 6), (0, 7), (0, 8), (0, 9), (0, 10), (0, 11), (0, 12), (1, 13), (0, 14), (1, 15)] mixed (by kernel_rfl) fun _ _ _ => ?_
 refine pV ?_
 refine sV (rLd0 rfl rfl) ?_
 refine stF rfl rfl rfl rfl (cs _ _) (rMove rfl rfl) ?_
 refine stF rfl rfl rfl rfl (cs _ _) (rLd0 rfl rfl) ?_
 refine pV ?_
 refine sV (rLd0 rfl rfl) ?_
 refine sV (rIdxR rfl rfl rfl (by omega) (by omega) (by omega)) ?_
 refine sV (rLdR rfl rfl (by omega)) ?_
 refine pV ?_
 refine sV (rLd0 rfl rfl) ?_
 refine sV (rIdxR rfl rfl rfl (by omega) (by omega) (by omega)) ?_
 refine sV (rLdR rfl rfl (by omega)) ?_
 refine sV (rIdxR rfl rfl rfl (by omega) (by omega) (by omega)) ?_
 refine eV (eSt rfl rfl rfl rfl (by first | omega | (simp; omega)) rfl rfl ?_)
 refine ⟨cs _ _, ?_⟩
 refine sV (rIdx rfl rfl rfl (by omega) (by omega) (by simp; omega)) ?_
 refine eV (eSt rfl rfl rfl rfl (by first | omega | (simp; omega)) rfl rfl ?_)
 refine ⟨cs _ _, ?_⟩
 have hh : ((hdrs rs).set k.toNat (RowM.hdr (rs.getD i.toNat rowD))).set i.toNat (RowM.hdr (rs.getD k.toNat rowD)) = hdrs ((rs.set k.toNat (rs.getD i.toNat rowD)).set i.toNat (rs.getD k.toNat rowD)) := by rw [hdrs_set, hdrs_set]
 exact ⟨trivial, _, _, .nil, ⟨_, _, rfl, rfl, rfl, rfl⟩, hh ▸ ((cs _ [rowsCh 3 rs, ow A 22 cp (((hdrs rs).set k.toNat (.slice (rs.getD i.toNat rowD).A (rs.getD i.toNat rowD).xs.length (rs.getD i.toNat rowD).cap)).set i.toNat (.slice (rs.getD k.toNat rowD).A (rs.getD k.toNat rowD).xs.length (rs.getD k.toNat rowD).cap))]).trans ((rows_perm (swap_perm rowD rs (by omega) (by omega)) _).trans (CSub.perm (List.Perm.swap ..)))), trivial, trivial, trivial⟩
theorem elim_scale_ent : Enters Try.prog 125 := enters_of Try.func125 (by kernel_rfl) (by kernel_rfl)
theorem elim_scale (g : GfM) {p m : Int} {mod : List Int} [hF : IsF p m mod] (hg : GOk g p m mod) (A : Option Addr) (n cp : Nat) (rs : List RowM) (hn : n = rs.length) (pg pf pk : Addr) (f k : Int) (hk : 0 ≤ k ∧ k < rs.length) (hl : (rs.getD k.toNat rowD).xs.length ≤ 17592186044415) :
  Mut Try.prog 125 #[.slice A n cp, .pointer (some pg), .pointer (some pf), .pointer (some pk)] [ow A 22 cp (hdrs rs), rowsCh 3 rs] [ro (some pg) [.pointer (some g.p)], ro (some pf) [.int .i64 f], ro (some pk) [.int .i64 k], gfR g] (two (fun v ca cb => ∃ B, v = .tuple #[] ∧ ca = ow A 22 cp (hdrs (rs.set k.toNat (⟨B, (rs.getD k.toNat rowD).xs.length, sclR (el f : El p m mod) (rs.getD k.toNat rowD).xs⟩ : RowM))) ∧ cb = rowsCh 3 (rs.set k.toNat (⟨B, (rs.getD k.toNat rowD).xs.length, sclR (el f : El p m mod) (rs.getD k.toNat rowD).xs⟩ : RowM)))) := by
 haveI : InB k.toNat rs.length := ⟨by omega⟩
 refine mut_of (args := [.slice A n cp, .pointer (some pg), .pointer (some pf), .pointer (some pk)]) 15 (F := [ow A 22 cp (hdrs rs), rowsCh 3 rs, ro (some pg) [.pointer (some g.p)], ro (some pf) [.int .i64 f], ro (some pk) [.int .i64 k], gfR g]) rfl Try.func125 rfl rfl rfl elim_scale_ent (fun w0 => ?_)
 refine tr_draw [0, 1, 2, 3, 4, 5, 6, 7, 8, 9] [10] mixed (by kernel_rfl) fun _ _ _ => ?_
 refine pV ?_
 refine sV (rLd0 rfl rfl) ?_
 refine sV (rLd0 rfl rfl) ?_
 refine sV (rLd0 rfl rfl) ?_
 refine pV ?_
 refine sV (rLd0 rfl rfl) ?_
 refine sV (rIdxR rfl rfl rfl (by omega) (by omega) (by omega)) ?_
 refine sV (rLdR rfl rfl (by omega)) ?_
 refine eV (eCall1 rfl rfl rfl (gf_ScaleE g hg _ _ _ _ (rs.getD k.toNat rowD).xs rfl hl) ⟨rfl, rfl, rfl, trivial⟩ ?_)
 rintro _ _ ⟨B, rfl, rfl⟩
 refine sV (rIdxR rfl rfl rfl (by omega) (by omega) (by omega)) ?_
 refine eV (eSt rfl rfl rfl rfl (by first | omega | (simp; omega)) rfl rfl ?_)
 have hh : (hdrs rs).set k.toNat (.slice B (rs.getD k.toNat rowD).xs.length (rs.getD k.toNat rowD).xs.length) = hdrs (rs.set k.toNat (⟨B, (rs.getD k.toNat rowD).xs.length, sclR (el f : El p m mod) (rs.getD k.toNat rowD).xs⟩ : RowM)) := by rw [hdrs_set]; simp [RowM.hdr]
 exact ⟨trivial, _, _, .nil, ⟨_, _, rfl, B, rfl, rfl, rfl⟩, hh ▸ ((cs _ [rowsCh 3 rs, ow B 3 (rs.getD k.toNat rowD).xs.length (ints ((rs.getD k.toNat rowD).xs.map fun y => (el f * el y : El p m mod).1)), ow A 22 cp ((hdrs rs).set k.toNat (.slice B (rs.getD k.toNat rowD).xs.length (rs.getD k.toNat rowD).xs.length))]).trans ((rows_put (r := (⟨B, (rs.getD k.toNat rowD).xs.length, sclR (el f : El p m mod) (rs.getD k.toNat rowD).xs⟩ : RowM)) (show k.toNat < rs.length by omega) _).trans (CSub.perm (List.Perm.swap ..)))), trivial, trivial, trivial⟩
theorem elim_add_ent : Enters Try.prog 126 := enters_of Try.func126 (by kernel_rfl) (by kernel_rfl)
theorem elim_add (g : GfM) {p m : Int} {mod : List Int} [hF : IsF p m mod] (hg : GOk g p m mod) (A : Option Addr) (n cp : Nat) (rs : List RowM) (hn : n = rs.length) (pg pi pf pk : Addr) (f i k : Int) (hi : 0 ≤ i ∧ i < rs.length) (hk : 0 ≤ k ∧ k < rs.length) (hik : i ≠ k) (hl : (rs.getD k.toNat rowD).xs.length = (rs.getD i.toNat rowD).xs.length) (hl9 : (rs.getD i.toNat rowD).xs.length ≤ 17592186044415) (hin : AllIn (pw p m) (rs.getD i.toNat rowD).xs) :
  Mut Try.prog 126 #[.slice A n cp, .pointer (some pg), .pointer (some pi), .pointer (some pf), .pointer (some pk)] [ow A 22 cp (hdrs rs), rowsCh 3 rs] [ro (some pg) [.pointer (some g.p)], ro (some pi) [.int .i64 i], ro (some pf) [.int .i64 f], ro (some pk) [.int .i64 k], gfR g] (two (fun v ca cb => v = .tuple #[] ∧ ca = ow A 22 cp (hdrs (rs.set i.toNat (⟨(rs.getD i.toNat rowD).A, (rs.getD i.toNat rowD).cap, addR (-(el f : El p m mod)) (rs.getD i.toNat rowD).xs (rs.getD k.toNat rowD).xs⟩ : RowM))) ∧ cb = rowsCh 3 (rs.set i.toNat (⟨(rs.getD i.toNat rowD).A, (rs.getD i.toNat rowD).cap, addR (-(el f : El p m mod)) (rs.getD i.toNat rowD).xs (rs.getD k.toNat rowD).xs⟩ : RowM)))) := by
 haveI : InB i.toNat rs.length := ⟨by omega⟩
 haveI : InB k.toNat rs.length := ⟨by omega⟩
 haveI : RowIn (rs.getD k.toNat rowD) (rs.eraseIdx i.toNat) := ⟨mem_erase (by omega) (by omega)⟩
 refine mut_of (args := [.slice A n cp, .pointer (some pg), .pointer (some pi), .pointer (some pf), .pointer (some pk)]) 19 (F := [ow A 22 cp (hdrs rs), rowsCh 3 rs, ro (some pg) [.pointer (some g.p)], ro (some pi) [.int .i64 i], ro (some pf) [.int .i64 f], ro (some pk) [.int .i64 k], gfR g]) rfl Try.func126 rfl rfl rfl elim_add_ent (fun w0 => ?_)
 refine tr_draw [0, 1, 2, 3, 4, 5, 6, 8, 9, 10, 11, 7] [12] mixed (by kernel_rfl) fun _ _ _ => ?_
 refine sV (rLd0 rfl rfl) ?_
 refine pV ?_
 refine sV (rLd0 rfl rfl) ?_
 refine sV (rIdxR rfl rfl rfl (by omega) (by omega) (by omega)) ?_
 refine sV (rLdR rfl rfl (by omega)) ?_
 refine sV (rLd0 rfl rfl) ?_
 refine sV (rLd0 rfl rfl) ?_
 refine pV ?_
 refine sV (rLd0 rfl rfl) ?_
 refine sV (rIdxR rfl rfl rfl (by omega) (by omega) (by omega)) ?_
 refine sV (rLdR rfl rfl (by omega)) ?_
 refine eV (eCallV rfl rfl rfl (gf_NegE g hg _) ⟨rfl, rfl, trivial⟩ ?_)
 refine st_sub (((cs _ [rowsCh 3 rs, ow A 22 cp (hdrs rs), ro (some pg) [.pointer (some g.p)], ro (some pi) [.int .i64 i], ro (some pf) [.int .i64 f], ro (some pk) [.int .i64 k], gfR g]).trans (rows_out (show i.toNat < rs.length by omega) _) : CSub _ [ow (rs.getD i.toNat rowD).A 3 (rs.getD i.toNat rowD).cap (ints (rs.getD i.toNat rowD).xs), rowsCh 3 (rs.eraseIdx i.toNat), ow A 22 cp (hdrs rs), ro (some pg) [.pointer (some g.p)], ro (some pi) [.int .i64 i], ro (some pf) [.int .i64 f], ro (some pk) [.int .i64 k], gfR g])) ?_
 refine eV (eCallM1 rfl rfl rfl (mat_add g hg _ _ _ _ _ _ _ hl hl9 hin) ⟨rfl, rfl, rfl, rfl, trivial⟩ ?_)
 rintro _ _ ⟨rfl, rfl⟩
 rw [el_of]
 have hh : (hdrs rs).set i.toNat (RowM.hdr (⟨(rs.getD i.toNat rowD).A, (rs.getD i.toNat rowD).cap, addR (-(el f : El p m mod)) (rs.getD i.toNat rowD).xs (rs.getD k.toNat rowD).xs⟩ : RowM)) = hdrs (rs.set i.toNat (⟨(rs.getD i.toNat rowD).A, (rs.getD i.toNat rowD).cap, addR (-(el f : El p m mod)) (rs.getD i.toNat rowD).xs (rs.getD k.toNat rowD).xs⟩ : RowM)) := (hdrs_set _ _ _).symm
 have hs : (hdrs rs).set i.toNat (RowM.hdr (⟨(rs.getD i.toNat rowD).A, (rs.getD i.toNat rowD).cap, addR (-(el f : El p m mod)) (rs.getD i.toNat rowD).xs (rs.getD k.toNat rowD).xs⟩ : RowM)) = hdrs rs := by
  have e1 : RowM.hdr (⟨(rs.getD i.toNat rowD).A, (rs.getD i.toNat rowD).cap, addR (-(el f : El p m mod)) (rs.getD i.toNat rowD).xs (rs.getD k.toNat rowD).xs⟩ : RowM) = RowM.hdr (rs.getD i.toNat rowD) := by simp [RowM.hdr]
  rw [e1, ← hdrs_set]
  congr 1
  rw [List.getD_eq_getElem?_getD, List.getElem?_eq_getElem (show i.toNat < rs.length by omega)]
  exact List.set_getElem_self _
 exact ⟨trivial, _, _, .nil, ⟨_, _, rfl, rfl, rfl, rfl⟩, (hs.symm.trans hh) ▸ ((cs _ [ow (rs.getD i.toNat rowD).A 3 (rs.getD i.toNat rowD).cap (ints (addR (-(el f : El p m mod)) (rs.getD i.toNat rowD).xs (rs.getD k.toNat rowD).xs)), rowsCh 3 (rs.eraseIdx i.toNat), ow A 22 cp (hdrs rs)]).trans ((rows_in (r := (⟨(rs.getD i.toNat rowD).A, (rs.getD i.toNat rowD).cap, addR (-(el f : El p m mod)) (rs.getD i.toNat rowD).xs (rs.getD k.toNat rowD).xs⟩ : RowM)) (show i.toNat < rs.length by omega) _).trans (CSub.perm (List.Perm.swap ..)))), trivial, trivial, trivial⟩
theorem elim_each_ent : Enters Try.prog 123 := enters_of Try.func123 (by kernel_rfl) (by kernel_rfl)
theorem elim_each (A : Option Addr) (n cp : Nat) (rs : List RowM) (hn : n = rs.length) (ff : FuncId) (lb : List Value) (p5 p7 : Addr) (Gc : List Chunk) (hGc : NoEx Gc) (Φ : Value → Chunk → Chunk → Prop) (hf : Mut Try.prog ff ([(.slice A n cp : Value)] ++ lb).toArray [ow A 22 cp (hdrs rs), rowsCh 3 rs] Gc (two Φ)) (hex : ∀ u c d, Φ u c d → AllEx [c, d]) :
  Mut Try.prog 123 #[.func (.func ff) #[] lb.toArray, .pointer (some p5), .pointer (some p7)] [ow A 22 cp (hdrs rs), rowsCh 3 rs] [ro (some p5) [.slice A n cp], ro (some p7) [.slice none 0 0], bun Gc] (two (fun v ca cb => v = .tuple #[] ∧ ∃ u, Φ u ca cb)) := by
 refine mut_of (args := [.func (.func ff) #[] lb.toArray, .pointer (some p5), .pointer (some p7)]) 13 (F := [ow A 22 cp (hdrs rs), rowsCh 3 rs, ro (some p5) [.slice A n cp], ro (some p7) [.slice none 0 0], bun Gc]) rfl Try.func123 rfl rfl rfl elim_each_ent (fun w0 => ?_)
 refine tS ?_
 refine tR fun _ _ _ => ?_
 refine pV ?_
 refine sV (rLd0 rfl rfl) ?_
 refine eV (eCallF2 rfl rfl rfl rfl (hf) ⟨rfl, trivial⟩ ?_ hGc)
 rintro _ _ _ hΦ
 refine tS ?_
 refine tR fun _ _ _ => ?_
 refine sV (rLd0 rfl rfl) ?_
 refine sV (rLen rfl rfl) ?_
 refine pV ?_
 refine tC rfl (fun h1 => ?_) (fun h1 => ?_)
 ·try simp only [zbA] at h1
  exact absurd h1 (by simp) --done
 ·try simp only [zbA] at h1
  refine tK ?_
  exact ⟨trivial, _, _, .nil, ⟨_, _, rfl, rfl, _, hΦ⟩, cs _ _, hex _ _ _ hΦ⟩
end Go.Proofs.Ytdkahdehodopoaa

namespace Go.Proofs.Ytdkahdehodopoaa
namespace Vc
variable {K : Type} [Fd K]
theorem getD_setV {α : Type} (l : List α) (i j : Nat) (v d : α) : (l.set i v).getD j d = if i = j ∧ j < l.length then v else l.getD j d := by
 rw [List.getD_eq_getElem?_getD, List.getElem?_set]
 by_cases h : i = j
 ·subst h
  by_cases h2 : i < l.length
  ·rw [if_pos rfl, if_pos h2, if_pos ⟨rfl, h2⟩]; rfl
  ·rw [if_pos rfl, if_neg h2, if_neg (fun h => h2 h.2), List.getD_eq_getElem?_getD, List.getElem?_eq_none (by omega)]
 ·rw [if_neg h, if_neg (fun e => h e.1), ← List.getD_eq_getElem?_getD]
theorem span_perm {V V' : List (Vc K)} (h : V.Perm V') (u : Vc K) : SpL V u ↔ SpL V' u :=
 ⟨fun hu => hu.mono fun r hr => .of (h.mem_iff.1 hr), fun hu => hu.mono fun r hr => .of (h.mem_iff.2 hr)⟩
theorem span_set {V : List (Vc K)} {i : Nat} {v : Vc K} (hi : i < V.length) (h1 : SpL V v) (h2 : SpL (V.set i v) (V.getD i 0)) (u : Vc K) : SpL V u ↔ SpL (V.set i v) u := by
 constructor
 ·refine fun hu => hu.mono fun r hr => ?_
  obtain ⟨j, hj, rfl⟩ := List.getElem_of_mem hr
  by_cases hij : i = j
  ·subst hij
   have : V.getD i 0 = V[i] := by rw [List.getD_eq_getElem?_getD, List.getElem?_eq_getElem hi]; rfl
   rw [← this]; exact h2
  ·refine .of ?_
   rw [List.mem_iff_getElem]
   exact ⟨j, by simpa using hj, by rw [List.getElem_set_ne hij]⟩
 ·refine fun hu => hu.mono fun r hr => ?_
  rcases List.mem_or_eq_of_mem_set hr with h | h
  ·exact .of h
  ·rw [h]; exact h1
structure Eli (W : Vc K → Prop) (n : Nat) (V : List (Vc K)) (c : Nat) (ps : List Nat) : Prop where
 sp : ∀ u, SpL V u ↔ W u
 len : ps.length ≤ V.length
 lt : ∀ i, i < ps.length → ps.getD i 0 < c
 rise : ∀ i k, i < k → k < ps.length → ps.getD i 0 < ps.getD k 0
 one : ∀ i, i < ps.length → V.getD i 0 (ps.getD i 0) = 1
 off : ∀ i k, i < V.length → k < ps.length → i ≠ k → V.getD i 0 (ps.getD k 0) = 0
 low : ∀ i j, i < ps.length → j < ps.getD i 0 → V.getD i 0 j = 0
 zer : ∀ i j, ps.length ≤ i → i < V.length → j < c → V.getD i 0 j = 0
 sup : ∀ i j, i < V.length → n ≤ j → V.getD i 0 j = 0
variable {W : Vc K → Prop} {n c : Nat} {V : List (Vc K)} {ps : List Nat}
theorem Eli.start (hs : ∀ i j, i < V.length → n ≤ j → V.getD i 0 j = 0) : Eli (SpL V) n V 0 [] where
 sp _ := Iff.rfl
 len := Nat.zero_le _
 lt i h := by simp at h
 rise i k _ h := by simp at h
 one i h := by simp at h
 off i k _ h _ := by simp at h
 low i j h := by simp at h
 zer i j _ _ h := by omega
 sup := hs
theorem Eli.skip (h : Eli W n V c ps) (hz : ∀ i, ps.length ≤ i → i < V.length → V.getD i 0 c = 0) : Eli W n V (c + 1) ps :=
 { h with
  lt := fun i hi => by have := h.lt i hi; omega
  zer := fun i j h1 h2 h3 => by
   by_cases e : j = c
   ·subst e; exact hz i h1 h2
   ·exact h.zer i j h1 h2 (by omega) }
theorem Eli.swap (h : Eli W n V c ps) {a : Nat} (ha : ps.length ≤ a) (ha2 : a < V.length) : Eli W n ((V.set ps.length (V.getD a 0)).set a (V.getD ps.length 0)) c ps := by
 have hp := swap_perm (0 : Vc K) V (i := ps.length) (j := a) (by omega) ha2
 have key : ∀ i, i < V.length → ((V.set ps.length (V.getD a 0)).set a (V.getD ps.length 0)).getD i 0 = V.getD (if i = a then ps.length else if i = ps.length then a else i) 0 := fun i hi => by
  rw [getD_setV]
  by_cases e1 : a = i
  ·rw [if_pos (show a = i ∧ i < (V.set ps.length (V.getD a 0)).length from ⟨e1, by simpa using hi⟩), if_pos (show i = a from e1.symm)]
  ·rw [if_neg (show ¬ (a = i ∧ i < (V.set ps.length (V.getD a 0)).length) from fun e => e1 e.1), if_neg (show ¬ i = a from fun e => e1 e.symm), getD_setV]
   by_cases e2 : ps.length = i
   ·rw [if_pos (show ps.length = i ∧ i < V.length from ⟨e2, hi⟩), if_pos (show i = ps.length from e2.symm)]
   ·rw [if_neg (show ¬ (ps.length = i ∧ i < V.length) from fun e => e2 e.1), if_neg (show ¬ i = ps.length from fun e => e2 e.symm)]
 have lenE : ((V.set ps.length (V.getD a 0)).set a (V.getD ps.length 0)).length = V.length := by simp
 refine ⟨fun u => ((span_perm hp u).symm).trans (h.sp u), by rw [lenE]; exact h.len, h.lt, h.rise, fun i hi => ?_, fun i k hi hk hik => ?_, fun i j hi hj => ?_, fun i j h1 h2 h3 => ?_, fun i j hi hj => ?_⟩
 ·rw [key i (by have := h.len; omega), if_neg (by omega), if_neg (by omega)]; exact h.one i hi
 ·rw [lenE] at hi
  rw [key i hi]
  split
  ·exact h.off _ k (by omega) hk (by omega)
  ·split
   ·exact h.off _ k ha2 hk (by omega)
   ·exact h.off _ k hi hk hik
 ·rw [key i (by have := h.len; omega), if_neg (by omega), if_neg (by omega)]; exact h.low i j hi hj
 ·rw [lenE] at h2
  rw [key i h2]
  split
  ·exact h.zer _ j (by omega) (by omega) h3
  ·split
   ·exact h.zer _ j ha ha2 h3
   ·exact h.zer _ j h1 h2 h3
 ·rw [lenE] at hi
  rw [key i hi]
  split
  ·exact h.sup _ j (by omega) hj
  ·split
   ·exact h.sup _ j ha2 hj
   ·exact h.sup _ j hi hj
theorem Eli.turn (h : Eli W n V c ps) {i : Nat} {v : Vc K} (hi : i < V.length) (hk : ps.length < V.length) (h1 : SpL V v) (h2 : SpL (V.set i v) (V.getD i 0))
  (hv : (∃ f, v = V.getD i 0 + sc f (V.getD ps.length 0) ∧ i ≠ ps.length) ∨ (∃ e, v = sc e (V.getD ps.length 0) ∧ i = ps.length)) : Eli W n (V.set i v) c ps := by
 have key : ∀ t j, t < V.length → (∀ u, u < V.length → u = t ∨ u = ps.length → V.getD u 0 j = 0) → (V.set i v).getD t 0 j = 0 := fun t j ht hz => by
  rw [getD_setV]
  by_cases e : i = t
  ·subst e
   rw [if_pos ⟨rfl, ht⟩]
   rcases hv with ⟨f, rfl, _⟩ | ⟨e, rfl, _⟩
   ·rw [add_at, sc_at, hz i ht (.inl rfl), hz ps.length hk (.inr rfl)]; grind
   ·rw [sc_at, hz ps.length hk (.inr rfl)]; grind
  ·rw [if_neg (fun x => e x.1)]; exact hz t ht (.inl rfl)
 have lenE : (V.set i v).length = V.length := by simp
 refine ⟨fun u => (span_set hi h1 h2 u).symm.trans (h.sp u), by rw [lenE]; exact h.len, h.lt, h.rise, fun t ht => ?_, fun t k ht hk2 htk => ?_, fun t j ht hj => ?_, fun t j h3 h4 h5 => ?_, fun t j ht hj => ?_⟩
 ·rw [getD_setV]
  by_cases e : i = t
  ·subst e
   rw [if_pos ⟨rfl, hi⟩]
   rcases hv with ⟨f, rfl, _⟩ | ⟨e, _, he⟩
   ·rw [add_at, sc_at, h.one i ht, h.off ps.length i hk ht (by omega)]; grind
   ·omega
  ·rw [if_neg (fun x => e x.1)]; exact h.one t ht
 ·rw [lenE] at ht
  exact key t _ ht fun u hu hu2 => h.off u k hu hk2 (by rcases hu2 with rfl | rfl <;> omega)
 ·exact key t j (by have := h.len; omega) fun u hu hu2 => by
   rcases hu2 with rfl | rfl
   ·exact h.low _ j ht hj
   ·exact h.zer _ j (Nat.le_refl _) hk (by have := h.lt t ht; omega)
 ·rw [lenE] at h4
  exact key t j h4 fun u hu hu2 => h.zer u j (by rcases hu2 with rfl | rfl <;> omega) hu h5
 ·rw [lenE] at ht
  exact key t j ht fun u hu _ => h.sup u j hu hj
theorem Eli.scale (h : Eli W n V c ps) (hk : ps.length < V.length) {e : K} (he : e ≠ 0) : Eli W n (V.set ps.length (sc e (V.getD ps.length 0))) c ps := by
 refine h.turn hk hk (Sp.scale _ (.of (getD_eq_mem hk 0))) ?_ (.inr ⟨e, rfl, rfl⟩)
 have h2 : (sc e (V.getD ps.length 0)) ∈ V.set ps.length (sc e (V.getD ps.length 0)) := by
  rw [List.mem_iff_getElem]
  exact ⟨ps.length, by simpa using hk, by rw [List.getElem_set_self]⟩
 have h3 := Sp.scale (Fd.inv e) (Sp.of (S := fun r => r ∈ V.set ps.length (sc e (V.getD ps.length 0))) h2)
 rwa [sc_sc, Fd.inv_mul e he, one_sc] at h3
theorem Eli.plus (h : Eli W n V c ps) (hk : ps.length < V.length) {i : Nat} (hi : i < V.length) (hik : i ≠ ps.length) (f : K) : Eli W n (V.set i (V.getD i 0 + sc f (V.getD ps.length 0))) c ps := by
 refine h.turn hi hk (Sp.plus (.of (getD_eq_mem hi 0)) (Sp.scale _ (.of (getD_eq_mem hk 0)))) ?_ (.inl ⟨f, rfl, hik⟩)
 have h2 : (V.getD i 0 + sc f (V.getD ps.length 0)) ∈ V.set i (V.getD i 0 + sc f (V.getD ps.length 0)) := by
  rw [List.mem_iff_getElem]
  exact ⟨i, by simpa using hi, by rw [List.getElem_set_self]⟩
 have h3 : V.getD ps.length 0 ∈ V.set i (V.getD i 0 + sc f (V.getD ps.length 0)) := by
  rw [List.mem_iff_getElem]
  refine ⟨ps.length, by simpa using hk, ?_⟩
  have e : V.getD ps.length 0 = V[ps.length] := by rw [List.getD_eq_getElem?_getD, List.getElem?_eq_getElem hk]; rfl
  rw [List.getElem_set_ne hik]
  exact e.symm
 have h4 := Sp.plus (Sp.of (S := fun r => r ∈ V.set i (V.getD i 0 + sc f (V.getD ps.length 0))) h2) (Sp.scale (-f) (Sp.of h3))
 have h5 : V.getD i 0 + sc f (V.getD ps.length 0) + sc (-f) (V.getD ps.length 0) = V.getD i 0 := ext fun j => by
  rw [add_at, add_at, sc_at, sc_at]; grind
 rwa [h5] at h4
theorem getD_snoc (ps : List Nat) (c i : Nat) : (ps ++ [c]).getD i 0 = if i < ps.length then ps.getD i 0 else if i = ps.length then c else 0 := by
 rw [List.getD_eq_getElem?_getD, List.getElem?_append]
 split
 ·rw [List.getD_eq_getElem?_getD]
 ·by_cases h : i = ps.length
  ·subst h; rw [if_pos rfl]; simp
  ·rw [if_neg h, List.getElem?_eq_none (by simp; omega)]; rfl
theorem Eli.push (h : Eli W n V c ps) (hk : ps.length < V.length) (h1 : V.getD ps.length 0 c = 1) (h0 : ∀ i, i < V.length → i ≠ ps.length → V.getD i 0 c = 0) : Eli W n V (c + 1) (ps ++ [c]) := by
 have ll : (ps ++ [c]).length = ps.length + 1 := by simp
 refine ⟨h.sp, by omega, fun i hi => ?_, fun i k hik hk2 => ?_, fun i hi => ?_, fun i k hi hk2 hik => ?_, fun i j hi hj => ?_, fun i j h2 h3 h4 => ?_, h.sup⟩
 ·rw [getD_snoc]
  split
  ·rename_i hlt; have := h.lt i hlt; omega
  ·split <;> omega
 ·rw [getD_snoc, getD_snoc, if_pos (by omega)]
  split
  ·rename_i hlt; exact h.rise i k hik hlt
  ·rw [if_pos (by omega)]; exact h.lt i (by omega)
 ·rw [getD_snoc]
  split
  ·rename_i hlt; exact h.one i hlt
  ·rw [if_pos (by omega), show i = ps.length by omega]; exact h1
 ·rw [getD_snoc]
  split
  ·rename_i hlt; exact h.off i k hi hlt hik
  ·rw [if_pos (by omega)]; exact h0 i hi (by omega)
 ·rw [getD_snoc] at hj
  split at hj
  ·rename_i hlt; exact h.low i j hlt hj
  ·rw [if_pos (by omega)] at hj
   exact h.zer i j (by omega) (by omega) hj
 ·by_cases e : j = c
  ·subst e; exact h0 i h3 (by omega)
  ·exact h.zer i j (by omega) h3 (by omega)
theorem getD_takeV (V : List (Vc K)) (k i : Nat) (h : i < k) : (V.take k).getD i 0 = V.getD i 0 := by
 rw [List.getD_eq_getElem?_getD, List.getElem?_take, if_pos h, List.getD_eq_getElem?_getD]
theorem Eli.done (h : Eli W n V c ps) (hc : n ≤ c ∨ V.length ≤ ps.length) (hcn : c ≤ n) : Rr n (V.take ps.length) ps ∧ ∀ u, SpL (V.take ps.length) u ↔ W u := by
 have hl : (V.take ps.length).length = ps.length := by rw [List.length_take]; have := h.len; omega
 refine ⟨⟨hl.symm, fun i hi => by have := h.lt i hi; omega, h.rise, fun i hi => ?_, fun i k hi hk hik => ?_, fun i j hi hj => ?_, fun i j hi hj => ?_⟩, fun u => ?_⟩
 ·rw [getD_takeV _ _ _ hi]; exact h.one i hi
 ·rw [getD_takeV _ _ _ hi]; exact h.off i k (by have := h.len; omega) hk hik
 ·rw [getD_takeV _ _ _ hi]; exact h.low i j hi hj
 ·rw [getD_takeV _ _ _ hi]; exact h.sup i j (by have := h.len; omega) hj
 ·rw [← h.sp u]
  constructor
  ·exact fun hu => hu.mono fun r hr => .of (List.mem_of_mem_take hr)
  ·refine fun hu => hu.mono fun r hr => ?_
   obtain ⟨i, hi, rfl⟩ := List.getElem_of_mem hr
   by_cases hik : i < ps.length
   ·refine .of ?_
    rw [List.mem_iff_getElem]
    exact ⟨i, by omega, by rw [List.getElem_take]⟩
   ·have hz : V[i] = 0 := ext fun j => by
     have e : V[i] = V.getD i 0 := by rw [List.getD_eq_getElem?_getD, List.getElem?_eq_getElem hi]; rfl
     rw [e]
     rcases hc with hc | hc
     ·by_cases hj : j < c
      ·exact h.zer i j (by omega) hi hj
      ·exact h.sup i j hi (by omega)
     ·omega
    rw [hz]; exact .zero
end Vc
end Go.Proofs.Ytdkahdehodopoaa

set_option maxRecDepth 100000
namespace Go.Proofs.Ytdkahdehodopoaa
open Go.RowKit
section
variable {p m : Int} {mod : List Int} [hF : IsF p m mod]
noncomputable def vsR (rs : List RowM) : List (Vc (El p m mod)) := rs.map fun r => rw' r.xs
@[simp] theorem vsR_length (rs : List RowM) : (vsR rs : List (Vc (El p m mod))).length = rs.length := by simp [vsR]
theorem rw_nil : (rw' [] : Vc (El p m mod)) = 0 := Vc.ext fun j => el_zero
theorem vsR_get (rs : List RowM) (i : Nat) : (vsR rs : List (Vc (El p m mod))).getD i 0 = rw' (rs.getD i rowD).xs := by
 unfold vsR
 rw [List.getD_eq_getElem?_getD, List.getElem?_map, List.getD_eq_getElem?_getD]
 cases rs[i]? with
 | none => exact rw_nil.symm
 | some r => rfl
theorem vsR_set (rs : List RowM) (i : Nat) (r : RowM) : (vsR (rs.set i r) : List (Vc (El p m mod))) = (vsR rs).set i (rw' r.xs) := by
 unfold vsR; rw [List.map_set]
theorem vsR_at (rs : List RowM) (i c : Nat) : (vsR rs : List (Vc (El p m mod))).getD i 0 c = el ((rs.getD i rowD).xs.getD c 0) := by rw [vsR_get]; rfl
end
def Gd (q : Int) (w : Nat) (rs : List RowM) : Prop := ∀ r ∈ rs, r.xs.length = w ∧ AllIn q r.xs
theorem Gd.get {q : Int} {w : Nat} {rs : List RowM} (h : Gd q w rs) {i : Nat} (hi : i < rs.length) : (rs.getD i rowD).xs.length = w ∧ AllIn q (rs.getD i rowD).xs := h _ (getD_mem hi _)
theorem Gd.set {q : Int} {w : Nat} {rs : List RowM} (h : Gd q w rs) (i : Nat) {r : RowM} (h1 : r.xs.length = w) (h2 : AllIn q r.xs) : Gd q w (rs.set i r) := fun s hs => by
 rcases List.mem_or_eq_of_mem_set hs with hs | hs
 ·exact h s hs
 ·subst hs; exact ⟨h1, h2⟩
theorem Gd.perm {q : Int} {w : Nat} {rs qs : List RowM} (h : Gd q w rs) (hp : rs.Perm qs) : Gd q w qs := fun s hs => h s (hp.mem_iff.2 hs)
theorem row_set (rs : List RowM) (i j : Nat) (r : RowM) : (rs.set i r).getD j rowD = if i = j ∧ j < rs.length then r else rs.getD j rowD := by
 rw [List.getD_eq_getElem?_getD, List.getElem?_set]
 by_cases h : i = j
 ·subst h
  by_cases h2 : i < rs.length
  ·rw [if_pos rfl, if_pos h2, if_pos ⟨rfl, h2⟩]; rfl
  ·rw [if_pos rfl, if_neg h2, if_neg (fun h => h2 h.2), List.getD_eq_getElem?_getD, List.getElem?_eq_none (by omega)]
 ·rw [if_neg h, if_neg (fun e => h e.1), ← List.getD_eq_getElem?_getD]
theorem elim_eachV (A : Option Addr) (n cp : Nat) (rs : List RowM) (hn : n = rs.length) (ff : FuncId) (lb : List Value) (p5 p7 : Addr) (Gc : List Chunk) (hGc : NoEx Gc) (Φ : Value → Chunk → Chunk → Prop) (hf : Mut Try.prog ff ([(.slice A n cp : Value)] ++ lb).toArray [ow A 22 cp (hdrs rs), rowsCh 3 rs] Gc (two Φ)) (hex : ∀ u c d, Φ u c d → AllEx [c, d]) :
  Mut Try.prog 123 ([(.func (.func ff) #[] lb.toArray : Value)] ++ [(.pointer (some p5) : Value), .pointer (some p7)]).toArray [ow A 22 cp (hdrs rs), rowsCh 3 rs] [ro (some p5) [.slice A n cp], ro (some p7) [.slice none 0 0], bun Gc] (two (fun v ca cb => v = .tuple #[] ∧ ∃ u, Φ u ca cb)) :=
 elim_each A n cp rs hn ff lb p5 p7 Gc hGc Φ hf hex
theorem val_of_el {p m : Int} {mod : List Int} [hF : IsF p m mod] {xs : List Int} (h : AllIn (pw p m) xs) (j : Nat) (hj : True) (he : (el (xs.getD j 0) : El p m mod) = 1) : xs.getD j 0 = 1 := by
 have hb := h.get (by have := hF.q2; omega) j
 have := congrArg Subtype.val he
 rwa [el_in hb] at this
theorem mat_eliminate_ent : Enters Try.prog 105 := enters_of Try.func105 (by kernel_rfl) (by kernel_rfl)
theorem mat_eliminate (g : GfM) {p m : Int} {mod : List Int} [hF : IsF p m mod] (hg : GOk g p m mod) (w : Int) (hw0 : 0 ≤ w) (hw9 : w ≤ 1000000) (A : Option Addr) (n cp : Nat) (rs : List RowM) (hn : n = rs.length) (hr9 : rs.length ≤ 1000000) (hgd0 : Gd (pw p m) w.toNat rs) :
  Mut Try.prog 105 #[.pointer (some g.p), .slice A n cp, .int .i64 w, .slice none 0 0] [ow A 22 cp (hdrs rs), rowsCh 3 rs] [gfR g] (three (fun v ca cb cc => ∃ rs2 B cb2 ps qs d, v = .tuple #[.slice B ps.length cb2, .int .i64 d] ∧ ca = ow A 22 cp (hdrs rs2) ∧ cb = rowsCh 3 rs2 ∧ cc = ow B 3 cb2 (ints ps) ∧ ps = qs.map Int.ofNat ∧ rs2.length = rs.length ∧ Gd (pw p m) w.toNat rs2 ∧ qs.length ≤ rs.length ∧ Vc.Rr w.toNat ((vsR rs2 : List (Vc (El p m mod))).take qs.length) qs ∧ ∀ u, Vc.SpL ((vsR rs2 : List (Vc (El p m mod))).take qs.length) u ↔ Vc.SpL (vsR rs) u)) := by
 have hq2 := hF.q2
 refine mut_of (args := [.pointer (some g.p), .slice A n cp, .int .i64 w, .slice none 0 0]) 125 (F := [ow A 22 cp (hdrs rs), rowsCh 3 rs, gfR g]) rfl Try.func105 rfl rfl rfl mat_eliminate_ent (fun w0 => ?_)
 refine tS ?_
 refine tR fun _ _ _ => ?_
 refine eV (eBox rfl rfl rfl rfl rfl (fun p0 => ?_))
 refine eV (eBox rfl rfl rfl rfl rfl (fun p0a => ?_))
 refine eV (eBox rfl rfl rfl rfl rfl (fun p0b => ?_))
 iterate 2 refine pV ?_
 refine tS ?_
 refine tR fun _ _ _ => ?_
 refine pV ?_
 refine tS ?_
 refine tR fun _ _ _ => ?_
 refine sV (rFun rfl rfl rfl) ?_
 refine pV ?_
 refine tS ?_
 refine tR fun _ _ _ => ?_
 refine pV ?_
 refine tS ?_
 refine tS ?_
 refine tR fun _ _ _ => ?_
 refine pV ?_
 refine tB ?_
 refine tr_nilI 3 ?_
 refine tr_loop6 (fun (c : Int) (ps : List Int) (AP : Option Addr) (cP : Nat) (r2 : List RowM) (dd : Int) => [(2, .int .i64 w), (4, .pointer (some p0)), (5, .pointer (some p0a)), (10, .int .i64 dd), (11, .func (.func 123) #[] [.pointer (some p0a), .pointer (some p0b)].toArray), (12, .slice AP ps.length cP), (13, .int .i64 c)]) (fun (c : Int) (ps : List Int) (AP : Option Addr) (cP : Nat) (r2 : List RowM) (dd : Int) => [ow AP 3 cP (ints ps), ow A 22 cp (hdrs r2), rowsCh 3 r2, blk p0b 26 [.slice none 0 0], blk p0a 26 [.slice A n cp], blk p0 36 [.pointer (some g.p)], gfR g]) (fun (c : Int) (ps : List Int) (AP : Option Addr) (cP : Nat) (r2 : List RowM) (dd : Int) => (0 ≤ c ∧ c ≤ w) ∧ (r2.length = rs.length ∧ Gd (pw p m) w.toNat r2) ∧ ∃ qs, ps = qs.map Int.ofNat ∧ Vc.Eli (Vc.SpL (vsR rs : List (Vc (El p m mod)))) w.toNat (vsR r2) c.toNat qs) (fun (c : Int) (ps : List Int) (AP : Option Addr) (cP : Nat) (r2 : List RowM) (dd : Int) => (w - c).toNat) (0) ([]) (none) (0) (rs) (1) ⟨rfl, rfl, rfl, rfl, rfl, rfl, rfl, trivial⟩ (by first | exact cs _ _ | exact CSub.refl _) (⟨⟨by omega, by omega⟩, ⟨rfl, hgd0⟩, [], rfl, Vc.Eli.start fun i j hi hj => by rw [vsR_at, getD_out (by rw [(hgd0.get (by simpa using hi)).1]; omega), el_zero]⟩) (fun c ps AP cP r2 dd hI => ?_)
 obtain ⟨⟨hc0, hc1⟩, ⟨hrl, hgd⟩, qs, hps, hE⟩ := hI
 have hpl : ps.length = qs.length := by rw [hps, List.length_map]
 have hEl := hE.len
 rw [vsR_length] at hEl
 refine tS ?_
 refine tS ?_
 refine tR fun _ _ _ => ?_
 iterate 4 refine pV ?_
 refine stg rfl rfl rfl rfl rfl (fun hb => by (have hq := hb; try simp only [zbA] at hq); exact rMove rfl rfl) ?_
 refine stg rfl rfl rfl rfl rfl (fun hb => by (have hq := hb; try simp only [zbA] at hq); exact rLen rfl (evg rfl hb)) ?_
 refine stg rfl rfl rfl rfl rfl (fun hb => by (have hq := hb; try simp only [zbA] at hq); exact rLd0 rfl rfl) ?_
 refine stg rfl rfl rfl rfl rfl (fun hb => by (have hq := hb; try simp only [zbA] at hq); exact rLen rfl (evg rfl hb)) ?_
 refine stg rfl rfl rfl rfl rfl (fun hb => by (have hq := hb; try simp only [zbA] at hq); exact rLss rfl (evg rfl hb) (evg rfl hb)) ?_
 refine sV (rAndB rfl rfl rfl rfl) ?_
 refine tC rfl (fun h5 => ?_) (fun h5 => ?_)
 ·try simp only [zbA] at h5
  refine tK ?_
  refine tS ?_
  refine tB ?_
  refine tS ?_
  refine tR fun _ _ _ => ?_
  refine pV ?_
  refine sV (rLen rfl rfl) ?_
  refine eV (eAlloc rfl rfl rfl (fun p7 => ?_))
  refine eV (eSt0 rfl rfl rfl rfl rfl rfl ?_)
  generalize hk : ((ps.length : Nat) : Int) = k
  refine tS ?_
  refine tR fun _ _ _ => ?_
  refine sV (rLd0 rfl rfl) ?_
  refine eV (eAlloc rfl rfl rfl (fun p8 => ?_))
  refine eV (eSt0 rfl rfl rfl rfl rfl rfl ?_)
  refine tS ?_
  refine tB ?_
  refine tr_loop1 (fun (ta : Int) => [(2, .int .i64 w), (4, .pointer (some p0)), (5, .pointer (some p0a)), (10, .int .i64 dd), (11, .func (.func 123) #[] [.pointer (some p0a), .pointer (some p0b)].toArray), (12, .slice AP ps.length cP), (13, .int .i64 c), (14, .pointer (some p7)), (15, .pointer (some p8))]) (fun (ta : Int) => [blk p8 3 [.int .i64 ta], blk p7 3 [.int .i64 k], ow AP 3 cP (ints ps), ow A 22 cp (hdrs r2), rowsCh 3 r2, blk p0b 26 [.slice none 0 0], blk p0a 26 [.slice A n cp], blk p0 36 [.pointer (some g.p)], gfR g]) (fun (ta : Int) => (k ≤ ta ∧ ta ≤ rs.length) ∧ ∀ i : Nat, k ≤ i → (i : Int) < ta → (r2.getD i rowD).xs.getD c.toNat 0 = 0) (fun (ta : Int) => (rs.length - ta).toNat) (k) ⟨rfl, rfl, rfl, rfl, rfl, rfl, rfl, rfl, rfl, trivial⟩ (by first | exact cs _ _ | exact CSub.refl _) (⟨⟨by omega, by omega⟩, fun i h1 h2 => by omega⟩) (fun ta hI => ?_)
  obtain ⟨⟨ht0, ht1⟩, htz⟩ := hI
  refine tS ?_
  refine tS ?_
  refine tR fun _ _ _ => ?_
  refine sV (rLd0 rfl rfl) ?_
  refine sV (rLd0 rfl rfl) ?_
  refine sV (rLen rfl rfl) ?_
  iterate 2 refine pV ?_
  refine stg rfl rfl rfl rfl rfl (fun hb => by (have hq := hb; try simp only [zbA] at hq); exact rLd0 rfl rfl) ?_
  refine stg rfl rfl rfl rfl rfl (fun hb => by (have hq := hb; try simp only [zbA] at hq); exact rLd0 rfl rfl) ?_
  refine stg rfl rfl rfl rfl rfl (fun hb => by (have hq := hb; try simp only [zbA] at hq); exact rIdxR rfl (evg rfl hb) (evg rfl hb) (by omega) (by omega) (by omega)) ?_
  refine stg rfl rfl rfl rfl rfl (fun hb => by (have hq := hb; try simp only [zbA] at hq); exact rLdR rfl (evg rfl hb) (by omega)) ?_
  refine stg rfl rfl rfl rfl rfl (fun hb => by (have hq := hb; try simp only [zbA] at hq); exact rMove rfl rfl) ?_
  refine stg rfl rfl rfl rfl rfl (fun hb => by (have hq := hb; try simp only [zbA] at hq); exact (haveI : InB ta.toNat r2.length := ⟨by omega⟩; have hw := (hgd.get (show ta.toNat < r2.length by omega)).1; rIdxI rfl (evg rfl hb) (evg rfl hb) (by omega) (by omega) (by omega))) ?_
  refine stg rfl rfl rfl rfl rfl (fun hb => by (have hq := hb; try simp only [zbA] at hq); exact (haveI : InB ta.toNat r2.length := ⟨by omega⟩; have hw := (hgd.get (show ta.toNat < r2.length by omega)).1; rLdI rfl (evg rfl hb) (by omega))) ?_
  refine stg rfl rfl rfl rfl rfl (fun hb => by (have hq := hb; try simp only [zbA] at hq); exact rEql rfl (evg rfl hb) rfl) ?_
  refine sV (rAndB rfl rfl rfl rfl) ?_
  refine tC rfl (fun h9 => ?_) (fun h9 => ?_)
  ·try simp only [zbA] at h9
   refine tK ?_
   refine tB ?_
   refine tR fun _ _ _ => ?_
   refine sV (rLd0 rfl rfl) ?_
   refine sV (rAdd rfl rfl rfl (by omega) (by omega)) ?_
   refine eV (eSt0 rfl rfl rfl rfl rfl rfl ?_)
   refine ⟨ta + 1, ⟨rfl, rfl, rfl, rfl, rfl, rfl, rfl, rfl, rfl, trivial⟩, by first | exact cs _ _ | exact CSub.refl _, ?_⟩
   refine ⟨⟨⟨by omega, by omega⟩, fun i h1 h2 => ?_⟩, by omega⟩
   by_cases he : (i : Int) = ta
   ·have : i = ta.toNat := by omega
    rw [this]; exact h9.2
   ·exact htz i h1 (by omega)
  ·try simp only [zbA] at h9
   refine tE ?_
   refine tS ?_
   refine tS ?_
   refine tR fun _ _ _ => ?_
   refine sV (rLd0 rfl rfl) ?_
   refine sV (rLd0 rfl rfl) ?_
   refine sV (rLen rfl rfl) ?_
   refine pV ?_
   refine tC rfl (fun h11 => ?_) (fun h11 => ?_)
   ·try simp only [zbA] at h11
    refine tE ?_
    refine tR fun _ _ _ => ?_
    refine pV ?_
    refine sV (rAdd rfl rfl rfl (by omega) (by omega)) ?_
    refine pV ?_
    refine ⟨c + 1, ps, AP, cP, r2, dd, ⟨rfl, rfl, rfl, rfl, rfl, rfl, rfl, trivial⟩, by first | exact cs _ _ | exact CSub.refl _, ?_⟩
    refine ⟨⟨⟨by omega, by omega⟩, ⟨hrl, hgd⟩, qs, hps, ?_⟩, by omega⟩
    rw [show (c + 1).toNat = c.toNat + 1 by omega]
    refine hE.skip fun i h1 h2 => ?_
    rw [vsR_length] at h2
    rw [vsR_at, htz i (by omega) (by omega), el_zero]
   ·try simp only [zbA] at h11
    refine tK ?_
    refine tr_join (fun (q : (List RowM) × Int) => match q with | (r3, d2) => [(2, .int .i64 w), (4, .pointer (some p0)), (5, .pointer (some p0a)), (10, .int .i64 d2), (11, .func (.func 123) #[] [.pointer (some p0a), .pointer (some p0b)].toArray), (12, .slice AP ps.length cP), (13, .int .i64 c), (14, .pointer (some p7)), (15, .pointer (some p8))]) (fun (q : (List RowM) × Int) => match q with | (r3, d2) => [blk p8 3 [.int .i64 ta], blk p7 3 [.int .i64 k], ow AP 3 cP (ints ps), ow A 22 cp (hdrs r3), rowsCh 3 r3, blk p0b 26 [.slice none 0 0], blk p0a 26 [.slice A n cp], blk p0 36 [.pointer (some g.p)], gfR g]) (fun (q : (List RowM) × Int) => match q with | (r3, d2) => (r3.length = rs.length ∧ Gd (pw p m) w.toNat r3) ∧ Vc.Eli (Vc.SpL (vsR rs : List (Vc (El p m mod)))) w.toNat (vsR r3) c.toNat qs ∧ (r3.getD k.toNat rowD).xs.getD c.toNat 0 ≠ 0) ?_ ?_
    ·refine tS ?_
     have hne : (r2.getD ta.toNat rowD).xs.getD c.toNat 0 ≠ 0 := h9.resolve_left (fun h => h (by omega))
     have hkq : k.toNat = qs.length := by omega
     refine tR fun _ _ _ => ?_
     refine sV (rLd0 rfl rfl) ?_
     refine sV (rLd0 rfl rfl) ?_
     refine pV ?_
     refine tC rfl (fun h12 => ?_) (fun h12 => ?_)
     ·try simp only [zbA] at h12
      refine tS ?_
      refine tR fun _ _ _ => ?_
      refine pV ?_
      refine sV (rFun rfl rfl rfl) ?_
      refine eV (eCallF2 rfl rfl rfl rfl (elim_eachV A n cp r2 (by omega) 124 [.pointer (some p8), .pointer (some p7)] p0a p0b [ro (some p8) [.int .i64 ta], ro (some p7) [.int .i64 k]] ⟨id, id, trivial⟩ _ (elim_swap A n cp r2 (by omega) p8 p7 ta k (by omega) (by omega)) (fun _ _ _ h => by obtain ⟨_, rfl, rfl⟩ := h; exact ⟨trivial, trivial, trivial⟩)) ⟨rfl, trivial⟩ ?_)
      rintro _ _ _ ⟨rfl, _, _, rfl, rfl⟩
      refine tR fun _ _ _ => ?_
      refine sV (rLd0 rfl rfl) ?_
      refine pV ?_
      refine eV (eCallV rfl rfl rfl (gf_NegE g hg _) ⟨rfl, rfl, trivial⟩ ?_)
      refine pV ?_
      refine ⟨((r2.set k.toNat (r2.getD ta.toNat rowD)).set ta.toNat (r2.getD k.toNat rowD), (-(el dd : El p m mod)).1), ⟨rfl, rfl, rfl, rfl, rfl, rfl, rfl, rfl, rfl, trivial⟩, by first | exact cs _ _ | exact CSub.refl _, ?_⟩
      refine ⟨⟨by simpa using hrl, hgd.perm (swap_perm rowD r2 (by omega) (by omega))⟩, ?_, ?_⟩
      ·have := hE.swap (a := ta.toNat) (by omega) (by rw [vsR_length]; omega)
       rw [← hkq, vsR_get, vsR_get] at this
       rw [vsR_set, vsR_set]; exact this
      ·rw [row_set, if_neg (by omega), row_set, if_pos ⟨rfl, by omega⟩]; exact hne
     ·try simp only [zbA] at h12
      refine tK ?_
      refine ⟨(r2, dd), ⟨rfl, rfl, rfl, rfl, rfl, rfl, rfl, rfl, rfl, trivial⟩, by first | exact cs _ _ | exact CSub.refl _, ?_⟩
      exact ⟨⟨hrl, hgd⟩, hE, by rw [show k = ta by omega]; exact hne⟩
    ·rintro ⟨r3, d2⟩ hI
     obtain ⟨⟨hrl3, hgd3⟩, hE3, hne3⟩ := hI
     have hkq : k.toNat = qs.length := by omega
     refine tS ?_
     haveI : InB k.toNat r3.length := ⟨by omega⟩
     have hw3 := hgd3.get (show k.toNat < r3.length by omega)
     have hen := hw3.2.get (by omega) c.toNat
     have hnz3 : (el ((r3.getD k.toNat rowD).xs.getD c.toNat 0) : El p m mod) ≠ 0 := fun e => hne3 ((el_eq_zero hen).1 e)
     have hw31 := hw3.1
     refine tr_draw [0, 1, 2, 3, 4, 5, 6, 7, 8, 9, 10] [] mixed (by kernel_rfl) fun _ _ _ => ?_
     refine sV (rLd0 rfl rfl) ?_
     refine pV ?_
     refine sV (rLd0 rfl rfl) ?_
     refine sV (rLd0 rfl rfl) ?_
     refine sV (rIdxR rfl rfl rfl (by omega) (by omega) (by omega)) ?_
     refine sV (rLdR rfl rfl (by omega)) ?_
     refine pV ?_
     refine sV (rIdxI rfl rfl rfl (by omega) (by omega) (by omega)) ?_
     refine sV (rLdI rfl rfl (by omega)) ?_
     refine eV (eCallV rfl rfl rfl (gf_MulE g hg _ _) ⟨rfl, rfl, rfl, trivial⟩ ?_)
     refine pV ?_
     generalize (el d2 * el ((r3.getD k.toNat rowD).xs.getD c.toNat 0) : El p m mod).1 = d3
     refine tr_join (fun (q : (List RowM)) => match q with | r4 => [(2, .int .i64 w), (4, .pointer (some p0)), (5, .pointer (some p0a)), (10, .int .i64 d3), (11, .func (.func 123) #[] [.pointer (some p0a), .pointer (some p0b)].toArray), (12, .slice AP ps.length cP), (13, .int .i64 c), (14, .pointer (some p7))]) (fun (q : (List RowM)) => match q with | r4 => [blk p7 3 [.int .i64 k], ow AP 3 cP (ints ps), ow A 22 cp (hdrs r4), rowsCh 3 r4, blk p0b 26 [.slice none 0 0], blk p0a 26 [.slice A n cp], blk p0 36 [.pointer (some g.p)], gfR g]) (fun (q : (List RowM)) => match q with | r4 => (r4.length = rs.length ∧ Gd (pw p m) w.toNat r4) ∧ Vc.Eli (Vc.SpL (vsR rs : List (Vc (El p m mod)))) w.toNat (vsR r4) c.toNat qs ∧ (r4.getD k.toNat rowD).xs.getD c.toNat 0 = 1) ?_ ?_
     ·refine tr_mid (fun (q : Addr) => match q with | pi => [(2, .int .i64 w), (4, .pointer (some p0)), (5, .pointer (some p0a)), (10, .int .i64 d3), (11, .func (.func 123) #[] [.pointer (some p0a), .pointer (some p0b)].toArray), (12, .slice AP ps.length cP), (13, .int .i64 c), (14, .pointer (some p7)), (15, .pointer (some p8)), (16, .pointer (some pi)), (17, .int .i64 0)]) (fun (q : Addr) => match q with | pi => [blk pi 3 [.int .i64 (Fd.inv (el ((r3.getD k.toNat rowD).xs.getD c.toNat 0) : El p m mod)).1], blk p8 3 [.int .i64 ta], blk p7 3 [.int .i64 k], ow AP 3 cP (ints ps), ow A 22 cp (hdrs r3), rowsCh 3 r3, blk p0b 26 [.slice none 0 0], blk p0a 26 [.slice A n cp], blk p0 36 [.pointer (some g.p)], gfR g]) ?_ ?_
      ·refine tr_planT [] (.one 0 0 (.one 0 1 (.one 0 2 (.one 0 3 (.one 0 4 (.one 0 5 (.one 0 6 (.one 0 7 (.two 8 (.one 0 9 (.one 0 10 (.one 2 11 (.one 0 12 (.one 1 13 (.one 0 14 .nil)))))) 12 (.one 0 8 (.one 0 9 (.one 0 10 (.one 2 11 (.one 1 13 (.one 0 14 .nil))))))))))))))) mixed (by kernel_rfl) fun _ _ _ => ?_
       refine sV (rLd0 rfl rfl) ?_
       refine sV (rLd0 rfl rfl) ?_
       refine sV (rLd0 rfl rfl) ?_
       refine sV (rIdxR rfl rfl rfl (by omega) (by omega) (by omega)) ?_
       refine sV (rLdR rfl rfl (by omega)) ?_
       refine pV ?_
       refine sV (rIdxI rfl rfl rfl (by omega) (by omega) (by omega)) ?_
       refine sV (rLdI rfl rfl (by omega)) ?_
       refine ⟨?_, ?_⟩
       ·refine eV (eCallV rfl rfl rfl (gf_InvE g hg _ hnz3) ⟨rfl, rfl, trivial⟩ ?_)
        iterate 2 refine pV ?_
        refine stF rfl rfl rfl rfl (cs _ _) (rExt rfl rfl rfl) ?_
        refine eV (eAlloc rfl rfl rfl (fun p16a => ?_))
        refine eV (eSt0 rfl rfl rfl rfl rfl rfl ?_)
        refine ⟨cs _ _, ?_⟩
        refine pV ?_
        exact ⟨rfl, (p16a), ⟨rfl, rfl, rfl, rfl, rfl, rfl, rfl, rfl, rfl, rfl, rfl, trivial⟩, by first | exact cs _ _ | exact CSub.refl _⟩
       ·refine eV (eAlloc rfl rfl rfl (fun p16a => ?_))
        refine eV (eCallV rfl rfl rfl (gf_InvE g hg _ hnz3) ⟨rfl, rfl, trivial⟩ ?_)
        iterate 2 refine pV ?_
        refine stF rfl rfl rfl rfl (cs _ _) (rExt rfl rfl rfl) ?_
        refine eV (eSt0 rfl rfl rfl rfl rfl rfl ?_)
        refine ⟨cs _ _, ?_⟩
        refine pV ?_
        exact ⟨rfl, (p16a), ⟨rfl, rfl, rfl, rfl, rfl, rfl, rfl, rfl, rfl, rfl, rfl, trivial⟩, by first | exact cs _ _ | exact CSub.refl _⟩
      ·rintro pi
       refine tS ?_
       refine tR fun _ _ _ => ?_
       iterate 3 refine pV ?_
       refine stg rfl rfl rfl rfl rfl (fun hb => by (have hq := hb; try simp only [zbA] at hq); exact rLd0 rfl rfl) ?_
       refine stg rfl rfl rfl rfl rfl (fun hb => by (have hq := hb; try simp only [zbA] at hq); exact rNeq rfl (evg rfl hb) rfl) ?_
       refine sV (rAndB rfl rfl rfl rfl) ?_
       refine tC rfl (fun h17 => ?_) (fun h17 => ?_)
       ·try simp only [zbA] at h17
        refine tR fun _ _ _ => ?_
        refine pV ?_
        refine sV (rFun rfl rfl rfl) ?_
        refine eV (eCallF2 rfl rfl rfl rfl (elim_eachV A n cp r3 (by omega) 125 [.pointer (some p0), .pointer (some pi), .pointer (some p7)] p0a p0b [ro (some p0) [.pointer (some g.p)], ro (some pi) [.int .i64 (Fd.inv (el ((r3.getD k.toNat rowD).xs.getD c.toNat 0) : El p m mod)).1], ro (some p7) [.int .i64 k], gfR g] ⟨id, id, id, id, trivial⟩ _ (elim_scale g hg A n cp r3 (by omega) p0 pi p7 _ k (by omega) (by omega)) (fun _ _ _ h => by obtain ⟨_, _, rfl, rfl⟩ := h; exact ⟨trivial, trivial, trivial⟩)) ⟨rfl, trivial⟩ ?_)
        rintro _ _ _ ⟨rfl, _, B18, _, rfl, rfl⟩
        refine ⟨(r3.set k.toNat (⟨B18, (r3.getD k.toNat rowD).xs.length, sclR (el ((Fd.inv (el ((r3.getD k.toNat rowD).xs.getD c.toNat 0) : El p m mod)).1) : El p m mod) (r3.getD k.toNat rowD).xs⟩ : RowM)), ⟨rfl, rfl, rfl, rfl, rfl, rfl, rfl, rfl, trivial⟩, by first | exact cs _ _ | exact CSub.refl _, ?_⟩
        refine ⟨⟨by simpa using hrl3, hgd3.set _ (by simpa using hw3.1) (sclR_in _ _)⟩, ?_, ?_⟩
        ·have := hE3.scale (by rw [vsR_length]; omega) (Fd.inv_ne hnz3)
         rw [← hkq, vsR_get] at this
         rw [vsR_set, rw_sclR, el_of]; exact this
        ·rw [row_set, if_pos ⟨rfl, by omega⟩]
         refine (val_of_el (mod := mod) (sclR_in _ _) c.toNat trivial ?_)
         have := congrFun (rw_sclR (el ((Fd.inv (el ((r3.getD k.toNat rowD).xs.getD c.toNat 0) : El p m mod)).1) : El p m mod) (r3.getD k.toNat rowD).xs) c.toNat
         rw [rw_at, Vc.sc_at, rw_at, el_of] at this
         rw [el_of, this]; exact Fd.inv_mul _ hnz3
       ·try simp only [zbA] at h17
        refine tK ?_
        refine ⟨(r3), ⟨rfl, rfl, rfl, rfl, rfl, rfl, rfl, rfl, trivial⟩, by first | exact cs _ _ | exact CSub.refl _, ?_⟩
        refine ⟨⟨hrl3, hgd3⟩, hE3, ?_⟩
        have hone : ((Fd.inv (el ((r3.getD k.toNat rowD).xs.getD c.toNat 0) : El p m mod)).1) = 1 := by simpa using h17
        refine val_of_el (mod := mod) hw3.2 c.toNat trivial ?_
        have h1 : (Fd.inv (el ((r3.getD k.toNat rowD).xs.getD c.toNat 0) : El p m mod)) = 1 := El.ext hone
        have h2 := Fd.mul_inv _ hnz3
        rw [h1, Rg.mul_one] at h2
        exact h2
     ·rintro r4 hI
      obtain ⟨⟨hrl4, hgd4⟩, hE4, hone4⟩ := hI
      refine tS ?_
      refine tS ?_
      refine tR fun _ _ _ => ?_
      refine sV (rLd0 rfl rfl) ?_
      refine sV (rLen rfl rfl) ?_
      refine pV ?_
      refine tB ?_
      refine tr_loop2 (fun (i : Int) (r5 : List RowM) => [(2, .int .i64 w), (4, .pointer (some p0)), (5, .pointer (some p0a)), (10, .int .i64 d3), (11, .func (.func 123) #[] [.pointer (some p0a), .pointer (some p0b)].toArray), (12, .slice AP ps.length cP), (13, .int .i64 c), (14, .pointer (some p7)), (97, .int .i64 n), (98, .int .i64 i)]) (fun (i : Int) (r5 : List RowM) => [blk p7 3 [.int .i64 k], ow AP 3 cP (ints ps), ow A 22 cp (hdrs r5), rowsCh 3 r5, blk p0b 26 [.slice none 0 0], blk p0a 26 [.slice A n cp], blk p0 36 [.pointer (some g.p)], gfR g]) (fun (i : Int) (r5 : List RowM) => (0 ≤ i ∧ i ≤ n) ∧ (r5.length = rs.length ∧ Gd (pw p m) w.toNat r5) ∧ Vc.Eli (Vc.SpL (vsR rs : List (Vc (El p m mod)))) w.toNat (vsR r5) c.toNat qs ∧ (r5.getD k.toNat rowD).xs.getD c.toNat 0 = 1 ∧ ∀ t : Nat, (t : Int) < i → t ≠ k.toNat → (r5.getD t rowD).xs.getD c.toNat 0 = 0) (fun (i : Int) (r5 : List RowM) => (n - i).toNat) (0) (r4) ⟨rfl, rfl, rfl, rfl, rfl, rfl, rfl, rfl, rfl, rfl, trivial⟩ (by first | exact cs _ _ | exact CSub.refl _) (⟨⟨by omega, by omega⟩, ⟨hrl4, hgd4⟩, hE4, hone4, fun t h1 h2 => by omega⟩) (fun i r5 hI => ?_)
      obtain ⟨⟨hi0, hi1⟩, ⟨hrl5, hgd5⟩, hE5, hone5, hz5⟩ := hI
      refine tS ?_
      refine tR fun _ _ _ => ?_
      refine pV ?_
      refine tS ?_
      refine tC rfl (fun h20 => ?_) (fun h20 => ?_)
      ·try simp only [zbA] at h20
       refine tK ?_
       refine tS ?_
       refine tB ?_
       refine tS ?_
       refine tR fun _ _ _ => ?_
       refine pV ?_
       refine eV (eAlloc rfl rfl rfl (fun p21 => ?_))
       refine eV (eSt0 rfl rfl rfl rfl rfl rfl ?_)
       refine tS ?_
       haveI : InB i.toNat r5.length := ⟨by omega⟩
       have hwi := hgd5.get (show i.toNat < r5.length by omega)
       have hwk := hgd5.get (show k.toNat < r5.length by omega)
       have hwi1 := hwi.1
       have hwk1 := hwk.1
       refine tR fun _ _ _ => ?_
       refine sV (rLd0 rfl rfl) ?_
       refine sV (rLd0 rfl rfl) ?_
       refine sV (rIdxR rfl rfl rfl (by omega) (by omega) (by omega)) ?_
       refine sV (rLdR rfl rfl (by omega)) ?_
       refine pV ?_
       refine sV (rIdxI rfl rfl rfl (by omega) (by omega) (by omega)) ?_
       refine sV (rLdI rfl rfl (by omega)) ?_
       refine eV (eAlloc rfl rfl rfl (fun p22 => ?_))
       refine eV (eSt0 rfl rfl rfl rfl rfl rfl ?_)
       refine tS ?_
       refine tR fun _ _ _ => ?_
       refine sV (rLd0 rfl rfl) ?_
       refine sV (rLd0 rfl rfl) ?_
       iterate 2 refine pV ?_
       refine stg rfl rfl rfl rfl rfl (fun hb => by (have hq := hb; try simp only [zbA] at hq); exact rLd0 rfl rfl) ?_
       refine stg rfl rfl rfl rfl rfl (fun hb => by (have hq := hb; try simp only [zbA] at hq); exact rNeq rfl (evg rfl hb) rfl) ?_
       refine sV (rAndB rfl rfl rfl rfl) ?_
       refine tC rfl (fun h23 => ?_) (fun h23 => ?_)
       ·try simp only [zbA] at h23
        refine tR fun _ _ _ => ?_
        refine pV ?_
        refine sV (rFun rfl rfl rfl) ?_
        refine eV (eCallF2 rfl rfl rfl rfl (elim_eachV A n cp r5 (by omega) 126 [.pointer (some p0), .pointer (some p21), .pointer (some p22), .pointer (some p7)] p0a p0b [ro (some p0) [.pointer (some g.p)], ro (some p21) [.int .i64 i], ro (some p22) [.int .i64 ((r5.getD i.toNat rowD).xs.getD c.toNat 0)], ro (some p7) [.int .i64 k], gfR g] ⟨id, id, id, id, id, trivial⟩ _ (elim_add g hg A n cp r5 (by omega) p0 p21 p22 p7 _ i k (by omega) (by omega) (by omega) (by omega) (by omega) hwi.2) (fun _ _ _ h => by obtain ⟨_, rfl, rfl⟩ := h; exact ⟨trivial, trivial, trivial⟩)) ⟨rfl, trivial⟩ ?_)
        rintro _ _ _ ⟨rfl, _, _, rfl, rfl⟩
        refine tR fun _ _ _ => ?_
        refine sV (rAdd rfl rfl rfl (by omega) (by omega)) ?_
        refine pV ?_
        refine ⟨i + 1, r5.set i.toNat (⟨(r5.getD i.toNat rowD).A, (r5.getD i.toNat rowD).cap, addR (-(el ((r5.getD i.toNat rowD).xs.getD c.toNat 0) : El p m mod)) (r5.getD i.toNat rowD).xs (r5.getD k.toNat rowD).xs⟩ : RowM), ⟨rfl, rfl, rfl, rfl, rfl, rfl, rfl, rfl, rfl, rfl, trivial⟩, by first | exact cs _ _ | exact CSub.refl _, ?_⟩
        refine ⟨⟨⟨by omega, by omega⟩, ⟨by simpa using hrl5, hgd5.set _ (by simpa using hwi.1) (addR_in _ _ _)⟩, ?_, ?_, fun t h1 h2 => ?_⟩, by omega⟩
        ·have := hE5.plus (by rw [vsR_length]; omega) (i := i.toNat) (by rw [vsR_length]; omega) (by omega) (-(el ((r5.getD i.toNat rowD).xs.getD c.toNat 0) : El p m mod))
         rw [← hkq, vsR_get, vsR_get] at this
         rw [vsR_set, rw_addR _ _ _ (by omega)]; exact this
        ·rw [row_set, if_neg (by omega)]; exact hone5
        ·rw [row_set]
         split
         ·rename_i he
          obtain ⟨rfl, he⟩ := he
          show (addR _ _ _).getD c.toNat 0 = 0
          rw [addR_get _ _ _ (by omega), hone5, el_one]
          exact congrArg Subtype.val (show (el ((r5.getD i.toNat rowD).xs.getD c.toNat 0) + -el ((r5.getD i.toNat rowD).xs.getD c.toNat 0) * 1 : El p m mod) = 0 by grind)
         ·exact hz5 t (by omega) h2
       ·try simp only [zbA] at h23
        refine tK ?_
        refine tR fun _ _ _ => ?_
        refine sV (rAdd rfl rfl rfl (by omega) (by omega)) ?_
        refine pV ?_
        refine ⟨i + 1, r5, ⟨rfl, rfl, rfl, rfl, rfl, rfl, rfl, rfl, rfl, rfl, trivial⟩, by first | exact cs _ _ | exact CSub.refl _, ?_⟩
        refine ⟨⟨⟨by omega, by omega⟩, ⟨hrl5, hgd5⟩, hE5, hone5, fun t h1 h2 => ?_⟩, by omega⟩
        by_cases he : t = i.toNat
        ·subst he
         have h3 : i ≠ k := by omega
         exact h23.resolve_left h3
        ·exact hz5 t (by omega) h2
      ·try simp only [zbA] at h20
       refine tE ?_
       refine tR fun _ _ _ => ?_
       iterate 2 refine pV ?_
       refine eV (eLit1I rfl rfl rfl rfl (fun A26 => ?_))
       refine eV (eAppI rfl rfl rfl rfl rfl (by first | rfl | simp) (by first | rfl | simp) (by first | omega | (simp; omega)) (fun A26a c26a => ?_))
       refine pV ?_
       refine tR fun _ _ _ => ?_
       refine pV ?_
       refine sV (rAdd rfl rfl rfl (by omega) (by omega)) ?_
       refine pV ?_
       refine ⟨c + 1, ps ++ [c], A26a, c26a, r5, d3, ⟨rfl, rfl, rfl, rfl, rfl, rfl, rfl, trivial⟩, by first | exact cs _ _ | exact CSub.refl _, ?_⟩
       refine ⟨⟨⟨by omega, by omega⟩, ⟨hrl5, hgd5⟩, qs ++ [c.toNat], ?_, ?_⟩, by omega⟩
       ·rw [hps, List.map_append]; simp; omega
       ·rw [show (c + 1).toNat = c.toNat + 1 by omega]
        refine hE5.push (by rw [vsR_length]; omega) ?_ (fun t h1 h2 => ?_)
        ·rw [vsR_at, ← hkq, hone5, el_one]
        ·rw [vsR_length] at h1
         rw [vsR_at, hz5 t (by omega) (by omega), el_zero]
 ·try simp only [zbA] at h5
  refine tE ?_
  refine tS ?_
  refine tR fun _ _ _ => ?_
  iterate 4 refine pV ?_
  obtain ⟨hR1, hR2⟩ := hE.done (by rw [vsR_length]; omega) (by omega)
  exact tr_ret ⟨trivial, _, _, (.tmp rfl (.tmp rfl .nil)), ⟨_, _, _, rfl, r2, AP, cP, ps, qs, dd, rfl, rfl, rfl, rfl, hps, hrl, hgd, by omega, hR1, hR2⟩, cs _ _, trivial, trivial, trivial, trivial⟩
end Go.Proofs.Ytdkahdehodopoaa

set_option maxRecDepth 100000
namespace Go.Proofs.Ytdkahdehodopoaa
open Go.RowKit
theorem slc_Clone_ent : Enters Try.prog 106 := enters_of Try.func106 (by kernel_rfl) (by kernel_rfl)
theorem slc_Clone (A : Option Addr) (c : Nat) (l : List Int) (h9 : l.length ≤ 1000000) :
  Pure Try.prog 106 #[.slice A l.length c] [ro A (ints l)] (one (fun v ch => ∃ B cap, v = .slice B l.length cap ∧ ch = ow B 3 cap (ints l))) := by
 refine pure_of (args := [.slice A l.length c]) 8 Try.func106 rfl rfl rfl slc_Clone_ent ⟨id, trivial⟩ (fun w0 => ?_)
 refine tS ?_
 refine tR fun _ _ _ => ?_
 refine pV ?_
 refine tS ?_
 refine tS ?_
 refine tr_nn (A := A) (l := l) fun hnn => ?_
 refine tR fun _ _ _ => ?_
 refine pV ?_
 refine sV (rNilS rfl rfl rfl) ?_
 refine tC rfl (fun h1 => ?_) (fun h1 => ?_)
 ·try simp only [zbA] at h1
  refine tS ?_
  refine tR fun _ _ _ => ?_
  refine pV ?_
  have hl0 := hnn (Option.isNone_iff_eq_none.1 h1)
  subst hl0
  refine tr_nilI 3 ?_
  exact tr_ret ⟨trivial, _, _, rfl, ⟨_, rfl, none, 0, rfl, rfl⟩, cs _ _, trivial, trivial⟩
 ·try simp only [zbA] at h1
  refine tK ?_
  refine tS ?_
  refine tR fun _ _ _ => ?_
  refine eV (eLit0I rfl rfl rfl  (fun A3 => ?_))
  refine pV ?_
  refine eV (eAppI rfl rfl rfl rfl rfl (by first | rfl | simp) (by first | rfl | simp) (by first | omega | (simp; omega)) (fun A3a c3a => ?_))
  refine pV ?_
  simp only [List.nil_append]
  exact tr_ret ⟨trivial, _, _, rfl, ⟨_, rfl, A3a, c3a, rfl, rfl⟩, cs _ _, trivial, trivial⟩
theorem mat_clone_ent : Enters Try.prog 104 := enters_of Try.func104 (by kernel_rfl) (by kernel_rfl)
theorem mat_clone (A : Option Addr) (n c : Nat) (rs : List RowM) (hn : n = rs.length) (h9 : rs.length ≤ 1000000) (h8 : ∀ r ∈ rs, r.xs.length ≤ 1000000) :
  Pure Try.prog 104 #[.slice A n c] [ro A (hdrs rs), rowsR rs] (two (fun v ca cb => ∃ B cap qs, v = .slice B qs.length cap ∧ ca = ow B 22 cap (hdrs qs) ∧ cb = rowsCh 3 qs ∧ qs.map (·.xs) = rs.map (·.xs) ∧ qs.length ≤ cap)) := by
 refine pure_of (args := [.slice A n c]) 23 Try.func104 rfl rfl rfl mat_clone_ent ⟨id, id, trivial⟩ (fun w0 => ?_)
 refine tS ?_
 refine tR fun _ _ _ => ?_
 refine pV ?_
 refine tS ?_
 refine tR fun _ _ _ => ?_
 refine pV ?_
 refine sV (rLen rfl rfl) ?_
 refine eV (eMake rfl rfl rfl rfl rfl (by omega) (by omega) (by omega) (fun A1 => ?_))
 refine pV ?_
 rw [Int.toNat_natCast, hdrs_rep]
 refine tS ?_
 refine tS ?_
 refine tR fun _ _ _ => ?_
 refine pV ?_
 refine sV (rLen rfl rfl) ?_
 refine pV ?_
 refine tB ?_
 refine tr_loop2 (fun (k : Int) (qs : List RowM) => [(3, .slice A1 n n), (9, .slice A n c), (10, .int .i64 n), (11, .int .i64 k)]) (fun (k : Int) (qs : List RowM) => [ow A1 22 n (hdrs qs), rowsCh 3 qs, ro A (hdrs rs), rowsR rs]) (fun (k : Int) (qs : List RowM) => (0 ≤ k ∧ k ≤ n) ∧ qs.length = n ∧ ∀ j : Nat, (j : Int) < k → (qs.getD j rowD).xs = (rs.getD j rowD).xs) (fun (k : Int) (qs : List RowM) => (n - k).toNat) (0) (List.replicate n rowD) ⟨rfl, rfl, rfl, rfl, trivial⟩ (by exact (rows_rep 3 _ n).trans (cs _ _)) (⟨⟨by omega, by omega⟩, by simp, fun j hj => by omega⟩) (fun k qs hI => ?_)
 obtain ⟨⟨hk0, hk1⟩, hql, hq⟩ := hI
 refine tS ?_
 refine tR fun _ _ _ => ?_
 refine pV ?_
 refine tS ?_
 refine tC rfl (fun h3 => ?_) (fun h3 => ?_)
 ·try simp only [zbA] at h3
  refine tK ?_
  refine tS ?_
  refine tB ?_
  refine tS ?_
  haveI : InB k.toNat rs.length := ⟨by omega⟩
  refine tR fun _ _ _ => ?_
  refine pV ?_
  refine sV (rIdxR rfl rfl rfl (by omega) (by omega) (by omega)) ?_
  refine sV (rLdR rfl rfl (by omega)) ?_
  iterate 2 refine pV ?_
  refine tR fun _ _ _ => ?_
  iterate 3 refine pV ?_
  refine eV (eCall1 rfl rfl rfl (slc_Clone _ _ (rs.getD k.toNat rowD).xs (h8 _ (getD_mem (by omega) _))) ⟨rfl, trivial⟩ ?_)
  rintro _ _ ⟨B5, c5, rfl, rfl⟩
  refine sV (rIdxR rfl rfl rfl (by omega) (by omega) (by omega)) ?_
  refine eV (eSt rfl rfl rfl rfl (by first | omega | (simp; omega)) rfl rfl ?_)
  refine tR fun _ _ _ => ?_
  refine sV (rAdd rfl rfl rfl (by omega) (by omega)) ?_
  refine pV ?_
  refine ⟨k + 1, qs.set k.toNat ⟨B5, c5, (rs.getD k.toNat rowD).xs⟩, ⟨rfl, rfl, rfl, rfl, trivial⟩, by rw [hdrs_set]; exact (cs _ [rowsCh 3 qs, ow B5 3 c5 (ints (rs.getD k.toNat rowD).xs), ow A1 22 n ((hdrs qs).set k.toNat (.slice B5 (rs.getD k.toNat rowD).xs.length c5)), ro A (hdrs rs), rowsR rs]).trans ((rows_put (r := ⟨B5, c5, (rs.getD k.toNat rowD).xs⟩) (show k.toNat < qs.length by omega) _).trans (CSub.perm (List.Perm.swap ..))), ?_⟩
  refine ⟨⟨⟨by omega, by omega⟩, by simpa using hql, fun j hj => ?_⟩, by omega⟩
  rw [row_set]
  by_cases he : k.toNat = j
  ·subst he; rw [if_pos ⟨rfl, by omega⟩]
  ·rw [if_neg (fun e => he e.1)]; exact hq j (by omega)
 ·try simp only [zbA] at h3
  refine tE ?_
  refine tS ?_
  refine tR fun _ _ _ => ?_
  iterate 2 refine pV ?_
  have hm : qs.map (·.xs) = rs.map (·.xs) := by
   refine List.ext_getElem (by simp; omega) fun j h1 h2 => ?_
   have h3 := hq j (by simp at h1; omega)
   rw [List.getD_eq_getElem?_getD, List.getElem?_eq_getElem (by simpa using h1), List.getD_eq_getElem?_getD, List.getElem?_eq_getElem (by simpa using h2)] at h3
   simpa using h3
  exact tr_ret ⟨trivial, _, _, rfl, ⟨_, _, rfl, A1, n, qs, by rw [hql], rfl, rfl, hm, by omega⟩, cs _ _, trivial, trivial, trivial⟩
theorem vsR_of {p m : Int} {mod : List Int} [hF : IsF p m mod] {rs qs : List RowM} (h : qs.map (·.xs) = rs.map (·.xs)) : (vsR qs : List (Vc (El p m mod))) = vsR rs := by
 have e : ∀ l : List RowM, (vsR l : List (Vc (El p m mod))) = (l.map (·.xs)).map rw' := fun l => by rw [List.map_map]; rfl
 rw [e, e, h]
theorem Gd.of {q : Int} {w : Nat} {rs qs : List RowM} (h : qs.map (·.xs) = rs.map (·.xs)) (hg : Gd q w rs) : Gd q w qs := fun r hr => by
 have h1 : r.xs ∈ rs.map (·.xs) := by rw [← h]; exact List.mem_map.2 ⟨r, hr, rfl⟩
 obtain ⟨s, hs, he⟩ := List.mem_map.1 h1
 rw [← he]; exact hg s hs
theorem Gd.take {q : Int} {w : Nat} {rs : List RowM} (h : Gd q w rs) (k : Nat) : Gd q w (rs.take k) := fun r hr => h r (List.mem_of_mem_take hr)
theorem vsR_take {p m : Int} {mod : List Int} [hF : IsF p m mod] (rs : List RowM) (k : Nat) : (vsR rs : List (Vc (El p m mod))).take k = vsR (rs.take k) := by simp [vsR, List.map_take]
structure RrOf (p m : Int) (mod : List Int) [hF : IsF p m mod] (w : Nat) (rs r3 : List RowM) (ps : List Int) : Prop where
 good : Gd (pw p m) w r3
 len : ps.length = r3.length
 form : ∃ qs, ps = qs.map Int.ofNat ∧ Vc.Rr w (vsR r3 : List (Vc (El p m mod))) qs
 span : ∀ u, Vc.SpL (vsR r3 : List (Vc (El p m mod))) u ↔ Vc.SpL (vsR rs) u
theorem mat_canon_ent : Enters Try.prog 84 := enters_of Try.func84 (by kernel_rfl) (by kernel_rfl)
theorem mat_canon (g : GfM) {p m : Int} {mod : List Int} [hF : IsF p m mod] (hg : GOk g p m mod) (w : Int) (hw0 : 0 ≤ w) (hw9 : w ≤ 1000000) (A : Option Addr) (n c : Nat) (rs : List RowM) (hn : n = rs.length) (h9 : rs.length ≤ 1000000) (hgd : Gd (pw p m) w.toNat rs) :
  Pure Try.prog 84 #[.pointer (some g.p), .slice A n c, .int .i64 w] [gfR g, ro A (hdrs rs), rowsR rs] (three (fun v ca cb cc => ∃ B r3 Bp cp ps, v = .tuple #[.slice B r3.length r3.length, .slice Bp ps.length cp] ∧ ca = rx B (hdrs r3) ∧ cb = rowsCh 3 r3 ∧ cc = ow Bp 3 cp (ints ps) ∧ RrOf p m mod w.toNat rs r3 ps ∧ r3.length ≤ rs.length)) := by
 have h8 : ∀ r ∈ rs, r.xs.length ≤ 1000000 := fun r hr => by have := (hgd r hr).1; omega
 refine pure_of (args := [.pointer (some g.p), .slice A n c, .int .i64 w]) 27 Try.func84 rfl rfl rfl mat_canon_ent ⟨id, id, id, trivial⟩ (fun w0 => ?_)
 refine tS ?_
 refine tR fun _ _ _ => ?_
 iterate 2 refine pV ?_
 refine tS ?_
 refine tR fun _ _ _ => ?_
 refine pV ?_
 refine eV (eCall2 rfl rfl rfl (mat_clone A n c rs hn h9 h8) ⟨rfl, trivial⟩ ?_)
 rintro _ _ _ ⟨B1, c1, qs1, rfl, rfl, rfl, hqs1, hcap1⟩
 refine pV ?_
 have hlq : qs1.length = rs.length := by have := congrArg List.length hqs1; simpa using this
 refine tS ?_
 refine tR fun _ _ _ => ?_
 iterate 3 refine pV ?_
 refine eV (eCallM3 rfl rfl rfl (mat_eliminate g hg w hw0 hw9 B1 _ c1 qs1 rfl (by omega) (Gd.of hqs1 hgd)) ⟨rfl, rfl, rfl, rfl, trivial⟩ ?_)
 rintro _ _ _ _ ⟨rs2, Bp, cbp, ps, qs, dd, rfl, rfl, rfl, rfl, hps, hrl2, hgd2, hql, hR1, hR2⟩
 iterate 5 refine pV ?_
 refine tS ?_
 have hpl : ps.length = qs.length := by rw [hps, List.length_map]
 refine tR fun _ _ _ => ?_
 iterate 2 refine pV ?_
 refine sV (rLen rfl rfl) ?_
 refine pV ?_
 refine sV (rLen rfl rfl) ?_
 refine sV (rCut3 rfl rfl rfl rfl (by omega) (by omega)) ?_
 iterate 3 refine pV ?_
 simp only [Int.toNat_natCast]
 have htl : (rs2.take ps.length).length = ps.length := by rw [List.length_take]; omega
 have hRr : RrOf p m mod w.toNat rs (rs2.take ps.length) ps := by
  rw [vsR_take, ← hpl] at hR1 hR2
  refine ⟨hgd2.take _, htl.symm, ⟨qs, hps, hR1⟩, fun u => ?_⟩
  rw [hR2, vsR_of hqs1]
 exact tr_ret ⟨trivial, _, _, rfl, ⟨_, _, _, rfl, B1, rs2.take ps.length, Bp, cbp, ps, by rw [htl], rfl, rfl, rfl, hRr, by omega⟩, (cs _ [ow B1 22 c1 (hdrs rs2), rowsCh 3 rs2, ow Bp 3 cbp (ints ps)]).trans ((ow_rx _).trans ((rx_take _ _).trans (CSub.cons _ (rows_take _ _)))), trivial, trivial, trivial, trivial⟩
end Go.Proofs.Ytdkahdehodopoaa

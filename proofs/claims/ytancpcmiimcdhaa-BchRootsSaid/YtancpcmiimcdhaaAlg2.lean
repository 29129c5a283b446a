/-
  RESIDUES AS NUMBERS. One sentence: the product of two residues as numbers is that of the rows of their digits; so it is commutative, associative and distributive; and a modulus with a generator has no divisor.
  Conditions: each theorem's own, written out in it. No program is named here.
-/
import Derived.Test.YtancpcmiimcdhaaAlg1
import Derived.Test.YtancpcmiimcdhaaBest
set_option linter.unusedSimpArgs false
set_option linter.unusedVariables false
namespace Go.Proofs.Ytancpcmiimcdhaa

def rl (l : List Int) : Row := fun j => l.getD j 0
theorem rl_sup (l : List Int) : Sup l.length (rl l) := fun j hj => by
  simp only [rl]; rw [List.getD_eq_getElem?_getD, List.getElem?_eq_none hj]; rfl
/-- A row's number. -/
def rv (p : Int) (M : Nat) (u : Row) : Int := vl p ((List.range M).map (fun j => u j % p))
def dg (p : Int) (M : Nat) (x : Int) : Row := rl (digs p M x)
theorem dg_sup (p : Int) (M : Nat) (x : Int) : Sup M (dg p M x) := by
  have := rl_sup (digs p M x)
  rwa [digs_length] at this
theorem digs_vl {p : Int} (hp : 2 ≤ p) : ∀ (l : List Int), AllIn p l → digs p l.length (vl p l) = l
  | [], _ => rfl
  | d :: ds, h => by
    have h1 := h d (by simp)
    have h2 : (d + p * vl p ds) % p = d := by
      rw [Int.add_mul_emod_self_left]
      exact Int.emod_eq_of_lt h1.1 h1.2
    have h3 : (d + p * vl p ds) / p = vl p ds := by
      rw [Int.add_mul_ediv_left _ _ (by omega)]
      have : d / p = 0 := Int.ediv_eq_zero_of_lt h1.1 h1.2
      omega
    simp only [vl, List.length_cons, digs, h2, h3, digs_vl hp ds (fun c hc => h c (by simp [hc]))]
theorem vl_digs {p : Int} (hp : 2 ≤ p) : ∀ (M : Nat) (x : Int), 0 ≤ x → x < p ^ M → vl p (digs p M x) = x
  | 0, x, h0, h1 => by simp at h1; simp [vl, digs]; omega
  | M + 1, x, h0, h1 => by
    have h2 : x / p < p ^ M := Int.ediv_lt_of_lt_mul (by omega) (by rwa [Int.pow_succ] at h1)
    simp only [digs, vl, vl_digs hp M (x / p) (Int.ediv_nonneg h0 (by omega)) h2]
    have := Int.mul_ediv_add_emod x p
    omega
theorem rv_cong {p : Int} {M : Nat} {u v : Row} (h : ∀ j, j < M → u j % p = v j % p) : rv p M u = rv p M v := by
  unfold rv
  congr 1
  apply List.map_congr_left
  intro j hj
  exact h j (List.mem_range.1 hj)
theorem rv_cg {p : Int} {M : Nat} {u v : Row} (h : Cg p u v) : rv p M u = rv p M v := rv_cong fun j _ => h.emod j
theorem rv_bd {p : Int} (hp : 2 ≤ p) (M : Nat) (u : Row) : 0 ≤ rv p M u ∧ rv p M u < p ^ M := by
  have h := vl_in (p := p) (by omega) ((List.range M).map (fun j => u j % p)) (fun c hc => by
    obtain ⟨j, _, rfl⟩ := List.mem_map.1 hc
    exact ⟨Int.emod_nonneg _ (by omega), Int.emod_lt_of_pos _ (by omega)⟩)
  simpa [rv] using h
theorem dg_rv {p : Int} (hp : 2 ≤ p) (M : Nat) (u : Row) (j : Nat) (hj : j < M) : dg p M (rv p M u) j = u j % p := by
  have h := digs_vl hp ((List.range M).map (fun j => u j % p)) (fun c hc => by
    obtain ⟨j, _, rfl⟩ := List.mem_map.1 hc
    exact ⟨Int.emod_nonneg _ (by omega), Int.emod_lt_of_pos _ (by omega)⟩)
  simp only [List.length_map, List.length_range] at h
  simp only [dg, rl, rv, h]
  rw [List.getD_eq_getElem?_getD, List.getElem?_map, List.getElem?_range hj]
  rfl
theorem dg_rv_cg {p : Int} (hp : 2 ≤ p) {M : Nat} {u : Row} (hu : Sup M u) : Cg p (dg p M (rv p M u)) u := Cg.of fun j => by
  by_cases hj : j < M
  · rw [dg_rv hp M u j hj, Int.emod_emod]
  · rw [dg_sup p M _ j (by omega), hu j (by omega)]
theorem rv_dg {p : Int} (hp : 2 ≤ p) {M : Nat} {x : Int} (h0 : 0 ≤ x) (h1 : x < p ^ M) : rv p M (dg p M x) = x := by
  have h : (List.range M).map (fun j => dg p M x j % p) = digs p M x := by
    apply List.ext_getElem
    · simp [digs_length]
    · intro i h2 h3
      have h4 := (digs_in (p := p) (by omega) M x) _ (List.getElem_mem h3)
      have h5 : dg p M x i = (digs p M x)[i] := by
        simp only [dg, rl]
        rw [List.getD_eq_getElem?_getD, List.getElem?_eq_getElem h3]; rfl
      simp only [List.getElem_map, List.getElem_range, h5]
      exact Int.emod_eq_of_lt h4.1 h4.2
  unfold rv
  rw [h]
  exact vl_digs hp M x h0 h1
theorem dg_zero {p : Int} (hp : 2 ≤ p) (M : Nat) : dg p M 0 = Row.z := by
  have : ∀ M, digs p M 0 = List.replicate M 0 := fun M => by
    induction M with
    | zero => rfl
    | succ M ih => simp [digs, ih, List.replicate_succ]
  funext j
  simp only [dg, rl, this, Row.z]
  rw [List.getD_eq_getElem?_getD, List.getElem?_replicate]
  split <;> rfl
theorem dg_one {p : Int} (hp : 2 ≤ p) {M : Nat} (hM : 1 ≤ M) : dg p M 1 = ee 0 := by
  obtain ⟨k, rfl⟩ : ∃ k, M = k + 1 := ⟨M - 1, by omega⟩
  have h1 : (1 : Int) % p = 1 := Int.emod_eq_of_lt (by omega) (by omega)
  have h2 : (1 : Int) / p = 0 := Int.ediv_eq_zero_of_lt (by omega) (by omega)
  have h3 := dg_zero hp k
  funext j
  simp only [dg, rl, digs, h1, h2, ee]
  cases j with
  | zero => rfl
  | succ j =>
    have := congrFun h3 j
    simp only [dg, rl, Row.z] at this
    simpa using this

theorem pl_cons {T : Row → Row} (h : Lin T) : ∀ (n : Nat) (Q v : Row), pl T (n + 1) Q v = (Row.sm (Q 0) v).add (T (pl T n (fun i => Q (i + 1)) v))
  | 0, Q, v => by simp only [pl, h.z, Row.add_z, Row.z_add]; rfl
  | n + 1, Q, v => by
    rw [pl, pl_cons h n Q v]
    simp only [pl, h.add, h.sm, it, Row.add_assoc]
theorem hmulL_row (p : Int) (low a : List Int) (M : Nat) (hlow : low.length ≤ M) (ha : a.length = M) : ∀ (bs : List Int), Cg p (rl (hmulL p low a M bs)) (pl (tm M (rl low)) bs.length (rl bs) (rl a))
  | [] => Cg.of_eq (by
      funext j
      simp only [hmulL, rl, pl, Row.z, List.length_nil]
      rw [List.getD_eq_getElem?_getD, List.getElem?_replicate]; split <;> rfl)
  | b :: bs => by
    have ih := hmulL_row p low a M hlow ha bs
    have hT := tm_lin M (rl low)
    rw [List.length_cons, pl_cons hT]
    have h1 : (fun i => rl (b :: bs) (i + 1)) = rl bs := by funext i; simp [rl]
    have h2 : rl (b :: bs) 0 = b := rfl
    rw [h1, h2]
    refine Cg.trans ?_ (Cg.add (Cg.refl p (Row.sm b (rl a))) (Cg.lin hT ih))
    have hl := hmulL_length p low a M bs
    refine Cg.of fun j => ?_
    by_cases hj : j < M
    · have h3 : rl (hmulL p low a M (b :: bs)) j = hent p low a (hmulL p low a M bs) b j := by
        simp only [rl, hmulL, hstep]
        rw [List.getD_eq_getElem?_getD, List.getElem?_map, List.getElem?_range (by omega)]
        rfl
      rw [h3]
      unfold hent
      simp only [Row.add, Row.sm, tm, if_pos hj, Int.emod_emod, hl]
      have h4 : hprev (hmulL p low a M bs) j = sh (rl (hmulL p low a M bs)) j := by
        simp only [hprev, sh, rl]
      rw [h4]
      simp only [rl]
      generalize sh _ j = s
      generalize (hmulL p low a M bs).getD (M - 1) 0 = t
      generalize low.getD j 0 = l
      generalize b * a.getD j 0 = e
      have h5 : s + (p - t) * l + e = (e + (s - t * l)) + p * l := by grind
      rw [h5, Int.add_mul_emod_self_left]
    · have h3 : rl (hmulL p low a M (b :: bs)) j = 0 := by
        have := rl_sup (hmulL p low a M (b :: bs)) j (by rw [hmulL_length]; omega)
        exact this
      have h4 : rl a j = 0 := rl_sup a j (by omega)
      rw [h3]
      simp only [Row.add, Row.sm, h4, tm, if_neg hj]
      simp
/-- The product as numbers, and as rows. -/
theorem mulI_eq {p m : Int} {mod : List Int} (h : Shp p m mod) (x y : Int) : mulI p m mod x y = rv p m.toNat (rm m.toNat (rl mod) (dg p m.toNat x) (dg p m.toNat y)) := by
  have hp := h.p2
  have hm := h.m1
  have hlow : mod.length ≤ m.toNat := by
    rcases h.low with h1 | h1
    · rw [h1.2]; simp
    · omega
  have h1 := hmulL_row p mod (digs p m.toNat x) m.toNat hlow (digs_length p m.toNat x) (digs p m.toNat y)
  rw [digs_length] at h1
  show mulI p m mod x y = rv p m.toNat (pl (tm m.toNat (rl mod)) m.toNat (rl (digs p m.toNat y)) (rl (digs p m.toNat x)))
  rw [← rv_cg (M := m.toNat) h1]
  have h2 := hmulL_in (p := p) (by omega) mod (digs p m.toNat x) m.toNat (digs p m.toNat y)
  have h3 := hmulL_length p mod (digs p m.toNat x) m.toNat (digs p m.toNat y)
  unfold mulI rv
  congr 1
  apply List.ext_getElem
  · simp [h3]
  · intro i h4 h5
    have h6 := h2 _ (List.getElem_mem h4)
    simp only [List.getElem_map, List.getElem_range, rl]
    rw [List.getD_eq_getElem?_getD, List.getElem?_eq_getElem h4]
    exact (Int.emod_eq_of_lt h6.1 h6.2).symm

section
variable {p m : Int} {mod : List Int}
theorem mulI_cg (h : Shp p m mod) (x y : Int) : Cg p (dg p m.toNat (mulI p m mod x y)) (rm m.toNat (rl mod) (dg p m.toNat x) (dg p m.toNat y)) := by
  rw [mulI_eq h]
  exact dg_rv_cg h.p2 (rm_sup (dg_sup _ _ _))
theorem rm_cg {M : Nat} {low a a' b b' : Row} (ha : Cg p a a') (hb : Cg p b b') : Cg p (rm M low a b) (rm M low a' b') := Cg.pl (tm_lin M low) M hb ha
theorem mulI_comm (h : Shp p m mod) (x y : Int) : mulI p m mod x y = mulI p m mod y x := by
  rw [mulI_eq h, mulI_eq h, rm_comm (dg_sup _ _ _) (dg_sup _ _ _)]
theorem mulI_assoc (h : Shp p m mod) (x y z : Int) : mulI p m mod (mulI p m mod x y) z = mulI p m mod x (mulI p m mod y z) := by
  rw [mulI_eq h (mulI p m mod x y) z, mulI_eq h x (mulI p m mod y z)]
  refine rv_cg ?_
  refine Cg.trans (rm_cg (mulI_cg h x y) (Cg.refl _ _)) ?_
  rw [rm_assoc (dg_sup _ _ _) (dg_sup _ _ _) (dg_sup _ _ _)]
  exact rm_cg (Cg.refl _ _) (mulI_cg h y z).symm
theorem mulI_one (h : Shp p m mod) {x : Int} (h0 : 0 ≤ x) (h1 : x < pw p m) : mulI p m mod 1 x = x := by
  have hm := h.m1
  rw [mulI_eq h, dg_one h.p2 (by omega), rm_one (dg_sup _ _ _) (by omega)]
  exact rv_dg h.p2 h0 h1
theorem mulI_zero (h : Shp p m mod) (x : Int) : mulI p m mod 0 x = 0 := by
  rw [mulI_eq h, dg_zero h.p2]
  have h1 : rm m.toNat (rl mod) Row.z (dg p m.toNat x) = Row.z := pl_z (tm_lin _ _) _ _
  rw [h1, ← dg_zero h.p2 m.toNat]
  exact rv_dg h.p2 (by omega) (Int.pow_pos (by have := h.p2; omega))
/-- The sum, digit by digit. -/
def addI (p m : Int) (x y : Int) : Int := rv p m.toNat ((dg p m.toNat x).add (dg p m.toNat y))
def negI (p m : Int) (x : Int) : Int := rv p m.toNat (Row.sm (-1) (dg p m.toNat x))
theorem addI_cg (hp : 2 ≤ p) (x y : Int) : Cg p (dg p m.toNat (addI p m x y)) ((dg p m.toNat x).add (dg p m.toNat y)) := dg_rv_cg hp (sup_add (dg_sup _ _ _) (dg_sup _ _ _))
theorem addI_comm (x y : Int) : addI p m x y = addI p m y x := by unfold addI; rw [Row.add_comm]
theorem addI_assoc (hp : 2 ≤ p) (x y z : Int) : addI p m (addI p m x y) z = addI p m x (addI p m y z) := by
  unfold addI
  refine rv_cg ?_
  refine Cg.trans (Cg.add (addI_cg hp x y) (Cg.refl _ _)) ?_
  rw [Row.add_assoc]
  exact Cg.add (Cg.refl _ _) (addI_cg hp y z).symm
theorem addI_zero (hp : 2 ≤ p) {x : Int} (h0 : 0 ≤ x) (h1 : x < pw p m) : addI p m 0 x = x := by
  unfold addI
  rw [dg_zero hp, Row.z_add]
  exact rv_dg hp h0 h1
theorem addI_neg (hp : 2 ≤ p) (x : Int) : addI p m x (negI p m x) = 0 := by
  have h : Cg p ((dg p m.toNat x).add (dg p m.toNat (negI p m x))) Row.z := by
    refine Cg.trans (Cg.add (Cg.refl _ _) (dg_rv_cg hp (sup_sm _ (dg_sup _ _ _)))) (Cg.of_eq ?_)
    funext j; simp only [Row.add, Row.sm, Row.z]; omega
  unfold addI
  rw [rv_cg h, ← dg_zero hp m.toNat]
  exact rv_dg hp (by omega) (Int.pow_pos (by omega))
theorem mulI_add (h : Shp p m mod) (x y z : Int) : mulI p m mod (addI p m x y) z = addI p m (mulI p m mod x z) (mulI p m mod y z) := by
  rw [mulI_eq h]
  unfold addI
  refine rv_cg ?_
  refine Cg.trans (rm_cg (dg_rv_cg h.p2 (sup_add (dg_sup _ _ _) (dg_sup _ _ _))) (Cg.refl _ _)) ?_
  rw [rm_addL]
  exact Cg.add (mulI_cg h x z).symm (mulI_cg h y z).symm

/-! ### Powers of a generator -/
theorem pwI_bd (h : Shp p m mod) {x : Int} (hx : 0 ≤ x ∧ x < pw p m) : ∀ n, 0 ≤ pwI p m mod x n ∧ pwI p m mod x n < pw p m
  | 0 => by have := h.q2; simp only [pwI]; omega
  | 1 => hx
  | n + 2 => mulI_bd h _ _
theorem pwI_succ (h : Shp p m mod) {x : Int} (hx : 0 ≤ x ∧ x < pw p m) : ∀ n, pwI p m mod x (n + 1) = mulI p m mod (pwI p m mod x n) x
  | 0 => (mulI_one h hx.1 hx.2).symm
  | n + 1 => rfl
theorem pwI_add (h : Shp p m mod) {x : Int} (hx : 0 ≤ x ∧ x < pw p m) (i : Nat) : ∀ j, pwI p m mod x (i + j) = mulI p m mod (pwI p m mod x i) (pwI p m mod x j)
  | 0 => by
    have := pwI_bd h hx i
    rw [show pwI p m mod x 0 = 1 from rfl, mulI_comm h, mulI_one h this.1 this.2]
    rfl
  | j + 1 => by rw [← Nat.add_assoc, pwI_succ h hx, pwI_add h hx i j, mulI_assoc h, ← pwI_succ h hx]
theorem IsGen.all {x : Int} {l : List Int} (hg : IsGen p m mod x l) {y : Int} (h0 : 0 < y) (h1 : y < pw p m) : y ∈ l := by
  refine Classical.byContradiction fun hy => ?_
  have h2 := nodup_len' (q := pw p m) (y :: l) (List.nodup_cons.2 ⟨hy, hg.pow.nodup⟩) (fun z hz => by
    rcases List.mem_cons.1 hz with rfl | hz
    · exact ⟨h0, h1⟩
    · exact hg.pow.nz z hz) (by omega)
  have h3 := hg.len
  simp only [List.length_cons] at h2
  omega
theorem IsGen.mem_pw {x : Int} {l : List Int} (hg : IsGen p m mod x l) {y : Int} (hy : y ∈ l) : ∃ i, i < l.length ∧ y = pwI p m mod x i := by
  obtain ⟨i, hi, rfl⟩ := List.getElem_of_mem hy
  have h := hg.pow.get i hi
  rw [List.getD_eq_getElem?_getD, List.getElem?_eq_getElem hi] at h
  exact ⟨i, hi, h⟩
theorem IsGen.pw_mem (hs : Shp p m mod) {x : Int} {l : List Int} (hg : IsGen p m mod x l) : ∀ n, pwI p m mod x n ∈ l := by
  have hx : 0 ≤ x ∧ x < pw p m := ⟨by have := hg.x1; omega, hg.x2⟩
  have h1 := hg.len
  have h2 := hg.pow.one
  have at_ : ∀ i, i < l.length → pwI p m mod x i ∈ l := fun i hi => by
    rw [← hg.pow.get i hi, List.getD_eq_getElem?_getD, List.getElem?_eq_getElem hi]
    exact List.getElem_mem hi
  intro n
  induction n with
  | zero => exact at_ 0 (by omega)
  | succ n ih =>
    obtain ⟨i, hi, he⟩ := hg.mem_pw ih
    rw [pwI_succ hs hx, he]
    by_cases hil : i + 1 < l.length
    · rw [← pwI_succ hs hx]; exact at_ _ hil
    · have hie : i = (pw p m - 2).toNat := by omega
      rw [← hg.pow.get i hi, hie, hg.last]
      exact at_ 0 (by omega)
/-- No divisors of zero. -/
theorem IsGen.no_zero (hs : Shp p m mod) {x : Int} {l : List Int} (hg : IsGen p m mod x l) {u v : Int} (hu : 0 < u ∧ u < pw p m) (hv : 0 < v ∧ v < pw p m) : mulI p m mod u v ≠ 0 := by
  have hx : 0 ≤ x ∧ x < pw p m := ⟨by have := hg.x1; omega, hg.x2⟩
  obtain ⟨i, _, rfl⟩ := hg.mem_pw (hg.all hu.1 hu.2)
  obtain ⟨j, _, rfl⟩ := hg.mem_pw (hg.all hv.1 hv.2)
  rw [← pwI_add hs hx]
  have := hg.pow.nz _ (hg.pw_mem hs (i + j))
  omega
end

/-! ### Long division -/
def gF (low : List Int) : Row := rl (low ++ [1])
theorem gF_sup (low : List Int) : Sup (low.length + 1) (gF low) := by
  have := rl_sup (low ++ [1])
  rw [List.length_append] at this
  exact this
theorem gF_lo (low : List Int) {k : Nat} (h : k < low.length) : gF low k = low.getD k 0 := by
  simp only [gF, rl, List.getD_eq_getElem?_getD, List.getElem?_append_left h]
theorem gF_top (low : List Int) : gF low low.length = 1 := by
  simp [gF, rl, List.getD_eq_getElem?_getD]
theorem dstep_row {p : Int} {low r : List Int} {n : Nat} (hr : low.length + n < r.length) : Cg p (rl r) ((rl (dstep p low r (low.length + n))).add (Row.sm (r.getD (low.length + n) 0) (it sh n (gF low)))) := Cg.of fun k => by
  simp only [Row.add, Row.sm, it_sh]
  by_cases hk : k < r.length
  · have h1 : rl (dstep p low r (low.length + n)) k = dent p low r (low.length + n) k := by
      simp only [rl, dstep]
      rw [List.getD_eq_getElem?_getD, List.getElem?_map, List.getElem?_range hk]
      rfl
    rw [h1]
    unfold dent
    by_cases h2 : k = low.length + n
    · subst h2
      rw [if_pos rfl, if_neg (by omega), show low.length + n - n = low.length by omega, gF_top]
      simp only [rl]
      congr 1
      omega
    · rw [if_neg h2]
      by_cases h3 : k < n
      · rw [if_pos h3, if_neg (by omega)]
        simp only [rl]
        congr 1
        omega
      · rw [if_neg h3]
        by_cases h4 : k < low.length + n
        · rw [if_pos ⟨by omega, h4⟩, gF_lo low (by omega), show k + low.length - (low.length + n) = k - n by omega]
          simp only [rl]
          generalize r.getD k 0 = a
          generalize r.getD (low.length + n) 0 = c
          generalize low.getD (k - n) 0 = l
          rw [Int.emod_add_emod]
          have : a + (p - c) * l + c * l = a + p * l := by grind
          rw [this, Int.add_mul_emod_self_left]
        · rw [if_neg (by omega), gF_sup low (k - n) (by omega)]
          simp only [rl]
          congr 1
          omega
  · have h1 : rl (dstep p low r (low.length + n)) k = 0 := rl_sup _ k (by rw [dstep_length]; omega)
    have h2 : rl r k = 0 := rl_sup _ k (by omega)
    rw [h1, h2, if_neg (by omega), gF_sup low (k - n) (by omega)]
    simp
theorem dloop_length (p : Int) (low : List Int) : ∀ (n : Nat) (r : List Int), (dloop p low n r).length = r.length
  | 0, r => rfl
  | n + 1, r => by rw [dloop, dloop_length p low n, dstep_length]
/-- What a long division leaves. -/
theorem dloop_row {p : Int} {low : List Int} : ∀ (n : Nat) (r : List Int), low.length + n ≤ r.length → ∃ Q : Row, Sup n Q ∧ Cg p (rl r) ((rl (dloop p low n r)).add (pl sh n Q (gF low))) ∧ (1 ≤ n → Q (n - 1) = r.getD (low.length + n - 1) 0)
  | 0, r, _ => ⟨Row.z, fun _ _ => rfl, Cg.of_eq (by simp only [dloop, pl, Row.add_z]), fun h => by omega⟩
  | n + 1, r, h => by
    have hsl := dstep_length p low r (low.length + n)
    obtain ⟨Q, h1, h2, _⟩ := dloop_row (p := p) (low := low) n (dstep p low r (low.length + n)) (by omega)
    have hQ : ∀ i, (fun i => if i < n then Q i else if i = n then r.getD (low.length + n) 0 else 0 : Row) i = if i < n then Q i else if i = n then r.getD (low.length + n) 0 else 0 := fun _ => rfl
    generalize (fun i => if i < n then Q i else if i = n then r.getD (low.length + n) 0 else 0 : Row) = Q2 at hQ
    refine ⟨Q2, fun j hj => by rw [hQ, if_neg (by omega), if_neg (by omega)], ?_, fun _ => by rw [hQ, if_neg (by omega), if_pos (by omega)]; rfl⟩
    refine Cg.trans (dstep_row (p := p) (low := low) (r := r) (n := n) (by omega)) ?_
    refine Cg.trans (Cg.add h2 (Cg.refl _ _)) (Cg.of_eq ?_)
    have h3 : pl sh n Q2 (gF low) = pl sh n Q (gF low) := pl_cong n _ _ _ (fun i hi => by rw [hQ, if_pos hi])
    have h4 : Q2 n = r.getD (low.length + n) 0 := by rw [hQ, if_neg (by omega), if_pos rfl]
    rw [Row.add_assoc, dloop, pl, h3, h4]
theorem fF_rl {mod : List Int} : rl (mod ++ [1]) = fF mod.length (rl mod) := by
  funext j
  simp only [rl, fF]
  by_cases h : j < mod.length
  · rw [if_pos h, List.getD_eq_getElem?_getD, List.getElem?_append_left h, List.getD_eq_getElem?_getD]
  · rw [if_neg h]
    by_cases h2 : j = mod.length
    · subst h2; simp [List.getD_eq_getElem?_getD]
    · rw [if_neg h2, List.getD_eq_getElem?_getD, List.getElem?_eq_none (by simp; omega)]; rfl
theorem ne_zero_row {p : Int} (hp : 2 ≤ p) {M : Nat} {u : Row} {k : Nat} (hk : k < M) (hu : u k % p ≠ 0) : 0 < rv p M u := by
  have h0 := (rv_bd hp M u).1
  have h3 : rv p M u ≠ 0 := fun e => hu (by
    have h1 := dg_rv hp M u k hk
    rw [e, dg_zero hp] at h1
    exact h1.symm)
  omega
/-- A modulus with a generator has no divisor. -/
theorem irr_of_gen {p m : Int} {mod : List Int} (hs : Shp p m mod) (hm : 2 ≤ m) {x : Int} {l : List Int} (hg : IsGen p m mod x l) : Irr p mod := by
  intro d hd hd2 v hv0 hv1
  have hp := hs.p2
  have hml : (mod.length : Int) = m := by
    rcases hs.low with h | h
    · omega
    · exact h.2
  have hM : m.toNat = mod.length := by omega
  cases hb : bDiv p (digs p d v) mod with
  | false => rfl
  | true =>
    exfalso
    have hlen := digs_length p d v
    generalize hlo : digs p d v = low at hb hlen
    obtain ⟨Q, hQ, hc, htop⟩ := dloop_row (p := p) (low := low) (mod.length + 1 - low.length) (mod ++ [1]) (by simp; omega)
    have hz : rl (dloop p low (mod.length + 1 - low.length) (mod ++ [1])) = Row.z := by
      funext j
      unfold bDiv divL at hb
      rw [List.all_eq_true] at hb
      simp only [rl, Row.z]
      by_cases hj : j < (dloop p low (mod.length + 1 - low.length) (mod ++ [1])).length
      · rw [List.getD_eq_getElem?_getD, List.getElem?_eq_getElem hj]
        simpa using hb _ (List.getElem_mem hj)
      · rw [List.getD_eq_getElem?_getD, List.getElem?_eq_none (by omega)]; rfl
    rw [hz, Row.z_add, fF_rl] at hc
    have htop' := htop (by omega)
    rw [show low.length + (mod.length + 1 - low.length) - 1 = mod.length by omega] at htop'
    have htop2 : (mod ++ [(1 : Int)]).getD mod.length 0 = 1 := by simp [List.getD_eq_getElem?_getD]
    rw [htop2] at htop'
    -- the two residues
    have hgs : Sup mod.length (gF low) := fun j hj => gF_sup low j (by omega)
    have hQs : Sup mod.length Q := fun j hj => hQ j (by omega)
    have hu : 0 < rv p mod.length (gF low) := ne_zero_row hp (k := low.length) (by omega) (by rw [gF_top, Int.emod_eq_of_lt (by omega) (by omega)]; omega)
    have hw : 0 < rv p mod.length Q := ne_zero_row hp (k := mod.length + 1 - low.length - 1) (by omega) (by rw [htop', Int.emod_eq_of_lt (by omega) (by omega)]; omega)
    have hu2 := (rv_bd hp mod.length (gF low)).2
    have hw2 := (rv_bd hp mod.length Q).2
    have hpw : pw p m = p ^ mod.length := by unfold pw; rw [hM]
    refine hg.no_zero hs ⟨hu, by rw [hpw]; exact hu2⟩ ⟨hw, by rw [hpw]; exact hw2⟩ ?_
    rw [mulI_eq hs, hM]
    have h1 : Cg p (rm mod.length (rl mod) (dg p mod.length (rv p mod.length (gF low))) (dg p mod.length (rv p mod.length Q))) Row.z := by
      refine Cg.trans (rm_cg (dg_rv_cg hp hgs) (dg_rv_cg hp hQs)) ?_
      have hT := tm_lin mod.length (rl mod)
      unfold rm
      rw [pl_bound' hQ _ (by omega)]
      have h2 : gF low = pl (tm mod.length (rl mod)) (low.length + 1) (gF low) (ee 0) := by
        rw [pl_tm_e (low := rl mod) (gF low) (low.length + 1) (by omega)]
        funext j
        split
        · rfl
        · exact gF_sup low j (by omega)
      rw [h2, ← pl_mul hT (gF_sup low) Q (ee 0) (mod.length - low.length) (mod.length + 1 - low.length) (by omega), show low.length + 1 + (mod.length - low.length) = mod.length + 1 by omega]
      refine Cg.trans (Cg.pl hT _ hc.symm (Cg.refl _ _)) (Cg.of_eq (fF_e (by omega)))
    rw [rv_cg h1, ← dg_zero hp mod.length]
    exact rv_dg hp (by omega) (Int.pow_pos (by omega))
theorem fldR_of_N {p m : Int} {mod : List Int} (h : FldN p m mod) : FldR p m mod := by
  obtain ⟨hs, x, l, hg⟩ := h
  refine ⟨hs, ?_⟩
  by_cases hm : m = 1
  · exact .inl hm
  · exact .inr (irr_of_gen hs.1 (by have := hs.1.m1; omega) hg)
end Go.Proofs.Ytancpcmiimcdhaa

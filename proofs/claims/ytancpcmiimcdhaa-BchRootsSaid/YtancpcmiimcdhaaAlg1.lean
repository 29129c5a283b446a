/-
  OPERATORS AND POLYNOMIALS IN THEM. One sentence: rows of integers, operators on them, polynomials in an operator, and the residues modulo a monic polynomial as a commutative ring.
  Conditions: each theorem's own, written out in it. No program is named here.
-/
import Derived.Test.YtancpcmiimcdhaaDig
set_option linter.unusedSimpArgs false
set_option linter.unusedVariables false
namespace Go.Proofs.Ytancpcmiimcdhaa

abbrev Row := Nat → Int
def Row.add (u v : Row) : Row := fun j => u j + v j
def Row.sm (c : Int) (v : Row) : Row := fun j => c * v j
def Row.z : Row := fun _ => 0
def Sup (n : Nat) (v : Row) : Prop := ∀ j, n ≤ j → v j = 0
structure Lin (T : Row → Row) : Prop where
  add : ∀ u v, T (u.add v) = (T u).add (T v)
  sm : ∀ c v, T (Row.sm c v) = Row.sm c (T v)
theorem Lin.z {T : Row → Row} (h : Lin T) : T Row.z = Row.z := by
  have := h.sm 0 Row.z
  have e : Row.sm 0 Row.z = Row.z := by funext j; simp [Row.sm, Row.z]
  rw [e] at this
  rw [this]; funext j; simp [Row.sm, Row.z]
def it (T : Row → Row) : Nat → Row → Row
  | 0, v => v
  | n + 1, v => T (it T n v)
theorem it_lin {T : Row → Row} (h : Lin T) : ∀ n, Lin (it T n)
  | 0 => ⟨fun _ _ => rfl, fun _ _ => rfl⟩
  | n + 1 => ⟨fun u v => by simp only [it, (it_lin h n).add, h.add], fun c v => by simp only [it, (it_lin h n).sm, h.sm]⟩
theorem it_comm (T : Row → Row) : ∀ (n : Nat) (v : Row), it T n (T v) = T (it T n v)
  | 0, _ => rfl
  | n + 1, v => by simp only [it, it_comm T n v]
def pl (T : Row → Row) : Nat → Row → Row → Row
  | 0, _, _ => Row.z
  | n + 1, Q, v => (pl T n Q v).add (Row.sm (Q n) (it T n v))

theorem Row.add_z (u : Row) : u.add Row.z = u := by funext j; simp [Row.add, Row.z]
theorem Row.z_add (u : Row) : Row.z.add u = u := by funext j; simp [Row.add, Row.z]
theorem Row.add_comm (u v : Row) : u.add v = v.add u := by funext j; simp only [Row.add]; omega
theorem Row.add_assoc (u v w : Row) : (u.add v).add w = u.add (v.add w) := by funext j; simp only [Row.add]; omega
theorem Row.sm_z (c : Int) : Row.sm c Row.z = Row.z := by funext j; simp [Row.sm, Row.z]
theorem Row.zero_sm (v : Row) : Row.sm 0 v = Row.z := by funext j; simp [Row.sm, Row.z]
theorem Row.sm_add (c : Int) (u v : Row) : Row.sm c (u.add v) = (Row.sm c u).add (Row.sm c v) := by funext j; simp [Row.sm, Row.add, Int.mul_add]
theorem Row.add_sm (c d : Int) (u : Row) : Row.sm (c + d) u = (Row.sm c u).add (Row.sm d u) := by funext j; simp [Row.sm, Row.add, Int.add_mul]
theorem Row.sm_sm (c d : Int) (u : Row) : Row.sm c (Row.sm d u) = Row.sm (c * d) u := by funext j; simp [Row.sm, Int.mul_assoc]
theorem Row.add4 (a b c d : Row) : (a.add b).add (c.add d) = (a.add c).add (b.add d) := by funext j; simp only [Row.add]; omega

theorem pl_lin {T : Row → Row} (h : Lin T) : ∀ n Q, Lin (pl T n Q)
  | 0, _ => ⟨fun _ _ => (Row.add_z _).symm, fun c _ => (Row.sm_z c).symm⟩
  | n + 1, Q => ⟨fun u v => by
      simp only [pl, (pl_lin h n Q).add, (it_lin h n).add, Row.sm_add]
      exact Row.add4 _ _ _ _, fun c v => by
      simp only [pl, (pl_lin h n Q).sm, (it_lin h n).sm, Row.sm_add, Row.sm_sm, Int.mul_comm]⟩
theorem pl_comm {T : Row → Row} (h : Lin T) : ∀ (n : Nat) (Q v : Row), pl T n Q (T v) = T (pl T n Q v)
  | 0, _, _ => h.z.symm
  | n + 1, Q, v => by simp only [pl, pl_comm h n Q v, it_comm, h.add, h.sm]
theorem pl_it {T : Row → Row} (h : Lin T) (n : Nat) (Q : Row) : ∀ (k : Nat) (v : Row), pl T n Q (it T k v) = it T k (pl T n Q v)
  | 0, _ => rfl
  | k + 1, v => by simp only [it, pl_comm h, pl_it h n Q k v]
theorem pl_pl {T : Row → Row} (h : Lin T) (n : Nat) (Q : Row) : ∀ (m : Nat) (R v : Row), pl T n Q (pl T m R v) = pl T m R (pl T n Q v)
  | 0, _, _ => (pl_lin h n Q).z
  | m + 1, R, v => by simp only [pl, (pl_lin h n Q).add, (pl_lin h n Q).sm, pl_pl h n Q m R v, pl_it h]
theorem pl_addQ {T : Row → Row} : ∀ (n : Nat) (Q Q' v : Row), pl T n (Q.add Q') v = (pl T n Q v).add (pl T n Q' v)
  | 0, _, _, _ => (Row.add_z _).symm
  | n + 1, Q, Q', v => by
    simp only [pl, pl_addQ n Q Q' v]
    rw [show Q.add Q' n = Q n + Q' n from rfl, Row.add_sm]
    exact Row.add4 _ _ _ _
theorem pl_smQ {T : Row → Row} : ∀ (n : Nat) (c : Int) (Q v : Row), pl T n (Row.sm c Q) v = Row.sm c (pl T n Q v)
  | 0, c, _, _ => (Row.sm_z c).symm
  | n + 1, c, Q, v => by
    simp only [pl, pl_smQ n c Q v, Row.sm_add, Row.sm_sm]
    rfl
theorem pl_cong {T : Row → Row} : ∀ (n : Nat) (Q Q' v : Row), (∀ i, i < n → Q i = Q' i) → pl T n Q v = pl T n Q' v
  | 0, _, _, _, _ => rfl
  | n + 1, Q, Q', v, h => by simp only [pl, pl_cong n Q Q' v (fun i hi => h i (by omega)), h n (by omega)]
theorem pl_bound {T : Row → Row} {n : Nat} {Q : Row} (hQ : Sup n Q) (v : Row) : ∀ k, pl T (n + k) Q v = pl T n Q v
  | 0 => rfl
  | k + 1 => by
    rw [← Nat.add_assoc, pl, pl_bound hQ v k, hQ (n + k) (by omega), Row.zero_sm, Row.add_z]
theorem pl_bound' {T : Row → Row} {n m : Nat} {Q : Row} (hQ : Sup n Q) (v : Row) (h : n ≤ m) : pl T m Q v = pl T n Q v := by
  have := pl_bound (T := T) hQ v (m - n)
  rwa [show n + (m - n) = m by omega] at this
theorem pl_z {T : Row → Row} (h : Lin T) (n : Nat) (Q : Row) : pl T n Q Row.z = Row.z := (pl_lin h n Q).z

/-- The shift. -/
def sh (v : Row) : Row := fun j => if j = 0 then 0 else v (j - 1)
theorem sh_lin : Lin sh := ⟨fun u v => by funext j; simp only [sh, Row.add]; split <;> omega, fun c v => by funext j; simp only [sh, Row.sm]; split <;> simp⟩
def e0 : Row := fun j => if j = 0 then 1 else 0
def ee (k : Nat) : Row := fun j => if j = k then 1 else 0
theorem sh_ee (k : Nat) : sh (ee k) = ee (k + 1) := by
  funext j
  simp only [sh, ee]
  by_cases h : j = 0
  · simp [h]
  · by_cases h2 : j - 1 = k
    · rw [if_neg h, if_pos h2, if_pos (by omega)]
    · rw [if_neg h, if_neg h2, if_neg (by omega)]
theorem sh_sup {n : Nat} {v : Row} (h : Sup n v) : Sup (n + 1) (sh v) := fun j hj => by
  simp only [sh]; rw [if_neg (by omega)]; exact h _ (by omega)
theorem it_sh_sup {n : Nat} {v : Row} (h : Sup n v) : ∀ k, Sup (n + k) (it sh k v)
  | 0 => h
  | k + 1 => by
    have := sh_sup (it_sh_sup h k)
    rwa [Nat.add_assoc] at this
theorem it_sh (v : Row) : ∀ (k j : Nat), it sh k v j = if j < k then 0 else v (j - k)
  | 0, j => by simp [it]
  | k + 1, j => by
    simp only [it, sh, it_sh v k]
    by_cases h : j = 0
    · simp [h]
    · rw [if_neg h]
      by_cases h2 : j - 1 < k
      · rw [if_pos h2, if_pos (by omega)]
      · rw [if_neg h2, if_neg (by omega), show j - 1 - k = j - (k + 1) by omega]

theorem pl_sh {T : Row → Row} (h : Lin T) : ∀ (n : Nat) (f v : Row), pl T (n + 1) (sh f) v = T (pl T n f v)
  | 0, f, v => by
    simp only [pl]
    rw [show sh f 0 = 0 from rfl, Row.zero_sm, Row.add_z, h.z]
  | n + 1, f, v => by
    rw [pl, pl_sh h n f v]
    rw [show sh f (n + 1) = f n from rfl]
    simp only [pl, h.add, h.sm, it]
theorem pl_it_sh {T : Row → Row} (h : Lin T) (m : Nat) (g v : Row) : ∀ (i : Nat), pl T (m + i) (it sh i g) v = it T i (pl T m g v)
  | 0 => rfl
  | i + 1 => by
    show pl T (m + i + 1) (sh (it sh i g)) v = T (it T i (pl T m g v))
    rw [pl_sh h, pl_it_sh h m g v i]
/-- A product of polynomials, put into an operator. -/
theorem pl_mul {T : Row → Row} (h : Lin T) {m : Nat} {g : Row} (hg : Sup m g) (Q v : Row) (k : Nat) : ∀ (n : Nat), n ≤ k + 1 → pl T (m + k) (pl sh n Q g) v = pl T n Q (pl T m g v)
  | 0, _ => by
    show pl T (m + k) Row.z v = Row.z
    have := pl_bound' (T := T) (n := 0) (m := m + k) (Q := Row.z) (fun _ _ => rfl) v (by omega)
    rw [this]; rfl
  | n + 1, hn => by
    simp only [pl, pl_addQ, pl_smQ, pl_mul h hg Q v k n (by omega)]
    congr 2
    rw [← pl_it_sh h]
    exact pl_bound' (it_sh_sup hg n) v (by omega)

/-! ### Residues modulo a monic polynomial of degree M -/
def tm (M : Nat) (low : Row) (v : Row) : Row := fun j => if j < M then sh v j - v (M - 1) * low j else 0
theorem tm_lin (M : Nat) (low : Row) : Lin (tm M low) := ⟨fun u v => by
    funext j
    simp only [tm, Row.add]
    split
    · have := congrFun (sh_lin.add u v) j
      simp only [Row.add] at this
      rw [this, Int.add_mul]; omega
    · omega, fun c v => by
    funext j
    simp only [tm, Row.sm]
    split
    · have := congrFun (sh_lin.sm c v) j
      simp only [Row.sm] at this
      rw [this, Int.mul_sub, Int.mul_assoc]
    · simp⟩
theorem tm_sup (M : Nat) (low v : Row) : Sup M (tm M low v) := fun j hj => by simp only [tm]; rw [if_neg (by omega)]
theorem sup_add {n : Nat} {u v : Row} (hu : Sup n u) (hv : Sup n v) : Sup n (u.add v) := fun j hj => by simp only [Row.add, hu j hj, hv j hj]; rfl
theorem sup_sm {n : Nat} {u : Row} (c : Int) (hu : Sup n u) : Sup n (Row.sm c u) := fun j hj => by simp only [Row.sm, hu j hj]; simp
theorem it_tm_sup {M : Nat} {low v : Row} (hv : Sup M v) : ∀ n, Sup M (it (tm M low) n v)
  | 0 => hv
  | n + 1 => tm_sup M low _
theorem pl_tm_sup {M : Nat} {low v : Row} (hv : Sup M v) : ∀ n Q, Sup M (pl (tm M low) n Q v)
  | 0, _ => fun _ _ => rfl
  | n + 1, Q => sup_add (pl_tm_sup hv n Q) (sup_sm _ (it_tm_sup hv n))
theorem tm_ee {M : Nat} {low : Row} {k : Nat} (hk : k + 1 < M) : tm M low (ee k) = ee (k + 1) := by
  funext j
  simp only [tm, sh_ee]
  have h1 : ee k (M - 1) = 0 := by simp only [ee]; rw [if_neg (by omega)]
  rw [h1]
  by_cases hj : j < M
  · rw [if_pos hj]; omega
  · rw [if_neg hj]; simp only [ee]; rw [if_neg (by omega)]
theorem it_tm_e {M : Nat} {low : Row} : ∀ (k : Nat), k < M → it (tm M low) k (ee 0) = ee k
  | 0, _ => rfl
  | k + 1, h => by
    have h1 := it_tm_e (low := low) k (show k < M by omega)
    simp only [it, h1, tm_ee h]
theorem pl_tm_e {M : Nat} {low : Row} (a : Row) : ∀ (n : Nat), n ≤ M → pl (tm M low) n a (ee 0) = fun j => if j < n then a j else 0
  | 0, _ => by funext j; simp [pl, Row.z]
  | n + 1, h => by
    funext j
    have h3 := pl_tm_e (low := low) a n (show n ≤ M by omega)
    have h4 := it_tm_e (low := low) n (show n < M by omega)
    simp only [pl, h3, h4, Row.add, Row.sm, ee]
    by_cases h1 : j < n
    · rw [if_pos h1, if_neg (by omega), if_pos (by omega)]; omega
    · by_cases h2 : j = n
      · rw [if_neg h1, if_pos h2, if_pos (by omega), h2]; omega
      · rw [if_neg h1, if_neg h2, if_neg (by omega)]; omega
theorem pl_tm_self {M : Nat} {low a : Row} (ha : Sup M a) : pl (tm M low) M a (ee 0) = a := by
  rw [pl_tm_e a M (Nat.le_refl _)]
  funext j
  split
  · rfl
  · exact (ha j (by omega)).symm
/-- The modulus itself. -/
def fF (M : Nat) (low : Row) : Row := fun j => if j < M then low j else if j = M then 1 else 0
theorem fF_e {M : Nat} {low : Row} (hM : 1 ≤ M) : pl (tm M low) (M + 1) (fF M low) (ee 0) = Row.z := by
  rw [pl]
  have h1 : pl (tm M low) M (fF M low) (ee 0) = fun j => if j < M then low j else 0 := by
    rw [pl_tm_e _ M (Nat.le_refl _)]
    funext j
    by_cases h : j < M
    · simp [fF, h]
    · simp [h]
  have h2 : fF M low M = 1 := by simp [fF]
  have h3 : it (tm M low) M (ee 0) = tm M low (ee (M - 1)) := by
    obtain ⟨k, rfl⟩ : ∃ k, M = k + 1 := ⟨M - 1, by omega⟩
    have h4 := it_tm_e (low := low) k (show k < k + 1 by omega)
    simp only [it, h4]
    rfl
  rw [h1, h2, h3]
  funext j
  simp only [Row.add, Row.sm, tm, Row.z, sh_ee]
  have h4 : ee (M - 1) (M - 1) = 1 := by simp [ee]
  rw [h4]
  by_cases h : j < M
  · rw [if_pos h, if_pos h]
    have h5 : ee (M - 1 + 1) j = 0 := by simp only [ee]; rw [if_neg (by omega)]
    rw [h5]; omega
  · rw [if_neg h, if_neg h]; omega
theorem fF_v {M : Nat} {low v : Row} (hM : 1 ≤ M) (hv : Sup M v) : pl (tm M low) (M + 1) (fF M low) v = Row.z := by
  have h := pl_tm_self (low := low) hv
  rw [← h, pl_pl (tm_lin M low), fF_e hM, pl_z (tm_lin M low)]

/-- The product of two residues. -/
def rm (M : Nat) (low a b : Row) : Row := pl (tm M low) M b a
theorem rm_comm {M : Nat} {low a b : Row} (ha : Sup M a) (hb : Sup M b) : rm M low a b = rm M low b a := by
  have h1 : rm M low a b = pl (tm M low) M b (pl (tm M low) M a (ee 0)) := by rw [pl_tm_self ha]; rfl
  rw [h1, pl_pl (tm_lin M low), pl_tm_self hb]
  rfl
theorem rm_swap {M : Nat} {low a b c : Row} : rm M low (rm M low a b) c = rm M low (rm M low a c) b := pl_pl (tm_lin M low) M c M b a
theorem rm_sup {M : Nat} {low a b : Row} (ha : Sup M a) : Sup M (rm M low a b) := pl_tm_sup ha M b
theorem rm_assoc {M : Nat} {low a b c : Row} (ha : Sup M a) (hb : Sup M b) (hc : Sup M c) : rm M low (rm M low a b) c = rm M low a (rm M low b c) := by
  rw [rm_comm ha hb, rm_swap, rm_comm (rm_sup hb) ha]
theorem rm_one {M : Nat} {low a : Row} (ha : Sup M a) (hM : 1 ≤ M) : rm M low (ee 0) a = a := pl_tm_self ha
theorem rm_addL {M : Nat} {low a b c : Row} : rm M low (a.add b) c = (rm M low a c).add (rm M low b c) := (pl_lin (tm_lin M low) M c).add a b

/-! ### Modulo p -/
def Cg (p : Int) (u v : Row) : Prop := ∃ w : Row, u = v.add (Row.sm p w)
theorem Cg.refl (p : Int) (u : Row) : Cg p u u := ⟨Row.z, by rw [Row.sm_z, Row.add_z]⟩
theorem Cg.of_eq {p : Int} {u v : Row} (h : u = v) : Cg p u v := h ▸ Cg.refl p u
theorem Cg.symm {p : Int} {u v : Row} (h : Cg p u v) : Cg p v u := by
  obtain ⟨w, rfl⟩ := h
  exact ⟨Row.sm (-1) w, by funext j; simp only [Row.add, Row.sm]; grind⟩
theorem Cg.trans {p : Int} {u v w : Row} (h : Cg p u v) (k : Cg p v w) : Cg p u w := by
  obtain ⟨x, rfl⟩ := h
  obtain ⟨y, rfl⟩ := k
  exact ⟨y.add x, by rw [Row.sm_add, Row.add_assoc]⟩
theorem Cg.add {p : Int} {u v u' v' : Row} (h : Cg p u v) (k : Cg p u' v') : Cg p (u.add u') (v.add v') := by
  obtain ⟨x, rfl⟩ := h
  obtain ⟨y, rfl⟩ := k
  exact ⟨x.add y, by rw [Row.sm_add]; exact Row.add4 _ _ _ _⟩
theorem Cg.sm {p : Int} {u v : Row} (c : Int) (h : Cg p u v) : Cg p (Row.sm c u) (Row.sm c v) := by
  obtain ⟨x, rfl⟩ := h
  exact ⟨Row.sm c x, by rw [Row.sm_add, Row.sm_sm, Row.sm_sm, Int.mul_comm]⟩
theorem Cg.lin {p : Int} {u v : Row} {T : Row → Row} (hT : Lin T) (h : Cg p u v) : Cg p (T u) (T v) := by
  obtain ⟨x, rfl⟩ := h
  exact ⟨T x, by rw [hT.add, hT.sm]⟩
theorem Cg.pl {p : Int} {Q Q' u v : Row} {T : Row → Row} (hT : Lin T) (n : Nat) (hQ : Cg p Q Q') (h : Cg p u v) : Cg p (pl T n Q u) (Go.Proofs.Ytancpcmiimcdhaa.pl T n Q' v) := by
  refine Cg.trans (Cg.lin (pl_lin hT n Q) h) ?_
  obtain ⟨x, rfl⟩ := hQ
  exact ⟨Go.Proofs.Ytancpcmiimcdhaa.pl T n x v, by rw [pl_addQ, pl_smQ]⟩
theorem Cg.of {p : Int} {u v : Row} (h : ∀ j, u j % p = v j % p) : Cg p u v := ⟨fun j => u j / p - v j / p, by
  funext j
  have h1 := Int.mul_ediv_add_emod (u j) p
  have h2 := Int.mul_ediv_add_emod (v j) p
  have h3 := h j
  simp only [Row.add, Row.sm, Int.mul_sub]
  omega⟩
theorem Cg.emod {p : Int} {u v : Row} (h : Cg p u v) (j : Nat) : u j % p = v j % p := by
  obtain ⟨x, rfl⟩ := h
  simp [Row.add, Row.sm]
end Go.Proofs.Ytancpcmiimcdhaa

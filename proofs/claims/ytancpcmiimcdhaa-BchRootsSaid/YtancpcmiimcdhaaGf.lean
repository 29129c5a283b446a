/-
  A FIELD's TABLE. One sentence: what the tables of exponents and logarithms say of products, inverses and orders.
  Conditions: each theorem's own, written out in it. No program is named here.
-/
import Derived.Test.YtancpcmiimcdhaaAlg3
import Derived.Test.YtancpcmiimcdhaaCanon
set_option linter.unusedSimpArgs false
set_option linter.unusedVariables false
namespace Go.Proofs.Ytancpcmiimcdhaa

section
variable {g : GfM} {p m : Int} {mod : List Int}
theorem GOk.fld (h : GOk g p m mod) : FldR p m mod := by
  obtain ⟨x, hx⟩ := h.gen
  exact fldN_iff.1 ⟨h.shp, x, _, hx⟩
theorem GOk.q2 (h : GOk g p m mod) : 2 ≤ g.q ∧ g.q ≤ 256 := by
  have h1 := h.shp.1.q2
  have h2 := h.shp.1.q
  have h3 := h.eq
  omega
theorem GOk.elen (h : GOk g p m mod) : (g.exp.length : Int) = g.q - 1 := by
  obtain ⟨x, hx⟩ := h.gen
  rw [h.eq]; exact hx.len
theorem GOk.llen' (h : GOk g p m mod) : (g.log.length : Int) = g.q := by
  have := h.llen
  have := h.q2
  omega
/-- The logarithm of a residue that is not 0. -/
theorem GOk.log_spec (h : GOk g p m mod) {y : Int} (h0 : 0 < y) (h1 : y < g.q) : 0 ≤ g.log.getD y.toNat 0 ∧ g.log.getD y.toNat 0 < g.q - 1 ∧ g.exp.getD (g.log.getD y.toNat 0).toNat 0 = y := by
  obtain ⟨x, hx⟩ := h.gen
  have hl := h.elen
  have hm := hx.all h0 (by rw [← h.eq]; exact h1)
  obtain ⟨i, hi, he⟩ := List.getElem_of_mem hm
  have h2 := h.log i hi
  have h3 : g.exp.getD i 0 = y := by rw [List.getD_eq_getElem?_getD, List.getElem?_eq_getElem hi]; exact he
  rw [h3] at h2
  rw [h2]
  exact ⟨by omega, by omega, by rw [Int.toNat_natCast]; exact h3⟩
theorem GOk.exp_bd (h : GOk g p m mod) {i : Int} (h0 : 0 ≤ i) (h1 : i < g.q - 1) : 0 < g.exp.getD i.toNat 0 ∧ g.exp.getD i.toNat 0 < g.q := by
  obtain ⟨x, hx⟩ := h.gen
  have hl := h.elen
  have hi : i.toNat < g.exp.length := by omega
  have := hx.pow.nz _ (List.getElem_mem hi)
  rw [List.getD_eq_getElem?_getD, List.getElem?_eq_getElem hi, h.eq]
  exact this
theorem IsGen.pw_q {x : Int} {l : List Int} (hs : Shp p m mod) (hg : IsGen p m mod x l) : pwI p m mod x l.length = 1 := by
  have hx : 0 ≤ x ∧ x < pw p m := ⟨by have := hg.x1; omega, hg.x2⟩
  have h1 := hg.len
  have h2 := hg.pow.one
  have h3 := hg.pow.get (l.length - 1) (by omega)
  have h4 := hg.last
  rw [show (pw p m - 2).toNat = l.length - 1 by omega, h3, ← pwI_succ hs hx, show l.length - 1 + 1 = l.length by omega] at h4
  exact h4
theorem IsGen.pw_mod {x : Int} {l : List Int} (hs : Shp p m mod) (hg : IsGen p m mod x l) (n : Nat) : pwI p m mod x n = pwI p m mod x (n % l.length) := by
  have hx : 0 ≤ x ∧ x < pw p m := ⟨by have := hg.x1; omega, hg.x2⟩
  have key : ∀ k r, pwI p m mod x (l.length * k + r) = pwI p m mod x r := by
    intro k r
    induction k with
    | zero => simp
    | succ k ih =>
      have hb := pwI_bd hs hx (l.length * k + r)
      rw [show l.length * (k + 1) + r = l.length + (l.length * k + r) by rw [Nat.mul_succ]; omega, pwI_add hs hx, hg.pw_q hs, mulI_one hs hb.1 hb.2, ih]
  have h1 := key (n / l.length) (n % l.length)
  rwa [Nat.div_add_mod] at h1
/-- The product, by the table. -/
theorem GOk.mul (h : GOk g p m mod) {a b : Int} (ha : 0 < a ∧ a < g.q) (hb : 0 < b ∧ b < g.q) : g.exp.getD ((g.log.getD a.toNat 0 + g.log.getD b.toNat 0) % (g.q - 1)).toNat 0 = mulI p m mod a b := by
  obtain ⟨x, hx⟩ := h.gen
  have hs := h.shp.1
  have hl := h.elen
  have hq := h.q2
  have hxb : 0 ≤ x ∧ x < pw p m := ⟨by have := hx.x1; omega, hx.x2⟩
  obtain ⟨i0, i1, i2⟩ := h.log_spec ha.1 ha.2
  obtain ⟨j0, j1, j2⟩ := h.log_spec hb.1 hb.2
  generalize g.log.getD a.toNat 0 = i at *
  generalize g.log.getD b.toNat 0 = j at *
  have h1 := hx.pow.get i.toNat (by omega)
  have h2 := hx.pow.get j.toNat (by omega)
  have e0 := Int.emod_nonneg (i + j) (show g.q - 1 ≠ 0 by omega)
  have e1 := Int.emod_lt_of_pos (i + j) (show 0 < g.q - 1 by omega)
  have h3 := hx.pow.get ((i + j) % (g.q - 1)).toNat (by omega)
  rw [i2] at h1
  rw [j2] at h2
  rw [h3, h1, h2, ← pwI_add hs hxb, hx.pw_mod hs (i.toNat + j.toNat)]
  congr 1
  have : (((i.toNat + j.toNat) % g.exp.length : Nat) : Int) = (i + j) % (g.q - 1) := by
    rw [← hl]
    simp only [Int.natCast_emod, Int.natCast_add]
    rw [Int.toNat_of_nonneg i0, Int.toNat_of_nonneg j0]
  omega
/-- The inverse, by the table. -/
theorem GOk.inv (h : GOk g p m mod) {a : Int} (ha : 0 < a ∧ a < g.q) : g.exp.getD ((g.q - 1 - g.log.getD a.toNat 0) % (g.q - 1)).toNat 0 = invI p m mod a := by
  have hs := h.shp.1
  have hq := h.q2
  have heq := h.eq
  have hF := h.fld
  obtain ⟨i0, i1, i2⟩ := h.log_spec ha.1 ha.2
  have e0 := Int.emod_nonneg (g.q - 1 - g.log.getD a.toNat 0) (show g.q - 1 ≠ 0 by omega)
  have e1 := Int.emod_lt_of_pos (g.q - 1 - g.log.getD a.toNat 0) (show 0 < g.q - 1 by omega)
  have hb := h.exp_bd e0 e1
  have hi := invI_spec hF (z := a) ⟨ha.1, by omega⟩
  refine mul_inj hF (z := a) ⟨by omega, by omega⟩ ⟨hi.1, hi.2.1⟩ ⟨ha.1, by omega⟩ ?_
  rw [hi.2.2, ← h.mul hb ha]
  obtain ⟨j0, j1, j2⟩ := h.log_spec hb.1 hb.2
  obtain ⟨x, hx⟩ := h.gen
  have hl := h.elen
  -- the logarithm of exp k is k
  have h5 : g.log.getD (g.exp.getD ((g.q - 1 - g.log.getD a.toNat 0) % (g.q - 1)).toNat 0).toNat 0 = (g.q - 1 - g.log.getD a.toNat 0) % (g.q - 1) := by
    have := h.log ((g.q - 1 - g.log.getD a.toNat 0) % (g.q - 1)).toNat (by omega)
    rw [this]; omega
  rw [h5]
  have h6 : ((g.q - 1 - g.log.getD a.toNat 0) % (g.q - 1) + g.log.getD a.toNat 0) % (g.q - 1) = 0 := by
    rw [Int.emod_add_emod, show g.q - 1 - g.log.getD a.toNat 0 + g.log.getD a.toNat 0 = g.q - 1 by omega, Int.emod_self]
  rw [h6]
  have := hx.pow.get 0 (by omega)
  exact this
/-! ### Orders -/
/-- t is the least exponent from 1 on at which the power of y is 1. -/
structure OrdI (p m : Int) (mod : List Int) (y : Int) (t : Nat) : Prop where
  pos : 1 ≤ t
  one : pwI p m mod y t = 1
  least : ∀ s, 1 ≤ s → s < t → pwI p m mod y s ≠ 1
theorem OrdI.unique {y : Int} {t t' : Nat} (h : OrdI p m mod y t) (h' : OrdI p m mod y t') : t = t' := by
  rcases Nat.lt_trichotomy t t' with h1 | h1 | h1
  · exact absurd h.one (h'.least t h.pos h1)
  · exact h1
  · exact absurd h'.one (h.least t' h'.pos h1)
open Classical in
noncomputable def mord (p m : Int) (mod : List Int) (y : Int) : Nat := if h : ∃ t, OrdI p m mod y t then Classical.choose h else 0
theorem OrdI.eq {y : Int} {t : Nat} (h : OrdI p m mod y t) : mord p m mod y = t := by
  have h1 : ∃ t, OrdI p m mod y t := ⟨t, h⟩
  rw [mord, dif_pos h1]
  exact (Classical.choose_spec h1).unique h
theorem pwI_mul (hs : Shp p m mod) {x : Int} (hx : 0 ≤ x ∧ x < pw p m) (i : Nat) : ∀ t, pwI p m mod (pwI p m mod x i) t = pwI p m mod x (i * t)
  | 0 => rfl
  | t + 1 => by
    rw [pwI_succ hs (pwI_bd hs hx i), pwI_mul hs hx i t, ← pwI_add hs hx, Nat.mul_succ]
theorem IsGen.pw_one {x : Int} {l : List Int} (hs : Shp p m mod) (hg : IsGen p m mod x l) (k : Nat) : pwI p m mod x k = 1 ↔ l.length ∣ k := by
  have h1 := hg.pow.one
  rw [hg.pw_mod hs k]
  constructor
  · intro h
    refine Nat.dvd_of_mod_eq_zero ?_
    have h2 := hg.pow.get (k % l.length) (Nat.mod_lt _ h1)
    have h3 := hg.pow.get 0 (by omega)
    have h4 : pwI p m mod x 0 = 1 := rfl
    rcases Nat.eq_zero_or_pos (k % l.length) with h5 | h5
    · exact h5
    · exfalso
      have h6 := Nat.mod_lt k h1
      rw [h, ← h4, ← h3] at h2
      rw [List.getD_eq_getElem?_getD, List.getElem?_eq_getElem h6, List.getD_eq_getElem?_getD, List.getElem?_eq_getElem (show 0 < l.length by omega)] at h2
      exact (List.pairwise_iff_getElem.1 hg.pow.nodup) 0 (k % l.length) (by omega) h6 h5 (by simpa using h2.symm)
  · intro h
    rw [Nat.mod_eq_zero_of_dvd h]; rfl
theorem GOk.ord (h : GOk g p m mod) {y : Int} (hy : 0 < y ∧ y < g.q) : OrdI p m mod y ((g.q - 1).toNat / Nat.gcd (g.q - 1).toNat (g.log.getD y.toNat 0).toNat) := by
  obtain ⟨x, hx⟩ := h.gen
  have hs := h.shp.1
  have hl := h.elen
  have hq := h.q2
  have hxb : 0 ≤ x ∧ x < pw p m := ⟨by have := hx.x1; omega, hx.x2⟩
  obtain ⟨i0, i1, i2⟩ := h.log_spec hy.1 hy.2
  generalize (g.log.getD y.toNat 0) = i at *
  have hn : g.exp.length = (g.q - 1).toNat := by omega
  have h1 := hx.pow.get i.toNat (by omega)
  rw [i2] at h1
  generalize i.toNat = k at *
  have hone := fun t => hx.pw_one hs (k * t)
  rw [hn] at hone
  generalize hN : (g.q - 1).toNat = n at *
  have hn0 : 0 < n := by omega
  have hg0 : 0 < Nat.gcd n k := Nat.gcd_pos_of_pos_left _ hn0
  have hdn : Nat.gcd n k ∣ n := Nat.gcd_dvd_left _ _
  have hdk : Nat.gcd n k ∣ k := Nat.gcd_dvd_right _ _
  have hpos : 1 ≤ n / Nat.gcd n k := Nat.div_pos (Nat.le_of_dvd hn0 hdn) hg0
  have key : ∀ t, n ∣ k * t ↔ n / Nat.gcd n k ∣ t := fun t => by
    have hc : Nat.Coprime (n / Nat.gcd n k) (k / Nat.gcd n k) := Nat.coprime_div_gcd_div_gcd hg0
    have e1 : n = Nat.gcd n k * (n / Nat.gcd n k) := (Nat.mul_div_cancel' hdn).symm
    have e2 : k = Nat.gcd n k * (k / Nat.gcd n k) := (Nat.mul_div_cancel' hdk).symm
    constructor
    · intro hd
      have h3 : Nat.gcd n k * (n / Nat.gcd n k) ∣ Nat.gcd n k * ((k / Nat.gcd n k) * t) := by
        rw [← e1, ← Nat.mul_assoc, ← e2]; exact hd
      exact hc.dvd_of_dvd_mul_left (Nat.dvd_of_mul_dvd_mul_left hg0 h3)
    · rintro ⟨c, rfl⟩
      have : k * (n / Nat.gcd n k * c) = n * ((k / Nat.gcd n k) * c) := by
        clear hpos hc
        generalize n / Nat.gcd n k = a at e1 e2 ⊢
        generalize k / Nat.gcd n k = b at e1 e2 ⊢
        generalize Nat.gcd n k = d at e1 e2 ⊢
        calc k * (a * c) = (d * b) * (a * c) := by rw [← e2]
          _ = (d * a) * (b * c) := by ac_rfl
          _ = n * (b * c) := by rw [← e1]
      rw [this]
      exact Nat.dvd_mul_right _ _
  refine ⟨hpos, ?_, fun s hs1 hs2 he => ?_⟩
  · rw [h1, pwI_mul hs hxb, hone, key]
    exact Nat.dvd_refl _
  · rw [h1, pwI_mul hs hxb, hone, key] at he
    have := Nat.le_of_dvd (by omega) he
    omega
end

/-! ### The reference's product -/
/-- One step of the reduction from the top: entry i goes, its multiples of the modulus come. -/
theorem reduce_step {p : Int} {M : Nat} {low c c' : Row} (hM : 1 ≤ M) {i : Nat} (hi : M ≤ i) (hc : ∀ k, k < i → c' k % p = (c k + (p - c i) * (if i ≤ k + M then low (k + M - i) else 0)) % p) :
    Cg p (pl (tm M low) i c' (ee 0)) (pl (tm M low) (i + 1) c (ee 0)) := by
  have hT := tm_lin M low
  -- the step as a row: minus c i times the shifted low
  have hlow : Sup M (fun j => if j < M then low j else 0 : Row) := fun j hj => by show (if j < M then _ else _) = _; rw [if_neg (by omega)]
  have h1 : Cg p (pl (tm M low) i c' (ee 0)) (pl (tm M low) i (c.add (Row.sm (-(c i)) (it sh (i - M) (fun j => if j < M then low j else 0)))) (ee 0)) := by
    have h2 : pl (tm M low) i c' (ee 0) = pl (tm M low) i (fun k => if k < i then c' k else 0) (ee 0) := pl_cong i _ _ _ (fun k hk => by rw [if_pos hk])
    have h3 : pl (tm M low) i (c.add (Row.sm (-(c i)) (it sh (i - M) (fun j => if j < M then low j else 0)))) (ee 0) = pl (tm M low) i (fun k => if k < i then (c.add (Row.sm (-(c i)) (it sh (i - M) (fun j => if j < M then low j else 0)))) k else 0) (ee 0) := pl_cong i _ _ _ (fun k hk => by rw [if_pos hk])
    rw [h2, h3]
    refine Cg.pl hT i (Cg.of fun k => ?_) (Cg.refl _ _)
    by_cases hk : k < i
    · rw [if_pos hk, if_pos hk, hc k hk]
      simp only [Row.add, Row.sm, it_sh]
      by_cases h4 : i ≤ k + M
      · rw [if_pos h4, if_neg (by omega), if_pos (by omega), show k - (i - M) = k + M - i by omega]
        have : c k + (p - c i) * low (k + M - i) = (c k + -(c i) * low (k + M - i)) + p * low (k + M - i) := by grind
        rw [this, Int.add_mul_emod_self_left]
      · rw [if_neg h4, if_pos (by omega)]; simp
    · rw [if_neg hk, if_neg hk]
  refine Cg.trans h1 (Cg.of_eq ?_)
  rw [pl_addQ, pl_smQ, pl]
  congr 1
  have h5 : pl (tm M low) i (it sh (i - M) (fun j => if j < M then low j else 0)) (ee 0) = it (tm M low) (i - M) (fun j => if j < M then low j else 0) := by
    have h6 := pl_it_sh hT M (fun j => if j < M then low j else 0) (ee 0) (i - M)
    rw [show M + (i - M) = i by omega] at h6
    rw [h6, pl_tm_self hlow]
  have h7 : it (tm M low) i (ee 0) = it (tm M low) (i - M) (Row.sm (-1) (fun j => if j < M then low j else 0)) := by
    have h8 : ∀ a b : Nat, it (tm M low) (a + b) (ee 0) = it (tm M low) a (it (tm M low) b (ee 0)) := fun a b => by
      induction a with
      | zero => simp [it]
      | succ a ih => rw [show a + 1 + b = (a + b) + 1 by omega]; simp only [it, ih]
    have h9 : it (tm M low) M (ee 0) = Row.sm (-1) (fun j => if j < M then low j else 0) := by
      obtain ⟨k, rfl⟩ : ∃ k, M = k + 1 := ⟨M - 1, by omega⟩
      have h10 := it_tm_e (low := low) k (show k < k + 1 by omega)
      simp only [it, h10]
      funext j
      simp only [tm, sh_ee, Row.sm]
      have h11 : ee k (k + 1 - 1) = 1 := by simp [ee]
      rw [h11]
      by_cases hj : j < k + 1
      · rw [if_pos hj, if_pos hj]
        have h12 : ee (k + 1) j = 0 := by simp only [ee]; rw [if_neg (by omega)]
        rw [h12]; omega
      · rw [if_neg hj, if_neg hj]; simp
    rw [show i = (i - M) + M by omega, h8, h9, show i - M + M - M = i - M by omega]
  rw [h5, h7, (it_lin hT (i - M)).sm, Row.sm_sm]
  congr 1
  omega
/-- The product of two polynomials, put into the residues, is the product of the residues. -/
theorem conv_row {M : Nat} {low a b : Row} (ha : Sup M a) (hM : 1 ≤ M) : pl (tm M low) (2 * M - 1) (pl sh M b a) (ee 0) = rm M low a b := by
  have h := pl_mul (tm_lin M low) ha b (ee 0) (M - 1) M (by omega)
  rw [show M + (M - 1) = 2 * M - 1 by omega, pl_tm_self ha] at h
  exact h
theorem set_row {p : Int} {c : List Int} {k : Nat} {v d : Int} (hk : k < c.length) (hv : v % p = (c.getD k 0 + d) % p) : Cg p (rl (c.set k v)) ((rl c).add (Row.sm d (ee k))) := Cg.of fun j => by
  simp only [rl, Row.add, Row.sm, ee]
  rw [getD_set]
  by_cases h : k = j
  · subst h; rw [if_pos ⟨rfl, hk⟩, if_pos rfl, hv]; congr 1; omega
  · rw [if_neg (by omega), if_neg (by omega)]; congr 1; omega
/-- b, its first j entries. -/
def upTo (j : Nat) (b : Row) : Row := fun k => if k < j then b k else 0
theorem upTo_succ (i j : Nat) (b : Row) : it sh i (upTo (j + 1) b) = (it sh i (upTo j b)).add (Row.sm (b j) (ee (i + j))) := by
  funext k
  simp only [it_sh, upTo, Row.add, Row.sm, ee]
  by_cases h1 : k < i
  · rw [if_pos h1, if_pos h1, if_neg (by omega)]; omega
  · rw [if_neg h1, if_neg h1]
    by_cases h2 : k - i < j
    · rw [if_pos h2, if_pos (by omega), if_neg (by omega)]; omega
    · by_cases h3 : k = i + j
      · rw [if_neg h2, if_pos (by omega), if_pos h3, show k - i = j by omega]; omega
      · rw [if_neg h2, if_neg (by omega), if_neg h3]; omega
theorem upTo_all {j : Nat} {b : Row} (h : Sup j b) : upTo j b = b := by
  funext k
  simp only [upTo]
  split
  · rfl
  · exact (h k (by omega)).symm
theorem upTo_zero (i : Nat) (b : Row) : it sh i (upTo 0 b) = Row.z := by
  funext k
  simp only [it_sh, upTo, Row.z]
  split
  · rfl
  · rw [if_neg (by omega)]
theorem vl_take {p : Int} (hp : 2 ≤ p) {c : List Int} (hc : AllIn p c) {M : Nat} (hM : M ≤ c.length) : vl p (c.take M) = rv p M (rl c) := by
  unfold rv
  congr 1
  apply List.ext_getElem
  · simp; omega
  · intro i h1 h2
    have h3 : i < c.length := by simp at h1; omega
    have h4 := hc _ (List.getElem_mem h3)
    simp only [List.getElem_take, List.getElem_map, List.getElem_range, rl]
    rw [List.getD_eq_getElem?_getD, List.getElem?_eq_getElem h3]
    exact (Int.emod_eq_of_lt h4.1 h4.2).symm
/-- What the two passes of the reference's product come to. -/
theorem mul_done {p m : Int} {mod : List Int} (h : Shp p m mod) {X Y : Int} {c : List Int} (hc : AllIn p c) (hl : m.toNat ≤ c.length)
    (hr : Cg p (pl (tm m.toNat (rl mod)) m.toNat (rl c) (ee 0)) (rm m.toNat (rl mod) (dg p m.toNat Y) (dg p m.toNat X))) : vl p (c.take m.toNat) = mulI p m mod X Y := by
  rw [vl_take h.p2 hc hl, mulI_eq h, rm_comm (dg_sup _ _ _) (dg_sup _ _ _), ← rv_cg hr]
  refine rv_cong fun j hj => ?_
  rw [pl_tm_e (low := rl mod) (rl c) m.toNat (Nat.le_refl _)]
  simp only [if_pos hj]
theorem ord_ex {p m : Int} {mod : List Int} (h : FldR p m mod) {y : Int} (hy : 0 < y ∧ y < pw p m) : ∃ t, OrdI p m mod y t ∧ (t : Int) ≤ pw p m - 1 := by
  letI := elFd h
  have hq := h.1.1.q2
  have h1 : pwI p m mod y (pw p m - 1).toNat = 1 := by
    have h2 := (elNz_nz h).pow (a := (⟨y, by omega, hy.2⟩ : El p m mod)) (fun e => by
      have : y = 0 := congrArg Subtype.val e
      omega)
    rw [elNz_len] at h2
    have h3 := pow_val h (⟨y, by omega, hy.2⟩ : El p m mod) (pw p m - 1).toNat
    rw [h2] at h3
    exact h3.symm
  obtain ⟨t, ht, hmin⟩ := least_nat (P := fun t => 1 ≤ t ∧ pwI p m mod y t = 1) ⟨(pw p m - 1).toNat, by omega, h1⟩
  refine ⟨t, ⟨ht.1, ht.2, fun s hs1 hs2 he => hmin s hs2 ⟨hs1, he⟩⟩, ?_⟩
  have : t ≤ (pw p m - 1).toNat := Nat.le_of_not_lt (fun hlt => hmin _ hlt ⟨by omega, h1⟩)
  omega
end Go.Proofs.Ytancpcmiimcdhaa

/-
  CYCLICDIVIDES, PART 5 OF 10. One sentence: the texts behind the law CyclicDivides, put together.
  Conditions: each theorem's own, written out in it.
-/
import Derived.Test.YtdkahdehodopoaaGreatK4
set_option linter.unusedSimpArgs false
set_option linter.unusedVariables false
set_option linter.unusedSectionVars false
namespace Go.Proofs.YtdkahdehodopoaaGreat
open Go.RowKit
theorem take_map_succ {α : Type} (f : Nat → α) (qs : List Nat) {k : Nat} (hk : k < qs.length) : (qs.take (k + 1)).map f = (qs.take k).map f ++ [f (qs.getD k 0)] := by
 rw [List.take_add_one, List.getElem?_eq_getElem hk, List.map_append, List.getD_eq_getElem?_getD, List.getElem?_eq_getElem hk]
 rfl
namespace Vc
variable {K : Type} [Fd K]
def upC (c : Nat → K) (k : Nat) : Nat → K := fun i => if i < k then c i else 0
theorem cmb_congr {c d : Nat → K} {V : List (Vc K)} (h : ∀ i, i < V.length → c i = d i) : cmb c V = cmb d V := ext fun j => by
 rw [cmb_at _ 0, cmb_at _ 0]
 exact Rg.sm_congr fun i hi => by rw [h i hi]
theorem cmb_up_zero (c : Nat → K) (V : List (Vc K)) : cmb (upC c 0) V = 0 := by
 rw [← cmb_zero V]; exact cmb_congr fun i _ => by unfold upC; rw [if_neg (by omega)]
theorem cmb_up_succ (c : Nat → K) {V : List (Vc K)} {k : Nat} (hk : k < V.length) : cmb (upC c (k + 1)) V = cmb (upC c k) V + sc (c k) (V.getD k 0) := by
 rw [← cmb_unit 0 V k hk, ← cmb_sc, ← cmb_add]
 refine cmb_congr fun i _ => ?_
 unfold upC
 rcases Nat.lt_trichotomy i k with h | h | h
 ·rw [if_pos (by omega), if_pos h, if_neg (by omega), Fd.mul_zero, Fd.add_zero]
 ·rw [if_pos (by omega), if_neg (by omega), if_pos h, Fd.mul_one, Rg.zero_add, h]
 ·rw [if_neg (by omega), if_neg (by omega), if_neg (by omega), Fd.mul_zero, Fd.add_zero]
theorem cmb_up_all (c : Nat → K) {V : List (Vc K)} {k : Nat} (hk : V.length ≤ k) : cmb (upC c k) V = cmb c V := cmb_congr fun i hi => by unfold upC; rw [if_pos (by omega)]
theorem Rr.up_at {n : Nat} {R : List (Vc K)} {ps : List Nat} (h : Rr n R ps) (c : Nat → K) {k : Nat} (hk : k < ps.length) : cmb (upC c k) R (ps.getD k 0) = 0 := by
 rw [h.at_piv _ hk]; unfold upC; rw [if_neg (by omega)]
theorem Rr.mem_iff {n : Nat} {R : List (Vc K)} {ps : List Nat} (h : Rr n R ps) (u : Vc K) : SpL R u ↔ u - cmb (fun i => u (ps.getD i 0)) R = 0 := by
 constructor
 ·intro hu
  have := h.eq hu
  exact ext fun j => by rw [sub_at, ← this]; exact Rg.sub_self _
 ·intro h0
  have : u = cmb (fun i => u (ps.getD i 0)) R := ext fun j => by
   have := congrFun h0 j
   exact Rg.eq_of_sub this
  rw [this]; exact cmb_sp _ R
end Vc
section
variable {p m : Int} {mod : List Int} [hF : IsF p m mod]
noncomputable def memB (p m : Int) (mod : List Int) [hF : IsF p m mod] (rs : List RowM) (l : List Int) : Bool := @decide (Vc.SpL (vsR rs : List (Vc (El p m mod))) (rw' l)) (Classical.propDecidable _)
theorem memB_iff {rs : List RowM} {l : List Int} : memB p m mod rs l = true ↔ Vc.SpL (vsR rs : List (Vc (El p m mod))) (rw' l) := @decide_eq_true_iff _ (Classical.propDecidable _)
theorem rw_zero_iff {o : List Int} (ho : AllIn (pw p m) o) : (rw' o : Vc (El p m mod)) = 0 ↔ ∀ z ∈ o, z = 0 := by
 have hq := hF.q2
 constructor
 ·intro h z hz
  obtain ⟨j, hj, rfl⟩ := List.getElem_of_mem hz
  have e : (el (o.getD j 0) : El p m mod) = 0 := congrFun h j
  rw [el_eq_zero (ho.get (by omega) j), List.getD_eq_getElem?_getD, List.getElem?_eq_getElem hj] at e
  exact e
 ·intro h
  refine Vc.ext fun j => ?_
  have : o.getD j 0 = 0 := by
   rcases Nat.lt_or_ge j o.length with hj | hj
   ·exact h _ (getD_mem hj 0)
   ·exact getD_out hj
  rw [rw_at, this, el_zero]; rfl
theorem memB_eq {n : Nat} {rs : List RowM} {qs : List Nat} (h : Vc.Rr n (vsR rs : List (Vc (El p m mod))) qs) {l o : List Int} (ho : AllIn (pw p m) o) (e : (rw' o : Vc (El p m mod)) = rw' l - Vc.cmb (fun i => rw' l (qs.getD i 0)) (vsR rs)) :
  memB p m mod rs l = true ↔ ∀ z ∈ o, z = 0 := by rw [memB_iff, h.mem_iff, ← e, rw_zero_iff ho]
theorem ofNat_getD (qs : List Nat) (k : Nat) : (qs.map Int.ofNat).getD k 0 = (qs.getD k 0 : Int) := by
 rw [List.getD_eq_getElem?_getD, List.getD_eq_getElem?_getD, List.getElem?_map]
 cases qs[k]? <;> rfl
end
end Go.Proofs.YtdkahdehodopoaaGreat

namespace Go.Proofs.YtdkahdehodopoaaGreat
open Go.RowKit
def nxI (m i : Nat) : Nat := i / m * m + (i % m + 1) % m
def pvI (m j : Nat) : Nat := j / m * m + (j % m + (m - 1)) % m
theorem blk_div {m q r : Nat} (hr : r < m) : (q * m + r) / m = q ∧ (q * m + r) % m = r := by
 rw [Nat.add_comm, Nat.mul_comm]
 exact ⟨by rw [Nat.add_mul_div_left _ _ (by omega), Nat.div_eq_of_lt hr]; omega, by rw [Nat.add_mul_mod_self_left, Nat.mod_eq_of_lt hr]⟩
theorem pv_nx {m : Nat} (hm : 1 ≤ m) (i : Nat) : pvI m (nxI m i) = i := by
 have h1 := Nat.mod_lt (i % m + 1) (show m > 0 by omega)
 have h2 := Nat.mod_lt i (show m > 0 by omega)
 have h3 := Nat.div_add_mod i m
 unfold pvI nxI
 rw [(blk_div h1).1, (blk_div h1).2]
 have : ((i % m + 1) % m + (m - 1)) % m = i % m := by
  by_cases h : i % m + 1 = m
  ·rw [h, Nat.mod_self, Nat.zero_add, Nat.mod_eq_of_lt (by omega)]; omega
  ·rw [Nat.mod_eq_of_lt (show i % m + 1 < m by omega), show i % m + 1 + (m - 1) = i % m + m by omega, Nat.add_mod_right, Nat.mod_eq_of_lt h2]
 rw [this, Nat.mul_comm]; exact h3
theorem nx_pv {m : Nat} (hm : 1 ≤ m) (j : Nat) : nxI m (pvI m j) = j := by
 have h1 := Nat.mod_lt (j % m + (m - 1)) (show m > 0 by omega)
 have h2 := Nat.mod_lt j (show m > 0 by omega)
 have h3 := Nat.div_add_mod j m
 unfold pvI nxI
 rw [(blk_div h1).1, (blk_div h1).2]
 have : ((j % m + (m - 1)) % m + 1) % m = j % m := by
  by_cases h : j % m = 0
  ·rw [h, Nat.zero_add, Nat.mod_eq_of_lt (show m - 1 < m by omega), show m - 1 + 1 = m by omega, Nat.mod_self]
  ·rw [show j % m + (m - 1) = (j % m - 1) + m by omega, Nat.add_mod_right, Nat.mod_eq_of_lt (show j % m - 1 < m by omega), show j % m - 1 + 1 = j % m by omega, Nat.mod_eq_of_lt h2]
 rw [this, Nat.mul_comm]; exact h3
theorem blk_lt {m n q r : Nat} (hd : m ∣ n) (hr : r < m) (hq : q * m < n) : q * m + r < n := by
 obtain ⟨k, rfl⟩ := hd
 have : q < k := by
  rcases Nat.lt_or_ge q k with h | h
  ·exact h
  ·have := Nat.mul_le_mul_right m h; rw [Nat.mul_comm m k] at hq; omega
 have := Nat.mul_le_mul_right m (show q + 1 ≤ k by omega)
 rw [Nat.mul_comm m k]
 rw [Nat.add_mul] at this
 omega
theorem nx_lt {m n i : Nat} (hm : 1 ≤ m) (hd : m ∣ n) (hi : i < n) : nxI m i < n := blk_lt hd (Nat.mod_lt _ (by omega)) (by have := Nat.div_mul_le_self i m; omega)
theorem pv_lt {m n j : Nat} (hm : 1 ≤ m) (hd : m ∣ n) (hj : j < n) : pvI m j < n := blk_lt hd (Nat.mod_lt _ (by omega)) (by have := Nat.div_mul_le_self j m; omega)
def shF (m : Nat) (l : List Int) : List Int := (List.range l.length).map fun j => l.getD (pvI m j) 0
@[simp] theorem shF_length (m : Nat) (l : List Int) : (shF m l).length = l.length := by simp [shF]
theorem shF_get (m : Nat) (l : List Int) {j : Nat} (h : j < l.length) : (shF m l).getD j 0 = l.getD (pvI m j) 0 := by
 unfold shF; rw [List.getD_eq_getElem?_getD, List.getElem?_map, List.getElem?_range h]; rfl
theorem shF_in {q : Int} (hq : 1 ≤ q) {m : Nat} {l : List Int} (h : AllIn q l) : AllIn q (shF m l) := fun z hz => by
 unfold shF at hz
 obtain ⟨j, _, rfl⟩ := List.mem_map.1 hz
 exact h.get hq _
theorem shF_done {m : Nat} (hm : 1 ≤ m) {l o : List Int} (hd : m ∣ l.length) (ho : o.length = l.length) (h : ∀ i, i < l.length → o.getD (nxI m i) 0 = l.getD i 0) : o = shF m l := ext_getD (by rw [ho, shF_length]) fun j => by
 by_cases hj : j < l.length
 ·rw [shF_get m l hj, ← h _ (pv_lt hm hd hj), nx_pv hm]
 ·rw [getD_out (by omega), getD_out (by rw [shF_length]; omega)]
theorem shF_step {m : Nat} (hm : 1 ≤ m) {l o : List Int} {k : Nat} (hd : m ∣ l.length) (ho : o.length = l.length) (hk : k < l.length) (h : ∀ i, i < k → o.getD (nxI m i) 0 = l.getD i 0) {i : Nat} (hi : i < k + 1) : (o.set (nxI m k) (l.getD k 0)).getD (nxI m i) 0 = l.getD i 0 := by
 rw [getD_set]
 by_cases he : nxI m k = nxI m i
 ·have : k = i := by rw [← pv_nx hm k, he, pv_nx hm]
  rw [if_pos ⟨he, by rw [← he, ho]; exact nx_lt hm hd hk⟩, this]
 ·rw [if_neg (fun e => he e.1)]
  refine h i ?_
  rcases Nat.lt_or_ge i k with h1 | h1
  ·exact h1
  ·exact absurd (by rw [show i = k by omega]) he
theorem nx_int {m i : Int} (hm : 1 ≤ m) (hi : 0 ≤ i) : i / m * m + (i - i / m * m + 1) % m = (nxI m.toNat i.toNat : Int) := by
 obtain ⟨a, rfl⟩ := Int.eq_ofNat_of_zero_le (show 0 ≤ m by omega)
 obtain ⟨b, rfl⟩ := Int.eq_ofNat_of_zero_le hi
 have e : (b : Int) - (b : Int) / (a : Int) * (a : Int) = (b : Int) % (a : Int) := by
  rw [Int.emod_def, Int.mul_comm (a : Int)]
 rw [e]
 unfold nxI
 simp only [Int.toNat_natCast]
 push_cast
 rfl
theorem pv_full {n j : Nat} (hj : j < n) : pvI n j = (j + (n - 1)) % n := by
 unfold pvI
 rw [Nat.div_eq_of_lt hj, Nat.mod_eq_of_lt hj, Nat.zero_mul, Nat.zero_add]
noncomputable def closB (p m : Int) (mod : List Int) [hF : IsF p m mod] (k : Nat) (rs : List RowM) : Bool := rs.all fun r => memB p m mod rs (shF k r.xs)
section
variable {p m : Int} {mod : List Int} [hF : IsF p m mod] {k : Nat} {rs : List RowM}
theorem closB_iff : closB p m mod k rs = true ↔ ∀ r ∈ rs, memB p m mod rs (shF k r.xs) = true := List.all_eq_true
theorem closB_all (h : ∀ j : Nat, j < rs.length → memB p m mod rs (shF k (rs.getD j rowD).xs) = true) : closB p m mod k rs = true := closB_iff.2 fun r hr => by
 obtain ⟨j, hj, rfl⟩ := List.getElem_of_mem hr
 have := h j hj
 rwa [List.getD_eq_getElem?_getD, List.getElem?_eq_getElem hj] at this
theorem closB_no {j : Nat} (hj : j < rs.length) (h : memB p m mod rs (shF k (rs.getD j rowD).xs) = false) : closB p m mod k rs = false := by
 cases hc : closB p m mod k rs with
 | false => rfl
 | true => rw [closB_iff.1 hc _ (getD_mem hj rowD)] at h; cases h
end
section
variable {K : Type} [Fd K]
def shV (k n : Nat) (u : Vc K) : Vc K := fun j => if j < n then u (pvI k j) else 0
theorem shV_at (k n : Nat) (u : Vc K) (j : Nat) : shV k n u j = if j < n then u (pvI k j) else 0 := rfl
theorem shV_zero (k n : Nat) : shV k n (0 : Vc K) = 0 := Vc.ext fun j => by rw [shV_at]; split <;> rfl
theorem shV_add (k n : Nat) (u v : Vc K) (c : K) : shV k n (u + Vc.sc c v) = shV k n u + Vc.sc c (shV k n v) := Vc.ext fun j => by
 rw [Vc.add_at, Vc.sc_at, shV_at, shV_at, shV_at]
 split
 ·rw [Vc.add_at, Vc.sc_at]
 ·rw [Fd.mul_zero, Fd.add_zero]
end
section
variable {p m : Int} {mod : List Int} [hF : IsF p m mod]
theorem rw_shF (k : Nat) (l : List Int) : (rw' (shF k l) : Vc (El p m mod)) = shV k l.length (rw' l) := Vc.ext fun j => by
 rw [rw_at, shV_at]
 by_cases hj : j < l.length
 ·rw [if_pos hj, shF_get _ _ hj, rw_at]
 ·rw [if_neg hj, getD_out (by rw [shF_length]; omega), el_zero]
theorem closB_word {k w : Nat} {rs : List RowM} (hg : Gd (pw p m) w rs) (h : closB p m mod k rs = true) {u : Vc (El p m mod)} (hu : Vc.SpL (vsR rs : List (Vc (El p m mod))) u) : Vc.SpL (vsR rs : List (Vc (El p m mod))) (shV k w u) := by
 refine hu.lift (Q := fun u => Vc.SpL (vsR rs : List (Vc (El p m mod))) (shV k w u)) (by rw [shV_zero]; exact Vc.Sp.zero) fun u c r hu hr => ?_
 rw [shV_add]
 have h1 : Vc.SpL (vsR rs : List (Vc (El p m mod))) (shV k w r) := by
  obtain ⟨r0, hr0, rfl⟩ := List.mem_map.1 hr
  have := memB_iff.1 (closB_iff.1 h r0 hr0)
  rwa [rw_shF, (hg r0 hr0).1] at this
 exact Vc.Sp.plus hu (h1.scale c)
end
end Go.Proofs.YtdkahdehodopoaaGreat

namespace Go.Proofs.YtdkahdehodopoaaGreat
open Go.RowKit
section
variable {p m : Int} {mod : List Int} [hF : IsF p m mod]
noncomputable def genP (p m : Int) (mod : List Int) [hF : IsF p m mod] (n : Nat) (ls : List (List Int)) : Po (El p m mod) := ls.foldl (fun g r => Po.gcd g (pol r)) (xn1 n)
theorem genP_nil (n : Nat) : genP p m mod n [] = xn1 n := rfl
theorem genP_snoc (n : Nat) (ls : List (List Int)) (r : List Int) : genP p m mod n (ls ++ [r]) = Po.gcd (genP p m mod n ls) (pol r) := by unfold genP; rw [List.foldl_append]; rfl
theorem snoc_ind {α : Type} {P : List α → Prop} (h0 : P []) (h1 : ∀ l a, P l → P (l ++ [a])) : ∀ l, P l := fun l => by
 have key : ∀ (n : Nat) (l : List α), l.length = n → P l := by
  intro n
  induction n with
  | zero => intro l hl; rw [List.length_eq_zero_iff.1 hl]; exact h0
  | succ n ih =>
   intro l hl
   have hne : l ≠ [] := fun h => by rw [h] at hl; simp at hl
   rw [← List.dropLast_concat_getLast hne]
   exact h1 _ _ (ih _ (by rw [List.length_dropLast]; omega))
 exact key _ l rfl
theorem genP_dvd (n : Nat) : ∀ ls : List (List Int), genP p m mod n ls ∣ xn1 n := snoc_ind (Po.dvd_refl _) fun l a h => by
 rw [genP_snoc]; exact Po.dvd_trans (Po.gcd_is _ _).left h
theorem genP_row (n : Nat) : ∀ (ls : List (List Int)), ∀ r ∈ ls, genP p m mod n ls ∣ pol r := snoc_ind (fun r hr => by simp at hr) fun l a h r hr => by
 rw [genP_snoc]
 rcases List.mem_append.1 hr with hr | hr
 ·exact Po.dvd_trans (Po.gcd_is _ _).left (h r hr)
 ·rw [List.mem_singleton.1 hr]; exact (Po.gcd_is _ _).right
theorem genP_great {n : Nat} {d : Po (El p m mod)} (hd : d ∣ xn1 n) : ∀ ls : List (List Int), (∀ r ∈ ls, d ∣ pol r) → d ∣ genP p m mod n ls := snoc_ind (fun _ => hd) fun l a h hr => by
 rw [genP_snoc]
 exact (Po.gcd_is _ _).great (h fun r h1 => hr r (List.mem_append_left _ h1)) (hr a (by simp))
theorem genP_ne {n : Nat} (hn : 1 ≤ n) (ls : List (List Int)) : genP p m mod n ls ≠ 0 := fun h => by
 have := genP_dvd (p := p) (m := m) (mod := mod) n ls
 rw [h] at this
 exact xn1_ne hn (Po.zero_dvd this)
theorem xn1_lead {n : Nat} (hn : 1 ≤ n) : Po.lead (xn1 n : Po (El p m mod)) = 1 := by
 unfold Po.lead; rw [xn1_len hn, cf_xn1 hn, if_pos (by omega)]
theorem genP_monic {n : Nat} (hn : 1 ≤ n) : ∀ ls : List (List Int), Po.lead (genP p m mod n ls) = 1 := snoc_ind (xn1_lead hn) fun l a h => by
 rw [genP_snoc]; exact Po.gcd_monic (.inl (genP_ne hn l))
theorem around_il {n : Nat} (hn : 1 ≤ n) : aroundL p m mod n = il (xn1 n : Po (El p m mod)) := ext_getD (by rw [around_length, il_length, xn1_len hn]) fun j => by
 have hq := hF.q2
 have hin : AllIn (pw p m) (aroundL p m mod n) := (((allIn_rep (by omega) _).set (El.bd _) _).set (by omega) _)
 rw [il_getD, ← pol_around hn, cf_pol, el_in (hin.get (by omega) j)]
end
end Go.Proofs.YtdkahdehodopoaaGreat

namespace Go.Proofs.YtdkahdehodopoaaGreat
open Go.RowKit
section
variable {p m : Int} {mod : List Int} [hF : IsF p m mod]
theorem rem_sh {n : Nat} (hn : 1 ≤ n) (f : Po (El p m mod)) : Po.Sh (Po.rem f (xn1 n)) n := (Po.len_sh _).mono (by have := Po.rem_len f (xn1_ne (p := p) (m := m) (mod := mod) hn); rw [xn1_len hn] at this; omega)
theorem rem_self {n : Nat} (hn : 1 ≤ n) {f : Po (El p m mod)} (hf : Po.Sh f n) : Po.rem f (xn1 n) = f := Po.rem_small (by have := Po.len_le hf; rw [xn1_len hn]; omega)
theorem rem_is {n : Nat} (hn : 1 ≤ n) {f r : Po (El p m mod)} (hr : Po.Sh r n) (h : xn1 n ∣ f - r) : Po.rem f (xn1 n) = r := by
 rw [← rem_self hn hr]; exact (Po.rem_eq_iff (xn1_ne hn)).2 h
theorem mn_C (c : El p m mod) (k : Nat) : Po.mn c k = Po.C c * Po.mn 1 k := by
 have := Po.mn_mul c 1 0 k
 rw [Rg.mul_one, Nat.zero_add] at this
 exact this.symm
theorem rem_x1 {n : Nat} (hn : 1 ≤ n) {f : Po (El p m mod)} (hf : Po.Sh f n) : Po.rem (Po.mn 1 1 * f) (xn1 n) = Po.mn 1 1 * f - Po.C (Po.cf f (n - 1)) * xn1 n := by
 refine rem_is hn (fun j hj => ?_) ⟨Po.C (Po.cf f (n - 1)), by grind⟩
 rw [Po.cf_sub, Po.cf_mn_mul, Po.cf_C_mul, cf_xn1 hn, if_neg (by omega), Rg.one_mul]
 by_cases h : j = n
 ·rw [if_pos h, Rg.mul_one, h, Rg.sub_self]
 ·rw [if_neg h, if_neg (by omega), hf (j - 1) (by omega), Rg.mul_zero, Rg.sub_self]
theorem shV_rem {n : Nat} (hn : 1 ≤ n) {f : Po (El p m mod)} (hf : Po.Sh f n) : shV n n (pv f) = pv (Po.rem (Po.mn 1 1 * f) (xn1 n)) := Vc.ext fun j => by
 rw [pv_at, shV_at]
 by_cases hj : j < n
 ·rw [if_pos hj, rem_x1 hn hf, pv_at, pv_full hj, Po.cf_sub, Po.cf_mn_mul, Po.cf_C_mul, cf_xn1 hn, Rg.one_mul, if_neg (show ¬ j = n by omega)]
  by_cases h0 : j = 0
  ·subst h0
   rw [if_pos (by omega), if_pos rfl, Nat.zero_add, Nat.mod_eq_of_lt (by omega), Rg.zero_sub, Rg.mul_neg, Rg.mul_one, Rg.neg_neg]
  ·rw [if_neg (by omega), if_neg h0, Rg.mul_zero, Rg.sub_zero, show j + (n - 1) = (j - 1) + n by omega, Nat.add_mod_right, Nat.mod_eq_of_lt (by omega)]
 ·rw [if_neg hj]; exact (rem_sh hn _ j (by omega)).symm
theorem rem_add {n : Nat} (hn : 1 ≤ n) (f g : Po (El p m mod)) : Po.rem (f + g) (xn1 n) = Po.rem f (xn1 n) + Po.rem g (xn1 n) := by
 have hx := xn1_ne (p := p) (m := m) (mod := mod) hn
 refine rem_is hn ((rem_sh hn f).add (rem_sh hn g)) ?_
 obtain ⟨x, h1⟩ := Po.rem_sub_dvd f hx
 obtain ⟨y, h2⟩ := Po.rem_sub_dvd g hx
 exact ⟨x + y, by grind⟩
theorem rem_mul {n : Nat} (hn : 1 ≤ n) (h f : Po (El p m mod)) : Po.rem (h * Po.rem f (xn1 n)) (xn1 n) = Po.rem (h * f) (xn1 n) := by
 have hx := xn1_ne (p := p) (m := m) (mod := mod) hn
 refine (Po.rem_eq_iff hx).2 ?_
 obtain ⟨x, h1⟩ := Po.rem_sub_dvd f hx
 exact ⟨-(h * x), by grind⟩
theorem idl_mul {n : Nat} (hn : 1 ≤ n) {V : List (Vc (El p m mod))} (hs : ∀ u, Vc.SpL V u → Vc.SpL V (shV n n u)) {f : Po (El p m mod)} (hf : Vc.SpL V (pv (Po.rem f (xn1 n)))) (h : Po (El p m mod)) : Vc.SpL V (pv (Po.rem (h * f) (xn1 n))) := by
 have h1 : ∀ k, Vc.SpL V (pv (Po.rem (Po.mn 1 k * f) (xn1 n))) := by
  intro k
  induction k with
  | zero =>
   have e : (Po.mn 1 0 : Po (El p m mod)) = 1 := Po.C_one
   rw [e, Rg.one_mul]; exact hf
  | succ k ih =>
   have h2 := hs _ ih
   rw [shV_rem hn (rem_sh hn _), rem_mul hn, ← Rg.mul_assoc, Po.mn_mul, Rg.one_mul, Nat.add_comm 1 k] at h2
   exact h2
 refine Po.ind (P := fun h => Vc.SpL V (pv (Po.rem (h * f) (xn1 n)))) ?_ ?_ h
 ·have : pv (Po.rem (0 * f) (xn1 n)) = (0 : Vc (El p m mod)) := Vc.ext fun j => by rw [Rg.zero_mul, rem_self hn (fun _ _ => rfl)]; rfl
  rw [this]; exact Vc.Sp.zero
 ·intro c k g ih
  have e : Po.rem ((g + Po.mn c k) * f) (xn1 n) = Po.rem (g * f) (xn1 n) + Po.C c * Po.rem (Po.mn 1 k * f) (xn1 n) := by
   rw [Rg.add_mul, rem_add hn]
   congr 1
   have hx := xn1_ne (p := p) (m := m) (mod := mod) hn
   refine rem_is hn (fun j hj => by rw [Po.cf_C_mul, rem_sh hn _ j hj, Rg.mul_zero]) ?_
   obtain ⟨y, h2⟩ := Po.rem_sub_dvd (Po.mn 1 k * f) hx
   refine ⟨Po.C c * y, ?_⟩
   rw [mn_C c k]; grind
  have : pv (Po.rem ((g + Po.mn c k) * f) (xn1 n)) = pv (Po.rem (g * f) (xn1 n)) + Vc.sc c (pv (Po.rem (Po.mn 1 k * f) (xn1 n))) := Vc.ext fun j => by
   rw [pv_at, e, Po.cf_add, Po.cf_C_mul]; rfl
  rw [this]; exact Vc.Sp.plus ih (Vc.Sp.scale c (h1 k))
theorem idl_gcd {n : Nat} (hn : 1 ≤ n) {V : List (Vc (El p m mod))} (hs : ∀ u, Vc.SpL V u → Vc.SpL V (shV n n u)) {f g : Po (El p m mod)} (hf : Vc.SpL V (pv (Po.rem f (xn1 n)))) (hg : Vc.SpL V (pv (Po.rem g (xn1 n)))) : Vc.SpL V (pv (Po.rem (Po.gcd f g) (xn1 n))) := by
 obtain ⟨a, b, hab⟩ := (Po.gcd_is f g).bez
 rw [← hab, rem_add hn]
 exact Vc.Sp.plus (idl_mul hn hs hf a) (idl_mul hn hs hg b)
theorem idl_gen {n : Nat} (hn : 1 ≤ n) {V : List (Vc (El p m mod))} (hs : ∀ u, Vc.SpL V u → Vc.SpL V (shV n n u)) : ∀ ls : List (List Int), (∀ r ∈ ls, r.length ≤ n ∧ Vc.SpL V (rw' r)) → Vc.SpL V (pv (Po.rem (genP p m mod n ls) (xn1 n))) :=
 snoc_ind (fun _ => by
  have : pv (Po.rem (genP p m mod n []) (xn1 n)) = (0 : Vc (El p m mod)) := Vc.ext fun j => by
   rw [genP_nil, (Po.rem_zero_iff (xn1_ne hn)).2 (Po.dvd_refl _)]; rfl
  rw [this]; exact Vc.Sp.zero) fun l a ih h => by
  rw [genP_snoc]
  refine idl_gcd hn hs (ih fun r hr => h r (List.mem_append_left _ hr)) ?_
  have ha := h a (by simp)
  rw [rem_self hn ((pol_sh a).mono ha.1)]
  exact ha.2
theorem xss_mem {rs : List RowM} {r : RowM} (hr : r ∈ rs) : r.xs ∈ xss rs := by rw [xss]; exact List.mem_map.2 ⟨r, hr, rfl⟩
theorem vsR_mem {rs : List RowM} {r : RowM} (hr : r ∈ rs) : (rw' r.xs : Vc (El p m mod)) ∈ (vsR rs : List (Vc (El p m mod))) := List.mem_map.2 ⟨r, hr, rfl⟩
theorem rows_cyw {n : Nat} {rs : List RowM} (hg : Gd (pw p m) n rs) {u : Vc (El p m mod)} (hu : Vc.SpL (vsR rs : List (Vc (El p m mod))) u) : CyW n (genP p m mod n (xss rs)) u := by
 refine CyW.sp (fun r hr => ?_) hu
 obtain ⟨r0, hr0, rfl⟩ := List.mem_map.1 hr
 exact ⟨pol r0.xs, fun j => rfl, (pol_sh _).mono (by have := (hg r0 hr0).1; omega), genP_row _ _ _ (xss_mem hr0)⟩
theorem cyw_pv {n : Nat} {d f : Po (El p m mod)} (hf : Po.Sh f n) (h : d ∣ f) : CyW n d (pv f) := ⟨f, fun _ => rfl, hf, h⟩
theorem clos_words {n : Nat} (hn : 1 ≤ n) {rs : List RowM} (hg : Gd (pw p m) n rs) (hc : closB p m mod n rs = true) (u : Vc (El p m mod)) : Vc.SpL (vsR rs : List (Vc (El p m mod))) u ↔ CyW n (genP p m mod n (xss rs)) u := by
 refine ⟨rows_cyw hg, ?_⟩
 rintro ⟨f, hu, hf, h, rfl⟩
 have h1 := idl_gen (V := (vsR rs : List (Vc (El p m mod)))) hn (fun u => closB_word hg hc) (xss rs) (fun r hr => by
  rw [xss] at hr
  obtain ⟨r0, hr0, rfl⟩ := List.mem_map.1 hr
  exact ⟨by have := (hg r0 hr0).1; omega, Vc.Sp.of (vsR_mem hr0)⟩)
 have h2 := idl_mul hn (fun u => closB_word hg hc) h1 h
 rw [Rg.mul_comm, rem_self hn hf] at h2
 have : u = pv (genP p m mod n (xss rs) * h) := Vc.ext hu
 rw [this]; exact h2
theorem gen_words {n : Nat} (hn : 1 ≤ n) {rs : List RowM} (hg : Gd (pw p m) n rs) {d : Po (El p m mod)} (hd : d ∣ xn1 n) (hl : Po.lead d = 1) (hs : ∀ u, Vc.SpL (vsR rs : List (Vc (El p m mod))) u ↔ CyW n d u) : genP p m mod n (xss rs) = d := by
 have hx := xn1_ne (p := p) (m := m) (mod := mod) hn
 have hd0 : d ≠ 0 := fun h => by rw [h] at hd; exact hx (Po.zero_dvd hd)
 refine Po.monic_eq ?_ ?_ (genP_monic hn _) hl
 ·by_cases hc : Po.len d ≤ n
  ·exact ((rows_cyw hg ((hs (pv d)).2 (cyw_pv ((Po.len_sh d).mono hc) (Po.dvd_refl d)))).eq fun _ => rfl).2
  ·obtain ⟨k, hk⟩ := hd
   have hk0 : k ≠ 0 := fun h => by rw [h, Rg.mul_zero] at hk; exact hx hk
   have h1 := Po.len_mul hd0 hk0
   rw [← hk, xn1_len hn] at h1
   have hc1 := Po.len_le_one (f := k) (by omega)
   have hc0 : Po.cf k 0 ≠ 0 := fun h => hk0 (by rw [hc1, h, Po.C_zero])
   have h2 : d = xn1 n * Po.C (Fd.inv (Po.cf k 0)) := by
    rw [hk, hc1, Rg.mul_assoc, Po.C_mul]
    have : Po.cf (Po.C (Po.cf k 0)) 0 = Po.cf k 0 := rfl
    rw [this, Fd.mul_inv _ hc0, Po.C_one, Rg.mul_one]
   rw [h2]; exact Po.dvd_mul_of (genP_dvd n _) _
 ·refine genP_great hd _ fun r hr => ?_
  rw [xss] at hr
  obtain ⟨r0, hr0, rfl⟩ := List.mem_map.1 hr
  exact (((hs _).1 (Vc.Sp.of (vsR_mem hr0))).eq fun _ => rfl).2
theorem CyW.shift {n : Nat} (hn : 1 ≤ n) {d : Po (El p m mod)} (hd : d ∣ xn1 n) {u : Vc (El p m mod)} (h : CyW n d u) : CyW n d (shV n n u) := by
 obtain ⟨f, hu, hf, hdf⟩ := h
 have : u = pv f := Vc.ext hu
 rw [this, shV_rem hn hf]
 exact cyw_pv (rem_sh hn _) (Po.dvd_of_sub (Po.dvd_mul_ofL hdf _) (Po.dvd_trans hd (Po.rem_sub_dvd _ (xn1_ne hn))))
theorem clos_of {n : Nat} (hn : 1 ≤ n) {rs : List RowM} (hg : Gd (pw p m) n rs) {d : Po (El p m mod)} (hd : d ∣ xn1 n) (hs : ∀ u, Vc.SpL (vsR rs : List (Vc (El p m mod))) u ↔ CyW n d u) : closB p m mod n rs = true := closB_iff.2 fun r hr => memB_iff.2 (by
 rw [rw_shF, (hg r hr).1]
 exact (hs _).2 (((hs _).1 (Vc.Sp.of (vsR_mem hr))).shift hn hd))
theorem CyW.mon {n : Nat} {d : Po (El p m mod)} (u : Vc (El p m mod)) : CyW n (Po.mon d) u ↔ CyW n d u := by
 constructor
 ·rintro ⟨f, h1, h2, h3⟩; exact ⟨f, h1, h2, Po.dvd_trans (Po.dvd_mon d) h3⟩
 ·rintro ⟨f, h1, h2, h3⟩; exact ⟨f, h1, h2, Po.dvd_trans (Po.mon_dvd d) h3⟩
end
end Go.Proofs.YtdkahdehodopoaaGreat

namespace Go.Proofs.YtdkahdehodopoaaGreat
open Go.RowKit
section
variable {R : Type} [Rg R]
theorem nc_add (a : Nat) : ∀ b : Nat, (Rg.nc (a + b) : R) = Rg.nc a + Rg.nc b
 | 0 => (Rg.add_zero _).symm
 | b + 1 => by rw [← Nat.add_assoc, Rg.nc_succ, Rg.nc_succ, nc_add a b, Rg.add_assoc]
end
section
variable {K : Type} [Fd K]
def dP (f : Po K) : Po K := ⟨fun j => Rg.nc (j + 1) * Po.cf f (j + 1), by
 obtain ⟨n, hn⟩ := f.2
 exact ⟨n, fun j hj => by
  have : Po.cf f (j + 1) = 0 := hn (j + 1) (by omega)
  show Rg.nc (j + 1) * Po.cf f (j + 1) = 0
  rw [this, Rg.mul_zero]⟩⟩
theorem cf_dP (f : Po K) (j : Nat) : Po.cf (dP f) j = Rg.nc (j + 1) * Po.cf f (j + 1) := rfl
theorem dP_add (f g : Po K) : dP (f + g) = dP f + dP g := Po.ext fun j => by rw [Po.cf_add, cf_dP, cf_dP, cf_dP, Po.cf_add, Rg.mul_add]
theorem dP_zero : dP (0 : Po K) = 0 := Po.ext fun j => Rg.mul_zero _
theorem dP_mn_mul (c : K) (i : Nat) (g : Po K) : dP (Po.mn c i * g) = dP (Po.mn c i) * g + Po.mn c i * dP g := by
 have h1 : dP (Po.mn c i) = Po.mn (Rg.nc i * c) (i - 1) := Po.ext fun j => by
  rw [cf_dP, Po.cf_mn, Po.cf_mn]
  by_cases h0 : i = 0
  ·subst h0
   have hz : (Rg.nc 0 : K) = 0 := rfl
   rw [if_neg (by omega), Rg.mul_zero, hz, Rg.zero_mul]; split <;> rfl
  ·by_cases h : j + 1 = i
   ·rw [if_pos h, if_pos (by omega), h]
   ·rw [if_neg h, if_neg (by omega), Rg.mul_zero]
 rw [h1]
 refine Po.ext fun j => ?_
 rw [Po.cf_add, cf_dP, Po.cf_mn_mul, Po.cf_mn_mul, Po.cf_mn_mul, cf_dP]
 by_cases h0 : i = 0
 ·subst h0
  have hz : (Rg.nc 0 : K) = 0 := rfl
  rw [if_neg (by omega), if_neg (by omega), if_neg (by omega), hz, Rg.zero_mul, Rg.zero_mul, Rg.zero_add]
  simp only [Nat.sub_zero]
  grind
 ·by_cases h2 : j + 1 < i
  ·rw [if_pos h2, if_pos (by omega), if_pos (by omega), Rg.mul_zero, Rg.add_zero]
  ·by_cases h3 : j < i
   ·rw [if_neg h2, if_neg (by omega), if_pos h3, show j + 1 = i by omega, Nat.sub_self, show j - (i - 1) = 0 by omega, Rg.add_zero, Rg.mul_assoc]
   ·have e := nc_add (R := K) i (j + 1 - i)
    rw [show i + (j + 1 - i) = j + 1 by omega] at e
    rw [if_neg h2, if_neg (by omega), if_neg h3, e, show j - (i - 1) = j + 1 - i by omega, show j - i + 1 = j + 1 - i by omega]
    grind
theorem dP_mul (f g : Po K) : dP (f * g) = dP f * g + f * dP g := by
 refine Po.ind (P := fun f => dP (f * g) = dP f * g + f * dP g) (by rw [Rg.zero_mul, dP_zero, Rg.zero_mul, Rg.zero_mul, Rg.zero_add]) (fun c n f ih => ?_) f
 rw [Rg.add_mul, dP_add, ih, dP_mn_mul, dP_add]
 grind
end
section
variable {p m : Int} {mod : List Int} [hF : IsF p m mod]
theorem nc_val (k : Nat) : (Rg.nc k : El p m mod).1 = (k : Int) % p := by
 have hp := hF.out.1.1.p2
 have hm := hF.out.1.1.m1
 induction k with
 | zero => exact (Int.zero_emod p).symm
 | succ k ih =>
  rw [Rg.nc_succ, add_val, ih, one_val, addI_rec, show m.toNat = (m.toNat - 1) + 1 by omega, addD]
  have h1 := Int.emod_nonneg (k : Int) (show p ≠ 0 by omega)
  have h2 := Int.emod_lt_of_pos (k : Int) (show 0 < p by omega)
  rw [Int.ediv_eq_zero_of_lt h1 h2, Int.ediv_eq_zero_of_lt (show (0 : Int) ≤ 1 by omega) (show 1 < p by omega), addD_zero, Int.mul_zero, Int.add_zero, Int.emod_emod_of_dvd _ (Int.dvd_refl p), ← Int.add_emod]
  push_cast
  rfl
theorem nc_ne {n : Nat} (h : (n : Int) % p ≠ 0) : (Rg.nc n : El p m mod) ≠ 0 := fun e => h (by rw [← nc_val (m := m) (mod := mod), e]; rfl)
end
end Go.Proofs.YtdkahdehodopoaaGreat

namespace Go.Proofs.YtdkahdehodopoaaGreat
open Go.RowKit
theorem IsF.p2 {p m : Int} {mod : List Int} (hF : IsF p m mod) : 2 ≤ p := hF.out.1.1.p2
theorem IsF.m1 {p m : Int} {mod : List Int} (hF : IsF p m mod) : 1 ≤ m := hF.out.1.1.m1
section
variable {p m : Int} {mod : List Int} [hF : IsF p m mod]
theorem all_pow (a : El p m mod) : Rg.pow a (pw p m).toNat = a := by
 have hq := hF.q2
 by_cases h : a = 0
 ·rw [h]; exact Rg.zero_pow (by omega)
 ·have h1 := Fd.Nz.pow (elNz_nz hF.out) h
  rw [elNz_len, Fd.pow_eq] at h1
  have e : (pw p m).toNat = (pw p m - 1).toNat + 1 := by omega
  rw [e, Rg.pow_succ]
  exact (congrArg (fun z => z * a) h1).trans (Rg.one_mul a)
theorem pow_last {x : El p m mod} (hx : x ≠ 0) : Rg.pow x (pw p m - 1).toNat = 1 := by
 have h1 := Fd.Nz.pow (elNz_nz hF.out) hx
 rw [elNz_len, Fd.pow_eq] at h1
 exact h1
end
theorem roots_len {K : Type} [Fd K] : ∀ (rs : List K) (f : Po K), rs.Nodup → f ≠ 0 → (∀ a ∈ rs, Po.val f a = 0) → rs.length < Po.len f
 | [], f, _, hf, _ => Po.len_pos hf
 | r :: rs, f, hn, hf, h => by
  obtain ⟨g, hg⟩ := (Po.root_iff f r).1 (h r (List.mem_cons_self ..))
  have hn := List.nodup_cons.1 hn
  have hg0 : g ≠ 0 := fun e => hf (by rw [hg, e, Rg.mul_zero])
  have ih := roots_len rs g hn.2 hg0 (fun a ha => by
   have h1 := h a (List.mem_cons_of_mem _ ha)
   rw [hg, Po.val_mul, Po.val_lin] at h1
   exact (Fd.mul_eq_zero h1).resolve_left (fun e => hn.1 (by have : a = r := Rg.eq_of_sub e; rwa [← this])))
  rw [hg, Po.len_mul (Po.lin_ne r) hg0, Po.len_lin, List.length_cons]
  omega
section
end
section
end
end Go.Proofs.YtdkahdehodopoaaGreat

set_option maxRecDepth 100000
namespace Go.Proofs.YtdkahdehodopoaaGreat
open Go.RowKit
theorem mat_openE_ent : Enters Tryz.prog 100 := enters_of Tryz.func100 (by kernel_rfl) (by kernel_rfl)
theorem mat_openE (p m : Int) (A : Option Addr) (c : Nat) (mod : List Int) (hl9 : mod.length ≤ 17592186044415) [hF : IsF p m mod] (pl : Addr) (cl : Nat) (w : Int) (Aa : Option Addr) (n ca : Nat) (rs : List RowM) (hn : n = rs.length) (h9 : rs.length ≤ 17592186044415) (h8 : ∀ r ∈ rs, r.xs.length ≤ 17592186044415) (hE : rowsC (pw p m) w (xss rs) ≠ 0) :
  Pure Tryz.prog 100 #[.agg #[.int .i64 p, .int .i64 m, .slice A mod.length c], .slice (some pl) 1 cl] [ro A (ints mod), ro (some pl) [.int .i64 w, .slice Aa n ca], ro Aa (hdrs rs), rowsR rs] (isV (.tuple #[.pointer none, .int .i64 (rowsC (pw p m) w (xss rs))])) := by
 refine pure_of (args := [.agg #[.int .i64 p, .int .i64 m, .slice A mod.length c], .slice (some pl) 1 cl]) 32 Tryz.func100 rfl rfl rfl mat_openE_ent ⟨id, id, id, id, trivial⟩ (fun w0 => ?_)
 refine tS ?_
 refine tR fun _ _ _ => ?_
 refine eV (eBox rfl rfl rfl rfl rfl (fun p0 => ?_))
 iterate 2 refine pV ?_
 refine tS ?_
 refine tR fun _ _ _ => ?_
 refine sV (rLdS rfl rfl rfl) ?_
 refine eV (eCall1 rfl rfl rfl (fld_New_ok _ _ _ _ _ hl9 hF.out) ⟨rfl, trivial⟩ ?_)
 rintro _ _ ⟨g, rfl, rfl, hg⟩
 iterate 5 refine pV ?_
 refine tS ?_
 refine tS ?_
 refine tR fun _ _ _ => ?_
 iterate 2 refine pV ?_
 refine tC rfl (fun h2 => ?_) (fun h2 => ?_)
 ·try simp only [zbA] at h2
  first | exact absurd trivial h2 | exact absurd rfl h2 | omega | (exact absurd h2 (by simp)) --done
 ·try simp only [zbA] at h2
  refine tK ?_
  refine tS ?_
  refine tS ?_
  refine tR fun _ _ _ => ?_
  refine pV ?_
  refine sV (rLenS rfl rfl) ?_
  refine pV ?_
  refine tB ?_
  refine tr_loop1 (fun (k : Int) => [(20, .int .i64 k), (6, .pointer (some g.p)), (18, .slice (some pl) 1 cl), (19, .int .i64 1)]) (fun (k : Int) => [gfN g, blk p0 24 [.int .i64 p, .int .i64 m, .slice A mod.length c], ro A (ints mod), ro (some pl) [.int .i64 w, .slice Aa n ca], ro Aa (hdrs rs), rowsR rs]) (fun (k : Int) => k = 0) (fun (k : Int) => (1 - k).toNat) (0) ⟨rfl, rfl, rfl, rfl, trivial⟩ (by first | exact cs _ _ | exact CSub.refl _) (rfl) (fun k hI => ?_)
  refine tS ?_
  refine tR fun _ _ _ => ?_
  refine pV ?_
  refine tS ?_
  refine tC rfl (fun h5 => ?_) (fun h5 => ?_)
  ·try simp only [zbA] at h5
   refine tK ?_
   refine tS ?_
   refine tB ?_
   refine tS ?_
   refine tR fun _ _ _ => ?_
   refine sV (rIdxS0 rfl rfl rfl (by omega) (by omega)) ?_
   refine sV (rLdS rfl rfl rfl) ?_
   refine eV (eAlloc rfl rfl rfl (fun p6 => ?_))
   refine eV (eStS rfl rfl rfl rfl rfl rfl ?_)
   refine tS ?_
   refine tR fun _ _ _ => ?_
   refine pV ?_
   refine sV (rLdS rfl rfl rfl) ?_
   refine eV (eCallV rfl rfl rfl (mat_checkC g (pw p m) hg.eq w _ _ _ rs hn h9 h8) ⟨rfl, rfl, trivial⟩ ?_)
   refine pV ?_
   refine tS ?_
   refine tR fun _ _ _ => ?_
   iterate 2 refine pV ?_
   refine tC rfl (fun h8 => ?_) (fun h8 => ?_)
   ·try simp only [zbA] at h8
    refine tS ?_
    refine tR fun _ _ _ => ?_
    iterate 3 refine pV ?_
    exact tr_ret ⟨trivial, _, _, rfl, ⟨rfl, rfl⟩, CSub.nil _, trivial⟩
   ·try simp only [zbA] at h8
    omega --done
  ·try simp only [zbA] at h5
   omega --done
theorem mat_openG_ent : Enters Tryz.prog 100 := enters_of Tryz.func100 (by kernel_rfl) (by kernel_rfl)
theorem mat_openG (p m : Int) (A : Option Addr) (c : Nat) (mod : List Int) (hl9 : mod.length ≤ 17592186044415) [hF : IsF p m mod] (pl : Addr) (cl : Nat) (w : Int) (Aa : Option Addr) (n ca : Nat) (rs : List RowM) (hn : n = rs.length) (h9 : rs.length ≤ 17592186044415) (h8 : ∀ r ∈ rs, r.xs.length ≤ 17592186044415) (hE : rowsC (pw p m) w (xss rs) = 0) :
  Pure Tryz.prog 100 #[.agg #[.int .i64 p, .int .i64 m, .slice A mod.length c], .slice (some pl) 1 cl] [ro A (ints mod), ro (some pl) [.int .i64 w, .slice Aa n ca], ro Aa (hdrs rs), rowsR rs] (one (fun v ch => ∃ g : GfM, v = .tuple #[.pointer (some g.p), .int .i64 0] ∧ ch = gfN g ∧ GOk g p m mod)) := by
 refine pure_of (args := [.agg #[.int .i64 p, .int .i64 m, .slice A mod.length c], .slice (some pl) 1 cl]) 32 Tryz.func100 rfl rfl rfl mat_openG_ent ⟨id, id, id, id, trivial⟩ (fun w0 => ?_)
 refine tS ?_
 refine tR fun _ _ _ => ?_
 refine eV (eBox rfl rfl rfl rfl rfl (fun p0 => ?_))
 iterate 2 refine pV ?_
 refine tS ?_
 refine tR fun _ _ _ => ?_
 refine sV (rLdS rfl rfl rfl) ?_
 refine eV (eCall1 rfl rfl rfl (fld_New_ok _ _ _ _ _ hl9 hF.out) ⟨rfl, trivial⟩ ?_)
 rintro _ _ ⟨g, rfl, rfl, hg⟩
 iterate 5 refine pV ?_
 refine tS ?_
 refine tS ?_
 refine tR fun _ _ _ => ?_
 iterate 2 refine pV ?_
 refine tC rfl (fun h2 => ?_) (fun h2 => ?_)
 ·try simp only [zbA] at h2
  first | exact absurd trivial h2 | exact absurd rfl h2 | omega | (exact absurd h2 (by simp)) --done
 ·try simp only [zbA] at h2
  refine tK ?_
  refine tS ?_
  refine tS ?_
  refine tR fun _ _ _ => ?_
  refine pV ?_
  refine sV (rLenS rfl rfl) ?_
  refine pV ?_
  refine tB ?_
  refine tr_loop1 (fun (k : Int) => [(20, .int .i64 k), (6, .pointer (some g.p)), (18, .slice (some pl) 1 cl), (19, .int .i64 1)]) (fun (k : Int) => [gfN g, blk p0 24 [.int .i64 p, .int .i64 m, .slice A mod.length c], ro A (ints mod), ro (some pl) [.int .i64 w, .slice Aa n ca], ro Aa (hdrs rs), rowsR rs]) (fun (k : Int) => 0 ≤ k ∧ k ≤ 1) (fun (k : Int) => (1 - k).toNat) (0) ⟨rfl, rfl, rfl, rfl, trivial⟩ (by first | exact cs _ _ | exact CSub.refl _) (by omega) (fun k hI => ?_)
  refine tS ?_
  refine tR fun _ _ _ => ?_
  refine pV ?_
  refine tS ?_
  refine tC rfl (fun h5 => ?_) (fun h5 => ?_)
  ·try simp only [zbA] at h5
   refine tK ?_
   refine tS ?_
   refine tB ?_
   refine tS ?_
   refine tR fun _ _ _ => ?_
   refine sV (rIdxS0 rfl rfl rfl (by omega) (by omega)) ?_
   refine sV (rLdS rfl rfl rfl) ?_
   refine eV (eAlloc rfl rfl rfl (fun p6 => ?_))
   refine eV (eStS rfl rfl rfl rfl rfl rfl ?_)
   refine tS ?_
   refine tR fun _ _ _ => ?_
   refine pV ?_
   refine sV (rLdS rfl rfl rfl) ?_
   refine eV (eCallV rfl rfl rfl (mat_checkC g (pw p m) hg.eq w _ _ _ rs hn h9 h8) ⟨rfl, rfl, trivial⟩ ?_)
   refine pV ?_
   refine tS ?_
   refine tR fun _ _ _ => ?_
   iterate 2 refine pV ?_
   refine tC rfl (fun h8 => ?_) (fun h8 => ?_)
   ·try simp only [zbA] at h8
    omega --done
   ·try simp only [zbA] at h8
    refine tK ?_
    refine tR fun _ _ _ => ?_
    refine sV (rAdd rfl rfl rfl (by omega) (by omega)) ?_
    refine pV ?_
    refine ⟨k + 1, ⟨rfl, rfl, rfl, rfl, trivial⟩, by first | exact cs _ _ | exact CSub.refl _, ?_⟩
    omega
  ·try simp only [zbA] at h5
   refine tE ?_
   refine tS ?_
   refine tR fun _ _ _ => ?_
   iterate 3 refine pV ?_
   exact tr_ret ⟨trivial, _, _, rfl, ⟨_, rfl, g, rfl, rfl, hg⟩, cs _ _, ⟨trivial, trivial, trivial, trivial⟩, trivial⟩
theorem mat_CanonicalE_ent : Enters Tryz.prog 60 := enters_of Tryz.func60 (by kernel_rfl) (by kernel_rfl)
theorem mat_CanonicalE (p m : Int) (A : Option Addr) (c : Nat) (mod : List Int) (hl9 : mod.length ≤ 17592186044415) [hF : IsF p m mod] (w : Int) (Aa : Option Addr) (n ca : Nat) (rs : List RowM) (hn : n = rs.length) (h9 : rs.length ≤ 17592186044415) (h8 : ∀ r ∈ rs, r.xs.length ≤ 17592186044415) (hE : rowsC (pw p m) w (xss rs) ≠ 0) :
  Pure Tryz.prog 60 #[.agg #[.int .i64 p, .int .i64 m, .slice A mod.length c], .agg #[.int .i64 w, .slice Aa n ca]] [ro A (ints mod), ro Aa (hdrs rs), rowsR rs] (isV (.tuple #[.agg #[.int .i64 0, .slice none 0 0], .slice none 0 0, .int .i64 (rowsC (pw p m) w (xss rs))])) := by
 refine pure_ofC (args := [.agg #[.int .i64 p, .int .i64 m, .slice A mod.length c], .agg #[.int .i64 w, .slice Aa n ca]]) 36 Tryz.func60 rfl rfl rfl mat_CanonicalE_ent ⟨id, id, id, trivial⟩ (fun w0 => ?_)
 refine tS ?_
 refine tR fun _ _ _ => ?_
 refine eV (eBox rfl rfl rfl rfl rfl (fun p0 => ?_))
 refine eV (eBox rfl rfl rfl rfl rfl (fun p0a => ?_))
 refine eV (eAlloc rfl rfl rfl (fun p0b => ?_))
 iterate 2 refine pV ?_
 refine tS ?_
 refine tR fun _ _ _ => ?_
 refine sV (rLdS rfl rfl rfl) ?_
 refine sV (rLdS rfl rfl rfl) ?_
 refine eV (eLitS rfl rfl rfl rfl (fun p1 => ?_))
 refine eV (eCallV rfl rfl rfl (mat_openE _ _ _ _ _ hl9 _ _ w Aa _ ca rs hn h9 h8 hE) ⟨rfl, rfl, trivial⟩ ?_)
 iterate 5 refine pV ?_
 refine tS ?_
 refine tS ?_
 refine tR fun _ _ _ => ?_
 iterate 2 refine pV ?_
 refine tC rfl (fun h2 => ?_) (fun h2 => ?_)
 ·try simp only [zbA] at h2
  refine tS ?_
  refine tR fun _ _ _ => ?_
  refine sV (rBuild rfl rfl) ?_
  refine pV ?_
  refine eV (eStS rfl rfl rfl rfl rfl rfl ?_)
  iterate 2 refine pV ?_
  exact tr_ret ⟨trivial, _, _, (.cell rfl (cellS rfl) (.tmp rfl (.tmp rfl .nil))), ⟨rfl, rfl⟩, CSub.nil _, trivial⟩
 ·try simp only [zbA] at h2
  omega --done
theorem mat_CanonicalG_ent : Enters Tryz.prog 60 := enters_of Tryz.func60 (by kernel_rfl) (by kernel_rfl)
theorem mat_CanonicalG (p m : Int) (A : Option Addr) (c : Nat) (mod : List Int) (hl9 : mod.length ≤ 17592186044415) [hF : IsF p m mod] (w : Int) (Aa : Option Addr) (n ca : Nat) (rs : List RowM) (hn : n = rs.length) (h9 : rs.length ≤ 17592186044415) (h8 : ∀ r ∈ rs, r.xs.length ≤ 17592186044415) (hE : rowsC (pw p m) w (xss rs) = 0) :
  Pure Tryz.prog 60 #[.agg #[.int .i64 p, .int .i64 m, .slice A mod.length c], .agg #[.int .i64 w, .slice Aa n ca]] [ro A (ints mod), ro Aa (hdrs rs), rowsR rs] (three (fun v ca cb cc => ∃ B r3 Bp cp ps, v = .tuple #[.agg #[.int .i64 w, .slice B r3.length r3.length], .slice Bp ps.length cp, .int .i64 0] ∧ ca = rx B (hdrs r3) ∧ cb = rowsCh 3 r3 ∧ cc = ow Bp 3 cp (ints ps) ∧ RrOf p m mod w.toNat rs r3 ps ∧ r3.length ≤ rs.length)) := by
 obtain ⟨hb, hlen, hin⟩ := rowsC_zero hE
 rw [xss_length] at hb
 have hgd : Gd (pw p m) w.toNat rs := (Gd_iff hb.1).2 ⟨hlen, hin⟩
 refine pure_ofC (args := [.agg #[.int .i64 p, .int .i64 m, .slice A mod.length c], .agg #[.int .i64 w, .slice Aa n ca]]) 36 Tryz.func60 rfl rfl rfl mat_CanonicalG_ent ⟨id, id, id, trivial⟩ (fun w0 => ?_)
 refine tS ?_
 refine tR fun _ _ _ => ?_
 refine eV (eBox rfl rfl rfl rfl rfl (fun p0 => ?_))
 refine eV (eBox rfl rfl rfl rfl rfl (fun p0a => ?_))
 refine eV (eAlloc rfl rfl rfl (fun p0b => ?_))
 iterate 2 refine pV ?_
 refine tS ?_
 refine tR fun _ _ _ => ?_
 refine sV (rLdS rfl rfl rfl) ?_
 refine sV (rLdS rfl rfl rfl) ?_
 refine eV (eLitS rfl rfl rfl rfl (fun p1 => ?_))
 refine eV (eCall1 rfl rfl rfl (mat_openG _ _ _ _ _ hl9 _ _ w Aa _ ca rs hn h9 h8 hE) ⟨rfl, rfl, trivial⟩ ?_)
 rintro _ _ ⟨g, rfl, rfl, hg⟩
 iterate 5 refine pV ?_
 refine tS ?_
 refine tS ?_
 refine tR fun _ _ _ => ?_
 iterate 2 refine pV ?_
 refine tC rfl (fun h2 => ?_) (fun h2 => ?_)
 ·try simp only [zbA] at h2
  first | exact absurd trivial h2 | exact absurd rfl h2 | omega | (exact absurd h2 (by simp)) --done
 ·try simp only [zbA] at h2
  refine tK ?_
  refine tS ?_
  refine tR fun _ _ _ => ?_
  refine pV ?_
  refine sV (rFld rfl rfl) ?_
  refine sV (rLdF rfl rfl rfl) ?_
  refine sV (rFld rfl rfl) ?_
  refine sV (rLdF rfl rfl rfl) ?_
  refine eV (eCall3 rfl rfl rfl (mat_canon g hg w (by omega) (by omega) _ _ _ rs hn (by omega) hgd) ⟨rfl, rfl, rfl, trivial⟩ ?_)
  rintro _ _ _ _ ⟨B, r3, Bp, cp, ps, rfl, rfl, rfl, rfl, hR, hk⟩
  iterate 5 refine pV ?_
  refine tS ?_
  refine tR fun _ _ _ => ?_
  refine sV (rFld rfl rfl) ?_
  refine sV (rLdF rfl rfl rfl) ?_
  refine pV ?_
  refine sV (rBuild rfl rfl) ?_
  refine pV ?_
  refine eV (eStS rfl rfl rfl rfl rfl rfl ?_)
  iterate 2 refine pV ?_
  exact tr_ret ⟨trivial, _, _, (.cell rfl (cellS rfl) (.tmp rfl (.tmp rfl .nil))), ⟨_, _, _, rfl, B, r3, Bp, cp, ps, rfl, rfl, rfl, rfl, hR, hk⟩, cs _ _, trivial, trivial, trivial, trivial⟩
theorem code_own_ent : Enters Tryz.prog 102 := enters_of Tryz.func102 (by kernel_rfl) (by kernel_rfl)
theorem code_own (p m : Int) (A : Option Addr) (c : Nat) (mod : List Int) (hl9 : mod.length ≤ 1000000) :
  Pure Tryz.prog 102 #[.agg #[.int .i64 p, .int .i64 m, .slice A mod.length c]] [ro A (ints mod)] (one (fun v ch => ∃ B cb, v = .agg #[.int .i64 p, .int .i64 m, .slice B mod.length cb] ∧ ch = ow B 3 cb (ints mod))) := by
 refine pure_ofC (args := [.agg #[.int .i64 p, .int .i64 m, .slice A mod.length c]]) 8 Tryz.func102 rfl rfl rfl code_own_ent ⟨id, trivial⟩ (fun w0 => ?_)
 refine tS ?_
 refine tR fun _ _ _ => ?_
 refine eV (eBox rfl rfl rfl rfl rfl (fun p0 => ?_))
 refine eV (eAlloc rfl rfl rfl (fun p0a => ?_))
 refine tS ?_
 refine tR fun _ _ _ => ?_
 refine sV (rFld rfl rfl) ?_
 refine sV (rLdF rfl rfl rfl) ?_
 refine eV (eCall1 rfl rfl rfl (slc_Clone _ _ _ (by omega)) ⟨rfl, trivial⟩ ?_)
 rintro _ _ ⟨B1, c1, rfl, rfl⟩
 refine sV (rFld rfl rfl) ?_
 refine eV (eStF rfl rfl rfl rfl rfl (by simp) rfl rfl ?_)
 refine tS ?_
 refine tR fun _ _ _ => ?_
 refine sV (rLdS rfl rfl rfl) ?_
 refine eV (eStS rfl rfl rfl rfl rfl rfl ?_)
 exact tr_ret ⟨trivial, _, _, (.cell rfl (cellS rfl) .nil), ⟨_, rfl, B1, c1, rfl, rfl⟩, cs _ _, trivial, trivial⟩
theorem code_of_ent : Enters Tryz.prog 61 := enters_of Tryz.func61 (by kernel_rfl) (by kernel_rfl)
theorem code_of (p m : Int) (A : Option Addr) (c : Nat) (mod : List Int) (hl9 : mod.length ≤ 1000000) (w : Int) (Aa : Option Addr) (n ca : Nat) :
  Pure Tryz.prog 61 #[.agg #[.int .i64 p, .int .i64 m, .slice A mod.length c], .agg #[.int .i64 w, .slice Aa n ca], .int .i64 0] [ro A (ints mod)] (one (fun v ch => ∃ B cb, v = .tuple #[.agg #[.int .i64 p, .int .i64 m, .slice B mod.length cb, .int .i64 w, .slice Aa n ca], .int .i64 0] ∧ ch = ow B 3 cb (ints mod))) := by
 refine pure_ofC (args := [.agg #[.int .i64 p, .int .i64 m, .slice A mod.length c], .agg #[.int .i64 w, .slice Aa n ca], .int .i64 0]) 19 Tryz.func61 rfl rfl rfl code_of_ent ⟨id, trivial⟩ (fun w0 => ?_)
 refine tS ?_
 refine tR fun _ _ _ => ?_
 refine eV (eBox rfl rfl rfl rfl rfl (fun p0 => ?_))
 refine eV (eBox rfl rfl rfl rfl rfl (fun p0a => ?_))
 refine eV (eAlloc rfl rfl rfl (fun p0b => ?_))
 refine pV ?_
 refine tS ?_
 refine tS ?_
 refine tR fun _ _ _ => ?_
 iterate 2 refine pV ?_
 refine tC rfl (fun h1 => ?_) (fun h1 => ?_)
 ·try simp only [zbA] at h1
  first | exact absurd trivial h1 | exact absurd rfl h1 | omega | (exact absurd h1 (by simp)) --done
 ·try simp only [zbA] at h1
  refine tK ?_
  refine tS ?_
  refine tr_draw [0, 2, 3, 4, 5, 1, 6] [7, 8] mixed (by kernel_rfl) fun _ _ _ => ?_
  refine sV (rLdS rfl rfl rfl) ?_
  refine sV (rFld rfl rfl) ?_
  refine sV (rLdF rfl rfl rfl) ?_
  refine sV (rFld rfl rfl) ?_
  refine sV (rLdF rfl rfl rfl) ?_
  refine eV (eCall1 rfl rfl rfl (code_own _ _ _ _ _ (by omega)) ⟨rfl, trivial⟩ ?_)
  rintro _ _ ⟨B3, c3, rfl, rfl⟩
  refine sV (rBuild rfl rfl) ?_
  refine eV (eStS rfl rfl rfl rfl rfl rfl ?_)
  refine pV ?_
  exact tr_ret ⟨trivial, _, _, (.cell rfl (cellS rfl) (.tmp rfl .nil)), ⟨_, rfl, B3, c3, rfl, rfl⟩, cs _ _, trivial, trivial⟩
theorem code_length_ent : Enters Tryz.prog 36 := enters_of Tryz.func36 (by kernel_rfl) (by kernel_rfl)
theorem code_length (n : Int) :
  Pure Tryz.prog 36 #[.int .i64 n] [] (isV (.int .i64 (if n < 1 ∨ n > 64 then 4 else 0))) := by
 refine pure_of (args := [.int .i64 n]) 9 Tryz.func36 rfl rfl rfl code_length_ent trivial (fun w0 => ?_)
 refine tS ?_
 refine tR fun _ _ _ => ?_
 refine pV ?_
 refine tS ?_
 refine tS ?_
 refine tR fun _ _ _ => ?_
 iterate 3 refine pV ?_
 refine stg rfl rfl rfl rfl rfl (fun hb => by (have hq := hb; try simp only [zbA] at hq); exact rMove rfl rfl) ?_
 refine stg rfl rfl rfl rfl rfl (fun hb => by (have hq := hb; try simp only [zbA] at hq); exact rGtr rfl (evg rfl hb) rfl) ?_
 refine sV (rOrB rfl rfl rfl rfl) ?_
 refine tC rfl (fun h1 => ?_) (fun h1 => ?_)
 ·try simp only [zbA] at h1
  refine tS ?_
  refine tR fun _ _ _ => ?_
  refine pV ?_
  exact tr_ret ⟨trivial, _, _, rfl, ⟨by rw [if_pos (by omega)], rfl⟩, CSub.nil _, trivial⟩
 ·try simp only [zbA] at h1
  refine tK ?_
  refine tS ?_
  refine tR fun _ _ _ => ?_
  refine pV ?_
  exact tr_ret ⟨trivial, _, _, rfl, ⟨by rw [if_neg (by omega)], rfl⟩, CSub.nil _, trivial⟩
theorem code_lengthOk (n : Int) (h1 : 1 ≤ n) (h2 : n ≤ 64) : Pure Tryz.prog 36 #[.int .i64 n] [] (isV (.int .i64 0)) := by
 have := code_length n
 rwa [if_neg (by omega)] at this
theorem rowsC_gd {q w : Int} {rs : List RowM} (h0 : 0 ≤ w) (h1 : w ≤ 256) (h2 : rs.length ≤ 256) (h : Gd q w.toNat rs) : rowsC q w (xss rs) = 0 :=
 rowsC_ok (by rw [xss_length]; exact ⟨h0, h1, by omega⟩) ((Gd_iff h0).1 h).1 ((Gd_iff h0).1 h).2
theorem Gd.h8 {q : Int} {w N : Nat} {rs : List RowM} (h : Gd q w rs) (hw : w ≤ N) : ∀ r ∈ rs, r.xs.length ≤ N := fun r hr => by have := (h r hr).1; omega
theorem IsF.short {p m : Int} {mod : List Int} (hF : IsF p m mod) : mod.length ≤ 8 := by
 have h := hF.out.1.1
 have := h.m8
 rcases h.low with h1 | h1
 ·rw [h1.2]; simp
 ·have := h1.2; omega
theorem code_New_ent : Enters Tryz.prog 27 := enters_of Tryz.func27 (by kernel_rfl) (by kernel_rfl)
theorem code_New (p m : Int) (A : Option Addr) (c : Nat) (mod : List Int) [hF : IsF p m mod] (w : Int) (Aa : Option Addr) (n ca : Nat) (rs : List RowM) (hn : n = rs.length) (h9 : rs.length ≤ 256) (hw1 : 1 ≤ w) (hw64 : w ≤ 64) (hgd : Gd (pw p m) w.toNat rs) :
  Pure Tryz.prog 27 #[.agg #[.int .i64 p, .int .i64 m, .slice A mod.length c], .agg #[.int .i64 w, .slice Aa n ca]] [ro A (ints mod), ro Aa (hdrs rs), rowsR rs] (three (fun v ca cb cc => ∃ Bm cm B r3, v = .tuple #[.agg #[.int .i64 p, .int .i64 m, .slice Bm mod.length cm, .int .i64 w, .slice B r3.length r3.length], .int .i64 0] ∧ ca = ow Bm 3 cm (ints mod) ∧ cb = rx B (hdrs r3) ∧ cc = rowsCh 3 r3 ∧ CdOf p m mod w.toNat r3 (fun u => Vc.SpL (vsR rs : List (Vc (El p m mod))) u))) := by
 have hl8 := hF.short
 have hE := rowsC_gd (by omega) (by omega) h9 hgd
 refine pure_ofC (args := [.agg #[.int .i64 p, .int .i64 m, .slice A mod.length c], .agg #[.int .i64 w, .slice Aa n ca]]) 27 Tryz.func27 rfl rfl rfl code_New_ent ⟨id, id, id, trivial⟩ (fun w0 => ?_)
 refine tS ?_
 refine tR fun _ _ _ => ?_
 refine eV (eBox rfl rfl rfl rfl rfl (fun p0 => ?_))
 refine eV (eBox rfl rfl rfl rfl rfl (fun p0a => ?_))
 refine eV (eAlloc rfl rfl rfl (fun p0b => ?_))
 refine pV ?_
 refine tS ?_
 refine tR fun _ _ _ => ?_
 refine sV (rLdS rfl rfl rfl) ?_
 refine sV (rLdS rfl rfl rfl) ?_
 refine eV (eCall3 rfl rfl rfl (mat_CanonicalG _ _ _ _ _ (by omega) w _ _ _ rs hn (by omega) (hgd.h8 (by omega)) hE) ⟨rfl, rfl, trivial⟩ ?_)
 rintro _ _ _ _ ⟨B, r3, Bp, cp, ps, rfl, rfl, rfl, rfl, hR, hk⟩
 iterate 4 refine pV ?_
 refine eV (eAlloc rfl rfl rfl (fun p1a => ?_))
 refine eV (eStS rfl rfl rfl rfl rfl rfl ?_)
 iterate 2 refine pV ?_
 refine tS ?_
 refine tS ?_
 refine tR fun _ _ _ => ?_
 iterate 2 refine pV ?_
 refine tC rfl (fun h2 => ?_) (fun h2 => ?_)
 ·try simp only [zbA] at h2
  refine tR fun _ _ _ => ?_
  refine sV (rFld rfl rfl) ?_
  refine sV (rLdF rfl rfl rfl) ?_
  refine eV (eCallV rfl rfl rfl (code_lengthOk w hw1 hw64) ⟨rfl, trivial⟩ ?_)
  refine pV ?_
  refine tS ?_
  refine tR fun _ _ _ => ?_
  refine sV (rLdS rfl rfl rfl) ?_
  refine sV (rLdS rfl rfl rfl) ?_
  refine pV ?_
  refine eV (eCall1 rfl rfl rfl (code_of _ _ _ _ _ (by omega) _ _ _ _) ⟨rfl, rfl, rfl, trivial⟩ ?_)
  rintro _ _ ⟨B4, c4, rfl, rfl⟩
  iterate 2 refine pV ?_
  refine eV (eStS rfl rfl rfl rfl rfl rfl ?_)
  refine pV ?_
  exact tr_ret ⟨trivial, _, _, (.cell rfl (cellS rfl) (.tmp rfl .nil)), ⟨_, _, _, rfl, B4, c4, B, r3, rfl, rfl, rfl, rfl, hR.cd fun u => Iff.rfl⟩, cs _ _, trivial, trivial, trivial, trivial⟩
 ·try simp only [zbA] at h2
  first | exact absurd trivial h2 | exact absurd rfl h2 | omega | (exact absurd h2 (by simp)) --done
theorem ref_FSame_ent : Enters Tryz.prog 28 := enters_of Tryz.func28 (by kernel_rfl) (by kernel_rfl)
theorem ref_FSame (p m : Int) (A : Option Addr) (c : Nat) (mod : List Int) (p2 m2 : Int) (A2 : Option Addr) (c2 : Nat) (mod2 : List Int) (hl9 : mod.length ≤ 17592186044415) :
  Pure Tryz.prog 28 #[.agg #[.int .i64 p, .int .i64 m, .slice A mod.length c], .agg #[.int .i64 p2, .int .i64 m2, .slice A2 mod2.length c2]] [ro A (ints mod), ro A2 (ints mod2)] (isV (.bool (decide (p = p2 ∧ m = m2 ∧ mod = mod2)))) := by
 refine pure_of (args := [.agg #[.int .i64 p, .int .i64 m, .slice A mod.length c], .agg #[.int .i64 p2, .int .i64 m2, .slice A2 mod2.length c2]]) 45 Tryz.func28 rfl rfl rfl ref_FSame_ent ⟨id, id, trivial⟩ (fun w0 => ?_)
 refine tS ?_
 refine tR fun _ _ _ => ?_
 refine eV (eBox rfl rfl rfl rfl rfl (fun p0 => ?_))
 refine eV (eBox rfl rfl rfl rfl rfl (fun p0a => ?_))
 refine pV ?_
 refine tS ?_
 refine tS ?_
 refine tR fun _ _ _ => ?_
 refine sV (rFld rfl rfl) ?_
 refine sV (rLdF rfl rfl rfl) ?_
 refine sV (rFld rfl rfl) ?_
 refine sV (rLdF rfl rfl rfl) ?_
 iterate 2 refine pV ?_
 refine stg rfl rfl rfl rfl rfl (fun hb => by (have hq := hb; try simp only [zbA] at hq); exact rFld rfl rfl) ?_
 refine stg rfl rfl rfl rfl rfl (fun hb => by (have hq := hb; try simp only [zbA] at hq); exact rLdF rfl (evg rfl hb) rfl) ?_
 refine stg rfl rfl rfl rfl rfl (fun hb => by (have hq := hb; try simp only [zbA] at hq); exact rFld rfl rfl) ?_
 refine stg rfl rfl rfl rfl rfl (fun hb => by (have hq := hb; try simp only [zbA] at hq); exact rLdF rfl (evg rfl hb) rfl) ?_
 refine stg rfl rfl rfl rfl rfl (fun hb => by (have hq := hb; try simp only [zbA] at hq); exact rNeq rfl (evg rfl hb) (evg rfl hb)) ?_
 refine sV (rOrB rfl rfl rfl rfl) ?_
 refine pV ?_
 refine stg rfl rfl rfl rfl rfl (fun hb => by (have hq := hb; try simp only [zbA] at hq); exact rFld rfl rfl) ?_
 refine stg rfl rfl rfl rfl rfl (fun hb => by (have hq := hb; try simp only [zbA] at hq); exact rLdF rfl (evg rfl hb) rfl) ?_
 refine stg rfl rfl rfl rfl rfl (fun hb => by (have hq := hb; try simp only [zbA] at hq); exact rLen rfl (evg rfl hb)) ?_
 refine stg rfl rfl rfl rfl rfl (fun hb => by (have hq := hb; try simp only [zbA] at hq); exact rFld rfl rfl) ?_
 refine stg rfl rfl rfl rfl rfl (fun hb => by (have hq := hb; try simp only [zbA] at hq); exact rLdF rfl (evg rfl hb) rfl) ?_
 refine stg rfl rfl rfl rfl rfl (fun hb => by (have hq := hb; try simp only [zbA] at hq); exact rLen rfl (evg rfl hb)) ?_
 refine stg rfl rfl rfl rfl rfl (fun hb => by (have hq := hb; try simp only [zbA] at hq); exact rNeq rfl (evg rfl hb) (evg rfl hb)) ?_
 refine sV (rOrB rfl rfl rfl rfl) ?_
 refine tC rfl (fun h1 => ?_) (fun h1 => ?_)
 ·try simp only [zbA] at h1
  refine tS ?_
  refine tR fun _ _ _ => ?_
  refine pV ?_
  exact tr_ret ⟨trivial, _, _, rfl, ⟨by rw [decide_eq_false (fun h => by obtain ⟨ha, hb, hc⟩ := h; rw [ha, hb, hc] at h1; omega)], rfl⟩, CSub.nil _, trivial⟩
 ·try simp only [zbA] at h1
  refine tK ?_
  refine tS ?_
  refine tS ?_
  refine tR fun _ _ _ => ?_
  refine pV ?_
  refine tB ?_
  refine tr_loop1 (fun (i : Nat) => [(5, .int .i64 i), (2, .pointer (some p0)), (3, .pointer (some p0a))]) (fun (i : Nat) => [blk p0 24 [.int .i64 p, .int .i64 m, .slice A mod.length c], blk p0a 24 [.int .i64 p2, .int .i64 m2, .slice A2 mod2.length c2], ro A (ints mod), ro A2 (ints mod2)]) (fun (i : Nat) => i ≤ mod.length ∧ mod.take i = mod2.take i) (fun (i : Nat) => mod.length - i) (0) ⟨rfl, rfl, rfl, trivial⟩ (by first | exact cs _ _ | exact CSub.refl _) (⟨by omega, rfl⟩) (fun i hI => ?_)
  obtain ⟨hi, ht⟩ := hI
  have hll : mod.length = mod2.length := by omega
  refine tS ?_
  refine tS ?_
  refine tR fun _ _ _ => ?_
  refine pV ?_
  refine sV (rFld rfl rfl) ?_
  refine sV (rLdF rfl rfl rfl) ?_
  refine sV (rLen rfl rfl) ?_
  refine pV ?_
  refine tC rfl (fun h4 => ?_) (fun h4 => ?_)
  ·try simp only [zbA] at h4
   refine tK ?_
   refine tS ?_
   refine tB ?_
   refine tS ?_
   refine tr_draw [0, 1, 2, 3, 4, 5, 6, 7, 8, 9, 10] [] mixed (by kernel_rfl) fun _ _ _ => ?_
   refine sV (rFld rfl rfl) ?_
   refine sV (rLdF rfl rfl rfl) ?_
   refine pV ?_
   refine sV (rIdxI rfl rfl rfl (by omega) (by omega) (by omega)) ?_
   refine sV (rLdI rfl rfl (by omega)) ?_
   refine sV (rFld rfl rfl) ?_
   refine sV (rLdF rfl rfl rfl) ?_
   refine pV ?_
   refine sV (rIdxI rfl rfl rfl (by omega) (by omega) (by omega)) ?_
   refine sV (rLdI rfl rfl (by omega)) ?_
   refine pV ?_
   refine tC rfl (fun h6 => ?_) (fun h6 => ?_)
   ·try simp only [zbA] at h6
    refine tS ?_
    refine tR fun _ _ _ => ?_
    refine pV ?_
    exact tr_ret ⟨trivial, _, _, rfl, ⟨by rw [decide_eq_false (fun h => h6 (by rw [h.2.2]))], rfl⟩, CSub.nil _, trivial⟩
   ·try simp only [zbA] at h6
    refine tK ?_
    refine tR fun _ _ _ => ?_
    refine pV ?_
    refine sV (rAdd rfl rfl rfl (by omega) (by omega)) ?_
    refine pV ?_
    refine ⟨i + 1, ⟨rfl, rfl, rfl, trivial⟩, by first | exact cs _ _ | exact CSub.refl _, ?_⟩
    exact ⟨⟨by omega, take_eq_next 0 mod mod2 hll (by omega) ht (by simpa using h6)⟩, by omega⟩
  ·try simp only [zbA] at h4
   refine tE ?_
   refine tS ?_
   refine tR fun _ _ _ => ?_
   refine pV ?_
   have hia : i = mod.length := by omega
   rw [hia, List.take_length, hll, List.take_length] at ht
   exact tr_ret ⟨trivial, _, _, rfl, ⟨by rw [decide_eq_true ⟨by omega, by omega, ht⟩], rfl⟩, CSub.nil _, trivial⟩
theorem ref_CSame_ent : Enters Tryz.prog 10 := enters_of Tryz.func10 (by kernel_rfl) (by kernel_rfl)
theorem ref_CSame (p m : Int) (A : Option Addr) (c : Nat) (mod : List Int) (hl9 : mod.length ≤ 17592186044415) (w : Int) (B : Option Addr) (n d : Nat) (rs : List RowM) (hn : n = rs.length) (h9 : rs.length ≤ 1000000000000) (h8 : ∀ r ∈ rs, r.xs.length ≤ 1000000000000) (p2 m2 : Int) (A2 : Option Addr) (c2 : Nat) (mod2 : List Int) (w2 : Int) (B2 : Option Addr) (n2 d2 : Nat) (qs : List RowM) (hn2 : n2 = qs.length) :
  Pure Tryz.prog 10 #[.agg #[.int .i64 p, .int .i64 m, .slice A mod.length c, .int .i64 w, .slice B n d], .agg #[.int .i64 p2, .int .i64 m2, .slice A2 mod2.length c2, .int .i64 w2, .slice B2 n2 d2]] [ro A (ints mod), ro B (hdrs rs), rowsR rs, ro A2 (ints mod2), ro B2 (hdrs qs), rowsR qs] (isV (.bool ((decide (p = p2 ∧ m = m2 ∧ mod = mod2) && decide (w = w2)) && decide (xss rs = xss qs)))) := by
 refine pure_of (args := [.agg #[.int .i64 p, .int .i64 m, .slice A mod.length c, .int .i64 w, .slice B n d], .agg #[.int .i64 p2, .int .i64 m2, .slice A2 mod2.length c2, .int .i64 w2, .slice B2 n2 d2]]) 24 Tryz.func10 rfl rfl rfl ref_CSame_ent ⟨id, id, id, id, id, id, trivial⟩ (fun w0 => ?_)
 refine tS ?_
 refine tR fun _ _ _ => ?_
 refine eV (eBox rfl rfl rfl rfl rfl (fun p0 => ?_))
 refine eV (eBox rfl rfl rfl rfl rfl (fun p0a => ?_))
 refine pV ?_
 refine tS ?_
 refine tR fun _ _ _ => ?_
 refine sV (rFld rfl rfl) ?_
 refine sV (rLdSF rfl rfl) ?_
 refine sV (rFld rfl rfl) ?_
 refine sV (rLdSF rfl rfl) ?_
 refine eV (eCallV rfl rfl rfl (ref_FSame _ _ _ _ _ _ _ _ _ _ hl9) ⟨rfl, rfl, trivial⟩ ?_)
 refine pV ?_
 refine stg rfl rfl rfl rfl rfl (fun hb => by (have hq := hb; try simp only [zbA] at hq); exact rFld rfl rfl) ?_
 refine stg rfl rfl rfl rfl rfl (fun hb => by (have hq := hb; try simp only [zbA] at hq); exact rLdF rfl (evg rfl hb) rfl) ?_
 refine stg rfl rfl rfl rfl rfl (fun hb => by (have hq := hb; try simp only [zbA] at hq); exact rFld rfl rfl) ?_
 refine stg rfl rfl rfl rfl rfl (fun hb => by (have hq := hb; try simp only [zbA] at hq); exact rLdF rfl (evg rfl hb) rfl) ?_
 refine stg rfl rfl rfl rfl rfl (fun hb => by (have hq := hb; try simp only [zbA] at hq); exact rEql rfl (evg rfl hb) (evg rfl hb)) ?_
 refine sV (rAndB rfl rfl rfl rfl) ?_
 refine pV ?_
 refine stg rfl rfl rfl rfl rfl (fun hb => by (have hq := hb; try simp only [zbA] at hq); exact rFld rfl rfl) ?_
 refine stg rfl rfl rfl rfl rfl (fun hb => by (have hq := hb; try simp only [zbA] at hq); exact rLdF rfl (evg rfl hb) rfl) ?_
 refine stg rfl rfl rfl rfl rfl (fun hb => by (have hq := hb; try simp only [zbA] at hq); exact rFld rfl rfl) ?_
 refine stg rfl rfl rfl rfl rfl (fun hb => by (have hq := hb; try simp only [zbA] at hq); exact rLdF rfl (evg rfl hb) rfl) ?_
 refine efg rfl rfl rfl rfl rfl (fun hb => by (have hq := hb; try simp only [zbA] at hq); exact eCallV rfl rfl rfl (ref_SameRows _ _ _ rs hn _ _ _ qs hn2 h9 h8) ⟨(evg rfl hb), (evg rfl hb), trivial⟩ ⟨rfl, rfl⟩) ?_
 refine sV (rAndB rfl rfl rfl rfl) ?_
 refine pV ?_
 exact tr_ret ⟨trivial, _, _, rfl, ⟨rfl, rfl⟩, CSub.nil _, trivial⟩
end Go.Proofs.YtdkahdehodopoaaGreat

set_option maxRecDepth 100000
namespace Go.Proofs.YtdkahdehodopoaaGreat
open Go.RowKit
theorem cyc_New_ent : Enters Tryz.prog 9 := enters_of Tryz.func9 (by kernel_rfl) (by kernel_rfl)
theorem cyc_New (p m : Int) (A : Option Addr) (c : Nat) (mod : List Int) [hF : IsF p m mod] (n : Int) (hn1 : 1 ≤ n) (hn9 : n ≤ 64) (Al : Option Addr) (nl cl : Nat) (l : List Int) (hnl : nl = l.length) (hl : l.length ≤ 100000) (hin : AllIn (pw p m) l) :
  Pure Tryz.prog 9 #[.agg #[.int .i64 p, .int .i64 m, .slice A mod.length c], .int .i64 n, .slice Al nl cl] [ro A (ints mod), ro Al (ints l)] (three (fun v ca cb cc => ∃ Bm cm B r3, v = .tuple #[.agg #[.int .i64 p, .int .i64 m, .slice Bm mod.length cm, .int .i64 n, .slice B r3.length r3.length], .int .i64 0] ∧ ca = ow Bm 3 cm (ints mod) ∧ cb = rx B (hdrs r3) ∧ cc = rowsCh 3 r3 ∧ CdOf p m mod n.toNat r3 (CyW n.toNat (Po.gcd (pol l : Po (El p m mod)) (xn1 n.toNat))))) := by
 have hq2 := hF.q2
 have hgl : (il (Po.gcd (pol l : Po (El p m mod)) (xn1 n.toNat))).length ≤ n.toNat + 1 := by
  rw [il_length]; have := Po.dvd_len (Po.gcd_is (pol l : Po (El p m mod)) (xn1 n.toNat)).right (xn1_ne (by omega)); rw [xn1_len (by omega)] at this; exact this
 have hg0 : 1 ≤ (il (Po.gcd (pol l : Po (El p m mod)) (xn1 n.toNat))).length := by
  rw [il_length]; exact Po.len_pos (Po.gcd_ne (.inr (xn1_ne (by omega))))
 have hgi := il_in (Po.gcd (pol l : Po (El p m mod)) (xn1 n.toNat))
 refine pure_ofC (args := [.agg #[.int .i64 p, .int .i64 m, .slice A mod.length c], .int .i64 n, .slice Al nl cl]) 77 Tryz.func9 rfl rfl rfl cyc_New_ent ⟨id, id, trivial⟩ (fun w0 => ?_)
 refine tS ?_
 refine tR fun _ _ _ => ?_
 refine eV (eBox rfl rfl rfl rfl rfl (fun p0 => ?_))
 refine eV (eAlloc rfl rfl rfl (fun p0a => ?_))
 refine pV ?_
 refine tS ?_
 refine tR fun _ _ _ => ?_
 refine sV (rLdS rfl rfl rfl) ?_
 refine eV (eCall1 rfl rfl rfl (fld_New_ok _ _ _ _ _ (by have := hF.short; omega) hF.out) ⟨rfl, trivial⟩ ?_)
 rintro _ _ ⟨g, rfl, rfl, hg⟩
 iterate 5 refine pV ?_
 refine tS ?_
 refine tS ?_
 refine tR fun _ _ _ => ?_
 iterate 2 refine pV ?_
 refine tC rfl (fun h2 => ?_) (fun h2 => ?_)
 ·try simp only [zbA] at h2
  first | exact absurd trivial h2 | exact absurd rfl h2 | omega --done
 ·try simp only [zbA] at h2
  refine tK ?_
  refine tS ?_
  refine tS ?_
  refine tR fun _ _ _ => ?_
  iterate 3 refine pV ?_
  refine stg rfl rfl rfl rfl rfl (fun hb => by (have hq := hb; try simp only [zbA] at hq); exact rMove rfl rfl) ?_
  refine stg rfl rfl rfl rfl rfl (fun hb => by (have hq := hb; try simp only [zbA] at hq); exact rGtr rfl (evg rfl hb) rfl) ?_
  refine sV (rOrB rfl rfl rfl rfl) ?_
  refine tC rfl (fun h4 => ?_) (fun h4 => ?_)
  ·try simp only [zbA] at h4
   omega --done
  ·try simp only [zbA] at h4
   refine tK ?_
   refine tS ?_
   refine tS ?_
   refine tR fun _ _ _ => ?_
   refine pV ?_
   refine sV (rLen rfl rfl) ?_
   refine pV ?_
   refine tB ?_
   refine tr_loop1 (fun (k : Int) => [(34, .int .i64 k), (1, .int .i64 n), (2, .slice Al nl cl), (3, .pointer (some p0)), (6, .pointer (some p0a)), (8, .pointer (some g.p)), (32, .slice Al nl cl), (33, .int .i64 nl)]) (fun (k : Int) => [gfN g, blk p0 24 [.int .i64 p, .int .i64 m, .slice A mod.length c], blk p0a 27 [.int .i64 0, .int .i64 0, .slice none 0 0, .int .i64 0, .slice none 0 0], ro A (ints mod), ro Al (ints l)]) (fun (k : Int) => 0 ≤ k ∧ k ≤ nl) (fun (k : Int) => (nl - k).toNat) (0) ⟨rfl, rfl, rfl, rfl, rfl, rfl, rfl, rfl, trivial⟩ (by first | exact cs _ _ | exact CSub.refl _) (by omega) (fun k hI => ?_)
   refine tS ?_
   refine tR fun _ _ _ => ?_
   refine pV ?_
   refine tS ?_
   refine tC rfl (fun h7 => ?_) (fun h7 => ?_)
   ·try simp only [zbA] at h7
    refine tK ?_
    refine tS ?_
    refine tB ?_
    refine tS ?_
    refine tR fun _ _ _ => ?_
    refine sV (rIdxI rfl rfl rfl (by omega) (by omega) (by omega)) ?_
    refine sV (rLdI rfl rfl (by omega)) ?_
    refine pV ?_
    refine tS ?_
    refine tR fun _ _ _ => ?_
    iterate 2 refine pV ?_
    refine eV (eCallV rfl rfl rfl (gf_Is g _) ⟨rfl, rfl, trivial⟩ ?_)
    refine sV (rNotB rfl rfl) ?_
    refine tC rfl (fun h9 => ?_) (fun h9 => ?_)
    ·try simp only [zbA] at h9
     have hb := hin.get (by omega) k.toNat
     have heq := hg.eq
     rw [heq] at h9
     omega --done
    ·try simp only [zbA] at h9
     refine tK ?_
     refine tR fun _ _ _ => ?_
     refine sV (rAdd rfl rfl rfl (by omega) (by omega)) ?_
     refine pV ?_
     refine ⟨k + 1, ⟨rfl, rfl, rfl, rfl, rfl, rfl, rfl, rfl, trivial⟩, by first | exact cs _ _ | exact CSub.refl _, ?_⟩
     omega
   ·try simp only [zbA] at h7
    refine tE ?_
    refine tS ?_
    refine tR fun _ _ _ => ?_
    iterate 4 refine pV ?_
    refine eV (eCall1 rfl rfl rfl (cyc_around g hg n hn1 (by omega)) ⟨rfl, rfl, trivial⟩ ?_)
    rintro _ _ ⟨B12, rfl, rfl⟩
    refine eV (eCall1 rfl rfl rfl (poly_Gcd g hg _ _ _ l hnl (by omega) B12 _ _ (aroundL p m mod n.toNat) rfl (by rw [around_length]; omega) (.inr (by rw [pol_around (by omega)]; exact xn1_ne (by omega)))) ⟨rfl, rfl, rfl, trivial⟩ ?_)
    rintro _ _ ⟨Bg, cg, rfl, rfl⟩
    refine pV ?_
    simp only [pol_around (p := p) (m := m) (mod := mod) (show 1 ≤ n.toNat by omega)]
    generalize hgen : (il (Po.gcd (pol l : Po (El p m mod)) (xn1 n.toNat))) = gen at *
    refine tS ?_
    refine tR fun _ _ _ => ?_
    refine pV ?_
    refine tS ?_
    refine tS ?_
    refine tR fun _ _ _ => ?_
    refine pV ?_
    refine sV (rAdd rfl rfl rfl (by omega) (by omega)) ?_
    refine pV ?_
    refine sV (rLen rfl rfl) ?_
    refine sV (rSub rfl rfl rfl (by omega) (by omega)) ?_
    refine pV ?_
    refine tB ?_
    refine tr_nilR 22 3 ?_
    refine tr_loop4 (fun (k : Int) (AQ : Option Addr) (cq : Nat) (qs : List RowM) => [(12, .slice Bg gen.length cg), (13, .slice AQ qs.length cq), (54, .int .i64 (n + 1 - gen.length)), (55, .int .i64 k), (1, .int .i64 n), (3, .pointer (some p0)), (6, .pointer (some p0a))]) (fun (k : Int) (AQ : Option Addr) (cq : Nat) (qs : List RowM) => [ow AQ 22 cq (hdrs qs), rowsCh 3 qs, ow Bg 3 cg (ints gen), gfN g, blk p0 24 [.int .i64 p, .int .i64 m, .slice A mod.length c], blk p0a 27 [.int .i64 0, .int .i64 0, .slice none 0 0, .int .i64 0, .slice none 0 0], ro A (ints mod), ro Al (ints l)]) (fun (k : Int) (AQ : Option Addr) (cq : Nat) (qs : List RowM) => (0 ≤ k ∧ k ≤ n + 1 - gen.length) ∧ xss qs = (List.range k.toNat).map (shR n.toNat gen)) (fun (k : Int) (AQ : Option Addr) (cq : Nat) (qs : List RowM) => (n + 1 - gen.length - k).toNat) (0) (none) (0) ([]) ⟨rfl, rfl, rfl, rfl, rfl, rfl, rfl, trivial⟩ (by first | exact cs _ _ | exact CSub.refl _) (⟨⟨by omega, by omega⟩, rfl⟩) (fun k AQ cq qs hI => ?_)
    obtain ⟨⟨hk0, hk1⟩, hqs⟩ := hI
    have hql : qs.length = k.toNat := by have := congrArg List.length hqs; simpa using this
    refine tS ?_
    refine tR fun _ _ _ => ?_
    refine pV ?_
    refine tS ?_
    refine tC rfl (fun h15 => ?_) (fun h15 => ?_)
    ·try simp only [zbA] at h15
     refine tK ?_
     refine tS ?_
     refine tB ?_
     refine tS ?_
     refine tR fun _ _ _ => ?_
     iterate 2 refine pV ?_
     refine tS ?_
     refine tR fun _ _ _ => ?_
     refine pV ?_
     refine eV (eMakeI rfl rfl rfl rfl rfl (by omega) (by omega) (by omega) (fun A17 => ?_))
     refine pV ?_
     refine tS ?_
     refine tR fun _ _ _ => ?_
     iterate 2 refine pV ?_
     refine sV (rCut rfl rfl rfl (by omega) (by omega) (by omega)) ?_
     refine pV ?_
     refine eV (eCopyI rfl rfl rfl rfl rfl rfl (by first | omega | (simp; omega)) (by first | omega | (simp; omega)) ?_)
     rw [shR_def]
     refine tR fun _ _ _ => ?_
     iterate 2 refine pV ?_
     refine eV (eLit1 rfl rfl rfl rfl rfl (fun A19 => ?_))
     refine eV (eAppRn (shR n.toNat gen k.toNat) (shR_length (by omega)).symm rfl rfl rfl rfl rfl (by first | rfl | simp) (by omega) (fun A19a c19a => ?_))
     refine pV ?_
     refine tR fun _ _ _ => ?_
     refine sV (rAdd rfl rfl rfl (by omega) (by omega)) ?_
     refine pV ?_
     refine ⟨k + 1, A19a, c19a, qs ++ [⟨A17, n.toNat, shR n.toNat gen k.toNat⟩], ⟨rfl, rfl, rfl, rfl, rfl, rfl, rfl, trivial⟩, by exact rows_app, ?_⟩
     refine ⟨⟨⟨by omega, by omega⟩, ?_⟩, by omega⟩
     rw [xss_snoc, hqs, show (k + 1).toNat = k.toNat + 1 by omega, List.range_succ, List.map_append]
     rfl
    ·try simp only [zbA] at h15
     refine tE ?_
     refine tS ?_
     have hke : k = n + 1 - gen.length := by omega
     have hgdq : Gd (pw p m) n.toNat qs := by
      refine (Gd_iff (by omega)).2 ⟨fun r hr => ?_, fun r hr => ?_⟩
      ·rw [hqs] at hr
       obtain ⟨j, hj, rfl⟩ := List.mem_map.1 hr
       rw [List.mem_range] at hj
       rw [shR_length (by omega)]; omega
      ·rw [hqs] at hr
       obtain ⟨j, hj, rfl⟩ := List.mem_map.1 hr
       rw [List.mem_range] at hj
       exact shR_in (by omega) (by omega) hgi
     refine tR fun _ _ _ => ?_
     refine sV (rLdS rfl rfl rfl) ?_
     iterate 2 refine pV ?_
     refine sV (rBuild rfl rfl) ?_
     refine eV (eCall3 rfl rfl rfl (code_New _ _ _ _ _ n AQ _ cq qs rfl (by omega) hn1 hn9 hgdq) ⟨rfl, rfl, trivial⟩ ?_)
     rintro _ _ _ _ ⟨Bm, cm, B, r3, rfl, rfl, rfl, rfl, hC⟩
     iterate 2 refine pV ?_
     refine eV (eStS rfl rfl rfl rfl rfl rfl ?_)
     refine pV ?_
     have hW : ∀ u, Vc.SpL (vsR qs : List (Vc (El p m mod))) u ↔ CyW n.toNat (Po.gcd (pol l : Po (El p m mod)) (xn1 n.toNat)) u := by
      have hlen : Po.len (Po.gcd (pol l : Po (El p m mod)) (xn1 n.toNat)) = (gen.length - 1) + 1 := by rw [← il_length, hgen]; omega
      refine span_shifts hlen (by omega) (by rw [vsR_length, hql]; omega) fun i hi j => ?_
      rw [vsR_get, ← xss_getD, hqs, List.getD_eq_getElem?_getD, List.getElem?_map, List.getElem?_range (by omega)]
      rw [← hgen]
      exact shR_cf (by rw [hgen]; omega) j
     exact tr_ret ⟨trivial, _, _, (.cell rfl (cellS rfl) (.tmp rfl .nil)), ⟨_, _, _, rfl, Bm, cm, B, r3, rfl, rfl, rfl, rfl, hC.iff hW⟩, cs _ _, trivial, trivial, trivial, trivial⟩
end Go.Proofs.YtdkahdehodopoaaGreat

set_option maxRecDepth 100000
namespace Go.Proofs.YtdkahdehodopoaaGreat
open Go.RowKit
theorem slc_Equal_ent : Enters Tryz.prog 110 := enters_of Tryz.func110 (by kernel_rfl) (by kernel_rfl)
theorem slc_Equal (A : Option Addr) (n c : Nat) (a : List Int) (hn : n = a.length) (B : Option Addr) (m d : Nat) (b : List Int) (hm : m = b.length) (h9 : a.length ≤ 17592186044415) :
  Pure Tryz.prog 110 #[.slice A n c, .slice B m d] [ro A (ints a), ro B (ints b)] (isV (.bool (decide (a = b)))) := by
 refine pure_of (args := [.slice A n c, .slice B m d]) 26 Tryz.func110 rfl rfl rfl slc_Equal_ent ⟨id, id, trivial⟩ (fun w0 => ?_)
 refine tS ?_
 refine tR fun _ _ _ => ?_
 refine pV ?_
 refine tS ?_
 refine tS ?_
 refine tR fun _ _ _ => ?_
 refine pV ?_
 refine sV (rLen rfl rfl) ?_
 refine pV ?_
 refine sV (rLen rfl rfl) ?_
 refine pV ?_
 refine tC rfl (fun h1 => ?_) (fun h1 => ?_)
 ·try simp only [zbA] at h1
  refine tS ?_
  refine tR fun _ _ _ => ?_
  refine pV ?_
  exact tr_ret ⟨trivial, _, _, rfl, ⟨by rw [decide_eq_false (fun h => by rw [h] at hn; omega)], rfl⟩, CSub.nil _, trivial⟩
 ·try simp only [zbA] at h1
  refine tK ?_
  refine tS ?_
  refine tS ?_
  refine tR fun _ _ _ => ?_
  refine pV ?_
  refine sV (rLen rfl rfl) ?_
  refine pV ?_
  refine tB ?_
  refine tr_loop1 (fun (i : Nat) => [(13, .int .i64 i), (0, .slice A n c), (1, .slice B m d), (12, .int .i64 n)]) (fun (i : Nat) => [ro A (ints a), ro B (ints b)]) (fun (i : Nat) => i ≤ a.length ∧ a.take i = b.take i) (fun (i : Nat) => a.length - i) (0) ⟨rfl, rfl, rfl, rfl, trivial⟩ (by first | exact cs _ _ | exact CSub.refl _) (⟨by omega, rfl⟩) (fun i hI => ?_)
  obtain ⟨hi, ht⟩ := hI
  have hll : a.length = b.length := by omega
  refine tS ?_
  refine tR fun _ _ _ => ?_
  refine pV ?_
  refine tS ?_
  refine tC rfl (fun h4 => ?_) (fun h4 => ?_)
  ·try simp only [zbA] at h4
   refine tK ?_
   refine tS ?_
   refine tB ?_
   refine tS ?_
   refine tR fun _ _ _ => ?_
   iterate 2 refine pV ?_
   refine tS ?_
   refine tr_draw [0, 1, 2, 3, 4, 5, 6, 7, 8] [] mixed (by kernel_rfl) fun _ _ _ => ?_
   iterate 2 refine pV ?_
   refine sV (rIdxI rfl rfl rfl (by omega) (by omega) (by omega)) ?_
   refine sV (rLdI rfl rfl (by omega)) ?_
   iterate 2 refine pV ?_
   refine sV (rIdxI rfl rfl rfl (by omega) (by omega) (by omega)) ?_
   refine sV (rLdI rfl rfl (by omega)) ?_
   refine pV ?_
   refine tC rfl (fun h6 => ?_) (fun h6 => ?_)
   ·try simp only [zbA] at h6
    refine tS ?_
    refine tR fun _ _ _ => ?_
    refine pV ?_
    exact tr_ret ⟨trivial, _, _, rfl, ⟨by rw [decide_eq_false (fun h => h6 (by rw [h]))], rfl⟩, CSub.nil _, trivial⟩
   ·try simp only [zbA] at h6
    refine tK ?_
    refine tR fun _ _ _ => ?_
    refine sV (rAdd rfl rfl rfl (by omega) (by omega)) ?_
    refine pV ?_
    refine ⟨i + 1, ⟨rfl, rfl, rfl, rfl, trivial⟩, by first | exact cs _ _ | exact CSub.refl _, ?_⟩
    exact ⟨⟨by omega, take_eq_next 0 a b hll (by omega) ht (by simpa using h6)⟩, by omega⟩
  ·try simp only [zbA] at h4
   refine tE ?_
   refine tS ?_
   refine tR fun _ _ _ => ?_
   refine pV ?_
   have hia : i = a.length := by omega
   rw [hia, List.take_length, hll, List.take_length] at ht
   exact tr_ret ⟨trivial, _, _, rfl, ⟨by rw [decide_eq_true ht], rfl⟩, CSub.nil _, trivial⟩
theorem slc_EqualF (r q : RowM) (h9 : r.xs.length ≤ 17592186044415) : Pure Tryz.prog 110 ([Value.slice r.A r.xs.length r.cap, Value.slice q.A q.xs.length q.cap] ++ []).toArray [ro r.A (ints r.xs), ro q.A (ints q.xs)] (isV (.bool (decide (r.xs = q.xs)))) :=
 slc_Equal _ _ _ r.xs rfl _ _ _ q.xs rfl h9
theorem slc_EqualFunc_ent : Enters Tryz.prog 109 := enters_of Tryz.func109 (by kernel_rfl) (by kernel_rfl)
theorem slc_EqualFunc (A : Option Addr) (n c : Nat) (rs : List RowM) (hn : n = rs.length) (B : Option Addr) (m d : Nat) (qs : List RowM) (hm : m = qs.length) (h9 : rs.length ≤ 17592186044415) (h8 : ∀ r ∈ rs, r.xs.length ≤ 17592186044415) :
  Pure Tryz.prog 109 #[.slice A n c, .slice B m d, .func (.func 110) #[] #[]] [ro A (hdrs rs), rowsR rs, ro B (hdrs qs), rowsR qs] (isV (.bool (decide (xss rs = xss qs)))) := by
 refine pure_of (args := [.slice A n c, .slice B m d, .func (.func 110) #[] #[]]) 32 Tryz.func109 rfl rfl rfl slc_EqualFunc_ent ⟨id, id, id, id, trivial⟩ (fun w0 => ?_)
 refine tS ?_
 refine tR fun _ _ _ => ?_
 refine pV ?_
 refine tS ?_
 refine tS ?_
 refine tR fun _ _ _ => ?_
 refine pV ?_
 refine sV (rLen rfl rfl) ?_
 refine pV ?_
 refine sV (rLen rfl rfl) ?_
 refine pV ?_
 refine tC rfl (fun h1 => ?_) (fun h1 => ?_)
 ·try simp only [zbA] at h1
  refine tS ?_
  refine tR fun _ _ _ => ?_
  refine pV ?_
  exact tr_ret ⟨trivial, _, _, rfl, ⟨by rw [decide_eq_false (fun h => by have := congrArg List.length h; simp at this; omega)], rfl⟩, CSub.nil _, trivial⟩
 ·try simp only [zbA] at h1
  refine tK ?_
  refine tS ?_
  refine tS ?_
  refine tR fun _ _ _ => ?_
  refine pV ?_
  refine sV (rLen rfl rfl) ?_
  refine pV ?_
  refine tB ?_
  refine tr_loop1 (fun (i : Nat) => [(17, .int .i64 i), (1, .slice B m d), (2, .func (.func 110) #[] #[]), (15, .slice A n c), (16, .int .i64 n)]) (fun (i : Nat) => [ro A (hdrs rs), rowsR rs, ro B (hdrs qs), rowsR qs]) (fun (i : Nat) => i ≤ rs.length ∧ (xss rs).take i = (xss qs).take i) (fun (i : Nat) => rs.length - i) (0) ⟨rfl, rfl, rfl, rfl, rfl, trivial⟩ (by first | exact cs _ _ | exact CSub.refl _) (⟨by omega, rfl⟩) (fun i hI => ?_)
  obtain ⟨hi, ht⟩ := hI
  have hll : rs.length = qs.length := by omega
  refine tS ?_
  refine tR fun _ _ _ => ?_
  refine pV ?_
  refine tS ?_
  refine tC rfl (fun h4 => ?_) (fun h4 => ?_)
  ·try simp only [zbA] at h4
   refine tK ?_
   refine tS ?_
   refine tB ?_
   refine tS ?_
   haveI : InB (i : Int).toNat rs.length := ⟨by omega⟩
   haveI : InB (i : Int).toNat qs.length := ⟨by omega⟩
   have hr8 := h8 _ (getD_mem (show (i : Int).toNat < rs.length by omega) rowD)
   refine tR fun _ _ _ => ?_
   refine pV ?_
   refine sV (rIdxR rfl rfl rfl (by omega) (by omega) (by omega)) ?_
   refine sV (rLdR rfl rfl (by omega)) ?_
   iterate 2 refine pV ?_
   refine tS ?_
   refine tR fun _ _ _ => ?_
   iterate 2 refine pV ?_
   refine sV (rIdxR rfl rfl rfl (by omega) (by omega) (by omega)) ?_
   refine sV (rLdR rfl rfl (by omega)) ?_
   refine pV ?_
   refine tS ?_
   refine tR fun _ _ _ => ?_
   iterate 3 refine pV ?_
   refine eV (eCallFV rfl rfl rfl rfl (slc_EqualF (rs.getD (i : Int).toNat rowD) (qs.getD (i : Int).toNat rowD) hr8) ⟨rfl, rfl, trivial⟩ inferInstance ?_)
   refine sV (rNotB rfl rfl) ?_
   refine tC rfl (fun h7 => ?_) (fun h7 => ?_)
   ·try simp only [zbA] at h7
    refine tS ?_
    refine tR fun _ _ _ => ?_
    refine pV ?_
    exact tr_ret ⟨trivial, _, _, rfl, ⟨by rw [decide_eq_false (fun h => by have := congrArg (fun l => l.getD i []) h; simp only [xss_getD] at this; simp only [Int.toNat_natCast] at h7; exact h7 this)], rfl⟩, CSub.nil _, trivial⟩
   ·try simp only [zbA] at h7
    refine tK ?_
    refine tR fun _ _ _ => ?_
    refine sV (rAdd rfl rfl rfl (by omega) (by omega)) ?_
    refine pV ?_
    refine ⟨i + 1, ⟨rfl, rfl, rfl, rfl, rfl, trivial⟩, by first | exact cs _ _ | exact CSub.refl _, ?_⟩
    exact ⟨⟨by omega, take_eq_next [] _ _ (by simpa using hll) (by rw [xss_length]; omega) ht (by rw [xss_getD, xss_getD]; simpa using h7)⟩, by omega⟩
  ·try simp only [zbA] at h4
   refine tE ?_
   refine tS ?_
   refine tR fun _ _ _ => ?_
   refine pV ?_
   have hia : i = rs.length := by omega
   rw [List.take_of_length_le (by rw [xss_length]; omega), List.take_of_length_le (by rw [xss_length]; omega)] at ht
   exact tr_ret ⟨trivial, _, _, rfl, ⟨by rw [decide_eq_true ht], rfl⟩, CSub.nil _, trivial⟩
theorem fld_CheckN_ent : Enters Tryz.prog 35 := enters_of Tryz.func35 (by kernel_rfl) (by kernel_rfl)
theorem fld_CheckN (p m : Int) (A : Option Addr) (c : Nat) (mod : List Int) (hl9 : mod.length ≤ 17592186044415) (hsh : bShp p m mod = false) :
  Pure Tryz.prog 35 #[.agg #[.int .i64 p, .int .i64 m, .slice A mod.length c]] [ro A (ints mod)] (isV (.int .i64 1)) := by
 refine pure_of (args := [.agg #[.int .i64 p, .int .i64 m, .slice A mod.length c]]) 16 Tryz.func35 rfl rfl rfl fld_CheckN_ent ⟨id, trivial⟩ (fun w0 => ?_)
 refine tS ?_
 refine tR fun _ _ _ => ?_
 refine eV (eBox rfl rfl rfl rfl rfl (fun p0 => ?_))
 refine pV ?_
 refine tS ?_
 refine tS ?_
 refine tr_draw [0, 1, 2, 3, 4, 5, 6, 7, 8, 9, 10, 11, 12] [] mixed (by kernel_rfl) fun _ _ _ => ?_
 refine sV (rLdS rfl rfl rfl) ?_
 refine eV (eCallV rfl rfl rfl (fld_shape _ _ _ _ _ (by omega)) ⟨rfl, trivial⟩ ?_)
 refine sV (rNotB rfl rfl) ?_
 refine pV ?_
 refine skF rfl rfl (by simp [hsh]) rfl rfl ?_
 refine skF rfl rfl (by simp [hsh]) rfl rfl ?_
 refine skF rfl rfl (by simp [hsh]) rfl rfl ?_
 refine skF rfl rfl (by simp [hsh]) rfl rfl ?_
 refine skF rfl rfl (by simp [hsh]) rfl rfl ?_
 refine skF rfl rfl (by simp [hsh]) rfl rfl ?_
 refine skF rfl rfl (by simp [hsh]) rfl rfl ?_
 refine skF rfl rfl (by simp [hsh]) rfl rfl ?_
 refine sV (rPick1 rfl rfl (by simp [hsh]) rfl) ?_
 refine tC rfl (fun h1 => ?_) (fun h1 => ?_)
 ·try simp only [zbA] at h1
  refine tS ?_
  refine tR fun _ _ _ => ?_
  refine pV ?_
  exact tr_ret ⟨trivial, _, _, rfl, ⟨rfl, rfl⟩, CSub.nil _, trivial⟩
 ·try simp only [zbA] at h1
  first | exact absurd trivial h1 | exact absurd rfl h1 | omega | (exact absurd h1 (by simp)) --done
theorem fld_CheckS_ent : Enters Tryz.prog 35 := enters_of Tryz.func35 (by kernel_rfl) (by kernel_rfl)
theorem fld_CheckS (p m : Int) (A : Option Addr) (c : Nat) (mod : List Int) (hl9 : mod.length ≤ 17592186044415) (hsh : bShp p m mod = true) :
  Pure Tryz.prog 35 #[.agg #[.int .i64 p, .int .i64 m, .slice A mod.length c]] [ro A (ints mod)] (isV (.int .i64 (chkF p m mod))) := by
 have hs1 := ((bShp_iff p m mod).1 hsh).1
 have hs2 := (bShp_iff p m mod).1 hsh
 refine pure_of (args := [.agg #[.int .i64 p, .int .i64 m, .slice A mod.length c]]) 16 Tryz.func35 rfl rfl rfl fld_CheckS_ent ⟨id, trivial⟩ (fun w0 => ?_)
 refine tS ?_
 refine tR fun _ _ _ => ?_
 refine eV (eBox rfl rfl rfl rfl rfl (fun p0 => ?_))
 refine pV ?_
 refine tS ?_
 refine tS ?_
 refine tr_draw [0, 1, 2, 3, 4, 5, 6, 7, 8, 9, 10, 11, 12] [] mixed (by kernel_rfl) fun _ _ _ => ?_
 refine sV (rLdS rfl rfl rfl) ?_
 refine eV (eCallV rfl rfl rfl (fld_shape _ _ _ _ _ (by omega)) ⟨rfl, trivial⟩ ?_)
 refine sV (rNotB rfl rfl) ?_
 refine pV ?_
 refine stT rfl rfl rfl (by simp [hsh]) rfl rfl (rLdS rfl rfl rfl) ?_
 refine stT rfl rfl rfl (by simp [hsh]) rfl rfl (rFld rfl rfl) ?_
 refine stT rfl rfl rfl (by simp [hsh]) rfl rfl (rLdF rfl rfl rfl) ?_
 refine stT rfl rfl rfl (by simp [hsh]) rfl rfl (rFld rfl rfl) ?_
 refine stT rfl rfl rfl (by simp [hsh]) rfl rfl (rLdF rfl rfl rfl) ?_
 refine efT rfl rfl rfl (by simp [hsh]) (eCallV rfl rfl rfl (fld_order _ _) ⟨rfl, rfl, trivial⟩ ?_)
 refine efT rfl rfl rfl (by simp [hsh]) (eCall1 rfl rfl rfl (fld_gen _ _ _ _ _ hs1 _ hs1.ord) ⟨rfl, rfl, trivial⟩ ?_)
 rintro _ _ ⟨B, l, cb, rfl, hl, hn, rfl⟩
 refine stT rfl rfl rfl (by simp [hsh]) rfl rfl (rNilS rfl rfl rfl) ?_
 refine sV (rPick0 rfl rfl (by simp [hsh]) rfl) ?_
 refine tC rfl (fun h1 => ?_) (fun h1 => ?_)
 ·try simp only [zbA] at h1
  refine tr_emptyI (A := B) (xs := l) (fun hemp => ?_)
  have hl0 := hemp h1
  refine tS ?_
  refine tR fun _ _ _ => ?_
  refine pV ?_
  rw [hl0] at hl
  exact tr_ret ⟨trivial, _, _, rfl, ⟨by rw [chkF_no fun h => hl.nil (fldN_iff.2 h).2], rfl⟩, CSub.nil _, trivial⟩
 ·try simp only [zbA] at h1
  refine tK ?_
  refine tS ?_
  refine tR fun _ _ _ => ?_
  refine pV ?_
  have hgn : l ≠ [] := fun h => by
   rw [hn h] at h1
   simp at h1
  have hF : FldR p m mod := fldN_iff.1 ⟨hs2, by
   rcases hl with ⟨x, h⟩ | h
   ·exact ⟨x, l, h⟩
   ·exact absurd h.1 hgn⟩
  exact tr_ret ⟨trivial, _, _, rfl, ⟨by rw [chkF_ok hF], rfl⟩, CSub.nil _, trivial⟩
theorem fld_Check (p m : Int) (A : Option Addr) (c : Nat) (mod : List Int) (hl9 : mod.length ≤ 17592186044415) : Pure Tryz.prog 35 #[.agg #[.int .i64 p, .int .i64 m, .slice A mod.length c]] [ro A (ints mod)] (isV (.int .i64 (chkF p m mod))) := by
 cases hsh : bShp p m mod with
 | true => exact fld_CheckS p m A c mod hl9 hsh
 | false =>
  have h := fld_CheckN p m A c mod hl9 hsh
  rwa [← chkF_no (p := p) (m := m) (mod := mod) (fun h => by rw [bShp_true h.1] at hsh; cases hsh)] at h
theorem spc_openE_ent : Enters Tryz.prog 67 := enters_of Tryz.func67 (by kernel_rfl) (by kernel_rfl)
theorem spc_openE (p m : Int) (A : Option Addr) (c : Nat) (mod : List Int) (hl9 : mod.length ≤ 17592186044415) [hF : IsF p m mod] (w : Int) (Aa : Option Addr) (n ca : Nat) (rs : List RowM) (hn : n = rs.length) (h9 : rs.length ≤ 17592186044415) (h8 : ∀ r ∈ rs, r.xs.length ≤ 17592186044415) (hE : rowsC (pw p m) w (xss rs) ≠ 0) :
  Pure Tryz.prog 67 #[.agg #[.int .i64 p, .int .i64 m, .slice A mod.length c], .agg #[.int .i64 w, .slice Aa n ca]] [ro A (ints mod), ro Aa (hdrs rs), rowsR rs] (isV (.tuple #[.agg #[.pointer none, .int .i64 0, .slice none 0 0, .slice none 0 0], .int .i64 (rowsC (pw p m) w (xss rs))])) := by
 refine pure_ofC (args := [.agg #[.int .i64 p, .int .i64 m, .slice A mod.length c], .agg #[.int .i64 w, .slice Aa n ca]]) 38 Tryz.func67 rfl rfl rfl spc_openE_ent ⟨id, id, id, trivial⟩ (fun w0 => ?_)
 refine tS ?_
 refine tR fun _ _ _ => ?_
 refine eV (eBox rfl rfl rfl rfl rfl (fun p0 => ?_))
 refine eV (eBox rfl rfl rfl rfl rfl (fun p0a => ?_))
 refine eV (eAlloc rfl rfl rfl (fun p0b => ?_))
 refine pV ?_
 refine tS ?_
 refine tR fun _ _ _ => ?_
 refine sV (rLdS rfl rfl rfl) ?_
 refine sV (rLdS rfl rfl rfl) ?_
 refine eV (eCallV rfl rfl rfl (mat_CanonicalE _ _ _ _ _ hl9 w Aa _ ca rs hn h9 h8 hE) ⟨rfl, rfl, trivial⟩ ?_)
 iterate 4 refine pV ?_
 refine eV (eAlloc rfl rfl rfl (fun p1a => ?_))
 refine eV (eStS rfl rfl rfl rfl rfl rfl ?_)
 iterate 2 refine pV ?_
 refine tS ?_
 refine tS ?_
 refine tR fun _ _ _ => ?_
 iterate 2 refine pV ?_
 refine tC rfl (fun h2 => ?_) (fun h2 => ?_)
 ·try simp only [zbA] at h2
  refine tS ?_
  refine tR fun _ _ _ => ?_
  refine sV (rBuild rfl rfl) ?_
  refine pV ?_
  refine eV (eStS rfl rfl rfl rfl rfl rfl ?_)
  refine pV ?_
  exact tr_ret ⟨trivial, _, _, (.cell rfl (cellS rfl) (.tmp rfl .nil)), ⟨rfl, rfl⟩, CSub.nil _, trivial⟩
 ·try simp only [zbA] at h2
  omega --done
theorem spc_openF_ent : Enters Tryz.prog 67 := enters_of Tryz.func67 (by kernel_rfl) (by kernel_rfl)
theorem spc_openF (p m : Int) (A : Option Addr) (c : Nat) (mod : List Int) (hl9 : mod.length ≤ 17592186044415) [hF : IsF p m mod] (w : Int) (Aa : Option Addr) (n ca : Nat) (rs : List RowM) (hn : n = rs.length) (h9 : rs.length ≤ 17592186044415) (h8 : ∀ r ∈ rs, r.xs.length ≤ 17592186044415) (hE : rowsC (pw p m) w (xss rs) = 0) (hf : ¬ formP p m mod w.toNat rs) :
  Pure Tryz.prog 67 #[.agg #[.int .i64 p, .int .i64 m, .slice A mod.length c], .agg #[.int .i64 w, .slice Aa n ca]] [ro A (ints mod), ro Aa (hdrs rs), rowsR rs] (isV (.tuple #[.agg #[.pointer none, .int .i64 0, .slice none 0 0, .slice none 0 0], .int .i64 5])) := by
 obtain ⟨hgd, hw0, hw9, hr9⟩ := rowsC_Gd (p := p) (m := m) hE
 refine pure_ofC (args := [.agg #[.int .i64 p, .int .i64 m, .slice A mod.length c], .agg #[.int .i64 w, .slice Aa n ca]]) 38 Tryz.func67 rfl rfl rfl spc_openF_ent ⟨id, id, id, trivial⟩ (fun w0 => ?_)
 refine tS ?_
 refine tR fun _ _ _ => ?_
 refine eV (eBox rfl rfl rfl rfl rfl (fun p0 => ?_))
 refine eV (eBox rfl rfl rfl rfl rfl (fun p0a => ?_))
 refine eV (eAlloc rfl rfl rfl (fun p0b => ?_))
 refine pV ?_
 refine tS ?_
 refine tR fun _ _ _ => ?_
 refine sV (rLdS rfl rfl rfl) ?_
 refine sV (rLdS rfl rfl rfl) ?_
 refine eV (eCall3 rfl rfl rfl (mat_CanonicalG _ _ _ _ _ hl9 w Aa _ ca rs hn h9 h8 hE) ⟨rfl, rfl, trivial⟩ ?_)
 rintro _ _ _ _ ⟨B, r3, Bp, cp, ps, rfl, rfl, rfl, rfl, hR, hk⟩
 iterate 4 refine pV ?_
 refine eV (eAlloc rfl rfl rfl (fun p1a => ?_))
 refine eV (eStS rfl rfl rfl rfl rfl rfl ?_)
 iterate 2 refine pV ?_
 refine tS ?_
 refine tS ?_
 refine tR fun _ _ _ => ?_
 iterate 2 refine pV ?_
 refine tC rfl (fun h2 => ?_) (fun h2 => ?_)
 ·try simp only [zbA] at h2
  first | exact absurd trivial h2 | exact absurd rfl h2 | omega | (exact absurd h2 (by simp)) --done
 ·try simp only [zbA] at h2
  refine tK ?_
  refine tS ?_
  refine tS ?_
  refine tR fun _ _ _ => ?_
  refine sV (rFld rfl rfl) ?_
  refine sV (rLdF rfl rfl rfl) ?_
  refine sV (rFld rfl rfl) ?_
  refine sV (rLdF rfl rfl rfl) ?_
  refine eV (eCallV rfl rfl rfl (slc_EqualFunc _ _ _ r3 rfl _ _ _ rs hn (by omega) (hR.good.h8 (by omega))) ⟨rfl, rfl, rfl, trivial⟩ ?_)
  refine sV (rNotB rfl rfl) ?_
  refine tC rfl (fun h4 => ?_) (fun h4 => ?_)
  ·try simp only [zbA] at h4
   refine tS ?_
   refine tR fun _ _ _ => ?_
   refine sV (rBuild rfl rfl) ?_
   refine eV (eStS rfl rfl rfl rfl rfl rfl ?_)
   refine pV ?_
   exact tr_ret ⟨trivial, _, _, (.cell rfl (cellS rfl) (.tmp rfl .nil)), ⟨rfl, rfl⟩, CSub.nil _, trivial⟩
  ·try simp only [zbA] at h4
   exact absurd ((hR.form_iff hgd).1 (by simpa using h4)) hf --done
theorem spc_openG_ent : Enters Tryz.prog 67 := enters_of Tryz.func67 (by kernel_rfl) (by kernel_rfl)
theorem spc_openG (p m : Int) (A : Option Addr) (c : Nat) (mod : List Int) (hl9 : mod.length ≤ 17592186044415) [hF : IsF p m mod] (w : Int) (Aa : Option Addr) (n ca : Nat) (rs : List RowM) (hn : n = rs.length) (h9 : rs.length ≤ 17592186044415) (h8 : ∀ r ∈ rs, r.xs.length ≤ 17592186044415) (hE : rowsC (pw p m) w (xss rs) = 0) (hf : formP p m mod w.toNat rs) :
  Pure Tryz.prog 67 #[.agg #[.int .i64 p, .int .i64 m, .slice A mod.length c], .agg #[.int .i64 w, .slice Aa n ca]] [ro A (ints mod), ro Aa (hdrs rs), rowsR rs] (two (fun v c1 c2 => ∃ (g : GfM) (Bp : Option Addr) (cp : Nat) (ps : List Int), v = .tuple #[.agg #[.pointer (some g.p), .int .i64 w, .slice Aa n ca, .slice Bp ps.length cp], .int .i64 0] ∧ c1 = gfN g ∧ c2 = ow Bp 3 cp (ints ps) ∧ GOk g p m mod ∧ ∃ qs, ps = qs.map Int.ofNat ∧ Vc.Rr w.toNat (vsR rs : List (Vc (El p m mod))) qs)) := by
 obtain ⟨hgd, hw0, hw9, hr9⟩ := rowsC_Gd (p := p) (m := m) hE
 refine pure_ofC (args := [.agg #[.int .i64 p, .int .i64 m, .slice A mod.length c], .agg #[.int .i64 w, .slice Aa n ca]]) 38 Tryz.func67 rfl rfl rfl spc_openG_ent ⟨id, id, id, trivial⟩ (fun w0 => ?_)
 refine tS ?_
 refine tR fun _ _ _ => ?_
 refine eV (eBox rfl rfl rfl rfl rfl (fun p0 => ?_))
 refine eV (eBox rfl rfl rfl rfl rfl (fun p0a => ?_))
 refine eV (eAlloc rfl rfl rfl (fun p0b => ?_))
 refine pV ?_
 refine tS ?_
 refine tR fun _ _ _ => ?_
 refine sV (rLdS rfl rfl rfl) ?_
 refine sV (rLdS rfl rfl rfl) ?_
 refine eV (eCall3 rfl rfl rfl (mat_CanonicalG _ _ _ _ _ hl9 w Aa _ ca rs hn h9 h8 hE) ⟨rfl, rfl, trivial⟩ ?_)
 rintro _ _ _ _ ⟨B, r3, Bp, cp, ps, rfl, rfl, rfl, rfl, hR, hk⟩
 iterate 4 refine pV ?_
 refine eV (eAlloc rfl rfl rfl (fun p1a => ?_))
 refine eV (eStS rfl rfl rfl rfl rfl rfl ?_)
 iterate 2 refine pV ?_
 refine tS ?_
 refine tS ?_
 refine tR fun _ _ _ => ?_
 iterate 2 refine pV ?_
 refine tC rfl (fun h2 => ?_) (fun h2 => ?_)
 ·try simp only [zbA] at h2
  first | exact absurd trivial h2 | exact absurd rfl h2 | omega | (exact absurd h2 (by simp)) --done
 ·try simp only [zbA] at h2
  refine tK ?_
  refine tS ?_
  refine tS ?_
  refine tR fun _ _ _ => ?_
  refine sV (rFld rfl rfl) ?_
  refine sV (rLdF rfl rfl rfl) ?_
  refine sV (rFld rfl rfl) ?_
  refine sV (rLdF rfl rfl rfl) ?_
  refine eV (eCallV rfl rfl rfl (slc_EqualFunc _ _ _ r3 rfl _ _ _ rs hn (by omega) (hR.good.h8 (by omega))) ⟨rfl, rfl, rfl, trivial⟩ ?_)
  refine sV (rNotB rfl rfl) ?_
  refine tC rfl (fun h4 => ?_) (fun h4 => ?_)
  ·try simp only [zbA] at h4
   exact absurd ((hR.form_iff hgd).2 hf) (by simpa using h4) --done
  ·try simp only [zbA] at h4
   refine tK ?_
   refine tS ?_
   refine tR fun _ _ _ => ?_
   refine sV (rLdS rfl rfl rfl) ?_
   refine eV (eCall1 rfl rfl rfl (fld_New_ok _ _ _ _ _ hl9 hF.out) ⟨rfl, trivial⟩ ?_)
   rintro _ _ ⟨g, rfl, rfl, hg⟩
   iterate 5 refine pV ?_
   refine tS ?_
   refine tR fun _ _ _ => ?_
   refine pV ?_
   refine sV (rLdS rfl rfl rfl) ?_
   refine pV ?_
   refine sV (rBuild rfl rfl) ?_
   refine pV ?_
   refine eV (eStS rfl rfl rfl rfl rfl rfl ?_)
   refine pV ?_
   have he := (hR.form_iff hgd).2 hf
   exact tr_ret ⟨trivial, _, _, (.cell rfl (cellS rfl) (.tmp rfl .nil)), ⟨_, _, rfl, g, Bp, cp, ps, rfl, rfl, rfl, hg, hR.piv he⟩, cs _ _, gfO_excl _ _ _, trivial, trivial⟩
theorem spc_CheckE_ent : Enters Tryz.prog 37 := enters_of Tryz.func37 (by kernel_rfl) (by kernel_rfl)
theorem spc_CheckE (p m : Int) (A : Option Addr) (c : Nat) (mod : List Int) (hl9 : mod.length ≤ 17592186044415) [hF : IsF p m mod] (w : Int) (Aa : Option Addr) (n ca : Nat) (rs : List RowM) (hn : n = rs.length) (h9 : rs.length ≤ 17592186044415) (h8 : ∀ r ∈ rs, r.xs.length ≤ 17592186044415) (hE : rowsC (pw p m) w (xss rs) ≠ 0) :
  Pure Tryz.prog 37 #[.agg #[.int .i64 p, .int .i64 m, .slice A mod.length c], .agg #[.int .i64 w, .slice Aa n ca]] [ro A (ints mod), ro Aa (hdrs rs), rowsR rs] (isV (.int .i64 (rowsC (pw p m) w (xss rs)))) := by
 refine pure_of (args := [.agg #[.int .i64 p, .int .i64 m, .slice A mod.length c], .agg #[.int .i64 w, .slice Aa n ca]]) 14 Tryz.func37 rfl rfl rfl spc_CheckE_ent ⟨id, id, id, trivial⟩ (fun w0 => ?_)
 refine tS ?_
 refine tR fun _ _ _ => ?_
 refine eV (eBox rfl rfl rfl rfl rfl (fun p0 => ?_))
 refine eV (eBox rfl rfl rfl rfl rfl (fun p0a => ?_))
 refine pV ?_
 refine tS ?_
 refine tR fun _ _ _ => ?_
 refine sV (rLdS rfl rfl rfl) ?_
 refine sV (rLdS rfl rfl rfl) ?_
 refine eV (eCallV rfl rfl rfl (spc_openE _ _ _ _ _ hl9 w Aa _ ca rs hn h9 h8 hE) ⟨rfl, rfl, trivial⟩ ?_)
 iterate 3 refine pV ?_
 refine eV (eAlloc rfl rfl rfl (fun p1a => ?_))
 refine eV (eStS rfl rfl rfl rfl rfl rfl ?_)
 refine pV ?_
 refine tS ?_
 refine tR fun _ _ _ => ?_
 iterate 2 refine pV ?_
 exact tr_ret ⟨trivial, _, _, rfl, ⟨rfl, rfl⟩, CSub.nil _, trivial⟩
theorem spc_CheckF_ent : Enters Tryz.prog 37 := enters_of Tryz.func37 (by kernel_rfl) (by kernel_rfl)
theorem spc_CheckF (p m : Int) (A : Option Addr) (c : Nat) (mod : List Int) (hl9 : mod.length ≤ 17592186044415) [hF : IsF p m mod] (w : Int) (Aa : Option Addr) (n ca : Nat) (rs : List RowM) (hn : n = rs.length) (h9 : rs.length ≤ 17592186044415) (h8 : ∀ r ∈ rs, r.xs.length ≤ 17592186044415) (hE : rowsC (pw p m) w (xss rs) = 0) (hf : ¬ formP p m mod w.toNat rs) :
  Pure Tryz.prog 37 #[.agg #[.int .i64 p, .int .i64 m, .slice A mod.length c], .agg #[.int .i64 w, .slice Aa n ca]] [ro A (ints mod), ro Aa (hdrs rs), rowsR rs] (isV (.int .i64 5)) := by
 refine pure_of (args := [.agg #[.int .i64 p, .int .i64 m, .slice A mod.length c], .agg #[.int .i64 w, .slice Aa n ca]]) 14 Tryz.func37 rfl rfl rfl spc_CheckF_ent ⟨id, id, id, trivial⟩ (fun w0 => ?_)
 refine tS ?_
 refine tR fun _ _ _ => ?_
 refine eV (eBox rfl rfl rfl rfl rfl (fun p0 => ?_))
 refine eV (eBox rfl rfl rfl rfl rfl (fun p0a => ?_))
 refine pV ?_
 refine tS ?_
 refine tR fun _ _ _ => ?_
 refine sV (rLdS rfl rfl rfl) ?_
 refine sV (rLdS rfl rfl rfl) ?_
 refine eV (eCallV rfl rfl rfl (spc_openF _ _ _ _ _ hl9 w Aa _ ca rs hn h9 h8 hE hf) ⟨rfl, rfl, trivial⟩ ?_)
 iterate 3 refine pV ?_
 refine eV (eAlloc rfl rfl rfl (fun p1a => ?_))
 refine eV (eStS rfl rfl rfl rfl rfl rfl ?_)
 refine pV ?_
 refine tS ?_
 refine tR fun _ _ _ => ?_
 iterate 2 refine pV ?_
 exact tr_ret ⟨trivial, _, _, rfl, ⟨rfl, rfl⟩, CSub.nil _, trivial⟩
theorem spc_CheckG_ent : Enters Tryz.prog 37 := enters_of Tryz.func37 (by kernel_rfl) (by kernel_rfl)
theorem spc_CheckG (p m : Int) (A : Option Addr) (c : Nat) (mod : List Int) (hl9 : mod.length ≤ 17592186044415) [hF : IsF p m mod] (w : Int) (Aa : Option Addr) (n ca : Nat) (rs : List RowM) (hn : n = rs.length) (h9 : rs.length ≤ 17592186044415) (h8 : ∀ r ∈ rs, r.xs.length ≤ 17592186044415) (hE : rowsC (pw p m) w (xss rs) = 0) (hf : formP p m mod w.toNat rs) :
  Pure Tryz.prog 37 #[.agg #[.int .i64 p, .int .i64 m, .slice A mod.length c], .agg #[.int .i64 w, .slice Aa n ca]] [ro A (ints mod), ro Aa (hdrs rs), rowsR rs] (isV (.int .i64 0)) := by
 refine pure_of (args := [.agg #[.int .i64 p, .int .i64 m, .slice A mod.length c], .agg #[.int .i64 w, .slice Aa n ca]]) 14 Tryz.func37 rfl rfl rfl spc_CheckG_ent ⟨id, id, id, trivial⟩ (fun w0 => ?_)
 refine tS ?_
 refine tR fun _ _ _ => ?_
 refine eV (eBox rfl rfl rfl rfl rfl (fun p0 => ?_))
 refine eV (eBox rfl rfl rfl rfl rfl (fun p0a => ?_))
 refine pV ?_
 refine tS ?_
 refine tR fun _ _ _ => ?_
 refine sV (rLdS rfl rfl rfl) ?_
 refine sV (rLdS rfl rfl rfl) ?_
 refine eV (eCall2 rfl rfl rfl (spc_openG _ _ _ _ _ hl9 w Aa _ ca rs hn h9 h8 hE hf) ⟨rfl, rfl, trivial⟩ ?_)
 rintro _ _ _ ⟨g, Bp, cp, ps, rfl, rfl, rfl, hg, hq⟩
 iterate 3 refine pV ?_
 refine eV (eAlloc rfl rfl rfl (fun p1a => ?_))
 refine eV (eStS rfl rfl rfl rfl rfl rfl ?_)
 refine pV ?_
 refine tS ?_
 refine tR fun _ _ _ => ?_
 iterate 2 refine pV ?_
 exact tr_ret ⟨trivial, _, _, rfl, ⟨rfl, rfl⟩, CSub.nil _, trivial⟩
theorem code_gen_ent : Enters Tryz.prog 38 := enters_of Tryz.func38 (by kernel_rfl) (by kernel_rfl)
theorem code_gen (p m : Int) (A : Option Addr) (k c : Nat) (w : Int) (Aa : Option Addr) (n ca : Nat) :
  Pure Tryz.prog 38 #[.agg #[.int .i64 p, .int .i64 m, .slice A k c, .int .i64 w, .slice Aa n ca]] [] (isV (.agg #[.int .i64 w, .slice Aa n ca])) := by
 refine pure_ofC (args := [.agg #[.int .i64 p, .int .i64 m, .slice A k c, .int .i64 w, .slice Aa n ca]]) 8 Tryz.func38 rfl rfl rfl code_gen_ent trivial (fun w0 => ?_)
 refine tS ?_
 refine tR fun _ _ _ => ?_
 refine eV (eBox rfl rfl rfl rfl rfl (fun p0 => ?_))
 refine eV (eAlloc rfl rfl rfl (fun p0a => ?_))
 refine tS ?_
 refine tR fun _ _ _ => ?_
 refine sV (rFld rfl rfl) ?_
 refine sV (rLdF rfl rfl rfl) ?_
 refine sV (rFld rfl rfl) ?_
 refine sV (rLdF rfl rfl rfl) ?_
 refine sV (rBuild rfl rfl) ?_
 refine eV (eStS rfl rfl rfl rfl rfl rfl ?_)
 exact tr_ret ⟨trivial, _, _, (.cell rfl (cellS rfl) .nil), ⟨rfl, rfl⟩, CSub.nil _, trivial⟩
theorem code_lengthNo (n : Int) (h : n < 1 ∨ n > 64) : Pure Tryz.prog 36 #[.int .i64 n] [] (isV (.int .i64 4)) := by
 have := code_length n
 rwa [if_pos h] at this
theorem code_CheckNo_ent : Enters Tryz.prog 15 := enters_of Tryz.func15 (by kernel_rfl) (by kernel_rfl)
theorem code_CheckNo (p m : Int) (A : Option Addr) (c : Nat) (mod : List Int) (hl9 : mod.length ≤ 17592186044415) (hF : ¬ FldR p m mod) (w : Int) (Aa : Option Addr) (n ca : Nat) (rs : List RowM) (hn : n = rs.length) (h9 : rs.length ≤ 17592186044415) (h8 : ∀ r ∈ rs, r.xs.length ≤ 17592186044415) :
  Pure Tryz.prog 15 #[.agg #[.int .i64 p, .int .i64 m, .slice A mod.length c, .int .i64 w, .slice Aa n ca]] [ro A (ints mod), ro Aa (hdrs rs), rowsR rs] (isV (.int .i64 1)) := by
 have hch := chkF_no hF
 refine pure_of (args := [.agg #[.int .i64 p, .int .i64 m, .slice A mod.length c, .int .i64 w, .slice Aa n ca]]) 19 Tryz.func15 rfl rfl rfl code_CheckNo_ent ⟨id, id, id, trivial⟩ (fun w0 => ?_)
 refine tS ?_
 refine tR fun _ _ _ => ?_
 refine eV (eBox rfl rfl rfl rfl rfl (fun p0 => ?_))
 refine pV ?_
 refine tS ?_
 refine tS ?_
 refine tR fun _ _ _ => ?_
 refine sV (rFld rfl rfl) ?_
 refine sV (rLdSF rfl rfl) ?_
 refine eV (eCallV rfl rfl rfl (fld_Check _ _ _ _ _ hl9) ⟨rfl, trivial⟩ ?_)
 refine pV ?_
 refine tC rfl (fun h1 => ?_) (fun h1 => ?_)
 ·try simp only [zbA] at h1
  refine tS ?_
  refine tR fun _ _ _ => ?_
  refine pV ?_
  exact tr_ret ⟨trivial, _, _, rfl, ⟨rfl, rfl⟩, CSub.nil _, trivial⟩
 ·try simp only [zbA] at h1
  omega --done
theorem code_CheckL_ent : Enters Tryz.prog 15 := enters_of Tryz.func15 (by kernel_rfl) (by kernel_rfl)
theorem code_CheckL (p m : Int) (A : Option Addr) (c : Nat) (mod : List Int) (hl9 : mod.length ≤ 17592186044415) [hF : IsF p m mod] (w : Int) (Aa : Option Addr) (n ca : Nat) (rs : List RowM) (hn : n = rs.length) (h9 : rs.length ≤ 17592186044415) (h8 : ∀ r ∈ rs, r.xs.length ≤ 17592186044415) (hb : w < 1 ∨ w > 64) :
  Pure Tryz.prog 15 #[.agg #[.int .i64 p, .int .i64 m, .slice A mod.length c, .int .i64 w, .slice Aa n ca]] [ro A (ints mod), ro Aa (hdrs rs), rowsR rs] (isV (.int .i64 4)) := by
 have hch := chkF_ok hF.out
 refine pure_of (args := [.agg #[.int .i64 p, .int .i64 m, .slice A mod.length c, .int .i64 w, .slice Aa n ca]]) 19 Tryz.func15 rfl rfl rfl code_CheckL_ent ⟨id, id, id, trivial⟩ (fun w0 => ?_)
 refine tS ?_
 refine tR fun _ _ _ => ?_
 refine eV (eBox rfl rfl rfl rfl rfl (fun p0 => ?_))
 refine pV ?_
 refine tS ?_
 refine tS ?_
 refine tR fun _ _ _ => ?_
 refine sV (rFld rfl rfl) ?_
 refine sV (rLdSF rfl rfl) ?_
 refine eV (eCallV rfl rfl rfl (fld_Check _ _ _ _ _ hl9) ⟨rfl, trivial⟩ ?_)
 refine pV ?_
 refine tC rfl (fun h1 => ?_) (fun h1 => ?_)
 ·try simp only [zbA] at h1
  omega --done
 ·try simp only [zbA] at h1
  refine tK ?_
  refine tS ?_
  refine tS ?_
  refine tR fun _ _ _ => ?_
  refine sV (rFld rfl rfl) ?_
  refine sV (rLdF rfl rfl rfl) ?_
  refine eV (eCallV rfl rfl rfl (code_lengthNo w hb) ⟨rfl, trivial⟩ ?_)
  refine pV ?_
  refine tS ?_
  refine tR fun _ _ _ => ?_
  iterate 2 refine pV ?_
  refine tC rfl (fun h4 => ?_) (fun h4 => ?_)
  ·try simp only [zbA] at h4
   refine tS ?_
   refine tR fun _ _ _ => ?_
   iterate 2 refine pV ?_
   exact tr_ret ⟨trivial, _, _, rfl, ⟨rfl, rfl⟩, CSub.nil _, trivial⟩
  ·try simp only [zbA] at h4
   first | exact absurd trivial h4 | exact absurd rfl h4 | omega | (exact absurd h4 (by simp)) --done
theorem code_CheckE_ent : Enters Tryz.prog 15 := enters_of Tryz.func15 (by kernel_rfl) (by kernel_rfl)
theorem code_CheckE (p m : Int) (A : Option Addr) (c : Nat) (mod : List Int) (hl9 : mod.length ≤ 17592186044415) [hF : IsF p m mod] (w : Int) (Aa : Option Addr) (n ca : Nat) (rs : List RowM) (hn : n = rs.length) (h9 : rs.length ≤ 17592186044415) (h8 : ∀ r ∈ rs, r.xs.length ≤ 17592186044415) (hb : ¬ (w < 1 ∨ w > 64)) (hE : rowsC (pw p m) w (xss rs) ≠ 0) :
  Pure Tryz.prog 15 #[.agg #[.int .i64 p, .int .i64 m, .slice A mod.length c, .int .i64 w, .slice Aa n ca]] [ro A (ints mod), ro Aa (hdrs rs), rowsR rs] (isV (.int .i64 (rowsC (pw p m) w (xss rs)))) := by
 have hch := chkF_ok hF.out
 refine pure_of (args := [.agg #[.int .i64 p, .int .i64 m, .slice A mod.length c, .int .i64 w, .slice Aa n ca]]) 19 Tryz.func15 rfl rfl rfl code_CheckE_ent ⟨id, id, id, trivial⟩ (fun w0 => ?_)
 refine tS ?_
 refine tR fun _ _ _ => ?_
 refine eV (eBox rfl rfl rfl rfl rfl (fun p0 => ?_))
 refine pV ?_
 refine tS ?_
 refine tS ?_
 refine tR fun _ _ _ => ?_
 refine sV (rFld rfl rfl) ?_
 refine sV (rLdSF rfl rfl) ?_
 refine eV (eCallV rfl rfl rfl (fld_Check _ _ _ _ _ hl9) ⟨rfl, trivial⟩ ?_)
 refine pV ?_
 refine tC rfl (fun h1 => ?_) (fun h1 => ?_)
 ·try simp only [zbA] at h1
  omega --done
 ·try simp only [zbA] at h1
  refine tK ?_
  refine tS ?_
  refine tS ?_
  refine tR fun _ _ _ => ?_
  refine sV (rFld rfl rfl) ?_
  refine sV (rLdF rfl rfl rfl) ?_
  refine eV (eCallV rfl rfl rfl (code_lengthOk w (by omega) (by omega)) ⟨rfl, trivial⟩ ?_)
  refine pV ?_
  refine tS ?_
  refine tR fun _ _ _ => ?_
  iterate 2 refine pV ?_
  refine tC rfl (fun h4 => ?_) (fun h4 => ?_)
  ·try simp only [zbA] at h4
   first | exact absurd trivial h4 | exact absurd rfl h4 | omega | (exact absurd h4 (by simp)) --done
  ·try simp only [zbA] at h4
   refine tK ?_
   refine tS ?_
   refine tr_draw [0, 1, 2, 3, 4, 5] [] mixed (by kernel_rfl) fun _ _ _ => ?_
   refine sV (rFld rfl rfl) ?_
   refine sV (rLdSF rfl rfl) ?_
   refine sV (rLdS rfl rfl rfl) ?_
   refine eV (eCallV rfl rfl rfl (code_gen _ _ _ _ _ _ _ _ _) ⟨rfl, trivial⟩ ?_)
   refine eV (eCallV rfl rfl rfl (spc_CheckE _ _ _ _ _ hl9 w Aa _ ca rs hn h9 h8 hE) ⟨rfl, rfl, trivial⟩ ?_)
   refine pV ?_
   exact tr_ret ⟨trivial, _, _, rfl, ⟨rfl, rfl⟩, CSub.nil _, trivial⟩
theorem code_CheckF_ent : Enters Tryz.prog 15 := enters_of Tryz.func15 (by kernel_rfl) (by kernel_rfl)
theorem code_CheckF (p m : Int) (A : Option Addr) (c : Nat) (mod : List Int) (hl9 : mod.length ≤ 17592186044415) [hF : IsF p m mod] (w : Int) (Aa : Option Addr) (n ca : Nat) (rs : List RowM) (hn : n = rs.length) (h9 : rs.length ≤ 17592186044415) (h8 : ∀ r ∈ rs, r.xs.length ≤ 17592186044415) (hb : ¬ (w < 1 ∨ w > 64)) (hE : rowsC (pw p m) w (xss rs) = 0) (hf : ¬ formP p m mod w.toNat rs) :
  Pure Tryz.prog 15 #[.agg #[.int .i64 p, .int .i64 m, .slice A mod.length c, .int .i64 w, .slice Aa n ca]] [ro A (ints mod), ro Aa (hdrs rs), rowsR rs] (isV (.int .i64 5)) := by
 have hch := chkF_ok hF.out
 refine pure_of (args := [.agg #[.int .i64 p, .int .i64 m, .slice A mod.length c, .int .i64 w, .slice Aa n ca]]) 19 Tryz.func15 rfl rfl rfl code_CheckF_ent ⟨id, id, id, trivial⟩ (fun w0 => ?_)
 refine tS ?_
 refine tR fun _ _ _ => ?_
 refine eV (eBox rfl rfl rfl rfl rfl (fun p0 => ?_))
 refine pV ?_
 refine tS ?_
 refine tS ?_
 refine tR fun _ _ _ => ?_
 refine sV (rFld rfl rfl) ?_
 refine sV (rLdSF rfl rfl) ?_
 refine eV (eCallV rfl rfl rfl (fld_Check _ _ _ _ _ hl9) ⟨rfl, trivial⟩ ?_)
 refine pV ?_
 refine tC rfl (fun h1 => ?_) (fun h1 => ?_)
 ·try simp only [zbA] at h1
  omega --done
 ·try simp only [zbA] at h1
  refine tK ?_
  refine tS ?_
  refine tS ?_
  refine tR fun _ _ _ => ?_
  refine sV (rFld rfl rfl) ?_
  refine sV (rLdF rfl rfl rfl) ?_
  refine eV (eCallV rfl rfl rfl (code_lengthOk w (by omega) (by omega)) ⟨rfl, trivial⟩ ?_)
  refine pV ?_
  refine tS ?_
  refine tR fun _ _ _ => ?_
  iterate 2 refine pV ?_
  refine tC rfl (fun h4 => ?_) (fun h4 => ?_)
  ·try simp only [zbA] at h4
   first | exact absurd trivial h4 | exact absurd rfl h4 | omega | (exact absurd h4 (by simp)) --done
  ·try simp only [zbA] at h4
   refine tK ?_
   refine tS ?_
   refine tr_draw [0, 1, 2, 3, 4, 5] [] mixed (by kernel_rfl) fun _ _ _ => ?_
   refine sV (rFld rfl rfl) ?_
   refine sV (rLdSF rfl rfl) ?_
   refine sV (rLdS rfl rfl rfl) ?_
   refine eV (eCallV rfl rfl rfl (code_gen _ _ _ _ _ _ _ _ _) ⟨rfl, trivial⟩ ?_)
   refine eV (eCallV rfl rfl rfl (spc_CheckF _ _ _ _ _ hl9 w Aa _ ca rs hn h9 h8 hE hf) ⟨rfl, rfl, trivial⟩ ?_)
   refine pV ?_
   exact tr_ret ⟨trivial, _, _, rfl, ⟨rfl, rfl⟩, CSub.nil _, trivial⟩
theorem code_CheckG_ent : Enters Tryz.prog 15 := enters_of Tryz.func15 (by kernel_rfl) (by kernel_rfl)
theorem code_CheckG (p m : Int) (A : Option Addr) (c : Nat) (mod : List Int) (hl9 : mod.length ≤ 17592186044415) [hF : IsF p m mod] (w : Int) (Aa : Option Addr) (n ca : Nat) (rs : List RowM) (hn : n = rs.length) (h9 : rs.length ≤ 17592186044415) (h8 : ∀ r ∈ rs, r.xs.length ≤ 17592186044415) (hb : ¬ (w < 1 ∨ w > 64)) (hE : rowsC (pw p m) w (xss rs) = 0) (hf : formP p m mod w.toNat rs) :
  Pure Tryz.prog 15 #[.agg #[.int .i64 p, .int .i64 m, .slice A mod.length c, .int .i64 w, .slice Aa n ca]] [ro A (ints mod), ro Aa (hdrs rs), rowsR rs] (isV (.int .i64 0)) := by
 have hch := chkF_ok hF.out
 refine pure_of (args := [.agg #[.int .i64 p, .int .i64 m, .slice A mod.length c, .int .i64 w, .slice Aa n ca]]) 19 Tryz.func15 rfl rfl rfl code_CheckG_ent ⟨id, id, id, trivial⟩ (fun w0 => ?_)
 refine tS ?_
 refine tR fun _ _ _ => ?_
 refine eV (eBox rfl rfl rfl rfl rfl (fun p0 => ?_))
 refine pV ?_
 refine tS ?_
 refine tS ?_
 refine tR fun _ _ _ => ?_
 refine sV (rFld rfl rfl) ?_
 refine sV (rLdSF rfl rfl) ?_
 refine eV (eCallV rfl rfl rfl (fld_Check _ _ _ _ _ hl9) ⟨rfl, trivial⟩ ?_)
 refine pV ?_
 refine tC rfl (fun h1 => ?_) (fun h1 => ?_)
 ·try simp only [zbA] at h1
  omega --done
 ·try simp only [zbA] at h1
  refine tK ?_
  refine tS ?_
  refine tS ?_
  refine tR fun _ _ _ => ?_
  refine sV (rFld rfl rfl) ?_
  refine sV (rLdF rfl rfl rfl) ?_
  refine eV (eCallV rfl rfl rfl (code_lengthOk w (by omega) (by omega)) ⟨rfl, trivial⟩ ?_)
  refine pV ?_
  refine tS ?_
  refine tR fun _ _ _ => ?_
  iterate 2 refine pV ?_
  refine tC rfl (fun h4 => ?_) (fun h4 => ?_)
  ·try simp only [zbA] at h4
   first | exact absurd trivial h4 | exact absurd rfl h4 | omega | (exact absurd h4 (by simp)) --done
  ·try simp only [zbA] at h4
   refine tK ?_
   refine tS ?_
   refine tr_draw [0, 1, 2, 3, 4, 5] [] mixed (by kernel_rfl) fun _ _ _ => ?_
   refine sV (rFld rfl rfl) ?_
   refine sV (rLdSF rfl rfl) ?_
   refine sV (rLdS rfl rfl rfl) ?_
   refine eV (eCallV rfl rfl rfl (code_gen _ _ _ _ _ _ _ _ _) ⟨rfl, trivial⟩ ?_)
   refine eV (eCallV rfl rfl rfl (spc_CheckG _ _ _ _ _ hl9 w Aa _ ca rs hn h9 h8 hE hf) ⟨rfl, rfl, trivial⟩ ?_)
   refine pV ?_
   exact tr_ret ⟨trivial, _, _, rfl, ⟨rfl, rfl⟩, CSub.nil _, trivial⟩
theorem code_Check (p m : Int) (A : Option Addr) (c : Nat) (mod : List Int) (hl9 : mod.length ≤ 17592186044415) (w : Int) (Aa : Option Addr) (n ca : Nat) (rs : List RowM) (hn : n = rs.length) (h9 : rs.length ≤ 17592186044415) (h8 : ∀ r ∈ rs, r.xs.length ≤ 17592186044415) : Pure Tryz.prog 15 #[.agg #[.int .i64 p, .int .i64 m, .slice A mod.length c, .int .i64 w, .slice Aa n ca]] [ro A (ints mod), ro Aa (hdrs rs), rowsR rs] (isV (.int .i64 (codC p m mod w rs))) := by
 by_cases hF : FldR p m mod
 ·haveI : IsF p m mod := ⟨hF⟩
  by_cases hb : w < 1 ∨ w > 64
  ·rw [codC_ln hb]; exact code_CheckL p m A c mod hl9 w Aa n ca rs hn h9 h8 hb
  ·by_cases hE : rowsC (pw p m) w (xss rs) = 0
   ·by_cases hf : formP p m mod w.toNat rs
    ·rw [codC_ok hb hE hf]; exact code_CheckG p m A c mod hl9 w Aa n ca rs hn h9 h8 hb hE hf
    ·rw [codC_fm hb hE hf]; exact code_CheckF p m A c mod hl9 w Aa n ca rs hn h9 h8 hb hE hf
   ·rw [codC_rw hb hE]; exact code_CheckE p m A c mod hl9 w Aa n ca rs hn h9 h8 hb hE
 ·rw [codC_no w rs hF]; exact code_CheckNo p m A c mod hl9 hF w Aa n ca rs hn h9 h8
theorem ref_SCheckE_ent : Enters Tryz.prog 13 := enters_of Tryz.func13 (by kernel_rfl) (by kernel_rfl)
theorem ref_SCheckE (p m : Int) (A : Option Addr) (c : Nat) (mod : List Int) (hl9 : mod.length ≤ 17592186044415) [hF : IsF p m mod] (w : Int) (Aa : Option Addr) (n ca : Nat) (rs : List RowM) (hn : n = rs.length) (h9 : rs.length ≤ 17592186044415) (h8 : ∀ r ∈ rs, r.xs.length ≤ 17592186044415) (hE : rowsC (pw p m) w (xss rs) ≠ 0) :
  Pure Tryz.prog 13 #[.agg #[.int .i64 p, .int .i64 m, .slice A mod.length c], .agg #[.int .i64 w, .slice Aa n ca]] [ro A (ints mod), ro Aa (hdrs rs), rowsR rs] (isV (.int .i64 (rowsC (pw p m) w (xss rs)))) := by
 refine pure_of (args := [.agg #[.int .i64 p, .int .i64 m, .slice A mod.length c], .agg #[.int .i64 w, .slice Aa n ca]]) 28 Tryz.func13 rfl rfl rfl ref_SCheckE_ent ⟨id, id, id, trivial⟩ (fun w0 => ?_)
 refine tS ?_
 refine tR fun _ _ _ => ?_
 refine eV (eBox rfl rfl rfl rfl rfl (fun p0 => ?_))
 refine eV (eBox rfl rfl rfl rfl rfl (fun p0a => ?_))
 refine pV ?_
 refine tS ?_
 refine tR fun _ _ _ => ?_
 refine sV (rLdS rfl rfl rfl) ?_
 refine sV (rLdS rfl rfl rfl) ?_
 refine eV (eCallV rfl rfl rfl (ref_RCheckOk _ _ _ _ _ hl9 hF.out (pw p m) hF.ord w Aa _ ca rs hn h9 h8) ⟨rfl, rfl, trivial⟩ ?_)
 refine pV ?_
 refine tS ?_
 refine tS ?_
 refine tR fun _ _ _ => ?_
 iterate 2 refine pV ?_
 refine tC rfl (fun h2 => ?_) (fun h2 => ?_)
 ·try simp only [zbA] at h2
  refine tS ?_
  refine tR fun _ _ _ => ?_
  iterate 2 refine pV ?_
  exact tr_ret ⟨trivial, _, _, rfl, ⟨rfl, rfl⟩, CSub.nil _, trivial⟩
 ·try simp only [zbA] at h2
  omega --done
theorem ref_SCheckF_ent : Enters Tryz.prog 13 := enters_of Tryz.func13 (by kernel_rfl) (by kernel_rfl)
theorem ref_SCheckF (p m : Int) (A : Option Addr) (c : Nat) (mod : List Int) (hl9 : mod.length ≤ 17592186044415) [hF : IsF p m mod] (w : Int) (Aa : Option Addr) (n ca : Nat) (rs : List RowM) (hn : n = rs.length) (h9 : rs.length ≤ 17592186044415) (h8 : ∀ r ∈ rs, r.xs.length ≤ 17592186044415) (hE : rowsC (pw p m) w (xss rs) = 0) (hf : ¬ formP p m mod w.toNat rs) :
  Pure Tryz.prog 13 #[.agg #[.int .i64 p, .int .i64 m, .slice A mod.length c], .agg #[.int .i64 w, .slice Aa n ca]] [ro A (ints mod), ro Aa (hdrs rs), rowsR rs] (isV (.int .i64 5)) := by
 obtain ⟨hgd, hw0, hw9, hr9⟩ := rowsC_Gd (p := p) (m := m) hE
 refine pure_of (args := [.agg #[.int .i64 p, .int .i64 m, .slice A mod.length c], .agg #[.int .i64 w, .slice Aa n ca]]) 28 Tryz.func13 rfl rfl rfl ref_SCheckF_ent ⟨id, id, id, trivial⟩ (fun w0 => ?_)
 refine tS ?_
 refine tR fun _ _ _ => ?_
 refine eV (eBox rfl rfl rfl rfl rfl (fun p0 => ?_))
 refine eV (eBox rfl rfl rfl rfl rfl (fun p0a => ?_))
 refine pV ?_
 refine tS ?_
 refine tR fun _ _ _ => ?_
 refine sV (rLdS rfl rfl rfl) ?_
 refine sV (rLdS rfl rfl rfl) ?_
 refine eV (eCallV rfl rfl rfl (ref_RCheckOk _ _ _ _ _ hl9 hF.out (pw p m) hF.ord w Aa _ ca rs hn h9 h8) ⟨rfl, rfl, trivial⟩ ?_)
 refine pV ?_
 refine tS ?_
 refine tS ?_
 refine tR fun _ _ _ => ?_
 iterate 2 refine pV ?_
 refine tC rfl (fun h2 => ?_) (fun h2 => ?_)
 ·try simp only [zbA] at h2
  omega --done
 ·try simp only [zbA] at h2
  refine tK ?_
  refine tS ?_
  refine tR fun _ _ _ => ?_
  refine sV (rLdS rfl rfl rfl) ?_
  refine sV (rFld rfl rfl) ?_
  refine sV (rLdF rfl rfl rfl) ?_
  refine sV (rFld rfl rfl) ?_
  refine sV (rLdF rfl rfl rfl) ?_
  refine eV (eCall3 rfl rfl rfl (ref_RCanon _ _ _ _ _ w hw0 (by omega) Aa _ ca rs hn (by omega) hgd) ⟨rfl, rfl, rfl, trivial⟩ ?_)
  rintro _ _ _ _ ⟨r3, B, cg, Bp, cp, ps, rfl, rfl, rfl, rfl, hR, hk⟩
  iterate 5 refine pV ?_
  refine tS ?_
  refine tS ?_
  refine tR fun _ _ _ => ?_
  refine pV ?_
  refine sV (rFld rfl rfl) ?_
  refine sV (rLdF rfl rfl rfl) ?_
  refine eV (eCallV rfl rfl rfl (ref_SameRows _ _ _ r3 rfl _ _ _ rs hn (by omega) (hR.good.h8 (by omega))) ⟨rfl, rfl, trivial⟩ ?_)
  refine sV (rNotB rfl rfl) ?_
  refine tC rfl (fun h5 => ?_) (fun h5 => ?_)
  ·try simp only [zbA] at h5
   refine tS ?_
   refine tR fun _ _ _ => ?_
   refine pV ?_
   exact tr_ret ⟨trivial, _, _, rfl, ⟨rfl, rfl⟩, CSub.nil _, trivial⟩
  ·try simp only [zbA] at h5
   exact absurd ((hR.form_iff hgd).1 (by simpa [xss] using h5)) hf --done
theorem ref_SCheckG_ent : Enters Tryz.prog 13 := enters_of Tryz.func13 (by kernel_rfl) (by kernel_rfl)
theorem ref_SCheckG (p m : Int) (A : Option Addr) (c : Nat) (mod : List Int) (hl9 : mod.length ≤ 17592186044415) [hF : IsF p m mod] (w : Int) (Aa : Option Addr) (n ca : Nat) (rs : List RowM) (hn : n = rs.length) (h9 : rs.length ≤ 17592186044415) (h8 : ∀ r ∈ rs, r.xs.length ≤ 17592186044415) (hE : rowsC (pw p m) w (xss rs) = 0) (hf : formP p m mod w.toNat rs) :
  Pure Tryz.prog 13 #[.agg #[.int .i64 p, .int .i64 m, .slice A mod.length c], .agg #[.int .i64 w, .slice Aa n ca]] [ro A (ints mod), ro Aa (hdrs rs), rowsR rs] (isV (.int .i64 0)) := by
 obtain ⟨hgd, hw0, hw9, hr9⟩ := rowsC_Gd (p := p) (m := m) hE
 refine pure_of (args := [.agg #[.int .i64 p, .int .i64 m, .slice A mod.length c], .agg #[.int .i64 w, .slice Aa n ca]]) 28 Tryz.func13 rfl rfl rfl ref_SCheckG_ent ⟨id, id, id, trivial⟩ (fun w0 => ?_)
 refine tS ?_
 refine tR fun _ _ _ => ?_
 refine eV (eBox rfl rfl rfl rfl rfl (fun p0 => ?_))
 refine eV (eBox rfl rfl rfl rfl rfl (fun p0a => ?_))
 refine pV ?_
 refine tS ?_
 refine tR fun _ _ _ => ?_
 refine sV (rLdS rfl rfl rfl) ?_
 refine sV (rLdS rfl rfl rfl) ?_
 refine eV (eCallV rfl rfl rfl (ref_RCheckOk _ _ _ _ _ hl9 hF.out (pw p m) hF.ord w Aa _ ca rs hn h9 h8) ⟨rfl, rfl, trivial⟩ ?_)
 refine pV ?_
 refine tS ?_
 refine tS ?_
 refine tR fun _ _ _ => ?_
 iterate 2 refine pV ?_
 refine tC rfl (fun h2 => ?_) (fun h2 => ?_)
 ·try simp only [zbA] at h2
  omega --done
 ·try simp only [zbA] at h2
  refine tK ?_
  refine tS ?_
  refine tR fun _ _ _ => ?_
  refine sV (rLdS rfl rfl rfl) ?_
  refine sV (rFld rfl rfl) ?_
  refine sV (rLdF rfl rfl rfl) ?_
  refine sV (rFld rfl rfl) ?_
  refine sV (rLdF rfl rfl rfl) ?_
  refine eV (eCall3 rfl rfl rfl (ref_RCanon _ _ _ _ _ w hw0 (by omega) Aa _ ca rs hn (by omega) hgd) ⟨rfl, rfl, rfl, trivial⟩ ?_)
  rintro _ _ _ _ ⟨r3, B, cg, Bp, cp, ps, rfl, rfl, rfl, rfl, hR, hk⟩
  iterate 5 refine pV ?_
  refine tS ?_
  refine tS ?_
  refine tR fun _ _ _ => ?_
  refine pV ?_
  refine sV (rFld rfl rfl) ?_
  refine sV (rLdF rfl rfl rfl) ?_
  refine eV (eCallV rfl rfl rfl (ref_SameRows _ _ _ r3 rfl _ _ _ rs hn (by omega) (hR.good.h8 (by omega))) ⟨rfl, rfl, trivial⟩ ?_)
  refine sV (rNotB rfl rfl) ?_
  refine tC rfl (fun h5 => ?_) (fun h5 => ?_)
  ·try simp only [zbA] at h5
   exact absurd ((hR.form_iff hgd).2 hf) (by simpa [xss] using h5) --done
  ·try simp only [zbA] at h5
   refine tK ?_
   refine tS ?_
   refine tR fun _ _ _ => ?_
   refine pV ?_
   exact tr_ret ⟨trivial, _, _, rfl, ⟨rfl, rfl⟩, CSub.nil _, trivial⟩
theorem ref_CCheckNo_ent : Enters Tryz.prog 5 := enters_of Tryz.func5 (by kernel_rfl) (by kernel_rfl)
theorem ref_CCheckNo (p m : Int) (A : Option Addr) (c : Nat) (mod : List Int) (hl9 : mod.length ≤ 17592186044415) (hF : ¬ FldR p m mod) (w : Int) (Aa : Option Addr) (n ca : Nat) (rs : List RowM) (hn : n = rs.length) (h9 : rs.length ≤ 17592186044415) (h8 : ∀ r ∈ rs, r.xs.length ≤ 17592186044415) :
  Pure Tryz.prog 5 #[.agg #[.int .i64 p, .int .i64 m, .slice A mod.length c, .int .i64 w, .slice Aa n ca]] [ro A (ints mod), ro Aa (hdrs rs), rowsR rs] (isV (.int .i64 1)) := by
 have hch := chkF_no hF
 refine pure_of (args := [.agg #[.int .i64 p, .int .i64 m, .slice A mod.length c, .int .i64 w, .slice Aa n ca]]) 26 Tryz.func5 rfl rfl rfl ref_CCheckNo_ent ⟨id, id, id, trivial⟩ (fun w0 => ?_)
 refine tS ?_
 refine tR fun _ _ _ => ?_
 refine eV (eBox rfl rfl rfl rfl rfl (fun p0 => ?_))
 refine pV ?_
 refine tS ?_
 refine tR fun _ _ _ => ?_
 refine sV (rFld rfl rfl) ?_
 refine sV (rLdSF rfl rfl) ?_
 refine eV (eCallV rfl rfl rfl (ref_fldCheck _ _ _ _ _ hl9) ⟨rfl, trivial⟩ ?_)
 refine pV ?_
 refine tS ?_
 refine tS ?_
 refine tR fun _ _ _ => ?_
 iterate 2 refine pV ?_
 refine tC rfl (fun h2 => ?_) (fun h2 => ?_)
 ·try simp only [zbA] at h2
  refine tS ?_
  refine tR fun _ _ _ => ?_
  iterate 2 refine pV ?_
  exact tr_ret ⟨trivial, _, _, rfl, ⟨by rw [hch], rfl⟩, CSub.nil _, trivial⟩
 ·try simp only [zbA] at h2
  omega --done
theorem ref_CCheckL_ent : Enters Tryz.prog 5 := enters_of Tryz.func5 (by kernel_rfl) (by kernel_rfl)
theorem ref_CCheckL (p m : Int) (A : Option Addr) (c : Nat) (mod : List Int) (hl9 : mod.length ≤ 17592186044415) [hF : IsF p m mod] (w : Int) (Aa : Option Addr) (n ca : Nat) (rs : List RowM) (hn : n = rs.length) (h9 : rs.length ≤ 17592186044415) (h8 : ∀ r ∈ rs, r.xs.length ≤ 17592186044415) (hb : w < 1 ∨ w > 64) :
  Pure Tryz.prog 5 #[.agg #[.int .i64 p, .int .i64 m, .slice A mod.length c, .int .i64 w, .slice Aa n ca]] [ro A (ints mod), ro Aa (hdrs rs), rowsR rs] (isV (.int .i64 4)) := by
 have hch := chkF_ok hF.out
 refine pure_of (args := [.agg #[.int .i64 p, .int .i64 m, .slice A mod.length c, .int .i64 w, .slice Aa n ca]]) 26 Tryz.func5 rfl rfl rfl ref_CCheckL_ent ⟨id, id, id, trivial⟩ (fun w0 => ?_)
 refine tS ?_
 refine tR fun _ _ _ => ?_
 refine eV (eBox rfl rfl rfl rfl rfl (fun p0 => ?_))
 refine pV ?_
 refine tS ?_
 refine tR fun _ _ _ => ?_
 refine sV (rFld rfl rfl) ?_
 refine sV (rLdSF rfl rfl) ?_
 refine eV (eCallV rfl rfl rfl (ref_fldCheck _ _ _ _ _ hl9) ⟨rfl, trivial⟩ ?_)
 refine pV ?_
 refine tS ?_
 refine tS ?_
 refine tR fun _ _ _ => ?_
 iterate 2 refine pV ?_
 refine tC rfl (fun h2 => ?_) (fun h2 => ?_)
 ·try simp only [zbA] at h2
  omega --done
 ·try simp only [zbA] at h2
  refine tK ?_
  refine tS ?_
  refine tS ?_
  refine tR fun _ _ _ => ?_
  refine sV (rFld rfl rfl) ?_
  refine sV (rLdF rfl rfl rfl) ?_
  iterate 2 refine pV ?_
  refine stg rfl rfl rfl rfl rfl (fun hb => by (have hq := hb; try simp only [zbA] at hq); exact rFld rfl rfl) ?_
  refine stg rfl rfl rfl rfl rfl (fun hb => by (have hq := hb; try simp only [zbA] at hq); exact rLdF rfl (evg rfl hb) rfl) ?_
  refine stg rfl rfl rfl rfl rfl (fun hb => by (have hq := hb; try simp only [zbA] at hq); exact rGtr rfl (evg rfl hb) rfl) ?_
  refine sV (rOrB rfl rfl rfl rfl) ?_
  refine tC rfl (fun h4 => ?_) (fun h4 => ?_)
  ·try simp only [zbA] at h4
   refine tS ?_
   refine tR fun _ _ _ => ?_
   refine pV ?_
   exact tr_ret ⟨trivial, _, _, rfl, ⟨rfl, rfl⟩, CSub.nil _, trivial⟩
  ·try simp only [zbA] at h4
   omega --done
theorem ref_CCheckE_ent : Enters Tryz.prog 5 := enters_of Tryz.func5 (by kernel_rfl) (by kernel_rfl)
theorem ref_CCheckE (p m : Int) (A : Option Addr) (c : Nat) (mod : List Int) (hl9 : mod.length ≤ 17592186044415) [hF : IsF p m mod] (w : Int) (Aa : Option Addr) (n ca : Nat) (rs : List RowM) (hn : n = rs.length) (h9 : rs.length ≤ 17592186044415) (h8 : ∀ r ∈ rs, r.xs.length ≤ 17592186044415) (hb : ¬ (w < 1 ∨ w > 64)) (hE : rowsC (pw p m) w (xss rs) ≠ 0) :
  Pure Tryz.prog 5 #[.agg #[.int .i64 p, .int .i64 m, .slice A mod.length c, .int .i64 w, .slice Aa n ca]] [ro A (ints mod), ro Aa (hdrs rs), rowsR rs] (isV (.int .i64 (rowsC (pw p m) w (xss rs)))) := by
 have hch := chkF_ok hF.out
 refine pure_of (args := [.agg #[.int .i64 p, .int .i64 m, .slice A mod.length c, .int .i64 w, .slice Aa n ca]]) 26 Tryz.func5 rfl rfl rfl ref_CCheckE_ent ⟨id, id, id, trivial⟩ (fun w0 => ?_)
 refine tS ?_
 refine tR fun _ _ _ => ?_
 refine eV (eBox rfl rfl rfl rfl rfl (fun p0 => ?_))
 refine pV ?_
 refine tS ?_
 refine tR fun _ _ _ => ?_
 refine sV (rFld rfl rfl) ?_
 refine sV (rLdSF rfl rfl) ?_
 refine eV (eCallV rfl rfl rfl (ref_fldCheck _ _ _ _ _ hl9) ⟨rfl, trivial⟩ ?_)
 refine pV ?_
 refine tS ?_
 refine tS ?_
 refine tR fun _ _ _ => ?_
 iterate 2 refine pV ?_
 refine tC rfl (fun h2 => ?_) (fun h2 => ?_)
 ·try simp only [zbA] at h2
  omega --done
 ·try simp only [zbA] at h2
  refine tK ?_
  refine tS ?_
  refine tS ?_
  refine tR fun _ _ _ => ?_
  refine sV (rFld rfl rfl) ?_
  refine sV (rLdF rfl rfl rfl) ?_
  iterate 2 refine pV ?_
  refine stg rfl rfl rfl rfl rfl (fun hb => by (have hq := hb; try simp only [zbA] at hq); exact rFld rfl rfl) ?_
  refine stg rfl rfl rfl rfl rfl (fun hb => by (have hq := hb; try simp only [zbA] at hq); exact rLdF rfl (evg rfl hb) rfl) ?_
  refine stg rfl rfl rfl rfl rfl (fun hb => by (have hq := hb; try simp only [zbA] at hq); exact rGtr rfl (evg rfl hb) rfl) ?_
  refine sV (rOrB rfl rfl rfl rfl) ?_
  refine tC rfl (fun h4 => ?_) (fun h4 => ?_)
  ·try simp only [zbA] at h4
   omega --done
  ·try simp only [zbA] at h4
   refine tK ?_
   refine tS ?_
   refine tR fun _ _ _ => ?_
   refine sV (rFld rfl rfl) ?_
   refine sV (rLdSF rfl rfl) ?_
   refine sV (rFld rfl rfl) ?_
   refine sV (rLdF rfl rfl rfl) ?_
   refine sV (rFld rfl rfl) ?_
   refine sV (rLdF rfl rfl rfl) ?_
   refine sV (rBuild rfl rfl) ?_
   refine eV (eCallV rfl rfl rfl (ref_SCheckE _ _ _ _ _ hl9 w Aa _ ca rs hn h9 h8 hE) ⟨rfl, rfl, trivial⟩ ?_)
   refine pV ?_
   exact tr_ret ⟨trivial, _, _, rfl, ⟨rfl, rfl⟩, CSub.nil _, trivial⟩
theorem ref_CCheckF_ent : Enters Tryz.prog 5 := enters_of Tryz.func5 (by kernel_rfl) (by kernel_rfl)
theorem ref_CCheckF (p m : Int) (A : Option Addr) (c : Nat) (mod : List Int) (hl9 : mod.length ≤ 17592186044415) [hF : IsF p m mod] (w : Int) (Aa : Option Addr) (n ca : Nat) (rs : List RowM) (hn : n = rs.length) (h9 : rs.length ≤ 17592186044415) (h8 : ∀ r ∈ rs, r.xs.length ≤ 17592186044415) (hb : ¬ (w < 1 ∨ w > 64)) (hE : rowsC (pw p m) w (xss rs) = 0) (hf : ¬ formP p m mod w.toNat rs) :
  Pure Tryz.prog 5 #[.agg #[.int .i64 p, .int .i64 m, .slice A mod.length c, .int .i64 w, .slice Aa n ca]] [ro A (ints mod), ro Aa (hdrs rs), rowsR rs] (isV (.int .i64 5)) := by
 have hch := chkF_ok hF.out
 refine pure_of (args := [.agg #[.int .i64 p, .int .i64 m, .slice A mod.length c, .int .i64 w, .slice Aa n ca]]) 26 Tryz.func5 rfl rfl rfl ref_CCheckF_ent ⟨id, id, id, trivial⟩ (fun w0 => ?_)
 refine tS ?_
 refine tR fun _ _ _ => ?_
 refine eV (eBox rfl rfl rfl rfl rfl (fun p0 => ?_))
 refine pV ?_
 refine tS ?_
 refine tR fun _ _ _ => ?_
 refine sV (rFld rfl rfl) ?_
 refine sV (rLdSF rfl rfl) ?_
 refine eV (eCallV rfl rfl rfl (ref_fldCheck _ _ _ _ _ hl9) ⟨rfl, trivial⟩ ?_)
 refine pV ?_
 refine tS ?_
 refine tS ?_
 refine tR fun _ _ _ => ?_
 iterate 2 refine pV ?_
 refine tC rfl (fun h2 => ?_) (fun h2 => ?_)
 ·try simp only [zbA] at h2
  omega --done
 ·try simp only [zbA] at h2
  refine tK ?_
  refine tS ?_
  refine tS ?_
  refine tR fun _ _ _ => ?_
  refine sV (rFld rfl rfl) ?_
  refine sV (rLdF rfl rfl rfl) ?_
  iterate 2 refine pV ?_
  refine stg rfl rfl rfl rfl rfl (fun hb => by (have hq := hb; try simp only [zbA] at hq); exact rFld rfl rfl) ?_
  refine stg rfl rfl rfl rfl rfl (fun hb => by (have hq := hb; try simp only [zbA] at hq); exact rLdF rfl (evg rfl hb) rfl) ?_
  refine stg rfl rfl rfl rfl rfl (fun hb => by (have hq := hb; try simp only [zbA] at hq); exact rGtr rfl (evg rfl hb) rfl) ?_
  refine sV (rOrB rfl rfl rfl rfl) ?_
  refine tC rfl (fun h4 => ?_) (fun h4 => ?_)
  ·try simp only [zbA] at h4
   omega --done
  ·try simp only [zbA] at h4
   refine tK ?_
   refine tS ?_
   refine tR fun _ _ _ => ?_
   refine sV (rFld rfl rfl) ?_
   refine sV (rLdSF rfl rfl) ?_
   refine sV (rFld rfl rfl) ?_
   refine sV (rLdF rfl rfl rfl) ?_
   refine sV (rFld rfl rfl) ?_
   refine sV (rLdF rfl rfl rfl) ?_
   refine sV (rBuild rfl rfl) ?_
   refine eV (eCallV rfl rfl rfl (ref_SCheckF _ _ _ _ _ hl9 w Aa _ ca rs hn h9 h8 hE hf) ⟨rfl, rfl, trivial⟩ ?_)
   refine pV ?_
   exact tr_ret ⟨trivial, _, _, rfl, ⟨rfl, rfl⟩, CSub.nil _, trivial⟩
theorem ref_CCheckG_ent : Enters Tryz.prog 5 := enters_of Tryz.func5 (by kernel_rfl) (by kernel_rfl)
theorem ref_CCheckG (p m : Int) (A : Option Addr) (c : Nat) (mod : List Int) (hl9 : mod.length ≤ 17592186044415) [hF : IsF p m mod] (w : Int) (Aa : Option Addr) (n ca : Nat) (rs : List RowM) (hn : n = rs.length) (h9 : rs.length ≤ 17592186044415) (h8 : ∀ r ∈ rs, r.xs.length ≤ 17592186044415) (hb : ¬ (w < 1 ∨ w > 64)) (hE : rowsC (pw p m) w (xss rs) = 0) (hf : formP p m mod w.toNat rs) :
  Pure Tryz.prog 5 #[.agg #[.int .i64 p, .int .i64 m, .slice A mod.length c, .int .i64 w, .slice Aa n ca]] [ro A (ints mod), ro Aa (hdrs rs), rowsR rs] (isV (.int .i64 0)) := by
 have hch := chkF_ok hF.out
 refine pure_of (args := [.agg #[.int .i64 p, .int .i64 m, .slice A mod.length c, .int .i64 w, .slice Aa n ca]]) 26 Tryz.func5 rfl rfl rfl ref_CCheckG_ent ⟨id, id, id, trivial⟩ (fun w0 => ?_)
 refine tS ?_
 refine tR fun _ _ _ => ?_
 refine eV (eBox rfl rfl rfl rfl rfl (fun p0 => ?_))
 refine pV ?_
 refine tS ?_
 refine tR fun _ _ _ => ?_
 refine sV (rFld rfl rfl) ?_
 refine sV (rLdSF rfl rfl) ?_
 refine eV (eCallV rfl rfl rfl (ref_fldCheck _ _ _ _ _ hl9) ⟨rfl, trivial⟩ ?_)
 refine pV ?_
 refine tS ?_
 refine tS ?_
 refine tR fun _ _ _ => ?_
 iterate 2 refine pV ?_
 refine tC rfl (fun h2 => ?_) (fun h2 => ?_)
 ·try simp only [zbA] at h2
  omega --done
 ·try simp only [zbA] at h2
  refine tK ?_
  refine tS ?_
  refine tS ?_
  refine tR fun _ _ _ => ?_
  refine sV (rFld rfl rfl) ?_
  refine sV (rLdF rfl rfl rfl) ?_
  iterate 2 refine pV ?_
  refine stg rfl rfl rfl rfl rfl (fun hb => by (have hq := hb; try simp only [zbA] at hq); exact rFld rfl rfl) ?_
  refine stg rfl rfl rfl rfl rfl (fun hb => by (have hq := hb; try simp only [zbA] at hq); exact rLdF rfl (evg rfl hb) rfl) ?_
  refine stg rfl rfl rfl rfl rfl (fun hb => by (have hq := hb; try simp only [zbA] at hq); exact rGtr rfl (evg rfl hb) rfl) ?_
  refine sV (rOrB rfl rfl rfl rfl) ?_
  refine tC rfl (fun h4 => ?_) (fun h4 => ?_)
  ·try simp only [zbA] at h4
   omega --done
  ·try simp only [zbA] at h4
   refine tK ?_
   refine tS ?_
   refine tR fun _ _ _ => ?_
   refine sV (rFld rfl rfl) ?_
   refine sV (rLdSF rfl rfl) ?_
   refine sV (rFld rfl rfl) ?_
   refine sV (rLdF rfl rfl rfl) ?_
   refine sV (rFld rfl rfl) ?_
   refine sV (rLdF rfl rfl rfl) ?_
   refine sV (rBuild rfl rfl) ?_
   refine eV (eCallV rfl rfl rfl (ref_SCheckG _ _ _ _ _ hl9 w Aa _ ca rs hn h9 h8 hE hf) ⟨rfl, rfl, trivial⟩ ?_)
   refine pV ?_
   exact tr_ret ⟨trivial, _, _, rfl, ⟨rfl, rfl⟩, CSub.nil _, trivial⟩
theorem ref_CCheck (p m : Int) (A : Option Addr) (c : Nat) (mod : List Int) (hl9 : mod.length ≤ 17592186044415) (w : Int) (Aa : Option Addr) (n ca : Nat) (rs : List RowM) (hn : n = rs.length) (h9 : rs.length ≤ 17592186044415) (h8 : ∀ r ∈ rs, r.xs.length ≤ 17592186044415) : Pure Tryz.prog 5 #[.agg #[.int .i64 p, .int .i64 m, .slice A mod.length c, .int .i64 w, .slice Aa n ca]] [ro A (ints mod), ro Aa (hdrs rs), rowsR rs] (isV (.int .i64 (codC p m mod w rs))) := by
 by_cases hF : FldR p m mod
 ·haveI : IsF p m mod := ⟨hF⟩
  by_cases hb : w < 1 ∨ w > 64
  ·rw [codC_ln hb]; exact ref_CCheckL p m A c mod hl9 w Aa n ca rs hn h9 h8 hb
  ·by_cases hE : rowsC (pw p m) w (xss rs) = 0
   ·by_cases hf : formP p m mod w.toNat rs
    ·rw [codC_ok hb hE hf]; exact ref_CCheckG p m A c mod hl9 w Aa n ca rs hn h9 h8 hb hE hf
    ·rw [codC_fm hb hE hf]; exact ref_CCheckF p m A c mod hl9 w Aa n ca rs hn h9 h8 hb hE hf
   ·rw [codC_rw hb hE]; exact ref_CCheckE p m A c mod hl9 w Aa n ca rs hn h9 h8 hb hE
 ·rw [codC_no w rs hF]; exact ref_CCheckNo p m A c mod hl9 hF w Aa n ca rs hn h9 h8
end Go.Proofs.YtdkahdehodopoaaGreat

set_option maxRecDepth 100000
namespace Go.Proofs.YtdkahdehodopoaaGreat
open Go.RowKit
theorem code_list1_ent : Enters Tryz.prog 142 := enters_of Tryz.func142 (by kernel_rfl) (by kernel_rfl)
theorem code_list1 (g : GfM) (x : Int) (pp : Addr) :
  Pure Tryz.prog 142 #[.int .i64 x, .pointer (some pp)] [ro (some pp) [.pointer (some g.p)], gfR g] (isV (.bool (!(decide (x ≥ 0) && decide (x < g.q))))) := by
 refine pure_of (args := [.int .i64 x, .pointer (some pp)]) 8 Tryz.func142 rfl rfl rfl code_list1_ent ⟨id, id, trivial⟩ (fun w0 => ?_)
 refine tS ?_
 refine tR fun _ _ _ => ?_
 refine pV ?_
 refine tS ?_
 refine tR fun _ _ _ => ?_
 refine sV (rLd0 rfl rfl) ?_
 refine pV ?_
 refine eV (eCallV rfl rfl rfl (gf_Is g x) ⟨rfl, rfl, trivial⟩ ?_)
 refine sV (rNotB rfl rfl) ?_
 refine pV ?_
 exact tr_ret ⟨trivial, _, _, rfl, ⟨rfl, rfl⟩, CSub.nil _, trivial⟩
theorem code_list_ent : Enters Tryz.prog 111 := enters_of Tryz.func111 (by kernel_rfl) (by kernel_rfl)
theorem code_list (p m : Int) (A : Option Addr) (c : Nat) (mod : List Int) [hF : IsF p m mod] (w : Int) (hw9 : w ≤ 1000000) (X : Option Addr) (nx cx : Nat) (l : List Int) (hnx : nx = l.length) (hlw : (l.length : Int) = w) (hin : AllIn (pw p m) l) :
  Pure Tryz.prog 111 #[.agg #[.int .i64 p, .int .i64 m, .slice A mod.length c], .slice X nx cx, .int .i64 w] [ro A (ints mod), ro X (ints l)] (isV (.int .i64 0)) := by
 have hl9 := hF.short
 refine pure_of (args := [.agg #[.int .i64 p, .int .i64 m, .slice A mod.length c], .slice X nx cx, .int .i64 w]) 24 Tryz.func111 rfl rfl rfl code_list_ent ⟨id, id, trivial⟩ (fun w0 => ?_)
 refine tS ?_
 refine tR fun _ _ _ => ?_
 refine eV (eBox rfl rfl rfl rfl rfl (fun p0 => ?_))
 refine pV ?_
 refine tS ?_
 refine tS ?_
 refine tR fun _ _ _ => ?_
 refine pV ?_
 refine sV (rLen rfl rfl) ?_
 iterate 2 refine pV ?_
 refine tC rfl (fun h1 => ?_) (fun h1 => ?_)
 ·try simp only [zbA] at h1
  omega --done
 ·try simp only [zbA] at h1
  refine tK ?_
  refine tS ?_
  refine tR fun _ _ _ => ?_
  refine sV (rLdS rfl rfl rfl) ?_
  refine eV (eCall1 rfl rfl rfl (fld_New_ok _ _ _ _ _ (by omega) hF.out) ⟨rfl, trivial⟩ ?_)
  rintro _ _ ⟨g, rfl, rfl, hg⟩
  iterate 3 refine pV ?_
  refine eV (eAlloc rfl rfl rfl (fun p3a => ?_))
  refine eV (eSt0 rfl rfl rfl rfl rfl rfl ?_)
  refine pV ?_
  refine tS ?_
  refine tS ?_
  refine tR fun _ _ _ => ?_
  iterate 2 refine pV ?_
  refine tC rfl (fun h4 => ?_) (fun h4 => ?_)
  ·try simp only [zbA] at h4
   first | exact absurd trivial h4 | exact absurd rfl h4 | omega | (exact absurd h4 (by simp)) --done
  ·try simp only [zbA] at h4
   refine tK ?_
   refine tS ?_
   refine tS ?_
   have hno : l.any (fun x => !(decide (x ≥ 0) && decide (x < g.q))) = false := by
    rw [List.any_eq_false]
    intro x hx
    have hb := hin x hx
    have heq := hg.eq
    simp; omega
   refine tR fun _ _ _ => ?_
   refine pV ?_
   refine sV (rFun rfl rfl rfl) ?_
   refine eV (eCallV rfl rfl rfl (slc_ContainsFunc X _ _ l hnx (by omega) _ [.pointer (some p3a)] [ro (some p3a) [.pointer (some g.p)], gfR g] _ (fun x hx => code_list1 g x p3a)) ⟨rfl, rfl, trivial⟩ ?_)
   refine tC rfl (fun h6 => ?_) (fun h6 => ?_)
   ·try simp only [zbA] at h6
    rw [hno] at h6; cases h6 --done
   ·try simp only [zbA] at h6
    refine tK ?_
    refine tS ?_
    refine tR fun _ _ _ => ?_
    refine pV ?_
    exact tr_ret ⟨trivial, _, _, rfl, ⟨rfl, rfl⟩, CSub.nil _, trivial⟩
theorem code_word_ent : Enters Tryz.prog 68 := enters_of Tryz.func68 (by kernel_rfl) (by kernel_rfl)
theorem code_word (p m : Int) (A : Option Addr) (c : Nat) (mod : List Int) [hF : IsF p m mod] (w : Int) (Aa : Option Addr) (n ca : Nat) (rs : List RowM) (hn : n = rs.length) (h9 : rs.length ≤ 256) (hc : CodeOk p m mod w rs) (X : Option Addr) (nx cx : Nat) (l : List Int) (hnx : nx = l.length) (hlw : (l.length : Int) = w) (hin : AllIn (pw p m) l) :
  Pure Tryz.prog 68 #[.agg #[.int .i64 p, .int .i64 m, .slice A mod.length c, .int .i64 w, .slice Aa n ca], .slice X nx cx] [ro A (ints mod), ro Aa (hdrs rs), rowsR rs, ro X (ints l)] (isV (.int .i64 0)) := by
 have hl9 := hF.short
 have hn1 := hc.n1
 have hn64 := hc.n64
 have hlen := hc.len
 have hgd := hc.good
 have h8 := hgd.h8 (N := 17592186044415) (by omega)
 have hck := hc.zero
 refine pure_of (args := [.agg #[.int .i64 p, .int .i64 m, .slice A mod.length c, .int .i64 w, .slice Aa n ca], .slice X nx cx]) 17 Tryz.func68 rfl rfl rfl code_word_ent ⟨id, id, id, id, trivial⟩ (fun w0 => ?_)
 refine tS ?_
 refine tR fun _ _ _ => ?_
 refine eV (eBox rfl rfl rfl rfl rfl (fun p0 => ?_))
 refine pV ?_
 refine tS ?_
 refine tS ?_
 refine tR fun _ _ _ => ?_
 refine sV (rLdS rfl rfl rfl) ?_
 refine eV (eCallV rfl rfl rfl (code_Check _ _ _ _ _ (by omega) w Aa _ ca rs hn (by omega) h8) ⟨rfl, trivial⟩ ?_)
 refine pV ?_
 refine tS ?_
 refine tR fun _ _ _ => ?_
 iterate 2 refine pV ?_
 refine tC rfl (fun h2 => ?_) (fun h2 => ?_)
 ·try simp only [zbA] at h2
  omega --done
 ·try simp only [zbA] at h2
  refine tK ?_
  refine tS ?_
  refine tR fun _ _ _ => ?_
  refine sV (rFld rfl rfl) ?_
  refine sV (rLdSF rfl rfl) ?_
  refine pV ?_
  refine sV (rFld rfl rfl) ?_
  refine sV (rLdF rfl rfl rfl) ?_
  refine eV (eCallV rfl rfl rfl (code_list _ _ _ _ _ w (by omega) X _ _ l hnx hlw hin) ⟨rfl, rfl, rfl, trivial⟩ ?_)
  refine pV ?_
  exact tr_ret ⟨trivial, _, _, rfl, ⟨rfl, rfl⟩, CSub.nil _, trivial⟩
theorem vw_word1_ent : Enters Tryz.prog 143 := enters_of Tryz.func143 (by kernel_rfl) (by kernel_rfl)
theorem vw_word1 (g : GfM) (w : Int) (Aa : Option Addr) (n ca : Nat) (Bp : Option Addr) (np cp : Nat) (x : Int) (pp : Addr) :
  Pure Tryz.prog 143 #[.int .i64 x, .pointer (some pp)] [ro (some pp) [.pointer (some g.p), .int .i64 w, .slice Aa n ca, .slice Bp np cp], gfR g] (isV (.bool (!(decide (x ≥ 0) && decide (x < g.q))))) := by
 refine pure_of (args := [.int .i64 x, .pointer (some pp)]) 9 Tryz.func143 rfl rfl rfl vw_word1_ent ⟨id, id, trivial⟩ (fun w0 => ?_)
 refine tS ?_
 refine tR fun _ _ _ => ?_
 refine pV ?_
 refine tS ?_
 refine tR fun _ _ _ => ?_
 refine sV (rFld rfl rfl) ?_
 refine sV (rLdF rfl rfl rfl) ?_
 refine pV ?_
 refine eV (eCallV rfl rfl rfl (gf_Is g x) ⟨rfl, rfl, trivial⟩ ?_)
 refine sV (rNotB rfl rfl) ?_
 refine pV ?_
 exact tr_ret ⟨trivial, _, _, rfl, ⟨rfl, rfl⟩, CSub.nil _, trivial⟩
theorem vw_word_ent : Enters Tryz.prog 112 := enters_of Tryz.func112 (by kernel_rfl) (by kernel_rfl)
theorem vw_word (g : GfM) {p m : Int} {mod : List Int} [hF : IsF p m mod] (hg : GOk g p m mod) (w : Int) (Aa : Option Addr) (n ca : Nat) (rs : List RowM) (hn : n = rs.length) (h9 : rs.length ≤ 256) (hc : CodeOk p m mod w rs) (Bp : Option Addr) (np cp : Nat) (X : Option Addr) (nx cx : Nat) (l : List Int) (hnx : nx = l.length) (hlw : (l.length : Int) = w) (hin : AllIn (pw p m) l) :
  Pure Tryz.prog 112 #[.agg #[.pointer (some g.p), .int .i64 w, .slice Aa n ca, .slice Bp np cp], .slice X nx cx] [gfR g, ro X (ints l)] (isV (.int .i64 0)) := by
 have hl9 := hF.short
 have hn1 := hc.n1
 have hn64 := hc.n64
 have hlen := hc.len
 have hgd := hc.good
 have h8 := hgd.h8 (N := 17592186044415) (by omega)
 refine pure_of (args := [.agg #[.pointer (some g.p), .int .i64 w, .slice Aa n ca, .slice Bp np cp], .slice X nx cx]) 14 Tryz.func112 rfl rfl rfl vw_word_ent ⟨id, id, trivial⟩ (fun w0 => ?_)
 refine tS ?_
 refine tR fun _ _ _ => ?_
 refine eV (eBox rfl rfl rfl rfl rfl (fun p0 => ?_))
 refine pV ?_
 refine tS ?_
 refine tS ?_
 refine tR fun _ _ _ => ?_
 refine pV ?_
 refine sV (rLen rfl rfl) ?_
 refine sV (rFld rfl rfl) ?_
 refine sV (rFldN rfl rfl) ?_
 refine sV (rLdF rfl rfl rfl) ?_
 refine pV ?_
 refine tC rfl (fun h1 => ?_) (fun h1 => ?_)
 ·try simp only [zbA] at h1
  omega --done
 ·try simp only [zbA] at h1
  refine tK ?_
  refine tS ?_
  refine tS ?_
  have hno : l.any (fun x => !(decide (x ≥ 0) && decide (x < g.q))) = false := by
   rw [List.any_eq_false]
   intro x hx
   have hb := hin x hx
   have heq := hg.eq
   simp; omega
  refine tR fun _ _ _ => ?_
  refine pV ?_
  refine sV (rFun rfl rfl rfl) ?_
  refine eV (eCallV rfl rfl rfl (slc_ContainsFunc X _ _ l hnx (by omega) _ [.pointer (some p0)] [ro (some p0) [.pointer (some g.p), .int .i64 w, .slice Aa n ca, .slice Bp np cp], gfR g] _ (fun x hx => vw_word1 g w Aa n ca Bp np cp x p0)) ⟨rfl, rfl, trivial⟩ ?_)
  refine tC rfl (fun h3 => ?_) (fun h3 => ?_)
  ·try simp only [zbA] at h3
   rw [hno] at h3; cases h3 --done
  ·try simp only [zbA] at h3
   refine tK ?_
   refine tS ?_
   refine tR fun _ _ _ => ?_
   refine pV ?_
   exact tr_ret ⟨trivial, _, _, rfl, ⟨rfl, rfl⟩, CSub.nil _, trivial⟩
theorem vw_reduce_ent : Enters Tryz.prog 144 := enters_of Tryz.func144 (by kernel_rfl) (by kernel_rfl)
theorem vw_reduce (g : GfM) {p m : Int} {mod : List Int} [hF : IsF p m mod] (hg : GOk g p m mod) (w : Int) (Aa : Option Addr) (n ca : Nat) (rs : List RowM) (hn : n = rs.length) (h9 : rs.length ≤ 256) (hc : CodeOk p m mod w rs) (Bp : Option Addr) (np cp : Nat) (ps : List Int) (hnp : np = ps.length) (qs : List Nat) (hq : Vc.Rr w.toNat (vsR rs : List (Vc (El p m mod))) qs) (hps : ps = qs.map Int.ofNat) (X : Option Addr) (nx cx : Nat) (l : List Int) (hnx : nx = l.length) (hlw : (l.length : Int) = w) (hin : AllIn (pw p m) l) :
  Pure Tryz.prog 144 #[.agg #[.pointer (some g.p), .int .i64 w, .slice Aa n ca, .slice Bp np cp], .slice X nx cx] [gfR g, ro Aa (hdrs rs), rowsR rs, ro Bp (ints ps), ro X (ints l)] (two (fun v c1 c2 => ∃ B cb o D cd tk, v = .tuple #[.slice B o.length cb, .slice D tk.length cd] ∧ c1 = ow B 3 cb (ints o) ∧ c2 = ow D 3 cd (ints tk) ∧ o.length = l.length ∧ AllIn (pw p m) o ∧ (rw' o : Vc (El p m mod)) = rw' l - Vc.cmb (fun i => rw' l (qs.getD i 0)) (vsR rs) ∧ tk = qs.map (fun i => l.getD i 0))) := by
 have hl9 := hF.short
 have hn1 := hc.n1
 have hn64 := hc.n64
 have hlen := hc.len
 have hgd := hc.good
 have h8 := hgd.h8 (N := 17592186044415) (by omega)
 have hql := hq.len
 rw [vsR_length] at hql
 have hpl : ps.length = qs.length := by rw [hps, List.length_map]
 have hq2 := hF.q2
 refine pure_of (args := [.agg #[.pointer (some g.p), .int .i64 w, .slice Aa n ca, .slice Bp np cp], .slice X nx cx]) 62 Tryz.func144 rfl rfl rfl vw_reduce_ent ⟨id, id, id, id, id, trivial⟩ (fun w0 => ?_)
 refine tS ?_
 refine tR fun _ _ _ => ?_
 refine eV (eBox rfl rfl rfl rfl rfl (fun p0 => ?_))
 iterate 2 refine pV ?_
 refine tS ?_
 subst hnx
 refine tR fun _ _ _ => ?_
 refine pV ?_
 refine eV (eCall1 rfl rfl rfl (slc_Clone X cx l (by omega)) ⟨rfl, trivial⟩ ?_)
 rintro _ _ ⟨B1, c1, rfl, rfl⟩
 refine pV ?_
 refine tS ?_
 refine tS ?_
 refine tR fun _ _ _ => ?_
 refine sV (rFld rfl rfl) ?_
 refine sV (rLdF rfl rfl rfl) ?_
 refine sV (rLen rfl rfl) ?_
 refine pV ?_
 refine tB ?_
 refine tr_nilI 3 ?_
 refine tr_loop5 (fun (k : Int) (o : List Int) (D : Option Addr) (cd : Nat) (tk : List Int) => [(4, .slice B1 l.length c1), (5, .slice D tk.length cd), (14, .slice Bp np cp), (15, .int .i64 np), (16, .int .i64 k), (2, .pointer (some p0))]) (fun (k : Int) (o : List Int) (D : Option Addr) (cd : Nat) (tk : List Int) => [ow B1 3 c1 (ints o), ow D 3 cd (ints tk), blk p0 100 [.pointer (some g.p), .int .i64 w, .slice Aa n ca, .slice Bp np cp], gfR g, ro Aa (hdrs rs), rowsR rs, ro Bp (ints ps), ro X (ints l)]) (fun (k : Int) (o : List Int) (D : Option Addr) (cd : Nat) (tk : List Int) => (0 ≤ k ∧ k ≤ np) ∧ (o.length = l.length ∧ AllIn (pw p m) o) ∧ (rw' o : Vc (El p m mod)) = rw' l - Vc.cmb (Vc.upC (fun i => rw' l (qs.getD i 0)) k.toNat) (vsR rs) ∧ tk = (qs.take k.toNat).map (fun i => l.getD i 0)) (fun (k : Int) (o : List Int) (D : Option Addr) (cd : Nat) (tk : List Int) => (np - k).toNat) (0) (l) (none) (0) ([]) ⟨rfl, rfl, rfl, rfl, rfl, rfl, trivial⟩ (by first | exact cs _ _ | exact CSub.refl _) (⟨⟨by omega, by omega⟩, ⟨rfl, hin⟩, by rw [Int.toNat_zero, Vc.cmb_up_zero]; exact Vc.ext fun j => by rw [Vc.sub_at, Vc.zero_at]; grind, rfl⟩) (fun k o D cd tk hI => ?_)
 obtain ⟨⟨hk0, hk1⟩, ⟨hol, hoi⟩, hoe, htk⟩ := hI
 have htl : tk.length ≤ 64 := by rw [htk, List.length_map, List.length_take]; omega
 refine tS ?_
 refine tR fun _ _ _ => ?_
 refine pV ?_
 refine tS ?_
 refine tC rfl (fun h3 => ?_) (fun h3 => ?_)
 ·try simp only [zbA] at h3
  refine tK ?_
  refine tS ?_
  refine tB ?_
  refine tS ?_
  refine tR fun _ _ _ => ?_
  refine pV ?_
  refine sV (rIdxI rfl rfl rfl (by omega) (by omega) (by omega)) ?_
  refine sV (rLdI rfl rfl (by omega)) ?_
  iterate 2 refine pV ?_
  refine tS ?_
  have hpk : ps.getD k.toNat 0 = (qs.getD k.toNat 0 : Int) := by rw [hps, ofNat_getD]
  have hqk := hq.lt k.toNat (by omega)
  haveI : InB k.toNat rs.length := ⟨by omega⟩
  have hgk := hgd.get (show k.toNat < rs.length by omega)
  have hgk1 := hgk.1
  simp only [hpk]
  refine tR fun _ _ _ => ?_
  iterate 2 refine pV ?_
  refine sV (rIdxI rfl rfl rfl (by omega) (by omega) (by omega)) ?_
  refine sV (rLdI rfl rfl (by omega)) ?_
  refine pV ?_
  refine tS ?_
  have hyk : o.getD (qs.getD k.toNat 0 : Int).toNat 0 = l.getD (qs.getD k.toNat 0) 0 := by
   have e : (el (o.getD (qs.getD k.toNat 0) 0) : El p m mod) = el (l.getD (qs.getD k.toNat 0) 0) := by
    have := congrFun hoe (qs.getD k.toNat 0)
    rw [Vc.sub_at, hq.up_at _ (by omega)] at this
    rw [rw_at, rw_at] at this
    rw [this]; grind
   rw [Int.toNat_natCast]
   exact el_inj (p := p) (m := m) (mod := mod) (hoi.get (by omega) _) (hin.get (by omega) _) e
  simp only [hyk]
  refine tR fun _ _ _ => ?_
  iterate 2 refine pV ?_
  refine eV (eLit1I rfl rfl rfl rfl (fun A6 => ?_))
  refine eV (eAppI rfl rfl rfl rfl rfl (by first | rfl | simp | omega) (by first | rfl | simp | omega) (by first | omega | (simp; omega)) (fun A6a c6a => ?_))
  refine pV ?_
  refine tS ?_
  refine tR fun _ _ _ => ?_
  iterate 2 refine pV ?_
  refine tC rfl (fun h7 => ?_) (fun h7 => ?_)
  ·try simp only [zbA] at h7
   refine tS ?_
   refine tR fun _ _ _ => ?_
   refine sV (rFld rfl rfl) ?_
   refine sV (rFldN rfl rfl) ?_
   refine sV (rLdF rfl rfl rfl) ?_
   refine pV ?_
   refine sV (rIdxR rfl rfl rfl (by omega) (by omega) (by omega)) ?_
   refine sV (rLdR rfl rfl (by omega)) ?_
   refine sV (rLen rfl rfl) ?_
   refine pV ?_
   refine tB ?_
   refine tr_loop2 (fun (j : Int) (o2 : List Int) => [(36, .slice (rs.getD k.toNat rowD).A (rs.getD k.toNat rowD).xs.length (rs.getD k.toNat rowD).cap), (37, .int .i64 (rs.getD k.toNat rowD).xs.length), (38, .int .i64 j), (8, .int .i64 (l.getD (qs.getD k.toNat 0) 0)), (5, .slice A6a (tk ++ [l.getD (qs.getD k.toNat 0) 0]).length c6a), (4, .slice B1 l.length c1), (2, .pointer (some p0)), (6, .int .i64 k), (14, .slice Bp np cp), (15, .int .i64 np), (16, .int .i64 k), (18, .int .i64 k), (21, .slice B1 l.length c1), (25, .slice D tk.length cd), (33, .slice Aa n ca), (34, .int .i64 k)]) (fun (j : Int) (o2 : List Int) => [ow B1 3 c1 (ints o2), ow A6a 3 c6a (ints (tk ++ [l.getD (qs.getD k.toNat 0) 0])), blk p0 100 [.pointer (some g.p), .int .i64 w, .slice Aa n ca, .slice Bp np cp], gfR g, ro Aa (hdrs rs), rowsR rs, ro Bp (ints ps), ro X (ints l)]) (fun (j : Int) (o2 : List Int) => (0 ≤ j ∧ j ≤ (rs.getD k.toNat rowD).xs.length) ∧ (o2.length = l.length ∧ AllIn (pw p m) o2) ∧ ∀ t : Nat, (el (o2.getD t 0) : El p m mod) = if (t : Int) < j then el (o.getD t 0) - el (l.getD (qs.getD k.toNat 0) 0) * el ((rs.getD k.toNat rowD).xs.getD t 0) else el (o.getD t 0)) (fun (j : Int) (o2 : List Int) => ((rs.getD k.toNat rowD).xs.length - j).toNat) (0) (o) ⟨rfl, rfl, rfl, rfl, rfl, rfl, rfl, rfl, rfl, rfl, rfl, rfl, rfl, rfl, rfl, rfl, trivial⟩ (by first | exact cs _ _ | exact CSub.refl _) (⟨⟨by omega, by omega⟩, ⟨hol, hoi⟩, fun t => by rw [if_neg (by omega)]⟩) (fun j o2 hI => ?_)
   obtain ⟨⟨hj0, hj1⟩, ⟨hol2, ho3⟩, hoj⟩ := hI
   refine tS ?_
   refine tR fun _ _ _ => ?_
   refine pV ?_
   refine tS ?_
   refine tC rfl (fun h9 => ?_) (fun h9 => ?_)
   ·try simp only [zbA] at h9
    refine tK ?_
    refine tS ?_
    refine tB ?_
    refine tS ?_
    refine tR fun _ _ _ => ?_
    refine pV ?_
    refine sV (rIdxI rfl rfl rfl (by omega) (by omega) (by omega)) ?_
    refine sV (rLdI rfl rfl (by omega)) ?_
    iterate 2 refine pV ?_
    have hbo := ho3.get (by omega) j.toNat
    refine tr_draw [0, 1, 2, 3, 4, 5, 6, 7, 8, 9, 10, 11, 12, 13, 14] [15] mixed (by kernel_rfl) fun _ _ _ => ?_
    iterate 2 refine pV ?_
    refine sV (rFld rfl rfl) ?_
    refine sV (rLdF rfl rfl rfl) ?_
    iterate 2 refine pV ?_
    refine sV (rIdxI rfl rfl rfl (by omega) (by omega) (by omega)) ?_
    refine sV (rLdI rfl rfl (by omega)) ?_
    refine sV (rFld rfl rfl) ?_
    refine sV (rLdF rfl rfl rfl) ?_
    iterate 2 refine pV ?_
    refine eV (eCallV rfl rfl rfl (gf_MulE g hg _ _) ⟨rfl, rfl, rfl, trivial⟩ ?_)
    refine eV (eCallV rfl rfl rfl (gf_SubE g hg _ _) ⟨rfl, rfl, rfl, trivial⟩ ?_)
    refine sV (rIdxI rfl rfl rfl (by omega) (by omega) (by omega)) ?_
    refine eV (eStI rfl rfl rfl rfl (by omega) ?_)
    refine tR fun _ _ _ => ?_
    refine sV (rAdd rfl rfl rfl (by omega) (by omega)) ?_
    refine pV ?_
    refine ⟨j + 1, o2.set j.toNat (el (o2.getD j.toNat 0) - el (el (l.getD (qs.getD k.toNat 0) 0) * el ((rs.getD k.toNat rowD).xs.getD j.toNat 0) : El p m mod).1 : El p m mod).1, ⟨rfl, rfl, rfl, rfl, rfl, rfl, rfl, rfl, rfl, rfl, rfl, rfl, rfl, rfl, rfl, rfl, trivial⟩, by first | exact cs _ _ | exact CSub.refl _, ?_⟩
    refine ⟨⟨⟨by omega, by omega⟩, ⟨by simpa using hol2, ho3.set (El.bd _) _⟩, fun t => ?_⟩, by omega⟩
    rw [getD_set]
    by_cases he : j.toNat = t
    ·subst he
     rw [if_pos ⟨rfl, by omega⟩, if_pos (by omega), el_of, el_of]
     have := hoj j.toNat
     rw [if_neg (by omega)] at this
     rw [this]
    ·rw [if_neg (fun e => he e.1), hoj t]
     by_cases h1 : (t : Int) < j
     ·rw [if_pos h1, if_pos (by omega)]
     ·rw [if_neg h1, if_neg (by omega)]
   ·try simp only [zbA] at h9
    refine tE ?_
    refine tR fun _ _ _ => ?_
    refine sV (rAdd rfl rfl rfl (by omega) (by omega)) ?_
    refine pV ?_
    refine ⟨k + 1, o2, A6a, c6a, tk ++ [l.getD (qs.getD k.toNat 0) 0], ⟨rfl, rfl, rfl, rfl, rfl, rfl, trivial⟩, by first | exact cs _ _ | exact CSub.refl _, ?_⟩
    have hjn : j.toNat = (rs.getD k.toNat rowD).xs.length := by omega
    refine ⟨⟨⟨by omega, by omega⟩, ⟨by omega, ho3⟩, ?_, ?_⟩, by omega⟩
    ·rw [show (k + 1).toNat = k.toNat + 1 by omega, Vc.cmb_up_succ _ (by rw [vsR_length]; omega)]
     refine Vc.ext fun t => ?_
     have e1 := congrFun hoe t
     rw [Vc.sub_at, rw_at, rw_at] at e1
     rw [rw_at, Vc.sub_at, Vc.add_at, Vc.sc_at, vsR_at, hoj t, rw_at, rw_at]
     by_cases ht : (t : Int) < j
     ·rw [if_pos ht, e1]; grind
     ·rw [if_neg ht, e1, getD_out (l := (rs.getD k.toNat rowD).xs) (by omega), el_zero]; grind
    ·rw [htk, show (k + 1).toNat = k.toNat + 1 by omega, take_map_succ _ _ (show k.toNat < qs.length by omega)]
  ·try simp only [zbA] at h7
   refine tK ?_
   refine tR fun _ _ _ => ?_
   refine sV (rAdd rfl rfl rfl (by omega) (by omega)) ?_
   refine pV ?_
   refine ⟨k + 1, o, A6a, c6a, tk ++ [l.getD (qs.getD k.toNat 0) 0], ⟨rfl, rfl, rfl, rfl, rfl, rfl, trivial⟩, by first | exact cs _ _ | exact CSub.refl _, ?_⟩
   have h7' : l.getD (qs.getD k.toNat 0) 0 = 0 := by omega
   refine ⟨⟨⟨by omega, by omega⟩, ⟨hol, hoi⟩, ?_, ?_⟩, by omega⟩
   ·rw [show (k + 1).toNat = k.toNat + 1 by omega, Vc.cmb_up_succ _ (by rw [vsR_length]; omega), hoe]
    have hz : (rw' l : Vc (El p m mod)) (qs.getD k.toNat 0) = 0 := by rw [rw_at, h7', el_zero]
    refine Vc.ext fun t => ?_
    rw [Vc.sub_at, Vc.sub_at, Vc.add_at, Vc.sc_at]
    simp only [hz]
    grind
   ·rw [htk, show (k + 1).toNat = k.toNat + 1 by omega, take_map_succ _ _ (show k.toNat < qs.length by omega)]
 ·try simp only [zbA] at h3
  refine tE ?_
  refine tS ?_
  refine tR fun _ _ _ => ?_
  iterate 4 refine pV ?_
  have hkn : k.toNat = qs.length := by omega
  rw [Vc.cmb_up_all _ (by rw [vsR_length]; omega)] at hoe
  rw [hkn, List.take_length] at htk
  rw [← hol]
  exact tr_ret ⟨trivial, _, _, rfl, ⟨_, _, rfl, B1, c1, o, D, cd, tk, rfl, rfl, rfl, (by omega), hoi, hoe, htk⟩, cs _ _, trivial, trivial, trivial⟩
theorem spc_zero1_ent : Enters Tryz.prog 157 := enters_of Tryz.func157 (by kernel_rfl) (by kernel_rfl)
theorem spc_zero1 (x : Int) :
  Pure Tryz.prog 157 #[.int .i64 x] [] (isV (.bool (decide (¬ x = 0)))) := by
 refine pure_of (args := [.int .i64 x]) 5 Tryz.func157 rfl rfl rfl spc_zero1_ent trivial (fun w0 => ?_)
 refine tS ?_
 refine tR fun _ _ _ => ?_
 refine pV ?_
 refine tS ?_
 refine tR fun _ _ _ => ?_
 iterate 3 refine pV ?_
 exact tr_ret ⟨trivial, _, _, rfl, ⟨rfl, rfl⟩, CSub.nil _, trivial⟩
theorem spc_zero1F (x : Int) : Pure Tryz.prog 157 ([Value.int .i64 x] ++ []).toArray [] (isV (.bool (decide (¬ x = 0)))) := spc_zero1 x
theorem any_nz (o : List Int) : (!o.any fun x => decide (¬ x = 0)) = decide (∀ z ∈ o, z = 0) := by
 by_cases h : ∀ z ∈ o, z = 0
 ·rw [decide_eq_true h]
  simp; exact h
 ·rw [decide_eq_false h]
  simp; simpa using h
theorem spc_zero_ent : Enters Tryz.prog 145 := enters_of Tryz.func145 (by kernel_rfl) (by kernel_rfl)
theorem spc_zero (X : Option Addr) (nx cx : Nat) (o : List Int) (hnx : nx = o.length) (h9 : o.length ≤ 1000000000000) :
  Pure Tryz.prog 145 #[.slice X nx cx] [ro X (ints o)] (isV (.bool (decide (∀ z ∈ o, z = 0)))) := by
 refine pure_of (args := [.slice X nx cx]) 6 Tryz.func145 rfl rfl rfl spc_zero_ent ⟨id, trivial⟩ (fun w0 => ?_)
 refine tS ?_
 refine tR fun _ _ _ => ?_
 refine pV ?_
 refine tS ?_
 refine tR fun _ _ _ => ?_
 refine pV ?_
 refine eV (eCallV rfl rfl rfl (slc_ContainsFunc X _ _ o hnx h9 _ [] [] (fun x => decide (¬ x = 0)) (fun x hx => spc_zero1F x)) ⟨rfl, rfl, trivial⟩ ?_)
 refine sV (rNotB rfl rfl) ?_
 refine pV ?_
 exact tr_ret ⟨trivial, _, _, rfl, ⟨by rw [any_nz], rfl⟩, CSub.nil _, trivial⟩
theorem memB_dec {p m : Int} {mod : List Int} [hF : IsF p m mod] {n : Nat} {rs : List RowM} {qs : List Nat} (h : Vc.Rr n (vsR rs : List (Vc (El p m mod))) qs) {l o : List Int} (ho : AllIn (pw p m) o) (e : (rw' o : Vc (El p m mod)) = rw' l - Vc.cmb (fun i => rw' l (qs.getD i 0)) (vsR rs)) :
  decide (∀ z ∈ o, z = 0) = memB p m mod rs l := by
 have := memB_eq h ho e
 cases hb : memB p m mod rs l with
 | true => exact decide_eq_true (this.1 hb)
 | false => exact decide_eq_false fun hh => by rw [this.2 hh] at hb; cases hb
theorem vw_has_ent : Enters Tryz.prog 113 := enters_of Tryz.func113 (by kernel_rfl) (by kernel_rfl)
theorem vw_has (g : GfM) {p m : Int} {mod : List Int} [hF : IsF p m mod] (hg : GOk g p m mod) (w : Int) (Aa : Option Addr) (n ca : Nat) (rs : List RowM) (hn : n = rs.length) (h9 : rs.length ≤ 256) (hc : CodeOk p m mod w rs) (Bp : Option Addr) (np cp : Nat) (ps : List Int) (hnp : np = ps.length) (qs : List Nat) (hq : Vc.Rr w.toNat (vsR rs : List (Vc (El p m mod))) qs) (hps : ps = qs.map Int.ofNat) (X : Option Addr) (nx cx : Nat) (l : List Int) (hnx : nx = l.length) (hlw : (l.length : Int) = w) (hin : AllIn (pw p m) l) :
  Pure Tryz.prog 113 #[.agg #[.pointer (some g.p), .int .i64 w, .slice Aa n ca, .slice Bp np cp], .slice X nx cx] [gfR g, ro Aa (hdrs rs), rowsR rs, ro Bp (ints ps), ro X (ints l)] (isV (.bool (memB p m mod rs l))) := by
 have hl9 := hF.short
 have hn1 := hc.n1
 have hn64 := hc.n64
 have hlen := hc.len
 have hgd := hc.good
 have h8 := hgd.h8 (N := 17592186044415) (by omega)
 refine pure_of (args := [.agg #[.pointer (some g.p), .int .i64 w, .slice Aa n ca, .slice Bp np cp], .slice X nx cx]) 15 Tryz.func113 rfl rfl rfl vw_has_ent ⟨id, id, id, id, id, trivial⟩ (fun w0 => ?_)
 refine tS ?_
 refine tR fun _ _ _ => ?_
 refine eV (eBox rfl rfl rfl rfl rfl (fun p0 => ?_))
 refine pV ?_
 refine tS ?_
 refine tR fun _ _ _ => ?_
 refine sV (rLdS rfl rfl rfl) ?_
 refine pV ?_
 refine eV (eCall2 rfl rfl rfl (vw_reduce g hg w Aa n ca rs hn h9 hc Bp np cp ps hnp qs hq hps X nx cx l hnx hlw hin) ⟨rfl, rfl, trivial⟩ ?_)
 rintro _ _ _ ⟨B, cb, o, D, cd, tk, rfl, rfl, rfl, hol, hoi, hoe, htk⟩
 iterate 5 refine pV ?_
 refine tS ?_
 refine tR fun _ _ _ => ?_
 refine pV ?_
 refine eV (eCallV rfl rfl rfl (spc_zero _ _ _ _ (by first | rfl | omega | simp) (by omega)) ⟨rfl, trivial⟩ ?_)
 refine pV ?_
 exact tr_ret ⟨trivial, _, _, rfl, ⟨by rw [memB_dec hq hoi hoe], rfl⟩, CSub.nil _, trivial⟩
theorem spc_Has_ent : Enters Tryz.prog 69 := enters_of Tryz.func69 (by kernel_rfl) (by kernel_rfl)
theorem spc_Has (p m : Int) (A : Option Addr) (c : Nat) (mod : List Int) [hF : IsF p m mod] (w : Int) (Aa : Option Addr) (n ca : Nat) (rs : List RowM) (hn : n = rs.length) (h9 : rs.length ≤ 256) (hc : CodeOk p m mod w rs) (X : Option Addr) (nx cx : Nat) (l : List Int) (hnx : nx = l.length) (hlw : (l.length : Int) = w) (hin : AllIn (pw p m) l) :
  Pure Tryz.prog 69 #[.agg #[.int .i64 p, .int .i64 m, .slice A mod.length c], .agg #[.int .i64 w, .slice Aa n ca], .slice X nx cx] [ro A (ints mod), ro Aa (hdrs rs), rowsR rs, ro X (ints l)] (isV (.tuple #[.bool (memB p m mod rs l), .int .i64 0])) := by
 have hl9 := hF.short
 have hn1 := hc.n1
 have hn64 := hc.n64
 have hlen := hc.len
 have hgd := hc.good
 have h8 := hgd.h8 (N := 17592186044415) (by omega)
 have hck := hc.zero
 refine pure_of (args := [.agg #[.int .i64 p, .int .i64 m, .slice A mod.length c], .agg #[.int .i64 w, .slice Aa n ca], .slice X nx cx]) 29 Tryz.func69 rfl rfl rfl spc_Has_ent ⟨id, id, id, id, trivial⟩ (fun w0 => ?_)
 refine tS ?_
 refine tR fun _ _ _ => ?_
 refine eV (eBox rfl rfl rfl rfl rfl (fun p0 => ?_))
 refine eV (eBox rfl rfl rfl rfl rfl (fun p0a => ?_))
 iterate 2 refine pV ?_
 refine tS ?_
 refine tR fun _ _ _ => ?_
 refine sV (rLdS rfl rfl rfl) ?_
 refine sV (rLdS rfl rfl rfl) ?_
 refine eV (eCall2 rfl rfl rfl (spc_openG _ _ _ _ _ (by omega) w Aa _ ca rs hn (by omega) h8 hc.row hc.form) ⟨rfl, rfl, trivial⟩ ?_)
 rintro _ _ _ ⟨g, Bp, cp, ps, rfl, rfl, rfl, hg, qs, hps, hq⟩
 iterate 3 refine pV ?_
 refine eV (eAlloc rfl rfl rfl (fun p1a => ?_))
 refine eV (eStS rfl rfl rfl rfl rfl rfl ?_)
 refine pV ?_
 refine tS ?_
 refine tS ?_
 refine tR fun _ _ _ => ?_
 iterate 2 refine pV ?_
 refine tC rfl (fun h2 => ?_) (fun h2 => ?_)
 ·try simp only [zbA] at h2
  refine tR fun _ _ _ => ?_
  refine sV (rLdS rfl rfl rfl) ?_
  refine pV ?_
  refine eV (eCallV rfl rfl rfl (vw_word g hg w Aa n ca rs hn h9 hc Bp _ cp X nx cx l hnx hlw hin) ⟨rfl, rfl, trivial⟩ ?_)
  refine pV ?_
  refine tS ?_
  refine tR fun _ _ _ => ?_
  iterate 3 refine pV ?_
  refine stT rfl rfl rfl (by simp) rfl rfl (rLdS rfl rfl rfl) ?_
  refine stT rfl rfl rfl (by simp) rfl rfl (rMove rfl rfl) ?_
  refine efT rfl rfl rfl (by simp) (eCallV rfl rfl rfl (vw_has g hg w Aa n ca rs hn h9 hc Bp _ cp ps rfl qs hq hps X nx cx l hnx hlw hin) ⟨rfl, rfl, trivial⟩ ?_)
  refine sV (rPick1 rfl rfl (by simp) rfl) ?_
  iterate 3 refine pV ?_
  exact tr_ret ⟨trivial, _, _, rfl, ⟨rfl, rfl⟩, CSub.nil _, trivial⟩
 ·try simp only [zbA] at h2
  first | exact absurd trivial h2 | exact absurd rfl h2 | omega | (exact absurd h2 (by simp)) --done
theorem code_Has_ent : Enters Tryz.prog 39 := enters_of Tryz.func39 (by kernel_rfl) (by kernel_rfl)
theorem code_Has (p m : Int) (A : Option Addr) (c : Nat) (mod : List Int) [hF : IsF p m mod] (w : Int) (Aa : Option Addr) (n ca : Nat) (rs : List RowM) (hn : n = rs.length) (h9 : rs.length ≤ 256) (hc : CodeOk p m mod w rs) (X : Option Addr) (nx cx : Nat) (l : List Int) (hnx : nx = l.length) (hlw : (l.length : Int) = w) (hin : AllIn (pw p m) l) :
  Pure Tryz.prog 39 #[.agg #[.int .i64 p, .int .i64 m, .slice A mod.length c, .int .i64 w, .slice Aa n ca], .slice X nx cx] [ro A (ints mod), ro Aa (hdrs rs), rowsR rs, ro X (ints l)] (isV (.tuple #[.bool (memB p m mod rs l), .int .i64 0])) := by
 have hl9 := hF.short
 have hn1 := hc.n1
 have hn64 := hc.n64
 have hlen := hc.len
 have hgd := hc.good
 have h8 := hgd.h8 (N := 17592186044415) (by omega)
 have hck := hc.zero
 refine pure_of (args := [.agg #[.int .i64 p, .int .i64 m, .slice A mod.length c, .int .i64 w, .slice Aa n ca], .slice X nx cx]) 21 Tryz.func39 rfl rfl rfl code_Has_ent ⟨id, id, id, id, trivial⟩ (fun w0 => ?_)
 refine tS ?_
 refine tR fun _ _ _ => ?_
 refine eV (eBox rfl rfl rfl rfl rfl (fun p0 => ?_))
 iterate 2 refine pV ?_
 refine tS ?_
 refine tS ?_
 refine tR fun _ _ _ => ?_
 refine sV (rLdS rfl rfl rfl) ?_
 refine pV ?_
 refine eV (eCallV rfl rfl rfl (code_word _ _ _ _ _ w Aa n ca rs hn h9 hc X nx cx l hnx hlw hin) ⟨rfl, rfl, trivial⟩ ?_)
 refine pV ?_
 refine tS ?_
 refine tR fun _ _ _ => ?_
 iterate 2 refine pV ?_
 refine tC rfl (fun h2 => ?_) (fun h2 => ?_)
 ·try simp only [zbA] at h2
  first | exact absurd trivial h2 | exact absurd rfl h2 | omega | (exact absurd h2 (by simp)) --done
 ·try simp only [zbA] at h2
  refine tK ?_
  refine tS ?_
  refine tr_draw [0, 1, 2, 4, 3, 5, 6, 7, 8, 9] [] mixed (by kernel_rfl) fun _ _ _ => ?_
  refine sV (rFld rfl rfl) ?_
  refine sV (rLdSF rfl rfl) ?_
  refine sV (rLdS rfl rfl rfl) ?_
  refine pV ?_
  refine eV (eCallV rfl rfl rfl (code_gen _ _ _ _ _ _ _ _ _) ⟨rfl, trivial⟩ ?_)
  refine eV (eCallV rfl rfl rfl (spc_Has _ _ _ _ _ w Aa n ca rs hn h9 hc X nx cx l hnx hlw hin) ⟨rfl, rfl, rfl, trivial⟩ ?_)
  iterate 4 refine pV ?_
  exact tr_ret ⟨trivial, _, _, rfl, ⟨rfl, rfl⟩, CSub.nil _, trivial⟩
end Go.Proofs.YtdkahdehodopoaaGreat

set_option maxRecDepth 100000
namespace Go.Proofs.YtdkahdehodopoaaGreat
open Go.RowKit
section
end
section
variable {p m : Int} {mod : List Int} [hF : IsF p m mod]
theorem C_neg_one (f : Po (El p m mod)) : Po.C (el (-(el 1 : El p m mod)).1 : El p m mod) * f = -f := Po.ext fun j => by rw [Po.cf_C_mul, el_of, el_one, Po.cf_neg]; grind
end
end Go.Proofs.YtdkahdehodopoaaGreat

set_option maxRecDepth 100000
namespace Go.Proofs.YtdkahdehodopoaaGreat
open Go.RowKit
theorem ref_MFew_ent : Enters Tryz.prog 30 := enters_of Tryz.func30 (by kernel_rfl) (by kernel_rfl)
theorem ref_MFew (Aa : Option Addr) (n ca : Nat) (rs : List RowM) (hn : n = rs.length) (h9 : rs.length ≤ 17592186044415) (h8 : ∀ r ∈ rs, r.xs.length ≤ 17592186044415) :
  Pure Tryz.prog 30 #[.agg #[.int .i64 0, .slice Aa n ca], .int .i64 4200] [ro Aa (hdrs rs), rowsR rs] (val (fun v => ∃ b : Bool, v = .bool b ∧ (b = true → ∀ r ∈ rs, r.xs.length ≤ 4200))) := by
 refine pure_of (args := [.agg #[.int .i64 0, .slice Aa n ca], .int .i64 4200]) 45 Tryz.func30 rfl rfl rfl ref_MFew_ent ⟨id, id, trivial⟩ (fun w0 => ?_)
 refine tS ?_
 refine tR fun _ _ _ => ?_
 refine eV (eBox rfl rfl rfl rfl rfl (fun p0 => ?_))
 refine pV ?_
 refine tS ?_
 refine tS ?_
 refine tR fun _ _ _ => ?_
 refine sV (rFld rfl rfl) ?_
 refine sV (rLdF rfl rfl rfl) ?_
 iterate 2 refine pV ?_
 refine stg rfl rfl rfl rfl rfl (fun hb => by (have hq := hb; try simp only [zbA] at hq); exact rFld rfl rfl) ?_
 refine stg rfl rfl rfl rfl rfl (fun hb => by (have hq := hb; try simp only [zbA] at hq); exact rLdF rfl (evg rfl hb) rfl) ?_
 refine stg rfl rfl rfl rfl rfl (fun hb => by (have hq := hb; try simp only [zbA] at hq); exact rLen rfl (evg rfl hb)) ?_
 refine stg rfl rfl rfl rfl rfl (fun hb => by (have hq := hb; try simp only [zbA] at hq); exact rMove rfl rfl) ?_
 refine stg rfl rfl rfl rfl rfl (fun hb => by (have hq := hb; try simp only [zbA] at hq); exact rGtr rfl (evg rfl hb) (evg rfl hb)) ?_
 refine sV (rOrB rfl rfl rfl rfl) ?_
 refine tC rfl (fun h1 => ?_) (fun h1 => ?_)
 ·try simp only [zbA] at h1
  skip
  refine tS ?_
  refine tR fun _ _ _ => ?_
  refine pV ?_
  exact tr_ret ⟨trivial, _, _, rfl, ⟨rfl, false, rfl, fun h => by cases h⟩, CSub.nil _, trivial⟩
 ·try simp only [zbA] at h1
  refine tK ?_
  refine tS ?_
  refine tR fun _ _ _ => ?_
  refine pV ?_
  refine sV (rFld rfl rfl) ?_
  refine sV (rLdF rfl rfl rfl) ?_
  refine sV (rLen rfl rfl) ?_
  refine sV (rSub rfl rfl rfl (by omega) (by omega)) ?_
  refine pV ?_
  refine tS ?_
  refine tS ?_
  refine tR fun _ _ _ => ?_
  refine pV ?_
  refine tB ?_
  refine tr_loop2 (fun (k : Int) (lf : Int) => [(5, .int .i64 lf), (6, .int .i64 k), (2, .pointer (some p0))]) (fun (k : Int) (lf : Int) => [blk p0 43 [.int .i64 0, .slice Aa n ca], ro Aa (hdrs rs), rowsR rs]) (fun (k : Int) (lf : Int) => (0 ≤ k ∧ k ≤ n) ∧ (0 ≤ lf ∧ lf ≤ 4200) ∧ ∀ j : Nat, (j : Int) < k → (rs.getD j rowD).xs.length ≤ 4200) (fun (k : Int) (lf : Int) => (n - k).toNat) (0) (4200 - n) ⟨rfl, rfl, rfl, trivial⟩ (by first | exact cs _ _ | exact CSub.refl _) (⟨⟨by omega, by omega⟩, ⟨by omega, by omega⟩, fun j hj => by omega⟩) (fun k lf hI => ?_)
  obtain ⟨⟨hk0, hk1⟩, ⟨hf0, hf1⟩, hall⟩ := hI
  refine tS ?_
  refine tS ?_
  refine tR fun _ _ _ => ?_
  refine pV ?_
  refine sV (rFld rfl rfl) ?_
  refine sV (rLdF rfl rfl rfl) ?_
  refine sV (rLen rfl rfl) ?_
  refine pV ?_
  refine tC rfl (fun h5 => ?_) (fun h5 => ?_)
  ·try simp only [zbA] at h5
   refine tK ?_
   refine tS ?_
   refine tB ?_
   refine tS ?_
   refine tS ?_
   haveI : InB k.toNat rs.length := ⟨by omega⟩
   have hk8 := h8 _ (getD_mem (show k.toNat < rs.length by omega) rowD)
   refine tR fun _ _ _ => ?_
   refine sV (rFld rfl rfl) ?_
   refine sV (rLdF rfl rfl rfl) ?_
   refine pV ?_
   refine sV (rIdxR rfl rfl rfl (by omega) (by omega) (by omega)) ?_
   refine sV (rLdR rfl rfl (by omega)) ?_
   refine sV (rLen rfl rfl) ?_
   iterate 2 refine pV ?_
   refine tC rfl (fun h7 => ?_) (fun h7 => ?_)
   ·try simp only [zbA] at h7
    refine tS ?_
    refine tR fun _ _ _ => ?_
    refine pV ?_
    exact tr_ret ⟨trivial, _, _, rfl, ⟨rfl, false, rfl, fun h => by cases h⟩, CSub.nil _, trivial⟩
   ·try simp only [zbA] at h7
    refine tK ?_
    refine tR fun _ _ _ => ?_
    refine pV ?_
    refine sV (rFld rfl rfl) ?_
    refine sV (rLdF rfl rfl rfl) ?_
    refine pV ?_
    refine sV (rIdxR rfl rfl rfl (by omega) (by omega) (by omega)) ?_
    refine sV (rLdR rfl rfl (by omega)) ?_
    refine sV (rLen rfl rfl) ?_
    refine sV (rSub rfl rfl rfl (by omega) (by omega)) ?_
    refine pV ?_
    refine tR fun _ _ _ => ?_
    refine pV ?_
    refine sV (rAdd rfl rfl rfl (by omega) (by omega)) ?_
    refine pV ?_
    refine ⟨k + 1, lf - (rs.getD k.toNat rowD).xs.length, ⟨rfl, rfl, rfl, trivial⟩, by first | exact cs _ _ | exact CSub.refl _, ?_⟩
    refine ⟨⟨⟨by omega, by omega⟩, ⟨by omega, by omega⟩, fun j hj => ?_⟩, by omega⟩
    by_cases he : (j : Int) = k
    ·have : j = k.toNat := by omega
     subst this; omega
    ·exact hall j (by omega)
  ·try simp only [zbA] at h5
   refine tE ?_
   refine tS ?_
   refine tR fun _ _ _ => ?_
   refine pV ?_
   exact tr_ret ⟨trivial, _, _, rfl, ⟨rfl, true, rfl, fun _ => xss_all.1 (xss_get (φ := fun r => r.length ≤ 4200) fun j hj => hall j (by omega))⟩, CSub.nil _, trivial⟩
theorem ref_CFew_ent : Enters Tryz.prog 11 := enters_of Tryz.func11 (by kernel_rfl) (by kernel_rfl)
theorem ref_CFew (p m : Int) (A : Option Addr) (c : Nat) (mod : List Int) (hl9 : mod.length ≤ 17592186044415) (w : Int) (Aa : Option Addr) (n ca : Nat) (rs : List RowM) (hn : n = rs.length) (h9 : rs.length ≤ 17592186044415) (h8 : ∀ r ∈ rs, r.xs.length ≤ 17592186044415) :
  Pure Tryz.prog 11 #[.agg #[.int .i64 p, .int .i64 m, .slice A mod.length c, .int .i64 w, .slice Aa n ca], .int .i64 4200] [ro Aa (hdrs rs), rowsR rs] (val (fun v => ∃ b : Bool, v = .bool b ∧ (b = true → ∀ r ∈ rs, r.xs.length ≤ 4200))) := by
 refine pure_of (args := [.agg #[.int .i64 p, .int .i64 m, .slice A mod.length c, .int .i64 w, .slice Aa n ca], .int .i64 4200]) 10 Tryz.func11 rfl rfl rfl ref_CFew_ent ⟨id, id, trivial⟩ (fun w0 => ?_)
 refine tS ?_
 refine tR fun _ _ _ => ?_
 refine eV (eBox rfl rfl rfl rfl rfl (fun p0 => ?_))
 refine pV ?_
 refine tS ?_
 refine tR fun _ _ _ => ?_
 refine sV (rFld rfl rfl) ?_
 refine sV (rLdF rfl rfl rfl) ?_
 refine sV (rBuild rfl rfl) ?_
 refine pV ?_
 refine eV (eCall0 rfl rfl rfl (ref_MFew Aa n ca rs hn h9 h8) ⟨rfl, rfl, trivial⟩ ?_)
 rintro _ ⟨b, rfl, hb⟩
 refine pV ?_
 exact tr_ret ⟨trivial, _, _, rfl, ⟨rfl, b, rfl, hb⟩, CSub.nil _, trivial⟩
theorem law16_few_ent : Enters Tryz.prog 4 := enters_of Tryz.func4 (by kernel_rfl) (by kernel_rfl)
theorem law16_few (p m : Int) (A : Option Addr) (c : Nat) (mod : List Int) (hl9 : mod.length ≤ 17592186044415) (w : Int) (Aa : Option Addr) (n ca : Nat) (rs : List RowM) (hn : n = rs.length) (h9 : rs.length ≤ 17592186044415) (h8 : ∀ r ∈ rs, r.xs.length ≤ 17592186044415) (hl : rs.length ≤ 64) :
  Pure Tryz.prog 4 #[.agg #[.int .i64 p, .int .i64 m, .slice A mod.length c, .int .i64 w, .slice Aa n ca]] [ro Aa (hdrs rs), rowsR rs] (val (fun v => ∃ b : Bool, v = .bool b ∧ (b = true → rs.length ≤ 64 ∧ ∀ r ∈ rs, r.xs.length ≤ 4200))) := by
 refine pure_of (args := [.agg #[.int .i64 p, .int .i64 m, .slice A mod.length c, .int .i64 w, .slice Aa n ca]]) 11 Tryz.func4 rfl rfl rfl law16_few_ent ⟨id, id, trivial⟩ (fun w0 => ?_)
 refine tS ?_
 refine tR fun _ _ _ => ?_
 refine eV (eBox rfl rfl rfl rfl rfl (fun p0 => ?_))
 refine pV ?_
 refine tS ?_
 refine tR fun _ _ _ => ?_
 refine sV (rFld rfl rfl) ?_
 refine sV (rLdF rfl rfl rfl) ?_
 refine sV (rLen rfl rfl) ?_
 iterate 2 refine pV ?_
 refine stT rfl rfl rfl (by simp; omega) rfl rfl (rLdS rfl rfl rfl) ?_
 refine efT rfl rfl rfl (by simp; omega) (eCall0 rfl rfl rfl (ref_CFew p m A c mod hl9 w Aa n ca rs hn h9 h8) ⟨rfl, rfl, trivial⟩ ?_)
 rintro _ ⟨b, rfl, hb⟩
 refine sV (rPick1 rfl rfl (by simp; omega) rfl) ?_
 refine pV ?_
 exact tr_ret ⟨trivial, _, _, rfl, ⟨rfl, b, by simp, fun h => ⟨hl, hb h⟩⟩, CSub.nil _, trivial⟩
theorem law16_few0_ent : Enters Tryz.prog 4 := enters_of Tryz.func4 (by kernel_rfl) (by kernel_rfl)
theorem law16_few0 (p m : Int) (A : Option Addr) (c : Nat) (mod : List Int) (hl9 : mod.length ≤ 17592186044415) (w : Int) (Aa : Option Addr) (n ca : Nat) (rs : List RowM) (hn : n = rs.length) (h9 : rs.length ≤ 17592186044415) (h8 : ∀ r ∈ rs, r.xs.length ≤ 17592186044415) (hl : ¬ rs.length ≤ 64) :
  Pure Tryz.prog 4 #[.agg #[.int .i64 p, .int .i64 m, .slice A mod.length c, .int .i64 w, .slice Aa n ca]] [ro Aa (hdrs rs), rowsR rs] (val (fun v => ∃ b : Bool, v = .bool b ∧ (b = true → rs.length ≤ 64 ∧ ∀ r ∈ rs, r.xs.length ≤ 4200))) := by
 refine pure_of (args := [.agg #[.int .i64 p, .int .i64 m, .slice A mod.length c, .int .i64 w, .slice Aa n ca]]) 11 Tryz.func4 rfl rfl rfl law16_few0_ent ⟨id, id, trivial⟩ (fun w0 => ?_)
 refine tS ?_
 refine tR fun _ _ _ => ?_
 refine eV (eBox rfl rfl rfl rfl rfl (fun p0 => ?_))
 refine pV ?_
 refine tS ?_
 refine tR fun _ _ _ => ?_
 refine sV (rFld rfl rfl) ?_
 refine sV (rLdF rfl rfl rfl) ?_
 refine sV (rLen rfl rfl) ?_
 iterate 2 refine pV ?_
 refine skF rfl rfl (by simp; omega) rfl rfl ?_
 refine skF rfl rfl (by simp; omega) rfl rfl ?_
 refine sV (rPick0 rfl rfl (by simp; omega) rfl) ?_
 refine pV ?_
 exact tr_ret ⟨trivial, _, _, rfl, ⟨rfl, false, by simp, fun h => by cases h⟩, CSub.nil _, trivial⟩
theorem law16_fewC (p m : Int) (A : Option Addr) (c : Nat) (mod : List Int) (hl9 : mod.length ≤ 17592186044415) (w : Int) (Aa : Option Addr) (n ca : Nat) (rs : List RowM) (hn : n = rs.length) (h9 : rs.length ≤ 17592186044415) (h8 : ∀ r ∈ rs, r.xs.length ≤ 17592186044415) : Pure Tryz.prog 4 #[.agg #[.int .i64 p, .int .i64 m, .slice A mod.length c, .int .i64 w, .slice Aa n ca]] [ro Aa (hdrs rs), rowsR rs] (val (fun v => ∃ b : Bool, v = .bool b ∧ (b = true → rs.length ≤ 64 ∧ ∀ r ∈ rs, r.xs.length ≤ 4200))) := by
 by_cases hl : rs.length ≤ 64
 ·exact law16_few p m A c mod hl9 w Aa n ca rs hn h9 h8 hl
 ·exact law16_few0 p m A c mod hl9 w Aa n ca rs hn h9 h8 hl
theorem cyc_shift_ent : Enters Tryz.prog 40 := enters_of Tryz.func40 (by kernel_rfl) (by kernel_rfl)
theorem cyc_shift (m : Int) (hm : 1 ≤ m) (hm9 : m ≤ 100000) (X : Option Addr) (nx cx : Nat) (l : List Int) (hnx : nx = l.length) (hl9 : l.length ≤ 100000) (hd : m.toNat ∣ l.length) :
  Pure Tryz.prog 40 #[.slice X nx cx, .int .i64 m] [ro X (ints l)] (one (fun v ch => ∃ B, v = .slice B l.length l.length ∧ ch = ow B 3 l.length (ints (shF m.toNat l)))) := by
 refine pure_of (args := [.slice X nx cx, .int .i64 m]) 37 Tryz.func40 rfl rfl rfl cyc_shift_ent ⟨id, trivial⟩ (fun w0 => ?_)
 refine tS ?_
 refine tR fun _ _ _ => ?_
 refine pV ?_
 refine tS ?_
 subst hnx
 refine tR fun _ _ _ => ?_
 refine pV ?_
 refine sV (rLen rfl rfl) ?_
 refine eV (eMakeI rfl rfl rfl rfl rfl (by omega) (by omega) (by omega) (fun A1 => ?_))
 refine pV ?_
 simp only [Int.toNat_natCast]
 refine tS ?_
 refine tS ?_
 refine tR fun _ _ _ => ?_
 refine pV ?_
 refine sV (rLen rfl rfl) ?_
 refine pV ?_
 refine tB ?_
 refine tr_loop2 (fun (k : Int) (o : List Int) => [(5, .slice A1 l.length l.length), (12, .int .i64 l.length), (13, .int .i64 k), (0, .slice X l.length cx), (1, .int .i64 m), (4, .slice none 0 0)]) (fun (k : Int) (o : List Int) => [ow A1 3 l.length (ints o), ro X (ints l)]) (fun (k : Int) (o : List Int) => (0 ≤ k ∧ k ≤ l.length) ∧ o.length = l.length ∧ ∀ i : Nat, (i : Int) < k → o.getD (nxI m.toNat i) 0 = l.getD i 0) (fun (k : Int) (o : List Int) => (l.length - k).toNat) (0) (List.replicate l.length 0) ⟨rfl, rfl, rfl, rfl, rfl, rfl, trivial⟩ (by first | exact cs _ _ | exact CSub.refl _) (⟨⟨by omega, by omega⟩, by simp, fun j hj => by omega⟩) (fun k o hI => ?_)
 obtain ⟨⟨hk0, hk1⟩, hol, ho⟩ := hI
 refine tS ?_
 refine tR fun _ _ _ => ?_
 refine pV ?_
 refine tS ?_
 refine tC rfl (fun h3 => ?_) (fun h3 => ?_)
 ·try simp only [zbA] at h3
  refine tK ?_
  refine tS ?_
  refine tB ?_
  refine tS ?_
  refine tR fun _ _ _ => ?_
  iterate 2 refine pV ?_
  refine tS ?_
  have hb0 : 0 ≤ k / m * m := Int.mul_nonneg (Int.ediv_nonneg hk0 (by omega)) (by omega)
  have hb1 : k / m * m ≤ k := Int.ediv_mul_le k (by omega)
  have hb2 := Int.emod_nonneg (k - k / m * m + 1) (show m ≠ 0 by omega)
  have hb3 := Int.emod_lt_of_pos (k - k / m * m + 1) (show 0 < m by omega)
  have hnx := nx_int hm hk0
  have hnl := nx_lt (m := m.toNat) (n := l.length) (i := k.toNat) (by omega) hd (by omega)
  refine tR fun _ _ _ => ?_
  iterate 2 refine pV ?_
  refine sV (rQuo rfl rfl rfl (by omega) (by omega)) ?_
  refine pV ?_
  refine sV (rMul rfl rfl rfl (by omega) (by omega)) ?_
  refine pV ?_
  refine tr_draw [0, 1, 2, 3, 4, 5, 6, 7, 8, 9, 10, 11, 12, 13] [14] mixed (by kernel_rfl) fun _ _ _ => ?_
  iterate 4 refine pV ?_
  refine sV (rSub rfl rfl rfl (by omega) (by omega)) ?_
  refine sV (rAdd rfl rfl rfl (by omega) (by omega)) ?_
  refine pV ?_
  refine sV (rRem rfl rfl rfl (by omega) (by omega)) ?_
  refine sV (rAdd rfl rfl rfl (by omega) (by omega)) ?_
  iterate 2 refine pV ?_
  refine sV (rIdxI rfl rfl rfl (by omega) (by omega) (by omega)) ?_
  refine sV (rLdI rfl rfl (by omega)) ?_
  refine sV (rIdxI rfl rfl rfl (by omega) (by omega) (by omega)) ?_
  refine eV (eStI rfl rfl rfl rfl (by omega) ?_)
  rw [hnx, Int.toNat_natCast]
  refine tR fun _ _ _ => ?_
  refine sV (rAdd rfl rfl rfl (by omega) (by omega)) ?_
  refine pV ?_
  refine ⟨k + 1, o.set (nxI m.toNat k.toNat) (l.getD k.toNat 0), ⟨rfl, rfl, rfl, rfl, rfl, rfl, trivial⟩, by first | exact cs _ _ | exact CSub.refl _, ?_⟩
  refine ⟨⟨⟨by omega, by omega⟩, by simpa using hol, fun i hi => ?_⟩, by omega⟩
  exact shF_step (m := m.toNat) (by omega) (hd) hol (by omega) (fun i hi => ho i (by omega)) (by omega)
 ·try simp only [zbA] at h3
  refine tE ?_
  refine tS ?_
  refine tR fun _ _ _ => ?_
  iterate 2 refine pV ?_
  have hfin : o = shF m.toNat l := shF_done (by omega) (hd) hol fun i hi => ho i (by omega)
  rw [← hfin]
  exact tr_ret ⟨trivial, _, _, rfl, ⟨_, rfl, A1, rfl, rfl⟩, cs _ _, trivial, trivial⟩
theorem cyc_closed_ent : Enters Tryz.prog 16 := enters_of Tryz.func16 (by kernel_rfl) (by kernel_rfl)
theorem cyc_closed (p m : Int) (A : Option Addr) (c : Nat) (mod : List Int) [hF : IsF p m mod] (w : Int) (Aa : Option Addr) (n ca : Nat) (rs : List RowM) (hn : n = rs.length) (h9 : rs.length ≤ 256) (hc : CodeOk p m mod w rs) (k : Int) (hk1 : 1 ≤ k) (hk9 : k ≤ 64) (hkd : k.toNat ∣ w.toNat) :
  Pure Tryz.prog 16 #[.agg #[.int .i64 p, .int .i64 m, .slice A mod.length c, .int .i64 w, .slice Aa n ca], .int .i64 k] [ro A (ints mod), ro Aa (hdrs rs), rowsR rs] (isV (.bool (closB p m mod k.toNat rs))) := by
 have hl9 := hF.short
 have hn1 := hc.n1
 have hn64 := hc.n64
 have hlen := hc.len
 have hgd := hc.good
 have h8 := hgd.h8 (N := 17592186044415) (by omega)
 have hck := hc.zero
 refine pure_of (args := [.agg #[.int .i64 p, .int .i64 m, .slice A mod.length c, .int .i64 w, .slice Aa n ca], .int .i64 k]) 27 Tryz.func16 rfl rfl rfl cyc_closed_ent ⟨id, id, id, trivial⟩ (fun w0 => ?_)
 refine tS ?_
 refine tR fun _ _ _ => ?_
 refine eV (eBox rfl rfl rfl rfl rfl (fun p0 => ?_))
 refine pV ?_
 refine tS ?_
 refine tS ?_
 refine tR fun _ _ _ => ?_
 refine sV (rFld rfl rfl) ?_
 refine sV (rLdF rfl rfl rfl) ?_
 refine sV (rLen rfl rfl) ?_
 refine pV ?_
 refine tB ?_
 refine tr_loop1 (fun (j : Int) => [(12, .int .i64 j), (1, .int .i64 k), (2, .pointer (some p0)), (10, .slice Aa n ca), (11, .int .i64 n)]) (fun (j : Int) => [blk p0 27 [.int .i64 p, .int .i64 m, .slice A mod.length c, .int .i64 w, .slice Aa n ca], ro A (ints mod), ro Aa (hdrs rs), rowsR rs]) (fun (j : Int) => (0 ≤ j ∧ j ≤ n) ∧ ∀ i : Nat, (i : Int) < j → memB p m mod rs (shF k.toNat (rs.getD i rowD).xs) = true) (fun (j : Int) => (n - j).toNat) (0) ⟨rfl, rfl, rfl, rfl, rfl, trivial⟩ (by first | exact cs _ _ | exact CSub.refl _) (⟨⟨by omega, by omega⟩, fun i hi => by omega⟩) (fun j hI => ?_)
 obtain ⟨⟨hj0, hj1⟩, hall⟩ := hI
 refine tS ?_
 refine tR fun _ _ _ => ?_
 refine pV ?_
 refine tS ?_
 refine tC rfl (fun h2 => ?_) (fun h2 => ?_)
 ·try simp only [zbA] at h2
  refine tK ?_
  refine tS ?_
  refine tB ?_
  refine tS ?_
  have hgj := hgd.get (show j.toNat < rs.length by omega)
  haveI : InB j.toNat rs.length := ⟨by omega⟩
  have hgj1 := hgj.1
  have hgj2 := hgj.2
  refine tR fun _ _ _ => ?_
  refine sV (rIdxR rfl rfl rfl (by omega) (by omega) (by omega)) ?_
  refine sV (rLdR rfl rfl (by omega)) ?_
  refine pV ?_
  refine tS ?_
  refine tr_draw [0, 1, 2, 3, 4, 5, 6, 7, 8, 9] [] mixed (by kernel_rfl) fun _ _ _ => ?_
  refine sV (rLdS rfl rfl rfl) ?_
  iterate 2 refine pV ?_
  refine eV (eCall1 rfl rfl rfl (cyc_shift k hk1 (by omega) _ _ _ (rs.getD j.toNat rowD).xs rfl (by omega) (by rw [hgj1]; exact hkd)) ⟨rfl, rfl, trivial⟩ ?_)
  rintro _ _ ⟨B4, rfl, rfl⟩
  refine eV (eCallV rfl rfl rfl (code_Has _ _ _ _ _ w Aa n ca rs hn h9 hc B4 _ _ (shF k.toNat (rs.getD j.toNat rowD).xs) (shF_length _ _).symm (by rw [shF_length]; omega) (shF_in (by have := hF.q2; omega) hgj2)) ⟨rfl, rfl, trivial⟩ ?_)
  iterate 5 refine pV ?_
  refine tS ?_
  refine tR fun _ _ _ => ?_
  refine pV ?_
  refine sV (rNotB rfl rfl) ?_
  refine tC rfl (fun h5 => ?_) (fun h5 => ?_)
  ·try simp only [zbA] at h5
   refine tS ?_
   refine tR fun _ _ _ => ?_
   refine pV ?_
   have hno := closB_no (p := p) (m := m) (mod := mod) (k := k.toNat) (show j.toNat < rs.length by omega) (by simpa using h5)
   exact tr_ret ⟨trivial, _, _, rfl, ⟨by rw [hno], rfl⟩, CSub.nil _, trivial⟩
  ·try simp only [zbA] at h5
   refine tK ?_
   refine tR fun _ _ _ => ?_
   refine sV (rAdd rfl rfl rfl (by omega) (by omega)) ?_
   refine pV ?_
   refine ⟨j + 1, ⟨rfl, rfl, rfl, rfl, rfl, trivial⟩, by first | exact cs _ _ | exact CSub.refl _, ?_⟩
   refine ⟨⟨⟨by omega, by omega⟩, fun i hi => ?_⟩, by omega⟩
   by_cases he : (i : Int) = j
   ·have : i = j.toNat := by omega
    subst this; simpa using h5
   ·exact hall i (by omega)
 ·try simp only [zbA] at h2
  refine tE ?_
  refine tS ?_
  refine tR fun _ _ _ => ?_
  refine pV ?_
  have hyes := closB_all (p := p) (m := m) (mod := mod) (k := k.toNat) (rs := rs) (fun i hi => hall i (by omega))
  exact tr_ret ⟨trivial, _, _, rfl, ⟨by rw [hyes], rfl⟩, CSub.nil _, trivial⟩
theorem cyc_Is_ent : Enters Tryz.prog 7 := enters_of Tryz.func7 (by kernel_rfl) (by kernel_rfl)
theorem cyc_Is (p m : Int) (A : Option Addr) (c : Nat) (mod : List Int) [hF : IsF p m mod] (w : Int) (Aa : Option Addr) (n ca : Nat) (rs : List RowM) (hn : n = rs.length) (h9 : rs.length ≤ 256) (hc : CodeOk p m mod w rs) :
  Pure Tryz.prog 7 #[.agg #[.int .i64 p, .int .i64 m, .slice A mod.length c, .int .i64 w, .slice Aa n ca]] [ro A (ints mod), ro Aa (hdrs rs), rowsR rs] (isV (.tuple #[.bool (closB p m mod w.toNat rs), .int .i64 0])) := by
 have hl9 := hF.short
 have hn1 := hc.n1
 have hn64 := hc.n64
 have hlen := hc.len
 have hgd := hc.good
 have h8 := hgd.h8 (N := 17592186044415) (by omega)
 have hck := hc.zero
 refine pure_of (args := [.agg #[.int .i64 p, .int .i64 m, .slice A mod.length c, .int .i64 w, .slice Aa n ca]]) 14 Tryz.func7 rfl rfl rfl cyc_Is_ent ⟨id, id, id, trivial⟩ (fun w0 => ?_)
 refine tS ?_
 refine tR fun _ _ _ => ?_
 refine eV (eBox rfl rfl rfl rfl rfl (fun p0 => ?_))
 iterate 2 refine pV ?_
 refine tS ?_
 refine tS ?_
 refine tR fun _ _ _ => ?_
 refine sV (rLdS rfl rfl rfl) ?_
 refine eV (eCallV rfl rfl rfl (code_Check _ _ _ _ _ (by omega) w Aa _ ca rs hn (by omega) h8) ⟨rfl, trivial⟩ ?_)
 refine pV ?_
 refine tS ?_
 refine tR fun _ _ _ => ?_
 iterate 2 refine pV ?_
 refine tC rfl (fun h2 => ?_) (fun h2 => ?_)
 ·try simp only [zbA] at h2
  omega --done
 ·try simp only [zbA] at h2
  refine tK ?_
  refine tS ?_
  refine tR fun _ _ _ => ?_
  refine sV (rLdS rfl rfl rfl) ?_
  refine sV (rFld rfl rfl) ?_
  refine sV (rLdF rfl rfl rfl) ?_
  refine eV (eCallV rfl rfl rfl (cyc_closed _ _ _ _ _ w Aa n ca rs hn h9 hc w hn1 hn64 (Nat.dvd_refl _)) ⟨rfl, rfl, trivial⟩ ?_)
  iterate 2 refine pV ?_
  exact tr_ret ⟨trivial, _, _, rfl, ⟨rfl, rfl⟩, CSub.nil _, trivial⟩
end Go.Proofs.YtdkahdehodopoaaGreat

set_option maxRecDepth 100000
namespace Go.Proofs.YtdkahdehodopoaaGreat
open Go.RowKit
end Go.Proofs.YtdkahdehodopoaaGreat

set_option maxRecDepth 100000
namespace Go.Proofs.YtdkahdehodopoaaGreat
open Go.RowKit
end Go.Proofs.YtdkahdehodopoaaGreat

set_option maxRecDepth 100000
namespace Go.Proofs.YtdkahdehodopoaaGreat
open Go.RowKit
section
variable {p m : Int} {mod : List Int} [hF : IsF p m mod]
theorem pow_rem {x : El p m mod} (hx : x ≠ 0) (k : Nat) : Rg.pow x (k % (pw p m - 1).toNat) = Rg.pow x k := by
 have h := Nat.div_add_mod k (pw p m - 1).toNat
 have e : Rg.pow x k = Rg.pow x ((pw p m - 1).toNat * (k / (pw p m - 1).toNat) + k % (pw p m - 1).toNat) := by rw [h]
 rw [e, Rg.pow_add, Rg.pow_mul, pow_last hx, Rg.one_pow, Rg.one_mul]
theorem exp_pow {g : GfM} (hg : GOk g p m mod) : ∃ y : El p m mod, y ≠ 0 ∧ ∀ i : Nat, i < g.exp.length → (el (g.exp.getD i 0) : El p m mod) = Rg.pow y i := by
 obtain ⟨x, hx⟩ := hg.gen
 have h1 := hx.x1
 have h2 := hx.x2
 refine ⟨el x, fun e => by rw [el_eq_zero ⟨by omega, h2⟩] at e; omega, fun i hi => El.ext ?_⟩
 have h3 := hx.pow.get i hi
 have h4 := pow_val hF.out (el x) i
 rw [Fd.pow_eq, el_in ⟨by omega, h2⟩] at h4
 have h5 : g.exp.getD i 0 ∈ g.exp := getD_mem hi 0
 have h6 := hx.pow.nz _ h5
 rw [el_in ⟨by omega, h6.2⟩, h3]
 exact h4.symm
end
theorem gf_Field_ent : Enters Tryz.prog 76 := enters_of Tryz.func76 (by kernel_rfl) (by kernel_rfl)
theorem gf_Field (g : GfM) (h9 : g.mod.length ≤ 1000000) :
  Pure Tryz.prog 76 #[.pointer (some g.p)] [gfR g] (one (fun v ch => ∃ B cb, v = .agg #[.int .i64 g.P, .int .i64 g.M, .slice B g.mod.length cb] ∧ ch = ow B 3 cb (ints g.mod))) := by
 refine pure_ofC (args := [.pointer (some g.p)]) 21 Tryz.func76 rfl rfl rfl gf_Field_ent ⟨id, trivial⟩ (fun w0 => ?_)
 refine tS ?_
 refine tR fun _ _ _ => ?_
 refine eV (eAlloc rfl rfl rfl (fun p0 => ?_))
 refine tS ?_
 refine tr_plan [gfR g] [(2, 0), (2, 1), (2, 2), (2, 3), (2, 4), (2, 5), (2, 6), (2, 7), (2, 8), (2, 9), (0, 11), (0, 12), (0, 13), (0, 14), (0, 15), (0, 10), (1, 16), (0, 17), (1, 18)] mixed (by kernel_rfl) fun _ _ _ => ?_
 refine stF rfl rfl rfl rfl (cs _ _) (rMove rfl rfl) ?_
 refine stF rfl rfl rfl rfl (cs _ _) (rNil rfl rfl) ?_
 refine stF rfl rfl rfl rfl (cs _ _) (rFld rfl rfl) ?_
 refine stF rfl rfl rfl rfl (cs _ _) (rFldN rfl rfl) ?_
 refine stF rfl rfl rfl rfl (cs _ _) (rLdF rfl rfl rfl) ?_
 refine stF rfl rfl rfl rfl (cs _ _) (rMove rfl rfl) ?_
 refine stF rfl rfl rfl rfl (cs _ _) (rNil rfl rfl) ?_
 refine stF rfl rfl rfl rfl (cs _ _) (rFld rfl rfl) ?_
 refine stF rfl rfl rfl rfl (cs _ _) (rFldN rfl rfl) ?_
 refine stF rfl rfl rfl rfl (cs _ _) (rLdF rfl rfl rfl) ?_
 refine pV ?_
 refine sV (rNil rfl rfl) ?_
 refine sV (rFld rfl rfl) ?_
 refine sV (rFldN rfl rfl) ?_
 refine sV (rLdF rfl rfl rfl) ?_
 refine eV (eLit0I rfl rfl rfl  (fun A1 => ?_))
 refine eV (eAppI rfl rfl rfl rfl rfl (by first | rfl | simp | omega) (by first | rfl | simp | omega) (by first | omega | (simp; omega)) (fun A1a c1a => ?_))
 refine ⟨cs _ _, ?_⟩
 refine sV (rBuild rfl rfl) ?_
 refine eV (eStS rfl rfl rfl rfl rfl rfl ?_)
 refine ⟨cs _ _, ?_⟩
 simp only [List.nil_append]
 exact tr_ret ⟨trivial, _, _, (.cell rfl (cellS rfl) .nil), ⟨_, rfl, A1a, c1a, rfl, rfl⟩, cs _ _, trivial, trivial⟩
theorem gf_PowE_ent : Enters Tryz.prog 116 := enters_of Tryz.func116 (by kernel_rfl) (by kernel_rfl)
theorem gf_PowE (g : GfM) {p m : Int} {mod : List Int} [hF : IsF p m mod] (hg : GOk g p m mod) (x k : Int) (hk : 0 ≤ k) (hk9 : k ≤ 9223372036854775807) :
  Pure Tryz.prog 116 #[.pointer (some g.p), .int .i64 x, .int .i64 k] [gfR g] (isV (.tuple #[.int .i64 (Rg.pow (el x : El p m mod) k.toNat).1, .int .i64 0])) := by
 have heq := hg.eq
 have hq2 := hF.q2
 have hq9 := hF.out.1.1.q
 have hix : (el x : El p m mod).1 = inI g.q x := by rw [hg.eq]; rfl
 have hbx := (el x : El p m mod).2
 have hel := hg.elen
 have hll := hg.llen'
 obtain ⟨y, hy0, hy⟩ := exp_pow hg
 refine pure_of (args := [.pointer (some g.p), .int .i64 x, .int .i64 k]) 54 Tryz.func116 rfl rfl rfl gf_PowE_ent ⟨id, trivial⟩ (fun w0 => ?_)
 refine tS ?_
 refine tR fun _ _ _ => ?_
 iterate 2 refine pV ?_
 refine tS ?_
 refine tR fun _ _ _ => ?_
 iterate 2 refine pV ?_
 refine eV (eCallV rfl rfl rfl (gf_in g _) ⟨rfl, rfl, trivial⟩ ?_)
 refine pV ?_
 refine tS ?_
 refine tB ?_
 refine tS ?_
 refine tR fun _ _ _ => ?_
 iterate 3 refine pV ?_
 refine tC rfl (fun h2 => ?_) (fun h2 => ?_)
 ·try simp only [zbA] at h2
  refine tS ?_
  refine tR fun _ _ _ => ?_
  iterate 2 refine pV ?_
  exact tr_ret ⟨trivial, _, _, rfl, ⟨by rw [show k.toNat = 0 by omega]; rfl, rfl⟩, CSub.nil _, trivial⟩
 ·try simp only [zbA] at h2
  refine tS ?_
  refine tR fun _ _ _ => ?_
  iterate 3 refine pV ?_
  refine stg rfl rfl rfl rfl rfl (fun hb => by (have hq := hb; try simp only [zbA] at hq); exact rMove rfl rfl) ?_
  refine stg rfl rfl rfl rfl rfl (fun hb => by (have hq := hb; try simp only [zbA] at hq); exact rLss rfl (evg rfl hb) rfl) ?_
  refine sV (rAndB rfl rfl rfl rfl) ?_
  refine pV ?_
  refine tC rfl (fun h4 => ?_) (fun h4 => ?_)
  ·try simp only [zbA] at h4
   refine tS ?_
   refine tR fun _ _ _ => ?_
   iterate 2 refine pV ?_
   omega
  ·try simp only [zbA] at h4
   refine tS ?_
   refine tR fun _ _ _ => ?_
   iterate 3 refine pV ?_
   refine tC rfl (fun h6 => ?_) (fun h6 => ?_)
   ·try simp only [zbA] at h6
    refine tS ?_
    refine tR fun _ _ _ => ?_
    iterate 2 refine pV ?_
    exact tr_ret ⟨trivial, _, _, rfl, ⟨by
     have hx0 : (el x : El p m mod) = 0 := (val_zero_iff (el x : El p m mod)).1 (by omega)
     rw [hx0, Rg.zero_pow (by omega)]; rfl, rfl⟩, CSub.nil _, trivial⟩
   ·try simp only [zbA] at h6
    refine tK ?_
    refine tS ?_
    have hx0 : (el x : El p m mod) ≠ 0 := fun e => by
     have := (val_zero_iff (el x : El p m mod)).2 e
     omega
    have hlx := hg.log_spec (y := inI g.q x) (by omega) (by omega)
    have e0 := Int.emod_nonneg k (show g.q - 1 ≠ 0 by omega)
    have e1 := Int.emod_lt_of_pos k (show 0 < g.q - 1 by omega)
    refine tR fun _ _ _ => ?_
    refine pV ?_
    refine sV (rNil rfl rfl) ?_
    refine sV (rFld rfl rfl) ?_
    refine sV (rLdF rfl rfl rfl) ?_
    refine sV (rSub rfl rfl rfl (by omega) (by omega)) ?_
    refine pV ?_
    refine tS ?_
    refine tR fun _ _ _ => ?_
    iterate 2 refine pV ?_
    refine sV (rRem rfl rfl rfl (by omega) (by omega)) ?_
    refine pV ?_
    refine sV (rAdd rfl rfl rfl (by omega) (by omega)) ?_
    refine pV ?_
    refine sV (rRem rfl rfl rfl (by omega) (by omega)) ?_
    refine pV ?_
    refine tS ?_
    have e2 : (k % (g.q - 1) + (g.q - 1)) % (g.q - 1) = k % (g.q - 1) := by rw [Int.add_emod_right, Int.emod_emod_of_dvd _ (Int.dvd_refl _)]
    rw [e2]
    have hmb := mul_bd0 (g.log.getD (inI g.q x).toNat 0) (k % (g.q - 1)) 256 256 (by omega) (by omega) (by omega) (by omega)
    have e3 := Int.emod_nonneg (g.log.getD (inI g.q x).toNat 0 * (k % (g.q - 1))) (show g.q - 1 ≠ 0 by omega)
    have e4 := Int.emod_lt_of_pos (g.log.getD (inI g.q x).toNat 0 * (k % (g.q - 1))) (show 0 < g.q - 1 by omega)
    refine tr_draw [0, 1, 2, 3, 4, 5, 6, 7, 8, 9, 10, 11, 12, 13, 14, 15, 16, 17, 18] [] mixed (by kernel_rfl) fun _ _ _ => ?_
    refine pV ?_
    refine sV (rNil rfl rfl) ?_
    refine sV (rFld rfl rfl) ?_
    refine sV (rLdF rfl rfl rfl) ?_
    refine pV ?_
    refine sV (rNil rfl rfl) ?_
    refine sV (rFld rfl rfl) ?_
    refine sV (rLdF rfl rfl rfl) ?_
    refine pV ?_
    refine sV (rIdxI rfl rfl rfl (by omega) (by omega) (by omega)) ?_
    refine sV (rLdI rfl rfl (by omega)) ?_
    refine pV ?_
    refine sV (rMul rfl rfl rfl (by omega) (by omega)) ?_
    refine pV ?_
    refine sV (rRem rfl rfl rfl (by omega) (by omega)) ?_
    refine sV (rIdxI rfl rfl rfl (by omega) (by omega) (by omega)) ?_
    refine sV (rLdI rfl rfl (by omega)) ?_
    iterate 2 refine pV ?_
    have hfin : g.exp.getD (g.log.getD (inI g.q x).toNat 0 * (k % (g.q - 1)) % (g.q - 1)).toNat 0 = (Rg.pow (el x : El p m mod) k.toNat).1 := by
     have h1 := hy (g.log.getD (inI g.q x).toNat 0 * (k % (g.q - 1)) % (g.q - 1)).toNat (by omega)
     have h2 := hy (g.log.getD (inI g.q x).toNat 0).toNat (by omega)
     rw [hlx.2.2] at h2
     have h3 : (el x : El p m mod) = Rg.pow y (g.log.getD (inI g.q x).toNat 0).toNat := by rw [← h2, ← hix, el_of]
     have hqe : (pw p m - 1).toNat = (g.q - 1).toNat := by rw [heq]
     have h4 : (g.log.getD (inI g.q x).toNat 0 * (k % (g.q - 1)) % (g.q - 1)).toNat = ((g.log.getD (inI g.q x).toNat 0).toNat * (k.toNat % (pw p m - 1).toNat)) % (pw p m - 1).toNat := by
      rw [hqe]
      obtain ⟨a, ha⟩ := Int.eq_ofNat_of_zero_le (show 0 ≤ g.log.getD (inI g.q x).toNat 0 by omega)
      obtain ⟨b, hb⟩ := Int.eq_ofNat_of_zero_le hk
      obtain ⟨c, hc⟩ := Int.eq_ofNat_of_zero_le (show 0 ≤ g.q - 1 by omega)
      rw [ha, hb, hc, ← Int.natCast_emod, ← Int.natCast_mul, ← Int.natCast_emod]
      simp only [Int.toNat_natCast]
     rw [h4, pow_rem hy0, Rg.pow_mul, ← h3, pow_rem hx0] at h1
     have h5 : g.exp.getD ((g.log.getD (inI g.q x).toNat 0).toNat * (k.toNat % (pw p m - 1).toNat) % (pw p m - 1).toNat) 0 ∈ g.exp := getD_mem (by rw [← h4]; omega) 0
     obtain ⟨z, hz⟩ := hg.gen
     have h6 := hz.pow.nz _ h5
     rw [← h1, el_in ⟨by omega, h6.2⟩, h4]
    exact tr_ret ⟨trivial, _, _, rfl, ⟨by rw [hfin], rfl⟩, CSub.nil _, trivial⟩
end Go.Proofs.YtdkahdehodopoaaGreat

set_option maxRecDepth 100000
namespace Go.Proofs.YtdkahdehodopoaaGreat
open Go.RowKit
section
end
end Go.Proofs.YtdkahdehodopoaaGreat

set_option maxRecDepth 100000
namespace Go.Proofs.YtdkahdehodopoaaGreat
open Go.RowKit
section
end
end Go.Proofs.YtdkahdehodopoaaGreat

set_option maxRecDepth 100000
namespace Go.Proofs.YtdkahdehodopoaaGreat
open Go.RowKit
end Go.Proofs.YtdkahdehodopoaaGreat

set_option maxRecDepth 100000
namespace Go.Proofs.YtdkahdehodopoaaGreat
open Go.RowKit
theorem poly_combine_ent : Enters Tryz.prog 120 := enters_of Tryz.func120 (by kernel_rfl) (by kernel_rfl)
theorem poly_combine (g : GfM) {p m : Int} {mod : List Int} [hF : IsF p m mod] (hg : GOk g p m mod) (A : Option Addr) (n c : Nat) (a : List Int) (hn : n = a.length) (ha9 : a.length ≤ 1000000) (x : Int) (B : Option Addr) (k d : Nat) (b : List Int) (hk : k = b.length) (hb9 : b.length ≤ 1000000) :
  Pure Tryz.prog 120 #[.pointer (some g.p), .slice A n c, .int .i64 x, .slice B k d] [gfR g, ro A (ints a), ro B (ints b)] (one (fun v ch => ∃ B cap, v = .slice B (il ((pol a : Po (El p m mod)) + Po.C (el x) * (pol b : Po (El p m mod)))).length cap ∧ ch = ow B 3 cap (ints (il ((pol a : Po (El p m mod)) + Po.C (el x) * (pol b : Po (El p m mod))))))) := by
 have hq2 := hF.q2
 refine pure_of (args := [.pointer (some g.p), .slice A n c, .int .i64 x, .slice B k d]) 57 Tryz.func120 rfl rfl rfl poly_combine_ent ⟨id, id, id, trivial⟩ (fun w0 => ?_)
 refine tS ?_
 refine tR fun _ _ _ => ?_
 refine pV ?_
 refine tS ?_
 refine tR fun _ _ _ => ?_
 refine pV ?_
 refine sV (rLen rfl rfl) ?_
 refine pV ?_
 refine sV (rLen rfl rfl) ?_
 refine sV (rMax rfl rfl rfl) ?_
 refine eV (eMakeI rfl rfl rfl rfl rfl (by omega) (by omega) (by omega) (fun A1 => ?_))
 refine pV ?_
 have hmx : (max (n : Int) (k : Int)).toNat = max n k := by omega
 simp only [hmx]
 refine tS ?_
 refine tS ?_
 refine tR fun _ _ _ => ?_
 refine pV ?_
 refine sV (rLen rfl rfl) ?_
 refine pV ?_
 refine tB ?_
 refine tr_loop2 (fun (i : Int) (o : List Int) => [(9, .slice A1 (max n k) (max n k)), (20, .slice A n c), (21, .int .i64 n), (22, .int .i64 i), (3, .slice B k d), (0, .pointer (some g.p)), (2, .int .i64 x), (8, .slice none 0 0)]) (fun (i : Int) (o : List Int) => [ow A1 3 (max n k) (ints o), gfR g, ro A (ints a), ro B (ints b)]) (fun (i : Int) (o : List Int) => (0 ≤ i ∧ i ≤ n) ∧ (o.length = max n k ∧ AllIn (pw p m) o) ∧ ∀ j : Nat, o.getD j 0 = if (j : Int) < i then (el (a.getD j 0) : El p m mod).1 else 0) (fun (i : Int) (o : List Int) => (n - i).toNat) (0) (List.replicate (max n k) 0) ⟨rfl, rfl, rfl, rfl, rfl, rfl, rfl, rfl, trivial⟩ (by first | exact cs _ _ | exact CSub.refl _) (⟨⟨by omega, by omega⟩, ⟨by simp, allIn_rep (by omega) _⟩, fun j => by rw [rep_get, if_neg (by omega)]⟩) (fun i o hI => ?_)
 obtain ⟨⟨hi0, hi1⟩, ⟨hol, hoi⟩, ho⟩ := hI
 refine tS ?_
 refine tR fun _ _ _ => ?_
 refine pV ?_
 refine tS ?_
 refine tC rfl (fun h3 => ?_) (fun h3 => ?_)
 ·try simp only [zbA] at h3
  refine tK ?_
  refine tS ?_
  refine tB ?_
  refine tS ?_
  refine tR fun _ _ _ => ?_
  refine pV ?_
  refine sV (rIdxI rfl rfl rfl (by omega) (by omega) (by omega)) ?_
  refine sV (rLdI rfl rfl (by omega)) ?_
  iterate 2 refine pV ?_
  refine tR fun _ _ _ => ?_
  iterate 4 refine pV ?_
  refine eV (eCallV rfl rfl rfl (gf_AddE g hg _ _) ⟨rfl, rfl, rfl, trivial⟩ ?_)
  refine sV (rIdxI rfl rfl rfl (by omega) (by omega) (by omega)) ?_
  refine eV (eStI rfl rfl rfl rfl (by omega) ?_)
  refine tR fun _ _ _ => ?_
  refine sV (rAdd rfl rfl rfl (by omega) (by omega)) ?_
  refine pV ?_
  refine ⟨i + 1, o.set i.toNat (el (a.getD i.toNat 0) + el 0 : El p m mod).1, ⟨rfl, rfl, rfl, rfl, rfl, rfl, rfl, rfl, trivial⟩, by first | exact cs _ _ | exact CSub.refl _, ?_⟩
  refine ⟨⟨⟨by omega, by omega⟩, ⟨by simpa using hol, hoi.set (El.bd _) _⟩, fun j => ?_⟩, by omega⟩
  rw [getD_set, ho j]
  by_cases he : i.toNat = j
  ·subst he; rw [if_pos ⟨rfl, by omega⟩, if_pos (by omega), el_zero, Rg.add_zero]
  ·rw [if_neg (fun e => he e.1)]
   by_cases h : (j : Int) < i
   ·rw [if_pos h, if_pos (by omega)]
   ·rw [if_neg h, if_neg (by omega)]
 ·try simp only [zbA] at h3
  refine tE ?_
  refine tS ?_
  refine tS ?_
  refine tR fun _ _ _ => ?_
  refine pV ?_
  refine sV (rLen rfl rfl) ?_
  refine pV ?_
  refine tB ?_
  refine tr_loop2 (fun (i : Int) (o : List Int) => [(9, .slice A1 (max n k) (max n k)), (34, .slice B k d), (35, .int .i64 k), (36, .int .i64 i), (0, .pointer (some g.p)), (2, .int .i64 x), (8, .slice none 0 0)]) (fun (i : Int) (o : List Int) => [ow A1 3 (max n k) (ints o), gfR g, ro A (ints a), ro B (ints b)]) (fun (i : Int) (o : List Int) => (0 ≤ i ∧ i ≤ k) ∧ (o.length = max n k ∧ AllIn (pw p m) o) ∧ ∀ j : Nat, (el (o.getD j 0) : El p m mod) = el (a.getD j 0) + if (j : Int) < i then el x * el (b.getD j 0) else 0) (fun (i : Int) (o : List Int) => (k - i).toNat) (0) (o) ⟨rfl, rfl, rfl, rfl, rfl, rfl, rfl, trivial⟩ (by first | exact cs _ _ | exact CSub.refl _) (⟨⟨by omega, by omega⟩, ⟨hol, hoi⟩, fun j => by
   rw [ho j, if_neg (show ¬ ((j : Int) < 0) by omega), Rg.add_zero]
   by_cases h : (j : Int) < i
   ·rw [if_pos h, el_of]
   ·rw [if_neg h, getD_out (l := a) (by omega)]⟩) (fun i o hI => ?_)
  obtain ⟨⟨hi0, hi1⟩, ⟨hol, hoi⟩, ho⟩ := hI
  refine tS ?_
  refine tR fun _ _ _ => ?_
  refine pV ?_
  refine tS ?_
  refine tC rfl (fun h8 => ?_) (fun h8 => ?_)
  ·try simp only [zbA] at h8
   refine tK ?_
   refine tS ?_
   refine tB ?_
   refine tS ?_
   refine tR fun _ _ _ => ?_
   refine pV ?_
   refine sV (rIdxI rfl rfl rfl (by omega) (by omega) (by omega)) ?_
   refine sV (rLdI rfl rfl (by omega)) ?_
   iterate 2 refine pV ?_
   refine tr_draw [0, 1, 2, 3, 4, 5, 6, 7, 8, 9, 10, 11, 12] [13] mixed (by kernel_rfl) fun _ _ _ => ?_
   iterate 5 refine pV ?_
   refine sV (rIdxI rfl rfl rfl (by omega) (by omega) (by omega)) ?_
   refine sV (rLdI rfl rfl (by omega)) ?_
   iterate 3 refine pV ?_
   refine eV (eCallV rfl rfl rfl (gf_MulE g hg _ _) ⟨rfl, rfl, rfl, trivial⟩ ?_)
   refine eV (eCallV rfl rfl rfl (gf_AddE g hg _ _) ⟨rfl, rfl, rfl, trivial⟩ ?_)
   refine sV (rIdxI rfl rfl rfl (by omega) (by omega) (by omega)) ?_
   refine eV (eStI rfl rfl rfl rfl (by omega) ?_)
   refine tR fun _ _ _ => ?_
   refine sV (rAdd rfl rfl rfl (by omega) (by omega)) ?_
   refine pV ?_
   refine ⟨i + 1, o.set i.toNat (el (o.getD i.toNat 0) + el (el x * el (b.getD i.toNat 0) : El p m mod).1 : El p m mod).1, ⟨rfl, rfl, rfl, rfl, rfl, rfl, rfl, trivial⟩, by first | exact cs _ _ | exact CSub.refl _, ?_⟩
   refine ⟨⟨⟨by omega, by omega⟩, ⟨by simpa using hol, hoi.set (El.bd _) _⟩, fun j => ?_⟩, by omega⟩
   rw [getD_set]
   by_cases he : i.toNat = j
   ·subst he; rw [if_pos ⟨rfl, by omega⟩, if_pos (by omega), el_of, el_of, ho, if_neg (by omega), Rg.add_zero]
   ·rw [if_neg (fun e => he e.1), ho j]
    by_cases h : (j : Int) < i
    ·rw [if_pos h, if_pos (by omega)]
    ·rw [if_neg h, if_neg (by omega)]
  ·try simp only [zbA] at h8
   refine tE ?_
   refine tS ?_
   refine tR fun _ _ _ => ?_
   refine pV ?_
   refine eV (eCallV rfl rfl rfl (poly_trim _ _ _ o (by omega) (by omega) (by omega)) ⟨rfl, trivial⟩ ?_)
   refine pV ?_
   have hp : (pol o : Po (El p m mod)) = pol a + Po.C (el x) * pol b := Po.ext fun j => by
    rw [Po.cf_add, Po.cf_C_mul, cf_pol, cf_pol, cf_pol, ho j]
    by_cases h : (j : Int) < i
    ·rw [if_pos h]
    ·rw [if_neg h, getD_out (l := b) (by omega), el_zero, Rg.mul_zero]
   rw [← hp, il_trim hoi]
   exact tr_ret ⟨trivial, _, _, rfl, ⟨_, rfl, A1, max n k, rfl, rfl⟩, (cs _ [ow A1 3 (max n k) (ints o)]).trans (shrink_trim _ _), trivial, trivial⟩
theorem poly_Sub_ent : Enters Tryz.prog 79 := enters_of Tryz.func79 (by kernel_rfl) (by kernel_rfl)
theorem poly_Sub (g : GfM) {p m : Int} {mod : List Int} [hF : IsF p m mod] (hg : GOk g p m mod) (A : Option Addr) (n c : Nat) (a : List Int) (hn : n = a.length) (ha9 : a.length ≤ 1000000) (B : Option Addr) (k d : Nat) (b : List Int) (hk : k = b.length) (hb9 : b.length ≤ 1000000) :
  Pure Tryz.prog 79 #[.pointer (some g.p), .slice A n c, .slice B k d] [gfR g, ro A (ints a), ro B (ints b)] (one (fun v ch => ∃ B cap, v = .slice B (il ((pol a : Po (El p m mod)) - (pol b : Po (El p m mod)))).length cap ∧ ch = ow B 3 cap (ints (il ((pol a : Po (El p m mod)) - (pol b : Po (El p m mod))))))) := by
 refine pure_of (args := [.pointer (some g.p), .slice A n c, .slice B k d]) 13 Tryz.func79 rfl rfl rfl poly_Sub_ent ⟨id, id, id, trivial⟩ (fun w0 => ?_)
 refine tS ?_
 refine tR fun _ _ _ => ?_
 refine pV ?_
 refine tS ?_
 refine tR fun _ _ _ => ?_
 iterate 3 refine pV ?_
 refine eV (eCallV rfl rfl rfl (gf_NegE g hg _) ⟨rfl, rfl, trivial⟩ ?_)
 refine pV ?_
 refine eV (eCall1 rfl rfl rfl (poly_combine g hg A n c a hn ha9 (-(el 1 : El p m mod)).1 B k d b hk hb9) ⟨rfl, rfl, rfl, rfl, trivial⟩ ?_)
 rintro _ _ ⟨Br, cr, rfl, rfl⟩
 refine pV ?_
 have hp : (pol a : Po (El p m mod)) + Po.C (el (-(el 1 : El p m mod)).1) * pol b = pol a - pol b := by rw [C_neg_one]; rfl
 rw [hp]
 exact tr_ret ⟨trivial, _, _, rfl, ⟨_, rfl, Br, cr, rfl, rfl⟩, cs _ _, trivial, trivial⟩
theorem poly_product_ent : Enters Tryz.prog 54 := enters_of Tryz.func54 (by kernel_rfl) (by kernel_rfl)
theorem poly_product (g : GfM) {p m : Int} {mod : List Int} [hF : IsF p m mod] (hg : GOk g p m mod) (A : Option Addr) (n c : Nat) (a : List Int) (hn : n = a.length) (ha9 : a.length ≤ 1000000) (B : Option Addr) (k d : Nat) (b : List Int) (hk : k = b.length) (hb9 : b.length ≤ 1000000) :
  Pure Tryz.prog 54 #[.pointer (some g.p), .slice A n c, .slice B k d] [gfR g, ro A (ints a), ro B (ints b)] (one (fun v ch => ∃ B cap, v = .slice B (il ((pol a : Po (El p m mod)) * (pol b : Po (El p m mod)))).length cap ∧ ch = ow B 3 cap (ints (il ((pol a : Po (El p m mod)) * (pol b : Po (El p m mod))))))) := by
 have hq2 := hF.q2
 have hla := il_le (p := p) (m := m) (mod := mod) a
 have hlb := il_le (p := p) (m := m) (mod := mod) b
 refine pure_of (args := [.pointer (some g.p), .slice A n c, .slice B k d]) 67 Tryz.func54 rfl rfl rfl poly_product_ent ⟨id, id, id, trivial⟩ (fun w0 => ?_)
 refine tS ?_
 refine tR fun _ _ _ => ?_
 refine pV ?_
 refine tS ?_
 refine tR fun _ _ _ => ?_
 iterate 2 refine pV ?_
 refine eV (eCall1 rfl rfl rfl (poly_CanonE g hg A n c a hn (by omega)) ⟨rfl, rfl, trivial⟩ ?_)
 rintro _ _ ⟨B1, c1, rfl, hcap1, rfl⟩
 iterate 2 refine pV ?_
 refine eV (eCall1 rfl rfl rfl (poly_CanonE g hg B k d b hk (by omega)) ⟨rfl, rfl, trivial⟩ ?_)
 rintro _ _ ⟨B1a, c1a, rfl, hcap1a, rfl⟩
 iterate 2 refine pV ?_
 refine tS ?_
 refine tS ?_
 refine tR fun _ _ _ => ?_
 refine pV ?_
 refine sV (rLen rfl rfl) ?_
 iterate 2 refine pV ?_
 refine stg rfl rfl rfl rfl rfl (fun hb => by (have hq := hb; try simp only [zbA] at hq); exact rMove rfl rfl) ?_
 refine stg rfl rfl rfl rfl rfl (fun hb => by (have hq := hb; try simp only [zbA] at hq); exact rLen rfl (evg rfl hb)) ?_
 refine stg rfl rfl rfl rfl rfl (fun hb => by (have hq := hb; try simp only [zbA] at hq); exact rEql rfl (evg rfl hb) rfl) ?_
 refine sV (rOrB rfl rfl rfl rfl) ?_
 refine tC rfl (fun h2 => ?_) (fun h2 => ?_)
 ·try simp only [zbA] at h2
  refine tS ?_
  refine tr_nilI 3 ?_
  refine tR fun _ _ _ => ?_
  refine pV ?_
  have h0 : (pol a : Po (El p m mod)) * (pol b : Po (El p m mod)) = 0 := by
   rcases h2 with h | h
   ·rw [Po.eq_zero_of_len (f := (pol a : Po (El p m mod))) (by rw [← il_length]; omega), Rg.zero_mul]
   ·rw [Po.eq_zero_of_len (f := (pol b : Po (El p m mod))) (by rw [← il_length]; omega), Rg.mul_zero]
  rw [h0, il_zero]
  exact tr_ret ⟨trivial, _, _, rfl, ⟨_, rfl, none, 0, rfl, rfl⟩, cs _ _, trivial, trivial⟩
 ·try simp only [zbA] at h2
  refine tK ?_
  refine tS ?_
  refine tR fun _ _ _ => ?_
  refine pV ?_
  refine sV (rLen rfl rfl) ?_
  refine pV ?_
  refine sV (rLen rfl rfl) ?_
  refine sV (rAdd rfl rfl rfl (by omega) (by omega)) ?_
  refine sV (rSub rfl rfl rfl (by omega) (by omega)) ?_
  refine eV (eMakeI rfl rfl rfl rfl rfl (by omega) (by omega) (by omega) (fun A4 => ?_))
  refine pV ?_
  generalize hN : (((il (pol a : Po (El p m mod))).length : Int) + (il (pol b : Po (El p m mod))).length - 1).toNat = N
  refine tS ?_
  refine tS ?_
  refine tR fun _ _ _ => ?_
  refine pV ?_
  refine sV (rLen rfl rfl) ?_
  refine pV ?_
  refine tB ?_
  refine tr_loop2 (fun (i : Int) (o : List Int) => [(7, .slice A4 N N), (1, .slice B1 (il (pol a : Po (El p m mod))).length c1), (2, .slice B1a (il (pol b : Po (El p m mod))).length c1a), (33, .slice B1 (il (pol a : Po (El p m mod))).length c1), (34, .int .i64 (il (pol a : Po (El p m mod))).length), (35, .int .i64 i), (0, .pointer (some g.p)), (6, .slice none 0 0)]) (fun (i : Int) (o : List Int) => [ow A4 3 N (ints o), ow B1a 3 c1a (ints (il (pol b : Po (El p m mod)))), ow B1 3 c1 (ints (il (pol a : Po (El p m mod)))), gfR g, ro A (ints a), ro B (ints b)]) (fun (i : Int) (o : List Int) => (0 ≤ i ∧ i ≤ (il (pol a : Po (El p m mod))).length) ∧ (o.length = N ∧ AllIn (pw p m) o) ∧ (pol o : Po (El p m mod)) = pol ((il (pol a : Po (El p m mod))).take i.toNat) * (pol b : Po (El p m mod))) (fun (i : Int) (o : List Int) => (((il (pol a : Po (El p m mod))).length : Int) - i).toNat) (0) (List.replicate N 0) ⟨rfl, rfl, rfl, rfl, rfl, rfl, rfl, rfl, trivial⟩ (by first | exact cs _ _ | exact CSub.refl _) (⟨⟨by omega, by omega⟩, ⟨by simp, allIn_rep (by omega) _⟩, by rw [pol_rep, Int.toNat_zero, pol_take_zero]; grind⟩) (fun i o hI => ?_)
  obtain ⟨⟨hi0, hi1⟩, ⟨hol, hoi⟩, ho⟩ := hI
  refine tS ?_
  refine tR fun _ _ _ => ?_
  refine pV ?_
  refine tS ?_
  refine tC rfl (fun h6 => ?_) (fun h6 => ?_)
  ·try simp only [zbA] at h6
   refine tK ?_
   refine tS ?_
   refine tB ?_
   refine tS ?_
   refine tR fun _ _ _ => ?_
   refine pV ?_
   refine sV (rIdxI rfl rfl rfl (by omega) (by omega) (by omega)) ?_
   refine sV (rLdI rfl rfl (by omega)) ?_
   iterate 2 refine pV ?_
   refine tS ?_
   refine tR fun _ _ _ => ?_
   refine pV ?_
   refine sV (rLen rfl rfl) ?_
   refine pV ?_
   refine tB ?_
   refine tr_loop2 (fun (j : Int) (o2 : List Int) => [(7, .slice A4 N N), (1, .slice B1 (il (pol a : Po (El p m mod))).length c1), (2, .slice B1a (il (pol b : Po (El p m mod))).length c1a), (40, .slice B1a (il (pol b : Po (El p m mod))).length c1a), (41, .int .i64 (il (pol b : Po (El p m mod))).length), (42, .int .i64 j), (9, .int .i64 ((il (pol a : Po (El p m mod))).getD i.toNat 0)), (0, .pointer (some g.p)), (6, .slice none 0 0), (8, .int .i64 i), (33, .slice B1 (il (pol a : Po (El p m mod))).length c1), (34, .int .i64 (il (pol a : Po (El p m mod))).length), (35, .int .i64 i), (37, .int .i64 i)]) (fun (j : Int) (o2 : List Int) => [ow A4 3 N (ints o2), ow B1a 3 c1a (ints (il (pol b : Po (El p m mod)))), ow B1 3 c1 (ints (il (pol a : Po (El p m mod)))), gfR g, ro A (ints a), ro B (ints b)]) (fun (j : Int) (o2 : List Int) => (0 ≤ j ∧ j ≤ (il (pol b : Po (El p m mod))).length) ∧ (o2.length = N ∧ AllIn (pw p m) o2) ∧ (pol o2 : Po (El p m mod)) = pol ((il (pol a : Po (El p m mod))).take i.toNat) * (pol b : Po (El p m mod)) + Po.mn (el ((il (pol a : Po (El p m mod))).getD i.toNat 0)) i.toNat * pol ((il (pol b : Po (El p m mod))).take j.toNat)) (fun (j : Int) (o2 : List Int) => (((il (pol b : Po (El p m mod))).length : Int) - j).toNat) (0) (o) ⟨rfl, rfl, rfl, rfl, rfl, rfl, rfl, rfl, rfl, rfl, rfl, rfl, rfl, rfl, trivial⟩ (by first | exact cs _ _ | exact CSub.refl _) (⟨⟨by omega, by omega⟩, ⟨hol, hoi⟩, by rw [ho, Int.toNat_zero, pol_take_zero]; grind⟩) (fun j o2 hI => ?_)
   obtain ⟨⟨hj0, hj1⟩, ⟨ho2l, ho2i⟩, ho2⟩ := hI
   refine tS ?_
   refine tR fun _ _ _ => ?_
   refine pV ?_
   refine tS ?_
   refine tC rfl (fun h9 => ?_) (fun h9 => ?_)
   ·try simp only [zbA] at h9
    refine tK ?_
    refine tS ?_
    refine tB ?_
    refine tS ?_
    refine tR fun _ _ _ => ?_
    refine pV ?_
    refine sV (rIdxI rfl rfl rfl (by omega) (by omega) (by omega)) ?_
    refine sV (rLdI rfl rfl (by omega)) ?_
    iterate 2 refine pV ?_
    refine tr_draw [0, 1, 2, 3, 4, 5, 6, 7, 8, 9, 10, 11, 12, 13, 14, 15, 16] [17] mixed (by kernel_rfl) fun _ _ _ => ?_
    iterate 3 refine pV ?_
    refine sV (rAdd rfl rfl rfl (by omega) (by omega)) ?_
    iterate 4 refine pV ?_
    refine sV (rAdd rfl rfl rfl (by omega) (by omega)) ?_
    refine sV (rIdxI rfl rfl rfl (by omega) (by omega) (by omega)) ?_
    refine sV (rLdI rfl rfl (by omega)) ?_
    iterate 3 refine pV ?_
    refine eV (eCallV rfl rfl rfl (gf_MulE g hg _ _) ⟨rfl, rfl, rfl, trivial⟩ ?_)
    refine eV (eCallV rfl rfl rfl (gf_AddE g hg _ _) ⟨rfl, rfl, rfl, trivial⟩ ?_)
    refine sV (rIdxI rfl rfl rfl (by omega) (by omega) (by omega)) ?_
    refine eV (eStI rfl rfl rfl rfl (by omega) ?_)
    refine tR fun _ _ _ => ?_
    refine sV (rAdd rfl rfl rfl (by omega) (by omega)) ?_
    refine pV ?_
    refine ⟨j + 1, o2.set (i + j).toNat (el (o2.getD (i + j).toNat 0) + el ((el ((il (pol a : Po (El p m mod))).getD i.toNat 0) * el ((il (pol b : Po (El p m mod))).getD j.toNat 0) : El p m mod)).1 : El p m mod).1, ⟨rfl, rfl, rfl, rfl, rfl, rfl, rfl, rfl, rfl, rfl, rfl, rfl, rfl, rfl, trivial⟩, by first | exact cs _ _ | exact CSub.refl _, ?_⟩
    refine ⟨⟨⟨by omega, by omega⟩, ⟨by simpa using ho2l, ho2i.set (El.bd _) _⟩, ?_⟩, by omega⟩
    rw [pol_set_add (d := (el ((il (pol a : Po (El p m mod))).getD i.toNat 0) * el ((il (pol b : Po (El p m mod))).getD j.toNat 0) : El p m mod)) o2 (by omega) (by rw [el_of, el_of]), ho2, show (j + 1).toNat = j.toNat + 1 by omega, pol_take_succ, show (i + j).toNat = i.toNat + j.toNat by omega]
    have e1 := Po.mn_mul (el ((il (pol a : Po (El p m mod))).getD i.toNat 0) : El p m mod) (el ((il (pol b : Po (El p m mod))).getD j.toNat 0)) i.toNat j.toNat
    grind
   ·try simp only [zbA] at h9
    refine tE ?_
    refine tR fun _ _ _ => ?_
    refine sV (rAdd rfl rfl rfl (by omega) (by omega)) ?_
    refine pV ?_
    refine ⟨i + 1, o2, ⟨rfl, rfl, rfl, rfl, rfl, rfl, rfl, rfl, trivial⟩, by first | exact cs _ _ | exact CSub.refl _, ?_⟩
    have hjn : j = (il (pol b : Po (El p m mod))).length := by omega
    rw [hjn, Int.toNat_natCast, List.take_length, pol_il] at ho2
    refine ⟨⟨⟨by omega, by omega⟩, ⟨ho2l, ho2i⟩, ?_⟩, by omega⟩
    rw [ho2, show (i + 1).toNat = i.toNat + 1 by omega, pol_take_succ]
    grind
  ·try simp only [zbA] at h6
   refine tE ?_
   refine tS ?_
   refine tR fun _ _ _ => ?_
   iterate 2 refine pV ?_
   have hin : i = (il (pol a : Po (El p m mod))).length := by omega
   rw [hin, Int.toNat_natCast, List.take_length, pol_il] at ho
   have ha0 : (pol a : Po (El p m mod)) ≠ 0 := Po.len_pos_iff.1 (by rw [← il_length]; omega)
   have hb0 : (pol b : Po (El p m mod)) ≠ 0 := Po.len_pos_iff.1 (by rw [← il_length]; omega)
   have hlm := Po.len_mul ha0 hb0
   rw [← il_length, ← il_length, ← il_length] at hlm
   have hoo : o = il ((pol a : Po (El p m mod)) * (pol b : Po (El p m mod))) := by
    rw [← ho, il_self hoi (.inr ?_)]
    have h1 : o.length = Po.len (pol o : Po (El p m mod)) := by rw [ho, ← il_length]; omega
    have h2 : 0 < o.length := by omega
    have h3 := Po.lead_ne (f := (pol o : Po (El p m mod))) (n := o.length - 1) (by omega)
    rw [cf_pol] at h3
    exact fun e => h3 (by rw [e, el_zero])
   have hNN : N = (il ((pol a : Po (El p m mod)) * (pol b : Po (El p m mod)))).length := by omega
   rw [hoo]
   exact tr_ret ⟨trivial, _, _, rfl, ⟨_, rfl, A4, N, by rw [← hNN], rfl⟩, cs _ _, trivial, trivial⟩
section
variable {p m : Int} {mod : List Int} [hF : IsF p m mod]
noncomputable def prP (p m : Int) (mod : List Int) [hF : IsF p m mod] (rs : List RowM) : Po (El p m mod) := rs.foldl (fun f r => f * pol r.xs) 1
theorem prP_succ (rs : List RowM) {k : Nat} (hk : k < rs.length) : prP p m mod (rs.take (k + 1)) = prP p m mod (rs.take k) * pol (rs.getD k rowD).xs := by
 unfold prP
 rw [List.take_add_one, List.getElem?_eq_getElem hk, List.getD_eq_getElem?_getD, List.getElem?_eq_getElem hk]
 simp only [Option.toList_some, List.foldl_append, List.foldl_cons, List.foldl_nil]
 rfl
theorem il_one : il (1 : Po (El p m mod)) = [1] := by
 refine ext_getD (by rw [il_length, Po.len_one]; rfl) fun j => ?_
 rw [il_getD, Po.cf_one]
 cases j with
 | zero => rfl
 | succ j => rw [if_neg (by omega)]; rfl
end
theorem poly_Mul_ent : Enters Tryz.prog 21 := enters_of Tryz.func21 (by kernel_rfl) (by kernel_rfl)
theorem poly_Mul (g : GfM) {p m : Int} {mod : List Int} [hF : IsF p m mod] (hg : GOk g p m mod) (L : Option Addr) (nl cl : Nat) (rs : List RowM) (hnl : nl = rs.length) (hr9 : rs.length ≤ 1000) (hl9 : ∀ k, k < rs.length → (rs.getD k rowD).xs.length ≤ 1000000) (hpl : ∀ k, k ≤ rs.length → Po.len (prP p m mod (rs.take k)) ≤ 1000000) :
  Pure Tryz.prog 21 #[.pointer (some g.p), .slice L nl cl] [gfR g, ro L (hdrs rs), rowsR rs] (one (fun v ch => ∃ B cap, v = .slice B (il (prP p m mod rs)).length cap ∧ ch = ow B 3 cap (ints (il (prP p m mod rs))))) := by
 refine pure_of (args := [.pointer (some g.p), .slice L nl cl]) 21 Tryz.func21 rfl rfl rfl poly_Mul_ent ⟨id, id, id, trivial⟩ (fun w0 => ?_)
 refine tS ?_
 refine tR fun _ _ _ => ?_
 refine pV ?_
 refine tS ?_
 refine tR fun _ _ _ => ?_
 refine eV (eLit1I rfl rfl rfl rfl (fun A1 => ?_))
 refine pV ?_
 refine tS ?_
 refine tS ?_
 refine tR fun _ _ _ => ?_
 refine pV ?_
 refine sV (rLen rfl rfl) ?_
 refine pV ?_
 refine tB ?_
 refine tr_loop5 (fun (k : Int) (D : Option Addr) (cd : Nat) (nd : Nat) (ls : List Int) => [(5, .slice D nd cd), (9, .slice L nl cl), (10, .int .i64 nl), (11, .int .i64 k), (0, .pointer (some g.p)), (4, .slice none 0 0)]) (fun (k : Int) (D : Option Addr) (cd : Nat) (nd : Nat) (ls : List Int) => [ow D 3 cd (ints ls), gfR g, ro L (hdrs rs), rowsR rs]) (fun (k : Int) (D : Option Addr) (cd : Nat) (nd : Nat) (ls : List Int) => (0 ≤ k ∧ k ≤ nl) ∧ nd = ls.length ∧ ls = il (prP p m mod (rs.take k.toNat))) (fun (k : Int) (D : Option Addr) (cd : Nat) (nd : Nat) (ls : List Int) => (nl - k).toNat) (0) (A1) (1) (1) ([1]) ⟨rfl, rfl, rfl, rfl, rfl, rfl, trivial⟩ (by first | exact cs _ _ | exact CSub.refl _) (⟨⟨by omega, by omega⟩, rfl, by rw [Int.toNat_zero, List.take_zero]; exact il_one.symm⟩) (fun k D cd nd ls hI => ?_)
 obtain ⟨⟨hk0, hk1⟩, hnd, hls⟩ := hI
 refine tS ?_
 refine tR fun _ _ _ => ?_
 refine pV ?_
 refine tS ?_
 refine tC rfl (fun h3 => ?_) (fun h3 => ?_)
 ·try simp only [zbA] at h3
  refine tK ?_
  refine tS ?_
  refine tB ?_
  refine tS ?_
  haveI : InB k.toNat rs.length := ⟨by omega⟩
  refine tR fun _ _ _ => ?_
  refine sV (rIdxR rfl rfl rfl (by omega) (by omega) (by omega)) ?_
  refine sV (rLdR rfl rfl (by omega)) ?_
  refine pV ?_
  refine tR fun _ _ _ => ?_
  iterate 3 refine pV ?_
  refine eV (eCall1 rfl rfl rfl (poly_product g hg D nd cd ls hnd (by rw [hls, il_length]; exact hpl _ (by omega)) _ _ _ (rs.getD k.toNat rowD).xs rfl (hl9 _ (by omega))) ⟨rfl, rfl, rfl, trivial⟩ ?_)
  rintro _ _ ⟨B5, c5, rfl, rfl⟩
  refine pV ?_
  refine tR fun _ _ _ => ?_
  refine sV (rAdd rfl rfl rfl (by omega) (by omega)) ?_
  refine pV ?_
  refine ⟨k + 1, B5, c5, (il ((pol ls : Po (El p m mod)) * pol (rs.getD k.toNat rowD).xs)).length, il ((pol ls : Po (El p m mod)) * pol (rs.getD k.toNat rowD).xs), ⟨rfl, rfl, rfl, rfl, rfl, rfl, trivial⟩, by first | exact cs _ _ | exact CSub.refl _, ?_⟩
  refine ⟨⟨⟨by omega, by omega⟩, rfl, ?_⟩, by omega⟩
  rw [show (k + 1).toNat = k.toNat + 1 by omega, prP_succ rs (by omega), hls, pol_il]
 ·try simp only [zbA] at h3
  refine tE ?_
  refine tS ?_
  refine tR fun _ _ _ => ?_
  iterate 2 refine pV ?_
  have hkn : rs.take k.toNat = rs := List.take_of_length_le (by omega)
  rw [hkn] at hls
  rw [hnd, hls]
  exact tr_ret ⟨trivial, _, _, rfl, ⟨_, rfl, D, cd, rfl, rfl⟩, cs _ _, trivial, trivial⟩
end Go.Proofs.YtdkahdehodopoaaGreat

namespace Go.Proofs.YtdkahdehodopoaaGreat
open Go.RowKit
theorem pw_one (p : Int) : pw p 1 = p := by
 have h3 := pw_succ p (k := 0) (by omega)
 rw [pw_zero, Int.zero_add, Int.one_mul] at h3
 exact h3
section
end
section
end
section
end
section
end
section
end
end Go.Proofs.YtdkahdehodopoaaGreat

namespace Go.Proofs.YtdkahdehodopoaaGreat
open Go.RowKit
section
end
section
end
section
end
end Go.Proofs.YtdkahdehodopoaaGreat

namespace Go.Proofs.YtdkahdehodopoaaGreat
open Go.RowKit
def idxI (l : List Int) (x : Int) : Int := if x ∈ l then (l.idxOf x : Int) else -1
theorem idxI_of {l : List Int} {x : Int} {k : Nat} (hk : k < l.length) (h : l.getD k 0 = x) (hu : ∀ j, j < k → l.getD j 0 ≠ x) : idxI l x = k := by
 have hx : l[k] = x := by rw [List.getD_eq_getElem?_getD, List.getElem?_eq_getElem hk] at h; exact h
 have hm : x ∈ l := hx ▸ List.getElem_mem hk
 unfold idxI
 rw [if_pos hm]
 have h1 := List.idxOf_lt_length_iff.2 hm
 have h2 : l[l.idxOf x] = x := List.getElem_idxOf h1
 have h3 : l.idxOf x ≤ k := by
  rw [← hx]
  refine Nat.le_of_not_lt fun hlt => ?_
  have := List.not_of_lt_findIdx (p := (· == l[k])) (xs := l) hlt
  simp at this
 rcases Nat.lt_or_ge (l.idxOf x) k with h4 | h4
 ·refine absurd ?_ (hu _ h4)
  rw [List.getD_eq_getElem?_getD, List.getElem?_eq_getElem h1]; exact h2
 ·have : l.idxOf x = k := by omega
  rw [this]
section
end
end Go.Proofs.YtdkahdehodopoaaGreat

set_option maxRecDepth 100000
namespace Go.Proofs.YtdkahdehodopoaaGreat
open Go.RowKit
section
end
theorem slc_Index_ent : Enters Tryz.prog 83 := enters_of Tryz.func83 (by kernel_rfl) (by kernel_rfl)
theorem slc_Index (A : Option Addr) (n c : Nat) (l : List Int) (hn : n = l.length) (h9 : l.length ≤ 1000000) (x : Int) :
  Pure Tryz.prog 83 #[.slice A n c, .int .i64 x] [ro A (ints l)] (isV (.int .i64 (idxI l x))) := by
 refine pure_of (args := [.slice A n c, .int .i64 x]) 19 Tryz.func83 rfl rfl rfl slc_Index_ent ⟨id, trivial⟩ (fun w0 => ?_)
 refine tS ?_
 refine tR fun _ _ _ => ?_
 refine pV ?_
 refine tS ?_
 refine tS ?_
 refine tR fun _ _ _ => ?_
 refine pV ?_
 refine sV (rLen rfl rfl) ?_
 refine pV ?_
 refine tB ?_
 refine tr_loop1 (fun (i : Int) => [(7, .int .i64 n), (8, .int .i64 i), (0, .slice A n c), (1, .int .i64 x)]) (fun (i : Int) => [ro A (ints l)]) (fun (i : Int) => (0 ≤ i ∧ i ≤ n) ∧ ∀ j : Nat, (j : Int) < i → l.getD j 0 ≠ x) (fun (i : Int) => (n - i).toNat) (0) ⟨rfl, rfl, rfl, rfl, trivial⟩ (by first | exact cs _ _ | exact CSub.refl _) (⟨⟨by omega, by omega⟩, fun j hj => by omega⟩) (fun i hI => ?_)
 obtain ⟨⟨hi0, hi1⟩, hno⟩ := hI
 refine tS ?_
 refine tR fun _ _ _ => ?_
 refine pV ?_
 refine tS ?_
 refine tC rfl (fun h2 => ?_) (fun h2 => ?_)
 ·try simp only [zbA] at h2
  refine tK ?_
  refine tS ?_
  refine tB ?_
  refine tS ?_
  refine tR fun _ _ _ => ?_
  iterate 2 refine pV ?_
  refine tS ?_
  refine tR fun _ _ _ => ?_
  iterate 3 refine pV ?_
  refine sV (rIdxI rfl rfl rfl (by omega) (by omega) (by omega)) ?_
  refine sV (rLdI rfl rfl (by omega)) ?_
  refine pV ?_
  refine tC rfl (fun h4 => ?_) (fun h4 => ?_)
  ·try simp only [zbA] at h4
   refine tS ?_
   refine tR fun _ _ _ => ?_
   iterate 2 refine pV ?_
   have hix := idxI_of (l := l) (x := x) (k := i.toNat) (by omega) h4.symm (fun j hj => hno j (by omega))
   exact tr_ret ⟨trivial, _, _, rfl, ⟨by rw [hix, Int.toNat_of_nonneg hi0], rfl⟩, CSub.nil _, trivial⟩
  ·try simp only [zbA] at h4
   refine tK ?_
   refine tR fun _ _ _ => ?_
   refine sV (rAdd rfl rfl rfl (by omega) (by omega)) ?_
   refine pV ?_
   refine ⟨i + 1, ⟨rfl, rfl, rfl, rfl, trivial⟩, by first | exact cs _ _ | exact CSub.refl _, ?_⟩
   refine ⟨⟨⟨by omega, by omega⟩, fun j hj => ?_⟩, by omega⟩
   by_cases he : (j : Int) = i
   ·have : j = i.toNat := by omega
    subst this; exact fun e => h4 e.symm
   ·exact hno j (by omega)
 ·try simp only [zbA] at h2
  refine tE ?_
  refine tS ?_
  refine tR fun _ _ _ => ?_
  refine pV ?_
  have hix : idxI l x = -1 := by
   unfold idxI
   rw [if_neg fun hm => ?_]
   obtain ⟨j, hj, he⟩ := List.getElem_of_mem hm
   exact hno j (by omega) (by rw [List.getD_eq_getElem?_getD, List.getElem?_eq_getElem hj]; exact he)
  exact tr_ret ⟨trivial, _, _, rfl, ⟨by rw [hix], rfl⟩, CSub.nil _, trivial⟩
end Go.Proofs.YtdkahdehodopoaaGreat

set_option maxRecDepth 100000
namespace Go.Proofs.YtdkahdehodopoaaGreat
open Go.RowKit
end Go.Proofs.YtdkahdehodopoaaGreat

namespace Go.Proofs.YtdkahdehodopoaaGreat
open Rg
namespace Vc
variable {K : Type} [Fd K]
def pk (S : List Nat) (u : Vc K) : Vc K := fun j => if j < S.length then u (S.getD j 0) else 0
end Vc
end Go.Proofs.YtdkahdehodopoaaGreat

namespace Go.Proofs.YtdkahdehodopoaaGreat
end Go.Proofs.YtdkahdehodopoaaGreat

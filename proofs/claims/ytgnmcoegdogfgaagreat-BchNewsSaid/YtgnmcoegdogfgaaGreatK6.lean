/-
  BCHNEWS, PART 6 OF 10. One sentence: the texts behind the law BchNews, put together.
  Conditions: each theorem's own, written out in it.
-/
import Derived.Test.YtgnmcoegdogfgaaGreatK5
set_option linter.unusedSimpArgs false
set_option linter.unusedVariables false
set_option linter.unusedSectionVars false
set_option linter.unusedSimpArgs false
set_option linter.unusedVariables false
namespace Go.Proofs.YtgnmcoegdogfgaaGreat
open Go.RowKit
theorem nc_mul {R : Type} [Rg R] (a : Nat) : ∀ b : Nat, (Rg.nc (a * b) : R) = Rg.nc a * Rg.nc b
  | 0 => (Rg.mul_zero _).symm
  | b + 1 => by rw [Nat.mul_succ, nc_add, Rg.nc_succ, nc_mul a b, Rg.mul_add, Rg.mul_one]
theorem IsF.p2 {p m : Int} {mod : List Int} (hF : IsF p m mod) : 2 ≤ p := hF.out.1.1.p2
theorem IsF.m1 {p m : Int} {mod : List Int} (hF : IsF p m mod) : 1 ≤ m := hF.out.1.1.m1
theorem zi_nat {p : Int} (hp : 2 ≤ p) (z : Int) : (((z % p).toNat : Nat) : Int) = z % p := Int.toNat_of_nonneg (Int.emod_nonneg _ (by omega))
section
variable {p m : Int} {mod : List Int} [hF : IsF p m mod]
theorem nc_emod {a b : Nat} (h : (a : Int) % p = (b : Int) % p) : (Rg.nc a : El p m mod) = Rg.nc b := El.ext (by rw [nc_val, nc_val, h])
noncomputable def zi (z : Int) : El p m mod := Rg.nc (z % p).toNat
theorem zi_val (z : Int) : (zi z : El p m mod).1 = z % p := by
  unfold zi; rw [nc_val, zi_nat hF.p2, Int.emod_emod_of_dvd _ (Int.dvd_refl p)]
theorem zi_add (x y : Int) : (zi (x + y) : El p m mod) = zi x + zi y := by
  unfold zi
  rw [← nc_add]
  refine nc_emod ?_
  push_cast
  rw [zi_nat hF.p2, zi_nat hF.p2, zi_nat hF.p2, Int.emod_emod_of_dvd _ (Int.dvd_refl p), ← Int.add_emod]
theorem zi_mul (x y : Int) : (zi (x * y) : El p m mod) = zi x * zi y := by
  unfold zi
  rw [← nc_mul]
  refine nc_emod ?_
  push_cast
  rw [zi_nat hF.p2, zi_nat hF.p2, zi_nat hF.p2, Int.emod_emod_of_dvd _ (Int.dvd_refl p), ← Int.mul_emod]
theorem zi_cg {x y : Int} (h : x % p = y % p) : (zi x : El p m mod) = zi y := by unfold zi; rw [h]
theorem zi_zero : (zi 0 : El p m mod) = 0 := by unfold zi; rw [Int.zero_emod]; rfl
theorem zi_one : (zi 1 : El p m mod) = 1 := by
  have := hF.p2
  unfold zi; rw [Int.emod_eq_of_lt (by omega) (by omega)]; rfl
theorem zi_neg (x : Int) : (zi (-1 * x) : El p m mod) = -zi x := by
  have h : (zi (-1) : El p m mod) + 1 = 0 := by rw [← zi_one, ← zi_add]; exact zi_zero
  rw [zi_mul]
  have e : (zi (-1) : El p m mod) = -1 := by grind
  rw [e, Rg.neg_mul, Rg.one_mul]
theorem zi_el {z : Int} (h0 : 0 ≤ z) (h1 : z < p) : (zi z : El p m mod) = el z := El.ext (by
  have hq : p ≤ pw p m := by
    have h2 := hF.p2
    have := pw_mono (p := p) (by omega) (a := 1) (b := m) (by omega) hF.m1
    have h3 := pw_succ p (k := 0) (by omega)
    rw [pw_zero, Int.zero_add, Int.one_mul] at h3
    omega
  rw [zi_val, Int.emod_eq_of_lt h0 h1, el_in ⟨h0, by omega⟩])
noncomputable def zp (n : Nat) (c : Row) : Po (El p m mod) := ⟨fun j => if j < n then zi (c j) else 0, n, fun j hj => if_neg (by omega)⟩
theorem cf_zp (n : Nat) (c : Row) (j : Nat) : Po.cf (zp n c : Po (El p m mod)) j = if j < n then zi (c j) else 0 := rfl
theorem zp_sh (n : Nat) (c : Row) : Po.Sh (zp n c : Po (El p m mod)) n := fun j hj => if_neg (by omega)
theorem zp_cg {c d : Row} (n : Nat) (h : Cg p c d) : (zp n c : Po (El p m mod)) = zp n d := Po.ext fun j => by
  rw [cf_zp, cf_zp]
  split
  · exact zi_cg (h.emod j)
  · rfl
theorem zp_pl {e : Nat} {G : Row} (hG : Sup (e + 1) G) (Q : Row) : ∀ n N : Nat, n + e ≤ N → (zp N (pl sh n Q G) : Po (El p m mod)) = zp n Q * zp (e + 1) G
  | 0, N, _ => by
    have h1 : (zp N (pl sh 0 Q G) : Po (El p m mod)) = 0 := Po.ext fun j => by
      rw [cf_zp]
      have : pl sh 0 Q G j = 0 := rfl
      rw [this, zi_zero]; split <;> rfl
    have h2 : (zp 0 Q : Po (El p m mod)) = 0 := Po.ext fun j => by rw [cf_zp, if_neg (by omega)]; rfl
    rw [h1, h2, Rg.zero_mul]
  | n + 1, N, h => by
    have h1 : (zp (n + 1) Q : Po (El p m mod)) = zp n Q + Po.mn (zi (Q n)) n := Po.ext fun j => by
      rw [Po.cf_add, cf_zp, cf_zp, Po.cf_mn]
      by_cases h2 : j = n
      · rw [if_pos (by omega), if_neg (by omega), if_pos h2, h2, Rg.zero_add]
      · rw [if_neg h2, Rg.add_zero]
        by_cases h3 : j < n
        · rw [if_pos (by omega), if_pos h3]
        · rw [if_neg (by omega), if_neg h3]
    rw [h1, Rg.add_mul, ← zp_pl hG Q n N (by omega)]
    refine Po.ext fun j => ?_
    rw [Po.cf_add, cf_zp, cf_zp, Po.cf_mn_mul, cf_zp]
    have h2 : pl sh (n + 1) Q G j = pl sh n Q G j + Q n * it sh n G j := rfl
    rw [h2, it_sh]
    by_cases h3 : j < N
    · rw [if_pos h3, if_pos h3, zi_add, zi_mul]
      congr 1
      by_cases h4 : j < n
      · rw [if_pos h4, if_pos h4, zi_zero, Rg.mul_zero]
      · rw [if_neg h4, if_neg h4]
        by_cases h5 : j - n < e + 1
        · rw [if_pos h5]
        · rw [if_neg h5, hG _ (by omega), zi_zero]
    · rw [if_neg h3, if_neg h3, if_neg (by omega), if_neg (by omega), Rg.mul_zero, Rg.zero_add]
theorem all_pow (a : El p m mod) : Rg.pow a (pw p m).toNat = a := by
  have hq := hF.q2
  by_cases h : a = 0
  · rw [h]; exact Rg.zero_pow (by omega)
  · have h1 := Fd.Nz.pow (elNz_nz hF.out) h
    rw [elNz_len, Fd.pow_eq] at h1
    have e : (pw p m).toNat = (pw p m - 1).toNat + 1 := by omega
    rw [e, Rg.pow_succ]
    exact (congrArg (fun z => z * a) h1).trans (Rg.one_mul a)
theorem pow_last {x : El p m mod} (hx : x ≠ 0) : Rg.pow x (pw p m - 1).toNat = 1 := by
  have h1 := Fd.Nz.pow (elNz_nz hF.out) hx
  rw [elNz_len, Fd.pow_eq] at h1
  exact h1
theorem all_powk (a : El p m mod) : ∀ k : Nat, Rg.pow a ((pw p m).toNat ^ k) = a
  | 0 => Rg.pow_one a
  | k + 1 => by rw [Nat.pow_succ, Rg.pow_mul, all_powk a k, all_pow]
end
theorem roots_len {K : Type} [Fd K] : ∀ (rs : List K) (f : Po K), rs.Nodup → f ≠ 0 → (∀ a ∈ rs, Po.val f a = 0) → rs.length < Po.len f
  | [], f, _, hf, _ => Po.len_pos hf
  | r :: rs, f, hn, hf, h => by
    obtain ⟨g, hg⟩ := (Po.root_iff f r).1 (h r (List.mem_cons_self ..))
    have hn := List.nodup_cons.1 hn
    have hg0 : g ≠ 0 := fun e => hf (by rw [hg, e, Rg.mul_zero])
    have ih := roots_len rs g hn.2 hg0 (fun a ha => by
      have h1 := h a (List.mem_cons_of_mem _ ha)
      rw [hg, Po.val_mul, Po.val_lin] at h1
      exact (Fd.mul_eq_zero h1).resolve_left (fun e => hn.1 (by have : a = r := Rg.eq_of_sub e; rwa [← this])))
    rw [hg, Po.len_mul (Po.lin_ne r) hg0, Po.len_lin, List.length_cons]
    omega
theorem pl_e0 (T : Row → Row) (v : Row) : pl T 1 (ee 0) v = v := by
  have h : pl T 1 (ee 0) v = Row.z.add (Row.sm 1 v) := rfl
  rw [h, Row.z_add]; funext j; simp [Row.sm]
theorem ee_sup (k : Nat) : Sup (k + 1) (ee k) := fun j hj => if_neg (by omega)
theorem pl_ee {T : Row → Row} (h : Lin T) {k n : Nat} (hk : k < n) (v : Row) : pl T n (ee k) v = it T k v := by
  have h1 := pl_it_sh h 1 (ee 0) v k
  rw [it_sh_e, pl_e0] at h1
  rw [pl_bound' (ee_sup k) v (show k + 1 ≤ n by omega), Nat.add_comm k 1, h1]
theorem add_neg_z (u : Row) : u.add (Row.sm (-1) u) = Row.z := by funext j; simp [Row.add, Row.sm, Row.z]; omega
section
variable {p m : Int} {mod : List Int} [hF : IsF p m mod]
theorem tt_ex (hm : 2 ≤ m) : ∃ t : El p m mod, ∀ n, Cg p (dg p m.toNat (Rg.pow t n).1) (it (tm m.toNat (rl mod)) n (ee 0)) := by
  have hp := hF.p2
  have hs := hF.out.1.1
  have hsu : Sup m.toNat (ee 1) := fun j hj => if_neg (by omega)
  have hbd : 0 ≤ rv p m.toNat (ee 1) ∧ rv p m.toNat (ee 1) < pw p m := rv_bd hp _ _
  obtain ⟨t, ht1⟩ : ∃ t : El p m mod, t.1 = rv p m.toNat (ee 1) := ⟨⟨_, hbd⟩, rfl⟩
  refine ⟨t, fun n => ?_⟩
  induction n with
  | zero => rw [Rg.pow_zero, one_val, dg_one hp (by omega)]; exact Cg.refl _ _
  | succ n ih =>
    rw [Rg.pow_succ, mul_val, ht1]
    refine Cg.trans (mulI_cg hs _ _) ?_
    refine Cg.trans (rm_cg ih (dg_rv_cg hp hsu)) (Cg.of_eq ?_)
    show pl (tm m.toNat (rl mod)) m.toNat (ee 1) (it (tm m.toNat (rl mod)) n (ee 0)) = _
    rw [pl_ee (tm_lin _ _) (by omega)]
    rfl
theorem emb_fac (hm : 2 ≤ m) {N k : Nat} (hN : N = (pw p m).toNat ^ k) (hNm : m.toNat ≤ N) (hN2 : 2 ≤ N) : ∃ (Q : Row) (n : Nat), n + m.toNat = N + 1 ∧ Cg p ((ee N).add (Row.sm (-1) (ee 1))) (pl sh n Q (gF mod)) := by
  have hp := hF.p2
  have hs := hF.out.1.1
  have hml : mod.length = m.toNat := by
    rcases hs.low with h | h
    · omega
    · omega
  obtain ⟨t, ht⟩ := tt_ex (p := p) (m := m) (mod := mod) hm
  obtain ⟨lst, hll, hl⟩ : ∃ lst : List Int, lst.length = N + 1 ∧ Cg p ((ee N).add (Row.sm (-1) (ee 1))) (rl lst) := by
    refine ⟨(List.range (N + 1)).map fun j => if j = N then 1 else if j = 1 then -1 else 0, by simp, Cg.of_eq ?_⟩
    funext j
    simp only [Row.add, Row.sm, ee, rl, List.getD_eq_getElem?_getD, List.getElem?_map]
    by_cases h : j < N + 1
    · rw [List.getElem?_range h]
      by_cases h1 : j = N
      · simp [h1]; omega
      · by_cases h2 : j = 1
        · simp [h2]; omega
        · simp [h1, h2]
    · rw [List.getElem?_eq_none (by simp; omega), if_neg (by omega), if_neg (by omega)]; rfl
  obtain ⟨Q, hQ, hc, _⟩ := dloop_row (p := p) (low := mod) (N + 1 - m.toNat) lst (by omega)
  have hRs := dloop_sup (p := p) (low := mod) (N + 1 - m.toNat) lst (by rw [hml, show m.toNat + (N + 1 - m.toNat) = lst.length by omega]; exact rl_sup lst)
  generalize rl (dloop p mod (N + 1 - m.toNat) lst) = R at hc hRs
  refine ⟨Q, N + 1 - m.toNat, by omega, ?_⟩
  have hL := tm_lin m.toNat (rl mod)
  have hG : Sup (m.toNat + 1) (gF mod) := by have := gF_sup mod; rwa [hml] at this
  have h1 := Cg.pl hL (N + 1) (hl.trans hc) (Cg.refl p (ee 0))
  rw [pl_addQ, pl_smQ, pl_ee hL (by omega), pl_ee hL (by omega), pl_addQ] at h1
  rw [hml] at hRs
  have h2 : pl (tm m.toNat (rl mod)) (N + 1) R (ee 0) = R := by rw [pl_bound' hRs _ (by omega), pl_tm_self hRs]
  have h3 : pl (tm m.toNat (rl mod)) (N + 1) (pl sh (N + 1 - m.toNat) Q (gF mod)) (ee 0) = Row.z := by
    have h4 := pl_mul hL hG Q (ee 0) (N - m.toNat) (N + 1 - m.toNat) (by omega)
    rw [show m.toNat + 1 + (N - m.toNat) = N + 1 by omega] at h4
    have h5 : pl (tm m.toNat (rl mod)) (m.toNat + 1) (gF mod) (ee 0) = Row.z := by
      have := fF_e (M := m.toNat) (low := rl mod) (by omega)
      have e : gF mod = fF m.toNat (rl mod) := by rw [← hml]; exact fF_rl
      rw [e]; exact this
    rw [h4, h5, pl_z hL]
  rw [h2, h3, Row.add_z] at h1
  have h6 : Cg p ((it (tm m.toNat (rl mod)) N (ee 0)).add (Row.sm (-1) (it (tm m.toNat (rl mod)) 1 (ee 0)))) Row.z := by
    have h7 : Rg.pow t N = t := by rw [hN]; exact all_powk t k
    have h8 := ht N
    have h9 := ht 1
    rw [h7] at h8
    rw [Rg.pow_one] at h9
    refine Cg.trans (Cg.add h8.symm (Cg.sm (-1) h9.symm)) (Cg.of_eq ?_)
    exact add_neg_z _
  have hR : Cg p R Row.z := h1.symm.trans h6
  refine Cg.trans (hl.trans hc) (Cg.trans (Cg.add hR (Cg.refl _ _)) (Cg.of_eq (Row.z_add _)))
end
theorem pw_dvd {p m m2 : Int} {mod mod2 : List Int} (hF : IsF p m mod) (hE : IsF p m2 mod2) (hd : m2 % m = 0) : ∃ k : Nat, (pw p m2).toNat = (pw p m).toNat ^ k := by
  have hp := hF.p2
  have h1 := hF.m1
  have h2 := hE.m1
  obtain ⟨c, hc⟩ := Int.dvd_of_emod_eq_zero hd
  have hc0 : 0 ≤ c := by
    rcases Int.lt_or_le c 0 with h | h
    · have := Int.mul_neg_of_pos_of_neg (show 0 < m by omega) h; omega
    · exact h
  refine ⟨c.toNat, ?_⟩
  unfold pw
  have e : m2.toNat = m.toNat * c.toNat := by rw [hc, Int.toNat_mul (by omega) hc0]
  rw [e, Int.pow_mul]
  obtain ⟨a, ha⟩ := Int.eq_ofNat_of_zero_le (show 0 ≤ p ^ m.toNat from Int.pow_nonneg (by omega))
  rw [ha, ← Int.natCast_pow, Int.toNat_natCast, Int.toNat_natCast]
section
variable {p m m2 : Int} {mod mod2 : List Int} [hF : IsF p m mod] [hE : IsF p m2 mod2]
theorem emb_root (hm : 2 ≤ m) (hd : m2 % m = 0) : ∃ a : El p m2 mod2, Po.val (pol (mod ++ [1]) : Po (El p m2 mod2)) a = 0 := by
  have hp := hF.p2
  have hs := hF.out.1.1
  have hq2 := hE.q2
  have h1 := hF.m1
  have h2 := hE.m1
  have hml : mod.length = m.toNat := by
    rcases hs.low with h | h
    · omega
    · omega
  obtain ⟨k, hk⟩ := pw_dvd hF hE hd
  have hmm : m ≤ m2 := Int.le_of_dvd (by omega) (Int.dvd_of_emod_eq_zero hd)
  have hNm : m.toNat ≤ (pw p m2).toNat := by
    have h3 : m2.toNat < 2 ^ m2.toNat := Nat.lt_two_pow_self
    have h4 : 2 ^ m2.toNat ≤ p.toNat ^ m2.toNat := Nat.pow_le_pow_left (by omega) _
    have h5 : (pw p m2).toNat = p.toNat ^ m2.toNat := by
      unfold pw
      obtain ⟨a, ha⟩ := Int.eq_ofNat_of_zero_le (show 0 ≤ p by omega)
      rw [ha, ← Int.natCast_pow, Int.toNat_natCast, Int.toNat_natCast]
    omega
  obtain ⟨Q, n, hn, hc⟩ := emb_fac (p := p) (m := m) (mod := mod) hm hk hNm (by omega)
  have hG : Sup (m.toNat + 1) (gF mod) := by have := gF_sup mod; rwa [hml] at this
  have h3 := zp_cg (p := p) (m := m2) (mod := mod2) ((pw p m2).toNat + 1) hc
  rw [zp_pl hG Q n _ (by omega)] at h3
  have h4 : (zp ((pw p m2).toNat + 1) ((ee (pw p m2).toNat).add (Row.sm (-1) (ee 1))) : Po (El p m2 mod2)) = Po.mn 1 (pw p m2).toNat - Po.mn 1 1 := Po.ext fun j => by
    rw [cf_zp, Po.cf_sub, Po.cf_mn, Po.cf_mn]
    by_cases hj : j < (pw p m2).toNat + 1
    · rw [if_pos hj]
      simp only [Row.add, Row.sm]
      rw [zi_add, zi_neg]
      have e : ∀ i : Nat, (zi (ee i j) : El p m2 mod2) = if j = i then 1 else 0 := fun i => by
        unfold ee
        by_cases h : j = i
        · rw [if_pos h, if_pos h, zi_one]
        · rw [if_neg h, if_neg h, zi_zero]
      rw [e, e]; rfl
    · rw [if_neg hj, if_neg (by omega), if_neg (by omega), Rg.sub_self]
  have h5 : (zp (m.toNat + 1) (gF mod) : Po (El p m2 mod2)) = pol (mod ++ [1]) := Po.ext fun j => by
    rw [cf_zp, cf_pol]
    by_cases hj : j < m.toNat + 1
    · rw [if_pos hj]
      have hb : 0 ≤ (mod ++ [1]).getD j 0 ∧ (mod ++ [1]).getD j 0 < p := by
        have hin : AllIn p (mod ++ [1]) := fun z hz => by
          rcases List.mem_append.1 hz with h | h
          · exact hs.ent z h
          · rw [List.mem_singleton.1 h]; omega
        exact hin.get (by omega) j
      exact zi_el hb.1 hb.2
    · rw [if_neg hj, getD_out (by rw [List.length_append]; simp; omega), el_zero]
  rw [h4, h5] at h3
  refine Classical.byContradiction fun hno => ?_
  have hno : ∀ a : El p m2 mod2, Po.val (pol (mod ++ [1]) : Po (El p m2 mod2)) a ≠ 0 := fun a h => hno ⟨a, h⟩
  have hQ0 : (zp n Q : Po (El p m2 mod2)) ≠ 0 := fun e => by
    rw [e, Rg.zero_mul] at h3
    have := congrArg (fun f => Po.cf f 1) h3
    simp only [Po.cf_sub, Po.cf_mn, Po.cf_zero] at this
    rw [if_neg (show ¬ 1 = (pw p m2).toNat by omega), if_pos trivial, Rg.zero_sub] at this
    exact Fd.one_ne (K := El p m2 mod2) (Rg.neg_eq_zero this)
  have hval : ∀ a : El p m2 mod2, Po.val (zp n Q : Po (El p m2 mod2)) a = 0 := fun a => by
    have h6 := congrArg (fun f => Po.val f a) h3
    simp only [Po.val_sub, Po.val_mn, Po.val_mul] at h6
    rw [all_pow, Rg.pow_one, Rg.sub_self] at h6
    exact (Fd.mul_eq_zero h6.symm).resolve_right (hno a)
  have hz := elNz_nz hE.out
  have h7 := roots_len (0 :: elNz p m2 mod2) (zp n Q : Po (El p m2 mod2)) (List.nodup_cons.2 ⟨fun h => (hz.mem 0).1 h rfl, hz.nd⟩) hQ0 (fun a _ => hval a)
  have h8 := Po.len_le (zp_sh (p := p) (m := m2) (mod := mod2) n Q)
  rw [List.length_cons, elNz_len] at h7
  omega
end
end Go.Proofs.YtgnmcoegdogfgaaGreat

set_option linter.unusedSimpArgs false
set_option linter.unusedVariables false
set_option maxRecDepth 100000
namespace Go.Proofs.YtgnmcoegdogfgaaGreat
open Go.RowKit
theorem mat_openG_ent : Enters Tryz.prog 181 := enters_of Tryz.func181 (by kernel_rfl) (by kernel_rfl)
theorem mat_openG (p m : Int) (A : Option Addr) (c : Nat) (mod : List Int) (hl9 : mod.length ≤ 17592186044415) [hF : IsF p m mod] (pl : Addr) (cl : Nat) (w : Int) (Aa : Option Addr) (n ca : Nat) (rs : List RowM) (hn : n = rs.length) (h9 : rs.length ≤ 17592186044415) (h8 : ∀ r ∈ rs, r.xs.length ≤ 17592186044415) (hE : rowsC (pw p m) w (xss rs) = 0) :
    Pure Tryz.prog 181 #[.agg #[.int .i64 p, .int .i64 m, .slice A mod.length c], .slice (some pl) 1 cl] [ro A (ints mod), ro (some pl) [.int .i64 w, .slice Aa n ca], ro Aa (hdrs rs), rowsR rs] (one (fun v ch => ∃ g : GfM, v = .tuple #[.pointer (some g.p), .int .i64 0] ∧ ch = gfN g ∧ GOk g p m mod)) := by
  refine pure_of (args := [.agg #[.int .i64 p, .int .i64 m, .slice A mod.length c], .slice (some pl) 1 cl]) 32 Tryz.func181 rfl rfl rfl mat_openG_ent ⟨id, id, id, id, trivial⟩ (fun w0 => ?_)
  refine tr_seq ?_
  refine tr_region fun _ _ _ => ?_
  refine ef rfl rfl (eBox rfl rfl rfl rfl rfl (fun p0 => ?_)) 
  iterate 2 refine pu rfl rfl rfl rfl rfl ?_
  refine tr_seq ?_
  refine tr_region fun _ _ _ => ?_
  refine st rfl rfl rfl rfl (rLdS rfl rfl rfl) ?_
  refine ef rfl rfl (eCall1 rfl rfl rfl (fld_New_ok _ _ _ _ _ hl9 hF.out) ⟨rfl, trivial⟩ ?_) 
  rintro _ _ ⟨g, rfl, rfl, hg⟩
  iterate 5 refine pu rfl rfl rfl rfl rfl ?_
  refine tr_seq ?_
  refine tr_seq ?_
  refine tr_region fun _ _ _ => ?_
  iterate 2 refine pu rfl rfl rfl rfl rfl ?_
  refine tr_cond_bool rfl (fun h2 => ?_) (fun h2 => ?_)
  · try simp only [zbA] at h2
    first | exact absurd trivial h2 | exact absurd rfl h2 | omega | (exact absurd h2 (by simp)) --done
  · try simp only [zbA] at h2
    refine tr_skip ?_
    refine tr_seq ?_
    refine tr_seq ?_
    refine tr_region fun _ _ _ => ?_
    refine pu rfl rfl rfl rfl rfl ?_
    refine st rfl rfl rfl rfl (rLenS rfl rfl) ?_
    refine pu rfl rfl rfl rfl rfl ?_
    refine tr_block ?_
    refine tr_loop1 (fun (k : Int) => [(20, .int .i64 k), (6, .pointer (some g.p)), (18, .slice (some pl) 1 cl), (19, .int .i64 1)]) (fun (k : Int) => [gfN g, blk p0 24 [.int .i64 p, .int .i64 m, .slice A mod.length c], ro A (ints mod), ro (some pl) [.int .i64 w, .slice Aa n ca], ro Aa (hdrs rs), rowsR rs]) (fun (k : Int) => 0 ≤ k ∧ k ≤ 1) (fun (k : Int) => (1 - k).toNat) (0) ⟨rfl, rfl, rfl, rfl, trivial⟩ (by first | exact cs _ _ | exact CSub.refl _) (by omega) (fun k hI => ?_)
    refine tr_seq ?_
    refine tr_region fun _ _ _ => ?_
    refine pu rfl rfl rfl rfl rfl ?_
    refine tr_seq ?_
    refine tr_cond_bool rfl (fun h5 => ?_) (fun h5 => ?_)
    · try simp only [zbA] at h5
      refine tr_skip ?_
      refine tr_seq ?_
      refine tr_block ?_
      refine tr_seq ?_
      refine tr_region fun _ _ _ => ?_
      refine st rfl rfl rfl rfl (rIdxS0 rfl rfl rfl (by omega) (by omega)) ?_
      refine st rfl rfl rfl rfl (rLdS rfl rfl rfl) ?_
      refine ef rfl rfl (eAlloc rfl rfl rfl (fun p6 => ?_)) 
      refine ef rfl rfl (eStS rfl rfl rfl rfl rfl rfl ?_) 
      refine tr_seq ?_
      refine tr_region fun _ _ _ => ?_
      refine pu rfl rfl rfl rfl rfl ?_
      refine st rfl rfl rfl rfl (rLdS rfl rfl rfl) ?_
      refine ef rfl rfl (eCallV rfl rfl rfl (mat_checkC g (pw p m) hg.eq w _ _ _ rs hn h9 h8) ⟨rfl, rfl, trivial⟩ ?_) 
      refine pu rfl rfl rfl rfl rfl ?_
      refine tr_seq ?_
      refine tr_region fun _ _ _ => ?_
      iterate 2 refine pu rfl rfl rfl rfl rfl ?_
      refine tr_cond_bool rfl (fun h8 => ?_) (fun h8 => ?_)
      · try simp only [zbA] at h8
        omega --done
      · try simp only [zbA] at h8
        refine tr_skip ?_
        refine tr_region fun _ _ _ => ?_
        refine st rfl rfl rfl rfl (rAdd rfl rfl rfl (by omega) (by omega)) ?_
        refine pu rfl rfl rfl rfl rfl ?_
        refine ⟨k + 1, ⟨rfl, rfl, rfl, rfl, trivial⟩, by first | exact cs _ _ | exact CSub.refl _, ?_⟩
        omega
    · try simp only [zbA] at h5
      refine tr_exit ?_
      refine tr_seq ?_
      refine tr_region fun _ _ _ => ?_
      iterate 3 refine pu rfl rfl rfl rfl rfl ?_
      exact tr_ret ⟨trivial, _, _, rfl, ⟨_, rfl, g, rfl, rfl, hg⟩, cs _ _, ⟨trivial, trivial, trivial, trivial⟩, trivial⟩
theorem mat_CanonicalG_ent : Enters Tryz.prog 126 := enters_of Tryz.func126 (by kernel_rfl) (by kernel_rfl)
theorem mat_CanonicalG (p m : Int) (A : Option Addr) (c : Nat) (mod : List Int) (hl9 : mod.length ≤ 17592186044415) [hF : IsF p m mod] (w : Int) (Aa : Option Addr) (n ca : Nat) (rs : List RowM) (hn : n = rs.length) (h9 : rs.length ≤ 17592186044415) (h8 : ∀ r ∈ rs, r.xs.length ≤ 17592186044415) (hE : rowsC (pw p m) w (xss rs) = 0) :
    Pure Tryz.prog 126 #[.agg #[.int .i64 p, .int .i64 m, .slice A mod.length c], .agg #[.int .i64 w, .slice Aa n ca]] [ro A (ints mod), ro Aa (hdrs rs), rowsR rs] (three (fun v ca cb cc => ∃ B r3 Bp cp ps, v = .tuple #[.agg #[.int .i64 w, .slice B r3.length r3.length], .slice Bp ps.length cp, .int .i64 0] ∧ ca = rx B (hdrs r3) ∧ cb = rowsCh 3 r3 ∧ cc = ow Bp 3 cp (ints ps) ∧ RrOf p m mod w.toNat rs r3 ps ∧ r3.length ≤ rs.length)) := by
  obtain ⟨hb, hlen, hin⟩ := rowsC_zero hE
  rw [xss_length] at hb
  have hgd : Gd (pw p m) w.toNat rs := (Gd_iff hb.1).2 ⟨hlen, hin⟩
  refine pure_ofC (args := [.agg #[.int .i64 p, .int .i64 m, .slice A mod.length c], .agg #[.int .i64 w, .slice Aa n ca]]) 36 Tryz.func126 rfl rfl rfl mat_CanonicalG_ent ⟨id, id, id, trivial⟩ (fun w0 => ?_)
  refine tr_seq ?_
  refine tr_region fun _ _ _ => ?_
  refine ef rfl rfl (eBox rfl rfl rfl rfl rfl (fun p0 => ?_)) 
  refine ef rfl rfl (eBox rfl rfl rfl rfl rfl (fun p0a => ?_)) 
  refine ef rfl rfl (eAlloc rfl rfl rfl (fun p0b => ?_)) 
  iterate 2 refine pu rfl rfl rfl rfl rfl ?_
  refine tr_seq ?_
  refine tr_region fun _ _ _ => ?_
  refine st rfl rfl rfl rfl (rLdS rfl rfl rfl) ?_
  refine st rfl rfl rfl rfl (rLdS rfl rfl rfl) ?_
  refine ef rfl rfl (eLitS rfl rfl rfl rfl (fun p1 => ?_)) 
  refine ef rfl rfl (eCall1 rfl rfl rfl (mat_openG _ _ _ _ _ hl9 _ _ w Aa _ ca rs hn h9 h8 hE) ⟨rfl, rfl, trivial⟩ ?_) 
  rintro _ _ ⟨g, rfl, rfl, hg⟩
  iterate 5 refine pu rfl rfl rfl rfl rfl ?_
  refine tr_seq ?_
  refine tr_seq ?_
  refine tr_region fun _ _ _ => ?_
  iterate 2 refine pu rfl rfl rfl rfl rfl ?_
  refine tr_cond_bool rfl (fun h2 => ?_) (fun h2 => ?_)
  · try simp only [zbA] at h2
    first | exact absurd trivial h2 | exact absurd rfl h2 | omega | (exact absurd h2 (by simp)) --done
  · try simp only [zbA] at h2
    refine tr_skip ?_
    refine tr_seq ?_
    refine tr_region fun _ _ _ => ?_
    refine pu rfl rfl rfl rfl rfl ?_
    refine st rfl rfl rfl rfl (rFld rfl rfl) ?_
    refine st rfl rfl rfl rfl (rLdF rfl rfl rfl) ?_
    refine st rfl rfl rfl rfl (rFld rfl rfl) ?_
    refine st rfl rfl rfl rfl (rLdF rfl rfl rfl) ?_
    refine ef rfl rfl (eCall3 rfl rfl rfl (mat_canon g hg w (by omega) (by omega) _ _ _ rs hn (by omega) hgd) ⟨rfl, rfl, rfl, trivial⟩ ?_) 
    rintro _ _ _ _ ⟨B, r3, Bp, cp, ps, rfl, rfl, rfl, rfl, hR, hk⟩
    iterate 5 refine pu rfl rfl rfl rfl rfl ?_
    refine tr_seq ?_
    refine tr_region fun _ _ _ => ?_
    refine st rfl rfl rfl rfl (rFld rfl rfl) ?_
    refine st rfl rfl rfl rfl (rLdF rfl rfl rfl) ?_
    refine pu rfl rfl rfl rfl rfl ?_
    refine st rfl rfl rfl rfl (rBuild rfl rfl) ?_
    refine pu rfl rfl rfl rfl rfl ?_
    refine ef rfl rfl (eStS rfl rfl rfl rfl rfl rfl ?_) 
    iterate 2 refine pu rfl rfl rfl rfl rfl ?_
    exact tr_ret ⟨trivial, _, _, (.cell rfl (cellS rfl) (.tmp rfl (.tmp rfl .nil))), ⟨_, _, _, rfl, B, r3, Bp, cp, ps, rfl, rfl, rfl, rfl, hR, hk⟩, cs _ _, trivial, trivial, trivial, trivial⟩
theorem code_own_ent : Enters Tryz.prog 183 := enters_of Tryz.func183 (by kernel_rfl) (by kernel_rfl)
theorem code_own (p m : Int) (A : Option Addr) (c : Nat) (mod : List Int) (hl9 : mod.length ≤ 1000000) :
    Pure Tryz.prog 183 #[.agg #[.int .i64 p, .int .i64 m, .slice A mod.length c]] [ro A (ints mod)] (one (fun v ch => ∃ B cb, v = .agg #[.int .i64 p, .int .i64 m, .slice B mod.length cb] ∧ ch = ow B 3 cb (ints mod))) := by
  refine pure_ofC (args := [.agg #[.int .i64 p, .int .i64 m, .slice A mod.length c]]) 8 Tryz.func183 rfl rfl rfl code_own_ent ⟨id, trivial⟩ (fun w0 => ?_)
  refine tr_seq ?_
  refine tr_region fun _ _ _ => ?_
  refine ef rfl rfl (eBox rfl rfl rfl rfl rfl (fun p0 => ?_)) 
  refine ef rfl rfl (eAlloc rfl rfl rfl (fun p0a => ?_)) 
  refine tr_seq ?_
  refine tr_region fun _ _ _ => ?_
  refine st rfl rfl rfl rfl (rFld rfl rfl) ?_
  refine st rfl rfl rfl rfl (rLdF rfl rfl rfl) ?_
  refine ef rfl rfl (eCall1 rfl rfl rfl (slc_Clone _ _ _ (by omega)) ⟨rfl, trivial⟩ ?_) 
  rintro _ _ ⟨B1, c1, rfl, rfl⟩
  refine st rfl rfl rfl rfl (rFld rfl rfl) ?_
  refine ef rfl rfl (eStF rfl rfl rfl rfl rfl (by simp) rfl rfl ?_) 
  refine tr_seq ?_
  refine tr_region fun _ _ _ => ?_
  refine st rfl rfl rfl rfl (rLdS rfl rfl rfl) ?_
  refine ef rfl rfl (eStS rfl rfl rfl rfl rfl rfl ?_) 
  exact tr_ret ⟨trivial, _, _, (.cell rfl (cellS rfl) .nil), ⟨_, rfl, B1, c1, rfl, rfl⟩, cs _ _, trivial, trivial⟩
theorem code_of_ent : Enters Tryz.prog 127 := enters_of Tryz.func127 (by kernel_rfl) (by kernel_rfl)
theorem code_of (p m : Int) (A : Option Addr) (c : Nat) (mod : List Int) (hl9 : mod.length ≤ 1000000) (w : Int) (Aa : Option Addr) (n ca : Nat) :
    Pure Tryz.prog 127 #[.agg #[.int .i64 p, .int .i64 m, .slice A mod.length c], .agg #[.int .i64 w, .slice Aa n ca], .int .i64 0] [ro A (ints mod)] (one (fun v ch => ∃ B cb, v = .tuple #[.agg #[.int .i64 p, .int .i64 m, .slice B mod.length cb, .int .i64 w, .slice Aa n ca], .int .i64 0] ∧ ch = ow B 3 cb (ints mod))) := by
  refine pure_ofC (args := [.agg #[.int .i64 p, .int .i64 m, .slice A mod.length c], .agg #[.int .i64 w, .slice Aa n ca], .int .i64 0]) 19 Tryz.func127 rfl rfl rfl code_of_ent ⟨id, trivial⟩ (fun w0 => ?_)
  refine tr_seq ?_
  refine tr_region fun _ _ _ => ?_
  refine ef rfl rfl (eBox rfl rfl rfl rfl rfl (fun p0 => ?_)) 
  refine ef rfl rfl (eBox rfl rfl rfl rfl rfl (fun p0a => ?_)) 
  refine ef rfl rfl (eAlloc rfl rfl rfl (fun p0b => ?_)) 
  refine pu rfl rfl rfl rfl rfl ?_
  refine tr_seq ?_
  refine tr_seq ?_
  refine tr_region fun _ _ _ => ?_
  iterate 2 refine pu rfl rfl rfl rfl rfl ?_
  refine tr_cond_bool rfl (fun h1 => ?_) (fun h1 => ?_)
  · try simp only [zbA] at h1
    first | exact absurd trivial h1 | exact absurd rfl h1 | omega | (exact absurd h1 (by simp)) --done
  · try simp only [zbA] at h1
    refine tr_skip ?_
    refine tr_seq ?_
    refine tr_draw [0, 2, 3, 4, 5, 1, 6] [7, 8] mixed (by kernel_rfl) fun _ _ _ => ?_
    refine st rfl rfl rfl rfl (rLdS rfl rfl rfl) ?_
    refine st rfl rfl rfl rfl (rFld rfl rfl) ?_
    refine st rfl rfl rfl rfl (rLdF rfl rfl rfl) ?_
    refine st rfl rfl rfl rfl (rFld rfl rfl) ?_
    refine st rfl rfl rfl rfl (rLdF rfl rfl rfl) ?_
    refine ef rfl rfl (eCall1 rfl rfl rfl (code_own _ _ _ _ _ (by omega)) ⟨rfl, trivial⟩ ?_) 
    rintro _ _ ⟨B3, c3, rfl, rfl⟩
    refine st rfl rfl rfl rfl (rBuild rfl rfl) ?_
    refine ef rfl rfl (eStS rfl rfl rfl rfl rfl rfl ?_) 
    refine pu rfl rfl rfl rfl rfl ?_
    exact tr_ret ⟨trivial, _, _, (.cell rfl (cellS rfl) (.tmp rfl .nil)), ⟨_, rfl, B3, c3, rfl, rfl⟩, cs _ _, trivial, trivial⟩
theorem code_length_ent : Enters Tryz.prog 72 := enters_of Tryz.func72 (by kernel_rfl) (by kernel_rfl)
theorem code_length (n : Int) :
    Pure Tryz.prog 72 #[.int .i64 n] [] (isV (.int .i64 (if n < 1 ∨ n > 64 then 4 else 0))) := by
  refine pure_of (args := [.int .i64 n]) 9 Tryz.func72 rfl rfl rfl code_length_ent trivial (fun w0 => ?_)
  refine tr_seq ?_
  refine tr_region fun _ _ _ => ?_
  refine pu rfl rfl rfl rfl rfl ?_
  refine tr_seq ?_
  refine tr_seq ?_
  refine tr_region fun _ _ _ => ?_
  iterate 3 refine pu rfl rfl rfl rfl rfl ?_
  refine stg rfl rfl rfl rfl rfl (fun hb => by (have hq := hb; try simp only [zbA] at hq); exact rMove rfl rfl) ?_
  refine stg rfl rfl rfl rfl rfl (fun hb => by (have hq := hb; try simp only [zbA] at hq); exact rGtr rfl (evg rfl hb) rfl) ?_
  refine st rfl rfl rfl rfl (rOrB rfl rfl rfl rfl) ?_
  refine tr_cond_bool rfl (fun h1 => ?_) (fun h1 => ?_)
  · try simp only [zbA] at h1
    refine tr_seq ?_
    refine tr_region fun _ _ _ => ?_
    refine pu rfl rfl rfl rfl rfl ?_
    exact tr_ret ⟨trivial, _, _, rfl, ⟨by rw [if_pos (by omega)], rfl⟩, CSub.nil _, trivial⟩
  · try simp only [zbA] at h1
    refine tr_skip ?_
    refine tr_seq ?_
    refine tr_region fun _ _ _ => ?_
    refine pu rfl rfl rfl rfl rfl ?_
    exact tr_ret ⟨trivial, _, _, rfl, ⟨by rw [if_neg (by omega)], rfl⟩, CSub.nil _, trivial⟩
theorem code_lengthOk (n : Int) (h1 : 1 ≤ n) (h2 : n ≤ 64) : Pure Tryz.prog 72 #[.int .i64 n] [] (isV (.int .i64 0)) := by
  have := code_length n
  rwa [if_neg (by omega)] at this
theorem rowsC_gd {q w : Int} {rs : List RowM} (h0 : 0 ≤ w) (h1 : w ≤ 256) (h2 : rs.length ≤ 256) (h : Gd q w.toNat rs) : rowsC q w (xss rs) = 0 :=
  rowsC_ok (by rw [xss_length]; exact ⟨h0, h1, by omega⟩) ((Gd_iff h0).1 h).1 ((Gd_iff h0).1 h).2
theorem Gd.h8 {q : Int} {w N : Nat} {rs : List RowM} (h : Gd q w rs) (hw : w ≤ N) : ∀ r ∈ rs, r.xs.length ≤ N := fun r hr => by have := (h r hr).1; omega
theorem IsF.short {p m : Int} {mod : List Int} (hF : IsF p m mod) : mod.length ≤ 8 := by
  have h := hF.out.1.1
  have := h.m8
  rcases h.low with h1 | h1
  · rw [h1.2]; simp
  · have := h1.2; omega
theorem code_New_ent : Enters Tryz.prog 70 := enters_of Tryz.func70 (by kernel_rfl) (by kernel_rfl)
theorem code_New (p m : Int) (A : Option Addr) (c : Nat) (mod : List Int) [hF : IsF p m mod] (w : Int) (Aa : Option Addr) (n ca : Nat) (rs : List RowM) (hn : n = rs.length) (h9 : rs.length ≤ 256) (hw1 : 1 ≤ w) (hw64 : w ≤ 64) (hgd : Gd (pw p m) w.toNat rs) :
    Pure Tryz.prog 70 #[.agg #[.int .i64 p, .int .i64 m, .slice A mod.length c], .agg #[.int .i64 w, .slice Aa n ca]] [ro A (ints mod), ro Aa (hdrs rs), rowsR rs] (three (fun v ca cb cc => ∃ Bm cm B r3, v = .tuple #[.agg #[.int .i64 p, .int .i64 m, .slice Bm mod.length cm, .int .i64 w, .slice B r3.length r3.length], .int .i64 0] ∧ ca = ow Bm 3 cm (ints mod) ∧ cb = rx B (hdrs r3) ∧ cc = rowsCh 3 r3 ∧ CdOf p m mod w.toNat r3 (fun u => Vc.SpL (vsR rs : List (Vc (El p m mod))) u))) := by
  have hl8 := hF.short
  have hE := rowsC_gd (by omega) (by omega) h9 hgd
  refine pure_ofC (args := [.agg #[.int .i64 p, .int .i64 m, .slice A mod.length c], .agg #[.int .i64 w, .slice Aa n ca]]) 27 Tryz.func70 rfl rfl rfl code_New_ent ⟨id, id, id, trivial⟩ (fun w0 => ?_)
  refine tr_seq ?_
  refine tr_region fun _ _ _ => ?_
  refine ef rfl rfl (eBox rfl rfl rfl rfl rfl (fun p0 => ?_)) 
  refine ef rfl rfl (eBox rfl rfl rfl rfl rfl (fun p0a => ?_)) 
  refine ef rfl rfl (eAlloc rfl rfl rfl (fun p0b => ?_)) 
  refine pu rfl rfl rfl rfl rfl ?_
  refine tr_seq ?_
  refine tr_region fun _ _ _ => ?_
  refine st rfl rfl rfl rfl (rLdS rfl rfl rfl) ?_
  refine st rfl rfl rfl rfl (rLdS rfl rfl rfl) ?_
  refine ef rfl rfl (eCall3 rfl rfl rfl (mat_CanonicalG _ _ _ _ _ (by omega) w _ _ _ rs hn (by omega) (hgd.h8 (by omega)) hE) ⟨rfl, rfl, trivial⟩ ?_) 
  rintro _ _ _ _ ⟨B, r3, Bp, cp, ps, rfl, rfl, rfl, rfl, hR, hk⟩
  iterate 4 refine pu rfl rfl rfl rfl rfl ?_
  refine ef rfl rfl (eAlloc rfl rfl rfl (fun p1a => ?_)) 
  refine ef rfl rfl (eStS rfl rfl rfl rfl rfl rfl ?_) 
  iterate 2 refine pu rfl rfl rfl rfl rfl ?_
  refine tr_seq ?_
  refine tr_seq ?_
  refine tr_region fun _ _ _ => ?_
  iterate 2 refine pu rfl rfl rfl rfl rfl ?_
  refine tr_cond_bool rfl (fun h2 => ?_) (fun h2 => ?_)
  · try simp only [zbA] at h2
    refine tr_region fun _ _ _ => ?_
    refine st rfl rfl rfl rfl (rFld rfl rfl) ?_
    refine st rfl rfl rfl rfl (rLdF rfl rfl rfl) ?_
    refine ef rfl rfl (eCallV rfl rfl rfl (code_lengthOk w hw1 hw64) ⟨rfl, trivial⟩ ?_) 
    refine pu rfl rfl rfl rfl rfl ?_
    refine tr_seq ?_
    refine tr_region fun _ _ _ => ?_
    refine st rfl rfl rfl rfl (rLdS rfl rfl rfl) ?_
    refine st rfl rfl rfl rfl (rLdS rfl rfl rfl) ?_
    refine pu rfl rfl rfl rfl rfl ?_
    refine ef rfl rfl (eCall1 rfl rfl rfl (code_of _ _ _ _ _ (by omega) _ _ _ _) ⟨rfl, rfl, rfl, trivial⟩ ?_) 
    rintro _ _ ⟨B4, c4, rfl, rfl⟩
    iterate 2 refine pu rfl rfl rfl rfl rfl ?_
    refine ef rfl rfl (eStS rfl rfl rfl rfl rfl rfl ?_) 
    refine pu rfl rfl rfl rfl rfl ?_
    exact tr_ret ⟨trivial, _, _, (.cell rfl (cellS rfl) (.tmp rfl .nil)), ⟨_, _, _, rfl, B4, c4, B, r3, rfl, rfl, rfl, rfl, hR.cd fun u => Iff.rfl⟩, cs _ _, trivial, trivial, trivial, trivial⟩
  · try simp only [zbA] at h2
    first | exact absurd trivial h2 | exact absurd rfl h2 | omega | (exact absurd h2 (by simp)) --done
theorem ref_CField_ent : Enters Tryz.prog 154 := enters_of Tryz.func154 (by kernel_rfl) (by kernel_rfl)
theorem ref_CField (p m : Int) (A : Option Addr) (c : Nat) (mod : List Int) (hl9 : mod.length ≤ 1000000) :
    Pure Tryz.prog 154 #[.agg #[.int .i64 p, .int .i64 m, .slice A mod.length c]] [ro A (ints mod)] (one (fun v ch => ∃ B cb, v = .agg #[.int .i64 p, .int .i64 m, .slice B mod.length cb] ∧ ch = ow B 3 cb (ints mod))) := by
  refine pure_ofC (args := [.agg #[.int .i64 p, .int .i64 m, .slice A mod.length c]]) 12 Tryz.func154 rfl rfl rfl ref_CField_ent ⟨id, trivial⟩ (fun w0 => ?_)
  refine tr_seq ?_
  refine tr_region fun _ _ _ => ?_
  refine ef rfl rfl (eBox rfl rfl rfl rfl rfl (fun p0 => ?_)) 
  refine ef rfl rfl (eAlloc rfl rfl rfl (fun p0a => ?_)) 
  refine tr_seq ?_
  refine tr_plan [blk p0 24 [.int .i64 p, .int .i64 m, .slice A mod.length c]] [(2, 0), (2, 1), (2, 2), (2, 3), (0, 5), (0, 6), (0, 4), (1, 7), (0, 8), (1, 9)] mixed (by kernel_rfl) fun _ _ _ => ?_
  refine stF rfl rfl rfl rfl (cs _ _) (rFld rfl rfl) ?_
  refine stF rfl rfl rfl rfl (cs _ _) (rLdF rfl rfl rfl) ?_
  refine stF rfl rfl rfl rfl (cs _ _) (rFld rfl rfl) ?_
  refine stF rfl rfl rfl rfl (cs _ _) (rLdF rfl rfl rfl) ?_
  refine st rfl rfl rfl rfl (rFld rfl rfl) ?_
  refine st rfl rfl rfl rfl (rLdF rfl rfl rfl) ?_
  refine ef rfl rfl (eLit0I rfl rfl rfl  (fun A1 => ?_)) 
  refine ef rfl rfl (eAppI rfl rfl rfl rfl rfl (by first | rfl | simp | omega) (by first | rfl | simp | omega) (by first | omega | (simp; omega)) (fun A1a c1a => ?_)) 
  refine ⟨cs _ _, ?_⟩
  refine st rfl rfl rfl rfl (rBuild rfl rfl) ?_
  refine ef rfl rfl (eStS rfl rfl rfl rfl rfl rfl ?_) 
  refine ⟨cs _ _, ?_⟩
  simp only [List.nil_append]
  exact tr_ret ⟨trivial, _, _, (.cell rfl (cellS rfl) .nil), ⟨_, rfl, A1a, c1a, rfl, rfl⟩, cs _ _, trivial, trivial⟩
theorem ref_Make_ent : Enters Tryz.prog 105 := enters_of Tryz.func105 (by kernel_rfl) (by kernel_rfl)
theorem ref_Make (p m : Int) (A : Option Addr) (c : Nat) (mod : List Int) [hF : IsF p m mod] (w : Int) (Aa : Option Addr) (n ca : Nat) (rs : List RowM) (hn : n = rs.length) (h9 : rs.length ≤ 1000000) (hw1 : 1 ≤ w) (hw64 : w ≤ 64) (hgd : Gd (pw p m) w.toNat rs) :
    Pure Tryz.prog 105 #[.agg #[.int .i64 p, .int .i64 m, .slice A mod.length c], .slice Aa n ca, .int .i64 w] [ro A (ints mod), ro Aa (hdrs rs), rowsR rs] (three (fun v ca cb cc => ∃ Bm cm B cg r3, v = .agg #[.int .i64 p, .int .i64 m, .slice Bm mod.length cm, .int .i64 w, .slice B r3.length cg] ∧ ca = ow Bm 3 cm (ints mod) ∧ cb = ow B 22 cg (hdrs r3) ∧ cc = rowsCh 3 r3 ∧ CdOf p m mod w.toNat r3 (fun u => Vc.SpL (vsR rs : List (Vc (El p m mod))) u))) := by
  have hl8 := hF.short
  refine pure_ofC (args := [.agg #[.int .i64 p, .int .i64 m, .slice A mod.length c], .slice Aa n ca, .int .i64 w]) 21 Tryz.func105 rfl rfl rfl ref_Make_ent ⟨id, id, id, trivial⟩ (fun w0 => ?_)
  refine tr_seq ?_
  refine tr_region fun _ _ _ => ?_
  refine ef rfl rfl (eBox rfl rfl rfl rfl rfl (fun p0 => ?_)) 
  refine ef rfl rfl (eAlloc rfl rfl rfl (fun p0a => ?_)) 
  refine tr_seq ?_
  refine tr_region fun _ _ _ => ?_
  refine st rfl rfl rfl rfl (rLdS rfl rfl rfl) ?_
  iterate 2 refine pu rfl rfl rfl rfl rfl ?_
  refine ef rfl rfl (eCall3 rfl rfl rfl (ref_RCanon _ _ _ _ _ w (by omega) (by omega) _ _ _ rs hn (by omega) hgd) ⟨rfl, rfl, rfl, trivial⟩ ?_) 
  rintro _ _ _ _ ⟨r3, B, cg, Bp, cp, ps, rfl, rfl, rfl, rfl, hR, hk⟩
  iterate 5 refine pu rfl rfl rfl rfl rfl ?_
  refine tr_seq ?_
  refine tr_region fun _ _ _ => ?_
  refine st rfl rfl rfl rfl (rLdS rfl rfl rfl) ?_
  refine ef rfl rfl (eCall1 rfl rfl rfl (ref_CField _ _ _ _ _ (by omega)) ⟨rfl, trivial⟩ ?_) 
  rintro _ _ ⟨B2, c2, rfl, rfl⟩
  iterate 2 refine pu rfl rfl rfl rfl rfl ?_
  refine st rfl rfl rfl rfl (rBuild rfl rfl) ?_
  refine ef rfl rfl (eStS rfl rfl rfl rfl rfl rfl ?_) 
  exact tr_ret ⟨trivial, _, _, (.cell rfl (cellS rfl) .nil), ⟨_, _, _, rfl, B2, c2, B, cg, r3, rfl, rfl, rfl, rfl, hR.cd fun u => Iff.rfl⟩, cs _ _, trivial, trivial, trivial, trivial⟩
theorem ref_FSame_ent : Enters Tryz.prog 53 := enters_of Tryz.func53 (by kernel_rfl) (by kernel_rfl)
theorem ref_FSame (p m : Int) (A : Option Addr) (c : Nat) (mod : List Int) (p2 m2 : Int) (A2 : Option Addr) (c2 : Nat) (mod2 : List Int) (hl9 : mod.length ≤ 17592186044415) :
    Pure Tryz.prog 53 #[.agg #[.int .i64 p, .int .i64 m, .slice A mod.length c], .agg #[.int .i64 p2, .int .i64 m2, .slice A2 mod2.length c2]] [ro A (ints mod), ro A2 (ints mod2)] (isV (.bool (decide (p = p2 ∧ m = m2 ∧ mod = mod2)))) := by
  refine pure_of (args := [.agg #[.int .i64 p, .int .i64 m, .slice A mod.length c], .agg #[.int .i64 p2, .int .i64 m2, .slice A2 mod2.length c2]]) 45 Tryz.func53 rfl rfl rfl ref_FSame_ent ⟨id, id, trivial⟩ (fun w0 => ?_)
  refine tr_seq ?_
  refine tr_region fun _ _ _ => ?_
  refine ef rfl rfl (eBox rfl rfl rfl rfl rfl (fun p0 => ?_)) 
  refine ef rfl rfl (eBox rfl rfl rfl rfl rfl (fun p0a => ?_)) 
  refine pu rfl rfl rfl rfl rfl ?_
  refine tr_seq ?_
  refine tr_seq ?_
  refine tr_region fun _ _ _ => ?_
  refine st rfl rfl rfl rfl (rFld rfl rfl) ?_
  refine st rfl rfl rfl rfl (rLdF rfl rfl rfl) ?_
  refine st rfl rfl rfl rfl (rFld rfl rfl) ?_
  refine st rfl rfl rfl rfl (rLdF rfl rfl rfl) ?_
  iterate 2 refine pu rfl rfl rfl rfl rfl ?_
  refine stg rfl rfl rfl rfl rfl (fun hb => by (have hq := hb; try simp only [zbA] at hq); exact rFld rfl rfl) ?_
  refine stg rfl rfl rfl rfl rfl (fun hb => by (have hq := hb; try simp only [zbA] at hq); exact rLdF rfl (evg rfl hb) rfl) ?_
  refine stg rfl rfl rfl rfl rfl (fun hb => by (have hq := hb; try simp only [zbA] at hq); exact rFld rfl rfl) ?_
  refine stg rfl rfl rfl rfl rfl (fun hb => by (have hq := hb; try simp only [zbA] at hq); exact rLdF rfl (evg rfl hb) rfl) ?_
  refine stg rfl rfl rfl rfl rfl (fun hb => by (have hq := hb; try simp only [zbA] at hq); exact rNeq rfl (evg rfl hb) (evg rfl hb)) ?_
  refine st rfl rfl rfl rfl (rOrB rfl rfl rfl rfl) ?_
  refine pu rfl rfl rfl rfl rfl ?_
  refine stg rfl rfl rfl rfl rfl (fun hb => by (have hq := hb; try simp only [zbA] at hq); exact rFld rfl rfl) ?_
  refine stg rfl rfl rfl rfl rfl (fun hb => by (have hq := hb; try simp only [zbA] at hq); exact rLdF rfl (evg rfl hb) rfl) ?_
  refine stg rfl rfl rfl rfl rfl (fun hb => by (have hq := hb; try simp only [zbA] at hq); exact rLen rfl (evg rfl hb)) ?_
  refine stg rfl rfl rfl rfl rfl (fun hb => by (have hq := hb; try simp only [zbA] at hq); exact rFld rfl rfl) ?_
  refine stg rfl rfl rfl rfl rfl (fun hb => by (have hq := hb; try simp only [zbA] at hq); exact rLdF rfl (evg rfl hb) rfl) ?_
  refine stg rfl rfl rfl rfl rfl (fun hb => by (have hq := hb; try simp only [zbA] at hq); exact rLen rfl (evg rfl hb)) ?_
  refine stg rfl rfl rfl rfl rfl (fun hb => by (have hq := hb; try simp only [zbA] at hq); exact rNeq rfl (evg rfl hb) (evg rfl hb)) ?_
  refine st rfl rfl rfl rfl (rOrB rfl rfl rfl rfl) ?_
  refine tr_cond_bool rfl (fun h1 => ?_) (fun h1 => ?_)
  · try simp only [zbA] at h1
    refine tr_seq ?_
    refine tr_region fun _ _ _ => ?_
    refine pu rfl rfl rfl rfl rfl ?_
    exact tr_ret ⟨trivial, _, _, rfl, ⟨by rw [decide_eq_false (fun h => by obtain ⟨ha, hb, hc⟩ := h; rw [ha, hb, hc] at h1; omega)], rfl⟩, CSub.nil _, trivial⟩
  · try simp only [zbA] at h1
    refine tr_skip ?_
    refine tr_seq ?_
    refine tr_seq ?_
    refine tr_region fun _ _ _ => ?_
    refine pu rfl rfl rfl rfl rfl ?_
    refine tr_block ?_
    refine tr_loop1 (fun (i : Nat) => [(5, .int .i64 i), (2, .pointer (some p0)), (3, .pointer (some p0a))]) (fun (i : Nat) => [blk p0 24 [.int .i64 p, .int .i64 m, .slice A mod.length c], blk p0a 24 [.int .i64 p2, .int .i64 m2, .slice A2 mod2.length c2], ro A (ints mod), ro A2 (ints mod2)]) (fun (i : Nat) => i ≤ mod.length ∧ mod.take i = mod2.take i) (fun (i : Nat) => mod.length - i) (0) ⟨rfl, rfl, rfl, trivial⟩ (by first | exact cs _ _ | exact CSub.refl _) (⟨by omega, rfl⟩) (fun i hI => ?_)
    obtain ⟨hi, ht⟩ := hI
    have hll : mod.length = mod2.length := by omega
    refine tr_seq ?_
    refine tr_seq ?_
    refine tr_region fun _ _ _ => ?_
    refine pu rfl rfl rfl rfl rfl ?_
    refine st rfl rfl rfl rfl (rFld rfl rfl) ?_
    refine st rfl rfl rfl rfl (rLdF rfl rfl rfl) ?_
    refine st rfl rfl rfl rfl (rLen rfl rfl) ?_
    refine pu rfl rfl rfl rfl rfl ?_
    refine tr_cond_bool rfl (fun h4 => ?_) (fun h4 => ?_)
    · try simp only [zbA] at h4
      refine tr_skip ?_
      refine tr_seq ?_
      refine tr_block ?_
      refine tr_seq ?_
      refine tr_draw [0, 1, 2, 3, 4, 5, 6, 7, 8, 9, 10] [] mixed (by kernel_rfl) fun _ _ _ => ?_
      refine st rfl rfl rfl rfl (rFld rfl rfl) ?_
      refine st rfl rfl rfl rfl (rLdF rfl rfl rfl) ?_
      refine pu rfl rfl rfl rfl rfl ?_
      refine st rfl rfl rfl rfl (rIdxI rfl rfl rfl (by omega) (by omega) (by omega)) ?_
      refine st rfl rfl rfl rfl (rLdI rfl rfl (by omega)) ?_
      refine st rfl rfl rfl rfl (rFld rfl rfl) ?_
      refine st rfl rfl rfl rfl (rLdF rfl rfl rfl) ?_
      refine pu rfl rfl rfl rfl rfl ?_
      refine st rfl rfl rfl rfl (rIdxI rfl rfl rfl (by omega) (by omega) (by omega)) ?_
      refine st rfl rfl rfl rfl (rLdI rfl rfl (by omega)) ?_
      refine pu rfl rfl rfl rfl rfl ?_
      refine tr_cond_bool rfl (fun h6 => ?_) (fun h6 => ?_)
      · try simp only [zbA] at h6
        refine tr_seq ?_
        refine tr_region fun _ _ _ => ?_
        refine pu rfl rfl rfl rfl rfl ?_
        exact tr_ret ⟨trivial, _, _, rfl, ⟨by rw [decide_eq_false (fun h => h6 (by rw [h.2.2]))], rfl⟩, CSub.nil _, trivial⟩
      · try simp only [zbA] at h6
        refine tr_skip ?_
        refine tr_region fun _ _ _ => ?_
        refine pu rfl rfl rfl rfl rfl ?_
        refine st rfl rfl rfl rfl (rAdd rfl rfl rfl (by omega) (by omega)) ?_
        refine pu rfl rfl rfl rfl rfl ?_
        refine ⟨i + 1, ⟨rfl, rfl, rfl, trivial⟩, by first | exact cs _ _ | exact CSub.refl _, ?_⟩
        exact ⟨⟨by omega, take_eq_next 0 mod mod2 hll (by omega) ht (by simpa using h6)⟩, by omega⟩
    · try simp only [zbA] at h4
      refine tr_exit ?_
      refine tr_seq ?_
      refine tr_region fun _ _ _ => ?_
      refine pu rfl rfl rfl rfl rfl ?_
      have hia : i = mod.length := by omega
      rw [hia, List.take_length, hll, List.take_length] at ht
      exact tr_ret ⟨trivial, _, _, rfl, ⟨by rw [decide_eq_true ⟨by omega, by omega, ht⟩], rfl⟩, CSub.nil _, trivial⟩
theorem ref_CSame_ent : Enters Tryz.prog 19 := enters_of Tryz.func19 (by kernel_rfl) (by kernel_rfl)
theorem ref_CSame (p m : Int) (A : Option Addr) (c : Nat) (mod : List Int) (hl9 : mod.length ≤ 17592186044415) (w : Int) (B : Option Addr) (n d : Nat) (rs : List RowM) (hn : n = rs.length) (h9 : rs.length ≤ 1000000000000) (h8 : ∀ r ∈ rs, r.xs.length ≤ 1000000000000) (p2 m2 : Int) (A2 : Option Addr) (c2 : Nat) (mod2 : List Int) (w2 : Int) (B2 : Option Addr) (n2 d2 : Nat) (qs : List RowM) (hn2 : n2 = qs.length) :
    Pure Tryz.prog 19 #[.agg #[.int .i64 p, .int .i64 m, .slice A mod.length c, .int .i64 w, .slice B n d], .agg #[.int .i64 p2, .int .i64 m2, .slice A2 mod2.length c2, .int .i64 w2, .slice B2 n2 d2]] [ro A (ints mod), ro B (hdrs rs), rowsR rs, ro A2 (ints mod2), ro B2 (hdrs qs), rowsR qs] (isV (.bool ((decide (p = p2 ∧ m = m2 ∧ mod = mod2) && decide (w = w2)) && decide (xss rs = xss qs)))) := by
  refine pure_of (args := [.agg #[.int .i64 p, .int .i64 m, .slice A mod.length c, .int .i64 w, .slice B n d], .agg #[.int .i64 p2, .int .i64 m2, .slice A2 mod2.length c2, .int .i64 w2, .slice B2 n2 d2]]) 24 Tryz.func19 rfl rfl rfl ref_CSame_ent ⟨id, id, id, id, id, id, trivial⟩ (fun w0 => ?_)
  refine tr_seq ?_
  refine tr_region fun _ _ _ => ?_
  refine ef rfl rfl (eBox rfl rfl rfl rfl rfl (fun p0 => ?_)) 
  refine ef rfl rfl (eBox rfl rfl rfl rfl rfl (fun p0a => ?_)) 
  refine pu rfl rfl rfl rfl rfl ?_
  refine tr_seq ?_
  refine tr_region fun _ _ _ => ?_
  refine st rfl rfl rfl rfl (rFld rfl rfl) ?_
  refine st rfl rfl rfl rfl (rLdSF rfl rfl) ?_
  refine st rfl rfl rfl rfl (rFld rfl rfl) ?_
  refine st rfl rfl rfl rfl (rLdSF rfl rfl) ?_
  refine ef rfl rfl (eCallV rfl rfl rfl (ref_FSame _ _ _ _ _ _ _ _ _ _ hl9) ⟨rfl, rfl, trivial⟩ ?_) 
  refine pu rfl rfl rfl rfl rfl ?_
  refine stg rfl rfl rfl rfl rfl (fun hb => by (have hq := hb; try simp only [zbA] at hq); exact rFld rfl rfl) ?_
  refine stg rfl rfl rfl rfl rfl (fun hb => by (have hq := hb; try simp only [zbA] at hq); exact rLdF rfl (evg rfl hb) rfl) ?_
  refine stg rfl rfl rfl rfl rfl (fun hb => by (have hq := hb; try simp only [zbA] at hq); exact rFld rfl rfl) ?_
  refine stg rfl rfl rfl rfl rfl (fun hb => by (have hq := hb; try simp only [zbA] at hq); exact rLdF rfl (evg rfl hb) rfl) ?_
  refine stg rfl rfl rfl rfl rfl (fun hb => by (have hq := hb; try simp only [zbA] at hq); exact rEql rfl (evg rfl hb) (evg rfl hb)) ?_
  refine st rfl rfl rfl rfl (rAndB rfl rfl rfl rfl) ?_
  refine pu rfl rfl rfl rfl rfl ?_
  refine stg rfl rfl rfl rfl rfl (fun hb => by (have hq := hb; try simp only [zbA] at hq); exact rFld rfl rfl) ?_
  refine stg rfl rfl rfl rfl rfl (fun hb => by (have hq := hb; try simp only [zbA] at hq); exact rLdF rfl (evg rfl hb) rfl) ?_
  refine stg rfl rfl rfl rfl rfl (fun hb => by (have hq := hb; try simp only [zbA] at hq); exact rFld rfl rfl) ?_
  refine stg rfl rfl rfl rfl rfl (fun hb => by (have hq := hb; try simp only [zbA] at hq); exact rLdF rfl (evg rfl hb) rfl) ?_
  refine efg rfl rfl rfl rfl rfl (fun hb => by (have hq := hb; try simp only [zbA] at hq); exact eCallV rfl rfl rfl (ref_SameRows _ _ _ rs hn _ _ _ qs hn2 h9 h8) ⟨(evg rfl hb), (evg rfl hb), trivial⟩ ⟨rfl, rfl⟩) ?_
  refine st rfl rfl rfl rfl (rAndB rfl rfl rfl rfl) ?_
  refine pu rfl rfl rfl rfl rfl ?_
  exact tr_ret ⟨trivial, _, _, rfl, ⟨rfl, rfl⟩, CSub.nil _, trivial⟩
end Go.Proofs.YtgnmcoegdogfgaaGreat

set_option linter.unusedSimpArgs false
set_option linter.unusedVariables false
set_option maxRecDepth 100000
namespace Go.Proofs.YtgnmcoegdogfgaaGreat
open Go.RowKit
theorem cyc_New_ent : Enters Tryz.prog 27 := enters_of Tryz.func27 (by kernel_rfl) (by kernel_rfl)
theorem cyc_New (p m : Int) (A : Option Addr) (c : Nat) (mod : List Int) [hF : IsF p m mod] (n : Int) (hn1 : 1 ≤ n) (hn9 : n ≤ 64) (Al : Option Addr) (nl cl : Nat) (l : List Int) (hnl : nl = l.length) (hl : l.length ≤ 100000) (hin : AllIn (pw p m) l) :
    Pure Tryz.prog 27 #[.agg #[.int .i64 p, .int .i64 m, .slice A mod.length c], .int .i64 n, .slice Al nl cl] [ro A (ints mod), ro Al (ints l)] (three (fun v ca cb cc => ∃ Bm cm B r3, v = .tuple #[.agg #[.int .i64 p, .int .i64 m, .slice Bm mod.length cm, .int .i64 n, .slice B r3.length r3.length], .int .i64 0] ∧ ca = ow Bm 3 cm (ints mod) ∧ cb = rx B (hdrs r3) ∧ cc = rowsCh 3 r3 ∧ CdOf p m mod n.toNat r3 (CyW n.toNat (Po.gcd (pol l : Po (El p m mod)) (xn1 n.toNat))))) := by
  have hq2 := hF.q2
  have hgl : (il (Po.gcd (pol l : Po (El p m mod)) (xn1 n.toNat))).length ≤ n.toNat + 1 := by
    rw [il_length]; have := Po.dvd_len (Po.gcd_is (pol l : Po (El p m mod)) (xn1 n.toNat)).right (xn1_ne (by omega)); rw [xn1_len (by omega)] at this; exact this
  have hg0 : 1 ≤ (il (Po.gcd (pol l : Po (El p m mod)) (xn1 n.toNat))).length := by
    rw [il_length]; exact Po.len_pos (Po.gcd_ne (.inr (xn1_ne (by omega))))
  have hgi := il_in (Po.gcd (pol l : Po (El p m mod)) (xn1 n.toNat))
  refine pure_ofC (args := [.agg #[.int .i64 p, .int .i64 m, .slice A mod.length c], .int .i64 n, .slice Al nl cl]) 77 Tryz.func27 rfl rfl rfl cyc_New_ent ⟨id, id, trivial⟩ (fun w0 => ?_)
  refine tr_seq ?_
  refine tr_region fun _ _ _ => ?_
  refine ef rfl rfl (eBox rfl rfl rfl rfl rfl (fun p0 => ?_)) 
  refine ef rfl rfl (eAlloc rfl rfl rfl (fun p0a => ?_)) 
  refine pu rfl rfl rfl rfl rfl ?_
  refine tr_seq ?_
  refine tr_region fun _ _ _ => ?_
  refine st rfl rfl rfl rfl (rLdS rfl rfl rfl) ?_
  refine ef rfl rfl (eCall1 rfl rfl rfl (fld_New_ok _ _ _ _ _ (by have := hF.short; omega) hF.out) ⟨rfl, trivial⟩ ?_) 
  rintro _ _ ⟨g, rfl, rfl, hg⟩
  iterate 5 refine pu rfl rfl rfl rfl rfl ?_
  refine tr_seq ?_
  refine tr_seq ?_
  refine tr_region fun _ _ _ => ?_
  iterate 2 refine pu rfl rfl rfl rfl rfl ?_
  refine tr_cond_bool rfl (fun h2 => ?_) (fun h2 => ?_)
  · try simp only [zbA] at h2
    first | exact absurd trivial h2 | exact absurd rfl h2 | omega --done
  · try simp only [zbA] at h2
    refine tr_skip ?_
    refine tr_seq ?_
    refine tr_seq ?_
    refine tr_region fun _ _ _ => ?_
    iterate 3 refine pu rfl rfl rfl rfl rfl ?_
    refine stg rfl rfl rfl rfl rfl (fun hb => by (have hq := hb; try simp only [zbA] at hq); exact rMove rfl rfl) ?_
    refine stg rfl rfl rfl rfl rfl (fun hb => by (have hq := hb; try simp only [zbA] at hq); exact rGtr rfl (evg rfl hb) rfl) ?_
    refine st rfl rfl rfl rfl (rOrB rfl rfl rfl rfl) ?_
    refine tr_cond_bool rfl (fun h4 => ?_) (fun h4 => ?_)
    · try simp only [zbA] at h4
      omega --done
    · try simp only [zbA] at h4
      refine tr_skip ?_
      refine tr_seq ?_
      refine tr_seq ?_
      refine tr_region fun _ _ _ => ?_
      refine pu rfl rfl rfl rfl rfl ?_
      refine st rfl rfl rfl rfl (rLen rfl rfl) ?_
      refine pu rfl rfl rfl rfl rfl ?_
      refine tr_block ?_
      refine tr_loop1 (fun (k : Int) => [(34, .int .i64 k), (1, .int .i64 n), (2, .slice Al nl cl), (3, .pointer (some p0)), (6, .pointer (some p0a)), (8, .pointer (some g.p)), (32, .slice Al nl cl), (33, .int .i64 nl)]) (fun (k : Int) => [gfN g, blk p0 24 [.int .i64 p, .int .i64 m, .slice A mod.length c], blk p0a 27 [.int .i64 0, .int .i64 0, .slice none 0 0, .int .i64 0, .slice none 0 0], ro A (ints mod), ro Al (ints l)]) (fun (k : Int) => 0 ≤ k ∧ k ≤ nl) (fun (k : Int) => (nl - k).toNat) (0) ⟨rfl, rfl, rfl, rfl, rfl, rfl, rfl, rfl, trivial⟩ (by first | exact cs _ _ | exact CSub.refl _) (by omega) (fun k hI => ?_)
      refine tr_seq ?_
      refine tr_region fun _ _ _ => ?_
      refine pu rfl rfl rfl rfl rfl ?_
      refine tr_seq ?_
      refine tr_cond_bool rfl (fun h7 => ?_) (fun h7 => ?_)
      · try simp only [zbA] at h7
        refine tr_skip ?_
        refine tr_seq ?_
        refine tr_block ?_
        refine tr_seq ?_
        refine tr_region fun _ _ _ => ?_
        refine st rfl rfl rfl rfl (rIdxI rfl rfl rfl (by omega) (by omega) (by omega)) ?_
        refine st rfl rfl rfl rfl (rLdI rfl rfl (by omega)) ?_
        refine pu rfl rfl rfl rfl rfl ?_
        refine tr_seq ?_
        refine tr_region fun _ _ _ => ?_
        iterate 2 refine pu rfl rfl rfl rfl rfl ?_
        refine ef rfl rfl (eCallV rfl rfl rfl (gf_Is g _) ⟨rfl, rfl, trivial⟩ ?_) 
        refine st rfl rfl rfl rfl (rNotB rfl rfl) ?_
        refine tr_cond_bool rfl (fun h9 => ?_) (fun h9 => ?_)
        · try simp only [zbA] at h9
          have hb := hin.get (by omega) k.toNat
          have heq := hg.eq
          rw [heq] at h9
          omega --done
        · try simp only [zbA] at h9
          refine tr_skip ?_
          refine tr_region fun _ _ _ => ?_
          refine st rfl rfl rfl rfl (rAdd rfl rfl rfl (by omega) (by omega)) ?_
          refine pu rfl rfl rfl rfl rfl ?_
          refine ⟨k + 1, ⟨rfl, rfl, rfl, rfl, rfl, rfl, rfl, rfl, trivial⟩, by first | exact cs _ _ | exact CSub.refl _, ?_⟩
          omega
      · try simp only [zbA] at h7
        refine tr_exit ?_
        refine tr_seq ?_
        refine tr_region fun _ _ _ => ?_
        iterate 4 refine pu rfl rfl rfl rfl rfl ?_
        refine ef rfl rfl (eCall1 rfl rfl rfl (cyc_around g hg n hn1 (by omega)) ⟨rfl, rfl, trivial⟩ ?_) 
        rintro _ _ ⟨B12, rfl, rfl⟩
        refine ef rfl rfl (eCall1 rfl rfl rfl (poly_Gcd g hg _ _ _ l hnl (by omega) B12 _ _ (aroundL p m mod n.toNat) rfl (by rw [around_length]; omega) (.inr (by rw [pol_around (by omega)]; exact xn1_ne (by omega)))) ⟨rfl, rfl, rfl, trivial⟩ ?_) 
        rintro _ _ ⟨Bg, cg, rfl, rfl⟩
        refine pu rfl rfl rfl rfl rfl ?_
        simp only [pol_around (p := p) (m := m) (mod := mod) (show 1 ≤ n.toNat by omega)]
        generalize hgen : (il (Po.gcd (pol l : Po (El p m mod)) (xn1 n.toNat))) = gen at *
        refine tr_seq ?_
        refine tr_region fun _ _ _ => ?_
        refine pu rfl rfl rfl rfl rfl ?_
        refine tr_seq ?_
        refine tr_seq ?_
        refine tr_region fun _ _ _ => ?_
        refine pu rfl rfl rfl rfl rfl ?_
        refine st rfl rfl rfl rfl (rAdd rfl rfl rfl (by omega) (by omega)) ?_
        refine pu rfl rfl rfl rfl rfl ?_
        refine st rfl rfl rfl rfl (rLen rfl rfl) ?_
        refine st rfl rfl rfl rfl (rSub rfl rfl rfl (by omega) (by omega)) ?_
        refine pu rfl rfl rfl rfl rfl ?_
        refine tr_block ?_
        refine tr_nilR 22 3 ?_
        refine tr_loop4 (fun (k : Int) (AQ : Option Addr) (cq : Nat) (qs : List RowM) => [(12, .slice Bg gen.length cg), (13, .slice AQ qs.length cq), (54, .int .i64 (n + 1 - gen.length)), (55, .int .i64 k), (1, .int .i64 n), (3, .pointer (some p0)), (6, .pointer (some p0a))]) (fun (k : Int) (AQ : Option Addr) (cq : Nat) (qs : List RowM) => [ow AQ 22 cq (hdrs qs), rowsCh 3 qs, ow Bg 3 cg (ints gen), gfN g, blk p0 24 [.int .i64 p, .int .i64 m, .slice A mod.length c], blk p0a 27 [.int .i64 0, .int .i64 0, .slice none 0 0, .int .i64 0, .slice none 0 0], ro A (ints mod), ro Al (ints l)]) (fun (k : Int) (AQ : Option Addr) (cq : Nat) (qs : List RowM) => (0 ≤ k ∧ k ≤ n + 1 - gen.length) ∧ xss qs = (List.range k.toNat).map (shR n.toNat gen)) (fun (k : Int) (AQ : Option Addr) (cq : Nat) (qs : List RowM) => (n + 1 - gen.length - k).toNat) (0) (none) (0) ([]) ⟨rfl, rfl, rfl, rfl, rfl, rfl, rfl, trivial⟩ (by first | exact cs _ _ | exact CSub.refl _) (⟨⟨by omega, by omega⟩, rfl⟩) (fun k AQ cq qs hI => ?_)
        obtain ⟨⟨hk0, hk1⟩, hqs⟩ := hI
        have hql : qs.length = k.toNat := by have := congrArg List.length hqs; simpa using this
        refine tr_seq ?_
        refine tr_region fun _ _ _ => ?_
        refine pu rfl rfl rfl rfl rfl ?_
        refine tr_seq ?_
        refine tr_cond_bool rfl (fun h15 => ?_) (fun h15 => ?_)
        · try simp only [zbA] at h15
          refine tr_skip ?_
          refine tr_seq ?_
          refine tr_block ?_
          refine tr_seq ?_
          refine tr_region fun _ _ _ => ?_
          iterate 2 refine pu rfl rfl rfl rfl rfl ?_
          refine tr_seq ?_
          refine tr_region fun _ _ _ => ?_
          refine pu rfl rfl rfl rfl rfl ?_
          refine ef rfl rfl (eMakeI rfl rfl rfl rfl rfl (by omega) (by omega) (by omega) (fun A17 => ?_)) 
          refine pu rfl rfl rfl rfl rfl ?_
          refine tr_seq ?_
          refine tr_region fun _ _ _ => ?_
          iterate 2 refine pu rfl rfl rfl rfl rfl ?_
          refine st rfl rfl rfl rfl (rCut rfl rfl rfl (by omega) (by omega) (by omega)) ?_
          refine pu rfl rfl rfl rfl rfl ?_
          refine ef rfl rfl (eCopyI rfl rfl rfl rfl rfl rfl (by first | omega | (simp; omega)) (by first | omega | (simp; omega)) ?_) 
          rw [shR_def]
          refine tr_region fun _ _ _ => ?_
          iterate 2 refine pu rfl rfl rfl rfl rfl ?_
          refine ef rfl rfl (eLit1 rfl rfl rfl rfl rfl (fun A19 => ?_)) 
          refine ef rfl rfl (eAppRn (shR n.toNat gen k.toNat) (shR_length (by omega)).symm rfl rfl rfl rfl rfl (by first | rfl | simp) (by omega) (fun A19a c19a => ?_)) 
          refine pu rfl rfl rfl rfl rfl ?_
          refine tr_region fun _ _ _ => ?_
          refine st rfl rfl rfl rfl (rAdd rfl rfl rfl (by omega) (by omega)) ?_
          refine pu rfl rfl rfl rfl rfl ?_
          refine ⟨k + 1, A19a, c19a, qs ++ [⟨A17, n.toNat, shR n.toNat gen k.toNat⟩], ⟨rfl, rfl, rfl, rfl, rfl, rfl, rfl, trivial⟩, by exact rows_app, ?_⟩
          refine ⟨⟨⟨by omega, by omega⟩, ?_⟩, by omega⟩
          rw [xss_snoc, hqs, show (k + 1).toNat = k.toNat + 1 by omega, List.range_succ, List.map_append]
          rfl
        · try simp only [zbA] at h15
          refine tr_exit ?_
          refine tr_seq ?_
          have hke : k = n + 1 - gen.length := by omega
          have hgdq : Gd (pw p m) n.toNat qs := by
            refine (Gd_iff (by omega)).2 ⟨fun r hr => ?_, fun r hr => ?_⟩
            · rw [hqs] at hr
              obtain ⟨j, hj, rfl⟩ := List.mem_map.1 hr
              rw [List.mem_range] at hj
              rw [shR_length (by omega)]; omega
            · rw [hqs] at hr
              obtain ⟨j, hj, rfl⟩ := List.mem_map.1 hr
              rw [List.mem_range] at hj
              exact shR_in (by omega) (by omega) hgi
          refine tr_region fun _ _ _ => ?_
          refine st rfl rfl rfl rfl (rLdS rfl rfl rfl) ?_
          iterate 2 refine pu rfl rfl rfl rfl rfl ?_
          refine st rfl rfl rfl rfl (rBuild rfl rfl) ?_
          refine ef rfl rfl (eCall3 rfl rfl rfl (code_New _ _ _ _ _ n AQ _ cq qs rfl (by omega) hn1 hn9 hgdq) ⟨rfl, rfl, trivial⟩ ?_) 
          rintro _ _ _ _ ⟨Bm, cm, B, r3, rfl, rfl, rfl, rfl, hC⟩
          iterate 2 refine pu rfl rfl rfl rfl rfl ?_
          refine ef rfl rfl (eStS rfl rfl rfl rfl rfl rfl ?_) 
          refine pu rfl rfl rfl rfl rfl ?_
          have hW : ∀ u, Vc.SpL (vsR qs : List (Vc (El p m mod))) u ↔ CyW n.toNat (Po.gcd (pol l : Po (El p m mod)) (xn1 n.toNat)) u := by
            have hlen : Po.len (Po.gcd (pol l : Po (El p m mod)) (xn1 n.toNat)) = (gen.length - 1) + 1 := by rw [← il_length, hgen]; omega
            refine span_shifts hlen (by omega) (by rw [vsR_length, hql]; omega) fun i hi j => ?_
            rw [vsR_get, ← xss_getD, hqs, List.getD_eq_getElem?_getD, List.getElem?_map, List.getElem?_range (by omega)]
            rw [← hgen]
            exact shR_cf (by rw [hgen]; omega) j
          exact tr_ret ⟨trivial, _, _, (.cell rfl (cellS rfl) (.tmp rfl .nil)), ⟨_, _, _, rfl, Bm, cm, B, r3, rfl, rfl, rfl, rfl, hC.iff hW⟩, cs _ _, trivial, trivial, trivial, trivial⟩
theorem chkF_zero {p m : Int} {mod : List Int} (h : FldR p m mod) : chkF p m mod = 0 := (chkF_cases p m mod).elim (·.2) (fun k => absurd h k.1)
theorem ref_Generated_ent : Enters Tryz.prog 56 := enters_of Tryz.func56 (by kernel_rfl) (by kernel_rfl)
theorem ref_Generated (p m : Int) (A : Option Addr) (c : Nat) (mod : List Int) [hF : IsF p m mod] (n : Int) (hn1 : 1 ≤ n) (hn9 : n ≤ 64) (Al : Option Addr) (nl cl : Nat) (l : List Int) (hnl : nl = l.length) (hl : l.length ≤ 100000) :
    Pure Tryz.prog 56 #[.agg #[.int .i64 p, .int .i64 m, .slice A mod.length c], .int .i64 n, .slice Al nl cl] [ro A (ints mod), ro Al (ints l)] (three (fun v ca cb cc => ∃ Bm cm B cg r3, v = .agg #[.int .i64 p, .int .i64 m, .slice Bm mod.length cm, .int .i64 n, .slice B r3.length cg] ∧ ca = ow Bm 3 cm (ints mod) ∧ cb = ow B 22 cg (hdrs r3) ∧ cc = rowsCh 3 r3 ∧ CdOf p m mod n.toNat r3 (CyW n.toNat (Po.gcd (pol l : Po (El p m mod)) (xn1 n.toNat))))) := by
  refine pure_ofC (args := [.agg #[.int .i64 p, .int .i64 m, .slice A mod.length c], .int .i64 n, .slice Al nl cl]) 29 Tryz.func56 rfl rfl rfl ref_Generated_ent ⟨id, id, trivial⟩ (fun w0 => ?_)
  refine tr_seq ?_
  refine tr_region fun _ _ _ => ?_
  refine ef rfl rfl (eBox rfl rfl rfl rfl rfl (fun p0 => ?_)) 
  refine ef rfl rfl (eAlloc rfl rfl rfl (fun p0a => ?_)) 
  refine tr_seq ?_
  refine tr_region fun _ _ _ => ?_
  refine pu rfl rfl rfl rfl rfl ?_
  refine tr_seq ?_
  refine tr_seq ?_
  refine tr_region fun _ _ _ => ?_
  refine pu rfl rfl rfl rfl rfl ?_
  refine tr_block ?_
  refine tr_nilR 22 3 ?_
  refine tr_loop4 (fun (k : Int) (AQ : Option Addr) (cq : Nat) (qs : List RowM) => [(7, .slice AQ qs.length cq), (8, .int .i64 k), (1, .int .i64 n), (2, .slice Al nl cl), (3, .pointer (some p0)), (6, .pointer (some p0a))]) (fun (k : Int) (AQ : Option Addr) (cq : Nat) (qs : List RowM) => [ow AQ 22 cq (hdrs qs), rowsCh 3 qs, blk p0 24 [.int .i64 p, .int .i64 m, .slice A mod.length c], blk p0a 27 [.int .i64 0, .int .i64 0, .slice none 0 0, .int .i64 0, .slice none 0 0], ro A (ints mod), ro Al (ints l)]) (fun (k : Int) (AQ : Option Addr) (cq : Nat) (qs : List RowM) => (0 ≤ k ∧ k ≤ n) ∧ (qs.length : Int) = k ∧ Gd (pw p m) n.toNat qs ∧ ∀ i : Nat, (i : Int) < k → (pol (qs.getD i rowD).xs : Po (El p m mod)) = Po.rem (Po.mn 1 i * pol l) (xn1 n.toNat)) (fun (k : Int) (AQ : Option Addr) (cq : Nat) (qs : List RowM) => (n - k).toNat) (0) (none) (0) ([]) ⟨rfl, rfl, rfl, rfl, rfl, rfl, trivial⟩ (by first | exact cs _ _ | exact CSub.refl _) (⟨⟨by omega, by omega⟩, rfl, Gd.nil _ _, fun i hi => by omega⟩) (fun k AQ cq qs hI => ?_)
  obtain ⟨⟨hk0, hk1⟩, hql, hgd, hq⟩ := hI
  refine tr_seq ?_
  refine tr_seq ?_
  refine tr_region fun _ _ _ => ?_
  iterate 3 refine pu rfl rfl rfl rfl rfl ?_
  refine tr_cond_bool rfl (fun h3 => ?_) (fun h3 => ?_)
  · try simp only [zbA] at h3
    refine tr_skip ?_
    refine tr_seq ?_
    refine tr_block ?_
    refine tr_draw [0, 1, 2, 3, 4, 6, 5, 7, 8, 9] [10, 11] mixed (by kernel_rfl) fun _ _ _ => ?_
    refine pu rfl rfl rfl rfl rfl ?_
    refine st rfl rfl rfl rfl (rLdS rfl rfl rfl) ?_
    refine pu rfl rfl rfl rfl rfl ?_
    refine st rfl rfl rfl rfl (rLdS rfl rfl rfl) ?_
    iterate 2 refine pu rfl rfl rfl rfl rfl ?_
    refine ef rfl rfl (eCall1 rfl rfl rfl (ref_Power k hk0 (by omega)) ⟨rfl, trivial⟩ ?_) 
    rintro _ _ ⟨B5, rfl, rfl⟩
    refine ef rfl rfl (eCall1 rfl rfl rfl (ref_PMul _ _ _ _ _ B5 _ _ (powL k.toNat) rfl (by rw [powL_length]; omega) _ _ _ l hnl (by omega)) ⟨rfl, rfl, rfl, trivial⟩ ?_) 
    rintro _ _ ⟨Bp, cp, rfl, rfl⟩
    refine ef rfl rfl (eCall1 rfl rfl rfl (ref_Word _ _ _ _ _ n hn1 hn9 Bp _ _ _ rfl (by have := il_mul_le (p := p) (m := m) (mod := mod) (powL k.toNat) l; rw [powL_length] at this; omega)) ⟨rfl, rfl, rfl, trivial⟩ ?_) 
    rintro _ _ ⟨Bo, o, rfl, rfl, hol, hoi, hor⟩
    rw [pol_il, pol_powL] at hor
    refine ef rfl rfl (eLit1 rfl rfl rfl rfl rfl (fun A5c => ?_)) 
    refine ef rfl rfl (eAppR rfl rfl rfl rfl rfl (by first | rfl | simp) (by omega) (fun A5d c5d => ?_)) 
    refine pu rfl rfl rfl rfl rfl ?_
    refine tr_region fun _ _ _ => ?_
    refine pu rfl rfl rfl rfl rfl ?_
    refine st rfl rfl rfl rfl (rAdd rfl rfl rfl (by omega) (by omega)) ?_
    refine pu rfl rfl rfl rfl rfl ?_
    refine ⟨k + 1, A5d, c5d, qs ++ [⟨Bo, o.length, o⟩], ⟨rfl, rfl, rfl, rfl, rfl, rfl, trivial⟩, by exact rows_app, ?_⟩
    refine ⟨⟨⟨by omega, by omega⟩, by simp; omega, hgd.snoc (by show o.length = _; omega) hoi, fun i hi => ?_⟩, by omega⟩
    rw [getD_app1]
    by_cases he : i = qs.length
    · rw [if_pos he]
      have : i = k.toNat := by omega
      rw [this]; exact hor
    · rw [if_neg he]; exact hq i (by omega)
  · try simp only [zbA] at h3
    refine tr_exit ?_
    refine tr_seq ?_
    have hkn : k.toNat = n.toNat := by omega
    refine tr_region fun _ _ _ => ?_
    refine st rfl rfl rfl rfl (rLdS rfl rfl rfl) ?_
    iterate 2 refine pu rfl rfl rfl rfl rfl ?_
    refine ef rfl rfl (eCall3 rfl rfl rfl (ref_Make _ _ _ _ _ n AQ _ cq qs rfl (by omega) hn1 hn9 hgd) ⟨rfl, rfl, rfl, trivial⟩ ?_) 
    rintro _ _ _ _ ⟨Bm, cm, B, cg, r3, rfl, rfl, rfl, rfl, hC⟩
    refine ef rfl rfl (eStS rfl rfl rfl rfl rfl rfl ?_) 
    have hW : ∀ u, Vc.SpL (vsR qs : List (Vc (El p m mod))) u ↔ CyW n.toNat (Po.gcd (pol l : Po (El p m mod)) (xn1 n.toNat)) u :=
      span_words (by omega) (by rw [vsR_length]; omega) fun i hi j => by rw [vsR_get, rw_pol, hq i (by omega)]
    exact tr_ret ⟨trivial, _, _, (.cell rfl (cellS rfl) .nil), ⟨_, _, _, rfl, Bm, cm, B, cg, r3, rfl, rfl, rfl, rfl, hC.iff hW⟩, cs _ _, trivial, trivial, trivial, trivial⟩
end Go.Proofs.YtgnmcoegdogfgaaGreat

set_option linter.unusedSimpArgs false
set_option linter.unusedVariables false
set_option maxRecDepth 100000
namespace Go.Proofs.YtgnmcoegdogfgaaGreat
open Go.RowKit
theorem fld_CheckN_ent : Enters Tryz.prog 51 := enters_of Tryz.func51 (by kernel_rfl) (by kernel_rfl)
theorem fld_CheckN (p m : Int) (A : Option Addr) (c : Nat) (mod : List Int) (hl9 : mod.length ≤ 17592186044415) (hsh : bShp p m mod = false) :
    Pure Tryz.prog 51 #[.agg #[.int .i64 p, .int .i64 m, .slice A mod.length c]] [ro A (ints mod)] (isV (.int .i64 1)) := by
  refine pure_of (args := [.agg #[.int .i64 p, .int .i64 m, .slice A mod.length c]]) 16 Tryz.func51 rfl rfl rfl fld_CheckN_ent ⟨id, trivial⟩ (fun w0 => ?_)
  refine tr_seq ?_
  refine tr_region fun _ _ _ => ?_
  refine ef rfl rfl (eBox rfl rfl rfl rfl rfl (fun p0 => ?_)) 
  refine pu rfl rfl rfl rfl rfl ?_
  refine tr_seq ?_
  refine tr_seq ?_
  refine tr_draw [0, 1, 2, 3, 4, 5, 6, 7, 8, 9, 10, 11, 12] [] mixed (by kernel_rfl) fun _ _ _ => ?_
  refine st rfl rfl rfl rfl (rLdS rfl rfl rfl) ?_
  refine ef rfl rfl (eCallV rfl rfl rfl (fld_shape _ _ _ _ _ (by omega)) ⟨rfl, trivial⟩ ?_) 
  refine st rfl rfl rfl rfl (rNotB rfl rfl) ?_
  refine pu rfl rfl rfl rfl rfl ?_
  refine skF rfl rfl (by simp [hsh]) rfl rfl ?_
  refine skF rfl rfl (by simp [hsh]) rfl rfl ?_
  refine skF rfl rfl (by simp [hsh]) rfl rfl ?_
  refine skF rfl rfl (by simp [hsh]) rfl rfl ?_
  refine skF rfl rfl (by simp [hsh]) rfl rfl ?_
  refine skF rfl rfl (by simp [hsh]) rfl rfl ?_
  refine skF rfl rfl (by simp [hsh]) rfl rfl ?_
  refine skF rfl rfl (by simp [hsh]) rfl rfl ?_
  refine st rfl rfl rfl rfl (rPick1 rfl rfl (by simp [hsh]) rfl) ?_
  refine tr_cond_bool rfl (fun h1 => ?_) (fun h1 => ?_)
  · try simp only [zbA] at h1
    refine tr_seq ?_
    refine tr_region fun _ _ _ => ?_
    refine pu rfl rfl rfl rfl rfl ?_
    exact tr_ret ⟨trivial, _, _, rfl, ⟨rfl, rfl⟩, CSub.nil _, trivial⟩
  · try simp only [zbA] at h1
    first | exact absurd trivial h1 | exact absurd rfl h1 | omega | (exact absurd h1 (by simp)) --done
theorem fld_CheckS_ent : Enters Tryz.prog 51 := enters_of Tryz.func51 (by kernel_rfl) (by kernel_rfl)
theorem fld_CheckS (p m : Int) (A : Option Addr) (c : Nat) (mod : List Int) (hl9 : mod.length ≤ 17592186044415) (hsh : bShp p m mod = true) :
    Pure Tryz.prog 51 #[.agg #[.int .i64 p, .int .i64 m, .slice A mod.length c]] [ro A (ints mod)] (isV (.int .i64 (chkF p m mod))) := by
  have hs1 := ((bShp_iff p m mod).1 hsh).1
  have hs2 := (bShp_iff p m mod).1 hsh
  refine pure_of (args := [.agg #[.int .i64 p, .int .i64 m, .slice A mod.length c]]) 16 Tryz.func51 rfl rfl rfl fld_CheckS_ent ⟨id, trivial⟩ (fun w0 => ?_)
  refine tr_seq ?_
  refine tr_region fun _ _ _ => ?_
  refine ef rfl rfl (eBox rfl rfl rfl rfl rfl (fun p0 => ?_)) 
  refine pu rfl rfl rfl rfl rfl ?_
  refine tr_seq ?_
  refine tr_seq ?_
  refine tr_draw [0, 1, 2, 3, 4, 5, 6, 7, 8, 9, 10, 11, 12] [] mixed (by kernel_rfl) fun _ _ _ => ?_
  refine st rfl rfl rfl rfl (rLdS rfl rfl rfl) ?_
  refine ef rfl rfl (eCallV rfl rfl rfl (fld_shape _ _ _ _ _ (by omega)) ⟨rfl, trivial⟩ ?_) 
  refine st rfl rfl rfl rfl (rNotB rfl rfl) ?_
  refine pu rfl rfl rfl rfl rfl ?_
  refine stT rfl rfl rfl (by simp [hsh]) rfl rfl (rLdS rfl rfl rfl) ?_
  refine stT rfl rfl rfl (by simp [hsh]) rfl rfl (rFld rfl rfl) ?_
  refine stT rfl rfl rfl (by simp [hsh]) rfl rfl (rLdF rfl rfl rfl) ?_
  refine stT rfl rfl rfl (by simp [hsh]) rfl rfl (rFld rfl rfl) ?_
  refine stT rfl rfl rfl (by simp [hsh]) rfl rfl (rLdF rfl rfl rfl) ?_
  refine efT rfl rfl rfl (by simp [hsh]) (eCallV rfl rfl rfl (fld_order _ _) ⟨rfl, rfl, trivial⟩ ?_) 
  refine efT rfl rfl rfl (by simp [hsh]) (eCall1 rfl rfl rfl (fld_gen _ _ _ _ _ hs1 _ hs1.ord) ⟨rfl, rfl, trivial⟩ ?_) 
  rintro _ _ ⟨B, l, cb, rfl, hl, hn, rfl⟩
  refine stT rfl rfl rfl (by simp [hsh]) rfl rfl (rNilS rfl rfl rfl) ?_
  refine st rfl rfl rfl rfl (rPick0 rfl rfl (by simp [hsh]) rfl) ?_
  refine tr_cond_bool rfl (fun h1 => ?_) (fun h1 => ?_)
  · try simp only [zbA] at h1
    refine tr_emptyI (A := B) (xs := l) (fun hemp => ?_)
    have hl0 := hemp h1
    refine tr_seq ?_
    refine tr_region fun _ _ _ => ?_
    refine pu rfl rfl rfl rfl rfl ?_
    rw [hl0] at hl
    exact tr_ret ⟨trivial, _, _, rfl, ⟨by rw [chkF_no fun h => hl.nil (fldN_iff.2 h).2], rfl⟩, CSub.nil _, trivial⟩
  · try simp only [zbA] at h1
    refine tr_skip ?_
    refine tr_seq ?_
    refine tr_region fun _ _ _ => ?_
    refine pu rfl rfl rfl rfl rfl ?_
    have hgn : l ≠ [] := fun h => by
      rw [hn h] at h1
      simp at h1
    have hF : FldR p m mod := fldN_iff.1 ⟨hs2, by
      rcases hl with ⟨x, h⟩ | h
      · exact ⟨x, l, h⟩
      · exact absurd h.1 hgn⟩
    exact tr_ret ⟨trivial, _, _, rfl, ⟨by rw [chkF_ok hF], rfl⟩, CSub.nil _, trivial⟩
theorem fld_Check (p m : Int) (A : Option Addr) (c : Nat) (mod : List Int) (hl9 : mod.length ≤ 17592186044415) : Pure Tryz.prog 51 #[.agg #[.int .i64 p, .int .i64 m, .slice A mod.length c]] [ro A (ints mod)] (isV (.int .i64 (chkF p m mod))) := by
  cases hsh : bShp p m mod with
  | true => exact fld_CheckS p m A c mod hl9 hsh
  | false =>
    have h := fld_CheckN p m A c mod hl9 hsh
    rwa [← chkF_no (p := p) (m := m) (mod := mod) (fun h => by rw [bShp_true h.1] at hsh; cases hsh)] at h
end Go.Proofs.YtgnmcoegdogfgaaGreat

set_option linter.unusedSimpArgs false
set_option linter.unusedVariables false
set_option maxRecDepth 100000
namespace Go.Proofs.YtgnmcoegdogfgaaGreat
open Go.RowKit
end Go.Proofs.YtgnmcoegdogfgaaGreat

set_option linter.unusedSimpArgs false
set_option linter.unusedVariables false
set_option maxRecDepth 100000
namespace Go.Proofs.YtgnmcoegdogfgaaGreat
open Go.RowKit
section
variable {p m : Int} {mod : List Int} [hF : IsF p m mod]
end
section
variable {p m : Int} {mod : List Int} [hF : IsF p m mod]
end
end Go.Proofs.YtgnmcoegdogfgaaGreat

set_option linter.unusedSimpArgs false
set_option linter.unusedVariables false
set_option maxRecDepth 100000
namespace Go.Proofs.YtgnmcoegdogfgaaGreat
open Go.RowKit
end Go.Proofs.YtgnmcoegdogfgaaGreat

set_option linter.unusedSimpArgs false
set_option linter.unusedVariables false
set_option maxRecDepth 100000
namespace Go.Proofs.YtgnmcoegdogfgaaGreat
open Go.RowKit
section
variable {p m : Int} {mod : List Int} [hF : IsF p m mod]
theorem val_cons (a : Int) (l : List Int) (x : El p m mod) : Po.val (pol (a :: l) : Po (El p m mod)) x = Po.val (pol l) x * x + el a := by
  have e : (pol (a :: l) : Po (El p m mod)) = Po.mn 1 1 * pol l + Po.C (el a) := Po.ext fun j => by
    rw [Po.cf_add, Po.cf_mn_mul, cf_pol, cf_pol]
    cases j with
    | zero => rw [if_pos (by omega), Rg.zero_add]; rfl
    | succ j =>
      rw [if_neg (by omega), Rg.one_mul]
      have h : Po.cf (Po.C (el a) : Po (El p m mod)) (j + 1) = 0 := by unfold Po.C; rw [Po.cf_mn, if_neg (by omega)]
      rw [h, Rg.add_zero]; rfl
  rw [e, Po.val_add, Po.val_mul, Po.val_C, Po.val_mn, Rg.pow_one, Rg.one_mul, Rg.mul_comm]
theorem val_nil (x : El p m mod) : Po.val (pol [] : Po (El p m mod)) x = 0 := by rw [pol_nil, Po.val_zero]
theorem val_sum (l : List Int) (x : El p m mod) : Po.val (pol l : Po (El p m mod)) x = Rg.sm l.length fun i => el (l.getD i 0) * Rg.pow x i := Po.val_eq (pol_sh l) x
theorem drop_cons {l : List Int} {i : Nat} (h : i < l.length) : l.drop i = l.getD i 0 :: l.drop (i + 1) := by
  rw [List.drop_eq_getElem_cons h, List.getD_eq_getElem?_getD, List.getElem?_eq_getElem h]; rfl
noncomputable def zset (p m : Int) (mod : List Int) [hF : IsF p m mod] (f : Po (El p m mod)) : Int → Bool := fun x => @decide (Po.val f (el x) = 0) (Classical.propDecidable _)
theorem zset_iff {f : Po (El p m mod)} {x : Int} : zset p m mod f x = true ↔ Po.val f (el x) = 0 := @decide_eq_true_iff _ (Classical.propDecidable _)
theorem pow_rem {x : El p m mod} (hx : x ≠ 0) (k : Nat) : Rg.pow x (k % (pw p m - 1).toNat) = Rg.pow x k := by
  have h := Nat.div_add_mod k (pw p m - 1).toNat
  have e : Rg.pow x k = Rg.pow x ((pw p m - 1).toNat * (k / (pw p m - 1).toNat) + k % (pw p m - 1).toNat) := by rw [h]
  rw [e, Rg.pow_add, Rg.pow_mul, pow_last hx, Rg.one_pow, Rg.one_mul]
theorem exp_pow {g : GfM} (hg : GOk g p m mod) : ∃ y : El p m mod, y ≠ 0 ∧ ∀ i : Nat, i < g.exp.length → (el (g.exp.getD i 0) : El p m mod) = Rg.pow y i := by
  obtain ⟨x, hx⟩ := hg.gen
  have h1 := hx.x1
  have h2 := hx.x2
  refine ⟨el x, fun e => by rw [el_eq_zero ⟨by omega, h2⟩] at e; omega, fun i hi => El.ext ?_⟩
  have h3 := hx.pow.get i hi
  have h4 := pow_val hF.out (el x) i
  rw [Fd.pow_eq, el_in ⟨by omega, h2⟩] at h4
  have h5 : g.exp.getD i 0 ∈ g.exp := getD_mem hi 0
  have h6 := hx.pow.nz _ h5
  rw [el_in ⟨by omega, h6.2⟩, h3]
  exact h4.symm
end
theorem gf_Field_ent : Enters Tryz.prog 162 := enters_of Tryz.func162 (by kernel_rfl) (by kernel_rfl)
theorem gf_Field (g : GfM) (h9 : g.mod.length ≤ 1000000) :
    Pure Tryz.prog 162 #[.pointer (some g.p)] [gfR g] (one (fun v ch => ∃ B cb, v = .agg #[.int .i64 g.P, .int .i64 g.M, .slice B g.mod.length cb] ∧ ch = ow B 3 cb (ints g.mod))) := by
  refine pure_ofC (args := [.pointer (some g.p)]) 21 Tryz.func162 rfl rfl rfl gf_Field_ent ⟨id, trivial⟩ (fun w0 => ?_)
  refine tr_seq ?_
  refine tr_region fun _ _ _ => ?_
  refine ef rfl rfl (eAlloc rfl rfl rfl (fun p0 => ?_)) 
  refine tr_seq ?_
  refine tr_plan [gfR g] [(2, 0), (2, 1), (2, 2), (2, 3), (2, 4), (2, 5), (2, 6), (2, 7), (2, 8), (2, 9), (0, 11), (0, 12), (0, 13), (0, 14), (0, 15), (0, 10), (1, 16), (0, 17), (1, 18)] mixed (by kernel_rfl) fun _ _ _ => ?_
  refine stF rfl rfl rfl rfl (cs _ _) (rMove rfl rfl) ?_
  refine stF rfl rfl rfl rfl (cs _ _) (rNil rfl rfl) ?_
  refine stF rfl rfl rfl rfl (cs _ _) (rFld rfl rfl) ?_
  refine stF rfl rfl rfl rfl (cs _ _) (rFldN rfl rfl) ?_
  refine stF rfl rfl rfl rfl (cs _ _) (rLdF rfl rfl rfl) ?_
  refine stF rfl rfl rfl rfl (cs _ _) (rMove rfl rfl) ?_
  refine stF rfl rfl rfl rfl (cs _ _) (rNil rfl rfl) ?_
  refine stF rfl rfl rfl rfl (cs _ _) (rFld rfl rfl) ?_
  refine stF rfl rfl rfl rfl (cs _ _) (rFldN rfl rfl) ?_
  refine stF rfl rfl rfl rfl (cs _ _) (rLdF rfl rfl rfl) ?_
  refine pu rfl rfl rfl rfl rfl ?_
  refine st rfl rfl rfl rfl (rNil rfl rfl) ?_
  refine st rfl rfl rfl rfl (rFld rfl rfl) ?_
  refine st rfl rfl rfl rfl (rFldN rfl rfl) ?_
  refine st rfl rfl rfl rfl (rLdF rfl rfl rfl) ?_
  refine ef rfl rfl (eLit0I rfl rfl rfl  (fun A1 => ?_)) 
  refine ef rfl rfl (eAppI rfl rfl rfl rfl rfl (by first | rfl | simp | omega) (by first | rfl | simp | omega) (by first | omega | (simp; omega)) (fun A1a c1a => ?_)) 
  refine ⟨cs _ _, ?_⟩
  refine st rfl rfl rfl rfl (rBuild rfl rfl) ?_
  refine ef rfl rfl (eStS rfl rfl rfl rfl rfl rfl ?_) 
  refine ⟨cs _ _, ?_⟩
  simp only [List.nil_append]
  exact tr_ret ⟨trivial, _, _, (.cell rfl (cellS rfl) .nil), ⟨_, rfl, A1a, c1a, rfl, rfl⟩, cs _ _, trivial, trivial⟩
theorem tow_prime_ent : Enters Tryz.prog 129 := enters_of Tryz.func129 (by kernel_rfl) (by kernel_rfl)
theorem tow_prime (g : GfM) (h9 : g.mod.length ≤ 1000000) :
    Pure Tryz.prog 129 #[.pointer (some g.p)] [gfR g] (isV (.tuple #[.int .i64 g.P, .int .i64 g.M])) := by
  refine pure_of (args := [.pointer (some g.p)]) 11 Tryz.func129 rfl rfl rfl tow_prime_ent ⟨id, trivial⟩ (fun w0 => ?_)
  refine tr_seq ?_
  refine tr_region fun _ _ _ => ?_
  iterate 2 refine pu rfl rfl rfl rfl rfl ?_
  refine tr_seq ?_
  refine tr_region fun _ _ _ => ?_
  refine pu rfl rfl rfl rfl rfl ?_
  refine ef rfl rfl (eCall1 rfl rfl rfl (gf_Field g h9) ⟨rfl, trivial⟩ ?_) 
  rintro _ _ ⟨B, cb, rfl, rfl⟩
  refine ef rfl rfl (eAlloc rfl rfl rfl (fun p1a => ?_)) 
  refine ef rfl rfl (eStS rfl rfl rfl rfl rfl rfl ?_) 
  refine tr_seq ?_
  refine tr_draw [0, 1, 2, 3, 4, 5] [] mixed (by kernel_rfl) fun _ _ _ => ?_
  refine st rfl rfl rfl rfl (rFld rfl rfl) ?_
  refine st rfl rfl rfl rfl (rLdF rfl rfl rfl) ?_
  refine st rfl rfl rfl rfl (rFld rfl rfl) ?_
  refine st rfl rfl rfl rfl (rLdF rfl rfl rfl) ?_
  iterate 2 refine pu rfl rfl rfl rfl rfl ?_
  exact tr_ret ⟨trivial, _, _, rfl, ⟨rfl, rfl⟩, CSub.nil _, trivial⟩
theorem tow_isDegree_ent : Enters Tryz.prog 130 := enters_of Tryz.func130 (by kernel_rfl) (by kernel_rfl)
theorem tow_isDegree (g : GfM) (h9 : g.mod.length ≤ 1000000) (d : Int) (hd : 1 ≤ d) (hM : 0 ≤ g.M) :
    Pure Tryz.prog 130 #[.pointer (some g.p), .int .i64 d] [gfR g] (isV (.bool (decide (d ≤ g.M) && decide (g.M % d = 0)))) := by
  refine pure_of (args := [.pointer (some g.p), .int .i64 d]) 25 Tryz.func130 rfl rfl rfl tow_isDegree_ent ⟨id, trivial⟩ (fun w0 => ?_)
  refine tr_seq ?_
  refine tr_region fun _ _ _ => ?_
  refine pu rfl rfl rfl rfl rfl ?_
  refine tr_seq ?_
  refine tr_region fun _ _ _ => ?_
  refine pu rfl rfl rfl rfl rfl ?_
  refine ef rfl rfl (eCallV rfl rfl rfl (tow_prime g h9) ⟨rfl, trivial⟩ ?_) 
  iterate 5 refine pu rfl rfl rfl rfl rfl ?_
  refine tr_seq ?_
  refine tr_region fun _ _ _ => ?_
  iterate 3 refine pu rfl rfl rfl rfl rfl ?_
  refine stg rfl rfl rfl rfl rfl (fun hb => by (have hq := hb; try simp only [zbA] at hq); exact rMove rfl rfl) ?_
  refine stg rfl rfl rfl rfl rfl (fun hb => by (have hq := hb; try simp only [zbA] at hq); exact rMove rfl rfl) ?_
  refine stg rfl rfl rfl rfl rfl (fun hb => by (have hq := hb; try simp only [zbA] at hq); exact rLeq rfl (evg rfl hb) (evg rfl hb)) ?_
  refine st rfl rfl rfl rfl (rAndB rfl rfl rfl rfl) ?_
  refine pu rfl rfl rfl rfl rfl ?_
  refine stg rfl rfl rfl rfl rfl (fun hb => by (have hq := hb; try simp only [zbA] at hq); exact rMove rfl rfl) ?_
  refine stg rfl rfl rfl rfl rfl (fun hb => by (have hq := hb; try simp only [zbA] at hq); exact rMove rfl rfl) ?_
  refine stg rfl rfl rfl rfl rfl (fun hb => by (have hq := hb; try simp only [zbA] at hq); exact rRem rfl (evg rfl hb) (evg rfl hb) (by omega) (by omega)) ?_
  refine stg rfl rfl rfl rfl rfl (fun hb => by (have hq := hb; try simp only [zbA] at hq); exact rEql rfl (evg rfl hb) rfl) ?_
  refine st rfl rfl rfl rfl (rAndB rfl rfl rfl rfl) ?_
  refine pu rfl rfl rfl rfl rfl ?_
  exact tr_ret ⟨trivial, _, _, rfl, ⟨by simp [hd], rfl⟩, CSub.nil _, trivial⟩
theorem poly_Eval_ent : Enters Tryz.prog 79 := enters_of Tryz.func79 (by kernel_rfl) (by kernel_rfl)
theorem poly_Eval (g : GfM) {p m : Int} {mod : List Int} [hF : IsF p m mod] (hg : GOk g p m mod) (X : Option Addr) (nx cx : Nat) (l : List Int) (hnx : nx = l.length) (h9 : l.length ≤ 1000000) (x : Int) :
    Pure Tryz.prog 79 #[.pointer (some g.p), .slice X nx cx, .int .i64 x] [gfR g, ro X (ints l)] (isV (.int .i64 (Po.val (pol l : Po (El p m mod)) (el x)).1)) := by
  refine pure_of (args := [.pointer (some g.p), .slice X nx cx, .int .i64 x]) 27 Tryz.func79 rfl rfl rfl poly_Eval_ent ⟨id, id, trivial⟩ (fun w0 => ?_)
  refine tr_seq ?_
  refine tr_region fun _ _ _ => ?_
  refine pu rfl rfl rfl rfl rfl ?_
  refine tr_seq ?_
  refine tr_region fun _ _ _ => ?_
  refine pu rfl rfl rfl rfl rfl ?_
  refine tr_seq ?_
  refine tr_seq ?_
  refine tr_region fun _ _ _ => ?_
  refine pu rfl rfl rfl rfl rfl ?_
  refine st rfl rfl rfl rfl (rLen rfl rfl) ?_
  refine st rfl rfl rfl rfl (rSub rfl rfl rfl (by omega) (by omega)) ?_
  refine pu rfl rfl rfl rfl rfl ?_
  refine tr_block ?_
  refine tr_loop2 (fun (i : Int) (y : Int) => [(7, .int .i64 y), (8, .int .i64 i), (0, .pointer (some g.p)), (1, .slice X nx cx), (2, .int .i64 x), (6, .int .i64 0)]) (fun (i : Int) (y : Int) => [gfR g, ro X (ints l)]) (fun (i : Int) (y : Int) => (-1 ≤ i ∧ i < nx) ∧ y = (Po.val (pol (l.drop (i + 1).toNat) : Po (El p m mod)) (el x)).1) (fun (i : Int) (y : Int) => (i + 1).toNat) ((nx : Int) - 1) (0) ⟨rfl, rfl, rfl, rfl, rfl, rfl, trivial⟩ (by first | exact cs _ _ | exact CSub.refl _) (⟨⟨by omega, by omega⟩, by rw [List.drop_of_length_le (by omega), val_nil]; rfl⟩) (fun i y hI => ?_)
  obtain ⟨⟨hi0, hi1⟩, hy⟩ := hI
  refine tr_seq ?_
  refine tr_seq ?_
  refine tr_region fun _ _ _ => ?_
  iterate 2 refine pu rfl rfl rfl rfl rfl ?_
  refine tr_cond_bool rfl (fun h3 => ?_) (fun h3 => ?_)
  · try simp only [zbA] at h3
    refine tr_skip ?_
    refine tr_seq ?_
    refine tr_block ?_
    refine tr_draw [0, 1, 2, 3, 5, 6, 7, 8, 4, 9, 10] [] mixed (by kernel_rfl) fun _ _ _ => ?_
    iterate 6 refine pu rfl rfl rfl rfl rfl ?_
    refine st rfl rfl rfl rfl (rIdxI rfl rfl rfl (by omega) (by omega) (by omega)) ?_
    refine st rfl rfl rfl rfl (rLdI rfl rfl (by omega)) ?_
    refine ef rfl rfl (eCallV rfl rfl rfl (gf_MulE g hg _ _) ⟨rfl, rfl, rfl, trivial⟩ ?_) 
    refine ef rfl rfl (eCallV rfl rfl rfl (gf_AddE g hg _ _) ⟨rfl, rfl, rfl, trivial⟩ ?_) 
    refine pu rfl rfl rfl rfl rfl ?_
    refine tr_region fun _ _ _ => ?_
    refine pu rfl rfl rfl rfl rfl ?_
    refine st rfl rfl rfl rfl (rSub rfl rfl rfl (by omega) (by omega)) ?_
    refine pu rfl rfl rfl rfl rfl ?_
    refine ⟨i - 1, (el (el y * el x : El p m mod).1 + el (l.getD i.toNat 0) : El p m mod).1, ⟨rfl, rfl, rfl, rfl, rfl, rfl, trivial⟩, by first | exact cs _ _ | exact CSub.refl _, ?_⟩
    refine ⟨⟨⟨by omega, by omega⟩, ?_⟩, by omega⟩
    rw [el_of, show (i - 1 + 1).toNat = i.toNat by omega, drop_cons (show i.toNat < l.length by omega), val_cons, show i.toNat + 1 = (i + 1).toNat by omega, hy, el_of]
  · try simp only [zbA] at h3
    refine tr_exit ?_
    refine tr_seq ?_
    refine tr_region fun _ _ _ => ?_
    iterate 2 refine pu rfl rfl rfl rfl rfl ?_
    have hi : i = -1 := by omega
    subst hi
    exact tr_ret ⟨trivial, _, _, rfl, ⟨by rw [hy]; rfl, rfl⟩, CSub.nil _, trivial⟩
theorem gf_Digits_ent : Enters Tryz.prog 135 := enters_of Tryz.func135 (by kernel_rfl) (by kernel_rfl)
theorem gf_Digits (g : GfM) {p m : Int} {mod : List Int} [hF : IsF p m mod] (hg : GOk g p m mod) (x : Int) (hx : 0 ≤ x ∧ x < pw p m) :
    Pure Tryz.prog 135 #[.pointer (some g.p), .int .i64 x] [gfR g] (one (fun v ch => ∃ B, v = .slice B m.toNat m.toNat ∧ ch = ow B 3 m.toNat (ints (digs p m.toNat x)))) := by
  have heq := hg.eq
  have hP := hg.eP
  have hM := hg.eM
  have hs := hF.out.1.1
  have h2 := hs.p2
  have h3 := hs.p9
  have h4 := hs.m1
  have h5 := hs.m8
  have h6 := hs.q
  have h7 : inI g.q x = x := inI_in hx.1 (by omega)
  subst hP
  subst hM
  refine pure_of (args := [.pointer (some g.p), .int .i64 x]) 19 Tryz.func135 rfl rfl rfl gf_Digits_ent ⟨id, trivial⟩ (fun w0 => ?_)
  refine tr_seq ?_
  refine tr_region fun _ _ _ => ?_
  refine pu rfl rfl rfl rfl rfl ?_
  refine tr_seq ?_
  refine tr_draw [0, 1, 3, 4, 5, 6, 7, 8, 9, 10, 11, 12, 2, 13, 14] [] mixed (by kernel_rfl) fun _ _ _ => ?_
  iterate 3 refine pu rfl rfl rfl rfl rfl ?_
  refine st rfl rfl rfl rfl (rNil rfl rfl) ?_
  refine st rfl rfl rfl rfl (rFld rfl rfl) ?_
  refine st rfl rfl rfl rfl (rFldN rfl rfl) ?_
  refine st rfl rfl rfl rfl (rLdF rfl rfl rfl) ?_
  refine pu rfl rfl rfl rfl rfl ?_
  refine st rfl rfl rfl rfl (rNil rfl rfl) ?_
  refine st rfl rfl rfl rfl (rFld rfl rfl) ?_
  refine st rfl rfl rfl rfl (rFldN rfl rfl) ?_
  refine st rfl rfl rfl rfl (rLdF rfl rfl rfl) ?_
  refine ef rfl rfl (eCallV rfl rfl rfl (gf_in g _) ⟨rfl, rfl, trivial⟩ ?_) 
  refine ef rfl rfl (eCall1 rfl rfl rfl (fld_digits _ (by omega) (by omega) _ (by omega) (by omega) _ (by omega) (by omega)) ⟨rfl, rfl, rfl, trivial⟩ ?_) 
  rintro _ _ ⟨B, rfl, rfl⟩
  refine pu rfl rfl rfl rfl rfl ?_
  rw [h7]
  exact tr_ret ⟨trivial, _, _, rfl, ⟨_, rfl, B, rfl, rfl⟩, cs _ _, trivial, trivial⟩
theorem gf_Dot_ent : Enters Tryz.prog 134 := enters_of Tryz.func134 (by kernel_rfl) (by kernel_rfl)
theorem gf_Dot (g : GfM) {p m : Int} {mod : List Int} [hF : IsF p m mod] (hg : GOk g p m mod) (X : Option Addr) (nx cx : Nat) (a : List Int) (hnx : nx = a.length) (Y : Option Addr) (ny cy : Nat) (b : List Int) (hny : ny = b.length) (h9 : a.length ≤ 1000000) (hl : a.length = b.length) :
    Pure Tryz.prog 134 #[.pointer (some g.p), .slice X nx cx, .slice Y ny cy] [gfR g, ro X (ints a), ro Y (ints b)] (isV (.int .i64 (Rg.sm a.length fun i => (el (a.getD i 0) * el (b.getD i 0) : El p m mod)).1)) := by
  refine pure_of (args := [.pointer (some g.p), .slice X nx cx, .slice Y ny cy]) 32 Tryz.func134 rfl rfl rfl gf_Dot_ent ⟨id, id, id, trivial⟩ (fun w0 => ?_)
  refine tr_seq ?_
  refine tr_region fun _ _ _ => ?_
  refine pu rfl rfl rfl rfl rfl ?_
  refine tr_seq ?_
  refine tr_region fun _ _ _ => ?_
  refine pu rfl rfl rfl rfl rfl ?_
  refine tr_seq ?_
  refine tr_seq ?_
  have hmn : min (nx : Int) (ny : Int) = a.length := by omega
  refine tr_region fun _ _ _ => ?_
  refine pu rfl rfl rfl rfl rfl ?_
  refine st rfl rfl rfl rfl (rLen rfl rfl) ?_
  refine pu rfl rfl rfl rfl rfl ?_
  refine st rfl rfl rfl rfl (rLen rfl rfl) ?_
  refine st rfl rfl rfl rfl (rMin rfl rfl rfl) ?_
  refine pu rfl rfl rfl rfl rfl ?_
  simp only [hmn]
  refine tr_block ?_
  refine tr_loop2 (fun (i : Int) (y : Int) => [(7, .int .i64 y), (13, .int .i64 a.length), (14, .int .i64 i), (0, .pointer (some g.p)), (1, .slice X nx cx), (2, .slice Y ny cy), (6, .int .i64 0)]) (fun (i : Int) (y : Int) => [gfR g, ro X (ints a), ro Y (ints b)]) (fun (i : Int) (y : Int) => (0 ≤ i ∧ i ≤ a.length) ∧ y = (Rg.sm i.toNat fun j => (el (a.getD j 0) * el (b.getD j 0) : El p m mod)).1) (fun (i : Int) (y : Int) => (a.length - i).toNat) (0) (0) ⟨rfl, rfl, rfl, rfl, rfl, rfl, rfl, trivial⟩ (by first | exact cs _ _ | exact CSub.refl _) (⟨⟨by omega, by omega⟩, rfl⟩) (fun i y hI => ?_)
  obtain ⟨⟨hi0, hi1⟩, hy⟩ := hI
  refine tr_seq ?_
  refine tr_region fun _ _ _ => ?_
  refine pu rfl rfl rfl rfl rfl ?_
  refine tr_seq ?_
  refine tr_cond_bool rfl (fun h3 => ?_) (fun h3 => ?_)
  · try simp only [zbA] at h3
    refine tr_skip ?_
    refine tr_seq ?_
    refine tr_block ?_
    refine tr_seq ?_
    refine tr_region fun _ _ _ => ?_
    iterate 2 refine pu rfl rfl rfl rfl rfl ?_
    refine tr_draw [0, 1, 2, 3, 4, 5, 6, 7, 8, 9, 10, 11, 12, 13] [] mixed (by kernel_rfl) fun _ _ _ => ?_
    iterate 5 refine pu rfl rfl rfl rfl rfl ?_
    refine st rfl rfl rfl rfl (rIdxI rfl rfl rfl (by omega) (by omega) (by omega)) ?_
    refine st rfl rfl rfl rfl (rLdI rfl rfl (by omega)) ?_
    iterate 2 refine pu rfl rfl rfl rfl rfl ?_
    refine st rfl rfl rfl rfl (rIdxI rfl rfl rfl (by omega) (by omega) (by omega)) ?_
    refine st rfl rfl rfl rfl (rLdI rfl rfl (by omega)) ?_
    refine ef rfl rfl (eCallV rfl rfl rfl (gf_MulE g hg _ _) ⟨rfl, rfl, rfl, trivial⟩ ?_) 
    refine ef rfl rfl (eCallV rfl rfl rfl (gf_AddE g hg _ _) ⟨rfl, rfl, rfl, trivial⟩ ?_) 
    refine pu rfl rfl rfl rfl rfl ?_
    refine tr_region fun _ _ _ => ?_
    refine st rfl rfl rfl rfl (rAdd rfl rfl rfl (by omega) (by omega)) ?_
    refine pu rfl rfl rfl rfl rfl ?_
    refine ⟨i + 1, (el y + el (el (a.getD i.toNat 0) * el (b.getD i.toNat 0) : El p m mod).1 : El p m mod).1, ⟨rfl, rfl, rfl, rfl, rfl, rfl, rfl, trivial⟩, by first | exact cs _ _ | exact CSub.refl _, ?_⟩
    refine ⟨⟨⟨by omega, by omega⟩, ?_⟩, by omega⟩
    rw [show (i + 1).toNat = i.toNat + 1 by omega, Rg.sm_succ, hy, el_of, el_of]
  · try simp only [zbA] at h3
    refine tr_exit ?_
    refine tr_seq ?_
    refine tr_region fun _ _ _ => ?_
    iterate 2 refine pu rfl rfl rfl rfl rfl ?_
    have hi : i.toNat = a.length := by omega
    rw [hi] at hy
    exact tr_ret ⟨trivial, _, _, rfl, ⟨by rw [hy], rfl⟩, CSub.nil _, trivial⟩
theorem gf_PowE_ent : Enters Tryz.prog 31 := enters_of Tryz.func31 (by kernel_rfl) (by kernel_rfl)
theorem gf_PowE (g : GfM) {p m : Int} {mod : List Int} [hF : IsF p m mod] (hg : GOk g p m mod) (x k : Int) (hk : 0 ≤ k) (hk9 : k ≤ 1000000) :
    Pure Tryz.prog 31 #[.pointer (some g.p), .int .i64 x, .int .i64 k] [gfR g] (isV (.tuple #[.int .i64 (Rg.pow (el x : El p m mod) k.toNat).1, .int .i64 0])) := by
  have heq := hg.eq
  have hq2 := hF.q2
  have hq9 := hF.out.1.1.q
  have hix : (el x : El p m mod).1 = inI g.q x := by rw [hg.eq]; rfl
  have hbx := (el x : El p m mod).2
  have hel := hg.elen
  have hll := hg.llen'
  obtain ⟨y, hy0, hy⟩ := exp_pow hg
  refine pure_of (args := [.pointer (some g.p), .int .i64 x, .int .i64 k]) 54 Tryz.func31 rfl rfl rfl gf_PowE_ent ⟨id, trivial⟩ (fun w0 => ?_)
  refine tr_seq ?_
  refine tr_region fun _ _ _ => ?_
  iterate 2 refine pu rfl rfl rfl rfl rfl ?_
  refine tr_seq ?_
  refine tr_region fun _ _ _ => ?_
  iterate 2 refine pu rfl rfl rfl rfl rfl ?_
  refine ef rfl rfl (eCallV rfl rfl rfl (gf_in g _) ⟨rfl, rfl, trivial⟩ ?_) 
  refine pu rfl rfl rfl rfl rfl ?_
  refine tr_seq ?_
  refine tr_block ?_
  refine tr_seq ?_
  refine tr_region fun _ _ _ => ?_
  iterate 3 refine pu rfl rfl rfl rfl rfl ?_
  refine tr_cond_bool rfl (fun h2 => ?_) (fun h2 => ?_)
  · try simp only [zbA] at h2
    refine tr_seq ?_
    refine tr_region fun _ _ _ => ?_
    iterate 2 refine pu rfl rfl rfl rfl rfl ?_
    exact tr_ret ⟨trivial, _, _, rfl, ⟨by rw [show k.toNat = 0 by omega]; rfl, rfl⟩, CSub.nil _, trivial⟩
  · try simp only [zbA] at h2
    refine tr_seq ?_
    refine tr_region fun _ _ _ => ?_
    iterate 3 refine pu rfl rfl rfl rfl rfl ?_
    refine stg rfl rfl rfl rfl rfl (fun hb => by (have hq := hb; try simp only [zbA] at hq); exact rMove rfl rfl) ?_
    refine stg rfl rfl rfl rfl rfl (fun hb => by (have hq := hb; try simp only [zbA] at hq); exact rLss rfl (evg rfl hb) rfl) ?_
    refine st rfl rfl rfl rfl (rAndB rfl rfl rfl rfl) ?_
    refine pu rfl rfl rfl rfl rfl ?_
    refine tr_cond_bool rfl (fun h4 => ?_) (fun h4 => ?_)
    · try simp only [zbA] at h4
      refine tr_seq ?_
      refine tr_region fun _ _ _ => ?_
      iterate 2 refine pu rfl rfl rfl rfl rfl ?_
      omega
    · try simp only [zbA] at h4
      refine tr_seq ?_
      refine tr_region fun _ _ _ => ?_
      iterate 3 refine pu rfl rfl rfl rfl rfl ?_
      refine tr_cond_bool rfl (fun h6 => ?_) (fun h6 => ?_)
      · try simp only [zbA] at h6
        refine tr_seq ?_
        refine tr_region fun _ _ _ => ?_
        iterate 2 refine pu rfl rfl rfl rfl rfl ?_
        exact tr_ret ⟨trivial, _, _, rfl, ⟨by
          have hx0 : (el x : El p m mod) = 0 := (val_zero_iff (el x : El p m mod)).1 (by omega)
          rw [hx0, Rg.zero_pow (by omega)]; rfl, rfl⟩, CSub.nil _, trivial⟩
      · try simp only [zbA] at h6
        refine tr_skip ?_
        refine tr_seq ?_
        have hx0 : (el x : El p m mod) ≠ 0 := fun e => by
          have := (val_zero_iff (el x : El p m mod)).2 e
          omega
        have hlx := hg.log_spec (y := inI g.q x) (by omega) (by omega)
        have e0 := Int.emod_nonneg k (show g.q - 1 ≠ 0 by omega)
        have e1 := Int.emod_lt_of_pos k (show 0 < g.q - 1 by omega)
        refine tr_region fun _ _ _ => ?_
        refine pu rfl rfl rfl rfl rfl ?_
        refine st rfl rfl rfl rfl (rNil rfl rfl) ?_
        refine st rfl rfl rfl rfl (rFld rfl rfl) ?_
        refine st rfl rfl rfl rfl (rLdF rfl rfl rfl) ?_
        refine st rfl rfl rfl rfl (rSub rfl rfl rfl (by omega) (by omega)) ?_
        refine pu rfl rfl rfl rfl rfl ?_
        refine tr_seq ?_
        refine tr_region fun _ _ _ => ?_
        iterate 2 refine pu rfl rfl rfl rfl rfl ?_
        refine st rfl rfl rfl rfl (rRem rfl rfl rfl (by omega) (by omega)) ?_
        refine pu rfl rfl rfl rfl rfl ?_
        refine st rfl rfl rfl rfl (rAdd rfl rfl rfl (by omega) (by omega)) ?_
        refine pu rfl rfl rfl rfl rfl ?_
        refine st rfl rfl rfl rfl (rRem rfl rfl rfl (by omega) (by omega)) ?_
        refine pu rfl rfl rfl rfl rfl ?_
        refine tr_seq ?_
        have e2 : (k % (g.q - 1) + (g.q - 1)) % (g.q - 1) = k % (g.q - 1) := by rw [Int.add_emod_right, Int.emod_emod_of_dvd _ (Int.dvd_refl _)]
        rw [e2]
        have hmb := mul_bd0 (g.log.getD (inI g.q x).toNat 0) (k % (g.q - 1)) 256 256 (by omega) (by omega) (by omega) (by omega)
        have e3 := Int.emod_nonneg (g.log.getD (inI g.q x).toNat 0 * (k % (g.q - 1))) (show g.q - 1 ≠ 0 by omega)
        have e4 := Int.emod_lt_of_pos (g.log.getD (inI g.q x).toNat 0 * (k % (g.q - 1))) (show 0 < g.q - 1 by omega)
        refine tr_draw [0, 1, 2, 3, 4, 5, 6, 7, 8, 9, 10, 11, 12, 13, 14, 15, 16, 17, 18] [] mixed (by kernel_rfl) fun _ _ _ => ?_
        refine pu rfl rfl rfl rfl rfl ?_
        refine st rfl rfl rfl rfl (rNil rfl rfl) ?_
        refine st rfl rfl rfl rfl (rFld rfl rfl) ?_
        refine st rfl rfl rfl rfl (rLdF rfl rfl rfl) ?_
        refine pu rfl rfl rfl rfl rfl ?_
        refine st rfl rfl rfl rfl (rNil rfl rfl) ?_
        refine st rfl rfl rfl rfl (rFld rfl rfl) ?_
        refine st rfl rfl rfl rfl (rLdF rfl rfl rfl) ?_
        refine pu rfl rfl rfl rfl rfl ?_
        refine st rfl rfl rfl rfl (rIdxI rfl rfl rfl (by omega) (by omega) (by omega)) ?_
        refine st rfl rfl rfl rfl (rLdI rfl rfl (by omega)) ?_
        refine pu rfl rfl rfl rfl rfl ?_
        refine st rfl rfl rfl rfl (rMul rfl rfl rfl (by omega) (by omega)) ?_
        refine pu rfl rfl rfl rfl rfl ?_
        refine st rfl rfl rfl rfl (rRem rfl rfl rfl (by omega) (by omega)) ?_
        refine st rfl rfl rfl rfl (rIdxI rfl rfl rfl (by omega) (by omega) (by omega)) ?_
        refine st rfl rfl rfl rfl (rLdI rfl rfl (by omega)) ?_
        iterate 2 refine pu rfl rfl rfl rfl rfl ?_
        have hfin : g.exp.getD (g.log.getD (inI g.q x).toNat 0 * (k % (g.q - 1)) % (g.q - 1)).toNat 0 = (Rg.pow (el x : El p m mod) k.toNat).1 := by
          have h1 := hy (g.log.getD (inI g.q x).toNat 0 * (k % (g.q - 1)) % (g.q - 1)).toNat (by omega)
          have h2 := hy (g.log.getD (inI g.q x).toNat 0).toNat (by omega)
          rw [hlx.2.2] at h2
          have h3 : (el x : El p m mod) = Rg.pow y (g.log.getD (inI g.q x).toNat 0).toNat := by rw [← h2, ← hix, el_of]
          have hqe : (pw p m - 1).toNat = (g.q - 1).toNat := by rw [heq]
          have h4 : (g.log.getD (inI g.q x).toNat 0 * (k % (g.q - 1)) % (g.q - 1)).toNat = ((g.log.getD (inI g.q x).toNat 0).toNat * (k.toNat % (pw p m - 1).toNat)) % (pw p m - 1).toNat := by
            rw [hqe]
            obtain ⟨a, ha⟩ := Int.eq_ofNat_of_zero_le (show 0 ≤ g.log.getD (inI g.q x).toNat 0 by omega)
            obtain ⟨b, hb⟩ := Int.eq_ofNat_of_zero_le hk
            obtain ⟨c, hc⟩ := Int.eq_ofNat_of_zero_le (show 0 ≤ g.q - 1 by omega)
            rw [ha, hb, hc, ← Int.natCast_emod, ← Int.natCast_mul, ← Int.natCast_emod]
            simp only [Int.toNat_natCast]
          rw [h4, pow_rem hy0, Rg.pow_mul, ← h3, pow_rem hx0] at h1
          have h5 : g.exp.getD ((g.log.getD (inI g.q x).toNat 0).toNat * (k.toNat % (pw p m - 1).toNat) % (pw p m - 1).toNat) 0 ∈ g.exp := getD_mem (by rw [← h4]; omega) 0
          obtain ⟨z, hz⟩ := hg.gen
          have h6 := hz.pow.nz _ h5
          rw [← h1, el_in ⟨by omega, h6.2⟩, h4]
        exact tr_ret ⟨trivial, _, _, rfl, ⟨by rw [hfin], rfl⟩, CSub.nil _, trivial⟩
end Go.Proofs.YtgnmcoegdogfgaaGreat

set_option linter.unusedSimpArgs false
set_option linter.unusedVariables false
set_option maxRecDepth 100000
namespace Go.Proofs.YtgnmcoegdogfgaaGreat
open Go.RowKit
theorem filt_head (φ : Int → Bool) : ∀ (n : Nat) (z : Int) (rest : List Int), (upI n).filter φ = z :: rest → (0 ≤ z ∧ z < n) ∧ φ z = true ∧ ∀ s, 0 ≤ s → s < z → φ s = false
  | 0, z, rest, h => by simp [upI] at h
  | n + 1, z, rest, h => by
    rw [upI_succ, List.filter_append] at h
    cases hf : (upI n).filter φ with
    | nil =>
      rw [hf, List.nil_append] at h
      have hno : ∀ s : Int, 0 ≤ s → s < n → φ s = false := fun s h0 h1 => by
        cases hs : φ s with
        | false => rfl
        | true =>
          have : s ∈ (upI n).filter φ := List.mem_filter.2 ⟨List.mem_map.2 ⟨s.toNat, List.mem_range.2 (by omega), by omega⟩, hs⟩
          rw [hf] at this; simp at this
      cases hp : φ (n : Int) with
      | false => rw [List.filter_cons_of_neg (by rw [hp]; simp), List.filter_nil] at h; simp at h
      | true =>
        rw [List.filter_cons_of_pos hp, List.filter_nil] at h
        have hz : (n : Int) = z := by injection h
        subst hz
        exact ⟨⟨by omega, by omega⟩, hp, hno⟩
    | cons a t =>
      rw [hf, List.cons_append] at h
      have hz : a = z := by injection h
      subst hz
      have := filt_head φ n a t hf
      exact ⟨⟨this.1.1, by omega⟩, this.2⟩
section
variable {p m2 : Int} {mod2 : List Int} [hE : IsF p m2 mod2]
noncomputable def imL (p m2 : Int) (mod2 : List Int) [hE : IsF p m2 mod2] (m r : Int) : List Int := (List.range (pw p m).toNat).map fun x : Nat => (Po.val (pol (digs p m.toNat x) : Po (El p m2 mod2)) (el r)).1
theorem imL_length (m r : Int) : (imL p m2 mod2 m r).length = (pw p m).toNat := by simp [imL]
theorem imL_get (m r : Int) {x : Nat} (h : x < (pw p m).toNat) : (imL p m2 mod2 m r).getD x 0 = (Po.val (pol (digs p m.toNat x) : Po (El p m2 mod2)) (el r)).1 := by
  unfold imL; rw [List.getD_eq_getElem?_getD, List.getElem?_map, List.getElem?_range h]; rfl
structure IsRt (p m2 : Int) (mod2 : List Int) [hE : IsF p m2 mod2] (m : Int) (mod : List Int) (r : Int) : Prop where
  lo : 0 ≤ r
  hi : r < pw p m2
  one : m = 1 → r = 0
  root : 2 ≤ m → Po.val (pol (mod ++ [1]) : Po (El p m2 mod2)) (el r) = 0
  least : 2 ≤ m → ∀ s, 0 ≤ s → s < r → Po.val (pol (mod ++ [1]) : Po (El p m2 mod2)) (el s) ≠ 0
theorem IsRt.uniq {m : Int} {mod : List Int} (hm : 1 ≤ m) {r s : Int} (h : IsRt p m2 mod2 m mod r) (k : IsRt p m2 mod2 m mod s) : r = s := by
  by_cases h1 : m = 1
  · rw [h.one h1, k.one h1]
  · rcases Int.lt_trichotomy r s with h2 | h2 | h2
    · exact absurd (h.root (by omega)) (k.least (by omega) r h.lo h2)
    · exact h2
    · exact absurd (k.root (by omega)) (h.least (by omega) s k.lo h2)
open Classical in
noncomputable def embR (p m2 : Int) (mod2 : List Int) [hE : IsF p m2 mod2] (m : Int) (mod : List Int) : Int := if h : ∃ r, IsRt p m2 mod2 m mod r then Classical.choose h else 0
theorem IsRt.eq {m : Int} {mod : List Int} (hm : 1 ≤ m) {r : Int} (h : IsRt p m2 mod2 m mod r) : embR p m2 mod2 m mod = r := by
  have hx : ∃ r, IsRt p m2 mod2 m mod r := ⟨r, h⟩
  unfold embR
  rw [dif_pos hx]
  exact (Classical.choose_spec hx).uniq hm h
theorem polmod_ne (mod : List Int) : (pol (mod ++ [1]) : Po (El p m2 mod2)) ≠ 0 := fun e => by
  have h := congrArg (fun f => Po.cf f mod.length) e
  simp only [cf_pol, Po.cf_zero] at h
  rw [List.getD_eq_getElem?_getD, List.getElem?_append_right (Nat.le_refl _), Nat.sub_self] at h
  exact Fd.one_ne (K := El p m2 mod2) (el_one.symm.trans h)
end
theorem rt_of_head {p m m2 : Int} {mod mod2 : List Int} [hF : IsF p m mod] [hE : IsF p m2 mod2] (hm : 2 ≤ m) (hd : m2 % m = 0) {zs : List Int} (hz : zs = (upI (pw p m2).toNat).filter (zset p m2 mod2 (pol (mod ++ [1])))) : zs.length ≠ 0 ∧ IsRt p m2 mod2 m mod (zs.getD 0 0) := by
  have hq := hE.q2
  cases hzs : zs with
  | nil =>
    obtain ⟨a, ha⟩ := emb_root (p := p) (m := m) (mod := mod) (m2 := m2) (mod2 := mod2) hm hd
    have hab := a.2
    have : a.1 ∈ (upI (pw p m2).toNat).filter (zset p m2 mod2 (pol (mod ++ [1]))) := List.mem_filter.2 ⟨List.mem_map.2 ⟨a.1.toNat, List.mem_range.2 (by omega), by omega⟩, zset_iff.2 (by rw [el_of]; exact ha)⟩
    rw [← hz, hzs] at this; simp at this
  | cons z rest =>
    have h := filt_head _ _ z rest (hz.symm.trans hzs)
    refine ⟨by simp, ⟨h.1.1, ?_, fun e => by omega, fun _ => zset_iff.1 h.2.1, fun _ s h0 h1 => fun e => ?_⟩⟩
    · have := h.1.2; show z < _; omega
    · have := h.2.2 s h0 h1
      rw [zset_iff.2 e] at this; cases this
theorem digs_len (p : Int) : ∀ (M : Nat) (x : Int), (digs p M x).length = M
  | 0, _ => rfl
  | M + 1, x => by rw [digs, List.length_cons, digs_len p M]
theorem poly_Roots_ent : Enters Tryz.prog 131 := enters_of Tryz.func131 (by kernel_rfl) (by kernel_rfl)
theorem poly_Roots (g : GfM) {p m : Int} {mod : List Int} [hF : IsF p m mod] (hg : GOk g p m mod) (X : Option Addr) (nx cx : Nat) (lx : List Int) (hnx : nx = lx.length) (h9 : lx.length ≤ 1000000) (h0 : (pol lx : Po (El p m mod)) ≠ 0) :
    Pure Tryz.prog 131 #[.pointer (some g.p), .slice X nx cx] [gfR g, ro X (ints lx)] (one (fun v ch => ∃ B cb zs, v = .tuple #[.slice B zs.length cb, .int .i64 0] ∧ ch = ow B 3 cb (ints zs) ∧ zs = (upI g.q.toNat).filter (zset p m mod (pol lx)))) := by
  have hq2 := hg.q2
  have hqe := hg.eq
  have hq9 := hF.out.1.1.q
  have hil := il_le (p := p) (m := m) (mod := mod) lx
  have hl0 : (il (pol lx : Po (El p m mod))).length ≠ 0 := fun e => h0 (il_eq_nil.1 (List.length_eq_zero_iff.1 e))
  refine pure_of (args := [.pointer (some g.p), .slice X nx cx]) 28 Tryz.func131 rfl rfl rfl poly_Roots_ent ⟨id, id, trivial⟩ (fun w0 => ?_)
  refine tr_seq ?_
  refine tr_region fun _ _ _ => ?_
  refine ef rfl rfl (eBox rfl rfl rfl rfl rfl (fun p0 => ?_)) 
  iterate 2 refine pu rfl rfl rfl rfl rfl ?_
  refine tr_seq ?_
  refine tr_region fun _ _ _ => ?_
  refine st rfl rfl rfl rfl (rLd0 rfl rfl) ?_
  refine pu rfl rfl rfl rfl rfl ?_
  refine ef rfl rfl (eCall1 rfl rfl rfl (poly_CanonE g hg _ _ _ lx (by first | omega | rfl | simp) (by omega)) ⟨rfl, rfl, trivial⟩ ?_) 
  rintro _ _ ⟨B1, c1, rfl, hcap1, rfl⟩
  refine ef rfl rfl (eAlloc rfl rfl rfl (fun p1a => ?_)) 
  refine ef rfl rfl (eSt0 rfl rfl rfl rfl rfl rfl ?_) 
  refine tr_seq ?_
  refine tr_seq ?_
  refine tr_region fun _ _ _ => ?_
  refine st rfl rfl rfl rfl (rLd0 rfl rfl) ?_
  refine st rfl rfl rfl rfl (rLen rfl rfl) ?_
  refine pu rfl rfl rfl rfl rfl ?_
  refine tr_cond_bool rfl (fun h2 => ?_) (fun h2 => ?_)
  · try simp only [zbA] at h2
    omega --done
  · try simp only [zbA] at h2
    refine tr_skip ?_
    refine tr_seq ?_
    refine tr_region fun _ _ _ => ?_
    refine ef rfl rfl (eAlloc rfl rfl rfl (fun p4 => ?_)) 
    refine tr_seq ?_
    refine tr_seq ?_
    refine tr_region fun _ _ _ => ?_
    refine st rfl rfl rfl rfl (rLd0 rfl rfl) ?_
    refine ef rfl rfl (eCall1 rfl rfl rfl (gf_Elements _) ⟨rfl, trivial⟩ ?_) 
    rintro _ _ ⟨B5, rfl, rfl⟩
    refine tr_nilI 3 ?_
    refine tr_block ?_
    refine tr_range (hseq := elems_gives (by omega) (by omega)) rfl gf_Elements1_ent rfl rfl rfl rfl rfl (fun (q : (Option Addr) × Nat × (List Int)) => match q with | (B, cb, zs) => [blk B5 58 [.pointer (some g.p)], blk p4 22 [.slice B zs.length cb], ow B 3 cb (ints zs), blk p1a 22 [.slice B1 (il (pol lx : Po (El p m mod))).length c1], ow B1 3 c1 (ints (il (pol lx : Po (El p m mod)))), blk p0 58 [.pointer (some g.p)], gfR g]) (fun (pre : List Int) (q : (Option Addr) × Nat × (List Int)) => match q with | (B, cb, zs) => zs = pre.filter (zset p m mod (pol lx)) ∧ zs.length ≤ pre.length) (none, 0, []) (by first | exact cs _ _ | exact CSub.refl _) (⟨rfl, by simp⟩) ?_ ?_
    · rintro pre x ⟨B, cb, zs⟩ l M0 W0 hlen hI
      refine tr_block ?_
      refine tr_seq ?_
      refine tr_region fun _ _ _ => ?_
      refine st rfl rfl rfl rfl (rLd0 rfl rfl) ?_
      refine st rfl rfl rfl rfl (rLd0 rfl rfl) ?_
      refine pu rfl rfl rfl rfl rfl ?_
      refine ef rfl rfl (eCallV rfl rfl rfl (poly_Eval g hg B1 _ _ (il (pol lx : Po (El p m mod))) rfl (by omega) x) ⟨rfl, rfl, rfl, trivial⟩ ?_) 
      refine pu rfl rfl rfl rfl rfl ?_
      refine tr_cond_bool rfl (fun h7 => ?_) (fun h7 => ?_)
      · try simp only [zbA] at h7
        refine tr_region fun _ _ _ => ?_
        refine st rfl rfl rfl rfl (rLd0 rfl rfl) ?_
        refine pu rfl rfl rfl rfl rfl ?_
        refine ef rfl rfl (eLit1I rfl rfl rfl rfl (fun A8 => ?_)) 
        refine ef rfl rfl (eAppI rfl rfl rfl rfl rfl (by first | rfl | simp | omega) (by first | rfl | simp | omega) (by first | omega | (simp; omega)) (fun A8a c8a => ?_)) 
        refine ef rfl rfl (eSt0 rfl rfl rfl rfl rfl rfl ?_) 
        refine ⟨(A8a, c8a, zs ++ [x]), by first | exact cs _ _ | exact CSub.refl _, ?_⟩
        rw [pol_il] at h7
        have hz : zset p m mod (pol lx) x = true := zset_iff.2 ((val_zero_iff _).1 (by first | exact h7 | simpa using h7))
        refine ⟨?_, by simp; omega⟩
        rw [List.filter_append, ← hI.1, List.filter_cons_of_pos hz, List.filter_nil]
      · try simp only [zbA] at h7
        refine tr_skip ?_
        refine ⟨(B, cb, zs), by first | exact cs _ _ | exact CSub.refl _, ?_⟩
        rw [pol_il] at h7
        have hz : ¬ zset p m mod (pol lx) x = true := fun h => h7 ((val_zero_iff _).2 (zset_iff.1 h))
        refine ⟨?_, by simp; omega⟩
        rw [List.filter_append, ← hI.1, List.filter_cons_of_neg hz, List.filter_nil, List.append_nil]
    · rintro ⟨B, cb, zs⟩ hI
      refine tr_seq ?_
      refine tr_region fun _ _ _ => ?_
      refine st rfl rfl rfl rfl (rLd0 rfl rfl) ?_
      iterate 2 refine pu rfl rfl rfl rfl rfl ?_
      exact tr_ret ⟨trivial, _, _, rfl, ⟨_, rfl, B, cb, zs, rfl, rfl, hI.1⟩, cs _ _, trivial, trivial⟩
theorem tow_EmbP_ent : Enters Tryz.prog 75 := enters_of Tryz.func75 (by kernel_rfl) (by kernel_rfl)
theorem tow_EmbP (p m : Int) (A : Option Addr) (c : Nat) (mod : List Int) [hF : IsF p m mod] (g : GfM) (p2 m2 : Int) (mod2 : List Int) [hE : IsF p2 m2 mod2] (hg : GOk g p2 m2 mod2) (hne : p ≠ p2) :
    Pure Tryz.prog 75 #[.agg #[.int .i64 p, .int .i64 m, .slice A mod.length c], .pointer (some g.p)] [ro A (ints mod), gfR g] (isV (.tuple #[.slice none 0 0, .int .i64 10])) := by
  have hl8 := hF.short
  have hl82 := hE.short
  have hgm := hg.emod
  have hgl : g.mod.length ≤ 1000000 := by rw [hgm]; omega
  have hgP := hg.eP
  have hgM := hg.eM
  have hm1 := hF.m1
  have hm21 := hE.m1
  refine pure_of (args := [.agg #[.int .i64 p, .int .i64 m, .slice A mod.length c], .pointer (some g.p)]) 96 Tryz.func75 rfl rfl rfl tow_EmbP_ent ⟨id, id, trivial⟩ (fun w0 => ?_)
  refine tr_seq ?_
  refine tr_region fun _ _ _ => ?_
  refine ef rfl rfl (eBox rfl rfl rfl rfl rfl (fun p0 => ?_)) 
  iterate 2 refine pu rfl rfl rfl rfl rfl ?_
  refine tr_seq ?_
  refine tr_region fun _ _ _ => ?_
  refine st rfl rfl rfl rfl (rLdS rfl rfl rfl) ?_
  refine ef rfl rfl (eCall1 rfl rfl rfl (fld_New_ok _ _ _ _ _ (by omega) hF.out) ⟨rfl, trivial⟩ ?_) 
  rintro _ _ ⟨h, rfl, rfl, hh⟩
  iterate 5 refine pu rfl rfl rfl rfl rfl ?_
  refine tr_seq ?_
  refine tr_seq ?_
  refine tr_region fun _ _ _ => ?_
  iterate 2 refine pu rfl rfl rfl rfl rfl ?_
  refine tr_cond_bool rfl (fun h2 => ?_) (fun h2 => ?_)
  · try simp only [zbA] at h2
    first | exact absurd trivial h2 | exact absurd rfl h2 | omega | (exact absurd h2 (by simp)) --done
  · try simp only [zbA] at h2
    refine tr_skip ?_
    refine tr_seq ?_
    refine tr_region fun _ _ _ => ?_
    refine pu rfl rfl rfl rfl rfl ?_
    refine ef rfl rfl (eCallV rfl rfl rfl (tow_prime g hgl) ⟨rfl, trivial⟩ ?_) 
    iterate 5 refine pu rfl rfl rfl rfl rfl ?_
    refine tr_seq ?_
    refine tr_seq ?_
    refine tr_region fun _ _ _ => ?_
    refine st rfl rfl rfl rfl (rFld rfl rfl) ?_
    refine st rfl rfl rfl rfl (rLdF rfl rfl rfl) ?_
    iterate 3 refine pu rfl rfl rfl rfl rfl ?_
    refine skF rfl rfl (by simp <;> omega) rfl rfl ?_
    refine skF rfl rfl (by simp <;> omega) rfl rfl ?_
    refine skF rfl rfl (by simp <;> omega) rfl rfl ?_
    refine skF rfl rfl (by simp <;> omega) rfl rfl ?_
    refine skF rfl rfl (by simp <;> omega) rfl rfl ?_
    refine st rfl rfl rfl rfl (rPick1 rfl rfl (by simp <;> omega) rfl) ?_
    refine tr_cond_bool rfl (fun h5 => ?_) (fun h5 => ?_)
    · try simp only [zbA] at h5
      refine tr_seq ?_
      refine tr_region fun _ _ _ => ?_
      iterate 2 refine pu rfl rfl rfl rfl rfl ?_
      exact tr_ret ⟨trivial, _, _, rfl, ⟨rfl, rfl⟩, CSub.nil _, trivial⟩
    · try simp only [zbA] at h5
      exact absurd h5 (by simp <;> omega) --done
theorem tow_EmbD_ent : Enters Tryz.prog 75 := enters_of Tryz.func75 (by kernel_rfl) (by kernel_rfl)
theorem tow_EmbD (p m : Int) (A : Option Addr) (c : Nat) (mod : List Int) [hF : IsF p m mod] (g : GfM) (p2 m2 : Int) (mod2 : List Int) [hE : IsF p2 m2 mod2] (hg : GOk g p2 m2 mod2) (hpp : p = p2) (hne : m2 % m ≠ 0) :
    Pure Tryz.prog 75 #[.agg #[.int .i64 p, .int .i64 m, .slice A mod.length c], .pointer (some g.p)] [ro A (ints mod), gfR g] (isV (.tuple #[.slice none 0 0, .int .i64 10])) := by
  have hl8 := hF.short
  have hl82 := hE.short
  have hgm := hg.emod
  have hgl : g.mod.length ≤ 1000000 := by rw [hgm]; omega
  have hgP := hg.eP
  have hgM := hg.eM
  have hm1 := hF.m1
  have hm21 := hE.m1
  refine pure_of (args := [.agg #[.int .i64 p, .int .i64 m, .slice A mod.length c], .pointer (some g.p)]) 96 Tryz.func75 rfl rfl rfl tow_EmbD_ent ⟨id, id, trivial⟩ (fun w0 => ?_)
  refine tr_seq ?_
  refine tr_region fun _ _ _ => ?_
  refine ef rfl rfl (eBox rfl rfl rfl rfl rfl (fun p0 => ?_)) 
  iterate 2 refine pu rfl rfl rfl rfl rfl ?_
  refine tr_seq ?_
  refine tr_region fun _ _ _ => ?_
  refine st rfl rfl rfl rfl (rLdS rfl rfl rfl) ?_
  refine ef rfl rfl (eCall1 rfl rfl rfl (fld_New_ok _ _ _ _ _ (by omega) hF.out) ⟨rfl, trivial⟩ ?_) 
  rintro _ _ ⟨h, rfl, rfl, hh⟩
  iterate 5 refine pu rfl rfl rfl rfl rfl ?_
  refine tr_seq ?_
  refine tr_seq ?_
  refine tr_region fun _ _ _ => ?_
  iterate 2 refine pu rfl rfl rfl rfl rfl ?_
  refine tr_cond_bool rfl (fun h2 => ?_) (fun h2 => ?_)
  · try simp only [zbA] at h2
    first | exact absurd trivial h2 | exact absurd rfl h2 | omega | (exact absurd h2 (by simp)) --done
  · try simp only [zbA] at h2
    refine tr_skip ?_
    refine tr_seq ?_
    refine tr_region fun _ _ _ => ?_
    refine pu rfl rfl rfl rfl rfl ?_
    refine ef rfl rfl (eCallV rfl rfl rfl (tow_prime g hgl) ⟨rfl, trivial⟩ ?_) 
    iterate 5 refine pu rfl rfl rfl rfl rfl ?_
    refine tr_seq ?_
    refine tr_seq ?_
    refine tr_region fun _ _ _ => ?_
    refine st rfl rfl rfl rfl (rFld rfl rfl) ?_
    refine st rfl rfl rfl rfl (rLdF rfl rfl rfl) ?_
    iterate 3 refine pu rfl rfl rfl rfl rfl ?_
    refine stT rfl rfl rfl (by simp <;> omega) rfl rfl (rMove rfl rfl) ?_
    refine stT rfl rfl rfl (by simp <;> omega) rfl rfl (rFld rfl rfl) ?_
    refine stT rfl rfl rfl (by simp <;> omega) rfl rfl (rLdF rfl rfl rfl) ?_
    refine efT rfl rfl rfl (by simp <;> omega) (eCallV rfl rfl rfl (tow_isDegree g hgl m hm1 (by omega)) ⟨rfl, rfl, trivial⟩ ?_) 
    refine stT rfl rfl rfl (by simp <;> omega) rfl rfl (rNotB rfl rfl) ?_
    refine st rfl rfl rfl rfl (rPick0 rfl rfl (by simp <;> omega) rfl) ?_
    refine tr_cond_bool rfl (fun h5 => ?_) (fun h5 => ?_)
    · try simp only [zbA] at h5
      refine tr_seq ?_
      refine tr_region fun _ _ _ => ?_
      iterate 2 refine pu rfl rfl rfl rfl rfl ?_
      exact tr_ret ⟨trivial, _, _, rfl, ⟨rfl, rfl⟩, CSub.nil _, trivial⟩
    · try simp only [zbA] at h5
      exact absurd h5 (by simp [hgM, hne]) --done
theorem tow_Emb1_ent : Enters Tryz.prog 75 := enters_of Tryz.func75 (by kernel_rfl) (by kernel_rfl)
theorem tow_Emb1 (p m : Int) (A : Option Addr) (c : Nat) (mod : List Int) [hF : IsF p m mod] (g : GfM) (m2 : Int) (mod2 : List Int) [hE : IsF p m2 mod2] (hg : GOk g p m2 mod2) (hd : m2 % m = 0) (hm : m = 1) :
    Pure Tryz.prog 75 #[.agg #[.int .i64 p, .int .i64 m, .slice A mod.length c], .pointer (some g.p)] [ro A (ints mod), gfR g] (one (fun v ch => ∃ B, v = .tuple #[.slice B (imL p m2 mod2 m (embR p m2 mod2 m mod)).length (imL p m2 mod2 m (embR p m2 mod2 m mod)).length, .int .i64 0] ∧ ch = ow B 3 (imL p m2 mod2 m (embR p m2 mod2 m mod)).length (ints (imL p m2 mod2 m (embR p m2 mod2 m mod))))) := by
  have hl8 := hF.short
  have hl82 := hE.short
  have hgm := hg.emod
  have hgl : g.mod.length ≤ 1000000 := by rw [hgm]; omega
  have hgP := hg.eP
  have hgM := hg.eM
  have hm1 := hF.m1
  have hm21 := hE.m1
  have hmm : m ≤ m2 := Int.le_of_dvd (by omega) (Int.dvd_of_emod_eq_zero hd)
  have hq2 := hF.q2
  have hq9 := hF.out.1.1.q
  have hm8 := hF.out.1.1.m8
  have hrt : IsRt p m2 mod2 m mod 0 := ⟨by omega, by have := hE.q2; omega, fun _ => rfl, fun h => by omega, fun h => by omega⟩
  have hre := hrt.eq hm1
  have hps : ∀ i : Nat, i < m.toNat → ([1] : List Int).getD i 0 = (Rg.pow (el (embR p m2 mod2 m mod)) i : El p m2 mod2).1 := fun i hi => by
    have : i = 0 := by omega
    subst this; rfl
  refine pure_of (args := [.agg #[.int .i64 p, .int .i64 m, .slice A mod.length c], .pointer (some g.p)]) 96 Tryz.func75 rfl rfl rfl tow_Emb1_ent ⟨id, id, trivial⟩ (fun w0 => ?_)
  refine tr_seq ?_
  refine tr_region fun _ _ _ => ?_
  refine ef rfl rfl (eBox rfl rfl rfl rfl rfl (fun p0 => ?_)) 
  iterate 2 refine pu rfl rfl rfl rfl rfl ?_
  refine tr_seq ?_
  refine tr_region fun _ _ _ => ?_
  refine st rfl rfl rfl rfl (rLdS rfl rfl rfl) ?_
  refine ef rfl rfl (eCall1 rfl rfl rfl (fld_New_ok _ _ _ _ _ (by omega) hF.out) ⟨rfl, trivial⟩ ?_) 
  rintro _ _ ⟨h, rfl, rfl, hh⟩
  iterate 5 refine pu rfl rfl rfl rfl rfl ?_
  refine tr_seq ?_
  refine tr_seq ?_
  refine tr_region fun _ _ _ => ?_
  iterate 2 refine pu rfl rfl rfl rfl rfl ?_
  refine tr_cond_bool rfl (fun h2 => ?_) (fun h2 => ?_)
  · try simp only [zbA] at h2
    first | exact absurd trivial h2 | exact absurd rfl h2 | omega | (exact absurd h2 (by simp)) --done
  · try simp only [zbA] at h2
    refine tr_skip ?_
    refine tr_seq ?_
    refine tr_region fun _ _ _ => ?_
    refine pu rfl rfl rfl rfl rfl ?_
    refine ef rfl rfl (eCallV rfl rfl rfl (tow_prime g hgl) ⟨rfl, trivial⟩ ?_) 
    iterate 5 refine pu rfl rfl rfl rfl rfl ?_
    refine tr_seq ?_
    refine tr_seq ?_
    refine tr_region fun _ _ _ => ?_
    refine st rfl rfl rfl rfl (rFld rfl rfl) ?_
    refine st rfl rfl rfl rfl (rLdF rfl rfl rfl) ?_
    iterate 3 refine pu rfl rfl rfl rfl rfl ?_
    refine stT rfl rfl rfl (by simp <;> omega) rfl rfl (rMove rfl rfl) ?_
    refine stT rfl rfl rfl (by simp <;> omega) rfl rfl (rFld rfl rfl) ?_
    refine stT rfl rfl rfl (by simp <;> omega) rfl rfl (rLdF rfl rfl rfl) ?_
    refine efT rfl rfl rfl (by simp <;> omega) (eCallV rfl rfl rfl (tow_isDegree g hgl m hm1 (by omega)) ⟨rfl, rfl, trivial⟩ ?_) 
    refine stT rfl rfl rfl (by simp <;> omega) rfl rfl (rNotB rfl rfl) ?_
    refine st rfl rfl rfl rfl (rPick0 rfl rfl (by simp <;> omega) rfl) ?_
    refine tr_cond_bool rfl (fun h5 => ?_) (fun h5 => ?_)
    · try simp only [zbA] at h5
      exact absurd h5 (by simp [hgM, hgP, hd] <;> omega) --done
    · try simp only [zbA] at h5
      refine tr_skip ?_
      refine tr_seq ?_
      refine tr_region fun _ _ _ => ?_
      refine ef rfl rfl (eLit1I rfl rfl rfl rfl (fun A7 => ?_)) 
      refine pu rfl rfl rfl rfl rfl ?_
      refine tr_seq ?_
      refine tr_seq ?_
      refine tr_region fun _ _ _ => ?_
      refine st rfl rfl rfl rfl (rFld rfl rfl) ?_
      refine st rfl rfl rfl rfl (rLdF rfl rfl rfl) ?_
      refine pu rfl rfl rfl rfl rfl ?_
      refine tr_cond_bool rfl (fun h8 => ?_) (fun h8 => ?_)
      · try simp only [zbA] at h8
        omega --done
      · try simp only [zbA] at h8
        refine tr_skip ?_
        refine tr_seq ?_
        have hhq := hh.eq
        refine tr_region fun _ _ _ => ?_
        refine pu rfl rfl rfl rfl rfl ?_
        refine ef rfl rfl (eCallV rfl rfl rfl (gf_Order h) ⟨rfl, trivial⟩ ?_) 
        refine ef rfl rfl (eMakeI rfl rfl rfl rfl rfl (by omega) (by omega) (by omega) (fun A16a => ?_)) 
        refine pu rfl rfl rfl rfl rfl ?_
        rw [hhq]
        refine tr_seq ?_
        refine tr_seq ?_
        refine tr_region fun _ _ _ => ?_
        refine pu rfl rfl rfl rfl rfl ?_
        refine st rfl rfl rfl rfl (rLen rfl rfl) ?_
        refine pu rfl rfl rfl rfl rfl ?_
        refine tr_block ?_
        refine tr_loop2 (fun (x : Int) (o : List Int) => [(14, .slice A16a (pw p m).toNat (pw p m).toNat), (81, .int .i64 (pw p m).toNat), (82, .int .i64 x), (10, .slice A7 [1].length 1), (6, .pointer (some h.p)), (1, .pointer (some g.p)), (4, .slice none 0 0), (5, .int .i64 0)]) (fun (x : Int) (o : List Int) => [ow A16a 3 (pw p m).toNat (ints o), ow A7 3 1 (ints [1]), gfN h, blk p0 24 [.int .i64 p, .int .i64 m, .slice A mod.length c], ro A (ints mod), gfR g]) (fun (x : Int) (o : List Int) => (0 ≤ x ∧ x ≤ pw p m) ∧ o.length = (pw p m).toNat ∧ ∀ j : Nat, (j : Int) < x → o.getD j 0 = (Po.val (pol (digs p m.toNat j) : Po (El p m2 mod2)) (el (embR p m2 mod2 m mod))).1) (fun (x : Int) (o : List Int) => (pw p m - x).toNat) (0) (List.replicate (pw p m).toNat 0) ⟨rfl, rfl, rfl, rfl, rfl, rfl, rfl, rfl, trivial⟩ (by first | exact cs _ _ | exact CSub.refl _) (⟨⟨by omega, by omega⟩, by simp, fun j hj => by omega⟩) (fun x o hI => ?_)
        obtain ⟨⟨hx0, hx1⟩, hol, ho⟩ := hI
        refine tr_seq ?_
        refine tr_region fun _ _ _ => ?_
        refine pu rfl rfl rfl rfl rfl ?_
        refine tr_seq ?_
        refine tr_cond_bool rfl (fun h18 => ?_) (fun h18 => ?_)
        · try simp only [zbA] at h18
          refine tr_skip ?_
          refine tr_seq ?_
          refine tr_block ?_
          refine tr_seq ?_
          refine tr_region fun _ _ _ => ?_
          iterate 2 refine pu rfl rfl rfl rfl rfl ?_
          refine tr_region fun _ _ _ => ?_
          iterate 5 refine pu rfl rfl rfl rfl rfl ?_
          refine ef rfl rfl (eCall1 rfl rfl rfl (gf_Digits h hh x ⟨by omega, by omega⟩) ⟨rfl, rfl, trivial⟩ ?_) 
          rintro _ _ ⟨Bd, rfl, rfl⟩
          refine pu rfl rfl rfl rfl rfl ?_
          refine ef rfl rfl (eCallV rfl rfl rfl (gf_Dot g hg Bd _ _ (digs p m.toNat x) (digs_len _ _ _).symm A7 1 1 [1] rfl (by rw [digs_len]; omega) (by rw [digs_len]; show _ = 1; omega)) ⟨rfl, rfl, rfl, trivial⟩ ?_) 
          refine st rfl rfl rfl rfl (rIdxI rfl rfl rfl (by omega) (by omega) (by omega)) ?_
          refine ef rfl rfl (eStI rfl rfl rfl rfl (by omega) ?_) 
          refine tr_region fun _ _ _ => ?_
          refine st rfl rfl rfl rfl (rAdd rfl rfl rfl (by omega) (by omega)) ?_
          refine pu rfl rfl rfl rfl rfl ?_
          refine ⟨x + 1, o.set x.toNat (Rg.sm (digs p m.toNat x).length fun i => (el ((digs p m.toNat x).getD i 0) * el ([1].getD i 0) : El p m2 mod2)).1, ⟨rfl, rfl, rfl, rfl, rfl, rfl, rfl, rfl, trivial⟩, by first | exact cs _ _ | exact CSub.refl _, ?_⟩
          refine ⟨⟨⟨by omega, by omega⟩, by simpa using hol, fun j hj => ?_⟩, by omega⟩
          rw [getD_set]
          by_cases he : x.toNat = j
          · subst he
            rw [if_pos ⟨rfl, by omega⟩, Int.toNat_of_nonneg hx0, val_sum]
            refine congrArg (fun z : El p m2 mod2 => z.1) ?_
            refine Rg.sm_congr fun i hi => ?_
            rw [digs_len] at hi
            rw [hps i hi, el_of]
          · rw [if_neg (fun e => he e.1)]; exact ho j (by omega)
        · try simp only [zbA] at h18
          refine tr_exit ?_
          refine tr_seq ?_
          refine tr_region fun _ _ _ => ?_
          iterate 3 refine pu rfl rfl rfl rfl rfl ?_
          have hfin : o = (imL p m2 mod2 m (embR p m2 mod2 m mod)) := ext_getD (by rw [imL_length]; exact hol) fun j => by
            by_cases hj : j < (pw p m).toNat
            · rw [imL_get _ _ hj]; exact ho j (by omega)
            · rw [getD_out (by omega), getD_out (by rw [imL_length]; omega)]
          have hol2 : (pw p m).toNat = (imL p m2 mod2 m (embR p m2 mod2 m mod)).length := (imL_length _ _).symm
          exact tr_ret ⟨trivial, _, _, rfl, ⟨_, rfl, A16a, by rw [hol2], by rw [← hfin, hol]⟩, cs _ _, trivial, trivial⟩
theorem tow_Emb2_ent : Enters Tryz.prog 75 := enters_of Tryz.func75 (by kernel_rfl) (by kernel_rfl)
theorem tow_Emb2 (p m : Int) (A : Option Addr) (c : Nat) (mod : List Int) [hF : IsF p m mod] (g : GfM) (m2 : Int) (mod2 : List Int) [hE : IsF p m2 mod2] (hg : GOk g p m2 mod2) (hd : m2 % m = 0) (hm : 2 ≤ m) :
    Pure Tryz.prog 75 #[.agg #[.int .i64 p, .int .i64 m, .slice A mod.length c], .pointer (some g.p)] [ro A (ints mod), gfR g] (one (fun v ch => ∃ B, v = .tuple #[.slice B (imL p m2 mod2 m (embR p m2 mod2 m mod)).length (imL p m2 mod2 m (embR p m2 mod2 m mod)).length, .int .i64 0] ∧ ch = ow B 3 (imL p m2 mod2 m (embR p m2 mod2 m mod)).length (ints (imL p m2 mod2 m (embR p m2 mod2 m mod))))) := by
  have hl8 := hF.short
  have hl82 := hE.short
  have hgm := hg.emod
  have hgl : g.mod.length ≤ 1000000 := by rw [hgm]; omega
  have hgP := hg.eP
  have hgM := hg.eM
  have hm1 := hF.m1
  have hm21 := hE.m1
  have hmm : m ≤ m2 := Int.le_of_dvd (by omega) (Int.dvd_of_emod_eq_zero hd)
  have hq2 := hF.q2
  have hq9 := hF.out.1.1.q
  have hm8 := hF.out.1.1.m8
  refine pure_of (args := [.agg #[.int .i64 p, .int .i64 m, .slice A mod.length c], .pointer (some g.p)]) 96 Tryz.func75 rfl rfl rfl tow_Emb2_ent ⟨id, id, trivial⟩ (fun w0 => ?_)
  refine tr_seq ?_
  refine tr_region fun _ _ _ => ?_
  refine ef rfl rfl (eBox rfl rfl rfl rfl rfl (fun p0 => ?_)) 
  iterate 2 refine pu rfl rfl rfl rfl rfl ?_
  refine tr_seq ?_
  refine tr_region fun _ _ _ => ?_
  refine st rfl rfl rfl rfl (rLdS rfl rfl rfl) ?_
  refine ef rfl rfl (eCall1 rfl rfl rfl (fld_New_ok _ _ _ _ _ (by omega) hF.out) ⟨rfl, trivial⟩ ?_) 
  rintro _ _ ⟨h, rfl, rfl, hh⟩
  iterate 5 refine pu rfl rfl rfl rfl rfl ?_
  refine tr_seq ?_
  refine tr_seq ?_
  refine tr_region fun _ _ _ => ?_
  iterate 2 refine pu rfl rfl rfl rfl rfl ?_
  refine tr_cond_bool rfl (fun h2 => ?_) (fun h2 => ?_)
  · try simp only [zbA] at h2
    first | exact absurd trivial h2 | exact absurd rfl h2 | omega | (exact absurd h2 (by simp)) --done
  · try simp only [zbA] at h2
    refine tr_skip ?_
    refine tr_seq ?_
    refine tr_region fun _ _ _ => ?_
    refine pu rfl rfl rfl rfl rfl ?_
    refine ef rfl rfl (eCallV rfl rfl rfl (tow_prime g hgl) ⟨rfl, trivial⟩ ?_) 
    iterate 5 refine pu rfl rfl rfl rfl rfl ?_
    refine tr_seq ?_
    refine tr_seq ?_
    refine tr_region fun _ _ _ => ?_
    refine st rfl rfl rfl rfl (rFld rfl rfl) ?_
    refine st rfl rfl rfl rfl (rLdF rfl rfl rfl) ?_
    iterate 3 refine pu rfl rfl rfl rfl rfl ?_
    refine stT rfl rfl rfl (by simp <;> omega) rfl rfl (rMove rfl rfl) ?_
    refine stT rfl rfl rfl (by simp <;> omega) rfl rfl (rFld rfl rfl) ?_
    refine stT rfl rfl rfl (by simp <;> omega) rfl rfl (rLdF rfl rfl rfl) ?_
    refine efT rfl rfl rfl (by simp <;> omega) (eCallV rfl rfl rfl (tow_isDegree g hgl m hm1 (by omega)) ⟨rfl, rfl, trivial⟩ ?_) 
    refine stT rfl rfl rfl (by simp <;> omega) rfl rfl (rNotB rfl rfl) ?_
    refine st rfl rfl rfl rfl (rPick0 rfl rfl (by simp <;> omega) rfl) ?_
    refine tr_cond_bool rfl (fun h5 => ?_) (fun h5 => ?_)
    · try simp only [zbA] at h5
      exact absurd h5 (by simp [hgM, hgP, hd] <;> omega) --done
    · try simp only [zbA] at h5
      refine tr_skip ?_
      refine tr_seq ?_
      refine tr_region fun _ _ _ => ?_
      refine ef rfl rfl (eLit1I rfl rfl rfl rfl (fun A7 => ?_)) 
      refine pu rfl rfl rfl rfl rfl ?_
      refine tr_seq ?_
      refine tr_seq ?_
      refine tr_region fun _ _ _ => ?_
      refine st rfl rfl rfl rfl (rFld rfl rfl) ?_
      refine st rfl rfl rfl rfl (rLdF rfl rfl rfl) ?_
      refine pu rfl rfl rfl rfl rfl ?_
      refine tr_cond_bool rfl (fun h8 => ?_) (fun h8 => ?_)
      · try simp only [zbA] at h8
        refine tr_seq ?_
        refine tr_region fun _ _ _ => ?_
        refine pu rfl rfl rfl rfl rfl ?_
        refine ef rfl rfl (eLit0I rfl rfl rfl  (fun A9 => ?_)) 
        refine st rfl rfl rfl rfl (rFld rfl rfl) ?_
        refine st rfl rfl rfl rfl (rLdF rfl rfl rfl) ?_
        refine ef rfl rfl (eAppI rfl rfl rfl rfl rfl (by first | rfl | simp | omega) (by first | rfl | simp | omega) (by first | omega | (simp; omega)) (fun A9a c9a => ?_)) 
        refine ef rfl rfl (eLit1I rfl rfl rfl rfl (fun A9b => ?_)) 
        refine ef rfl rfl (eAppI rfl rfl rfl rfl rfl (by first | rfl | simp | omega) (by first | rfl | simp | omega) (by first | omega | (simp; omega)) (fun A9c c9c => ?_)) 
        simp only [List.nil_append]
        refine ef rfl rfl (eCall1 rfl rfl rfl (poly_Roots g hg A9c _ c9c (mod ++ [1]) rfl (by simp; omega) (polmod_ne mod)) ⟨rfl, rfl, trivial⟩ ?_) 
        rintro _ _ ⟨Bz, cz, zs, rfl, rfl, hzs⟩
        iterate 5 refine pu rfl rfl rfl rfl rfl ?_
        refine tr_seq ?_
        refine tr_seq ?_
        rw [hg.eq] at hzs
        obtain ⟨hz0, hrt⟩ := rt_of_head (p := p) (m := m) (mod := mod) hm hd hzs
        have hre := hrt.eq hm1
        refine tr_region fun _ _ _ => ?_
        refine pu rfl rfl rfl rfl rfl ?_
        refine st rfl rfl rfl rfl (rLen rfl rfl) ?_
        refine pu rfl rfl rfl rfl rfl ?_
        refine tr_cond_bool rfl (fun h10 => ?_) (fun h10 => ?_)
        · try simp only [zbA] at h10
          omega --done
        · try simp only [zbA] at h10
          refine tr_skip ?_
          refine tr_seq ?_
          refine tr_region fun _ _ _ => ?_
          refine pu rfl rfl rfl rfl rfl ?_
          refine tr_block ?_
          refine tr_loop4 (fun (i : Int) (B : Option Addr) (cb : Nat) (ps : List Int) => [(10, .slice B ps.length cb), (13, .int .i64 i), (6, .pointer (some h.p)), (11, .slice Bz zs.length cz), (1, .pointer (some g.p)), (2, .pointer (some p0)), (4, .slice none 0 0), (5, .int .i64 0)]) (fun (i : Int) (B : Option Addr) (cb : Nat) (ps : List Int) => [ow B 3 cb (ints ps), ow Bz 3 cz (ints zs), gfN h, blk p0 24 [.int .i64 p, .int .i64 m, .slice A mod.length c], ro A (ints mod), gfR g]) (fun (i : Int) (B : Option Addr) (cb : Nat) (ps : List Int) => (1 ≤ i ∧ i ≤ m) ∧ (ps.length : Int) = i ∧ ∀ j : Nat, (j : Int) < i → ps.getD j 0 = (Rg.pow (el (zs.getD 0 0)) j : El p m2 mod2).1) (fun (i : Int) (B : Option Addr) (cb : Nat) (ps : List Int) => (m - i).toNat) (1) (A7) (1) ([1]) ⟨rfl, rfl, rfl, rfl, rfl, rfl, rfl, rfl, trivial⟩ (by first | exact cs _ _ | exact CSub.refl _) (⟨⟨by omega, by omega⟩, rfl, fun j hj => by rw [show j = 0 by omega]; rfl⟩) (fun i B cb ps hI => ?_)
          obtain ⟨⟨hi0, hi1⟩, hpl, hpw⟩ := hI
          refine tr_seq ?_
          refine tr_seq ?_
          refine tr_region fun _ _ _ => ?_
          refine pu rfl rfl rfl rfl rfl ?_
          refine st rfl rfl rfl rfl (rFld rfl rfl) ?_
          refine st rfl rfl rfl rfl (rLdF rfl rfl rfl) ?_
          refine pu rfl rfl rfl rfl rfl ?_
          refine tr_cond_bool rfl (fun h13 => ?_) (fun h13 => ?_)
          · try simp only [zbA] at h13
            refine tr_skip ?_
            refine tr_seq ?_
            refine tr_block ?_
            refine tr_draw [0, 1, 2, 3, 4, 5, 6, 7, 8, 9, 10, 11] [12, 13] mixed (by kernel_rfl) fun _ _ _ => ?_
            iterate 4 refine pu rfl rfl rfl rfl rfl ?_
            refine st rfl rfl rfl rfl (rSub rfl rfl rfl (by omega) (by omega)) ?_
            refine st rfl rfl rfl rfl (rIdxI rfl rfl rfl (by omega) (by omega) (by omega)) ?_
            refine st rfl rfl rfl rfl (rLdI rfl rfl (by omega)) ?_
            refine pu rfl rfl rfl rfl rfl ?_
            refine st rfl rfl rfl rfl (rIdxI rfl rfl rfl (by omega) (by omega) (by omega)) ?_
            refine st rfl rfl rfl rfl (rLdI rfl rfl (by omega)) ?_
            refine ef rfl rfl (eCallV rfl rfl rfl (gf_MulE g hg _ _) ⟨rfl, rfl, rfl, trivial⟩ ?_) 
            refine ef rfl rfl (eLit1I rfl rfl rfl rfl (fun A15a => ?_)) 
            refine ef rfl rfl (eAppI rfl rfl rfl rfl rfl (by first | rfl | simp | omega) (by first | rfl | simp | omega) (by first | omega | (simp; omega)) (fun A15b c15b => ?_)) 
            refine pu rfl rfl rfl rfl rfl ?_
            refine tr_region fun _ _ _ => ?_
            refine pu rfl rfl rfl rfl rfl ?_
            refine st rfl rfl rfl rfl (rAdd rfl rfl rfl (by omega) (by omega)) ?_
            refine pu rfl rfl rfl rfl rfl ?_
            refine ⟨i + 1, A15b, c15b, ps ++ [(el (ps.getD (i - 1).toNat 0) * el (zs.getD (Int.toNat 0) 0) : El p m2 mod2).1], ⟨rfl, rfl, rfl, rfl, rfl, rfl, rfl, rfl, trivial⟩, by first | exact cs _ _ | exact CSub.refl _, ?_⟩
            refine ⟨⟨⟨by omega, by omega⟩, by simp; omega, fun j hj => ?_⟩, by omega⟩
            rw [getD_app1]
            by_cases he : j = ps.length
            · have h1 : (i - 1).toNat = j - 1 := by omega
              rw [if_pos he, h1, hpw (j - 1) (by omega), el_of]
              refine congrArg (fun z : El p m2 mod2 => z.1) ?_
              have h2 : j = (j - 1) + 1 := by omega
              rw [h2, Rg.pow_succ]; rfl
            · rw [if_neg he]; exact hpw j (by omega)
          · try simp only [zbA] at h13
            refine tr_exit ?_
            refine tr_seq ?_
            have hhq := hh.eq
            have hps : ∀ j : Nat, j < m.toNat → ps.getD j 0 = (Rg.pow (el (embR p m2 mod2 m mod)) j : El p m2 mod2).1 := fun j hj => by rw [hre]; exact hpw j (by omega)
            refine tr_region fun _ _ _ => ?_
            refine pu rfl rfl rfl rfl rfl ?_
            refine ef rfl rfl (eCallV rfl rfl rfl (gf_Order h) ⟨rfl, trivial⟩ ?_) 
            refine ef rfl rfl (eMakeI rfl rfl rfl rfl rfl (by omega) (by omega) (by omega) (fun A16a => ?_)) 
            refine pu rfl rfl rfl rfl rfl ?_
            rw [hhq]
            refine tr_seq ?_
            refine tr_seq ?_
            refine tr_region fun _ _ _ => ?_
            refine pu rfl rfl rfl rfl rfl ?_
            refine st rfl rfl rfl rfl (rLen rfl rfl) ?_
            refine pu rfl rfl rfl rfl rfl ?_
            refine tr_block ?_
            refine tr_loop2 (fun (x : Int) (o : List Int) => [(14, .slice A16a (pw p m).toNat (pw p m).toNat), (81, .int .i64 (pw p m).toNat), (82, .int .i64 x), (10, .slice B ps.length cb), (6, .pointer (some h.p)), (1, .pointer (some g.p)), (4, .slice none 0 0), (5, .int .i64 0)]) (fun (x : Int) (o : List Int) => [ow A16a 3 (pw p m).toNat (ints o), ow B 3 cb (ints ps), gfN h, ow Bz 3 cz (ints zs), blk p0 24 [.int .i64 p, .int .i64 m, .slice A mod.length c], ro A (ints mod), gfR g]) (fun (x : Int) (o : List Int) => (0 ≤ x ∧ x ≤ pw p m) ∧ o.length = (pw p m).toNat ∧ ∀ j : Nat, (j : Int) < x → o.getD j 0 = (Po.val (pol (digs p m.toNat j) : Po (El p m2 mod2)) (el (embR p m2 mod2 m mod))).1) (fun (x : Int) (o : List Int) => (pw p m - x).toNat) (0) (List.replicate (pw p m).toNat 0) ⟨rfl, rfl, rfl, rfl, rfl, rfl, rfl, rfl, trivial⟩ (by first | exact cs _ _ | exact CSub.refl _) (⟨⟨by omega, by omega⟩, by simp, fun j hj => by omega⟩) (fun x o hI => ?_)
            obtain ⟨⟨hx0, hx1⟩, hol, ho⟩ := hI
            refine tr_seq ?_
            refine tr_region fun _ _ _ => ?_
            refine pu rfl rfl rfl rfl rfl ?_
            refine tr_seq ?_
            refine tr_cond_bool rfl (fun h18 => ?_) (fun h18 => ?_)
            · try simp only [zbA] at h18
              refine tr_skip ?_
              refine tr_seq ?_
              refine tr_block ?_
              refine tr_seq ?_
              refine tr_region fun _ _ _ => ?_
              iterate 2 refine pu rfl rfl rfl rfl rfl ?_
              refine tr_region fun _ _ _ => ?_
              iterate 5 refine pu rfl rfl rfl rfl rfl ?_
              refine ef rfl rfl (eCall1 rfl rfl rfl (gf_Digits h hh x ⟨by omega, by omega⟩) ⟨rfl, rfl, trivial⟩ ?_) 
              rintro _ _ ⟨Bd, rfl, rfl⟩
              refine pu rfl rfl rfl rfl rfl ?_
              refine ef rfl rfl (eCallV rfl rfl rfl (gf_Dot g hg Bd _ _ (digs p m.toNat x) (digs_len _ _ _).symm B _ cb ps rfl (by rw [digs_len]; omega) (by rw [digs_len]; omega)) ⟨rfl, rfl, rfl, trivial⟩ ?_) 
              refine st rfl rfl rfl rfl (rIdxI rfl rfl rfl (by omega) (by omega) (by omega)) ?_
              refine ef rfl rfl (eStI rfl rfl rfl rfl (by omega) ?_) 
              refine tr_region fun _ _ _ => ?_
              refine st rfl rfl rfl rfl (rAdd rfl rfl rfl (by omega) (by omega)) ?_
              refine pu rfl rfl rfl rfl rfl ?_
              refine ⟨x + 1, o.set x.toNat (Rg.sm (digs p m.toNat x).length fun i => (el ((digs p m.toNat x).getD i 0) * el (ps.getD i 0) : El p m2 mod2)).1, ⟨rfl, rfl, rfl, rfl, rfl, rfl, rfl, rfl, trivial⟩, by first | exact cs _ _ | exact CSub.refl _, ?_⟩
              refine ⟨⟨⟨by omega, by omega⟩, by simpa using hol, fun j hj => ?_⟩, by omega⟩
              rw [getD_set]
              by_cases he : x.toNat = j
              · subst he
                rw [if_pos ⟨rfl, by omega⟩, Int.toNat_of_nonneg hx0, val_sum]
                refine congrArg (fun z : El p m2 mod2 => z.1) ?_
                refine Rg.sm_congr fun i hi => ?_
                rw [digs_len] at hi
                rw [hps i hi, el_of]
              · rw [if_neg (fun e => he e.1)]; exact ho j (by omega)
            · try simp only [zbA] at h18
              refine tr_exit ?_
              refine tr_seq ?_
              refine tr_region fun _ _ _ => ?_
              iterate 3 refine pu rfl rfl rfl rfl rfl ?_
              have hfin : o = (imL p m2 mod2 m (embR p m2 mod2 m mod)) := ext_getD (by rw [imL_length]; exact hol) fun j => by
                by_cases hj : j < (pw p m).toNat
                · rw [imL_get _ _ hj]; exact ho j (by omega)
                · rw [getD_out (by omega), getD_out (by rw [imL_length]; omega)]
              have hol2 : (pw p m).toNat = (imL p m2 mod2 m (embR p m2 mod2 m mod)).length := (imL_length _ _).symm
              exact tr_ret ⟨trivial, _, _, rfl, ⟨_, rfl, A16a, by rw [hol2], by rw [← hfin, hol]⟩, cs _ _, trivial, trivial⟩
      · try simp only [zbA] at h8
        omega --done
end Go.Proofs.YtgnmcoegdogfgaaGreat

set_option linter.unusedSimpArgs false
set_option linter.unusedVariables false
set_option maxRecDepth 100000
namespace Go.Proofs.YtgnmcoegdogfgaaGreat
open Go.RowKit
section
variable {p m2 : Int} {mod2 : List Int} [hE : IsF p m2 mod2]
end
theorem bch_extN_ent : Enters Tryz.prog 30 := enters_of Tryz.func30 (by kernel_rfl) (by kernel_rfl)
theorem bch_extN (p m : Int) (A : Option Addr) (c : Nat) (mod : List Int) [hF : IsF p m mod] (p2 m2 : Int) (A2 : Option Addr) (c2 : Nat) (mod2 : List Int) (hl92 : mod2.length ≤ 17592186044415) (hE : ¬ FldR p2 m2 mod2) (n : Int) :
    Pure Tryz.prog 30 #[.agg #[.int .i64 p, .int .i64 m, .slice A mod.length c], .agg #[.int .i64 p2, .int .i64 m2, .slice A2 mod2.length c2], .int .i64 n] [ro A (ints mod), ro A2 (ints mod2)] (isV (.tuple #[.pointer none, .slice none 0 0, .int .i64 0, .int .i64 1])) := by
  refine pure_of (args := [.agg #[.int .i64 p, .int .i64 m, .slice A mod.length c], .agg #[.int .i64 p2, .int .i64 m2, .slice A2 mod2.length c2], .int .i64 n]) 47 Tryz.func30 rfl rfl rfl bch_extN_ent ⟨id, id, trivial⟩ (fun w0 => ?_)
  refine tr_seq ?_
  refine tr_region fun _ _ _ => ?_
  refine ef rfl rfl (eBox rfl rfl rfl rfl rfl (fun p0 => ?_)) 
  refine ef rfl rfl (eBox rfl rfl rfl rfl rfl (fun p0a => ?_)) 
  iterate 4 refine pu rfl rfl rfl rfl rfl ?_
  refine tr_seq ?_
  refine tr_region fun _ _ _ => ?_
  refine st rfl rfl rfl rfl (rLdS rfl rfl rfl) ?_
  refine ef rfl rfl (eCallV rfl rfl rfl (fld_New_no _ _ _ _ _ hl92 hE) ⟨rfl, trivial⟩ ?_) 
  iterate 5 refine pu rfl rfl rfl rfl rfl ?_
  refine tr_seq ?_
  refine tr_seq ?_
  refine tr_region fun _ _ _ => ?_
  iterate 2 refine pu rfl rfl rfl rfl rfl ?_
  refine tr_cond_bool rfl (fun h2 => ?_) (fun h2 => ?_)
  · try simp only [zbA] at h2
    refine tr_seq ?_
    refine tr_region fun _ _ _ => ?_
    iterate 5 refine pu rfl rfl rfl rfl rfl ?_
    exact tr_ret ⟨trivial, _, _, rfl, ⟨rfl, rfl⟩, CSub.nil _, trivial⟩
  · try simp only [zbA] at h2
    first | exact absurd trivial h2 | exact absurd rfl h2 | omega | (exact absurd h2 (by simp)) --done
theorem bch_extL_ent : Enters Tryz.prog 30 := enters_of Tryz.func30 (by kernel_rfl) (by kernel_rfl)
theorem bch_extL (p m : Int) (A : Option Addr) (c : Nat) (mod : List Int) [hF : IsF p m mod] (p2 m2 : Int) (A2 : Option Addr) (c2 : Nat) (mod2 : List Int) [hE : IsF p2 m2 mod2] (n : Int) (hb : n < 1 ∨ n > 64) :
    Pure Tryz.prog 30 #[.agg #[.int .i64 p, .int .i64 m, .slice A mod.length c], .agg #[.int .i64 p2, .int .i64 m2, .slice A2 mod2.length c2], .int .i64 n] [ro A (ints mod), ro A2 (ints mod2)] (isV (.tuple #[.pointer none, .slice none 0 0, .int .i64 0, .int .i64 4])) := by
  refine pure_of (args := [.agg #[.int .i64 p, .int .i64 m, .slice A mod.length c], .agg #[.int .i64 p2, .int .i64 m2, .slice A2 mod2.length c2], .int .i64 n]) 47 Tryz.func30 rfl rfl rfl bch_extL_ent ⟨id, id, trivial⟩ (fun w0 => ?_)
  refine tr_seq ?_
  refine tr_region fun _ _ _ => ?_
  refine ef rfl rfl (eBox rfl rfl rfl rfl rfl (fun p0 => ?_)) 
  refine ef rfl rfl (eBox rfl rfl rfl rfl rfl (fun p0a => ?_)) 
  iterate 4 refine pu rfl rfl rfl rfl rfl ?_
  refine tr_seq ?_
  refine tr_region fun _ _ _ => ?_
  refine st rfl rfl rfl rfl (rLdS rfl rfl rfl) ?_
  refine ef rfl rfl (eCall1 rfl rfl rfl (fld_New_ok _ _ _ _ _ (by have := hE.short; omega) hE.out) ⟨rfl, trivial⟩ ?_) 
  rintro _ _ ⟨g, rfl, rfl, hg⟩
  iterate 5 refine pu rfl rfl rfl rfl rfl ?_
  refine tr_seq ?_
  refine tr_seq ?_
  refine tr_region fun _ _ _ => ?_
  iterate 2 refine pu rfl rfl rfl rfl rfl ?_
  refine tr_cond_bool rfl (fun h2 => ?_) (fun h2 => ?_)
  · try simp only [zbA] at h2
    first | exact absurd trivial h2 | exact absurd rfl h2 | omega | (exact absurd h2 (by simp)) --done
  · try simp only [zbA] at h2
    refine tr_skip ?_
    refine tr_seq ?_
    refine tr_seq ?_
    refine tr_region fun _ _ _ => ?_
    iterate 3 refine pu rfl rfl rfl rfl rfl ?_
    refine stg rfl rfl rfl rfl rfl (fun hb => by (have hq := hb; try simp only [zbA] at hq); exact rMove rfl rfl) ?_
    refine stg rfl rfl rfl rfl rfl (fun hb => by (have hq := hb; try simp only [zbA] at hq); exact rGtr rfl (evg rfl hb) rfl) ?_
    refine st rfl rfl rfl rfl (rOrB rfl rfl rfl rfl) ?_
    refine tr_cond_bool rfl (fun h4 => ?_) (fun h4 => ?_)
    · try simp only [zbA] at h4
      refine tr_seq ?_
      refine tr_region fun _ _ _ => ?_
      iterate 4 refine pu rfl rfl rfl rfl rfl ?_
      exact tr_ret ⟨trivial, _, _, rfl, ⟨rfl, rfl⟩, CSub.nil _, trivial⟩
    · try simp only [zbA] at h4
      omega --done
theorem bch_extP_ent : Enters Tryz.prog 30 := enters_of Tryz.func30 (by kernel_rfl) (by kernel_rfl)
theorem bch_extP (p m : Int) (A : Option Addr) (c : Nat) (mod : List Int) [hF : IsF p m mod] (p2 m2 : Int) (A2 : Option Addr) (c2 : Nat) (mod2 : List Int) [hE : IsF p2 m2 mod2] (hne : p ≠ p2) (n : Int) (hn1 : 1 ≤ n) (hn64 : n ≤ 64) :
    Pure Tryz.prog 30 #[.agg #[.int .i64 p, .int .i64 m, .slice A mod.length c], .agg #[.int .i64 p2, .int .i64 m2, .slice A2 mod2.length c2], .int .i64 n] [ro A (ints mod), ro A2 (ints mod2)] (isV (.tuple #[.pointer none, .slice none 0 0, .int .i64 0, .int .i64 10])) := by
  refine pure_of (args := [.agg #[.int .i64 p, .int .i64 m, .slice A mod.length c], .agg #[.int .i64 p2, .int .i64 m2, .slice A2 mod2.length c2], .int .i64 n]) 47 Tryz.func30 rfl rfl rfl bch_extP_ent ⟨id, id, trivial⟩ (fun w0 => ?_)
  refine tr_seq ?_
  refine tr_region fun _ _ _ => ?_
  refine ef rfl rfl (eBox rfl rfl rfl rfl rfl (fun p0 => ?_)) 
  refine ef rfl rfl (eBox rfl rfl rfl rfl rfl (fun p0a => ?_)) 
  iterate 4 refine pu rfl rfl rfl rfl rfl ?_
  refine tr_seq ?_
  refine tr_region fun _ _ _ => ?_
  refine st rfl rfl rfl rfl (rLdS rfl rfl rfl) ?_
  refine ef rfl rfl (eCall1 rfl rfl rfl (fld_New_ok _ _ _ _ _ (by have := hE.short; omega) hE.out) ⟨rfl, trivial⟩ ?_) 
  rintro _ _ ⟨g, rfl, rfl, hg⟩
  iterate 5 refine pu rfl rfl rfl rfl rfl ?_
  refine tr_seq ?_
  refine tr_seq ?_
  refine tr_region fun _ _ _ => ?_
  iterate 2 refine pu rfl rfl rfl rfl rfl ?_
  refine tr_cond_bool rfl (fun h2 => ?_) (fun h2 => ?_)
  · try simp only [zbA] at h2
    first | exact absurd trivial h2 | exact absurd rfl h2 | omega | (exact absurd h2 (by simp)) --done
  · try simp only [zbA] at h2
    refine tr_skip ?_
    refine tr_seq ?_
    refine tr_seq ?_
    refine tr_region fun _ _ _ => ?_
    iterate 3 refine pu rfl rfl rfl rfl rfl ?_
    refine stg rfl rfl rfl rfl rfl (fun hb => by (have hq := hb; try simp only [zbA] at hq); exact rMove rfl rfl) ?_
    refine stg rfl rfl rfl rfl rfl (fun hb => by (have hq := hb; try simp only [zbA] at hq); exact rGtr rfl (evg rfl hb) rfl) ?_
    refine st rfl rfl rfl rfl (rOrB rfl rfl rfl rfl) ?_
    refine tr_cond_bool rfl (fun h4 => ?_) (fun h4 => ?_)
    · try simp only [zbA] at h4
      omega --done
    · try simp only [zbA] at h4
      refine tr_skip ?_
      refine tr_seq ?_
      refine tr_region fun _ _ _ => ?_
      refine st rfl rfl rfl rfl (rLdS rfl rfl rfl) ?_
      refine pu rfl rfl rfl rfl rfl ?_
      refine ef rfl rfl (eCallV rfl rfl rfl (tow_EmbP _ _ _ _ _ g p2 m2 mod2 hg hne) ⟨rfl, rfl, trivial⟩ ?_) 
      iterate 5 refine pu rfl rfl rfl rfl rfl ?_
      refine tr_seq ?_
      refine tr_seq ?_
      refine tr_region fun _ _ _ => ?_
      iterate 2 refine pu rfl rfl rfl rfl rfl ?_
      refine tr_cond_bool rfl (fun h7 => ?_) (fun h7 => ?_)
      · try simp only [zbA] at h7
        refine tr_seq ?_
        refine tr_region fun _ _ _ => ?_
        iterate 5 refine pu rfl rfl rfl rfl rfl ?_
        exact tr_ret ⟨trivial, _, _, rfl, ⟨rfl, rfl⟩, CSub.nil _, trivial⟩
      · try simp only [zbA] at h7
        first | exact absurd trivial h7 | exact absurd rfl h7 | omega | (exact absurd h7 (by simp)) --done
theorem bch_extD_ent : Enters Tryz.prog 30 := enters_of Tryz.func30 (by kernel_rfl) (by kernel_rfl)
theorem bch_extD (p m : Int) (A : Option Addr) (c : Nat) (mod : List Int) [hF : IsF p m mod] (p2 m2 : Int) (A2 : Option Addr) (c2 : Nat) (mod2 : List Int) [hE : IsF p2 m2 mod2] (hpp : p = p2) (hne : m2 % m ≠ 0) (n : Int) (hn1 : 1 ≤ n) (hn64 : n ≤ 64) :
    Pure Tryz.prog 30 #[.agg #[.int .i64 p, .int .i64 m, .slice A mod.length c], .agg #[.int .i64 p2, .int .i64 m2, .slice A2 mod2.length c2], .int .i64 n] [ro A (ints mod), ro A2 (ints mod2)] (isV (.tuple #[.pointer none, .slice none 0 0, .int .i64 0, .int .i64 10])) := by
  refine pure_of (args := [.agg #[.int .i64 p, .int .i64 m, .slice A mod.length c], .agg #[.int .i64 p2, .int .i64 m2, .slice A2 mod2.length c2], .int .i64 n]) 47 Tryz.func30 rfl rfl rfl bch_extD_ent ⟨id, id, trivial⟩ (fun w0 => ?_)
  refine tr_seq ?_
  refine tr_region fun _ _ _ => ?_
  refine ef rfl rfl (eBox rfl rfl rfl rfl rfl (fun p0 => ?_)) 
  refine ef rfl rfl (eBox rfl rfl rfl rfl rfl (fun p0a => ?_)) 
  iterate 4 refine pu rfl rfl rfl rfl rfl ?_
  refine tr_seq ?_
  refine tr_region fun _ _ _ => ?_
  refine st rfl rfl rfl rfl (rLdS rfl rfl rfl) ?_
  refine ef rfl rfl (eCall1 rfl rfl rfl (fld_New_ok _ _ _ _ _ (by have := hE.short; omega) hE.out) ⟨rfl, trivial⟩ ?_) 
  rintro _ _ ⟨g, rfl, rfl, hg⟩
  iterate 5 refine pu rfl rfl rfl rfl rfl ?_
  refine tr_seq ?_
  refine tr_seq ?_
  refine tr_region fun _ _ _ => ?_
  iterate 2 refine pu rfl rfl rfl rfl rfl ?_
  refine tr_cond_bool rfl (fun h2 => ?_) (fun h2 => ?_)
  · try simp only [zbA] at h2
    first | exact absurd trivial h2 | exact absurd rfl h2 | omega | (exact absurd h2 (by simp)) --done
  · try simp only [zbA] at h2
    refine tr_skip ?_
    refine tr_seq ?_
    refine tr_seq ?_
    refine tr_region fun _ _ _ => ?_
    iterate 3 refine pu rfl rfl rfl rfl rfl ?_
    refine stg rfl rfl rfl rfl rfl (fun hb => by (have hq := hb; try simp only [zbA] at hq); exact rMove rfl rfl) ?_
    refine stg rfl rfl rfl rfl rfl (fun hb => by (have hq := hb; try simp only [zbA] at hq); exact rGtr rfl (evg rfl hb) rfl) ?_
    refine st rfl rfl rfl rfl (rOrB rfl rfl rfl rfl) ?_
    refine tr_cond_bool rfl (fun h4 => ?_) (fun h4 => ?_)
    · try simp only [zbA] at h4
      omega --done
    · try simp only [zbA] at h4
      refine tr_skip ?_
      refine tr_seq ?_
      refine tr_region fun _ _ _ => ?_
      refine st rfl rfl rfl rfl (rLdS rfl rfl rfl) ?_
      refine pu rfl rfl rfl rfl rfl ?_
      refine ef rfl rfl (eCallV rfl rfl rfl (tow_EmbD _ _ _ _ _ g p2 m2 mod2 hg hpp hne) ⟨rfl, rfl, trivial⟩ ?_) 
      iterate 5 refine pu rfl rfl rfl rfl rfl ?_
      refine tr_seq ?_
      refine tr_seq ?_
      refine tr_region fun _ _ _ => ?_
      iterate 2 refine pu rfl rfl rfl rfl rfl ?_
      refine tr_cond_bool rfl (fun h7 => ?_) (fun h7 => ?_)
      · try simp only [zbA] at h7
        refine tr_seq ?_
        refine tr_region fun _ _ _ => ?_
        iterate 5 refine pu rfl rfl rfl rfl rfl ?_
        exact tr_ret ⟨trivial, _, _, rfl, ⟨rfl, rfl⟩, CSub.nil _, trivial⟩
      · try simp only [zbA] at h7
        first | exact absurd trivial h7 | exact absurd rfl h7 | omega | (exact absurd h7 (by simp)) --done
theorem tow_Emb (p m : Int) (A : Option Addr) (c : Nat) (mod : List Int) [hF : IsF p m mod] (g : GfM) (m2 : Int) (mod2 : List Int) [hE : IsF p m2 mod2] (hg : GOk g p m2 mod2) (hd : m2 % m = 0) : Pure Tryz.prog 75 #[.agg #[.int .i64 p, .int .i64 m, .slice A mod.length c], .pointer (some g.p)] [ro A (ints mod), gfR g] (one (fun v ch => ∃ B, v = .tuple #[.slice B (imL p m2 mod2 m (embR p m2 mod2 m mod)).length (imL p m2 mod2 m (embR p m2 mod2 m mod)).length, .int .i64 0] ∧ ch = ow B 3 (imL p m2 mod2 m (embR p m2 mod2 m mod)).length (ints (imL p m2 mod2 m (embR p m2 mod2 m mod))))) := by
  have h1 := hF.m1
  by_cases hm : m = 1
  · exact tow_Emb1 p m A c mod g m2 mod2 hg hd hm
  · exact tow_Emb2 p m A c mod g m2 mod2 hg hd (by omega)
theorem bch_ext_ent : Enters Tryz.prog 30 := enters_of Tryz.func30 (by kernel_rfl) (by kernel_rfl)
theorem bch_ext (p m : Int) (A : Option Addr) (c : Nat) (mod : List Int) [hF : IsF p m mod] (m2 : Int) (A2 : Option Addr) (c2 : Nat) (mod2 : List Int) [hE : IsF p m2 mod2] (hd : m2 % m = 0) (n : Int) (hn1 : 1 ≤ n) (hn64 : n ≤ 64) :
    Pure Tryz.prog 30 #[.agg #[.int .i64 p, .int .i64 m, .slice A mod.length c], .agg #[.int .i64 p, .int .i64 m2, .slice A2 mod2.length c2], .int .i64 n] [ro A (ints mod), ro A2 (ints mod2)] (two (fun v c1 c2 => ∃ (g : GfM) (B : Option Addr), v = .tuple #[.pointer (some g.p), .slice B (imL p m2 mod2 m (embR p m2 mod2 m mod)).length (imL p m2 mod2 m (embR p m2 mod2 m mod)).length, .int .i64 (if rootArgs p m2 mod2 n = 0 then rootI p m2 mod2 n else 0), .int .i64 (rootArgs p m2 mod2 n)] ∧ c1 = gfN g ∧ c2 = ow B 3 (imL p m2 mod2 m (embR p m2 mod2 m mod)).length (ints (imL p m2 mod2 m (embR p m2 mod2 m mod))) ∧ GOk g p m2 mod2)) := by
  refine pure_of (args := [.agg #[.int .i64 p, .int .i64 m, .slice A mod.length c], .agg #[.int .i64 p, .int .i64 m2, .slice A2 mod2.length c2], .int .i64 n]) 47 Tryz.func30 rfl rfl rfl bch_ext_ent ⟨id, id, trivial⟩ (fun w0 => ?_)
  refine tr_seq ?_
  refine tr_region fun _ _ _ => ?_
  refine ef rfl rfl (eBox rfl rfl rfl rfl rfl (fun p0 => ?_)) 
  refine ef rfl rfl (eBox rfl rfl rfl rfl rfl (fun p0a => ?_)) 
  iterate 4 refine pu rfl rfl rfl rfl rfl ?_
  refine tr_seq ?_
  refine tr_region fun _ _ _ => ?_
  refine st rfl rfl rfl rfl (rLdS rfl rfl rfl) ?_
  refine ef rfl rfl (eCall1 rfl rfl rfl (fld_New_ok _ _ _ _ _ (by have := hE.short; omega) hE.out) ⟨rfl, trivial⟩ ?_) 
  rintro _ _ ⟨g, rfl, rfl, hg⟩
  iterate 5 refine pu rfl rfl rfl rfl rfl ?_
  refine tr_seq ?_
  refine tr_seq ?_
  refine tr_region fun _ _ _ => ?_
  iterate 2 refine pu rfl rfl rfl rfl rfl ?_
  refine tr_cond_bool rfl (fun h2 => ?_) (fun h2 => ?_)
  · try simp only [zbA] at h2
    first | exact absurd trivial h2 | exact absurd rfl h2 | omega | (exact absurd h2 (by simp)) --done
  · try simp only [zbA] at h2
    refine tr_skip ?_
    refine tr_seq ?_
    refine tr_seq ?_
    refine tr_region fun _ _ _ => ?_
    iterate 3 refine pu rfl rfl rfl rfl rfl ?_
    refine stg rfl rfl rfl rfl rfl (fun hb => by (have hq := hb; try simp only [zbA] at hq); exact rMove rfl rfl) ?_
    refine stg rfl rfl rfl rfl rfl (fun hb => by (have hq := hb; try simp only [zbA] at hq); exact rGtr rfl (evg rfl hb) rfl) ?_
    refine st rfl rfl rfl rfl (rOrB rfl rfl rfl rfl) ?_
    refine tr_cond_bool rfl (fun h4 => ?_) (fun h4 => ?_)
    · try simp only [zbA] at h4
      omega --done
    · try simp only [zbA] at h4
      refine tr_skip ?_
      refine tr_seq ?_
      refine tr_region fun _ _ _ => ?_
      refine st rfl rfl rfl rfl (rLdS rfl rfl rfl) ?_
      refine pu rfl rfl rfl rfl rfl ?_
      refine ef rfl rfl (eCall1 rfl rfl rfl (tow_Emb _ _ _ _ _ g m2 mod2 hg hd) ⟨rfl, rfl, trivial⟩ ?_) 
      rintro _ _ ⟨B6, rfl, rfl⟩
      iterate 5 refine pu rfl rfl rfl rfl rfl ?_
      refine tr_seq ?_
      refine tr_seq ?_
      refine tr_region fun _ _ _ => ?_
      iterate 2 refine pu rfl rfl rfl rfl rfl ?_
      refine tr_cond_bool rfl (fun h7 => ?_) (fun h7 => ?_)
      · try simp only [zbA] at h7
        first | exact absurd trivial h7 | exact absurd rfl h7 | omega | (exact absurd h7 (by simp)) --done
      · try simp only [zbA] at h7
        refine tr_skip ?_
        refine tr_seq ?_
        refine tr_region fun _ _ _ => ?_
        refine st rfl rfl rfl rfl (rLdS rfl rfl rfl) ?_
        refine pu rfl rfl rfl rfl rfl ?_
        refine ef rfl rfl (eCallV rfl rfl rfl (bch_Root_ok p m2 A2 c2 mod2 (by have := hE.short; omega) n hE.out) ⟨rfl, rfl, trivial⟩ ?_) 
        iterate 5 refine pu rfl rfl rfl rfl rfl ?_
        refine tr_seq ?_
        refine tr_region fun _ _ _ => ?_
        iterate 8 refine pu rfl rfl rfl rfl rfl ?_
        exact tr_ret ⟨trivial, _, _, rfl, ⟨_, _, rfl, g, B6, rfl, rfl, rfl, hg⟩, cs _ _, gfO_excl _ _ _, trivial, trivial⟩
end Go.Proofs.YtgnmcoegdogfgaaGreat

set_option linter.unusedSimpArgs false
set_option linter.unusedVariables false
set_option maxRecDepth 100000
namespace Go.Proofs.YtgnmcoegdogfgaaGreat
open Go.RowKit
theorem ref_PEval_ent : Enters Tryz.prog 86 := enters_of Tryz.func86 (by kernel_rfl) (by kernel_rfl)
theorem ref_PEval (p m : Int) (A : Option Addr) (c : Nat) (mod : List Int) [hF : IsF p m mod] (X : Option Addr) (nx cx : Nat) (ls : List Int) (hnx : nx = ls.length) (h9 : ls.length ≤ 1000000) (x : Int) :
    Pure Tryz.prog 86 #[.agg #[.int .i64 p, .int .i64 m, .slice A mod.length c], .slice X nx cx, .int .i64 x] [ro A (ints mod), ro X (ints ls)] (isV (.int .i64 (Po.val (pol ls : Po (El p m mod)) (el x)).1)) := by
  refine pure_of (args := [.agg #[.int .i64 p, .int .i64 m, .slice A mod.length c], .slice X nx cx, .int .i64 x]) 31 Tryz.func86 rfl rfl rfl ref_PEval_ent ⟨id, id, trivial⟩ (fun w0 => ?_)
  refine tr_seq ?_
  refine tr_region fun _ _ _ => ?_
  refine ef rfl rfl (eBox rfl rfl rfl rfl rfl (fun p0 => ?_)) 
  refine pu rfl rfl rfl rfl rfl ?_
  refine tr_seq ?_
  refine tr_region fun _ _ _ => ?_
  refine pu rfl rfl rfl rfl rfl ?_
  refine tr_seq ?_
  refine tr_region fun _ _ _ => ?_
  refine pu rfl rfl rfl rfl rfl ?_
  refine tr_seq ?_
  refine tr_seq ?_
  refine tr_region fun _ _ _ => ?_
  refine pu rfl rfl rfl rfl rfl ?_
  refine tr_block ?_
  refine tr_loop3 (fun (i : Int) (y : Int) (z : Int) => [(7, .int .i64 y), (8, .int .i64 z), (9, .int .i64 i), (1, .slice X nx cx), (2, .int .i64 x), (3, .pointer (some p0)), (6, .int .i64 0)]) (fun (i : Int) (y : Int) (z : Int) => [blk p0 24 [.int .i64 p, .int .i64 m, .slice A mod.length c], ro A (ints mod), ro X (ints ls)]) (fun (i : Int) (y : Int) (z : Int) => (0 ≤ i ∧ i ≤ nx) ∧ y = (Rg.sm i.toNat fun j => (el (ls.getD j 0) * Rg.pow (el x) j : El p m mod)).1 ∧ z = (Rg.pow (el x) i.toNat : El p m mod).1) (fun (i : Int) (y : Int) (z : Int) => (nx - i).toNat) (0) (0) (1) ⟨rfl, rfl, rfl, rfl, rfl, rfl, rfl, trivial⟩ (by first | exact cs _ _ | exact CSub.refl _) (⟨⟨by omega, by omega⟩, rfl, rfl⟩) (fun i y z hI => ?_)
  obtain ⟨⟨hi0, hi1⟩, hy, hz⟩ := hI
  refine tr_seq ?_
  refine tr_seq ?_
  refine tr_region fun _ _ _ => ?_
  iterate 2 refine pu rfl rfl rfl rfl rfl ?_
  refine st rfl rfl rfl rfl (rLen rfl rfl) ?_
  refine pu rfl rfl rfl rfl rfl ?_
  refine tr_cond_bool rfl (fun h4 => ?_) (fun h4 => ?_)
  · try simp only [zbA] at h4
    refine tr_skip ?_
    refine tr_seq ?_
    refine tr_block ?_
    refine tr_seq ?_
    refine tr_draw [0, 1, 2, 3, 4, 5, 6, 7, 8, 9, 10] [] mixed (by kernel_rfl) fun _ _ _ => ?_
    refine st rfl rfl rfl rfl (rLdS rfl rfl rfl) ?_
    refine pu rfl rfl rfl rfl rfl ?_
    refine st rfl rfl rfl rfl (rLdS rfl rfl rfl) ?_
    iterate 2 refine pu rfl rfl rfl rfl rfl ?_
    refine st rfl rfl rfl rfl (rIdxI rfl rfl rfl (by omega) (by omega) (by omega)) ?_
    refine st rfl rfl rfl rfl (rLdI rfl rfl (by omega)) ?_
    refine pu rfl rfl rfl rfl rfl ?_
    refine ef rfl rfl (eCallV rfl rfl rfl (ref_MulE _ _ _ _ _ _ _) ⟨rfl, rfl, rfl, trivial⟩ ?_) 
    refine ef rfl rfl (eCallV rfl rfl rfl (ref_AddE _ _ _ _ _ _ _) ⟨rfl, rfl, rfl, trivial⟩ ?_) 
    refine pu rfl rfl rfl rfl rfl ?_
    refine tr_region fun _ _ _ => ?_
    refine st rfl rfl rfl rfl (rLdS rfl rfl rfl) ?_
    iterate 2 refine pu rfl rfl rfl rfl rfl ?_
    refine ef rfl rfl (eCallV rfl rfl rfl (ref_MulE _ _ _ _ _ _ _) ⟨rfl, rfl, rfl, trivial⟩ ?_) 
    refine pu rfl rfl rfl rfl rfl ?_
    refine tr_region fun _ _ _ => ?_
    refine pu rfl rfl rfl rfl rfl ?_
    refine st rfl rfl rfl rfl (rAdd rfl rfl rfl (by omega) (by omega)) ?_
    refine pu rfl rfl rfl rfl rfl ?_
    refine ⟨i + 1, (el y + el (el (ls.getD i.toNat 0) * el z : El p m mod).1 : El p m mod).1, (el z * el x : El p m mod).1, ⟨rfl, rfl, rfl, rfl, rfl, rfl, rfl, trivial⟩, by first | exact cs _ _ | exact CSub.refl _, ?_⟩
    have hi2 : (i + 1).toNat = i.toNat + 1 := by omega
    refine ⟨⟨⟨by omega, by omega⟩, ?_, ?_⟩, by omega⟩
    · rw [hi2, Rg.sm_succ, hy, hz, el_of, el_of, el_of]
    · rw [hi2, Rg.pow_succ, hz, el_of]
  · try simp only [zbA] at h4
    refine tr_exit ?_
    refine tr_seq ?_
    refine tr_region fun _ _ _ => ?_
    iterate 2 refine pu rfl rfl rfl rfl rfl ?_
    have hi : i.toNat = ls.length := by omega
    rw [hi] at hy
    exact tr_ret ⟨trivial, _, _, rfl, ⟨by rw [hy, val_sum], rfl⟩, CSub.nil _, trivial⟩
theorem ref_PowE_ent : Enters Tryz.prog 88 := enters_of Tryz.func88 (by kernel_rfl) (by kernel_rfl)
theorem ref_PowE (p m : Int) (A : Option Addr) (c : Nat) (mod : List Int) [hF : IsF p m mod] (x k : Int) (hk : 0 ≤ k) (hk9 : k ≤ 1000000) :
    Pure Tryz.prog 88 #[.agg #[.int .i64 p, .int .i64 m, .slice A mod.length c], .int .i64 x, .int .i64 k] [ro A (ints mod)] (isV (.tuple #[.int .i64 (Rg.pow (el x : El p m mod) k.toNat).1, .int .i64 0])) := by
  have hor := hF.ord
  have hq2 := hF.q2
  have hq9 := hF.out.1.1.q
  have hix : (el x : El p m mod).1 = inI (ordI p m) x := by rw [hor]; rfl
  refine pure_of (args := [.agg #[.int .i64 p, .int .i64 m, .slice A mod.length c], .int .i64 x, .int .i64 k]) 44 Tryz.func88 rfl rfl rfl ref_PowE_ent ⟨id, trivial⟩ (fun w0 => ?_)
  refine tr_seq ?_
  refine tr_region fun _ _ _ => ?_
  refine ef rfl rfl (eBox rfl rfl rfl rfl rfl (fun p0 => ?_)) 
  iterate 2 refine pu rfl rfl rfl rfl rfl ?_
  refine tr_seq ?_
  refine tr_region fun _ _ _ => ?_
  refine st rfl rfl rfl rfl (rLdS rfl rfl rfl) ?_
  refine pu rfl rfl rfl rfl rfl ?_
  refine ef rfl rfl (eCallV rfl rfl rfl (ref_In _ _ _ _ _ _) ⟨rfl, rfl, trivial⟩ ?_) 
  refine pu rfl rfl rfl rfl rfl ?_
  refine tr_seq ?_
  refine tr_seq ?_
  refine tr_region fun _ _ _ => ?_
  iterate 2 refine pu rfl rfl rfl rfl rfl ?_
  refine tr_cond_bool rfl (fun h2 => ?_) (fun h2 => ?_)
  · try simp only [zbA] at h2
    refine tr_seq ?_
    refine tr_region fun _ _ _ => ?_
    iterate 2 refine pu rfl rfl rfl rfl rfl ?_
    exact tr_ret ⟨trivial, _, _, rfl, ⟨by rw [show k.toNat = 0 by omega]; rfl, rfl⟩, CSub.nil _, trivial⟩
  · try simp only [zbA] at h2
    refine tr_skip ?_
    refine tr_seq ?_
    refine tr_seq ?_
    refine tr_region fun _ _ _ => ?_
    iterate 3 refine pu rfl rfl rfl rfl rfl ?_
    refine stg rfl rfl rfl rfl rfl (fun hb => by (have hq := hb; try simp only [zbA] at hq); exact rMove rfl rfl) ?_
    refine stg rfl rfl rfl rfl rfl (fun hb => by (have hq := hb; try simp only [zbA] at hq); exact rLss rfl (evg rfl hb) rfl) ?_
    refine st rfl rfl rfl rfl (rAndB rfl rfl rfl rfl) ?_
    refine tr_cond_bool rfl (fun h4 => ?_) (fun h4 => ?_)
    · try simp only [zbA] at h4
      refine tr_seq ?_
      refine tr_region fun _ _ _ => ?_
      iterate 2 refine pu rfl rfl rfl rfl rfl ?_
      omega
    · try simp only [zbA] at h4
      refine tr_skip ?_
      refine tr_seq ?_
      refine tr_seq ?_
      refine tr_region fun _ _ _ => ?_
      iterate 2 refine pu rfl rfl rfl rfl rfl ?_
      refine tr_cond_bool rfl (fun h6 => ?_) (fun h6 => ?_)
      · try simp only [zbA] at h6
        refine tr_seq ?_
        refine tr_region fun _ _ _ => ?_
        iterate 2 refine pu rfl rfl rfl rfl rfl ?_
        exact tr_ret ⟨trivial, _, _, rfl, ⟨by
          have hx0 : (el x : El p m mod) = 0 := (val_zero_iff (el x : El p m mod)).1 (by omega)
          rw [hx0, Rg.zero_pow (by omega)]; rfl, rfl⟩, CSub.nil _, trivial⟩
      · try simp only [zbA] at h6
        refine tr_skip ?_
        refine tr_seq ?_
        have hx0 : (el x : El p m mod) ≠ 0 := fun e => by
          have := (val_zero_iff (el x : El p m mod)).2 e
          omega
        have e0 := Int.emod_nonneg k (show ordI p m - 1 ≠ 0 by omega)
        have e1 := Int.emod_lt_of_pos k (show 0 < ordI p m - 1 by omega)
        refine tr_region fun _ _ _ => ?_
        refine st rfl rfl rfl rfl (rLdS rfl rfl rfl) ?_
        refine ef rfl rfl (eCallV rfl rfl rfl (ref_order _ _ _ _ _) ⟨rfl, trivial⟩ ?_) 
        refine st rfl rfl rfl rfl (rSub rfl rfl rfl (by omega) (by omega)) ?_
        refine pu rfl rfl rfl rfl rfl ?_
        refine tr_seq ?_
        refine tr_region fun _ _ _ => ?_
        iterate 2 refine pu rfl rfl rfl rfl rfl ?_
        refine st rfl rfl rfl rfl (rRem rfl rfl rfl (by omega) (by omega)) ?_
        refine pu rfl rfl rfl rfl rfl ?_
        refine st rfl rfl rfl rfl (rAdd rfl rfl rfl (by omega) (by omega)) ?_
        refine pu rfl rfl rfl rfl rfl ?_
        refine st rfl rfl rfl rfl (rRem rfl rfl rfl (by omega) (by omega)) ?_
        refine pu rfl rfl rfl rfl rfl ?_
        refine tr_seq ?_
        have e2 : (k % (ordI p m - 1) + (ordI p m - 1)) % (ordI p m - 1) = k % (ordI p m - 1) := by rw [Int.add_emod_right, Int.emod_emod_of_dvd _ (Int.dvd_refl _)]
        rw [e2]
        refine tr_region fun _ _ _ => ?_
        refine pu rfl rfl rfl rfl rfl ?_
        refine tr_seq ?_
        refine tr_seq ?_
        refine tr_region fun _ _ _ => ?_
        refine pu rfl rfl rfl rfl rfl ?_
        refine tr_block ?_
        refine tr_loop2 (fun (i : Int) (y : Int) => [(9, .int .i64 y), (10, .int .i64 i), (1, .int .i64 (inI (ordI p m) x)), (2, .int .i64 (k % (ordI p m - 1))), (3, .pointer (some p0)), (6, .int .i64 0), (7, .int .i64 0)]) (fun (i : Int) (y : Int) => [blk p0 24 [.int .i64 p, .int .i64 m, .slice A mod.length c], ro A (ints mod)]) (fun (i : Int) (y : Int) => (0 ≤ i ∧ i ≤ k % (ordI p m - 1)) ∧ y = (Rg.pow (el x) i.toNat : El p m mod).1) (fun (i : Int) (y : Int) => (k % (ordI p m - 1) - i).toNat) (0) (1) ⟨rfl, rfl, rfl, rfl, rfl, rfl, rfl, trivial⟩ (by first | exact cs _ _ | exact CSub.refl _) (⟨⟨by omega, by omega⟩, rfl⟩) (fun i y hI => ?_)
        obtain ⟨⟨hi0, hi1⟩, hy⟩ := hI
        refine tr_seq ?_
        refine tr_seq ?_
        refine tr_region fun _ _ _ => ?_
        iterate 3 refine pu rfl rfl rfl rfl rfl ?_
        refine tr_cond_bool rfl (fun h12 => ?_) (fun h12 => ?_)
        · try simp only [zbA] at h12
          refine tr_skip ?_
          refine tr_seq ?_
          refine tr_block ?_
          refine tr_region fun _ _ _ => ?_
          refine st rfl rfl rfl rfl (rLdS rfl rfl rfl) ?_
          iterate 2 refine pu rfl rfl rfl rfl rfl ?_
          refine ef rfl rfl (eCallV rfl rfl rfl (ref_MulE _ _ _ _ _ _ _) ⟨rfl, rfl, rfl, trivial⟩ ?_) 
          refine pu rfl rfl rfl rfl rfl ?_
          refine tr_region fun _ _ _ => ?_
          refine pu rfl rfl rfl rfl rfl ?_
          refine st rfl rfl rfl rfl (rAdd rfl rfl rfl (by omega) (by omega)) ?_
          refine pu rfl rfl rfl rfl rfl ?_
          refine ⟨i + 1, (el y * el (inI (ordI p m) x) : El p m mod).1, ⟨rfl, rfl, rfl, rfl, rfl, rfl, rfl, trivial⟩, by first | exact cs _ _ | exact CSub.refl _, ?_⟩
          refine ⟨⟨⟨by omega, by omega⟩, ?_⟩, by omega⟩
          rw [show (i + 1).toNat = i.toNat + 1 by omega, Rg.pow_succ, hy, el_of, ← hix, el_of]
        · try simp only [zbA] at h12
          refine tr_exit ?_
          refine tr_seq ?_
          refine tr_region fun _ _ _ => ?_
          iterate 3 refine pu rfl rfl rfl rfl rfl ?_
          have hi : i.toNat = k.toNat % (pw p m - 1).toNat := by
            have h1 : i = k % (ordI p m - 1) := by omega
            rw [h1, hor]
            obtain ⟨b, hb⟩ := Int.eq_ofNat_of_zero_le hk
            obtain ⟨c, hc⟩ := Int.eq_ofNat_of_zero_le (show 0 ≤ pw p m - 1 by omega)
            rw [hb, hc, ← Int.natCast_emod]
            simp only [Int.toNat_natCast]
          rw [hi, pow_rem hx0] at hy
          exact tr_ret ⟨trivial, _, _, rfl, ⟨by rw [hy], rfl⟩, CSub.nil _, trivial⟩
theorem ref_DigitsE (p m : Int) (A : Option Addr) (c : Nat) (mod : List Int) [hF : IsF p m mod] (x : Int) (hx : 0 ≤ x ∧ x < pw p m) : Pure Tryz.prog 87 #[.agg #[.int .i64 p, .int .i64 m, .slice A mod.length c], .int .i64 x] [ro A (ints mod)] (one (fun v ch => ∃ B, v = .slice B m.toNat m.toNat ∧ ch = ow B 3 m.toNat (ints (digs p m.toNat x)))) := by
  have h := ref_Digits p m A c mod hF.out.1.1 x
  rw [inI_in hx.1 (by rw [hF.ord]; exact hx.2)] at h
  exact h
theorem ref_Emb1_ent : Enters Tryz.prog 47 := enters_of Tryz.func47 (by kernel_rfl) (by kernel_rfl)
theorem ref_Emb1 (p m : Int) (A : Option Addr) (c : Nat) (mod : List Int) [hF : IsF p m mod] (m2 : Int) (Ae : Option Addr) (ce : Nat) (mod2 : List Int) [hE : IsF p m2 mod2] (hd : m2 % m = 0) (hm : m = 1) :
    Pure Tryz.prog 47 #[.agg #[.int .i64 p, .int .i64 m, .slice A mod.length c], .agg #[.int .i64 p, .int .i64 m2, .slice Ae mod2.length ce]] [ro A (ints mod), ro Ae (ints mod2)] (one (fun v ch => ∃ B, v = .slice B (imL p m2 mod2 m (embR p m2 mod2 m mod)).length (imL p m2 mod2 m (embR p m2 mod2 m mod)).length ∧ ch = ow B 3 (imL p m2 mod2 m (embR p m2 mod2 m mod)).length (ints (imL p m2 mod2 m (embR p m2 mod2 m mod))))) := by
  have hl8 := hF.short
  have hm1 := hF.m1
  have hq2 := hF.q2
  have hor := hF.ord
  have hq9 := hF.out.1.1.q
  have hm8 := hF.out.1.1.m8
  have hrt : IsRt p m2 mod2 m mod 0 := ⟨by omega, by have := hE.q2; omega, fun _ => rfl, fun h => by omega, fun h => by omega⟩
  have hre := hrt.eq hm1
  refine pure_of (args := [.agg #[.int .i64 p, .int .i64 m, .slice A mod.length c], .agg #[.int .i64 p, .int .i64 m2, .slice Ae mod2.length ce]]) 47 Tryz.func47 rfl rfl rfl ref_Emb1_ent ⟨id, id, trivial⟩ (fun w0 => ?_)
  refine tr_seq ?_
  refine tr_region fun _ _ _ => ?_
  refine ef rfl rfl (eBox rfl rfl rfl rfl rfl (fun p0 => ?_)) 
  refine ef rfl rfl (eBox rfl rfl rfl rfl rfl (fun p0a => ?_)) 
  refine pu rfl rfl rfl rfl rfl ?_
  refine tr_seq ?_
  refine tr_region fun _ _ _ => ?_
  refine st rfl rfl rfl rfl (rLdS rfl rfl rfl) ?_
  refine ef rfl rfl (eCallV rfl rfl rfl (ref_order _ _ _ _ _) ⟨rfl, trivial⟩ ?_) 
  refine pu rfl rfl rfl rfl rfl ?_
  refine tr_seq ?_
  refine tr_region fun _ _ _ => ?_
  refine pu rfl rfl rfl rfl rfl ?_
  refine ef rfl rfl (eMakeI rfl rfl rfl rfl rfl (by omega) (by omega) (by omega) (fun A2 => ?_)) 
  refine pu rfl rfl rfl rfl rfl ?_
  rw [hor]
  refine tr_seq ?_
  refine tr_region fun _ _ _ => ?_
  refine ef rfl rfl (eLit0I rfl rfl rfl  (fun A3 => ?_)) 
  refine st rfl rfl rfl rfl (rFld rfl rfl) ?_
  refine st rfl rfl rfl rfl (rLdF rfl rfl rfl) ?_
  refine ef rfl rfl (eAppI rfl rfl rfl rfl rfl (by first | rfl | simp | omega) (by first | rfl | simp | omega) (by first | omega | (simp; omega)) (fun A3a c3a => ?_)) 
  refine ef rfl rfl (eLit1I rfl rfl rfl rfl (fun A3b => ?_)) 
  refine ef rfl rfl (eAppI rfl rfl rfl rfl rfl (by first | rfl | simp | omega) (by first | rfl | simp | omega) (by first | omega | (simp; omega)) (fun A3c c3c => ?_)) 
  refine pu rfl rfl rfl rfl rfl ?_
  simp only [List.nil_append]
  refine tr_seq ?_
  refine tr_region fun _ _ _ => ?_
  refine pu rfl rfl rfl rfl rfl ?_
  refine tr_seq ?_
  refine tr_block ?_
  refine tr_loop1 (fun (r : Int) => [(8, .int .i64 r), (5, .int .i64 (pw p m)), (6, .slice A2 (pw p m).toNat (pw p m).toNat), (7, .slice A3c (mod ++ [1]).length c3c), (2, .pointer (some p0)), (3, .pointer (some p0a)), (4, .slice none 0 0)]) (fun (r : Int) => [ow A2 3 (pw p m).toNat (ints (List.replicate (pw p m).toNat 0)), ow A3c 3 c3c (ints (mod ++ [1])), blk p0 24 [.int .i64 p, .int .i64 m, .slice A mod.length c], blk p0a 24 [.int .i64 p, .int .i64 m2, .slice Ae mod2.length ce], ro A (ints mod), ro Ae (ints mod2)]) (fun (r : Int) => r = embR p m2 mod2 m mod) (fun (r : Int) => 0) (0) ⟨rfl, rfl, rfl, rfl, rfl, rfl, rfl, trivial⟩ (by first | exact cs _ _ | exact CSub.refl _) (hre.symm) (fun r hI => ?_)
  refine tr_seq ?_
  refine tr_seq ?_
  refine tr_region fun _ _ _ => ?_
  refine st rfl rfl rfl rfl (rFld rfl rfl) ?_
  refine st rfl rfl rfl rfl (rLdF rfl rfl rfl) ?_
  iterate 2 refine pu rfl rfl rfl rfl rfl ?_
  refine skF rfl rfl (by simp <;> omega) rfl rfl ?_
  refine skF rfl rfl (by simp <;> omega) rfl rfl ?_
  refine skF rfl rfl (by simp <;> omega) rfl rfl ?_
  refine skF rfl rfl (by simp <;> omega) rfl rfl ?_
  refine skF rfl rfl (by simp <;> omega) rfl rfl ?_
  refine st rfl rfl rfl rfl (rPick0 rfl rfl (by simp <;> omega) rfl) ?_
  refine tr_cond_bool rfl (fun h5 => ?_) (fun h5 => ?_)
  · try simp only [zbA] at h5
    first | exact absurd trivial h5 | exact absurd rfl h5 | omega | (exact absurd h5 (by simp)) --done
  · try simp only [zbA] at h5
    refine tr_exit ?_
    refine tr_seq ?_
    refine tr_seq ?_
    subst hI
    refine tr_region fun _ _ _ => ?_
    refine pu rfl rfl rfl rfl rfl ?_
    refine tr_block ?_
    refine tr_loop2 (fun (x : Int) (o : List Int) => [(6, .slice A2 (pw p m).toNat (pw p m).toNat), (9, .int .i64 x), (5, .int .i64 (pw p m)), (8, .int .i64 (embR p m2 mod2 m mod)), (2, .pointer (some p0)), (3, .pointer (some p0a)), (4, .slice none 0 0)]) (fun (x : Int) (o : List Int) => [ow A2 3 (pw p m).toNat (ints o), blk p0 24 [.int .i64 p, .int .i64 m, .slice A mod.length c], blk p0a 24 [.int .i64 p, .int .i64 m2, .slice Ae mod2.length ce], ro A (ints mod), ro Ae (ints mod2)]) (fun (x : Int) (o : List Int) => (0 ≤ x ∧ x ≤ pw p m) ∧ o.length = (pw p m).toNat ∧ ∀ j : Nat, (j : Int) < x → o.getD j 0 = (Po.val (pol (digs p m.toNat j) : Po (El p m2 mod2)) (el (embR p m2 mod2 m mod))).1) (fun (x : Int) (o : List Int) => (pw p m - x).toNat) (0) (List.replicate (pw p m).toNat 0) ⟨rfl, rfl, rfl, rfl, rfl, rfl, rfl, trivial⟩ (by first | exact cs _ _ | exact CSub.refl _) (⟨⟨by omega, by omega⟩, by simp, fun j hj => by omega⟩) (fun x o hI => ?_)
    obtain ⟨⟨hx0, hx1⟩, hol, ho⟩ := hI
    refine tr_seq ?_
    refine tr_seq ?_
    refine tr_region fun _ _ _ => ?_
    iterate 3 refine pu rfl rfl rfl rfl rfl ?_
    refine tr_cond_bool rfl (fun h8 => ?_) (fun h8 => ?_)
    · try simp only [zbA] at h8
      refine tr_skip ?_
      refine tr_seq ?_
      refine tr_block ?_
      refine tr_draw [0, 1, 2, 3, 4, 6, 5, 7, 8] [9] mixed (by kernel_rfl) fun _ _ _ => ?_
      iterate 2 refine pu rfl rfl rfl rfl rfl ?_
      refine st rfl rfl rfl rfl (rLdS rfl rfl rfl) ?_
      refine st rfl rfl rfl rfl (rLdS rfl rfl rfl) ?_
      iterate 2 refine pu rfl rfl rfl rfl rfl ?_
      refine ef rfl rfl (eCall1 rfl rfl rfl (ref_DigitsE p m A c mod x ⟨by omega, by omega⟩) ⟨rfl, rfl, trivial⟩ ?_) 
      rintro _ _ ⟨Bd, rfl, rfl⟩
      refine ef rfl rfl (eCallV rfl rfl rfl (ref_PEval p m2 Ae ce mod2 Bd _ _ (digs p m.toNat x) (digs_len _ _ _).symm (by rw [digs_len]; omega) (embR p m2 mod2 m mod)) ⟨rfl, rfl, rfl, trivial⟩ ?_) 
      refine st rfl rfl rfl rfl (rIdxI rfl rfl rfl (by omega) (by omega) (by omega)) ?_
      refine ef rfl rfl (eStI rfl rfl rfl rfl (by omega) ?_) 
      refine tr_region fun _ _ _ => ?_
      refine pu rfl rfl rfl rfl rfl ?_
      refine st rfl rfl rfl rfl (rAdd rfl rfl rfl (by omega) (by omega)) ?_
      refine pu rfl rfl rfl rfl rfl ?_
      refine ⟨x + 1, o.set x.toNat (Po.val (pol (digs p m.toNat x) : Po (El p m2 mod2)) (el (embR p m2 mod2 m mod))).1, ⟨rfl, rfl, rfl, rfl, rfl, rfl, rfl, trivial⟩, by first | exact cs _ _ | exact CSub.refl _, ?_⟩
      refine ⟨⟨⟨by omega, by omega⟩, by simpa using hol, fun j hj => ?_⟩, by omega⟩
      rw [getD_set]
      by_cases he : x.toNat = j
      · subst he; rw [if_pos ⟨rfl, by omega⟩, Int.toNat_of_nonneg hx0]
      · rw [if_neg (fun e => he e.1)]; exact ho j (by omega)
    · try simp only [zbA] at h8
      refine tr_exit ?_
      refine tr_seq ?_
      refine tr_region fun _ _ _ => ?_
      iterate 2 refine pu rfl rfl rfl rfl rfl ?_
      have hfin : o = (imL p m2 mod2 m (embR p m2 mod2 m mod)) := ext_getD (by rw [imL_length]; exact hol) fun j => by
        by_cases hj : j < (pw p m).toNat
        · rw [imL_get _ _ hj]; exact ho j (by omega)
        · rw [getD_out (by omega), getD_out (by rw [imL_length]; omega)]
      have hol2 : (pw p m).toNat = (imL p m2 mod2 m (embR p m2 mod2 m mod)).length := (imL_length _ _).symm
      exact tr_ret ⟨trivial, _, _, rfl, ⟨_, rfl, A2, by rw [hol2], by rw [← hfin, hol]⟩, cs _ _, trivial, trivial⟩
theorem ref_Emb2_ent : Enters Tryz.prog 47 := enters_of Tryz.func47 (by kernel_rfl) (by kernel_rfl)
theorem ref_Emb2 (p m : Int) (A : Option Addr) (c : Nat) (mod : List Int) [hF : IsF p m mod] (m2 : Int) (Ae : Option Addr) (ce : Nat) (mod2 : List Int) [hE : IsF p m2 mod2] (hd : m2 % m = 0) (hm : 2 ≤ m) (hrt : IsRt p m2 mod2 m mod (embR p m2 mod2 m mod)) :
    Pure Tryz.prog 47 #[.agg #[.int .i64 p, .int .i64 m, .slice A mod.length c], .agg #[.int .i64 p, .int .i64 m2, .slice Ae mod2.length ce]] [ro A (ints mod), ro Ae (ints mod2)] (one (fun v ch => ∃ B, v = .slice B (imL p m2 mod2 m (embR p m2 mod2 m mod)).length (imL p m2 mod2 m (embR p m2 mod2 m mod)).length ∧ ch = ow B 3 (imL p m2 mod2 m (embR p m2 mod2 m mod)).length (ints (imL p m2 mod2 m (embR p m2 mod2 m mod))))) := by
  have hl8 := hF.short
  have hm1 := hF.m1
  have hq2 := hF.q2
  have hor := hF.ord
  have hq9 := hF.out.1.1.q
  have hm8 := hF.out.1.1.m8
  have hlo := hrt.lo
  have hq29 := hE.out.1.1.q
  have hhi := hrt.hi
  refine pure_of (args := [.agg #[.int .i64 p, .int .i64 m, .slice A mod.length c], .agg #[.int .i64 p, .int .i64 m2, .slice Ae mod2.length ce]]) 47 Tryz.func47 rfl rfl rfl ref_Emb2_ent ⟨id, id, trivial⟩ (fun w0 => ?_)
  refine tr_seq ?_
  refine tr_region fun _ _ _ => ?_
  refine ef rfl rfl (eBox rfl rfl rfl rfl rfl (fun p0 => ?_)) 
  refine ef rfl rfl (eBox rfl rfl rfl rfl rfl (fun p0a => ?_)) 
  refine pu rfl rfl rfl rfl rfl ?_
  refine tr_seq ?_
  refine tr_region fun _ _ _ => ?_
  refine st rfl rfl rfl rfl (rLdS rfl rfl rfl) ?_
  refine ef rfl rfl (eCallV rfl rfl rfl (ref_order _ _ _ _ _) ⟨rfl, trivial⟩ ?_) 
  refine pu rfl rfl rfl rfl rfl ?_
  refine tr_seq ?_
  refine tr_region fun _ _ _ => ?_
  refine pu rfl rfl rfl rfl rfl ?_
  refine ef rfl rfl (eMakeI rfl rfl rfl rfl rfl (by omega) (by omega) (by omega) (fun A2 => ?_)) 
  refine pu rfl rfl rfl rfl rfl ?_
  rw [hor]
  refine tr_seq ?_
  refine tr_region fun _ _ _ => ?_
  refine ef rfl rfl (eLit0I rfl rfl rfl  (fun A3 => ?_)) 
  refine st rfl rfl rfl rfl (rFld rfl rfl) ?_
  refine st rfl rfl rfl rfl (rLdF rfl rfl rfl) ?_
  refine ef rfl rfl (eAppI rfl rfl rfl rfl rfl (by first | rfl | simp | omega) (by first | rfl | simp | omega) (by first | omega | (simp; omega)) (fun A3a c3a => ?_)) 
  refine ef rfl rfl (eLit1I rfl rfl rfl rfl (fun A3b => ?_)) 
  refine ef rfl rfl (eAppI rfl rfl rfl rfl rfl (by first | rfl | simp | omega) (by first | rfl | simp | omega) (by first | omega | (simp; omega)) (fun A3c c3c => ?_)) 
  refine pu rfl rfl rfl rfl rfl ?_
  simp only [List.nil_append]
  refine tr_seq ?_
  refine tr_region fun _ _ _ => ?_
  refine pu rfl rfl rfl rfl rfl ?_
  refine tr_seq ?_
  refine tr_block ?_
  refine tr_loop1 (fun (r : Int) => [(8, .int .i64 r), (5, .int .i64 (pw p m)), (6, .slice A2 (pw p m).toNat (pw p m).toNat), (7, .slice A3c (mod ++ [1]).length c3c), (2, .pointer (some p0)), (3, .pointer (some p0a)), (4, .slice none 0 0)]) (fun (r : Int) => [ow A2 3 (pw p m).toNat (ints (List.replicate (pw p m).toNat 0)), ow A3c 3 c3c (ints (mod ++ [1])), blk p0 24 [.int .i64 p, .int .i64 m, .slice A mod.length c], blk p0a 24 [.int .i64 p, .int .i64 m2, .slice Ae mod2.length ce], ro A (ints mod), ro Ae (ints mod2)]) (fun (r : Int) => 0 ≤ r ∧ r ≤ embR p m2 mod2 m mod) (fun (r : Int) => (embR p m2 mod2 m mod - r).toNat) (0) ⟨rfl, rfl, rfl, rfl, rfl, rfl, rfl, trivial⟩ (by first | exact cs _ _ | exact CSub.refl _) (by omega) (fun r hI => ?_)
  obtain ⟨hr0, hr1⟩ := hI
  refine tr_seq ?_
  refine tr_seq ?_
  refine tr_region fun _ _ _ => ?_
  refine st rfl rfl rfl rfl (rFld rfl rfl) ?_
  refine st rfl rfl rfl rfl (rLdF rfl rfl rfl) ?_
  iterate 2 refine pu rfl rfl rfl rfl rfl ?_
  refine stT rfl rfl rfl (by simp <;> omega) rfl rfl (rLdS rfl rfl rfl) ?_
  refine stT rfl rfl rfl (by simp <;> omega) rfl rfl (rMove rfl rfl) ?_
  refine stT rfl rfl rfl (by simp <;> omega) rfl rfl (rMove rfl rfl) ?_
  refine efT rfl rfl rfl (by simp <;> omega) (eCallV rfl rfl rfl (ref_PEval p m2 Ae ce mod2 A3c _ c3c (mod ++ [1]) rfl (by simp; omega) r) ⟨rfl, rfl, rfl, trivial⟩ ?_) 
  refine stT rfl rfl rfl (by simp <;> omega) rfl rfl (rNeq rfl rfl rfl) ?_
  refine st rfl rfl rfl rfl (rPick1 rfl rfl (by simp <;> omega) rfl) ?_
  refine tr_cond_bool rfl (fun h5 => ?_) (fun h5 => ?_)
  · try simp only [zbA] at h5
    refine tr_skip ?_
    refine tr_block ?_
    refine tr_region fun _ _ _ => ?_
    refine pu rfl rfl rfl rfl rfl ?_
    refine st rfl rfl rfl rfl (rAdd rfl rfl rfl (by omega) (by omega)) ?_
    refine pu rfl rfl rfl rfl rfl ?_
    refine ⟨r + 1, ⟨rfl, rfl, rfl, rfl, rfl, rfl, rfl, trivial⟩, by first | exact cs _ _ | exact CSub.refl _, ?_⟩
    have hne : r ≠ embR p m2 mod2 m mod := fun e => by
      rw [e, hrt.root hm] at h5
      first | exact h5 rfl | exact h5.2 rfl | simp at h5 | (have h6 : ((0 : El p m2 mod2).1 : Int) = 0 := rfl; omega)
    exact ⟨⟨by omega, by omega⟩, by omega⟩
  · try simp only [zbA] at h5
    refine tr_exit ?_
    refine tr_seq ?_
    refine tr_seq ?_
    have hre : r = embR p m2 mod2 m mod := by
      rcases Int.lt_or_le r (embR p m2 mod2 m mod) with h | h
      · have h6 := hrt.least hm r hr0 h
        exact absurd ((val_zero_iff _).1 (by first | exact h5 | omega | simpa using h5)) h6
      · omega
    subst hre
    refine tr_region fun _ _ _ => ?_
    refine pu rfl rfl rfl rfl rfl ?_
    refine tr_block ?_
    refine tr_loop2 (fun (x : Int) (o : List Int) => [(6, .slice A2 (pw p m).toNat (pw p m).toNat), (9, .int .i64 x), (5, .int .i64 (pw p m)), (8, .int .i64 (embR p m2 mod2 m mod)), (2, .pointer (some p0)), (3, .pointer (some p0a)), (4, .slice none 0 0)]) (fun (x : Int) (o : List Int) => [ow A2 3 (pw p m).toNat (ints o), blk p0 24 [.int .i64 p, .int .i64 m, .slice A mod.length c], blk p0a 24 [.int .i64 p, .int .i64 m2, .slice Ae mod2.length ce], ro A (ints mod), ro Ae (ints mod2)]) (fun (x : Int) (o : List Int) => (0 ≤ x ∧ x ≤ pw p m) ∧ o.length = (pw p m).toNat ∧ ∀ j : Nat, (j : Int) < x → o.getD j 0 = (Po.val (pol (digs p m.toNat j) : Po (El p m2 mod2)) (el (embR p m2 mod2 m mod))).1) (fun (x : Int) (o : List Int) => (pw p m - x).toNat) (0) (List.replicate (pw p m).toNat 0) ⟨rfl, rfl, rfl, rfl, rfl, rfl, rfl, trivial⟩ (by first | exact cs _ _ | exact CSub.refl _) (⟨⟨by omega, by omega⟩, by simp, fun j hj => by omega⟩) (fun x o hI => ?_)
    obtain ⟨⟨hx0, hx1⟩, hol, ho⟩ := hI
    refine tr_seq ?_
    refine tr_seq ?_
    refine tr_region fun _ _ _ => ?_
    iterate 3 refine pu rfl rfl rfl rfl rfl ?_
    refine tr_cond_bool rfl (fun h8 => ?_) (fun h8 => ?_)
    · try simp only [zbA] at h8
      refine tr_skip ?_
      refine tr_seq ?_
      refine tr_block ?_
      refine tr_draw [0, 1, 2, 3, 4, 6, 5, 7, 8] [9] mixed (by kernel_rfl) fun _ _ _ => ?_
      iterate 2 refine pu rfl rfl rfl rfl rfl ?_
      refine st rfl rfl rfl rfl (rLdS rfl rfl rfl) ?_
      refine st rfl rfl rfl rfl (rLdS rfl rfl rfl) ?_
      iterate 2 refine pu rfl rfl rfl rfl rfl ?_
      refine ef rfl rfl (eCall1 rfl rfl rfl (ref_DigitsE p m A c mod x ⟨by omega, by omega⟩) ⟨rfl, rfl, trivial⟩ ?_) 
      rintro _ _ ⟨Bd, rfl, rfl⟩
      refine ef rfl rfl (eCallV rfl rfl rfl (ref_PEval p m2 Ae ce mod2 Bd _ _ (digs p m.toNat x) (digs_len _ _ _).symm (by rw [digs_len]; omega) (embR p m2 mod2 m mod)) ⟨rfl, rfl, rfl, trivial⟩ ?_) 
      refine st rfl rfl rfl rfl (rIdxI rfl rfl rfl (by omega) (by omega) (by omega)) ?_
      refine ef rfl rfl (eStI rfl rfl rfl rfl (by omega) ?_) 
      refine tr_region fun _ _ _ => ?_
      refine pu rfl rfl rfl rfl rfl ?_
      refine st rfl rfl rfl rfl (rAdd rfl rfl rfl (by omega) (by omega)) ?_
      refine pu rfl rfl rfl rfl rfl ?_
      refine ⟨x + 1, o.set x.toNat (Po.val (pol (digs p m.toNat x) : Po (El p m2 mod2)) (el (embR p m2 mod2 m mod))).1, ⟨rfl, rfl, rfl, rfl, rfl, rfl, rfl, trivial⟩, by first | exact cs _ _ | exact CSub.refl _, ?_⟩
      refine ⟨⟨⟨by omega, by omega⟩, by simpa using hol, fun j hj => ?_⟩, by omega⟩
      rw [getD_set]
      by_cases he : x.toNat = j
      · subst he; rw [if_pos ⟨rfl, by omega⟩, Int.toNat_of_nonneg hx0]
      · rw [if_neg (fun e => he e.1)]; exact ho j (by omega)
    · try simp only [zbA] at h8
      refine tr_exit ?_
      refine tr_seq ?_
      refine tr_region fun _ _ _ => ?_
      iterate 2 refine pu rfl rfl rfl rfl rfl ?_
      have hfin : o = (imL p m2 mod2 m (embR p m2 mod2 m mod)) := ext_getD (by rw [imL_length]; exact hol) fun j => by
        by_cases hj : j < (pw p m).toNat
        · rw [imL_get _ _ hj]; exact ho j (by omega)
        · rw [getD_out (by omega), getD_out (by rw [imL_length]; omega)]
      have hol2 : (pw p m).toNat = (imL p m2 mod2 m (embR p m2 mod2 m mod)).length := (imL_length _ _).symm
      exact tr_ret ⟨trivial, _, _, rfl, ⟨_, rfl, A2, by rw [hol2], by rw [← hfin, hol]⟩, cs _ _, trivial, trivial⟩
theorem embR_is {p m m2 : Int} {mod mod2 : List Int} [hF : IsF p m mod] [hE : IsF p m2 mod2] (hm : 2 ≤ m) (hd : m2 % m = 0) : IsRt p m2 mod2 m mod (embR p m2 mod2 m mod) := by
  obtain ⟨_, h⟩ := rt_of_head (p := p) (m := m) (mod := mod) (m2 := m2) (mod2 := mod2) hm hd rfl
  rw [h.eq (by omega)]; exact h
theorem ref_Emb (p m : Int) (A : Option Addr) (c : Nat) (mod : List Int) [hF : IsF p m mod] (m2 : Int) (Ae : Option Addr) (ce : Nat) (mod2 : List Int) [hE : IsF p m2 mod2] (hd : m2 % m = 0) : Pure Tryz.prog 47 #[.agg #[.int .i64 p, .int .i64 m, .slice A mod.length c], .agg #[.int .i64 p, .int .i64 m2, .slice Ae mod2.length ce]] [ro A (ints mod), ro Ae (ints mod2)] (one (fun v ch => ∃ B, v = .slice B (imL p m2 mod2 m (embR p m2 mod2 m mod)).length (imL p m2 mod2 m (embR p m2 mod2 m mod)).length ∧ ch = ow B 3 (imL p m2 mod2 m (embR p m2 mod2 m mod)).length (ints (imL p m2 mod2 m (embR p m2 mod2 m mod))))) := by
  have h1 := hF.m1
  by_cases hm : m = 1
  · exact ref_Emb1 p m A c mod m2 Ae ce mod2 hd hm
  · exact ref_Emb2 p m A c mod m2 Ae ce mod2 hd (by omega) (embR_is (by omega) hd)
theorem rootArgs_is {p m : Int} {mod : List Int} (hF : FldR p m mod) {n : Int} (h1 : 1 ≤ n) (h2 : n ≤ 64) : rootArgs p m mod n = if rootI p m mod n = 0 then 11 else 0 := by
  unfold rootArgs; rw [if_neg (by rw [chkF_ok hF]; simp), if_neg (by omega)]
theorem ref_Over_ent : Enters Tryz.prog 36 := enters_of Tryz.func36 (by kernel_rfl) (by kernel_rfl)
theorem ref_Over (p m : Int) (A : Option Addr) (c : Nat) (mod : List Int) (hm : 1 ≤ m) (p2 m2 : Int) (Ae : Option Addr) (ce : Nat) (mod2 : List Int) (hm2 : 1 ≤ m2) :
    Pure Tryz.prog 36 #[.agg #[.int .i64 p, .int .i64 m, .slice A mod.length c], .agg #[.int .i64 p2, .int .i64 m2, .slice Ae mod2.length ce]] [] (isV (.bool (decide (p = p2) && decide (m2 % m = 0)))) := by
  refine pure_of (args := [.agg #[.int .i64 p, .int .i64 m, .slice A mod.length c], .agg #[.int .i64 p2, .int .i64 m2, .slice Ae mod2.length ce]]) 18 Tryz.func36 rfl rfl rfl ref_Over_ent trivial (fun w0 => ?_)
  refine tr_seq ?_
  refine tr_region fun _ _ _ => ?_
  refine ef rfl rfl (eBox rfl rfl rfl rfl rfl (fun p0 => ?_)) 
  refine ef rfl rfl (eBox rfl rfl rfl rfl rfl (fun p0a => ?_)) 
  refine pu rfl rfl rfl rfl rfl ?_
  refine tr_seq ?_
  refine tr_region fun _ _ _ => ?_
  refine st rfl rfl rfl rfl (rFld rfl rfl) ?_
  refine st rfl rfl rfl rfl (rLdF rfl rfl rfl) ?_
  refine st rfl rfl rfl rfl (rFld rfl rfl) ?_
  refine st rfl rfl rfl rfl (rLdF rfl rfl rfl) ?_
  iterate 2 refine pu rfl rfl rfl rfl rfl ?_
  refine stg rfl rfl rfl rfl rfl (fun hb => by (have hq := hb; try simp only [zbA] at hq); exact rFld rfl rfl) ?_
  refine stg rfl rfl rfl rfl rfl (fun hb => by (have hq := hb; try simp only [zbA] at hq); exact rLdF rfl (evg rfl hb) rfl) ?_
  refine stg rfl rfl rfl rfl rfl (fun hb => by (have hq := hb; try simp only [zbA] at hq); exact rFld rfl rfl) ?_
  refine stg rfl rfl rfl rfl rfl (fun hb => by (have hq := hb; try simp only [zbA] at hq); exact rLdF rfl (evg rfl hb) rfl) ?_
  refine stg rfl rfl rfl rfl rfl (fun hb => by (have hq := hb; try simp only [zbA] at hq); exact rRem rfl (evg rfl hb) (evg rfl hb) (by omega) (by omega)) ?_
  refine stg rfl rfl rfl rfl rfl (fun hb => by (have hq := hb; try simp only [zbA] at hq); exact rEql rfl (evg rfl hb) rfl) ?_
  refine st rfl rfl rfl rfl (rAndB rfl rfl rfl rfl) ?_
  refine pu rfl rfl rfl rfl rfl ?_
  exact tr_ret ⟨trivial, _, _, rfl, ⟨rfl, rfl⟩, CSub.nil _, trivial⟩
end Go.Proofs.YtgnmcoegdogfgaaGreat

set_option linter.unusedSimpArgs false
set_option linter.unusedVariables false
set_option maxRecDepth 100000
namespace Go.Proofs.YtgnmcoegdogfgaaGreat
open Go.RowKit
theorem poly_product_ent : Enters Tryz.prog 120 := enters_of Tryz.func120 (by kernel_rfl) (by kernel_rfl)
theorem poly_product (g : GfM) {p m : Int} {mod : List Int} [hF : IsF p m mod] (hg : GOk g p m mod) (A : Option Addr) (n c : Nat) (a : List Int) (hn : n = a.length) (ha9 : a.length ≤ 1000000) (B : Option Addr) (k d : Nat) (b : List Int) (hk : k = b.length) (hb9 : b.length ≤ 1000000) :
    Pure Tryz.prog 120 #[.pointer (some g.p), .slice A n c, .slice B k d] [gfR g, ro A (ints a), ro B (ints b)] (one (fun v ch => ∃ B cap, v = .slice B (il ((pol a : Po (El p m mod)) * (pol b : Po (El p m mod)))).length cap ∧ ch = ow B 3 cap (ints (il ((pol a : Po (El p m mod)) * (pol b : Po (El p m mod))))))) := by
  have hq2 := hF.q2
  have hla := il_le (p := p) (m := m) (mod := mod) a
  have hlb := il_le (p := p) (m := m) (mod := mod) b
  refine pure_of (args := [.pointer (some g.p), .slice A n c, .slice B k d]) 67 Tryz.func120 rfl rfl rfl poly_product_ent ⟨id, id, id, trivial⟩ (fun w0 => ?_)
  refine tr_seq ?_
  refine tr_region fun _ _ _ => ?_
  refine pu rfl rfl rfl rfl rfl ?_
  refine tr_seq ?_
  refine tr_region fun _ _ _ => ?_
  iterate 2 refine pu rfl rfl rfl rfl rfl ?_
  refine ef rfl rfl (eCall1 rfl rfl rfl (poly_CanonE g hg A n c a hn (by omega)) ⟨rfl, rfl, trivial⟩ ?_) 
  rintro _ _ ⟨B1, c1, rfl, hcap1, rfl⟩
  iterate 2 refine pu rfl rfl rfl rfl rfl ?_
  refine ef rfl rfl (eCall1 rfl rfl rfl (poly_CanonE g hg B k d b hk (by omega)) ⟨rfl, rfl, trivial⟩ ?_) 
  rintro _ _ ⟨B1a, c1a, rfl, hcap1a, rfl⟩
  iterate 2 refine pu rfl rfl rfl rfl rfl ?_
  refine tr_seq ?_
  refine tr_seq ?_
  refine tr_region fun _ _ _ => ?_
  refine pu rfl rfl rfl rfl rfl ?_
  refine st rfl rfl rfl rfl (rLen rfl rfl) ?_
  iterate 2 refine pu rfl rfl rfl rfl rfl ?_
  refine stg rfl rfl rfl rfl rfl (fun hb => by (have hq := hb; try simp only [zbA] at hq); exact rMove rfl rfl) ?_
  refine stg rfl rfl rfl rfl rfl (fun hb => by (have hq := hb; try simp only [zbA] at hq); exact rLen rfl (evg rfl hb)) ?_
  refine stg rfl rfl rfl rfl rfl (fun hb => by (have hq := hb; try simp only [zbA] at hq); exact rEql rfl (evg rfl hb) rfl) ?_
  refine st rfl rfl rfl rfl (rOrB rfl rfl rfl rfl) ?_
  refine tr_cond_bool rfl (fun h2 => ?_) (fun h2 => ?_)
  · try simp only [zbA] at h2
    refine tr_seq ?_
    refine tr_nilI 3 ?_
    refine tr_region fun _ _ _ => ?_
    refine pu rfl rfl rfl rfl rfl ?_
    have h0 : (pol a : Po (El p m mod)) * (pol b : Po (El p m mod)) = 0 := by
      rcases h2 with h | h
      · rw [Po.eq_zero_of_len (f := (pol a : Po (El p m mod))) (by rw [← il_length]; omega), Rg.zero_mul]
      · rw [Po.eq_zero_of_len (f := (pol b : Po (El p m mod))) (by rw [← il_length]; omega), Rg.mul_zero]
    rw [h0, il_zero]
    exact tr_ret ⟨trivial, _, _, rfl, ⟨_, rfl, none, 0, rfl, rfl⟩, cs _ _, trivial, trivial⟩
  · try simp only [zbA] at h2
    refine tr_skip ?_
    refine tr_seq ?_
    refine tr_region fun _ _ _ => ?_
    refine pu rfl rfl rfl rfl rfl ?_
    refine st rfl rfl rfl rfl (rLen rfl rfl) ?_
    refine pu rfl rfl rfl rfl rfl ?_
    refine st rfl rfl rfl rfl (rLen rfl rfl) ?_
    refine st rfl rfl rfl rfl (rAdd rfl rfl rfl (by omega) (by omega)) ?_
    refine st rfl rfl rfl rfl (rSub rfl rfl rfl (by omega) (by omega)) ?_
    refine ef rfl rfl (eMakeI rfl rfl rfl rfl rfl (by omega) (by omega) (by omega) (fun A4 => ?_)) 
    refine pu rfl rfl rfl rfl rfl ?_
    generalize hN : (((il (pol a : Po (El p m mod))).length : Int) + (il (pol b : Po (El p m mod))).length - 1).toNat = N
    refine tr_seq ?_
    refine tr_seq ?_
    refine tr_region fun _ _ _ => ?_
    refine pu rfl rfl rfl rfl rfl ?_
    refine st rfl rfl rfl rfl (rLen rfl rfl) ?_
    refine pu rfl rfl rfl rfl rfl ?_
    refine tr_block ?_
    refine tr_loop2 (fun (i : Int) (o : List Int) => [(7, .slice A4 N N), (1, .slice B1 (il (pol a : Po (El p m mod))).length c1), (2, .slice B1a (il (pol b : Po (El p m mod))).length c1a), (33, .slice B1 (il (pol a : Po (El p m mod))).length c1), (34, .int .i64 (il (pol a : Po (El p m mod))).length), (35, .int .i64 i), (0, .pointer (some g.p)), (6, .slice none 0 0)]) (fun (i : Int) (o : List Int) => [ow A4 3 N (ints o), ow B1a 3 c1a (ints (il (pol b : Po (El p m mod)))), ow B1 3 c1 (ints (il (pol a : Po (El p m mod)))), gfR g, ro A (ints a), ro B (ints b)]) (fun (i : Int) (o : List Int) => (0 ≤ i ∧ i ≤ (il (pol a : Po (El p m mod))).length) ∧ (o.length = N ∧ AllIn (pw p m) o) ∧ (pol o : Po (El p m mod)) = pol ((il (pol a : Po (El p m mod))).take i.toNat) * (pol b : Po (El p m mod))) (fun (i : Int) (o : List Int) => (((il (pol a : Po (El p m mod))).length : Int) - i).toNat) (0) (List.replicate N 0) ⟨rfl, rfl, rfl, rfl, rfl, rfl, rfl, rfl, trivial⟩ (by first | exact cs _ _ | exact CSub.refl _) (⟨⟨by omega, by omega⟩, ⟨by simp, allIn_rep (by omega) _⟩, by rw [pol_rep, Int.toNat_zero, pol_take_zero]; grind⟩) (fun i o hI => ?_)
    obtain ⟨⟨hi0, hi1⟩, ⟨hol, hoi⟩, ho⟩ := hI
    refine tr_seq ?_
    refine tr_region fun _ _ _ => ?_
    refine pu rfl rfl rfl rfl rfl ?_
    refine tr_seq ?_
    refine tr_cond_bool rfl (fun h6 => ?_) (fun h6 => ?_)
    · try simp only [zbA] at h6
      refine tr_skip ?_
      refine tr_seq ?_
      refine tr_block ?_
      refine tr_seq ?_
      refine tr_region fun _ _ _ => ?_
      refine pu rfl rfl rfl rfl rfl ?_
      refine st rfl rfl rfl rfl (rIdxI rfl rfl rfl (by omega) (by omega) (by omega)) ?_
      refine st rfl rfl rfl rfl (rLdI rfl rfl (by omega)) ?_
      iterate 2 refine pu rfl rfl rfl rfl rfl ?_
      refine tr_seq ?_
      refine tr_region fun _ _ _ => ?_
      refine pu rfl rfl rfl rfl rfl ?_
      refine st rfl rfl rfl rfl (rLen rfl rfl) ?_
      refine pu rfl rfl rfl rfl rfl ?_
      refine tr_block ?_
      refine tr_loop2 (fun (j : Int) (o2 : List Int) => [(7, .slice A4 N N), (1, .slice B1 (il (pol a : Po (El p m mod))).length c1), (2, .slice B1a (il (pol b : Po (El p m mod))).length c1a), (40, .slice B1a (il (pol b : Po (El p m mod))).length c1a), (41, .int .i64 (il (pol b : Po (El p m mod))).length), (42, .int .i64 j), (9, .int .i64 ((il (pol a : Po (El p m mod))).getD i.toNat 0)), (0, .pointer (some g.p)), (6, .slice none 0 0), (8, .int .i64 i), (33, .slice B1 (il (pol a : Po (El p m mod))).length c1), (34, .int .i64 (il (pol a : Po (El p m mod))).length), (35, .int .i64 i), (37, .int .i64 i)]) (fun (j : Int) (o2 : List Int) => [ow A4 3 N (ints o2), ow B1a 3 c1a (ints (il (pol b : Po (El p m mod)))), ow B1 3 c1 (ints (il (pol a : Po (El p m mod)))), gfR g, ro A (ints a), ro B (ints b)]) (fun (j : Int) (o2 : List Int) => (0 ≤ j ∧ j ≤ (il (pol b : Po (El p m mod))).length) ∧ (o2.length = N ∧ AllIn (pw p m) o2) ∧ (pol o2 : Po (El p m mod)) = pol ((il (pol a : Po (El p m mod))).take i.toNat) * (pol b : Po (El p m mod)) + Po.mn (el ((il (pol a : Po (El p m mod))).getD i.toNat 0)) i.toNat * pol ((il (pol b : Po (El p m mod))).take j.toNat)) (fun (j : Int) (o2 : List Int) => (((il (pol b : Po (El p m mod))).length : Int) - j).toNat) (0) (o) ⟨rfl, rfl, rfl, rfl, rfl, rfl, rfl, rfl, rfl, rfl, rfl, rfl, rfl, rfl, trivial⟩ (by first | exact cs _ _ | exact CSub.refl _) (⟨⟨by omega, by omega⟩, ⟨hol, hoi⟩, by rw [ho, Int.toNat_zero, pol_take_zero]; grind⟩) (fun j o2 hI => ?_)
      obtain ⟨⟨hj0, hj1⟩, ⟨ho2l, ho2i⟩, ho2⟩ := hI
      refine tr_seq ?_
      refine tr_region fun _ _ _ => ?_
      refine pu rfl rfl rfl rfl rfl ?_
      refine tr_seq ?_
      refine tr_cond_bool rfl (fun h9 => ?_) (fun h9 => ?_)
      · try simp only [zbA] at h9
        refine tr_skip ?_
        refine tr_seq ?_
        refine tr_block ?_
        refine tr_seq ?_
        refine tr_region fun _ _ _ => ?_
        refine pu rfl rfl rfl rfl rfl ?_
        refine st rfl rfl rfl rfl (rIdxI rfl rfl rfl (by omega) (by omega) (by omega)) ?_
        refine st rfl rfl rfl rfl (rLdI rfl rfl (by omega)) ?_
        iterate 2 refine pu rfl rfl rfl rfl rfl ?_
        refine tr_draw [0, 1, 2, 3, 4, 5, 6, 7, 8, 9, 10, 11, 12, 13, 14, 15, 16] [17] mixed (by kernel_rfl) fun _ _ _ => ?_
        iterate 3 refine pu rfl rfl rfl rfl rfl ?_
        refine st rfl rfl rfl rfl (rAdd rfl rfl rfl (by omega) (by omega)) ?_
        iterate 4 refine pu rfl rfl rfl rfl rfl ?_
        refine st rfl rfl rfl rfl (rAdd rfl rfl rfl (by omega) (by omega)) ?_
        refine st rfl rfl rfl rfl (rIdxI rfl rfl rfl (by omega) (by omega) (by omega)) ?_
        refine st rfl rfl rfl rfl (rLdI rfl rfl (by omega)) ?_
        iterate 3 refine pu rfl rfl rfl rfl rfl ?_
        refine ef rfl rfl (eCallV rfl rfl rfl (gf_MulE g hg _ _) ⟨rfl, rfl, rfl, trivial⟩ ?_) 
        refine ef rfl rfl (eCallV rfl rfl rfl (gf_AddE g hg _ _) ⟨rfl, rfl, rfl, trivial⟩ ?_) 
        refine st rfl rfl rfl rfl (rIdxI rfl rfl rfl (by omega) (by omega) (by omega)) ?_
        refine ef rfl rfl (eStI rfl rfl rfl rfl (by omega) ?_) 
        refine tr_region fun _ _ _ => ?_
        refine st rfl rfl rfl rfl (rAdd rfl rfl rfl (by omega) (by omega)) ?_
        refine pu rfl rfl rfl rfl rfl ?_
        refine ⟨j + 1, o2.set (i + j).toNat (el (o2.getD (i + j).toNat 0) + el ((el ((il (pol a : Po (El p m mod))).getD i.toNat 0) * el ((il (pol b : Po (El p m mod))).getD j.toNat 0) : El p m mod)).1 : El p m mod).1, ⟨rfl, rfl, rfl, rfl, rfl, rfl, rfl, rfl, rfl, rfl, rfl, rfl, rfl, rfl, trivial⟩, by first | exact cs _ _ | exact CSub.refl _, ?_⟩
        refine ⟨⟨⟨by omega, by omega⟩, ⟨by simpa using ho2l, ho2i.set (El.bd _) _⟩, ?_⟩, by omega⟩
        rw [pol_set_add (d := (el ((il (pol a : Po (El p m mod))).getD i.toNat 0) * el ((il (pol b : Po (El p m mod))).getD j.toNat 0) : El p m mod)) o2 (by omega) (by rw [el_of, el_of]), ho2, show (j + 1).toNat = j.toNat + 1 by omega, pol_take_succ, show (i + j).toNat = i.toNat + j.toNat by omega]
        have e1 := Po.mn_mul (el ((il (pol a : Po (El p m mod))).getD i.toNat 0) : El p m mod) (el ((il (pol b : Po (El p m mod))).getD j.toNat 0)) i.toNat j.toNat
        grind
      · try simp only [zbA] at h9
        refine tr_exit ?_
        refine tr_region fun _ _ _ => ?_
        refine st rfl rfl rfl rfl (rAdd rfl rfl rfl (by omega) (by omega)) ?_
        refine pu rfl rfl rfl rfl rfl ?_
        refine ⟨i + 1, o2, ⟨rfl, rfl, rfl, rfl, rfl, rfl, rfl, rfl, trivial⟩, by first | exact cs _ _ | exact CSub.refl _, ?_⟩
        have hjn : j = (il (pol b : Po (El p m mod))).length := by omega
        rw [hjn, Int.toNat_natCast, List.take_length, pol_il] at ho2
        refine ⟨⟨⟨by omega, by omega⟩, ⟨ho2l, ho2i⟩, ?_⟩, by omega⟩
        rw [ho2, show (i + 1).toNat = i.toNat + 1 by omega, pol_take_succ]
        grind
    · try simp only [zbA] at h6
      refine tr_exit ?_
      refine tr_seq ?_
      refine tr_region fun _ _ _ => ?_
      iterate 2 refine pu rfl rfl rfl rfl rfl ?_
      have hin : i = (il (pol a : Po (El p m mod))).length := by omega
      rw [hin, Int.toNat_natCast, List.take_length, pol_il] at ho
      have ha0 : (pol a : Po (El p m mod)) ≠ 0 := Po.len_pos_iff.1 (by rw [← il_length]; omega)
      have hb0 : (pol b : Po (El p m mod)) ≠ 0 := Po.len_pos_iff.1 (by rw [← il_length]; omega)
      have hlm := Po.len_mul ha0 hb0
      rw [← il_length, ← il_length, ← il_length] at hlm
      have hoo : o = il ((pol a : Po (El p m mod)) * (pol b : Po (El p m mod))) := by
        rw [← ho, il_self hoi (.inr ?_)]
        have h1 : o.length = Po.len (pol o : Po (El p m mod)) := by rw [ho, ← il_length]; omega
        have h2 : 0 < o.length := by omega
        have h3 := Po.lead_ne (f := (pol o : Po (El p m mod))) (n := o.length - 1) (by omega)
        rw [cf_pol] at h3
        exact fun e => h3 (by rw [e, el_zero])
      have hNN : N = (il ((pol a : Po (El p m mod)) * (pol b : Po (El p m mod)))).length := by omega
      rw [hoo]
      exact tr_ret ⟨trivial, _, _, rfl, ⟨_, rfl, A4, N, by rw [← hNN], rfl⟩, cs _ _, trivial, trivial⟩
section
variable {p m : Int} {mod : List Int} [hF : IsF p m mod]
theorem il_one : il (1 : Po (El p m mod)) = [1] := by
  refine ext_getD (by rw [il_length, Po.len_one]; rfl) fun j => ?_
  rw [il_getD, Po.cf_one]
  cases j with
  | zero => rfl
  | succ j => rw [if_neg (by omega)]; rfl
end
end Go.Proofs.YtgnmcoegdogfgaaGreat

set_option linter.unusedSimpArgs false
set_option linter.unusedVariables false
namespace Go.Proofs.YtgnmcoegdogfgaaGreat
open Go.RowKit
theorem isF_prime {p m : Int} {mod : List Int} (hF : IsF p m mod) : IsF p 1 [] := by
  have h := hF.out.1.1
  have hq : pw p 1 = p := by
    have h3 := pw_succ p (k := 0) (by omega)
    rw [pw_zero, Int.zero_add, Int.one_mul] at h3
    exact h3
  exact ⟨⟨⟨⟨h.p2, h.p9, by omega, by omega, by rw [hq]; exact h.p9, .inl ⟨rfl, rfl⟩, fun z hz => by simp at hz⟩, hF.out.1.2⟩, .inl rfl⟩⟩
theorem pw_one (p : Int) : pw p 1 = p := by
  have h3 := pw_succ p (k := 0) (by omega)
  rw [pw_zero, Int.zero_add, Int.one_mul] at h3
  exact h3
section
variable {p m : Int} {mod : List Int} [hF : IsF p m mod]
theorem zi_pow (z : Int) : ∀ n : Nat, Rg.pow (zi z : El p m mod) n = zi (z ^ n)
  | 0 => by rw [Rg.pow_zero, Int.pow_zero, zi_one]
  | n + 1 => by rw [Rg.pow_succ, zi_pow z n, ← zi_mul, Int.pow_succ]
end
theorem fermat {p m : Int} {mod : List Int} (hF : IsF p m mod) (z : Int) : z ^ p.toNat % p = z % p := by
  haveI := isF_prime hF
  have h := all_pow (zi z : El p 1 [])
  rw [pw_one, zi_pow] at h
  have h2 := congrArg (fun a : El p 1 [] => a.1) h
  simp only [zi_val] at h2
  exact h2
section
variable {K : Type} [Fd K]
theorem pow_top {f : Po K} (hf : Po.Sh f 2) (h1 : Po.cf f 1 = 1) : ∀ n, Po.Sh (Rg.pow f n) (n + 1) ∧ Po.cf (Rg.pow f n) n = 1
  | 0 => ⟨fun j hj => by rw [Rg.pow_zero, Po.cf_one, if_neg (by omega)], by rw [Rg.pow_zero, Po.cf_one, if_pos rfl]⟩
  | n + 1 => by
    have ih := pow_top hf h1 n
    rw [Rg.pow_succ]
    exact ⟨Po.Sh.mul ih.1 hf, by rw [Po.top_mul ih.1 hf, ih.2, h1, Rg.one_mul]⟩
end
section
variable {p m : Int} {mod : List Int} [hF : IsF p m mod]
theorem frob_one (x : El p m mod) : Rg.pow (x + 1) p.toNat = Rg.pow x p.toNat + 1 := by
  have hp := hF.p2
  have h1 := pow_top (K := El p m mod) (f := Po.X + Po.C 1) (fun j hj => by
    have e1 : Po.cf (Po.X : Po (El p m mod)) j = 0 := by show Po.cf (Po.mn 1 1) j = 0; rw [Po.cf_mn, if_neg (by omega)]
    have e2 : Po.cf (Po.C 1 : Po (El p m mod)) j = 0 := by show Po.cf (Po.mn 1 0) j = 0; rw [Po.cf_mn, if_neg (by omega)]
    rw [Po.cf_add, e1, e2, Rg.zero_add]) (by
    have e1 : Po.cf (Po.X : Po (El p m mod)) 1 = 1 := by show Po.cf (Po.mn 1 1) 1 = 1; rw [Po.cf_mn, if_pos rfl]
    have e2 : Po.cf (Po.C 1 : Po (El p m mod)) 1 = 0 := by show Po.cf (Po.mn 1 0) 1 = 0; rw [Po.cf_mn, if_neg (by omega)]
    rw [Po.cf_add, e1, e2, Rg.add_zero]) p.toNat
  have hval : ∀ y : El p m mod, Po.val (Rg.pow (Po.X + Po.C 1) p.toNat - Po.mn 1 p.toNat - 1) y = Rg.pow (y + 1) p.toNat - Rg.pow y p.toNat - 1 := fun y => by
    rw [Po.val_sub, Po.val_sub, Po.val_pow, Po.val_add, Po.val_X, Po.val_C, Po.val_mn, Po.val_one, Rg.one_mul]
  have hsh : Po.Sh (Rg.pow (Po.X + Po.C 1) p.toNat - Po.mn 1 p.toNat - 1 : Po (El p m mod)) p.toNat := fun j hj => by
    rw [Po.cf_sub, Po.cf_sub, Po.cf_mn, Po.cf_one, if_neg (show ¬ j = 0 by omega)]
    by_cases h : j = p.toNat
    · rw [if_pos h, h, h1.2, Rg.sub_self, Rg.sub_self]
    · rw [if_neg h, h1.1 j (by omega), Rg.sub_self, Rg.sub_self]
  have hz : (Rg.pow (Po.X + Po.C 1) p.toNat - Po.mn 1 p.toNat - 1 : Po (El p m mod)) = 0 := Classical.byContradiction fun hne => by
    have h2 := roots_len ((List.range p.toNat).map fun k : Nat => (zi k : El p m mod)) _ ?_ hne ?_
    · rw [List.length_map, List.length_range] at h2
      have := Po.len_le hsh
      omega
    · refine List.pairwise_map.2 ((List.nodup_range (n := p.toNat)).imp_of_mem fun {a b} ha hb hab e => hab ?_)
      have h3 := congrArg (fun y : El p m mod => y.1) e
      simp only [zi_val] at h3
      have ha := List.mem_range.1 ha
      have hb := List.mem_range.1 hb
      rw [Int.emod_eq_of_lt (by omega) (by omega), Int.emod_eq_of_lt (by omega) (by omega)] at h3
      omega
    · intro a ha
      obtain ⟨k, _, rfl⟩ := List.mem_map.1 ha
      have e1 : (zi k : El p m mod) + 1 = zi ((k : Int) + 1) := by rw [zi_add, zi_one]
      have e2 : ∀ z : Int, Rg.pow (zi z : El p m mod) p.toNat = zi z := fun z => by rw [zi_pow]; exact zi_cg (fermat hF z)
      rw [hval, e1, e2, e2, zi_add, zi_one]
      grind
  have := hval x
  rw [hz, Po.val_zero] at this
  grind
theorem frob_p (x y : El p m mod) : Rg.pow (x + y) p.toNat = Rg.pow x p.toNat + Rg.pow y p.toNat := by
  have hp := hF.p2
  by_cases h : y = 0
  · rw [h, Rg.zero_pow (by omega), Rg.add_zero, Rg.add_zero]
  · have e : x = x * Fd.inv y * y := by rw [Rg.mul_assoc, Fd.inv_mul y h, Rg.mul_one]
    have e2 : x + y = (x * Fd.inv y + 1) * y := by rw [Rg.add_mul, ← e, Rg.one_mul]
    rw [e2, Rg.mul_pow, frob_one, Rg.add_mul, Rg.one_mul, ← Rg.mul_pow, ← e]
theorem frob_k (x y : El p m mod) : ∀ k : Nat, Rg.pow (x + y) (p.toNat ^ k) = Rg.pow x (p.toNat ^ k) + Rg.pow y (p.toNat ^ k)
  | 0 => by rw [Nat.pow_zero, Rg.pow_one, Rg.pow_one, Rg.pow_one]
  | k + 1 => by rw [Nat.pow_succ, Rg.pow_mul, Rg.pow_mul, Rg.pow_mul, frob_k x y k, frob_p]
end
structure Hm {K L : Type} [Fd K] [Fd L] (φ : K → L) : Prop where
  add : ∀ x y, φ (x + y) = φ x + φ y
  mul : ∀ x y, φ (x * y) = φ x * φ y
  one : φ 1 = 1
section
variable {K L : Type} [Fd K] [Fd L] {φ : K → L}
theorem Hm.zero (h : Hm φ) : φ 0 = 0 := by
  have h1 := h.add 0 0
  rw [Rg.add_zero] at h1
  have h2 : φ 0 + 0 = φ 0 + φ 0 := by rw [Rg.add_zero]; exact h1
  exact (Rg.add_left_cancel h2).symm
theorem Hm.neg (h : Hm φ) (x : K) : φ (-x) = -φ x := by
  have h1 := h.add (-x) x
  rw [Rg.neg_add, h.zero] at h1
  grind
theorem Hm.sub (h : Hm φ) (x y : K) : φ (x - y) = φ x - φ y := by
  have e : x - y = x + -y := rfl
  rw [e, h.add, h.neg]; rfl
theorem Hm.ne (h : Hm φ) {x : K} (hx : x ≠ 0) : φ x ≠ 0 := fun e => by
  have h1 := h.mul x (Fd.inv x)
  rw [Fd.mul_inv x hx, h.one, e, Rg.zero_mul] at h1
  exact Fd.one_ne (K := L) h1
theorem Hm.inj (h : Hm φ) {x y : K} (e : φ x = φ y) : x = y := Classical.byContradiction fun hn => by
  have h1 : x - y ≠ 0 := fun e => hn (Rg.eq_of_sub e)
  exact h.ne h1 (by rw [h.sub, e, Rg.sub_self])
theorem Hm.pow (h : Hm φ) (x : K) : ∀ n, φ (Rg.pow x n) = Rg.pow (φ x) n
  | 0 => h.one
  | n + 1 => by rw [Rg.pow_succ, Rg.pow_succ, h.mul, h.pow x n]
theorem Hm.sm (h : Hm φ) (f : Nat → K) : ∀ n, φ (Rg.sm n f) = Rg.sm n fun i => φ (f i)
  | 0 => h.zero
  | n + 1 => by rw [Rg.sm_succ, Rg.sm_succ, h.add, h.sm f n]
noncomputable def mapP (φ : K → L) (h : Hm φ) (f : Po K) : Po L := ⟨fun j => φ (Po.cf f j), Po.len f, fun j hj => by show φ (Po.cf f j) = 0; rw [Po.cf_ge hj, h.zero]⟩
theorem cf_mapP (h : Hm φ) (f : Po K) (j : Nat) : Po.cf (mapP φ h f) j = φ (Po.cf f j) := rfl
theorem mapP_add (h : Hm φ) (f g : Po K) : mapP φ h (f + g) = mapP φ h f + mapP φ h g := Po.ext fun j => by rw [Po.cf_add, cf_mapP, cf_mapP, cf_mapP, Po.cf_add, h.add]
theorem mapP_sub (h : Hm φ) (f g : Po K) : mapP φ h (f - g) = mapP φ h f - mapP φ h g := Po.ext fun j => by rw [Po.cf_sub, cf_mapP, cf_mapP, cf_mapP, Po.cf_sub, h.sub]
theorem mapP_mul (h : Hm φ) (f g : Po K) : mapP φ h (f * g) = mapP φ h f * mapP φ h g := Po.ext fun j => by
  rw [cf_mapP, Po.cf_mul, Po.cf_mul, h.sm]
  exact Rg.sm_congr fun i _ => by rw [h.mul, cf_mapP, cf_mapP]
theorem mapP_mn (h : Hm φ) (c : K) (n : Nat) : mapP φ h (Po.mn c n) = Po.mn (φ c) n := Po.ext fun j => by
  rw [cf_mapP, Po.cf_mn, Po.cf_mn]; split
  · rfl
  · exact h.zero
theorem mapP_zero (h : Hm φ) : mapP φ h 0 = 0 := Po.ext fun j => h.zero
theorem mapP_one (h : Hm φ) : mapP φ h 1 = 1 := Po.ext fun j => by
  rw [cf_mapP, Po.cf_one, Po.cf_one]; split
  · exact h.one
  · exact h.zero
theorem mapP_len (h : Hm φ) (f : Po K) : Po.len (mapP φ h f) = Po.len f := by
  rcases Nat.eq_zero_or_pos (Po.len f) with h0 | h0
  · rw [Po.eq_zero_of_len h0, mapP_zero, Po.len_zero, Po.len_zero]
  · obtain ⟨n, hn⟩ : ∃ n, Po.len f = n + 1 := ⟨Po.len f - 1, by omega⟩
    rw [hn]
    exact Po.len_eq (fun j hj => by rw [cf_mapP, Po.cf_ge (by omega), h.zero]) (by rw [cf_mapP]; exact h.ne (Po.lead_ne hn))
theorem mapP_inj (h : Hm φ) {f g : Po K} (e : mapP φ h f = mapP φ h g) : f = g := Po.ext fun j => h.inj (by rw [← cf_mapP h, ← cf_mapP h, e])
theorem mapP_lead (h : Hm φ) (f : Po K) : Po.lead (mapP φ h f) = φ (Po.lead f) := by unfold Po.lead; rw [mapP_len, cf_mapP]
theorem mapP_dvd (h : Hm φ) {f g : Po K} (hf : f ≠ 0) : mapP φ h f ∣ mapP φ h g ↔ f ∣ g := by
  constructor
  · rintro ⟨k, hk⟩
    have h1 := Po.div_eq g hf
    have h2 := Po.rem_len g hf
    have e := congrArg (mapP φ h) h1
    rw [mapP_add, mapP_mul, hk] at e
    have hf2 : mapP φ h f ≠ 0 := fun e => hf (mapP_inj h (by rw [e, mapP_zero]))
    have h3 := Po.div_uniq (g := mapP φ h f) (q := k) (q' := mapP φ h (Po.quo g f)) (r := 0) (r' := mapP φ h (Po.rem g f)) (by rw [← e, Rg.add_zero, Rg.mul_comm]) (by rw [Po.len_zero, mapP_len]; omega) (by rw [mapP_len, mapP_len]; exact h2)
    have h4 : Po.rem g f = 0 := mapP_inj h (by rw [← h3.2, mapP_zero])
    exact (Po.rem_zero_iff hf).1 h4
  · rintro ⟨k, rfl⟩
    exact ⟨mapP φ h k, mapP_mul h f k⟩
end
section
variable {p m m2 : Int} {mod mod2 : List Int} [hF : IsF p m mod] [hE : IsF p m2 mod2]
def RtP (p m : Int) (mod : List Int) (m2 : Int) (mod2 : List Int) [hE : IsF p m2 mod2] (a : El p m2 mod2) : Prop := Po.val (zp (m.toNat + 1) (fF m.toNat (rl mod)) : Po (El p m2 mod2)) a = 0
omit hF in
theorem zp_add (n : Nat) (u v : Row) : (zp n (u.add v) : Po (El p m2 mod2)) = zp n u + zp n v := Po.ext fun j => by
  rw [Po.cf_add, cf_zp, cf_zp, cf_zp]
  split
  · exact zi_add _ _
  · rw [Rg.zero_add]
omit hF in
theorem zp_sm (n : Nat) (c : Int) (u : Row) : (zp n (Row.sm c u) : Po (El p m2 mod2)) = Po.C (zi c) * zp n u := Po.ext fun j => by
  rw [Po.cf_C_mul, cf_zp, cf_zp]
  split
  · exact zi_mul _ _
  · rw [Rg.mul_zero]
omit hF in
theorem zp_succ (n : Nat) (Q : Row) : (zp (n + 1) Q : Po (El p m2 mod2)) = zp n Q + Po.mn (zi (Q n)) n := Po.ext fun j => by
  rw [Po.cf_add, cf_zp, cf_zp, Po.cf_mn]
  by_cases h2 : j = n
  · rw [if_pos (by omega), if_neg (by omega), if_pos h2, h2, Rg.zero_add]
  · rw [if_neg h2, Rg.add_zero]
    by_cases h3 : j < n
    · rw [if_pos (by omega), if_pos h3]
    · rw [if_neg (by omega), if_neg h3]
omit hF in
theorem ev_tm {M : Nat} (hM : 1 ≤ M) {low : Row} {a : El p m2 mod2} (ha : Po.val (zp (M + 1) (fF M low) : Po (El p m2 mod2)) a = 0) (u : Row) : Po.val (zp M (tm M low u) : Po (El p m2 mod2)) a = a * Po.val (zp M u : Po (El p m2 mod2)) a := by
  have e : (zp M (tm M low u) : Po (El p m2 mod2)) + Po.C (zi (u (M - 1))) * zp (M + 1) (fF M low) = Po.mn 1 1 * zp M u := Po.ext fun j => by
    rw [Po.cf_add, Po.cf_C_mul, Po.cf_mn_mul, cf_zp, cf_zp, cf_zp, Rg.one_mul]
    unfold fF tm sh
    by_cases h0 : j < M
    · simp only [if_pos h0, if_pos (show j < M + 1 by omega)]
      have e1 : ∀ x y : Int, (zi (x - y) : El p m2 mod2) + zi y = zi x := fun x y => by rw [← zi_add]; congr 1; omega
      rw [← zi_mul, e1]
      by_cases h1 : j = 0
      · simp only [if_pos h1, if_pos (show j < 1 by omega), zi_zero]
      · simp only [if_neg h1, if_neg (show ¬ j < 1 by omega), if_pos (show j - 1 < M by omega)]
    · by_cases h1 : j = M
      · simp only [if_neg h0, if_pos (show j < M + 1 by omega), if_pos h1, if_neg (show ¬ j < 1 by omega), if_pos (show j - 1 < M by omega)]
        rw [zi_one, Rg.mul_one, Rg.zero_add, h1]
      · simp only [if_neg h0, if_neg (show ¬ j < M + 1 by omega), if_neg (show ¬ j < 1 by omega), if_neg (show ¬ j - 1 < M by omega)]
        rw [Rg.mul_zero, Rg.zero_add]
  have h1 := congrArg (fun f => Po.val f a) e
  simp only [Po.val_add, Po.val_mul, Po.val_mn, Po.val_C] at h1
  rw [ha, Rg.mul_zero, Rg.add_zero, Rg.pow_one, Rg.one_mul] at h1
  exact h1
omit hF in
theorem ev_pl {M : Nat} (hM : 1 ≤ M) {low : Row} {a : El p m2 mod2} (ha : Po.val (zp (M + 1) (fF M low) : Po (El p m2 mod2)) a = 0) (Q u : Row) : ∀ n, Po.val (zp M (pl (tm M low) n Q u) : Po (El p m2 mod2)) a = Po.val (zp n Q : Po (El p m2 mod2)) a * Po.val (zp M u : Po (El p m2 mod2)) a := by
  have hit : ∀ n, Po.val (zp M (it (tm M low) n u) : Po (El p m2 mod2)) a = Rg.pow a n * Po.val (zp M u : Po (El p m2 mod2)) a := by
    intro n
    induction n with
    | zero => rw [Rg.pow_zero, Rg.one_mul]; rfl
    | succ n ih =>
      show Po.val (zp M (tm M low (it (tm M low) n u)) : Po (El p m2 mod2)) a = _
      rw [ev_tm hM ha, ih, Rg.pow_succ]; grind
  intro n
  induction n with
  | zero =>
    have e1 : (zp M (pl (tm M low) 0 Q u) : Po (El p m2 mod2)) = 0 := Po.ext fun j => by
      rw [cf_zp]
      have : pl (tm M low) 0 Q u j = 0 := rfl
      rw [this, zi_zero]; split <;> rfl
    have e2 : (zp 0 Q : Po (El p m2 mod2)) = 0 := Po.ext fun j => by rw [cf_zp, if_neg (by omega)]; rfl
    rw [e1, e2, Po.val_zero, Rg.zero_mul]
  | succ n ih =>
    have e : pl (tm M low) (n + 1) Q u = (pl (tm M low) n Q u).add (Row.sm (Q n) (it (tm M low) n u)) := rfl
    rw [e, zp_add, zp_sm, Po.val_add, Po.val_mul, Po.val_C, ih, hit, zp_succ, Po.val_add, Po.val_mn, Rg.add_mul, Rg.mul_assoc]
noncomputable def embF (p m : Int) (mod : List Int) (m2 : Int) (mod2 : List Int) [hF : IsF p m mod] [hE : IsF p m2 mod2] (a : El p m2 mod2) (x : El p m mod) : El p m2 mod2 := Po.val (zp m.toNat (dg p m.toNat x.1) : Po (El p m2 mod2)) a
theorem embF_hm {a : El p m2 mod2} (ha : RtP p m mod m2 mod2 a) : Hm (embF p m mod m2 mod2 a) := by
  have hp := hF.p2
  have hm := hF.m1
  have hs := hF.out.1.1
  refine ⟨fun x y => ?_, fun x y => ?_, ?_⟩
  · unfold embF
    rw [add_val, zp_cg _ (addI_cg hp _ _), zp_add, Po.val_add]
  · unfold embF
    rw [mul_val, zp_cg _ (mulI_cg hs _ _)]
    show Po.val (zp m.toNat (pl (tm m.toNat (rl mod)) m.toNat (dg p m.toNat y.1) (dg p m.toNat x.1)) : Po (El p m2 mod2)) a = _
    rw [ev_pl (by omega) ha, Rg.mul_comm]
  · unfold embF
    rw [one_val, dg_one hp (by omega)]
    have e : (zp m.toNat (ee 0) : Po (El p m2 mod2)) = 1 := Po.ext fun j => by
      rw [cf_zp, Po.cf_one]
      unfold ee
      by_cases h : j = 0
      · rw [if_pos (by omega), if_pos h, if_pos h, zi_one]
      · rw [if_neg h, if_neg h, zi_zero]; split <;> rfl
    rw [e, Po.val_one]
end
end Go.Proofs.YtgnmcoegdogfgaaGreat

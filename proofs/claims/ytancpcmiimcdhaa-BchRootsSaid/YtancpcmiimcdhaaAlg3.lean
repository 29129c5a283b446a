/-
  IRREDUCIBLE MODULI. One sentence: where trial division finds no divisor, the residues have no divisors of zero; so they are a field, and one of them is a generator.
  Conditions: each theorem's own, written out in it. No program is named here.
-/
import Derived.Test.YtancpcmiimcdhaaAlg2
import Derived.Test.YtancpcmiimcdhaaFd
set_option linter.unusedSimpArgs false
set_option linter.unusedVariables false
namespace Go.Proofs.Ytancpcmiimcdhaa

theorem least_nat {P : Nat → Prop} (h : ∃ n, P n) : ∃ n, P n ∧ ∀ k, k < n → ¬ P k := by
  obtain ⟨n, hn⟩ := h
  induction n using Nat.strongRecOn with
  | _ n ih =>
    by_cases h : ∃ k, k < n ∧ P k
    · obtain ⟨k, hk, hp⟩ := h
      exact ih k hk hp
    · exact ⟨n, hn, fun k hk hp => h ⟨k, hk, hp⟩⟩
theorem prime_inv {p c : Int} (hp : IsP p) (hc : c % p ≠ 0) : ∃ u : Int, (u * c) % p = 1 := by
  have h2 := hp.1
  have hg : Int.gcd c p = 1 := by
    have h0 : (Int.gcd c p : Int) ∣ p := Int.gcd_dvd_right ..
    have h1 : (Int.gcd c p : Int) ∣ c := Int.gcd_dvd_left ..
    have hle : (Int.gcd c p : Int) ≤ p := Int.le_of_dvd (by omega) h0
    have hne0 : Int.gcd c p ≠ 0 := fun h => by
      rw [h] at h0
      have := Int.zero_dvd.1 h0
      omega
    rcases Nat.lt_or_ge (Int.gcd c p) 2 with h3 | h3
    · omega
    · exfalso
      by_cases h4 : (Int.gcd c p : Int) < p
      · exact hp.2 _ (by omega) h4 (Int.emod_eq_zero_of_dvd h0)
      · have h5 : (Int.gcd c p : Int) = p := by omega
        rw [h5] at h1
        exact hc (Int.emod_eq_zero_of_dvd h1)
  obtain ⟨u, hu⟩ := inverse (by omega) hg
  exact ⟨u, by rw [hu, Int.emod_eq_of_lt (by omega) (by omega)]⟩
theorem cg_z {p : Int} {u : Row} (h : ∀ j, u j % p = 0) : Cg p u Row.z := Cg.of fun j => by rw [h j]; rfl
theorem cg_z_emod {p : Int} {u : Row} (h : Cg p u Row.z) (j : Nat) : u j % p = 0 := by rw [h.emod j]; rfl
theorem it_sh_e : ∀ k, it sh k (ee 0) = ee k
  | 0 => rfl
  | k + 1 => by simp only [it, it_sh_e k, sh_ee]
theorem pl_sh_e (a : Row) : ∀ n, pl sh n a (ee 0) = fun j => if j < n then a j else 0
  | 0 => by funext j; simp [pl, Row.z]
  | n + 1 => by
    funext j
    have h3 := pl_sh_e a n
    have h4 := it_sh_e n
    simp only [pl, h3, h4, Row.add, Row.sm, ee]
    by_cases h1 : j < n
    · rw [if_pos h1, if_neg (by omega), if_pos (by omega)]; omega
    · by_cases h2 : j = n
      · rw [if_neg h1, if_pos h2, if_pos (by omega), h2]; omega
      · rw [if_neg h1, if_neg h2, if_neg (by omega)]; omega
theorem pl_sh_self {n : Nat} {a : Row} (ha : Sup n a) : pl sh n a (ee 0) = a := by
  rw [pl_sh_e]
  funext j
  split
  · rfl
  · exact (ha j (by omega)).symm
theorem sup_mono {n k : Nat} {u : Row} (h : Sup n u) (hk : n ≤ k) : Sup k u := fun j hj => h j (by omega)
theorem pl_sh_sup {e : Nat} {G : Row} (hG : Sup (e + 1) G) (h : Row) : ∀ N, Sup (N + e) (pl sh N h G)
  | 0 => fun _ _ => rfl
  | N + 1 => by
    refine sup_add (sup_mono (pl_sh_sup hG h N) (by omega)) (sup_sm _ ?_)
    have := it_sh_sup hG N
    exact sup_mono this (by omega)
/-- A remainder that a monic polynomial divides is 0. -/
theorem uniq {p : Int} {e : Nat} {G R : Row} (hG : Sup (e + 1) G) (hG1 : G e = 1) (hR : Sup e R) : ∀ (N : Nat) (h : Row), Cg p (pl sh N h G) R → Cg p R Row.z
  | 0, h, hc => hc.symm
  | N + 1, h, hc => by
    have h1 := hc.emod (N + e)
    have h2 : pl sh (N + 1) h G (N + e) = h N := by
      simp only [pl, Row.add, Row.sm, it_sh]
      rw [pl_sh_sup hG h N (N + e) (by omega), if_neg (by omega), show N + e - N = e by omega, hG1]
      omega
    rw [h2, hR (N + e) (by omega)] at h1
    refine uniq hG hG1 hR N h (Cg.trans ?_ hc)
    have h3 : Cg p (Row.sm (h N) (it sh N G)) Row.z := cg_z fun j => by
      simp only [Row.sm]
      rw [Int.mul_emod, h1]; simp
    have h4 := Cg.add (Cg.refl p (pl sh N h G)) h3.symm
    rw [Row.add_z] at h4
    exact h4
theorem dloop_in {p : Int} (hp : 1 ≤ p) {low : List Int} : ∀ (n : Nat) (r : List Int), AllIn p r → AllIn p (dloop p low n r)
  | 0, r, h => h
  | n + 1, r, h => dloop_in hp n _ (dstep_in hp h)
theorem dloop_sup {p : Int} {low : List Int} : ∀ (n : Nat) (r : List Int), Sup (low.length + n) (rl r) → Sup low.length (rl (dloop p low n r))
  | 0, r, h => h
  | n + 1, r, h => dloop_sup n _ (fun j hj => by
      by_cases hjl : j < r.length
      · have h1 : rl (dstep p low r (low.length + n)) j = dent p low r (low.length + n) j := by
          simp only [rl, dstep]
          rw [List.getD_eq_getElem?_getD, List.getElem?_map, List.getElem?_range hjl]
          rfl
        rw [h1]
        unfold dent
        by_cases h2 : j = low.length + n
        · rw [if_pos h2]
        · rw [if_neg h2, if_neg (by omega)]
          exact h j (by omega)
      · exact rl_sup _ j (by rw [dstep_length]; omega))
/-- Trial division by a monic polynomial that divides says so. -/
theorem bDiv_of_zero {p : Int} (hp : 2 ≤ p) {low mod : List Int} (hmod : AllIn p mod) (h : Cg p (rl (divL p low mod)) Row.z) : bDiv p low mod = true := bDiv_true fun k hk => by
  have hin : AllIn p (divL p low mod) := dloop_in (by omega) _ _ (fun z hz => by
    rcases List.mem_append.1 hz with h1 | h1
    · exact hmod z h1
    · simp at h1; omega)
  have h1 := cg_z_emod h k
  have h2 := hin.get (by omega) k
  have h3 : (divL p low mod).getD k 0 % p = 0 := h1
  rw [Int.emod_eq_of_lt h2.1 h2.2] at h3
  exact h3
theorem gF_cg {p : Int} (hp : 2 ≤ p) {d : Nat} {g : Row} (hg : Sup (d + 1) g) (hg1 : g d = 1) : Cg p (gF (digs p d (rv p d g))) g := Cg.of fun j => by
  have hl := digs_length p d (rv p d g)
  by_cases h1 : j < d
  · rw [gF_lo _ (by omega)]
    have := dg_rv hp d g j h1
    simp only [dg, rl] at this
    rw [this, Int.emod_emod]
  · by_cases h2 : j = d
    · subst h2
      have : gF (digs p j (rv p j g)) j = 1 := by
        have h3 := gF_top (digs p j (rv p j g))
        rwa [hl] at h3
      rw [this, hg1]
    · rw [gF_sup _ j (by omega), hg j (by omega)]

/-- A monic polynomial of degree d that takes a to 0. -/
def An (p : Int) (M : Nat) (low a : Row) (d : Nat) (g : Row) : Prop := Sup (d + 1) g ∧ g d = 1 ∧ Cg p (pl (tm M low) (d + 1) g a) Row.z
theorem monic_of {p : Int} (hp : IsP p) {M : Nat} {low a h : Row} {n : Nat} (hh : Sup n h) (hne : ∃ k, k < n ∧ h k % p ≠ 0) (hz : Cg p (pl (tm M low) n h a) Row.z) : ∃ d, d < n ∧ ∃ g, An p M low a d g := by
  have hT := tm_lin M low
  -- the top index
  obtain ⟨k, hk, hkmax⟩ : ∃ k, (k < n ∧ h k % p ≠ 0) ∧ ∀ i, k < i → h i % p = 0 := by
    obtain ⟨k0, hk0, hk1⟩ := hne
    obtain ⟨e, he, hmin⟩ := least_nat (P := fun e => e < n ∧ h (n - 1 - e) % p ≠ 0) ⟨n - 1 - k0, by omega, by rw [show n - 1 - (n - 1 - k0) = k0 by omega]; exact hk1⟩
    refine ⟨n - 1 - e, ⟨by omega, he.2⟩, fun i hi => ?_⟩
    by_cases hin : i < n
    · refine Classical.byContradiction fun hno => hmin (n - 1 - i) (by omega) ⟨by omega, ?_⟩
      rw [show n - 1 - (n - 1 - i) = i by omega]; exact hno
    · rw [hh i (by omega)]; rfl
  obtain ⟨c, hc⟩ := prime_inv hp hk.2
  have hg : ∀ i, (fun i => if i < k then c * h i else if i = k then 1 else 0 : Row) i = if i < k then c * h i else if i = k then 1 else 0 := fun _ => rfl
  generalize (fun i => if i < k then c * h i else if i = k then 1 else 0 : Row) = g at hg
  have hgs : Sup (k + 1) g := fun j hj => by rw [hg, if_neg (by omega), if_neg (by omega)]
  refine ⟨k, hk.1, g, hgs, by rw [hg, if_neg (by omega), if_pos rfl], ?_⟩
  have hcg : Cg p g (Row.sm c h) := Cg.of fun i => by
    rw [hg]
    simp only [Row.sm]
    by_cases h1 : i < k
    · rw [if_pos h1]
    · rw [if_neg h1]
      by_cases h2 : i = k
      · rw [if_pos h2, h2, hc]
        have := hp.1
        exact Int.emod_eq_of_lt (by omega) (by omega)
      · rw [if_neg h2, Int.mul_emod, hkmax i (by omega)]; simp
  rw [← pl_bound' (T := tm M low) hgs a (show k + 1 ≤ n by omega)]
  refine Cg.trans (Cg.pl hT n hcg (Cg.refl _ _)) ?_
  rw [pl_smQ]
  have := Cg.sm c hz
  rwa [Row.sm_z] at this

theorem rv_zero {p : Int} (hp : 2 ≤ p) (M : Nat) : rv p M Row.z = 0 := by
  rw [← dg_zero hp M]
  exact rv_dg hp (by omega) (Int.pow_pos (by omega))
theorem zero_of_cg {p : Int} (hp : 2 ≤ p) {M : Nat} {u : Int} (h0 : 0 ≤ u) (h1 : u < p ^ M) (h : Cg p (dg p M u) Row.z) : u = 0 := by
  rw [← rv_dg hp h0 h1, rv_cg h, rv_zero hp]
theorem cg_of_rv {p : Int} (hp : 2 ≤ p) {M : Nat} {w : Row} (hw : Sup M w) (h : rv p M w = 0) : Cg p w Row.z := cg_z fun j => by
  by_cases hj : j < M
  · rw [← dg_rv hp M w j hj, h, dg_zero hp]; rfl
  · rw [hw j (by omega)]; rfl

theorem no_zero_irr {p m : Int} {mod : List Int} (hsp : ShpP p m mod) (hm : 2 ≤ m) (hirr : Irr p mod) {u v : Int} (hu : 0 < u ∧ u < pw p m) (hv : 0 < v ∧ v < pw p m) : mulI p m mod u v ≠ 0 := by
  intro hzero
  have hs := hsp.1
  have hpp := hsp.2
  have hp := hs.p2
  have hml : (mod.length : Int) = m := by
    rcases hs.low with h | h
    · omega
    · exact h.2
  have hM : m.toNat = mod.length := by omega
  have hpw : pw p m = p ^ mod.length := by unfold pw; rw [hM]
  rw [mulI_eq hs, hM] at hzero
  rw [hpw] at hu hv
  generalize hL : mod.length = M at *
  have hT := tm_lin M (rl mod)
  have ha : Sup M (dg p M u) := dg_sup _ _ _
  have hb : Sup M (dg p M v) := dg_sup _ _ _
  have hab := cg_of_rv hp (rm_sup ha) hzero
  have hne : ∀ {x : Int}, 0 < x ∧ x < p ^ M → ∃ k, k < M ∧ dg p M x k % p ≠ 0 := fun {x} hx => by
    refine Classical.byContradiction fun hno => ?_
    have h1 : Cg p (dg p M x) Row.z := cg_z fun j => by
      by_cases hj : j < M
      · exact Classical.byContradiction fun h2 => hno ⟨j, hj, h2⟩
      · rw [dg_sup p M x j (by omega)]; rfl
    have := zero_of_cg hp (by omega) hx.2 h1
    omega
  have hane := hne hu
  have hbne := hne hv
  generalize dg p M u = a at ha hab hane
  obtain ⟨d0, hd0, g0, hg0⟩ := monic_of hpp hb hbne hab
  obtain ⟨d, ⟨g, hg⟩, hmin⟩ := least_nat (P := fun d => ∃ g, An p M (rl mod) a d g) ⟨d0, g0, hg0⟩
  have hdM : d < M := by
    refine Nat.lt_of_le_of_lt (Nat.le_of_not_lt (fun hlt => hmin d0 hlt ⟨g0, hg0⟩)) hd0
  obtain ⟨hgs, hg1, hga⟩ := hg
  have hd1 : 1 ≤ d := by
    rcases Nat.eq_zero_or_pos d with h | h
    · exfalso
      subst h
      have h1 : pl (tm M (rl mod)) (0 + 1) g a = a := by
        simp only [pl, it, Row.z_add, hg1]
        funext j; simp [Row.sm]
      rw [h1] at hga
      obtain ⟨k, _, hk⟩ := hane
      exact hk (cg_z_emod hga k)
    · exact h
  -- the modulus divided by g
  have hll := digs_length p d (rv p d g)
  have hgF := gF_cg hp hgs hg1
  have hvb := rv_bd hp d g
  generalize hlo : digs p d (rv p d g) = low at hll hgF
  have hmodlen : (mod ++ [(1 : Int)]).length = M + 1 := by simp [hL]
  obtain ⟨Q, hQ, hc, htop⟩ := dloop_row (p := p) (low := low) (mod.length + 1 - low.length) (mod ++ [1]) (by omega)
  have hRs : Sup low.length (rl (divL p low mod)) := dloop_sup _ _ (by
    have h1 := rl_sup (mod ++ [(1 : Int)])
    exact sup_mono h1 (by omega))
  have hfF : rl (mod ++ [1]) = fF M (rl mod) := by rw [fF_rl, hL]
  rw [hfF] at hc
  have hc1 : Cg p (fF M (rl mod)) ((rl (divL p low mod)).add (pl sh (mod.length + 1 - low.length) Q (gF low))) := hc
  clear hc
  generalize hRd : rl (divL p low mod) = R at hRs hc1
  have hQ1 : Q (mod.length + 1 - low.length - 1) = 1 := by
    rw [htop (by omega), show low.length + (mod.length + 1 - low.length) - 1 = mod.length by omega]
    simp [List.getD_eq_getElem?_getD]
  have hRa : Cg p (pl (tm M (rl mod)) d R a) Row.z := by
    have h1 := Cg.pl hT (M + 1) hc1 (Cg.refl p a)
    rw [fF_v (by omega) ha, pl_addQ] at h1
    have h2 : pl (tm M (rl mod)) (M + 1) (pl sh (mod.length + 1 - low.length) Q (gF low)) a = pl (tm M (rl mod)) (mod.length + 1 - low.length) Q (pl (tm M (rl mod)) (low.length + 1) (gF low) a) := by
      rw [← pl_mul hT (gF_sup low) Q a (M - low.length) (mod.length + 1 - low.length) (by omega), show low.length + 1 + (M - low.length) = M + 1 by omega]
    have h3 : Cg p (pl (tm M (rl mod)) (low.length + 1) (gF low) a) Row.z := by
      rw [hll]
      exact Cg.trans (Cg.pl hT _ hgF (Cg.refl _ _)) hga
    have h4 : Cg p (pl (tm M (rl mod)) (M + 1) (pl sh (mod.length + 1 - low.length) Q (gF low)) a) Row.z := by
      rw [h2]
      have h5 := Cg.pl hT (mod.length + 1 - low.length) (Cg.refl p Q) h3
      rwa [pl_z hT] at h5
    have h6 := Cg.trans h1 (Cg.add (Cg.refl p (pl (tm M (rl mod)) (M + 1) R a)) h4)
    rw [Row.add_z, pl_bound' (T := tm M (rl mod)) (sup_mono hRs (show low.length ≤ d by omega)) a (show d ≤ M + 1 by omega)] at h6
    exact h6.symm
  have hRz : Cg p R Row.z := cg_z fun j => by
    refine Classical.byContradiction fun hno => ?_
    have hjd : j < d := Nat.lt_of_not_le (fun hge => hno (by rw [hRs j (by omega)]; rfl))
    obtain ⟨d', hd', g', hg'⟩ := monic_of hpp (sup_mono hRs (show low.length ≤ d by omega)) ⟨j, hjd, hno⟩ hRa
    exact hmin d' hd' ⟨g', hg'⟩
  have hbd : bDiv p low mod = true := bDiv_of_zero hp hs.ent (by rw [hRd]; exact hRz)
  by_cases h2d : 2 * d ≤ M
  · have h1 := hirr d hd1 (by omega) (rv p d g) hvb.1 hvb.2
    rw [hlo, hbd] at h1
    cases h1
  · -- the other factor
    have hn : mod.length + 1 - low.length = (M - d) + 1 := by omega
    rw [hn] at hQ hQ1 hc1
    rw [show M - d + 1 - 1 = M - d by omega] at hQ1
    have hll2 := digs_length p (M - d) (rv p (M - d) Q)
    have hgF2 := gF_cg hp hQ hQ1
    have hvb2 := rv_bd hp (M - d) Q
    have h1 := hirr (M - d) (by omega) (by omega) (rv p (M - d) Q) hvb2.1 hvb2.2
    generalize hlo2 : digs p (M - d) (rv p (M - d) Q) = low2 at hll2 hgF2 h1
    obtain ⟨Q2, hQ2, hc2, _⟩ := dloop_row (p := p) (low := low2) (mod.length + 1 - low2.length) (mod ++ [1]) (by omega)
    have hRs2 : Sup low2.length (rl (divL p low2 mod)) := dloop_sup _ _ (by
      have h1 := rl_sup (mod ++ [(1 : Int)])
      exact sup_mono h1 (by omega))
    rw [hfF] at hc2
    have hc3 : Cg p (fF M (rl mod)) ((rl (divL p low2 mod)).add (pl sh (mod.length + 1 - low2.length) Q2 (gF low2))) := hc2
    clear hc2
    rw [show mod.length + 1 - low2.length = d + 1 by omega] at hc3
    have hz2 : Cg p (rl (divL p low2 mod)) Row.z := by
      refine uniq (gF_sup low2) (gF_top low2) hRs2 (d + 1) (g.add (Row.sm (-1) Q2)) ?_
      -- f is g Q
      have h2 : Cg p (fF M (rl mod)) (pl sh (M - d + 1) Q (gF low)) := by
        have := Cg.trans hc1 (Cg.add hRz (Cg.refl p (pl sh (M - d + 1) Q (gF low))))
        rwa [Row.z_add] at this
      have h3 : Cg p (pl sh (M - d + 1) Q (gF low)) (pl sh (d + 1) g (gF low2)) := by
        refine Cg.trans (Cg.pl sh_lin _ (Cg.refl p Q) hgF) ?_
        have h4 : pl sh (M - d + 1) Q g = pl sh (d + 1) g Q := by
          have h5 := pl_sh_self hgs
          have h6 := pl_sh_self hQ
          calc pl sh (M - d + 1) Q g = pl sh (M - d + 1) Q (pl sh (d + 1) g (ee 0)) := by rw [h5]
            _ = pl sh (d + 1) g (pl sh (M - d + 1) Q (ee 0)) := pl_pl sh_lin _ _ _ _ _
            _ = pl sh (d + 1) g Q := by rw [h6]
        rw [h4]
        exact Cg.pl sh_lin _ (Cg.refl p g) hgF2.symm
      have h7 := Cg.trans hc3.symm (Cg.trans h2 h3)
      -- R2 + Q2 G = g G
      have h8 := Cg.add h7.symm (Cg.refl p (Row.sm (-1) (pl sh (d + 1) Q2 (gF low2))))
      rw [pl_addQ, pl_smQ]
      refine Cg.trans h8 (Cg.of_eq ?_)
      funext j; simp only [Row.add, Row.sm]; omega
    have hbd2 : bDiv p low2 mod = true := bDiv_of_zero hp hs.ent hz2
    rw [hbd2] at h1
    cases h1
/-- A prime field. -/
theorem no_zero_prime {p : Int} (hsp : ShpP p 1 []) {u v : Int} (hu : 0 < u ∧ u < pw p 1) (hv : 0 < v ∧ v < pw p 1) : mulI p 1 [] u v ≠ 0 := by
  intro hz
  have hs := hsp.1
  have hp := hs.p2
  have hpw : pw p 1 = p := by
    have h2 := pw_succ p (k := 0) (by omega)
    rw [pw_zero, Int.zero_add, Int.one_mul] at h2
    exact h2
  rw [hpw] at hu hv
  rw [mulI_eq hs] at hz
  have h1 := cg_of_rv hp (rm_sup (dg_sup _ _ _)) hz
  have h2 := cg_z_emod h1 0
  have hd : ∀ x : Int, 0 ≤ x → x < p → dg p 1 x 0 = x := fun x h0 h1 => by
    simp only [dg, rl, digs]
    rw [Int.emod_eq_of_lt h0 h1]; rfl
  have h3 : rm (1 : Int).toNat (rl []) (dg p (1 : Int).toNat u) (dg p (1 : Int).toNat v) 0 = v * u := by
    show rm 1 (rl []) (dg p 1 u) (dg p 1 v) 0 = v * u
    simp only [rm, pl, it, Row.add, Row.z, Row.sm, hd u (by omega) hu.2, hd v (by omega) hv.2]
    omega
  rw [h3] at h2
  obtain ⟨c, hc⟩ := prime_inv (c := v) hsp.2 (by rw [Int.emod_eq_of_lt (by omega) hv.2]; omega)
  have h4 : (c * (v * u)) % p = u := by
    rw [← Int.mul_assoc, Int.mul_emod, hc, Int.one_mul, Int.emod_emod, Int.emod_eq_of_lt (by omega) hu.2]
  rw [Int.mul_emod, h2] at h4
  simp at h4
  omega
theorem no_zero {p m : Int} {mod : List Int} (h : FldR p m mod) {u v : Int} (hu : 0 < u ∧ u < pw p m) (hv : 0 < v ∧ v < pw p m) : mulI p m mod u v ≠ 0 := by
  rcases h.1.1.low with h1 | h1
  · obtain ⟨rfl, rfl⟩ := h1
    exact no_zero_prime h.1 hu hv
  · rcases h.2 with h2 | h2
    · omega
    · exact no_zero_irr h.1 h1.1 h2 hu hv

/-! ### The field -/
def El (p m : Int) (_mod : List Int) : Type := { x : Int // 0 ≤ x ∧ x < pw p m }
instance (p m : Int) (mod : List Int) : DecidableEq (El p m mod) := inferInstanceAs (DecidableEq { x : Int // 0 ≤ x ∧ x < pw p m })
theorem El.ext {p m : Int} {mod : List Int} {a b : El p m mod} (h : a.1 = b.1) : a = b := Subtype.ext h
theorem addI_bd {p m : Int} (hp : 2 ≤ p) (x y : Int) : 0 ≤ addI p m x y ∧ addI p m x y < pw p m := rv_bd hp _ _
theorem negI_bd {p m : Int} (hp : 2 ≤ p) (x : Int) : 0 ≤ negI p m x ∧ negI p m x < pw p m := rv_bd hp _ _
theorem negI_add {p m : Int} (hp : 2 ≤ p) (x : Int) : addI p m (negI p m x) x = 0 := by rw [addI_comm, addI_neg hp]
theorem addI_zeroR {p m : Int} (hp : 2 ≤ p) {x : Int} (h0 : 0 ≤ x) (h1 : x < pw p m) : addI p m x 0 = x := by rw [addI_comm]; exact addI_zero hp h0 h1
section
variable {p m : Int} {mod : List Int}
theorem mul_inj (h : FldR p m mod) {x y z : Int} (hx : 0 ≤ x ∧ x < pw p m) (hy : 0 ≤ y ∧ y < pw p m) (hz : 0 < z ∧ z < pw p m) (he : mulI p m mod x z = mulI p m mod y z) : x = y := by
  have hs := h.1.1
  have hp := hs.p2
  have h1 : mulI p m mod (addI p m x (negI p m y)) z = 0 := by
    rw [mulI_add hs, he, ← mulI_add hs, addI_neg hp, mulI_zero hs]
  have h2 := addI_bd (m := m) hp x (negI p m y)
  have h3 : addI p m x (negI p m y) = 0 := by
    refine Classical.byContradiction fun hne => ?_
    exact no_zero h ⟨by omega, h2.2⟩ hz h1
  have h4 : addI p m (addI p m x (negI p m y)) y = y := by rw [h3]; exact addI_zero hp hy.1 hy.2
  rw [addI_assoc hp, negI_add hp, addI_zeroR hp hx.1 hx.2] at h4
  exact h4
theorem inv_ex (h : FldR p m mod) {z : Int} (hz : 0 < z ∧ z < pw p m) : ∃ y, 0 ≤ y ∧ y < pw p m ∧ mulI p m mod y z = 1 := by
  have hs := h.1.1
  have hq := hs.q2
  -- the products with z are all different
  refine Classical.byContradiction fun hno => ?_
  let l := (List.range (pw p m - 1).toNat).map (fun i : Nat => mulI p m mod ((i : Int) + 1) z)
  have hnd : l.Nodup := by
    refine List.pairwise_map.2 (List.nodup_range.imp_of_mem ?_)
    intro i j hi hj hij e
    have h1 := List.mem_range.1 hi
    have h2 := List.mem_range.1 hj
    have := mul_inj h (x := (i : Int) + 1) (y := (j : Int) + 1) ⟨by omega, by omega⟩ ⟨by omega, by omega⟩ hz e
    omega
  have hb : ∀ y ∈ l, 0 < y ∧ y < pw p m := fun y hy => by
    obtain ⟨i, hi, rfl⟩ := List.mem_map.1 hy
    have h1 := List.mem_range.1 hi
    have h2 := mulI_bd hs ((i : Int) + 1) z
    have h3 := no_zero h (u := (i : Int) + 1) (v := z) ⟨by omega, by omega⟩ hz
    exact ⟨by omega, h2.2⟩
  have h1l : (1 : Int) ∉ l := fun hm => by
    obtain ⟨i, hi, he⟩ := List.mem_map.1 hm
    have h1 := List.mem_range.1 hi
    exact hno ⟨(i : Int) + 1, by omega, by omega, he⟩
  have h2 := nodup_len' (q := pw p m) (1 :: l) (List.nodup_cons.2 ⟨h1l, hnd⟩) (fun y hy => by
    rcases List.mem_cons.1 hy with rfl | hy
    · omega
    · exact hb y hy) (by omega)
  have h3 : l.length = (pw p m - 1).toNat := by simp [l]
  simp only [List.length_cons] at h2
  omega
open Classical in
noncomputable def invI (p m : Int) (mod : List Int) (z : Int) : Int := if h : ∃ y, 0 ≤ y ∧ y < pw p m ∧ mulI p m mod y z = 1 then Classical.choose h else 0
theorem invI_spec (h : FldR p m mod) {z : Int} (hz : 0 < z ∧ z < pw p m) : 0 ≤ invI p m mod z ∧ invI p m mod z < pw p m ∧ mulI p m mod (invI p m mod z) z = 1 := by
  rw [invI, dif_pos (inv_ex h hz)]
  exact Classical.choose_spec (inv_ex h hz)
theorem invI_bd (hs : Shp p m mod) (z : Int) : 0 ≤ invI p m mod z ∧ invI p m mod z < pw p m := by
  unfold invI
  split
  · rename_i h
    have := Classical.choose_spec h
    exact ⟨this.1, this.2.1⟩
  · have := hs.q2; omega
@[reducible] noncomputable def elFd (h : FldR p m mod) : Fd (El p m mod) where
  add a b := ⟨addI p m a.1 b.1, addI_bd h.1.1.p2 _ _⟩
  mul a b := ⟨mulI p m mod a.1 b.1, mulI_bd h.1.1 _ _⟩
  neg a := ⟨negI p m a.1, negI_bd h.1.1.p2 _⟩
  zero := ⟨0, by have := h.1.1.q2; omega⟩
  one := ⟨1, by have := h.1.1.q2; omega⟩
  inv a := ⟨invI p m mod a.1, invI_bd h.1.1 _⟩
  add_assoc a b c := El.ext (addI_assoc h.1.1.p2 _ _ _)
  add_comm a b := El.ext (addI_comm _ _)
  zero_add a := El.ext (addI_zero h.1.1.p2 a.2.1 a.2.2)
  neg_add a := El.ext (negI_add h.1.1.p2 _)
  mul_assoc a b c := El.ext (mulI_assoc h.1.1 _ _ _)
  mul_comm a b := El.ext (mulI_comm h.1.1 _ _)
  one_mul a := El.ext (mulI_one h.1.1 a.2.1 a.2.2)
  add_mul a b c := El.ext (mulI_add h.1.1 _ _ _)
  inv_mul a ha := El.ext ((invI_spec h ⟨by
    have h1 : a.1 ≠ 0 := fun e => ha (El.ext e)
    have := a.2.1
    omega, a.2.2⟩).2.2)
  one_ne h1 := by
    have h2 : (1 : Int) = 0 := congrArg Subtype.val h1
    omega
theorem filterMap_some {α β : Type} {f : α → Option β} {g : α → β} : ∀ {l : List α}, (∀ i ∈ l, f i = some (g i)) → l.filterMap f = l.map g
  | [], _ => rfl
  | a :: l, h => by
    rw [List.filterMap_cons, h a (by simp), List.map_cons, filterMap_some (fun i hi => h i (List.mem_cons_of_mem _ hi))]
/-- All elements but 0. -/
def elNz (p m : Int) (mod : List Int) : List (El p m mod) := (List.range (pw p m - 1).toNat).filterMap (fun i : Nat => if h : (i : Int) + 1 < pw p m then some ⟨(i : Int) + 1, by omega, h⟩ else none)
theorem elNz_map (p m : Int) (mod : List Int) : (elNz p m mod).map (fun a => a.1) = (List.range (pw p m - 1).toNat).map (fun i : Nat => (i : Int) + 1) := by
  unfold elNz
  rw [List.map_filterMap]
  have h : ∀ i ∈ List.range (pw p m - 1).toNat, (Option.map (fun a : El p m mod => a.1) (if h : (i : Int) + 1 < pw p m then some ⟨(i : Int) + 1, by omega, h⟩ else none)) = some ((i : Int) + 1) := fun i hi => by
    have := List.mem_range.1 hi
    rw [dif_pos (by omega)]; rfl
  exact filterMap_some h
theorem elNz_len (p m : Int) (mod : List Int) : (elNz p m mod).length = (pw p m - 1).toNat := by
  have := congrArg List.length (elNz_map p m mod)
  simpa using this
theorem elNz_nz (h : FldR p m mod) : @Fd.Nz (El p m mod) (elFd h) (elNz p m mod) := by
  letI := elFd h
  refine ⟨?_, fun a => ?_⟩
  · have h1 : ((elNz p m mod).map (fun a => a.1)).Nodup := by
      rw [elNz_map]
      refine List.pairwise_map.2 (List.nodup_range.imp ?_)
      intro i j hij e
      omega
    exact List.Pairwise.of_map (fun a => a.1) (fun a b hab e => hab (by rw [e])) h1
  · have h2 : a ∈ elNz p m mod ↔ a.1 ∈ (elNz p m mod).map (fun a => a.1) := ⟨fun h => List.mem_map.2 ⟨a, h, rfl⟩, fun h => by
      obtain ⟨b, hb, he⟩ := List.mem_map.1 h
      exact El.ext he ▸ hb⟩
    rw [h2, elNz_map]
    have h3 := a.2
    constructor
    · intro h4 h5
      obtain ⟨i, hi, he⟩ := List.mem_map.1 h4
      have : a.1 = 0 := congrArg Subtype.val h5
      omega
    · intro h4
      have h5 : a.1 ≠ 0 := fun e => h4 (El.ext e)
      exact List.mem_map.2 ⟨(a.1 - 1).toNat, List.mem_range.2 (by omega), by omega⟩
theorem pow_val (h : FldR p m mod) (g : El p m mod) : ∀ n, (@Fd.pow _ (elFd h) g n).1 = pwI p m mod g.1 n
  | 0 => rfl
  | n + 1 => by
    rw [pwI_succ h.1.1 g.2, ← pow_val h g n]
    rfl
/-- A field has a generator. -/
theorem gen_ex (h : FldR p m mod) : ∃ x l, IsGen p m mod x l := by
  letI := elFd h
  have hs := h.1.1
  have hq := hs.q2
  obtain ⟨g, hg⟩ := (elNz_nz h).gen
  rw [elNz_len] at hg
  obtain ⟨hg0, hg1, hg2⟩ := hg
  have hx := g.2
  have hx0 : g.1 ≠ 0 := fun e => hg0 (El.ext e)
  let n := (pw p m - 1).toNat
  let l := (List.range n).map (fun i => pwI p m mod g.1 i)
  have hlen : l.length = n := by simp [l]
  have hget : ∀ i, i < n → l.getD i 0 = pwI p m mod g.1 i := fun i hi => by
    simp only [l]
    rw [List.getD_eq_getElem?_getD, List.getElem?_map, List.getElem?_range hi]; rfl
  have hpn : pwI p m mod g.1 n = 1 := by rw [← pow_val h]; exact congrArg Subtype.val hg1
  have hnz : ∀ i, 0 < pwI p m mod g.1 i := fun i => by
    have h1 := Fd.pow_ne hg0 i
    have h2 : (Fd.pow g i).1 ≠ 0 := fun e => h1 (El.ext e)
    rw [pow_val h] at h2
    have := (pwI_bd hs hx i).1
    omega
  have hnd : l.Nodup := by
    refine List.pairwise_iff_getElem.2 (fun i j hi hj hij e => ?_)
    rw [hlen] at hi hj
    simp only [l, List.getElem_map, List.getElem_range] at e
    have h1 : Fd.pow g i = Fd.pow g j := El.ext (by rw [pow_val h, pow_val h, e])
    have h2 : Fd.pow g (j - i) = 1 := by
      have h3 : Fd.pow g i * Fd.pow g (j - i) = Fd.pow g i * 1 := by
        rw [← Fd.pow_add, show i + (j - i) = j by omega, ← h1, Fd.mul_one]
      exact Fd.mul_left_cancel (Fd.pow_ne hg0 i) h3
    have h4 := Nat.le_of_dvd (by omega) (hg2 _ h2)
    omega
  refine ⟨g.1, l, by omega, hx.2, ⟨by omega, fun i hi => hget i (by omega), fun y hy => ?_, hnd, ?_⟩, by omega, ?_⟩
  · obtain ⟨i, _, rfl⟩ := List.mem_map.1 hy
    exact ⟨hnz i, (pwI_bd hs hx i).2⟩
  · rw [hlen, hpn]
    exact .inr (List.mem_map.2 ⟨0, List.mem_range.2 (by omega), rfl⟩)
  · rw [hget _ (by omega), ← pwI_succ hs hx, show (pw p m - 2).toNat + 1 = n by omega, hpn]
theorem fldN_iff : FldN p m mod ↔ FldR p m mod := ⟨fldR_of_N, fun h => ⟨h.1, gen_ex h⟩⟩
end
end Go.Proofs.Ytancpcmiimcdhaa

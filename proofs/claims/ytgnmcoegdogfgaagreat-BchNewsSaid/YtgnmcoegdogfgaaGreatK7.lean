/-
  BCHNEWS, PART 7 OF 10. One sentence: the texts behind the law BchNews, put together.
  Conditions: each theorem's own, written out in it.
-/
import Derived.Test.YtgnmcoegdogfgaaGreatK6
set_option linter.unusedSimpArgs false
set_option linter.unusedVariables false
set_option linter.unusedSectionVars false
set_option linter.unusedSimpArgs false
set_option linter.unusedVariables false
namespace Go.Proofs.YtgnmcoegdogfgaaGreat
open Go.RowKit
section
variable {K : Type} [Fd K]
def rootP (rs : List K) : Po K := rs.foldl (fun f r => f * Po.lin r) 1
theorem foldl_lin (f : Po K) : ∀ rs : List K, rs.foldl (fun f r => f * Po.lin r) f = f * rootP rs := by
  intro rs
  induction rs generalizing f with
  | nil => exact (Rg.mul_one f).symm
  | cons r rs ih =>
    show rs.foldl (fun f r => f * Po.lin r) (f * Po.lin r) = f * rs.foldl (fun f r => f * Po.lin r) (1 * Po.lin r)
    rw [ih, ih (1 * Po.lin r), Rg.one_mul, Rg.mul_assoc]
theorem rootP_cons (r : K) (rs : List K) : rootP (r :: rs) = Po.lin r * rootP rs := by
  show rs.foldl (fun f r => f * Po.lin r) (1 * Po.lin r) = _
  rw [foldl_lin, Rg.one_mul]
theorem rootP_snoc (rs : List K) (r : K) : rootP (rs ++ [r]) = rootP rs * Po.lin r := by
  unfold rootP; rw [List.foldl_append]; rfl
theorem rootP_perm {a b : List K} (h : a.Perm b) : rootP a = rootP b := by
  induction h with
  | nil => rfl
  | cons r _ ih => rw [rootP_cons, rootP_cons, ih]
  | swap r s l => rw [rootP_cons, rootP_cons, rootP_cons, rootP_cons, ← Rg.mul_assoc, ← Rg.mul_assoc, Rg.mul_comm (Po.lin s)]
  | trans _ _ h1 h2 => exact h1.trans h2
theorem rootP_ne : ∀ rs : List K, rootP rs ≠ 0
  | [] => Po.one_ne
  | r :: rs => by rw [rootP_cons]; exact Po.mul_ne (Po.lin_ne r) (rootP_ne rs)
theorem rootP_len : ∀ rs : List K, Po.len (rootP rs) = rs.length + 1
  | [] => Po.len_one
  | r :: rs => by rw [rootP_cons, Po.len_mul (Po.lin_ne r) (rootP_ne rs), Po.len_lin, rootP_len rs, List.length_cons]; omega
theorem rootP_lead : ∀ rs : List K, Po.lead (rootP rs) = 1
  | [] => by show Po.lead (1 : Po K) = 1; unfold Po.lead; rw [Po.len_one]; rfl
  | r :: rs => by rw [rootP_cons, Po.lead_mul (Po.lin_ne r) (rootP_ne rs), Po.lead_lin, rootP_lead rs, Rg.one_mul]
theorem rootP_dvd : ∀ (rs : List K) (f : Po K), rs.Nodup → (∀ r ∈ rs, Po.val f r = 0) → rootP rs ∣ f
  | [], f, _, _ => Po.one_dvd f
  | r :: rs, f, hn, h => by
    have hn := List.nodup_cons.1 hn
    obtain ⟨g, hg⟩ := (Po.root_iff f r).1 (h r (List.mem_cons_self ..))
    obtain ⟨k, hk⟩ := rootP_dvd rs g hn.2 (fun a ha => by
      have h1 := h a (List.mem_cons_of_mem _ ha)
      rw [hg, Po.val_mul, Po.val_lin] at h1
      exact (Fd.mul_eq_zero h1).resolve_left (fun e => hn.1 (by have : a = r := Rg.eq_of_sub e; rwa [← this])))
    exact ⟨k, by rw [rootP_cons, hg, hk, Rg.mul_assoc]⟩
structure AOrd (a : K) (n : Nat) : Prop where
  pos : 1 ≤ n
  one : Rg.pow a n = 1
  least : ∀ s, 1 ≤ s → s < n → Rg.pow a s ≠ 1
theorem AOrd.ne {a : K} {n : Nat} (h : AOrd a n) : a ≠ 0 := fun e => by
  have h1 := h.one
  rw [e, Rg.zero_pow h.pos] at h1
  exact Fd.one_ne (K := K) h1.symm
theorem pow_ne' {a : K} (h : a ≠ 0) : ∀ n, Rg.pow a n ≠ 0
  | 0 => Fd.one_ne
  | n + 1 => by rw [Rg.pow_succ]; exact Fd.mul_ne (pow_ne' h n) h
theorem AOrd.mod {a : K} {n : Nat} (h : AOrd a n) (k : Nat) : Rg.pow a (k % n) = Rg.pow a k := by
  have h1 := Nat.div_add_mod k n
  have e : Rg.pow a k = Rg.pow a (n * (k / n) + k % n) := by rw [h1]
  rw [e, Rg.pow_add, Rg.pow_mul, h.one, Rg.one_pow, Rg.one_mul]
theorem AOrd.dvd {a : K} {n : Nat} (h : AOrd a n) {k : Nat} (hk : Rg.pow a k = 1) : n ∣ k := by
  have h1 := h.mod k
  rw [hk] at h1
  have h2 := Nat.mod_lt k (show n > 0 from h.pos)
  refine Nat.dvd_of_mod_eq_zero ?_
  rcases Nat.eq_zero_or_pos (k % n) with h3 | h3
  · exact h3
  · exact absurd h1 (h.least _ h3 h2)
theorem AOrd.inj {a : K} {n : Nat} (h : AOrd a n) {i j : Nat} (hi : i < n) (hj : j < n) (e : Rg.pow a i = Rg.pow a j) : i = j := by
  have key : ∀ i j : Nat, i < j → j < n → Rg.pow a i ≠ Rg.pow a j := fun i j hij hj e => by
    have e2 : Rg.pow a j = Rg.pow a i * Rg.pow a (j - i) := by rw [← Rg.pow_add]; congr 1; omega
    rw [e2] at e
    have h1 : Rg.pow a i * 1 = Rg.pow a i * Rg.pow a (j - i) := by rw [Rg.mul_one]; exact e
    exact h.least (j - i) (by omega) (by omega) (Fd.mul_left_cancel (pow_ne' h.ne i) h1).symm
  rcases Nat.lt_trichotomy i j with h1 | h1 | h1
  · exact absurd e (key i j h1 hj)
  · exact h1
  · exact absurd e.symm (key j i h1 hi)
end
section
variable {K L : Type} [Fd K] [Fd L] {φ : K → L}
theorem mapP_rootP (h : Hm φ) : ∀ rs : List K, mapP φ h (rootP rs) = rootP (rs.map φ)
  | [] => mapP_one h
  | r :: rs => by
    rw [rootP_cons, mapP_mul, mapP_rootP h rs, List.map_cons, rootP_cons]
    congr 1
    have e1 : (Po.lin r : Po K) = Po.mn 1 1 - Po.mn r 0 := rfl
    have e2 : (Po.lin (φ r) : Po L) = Po.mn 1 1 - Po.mn (φ r) 0 := rfl
    rw [e1, e2, mapP_sub, mapP_mn, mapP_mn, h.one]
end
section
variable {p m m2 : Int} {mod mod2 : List Int} [hF : IsF p m mod] [hE : IsF p m2 mod2]
omit hF in
theorem frob_hm (k : Nat) : Hm (fun y : El p m2 mod2 => Rg.pow y (p.toNat ^ k)) := ⟨fun x y => frob_k x y k, fun x y => Rg.mul_pow _ _ _, Rg.one_pow _⟩
theorem pw_nat (hp : 0 ≤ p) (m : Int) : (pw p m).toNat = p.toNat ^ m.toNat := by
  unfold pw
  obtain ⟨a, ha⟩ := Int.eq_ofNat_of_zero_le hp
  rw [ha, ← Int.natCast_pow, Int.toNat_natCast, Int.toNat_natCast]
theorem fixed_img {φ : El p m mod → El p m2 mod2} (h : Hm φ) {y : El p m2 mod2} (hy : Rg.pow y (pw p m).toNat = y) : ∃ x, φ x = y := by
  have hq := hF.q2
  refine Classical.byContradiction fun hno => ?_
  have hz := elNz_nz hF.out
  have h1 := roots_len (y :: (0 :: elNz p m mod).map φ) (Po.mn 1 (pw p m).toNat - Po.mn 1 1 : Po (El p m2 mod2)) ?_ ?_ ?_
  · rw [List.length_cons, List.length_map, List.length_cons, elNz_len] at h1
    have h2 := Po.len_le (f := (Po.mn 1 (pw p m).toNat - Po.mn 1 1 : Po (El p m2 mod2))) (n := (pw p m).toNat + 1) ((Po.mn_sh _ _).sub ((Po.mn_sh _ _).mono (by omega)))
    omega
  · refine List.nodup_cons.2 ⟨fun hm => ?_, List.pairwise_map.2 ((List.nodup_cons.2 ⟨fun h0 => (hz.mem 0).1 h0 rfl, hz.nd⟩ : (0 :: elNz p m mod).Nodup).imp fun hab e => hab (h.inj e))⟩
    obtain ⟨x, _, hx⟩ := List.mem_map.1 hm
    exact hno ⟨x, hx⟩
  · intro e
    have h2 := congrArg (fun f => Po.cf f 1) e
    simp only [Po.cf_sub, Po.cf_mn, Po.cf_zero] at h2
    rw [if_neg (show ¬ 1 = (pw p m).toNat by omega), if_pos trivial, Rg.zero_sub] at h2
    exact Fd.one_ne (K := El p m2 mod2) (Rg.neg_eq_zero h2)
  · intro a ha
    rw [Po.val_sub, Po.val_mn, Po.val_mn, Rg.one_mul, Rg.one_mul, Rg.pow_one]
    rcases List.mem_cons.1 ha with rfl | ha
    · rw [hy, Rg.sub_self]
    · obtain ⟨x, _, rfl⟩ := List.mem_map.1 ha
      rw [← h.pow, all_pow, Rg.sub_self]
theorem fixed_poly {φ : El p m mod → El p m2 mod2} (h : Hm φ) {f : Po (El p m2 mod2)} (hf : ∀ j, Rg.pow (Po.cf f j) (pw p m).toNat = Po.cf f j) : ∃ g, mapP φ h g = f := by
  have hx : ∀ j, ∃ x, φ x = Po.cf f j := fun j => fixed_img h (hf j)
  refine ⟨⟨fun j => Classical.choose (hx j), Po.len f, fun j hj => ?_⟩, Po.ext fun j => Classical.choose_spec (hx j)⟩
  refine h.inj ?_
  rw [Classical.choose_spec (hx j), Po.cf_ge hj, h.zero]
theorem stp_one (q n i : Int) : stp q n 1 i = i * q % n := rfl
theorem cls_step {q n : Int} (hn : 1 ≤ n) {zs : List Int} {i : Int} (hi : i ∈ clsL q n zs) : i * q % n ∈ clsL q n zs := by
  obtain ⟨hb, z, hz, ho⟩ := (mem_clsL hn).1 hi
  have h1 := stp_bd (q := q) hn hb 1
  rw [stp_one] at h1
  exact (mem_clsL hn).2 ⟨h1, z, hz, ho.trans ⟨1, (stp_one q n i).symm⟩⟩
theorem cls_perm {q n : Int} (hn : 1 ≤ n) (hg : Int.gcd q n = 1) (zs : List Int) : ((clsL q n zs).map fun i => i * q % n).Perm (clsL q n zs) := by
  have hnd : (clsL q n zs).Nodup := (clsL_lt q n zs).imp fun h e => by omega
  refine Fd.perm_of_sub _ _ ?_ ?_ ?_
  · refine List.pairwise_map.2 (hnd.imp_of_mem fun {a b} ha hb hab e => hab ?_)
    exact mul_inj_mod hg ((mem_clsL hn).1 ha).1 ((mem_clsL hn).1 hb).1 e
  · intro a ha
    obtain ⟨i, hi, rfl⟩ := List.mem_map.1 ha
    exact cls_step hn hi
  · rw [List.length_map]; exact Nat.le_refl _
noncomputable def clsR (a : El p m2 mod2) (C : List Int) : List (El p m2 mod2) := C.map fun i => Rg.pow a i.toNat
theorem ord_gcd (hF : IsF p m mod) {a : El p m2 mod2} {n : Int} (ha : AOrd a n.toNat) (hd : m2 % m = 0) : Int.gcd (pw p m) n = 1 := by
  have hq := hF.q2
  have hq2 := hE.q2
  have hn := ha.pos
  obtain ⟨k, hk⟩ := pw_dvd hF hE hd
  have hk1 : k ≠ 0 := fun e => by rw [e, Nat.pow_zero] at hk; omega
  have h1 := ha.dvd (k := (pw p m2 - 1).toNat) (pow_last ha.ne)
  have h2 : (Int.gcd (pw p m) n) = Nat.gcd (pw p m).toNat n.toNat := by
    obtain ⟨x, hx⟩ := Int.eq_ofNat_of_zero_le (show 0 ≤ pw p m by omega)
    obtain ⟨y, hy⟩ := Int.eq_ofNat_of_zero_le (show 0 ≤ n by omega)
    rw [hx, hy]; rfl
  rw [h2]
  have h3 : Nat.gcd (pw p m).toNat n.toNat ∣ (pw p m2 - 1).toNat := Nat.dvd_trans (Nat.gcd_dvd_right _ _) h1
  have h4 : Nat.gcd (pw p m).toNat n.toNat ∣ (pw p m2).toNat := by
    rw [hk]
    obtain ⟨j, rfl⟩ := Nat.exists_eq_succ_of_ne_zero hk1
    rw [Nat.pow_succ]
    exact Nat.dvd_trans (Nat.gcd_dvd_left _ _) (Nat.dvd_mul_left _ _)
  have h5 : (pw p m2).toNat = (pw p m2 - 1).toNat + 1 := by omega
  rw [h5] at h4
  exact Nat.dvd_one.1 ((Nat.dvd_add_right h3).1 h4)
theorem gen_down {φ : El p m mod → El p m2 mod2} (h : Hm φ) {a : El p m2 mod2} {n : Int} (ha : AOrd a n.toNat) (hd : m2 % m = 0) (zs : List Int) : ∃ g, mapP φ h g = rootP (clsR a (clsL (pw p m) n zs)) := by
  have hp := hF.p2
  have hn := ha.pos
  have hq := hF.q2
  refine fixed_poly h fun j => ?_
  have h1 := mapP_rootP (frob_hm (p := p) (m2 := m2) (mod2 := mod2) m.toNat) (clsR a (clsL (pw p m) n zs))
  have h2 : (clsR a (clsL (pw p m) n zs)).map (fun y : El p m2 mod2 => Rg.pow y (p.toNat ^ m.toNat)) = clsR a ((clsL (pw p m) n zs).map fun i => i * pw p m % n) := by
    unfold clsR
    rw [List.map_map, List.map_map]
    refine List.map_congr_left fun i hi => ?_
    have hb := ((mem_clsL (show 1 ≤ n by omega)).1 hi).1
    show Rg.pow (Rg.pow a i.toNat) (p.toNat ^ m.toNat) = Rg.pow a (i * pw p m % n).toNat
    rw [← Rg.pow_mul, ← pw_nat (show 0 ≤ p by omega) m, ← ha.mod (i.toNat * (pw p m).toNat)]
    congr 1
    obtain ⟨x, hx⟩ := Int.eq_ofNat_of_zero_le (show 0 ≤ pw p m by omega)
    obtain ⟨y, hy⟩ := Int.eq_ofNat_of_zero_le (show 0 ≤ n by omega)
    obtain ⟨z, hz⟩ := Int.eq_ofNat_of_zero_le hb.1
    rw [hx, hy, hz, ← Int.natCast_mul, ← Int.natCast_emod]
    simp only [Int.toNat_natCast]
  have h3 := rootP_perm ((cls_perm (show 1 ≤ n by omega) (ord_gcd hF ha hd) zs).map fun i => Rg.pow a i.toNat)
  rw [h2] at h1
  have h4 : clsR a ((clsL (pw p m) n zs).map fun i => i * pw p m % n) = ((clsL (pw p m) n zs).map fun i => i * pw p m % n).map fun i => Rg.pow a i.toNat := rfl
  rw [h4, h3] at h1
  have h5 := congrArg (fun f => Po.cf f j) h1
  simp only [cf_mapP] at h5
  rw [pw_nat (show 0 ≤ p by omega) m]
  exact h5
end
end Go.Proofs.YtgnmcoegdogfgaaGreat

set_option linter.unusedSimpArgs false
set_option linter.unusedVariables false
namespace Go.Proofs.YtgnmcoegdogfgaaGreat
open Go.RowKit
def idxI (l : List Int) (x : Int) : Int := if x ∈ l then (l.idxOf x : Int) else -1
theorem idxI_of {l : List Int} {x : Int} {k : Nat} (hk : k < l.length) (h : l.getD k 0 = x) (hu : ∀ j, j < k → l.getD j 0 ≠ x) : idxI l x = k := by
  have hx : l[k] = x := by rw [List.getD_eq_getElem?_getD, List.getElem?_eq_getElem hk] at h; exact h
  have hm : x ∈ l := hx ▸ List.getElem_mem hk
  unfold idxI
  rw [if_pos hm]
  have h1 := List.idxOf_lt_length_iff.2 hm
  have h2 : l[l.idxOf x] = x := List.getElem_idxOf h1
  have h3 : l.idxOf x ≤ k := by
    rw [← hx]
    refine Nat.le_of_not_lt fun hlt => ?_
    have := List.not_of_lt_findIdx (p := (· == l[k])) (xs := l) hlt
    simp at this
  rcases Nat.lt_or_ge (l.idxOf x) k with h4 | h4
  · refine absurd ?_ (hu _ h4)
    rw [List.getD_eq_getElem?_getD, List.getElem?_eq_getElem h1]; exact h2
  · have : l.idxOf x = k := by omega
    rw [this]
section
variable {p m m2 : Int} {mod mod2 : List Int} [hF : IsF p m mod] [hE : IsF p m2 mod2]
theorem zp_mod (hm : 2 ≤ m) : (zp (m.toNat + 1) (fF m.toNat (rl mod)) : Po (El p m2 mod2)) = pol (mod ++ [1]) := by
  have hp := hF.p2
  have hs := hF.out.1.1
  have hml : mod.length = m.toNat := by
    rcases hs.low with h | h
    · omega
    · omega
  have e : fF m.toNat (rl mod) = rl (mod ++ [1]) := by rw [← hml]; exact fF_rl.symm
  rw [e]
  refine Po.ext fun j => ?_
  rw [cf_zp, cf_pol]
  by_cases hj : j < m.toNat + 1
  · rw [if_pos hj]
    have hb : 0 ≤ (mod ++ [1]).getD j 0 ∧ (mod ++ [1]).getD j 0 < p := by
      have hin : AllIn p (mod ++ [1]) := fun z hz => by
        rcases List.mem_append.1 hz with h | h
        · exact hs.ent z h
        · rw [List.mem_singleton.1 h]; omega
      exact hin.get (by omega) j
    exact zi_el hb.1 hb.2
  · rw [if_neg hj, getD_out (by rw [List.length_append]; simp; omega), el_zero]
theorem embR_rt (hd : m2 % m = 0) : RtP p m mod m2 mod2 (el (embR p m2 mod2 m mod)) := by
  have hm1 := hF.m1
  unfold RtP
  by_cases hm : m = 1
  · have hrt : IsRt p m2 mod2 m mod 0 := ⟨by omega, by have := hE.q2; omega, fun _ => rfl, fun h => by omega, fun h => by omega⟩
    have hmod : mod = [] := by
      rcases hF.out.1.1.low with h | h
      · exact h.2
      · omega
    rw [hrt.eq hm1, el_zero]
    have e : (zp (m.toNat + 1) (fF m.toNat (rl mod)) : Po (El p m2 mod2)) = Po.mn 1 1 := Po.ext fun j => by
      rw [cf_zp, Po.cf_mn, hmod]
      have h1 : m.toNat = 1 := by omega
      rw [h1]
      unfold fF
      by_cases h0 : j = 0
      · subst h0
        rw [if_pos (by omega), if_pos (by omega), if_neg (by omega)]; exact zi_zero
      · by_cases h2 : j = 1
        · rw [if_pos (by omega), if_neg (by omega), if_pos h2, if_pos h2, zi_one]
        · rw [if_neg (by omega), if_neg h2]
    rw [e, Po.val_mn, Rg.pow_one, Rg.mul_zero]
  · obtain ⟨_, h⟩ := rt_of_head (p := p) (m := m) (mod := mod) (m2 := m2) (mod2 := mod2) (by omega) hd rfl
    rw [zp_mod (by omega), h.eq hm1]
    exact h.root (by omega)
noncomputable def phi (p m : Int) (mod : List Int) (m2 : Int) (mod2 : List Int) [hF : IsF p m mod] [hE : IsF p m2 mod2] : El p m mod → El p m2 mod2 := embF p m mod m2 mod2 (el (embR p m2 mod2 m mod))
theorem phi_hm (hd : m2 % m = 0) : Hm (phi p m mod m2 mod2) := embF_hm (embR_rt hd)
theorem imL_phi (x : El p m mod) : (imL p m2 mod2 m (embR p m2 mod2 m mod)).getD x.1.toNat 0 = (phi p m mod m2 mod2 x).1 := by
  have hp := hF.p2
  have hxb := x.2
  rw [imL_get _ _ (by omega), Int.toNat_of_nonneg hxb.1]
  unfold phi embF
  congr 2
  refine Po.ext fun j => ?_
  rw [cf_zp, cf_pol]
  have hdl := digs_len p m.toNat x.1
  by_cases hj : j < m.toNat
  · rw [if_pos hj]
    have hb := (digs_in (p := p) (by omega) m.toNat x.1).get (by omega) j
    exact (zi_el hb.1 hb.2).symm
  · rw [if_neg hj, getD_out (by omega), el_zero]
theorem imL_idx (hd : m2 % m = 0) (x : El p m mod) : idxI (imL p m2 mod2 m (embR p m2 mod2 m mod)) (phi p m mod m2 mod2 x).1 = x.1 := by
  have hxb := x.2
  have h := idxI_of (l := imL p m2 mod2 m (embR p m2 mod2 m mod)) (k := x.1.toNat) (by rw [imL_length]; omega) (imL_phi (mod := mod) x) (fun j hj e => by
    have h1 := imL_phi (mod := mod) (m2 := m2) (mod2 := mod2) (⟨(j : Int), by omega, by omega⟩ : El p m mod)
    have h2 : (j : Int).toNat = j := Int.toNat_natCast j
    simp only [h2] at h1
    rw [e] at h1
    have h3 := (phi_hm (p := p) (m := m) (mod := mod) (mod2 := mod2) hd).inj (El.ext h1)
    have h4 := congrArg (fun z : El p m mod => z.1) h3
    simp only at h4
    omega)
  rw [h, Int.toNat_of_nonneg hxb.1]
theorem imL_eq (hd : m2 % m = 0) {k : Int} (h0 : 0 ≤ k) (h1 : k < pw p m) (x : El p m mod) : (imL p m2 mod2 m (embR p m2 mod2 m mod)).getD k.toNat 0 = (phi p m mod m2 mod2 x).1 ↔ k = x.1 := by
  have h2 := imL_phi (mod := mod) (m2 := m2) (mod2 := mod2) (⟨k, h0, h1⟩ : El p m mod)
  constructor
  · intro e
    simp only at h2
    rw [e] at h2
    have h3 := (phi_hm (p := p) (m := m) (mod := mod) (mod2 := mod2) hd).inj (El.ext h2)
    exact (congrArg (fun z : El p m mod => z.1) h3).symm
  · rintro rfl; exact imL_phi (mod := mod) x
omit hF in
theorem root_ord {n : Int} (hn : 1 ≤ n) (h : rootI p m2 mod2 n ≠ 0) : AOrd (el (rootI p m2 mod2 n) : El p m2 mod2) n.toNat := by
  have hr : RootI p m2 mod2 n (rootI p m2 mod2 n) := by
    by_cases hx : ∃ r, RootI p m2 mod2 n r
    · obtain ⟨r, hr⟩ := hx
      rw [hr.eq]; exact hr
    · unfold rootI at h
      rw [dif_neg hx] at h
      exact absurd rfl h
  rcases hr with ⟨h1, _⟩ | ⟨h1, h2, h3, _⟩
  · exact absurd h1 h
  · obtain ⟨t, ht, _⟩ := ord_ex hE.out (y := rootI p m2 mod2 n) ⟨by omega, h2⟩
    have h4 := ht.eq
    have h5 : t = n.toNat := by omega
    subst h5
    have hpw : ∀ s, (Rg.pow (el (rootI p m2 mod2 n) : El p m2 mod2) s).1 = pwI p m2 mod2 (rootI p m2 mod2 n) s := fun s => by
      have h6 := pow_val hE.out (el (rootI p m2 mod2 n)) s
      rw [Fd.pow_eq, el_in ⟨by omega, h2⟩] at h6
      exact h6
    refine ⟨ht.pos, El.ext (by rw [hpw, ht.one]; rfl), fun s h6 h7 e => ht.least s h6 h7 ?_⟩
    rw [← hpw, e]; rfl
omit hF in
theorem clsR_nodup {a : El p m2 mod2} {n : Int} (ha : AOrd a n.toNat) {q : Int} (zs : List Int) : (clsR a (clsL q n zs)).Nodup := by
  have hn := ha.pos
  refine List.pairwise_map.2 (((clsL_lt q n zs).imp fun h e => by omega : (clsL q n zs).Nodup).imp_of_mem fun {x y} hx hy hxy e => hxy ?_)
  have h1 := ((mem_clsL (show 1 ≤ n by omega)).1 hx).1
  have h2 := ((mem_clsL (show 1 ≤ n by omega)).1 hy).1
  have := ha.inj (i := x.toNat) (j := y.toNat) (by omega) (by omega) e
  omega
omit hF in
theorem val_xn1 (n : Nat) (y : El p m2 mod2) : Po.val (xn1 n : Po (El p m2 mod2)) y = Rg.pow y n - 1 := by unfold xn1; rw [Po.val_sub, Po.val_mn, Po.val_one, Rg.one_mul]
omit hF in
theorem clsR_dvd {a : El p m2 mod2} {n : Int} (ha : AOrd a n.toNat) {q : Int} (zs : List Int) : rootP (clsR a (clsL q n zs)) ∣ xn1 n.toNat := by
  refine rootP_dvd _ _ (clsR_nodup ha zs) fun r hr => ?_
  obtain ⟨i, _, rfl⟩ := List.mem_map.1 hr
  rw [val_xn1, ← Rg.pow_mul, Nat.mul_comm, Rg.pow_mul, ha.one, Rg.one_pow, Rg.sub_self]
theorem mapP_xn1 {φ : El p m mod → El p m2 mod2} (h : Hm φ) (n : Nat) : mapP φ h (xn1 n) = xn1 n := by
  unfold xn1; rw [mapP_sub, mapP_mn, mapP_one, h.one]
theorem frz_gen (hd : m2 % m = 0) {a : El p m2 mod2} {n : Int} (ha : AOrd a n.toNat) (zs : List Int) : ∃ g : Po (El p m mod), mapP (phi p m mod m2 mod2) (phi_hm hd) g = rootP (clsR a (clsL (pw p m) n zs)) ∧ g ∣ xn1 n.toNat ∧ Po.lead g = 1 ∧ (il (rootP (clsR a (clsL (pw p m) n zs)))).map (idxI (imL p m2 mod2 m (embR p m2 mod2 m mod))) = il g := by
  have hh := phi_hm (p := p) (m := m) (mod := mod) (mod2 := mod2) hd
  obtain ⟨g, hg⟩ := gen_down hh ha hd zs
  have hg0 : g ≠ 0 := fun e => rootP_ne (clsR a (clsL (pw p m) n zs)) (by rw [← hg, e, mapP_zero])
  refine ⟨g, hg, (mapP_dvd hh hg0).1 (by rw [hg, mapP_xn1]; exact clsR_dvd ha zs), hh.inj (by rw [← mapP_lead hh, hg, rootP_lead, hh.one]), ?_⟩
  refine ext_getD (by rw [List.length_map, il_length, il_length, ← hg, mapP_len]) fun j => ?_
  rw [il_getD]
  by_cases hj : j < Po.len g
  · have h1 : j < (il (rootP (clsR a (clsL (pw p m) n zs)))).length := by rw [il_length, ← hg, mapP_len]; exact hj
    rw [List.getD_eq_getElem?_getD, List.getElem?_map, List.getElem?_eq_getElem h1]
    have h2 : (il (rootP (clsR a (clsL (pw p m) n zs))))[j] = (phi p m mod m2 mod2 (Po.cf g j)).1 := by
      have h3 := il_getD (rootP (clsR a (clsL (pw p m) n zs))) j
      have h4 : Po.cf (rootP (clsR a (clsL (pw p m) n zs))) j = phi p m mod m2 mod2 (Po.cf g j) := by rw [← hg]; rfl
      rw [List.getD_eq_getElem?_getD, List.getElem?_eq_getElem h1, h4] at h3
      exact h3
    show idxI _ ((il (rootP (clsR a (clsL (pw p m) n zs))))[j]) = _
    rw [h2, imL_idx hd]
  · rw [getD_out (by rw [List.length_map, il_length, ← hg, mapP_len]; omega), Po.cf_ge (by omega)]; rfl
theorem gcd_self_dvd {K : Type} [Fd K] {g f : Po K} (h : g ∣ f) (hl : Po.lead g = 1) (hg : g ≠ 0) : Po.gcd g f = g :=
  Po.monic_eq (Po.gcd_is g f).left ((Po.gcd_is g f).great (Po.dvd_refl g) h) (Po.gcd_monic (.inl hg)) hl
end
end Go.Proofs.YtgnmcoegdogfgaaGreat

set_option linter.unusedSimpArgs false
set_option linter.unusedVariables false
namespace Go.Proofs.YtgnmcoegdogfgaaGreat
open Go.RowKit
section
variable {p m m2 : Int} {mod mod2 : List Int} [hF : IsF p m mod] [hE : IsF p m2 mod2]
end
end Go.Proofs.YtgnmcoegdogfgaaGreat

set_option linter.unusedSimpArgs false
set_option linter.unusedVariables false
set_option maxRecDepth 100000
namespace Go.Proofs.YtgnmcoegdogfgaaGreat
open Go.RowKit
section
variable {p m : Int} {mod : List Int} [hF : IsF p m mod]
theorem pol_lin (r : Int) : (pol [(-(el r : El p m mod)).1, 1] : Po (El p m mod)) = Po.lin (el r) := Po.ext fun j => by
  rw [cf_pol, Po.cf_lin]
  match j with
  | 0 => exact el_of _
  | 1 => exact el_one
  | j + 2 => rw [if_neg (by omega), if_neg (by omega)]; exact el_zero
noncomputable def rtL (p m : Int) (mod : List Int) [hF : IsF p m mod] (rs : List Int) : Po (El p m mod) := rootP (rs.map el)
theorem rtL_succ (rs : List Int) {k : Nat} (hk : k < rs.length) : rtL p m mod (rs.take (k + 1)) = rtL p m mod (rs.take k) * Po.lin (el (rs.getD k 0)) := by
  unfold rtL
  rw [List.take_add_one, List.getElem?_eq_getElem hk, List.getD_eq_getElem?_getD, List.getElem?_eq_getElem hk, List.map_append]
  exact rootP_snoc _ _
theorem rtL_len (rs : List Int) : Po.len (rtL p m mod rs) = rs.length + 1 := by unfold rtL; rw [rootP_len, List.length_map]
end
theorem poly_FromRoots_ent : Enters Tryz.prog 97 := enters_of Tryz.func97 (by kernel_rfl) (by kernel_rfl)
theorem poly_FromRoots (g : GfM) {p m : Int} {mod : List Int} [hF : IsF p m mod] (hg : GOk g p m mod) (R : Option Addr) (nr cr : Nat) (rs : List Int) (hnr : nr = rs.length) (h9 : rs.length ≤ 1000) :
    Pure Tryz.prog 97 #[.pointer (some g.p), .slice R nr cr] [gfR g, ro R (ints rs)] (one (fun v ch => ∃ B cap, v = .slice B (il (rtL p m mod rs)).length cap ∧ ch = ow B 3 cap (ints (il (rtL p m mod rs))))) := by
  refine pure_of (args := [.pointer (some g.p), .slice R nr cr]) 24 Tryz.func97 rfl rfl rfl poly_FromRoots_ent ⟨id, id, trivial⟩ (fun w0 => ?_)
  refine tr_seq ?_
  refine tr_region fun _ _ _ => ?_
  refine pu rfl rfl rfl rfl rfl ?_
  refine tr_seq ?_
  refine tr_region fun _ _ _ => ?_
  refine ef rfl rfl (eLit1I rfl rfl rfl rfl (fun A1 => ?_)) 
  refine pu rfl rfl rfl rfl rfl ?_
  refine tr_seq ?_
  refine tr_seq ?_
  refine tr_region fun _ _ _ => ?_
  refine pu rfl rfl rfl rfl rfl ?_
  refine st rfl rfl rfl rfl (rLen rfl rfl) ?_
  refine pu rfl rfl rfl rfl rfl ?_
  refine tr_block ?_
  refine tr_loop5 (fun (k : Int) (D : Option Addr) (cd : Nat) (nd : Nat) (ls : List Int) => [(5, .slice D nd cd), (9, .slice R nr cr), (10, .int .i64 nr), (11, .int .i64 k), (0, .pointer (some g.p)), (4, .slice none 0 0)]) (fun (k : Int) (D : Option Addr) (cd : Nat) (nd : Nat) (ls : List Int) => [ow D 3 cd (ints ls), gfR g, ro R (ints rs)]) (fun (k : Int) (D : Option Addr) (cd : Nat) (nd : Nat) (ls : List Int) => (0 ≤ k ∧ k ≤ nr) ∧ nd = ls.length ∧ ls = il (rtL p m mod (rs.take k.toNat))) (fun (k : Int) (D : Option Addr) (cd : Nat) (nd : Nat) (ls : List Int) => (nr - k).toNat) (0) (A1) (1) (1) ([1]) ⟨rfl, rfl, rfl, rfl, rfl, rfl, trivial⟩ (by first | exact cs _ _ | exact CSub.refl _) (⟨⟨by omega, by omega⟩, rfl, by rw [Int.toNat_zero, List.take_zero]; exact (il_one (p := p) (m := m) (mod := mod)).symm⟩) (fun k D cd nd ls hI => ?_)
  obtain ⟨⟨hk0, hk1⟩, hnd, hls⟩ := hI
  have hlsl : ls.length ≤ 1001 := by rw [hls, il_length, rtL_len, List.length_take]; omega
  refine tr_seq ?_
  refine tr_region fun _ _ _ => ?_
  refine pu rfl rfl rfl rfl rfl ?_
  refine tr_seq ?_
  refine tr_cond_bool rfl (fun h3 => ?_) (fun h3 => ?_)
  · try simp only [zbA] at h3
    refine tr_skip ?_
    refine tr_seq ?_
    refine tr_block ?_
    refine tr_seq ?_
    refine tr_region fun _ _ _ => ?_
    refine st rfl rfl rfl rfl (rIdxI rfl rfl rfl (by omega) (by omega) (by omega)) ?_
    refine st rfl rfl rfl rfl (rLdI rfl rfl (by omega)) ?_
    refine pu rfl rfl rfl rfl rfl ?_
    refine tr_region fun _ _ _ => ?_
    iterate 4 refine pu rfl rfl rfl rfl rfl ?_
    refine ef rfl rfl (eCallV rfl rfl rfl (gf_NegE g hg _) ⟨rfl, rfl, trivial⟩ ?_) 
    refine ef rfl rfl (eLit2I rfl rfl rfl rfl rfl (fun A5a => ?_)) 
    refine ef rfl rfl (eCall1 rfl rfl rfl (poly_product g hg D nd cd ls hnd (by omega) A5a _ _ [(-(el (rs.getD k.toNat 0) : El p m mod)).1, 1] rfl (by simp)) ⟨rfl, rfl, rfl, trivial⟩ ?_) 
    rintro _ _ ⟨B5, c5, rfl, rfl⟩
    refine pu rfl rfl rfl rfl rfl ?_
    refine tr_region fun _ _ _ => ?_
    refine st rfl rfl rfl rfl (rAdd rfl rfl rfl (by omega) (by omega)) ?_
    refine pu rfl rfl rfl rfl rfl ?_
    refine ⟨k + 1, B5, c5, (il ((pol ls : Po (El p m mod)) * pol [(-(el (rs.getD k.toNat 0) : El p m mod)).1, 1])).length, il ((pol ls : Po (El p m mod)) * pol [(-(el (rs.getD k.toNat 0) : El p m mod)).1, 1]), ⟨rfl, rfl, rfl, rfl, rfl, rfl, trivial⟩, by first | exact cs _ _ | exact CSub.refl _, ?_⟩
    refine ⟨⟨⟨by omega, by omega⟩, rfl, ?_⟩, by omega⟩
    rw [show (k + 1).toNat = k.toNat + 1 by omega, rtL_succ rs (by omega), hls, pol_il, pol_lin]
  · try simp only [zbA] at h3
    refine tr_exit ?_
    refine tr_seq ?_
    refine tr_region fun _ _ _ => ?_
    iterate 2 refine pu rfl rfl rfl rfl rfl ?_
    have hkn : rs.take k.toNat = rs := List.take_of_length_le (by omega)
    rw [hkn] at hls
    rw [hnd, hls]
    exact tr_ret ⟨trivial, _, _, rfl, ⟨_, rfl, D, cd, rfl, rfl⟩, cs _ _, trivial, trivial⟩
theorem ref_PFromRoots_ent : Enters Tryz.prog 101 := enters_of Tryz.func101 (by kernel_rfl) (by kernel_rfl)
theorem ref_PFromRoots (p m : Int) (A : Option Addr) (c : Nat) (mod : List Int) [hF : IsF p m mod] (R : Option Addr) (nr cr : Nat) (rs : List Int) (hnr : nr = rs.length) (h9 : rs.length ≤ 1000) :
    Pure Tryz.prog 101 #[.agg #[.int .i64 p, .int .i64 m, .slice A mod.length c], .slice R nr cr] [ro A (ints mod), ro R (ints rs)] (one (fun v ch => ∃ B cap, v = .slice B (il (rtL p m mod rs)).length cap ∧ ch = ow B 3 cap (ints (il (rtL p m mod rs))))) := by
  refine pure_of (args := [.agg #[.int .i64 p, .int .i64 m, .slice A mod.length c], .slice R nr cr]) 25 Tryz.func101 rfl rfl rfl ref_PFromRoots_ent ⟨id, id, trivial⟩ (fun w0 => ?_)
  refine tr_seq ?_
  refine tr_region fun _ _ _ => ?_
  refine ef rfl rfl (eBox rfl rfl rfl rfl rfl (fun p0 => ?_)) 
  refine pu rfl rfl rfl rfl rfl ?_
  refine tr_seq ?_
  refine tr_region fun _ _ _ => ?_
  refine ef rfl rfl (eLit1I rfl rfl rfl rfl (fun A1 => ?_)) 
  refine pu rfl rfl rfl rfl rfl ?_
  refine tr_seq ?_
  refine tr_seq ?_
  refine tr_region fun _ _ _ => ?_
  refine pu rfl rfl rfl rfl rfl ?_
  refine tr_block ?_
  refine tr_loop5 (fun (k : Int) (D : Option Addr) (cd : Nat) (nd : Nat) (ls : List Int) => [(5, .slice D nd cd), (6, .int .i64 k), (1, .slice R nr cr), (2, .pointer (some p0)), (4, .slice none 0 0)]) (fun (k : Int) (D : Option Addr) (cd : Nat) (nd : Nat) (ls : List Int) => [ow D 3 cd (ints ls), blk p0 24 [.int .i64 p, .int .i64 m, .slice A mod.length c], ro A (ints mod), ro R (ints rs)]) (fun (k : Int) (D : Option Addr) (cd : Nat) (nd : Nat) (ls : List Int) => (0 ≤ k ∧ k ≤ nr) ∧ nd = ls.length ∧ ls = il (rtL p m mod (rs.take k.toNat))) (fun (k : Int) (D : Option Addr) (cd : Nat) (nd : Nat) (ls : List Int) => (nr - k).toNat) (0) (A1) (1) (1) ([1]) ⟨rfl, rfl, rfl, rfl, rfl, trivial⟩ (by first | exact cs _ _ | exact CSub.refl _) (⟨⟨by omega, by omega⟩, rfl, by rw [Int.toNat_zero, List.take_zero]; exact (il_one (p := p) (m := m) (mod := mod)).symm⟩) (fun k D cd nd ls hI => ?_)
  obtain ⟨⟨hk0, hk1⟩, hnd, hls⟩ := hI
  have hlsl : ls.length ≤ 1001 := by rw [hls, il_length, rtL_len, List.length_take]; omega
  refine tr_seq ?_
  refine tr_seq ?_
  refine tr_region fun _ _ _ => ?_
  iterate 2 refine pu rfl rfl rfl rfl rfl ?_
  refine st rfl rfl rfl rfl (rLen rfl rfl) ?_
  refine pu rfl rfl rfl rfl rfl ?_
  refine tr_cond_bool rfl (fun h3 => ?_) (fun h3 => ?_)
  · try simp only [zbA] at h3
    refine tr_skip ?_
    refine tr_seq ?_
    refine tr_block ?_
    refine tr_draw [0, 1, 2, 3, 4, 5, 6, 7, 8, 9, 10] [] mixed (by kernel_rfl) fun _ _ _ => ?_
    refine st rfl rfl rfl rfl (rLdS rfl rfl rfl) ?_
    refine pu rfl rfl rfl rfl rfl ?_
    refine st rfl rfl rfl rfl (rLdS rfl rfl rfl) ?_
    iterate 2 refine pu rfl rfl rfl rfl rfl ?_
    refine st rfl rfl rfl rfl (rIdxI rfl rfl rfl (by omega) (by omega) (by omega)) ?_
    refine st rfl rfl rfl rfl (rLdI rfl rfl (by omega)) ?_
    refine ef rfl rfl (eCallV rfl rfl rfl (ref_NegE _ _ _ _ _ _) ⟨rfl, rfl, trivial⟩ ?_) 
    refine ef rfl rfl (eLit2I rfl rfl rfl rfl rfl (fun A5a => ?_)) 
    refine ef rfl rfl (eCall1 rfl rfl rfl (ref_PMul _ _ _ _ _ D nd cd ls hnd (by omega) A5a _ _ [(-(el (rs.getD k.toNat 0) : El p m mod)).1, 1] rfl (by simp)) ⟨rfl, rfl, rfl, trivial⟩ ?_) 
    rintro _ _ ⟨B5, c5, rfl, rfl⟩
    refine pu rfl rfl rfl rfl rfl ?_
    refine tr_region fun _ _ _ => ?_
    refine pu rfl rfl rfl rfl rfl ?_
    refine st rfl rfl rfl rfl (rAdd rfl rfl rfl (by omega) (by omega)) ?_
    refine pu rfl rfl rfl rfl rfl ?_
    refine ⟨k + 1, B5, c5, (il ((pol ls : Po (El p m mod)) * pol [(-(el (rs.getD k.toNat 0) : El p m mod)).1, 1])).length, il ((pol ls : Po (El p m mod)) * pol [(-(el (rs.getD k.toNat 0) : El p m mod)).1, 1]), ⟨rfl, rfl, rfl, rfl, rfl, trivial⟩, by first | exact cs _ _ | exact CSub.refl _, ?_⟩
    refine ⟨⟨⟨by omega, by omega⟩, rfl, ?_⟩, by omega⟩
    rw [show (k + 1).toNat = k.toNat + 1 by omega, rtL_succ rs (by omega), hls, pol_il, pol_lin]
  · try simp only [zbA] at h3
    refine tr_exit ?_
    refine tr_seq ?_
    refine tr_region fun _ _ _ => ?_
    iterate 2 refine pu rfl rfl rfl rfl rfl ?_
    have hkn : rs.take k.toNat = rs := List.take_of_length_le (by omega)
    rw [hkn] at hls
    rw [hnd, hls]
    exact tr_ret ⟨trivial, _, _, rfl, ⟨_, rfl, D, cd, rfl, rfl⟩, cs _ _, trivial, trivial⟩
theorem slc_Index_ent : Enters Tryz.prog 98 := enters_of Tryz.func98 (by kernel_rfl) (by kernel_rfl)
theorem slc_Index (A : Option Addr) (n c : Nat) (l : List Int) (hn : n = l.length) (h9 : l.length ≤ 1000000) (x : Int) :
    Pure Tryz.prog 98 #[.slice A n c, .int .i64 x] [ro A (ints l)] (isV (.int .i64 (idxI l x))) := by
  refine pure_of (args := [.slice A n c, .int .i64 x]) 19 Tryz.func98 rfl rfl rfl slc_Index_ent ⟨id, trivial⟩ (fun w0 => ?_)
  refine tr_seq ?_
  refine tr_region fun _ _ _ => ?_
  refine pu rfl rfl rfl rfl rfl ?_
  refine tr_seq ?_
  refine tr_seq ?_
  refine tr_region fun _ _ _ => ?_
  refine pu rfl rfl rfl rfl rfl ?_
  refine st rfl rfl rfl rfl (rLen rfl rfl) ?_
  refine pu rfl rfl rfl rfl rfl ?_
  refine tr_block ?_
  refine tr_loop1 (fun (i : Int) => [(7, .int .i64 n), (8, .int .i64 i), (0, .slice A n c), (1, .int .i64 x)]) (fun (i : Int) => [ro A (ints l)]) (fun (i : Int) => (0 ≤ i ∧ i ≤ n) ∧ ∀ j : Nat, (j : Int) < i → l.getD j 0 ≠ x) (fun (i : Int) => (n - i).toNat) (0) ⟨rfl, rfl, rfl, rfl, trivial⟩ (by first | exact cs _ _ | exact CSub.refl _) (⟨⟨by omega, by omega⟩, fun j hj => by omega⟩) (fun i hI => ?_)
  obtain ⟨⟨hi0, hi1⟩, hno⟩ := hI
  refine tr_seq ?_
  refine tr_region fun _ _ _ => ?_
  refine pu rfl rfl rfl rfl rfl ?_
  refine tr_seq ?_
  refine tr_cond_bool rfl (fun h2 => ?_) (fun h2 => ?_)
  · try simp only [zbA] at h2
    refine tr_skip ?_
    refine tr_seq ?_
    refine tr_block ?_
    refine tr_seq ?_
    refine tr_region fun _ _ _ => ?_
    iterate 2 refine pu rfl rfl rfl rfl rfl ?_
    refine tr_seq ?_
    refine tr_region fun _ _ _ => ?_
    iterate 3 refine pu rfl rfl rfl rfl rfl ?_
    refine st rfl rfl rfl rfl (rIdxI rfl rfl rfl (by omega) (by omega) (by omega)) ?_
    refine st rfl rfl rfl rfl (rLdI rfl rfl (by omega)) ?_
    refine pu rfl rfl rfl rfl rfl ?_
    refine tr_cond_bool rfl (fun h4 => ?_) (fun h4 => ?_)
    · try simp only [zbA] at h4
      refine tr_seq ?_
      refine tr_region fun _ _ _ => ?_
      iterate 2 refine pu rfl rfl rfl rfl rfl ?_
      have hix := idxI_of (l := l) (x := x) (k := i.toNat) (by omega) h4.symm (fun j hj => hno j (by omega))
      exact tr_ret ⟨trivial, _, _, rfl, ⟨by rw [hix, Int.toNat_of_nonneg hi0], rfl⟩, CSub.nil _, trivial⟩
    · try simp only [zbA] at h4
      refine tr_skip ?_
      refine tr_region fun _ _ _ => ?_
      refine st rfl rfl rfl rfl (rAdd rfl rfl rfl (by omega) (by omega)) ?_
      refine pu rfl rfl rfl rfl rfl ?_
      refine ⟨i + 1, ⟨rfl, rfl, rfl, rfl, trivial⟩, by first | exact cs _ _ | exact CSub.refl _, ?_⟩
      refine ⟨⟨⟨by omega, by omega⟩, fun j hj => ?_⟩, by omega⟩
      by_cases he : (j : Int) = i
      · have : j = i.toNat := by omega
        subst this; exact fun e => h4 e.symm
      · exact hno j (by omega)
  · try simp only [zbA] at h2
    refine tr_exit ?_
    refine tr_seq ?_
    refine tr_region fun _ _ _ => ?_
    refine pu rfl rfl rfl rfl rfl ?_
    have hix : idxI l x = -1 := by
      unfold idxI
      rw [if_neg fun hm => ?_]
      obtain ⟨j, hj, he⟩ := List.getElem_of_mem hm
      exact hno j (by omega) (by rw [List.getD_eq_getElem?_getD, List.getElem?_eq_getElem hj]; exact he)
    exact tr_ret ⟨trivial, _, _, rfl, ⟨by rw [hix], rfl⟩, CSub.nil _, trivial⟩
theorem bch_FromZeros_ent : Enters Tryz.prog 52 := enters_of Tryz.func52 (by kernel_rfl) (by kernel_rfl)
theorem bch_FromZeros (p m : Int) (A : Option Addr) (c : Nat) (mod : List Int) [hF : IsF p m mod] (m2 : Int) (Ae : Option Addr) (ce : Nat) (mod2 : List Int) [hE : IsF p m2 mod2] (hd : m2 % m = 0) (n : Int) (hn1 : 1 ≤ n) (hn64 : n ≤ 64) (hr : rootI p m2 mod2 n ≠ 0) (Z : Option Addr) (cz : Nat) (zs : List Int) (hz : zs.length ≤ 1000000) :
    Pure Tryz.prog 52 #[.agg #[.int .i64 p, .int .i64 m, .slice A mod.length c], .agg #[.int .i64 p, .int .i64 m2, .slice Ae mod2.length ce], .int .i64 n, .slice Z zs.length cz] [ro A (ints mod), ro Ae (ints mod2), ro Z (ints zs)] (three (fun v ca cb cc => ∃ Bm cm B r3, v = .tuple #[.agg #[.int .i64 p, .int .i64 m, .slice Bm mod.length cm, .int .i64 n, .slice B r3.length r3.length], .int .i64 0] ∧ ca = ow Bm 3 cm (ints mod) ∧ cb = rx B (hdrs r3) ∧ cc = rowsCh 3 r3 ∧ ∃ gK : Po (El p m mod), mapP (phi p m mod m2 mod2) (phi_hm hd) gK = (rootP (clsR (el (rootI p m2 mod2 n) : El p m2 mod2) (clsL (pw p m) n zs))) ∧ gK ∣ xn1 n.toNat ∧ Po.lead gK = 1 ∧ CdOf p m mod n.toNat r3 (CyW n.toNat gK))) := by
  have hl8 := hF.short
  have hl82 := hE.short
  have hq2 := hF.q2
  have hq9 := hF.out.1.1.q
  have hra : rootArgs p m2 mod2 n = 0 := by rw [rootArgs_is hE.out hn1 hn64, if_neg hr]
  have hao := root_ord (p := p) (m2 := m2) (mod2 := mod2) hn1 hr
  have hgc := ord_gcd hF hao hd
  have hcl := clsL_length (pw p m) n zs
  have himl := imL_length (p := p) (m2 := m2) (mod2 := mod2) m (embR p m2 mod2 m mod)
  have himq : (((imL p m2 mod2 m (embR p m2 mod2 m mod)).length : Nat) : Int) = pw p m := by rw [himl]; omega
  have hcb : ∀ k : Nat, k < (clsL (pw p m) n zs).length → 0 ≤ (clsL (pw p m) n zs).getD k 0 ∧ (clsL (pw p m) n zs).getD k 0 < n := fun k hk => ((mem_clsL hn1).1 (getD_mem hk 0)).1
  obtain ⟨gK, hgK, hgx, hgl, hgd_⟩ := frz_gen (p := p) (m := m) (mod := mod) (m2 := m2) (mod2 := mod2) hd hao zs
  have hg0 : gK ≠ 0 := fun e => by rw [e] at hgx; exact xn1_ne (p := p) (m := m) (mod := mod) (show 1 ≤ n.toNat by omega) (Po.zero_dvd hgx)
  have hGl : Po.len (rootP (clsR (el (rootI p m2 mod2 n) : El p m2 mod2) (clsL (pw p m) n zs))) = (clsL (pw p m) n zs).length + 1 := by rw [rootP_len]; unfold clsR; rw [List.length_map]
  have hGil : (il (rootP (clsR (el (rootI p m2 mod2 n) : El p m2 mod2) (clsL (pw p m) n zs)))).length ≤ 65 := by rw [il_length]; omega
  refine pure_ofC (args := [.agg #[.int .i64 p, .int .i64 m, .slice A mod.length c], .agg #[.int .i64 p, .int .i64 m2, .slice Ae mod2.length ce], .int .i64 n, .slice Z zs.length cz]) 94 Tryz.func52 rfl rfl rfl bch_FromZeros_ent ⟨id, id, id, trivial⟩ (fun w0 => ?_)
  refine tr_seq ?_
  refine tr_region fun _ _ _ => ?_
  refine ef rfl rfl (eBox rfl rfl rfl rfl rfl (fun p0 => ?_)) 
  refine ef rfl rfl (eBox rfl rfl rfl rfl rfl (fun p0a => ?_)) 
  refine ef rfl rfl (eAlloc rfl rfl rfl (fun p0b => ?_)) 
  refine pu rfl rfl rfl rfl rfl ?_
  refine tr_seq ?_
  refine tr_seq ?_
  refine tr_region fun _ _ _ => ?_
  refine st rfl rfl rfl rfl (rLdS rfl rfl rfl) ?_
  refine ef rfl rfl (eCallV rfl rfl rfl (fld_Check _ _ _ _ _ (by omega)) ⟨rfl, trivial⟩ ?_) 
  refine pu rfl rfl rfl rfl rfl ?_
  refine tr_seq ?_
  refine tr_region fun _ _ _ => ?_
  iterate 2 refine pu rfl rfl rfl rfl rfl ?_
  refine tr_cond_bool rfl (fun h2 => ?_) (fun h2 => ?_)
  · try simp only [zbA] at h2
    exact absurd (chkF_zero hF.out) (by omega) --done
  · try simp only [zbA] at h2
    refine tr_skip ?_
    refine tr_seq ?_
    refine tr_region fun _ _ _ => ?_
    refine st rfl rfl rfl rfl (rLdS rfl rfl rfl) ?_
    refine st rfl rfl rfl rfl (rLdS rfl rfl rfl) ?_
    refine pu rfl rfl rfl rfl rfl ?_
    refine ef rfl rfl (eCall2 rfl rfl rfl (bch_ext p m A c mod m2 Ae ce mod2 hd n hn1 hn64) ⟨rfl, rfl, rfl, trivial⟩ ?_) 
    rintro _ _ _ ⟨g, B6, rfl, rfl, rfl, hg⟩
    iterate 9 refine pu rfl rfl rfl rfl rfl ?_
    rw [if_pos hra]
    refine tr_seq ?_
    refine tr_seq ?_
    refine tr_region fun _ _ _ => ?_
    iterate 2 refine pu rfl rfl rfl rfl rfl ?_
    refine tr_cond_bool rfl (fun h5 => ?_) (fun h5 => ?_)
    · try simp only [zbA] at h5
      omega --done
    · try simp only [zbA] at h5
      refine tr_skip ?_
      refine tr_seq ?_
      refine tr_region fun _ _ _ => ?_
      refine pu rfl rfl rfl rfl rfl ?_
      refine st rfl rfl rfl rfl (rLen rfl rfl) ?_
      iterate 2 refine pu rfl rfl rfl rfl rfl ?_
      refine ef rfl rfl (eCall1 rfl rfl rfl (bch_Closure _ n Z cz zs hz (by omega) (by omega) hn1 hn64 (by rw [himq]; exact hgc)) ⟨rfl, rfl, rfl, trivial⟩ ?_) 
      rintro _ _ ⟨B7, c7, rfl, rfl⟩
      iterate 5 refine pu rfl rfl rfl rfl rfl ?_
      rw [himq]
      refine tr_seq ?_
      refine tr_seq ?_
      refine tr_region fun _ _ _ => ?_
      iterate 2 refine pu rfl rfl rfl rfl rfl ?_
      refine tr_cond_bool rfl (fun h8 => ?_) (fun h8 => ?_)
      · try simp only [zbA] at h8
        first | exact absurd trivial h8 | exact absurd rfl h8 | omega | (exact absurd h8 (by simp)) --done
      · try simp only [zbA] at h8
        refine tr_skip ?_
        refine tr_seq ?_
        refine tr_region fun _ _ _ => ?_
        refine pu rfl rfl rfl rfl rfl ?_
        refine tr_seq ?_
        refine tr_seq ?_
        refine tr_region fun _ _ _ => ?_
        refine pu rfl rfl rfl rfl rfl ?_
        refine st rfl rfl rfl rfl (rLen rfl rfl) ?_
        refine pu rfl rfl rfl rfl rfl ?_
        refine tr_block ?_
        refine tr_nilI 3 ?_
        refine tr_loop4 (fun (k : Int) (D : Option Addr) (cd : Nat) (rts : List Int) => [(16, .slice D rts.length cd), (55, .slice B7 (clsL (pw p m) n zs).length c7), (56, .int .i64 (clsL (pw p m) n zs).length), (57, .int .i64 k), (13, .int .i64 (rootI p m2 mod2 n)), (2, .int .i64 n), (4, .pointer (some p0)), (8, .pointer (some p0b)), (9, .int .i64 0), (11, .pointer (some g.p)), (12, .slice B6 (imL p m2 mod2 m (embR p m2 mod2 m mod)).length (imL p m2 mod2 m (embR p m2 mod2 m mod)).length)]) (fun (k : Int) (D : Option Addr) (cd : Nat) (rts : List Int) => [ow D 3 cd (ints rts), ow B7 3 c7 (ints (clsL (pw p m) n zs)), gfN g, ow B6 3 (imL p m2 mod2 m (embR p m2 mod2 m mod)).length (ints (imL p m2 mod2 m (embR p m2 mod2 m mod))), blk p0 24 [.int .i64 p, .int .i64 m, .slice A mod.length c], blk p0a 24 [.int .i64 p, .int .i64 m2, .slice Ae mod2.length ce], blk p0b 27 [.int .i64 0, .int .i64 0, .slice none 0 0, .int .i64 0, .slice none 0 0], ro A (ints mod), ro Ae (ints mod2), ro Z (ints zs)]) (fun (k : Int) (D : Option Addr) (cd : Nat) (rts : List Int) => (0 ≤ k ∧ k ≤ (clsL (pw p m) n zs).length) ∧ rts = (((clsL (pw p m) n zs).take k.toNat).map fun i : Int => (Rg.pow (el (rootI p m2 mod2 n) : El p m2 mod2) i.toNat).1)) (fun (k : Int) (D : Option Addr) (cd : Nat) (rts : List Int) => ((clsL (pw p m) n zs).length - k).toNat) (0) (none) (0) ([]) ⟨rfl, rfl, rfl, rfl, rfl, rfl, rfl, rfl, rfl, rfl, rfl, trivial⟩ (by first | exact cs _ _ | exact CSub.refl _) (⟨⟨by omega, by omega⟩, rfl⟩) (fun k D cd rts hI => ?_)
        obtain ⟨⟨hk0, hk1⟩, hrs⟩ := hI
        have hrl : rts.length ≤ 64 := by rw [hrs, List.length_map, List.length_take]; omega
        refine tr_seq ?_
        refine tr_region fun _ _ _ => ?_
        refine pu rfl rfl rfl rfl rfl ?_
        refine tr_seq ?_
        refine tr_cond_bool rfl (fun h12 => ?_) (fun h12 => ?_)
        · try simp only [zbA] at h12
          refine tr_skip ?_
          refine tr_seq ?_
          refine tr_block ?_
          refine tr_seq ?_
          refine tr_region fun _ _ _ => ?_
          refine st rfl rfl rfl rfl (rIdxI rfl rfl rfl (by omega) (by omega) (by omega)) ?_
          refine st rfl rfl rfl rfl (rLdI rfl rfl (by omega)) ?_
          refine pu rfl rfl rfl rfl rfl ?_
          refine tr_seq ?_
          have hckb := hcb k.toNat (by omega)
          refine tr_region fun _ _ _ => ?_
          iterate 3 refine pu rfl rfl rfl rfl rfl ?_
          refine ef rfl rfl (eCallV rfl rfl rfl (gf_PowE g hg (rootI p m2 mod2 n) ((clsL (pw p m) n zs).getD k.toNat 0) (by omega) (by omega)) ⟨rfl, rfl, rfl, trivial⟩ ?_) 
          iterate 5 refine pu rfl rfl rfl rfl rfl ?_
          refine tr_region fun _ _ _ => ?_
          iterate 2 refine pu rfl rfl rfl rfl rfl ?_
          refine ef rfl rfl (eLit1I rfl rfl rfl rfl (fun A15 => ?_)) 
          refine ef rfl rfl (eAppI rfl rfl rfl rfl rfl (by first | rfl | simp | omega) (by first | rfl | simp | omega) (by first | omega | (simp; omega)) (fun A15a c15a => ?_)) 
          refine pu rfl rfl rfl rfl rfl ?_
          refine tr_region fun _ _ _ => ?_
          refine st rfl rfl rfl rfl (rAdd rfl rfl rfl (by omega) (by omega)) ?_
          refine pu rfl rfl rfl rfl rfl ?_
          refine ⟨k + 1, A15a, c15a, rts ++ [(Rg.pow (el (rootI p m2 mod2 n) : El p m2 mod2) ((clsL (pw p m) n zs).getD k.toNat 0).toNat).1], ⟨rfl, rfl, rfl, rfl, rfl, rfl, rfl, rfl, rfl, rfl, rfl, trivial⟩, by first | exact cs _ _ | exact CSub.refl _, ?_⟩
          refine ⟨⟨⟨by omega, by omega⟩, ?_⟩, by omega⟩
          rw [show (k + 1).toNat = k.toNat + 1 by omega, List.take_add_one, List.getElem?_eq_getElem (show k.toNat < (clsL (pw p m) n zs).length by omega), List.map_append, hrs]
          have hck : (clsL (pw p m) n zs).getD k.toNat 0 = (clsL (pw p m) n zs)[k.toNat] := by rw [List.getD_eq_getElem?_getD, List.getElem?_eq_getElem (show k.toNat < (clsL (pw p m) n zs).length by omega)]; rfl
          rw [hck]; rfl
        · try simp only [zbA] at h12
          refine tr_exit ?_
          refine tr_seq ?_
          refine tr_region fun _ _ _ => ?_
          refine pu rfl rfl rfl rfl rfl ?_
          refine tr_seq ?_
          refine tr_seq ?_
          have hkc : (clsL (pw p m) n zs).take k.toNat = (clsL (pw p m) n zs) := List.take_of_length_le (by omega)
          rw [hkc] at hrs
          refine tr_region fun _ _ _ => ?_
          iterate 2 refine pu rfl rfl rfl rfl rfl ?_
          refine ef rfl rfl (eCall1 rfl rfl rfl (poly_FromRoots g hg D _ cd rts rfl (by omega)) ⟨rfl, rfl, trivial⟩ ?_) 
          rintro _ _ ⟨Bf, cf, rfl, rfl⟩
          refine st rfl rfl rfl rfl (rLen rfl rfl) ?_
          refine pu rfl rfl rfl rfl rfl ?_
          have hrts : rtL p m2 mod2 ((clsL (pw p m) n zs).map fun i : Int => (Rg.pow (el (rootI p m2 mod2 n) : El p m2 mod2) i.toNat).1) = (rootP (clsR (el (rootI p m2 mod2 n) : El p m2 mod2) (clsL (pw p m) n zs))) := by
            unfold rtL clsR
            rw [List.map_map]
            congr 1
            exact List.map_congr_left fun i _ => el_of _
          rw [hrs, hrts]
          refine tr_block ?_
          refine tr_nilI 3 ?_
          refine tr_loop4 (fun (k : Int) (D2 : Option Addr) (cd2 : Nat) (os : List Int) => [(21, .slice D2 os.length cd2), (75, .slice Bf (il (rootP (clsR (el (rootI p m2 mod2 n) : El p m2 mod2) (clsL (pw p m) n zs)))).length cf), (76, .int .i64 (il (rootP (clsR (el (rootI p m2 mod2 n) : El p m2 mod2) (clsL (pw p m) n zs)))).length), (77, .int .i64 k), (2, .int .i64 n), (4, .pointer (some p0)), (8, .pointer (some p0b)), (9, .int .i64 0), (12, .slice B6 (imL p m2 mod2 m (embR p m2 mod2 m mod)).length (imL p m2 mod2 m (embR p m2 mod2 m mod)).length)]) (fun (k : Int) (D2 : Option Addr) (cd2 : Nat) (os : List Int) => [ow D2 3 cd2 (ints os), ow Bf 3 cf (ints (il (rootP (clsR (el (rootI p m2 mod2 n) : El p m2 mod2) (clsL (pw p m) n zs))))), gfN g, ow B6 3 (imL p m2 mod2 m (embR p m2 mod2 m mod)).length (ints (imL p m2 mod2 m (embR p m2 mod2 m mod))), blk p0 24 [.int .i64 p, .int .i64 m, .slice A mod.length c], blk p0a 24 [.int .i64 p, .int .i64 m2, .slice Ae mod2.length ce], blk p0b 27 [.int .i64 0, .int .i64 0, .slice none 0 0, .int .i64 0, .slice none 0 0], ro A (ints mod), ro Ae (ints mod2), ro Z (ints zs)]) (fun (k : Int) (D2 : Option Addr) (cd2 : Nat) (os : List Int) => (0 ≤ k ∧ k ≤ (il (rootP (clsR (el (rootI p m2 mod2 n) : El p m2 mod2) (clsL (pw p m) n zs)))).length) ∧ os = ((il (rootP (clsR (el (rootI p m2 mod2 n) : El p m2 mod2) (clsL (pw p m) n zs)))).take k.toNat).map (idxI (imL p m2 mod2 m (embR p m2 mod2 m mod)))) (fun (k : Int) (D2 : Option Addr) (cd2 : Nat) (os : List Int) => ((il (rootP (clsR (el (rootI p m2 mod2 n) : El p m2 mod2) (clsL (pw p m) n zs)))).length - k).toNat) (0) (none) (0) ([]) ⟨rfl, rfl, rfl, rfl, rfl, rfl, rfl, rfl, rfl, trivial⟩ (by first | exact cs _ _ | exact CSub.refl _) (⟨⟨by omega, by omega⟩, rfl⟩) (fun k D2 cd2 os hI => ?_)
          obtain ⟨⟨hk0, hk1⟩, hos⟩ := hI
          have hol : os.length ≤ 65 := by rw [hos, List.length_map, List.length_take]; omega
          refine tr_seq ?_
          refine tr_region fun _ _ _ => ?_
          refine pu rfl rfl rfl rfl rfl ?_
          refine tr_seq ?_
          refine tr_cond_bool rfl (fun h19 => ?_) (fun h19 => ?_)
          · try simp only [zbA] at h19
            refine tr_skip ?_
            refine tr_seq ?_
            refine tr_block ?_
            refine tr_seq ?_
            refine tr_region fun _ _ _ => ?_
            refine st rfl rfl rfl rfl (rIdxI rfl rfl rfl (by omega) (by omega) (by omega)) ?_
            refine st rfl rfl rfl rfl (rLdI rfl rfl (by omega)) ?_
            refine pu rfl rfl rfl rfl rfl ?_
            refine tr_region fun _ _ _ => ?_
            iterate 3 refine pu rfl rfl rfl rfl rfl ?_
            refine ef rfl rfl (eCallV rfl rfl rfl (slc_Index B6 _ _ (imL p m2 mod2 m (embR p m2 mod2 m mod)) rfl (by omega) ((il (rootP (clsR (el (rootI p m2 mod2 n) : El p m2 mod2) (clsL (pw p m) n zs)))).getD k.toNat 0)) ⟨rfl, rfl, trivial⟩ ?_) 
            refine ef rfl rfl (eLit1I rfl rfl rfl rfl (fun A21a => ?_)) 
            refine ef rfl rfl (eAppI rfl rfl rfl rfl rfl (by first | rfl | simp | omega) (by first | rfl | simp | omega) (by first | omega | (simp; omega)) (fun A21b c21b => ?_)) 
            refine pu rfl rfl rfl rfl rfl ?_
            refine tr_region fun _ _ _ => ?_
            refine st rfl rfl rfl rfl (rAdd rfl rfl rfl (by omega) (by omega)) ?_
            refine pu rfl rfl rfl rfl rfl ?_
            refine ⟨k + 1, A21b, c21b, os ++ [idxI (imL p m2 mod2 m (embR p m2 mod2 m mod)) ((il (rootP (clsR (el (rootI p m2 mod2 n) : El p m2 mod2) (clsL (pw p m) n zs)))).getD k.toNat 0)], ⟨rfl, rfl, rfl, rfl, rfl, rfl, rfl, rfl, rfl, trivial⟩, by first | exact cs _ _ | exact CSub.refl _, ?_⟩
            refine ⟨⟨⟨by omega, by omega⟩, ?_⟩, by omega⟩
            rw [show (k + 1).toNat = k.toNat + 1 by omega, List.take_add_one, List.getElem?_eq_getElem (show k.toNat < (il (rootP (clsR (el (rootI p m2 mod2 n) : El p m2 mod2) (clsL (pw p m) n zs)))).length by omega), List.map_append, hos]
            have hck : (il (rootP (clsR (el (rootI p m2 mod2 n) : El p m2 mod2) (clsL (pw p m) n zs)))).getD k.toNat 0 = (il (rootP (clsR (el (rootI p m2 mod2 n) : El p m2 mod2) (clsL (pw p m) n zs))))[k.toNat] := by rw [List.getD_eq_getElem?_getD, List.getElem?_eq_getElem (show k.toNat < (il (rootP (clsR (el (rootI p m2 mod2 n) : El p m2 mod2) (clsL (pw p m) n zs)))).length by omega)]; rfl
            rw [hck]; rfl
          · try simp only [zbA] at h19
            refine tr_exit ?_
            refine tr_seq ?_
            have hkg : (il (rootP (clsR (el (rootI p m2 mod2 n) : El p m2 mod2) (clsL (pw p m) n zs)))).take k.toNat = il (rootP (clsR (el (rootI p m2 mod2 n) : El p m2 mod2) (clsL (pw p m) n zs))) := List.take_of_length_le (by omega)
            rw [hkg, hgd_] at hos
            refine tr_region fun _ _ _ => ?_
            refine st rfl rfl rfl rfl (rLdS rfl rfl rfl) ?_
            iterate 2 refine pu rfl rfl rfl rfl rfl ?_
            refine ef rfl rfl (eCall3 rfl rfl rfl (cyc_New _ _ _ _ _ n hn1 hn64 D2 _ cd2 os rfl (by omega) (by rw [hos]; exact il_in _)) ⟨rfl, rfl, rfl, trivial⟩ ?_) 
            rintro _ _ _ _ ⟨Bm, cm, B, r3, rfl, rfl, rfl, rfl, hC⟩
            iterate 2 refine pu rfl rfl rfl rfl rfl ?_
            refine ef rfl rfl (eStS rfl rfl rfl rfl rfl rfl ?_) 
            refine pu rfl rfl rfl rfl rfl ?_
            rw [hos, pol_il, gcd_self_dvd hgx hgl hg0] at hC
            exact tr_ret ⟨trivial, _, _, (.cell rfl (cellS rfl) (.tmp rfl .nil)), ⟨_, _, _, rfl, Bm, cm, B, r3, rfl, rfl, rfl, rfl, gK, hgK, hgx, hgl, hC⟩, cs _ _, trivial, trivial, trivial, trivial⟩
theorem ref_Gnr_ent : Enters Tryz.prog 55 := enters_of Tryz.func55 (by kernel_rfl) (by kernel_rfl)
theorem ref_Gnr (p m : Int) (A : Option Addr) (c : Nat) (mod : List Int) [hF : IsF p m mod] (m2 : Int) (Ae : Option Addr) (ce : Nat) (mod2 : List Int) [hE : IsF p m2 mod2] (hd : m2 % m = 0) (n : Int) (hn1 : 1 ≤ n) (hn64 : n ≤ 64) (hr : rootI p m2 mod2 n ≠ 0) (Z : Option Addr) (cz : Nat) (zs : List Int) (hz : zs.length ≤ 1000000) :
    Pure Tryz.prog 55 #[.agg #[.int .i64 p, .int .i64 m, .slice A mod.length c], .agg #[.int .i64 p, .int .i64 m2, .slice Ae mod2.length ce], .int .i64 n, .slice Z zs.length cz] [ro A (ints mod), ro Ae (ints mod2), ro Z (ints zs)] (one (fun v ch => ∃ B cap, v = .slice B (il (rootP (clsR (el (rootI p m2 mod2 n) : El p m2 mod2) (clsL (pw p m) n zs)))).length cap ∧ ch = ow B 3 cap (ints (il (rootP (clsR (el (rootI p m2 mod2 n) : El p m2 mod2) (clsL (pw p m) n zs))))))) := by
  have hl8 := hF.short
  have hl82 := hE.short
  have hq2 := hF.q2
  have hq9 := hF.out.1.1.q
  have hra : rootArgs p m2 mod2 n = 0 := by rw [rootArgs_is hE.out hn1 hn64, if_neg hr]
  have hao := root_ord (p := p) (m2 := m2) (mod2 := mod2) hn1 hr
  have hgc := ord_gcd hF hao hd
  have hcl := clsL_length (pw p m) n zs
  have himl := imL_length (p := p) (m2 := m2) (mod2 := mod2) m (embR p m2 mod2 m mod)
  have himq : (((imL p m2 mod2 m (embR p m2 mod2 m mod)).length : Nat) : Int) = pw p m := by rw [himl]; omega
  have hcb : ∀ k : Nat, k < (clsL (pw p m) n zs).length → 0 ≤ (clsL (pw p m) n zs).getD k 0 ∧ (clsL (pw p m) n zs).getD k 0 < n := fun k hk => ((mem_clsL hn1).1 (getD_mem hk 0)).1
  obtain ⟨gK, hgK, hgx, hgl, hgd_⟩ := frz_gen (p := p) (m := m) (mod := mod) (m2 := m2) (mod2 := mod2) hd hao zs
  have hg0 : gK ≠ 0 := fun e => by rw [e] at hgx; exact xn1_ne (p := p) (m := m) (mod := mod) (show 1 ≤ n.toNat by omega) (Po.zero_dvd hgx)
  have hGl : Po.len (rootP (clsR (el (rootI p m2 mod2 n) : El p m2 mod2) (clsL (pw p m) n zs))) = (clsL (pw p m) n zs).length + 1 := by rw [rootP_len]; unfold clsR; rw [List.length_map]
  have hGil : (il (rootP (clsR (el (rootI p m2 mod2 n) : El p m2 mod2) (clsL (pw p m) n zs)))).length ≤ 65 := by rw [il_length]; omega
  have hor := hF.ord
  refine pure_of (args := [.agg #[.int .i64 p, .int .i64 m, .slice A mod.length c], .agg #[.int .i64 p, .int .i64 m2, .slice Ae mod2.length ce], .int .i64 n, .slice Z zs.length cz]) 46 Tryz.func55 rfl rfl rfl ref_Gnr_ent ⟨id, id, id, trivial⟩ (fun w0 => ?_)
  refine tr_seq ?_
  refine tr_region fun _ _ _ => ?_
  refine ef rfl rfl (eBox rfl rfl rfl rfl rfl (fun p0 => ?_)) 
  refine ef rfl rfl (eBox rfl rfl rfl rfl rfl (fun p0a => ?_)) 
  refine pu rfl rfl rfl rfl rfl ?_
  refine tr_seq ?_
  refine tr_region fun _ _ _ => ?_
  refine st rfl rfl rfl rfl (rLdS rfl rfl rfl) ?_
  refine pu rfl rfl rfl rfl rfl ?_
  refine ef rfl rfl (eCallV rfl rfl rfl (ref_Root p m2 Ae ce mod2 hE.out n) ⟨rfl, rfl, trivial⟩ ?_) 
  refine pu rfl rfl rfl rfl rfl ?_
  refine tr_seq ?_
  refine tr_region fun _ _ _ => ?_
  refine st rfl rfl rfl rfl (rLdS rfl rfl rfl) ?_
  refine ef rfl rfl (eCallV rfl rfl rfl (ref_order _ _ _ _ _) ⟨rfl, trivial⟩ ?_) 
  iterate 2 refine pu rfl rfl rfl rfl rfl ?_
  refine ef rfl rfl (eCall1 rfl rfl rfl (ref_Closure (ordI p m) n Z cz zs hz (by omega) (by omega) hn1 hn64 (by rw [hor]; exact hgc)) ⟨rfl, rfl, rfl, trivial⟩ ?_) 
  rintro _ _ ⟨B2, c2, rfl, rfl⟩
  refine pu rfl rfl rfl rfl rfl ?_
  rw [hor]
  refine tr_seq ?_
  refine tr_region fun _ _ _ => ?_
  refine pu rfl rfl rfl rfl rfl ?_
  refine tr_seq ?_
  refine tr_seq ?_
  refine tr_region fun _ _ _ => ?_
  refine pu rfl rfl rfl rfl rfl ?_
  refine tr_block ?_
  refine tr_nilI 3 ?_
  refine tr_loop4 (fun (k : Int) (D : Option Addr) (cd : Nat) (rts : List Int) => [(11, .slice D rts.length cd), (12, .int .i64 k), (10, .slice B2 (clsL (pw p m) n zs).length c2), (9, .int .i64 (rootI p m2 mod2 n)), (5, .pointer (some p0a)), (8, .slice none 0 0)]) (fun (k : Int) (D : Option Addr) (cd : Nat) (rts : List Int) => [ow D 3 cd (ints rts), ow B2 3 c2 (ints (clsL (pw p m) n zs)), blk p0 24 [.int .i64 p, .int .i64 m, .slice A mod.length c], blk p0a 24 [.int .i64 p, .int .i64 m2, .slice Ae mod2.length ce], ro A (ints mod), ro Ae (ints mod2), ro Z (ints zs)]) (fun (k : Int) (D : Option Addr) (cd : Nat) (rts : List Int) => (0 ≤ k ∧ k ≤ (clsL (pw p m) n zs).length) ∧ rts = (((clsL (pw p m) n zs).take k.toNat).map fun i : Int => (Rg.pow (el (rootI p m2 mod2 n) : El p m2 mod2) i.toNat).1)) (fun (k : Int) (D : Option Addr) (cd : Nat) (rts : List Int) => ((clsL (pw p m) n zs).length - k).toNat) (0) (none) (0) ([]) ⟨rfl, rfl, rfl, rfl, rfl, rfl, trivial⟩ (by first | exact cs _ _ | exact CSub.refl _) (⟨⟨by omega, by omega⟩, rfl⟩) (fun k D cd rts hI => ?_)
  obtain ⟨⟨hk0, hk1⟩, hrs⟩ := hI
  have hrl : rts.length ≤ 64 := by rw [hrs, List.length_map, List.length_take]; omega
  refine tr_seq ?_
  refine tr_seq ?_
  refine tr_region fun _ _ _ => ?_
  iterate 2 refine pu rfl rfl rfl rfl rfl ?_
  refine st rfl rfl rfl rfl (rLen rfl rfl) ?_
  refine pu rfl rfl rfl rfl rfl ?_
  refine tr_cond_bool rfl (fun h5 => ?_) (fun h5 => ?_)
  · try simp only [zbA] at h5
    refine tr_skip ?_
    refine tr_seq ?_
    refine tr_block ?_
    refine tr_seq ?_
    have hckb := hcb k.toNat (by omega)
    refine tr_draw [0, 1, 2, 3, 4, 5, 6, 7, 8, 9, 10, 11] [] mixed (by kernel_rfl) fun _ _ _ => ?_
    refine st rfl rfl rfl rfl (rLdS rfl rfl rfl) ?_
    iterate 3 refine pu rfl rfl rfl rfl rfl ?_
    refine st rfl rfl rfl rfl (rIdxI rfl rfl rfl (by omega) (by omega) (by omega)) ?_
    refine st rfl rfl rfl rfl (rLdI rfl rfl (by omega)) ?_
    refine ef rfl rfl (eCallV rfl rfl rfl (ref_PowE p m2 Ae ce mod2 (rootI p m2 mod2 n) ((clsL (pw p m) n zs).getD k.toNat 0) (by omega) (by omega)) ⟨rfl, rfl, rfl, trivial⟩ ?_) 
    iterate 5 refine pu rfl rfl rfl rfl rfl ?_
    refine tr_region fun _ _ _ => ?_
    iterate 2 refine pu rfl rfl rfl rfl rfl ?_
    refine ef rfl rfl (eLit1I rfl rfl rfl rfl (fun A8 => ?_)) 
    refine ef rfl rfl (eAppI rfl rfl rfl rfl rfl (by first | rfl | simp | omega) (by first | rfl | simp | omega) (by first | omega | (simp; omega)) (fun A8a c8a => ?_)) 
    refine pu rfl rfl rfl rfl rfl ?_
    refine tr_region fun _ _ _ => ?_
    refine pu rfl rfl rfl rfl rfl ?_
    refine st rfl rfl rfl rfl (rAdd rfl rfl rfl (by omega) (by omega)) ?_
    refine pu rfl rfl rfl rfl rfl ?_
    refine ⟨k + 1, A8a, c8a, rts ++ [(Rg.pow (el (rootI p m2 mod2 n) : El p m2 mod2) ((clsL (pw p m) n zs).getD k.toNat 0).toNat).1], ⟨rfl, rfl, rfl, rfl, rfl, rfl, trivial⟩, by first | exact cs _ _ | exact CSub.refl _, ?_⟩
    refine ⟨⟨⟨by omega, by omega⟩, ?_⟩, by omega⟩
    rw [show (k + 1).toNat = k.toNat + 1 by omega, List.take_add_one, List.getElem?_eq_getElem (show k.toNat < (clsL (pw p m) n zs).length by omega), List.map_append, hrs]
    have hck : (clsL (pw p m) n zs).getD k.toNat 0 = (clsL (pw p m) n zs)[k.toNat] := by rw [List.getD_eq_getElem?_getD, List.getElem?_eq_getElem (show k.toNat < (clsL (pw p m) n zs).length by omega)]; rfl
    rw [hck]; rfl
  · try simp only [zbA] at h5
    refine tr_exit ?_
    refine tr_seq ?_
    have hkc : (clsL (pw p m) n zs).take k.toNat = (clsL (pw p m) n zs) := List.take_of_length_le (by omega)
    rw [hkc] at hrs
    refine tr_region fun _ _ _ => ?_
    refine st rfl rfl rfl rfl (rLdS rfl rfl rfl) ?_
    refine pu rfl rfl rfl rfl rfl ?_
    refine ef rfl rfl (eCall1 rfl rfl rfl (ref_PFromRoots p m2 Ae ce mod2 D _ cd rts rfl (by omega)) ⟨rfl, rfl, trivial⟩ ?_) 
    rintro _ _ ⟨Bf, cf, rfl, rfl⟩
    refine pu rfl rfl rfl rfl rfl ?_
    have hrts : rtL p m2 mod2 ((clsL (pw p m) n zs).map fun i : Int => (Rg.pow (el (rootI p m2 mod2 n) : El p m2 mod2) i.toNat).1) = (rootP (clsR (el (rootI p m2 mod2 n) : El p m2 mod2) (clsL (pw p m) n zs))) := by
      unfold rtL clsR
      rw [List.map_map]
      congr 1
      exact List.map_congr_left fun i _ => el_of _
    rw [hrs, hrts]
    exact tr_ret ⟨trivial, _, _, rfl, ⟨_, rfl, Bf, cf, rfl, rfl⟩, cs _ _, trivial, trivial⟩
theorem ref_FromZeros_ent : Enters Tryz.prog 20 := enters_of Tryz.func20 (by kernel_rfl) (by kernel_rfl)
theorem ref_FromZeros (p m : Int) (A : Option Addr) (c : Nat) (mod : List Int) [hF : IsF p m mod] (m2 : Int) (Ae : Option Addr) (ce : Nat) (mod2 : List Int) [hE : IsF p m2 mod2] (hd : m2 % m = 0) (n : Int) (hn1 : 1 ≤ n) (hn64 : n ≤ 64) (hr : rootI p m2 mod2 n ≠ 0) (Z : Option Addr) (cz : Nat) (zs : List Int) (hz : zs.length ≤ 1000000) :
    Pure Tryz.prog 20 #[.agg #[.int .i64 p, .int .i64 m, .slice A mod.length c], .agg #[.int .i64 p, .int .i64 m2, .slice Ae mod2.length ce], .int .i64 n, .slice Z zs.length cz] [ro A (ints mod), ro Ae (ints mod2), ro Z (ints zs)] (three (fun v ca cb cc => ∃ Bm cm B cg r3, v = .agg #[.int .i64 p, .int .i64 m, .slice Bm mod.length cm, .int .i64 n, .slice B r3.length cg] ∧ ca = ow Bm 3 cm (ints mod) ∧ cb = ow B 22 cg (hdrs r3) ∧ cc = rowsCh 3 r3 ∧ ∃ gK : Po (El p m mod), mapP (phi p m mod m2 mod2) (phi_hm hd) gK = (rootP (clsR (el (rootI p m2 mod2 n) : El p m2 mod2) (clsL (pw p m) n zs))) ∧ gK ∣ xn1 n.toNat ∧ Po.lead gK = 1 ∧ CdOf p m mod n.toNat r3 (CyW n.toNat gK))) := by
  have hl8 := hF.short
  have hl82 := hE.short
  have hq2 := hF.q2
  have hq9 := hF.out.1.1.q
  have hra : rootArgs p m2 mod2 n = 0 := by rw [rootArgs_is hE.out hn1 hn64, if_neg hr]
  have hao := root_ord (p := p) (m2 := m2) (mod2 := mod2) hn1 hr
  have hgc := ord_gcd hF hao hd
  have hcl := clsL_length (pw p m) n zs
  have himl := imL_length (p := p) (m2 := m2) (mod2 := mod2) m (embR p m2 mod2 m mod)
  have himq : (((imL p m2 mod2 m (embR p m2 mod2 m mod)).length : Nat) : Int) = pw p m := by rw [himl]; omega
  have hcb : ∀ k : Nat, k < (clsL (pw p m) n zs).length → 0 ≤ (clsL (pw p m) n zs).getD k 0 ∧ (clsL (pw p m) n zs).getD k 0 < n := fun k hk => ((mem_clsL hn1).1 (getD_mem hk 0)).1
  obtain ⟨gK, hgK, hgx, hgl, hgd_⟩ := frz_gen (p := p) (m := m) (mod := mod) (m2 := m2) (mod2 := mod2) hd hao zs
  have hg0 : gK ≠ 0 := fun e => by rw [e] at hgx; exact xn1_ne (p := p) (m := m) (mod := mod) (show 1 ≤ n.toNat by omega) (Po.zero_dvd hgx)
  have hGl : Po.len (rootP (clsR (el (rootI p m2 mod2 n) : El p m2 mod2) (clsL (pw p m) n zs))) = (clsL (pw p m) n zs).length + 1 := by rw [rootP_len]; unfold clsR; rw [List.length_map]
  have hGil : (il (rootP (clsR (el (rootI p m2 mod2 n) : El p m2 mod2) (clsL (pw p m) n zs)))).length ≤ 65 := by rw [il_length]; omega
  have hh := phi_hm (p := p) (m := m) (mod := mod) (m2 := m2) (mod2 := mod2) hd
  have hgll : (il gK).length = (il (rootP (clsR (el (rootI p m2 mod2 n) : El p m2 mod2) (clsL (pw p m) n zs)))).length := by rw [il_length, il_length, ← hgK, mapP_len]
  have hgi : ∀ i : Nat, (il (rootP (clsR (el (rootI p m2 mod2 n) : El p m2 mod2) (clsL (pw p m) n zs)))).getD i 0 = (phi p m mod m2 mod2 (Po.cf gK i)).1 := fun i => by rw [il_getD, ← hgK]; rfl
  refine pure_ofC (args := [.agg #[.int .i64 p, .int .i64 m, .slice A mod.length c], .agg #[.int .i64 p, .int .i64 m2, .slice Ae mod2.length ce], .int .i64 n, .slice Z zs.length cz]) 51 Tryz.func20 rfl rfl rfl ref_FromZeros_ent ⟨id, id, id, trivial⟩ (fun w0 => ?_)
  refine tr_seq ?_
  refine tr_region fun _ _ _ => ?_
  refine ef rfl rfl (eBox rfl rfl rfl rfl rfl (fun p0 => ?_)) 
  refine ef rfl rfl (eBox rfl rfl rfl rfl rfl (fun p0a => ?_)) 
  refine ef rfl rfl (eAlloc rfl rfl rfl (fun p0b => ?_)) 
  refine tr_seq ?_
  refine tr_region fun _ _ _ => ?_
  refine st rfl rfl rfl rfl (rLdS rfl rfl rfl) ?_
  refine st rfl rfl rfl rfl (rLdS rfl rfl rfl) ?_
  refine ef rfl rfl (eCall1 rfl rfl rfl (ref_Emb p m A c mod m2 Ae ce mod2 hd) ⟨rfl, rfl, trivial⟩ ?_) 
  rintro _ _ ⟨B1, rfl, rfl⟩
  refine pu rfl rfl rfl rfl rfl ?_
  refine tr_seq ?_
  refine tr_region fun _ _ _ => ?_
  refine st rfl rfl rfl rfl (rLdS rfl rfl rfl) ?_
  refine st rfl rfl rfl rfl (rLdS rfl rfl rfl) ?_
  iterate 2 refine pu rfl rfl rfl rfl rfl ?_
  refine ef rfl rfl (eCall1 rfl rfl rfl (ref_Gnr p m A c mod m2 Ae ce mod2 hd n hn1 hn64 hr Z cz zs hz) ⟨rfl, rfl, rfl, rfl, trivial⟩ ?_) 
  rintro _ _ ⟨Bg, cg_, rfl, rfl⟩
  refine pu rfl rfl rfl rfl rfl ?_
  refine tr_seq ?_
  refine tr_region fun _ _ _ => ?_
  refine pu rfl rfl rfl rfl rfl ?_
  refine tr_seq ?_
  refine tr_seq ?_
  refine tr_region fun _ _ _ => ?_
  refine pu rfl rfl rfl rfl rfl ?_
  refine tr_block ?_
  refine tr_nilI 3 ?_
  refine tr_loop4 (fun (i : Int) (D : Option Addr) (cd : Nat) (ds : List Int) => [(11, .slice D ds.length cd), (12, .int .i64 i), (2, .int .i64 n), (4, .pointer (some p0)), (8, .pointer (some p0b)), (9, .slice B1 (imL p m2 mod2 m (embR p m2 mod2 m mod)).length (imL p m2 mod2 m (embR p m2 mod2 m mod)).length), (10, .slice Bg (il (rootP (clsR (el (rootI p m2 mod2 n) : El p m2 mod2) (clsL (pw p m) n zs)))).length cg_)]) (fun (i : Int) (D : Option Addr) (cd : Nat) (ds : List Int) => [ow D 3 cd (ints ds), ow B1 3 (imL p m2 mod2 m (embR p m2 mod2 m mod)).length (ints (imL p m2 mod2 m (embR p m2 mod2 m mod))), ow Bg 3 cg_ (ints (il (rootP (clsR (el (rootI p m2 mod2 n) : El p m2 mod2) (clsL (pw p m) n zs))))), blk p0 24 [.int .i64 p, .int .i64 m, .slice A mod.length c], blk p0a 24 [.int .i64 p, .int .i64 m2, .slice Ae mod2.length ce], blk p0b 27 [.int .i64 0, .int .i64 0, .slice none 0 0, .int .i64 0, .slice none 0 0], ro A (ints mod), ro Ae (ints mod2), ro Z (ints zs)]) (fun (i : Int) (D : Option Addr) (cd : Nat) (ds : List Int) => (0 ≤ i ∧ i ≤ (il (rootP (clsR (el (rootI p m2 mod2 n) : El p m2 mod2) (clsL (pw p m) n zs)))).length) ∧ ds = (il gK).take i.toNat) (fun (i : Int) (D : Option Addr) (cd : Nat) (ds : List Int) => ((il (rootP (clsR (el (rootI p m2 mod2 n) : El p m2 mod2) (clsL (pw p m) n zs)))).length - i).toNat) (0) (none) (0) ([]) ⟨rfl, rfl, rfl, rfl, rfl, rfl, rfl, trivial⟩ (by first | exact cs _ _ | exact CSub.refl _) (⟨⟨by omega, by omega⟩, by simp⟩) (fun i D cd ds hI => ?_)
  obtain ⟨⟨hi0, hi1⟩, hds⟩ := hI
  refine tr_seq ?_
  refine tr_seq ?_
  refine tr_region fun _ _ _ => ?_
  iterate 2 refine pu rfl rfl rfl rfl rfl ?_
  refine st rfl rfl rfl rfl (rLen rfl rfl) ?_
  refine pu rfl rfl rfl rfl rfl ?_
  refine tr_cond_bool rfl (fun h5 => ?_) (fun h5 => ?_)
  · try simp only [zbA] at h5
    refine tr_skip ?_
    refine tr_seq ?_
    refine tr_block ?_
    refine tr_seq ?_
    refine tr_region fun _ _ _ => ?_
    refine pu rfl rfl rfl rfl rfl ?_
    refine tr_block ?_
    refine tr_loop4 (fun (k : Int) (D2 : Option Addr) (cd2 : Nat) (es : List Int) => [(11, .slice D2 es.length cd2), (13, .int .i64 k), (2, .int .i64 n), (4, .pointer (some p0)), (8, .pointer (some p0b)), (9, .slice B1 (imL p m2 mod2 m (embR p m2 mod2 m mod)).length (imL p m2 mod2 m (embR p m2 mod2 m mod)).length), (10, .slice Bg (il (rootP (clsR (el (rootI p m2 mod2 n) : El p m2 mod2) (clsL (pw p m) n zs)))).length cg_), (12, .int .i64 i), (22, .int .i64 i), (23, .slice Bg (il (rootP (clsR (el (rootI p m2 mod2 n) : El p m2 mod2) (clsL (pw p m) n zs)))).length cg_)]) (fun (k : Int) (D2 : Option Addr) (cd2 : Nat) (es : List Int) => [ow D2 3 cd2 (ints es), ow B1 3 (imL p m2 mod2 m (embR p m2 mod2 m mod)).length (ints (imL p m2 mod2 m (embR p m2 mod2 m mod))), ow Bg 3 cg_ (ints (il (rootP (clsR (el (rootI p m2 mod2 n) : El p m2 mod2) (clsL (pw p m) n zs))))), blk p0 24 [.int .i64 p, .int .i64 m, .slice A mod.length c], blk p0a 24 [.int .i64 p, .int .i64 m2, .slice Ae mod2.length ce], blk p0b 27 [.int .i64 0, .int .i64 0, .slice none 0 0, .int .i64 0, .slice none 0 0], ro A (ints mod), ro Ae (ints mod2), ro Z (ints zs)]) (fun (k : Int) (D2 : Option Addr) (cd2 : Nat) (es : List Int) => (0 ≤ k ∧ k ≤ pw p m) ∧ es = ds ++ if (Po.cf gK i.toNat).1 < k then [(Po.cf gK i.toNat).1] else []) (fun (k : Int) (D2 : Option Addr) (cd2 : Nat) (es : List Int) => (pw p m - k).toNat) (0) (D) (cd) (ds) ⟨rfl, rfl, rfl, rfl, rfl, rfl, rfl, rfl, rfl, rfl, trivial⟩ (by first | exact cs _ _ | exact CSub.refl _) (⟨⟨by omega, by omega⟩, by rw [if_neg (by have := (Po.cf gK i.toNat).2; omega), List.append_nil]⟩) (fun k D2 cd2 es hI => ?_)
    obtain ⟨⟨hk0, hk1⟩, hes⟩ := hI
    have hesl : es.length ≤ 70 := by
      have h1 := congrArg List.length hes
      rw [List.length_append, hds, List.length_take] at h1
      split at h1 <;> simp at h1 <;> omega
    refine tr_seq ?_
    refine tr_seq ?_
    refine tr_region fun _ _ _ => ?_
    iterate 2 refine pu rfl rfl rfl rfl rfl ?_
    refine st rfl rfl rfl rfl (rLen rfl rfl) ?_
    refine pu rfl rfl rfl rfl rfl ?_
    refine tr_cond_bool rfl (fun h8 => ?_) (fun h8 => ?_)
    · try simp only [zbA] at h8
      refine tr_skip ?_
      refine tr_seq ?_
      refine tr_block ?_
      refine tr_seq ?_
      have hik := imL_eq (p := p) (m := m) (mod := mod) (m2 := m2) (mod2 := mod2) hd hk0 (by omega) (Po.cf gK i.toNat)
      rw [← hgi] at hik
      have hxb := (Po.cf gK i.toNat).2
      refine tr_draw [0, 1, 2, 3, 4, 5, 6, 7, 8] [] mixed (by kernel_rfl) fun _ _ _ => ?_
      iterate 2 refine pu rfl rfl rfl rfl rfl ?_
      refine st rfl rfl rfl rfl (rIdxI rfl rfl rfl (by omega) (by omega) (by omega)) ?_
      refine st rfl rfl rfl rfl (rLdI rfl rfl (by omega)) ?_
      iterate 2 refine pu rfl rfl rfl rfl rfl ?_
      refine st rfl rfl rfl rfl (rIdxI rfl rfl rfl (by omega) (by omega) (by omega)) ?_
      refine st rfl rfl rfl rfl (rLdI rfl rfl (by omega)) ?_
      refine pu rfl rfl rfl rfl rfl ?_
      refine tr_cond_bool rfl (fun h10 => ?_) (fun h10 => ?_)
      · try simp only [zbA] at h10
        refine tr_region fun _ _ _ => ?_
        iterate 2 refine pu rfl rfl rfl rfl rfl ?_
        refine ef rfl rfl (eLit1I rfl rfl rfl rfl (fun A11 => ?_)) 
        refine ef rfl rfl (eAppI rfl rfl rfl rfl rfl (by first | rfl | simp | omega) (by first | rfl | simp | omega) (by first | omega | (simp; omega)) (fun A11a c11a => ?_)) 
        refine pu rfl rfl rfl rfl rfl ?_
        refine tr_region fun _ _ _ => ?_
        refine pu rfl rfl rfl rfl rfl ?_
        refine st rfl rfl rfl rfl (rAdd rfl rfl rfl (by omega) (by omega)) ?_
        refine pu rfl rfl rfl rfl rfl ?_
        refine ⟨k + 1, A11a, c11a, es ++ [k], ⟨rfl, rfl, rfl, rfl, rfl, rfl, rfl, rfl, rfl, rfl, trivial⟩, by first | exact cs _ _ | exact CSub.refl _, ?_⟩
        refine ⟨⟨⟨by omega, by omega⟩, ?_⟩, by omega⟩
        have hkx := hik.1 h10
        rw [hes, if_neg (by omega), if_pos (by omega), List.append_nil, hkx]
      · try simp only [zbA] at h10
        refine tr_skip ?_
        refine tr_region fun _ _ _ => ?_
        refine pu rfl rfl rfl rfl rfl ?_
        refine st rfl rfl rfl rfl (rAdd rfl rfl rfl (by omega) (by omega)) ?_
        refine pu rfl rfl rfl rfl rfl ?_
        refine ⟨k + 1, D2, cd2, es, ⟨rfl, rfl, rfl, rfl, rfl, rfl, rfl, rfl, rfl, rfl, trivial⟩, by first | exact cs _ _ | exact CSub.refl _, ?_⟩
        refine ⟨⟨⟨by omega, by omega⟩, ?_⟩, by omega⟩
        have hkx : k ≠ (Po.cf gK i.toNat).1 := fun e => h10 (hik.2 e)
        rw [hes]
        congr 1
        by_cases h : (Po.cf gK i.toNat).1 < k
        · rw [if_pos h, if_pos (by omega)]
        · rw [if_neg h, if_neg (by omega)]
    · try simp only [zbA] at h8
      refine tr_exit ?_
      refine tr_region fun _ _ _ => ?_
      refine pu rfl rfl rfl rfl rfl ?_
      refine st rfl rfl rfl rfl (rAdd rfl rfl rfl (by omega) (by omega)) ?_
      refine pu rfl rfl rfl rfl rfl ?_
      refine ⟨i + 1, D2, cd2, es, ⟨rfl, rfl, rfl, rfl, rfl, rfl, rfl, trivial⟩, by first | exact cs _ _ | exact CSub.refl _, ?_⟩
      refine ⟨⟨⟨by omega, by omega⟩, ?_⟩, by omega⟩
      have hxb := (Po.cf gK i.toNat).2
      rw [hes, if_pos (by omega), show (i + 1).toNat = i.toNat + 1 by omega, List.take_add_one, List.getElem?_eq_getElem (show i.toNat < (il gK).length by omega), hds]
      have hck : (il gK).getD i.toNat 0 = (il gK)[i.toNat] := by rw [List.getD_eq_getElem?_getD, List.getElem?_eq_getElem (show i.toNat < (il gK).length by omega)]; rfl
      rw [← il_getD, hck]; rfl
  · try simp only [zbA] at h5
    refine tr_exit ?_
    refine tr_seq ?_
    have hkg : (il gK).take i.toNat = il gK := List.take_of_length_le (by omega)
    rw [hkg] at hds
    have hgKl : (il gK).length ≤ 65 := by omega
    have hdl : ds.length ≤ 65 := by rw [hds]; omega
    refine tr_region fun _ _ _ => ?_
    refine st rfl rfl rfl rfl (rLdS rfl rfl rfl) ?_
    iterate 2 refine pu rfl rfl rfl rfl rfl ?_
    refine ef rfl rfl (eCall3 rfl rfl rfl (ref_Generated _ _ _ _ _ n hn1 hn64 D _ cd ds rfl (by omega)) ⟨rfl, rfl, rfl, trivial⟩ ?_) 
    rintro _ _ _ _ ⟨Bm, cm, B, cg, r3, rfl, rfl, rfl, rfl, hC⟩
    refine ef rfl rfl (eStS rfl rfl rfl rfl rfl rfl ?_) 
    rw [hds, pol_il, gcd_self_dvd hgx hgl hg0] at hC
    exact tr_ret ⟨trivial, _, _, (.cell rfl (cellS rfl) .nil), ⟨_, _, _, rfl, Bm, cm, B, cg, r3, rfl, rfl, rfl, rfl, gK, hgK, hgx, hgl, hC⟩, cs _ _, trivial, trivial, trivial, trivial⟩
theorem ref_FArgs1_ent : Enters Tryz.prog 16 := enters_of Tryz.func16 (by kernel_rfl) (by kernel_rfl)
theorem ref_FArgs1 (p m : Int) (A : Option Addr) (c : Nat) (mod : List Int) (p2 m2 : Int) (Ae : Option Addr) (ce : Nat) (mod2 : List Int) (hl9 : mod.length ≤ 17592186044415) (hl92 : mod2.length ≤ 17592186044415) (n : Int) (h : chkF p m mod ≠ 0 ∨ chkF p2 m2 mod2 ≠ 0) :
    Pure Tryz.prog 16 #[.agg #[.int .i64 p, .int .i64 m, .slice A mod.length c], .agg #[.int .i64 p2, .int .i64 m2, .slice Ae mod2.length ce], .int .i64 n] [ro A (ints mod), ro Ae (ints mod2)] (isV (.int .i64 1)) := by
  refine pure_of (args := [.agg #[.int .i64 p, .int .i64 m, .slice A mod.length c], .agg #[.int .i64 p2, .int .i64 m2, .slice Ae mod2.length ce], .int .i64 n]) 29 Tryz.func16 rfl rfl rfl ref_FArgs1_ent ⟨id, id, trivial⟩ (fun w0 => ?_)
  refine tr_seq ?_
  refine tr_region fun _ _ _ => ?_
  refine ef rfl rfl (eBox rfl rfl rfl rfl rfl (fun p0 => ?_)) 
  refine ef rfl rfl (eBox rfl rfl rfl rfl rfl (fun p0a => ?_)) 
  refine pu rfl rfl rfl rfl rfl ?_
  refine tr_seq ?_
  refine tr_seq ?_
  refine tr_region fun _ _ _ => ?_
  refine st rfl rfl rfl rfl (rLdS rfl rfl rfl) ?_
  refine ef rfl rfl (eCallV rfl rfl rfl (ref_fldCheck p m A c mod (by omega)) ⟨rfl, trivial⟩ ?_) 
  iterate 2 refine pu rfl rfl rfl rfl rfl ?_
  refine stg rfl rfl rfl rfl rfl (fun hb => by (have hq := hb; try simp only [zbA] at hq); exact rLdS rfl rfl rfl) ?_
  refine efg rfl rfl rfl rfl rfl (fun hb => by (have hq := hb; try simp only [zbA] at hq); exact eCallV rfl rfl rfl (ref_fldCheck p2 m2 Ae ce mod2 (by omega)) ⟨(evg rfl hb), trivial⟩ ⟨rfl, rfl⟩) ?_
  refine stg rfl rfl rfl rfl rfl (fun hb => by (have hq := hb; try simp only [zbA] at hq); exact rNeq rfl (evg rfl hb) rfl) ?_
  refine st rfl rfl rfl rfl (rOrB rfl rfl rfl rfl) ?_
  refine tr_cond_bool rfl (fun h1 => ?_) (fun h1 => ?_)
  · try simp only [zbA] at h1
    refine tr_seq ?_
    refine tr_region fun _ _ _ => ?_
    refine pu rfl rfl rfl rfl rfl ?_
    exact tr_ret ⟨trivial, _, _, rfl, ⟨rfl, rfl⟩, CSub.nil _, trivial⟩
  · try simp only [zbA] at h1
    exact absurd h (by simpa using h1) --done
theorem ref_FArgs4_ent : Enters Tryz.prog 16 := enters_of Tryz.func16 (by kernel_rfl) (by kernel_rfl)
theorem ref_FArgs4 (p m : Int) (A : Option Addr) (c : Nat) (mod : List Int) [hF : IsF p m mod] (p2 m2 : Int) (Ae : Option Addr) (ce : Nat) (mod2 : List Int) [hE : IsF p2 m2 mod2] (n : Int) (hb : n < 1 ∨ n > 64) :
    Pure Tryz.prog 16 #[.agg #[.int .i64 p, .int .i64 m, .slice A mod.length c], .agg #[.int .i64 p2, .int .i64 m2, .slice Ae mod2.length ce], .int .i64 n] [ro A (ints mod), ro Ae (ints mod2)] (isV (.int .i64 4)) := by
  have hl8 := hF.short
  have hl82 := hE.short
  have hc1 := chkF_zero hF.out
  have hc2 := chkF_zero hE.out
  have hm1 := hF.m1
  refine pure_of (args := [.agg #[.int .i64 p, .int .i64 m, .slice A mod.length c], .agg #[.int .i64 p2, .int .i64 m2, .slice Ae mod2.length ce], .int .i64 n]) 29 Tryz.func16 rfl rfl rfl ref_FArgs4_ent ⟨id, id, trivial⟩ (fun w0 => ?_)
  refine tr_seq ?_
  refine tr_region fun _ _ _ => ?_
  refine ef rfl rfl (eBox rfl rfl rfl rfl rfl (fun p0 => ?_)) 
  refine ef rfl rfl (eBox rfl rfl rfl rfl rfl (fun p0a => ?_)) 
  refine pu rfl rfl rfl rfl rfl ?_
  refine tr_seq ?_
  refine tr_seq ?_
  refine tr_region fun _ _ _ => ?_
  refine st rfl rfl rfl rfl (rLdS rfl rfl rfl) ?_
  refine ef rfl rfl (eCallV rfl rfl rfl (ref_fldCheck p m A c mod (by omega)) ⟨rfl, trivial⟩ ?_) 
  iterate 2 refine pu rfl rfl rfl rfl rfl ?_
  refine stg rfl rfl rfl rfl rfl (fun hb => by (have hq := hb; try simp only [zbA] at hq); exact rLdS rfl rfl rfl) ?_
  refine efg rfl rfl rfl rfl rfl (fun hb => by (have hq := hb; try simp only [zbA] at hq); exact eCallV rfl rfl rfl (ref_fldCheck p2 m2 Ae ce mod2 (by omega)) ⟨(evg rfl hb), trivial⟩ ⟨rfl, rfl⟩) ?_
  refine stg rfl rfl rfl rfl rfl (fun hb => by (have hq := hb; try simp only [zbA] at hq); exact rNeq rfl (evg rfl hb) rfl) ?_
  refine st rfl rfl rfl rfl (rOrB rfl rfl rfl rfl) ?_
  refine tr_cond_bool rfl (fun h1 => ?_) (fun h1 => ?_)
  · try simp only [zbA] at h1
    exact absurd h1 (by simp [hc1, hc2]) --done
  · try simp only [zbA] at h1
    refine tr_skip ?_
    refine tr_seq ?_
    refine tr_seq ?_
    refine tr_region fun _ _ _ => ?_
    iterate 3 refine pu rfl rfl rfl rfl rfl ?_
    refine stg rfl rfl rfl rfl rfl (fun hb => by (have hq := hb; try simp only [zbA] at hq); exact rMove rfl rfl) ?_
    refine stg rfl rfl rfl rfl rfl (fun hb => by (have hq := hb; try simp only [zbA] at hq); exact rGtr rfl (evg rfl hb) rfl) ?_
    refine st rfl rfl rfl rfl (rOrB rfl rfl rfl rfl) ?_
    refine tr_cond_bool rfl (fun h3 => ?_) (fun h3 => ?_)
    · try simp only [zbA] at h3
      refine tr_seq ?_
      refine tr_region fun _ _ _ => ?_
      refine pu rfl rfl rfl rfl rfl ?_
      exact tr_ret ⟨trivial, _, _, rfl, ⟨rfl, rfl⟩, CSub.nil _, trivial⟩
    · try simp only [zbA] at h3
      omega --done
theorem ref_FArgs10_ent : Enters Tryz.prog 16 := enters_of Tryz.func16 (by kernel_rfl) (by kernel_rfl)
theorem ref_FArgs10 (p m : Int) (A : Option Addr) (c : Nat) (mod : List Int) [hF : IsF p m mod] (p2 m2 : Int) (Ae : Option Addr) (ce : Nat) (mod2 : List Int) [hE : IsF p2 m2 mod2] (n : Int) (hn1 : 1 ≤ n) (hn64 : n ≤ 64) (hne : ¬ (p = p2 ∧ m2 % m = 0)) :
    Pure Tryz.prog 16 #[.agg #[.int .i64 p, .int .i64 m, .slice A mod.length c], .agg #[.int .i64 p2, .int .i64 m2, .slice Ae mod2.length ce], .int .i64 n] [ro A (ints mod), ro Ae (ints mod2)] (isV (.int .i64 10)) := by
  have hl8 := hF.short
  have hl82 := hE.short
  have hc1 := chkF_zero hF.out
  have hc2 := chkF_zero hE.out
  have hm1 := hF.m1
  refine pure_of (args := [.agg #[.int .i64 p, .int .i64 m, .slice A mod.length c], .agg #[.int .i64 p2, .int .i64 m2, .slice Ae mod2.length ce], .int .i64 n]) 29 Tryz.func16 rfl rfl rfl ref_FArgs10_ent ⟨id, id, trivial⟩ (fun w0 => ?_)
  refine tr_seq ?_
  refine tr_region fun _ _ _ => ?_
  refine ef rfl rfl (eBox rfl rfl rfl rfl rfl (fun p0 => ?_)) 
  refine ef rfl rfl (eBox rfl rfl rfl rfl rfl (fun p0a => ?_)) 
  refine pu rfl rfl rfl rfl rfl ?_
  refine tr_seq ?_
  refine tr_seq ?_
  refine tr_region fun _ _ _ => ?_
  refine st rfl rfl rfl rfl (rLdS rfl rfl rfl) ?_
  refine ef rfl rfl (eCallV rfl rfl rfl (ref_fldCheck p m A c mod (by omega)) ⟨rfl, trivial⟩ ?_) 
  iterate 2 refine pu rfl rfl rfl rfl rfl ?_
  refine stg rfl rfl rfl rfl rfl (fun hb => by (have hq := hb; try simp only [zbA] at hq); exact rLdS rfl rfl rfl) ?_
  refine efg rfl rfl rfl rfl rfl (fun hb => by (have hq := hb; try simp only [zbA] at hq); exact eCallV rfl rfl rfl (ref_fldCheck p2 m2 Ae ce mod2 (by omega)) ⟨(evg rfl hb), trivial⟩ ⟨rfl, rfl⟩) ?_
  refine stg rfl rfl rfl rfl rfl (fun hb => by (have hq := hb; try simp only [zbA] at hq); exact rNeq rfl (evg rfl hb) rfl) ?_
  refine st rfl rfl rfl rfl (rOrB rfl rfl rfl rfl) ?_
  refine tr_cond_bool rfl (fun h1 => ?_) (fun h1 => ?_)
  · try simp only [zbA] at h1
    exact absurd h1 (by simp [hc1, hc2]) --done
  · try simp only [zbA] at h1
    refine tr_skip ?_
    refine tr_seq ?_
    refine tr_seq ?_
    refine tr_region fun _ _ _ => ?_
    iterate 3 refine pu rfl rfl rfl rfl rfl ?_
    refine stg rfl rfl rfl rfl rfl (fun hb => by (have hq := hb; try simp only [zbA] at hq); exact rMove rfl rfl) ?_
    refine stg rfl rfl rfl rfl rfl (fun hb => by (have hq := hb; try simp only [zbA] at hq); exact rGtr rfl (evg rfl hb) rfl) ?_
    refine st rfl rfl rfl rfl (rOrB rfl rfl rfl rfl) ?_
    refine tr_cond_bool rfl (fun h3 => ?_) (fun h3 => ?_)
    · try simp only [zbA] at h3
      omega --done
    · try simp only [zbA] at h3
      refine tr_skip ?_
      refine tr_seq ?_
      refine tr_seq ?_
      refine tr_region fun _ _ _ => ?_
      refine st rfl rfl rfl rfl (rLdS rfl rfl rfl) ?_
      refine st rfl rfl rfl rfl (rLdS rfl rfl rfl) ?_
      refine ef rfl rfl (eCallV rfl rfl rfl (ref_Over p m A c mod hm1 p2 m2 Ae ce mod2 hE.m1) ⟨rfl, rfl, trivial⟩ ?_) 
      refine st rfl rfl rfl rfl (rNotB rfl rfl) ?_
      refine tr_cond_bool rfl (fun h5 => ?_) (fun h5 => ?_)
      · try simp only [zbA] at h5
        refine tr_seq ?_
        refine tr_region fun _ _ _ => ?_
        refine pu rfl rfl rfl rfl rfl ?_
        exact tr_ret ⟨trivial, _, _, rfl, ⟨rfl, rfl⟩, CSub.nil _, trivial⟩
      · try simp only [zbA] at h5
        exact absurd (by simpa using h5) hne --done
theorem ref_FArgsG_ent : Enters Tryz.prog 16 := enters_of Tryz.func16 (by kernel_rfl) (by kernel_rfl)
theorem ref_FArgsG (p m : Int) (A : Option Addr) (c : Nat) (mod : List Int) [hF : IsF p m mod] (m2 : Int) (Ae : Option Addr) (ce : Nat) (mod2 : List Int) [hE : IsF p m2 mod2] (hd : m2 % m = 0) (n : Int) (hn1 : 1 ≤ n) (hn64 : n ≤ 64) :
    Pure Tryz.prog 16 #[.agg #[.int .i64 p, .int .i64 m, .slice A mod.length c], .agg #[.int .i64 p, .int .i64 m2, .slice Ae mod2.length ce], .int .i64 n] [ro A (ints mod), ro Ae (ints mod2)] (isV (.int .i64 (if rootI p m2 mod2 n = 0 then 11 else 0))) := by
  have hl8 := hF.short
  have hl82 := hE.short
  have hc1 := chkF_zero hF.out
  have hc2 := chkF_zero hE.out
  have hm1 := hF.m1
  refine pure_of (args := [.agg #[.int .i64 p, .int .i64 m, .slice A mod.length c], .agg #[.int .i64 p, .int .i64 m2, .slice Ae mod2.length ce], .int .i64 n]) 29 Tryz.func16 rfl rfl rfl ref_FArgsG_ent ⟨id, id, trivial⟩ (fun w0 => ?_)
  refine tr_seq ?_
  refine tr_region fun _ _ _ => ?_
  refine ef rfl rfl (eBox rfl rfl rfl rfl rfl (fun p0 => ?_)) 
  refine ef rfl rfl (eBox rfl rfl rfl rfl rfl (fun p0a => ?_)) 
  refine pu rfl rfl rfl rfl rfl ?_
  refine tr_seq ?_
  refine tr_seq ?_
  refine tr_region fun _ _ _ => ?_
  refine st rfl rfl rfl rfl (rLdS rfl rfl rfl) ?_
  refine ef rfl rfl (eCallV rfl rfl rfl (ref_fldCheck p m A c mod (by omega)) ⟨rfl, trivial⟩ ?_) 
  iterate 2 refine pu rfl rfl rfl rfl rfl ?_
  refine stg rfl rfl rfl rfl rfl (fun hb => by (have hq := hb; try simp only [zbA] at hq); exact rLdS rfl rfl rfl) ?_
  refine efg rfl rfl rfl rfl rfl (fun hb => by (have hq := hb; try simp only [zbA] at hq); exact eCallV rfl rfl rfl (ref_fldCheck p m2 Ae ce mod2 (by omega)) ⟨(evg rfl hb), trivial⟩ ⟨rfl, rfl⟩) ?_
  refine stg rfl rfl rfl rfl rfl (fun hb => by (have hq := hb; try simp only [zbA] at hq); exact rNeq rfl (evg rfl hb) rfl) ?_
  refine st rfl rfl rfl rfl (rOrB rfl rfl rfl rfl) ?_
  refine tr_cond_bool rfl (fun h1 => ?_) (fun h1 => ?_)
  · try simp only [zbA] at h1
    exact absurd h1 (by simp [hc1, hc2]) --done
  · try simp only [zbA] at h1
    refine tr_skip ?_
    refine tr_seq ?_
    refine tr_seq ?_
    refine tr_region fun _ _ _ => ?_
    iterate 3 refine pu rfl rfl rfl rfl rfl ?_
    refine stg rfl rfl rfl rfl rfl (fun hb => by (have hq := hb; try simp only [zbA] at hq); exact rMove rfl rfl) ?_
    refine stg rfl rfl rfl rfl rfl (fun hb => by (have hq := hb; try simp only [zbA] at hq); exact rGtr rfl (evg rfl hb) rfl) ?_
    refine st rfl rfl rfl rfl (rOrB rfl rfl rfl rfl) ?_
    refine tr_cond_bool rfl (fun h3 => ?_) (fun h3 => ?_)
    · try simp only [zbA] at h3
      omega --done
    · try simp only [zbA] at h3
      refine tr_skip ?_
      refine tr_seq ?_
      refine tr_seq ?_
      refine tr_region fun _ _ _ => ?_
      refine st rfl rfl rfl rfl (rLdS rfl rfl rfl) ?_
      refine st rfl rfl rfl rfl (rLdS rfl rfl rfl) ?_
      refine ef rfl rfl (eCallV rfl rfl rfl (ref_Over p m A c mod hm1 p m2 Ae ce mod2 hE.m1) ⟨rfl, rfl, trivial⟩ ?_) 
      refine st rfl rfl rfl rfl (rNotB rfl rfl) ?_
      refine tr_cond_bool rfl (fun h5 => ?_) (fun h5 => ?_)
      · try simp only [zbA] at h5
        exact absurd h5 (by simp [hd]) --done
      · try simp only [zbA] at h5
        refine tr_skip ?_
        refine tr_seq ?_
        refine tr_seq ?_
        refine tr_region fun _ _ _ => ?_
        refine st rfl rfl rfl rfl (rLdS rfl rfl rfl) ?_
        refine pu rfl rfl rfl rfl rfl ?_
        refine ef rfl rfl (eCallV rfl rfl rfl (ref_Root p m2 Ae ce mod2 hE.out n) ⟨rfl, rfl, trivial⟩ ?_) 
        refine pu rfl rfl rfl rfl rfl ?_
        refine tr_cond_bool rfl (fun h7 => ?_) (fun h7 => ?_)
        · try simp only [zbA] at h7
          refine tr_seq ?_
          refine tr_region fun _ _ _ => ?_
          refine pu rfl rfl rfl rfl rfl ?_
          exact tr_ret ⟨trivial, _, _, rfl, ⟨by rw [if_pos (by omega)], rfl⟩, CSub.nil _, trivial⟩
        · try simp only [zbA] at h7
          refine tr_skip ?_
          refine tr_seq ?_
          refine tr_region fun _ _ _ => ?_
          refine pu rfl rfl rfl rfl rfl ?_
          exact tr_ret ⟨trivial, _, _, rfl, ⟨by rw [if_neg (by omega)], rfl⟩, CSub.nil _, trivial⟩
theorem law17_none_ent : Enters Tryz.prog 18 := enters_of Tryz.func18 (by kernel_rfl) (by kernel_rfl)
theorem law17_none  :
    Pure Tryz.prog 18 #[.agg #[.int .i64 0, .int .i64 0, .slice none 0 0, .int .i64 0, .slice none 0 0]] [] (isV (.bool true)) := by
  refine pure_of (args := [.agg #[.int .i64 0, .int .i64 0, .slice none 0 0, .int .i64 0, .slice none 0 0]]) 12 Tryz.func18 rfl rfl rfl law17_none_ent trivial (fun w0 => ?_)
  refine tr_seq ?_
  refine tr_region fun _ _ _ => ?_
  refine ef rfl rfl (eBox rfl rfl rfl rfl rfl (fun p0 => ?_)) 
  refine pu rfl rfl rfl rfl rfl ?_
  refine tr_seq ?_
  refine tr_region fun _ _ _ => ?_
  refine st rfl rfl rfl rfl (rFld rfl rfl) ?_
  refine st rfl rfl rfl rfl (rLdF rfl rfl rfl) ?_
  iterate 2 refine pu rfl rfl rfl rfl rfl ?_
  refine stg rfl rfl rfl rfl rfl (fun hb => by (have hq := hb; try simp only [zbA] at hq); exact rFld rfl rfl) ?_
  refine stg rfl rfl rfl rfl rfl (fun hb => by (have hq := hb; try simp only [zbA] at hq); exact rLdF rfl (evg rfl hb) rfl) ?_
  refine stg rfl rfl rfl rfl rfl (fun hb => by (have hq := hb; try simp only [zbA] at hq); exact rLen rfl (evg rfl hb)) ?_
  refine stg rfl rfl rfl rfl rfl (fun hb => by (have hq := hb; try simp only [zbA] at hq); exact rEql rfl (evg rfl hb) rfl) ?_
  refine st rfl rfl rfl rfl (rAndB rfl rfl rfl rfl) ?_
  refine pu rfl rfl rfl rfl rfl ?_
  exact tr_ret ⟨trivial, _, _, rfl, ⟨rfl, rfl⟩, CSub.nil _, trivial⟩
end Go.Proofs.YtgnmcoegdogfgaaGreat

set_option linter.unusedSimpArgs false
set_option linter.unusedVariables false
set_option maxRecDepth 100000
namespace Go.Proofs.YtgnmcoegdogfgaaGreat
open Go.RowKit
def consL (b d : Int) : List Int := (List.range (d - 1).toNat).map fun j : Nat => b + j
theorem consL_length (b d : Int) : (consL b d).length = (d - 1).toNat := by simp [consL]
theorem consL_take (b d : Int) {k : Nat} (hk : k < (d - 1).toNat) : (consL b d).take (k + 1) = (consL b d).take k ++ [b + k] := by
  rw [List.take_add_one, List.getElem?_eq_getElem (by rw [consL_length]; exact hk)]
  congr 1
  simp [consL]
theorem ref_Cons_ent : Enters Tryz.prog 21 := enters_of Tryz.func21 (by kernel_rfl) (by kernel_rfl)
theorem ref_Cons (b d : Int) (hb0 : 0 ≤ b) (hb1 : b ≤ 64) (hd0 : 1 ≤ d) (hd1 : d ≤ 65) :
    Pure Tryz.prog 21 #[.int .i64 b, .int .i64 d] [] (one (fun v ch => ∃ B cb, v = .slice B (consL b d).length cb ∧ ch = ow B 3 cb (ints (consL b d)))) := by
  have hcl := consL_length b d
  refine pure_of (args := [.int .i64 b, .int .i64 d]) 21 Tryz.func21 rfl rfl rfl ref_Cons_ent trivial (fun w0 => ?_)
  refine tr_seq ?_
  refine tr_region fun _ _ _ => ?_
  refine pu rfl rfl rfl rfl rfl ?_
  refine tr_seq ?_
  refine tr_region fun _ _ _ => ?_
  refine pu rfl rfl rfl rfl rfl ?_
  refine tr_seq ?_
  refine tr_seq ?_
  refine tr_region fun _ _ _ => ?_
  iterate 2 refine pu rfl rfl rfl rfl rfl ?_
  refine tr_block ?_
  refine tr_nilI 3 ?_
  refine tr_loop4 (fun (x : Int) (D : Option Addr) (cd : Nat) (ls : List Int) => [(5, .slice D ls.length cd), (6, .int .i64 x), (0, .int .i64 b), (1, .int .i64 d), (4, .slice none 0 0)]) (fun (x : Int) (D : Option Addr) (cd : Nat) (ls : List Int) => [ow D 3 cd (ints ls)]) (fun (x : Int) (D : Option Addr) (cd : Nat) (ls : List Int) => (b ≤ x ∧ x ≤ b + d - 1) ∧ ls = (consL b d).take (x - b).toNat) (fun (x : Int) (D : Option Addr) (cd : Nat) (ls : List Int) => (b + d - 1 - x).toNat) (b) (none) (0) ([]) ⟨rfl, rfl, rfl, rfl, rfl, trivial⟩ (by first | exact cs _ _ | exact CSub.refl _) (⟨⟨by omega, by omega⟩, by simp⟩) (fun x D cd ls hI => ?_)
  obtain ⟨⟨hk0, hk1⟩, hls⟩ := hI
  have hll : ls.length ≤ 65 := by rw [hls, List.length_take]; omega
  refine tr_seq ?_
  refine tr_seq ?_
  refine tr_region fun _ _ _ => ?_
  iterate 3 refine pu rfl rfl rfl rfl rfl ?_
  refine st rfl rfl rfl rfl (rAdd rfl rfl rfl (by omega) (by omega)) ?_
  refine st rfl rfl rfl rfl (rSub rfl rfl rfl (by omega) (by omega)) ?_
  refine pu rfl rfl rfl rfl rfl ?_
  refine tr_cond_bool rfl (fun h3 => ?_) (fun h3 => ?_)
  · try simp only [zbA] at h3
    refine tr_skip ?_
    refine tr_seq ?_
    refine tr_block ?_
    refine tr_region fun _ _ _ => ?_
    iterate 2 refine pu rfl rfl rfl rfl rfl ?_
    refine ef rfl rfl (eLit1I rfl rfl rfl rfl (fun A5 => ?_)) 
    refine ef rfl rfl (eAppI rfl rfl rfl rfl rfl (by first | rfl | simp | omega) (by first | rfl | simp | omega) (by first | omega | (simp; omega)) (fun A5a c5a => ?_)) 
    refine pu rfl rfl rfl rfl rfl ?_
    refine tr_region fun _ _ _ => ?_
    refine pu rfl rfl rfl rfl rfl ?_
    refine st rfl rfl rfl rfl (rAdd rfl rfl rfl (by omega) (by omega)) ?_
    refine pu rfl rfl rfl rfl rfl ?_
    refine ⟨x + 1, A5a, c5a, ls ++ [x], ⟨rfl, rfl, rfl, rfl, rfl, trivial⟩, by first | exact cs _ _ | exact CSub.refl _, ?_⟩
    refine ⟨⟨⟨by omega, by omega⟩, ?_⟩, by omega⟩
    rw [show (x + 1 - b).toNat = (x - b).toNat + 1 by omega, consL_take b d (by omega), hls, show b + ((x - b).toNat : Int) = x by omega]
  · try simp only [zbA] at h3
    refine tr_exit ?_
    refine tr_seq ?_
    refine tr_region fun _ _ _ => ?_
    iterate 2 refine pu rfl rfl rfl rfl rfl ?_
    have hkc : (consL b d).take (x - b).toNat = consL b d := List.take_of_length_le (by omega)
    rw [hkc] at hls
    rw [hls]
    exact tr_ret ⟨trivial, _, _, rfl, ⟨_, rfl, D, cd, rfl, rfl⟩, cs _ _, trivial, trivial⟩
theorem bch_NewF_ent : Enters Tryz.prog 17 := enters_of Tryz.func17 (by kernel_rfl) (by kernel_rfl)
theorem bch_NewF (p m : Int) (A : Option Addr) (c : Nat) (mod : List Int) (hl9 : mod.length ≤ 17592186044415) (hF : ¬ FldR p m mod) (p2 m2 : Int) (Ae : Option Addr) (ce : Nat) (mod2 : List Int) (n b d : Int) :
    Pure Tryz.prog 17 #[.agg #[.int .i64 p, .int .i64 m, .slice A mod.length c], .agg #[.int .i64 p2, .int .i64 m2, .slice Ae mod2.length ce], .int .i64 n, .int .i64 b, .int .i64 d] [ro A (ints mod), ro Ae (ints mod2)] (isV (.tuple #[.agg #[.int .i64 0, .int .i64 0, .slice none 0 0, .int .i64 0, .slice none 0 0], .int .i64 1])) := by
  have hch : chkF p m mod = 1 := chkF_no hF
  refine pure_ofC (args := [.agg #[.int .i64 p, .int .i64 m, .slice A mod.length c], .agg #[.int .i64 p2, .int .i64 m2, .slice Ae mod2.length ce], .int .i64 n, .int .i64 b, .int .i64 d]) 75 Tryz.func17 rfl rfl rfl bch_NewF_ent ⟨id, id, trivial⟩ (fun w0 => ?_)
  refine tr_seq ?_
  refine tr_region fun _ _ _ => ?_
  refine ef rfl rfl (eBox rfl rfl rfl rfl rfl (fun p0 => ?_)) 
  refine ef rfl rfl (eBox rfl rfl rfl rfl rfl (fun p0a => ?_)) 
  refine ef rfl rfl (eAlloc rfl rfl rfl (fun p0b => ?_)) 
  refine pu rfl rfl rfl rfl rfl ?_
  refine tr_seq ?_
  refine tr_seq ?_
  refine tr_region fun _ _ _ => ?_
  refine st rfl rfl rfl rfl (rLdS rfl rfl rfl) ?_
  refine ef rfl rfl (eCallV rfl rfl rfl (fld_Check _ _ _ _ _ (by omega)) ⟨rfl, trivial⟩ ?_) 
  refine pu rfl rfl rfl rfl rfl ?_
  refine tr_seq ?_
  refine tr_region fun _ _ _ => ?_
  iterate 2 refine pu rfl rfl rfl rfl rfl ?_
  refine tr_cond_bool rfl (fun h2 => ?_) (fun h2 => ?_)
  · try simp only [zbA] at h2
    refine tr_seq ?_
    refine tr_region fun _ _ _ => ?_
    refine st rfl rfl rfl rfl (rBuild rfl rfl) ?_
    refine pu rfl rfl rfl rfl rfl ?_
    refine ef rfl rfl (eStS rfl rfl rfl rfl rfl rfl ?_) 
    refine pu rfl rfl rfl rfl rfl ?_
    exact tr_ret ⟨trivial, _, _, (.cell rfl (cellS rfl) (.tmp rfl .nil)), ⟨by rw [hch]; rfl, rfl⟩, CSub.nil _, trivial⟩
  · try simp only [zbA] at h2
    omega --done
theorem bch_NewN_ent : Enters Tryz.prog 17 := enters_of Tryz.func17 (by kernel_rfl) (by kernel_rfl)
theorem bch_NewN (p m : Int) (A : Option Addr) (c : Nat) (mod : List Int) [hF : IsF p m mod] (p2 m2 : Int) (Ae : Option Addr) (ce : Nat) (mod2 : List Int) (hl92 : mod2.length ≤ 17592186044415) (hE : ¬ FldR p2 m2 mod2) (n b d : Int) :
    Pure Tryz.prog 17 #[.agg #[.int .i64 p, .int .i64 m, .slice A mod.length c], .agg #[.int .i64 p2, .int .i64 m2, .slice Ae mod2.length ce], .int .i64 n, .int .i64 b, .int .i64 d] [ro A (ints mod), ro Ae (ints mod2)] (isV (.tuple #[.agg #[.int .i64 0, .int .i64 0, .slice none 0 0, .int .i64 0, .slice none 0 0], .int .i64 1])) := by
  have hl8 := hF.short
  refine pure_ofC (args := [.agg #[.int .i64 p, .int .i64 m, .slice A mod.length c], .agg #[.int .i64 p2, .int .i64 m2, .slice Ae mod2.length ce], .int .i64 n, .int .i64 b, .int .i64 d]) 75 Tryz.func17 rfl rfl rfl bch_NewN_ent ⟨id, id, trivial⟩ (fun w0 => ?_)
  refine tr_seq ?_
  refine tr_region fun _ _ _ => ?_
  refine ef rfl rfl (eBox rfl rfl rfl rfl rfl (fun p0 => ?_)) 
  refine ef rfl rfl (eBox rfl rfl rfl rfl rfl (fun p0a => ?_)) 
  refine ef rfl rfl (eAlloc rfl rfl rfl (fun p0b => ?_)) 
  refine pu rfl rfl rfl rfl rfl ?_
  refine tr_seq ?_
  refine tr_seq ?_
  refine tr_region fun _ _ _ => ?_
  refine st rfl rfl rfl rfl (rLdS rfl rfl rfl) ?_
  refine ef rfl rfl (eCallV rfl rfl rfl (fld_Check _ _ _ _ _ (by omega)) ⟨rfl, trivial⟩ ?_) 
  refine pu rfl rfl rfl rfl rfl ?_
  refine tr_seq ?_
  refine tr_region fun _ _ _ => ?_
  iterate 2 refine pu rfl rfl rfl rfl rfl ?_
  refine tr_cond_bool rfl (fun h2 => ?_) (fun h2 => ?_)
  · try simp only [zbA] at h2
    exact absurd (chkF_zero hF.out) (by omega) --done
  · try simp only [zbA] at h2
    refine tr_skip ?_
    refine tr_seq ?_
    refine tr_seq ?_
    refine tr_region fun _ _ _ => ?_
    refine st rfl rfl rfl rfl (rLdS rfl rfl rfl) ?_
    refine st rfl rfl rfl rfl (rLdS rfl rfl rfl) ?_
    refine pu rfl rfl rfl rfl rfl ?_
    refine ef rfl rfl (eCallV rfl rfl rfl (bch_extN p m A c mod p2 m2 Ae ce mod2 hl92 hE n) ⟨rfl, rfl, rfl, trivial⟩ ?_) 
    iterate 9 refine pu rfl rfl rfl rfl rfl ?_
    refine tr_seq ?_
    refine tr_region fun _ _ _ => ?_
    iterate 2 refine pu rfl rfl rfl rfl rfl ?_
    refine tr_cond_bool rfl (fun h5 => ?_) (fun h5 => ?_)
    · try simp only [zbA] at h5
      refine tr_seq ?_
      refine tr_region fun _ _ _ => ?_
      refine st rfl rfl rfl rfl (rBuild rfl rfl) ?_
      refine pu rfl rfl rfl rfl rfl ?_
      refine ef rfl rfl (eStS rfl rfl rfl rfl rfl rfl ?_) 
      refine pu rfl rfl rfl rfl rfl ?_
      exact tr_ret ⟨trivial, _, _, (.cell rfl (cellS rfl) (.tmp rfl .nil)), ⟨rfl, rfl⟩, CSub.nil _, trivial⟩
    · try simp only [zbA] at h5
      first | exact absurd trivial h5 | exact absurd rfl h5 | omega | (exact absurd h5 (by simp)) --done
theorem bch_NewL_ent : Enters Tryz.prog 17 := enters_of Tryz.func17 (by kernel_rfl) (by kernel_rfl)
theorem bch_NewL (p m : Int) (A : Option Addr) (c : Nat) (mod : List Int) [hF : IsF p m mod] (p2 m2 : Int) (Ae : Option Addr) (ce : Nat) (mod2 : List Int) [hE : IsF p2 m2 mod2] (n b d : Int) (hb : n < 1 ∨ n > 64) :
    Pure Tryz.prog 17 #[.agg #[.int .i64 p, .int .i64 m, .slice A mod.length c], .agg #[.int .i64 p2, .int .i64 m2, .slice Ae mod2.length ce], .int .i64 n, .int .i64 b, .int .i64 d] [ro A (ints mod), ro Ae (ints mod2)] (isV (.tuple #[.agg #[.int .i64 0, .int .i64 0, .slice none 0 0, .int .i64 0, .slice none 0 0], .int .i64 4])) := by
  have hl8 := hF.short
  refine pure_ofC (args := [.agg #[.int .i64 p, .int .i64 m, .slice A mod.length c], .agg #[.int .i64 p2, .int .i64 m2, .slice Ae mod2.length ce], .int .i64 n, .int .i64 b, .int .i64 d]) 75 Tryz.func17 rfl rfl rfl bch_NewL_ent ⟨id, id, trivial⟩ (fun w0 => ?_)
  refine tr_seq ?_
  refine tr_region fun _ _ _ => ?_
  refine ef rfl rfl (eBox rfl rfl rfl rfl rfl (fun p0 => ?_)) 
  refine ef rfl rfl (eBox rfl rfl rfl rfl rfl (fun p0a => ?_)) 
  refine ef rfl rfl (eAlloc rfl rfl rfl (fun p0b => ?_)) 
  refine pu rfl rfl rfl rfl rfl ?_
  refine tr_seq ?_
  refine tr_seq ?_
  refine tr_region fun _ _ _ => ?_
  refine st rfl rfl rfl rfl (rLdS rfl rfl rfl) ?_
  refine ef rfl rfl (eCallV rfl rfl rfl (fld_Check _ _ _ _ _ (by omega)) ⟨rfl, trivial⟩ ?_) 
  refine pu rfl rfl rfl rfl rfl ?_
  refine tr_seq ?_
  refine tr_region fun _ _ _ => ?_
  iterate 2 refine pu rfl rfl rfl rfl rfl ?_
  refine tr_cond_bool rfl (fun h2 => ?_) (fun h2 => ?_)
  · try simp only [zbA] at h2
    exact absurd (chkF_zero hF.out) (by omega) --done
  · try simp only [zbA] at h2
    refine tr_skip ?_
    refine tr_seq ?_
    refine tr_seq ?_
    refine tr_region fun _ _ _ => ?_
    refine st rfl rfl rfl rfl (rLdS rfl rfl rfl) ?_
    refine st rfl rfl rfl rfl (rLdS rfl rfl rfl) ?_
    refine pu rfl rfl rfl rfl rfl ?_
    refine ef rfl rfl (eCallV rfl rfl rfl (bch_extL p m A c mod p2 m2 Ae ce mod2 n hb) ⟨rfl, rfl, rfl, trivial⟩ ?_) 
    iterate 9 refine pu rfl rfl rfl rfl rfl ?_
    refine tr_seq ?_
    refine tr_region fun _ _ _ => ?_
    iterate 2 refine pu rfl rfl rfl rfl rfl ?_
    refine tr_cond_bool rfl (fun h5 => ?_) (fun h5 => ?_)
    · try simp only [zbA] at h5
      refine tr_seq ?_
      refine tr_region fun _ _ _ => ?_
      refine st rfl rfl rfl rfl (rBuild rfl rfl) ?_
      refine pu rfl rfl rfl rfl rfl ?_
      refine ef rfl rfl (eStS rfl rfl rfl rfl rfl rfl ?_) 
      refine pu rfl rfl rfl rfl rfl ?_
      exact tr_ret ⟨trivial, _, _, (.cell rfl (cellS rfl) (.tmp rfl .nil)), ⟨rfl, rfl⟩, CSub.nil _, trivial⟩
    · try simp only [zbA] at h5
      first | exact absurd trivial h5 | exact absurd rfl h5 | omega | (exact absurd h5 (by simp)) --done
theorem bch_NewP_ent : Enters Tryz.prog 17 := enters_of Tryz.func17 (by kernel_rfl) (by kernel_rfl)
theorem bch_NewP (p m : Int) (A : Option Addr) (c : Nat) (mod : List Int) [hF : IsF p m mod] (p2 m2 : Int) (Ae : Option Addr) (ce : Nat) (mod2 : List Int) [hE : IsF p2 m2 mod2] (hne : p ≠ p2) (n b d : Int) (hn1 : 1 ≤ n) (hn64 : n ≤ 64) :
    Pure Tryz.prog 17 #[.agg #[.int .i64 p, .int .i64 m, .slice A mod.length c], .agg #[.int .i64 p2, .int .i64 m2, .slice Ae mod2.length ce], .int .i64 n, .int .i64 b, .int .i64 d] [ro A (ints mod), ro Ae (ints mod2)] (isV (.tuple #[.agg #[.int .i64 0, .int .i64 0, .slice none 0 0, .int .i64 0, .slice none 0 0], .int .i64 10])) := by
  have hl8 := hF.short
  refine pure_ofC (args := [.agg #[.int .i64 p, .int .i64 m, .slice A mod.length c], .agg #[.int .i64 p2, .int .i64 m2, .slice Ae mod2.length ce], .int .i64 n, .int .i64 b, .int .i64 d]) 75 Tryz.func17 rfl rfl rfl bch_NewP_ent ⟨id, id, trivial⟩ (fun w0 => ?_)
  refine tr_seq ?_
  refine tr_region fun _ _ _ => ?_
  refine ef rfl rfl (eBox rfl rfl rfl rfl rfl (fun p0 => ?_)) 
  refine ef rfl rfl (eBox rfl rfl rfl rfl rfl (fun p0a => ?_)) 
  refine ef rfl rfl (eAlloc rfl rfl rfl (fun p0b => ?_)) 
  refine pu rfl rfl rfl rfl rfl ?_
  refine tr_seq ?_
  refine tr_seq ?_
  refine tr_region fun _ _ _ => ?_
  refine st rfl rfl rfl rfl (rLdS rfl rfl rfl) ?_
  refine ef rfl rfl (eCallV rfl rfl rfl (fld_Check _ _ _ _ _ (by omega)) ⟨rfl, trivial⟩ ?_) 
  refine pu rfl rfl rfl rfl rfl ?_
  refine tr_seq ?_
  refine tr_region fun _ _ _ => ?_
  iterate 2 refine pu rfl rfl rfl rfl rfl ?_
  refine tr_cond_bool rfl (fun h2 => ?_) (fun h2 => ?_)
  · try simp only [zbA] at h2
    exact absurd (chkF_zero hF.out) (by omega) --done
  · try simp only [zbA] at h2
    refine tr_skip ?_
    refine tr_seq ?_
    refine tr_seq ?_
    refine tr_region fun _ _ _ => ?_
    refine st rfl rfl rfl rfl (rLdS rfl rfl rfl) ?_
    refine st rfl rfl rfl rfl (rLdS rfl rfl rfl) ?_
    refine pu rfl rfl rfl rfl rfl ?_
    refine ef rfl rfl (eCallV rfl rfl rfl (bch_extP p m A c mod p2 m2 Ae ce mod2 hne n hn1 hn64) ⟨rfl, rfl, rfl, trivial⟩ ?_) 
    iterate 9 refine pu rfl rfl rfl rfl rfl ?_
    refine tr_seq ?_
    refine tr_region fun _ _ _ => ?_
    iterate 2 refine pu rfl rfl rfl rfl rfl ?_
    refine tr_cond_bool rfl (fun h5 => ?_) (fun h5 => ?_)
    · try simp only [zbA] at h5
      refine tr_seq ?_
      refine tr_region fun _ _ _ => ?_
      refine st rfl rfl rfl rfl (rBuild rfl rfl) ?_
      refine pu rfl rfl rfl rfl rfl ?_
      refine ef rfl rfl (eStS rfl rfl rfl rfl rfl rfl ?_) 
      refine pu rfl rfl rfl rfl rfl ?_
      exact tr_ret ⟨trivial, _, _, (.cell rfl (cellS rfl) (.tmp rfl .nil)), ⟨rfl, rfl⟩, CSub.nil _, trivial⟩
    · try simp only [zbA] at h5
      first | exact absurd trivial h5 | exact absurd rfl h5 | omega | (exact absurd h5 (by simp)) --done
theorem bch_NewD_ent : Enters Tryz.prog 17 := enters_of Tryz.func17 (by kernel_rfl) (by kernel_rfl)
theorem bch_NewD (p m : Int) (A : Option Addr) (c : Nat) (mod : List Int) [hF : IsF p m mod] (p2 m2 : Int) (Ae : Option Addr) (ce : Nat) (mod2 : List Int) [hE : IsF p2 m2 mod2] (hpp : p = p2) (hne : m2 % m ≠ 0) (n b d : Int) (hn1 : 1 ≤ n) (hn64 : n ≤ 64) :
    Pure Tryz.prog 17 #[.agg #[.int .i64 p, .int .i64 m, .slice A mod.length c], .agg #[.int .i64 p2, .int .i64 m2, .slice Ae mod2.length ce], .int .i64 n, .int .i64 b, .int .i64 d] [ro A (ints mod), ro Ae (ints mod2)] (isV (.tuple #[.agg #[.int .i64 0, .int .i64 0, .slice none 0 0, .int .i64 0, .slice none 0 0], .int .i64 10])) := by
  have hl8 := hF.short
  refine pure_ofC (args := [.agg #[.int .i64 p, .int .i64 m, .slice A mod.length c], .agg #[.int .i64 p2, .int .i64 m2, .slice Ae mod2.length ce], .int .i64 n, .int .i64 b, .int .i64 d]) 75 Tryz.func17 rfl rfl rfl bch_NewD_ent ⟨id, id, trivial⟩ (fun w0 => ?_)
  refine tr_seq ?_
  refine tr_region fun _ _ _ => ?_
  refine ef rfl rfl (eBox rfl rfl rfl rfl rfl (fun p0 => ?_)) 
  refine ef rfl rfl (eBox rfl rfl rfl rfl rfl (fun p0a => ?_)) 
  refine ef rfl rfl (eAlloc rfl rfl rfl (fun p0b => ?_)) 
  refine pu rfl rfl rfl rfl rfl ?_
  refine tr_seq ?_
  refine tr_seq ?_
  refine tr_region fun _ _ _ => ?_
  refine st rfl rfl rfl rfl (rLdS rfl rfl rfl) ?_
  refine ef rfl rfl (eCallV rfl rfl rfl (fld_Check _ _ _ _ _ (by omega)) ⟨rfl, trivial⟩ ?_) 
  refine pu rfl rfl rfl rfl rfl ?_
  refine tr_seq ?_
  refine tr_region fun _ _ _ => ?_
  iterate 2 refine pu rfl rfl rfl rfl rfl ?_
  refine tr_cond_bool rfl (fun h2 => ?_) (fun h2 => ?_)
  · try simp only [zbA] at h2
    exact absurd (chkF_zero hF.out) (by omega) --done
  · try simp only [zbA] at h2
    refine tr_skip ?_
    refine tr_seq ?_
    refine tr_seq ?_
    refine tr_region fun _ _ _ => ?_
    refine st rfl rfl rfl rfl (rLdS rfl rfl rfl) ?_
    refine st rfl rfl rfl rfl (rLdS rfl rfl rfl) ?_
    refine pu rfl rfl rfl rfl rfl ?_
    refine ef rfl rfl (eCallV rfl rfl rfl (bch_extD p m A c mod p2 m2 Ae ce mod2 hpp hne n hn1 hn64) ⟨rfl, rfl, rfl, trivial⟩ ?_) 
    iterate 9 refine pu rfl rfl rfl rfl rfl ?_
    refine tr_seq ?_
    refine tr_region fun _ _ _ => ?_
    iterate 2 refine pu rfl rfl rfl rfl rfl ?_
    refine tr_cond_bool rfl (fun h5 => ?_) (fun h5 => ?_)
    · try simp only [zbA] at h5
      refine tr_seq ?_
      refine tr_region fun _ _ _ => ?_
      refine st rfl rfl rfl rfl (rBuild rfl rfl) ?_
      refine pu rfl rfl rfl rfl rfl ?_
      refine ef rfl rfl (eStS rfl rfl rfl rfl rfl rfl ?_) 
      refine pu rfl rfl rfl rfl rfl ?_
      exact tr_ret ⟨trivial, _, _, (.cell rfl (cellS rfl) (.tmp rfl .nil)), ⟨rfl, rfl⟩, CSub.nil _, trivial⟩
    · try simp only [zbA] at h5
      first | exact absurd trivial h5 | exact absurd rfl h5 | omega | (exact absurd h5 (by simp)) --done
theorem bch_NewR_ent : Enters Tryz.prog 17 := enters_of Tryz.func17 (by kernel_rfl) (by kernel_rfl)
theorem bch_NewR (p m : Int) (A : Option Addr) (c : Nat) (mod : List Int) [hF : IsF p m mod] (m2 : Int) (Ae : Option Addr) (ce : Nat) (mod2 : List Int) [hE : IsF p m2 mod2] (hd : m2 % m = 0) (n b d : Int) (hn1 : 1 ≤ n) (hn64 : n ≤ 64) (hr : rootI p m2 mod2 n = 0) :
    Pure Tryz.prog 17 #[.agg #[.int .i64 p, .int .i64 m, .slice A mod.length c], .agg #[.int .i64 p, .int .i64 m2, .slice Ae mod2.length ce], .int .i64 n, .int .i64 b, .int .i64 d] [ro A (ints mod), ro Ae (ints mod2)] (isV (.tuple #[.agg #[.int .i64 0, .int .i64 0, .slice none 0 0, .int .i64 0, .slice none 0 0], .int .i64 11])) := by
  have hl8 := hF.short
  have hra : rootArgs p m2 mod2 n = 11 := by rw [rootArgs_is hE.out hn1 hn64, if_pos hr]
  refine pure_ofC (args := [.agg #[.int .i64 p, .int .i64 m, .slice A mod.length c], .agg #[.int .i64 p, .int .i64 m2, .slice Ae mod2.length ce], .int .i64 n, .int .i64 b, .int .i64 d]) 75 Tryz.func17 rfl rfl rfl bch_NewR_ent ⟨id, id, trivial⟩ (fun w0 => ?_)
  refine tr_seq ?_
  refine tr_region fun _ _ _ => ?_
  refine ef rfl rfl (eBox rfl rfl rfl rfl rfl (fun p0 => ?_)) 
  refine ef rfl rfl (eBox rfl rfl rfl rfl rfl (fun p0a => ?_)) 
  refine ef rfl rfl (eAlloc rfl rfl rfl (fun p0b => ?_)) 
  refine pu rfl rfl rfl rfl rfl ?_
  refine tr_seq ?_
  refine tr_seq ?_
  refine tr_region fun _ _ _ => ?_
  refine st rfl rfl rfl rfl (rLdS rfl rfl rfl) ?_
  refine ef rfl rfl (eCallV rfl rfl rfl (fld_Check _ _ _ _ _ (by omega)) ⟨rfl, trivial⟩ ?_) 
  refine pu rfl rfl rfl rfl rfl ?_
  refine tr_seq ?_
  refine tr_region fun _ _ _ => ?_
  iterate 2 refine pu rfl rfl rfl rfl rfl ?_
  refine tr_cond_bool rfl (fun h2 => ?_) (fun h2 => ?_)
  · try simp only [zbA] at h2
    exact absurd (chkF_zero hF.out) (by omega) --done
  · try simp only [zbA] at h2
    refine tr_skip ?_
    refine tr_seq ?_
    refine tr_seq ?_
    refine tr_region fun _ _ _ => ?_
    refine st rfl rfl rfl rfl (rLdS rfl rfl rfl) ?_
    refine st rfl rfl rfl rfl (rLdS rfl rfl rfl) ?_
    refine pu rfl rfl rfl rfl rfl ?_
    refine ef rfl rfl (eCall2 rfl rfl rfl (bch_ext p m A c mod m2 Ae ce mod2 hd n hn1 hn64) ⟨rfl, rfl, rfl, trivial⟩ ?_) 
    rintro _ _ _ ⟨g, B6, rfl, rfl, rfl, hg⟩
    iterate 9 refine pu rfl rfl rfl rfl rfl ?_
    refine tr_seq ?_
    refine tr_region fun _ _ _ => ?_
    iterate 2 refine pu rfl rfl rfl rfl rfl ?_
    refine tr_cond_bool rfl (fun h5 => ?_) (fun h5 => ?_)
    · try simp only [zbA] at h5
      refine tr_seq ?_
      refine tr_region fun _ _ _ => ?_
      refine st rfl rfl rfl rfl (rBuild rfl rfl) ?_
      refine pu rfl rfl rfl rfl rfl ?_
      refine ef rfl rfl (eStS rfl rfl rfl rfl rfl rfl ?_) 
      refine pu rfl rfl rfl rfl rfl ?_
      exact tr_ret ⟨trivial, _, _, (.cell rfl (cellS rfl) (.tmp rfl .nil)), ⟨by rw [hra]; rfl, rfl⟩, CSub.nil _, trivial⟩
    · try simp only [zbA] at h5
      omega --done
theorem bch_NewB_ent : Enters Tryz.prog 17 := enters_of Tryz.func17 (by kernel_rfl) (by kernel_rfl)
theorem bch_NewB (p m : Int) (A : Option Addr) (c : Nat) (mod : List Int) [hF : IsF p m mod] (m2 : Int) (Ae : Option Addr) (ce : Nat) (mod2 : List Int) [hE : IsF p m2 mod2] (hd : m2 % m = 0) (n b d : Int) (hn1 : 1 ≤ n) (hn64 : n ≤ 64) (hr : rootI p m2 mod2 n ≠ 0) (hbd : ((b < 0 ∨ b ≥ n) ∨ d < 1) ∨ d > n + 1) :
    Pure Tryz.prog 17 #[.agg #[.int .i64 p, .int .i64 m, .slice A mod.length c], .agg #[.int .i64 p, .int .i64 m2, .slice Ae mod2.length ce], .int .i64 n, .int .i64 b, .int .i64 d] [ro A (ints mod), ro Ae (ints mod2)] (isV (.tuple #[.agg #[.int .i64 0, .int .i64 0, .slice none 0 0, .int .i64 0, .slice none 0 0], .int .i64 6])) := by
  have hl8 := hF.short
  have hra : rootArgs p m2 mod2 n = 0 := by rw [rootArgs_is hE.out hn1 hn64, if_neg hr]
  refine pure_ofC (args := [.agg #[.int .i64 p, .int .i64 m, .slice A mod.length c], .agg #[.int .i64 p, .int .i64 m2, .slice Ae mod2.length ce], .int .i64 n, .int .i64 b, .int .i64 d]) 75 Tryz.func17 rfl rfl rfl bch_NewB_ent ⟨id, id, trivial⟩ (fun w0 => ?_)
  refine tr_seq ?_
  refine tr_region fun _ _ _ => ?_
  refine ef rfl rfl (eBox rfl rfl rfl rfl rfl (fun p0 => ?_)) 
  refine ef rfl rfl (eBox rfl rfl rfl rfl rfl (fun p0a => ?_)) 
  refine ef rfl rfl (eAlloc rfl rfl rfl (fun p0b => ?_)) 
  refine pu rfl rfl rfl rfl rfl ?_
  refine tr_seq ?_
  refine tr_seq ?_
  refine tr_region fun _ _ _ => ?_
  refine st rfl rfl rfl rfl (rLdS rfl rfl rfl) ?_
  refine ef rfl rfl (eCallV rfl rfl rfl (fld_Check _ _ _ _ _ (by omega)) ⟨rfl, trivial⟩ ?_) 
  refine pu rfl rfl rfl rfl rfl ?_
  refine tr_seq ?_
  refine tr_region fun _ _ _ => ?_
  iterate 2 refine pu rfl rfl rfl rfl rfl ?_
  refine tr_cond_bool rfl (fun h2 => ?_) (fun h2 => ?_)
  · try simp only [zbA] at h2
    exact absurd (chkF_zero hF.out) (by omega) --done
  · try simp only [zbA] at h2
    refine tr_skip ?_
    refine tr_seq ?_
    refine tr_seq ?_
    refine tr_region fun _ _ _ => ?_
    refine st rfl rfl rfl rfl (rLdS rfl rfl rfl) ?_
    refine st rfl rfl rfl rfl (rLdS rfl rfl rfl) ?_
    refine pu rfl rfl rfl rfl rfl ?_
    refine ef rfl rfl (eCall2 rfl rfl rfl (bch_ext p m A c mod m2 Ae ce mod2 hd n hn1 hn64) ⟨rfl, rfl, rfl, trivial⟩ ?_) 
    rintro _ _ _ ⟨g, B6, rfl, rfl, rfl, hg⟩
    iterate 9 refine pu rfl rfl rfl rfl rfl ?_
    refine tr_seq ?_
    refine tr_region fun _ _ _ => ?_
    iterate 2 refine pu rfl rfl rfl rfl rfl ?_
    refine tr_cond_bool rfl (fun h5 => ?_) (fun h5 => ?_)
    · try simp only [zbA] at h5
      omega --done
    · try simp only [zbA] at h5
      refine tr_skip ?_
      refine tr_seq ?_
      refine tr_seq ?_
      refine tr_region fun _ _ _ => ?_
      iterate 3 refine pu rfl rfl rfl rfl rfl ?_
      refine stg rfl rfl rfl rfl rfl (fun hb => by (have hq := hb; try simp only [zbA] at hq); exact rMove rfl rfl) ?_
      refine stg rfl rfl rfl rfl rfl (fun hb => by (have hq := hb; try simp only [zbA] at hq); exact rMove rfl rfl) ?_
      refine stg rfl rfl rfl rfl rfl (fun hb => by (have hq := hb; try simp only [zbA] at hq); exact rGeq rfl (evg rfl hb) (evg rfl hb)) ?_
      refine st rfl rfl rfl rfl (rOrB rfl rfl rfl rfl) ?_
      refine pu rfl rfl rfl rfl rfl ?_
      refine stg rfl rfl rfl rfl rfl (fun hb => by (have hq := hb; try simp only [zbA] at hq); exact rMove rfl rfl) ?_
      refine stg rfl rfl rfl rfl rfl (fun hb => by (have hq := hb; try simp only [zbA] at hq); exact rLss rfl (evg rfl hb) rfl) ?_
      refine st rfl rfl rfl rfl (rOrB rfl rfl rfl rfl) ?_
      refine pu rfl rfl rfl rfl rfl ?_
      refine stg rfl rfl rfl rfl rfl (fun hb => by (have hq := hb; try simp only [zbA] at hq); exact rMove rfl rfl) ?_
      refine stg rfl rfl rfl rfl rfl (fun hb => by (have hq := hb; try simp only [zbA] at hq); exact rMove rfl rfl) ?_
      refine stg rfl rfl rfl rfl rfl (fun hb => by (have hq := hb; try simp only [zbA] at hq); exact rAdd rfl (evg rfl hb) rfl (by omega) (by omega)) ?_
      refine stg rfl rfl rfl rfl rfl (fun hb => by (have hq := hb; try simp only [zbA] at hq); exact rGtr rfl (evg rfl hb) (evg rfl hb)) ?_
      refine st rfl rfl rfl rfl (rOrB rfl rfl rfl rfl) ?_
      refine tr_cond_bool rfl (fun h7 => ?_) (fun h7 => ?_)
      · try simp only [zbA] at h7
        refine tr_seq ?_
        refine tr_region fun _ _ _ => ?_
        refine st rfl rfl rfl rfl (rBuild rfl rfl) ?_
        refine ef rfl rfl (eStS rfl rfl rfl rfl rfl rfl ?_) 
        refine pu rfl rfl rfl rfl rfl ?_
        exact tr_ret ⟨trivial, _, _, (.cell rfl (cellS rfl) (.tmp rfl .nil)), ⟨rfl, rfl⟩, CSub.nil _, trivial⟩
      · try simp only [zbA] at h7
        omega --done
theorem bch_New_ent : Enters Tryz.prog 17 := enters_of Tryz.func17 (by kernel_rfl) (by kernel_rfl)
theorem bch_New (p m : Int) (A : Option Addr) (c : Nat) (mod : List Int) [hF : IsF p m mod] (m2 : Int) (Ae : Option Addr) (ce : Nat) (mod2 : List Int) [hE : IsF p m2 mod2] (hd : m2 % m = 0) (n b d : Int) (hn1 : 1 ≤ n) (hn64 : n ≤ 64) (hr : rootI p m2 mod2 n ≠ 0) (hb0 : 0 ≤ b) (hbn : b < n) (hd0 : 1 ≤ d) (hdn : d ≤ n + 1) :
    Pure Tryz.prog 17 #[.agg #[.int .i64 p, .int .i64 m, .slice A mod.length c], .agg #[.int .i64 p, .int .i64 m2, .slice Ae mod2.length ce], .int .i64 n, .int .i64 b, .int .i64 d] [ro A (ints mod), ro Ae (ints mod2)] (three (fun v ca cb cc => ∃ Bm cm B r3, v = .tuple #[.agg #[.int .i64 p, .int .i64 m, .slice Bm mod.length cm, .int .i64 n, .slice B r3.length r3.length], .int .i64 0] ∧ ca = ow Bm 3 cm (ints mod) ∧ cb = rx B (hdrs r3) ∧ cc = rowsCh 3 r3 ∧ ∃ gK : Po (El p m mod), mapP (phi p m mod m2 mod2) (phi_hm hd) gK = (rootP (clsR (el (rootI p m2 mod2 n) : El p m2 mod2) (clsL (pw p m) n (consL b d)))) ∧ gK ∣ xn1 n.toNat ∧ Po.lead gK = 1 ∧ CdOf p m mod n.toNat r3 (CyW n.toNat gK))) := by
  have hl8 := hF.short
  have hra : rootArgs p m2 mod2 n = 0 := by rw [rootArgs_is hE.out hn1 hn64, if_neg hr]
  have hcl := consL_length b d
  refine pure_ofC (args := [.agg #[.int .i64 p, .int .i64 m, .slice A mod.length c], .agg #[.int .i64 p, .int .i64 m2, .slice Ae mod2.length ce], .int .i64 n, .int .i64 b, .int .i64 d]) 75 Tryz.func17 rfl rfl rfl bch_New_ent ⟨id, id, trivial⟩ (fun w0 => ?_)
  refine tr_seq ?_
  refine tr_region fun _ _ _ => ?_
  refine ef rfl rfl (eBox rfl rfl rfl rfl rfl (fun p0 => ?_)) 
  refine ef rfl rfl (eBox rfl rfl rfl rfl rfl (fun p0a => ?_)) 
  refine ef rfl rfl (eAlloc rfl rfl rfl (fun p0b => ?_)) 
  refine pu rfl rfl rfl rfl rfl ?_
  refine tr_seq ?_
  refine tr_seq ?_
  refine tr_region fun _ _ _ => ?_
  refine st rfl rfl rfl rfl (rLdS rfl rfl rfl) ?_
  refine ef rfl rfl (eCallV rfl rfl rfl (fld_Check _ _ _ _ _ (by omega)) ⟨rfl, trivial⟩ ?_) 
  refine pu rfl rfl rfl rfl rfl ?_
  refine tr_seq ?_
  refine tr_region fun _ _ _ => ?_
  iterate 2 refine pu rfl rfl rfl rfl rfl ?_
  refine tr_cond_bool rfl (fun h2 => ?_) (fun h2 => ?_)
  · try simp only [zbA] at h2
    exact absurd (chkF_zero hF.out) (by omega) --done
  · try simp only [zbA] at h2
    refine tr_skip ?_
    refine tr_seq ?_
    refine tr_seq ?_
    refine tr_region fun _ _ _ => ?_
    refine st rfl rfl rfl rfl (rLdS rfl rfl rfl) ?_
    refine st rfl rfl rfl rfl (rLdS rfl rfl rfl) ?_
    refine pu rfl rfl rfl rfl rfl ?_
    refine ef rfl rfl (eCall2 rfl rfl rfl (bch_ext p m A c mod m2 Ae ce mod2 hd n hn1 hn64) ⟨rfl, rfl, rfl, trivial⟩ ?_) 
    rintro _ _ _ ⟨g, B6, rfl, rfl, rfl, hg⟩
    iterate 9 refine pu rfl rfl rfl rfl rfl ?_
    refine tr_seq ?_
    refine tr_region fun _ _ _ => ?_
    iterate 2 refine pu rfl rfl rfl rfl rfl ?_
    refine tr_cond_bool rfl (fun h5 => ?_) (fun h5 => ?_)
    · try simp only [zbA] at h5
      omega --done
    · try simp only [zbA] at h5
      refine tr_skip ?_
      refine tr_seq ?_
      refine tr_seq ?_
      refine tr_region fun _ _ _ => ?_
      iterate 3 refine pu rfl rfl rfl rfl rfl ?_
      refine stg rfl rfl rfl rfl rfl (fun hb => by (have hq := hb; try simp only [zbA] at hq); exact rMove rfl rfl) ?_
      refine stg rfl rfl rfl rfl rfl (fun hb => by (have hq := hb; try simp only [zbA] at hq); exact rMove rfl rfl) ?_
      refine stg rfl rfl rfl rfl rfl (fun hb => by (have hq := hb; try simp only [zbA] at hq); exact rGeq rfl (evg rfl hb) (evg rfl hb)) ?_
      refine st rfl rfl rfl rfl (rOrB rfl rfl rfl rfl) ?_
      refine pu rfl rfl rfl rfl rfl ?_
      refine stg rfl rfl rfl rfl rfl (fun hb => by (have hq := hb; try simp only [zbA] at hq); exact rMove rfl rfl) ?_
      refine stg rfl rfl rfl rfl rfl (fun hb => by (have hq := hb; try simp only [zbA] at hq); exact rLss rfl (evg rfl hb) rfl) ?_
      refine st rfl rfl rfl rfl (rOrB rfl rfl rfl rfl) ?_
      refine pu rfl rfl rfl rfl rfl ?_
      refine stg rfl rfl rfl rfl rfl (fun hb => by (have hq := hb; try simp only [zbA] at hq); exact rMove rfl rfl) ?_
      refine stg rfl rfl rfl rfl rfl (fun hb => by (have hq := hb; try simp only [zbA] at hq); exact rMove rfl rfl) ?_
      refine stg rfl rfl rfl rfl rfl (fun hb => by (have hq := hb; try simp only [zbA] at hq); exact rAdd rfl (evg rfl hb) rfl (by omega) (by omega)) ?_
      refine stg rfl rfl rfl rfl rfl (fun hb => by (have hq := hb; try simp only [zbA] at hq); exact rGtr rfl (evg rfl hb) (evg rfl hb)) ?_
      refine st rfl rfl rfl rfl (rOrB rfl rfl rfl rfl) ?_
      refine tr_cond_bool rfl (fun h7 => ?_) (fun h7 => ?_)
      · try simp only [zbA] at h7
        omega --done
      · try simp only [zbA] at h7
        refine tr_skip ?_
        refine tr_seq ?_
        refine tr_region fun _ _ _ => ?_
        refine pu rfl rfl rfl rfl rfl ?_
        refine tr_seq ?_
        refine tr_seq ?_
        refine tr_region fun _ _ _ => ?_
        refine pu rfl rfl rfl rfl rfl ?_
        refine st rfl rfl rfl rfl (rSub rfl rfl rfl (by omega) (by omega)) ?_
        refine pu rfl rfl rfl rfl rfl ?_
        refine tr_block ?_
        refine tr_nilI 3 ?_
        refine tr_loop4 (fun (k : Int) (D : Option Addr) (cd : Nat) (ls : List Int) => [(17, .slice D ls.length cd), (57, .int .i64 (d - 1)), (58, .int .i64 k), (2, .int .i64 n), (3, .int .i64 b), (5, .pointer (some p0)), (6, .pointer (some p0a)), (10, .pointer (some p0b)), (11, .int .i64 0)]) (fun (k : Int) (D : Option Addr) (cd : Nat) (ls : List Int) => [ow D 3 cd (ints ls), blk p0 24 [.int .i64 p, .int .i64 m, .slice A mod.length c], blk p0a 24 [.int .i64 p, .int .i64 m2, .slice Ae mod2.length ce], blk p0b 27 [.int .i64 0, .int .i64 0, .slice none 0 0, .int .i64 0, .slice none 0 0], ro A (ints mod), ro Ae (ints mod2)]) (fun (k : Int) (D : Option Addr) (cd : Nat) (ls : List Int) => (0 ≤ k ∧ k ≤ d - 1) ∧ ls = (consL b d).take k.toNat) (fun (k : Int) (D : Option Addr) (cd : Nat) (ls : List Int) => (d - 1 - k).toNat) (0) (none) (0) ([]) ⟨rfl, rfl, rfl, rfl, rfl, rfl, rfl, rfl, rfl, trivial⟩ (by first | exact cs _ _ | exact CSub.refl _) (⟨⟨by omega, by omega⟩, by simp⟩) (fun k D cd ls hI => ?_)
        obtain ⟨⟨hk0, hk1⟩, hls⟩ := hI
        have hll : ls.length ≤ 65 := by rw [hls, List.length_take]; omega
        refine tr_seq ?_
        refine tr_region fun _ _ _ => ?_
        refine pu rfl rfl rfl rfl rfl ?_
        refine tr_seq ?_
        refine tr_cond_bool rfl (fun h11 => ?_) (fun h11 => ?_)
        · try simp only [zbA] at h11
          refine tr_skip ?_
          refine tr_seq ?_
          refine tr_block ?_
          refine tr_seq ?_
          refine tr_region fun _ _ _ => ?_
          iterate 2 refine pu rfl rfl rfl rfl rfl ?_
          refine tr_region fun _ _ _ => ?_
          iterate 3 refine pu rfl rfl rfl rfl rfl ?_
          refine st rfl rfl rfl rfl (rAdd rfl rfl rfl (by omega) (by omega)) ?_
          refine ef rfl rfl (eLit1I rfl rfl rfl rfl (fun A13 => ?_)) 
          refine ef rfl rfl (eAppI rfl rfl rfl rfl rfl (by first | rfl | simp | omega) (by first | rfl | simp | omega) (by first | omega | (simp; omega)) (fun A13a c13a => ?_)) 
          refine pu rfl rfl rfl rfl rfl ?_
          refine tr_region fun _ _ _ => ?_
          refine st rfl rfl rfl rfl (rAdd rfl rfl rfl (by omega) (by omega)) ?_
          refine pu rfl rfl rfl rfl rfl ?_
          refine ⟨k + 1, A13a, c13a, ls ++ [b + k], ⟨rfl, rfl, rfl, rfl, rfl, rfl, rfl, rfl, rfl, trivial⟩, by first | exact cs _ _ | exact CSub.refl _, ?_⟩
          refine ⟨⟨⟨by omega, by omega⟩, ?_⟩, by omega⟩
          rw [show (k + 1).toNat = k.toNat + 1 by omega, consL_take b d (by omega), hls, Int.toNat_of_nonneg hk0]
        · try simp only [zbA] at h11
          refine tr_exit ?_
          refine tr_seq ?_
          have hkc : (consL b d).take k.toNat = consL b d := List.take_of_length_le (by omega)
          rw [hkc] at hls
          rw [hls]
          refine tr_region fun _ _ _ => ?_
          refine st rfl rfl rfl rfl (rLdS rfl rfl rfl) ?_
          refine st rfl rfl rfl rfl (rLdS rfl rfl rfl) ?_
          iterate 2 refine pu rfl rfl rfl rfl rfl ?_
          refine ef rfl rfl (eCall3 rfl rfl rfl (bch_FromZeros p m A c mod m2 Ae ce mod2 hd n hn1 hn64 hr D cd (consL b d) (by omega)) ⟨rfl, rfl, rfl, rfl, trivial⟩ ?_) 
          rintro _ _ _ _ ⟨Bm, cm, B, r3, rfl, rfl, rfl, rfl, gK, hgK, hgx, hgl, hC⟩
          iterate 2 refine pu rfl rfl rfl rfl rfl ?_
          refine ef rfl rfl (eStS rfl rfl rfl rfl rfl rfl ?_) 
          refine pu rfl rfl rfl rfl rfl ?_
          exact tr_ret ⟨trivial, _, _, (.cell rfl (cellS rfl) (.tmp rfl .nil)), ⟨_, _, _, rfl, Bm, cm, B, r3, rfl, rfl, rfl, rfl, gK, hgK, hgx, hgl, hC⟩, cs _ _, trivial, trivial, trivial, trivial⟩
end Go.Proofs.YtgnmcoegdogfgaaGreat

/-
  THE REFERENCE IN A FIELD. One sentence: what the reference arithmetic returns.
  Conditions: each theorem's own, written out in it.
-/
import Derived.Test.YtancpcmiimcdhaaGf1
set_option linter.unusedSimpArgs false
set_option linter.unusedVariables false
namespace Go.Proofs.Ytancpcmiimcdhaa
open Go.RowKit

theorem ref_Digits_ent : Enters Try.prog 62 := enters_of Try.func62 (by kernel_rfl) (by kernel_rfl)
theorem ref_Digits (p m : Int) (A : Option Addr) (c : Nat) (mod : List Int) (hs : Shp p m mod) (x : Int) :
    Pure Try.prog 62 #[.agg #[.int .i64 p, .int .i64 m, .slice A mod.length c], .int .i64 x] [ro A (ints mod)] (one (fun v ch => ∃ B, v = .slice B m.toNat m.toNat ∧ ch = ow B 3 m.toNat (ints (digs p m.toNat (inI (ordI p m) x))))) := by
  have hp2 := hs.p2
  have hp9 := hs.p9
  have hm1 := hs.m1
  have hm8 := hs.m8
  have hqq := hs.q
  have hoq := hs.ord
  have hq2 := hs.q2
  have hib := inI_bd (q := ordI p m) (by omega) x
  refine pure_of (args := [.agg #[.int .i64 p, .int .i64 m, .slice A mod.length c], .int .i64 x]) 13 Try.func62 rfl rfl rfl ref_Digits_ent ⟨id, trivial⟩ (fun w0 => ?_)
  refine tr_seq ?_
  refine tr_region fun _ _ _ => ?_
  refine ef rfl rfl (eBox rfl rfl rfl rfl rfl (fun p0 => ?_)) 
  refine pu rfl rfl rfl rfl rfl ?_
  refine tr_seq ?_
  refine tr_draw [0, 1, 3, 4, 5, 6, 2, 7, 8] [] mixed (by kernel_rfl) fun _ _ _ => ?_
  refine st rfl rfl rfl rfl (rLdS rfl rfl rfl) ?_
  refine pu rfl rfl rfl rfl rfl ?_
  refine st rfl rfl rfl rfl (rFld rfl rfl) ?_
  refine st rfl rfl rfl rfl (rLdF rfl rfl rfl) ?_
  refine st rfl rfl rfl rfl (rFld rfl rfl) ?_
  refine st rfl rfl rfl rfl (rLdF rfl rfl rfl) ?_
  refine ef rfl rfl (eCallV rfl rfl rfl (ref_In _ _ _ _ _ _) ⟨rfl, rfl, trivial⟩ ?_) 
  refine ef rfl rfl (eCall1 rfl rfl rfl (ref_digits _ (by omega) (by omega) _ (by omega) (by omega) _ (by omega) (by omega)) ⟨rfl, rfl, rfl, trivial⟩ ?_) 
  rintro _ _ ⟨B1a, rfl, rfl⟩
  refine pu rfl rfl rfl rfl rfl ?_
  exact tr_ret ⟨trivial, _, _, rfl, ⟨_, rfl, _, rfl, rfl⟩, cs _ _, trivial, trivial⟩

theorem ref_Value_ent : Enters Try.prog 63 := enters_of Try.func63 (by kernel_rfl) (by kernel_rfl)
theorem ref_Value (p m : Int) (A : Option Addr) (c : Nat) (mod : List Int) (hp : 2 ≤ p) (hp2 : p ≤ 256) (B : Option Addr) (n cB : Nat) (d : List Int) (hn : n ≤ d.length) (hn2 : n ≤ 64) (hd : AllIn p d) (hq : p ^ n ≤ 256) :
    Pure Try.prog 63 #[.agg #[.int .i64 p, .int .i64 m, .slice A mod.length c], .slice B n cB] [ro A (ints mod), ro B (ints d)] (isV (.int .i64 (vl p (d.take n)))) := by
  have htl : (d.take n).length = n := by rw [List.length_take]; omega
  have hti : AllIn p (d.take n) := fun z hz => hd z (List.mem_of_mem_take hz)
  have htg : ∀ i : Nat, i < n → (d.take n).getD i 0 = d.getD i 0 := fun i hi => by simp [List.getD_eq_getElem?_getD, List.getElem?_take, hi]
  refine pure_of (args := [.agg #[.int .i64 p, .int .i64 m, .slice A mod.length c], .slice B n cB]) 24 Try.func63 rfl rfl rfl ref_Value_ent ⟨id, id, trivial⟩ (fun w0 => ?_)
  refine tr_seq ?_
  refine tr_region fun _ _ _ => ?_
  refine ef rfl rfl (eBox rfl rfl rfl rfl rfl (fun p0 => ?_)) 
  refine pu rfl rfl rfl rfl rfl ?_
  refine tr_seq ?_
  refine tr_region fun _ _ _ => ?_
  refine pu rfl rfl rfl rfl rfl ?_
  refine tr_seq ?_
  refine tr_seq ?_
  refine tr_region fun _ _ _ => ?_
  refine pu rfl rfl rfl rfl rfl ?_
  refine st rfl rfl rfl rfl (rLen rfl rfl) ?_
  refine st rfl rfl rfl rfl (rSub rfl rfl rfl (by omega) (by omega)) ?_
  refine pu rfl rfl rfl rfl rfl ?_
  refine tr_block ?_
  refine tr_loop2 (fun (i : Int) (s : Int) => [(1, .slice B n cB), (2, .pointer (some p0)), (5, .int .i64 s), (6, .int .i64 i)]) (fun (i : Int) (s : Int) => [blk p0 36 [.int .i64 p, .int .i64 m, .slice A mod.length c], ro B (ints d)]) (fun (i : Int) (s : Int) => -1 ≤ i ∧ i < n ∧ s = vl p ((d.take n).drop (i + 1).toNat)) (fun (i : Int) (s : Int) => (i + 1).toNat) ((n : Int) - 1) (0) ⟨rfl, rfl, rfl, rfl, trivial⟩ (by first | exact cs _ _ | exact CSub.refl _) (⟨by omega, by omega, by rw [List.drop_of_length_le (by omega)]; rfl⟩) (fun i s hI => ?_)
  obtain ⟨hi0, hi1, hs⟩ := hI
  have hv := vl_in (p := p) (by omega) ((d.take n).drop (i + 1).toNat) (fun c hc => hti c (List.mem_of_mem_drop hc))
  have hpb := pw_bd (p := p) (by omega) (k := ((d.take n).drop (i + 1).toNat).length) (m := n) (by rw [List.length_drop]; omega)
  have hmb := mul_bd0 s p 256 256 (by omega) (by omega) (by omega) (by omega)
  have hgd := hd.get (by omega) i.toNat
  refine tr_seq ?_
  refine tr_seq ?_
  refine tr_region fun _ _ _ => ?_
  iterate 2 refine pu rfl rfl rfl rfl rfl ?_
  refine tr_cond_bool rfl (fun h3 => ?_) (fun h3 => ?_)
  · try simp only [zb1, zb2, zb3, zb4, zb5, zb6, zb7, zb8, zb9, zb10] at h3
    refine tr_skip ?_
    refine tr_seq ?_
    refine tr_block ?_
    refine tr_draw [0, 1, 2, 3, 4, 5, 6, 7, 8, 9] [] mixed (by kernel_rfl) fun _ _ _ => ?_
    refine pu rfl rfl rfl rfl rfl ?_
    refine st rfl rfl rfl rfl (rFld rfl rfl) ?_
    refine st rfl rfl rfl rfl (rLdF rfl rfl rfl) ?_
    refine st rfl rfl rfl rfl (rMul rfl rfl rfl (by omega) (by omega)) ?_
    iterate 2 refine pu rfl rfl rfl rfl rfl ?_
    refine st rfl rfl rfl rfl (rIdxI rfl rfl rfl (by omega) (by omega) (by omega)) ?_
    refine st rfl rfl rfl rfl (rLdI rfl rfl (by omega)) ?_
    refine st rfl rfl rfl rfl (rAdd rfl rfl rfl (by omega) (by omega)) ?_
    refine pu rfl rfl rfl rfl rfl ?_
    refine tr_region fun _ _ _ => ?_
    refine pu rfl rfl rfl rfl rfl ?_
    refine st rfl rfl rfl rfl (rSub rfl rfl rfl (by omega) (by omega)) ?_
    refine pu rfl rfl rfl rfl rfl ?_
    refine ⟨i - 1, s * p + d.getD i.toNat 0, ⟨rfl, rfl, rfl, rfl, trivial⟩, by first | exact cs _ _ | exact CSub.refl _, ?_⟩
    refine ⟨⟨by omega, by omega, ?_⟩, by omega⟩
    rw [show (i - 1 + 1).toNat = i.toNat by omega, drop_getD (show i.toNat < (d.take n).length by omega), vl, hs, show (i + 1).toNat = i.toNat + 1 by omega, Int.mul_comm, Int.add_comm, htg _ (by omega)]
  · try simp only [zb1, zb2, zb3, zb4, zb5, zb6, zb7, zb8, zb9, zb10] at h3
    refine tr_exit ?_
    refine tr_seq ?_
    refine tr_region fun _ _ _ => ?_
    iterate 2 refine pu rfl rfl rfl rfl rfl ?_
    have him : i = -1 := by omega
    subst him
    exact tr_ret ⟨trivial, _, _, rfl, ⟨by rw [hs]; simp, rfl⟩, CSub.nil _, trivial⟩

theorem ref_Mul_ent : Enters Try.prog 52 := enters_of Try.func52 (by kernel_rfl) (by kernel_rfl)
theorem ref_Mul (p m : Int) (A : Option Addr) (c : Nat) (mod : List Int) (hs : Shp p m mod) (x y : Int) :
    Pure Try.prog 52 #[.agg #[.int .i64 p, .int .i64 m, .slice A mod.length c], .int .i64 x, .int .i64 y] [ro A (ints mod)] (isV (.int .i64 (mulI p m mod (inI (ordI p m) x) (inI (ordI p m) y)))) := by
  have hp2 := hs.p2
  have hp9 := hs.p9
  have hm1 := hs.m1
  have hm8 := hs.m8
  have hqq := hs.q
  have hlow := hs.low
  have hmi := hs.ent
  have hal := digs_length p m.toNat (inI (ordI p m) x)
  have hbl := digs_length p m.toNat (inI (ordI p m) y)
  have hai := digs_in (p := p) (by omega) m.toNat (inI (ordI p m) x)
  have hbi := digs_in (p := p) (by omega) m.toNat (inI (ordI p m) y)
  have hT := tm_lin m.toNat (rl mod)
  have hmul := @mul_done p m mod hs (inI (ordI p m) x) (inI (ordI p m) y)
  have hconv := conv_row (M := m.toNat) (low := rl mod) (a := dg p m.toNat (inI (ordI p m) y)) (b := dg p m.toNat (inI (ordI p m) x)) (dg_sup _ _ _) (by omega)
  simp only [dg] at hmul hconv
  generalize ha : digs p m.toNat (inI (ordI p m) x) = a at hal hai hmul hconv
  generalize hb : digs p m.toNat (inI (ordI p m) y) = b at hbl hbi hmul hconv
  have hbsup : Sup m.toNat (rl b) := by rw [← hbl]; exact rl_sup b
  refine pure_of (args := [.agg #[.int .i64 p, .int .i64 m, .slice A mod.length c], .int .i64 x, .int .i64 y]) 117 Try.func52 rfl rfl rfl ref_Mul_ent ⟨id, trivial⟩ (fun w0 => ?_)
  refine tr_seq ?_
  refine tr_region fun _ _ _ => ?_
  refine ef rfl rfl (eBox rfl rfl rfl rfl rfl (fun p0 => ?_)) 
  refine pu rfl rfl rfl rfl rfl ?_
  refine tr_seq ?_
  refine tr_region fun _ _ _ => ?_
  refine st rfl rfl rfl rfl (rLdS rfl rfl rfl) ?_
  refine pu rfl rfl rfl rfl rfl ?_
  refine ef rfl rfl (eCall1 rfl rfl rfl (ref_Digits _ _ _ _ _ hs _) ⟨rfl, rfl, trivial⟩ ?_) 
  rintro _ _ ⟨B1, rfl, rfl⟩
  refine pu rfl rfl rfl rfl rfl ?_
  refine tr_seq ?_
  rw [ha]
  refine tr_region fun _ _ _ => ?_
  refine st rfl rfl rfl rfl (rLdS rfl rfl rfl) ?_
  refine pu rfl rfl rfl rfl rfl ?_
  refine ef rfl rfl (eCall1 rfl rfl rfl (ref_Digits _ _ _ _ _ hs _) ⟨rfl, rfl, trivial⟩ ?_) 
  rintro _ _ ⟨B2, rfl, rfl⟩
  refine pu rfl rfl rfl rfl rfl ?_
  refine tr_seq ?_
  rw [hb]
  refine tr_region fun _ _ _ => ?_
  refine st rfl rfl rfl rfl (rFld rfl rfl) ?_
  refine st rfl rfl rfl rfl (rLdF rfl rfl rfl) ?_
  refine st rfl rfl rfl rfl (rMul rfl rfl rfl (by omega) (by omega)) ?_
  refine st rfl rfl rfl rfl (rSub rfl rfl rfl (by omega) (by omega)) ?_
  refine ef rfl rfl (eMakeI rfl rfl rfl rfl rfl (by omega) (by omega) (by omega) (fun A3 => ?_)) 
  refine pu rfl rfl rfl rfl rfl ?_
  refine tr_seq ?_
  refine tr_seq ?_
  refine tr_region fun _ _ _ => ?_
  refine pu rfl rfl rfl rfl rfl ?_
  refine tr_block ?_
  refine tr_loop2 (fun (i : Int) (c2 : List Int) => [(3, .pointer (some p0)), (7, .slice B1 m.toNat m.toNat), (8, .slice B2 m.toNat m.toNat), (9, .slice A3 (2 * m - 1).toNat (2 * m - 1).toNat), (10, .int .i64 i)]) (fun (i : Int) (c2 : List Int) => [ow A3 3 (2 * m - 1).toNat (ints c2), ow B2 3 m.toNat (ints b), ow B1 3 m.toNat (ints a), blk p0 36 [.int .i64 p, .int .i64 m, .slice A mod.length c], ro A (ints mod)]) (fun (i : Int) (c2 : List Int) => (0 ≤ i ∧ i ≤ m) ∧ c2.length = (2 * m - 1).toNat ∧ AllIn p c2 ∧ Cg p (rl c2) (pl sh i.toNat (rl a) (rl b))) (fun (i : Int) (c2 : List Int) => (m - i).toNat) (0) (List.replicate (2 * m - 1).toNat 0) ⟨rfl, rfl, rfl, rfl, rfl, trivial⟩ (by first | exact cs _ _ | exact CSub.refl _) (⟨⟨by omega, by omega⟩, by simp, fun z hz => by have := List.eq_of_mem_replicate hz; omega, Cg.of_eq (by funext j; simp only [rl, pl, Row.z, Int.toNat_zero]; rw [List.getD_eq_getElem?_getD, List.getElem?_replicate]; split <;> rfl)⟩) (fun i c2 hI => ?_)
  obtain ⟨⟨hi0, hi1⟩, hcl, hci, hcr⟩ := hI
  refine tr_seq ?_
  refine tr_seq ?_
  refine tr_region fun _ _ _ => ?_
  refine pu rfl rfl rfl rfl rfl ?_
  refine st rfl rfl rfl rfl (rFld rfl rfl) ?_
  refine st rfl rfl rfl rfl (rLdF rfl rfl rfl) ?_
  refine pu rfl rfl rfl rfl rfl ?_
  refine tr_cond_bool rfl (fun h5 => ?_) (fun h5 => ?_)
  · try simp only [zb1, zb2, zb3, zb4, zb5, zb6, zb7, zb8, zb9, zb10] at h5
    refine tr_skip ?_
    refine tr_seq ?_
    refine tr_block ?_
    refine tr_seq ?_
    refine tr_region fun _ _ _ => ?_
    refine pu rfl rfl rfl rfl rfl ?_
    refine tr_block ?_
    refine tr_loop2 (fun (j : Int) (c3 : List Int) => [(3, .pointer (some p0)), (7, .slice B1 m.toNat m.toNat), (8, .slice B2 m.toNat m.toNat), (9, .slice A3 (2 * m - 1).toNat (2 * m - 1).toNat), (10, .int .i64 i), (11, .int .i64 j)]) (fun (j : Int) (c3 : List Int) => [ow A3 3 (2 * m - 1).toNat (ints c3), ow B2 3 m.toNat (ints b), ow B1 3 m.toNat (ints a), blk p0 36 [.int .i64 p, .int .i64 m, .slice A mod.length c], ro A (ints mod)]) (fun (j : Int) (c3 : List Int) => (0 ≤ j ∧ j ≤ m) ∧ c3.length = (2 * m - 1).toNat ∧ AllIn p c3 ∧ Cg p (rl c3) ((pl sh i.toNat (rl a) (rl b)).add (Row.sm (rl a i.toNat) (it sh i.toNat (upTo j.toNat (rl b)))))) (fun (j : Int) (c3 : List Int) => (m - j).toNat) (0) (c2) ⟨rfl, rfl, rfl, rfl, rfl, rfl, trivial⟩ (by first | exact cs _ _ | exact CSub.refl _) (⟨⟨by omega, by omega⟩, hcl, hci, by rw [Int.toNat_zero, upTo_zero, Row.sm_z, Row.add_z]; exact hcr⟩) (fun j c3 hI => ?_)
    obtain ⟨⟨hj0, hj1⟩, hcl3, hci3, hcr3⟩ := hI
    have hg1 := hai.get (by omega) i.toNat
    have hg2 := hbi.get (by omega) j.toNat
    have hg3 := hci3.get (by omega) (i + j).toNat
    have hmb := mul_bd0 (a.getD i.toNat 0) (b.getD j.toNat 0) 256 256 (by omega) (by omega) (by omega) (by omega)
    have hv0 := Int.emod_nonneg (c3.getD (i + j).toNat 0 + a.getD i.toNat 0 * b.getD j.toNat 0) (show p ≠ 0 by omega)
    have hv1 := Int.emod_lt_of_pos (c3.getD (i + j).toNat 0 + a.getD i.toNat 0 * b.getD j.toNat 0) (show 0 < p by omega)
    refine tr_seq ?_
    refine tr_seq ?_
    refine tr_region fun _ _ _ => ?_
    refine pu rfl rfl rfl rfl rfl ?_
    refine st rfl rfl rfl rfl (rFld rfl rfl) ?_
    refine st rfl rfl rfl rfl (rLdF rfl rfl rfl) ?_
    refine pu rfl rfl rfl rfl rfl ?_
    refine tr_cond_bool rfl (fun h8 => ?_) (fun h8 => ?_)
    · try simp only [zb1, zb2, zb3, zb4, zb5, zb6, zb7, zb8, zb9, zb10] at h8
      refine tr_skip ?_
      refine tr_seq ?_
      refine tr_block ?_
      refine tr_draw [0, 1, 2, 3, 4, 5, 6, 7, 8, 9, 10, 11, 12, 13, 14, 15, 16, 17, 18, 19, 20, 21, 22, 23] [24] mixed (by kernel_rfl) fun _ _ _ => ?_
      iterate 3 refine pu rfl rfl rfl rfl rfl ?_
      refine st rfl rfl rfl rfl (rAdd rfl rfl rfl (by omega) (by omega)) ?_
      iterate 3 refine pu rfl rfl rfl rfl rfl ?_
      refine st rfl rfl rfl rfl (rAdd rfl rfl rfl (by omega) (by omega)) ?_
      refine st rfl rfl rfl rfl (rIdxI rfl rfl rfl (by omega) (by omega) (by omega)) ?_
      refine st rfl rfl rfl rfl (rLdI rfl rfl (by omega)) ?_
      iterate 2 refine pu rfl rfl rfl rfl rfl ?_
      refine st rfl rfl rfl rfl (rIdxI rfl rfl rfl (by omega) (by omega) (by omega)) ?_
      refine st rfl rfl rfl rfl (rLdI rfl rfl (by omega)) ?_
      iterate 2 refine pu rfl rfl rfl rfl rfl ?_
      refine st rfl rfl rfl rfl (rIdxI rfl rfl rfl (by omega) (by omega) (by omega)) ?_
      refine st rfl rfl rfl rfl (rLdI rfl rfl (by omega)) ?_
      refine st rfl rfl rfl rfl (rMul rfl rfl rfl (by omega) (by omega)) ?_
      refine st rfl rfl rfl rfl (rAdd rfl rfl rfl (by omega) (by omega)) ?_
      refine st rfl rfl rfl rfl (rFld rfl rfl) ?_
      refine st rfl rfl rfl rfl (rLdF rfl rfl rfl) ?_
      refine st rfl rfl rfl rfl (rRem rfl rfl rfl (by omega) (by omega)) ?_
      refine st rfl rfl rfl rfl (rIdxI rfl rfl rfl (by omega) (by omega) (by omega)) ?_
      refine ef rfl rfl (eStI rfl rfl rfl rfl (by omega) ?_) 
      refine tr_region fun _ _ _ => ?_
      refine pu rfl rfl rfl rfl rfl ?_
      refine st rfl rfl rfl rfl (rAdd rfl rfl rfl (by omega) (by omega)) ?_
      refine pu rfl rfl rfl rfl rfl ?_
      refine ⟨j + 1, c3.set (i + j).toNat ((c3.getD (i + j).toNat 0 + a.getD i.toNat 0 * b.getD j.toNat 0) % p), ⟨rfl, rfl, rfl, rfl, rfl, rfl, trivial⟩, by first | exact cs _ _ | exact CSub.refl _, ?_⟩
      refine ⟨⟨⟨by omega, by omega⟩, by simpa using hcl3, hci3.set ⟨hv0, hv1⟩ _, ?_⟩, by omega⟩
      refine Cg.trans (set_row (d := a.getD i.toNat 0 * b.getD j.toNat 0) (by omega) (by rw [Int.emod_emod])) ?_
      refine Cg.trans (Cg.add hcr3 (Cg.refl _ _)) (Cg.of_eq ?_)
      rw [show (j + 1).toNat = j.toNat + 1 by omega, upTo_succ, Row.sm_add, Row.sm_sm, Row.add_assoc, show i.toNat + j.toNat = (i + j).toNat by omega]
      rfl
    · try simp only [zb1, zb2, zb3, zb4, zb5, zb6, zb7, zb8, zb9, zb10] at h8
      refine tr_exit ?_
      refine tr_region fun _ _ _ => ?_
      refine pu rfl rfl rfl rfl rfl ?_
      refine st rfl rfl rfl rfl (rAdd rfl rfl rfl (by omega) (by omega)) ?_
      refine pu rfl rfl rfl rfl rfl ?_
      refine ⟨i + 1, c3, ⟨rfl, rfl, rfl, rfl, rfl, trivial⟩, by first | exact cs _ _ | exact CSub.refl _, ?_⟩
      have hjm : j.toNat = m.toNat := by omega
      refine ⟨⟨⟨by omega, by omega⟩, hcl3, hci3, ?_⟩, by omega⟩
      rw [hjm, upTo_all hbsup] at hcr3
      rw [show (i + 1).toNat = i.toNat + 1 by omega]
      exact hcr3
  · try simp only [zb1, zb2, zb3, zb4, zb5, zb6, zb7, zb8, zb9, zb10] at h5
    refine tr_exit ?_
    refine tr_seq ?_
    refine tr_seq ?_
    refine tr_region fun _ _ _ => ?_
    refine st rfl rfl rfl rfl (rFld rfl rfl) ?_
    refine st rfl rfl rfl rfl (rLdF rfl rfl rfl) ?_
    refine st rfl rfl rfl rfl (rMul rfl rfl rfl (by omega) (by omega)) ?_
    refine st rfl rfl rfl rfl (rSub rfl rfl rfl (by omega) (by omega)) ?_
    refine pu rfl rfl rfl rfl rfl ?_
    refine tr_block ?_
    refine tr_loop2 (fun (i : Int) (c2 : List Int) => [(3, .pointer (some p0)), (7, .slice B1 m.toNat m.toNat), (8, .slice B2 m.toNat m.toNat), (9, .slice A3 (2 * m - 1).toNat (2 * m - 1).toNat), (12, .int .i64 i)]) (fun (i : Int) (c2 : List Int) => [ow A3 3 (2 * m - 1).toNat (ints c2), ow B2 3 m.toNat (ints b), ow B1 3 m.toNat (ints a), blk p0 36 [.int .i64 p, .int .i64 m, .slice A mod.length c], ro A (ints mod)]) (fun (i : Int) (c2 : List Int) => (m - 1 ≤ i ∧ i ≤ 2 * m - 2) ∧ c2.length = (2 * m - 1).toNat ∧ AllIn p c2 ∧ Cg p (pl (tm m.toNat (rl mod)) (i + 1).toNat (rl c2) (ee 0)) (rm m.toNat (rl mod) (rl b) (rl a))) (fun (i : Int) (c2 : List Int) => (i + 1).toNat) (2 * m - 2) (c2) ⟨rfl, rfl, rfl, rfl, rfl, trivial⟩ (by first | exact cs _ _ | exact CSub.refl _) (⟨⟨by omega, by omega⟩, hcl, hci, by
              rw [← hconv, show (2 * m - 2 + 1).toNat = 2 * m.toNat - 1 by omega]
              rw [show (i.toNat) = m.toNat by omega] at hcr
              exact Cg.pl hT _ hcr (Cg.refl _ _)⟩) (fun i c2 hI => ?_)
    clear hcl hci hcr hi0 hi1
    obtain ⟨⟨hi0, hi1⟩, hcl, hci, hcr⟩ := hI
    refine tr_seq ?_
    refine tr_seq ?_
    refine tr_region fun _ _ _ => ?_
    refine pu rfl rfl rfl rfl rfl ?_
    refine st rfl rfl rfl rfl (rFld rfl rfl) ?_
    refine st rfl rfl rfl rfl (rLdF rfl rfl rfl) ?_
    refine pu rfl rfl rfl rfl rfl ?_
    refine tr_cond_bool rfl (fun h12 => ?_) (fun h12 => ?_)
    · try simp only [zb1, zb2, zb3, zb4, zb5, zb6, zb7, zb8, zb9, zb10] at h12
      refine tr_skip ?_
      refine tr_seq ?_
      refine tr_block ?_
      refine tr_seq ?_
      refine tr_region fun _ _ _ => ?_
      refine pu rfl rfl rfl rfl rfl ?_
      refine tr_block ?_
      refine tr_loop2 (fun (j : Int) (c3 : List Int) => [(3, .pointer (some p0)), (7, .slice B1 m.toNat m.toNat), (8, .slice B2 m.toNat m.toNat), (9, .slice A3 (2 * m - 1).toNat (2 * m - 1).toNat), (12, .int .i64 i), (13, .int .i64 j)]) (fun (j : Int) (c3 : List Int) => [ow A3 3 (2 * m - 1).toNat (ints c3), ow B2 3 m.toNat (ints b), ow B1 3 m.toNat (ints a), blk p0 36 [.int .i64 p, .int .i64 m, .slice A mod.length c], ro A (ints mod)]) (fun (j : Int) (c3 : List Int) => (0 ≤ j ∧ j ≤ m) ∧ c3.length = (2 * m - 1).toNat ∧ AllIn p c3 ∧ (∀ k : Nat, i - m ≤ k → (k : Int) < i - m + j → c3.getD k 0 = (c2.getD k 0 + (p - c2.getD i.toNat 0) * mod.getD (k + m.toNat - i.toNat) 0) % p) ∧ ∀ k : Nat, ¬ (i - m ≤ k ∧ (k : Int) < i - m + j) → c3.getD k 0 = c2.getD k 0) (fun (j : Int) (c3 : List Int) => (m - j).toNat) (0) (c2) ⟨rfl, rfl, rfl, rfl, rfl, rfl, trivial⟩ (by first | exact cs _ _ | exact CSub.refl _) (⟨⟨by omega, by omega⟩, hcl, hci, fun k k0 k1 => by omega, fun k _ => rfl⟩) (fun j c3 hI => ?_)
      obtain ⟨⟨hj0, hj1⟩, hcl3, hci3, hdone, htodo⟩ := hI
      have hmodl : (mod.length : Int) = m := by omega
      have hg1 := hmi.get (by omega) j.toNat
      have hg3 := hci3.get (by omega) (i - m + j).toNat
      have hg4 := hci3.get (by omega) i.toNat
      have htop := htodo i.toNat (by omega)
      have hmb := mul_bd0 (p - c3.getD i.toNat 0) (mod.getD j.toNat 0) 256 256 (by omega) (by omega) (by omega) (by omega)
      have hv0 := Int.emod_nonneg (c3.getD (i - m + j).toNat 0 + (p - c3.getD i.toNat 0) * mod.getD j.toNat 0) (show p ≠ 0 by omega)
      have hv1 := Int.emod_lt_of_pos (c3.getD (i - m + j).toNat 0 + (p - c3.getD i.toNat 0) * mod.getD j.toNat 0) (show 0 < p by omega)
      refine tr_seq ?_
      refine tr_seq ?_
      refine tr_region fun _ _ _ => ?_
      refine pu rfl rfl rfl rfl rfl ?_
      refine st rfl rfl rfl rfl (rFld rfl rfl) ?_
      refine st rfl rfl rfl rfl (rLdF rfl rfl rfl) ?_
      refine pu rfl rfl rfl rfl rfl ?_
      refine tr_cond_bool rfl (fun h15 => ?_) (fun h15 => ?_)
      · try simp only [zb1, zb2, zb3, zb4, zb5, zb6, zb7, zb8, zb9, zb10] at h15
        refine tr_skip ?_
        refine tr_seq ?_
        refine tr_block ?_
        refine tr_draw [0, 1, 2, 3, 4, 5, 6, 7, 8, 9, 10, 11, 12, 13, 14, 15, 16, 17, 18, 19, 20, 21, 22, 23, 24, 25, 26, 27, 28, 29, 30, 31, 32, 33] [34] mixed (by kernel_rfl) fun _ _ _ => ?_
        iterate 2 refine pu rfl rfl rfl rfl rfl ?_
        refine st rfl rfl rfl rfl (rFld rfl rfl) ?_
        refine st rfl rfl rfl rfl (rLdF rfl rfl rfl) ?_
        refine st rfl rfl rfl rfl (rSub rfl rfl rfl (by omega) (by omega)) ?_
        refine pu rfl rfl rfl rfl rfl ?_
        refine st rfl rfl rfl rfl (rAdd rfl rfl rfl (by omega) (by omega)) ?_
        iterate 2 refine pu rfl rfl rfl rfl rfl ?_
        refine st rfl rfl rfl rfl (rFld rfl rfl) ?_
        refine st rfl rfl rfl rfl (rLdF rfl rfl rfl) ?_
        refine st rfl rfl rfl rfl (rSub rfl rfl rfl (by omega) (by omega)) ?_
        refine pu rfl rfl rfl rfl rfl ?_
        refine st rfl rfl rfl rfl (rAdd rfl rfl rfl (by omega) (by omega)) ?_
        refine st rfl rfl rfl rfl (rIdxI rfl rfl rfl (by omega) (by omega) (by omega)) ?_
        refine st rfl rfl rfl rfl (rLdI rfl rfl (by omega)) ?_
        refine st rfl rfl rfl rfl (rFld rfl rfl) ?_
        refine st rfl rfl rfl rfl (rLdF rfl rfl rfl) ?_
        iterate 2 refine pu rfl rfl rfl rfl rfl ?_
        refine st rfl rfl rfl rfl (rIdxI rfl rfl rfl (by omega) (by omega) (by omega)) ?_
        refine st rfl rfl rfl rfl (rLdI rfl rfl (by omega)) ?_
        refine st rfl rfl rfl rfl (rSub rfl rfl rfl (by omega) (by omega)) ?_
        refine st rfl rfl rfl rfl (rFld rfl rfl) ?_
        refine st rfl rfl rfl rfl (rLdF rfl rfl rfl) ?_
        refine pu rfl rfl rfl rfl rfl ?_
        refine st rfl rfl rfl rfl (rIdxI rfl rfl rfl (by omega) (by omega) (by omega)) ?_
        refine st rfl rfl rfl rfl (rLdI rfl rfl (by omega)) ?_
        refine st rfl rfl rfl rfl (rMul rfl rfl rfl (by omega) (by omega)) ?_
        refine st rfl rfl rfl rfl (rAdd rfl rfl rfl (by omega) (by omega)) ?_
        refine st rfl rfl rfl rfl (rFld rfl rfl) ?_
        refine st rfl rfl rfl rfl (rLdF rfl rfl rfl) ?_
        refine st rfl rfl rfl rfl (rRem rfl rfl rfl (by omega) (by omega)) ?_
        refine st rfl rfl rfl rfl (rIdxI rfl rfl rfl (by omega) (by omega) (by omega)) ?_
        refine ef rfl rfl (eStI rfl rfl rfl rfl (by omega) ?_) 
        refine tr_region fun _ _ _ => ?_
        refine pu rfl rfl rfl rfl rfl ?_
        refine st rfl rfl rfl rfl (rAdd rfl rfl rfl (by omega) (by omega)) ?_
        refine pu rfl rfl rfl rfl rfl ?_
        refine ⟨j + 1, c3.set (i - m + j).toNat ((c3.getD (i - m + j).toNat 0 + (p - c3.getD i.toNat 0) * mod.getD j.toNat 0) % p), ⟨rfl, rfl, rfl, rfl, rfl, rfl, trivial⟩, by first | exact cs _ _ | exact CSub.refl _, ?_⟩
        refine ⟨⟨⟨by omega, by omega⟩, by simpa using hcl3, hci3.set ⟨hv0, hv1⟩ _, fun k k0 k1 => ?_, fun k hk => ?_⟩, by omega⟩
        · rw [getD_set]
          by_cases hkk : (i - m + j).toNat = k
          · rw [if_pos ⟨hkk, by omega⟩, hkk, htop, htodo k (by omega), show k + m.toNat - i.toNat = j.toNat by omega]
          · rw [if_neg (by omega)]; exact hdone k k0 (by omega)
        · rw [getD_set, if_neg (by omega)]
          exact htodo k (by omega)
      · try simp only [zb1, zb2, zb3, zb4, zb5, zb6, zb7, zb8, zb9, zb10] at h15
        refine tr_exit ?_
        refine tr_region fun _ _ _ => ?_
        refine pu rfl rfl rfl rfl rfl ?_
        refine st rfl rfl rfl rfl (rSub rfl rfl rfl (by omega) (by omega)) ?_
        refine pu rfl rfl rfl rfl rfl ?_
        refine ⟨i - 1, c3, ⟨rfl, rfl, rfl, rfl, rfl, trivial⟩, by first | exact cs _ _ | exact CSub.refl _, ?_⟩
        refine ⟨⟨⟨by omega, by omega⟩, hcl3, hci3, ?_⟩, by omega⟩
        refine Cg.trans ?_ hcr
        rw [show (i - 1 + 1).toNat = i.toNat by omega, show (i + 1).toNat = i.toNat + 1 by omega]
        refine reduce_step (by omega) (by omega) (fun k hk => ?_)
        by_cases hkk : i.toNat ≤ k + m.toNat
        · rw [if_pos hkk]
          have := hdone k (by omega) (by omega)
          simp only [rl]
          rw [this, Int.emod_emod]
        · rw [if_neg hkk]
          have := htodo k (by omega)
          simp only [rl]
          rw [this]; simp
    · try simp only [zb1, zb2, zb3, zb4, zb5, zb6, zb7, zb8, zb9, zb10] at h12
      refine tr_exit ?_
      refine tr_seq ?_
      have him : i = m - 1 := by omega
      have hpq : p ^ m.toNat ≤ 256 := hqq
      rw [show (i + 1).toNat = m.toNat by omega] at hcr
      refine tr_draw [0, 1, 2, 3, 4, 5, 6] [] mixed (by kernel_rfl) fun _ _ _ => ?_
      refine st rfl rfl rfl rfl (rLdS rfl rfl rfl) ?_
      refine pu rfl rfl rfl rfl rfl ?_
      refine st rfl rfl rfl rfl (rFld rfl rfl) ?_
      refine st rfl rfl rfl rfl (rLdF rfl rfl rfl) ?_
      refine st rfl rfl rfl rfl (rCutHi rfl rfl rfl (by omega) (by omega)) ?_
      refine ef rfl rfl (eCallV rfl rfl rfl (ref_Value _ _ _ _ _ (by omega) (by omega) _ _ _ c2 (by omega) (by omega) hci (by omega)) ⟨rfl, rfl, trivial⟩ ?_) 
      refine pu rfl rfl rfl rfl rfl ?_
      have hres := hmul hci (by omega) hcr
      exact tr_ret ⟨trivial, _, _, rfl, ⟨by rw [hres], rfl⟩, CSub.nil _, trivial⟩

theorem ref_MulOrder_ent : Enters Try.prog 38 := enters_of Try.func38 (by kernel_rfl) (by kernel_rfl)
theorem ref_MulOrder (p m : Int) (A : Option Addr) (c : Nat) (mod : List Int) (hF : FldR p m mod) (x : Int) :
    Pure Try.prog 38 #[.agg #[.int .i64 p, .int .i64 m, .slice A mod.length c], .int .i64 x] [ro A (ints mod)] (isV (.int .i64 (if inI (ordI p m) x = 0 then 0 else (mord p m mod (inI (ordI p m) x) : Nat)))) := by
  have hs := hF.1.1
  have hoq := hs.ord
  have hq2 := hs.q2
  have hqq := hs.q
  have hib := inI_bd (q := ordI p m) (by omega) x
  have hex := @ord_ex p m mod hF (inI (ordI p m) x)
  generalize hz : inI (ordI p m) x = z at hib hex
  refine pure_of (args := [.agg #[.int .i64 p, .int .i64 m, .slice A mod.length c], .int .i64 x]) 22 Try.func38 rfl rfl rfl ref_MulOrder_ent ⟨id, trivial⟩ (fun w0 => ?_)
  refine tr_seq ?_
  refine tr_region fun _ _ _ => ?_
  refine ef rfl rfl (eBox rfl rfl rfl rfl rfl (fun p0 => ?_)) 
  refine pu rfl rfl rfl rfl rfl ?_
  refine tr_seq ?_
  refine tr_region fun _ _ _ => ?_
  refine st rfl rfl rfl rfl (rLdS rfl rfl rfl) ?_
  refine pu rfl rfl rfl rfl rfl ?_
  refine ef rfl rfl (eCallV rfl rfl rfl (ref_In _ _ _ _ _ _) ⟨rfl, rfl, trivial⟩ ?_) 
  refine pu rfl rfl rfl rfl rfl ?_
  refine tr_seq ?_
  refine tr_seq ?_
  rw [hz]
  refine tr_region fun _ _ _ => ?_
  iterate 2 refine pu rfl rfl rfl rfl rfl ?_
  refine tr_cond_bool rfl (fun h2 => ?_) (fun h2 => ?_)
  · try simp only [zb1, zb2, zb3, zb4, zb5, zb6, zb7, zb8, zb9, zb10] at h2
    refine tr_seq ?_
    refine tr_region fun _ _ _ => ?_
    refine pu rfl rfl rfl rfl rfl ?_
    exact tr_ret ⟨trivial, _, _, rfl, ⟨by rw [if_pos h2], rfl⟩, CSub.nil _, trivial⟩
  · try simp only [zb1, zb2, zb3, zb4, zb5, zb6, zb7, zb8, zb9, zb10] at h2
    refine tr_skip ?_
    refine tr_seq ?_
    obtain ⟨t, ht, htq⟩ := hex ⟨by omega, by omega⟩
    have hzz := inI_in (q := ordI p m) hib.1 hib.2
    refine tr_region fun _ _ _ => ?_
    refine pu rfl rfl rfl rfl rfl ?_
    refine tr_seq ?_
    refine tr_seq ?_
    refine tr_region fun _ _ _ => ?_
    iterate 2 refine pu rfl rfl rfl rfl rfl ?_
    refine tr_block ?_
    refine tr_loop2 (fun (n : Int) (y : Int) => [(1, .int .i64 z), (2, .pointer (some p0)), (5, .int .i64 n), (6, .int .i64 y)]) (fun (n : Int) (y : Int) => [blk p0 36 [.int .i64 p, .int .i64 m, .slice A mod.length c], ro A (ints mod)]) (fun (n : Int) (y : Int) => (1 ≤ n ∧ n ≤ t) ∧ (0 ≤ y ∧ y < pw p m) ∧ y = pwI p m mod z n.toNat ∧ ∀ s : Nat, 1 ≤ s → (s : Int) < n → pwI p m mod z s ≠ 1) (fun (n : Int) (y : Int) => (t - n).toNat) (1) (z) ⟨rfl, rfl, rfl, rfl, trivial⟩ (by first | exact cs _ _ | exact CSub.refl _) (⟨⟨by omega, by have := ht.pos; omega⟩, ⟨by omega, by omega⟩, rfl, fun s h1 h2 => by omega⟩) (fun n y hI => ?_)
    obtain ⟨⟨hn0, hn1⟩, ⟨hy0, hy1⟩, hye, hno⟩ := hI
    have hyy := inI_in (q := ordI p m) hy0 (by omega)
    have hmb := mulI_bd hs y z
    refine tr_seq ?_
    refine tr_seq ?_
    refine tr_region fun _ _ _ => ?_
    iterate 2 refine pu rfl rfl rfl rfl rfl ?_
    refine tr_cond_bool rfl (fun h6 => ?_) (fun h6 => ?_)
    · try simp only [zb1, zb2, zb3, zb4, zb5, zb6, zb7, zb8, zb9, zb10] at h6
      refine tr_skip ?_
      refine tr_seq ?_
      refine tr_block ?_
      refine tr_region fun _ _ _ => ?_
      refine pu rfl rfl rfl rfl rfl ?_
      refine st rfl rfl rfl rfl (rAdd rfl rfl rfl (by omega) (by omega)) ?_
      refine pu rfl rfl rfl rfl rfl ?_
      refine tr_region fun _ _ _ => ?_
      refine st rfl rfl rfl rfl (rLdS rfl rfl rfl) ?_
      iterate 2 refine pu rfl rfl rfl rfl rfl ?_
      refine ef rfl rfl (eCallV rfl rfl rfl (ref_Mul _ _ _ _ _ hs _ _) ⟨rfl, rfl, rfl, trivial⟩ ?_) 
      refine pu rfl rfl rfl rfl rfl ?_
      rw [hyy, hzz]
      refine ⟨n + 1, mulI p m mod y z, ⟨rfl, rfl, rfl, rfl, trivial⟩, by first | exact cs _ _ | exact CSub.refl _, ?_⟩
      have hlt : n < t := by
        rcases Int.lt_or_eq_of_le hn1 with h | h
        · exact h
        · exfalso
          apply h6
          rw [hye, show n.toNat = t by omega]
          exact ht.one
      refine ⟨⟨⟨by omega, by omega⟩, hmb, ?_, fun s h1 h2 => ?_⟩, by omega⟩
      · rw [show (n + 1).toNat = n.toNat + 1 by omega, pwI_succ hs ⟨hib.1, by omega⟩, ← hye]
      · by_cases hsn : (s : Int) = n
        · rw [show s = n.toNat by omega, ← hye]; exact h6
        · exact hno s h1 (by omega)
    · try simp only [zb1, zb2, zb3, zb4, zb5, zb6, zb7, zb8, zb9, zb10] at h6
      refine tr_exit ?_
      refine tr_seq ?_
      refine tr_region fun _ _ _ => ?_
      iterate 2 refine pu rfl rfl rfl rfl rfl ?_
      have hord : OrdI p m mod z n.toNat := ⟨by omega, by rw [← hye]; exact h6, fun s h1 h2 => hno s h1 (by omega)⟩
      have hoe := hord.eq
      exact tr_ret ⟨trivial, _, _, rfl, ⟨by rw [if_neg h2, hoe, Int.toNat_of_nonneg (by omega)], rfl⟩, CSub.nil _, trivial⟩

/-- The least element of order n, or 0. -/
def RootI (p m : Int) (mod : List Int) (n r : Int) : Prop := (r = 0 ∧ ∀ z, 1 ≤ z → z < pw p m → (mord p m mod z : Int) ≠ n) ∨ (1 ≤ r ∧ r < pw p m ∧ (mord p m mod r : Int) = n ∧ ∀ z, 1 ≤ z → z < r → (mord p m mod z : Int) ≠ n)
theorem RootI.unique {p m : Int} {mod : List Int} {n r r' : Int} (h : RootI p m mod n r) (h' : RootI p m mod n r') : r = r' := by
  rcases h with ⟨rfl, h1⟩ | ⟨a1, a2, a3, a4⟩ <;> rcases h' with ⟨rfl, h1'⟩ | ⟨b1, b2, b3, b4⟩
  · rfl
  · exact absurd b3 (h1 _ b1 b2)
  · exact absurd a3 (h1' _ a1 a2)
  · rcases Int.lt_trichotomy r r' with h | h | h
    · exact absurd a3 (b4 _ a1 h)
    · exact h
    · exact absurd b3 (a4 _ b1 h)
open Classical in
noncomputable def rootI (p m : Int) (mod : List Int) (n : Int) : Int := if h : ∃ r, RootI p m mod n r then Classical.choose h else 0
theorem RootI.eq {p m : Int} {mod : List Int} {n r : Int} (h : RootI p m mod n r) : rootI p m mod n = r := by
  have h1 : ∃ r, RootI p m mod n r := ⟨r, h⟩
  rw [rootI, dif_pos h1]
  exact (Classical.choose_spec h1).unique h

theorem ref_Root_ent : Enters Try.prog 20 := enters_of Try.func20 (by kernel_rfl) (by kernel_rfl)
theorem ref_Root (p m : Int) (A : Option Addr) (c : Nat) (mod : List Int) (hF : FldR p m mod) (n : Int) :
    Pure Try.prog 20 #[.agg #[.int .i64 p, .int .i64 m, .slice A mod.length c], .int .i64 n] [ro A (ints mod)] (isV (.int .i64 (rootI p m mod n))) := by
  have hoq := hF.1.1.ord
  have hq2 := hF.1.1.q2
  have hqq := hF.1.1.q
  refine pure_of (args := [.agg #[.int .i64 p, .int .i64 m, .slice A mod.length c], .int .i64 n]) 18 Try.func20 rfl rfl rfl ref_Root_ent ⟨id, trivial⟩ (fun w0 => ?_)
  refine tr_seq ?_
  refine tr_region fun _ _ _ => ?_
  refine ef rfl rfl (eBox rfl rfl rfl rfl rfl (fun p0 => ?_)) 
  refine pu rfl rfl rfl rfl rfl ?_
  refine tr_seq ?_
  refine tr_seq ?_
  refine tr_region fun _ _ _ => ?_
  refine pu rfl rfl rfl rfl rfl ?_
  refine tr_block ?_
  refine tr_loop1 (fun (x : Int) => [(1, .int .i64 n), (2, .pointer (some p0)), (5, .int .i64 x)]) (fun (x : Int) => [blk p0 36 [.int .i64 p, .int .i64 m, .slice A mod.length c], ro A (ints mod)]) (fun (x : Int) => (1 ≤ x ∧ x ≤ pw p m) ∧ ∀ z, 1 ≤ z → z < x → (mord p m mod z : Int) ≠ n) (fun (x : Int) => (pw p m - x).toNat) (1) ⟨rfl, rfl, rfl, trivial⟩ (by first | exact cs _ _ | exact CSub.refl _) (⟨⟨by omega, by omega⟩, fun z h1 h2 => by omega⟩) (fun x hI => ?_)
  obtain ⟨⟨hx0, hx1⟩, hno⟩ := hI
  have hxx : x < pw p m → inI (ordI p m) x = x := fun h => inI_in (by omega) (by omega)
  refine tr_seq ?_
  refine tr_seq ?_
  refine tr_region fun _ _ _ => ?_
  refine pu rfl rfl rfl rfl rfl ?_
  refine st rfl rfl rfl rfl (rLdS rfl rfl rfl) ?_
  refine ef rfl rfl (eCallV rfl rfl rfl (ref_order _ _ _ _ _) ⟨rfl, trivial⟩ ?_) 
  refine pu rfl rfl rfl rfl rfl ?_
  refine tr_cond_bool rfl (fun h2 => ?_) (fun h2 => ?_)
  · try simp only [zb1, zb2, zb3, zb4, zb5, zb6, zb7, zb8, zb9, zb10] at h2
    refine tr_skip ?_
    refine tr_seq ?_
    refine tr_block ?_
    refine tr_seq ?_
    refine tr_region fun _ _ _ => ?_
    refine st rfl rfl rfl rfl (rLdS rfl rfl rfl) ?_
    refine pu rfl rfl rfl rfl rfl ?_
    refine ef rfl rfl (eCallV rfl rfl rfl (ref_MulOrder _ _ _ _ _ hF _) ⟨rfl, rfl, trivial⟩ ?_) 
    iterate 2 refine pu rfl rfl rfl rfl rfl ?_
    refine tr_cond_bool rfl (fun h4 => ?_) (fun h4 => ?_)
    · try simp only [zb1, zb2, zb3, zb4, zb5, zb6, zb7, zb8, zb9, zb10] at h4
      refine tr_seq ?_
      refine tr_region fun _ _ _ => ?_
      iterate 2 refine pu rfl rfl rfl rfl rfl ?_
      rw [hxx (by omega), if_neg (by omega)] at h4
      have hr : RootI p m mod n x := .inr ⟨hx0, by omega, h4, hno⟩
      exact tr_ret ⟨trivial, _, _, rfl, ⟨by rw [hr.eq], rfl⟩, CSub.nil _, trivial⟩
    · try simp only [zb1, zb2, zb3, zb4, zb5, zb6, zb7, zb8, zb9, zb10] at h4
      refine tr_skip ?_
      refine tr_region fun _ _ _ => ?_
      refine pu rfl rfl rfl rfl rfl ?_
      refine st rfl rfl rfl rfl (rAdd rfl rfl rfl (by omega) (by omega)) ?_
      refine pu rfl rfl rfl rfl rfl ?_
      refine ⟨x + 1, ⟨rfl, rfl, rfl, trivial⟩, by first | exact cs _ _ | exact CSub.refl _, ?_⟩
      rw [hxx (by omega), if_neg (by omega)] at h4
      exact ⟨⟨⟨by omega, by omega⟩, fun z h1 h2 => by
        by_cases hzx : z = x
        · subst hzx; exact h4
        · exact hno z h1 (by omega)⟩, by omega⟩
  · try simp only [zb1, zb2, zb3, zb4, zb5, zb6, zb7, zb8, zb9, zb10] at h2
    refine tr_exit ?_
    refine tr_seq ?_
    refine tr_region fun _ _ _ => ?_
    refine pu rfl rfl rfl rfl rfl ?_
    have hr : RootI p m mod n 0 := .inl ⟨rfl, fun z h1 h2 => hno z h1 (by omega)⟩
    exact tr_ret ⟨trivial, _, _, rfl, ⟨by rw [hr.eq], rfl⟩, CSub.nil _, trivial⟩

noncomputable def rootArgs (p m : Int) (mod : List Int) (n : Int) : Int := if chkF p m mod ≠ 0 then 1 else if n < 1 ∨ n > 64 then 4 else if rootI p m mod n = 0 then 11 else 0
theorem chkF_cases (p m : Int) (mod : List Int) : (FldR p m mod ∧ chkF p m mod = 0) ∨ (¬ FldR p m mod ∧ chkF p m mod = 1) := by
  by_cases h : FldR p m mod
  · exact .inl ⟨h, chkF_ok h⟩
  · exact .inr ⟨h, chkF_no h⟩

theorem ref_RootArgs_ent : Enters Try.prog 19 := enters_of Try.func19 (by kernel_rfl) (by kernel_rfl)
theorem ref_RootArgs (p m : Int) (A : Option Addr) (c : Nat) (mod : List Int) (hl9 : mod.length ≤ 17592186044415) (n : Int) :
    Pure Try.prog 19 #[.agg #[.int .i64 p, .int .i64 m, .slice A mod.length c], .int .i64 n] [ro A (ints mod)] (isV (.int .i64 (rootArgs p m mod n))) := by
  have hch := chkF_cases p m mod
  refine pure_of (args := [.agg #[.int .i64 p, .int .i64 m, .slice A mod.length c], .int .i64 n]) 18 Try.func19 rfl rfl rfl ref_RootArgs_ent ⟨id, trivial⟩ (fun w0 => ?_)
  refine tr_seq ?_
  refine tr_region fun _ _ _ => ?_
  refine ef rfl rfl (eBox rfl rfl rfl rfl rfl (fun p0 => ?_)) 
  refine pu rfl rfl rfl rfl rfl ?_
  refine tr_seq ?_
  refine tr_seq ?_
  refine tr_region fun _ _ _ => ?_
  refine st rfl rfl rfl rfl (rLdS rfl rfl rfl) ?_
  refine ef rfl rfl (eCallV rfl rfl rfl (ref_fldCheck _ _ _ _ _ (by omega)) ⟨rfl, trivial⟩ ?_) 
  refine pu rfl rfl rfl rfl rfl ?_
  refine tr_cond_bool rfl (fun h1 => ?_) (fun h1 => ?_)
  · try simp only [zb1, zb2, zb3, zb4, zb5, zb6, zb7, zb8, zb9, zb10] at h1
    refine tr_seq ?_
    refine tr_region fun _ _ _ => ?_
    refine pu rfl rfl rfl rfl rfl ?_
    exact tr_ret ⟨trivial, _, _, rfl, ⟨by rw [rootArgs, if_pos h1], rfl⟩, CSub.nil _, trivial⟩
  · try simp only [zb1, zb2, zb3, zb4, zb5, zb6, zb7, zb8, zb9, zb10] at h1
    refine tr_skip ?_
    refine tr_seq ?_
    refine tr_seq ?_
    refine tr_region fun _ _ _ => ?_
    iterate 3 refine pu rfl rfl rfl rfl rfl ?_
    refine stg rfl rfl rfl rfl rfl (fun hb => by (have hq := hb; try simp only [zb1, zb2, zb3, zb4, zb5, zb6, zb7, zb8, zb9, zb10] at hq); exact rMove rfl rfl) ?_
    refine stg rfl rfl rfl rfl rfl (fun hb => by (have hq := hb; try simp only [zb1, zb2, zb3, zb4, zb5, zb6, zb7, zb8, zb9, zb10] at hq); exact rGtr rfl (evg rfl hb) rfl) ?_
    refine st rfl rfl rfl rfl (rOrB rfl rfl rfl rfl) ?_
    refine tr_cond_bool rfl (fun h3 => ?_) (fun h3 => ?_)
    · try simp only [zb1, zb2, zb3, zb4, zb5, zb6, zb7, zb8, zb9, zb10] at h3
      refine tr_seq ?_
      refine tr_region fun _ _ _ => ?_
      refine pu rfl rfl rfl rfl rfl ?_
      exact tr_ret ⟨trivial, _, _, rfl, ⟨by rw [rootArgs, if_neg (by omega), if_pos (by omega)], rfl⟩, CSub.nil _, trivial⟩
    · try simp only [zb1, zb2, zb3, zb4, zb5, zb6, zb7, zb8, zb9, zb10] at h3
      refine tr_skip ?_
      refine tr_seq ?_
      refine tr_seq ?_
      refine tr_region fun _ _ _ => ?_
      refine st rfl rfl rfl rfl (rLdS rfl rfl rfl) ?_
      refine pu rfl rfl rfl rfl rfl ?_
      refine ef rfl rfl (eCallV rfl rfl rfl (ref_Root _ _ _ _ _ (by rcases hch with h | h; exact h.1; exact absurd (h.2 ▸ h1 : (1 : Int) = 0) (by decide)) _) ⟨rfl, rfl, trivial⟩ ?_) 
      refine pu rfl rfl rfl rfl rfl ?_
      refine tr_cond_bool rfl (fun h5 => ?_) (fun h5 => ?_)
      · try simp only [zb1, zb2, zb3, zb4, zb5, zb6, zb7, zb8, zb9, zb10] at h5
        refine tr_seq ?_
        refine tr_region fun _ _ _ => ?_
        refine pu rfl rfl rfl rfl rfl ?_
        exact tr_ret ⟨trivial, _, _, rfl, ⟨by rw [rootArgs, if_neg (by omega), if_neg (by omega), if_pos h5], rfl⟩, CSub.nil _, trivial⟩
      · try simp only [zb1, zb2, zb3, zb4, zb5, zb6, zb7, zb8, zb9, zb10] at h5
        refine tr_skip ?_
        refine tr_seq ?_
        refine tr_region fun _ _ _ => ?_
        refine pu rfl rfl rfl rfl rfl ?_
        exact tr_ret ⟨trivial, _, _, rfl, ⟨by rw [rootArgs, if_neg (by omega), if_neg (by omega), if_neg h5], rfl⟩, CSub.nil _, trivial⟩

end Go.Proofs.Ytancpcmiimcdhaa

/-
  THE FIELD CHECK OF THE REFERENCE. One sentence: what the reference says of a description.
  Conditions: each theorem's own, written out in it.
-/
import Derived.Test.YtancpcmiimcdhaaFld2
set_option linter.unusedSimpArgs false
set_option linter.unusedVariables false
namespace Go.Proofs.Ytancpcmiimcdhaa
open Go.RowKit

theorem ref_divides_ent : Enters Try.prog 59 := enters_of Try.func59 (by kernel_rfl) (by kernel_rfl)
theorem ref_divides (A : Option Addr) (ln c : Nat) (low : List Int) (B : Option Addr) (cB : Nat) (mod : List Int) (p : Int) (hp : 2 ≤ p) (hp2 : p ≤ 256) (hln : ln = low.length) (h1 : 1 ≤ low.length) (h2 : 2 * low.length ≤ mod.length) (h9 : mod.length ≤ 64) (hlow : AllIn p low) (hmod : AllIn p mod) :
    Pure Try.prog 59 #[.slice A ln c, .slice B mod.length cB, .int .i64 p] [ro A (ints low), ro B (ints mod)] (isV (.bool (bDiv p low mod))) := by
  have hlen0 : ([] ++ mod ++ [(1 : Int)]).length = mod.length + 1 := by simp
  have hcast : (ln : Int) = low.length := by omega
  have hin0 : AllIn p (mod ++ [(1 : Int)]) := fun z hz => by
    rcases List.mem_append.1 hz with h | h
    · exact hmod z h
    · simp at h; omega
  refine pure_of (args := [.slice A ln c, .slice B mod.length cB, .int .i64 p]) 78 Try.func59 rfl rfl rfl ref_divides_ent ⟨id, id, trivial⟩ (fun w0 => ?_)
  refine tr_seq ?_
  refine tr_region fun _ _ _ => ?_
  refine pu rfl rfl rfl rfl rfl ?_
  refine tr_seq ?_
  refine tr_region fun _ _ _ => ?_
  refine pu rfl rfl rfl rfl rfl ?_
  refine st rfl rfl rfl rfl (rLen rfl rfl) ?_
  rw [hcast]
  refine pu rfl rfl rfl rfl rfl ?_
  refine tr_seq ?_
  refine tr_region fun _ _ _ => ?_
  refine ef rfl rfl (eLit0I rfl rfl rfl  (fun A2 => ?_)) 
  refine pu rfl rfl rfl rfl rfl ?_
  refine ef rfl rfl (eAppI rfl rfl rfl rfl rfl (by first | rfl | simp) (by first | rfl | simp) (by first | omega | (simp; omega)) (fun A2a c2a => ?_)) 
  refine pu rfl rfl rfl rfl rfl ?_
  refine tr_seq ?_
  refine tr_region fun _ _ _ => ?_
  refine pu rfl rfl rfl rfl rfl ?_
  refine ef rfl rfl (eLit1I rfl rfl rfl rfl (fun A3 => ?_)) 
  refine ef rfl rfl (eAppI rfl rfl rfl rfl rfl (by first | rfl | simp) (by first | rfl | simp) (by first | omega | (simp; omega)) (fun A3a c3a => ?_)) 
  refine pu rfl rfl rfl rfl rfl ?_
  refine tr_seq ?_
  refine tr_seq ?_
  refine tr_region fun _ _ _ => ?_
  rw [hlen0]
  refine pu rfl rfl rfl rfl rfl ?_
  refine st rfl rfl rfl rfl (rLen rfl rfl) ?_
  refine st rfl rfl rfl rfl (rSub rfl rfl rfl (by omega) (by omega)) ?_
  refine pu rfl rfl rfl rfl rfl ?_
  refine tr_block ?_
  refine tr_loop2 (fun (i : Int) (r : List Int) => [(0, .slice A ln c), (2, .int .i64 p), (7, .int .i64 low.length), (8, .slice A3a (mod.length + 1) c3a), (9, .int .i64 i)]) (fun (i : Int) (r : List Int) => [ow A3a 3 c3a (ints r), ro A (ints low)]) (fun (i : Int) (r : List Int) => (low.length : Int) - 1 ≤ i ∧ i ≤ mod.length ∧ r.length = mod.length + 1 ∧ AllIn p r ∧ dloop p low (i + 1 - low.length).toNat r = divL p low mod) (fun (i : Int) (r : List Int) => (i + 1 - low.length).toNat) (((mod.length + 1 : Nat) : Int) - 1) (mod ++ [1]) ⟨rfl, rfl, rfl, rfl, rfl, trivial⟩ (by rw [show ([] ++ mod ++ [(1 : Int)]) = mod ++ [1] by simp]; exact cs _ _) (⟨by omega, by omega, by simp, hin0, by unfold divL; congr 1; omega⟩) (fun i r hI => ?_)
  obtain ⟨hi0, hi1, hrl, hri, hrd⟩ := hI
  have hgi := hri.get (by omega) i.toNat
  refine tr_seq ?_
  refine tr_seq ?_
  refine tr_region fun _ _ _ => ?_
  iterate 3 refine pu rfl rfl rfl rfl rfl ?_
  refine tr_cond_bool rfl (fun h5 => ?_) (fun h5 => ?_)
  · try simp only [zb1, zb2, zb3, zb4, zb5, zb6, zb7, zb8, zb9, zb10] at h5
    refine tr_skip ?_
    refine tr_seq ?_
    refine tr_block ?_
    refine tr_seq ?_
    refine tr_region fun _ _ _ => ?_
    iterate 2 refine pu rfl rfl rfl rfl rfl ?_
    refine st rfl rfl rfl rfl (rIdxI rfl rfl rfl (by omega) (by omega) (by omega)) ?_
    refine st rfl rfl rfl rfl (rLdI rfl rfl (by omega)) ?_
    refine pu rfl rfl rfl rfl rfl ?_
    refine tr_seq ?_
    refine tr_seq ?_
    refine tr_region fun _ _ _ => ?_
    refine pu rfl rfl rfl rfl rfl ?_
    refine tr_block ?_
    refine tr_loop2 (fun (j : Int) (r2 : List Int) => [(0, .slice A ln c), (2, .int .i64 p), (7, .int .i64 low.length), (8, .slice A3a (mod.length + 1) c3a), (9, .int .i64 i), (10, .int .i64 (r.getD i.toNat 0)), (11, .int .i64 j)]) (fun (j : Int) (r2 : List Int) => [ow A3a 3 c3a (ints r2), ro A (ints low)]) (fun (j : Int) (r2 : List Int) => (0 ≤ j ∧ j ≤ low.length) ∧ r2.length = mod.length + 1 ∧ AllIn p r2 ∧ (∀ k : Nat, i - low.length ≤ k → (k : Int) < i - low.length + j → r2.getD k 0 = (r.getD k 0 + (p - r.getD i.toNat 0) * low.getD (k + low.length - i.toNat) 0) % p) ∧ ∀ k : Nat, ¬ (i - low.length ≤ k ∧ (k : Int) < i - low.length + j) → r2.getD k 0 = r.getD k 0) (fun (j : Int) (r2 : List Int) => (low.length - j).toNat) (0) (r) ⟨rfl, rfl, rfl, rfl, rfl, rfl, rfl, trivial⟩ (by first | exact cs _ _ | exact CSub.refl _) (⟨⟨by omega, by omega⟩, hrl, hri, fun k k0 k1 => by omega, fun k _ => rfl⟩) (fun j r2 hI => ?_)
    obtain ⟨⟨hj0, hj1⟩, hr2l, hr2i, hdone, htodo⟩ := hI
    have hg1 := hlow.get (by omega) j.toNat
    have hg2 := hr2i.get (by omega) (i - low.length + j).toNat
    have hmb := mul_bd0 (p - r.getD i.toNat 0) (low.getD j.toNat 0) 256 256 (by omega) (by omega) (by omega) (by omega)
    have hv0 := Int.emod_nonneg (r2.getD (i - low.length + j).toNat 0 + (p - r.getD i.toNat 0) * low.getD j.toNat 0) (show p ≠ 0 by omega)
    have hv1 := Int.emod_lt_of_pos (r2.getD (i - low.length + j).toNat 0 + (p - r.getD i.toNat 0) * low.getD j.toNat 0) (show 0 < p by omega)
    refine tr_seq ?_
    refine tr_seq ?_
    refine tr_region fun _ _ _ => ?_
    iterate 3 refine pu rfl rfl rfl rfl rfl ?_
    refine tr_cond_bool rfl (fun h9 => ?_) (fun h9 => ?_)
    · try simp only [zb1, zb2, zb3, zb4, zb5, zb6, zb7, zb8, zb9, zb10] at h9
      refine tr_skip ?_
      refine tr_seq ?_
      refine tr_block ?_
      refine tr_draw [0, 1, 2, 3, 4, 5, 6, 7, 8, 9, 10, 11, 12, 13, 14, 15, 16, 17, 18, 19, 20, 21, 22, 23, 24, 25] [26] mixed (by kernel_rfl) fun _ _ _ => ?_
      iterate 3 refine pu rfl rfl rfl rfl rfl ?_
      refine st rfl rfl rfl rfl (rSub rfl rfl rfl (by omega) (by omega)) ?_
      refine pu rfl rfl rfl rfl rfl ?_
      refine st rfl rfl rfl rfl (rAdd rfl rfl rfl (by omega) (by omega)) ?_
      iterate 3 refine pu rfl rfl rfl rfl rfl ?_
      refine st rfl rfl rfl rfl (rSub rfl rfl rfl (by omega) (by omega)) ?_
      refine pu rfl rfl rfl rfl rfl ?_
      refine st rfl rfl rfl rfl (rAdd rfl rfl rfl (by omega) (by omega)) ?_
      refine st rfl rfl rfl rfl (rIdxI rfl rfl rfl (by omega) (by omega) (by omega)) ?_
      refine st rfl rfl rfl rfl (rLdI rfl rfl (by omega)) ?_
      iterate 2 refine pu rfl rfl rfl rfl rfl ?_
      refine st rfl rfl rfl rfl (rSub rfl rfl rfl (by omega) (by omega)) ?_
      iterate 2 refine pu rfl rfl rfl rfl rfl ?_
      refine st rfl rfl rfl rfl (rIdxI rfl rfl rfl (by omega) (by omega) (by omega)) ?_
      refine st rfl rfl rfl rfl (rLdI rfl rfl (by omega)) ?_
      refine st rfl rfl rfl rfl (rMul rfl rfl rfl (by omega) (by omega)) ?_
      refine st rfl rfl rfl rfl (rAdd rfl rfl rfl (by omega) (by omega)) ?_
      refine pu rfl rfl rfl rfl rfl ?_
      refine st rfl rfl rfl rfl (rRem rfl rfl rfl (by omega) (by omega)) ?_
      refine st rfl rfl rfl rfl (rIdxI rfl rfl rfl (by omega) (by omega) (by omega)) ?_
      refine ef rfl rfl (eStI rfl rfl rfl rfl (by omega) ?_) 
      refine tr_region fun _ _ _ => ?_
      refine pu rfl rfl rfl rfl rfl ?_
      refine st rfl rfl rfl rfl (rAdd rfl rfl rfl (by omega) (by omega)) ?_
      refine pu rfl rfl rfl rfl rfl ?_
      refine ⟨j + 1, r2.set (i - low.length + j).toNat ((r2.getD (i - low.length + j).toNat 0 + (p - r.getD i.toNat 0) * low.getD j.toNat 0) % p), ⟨rfl, rfl, rfl, rfl, rfl, rfl, rfl, trivial⟩, by first | exact cs _ _ | exact CSub.refl _, ?_⟩
      refine ⟨⟨⟨by omega, by omega⟩, by simpa using hr2l, hr2i.set ⟨hv0, hv1⟩ _, fun k k0 k1 => ?_, fun k hk => ?_⟩, by omega⟩
      · rw [getD_set]
        by_cases hkk : (i - low.length + j).toNat = k
        · rw [if_pos ⟨hkk, by omega⟩, hkk, htodo k (by omega), show k + low.length - i.toNat = j.toNat by omega]
        · rw [if_neg (by omega)]; exact hdone k k0 (by omega)
      · rw [getD_set, if_neg (by omega)]
        exact htodo k (by omega)
    · try simp only [zb1, zb2, zb3, zb4, zb5, zb6, zb7, zb8, zb9, zb10] at h9
      refine tr_exit ?_
      refine tr_region fun _ _ _ => ?_
      iterate 2 refine pu rfl rfl rfl rfl rfl ?_
      refine st rfl rfl rfl rfl (rIdxI rfl rfl rfl (by omega) (by omega) (by omega)) ?_
      refine ef rfl rfl (eStI rfl rfl rfl rfl (by omega) ?_) 
      refine tr_region fun _ _ _ => ?_
      refine pu rfl rfl rfl rfl rfl ?_
      refine st rfl rfl rfl rfl (rSub rfl rfl rfl (by omega) (by omega)) ?_
      refine pu rfl rfl rfl rfl rfl ?_
      refine ⟨i - 1, r2.set i.toNat 0, ⟨rfl, rfl, rfl, rfl, rfl, trivial⟩, by first | exact cs _ _ | exact CSub.refl _, ?_⟩
      have hjd : j = low.length := by omega
      have hset : r2.set i.toNat 0 = dstep p low r i.toNat := dstep_of (by simp; omega) (fun k hk => by
        rw [getD_set]
        unfold dent
        by_cases hki : i.toNat = k
        · rw [if_pos ⟨hki, by omega⟩, if_pos hki.symm]
        · rw [if_neg (by omega), if_neg (by omega)]
          by_cases hkr : i.toNat ≤ k + low.length ∧ k < i.toNat
          · rw [if_pos hkr]; exact hdone k (by omega) (by omega)
          · rw [if_neg hkr]; exact htodo k (by omega))
      refine ⟨⟨by omega, by omega, by simp; omega, by rw [hset]; exact dstep_in (by omega) hri, ?_⟩, by omega⟩
      rw [hset, ← hrd, show (i + 1 - low.length).toNat = (i - 1 + 1 - low.length).toNat + 1 by omega, dloop, show low.length + (i - 1 + 1 - low.length).toNat = i.toNat by omega]
  · try simp only [zb1, zb2, zb3, zb4, zb5, zb6, zb7, zb8, zb9, zb10] at h5
    refine tr_exit ?_
    refine tr_seq ?_
    refine tr_seq ?_
    have him : i = low.length - 1 := by omega
    rw [him, show ((low.length : Int) - 1 + 1 - low.length).toNat = 0 by omega, dloop] at hrd
    refine tr_region fun _ _ _ => ?_
    refine pu rfl rfl rfl rfl rfl ?_
    refine tr_block ?_
    refine tr_loop1 (fun (k : Int) => [(8, .slice A3a (mod.length + 1) c3a), (12, .int .i64 k)]) (fun (k : Int) => [ow A3a 3 c3a (ints r)]) (fun (k : Int) => 0 ≤ k ∧ k ≤ mod.length + 1 ∧ ∀ n : Nat, (n : Int) < k → r.getD n 0 = 0) (fun (k : Int) => (mod.length + 1 - k).toNat) (0) ⟨rfl, rfl, trivial⟩ (by first | exact cs _ _ | exact CSub.refl _) (⟨by omega, by omega, fun n hn => by omega⟩) (fun k hI => ?_)
    obtain ⟨hk0, hk1, hk2⟩ := hI
    refine tr_seq ?_
    refine tr_seq ?_
    refine tr_region fun _ _ _ => ?_
    iterate 2 refine pu rfl rfl rfl rfl rfl ?_
    refine st rfl rfl rfl rfl (rLen rfl rfl) ?_
    refine pu rfl rfl rfl rfl rfl ?_
    refine tr_cond_bool rfl (fun h14 => ?_) (fun h14 => ?_)
    · try simp only [zb1, zb2, zb3, zb4, zb5, zb6, zb7, zb8, zb9, zb10] at h14
      refine tr_skip ?_
      refine tr_seq ?_
      refine tr_block ?_
      refine tr_seq ?_
      refine tr_region fun _ _ _ => ?_
      iterate 2 refine pu rfl rfl rfl rfl rfl ?_
      refine st rfl rfl rfl rfl (rIdxI rfl rfl rfl (by omega) (by omega) (by omega)) ?_
      refine st rfl rfl rfl rfl (rLdI rfl rfl (by omega)) ?_
      refine pu rfl rfl rfl rfl rfl ?_
      refine tr_cond_bool rfl (fun h16 => ?_) (fun h16 => ?_)
      · try simp only [zb1, zb2, zb3, zb4, zb5, zb6, zb7, zb8, zb9, zb10] at h16
        refine tr_seq ?_
        refine tr_region fun _ _ _ => ?_
        refine pu rfl rfl rfl rfl rfl ?_
        exact tr_ret ⟨trivial, _, _, rfl, ⟨by rw [bDiv_false (k := k.toNat) (by rw [← hrd]; exact h16)], rfl⟩, CSub.nil _, trivial⟩
      · try simp only [zb1, zb2, zb3, zb4, zb5, zb6, zb7, zb8, zb9, zb10] at h16
        refine tr_skip ?_
        refine tr_region fun _ _ _ => ?_
        refine pu rfl rfl rfl rfl rfl ?_
        refine st rfl rfl rfl rfl (rAdd rfl rfl rfl (by omega) (by omega)) ?_
        refine pu rfl rfl rfl rfl rfl ?_
        refine ⟨k + 1, ⟨rfl, rfl, trivial⟩, by first | exact cs _ _ | exact CSub.refl _, ?_⟩
        exact ⟨⟨by omega, by omega, fun n hn => by
          by_cases hnk : (n : Int) = k
          · have : n = k.toNat := by omega
            rw [this]; omega
          · exact hk2 n (by omega)⟩, by omega⟩
    · try simp only [zb1, zb2, zb3, zb4, zb5, zb6, zb7, zb8, zb9, zb10] at h14
      refine tr_exit ?_
      refine tr_seq ?_
      refine tr_region fun _ _ _ => ?_
      refine pu rfl rfl rfl rfl rfl ?_
      exact tr_ret ⟨trivial, _, _, rfl, ⟨by rw [bDiv_true (fun n hn => by rw [← hrd]; exact hk2 n (by rw [← hrd] at hn; omega))], rfl⟩, CSub.nil _, trivial⟩

theorem ref_irr_ent : Enters Try.prog 46 := enters_of Try.func46 (by kernel_rfl) (by kernel_rfl)
theorem ref_irr (B : Option Addr) (cB : Nat) (mod : List Int) (p : Int) (hp : 2 ≤ p) (hp2 : p ≤ 256) (hl2 : 2 ≤ mod.length) (h9 : mod.length ≤ 64) (hq : pw p mod.length ≤ 256) (hmod : AllIn p mod) :
    Pure Try.prog 46 #[.slice B mod.length cB, .int .i64 p] [ro B (ints mod)] (isV (.bool (bIrr p mod))) := by
  refine pure_of (args := [.slice B mod.length cB, .int .i64 p]) 30 Try.func46 rfl rfl rfl ref_irr_ent ⟨id, trivial⟩ (fun w0 => ?_)
  refine tr_seq ?_
  refine tr_region fun _ _ _ => ?_
  refine pu rfl rfl rfl rfl rfl ?_
  refine tr_seq ?_
  refine tr_region fun _ _ _ => ?_
  refine pu rfl rfl rfl rfl rfl ?_
  refine tr_seq ?_
  refine tr_seq ?_
  refine tr_region fun _ _ _ => ?_
  refine pu rfl rfl rfl rfl rfl ?_
  refine tr_block ?_
  refine tr_loop2 (fun (d : Int) (cn : Int) => [(0, .slice B mod.length cB), (1, .int .i64 p), (5, .int .i64 cn), (6, .int .i64 d)]) (fun (d : Int) (cn : Int) => [ro B (ints mod)]) (fun (d : Int) (cn : Int) => 1 ≤ d ∧ 2 * d ≤ mod.length + 2 ∧ cn = pw p (d - 1) ∧ ∀ e : Nat, 1 ≤ e → (e : Int) < d → ∀ v : Int, 0 ≤ v → v < p ^ e → bDiv p (digs p e v) mod = false) (fun (d : Int) (cn : Int) => (mod.length + 2 - d).toNat) (1) (1) ⟨rfl, rfl, rfl, rfl, trivial⟩ (by first | exact cs _ _ | exact CSub.refl _) (⟨by omega, by omega, by simp [pw], fun e e0 e1 => by omega⟩) (fun d cn hI => ?_)
  obtain ⟨hd0, hd1, hcn, hno⟩ := hI
  have hps := pw_succ p (k := d - 1) (by omega)
  rw [show d - 1 + 1 = d by omega] at hps
  have hpd := pw_mono (p := p) (by omega) (a := d) (b := mod.length) (by omega)
  have hpd1 := pw_mono (p := p) (by omega) (a := d - 1) (b := mod.length) (by omega)
  have hpp := pw_pos (p := p) (by omega) (d - 1)
  have hmb := fun h : pw p (d - 1) ≤ 256 => mul_bd0 (pw p (d - 1)) p 256 256 (by omega) h (by omega) (by omega)
  have hmb2 := hmb (Int.le_trans (hpd1 (by omega)) hq)
  rw [← hcn] at hmb2 hps
  refine tr_seq ?_
  refine tr_seq ?_
  refine tr_region fun _ _ _ => ?_
  refine pu rfl rfl rfl rfl rfl ?_
  refine st rfl rfl rfl rfl (rMul rfl rfl rfl (by omega) (by omega)) ?_
  refine pu rfl rfl rfl rfl rfl ?_
  refine st rfl rfl rfl rfl (rLen rfl rfl) ?_
  refine pu rfl rfl rfl rfl rfl ?_
  refine tr_cond_bool rfl (fun h3 => ?_) (fun h3 => ?_)
  · try simp only [zb1, zb2, zb3, zb4, zb5, zb6, zb7, zb8, zb9, zb10] at h3
    refine tr_skip ?_
    refine tr_seq ?_
    refine tr_block ?_
    refine tr_seq ?_
    refine tr_region fun _ _ _ => ?_
    iterate 2 refine pu rfl rfl rfl rfl rfl ?_
    refine st rfl rfl rfl rfl (rMul rfl rfl rfl (by omega) (by omega)) ?_
    refine pu rfl rfl rfl rfl rfl ?_
    refine tr_seq ?_
    refine tr_region fun _ _ _ => ?_
    refine pu rfl rfl rfl rfl rfl ?_
    refine tr_block ?_
    refine tr_loop1 (fun (v : Int) => [(0, .slice B mod.length cB), (1, .int .i64 p), (5, .int .i64 (cn * p)), (6, .int .i64 d), (7, .int .i64 v)]) (fun (v : Int) => [ro B (ints mod)]) (fun (v : Int) => 0 ≤ v ∧ v ≤ cn * p ∧ ∀ v2, 0 ≤ v2 → v2 < v → bDiv p (digs p d.toNat v2) mod = false) (fun (v : Int) => (cn * p - v).toNat) (0) ⟨rfl, rfl, rfl, rfl, rfl, trivial⟩ (by first | exact cs _ _ | exact CSub.refl _) (⟨by omega, by omega, fun v2 h1 h2 => by omega⟩) (fun v hI => ?_)
    obtain ⟨hv0, hv1, hnv⟩ := hI
    have hdl := digs_length p d.toNat v
    have hdi := digs_in (p := p) (by omega) d.toNat v
    refine tr_seq ?_
    refine tr_seq ?_
    refine tr_region fun _ _ _ => ?_
    iterate 3 refine pu rfl rfl rfl rfl rfl ?_
    refine tr_cond_bool rfl (fun h7 => ?_) (fun h7 => ?_)
    · try simp only [zb1, zb2, zb3, zb4, zb5, zb6, zb7, zb8, zb9, zb10] at h7
      refine tr_skip ?_
      refine tr_seq ?_
      refine tr_block ?_
      refine tr_seq ?_
      refine tr_region fun _ _ _ => ?_
      iterate 3 refine pu rfl rfl rfl rfl rfl ?_
      refine ef rfl rfl (eCall1 rfl rfl rfl (ref_digits _ (by omega) (by omega) _ (by omega) (by omega) _ (by omega) (by omega)) ⟨rfl, rfl, rfl, trivial⟩ ?_) 
      rintro _ _ ⟨B9, rfl, rfl⟩
      iterate 2 refine pu rfl rfl rfl rfl rfl ?_
      refine ef rfl rfl (eCallV rfl rfl rfl (ref_divides _ _ _ (digs p d.toNat v) _ _ _ _ hp hp2 (by omega) (by omega) (by omega) (by omega) hdi hmod) ⟨rfl, rfl, rfl, trivial⟩ ?_) 
      refine tr_cond_bool rfl (fun h9 => ?_) (fun h9 => ?_)
      · try simp only [zb1, zb2, zb3, zb4, zb5, zb6, zb7, zb8, zb9, zb10] at h9
        have h9a := h9
        refine tr_seq ?_
        refine tr_region fun _ _ _ => ?_
        refine pu rfl rfl rfl rfl rfl ?_
        exact tr_ret ⟨trivial, _, _, rfl, ⟨by rw [bIrr_false (fun hi => by
          have h5 := hi d.toNat (by omega) (by omega) v hv0 (by rw [← hps] at h7; exact h7)
          rw [h9a] at h5; cases h5)], rfl⟩, CSub.nil _, trivial⟩
      · try simp only [zb1, zb2, zb3, zb4, zb5, zb6, zb7, zb8, zb9, zb10] at h9
        have h9a := h9
        refine tr_skip ?_
        refine tr_region fun _ _ _ => ?_
        refine pu rfl rfl rfl rfl rfl ?_
        refine st rfl rfl rfl rfl (rAdd rfl rfl rfl (by omega) (by omega)) ?_
        refine pu rfl rfl rfl rfl rfl ?_
        refine ⟨v + 1, ⟨rfl, rfl, rfl, rfl, rfl, trivial⟩, by first | exact cs _ _ | exact CSub.refl _, ?_⟩
        exact ⟨⟨by omega, by omega, fun v2 h1 h2 => by
          by_cases hvv : v2 = v
          · rw [hvv]; exact h9a
          · exact hnv v2 h1 (by omega)⟩, by omega⟩
    · try simp only [zb1, zb2, zb3, zb4, zb5, zb6, zb7, zb8, zb9, zb10] at h7
      refine tr_exit ?_
      refine tr_region fun _ _ _ => ?_
      refine pu rfl rfl rfl rfl rfl ?_
      refine st rfl rfl rfl rfl (rAdd rfl rfl rfl (by omega) (by omega)) ?_
      refine pu rfl rfl rfl rfl rfl ?_
      refine ⟨d + 1, cn * p, ⟨rfl, rfl, rfl, rfl, trivial⟩, by first | exact cs _ _ | exact CSub.refl _, ?_⟩
      refine ⟨⟨by omega, by omega, by rw [show d + 1 - 1 = d by omega, hps], fun e e0 e1 v2 v0 v1 => ?_⟩, by omega⟩
      by_cases hed : (e : Int) = d
      · have he : e = d.toNat := by omega
        subst he
        exact hnv v2 v0 (by rw [show v = pw p d by omega]; exact v1)
      · exact hno e e0 (by omega) v2 v0 v1
  · try simp only [zb1, zb2, zb3, zb4, zb5, zb6, zb7, zb8, zb9, zb10] at h3
    refine tr_exit ?_
    refine tr_seq ?_
    refine tr_region fun _ _ _ => ?_
    refine pu rfl rfl rfl rfl rfl ?_
    exact tr_ret ⟨trivial, _, _, rfl, ⟨by rw [bIrr_true (fun e e1 e2 v2 v0 v1 => hno e e1 (by omega) v2 v0 v1)], rfl⟩, CSub.nil _, trivial⟩

theorem ref_fldCheck_ent : Enters Try.prog 32 := enters_of Try.func32 (by kernel_rfl) (by kernel_rfl)
theorem ref_fldCheck (p m : Int) (A : Option Addr) (c : Nat) (mod : List Int) (hl9 : mod.length ≤ 17592186044415) :
    Pure Try.prog 32 #[.agg #[.int .i64 p, .int .i64 m, .slice A mod.length c]] [ro A (ints mod)] (isV (.int .i64 (chkF p m mod))) := by
  have hord := @ord_cases p m
  refine pure_of (args := [.agg #[.int .i64 p, .int .i64 m, .slice A mod.length c]]) 54 Try.func32 rfl rfl rfl ref_fldCheck_ent ⟨id, trivial⟩ (fun w0 => ?_)
  refine tr_seq ?_
  refine tr_region fun _ _ _ => ?_
  refine ef rfl rfl (eBox rfl rfl rfl rfl rfl (fun p0 => ?_)) 
  refine pu rfl rfl rfl rfl rfl ?_
  refine tr_seq ?_
  refine tr_seq ?_
  refine tr_region fun _ _ _ => ?_
  refine st rfl rfl rfl rfl (rLdS rfl rfl rfl) ?_
  refine ef rfl rfl (eCallV rfl rfl rfl (ref_order _ _ _ _ _) ⟨rfl, trivial⟩ ?_) 
  iterate 2 refine pu rfl rfl rfl rfl rfl ?_
  refine stg rfl rfl rfl rfl rfl (fun hb => by (have hq := hb; try simp only [zb1, zb2, zb3, zb4, zb5, zb6, zb7, zb8, zb9, zb10] at hq); exact rFld rfl rfl) ?_
  refine stg rfl rfl rfl rfl rfl (fun hb => by (have hq := hb; try simp only [zb1, zb2, zb3, zb4, zb5, zb6, zb7, zb8, zb9, zb10] at hq); exact rLdF rfl (evg rfl hb) rfl) ?_
  refine efg rfl rfl rfl rfl rfl (fun hb => by (have hq := hb; try simp only [zb1, zb2, zb3, zb4, zb5, zb6, zb7, zb8, zb9, zb10] at hq); exact eCallV rfl rfl rfl (ref_prime _ (by omega) (by omega)) ⟨(evg rfl hb), trivial⟩ ⟨rfl, rfl⟩) ?_
  refine stg rfl rfl rfl rfl rfl (fun hb => by (have hq := hb; try simp only [zb1, zb2, zb3, zb4, zb5, zb6, zb7, zb8, zb9, zb10] at hq); exact rNotB rfl (evg rfl hb)) ?_
  refine st rfl rfl rfl rfl (rOrB rfl rfl rfl rfl) ?_
  refine tr_cond_bool rfl (fun h1 => ?_) (fun h1 => ?_)
  · try simp only [zb1, zb2, zb3, zb4, zb5, zb6, zb7, zb8, zb9, zb10] at h1
    refine tr_seq ?_
    refine tr_region fun _ _ _ => ?_
    refine pu rfl rfl rfl rfl rfl ?_
    have hno : ¬ FldR p m mod := fun h => by
      rcases h1 with h1 | h1
      · exact not_shp_ord h1 h.1
      · rw [bIsP_true h.1.2] at h1; cases h1
    exact tr_ret ⟨trivial, _, _, rfl, ⟨by rw [chkF_no hno], rfl⟩, CSub.nil _, trivial⟩
  · try simp only [zb1, zb2, zb3, zb4, zb5, zb6, zb7, zb8, zb9, zb10] at h1
    have hcc := hord (by omega)
    obtain ⟨hp2, hp9, hm1, hm8, hqq, hoe⟩ := hcc
    have hprime := (bIsP_iff p).1 h1.2
    refine tr_skip ?_
    refine tr_seq ?_
    refine tr_seq ?_
    refine tr_region fun _ _ _ => ?_
    refine st rfl rfl rfl rfl (rFld rfl rfl) ?_
    refine st rfl rfl rfl rfl (rLdF rfl rfl rfl) ?_
    refine pu rfl rfl rfl rfl rfl ?_
    refine tr_cond_bool rfl (fun h3 => ?_) (fun h3 => ?_)
    · try simp only [zb1, zb2, zb3, zb4, zb5, zb6, zb7, zb8, zb9, zb10] at h3
      refine tr_seq ?_
      refine tr_seq ?_
      refine tr_region fun _ _ _ => ?_
      refine st rfl rfl rfl rfl (rFld rfl rfl) ?_
      refine st rfl rfl rfl rfl (rLdF rfl rfl rfl) ?_
      refine st rfl rfl rfl rfl (rLen rfl rfl) ?_
      refine pu rfl rfl rfl rfl rfl ?_
      refine tr_cond_bool rfl (fun h4 => ?_) (fun h4 => ?_)
      · try simp only [zb1, zb2, zb3, zb4, zb5, zb6, zb7, zb8, zb9, zb10] at h4
        refine tr_seq ?_
        refine tr_region fun _ _ _ => ?_
        refine pu rfl rfl rfl rfl rfl ?_
        exact tr_ret ⟨trivial, _, _, rfl, ⟨by rw [chkF_no (fun h => by
          rcases h.1.1.low with h2 | h2
          · rw [h2.2] at h4; exact h4 rfl
          · omega)], rfl⟩, CSub.nil _, trivial⟩
      · try simp only [zb1, zb2, zb3, zb4, zb5, zb6, zb7, zb8, zb9, zb10] at h4
        refine tr_skip ?_
        refine tr_seq ?_
        refine tr_region fun _ _ _ => ?_
        refine pu rfl rfl rfl rfl rfl ?_
        have hm0 : mod = [] := List.eq_nil_of_length_eq_zero (by omega)
        exact tr_ret ⟨trivial, _, _, rfl, ⟨by rw [chkF_ok ⟨⟨⟨hp2, hp9, hm1, hm8, hqq, .inl ⟨h3, hm0⟩, by rw [hm0]; exact fun c hc => by simp at hc⟩, hprime⟩, .inl h3⟩], rfl⟩, CSub.nil _, trivial⟩
    · try simp only [zb1, zb2, zb3, zb4, zb5, zb6, zb7, zb8, zb9, zb10] at h3
      refine tr_skip ?_
      refine tr_seq ?_
      refine tr_seq ?_
      refine tr_region fun _ _ _ => ?_
      refine st rfl rfl rfl rfl (rFld rfl rfl) ?_
      refine st rfl rfl rfl rfl (rLdF rfl rfl rfl) ?_
      refine st rfl rfl rfl rfl (rLen rfl rfl) ?_
      refine st rfl rfl rfl rfl (rFld rfl rfl) ?_
      refine st rfl rfl rfl rfl (rLdF rfl rfl rfl) ?_
      refine pu rfl rfl rfl rfl rfl ?_
      refine tr_cond_bool rfl (fun h7 => ?_) (fun h7 => ?_)
      · try simp only [zb1, zb2, zb3, zb4, zb5, zb6, zb7, zb8, zb9, zb10] at h7
        refine tr_seq ?_
        refine tr_region fun _ _ _ => ?_
        refine pu rfl rfl rfl rfl rfl ?_
        exact tr_ret ⟨trivial, _, _, rfl, ⟨by rw [chkF_no (fun h => by
          rcases h.1.1.low with h2 | h2
          · exact h3 h2.1
          · exact h7 h2.2)], rfl⟩, CSub.nil _, trivial⟩
      · try simp only [zb1, zb2, zb3, zb4, zb5, zb6, zb7, zb8, zb9, zb10] at h7
        refine tr_skip ?_
        refine tr_seq ?_
        refine tr_seq ?_
        refine tr_region fun _ _ _ => ?_
        refine pu rfl rfl rfl rfl rfl ?_
        refine tr_block ?_
        refine tr_loop1 (fun (k : Int) => [(1, .pointer (some p0)), (3, .int .i64 k)]) (fun (k : Int) => [blk p0 36 [.int .i64 p, .int .i64 m, .slice A mod.length c], ro A (ints mod)]) (fun (k : Int) => 0 ≤ k ∧ k ≤ m ∧ AllIn p (mod.take k.toNat)) (fun (k : Int) => (m - k).toNat) (0) ⟨rfl, rfl, trivial⟩ (by first | exact cs _ _ | exact CSub.refl _) (⟨by omega, by omega, fun c hc => by simp at hc⟩) (fun k hI => ?_)
        obtain ⟨hk0, hk1, hkin⟩ := hI
        refine tr_seq ?_
        refine tr_seq ?_
        refine tr_region fun _ _ _ => ?_
        refine pu rfl rfl rfl rfl rfl ?_
        refine st rfl rfl rfl rfl (rFld rfl rfl) ?_
        refine st rfl rfl rfl rfl (rLdF rfl rfl rfl) ?_
        refine pu rfl rfl rfl rfl rfl ?_
        refine tr_cond_bool rfl (fun h10 => ?_) (fun h10 => ?_)
        · try simp only [zb1, zb2, zb3, zb4, zb5, zb6, zb7, zb8, zb9, zb10] at h10
          refine tr_skip ?_
          refine tr_seq ?_
          refine tr_block ?_
          refine tr_seq ?_
          refine tr_draw [0, 1, 2, 3, 4, 5, 6, 7, 8, 9, 10, 11, 12, 13, 14, 15] [] mixed (by kernel_rfl) fun _ _ _ => ?_
          refine st rfl rfl rfl rfl (rFld rfl rfl) ?_
          refine st rfl rfl rfl rfl (rLdF rfl rfl rfl) ?_
          refine pu rfl rfl rfl rfl rfl ?_
          refine st rfl rfl rfl rfl (rIdxI rfl rfl rfl (by omega) (by omega) (by omega)) ?_
          refine st rfl rfl rfl rfl (rLdI rfl rfl (by omega)) ?_
          iterate 2 refine pu rfl rfl rfl rfl rfl ?_
          refine stg rfl rfl rfl rfl rfl (fun hb => by (have hq := hb; try simp only [zb1, zb2, zb3, zb4, zb5, zb6, zb7, zb8, zb9, zb10] at hq); exact rFld rfl rfl) ?_
          refine stg rfl rfl rfl rfl rfl (fun hb => by (have hq := hb; try simp only [zb1, zb2, zb3, zb4, zb5, zb6, zb7, zb8, zb9, zb10] at hq); exact rLdF rfl (evg rfl hb) rfl) ?_
          refine stg rfl rfl rfl rfl rfl (fun hb => by (have hq := hb; try simp only [zb1, zb2, zb3, zb4, zb5, zb6, zb7, zb8, zb9, zb10] at hq); exact rMove rfl rfl) ?_
          refine stg rfl rfl rfl rfl rfl (fun hb => by (have hq := hb; try simp only [zb1, zb2, zb3, zb4, zb5, zb6, zb7, zb8, zb9, zb10] at hq); exact rIdxI rfl (evg rfl hb) (evg rfl hb) (by omega) (by omega) (by omega)) ?_
          refine stg rfl rfl rfl rfl rfl (fun hb => by (have hq := hb; try simp only [zb1, zb2, zb3, zb4, zb5, zb6, zb7, zb8, zb9, zb10] at hq); exact rLdI rfl (evg rfl hb) (by omega)) ?_
          refine stg rfl rfl rfl rfl rfl (fun hb => by (have hq := hb; try simp only [zb1, zb2, zb3, zb4, zb5, zb6, zb7, zb8, zb9, zb10] at hq); exact rFld rfl rfl) ?_
          refine stg rfl rfl rfl rfl rfl (fun hb => by (have hq := hb; try simp only [zb1, zb2, zb3, zb4, zb5, zb6, zb7, zb8, zb9, zb10] at hq); exact rLdF rfl (evg rfl hb) rfl) ?_
          refine stg rfl rfl rfl rfl rfl (fun hb => by (have hq := hb; try simp only [zb1, zb2, zb3, zb4, zb5, zb6, zb7, zb8, zb9, zb10] at hq); exact rGeq rfl (evg rfl hb) (evg rfl hb)) ?_
          refine st rfl rfl rfl rfl (rOrB rfl rfl rfl rfl) ?_
          refine tr_cond_bool rfl (fun h12 => ?_) (fun h12 => ?_)
          · try simp only [zb1, zb2, zb3, zb4, zb5, zb6, zb7, zb8, zb9, zb10] at h12
            refine tr_seq ?_
            refine tr_region fun _ _ _ => ?_
            refine pu rfl rfl rfl rfl rfl ?_
            exact tr_ret ⟨trivial, _, _, rfl, ⟨by rw [chkF_no (fun h => by
              have := h.1.1.ent.get (by omega) k.toNat
              omega)], rfl⟩, CSub.nil _, trivial⟩
          · try simp only [zb1, zb2, zb3, zb4, zb5, zb6, zb7, zb8, zb9, zb10] at h12
            refine tr_skip ?_
            refine tr_region fun _ _ _ => ?_
            refine pu rfl rfl rfl rfl rfl ?_
            refine st rfl rfl rfl rfl (rAdd rfl rfl rfl (by omega) (by omega)) ?_
            refine pu rfl rfl rfl rfl rfl ?_
            refine ⟨k + 1, ⟨rfl, rfl, trivial⟩, by first | exact cs _ _ | exact CSub.refl _, ?_⟩
            refine ⟨⟨by omega, by omega, fun z hz => ?_⟩, by omega⟩
            rw [take_next 0 mod k hk0 (by omega)] at hz
            rcases List.mem_append.1 hz with h | h
            · exact hkin z h
            · simp only [List.mem_singleton] at h
              rw [h]
              omega
        · try simp only [zb1, zb2, zb3, zb4, zb5, zb6, zb7, zb8, zb9, zb10] at h10
          refine tr_exit ?_
          refine tr_seq ?_
          refine tr_seq ?_
          rw [take_len mod k (by omega)] at hkin
          have hml : (mod.length : Int) = m := by omega
          have hqm : pw p mod.length ≤ 256 := by rw [hml]; exact hqq
          have hshp : ShpP p m mod := ⟨⟨hp2, hp9, hm1, hm8, hqq, .inr ⟨by omega, by omega⟩, hkin⟩, hprime⟩
          refine tr_region fun _ _ _ => ?_
          refine st rfl rfl rfl rfl (rFld rfl rfl) ?_
          refine st rfl rfl rfl rfl (rLdF rfl rfl rfl) ?_
          refine st rfl rfl rfl rfl (rFld rfl rfl) ?_
          refine st rfl rfl rfl rfl (rLdF rfl rfl rfl) ?_
          refine ef rfl rfl (eCallV rfl rfl rfl (ref_irr _ _ _ _ (by omega) (by omega) (by omega) (by omega) (by omega) (by assumption)) ⟨rfl, rfl, trivial⟩ ?_) 
          refine st rfl rfl rfl rfl (rNotB rfl rfl) ?_
          refine tr_cond_bool rfl (fun h14 => ?_) (fun h14 => ?_)
          · try simp only [zb1, zb2, zb3, zb4, zb5, zb6, zb7, zb8, zb9, zb10] at h14
            skip
            refine tr_seq ?_
            refine tr_region fun _ _ _ => ?_
            refine pu rfl rfl rfl rfl rfl ?_
            exact tr_ret ⟨trivial, _, _, rfl, ⟨by rw [chkF_no (fun h => by
              rcases h.2 with h2 | h2
              · exact h3 h2
              · rw [bIrr_true h2] at h14; cases h14)], rfl⟩, CSub.nil _, trivial⟩
          · try simp only [zb1, zb2, zb3, zb4, zb5, zb6, zb7, zb8, zb9, zb10] at h14
            refine tr_skip ?_
            refine tr_seq ?_
            refine tr_region fun _ _ _ => ?_
            refine pu rfl rfl rfl rfl rfl ?_
            exact tr_ret ⟨trivial, _, _, rfl, ⟨by rw [chkF_ok ⟨hshp, .inr ((bIrr_iff p mod).1 h14)⟩], rfl⟩, CSub.nil _, trivial⟩

end Go.Proofs.Ytancpcmiimcdhaa

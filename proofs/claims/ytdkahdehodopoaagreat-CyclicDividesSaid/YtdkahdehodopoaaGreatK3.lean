/-
  CYCLICDIVIDES, PART 3 OF 10. One sentence: the texts behind the law CyclicDivides, put together.
  Conditions: each theorem's own, written out in it.
-/
import Derived.ProofKit
import Derived.Deep.Slices
import Derived.SizedLaws
import Derived.OpenShut
import Derived.ShutString
import Derived.ChangeOld
import Derived.RangeFuncNested
import Derived.RangeFuncBound
import Derived.RangeFuncCalls
import Derived.RangeFuncLeaves
import Derived.Shelf.Abstract
import Derived.Shelf.RegionOpen
import Derived.WalkKit
import Derived.OwnWalkIn
import Derived.TacticsInMore
import Derived.LoopNIn
import Derived.LoopIn
import Derived.Test.YtdkahdehodopoaaGreatShelf
import Derived.Sort.OwnSortedInts
import Derived.Test.YtdkahdehodopoaaGreatK2
set_option linter.unusedSimpArgs false
set_option linter.unusedVariables false
set_option linter.unusedSectionVars false
set_option maxRecDepth 100000
namespace Go.Proofs.YtdkahdehodopoaaGreat
open Go.RowKit
theorem ref_divides_ent : Enters Tryz.prog 63 := enters_of Tryz.func63 (by kernel_rfl) (by kernel_rfl)
theorem ref_divides (A : Option Addr) (ln c : Nat) (low : List Int) (B : Option Addr) (cB : Nat) (mod : List Int) (p : Int) (hp : 2 ≤ p) (hp2 : p ≤ 256) (hln : ln = low.length) (h1 : 1 ≤ low.length) (h2 : 2 * low.length ≤ mod.length) (h9 : mod.length ≤ 64) (hlow : AllIn p low) (hmod : AllIn p mod) :
  Pure Tryz.prog 63 #[.slice A ln c, .slice B mod.length cB, .int .i64 p] [ro A (ints low), ro B (ints mod)] (isV (.bool (bDiv p low mod))) := by
 have hlen0 : ([] ++ mod ++ [(1 : Int)]).length = mod.length + 1 := by simp
 have hcast : (ln : Int) = low.length := by omega
 have hin0 : AllIn p (mod ++ [(1 : Int)]) := fun z hz => by
  rcases List.mem_append.1 hz with h | h
  ·exact hmod z h
  ·simp at h; omega
 refine pure_of (args := [.slice A ln c, .slice B mod.length cB, .int .i64 p]) 78 Tryz.func63 rfl rfl rfl ref_divides_ent ⟨id, id, trivial⟩ (fun w0 => ?_)
 refine tS ?_
 refine tR fun _ _ _ => ?_
 refine pV ?_
 refine tS ?_
 refine tR fun _ _ _ => ?_
 refine pV ?_
 refine sV (rLen rfl rfl) ?_
 rw [hcast]
 refine pV ?_
 refine tS ?_
 refine tR fun _ _ _ => ?_
 refine eV (eLit0I rfl rfl rfl  (fun A2 => ?_))
 refine pV ?_
 refine eV (eAppI rfl rfl rfl rfl rfl (by first | rfl | simp) (by first | rfl | simp) (by first | omega | (simp; omega)) (fun A2a c2a => ?_))
 refine pV ?_
 refine tS ?_
 refine tR fun _ _ _ => ?_
 refine pV ?_
 refine eV (eLit1I rfl rfl rfl rfl (fun A3 => ?_))
 refine eV (eAppI rfl rfl rfl rfl rfl (by first | rfl | simp) (by first | rfl | simp) (by first | omega | (simp; omega)) (fun A3a c3a => ?_))
 refine pV ?_
 refine tS ?_
 refine tS ?_
 refine tR fun _ _ _ => ?_
 rw [hlen0]
 refine pV ?_
 refine sV (rLen rfl rfl) ?_
 refine sV (rSub rfl rfl rfl (by omega) (by omega)) ?_
 refine pV ?_
 refine tB ?_
 refine tr_loop2 (fun (i : Int) (r : List Int) => [(0, .slice A ln c), (2, .int .i64 p), (7, .int .i64 low.length), (8, .slice A3a (mod.length + 1) c3a), (9, .int .i64 i)]) (fun (i : Int) (r : List Int) => [ow A3a 3 c3a (ints r), ro A (ints low)]) (fun (i : Int) (r : List Int) => (low.length : Int) - 1 ≤ i ∧ i ≤ mod.length ∧ r.length = mod.length + 1 ∧ AllIn p r ∧ dloop p low (i + 1 - low.length).toNat r = divL p low mod) (fun (i : Int) (r : List Int) => (i + 1 - low.length).toNat) (((mod.length + 1 : Nat) : Int) - 1) (mod ++ [1]) ⟨rfl, rfl, rfl, rfl, rfl, trivial⟩ (by rw [show ([] ++ mod ++ [(1 : Int)]) = mod ++ [1] by simp]; exact cs _ _) (⟨by omega, by omega, by simp, hin0, by unfold divL; congr 1; omega⟩) (fun i r hI => ?_)
 obtain ⟨hi0, hi1, hrl, hri, hrd⟩ := hI
 have hgi := hri.get (by omega) i.toNat
 refine tS ?_
 refine tS ?_
 refine tR fun _ _ _ => ?_
 iterate 3 refine pV ?_
 refine tC rfl (fun h5 => ?_) (fun h5 => ?_)
 ·try simp only [zbA] at h5
  refine tK ?_
  refine tS ?_
  refine tB ?_
  refine tS ?_
  refine tR fun _ _ _ => ?_
  iterate 2 refine pV ?_
  refine sV (rIdxI rfl rfl rfl (by omega) (by omega) (by omega)) ?_
  refine sV (rLdI rfl rfl (by omega)) ?_
  refine pV ?_
  refine tS ?_
  refine tS ?_
  refine tR fun _ _ _ => ?_
  refine pV ?_
  refine tB ?_
  refine tr_loop2 (fun (j : Int) (r2 : List Int) => [(0, .slice A ln c), (2, .int .i64 p), (7, .int .i64 low.length), (8, .slice A3a (mod.length + 1) c3a), (9, .int .i64 i), (10, .int .i64 (r.getD i.toNat 0)), (11, .int .i64 j)]) (fun (j : Int) (r2 : List Int) => [ow A3a 3 c3a (ints r2), ro A (ints low)]) (fun (j : Int) (r2 : List Int) => (0 ≤ j ∧ j ≤ low.length) ∧ r2.length = mod.length + 1 ∧ AllIn p r2 ∧ (∀ k : Nat, i - low.length ≤ k → (k : Int) < i - low.length + j → r2.getD k 0 = (r.getD k 0 + (p - r.getD i.toNat 0) * low.getD (k + low.length - i.toNat) 0) % p) ∧ ∀ k : Nat, ¬ (i - low.length ≤ k ∧ (k : Int) < i - low.length + j) → r2.getD k 0 = r.getD k 0) (fun (j : Int) (r2 : List Int) => (low.length - j).toNat) (0) (r) ⟨rfl, rfl, rfl, rfl, rfl, rfl, rfl, trivial⟩ (by first | exact cs _ _ | exact CSub.refl _) (⟨⟨by omega, by omega⟩, hrl, hri, fun k k0 k1 => by omega, fun k _ => rfl⟩) (fun j r2 hI => ?_)
  obtain ⟨⟨hj0, hj1⟩, hr2l, hr2i, hdone, htodo⟩ := hI
  have hg1 := hlow.get (by omega) j.toNat
  have hg2 := hr2i.get (by omega) (i - low.length + j).toNat
  have hmb := mul_bd0 (p - r.getD i.toNat 0) (low.getD j.toNat 0) 256 256 (by omega) (by omega) (by omega) (by omega)
  have hv0 := Int.emod_nonneg (r2.getD (i - low.length + j).toNat 0 + (p - r.getD i.toNat 0) * low.getD j.toNat 0) (show p ≠ 0 by omega)
  have hv1 := Int.emod_lt_of_pos (r2.getD (i - low.length + j).toNat 0 + (p - r.getD i.toNat 0) * low.getD j.toNat 0) (show 0 < p by omega)
  refine tS ?_
  refine tS ?_
  refine tR fun _ _ _ => ?_
  iterate 3 refine pV ?_
  refine tC rfl (fun h9 => ?_) (fun h9 => ?_)
  ·try simp only [zbA] at h9
   refine tK ?_
   refine tS ?_
   refine tB ?_
   refine tr_draw [0, 1, 2, 3, 4, 5, 6, 7, 8, 9, 10, 11, 12, 13, 14, 15, 16, 17, 18, 19, 20, 21, 22, 23, 24, 25] [26] mixed (by kernel_rfl) fun _ _ _ => ?_
   iterate 3 refine pV ?_
   refine sV (rSub rfl rfl rfl (by omega) (by omega)) ?_
   refine pV ?_
   refine sV (rAdd rfl rfl rfl (by omega) (by omega)) ?_
   iterate 3 refine pV ?_
   refine sV (rSub rfl rfl rfl (by omega) (by omega)) ?_
   refine pV ?_
   refine sV (rAdd rfl rfl rfl (by omega) (by omega)) ?_
   refine sV (rIdxI rfl rfl rfl (by omega) (by omega) (by omega)) ?_
   refine sV (rLdI rfl rfl (by omega)) ?_
   iterate 2 refine pV ?_
   refine sV (rSub rfl rfl rfl (by omega) (by omega)) ?_
   iterate 2 refine pV ?_
   refine sV (rIdxI rfl rfl rfl (by omega) (by omega) (by omega)) ?_
   refine sV (rLdI rfl rfl (by omega)) ?_
   refine sV (rMul rfl rfl rfl (by omega) (by omega)) ?_
   refine sV (rAdd rfl rfl rfl (by omega) (by omega)) ?_
   refine pV ?_
   refine sV (rRem rfl rfl rfl (by omega) (by omega)) ?_
   refine sV (rIdxI rfl rfl rfl (by omega) (by omega) (by omega)) ?_
   refine eV (eStI rfl rfl rfl rfl (by omega) ?_)
   refine tR fun _ _ _ => ?_
   refine pV ?_
   refine sV (rAdd rfl rfl rfl (by omega) (by omega)) ?_
   refine pV ?_
   refine ⟨j + 1, r2.set (i - low.length + j).toNat ((r2.getD (i - low.length + j).toNat 0 + (p - r.getD i.toNat 0) * low.getD j.toNat 0) % p), ⟨rfl, rfl, rfl, rfl, rfl, rfl, rfl, trivial⟩, by first | exact cs _ _ | exact CSub.refl _, ?_⟩
   refine ⟨⟨⟨by omega, by omega⟩, by simpa using hr2l, hr2i.set ⟨hv0, hv1⟩ _, fun k k0 k1 => ?_, fun k hk => ?_⟩, by omega⟩
   ·rw [getD_set]
    by_cases hkk : (i - low.length + j).toNat = k
    ·rw [if_pos ⟨hkk, by omega⟩, hkk, htodo k (by omega), show k + low.length - i.toNat = j.toNat by omega]
    ·rw [if_neg (by omega)]; exact hdone k k0 (by omega)
   ·rw [getD_set, if_neg (by omega)]
    exact htodo k (by omega)
  ·try simp only [zbA] at h9
   refine tE ?_
   refine tR fun _ _ _ => ?_
   iterate 2 refine pV ?_
   refine sV (rIdxI rfl rfl rfl (by omega) (by omega) (by omega)) ?_
   refine eV (eStI rfl rfl rfl rfl (by omega) ?_)
   refine tR fun _ _ _ => ?_
   refine pV ?_
   refine sV (rSub rfl rfl rfl (by omega) (by omega)) ?_
   refine pV ?_
   refine ⟨i - 1, r2.set i.toNat 0, ⟨rfl, rfl, rfl, rfl, rfl, trivial⟩, by first | exact cs _ _ | exact CSub.refl _, ?_⟩
   have hjd : j = low.length := by omega
   have hset : r2.set i.toNat 0 = dstep p low r i.toNat := dstep_of (by simp; omega) (fun k hk => by
    rw [getD_set]
    unfold dent
    by_cases hki : i.toNat = k
    ·rw [if_pos ⟨hki, by omega⟩, if_pos hki.symm]
    ·rw [if_neg (by omega), if_neg (by omega)]
     by_cases hkr : i.toNat ≤ k + low.length ∧ k < i.toNat
     ·rw [if_pos hkr]; exact hdone k (by omega) (by omega)
     ·rw [if_neg hkr]; exact htodo k (by omega))
   refine ⟨⟨by omega, by omega, by simp; omega, by rw [hset]; exact dstep_in (by omega) hri, ?_⟩, by omega⟩
   rw [hset, ← hrd, show (i + 1 - low.length).toNat = (i - 1 + 1 - low.length).toNat + 1 by omega, dloop, show low.length + (i - 1 + 1 - low.length).toNat = i.toNat by omega]
 ·try simp only [zbA] at h5
  refine tE ?_
  refine tS ?_
  refine tS ?_
  have him : i = low.length - 1 := by omega
  rw [him, show ((low.length : Int) - 1 + 1 - low.length).toNat = 0 by omega, dloop] at hrd
  refine tR fun _ _ _ => ?_
  refine pV ?_
  refine tB ?_
  refine tr_loop1 (fun (k : Int) => [(8, .slice A3a (mod.length + 1) c3a), (12, .int .i64 k)]) (fun (k : Int) => [ow A3a 3 c3a (ints r)]) (fun (k : Int) => 0 ≤ k ∧ k ≤ mod.length + 1 ∧ ∀ n : Nat, (n : Int) < k → r.getD n 0 = 0) (fun (k : Int) => (mod.length + 1 - k).toNat) (0) ⟨rfl, rfl, trivial⟩ (by first | exact cs _ _ | exact CSub.refl _) (⟨by omega, by omega, fun n hn => by omega⟩) (fun k hI => ?_)
  obtain ⟨hk0, hk1, hk2⟩ := hI
  refine tS ?_
  refine tS ?_
  refine tR fun _ _ _ => ?_
  iterate 2 refine pV ?_
  refine sV (rLen rfl rfl) ?_
  refine pV ?_
  refine tC rfl (fun h14 => ?_) (fun h14 => ?_)
  ·try simp only [zbA] at h14
   refine tK ?_
   refine tS ?_
   refine tB ?_
   refine tS ?_
   refine tR fun _ _ _ => ?_
   iterate 2 refine pV ?_
   refine sV (rIdxI rfl rfl rfl (by omega) (by omega) (by omega)) ?_
   refine sV (rLdI rfl rfl (by omega)) ?_
   refine pV ?_
   refine tC rfl (fun h16 => ?_) (fun h16 => ?_)
   ·try simp only [zbA] at h16
    refine tS ?_
    refine tR fun _ _ _ => ?_
    refine pV ?_
    exact tr_ret ⟨trivial, _, _, rfl, ⟨by rw [bDiv_false (k := k.toNat) (by rw [← hrd]; exact h16)], rfl⟩, CSub.nil _, trivial⟩
   ·try simp only [zbA] at h16
    refine tK ?_
    refine tR fun _ _ _ => ?_
    refine pV ?_
    refine sV (rAdd rfl rfl rfl (by omega) (by omega)) ?_
    refine pV ?_
    refine ⟨k + 1, ⟨rfl, rfl, trivial⟩, by first | exact cs _ _ | exact CSub.refl _, ?_⟩
    exact ⟨⟨by omega, by omega, fun n hn => by
     by_cases hnk : (n : Int) = k
     ·have : n = k.toNat := by omega
      rw [this]; omega
     ·exact hk2 n (by omega)⟩, by omega⟩
  ·try simp only [zbA] at h14
   refine tE ?_
   refine tS ?_
   refine tR fun _ _ _ => ?_
   refine pV ?_
   exact tr_ret ⟨trivial, _, _, rfl, ⟨by rw [bDiv_true (fun n hn => by rw [← hrd]; exact hk2 n (by rw [← hrd] at hn; omega))], rfl⟩, CSub.nil _, trivial⟩
theorem ref_irr_ent : Enters Tryz.prog 32 := enters_of Tryz.func32 (by kernel_rfl) (by kernel_rfl)
theorem ref_irr (B : Option Addr) (cB : Nat) (mod : List Int) (p : Int) (hp : 2 ≤ p) (hp2 : p ≤ 256) (hl2 : 2 ≤ mod.length) (h9 : mod.length ≤ 64) (hq : pw p mod.length ≤ 256) (hmod : AllIn p mod) :
  Pure Tryz.prog 32 #[.slice B mod.length cB, .int .i64 p] [ro B (ints mod)] (isV (.bool (bIrr p mod))) := by
 refine pure_of (args := [.slice B mod.length cB, .int .i64 p]) 30 Tryz.func32 rfl rfl rfl ref_irr_ent ⟨id, trivial⟩ (fun w0 => ?_)
 refine tS ?_
 refine tR fun _ _ _ => ?_
 refine pV ?_
 refine tS ?_
 refine tR fun _ _ _ => ?_
 refine pV ?_
 refine tS ?_
 refine tS ?_
 refine tR fun _ _ _ => ?_
 refine pV ?_
 refine tB ?_
 refine tr_loop2 (fun (d : Int) (cn : Int) => [(0, .slice B mod.length cB), (1, .int .i64 p), (5, .int .i64 cn), (6, .int .i64 d)]) (fun (d : Int) (cn : Int) => [ro B (ints mod)]) (fun (d : Int) (cn : Int) => 1 ≤ d ∧ 2 * d ≤ mod.length + 2 ∧ cn = pw p (d - 1) ∧ ∀ e : Nat, 1 ≤ e → (e : Int) < d → ∀ v : Int, 0 ≤ v → v < p ^ e → bDiv p (digs p e v) mod = false) (fun (d : Int) (cn : Int) => (mod.length + 2 - d).toNat) (1) (1) ⟨rfl, rfl, rfl, rfl, trivial⟩ (by first | exact cs _ _ | exact CSub.refl _) (⟨by omega, by omega, by simp [pw], fun e e0 e1 => by omega⟩) (fun d cn hI => ?_)
 obtain ⟨hd0, hd1, hcn, hno⟩ := hI
 have hps := pw_succ p (k := d - 1) (by omega)
 rw [show d - 1 + 1 = d by omega] at hps
 have hpd := pw_mono (p := p) (by omega) (a := d) (b := mod.length) (by omega)
 have hpd1 := pw_mono (p := p) (by omega) (a := d - 1) (b := mod.length) (by omega)
 have hpp := pw_pos (p := p) (by omega) (d - 1)
 have hmb := fun h : pw p (d - 1) ≤ 256 => mul_bd0 (pw p (d - 1)) p 256 256 (by omega) h (by omega) (by omega)
 have hmb2 := hmb (Int.le_trans (hpd1 (by omega)) hq)
 rw [← hcn] at hmb2 hps
 refine tS ?_
 refine tS ?_
 refine tR fun _ _ _ => ?_
 refine pV ?_
 refine sV (rMul rfl rfl rfl (by omega) (by omega)) ?_
 refine pV ?_
 refine sV (rLen rfl rfl) ?_
 refine pV ?_
 refine tC rfl (fun h3 => ?_) (fun h3 => ?_)
 ·try simp only [zbA] at h3
  refine tK ?_
  refine tS ?_
  refine tB ?_
  refine tS ?_
  refine tR fun _ _ _ => ?_
  iterate 2 refine pV ?_
  refine sV (rMul rfl rfl rfl (by omega) (by omega)) ?_
  refine pV ?_
  refine tS ?_
  refine tR fun _ _ _ => ?_
  refine pV ?_
  refine tB ?_
  refine tr_loop1 (fun (v : Int) => [(0, .slice B mod.length cB), (1, .int .i64 p), (5, .int .i64 (cn * p)), (6, .int .i64 d), (7, .int .i64 v)]) (fun (v : Int) => [ro B (ints mod)]) (fun (v : Int) => 0 ≤ v ∧ v ≤ cn * p ∧ ∀ v2, 0 ≤ v2 → v2 < v → bDiv p (digs p d.toNat v2) mod = false) (fun (v : Int) => (cn * p - v).toNat) (0) ⟨rfl, rfl, rfl, rfl, rfl, trivial⟩ (by first | exact cs _ _ | exact CSub.refl _) (⟨by omega, by omega, fun v2 h1 h2 => by omega⟩) (fun v hI => ?_)
  obtain ⟨hv0, hv1, hnv⟩ := hI
  have hdl := digs_length p d.toNat v
  have hdi := digs_in (p := p) (by omega) d.toNat v
  refine tS ?_
  refine tS ?_
  refine tR fun _ _ _ => ?_
  iterate 3 refine pV ?_
  refine tC rfl (fun h7 => ?_) (fun h7 => ?_)
  ·try simp only [zbA] at h7
   refine tK ?_
   refine tS ?_
   refine tB ?_
   refine tS ?_
   refine tR fun _ _ _ => ?_
   iterate 3 refine pV ?_
   refine eV (eCall1 rfl rfl rfl (ref_digits _ (by omega) (by omega) _ (by omega) (by omega) _ (by omega) (by omega)) ⟨rfl, rfl, rfl, trivial⟩ ?_)
   rintro _ _ ⟨B9, rfl, rfl⟩
   iterate 2 refine pV ?_
   refine eV (eCallV rfl rfl rfl (ref_divides _ _ _ (digs p d.toNat v) _ _ _ _ hp hp2 (by omega) (by omega) (by omega) (by omega) hdi hmod) ⟨rfl, rfl, rfl, trivial⟩ ?_)
   refine tC rfl (fun h9 => ?_) (fun h9 => ?_)
   ·try simp only [zbA] at h9
    have h9a := h9
    refine tS ?_
    refine tR fun _ _ _ => ?_
    refine pV ?_
    exact tr_ret ⟨trivial, _, _, rfl, ⟨by rw [bIrr_false (fun hi => by
     have h5 := hi d.toNat (by omega) (by omega) v hv0 (by rw [← hps] at h7; exact h7)
     rw [h9a] at h5; cases h5)], rfl⟩, CSub.nil _, trivial⟩
   ·try simp only [zbA] at h9
    have h9a := h9
    refine tK ?_
    refine tR fun _ _ _ => ?_
    refine pV ?_
    refine sV (rAdd rfl rfl rfl (by omega) (by omega)) ?_
    refine pV ?_
    refine ⟨v + 1, ⟨rfl, rfl, rfl, rfl, rfl, trivial⟩, by first | exact cs _ _ | exact CSub.refl _, ?_⟩
    exact ⟨⟨by omega, by omega, fun v2 h1 h2 => by
     by_cases hvv : v2 = v
     ·rw [hvv]; exact h9a
     ·exact hnv v2 h1 (by omega)⟩, by omega⟩
  ·try simp only [zbA] at h7
   refine tE ?_
   refine tR fun _ _ _ => ?_
   refine pV ?_
   refine sV (rAdd rfl rfl rfl (by omega) (by omega)) ?_
   refine pV ?_
   refine ⟨d + 1, cn * p, ⟨rfl, rfl, rfl, rfl, trivial⟩, by first | exact cs _ _ | exact CSub.refl _, ?_⟩
   refine ⟨⟨by omega, by omega, by rw [show d + 1 - 1 = d by omega, hps], fun e e0 e1 v2 v0 v1 => ?_⟩, by omega⟩
   by_cases hed : (e : Int) = d
   ·have he : e = d.toNat := by omega
    subst he
    exact hnv v2 v0 (by rw [show v = pw p d by omega]; exact v1)
   ·exact hno e e0 (by omega) v2 v0 v1
 ·try simp only [zbA] at h3
  refine tE ?_
  refine tS ?_
  refine tR fun _ _ _ => ?_
  refine pV ?_
  exact tr_ret ⟨trivial, _, _, rfl, ⟨by rw [bIrr_true (fun e e1 e2 v2 v0 v1 => hno e e1 (by omega) v2 v0 v1)], rfl⟩, CSub.nil _, trivial⟩
theorem ref_fldCheck_ent : Enters Tryz.prog 12 := enters_of Tryz.func12 (by kernel_rfl) (by kernel_rfl)
theorem ref_fldCheck (p m : Int) (A : Option Addr) (c : Nat) (mod : List Int) (hl9 : mod.length ≤ 17592186044415) :
  Pure Tryz.prog 12 #[.agg #[.int .i64 p, .int .i64 m, .slice A mod.length c]] [ro A (ints mod)] (isV (.int .i64 (chkF p m mod))) := by
 have hord := @ord_cases p m
 refine pure_of (args := [.agg #[.int .i64 p, .int .i64 m, .slice A mod.length c]]) 54 Tryz.func12 rfl rfl rfl ref_fldCheck_ent ⟨id, trivial⟩ (fun w0 => ?_)
 refine tS ?_
 refine tR fun _ _ _ => ?_
 refine eV (eBox rfl rfl rfl rfl rfl (fun p0 => ?_))
 refine pV ?_
 refine tS ?_
 refine tS ?_
 refine tR fun _ _ _ => ?_
 refine sV (rLdS rfl rfl rfl) ?_
 refine eV (eCallV rfl rfl rfl (ref_order _ _ _ _ _) ⟨rfl, trivial⟩ ?_)
 iterate 2 refine pV ?_
 refine stg rfl rfl rfl rfl rfl (fun hb => by (have hq := hb; try simp only [zbA] at hq); exact rFld rfl rfl) ?_
 refine stg rfl rfl rfl rfl rfl (fun hb => by (have hq := hb; try simp only [zbA] at hq); exact rLdF rfl (evg rfl hb) rfl) ?_
 refine efg rfl rfl rfl rfl rfl (fun hb => by (have hq := hb; try simp only [zbA] at hq); exact eCallV rfl rfl rfl (ref_prime _ (by omega) (by omega)) ⟨(evg rfl hb), trivial⟩ ⟨rfl, rfl⟩) ?_
 refine stg rfl rfl rfl rfl rfl (fun hb => by (have hq := hb; try simp only [zbA] at hq); exact rNotB rfl (evg rfl hb)) ?_
 refine sV (rOrB rfl rfl rfl rfl) ?_
 refine tC rfl (fun h1 => ?_) (fun h1 => ?_)
 ·try simp only [zbA] at h1
  refine tS ?_
  refine tR fun _ _ _ => ?_
  refine pV ?_
  have hno : ¬ FldR p m mod := fun h => by
   rcases h1 with h1 | h1
   ·exact not_shp_ord h1 h.1
   ·rw [bIsP_true h.1.2] at h1; cases h1
  exact tr_ret ⟨trivial, _, _, rfl, ⟨by rw [chkF_no hno], rfl⟩, CSub.nil _, trivial⟩
 ·try simp only [zbA] at h1
  have hcc := hord (by omega)
  obtain ⟨hp2, hp9, hm1, hm8, hqq, hoe⟩ := hcc
  have hprime := (bIsP_iff p).1 h1.2
  refine tK ?_
  refine tS ?_
  refine tS ?_
  refine tR fun _ _ _ => ?_
  refine sV (rFld rfl rfl) ?_
  refine sV (rLdF rfl rfl rfl) ?_
  refine pV ?_
  refine tC rfl (fun h3 => ?_) (fun h3 => ?_)
  ·try simp only [zbA] at h3
   refine tS ?_
   refine tS ?_
   refine tR fun _ _ _ => ?_
   refine sV (rFld rfl rfl) ?_
   refine sV (rLdF rfl rfl rfl) ?_
   refine sV (rLen rfl rfl) ?_
   refine pV ?_
   refine tC rfl (fun h4 => ?_) (fun h4 => ?_)
   ·try simp only [zbA] at h4
    refine tS ?_
    refine tR fun _ _ _ => ?_
    refine pV ?_
    exact tr_ret ⟨trivial, _, _, rfl, ⟨by rw [chkF_no (fun h => by
     rcases h.1.1.low with h2 | h2
     ·rw [h2.2] at h4; exact h4 rfl
     ·omega)], rfl⟩, CSub.nil _, trivial⟩
   ·try simp only [zbA] at h4
    refine tK ?_
    refine tS ?_
    refine tR fun _ _ _ => ?_
    refine pV ?_
    have hm0 : mod = [] := List.eq_nil_of_length_eq_zero (by omega)
    exact tr_ret ⟨trivial, _, _, rfl, ⟨by rw [chkF_ok ⟨⟨⟨hp2, hp9, hm1, hm8, hqq, .inl ⟨h3, hm0⟩, by rw [hm0]; exact fun c hc => by simp at hc⟩, hprime⟩, .inl h3⟩], rfl⟩, CSub.nil _, trivial⟩
  ·try simp only [zbA] at h3
   refine tK ?_
   refine tS ?_
   refine tS ?_
   refine tR fun _ _ _ => ?_
   refine sV (rFld rfl rfl) ?_
   refine sV (rLdF rfl rfl rfl) ?_
   refine sV (rLen rfl rfl) ?_
   refine sV (rFld rfl rfl) ?_
   refine sV (rLdF rfl rfl rfl) ?_
   refine pV ?_
   refine tC rfl (fun h7 => ?_) (fun h7 => ?_)
   ·try simp only [zbA] at h7
    refine tS ?_
    refine tR fun _ _ _ => ?_
    refine pV ?_
    exact tr_ret ⟨trivial, _, _, rfl, ⟨by rw [chkF_no (fun h => by
     rcases h.1.1.low with h2 | h2
     ·exact h3 h2.1
     ·exact h7 h2.2)], rfl⟩, CSub.nil _, trivial⟩
   ·try simp only [zbA] at h7
    refine tK ?_
    refine tS ?_
    refine tS ?_
    refine tR fun _ _ _ => ?_
    refine pV ?_
    refine tB ?_
    refine tr_loop1 (fun (k : Int) => [(1, .pointer (some p0)), (3, .int .i64 k)]) (fun (k : Int) => [blk p0 24 [.int .i64 p, .int .i64 m, .slice A mod.length c], ro A (ints mod)]) (fun (k : Int) => 0 ≤ k ∧ k ≤ m ∧ AllIn p (mod.take k.toNat)) (fun (k : Int) => (m - k).toNat) (0) ⟨rfl, rfl, trivial⟩ (by first | exact cs _ _ | exact CSub.refl _) (⟨by omega, by omega, fun c hc => by simp at hc⟩) (fun k hI => ?_)
    obtain ⟨hk0, hk1, hkin⟩ := hI
    refine tS ?_
    refine tS ?_
    refine tR fun _ _ _ => ?_
    refine pV ?_
    refine sV (rFld rfl rfl) ?_
    refine sV (rLdF rfl rfl rfl) ?_
    refine pV ?_
    refine tC rfl (fun h10 => ?_) (fun h10 => ?_)
    ·try simp only [zbA] at h10
     refine tK ?_
     refine tS ?_
     refine tB ?_
     refine tS ?_
     refine tr_draw [0, 1, 2, 3, 4, 5, 6, 7, 8, 9, 10, 11, 12, 13, 14, 15] [] mixed (by kernel_rfl) fun _ _ _ => ?_
     refine sV (rFld rfl rfl) ?_
     refine sV (rLdF rfl rfl rfl) ?_
     refine pV ?_
     refine sV (rIdxI rfl rfl rfl (by omega) (by omega) (by omega)) ?_
     refine sV (rLdI rfl rfl (by omega)) ?_
     iterate 2 refine pV ?_
     refine stg rfl rfl rfl rfl rfl (fun hb => by (have hq := hb; try simp only [zbA] at hq); exact rFld rfl rfl) ?_
     refine stg rfl rfl rfl rfl rfl (fun hb => by (have hq := hb; try simp only [zbA] at hq); exact rLdF rfl (evg rfl hb) rfl) ?_
     refine stg rfl rfl rfl rfl rfl (fun hb => by (have hq := hb; try simp only [zbA] at hq); exact rMove rfl rfl) ?_
     refine stg rfl rfl rfl rfl rfl (fun hb => by (have hq := hb; try simp only [zbA] at hq); exact rIdxI rfl (evg rfl hb) (evg rfl hb) (by omega) (by omega) (by omega)) ?_
     refine stg rfl rfl rfl rfl rfl (fun hb => by (have hq := hb; try simp only [zbA] at hq); exact rLdI rfl (evg rfl hb) (by omega)) ?_
     refine stg rfl rfl rfl rfl rfl (fun hb => by (have hq := hb; try simp only [zbA] at hq); exact rFld rfl rfl) ?_
     refine stg rfl rfl rfl rfl rfl (fun hb => by (have hq := hb; try simp only [zbA] at hq); exact rLdF rfl (evg rfl hb) rfl) ?_
     refine stg rfl rfl rfl rfl rfl (fun hb => by (have hq := hb; try simp only [zbA] at hq); exact rGeq rfl (evg rfl hb) (evg rfl hb)) ?_
     refine sV (rOrB rfl rfl rfl rfl) ?_
     refine tC rfl (fun h12 => ?_) (fun h12 => ?_)
     ·try simp only [zbA] at h12
      refine tS ?_
      refine tR fun _ _ _ => ?_
      refine pV ?_
      exact tr_ret ⟨trivial, _, _, rfl, ⟨by rw [chkF_no (fun h => by
       have := h.1.1.ent.get (by omega) k.toNat
       omega)], rfl⟩, CSub.nil _, trivial⟩
     ·try simp only [zbA] at h12
      refine tK ?_
      refine tR fun _ _ _ => ?_
      refine pV ?_
      refine sV (rAdd rfl rfl rfl (by omega) (by omega)) ?_
      refine pV ?_
      refine ⟨k + 1, ⟨rfl, rfl, trivial⟩, by first | exact cs _ _ | exact CSub.refl _, ?_⟩
      refine ⟨⟨by omega, by omega, fun z hz => ?_⟩, by omega⟩
      rw [take_next 0 mod k hk0 (by omega)] at hz
      rcases List.mem_append.1 hz with h | h
      ·exact hkin z h
      ·simp only [List.mem_singleton] at h
       rw [h]
       omega
    ·try simp only [zbA] at h10
     refine tE ?_
     refine tS ?_
     refine tS ?_
     rw [take_len mod k (by omega)] at hkin
     have hml : (mod.length : Int) = m := by omega
     have hqm : pw p mod.length ≤ 256 := by rw [hml]; exact hqq
     have hshp : ShpP p m mod := ⟨⟨hp2, hp9, hm1, hm8, hqq, .inr ⟨by omega, by omega⟩, hkin⟩, hprime⟩
     refine tR fun _ _ _ => ?_
     refine sV (rFld rfl rfl) ?_
     refine sV (rLdF rfl rfl rfl) ?_
     refine sV (rFld rfl rfl) ?_
     refine sV (rLdF rfl rfl rfl) ?_
     refine eV (eCallV rfl rfl rfl (ref_irr _ _ _ _ (by omega) (by omega) (by omega) (by omega) (by omega) (by assumption)) ⟨rfl, rfl, trivial⟩ ?_)
     refine sV (rNotB rfl rfl) ?_
     refine tC rfl (fun h14 => ?_) (fun h14 => ?_)
     ·try simp only [zbA] at h14
      skip
      refine tS ?_
      refine tR fun _ _ _ => ?_
      refine pV ?_
      exact tr_ret ⟨trivial, _, _, rfl, ⟨by rw [chkF_no (fun h => by
       rcases h.2 with h2 | h2
       ·exact h3 h2
       ·rw [bIrr_true h2] at h14; cases h14)], rfl⟩, CSub.nil _, trivial⟩
     ·try simp only [zbA] at h14
      refine tK ?_
      refine tS ?_
      refine tR fun _ _ _ => ?_
      refine pV ?_
      exact tr_ret ⟨trivial, _, _, rfl, ⟨by rw [chkF_ok ⟨hshp, .inr ((bIrr_iff p mod).1 h14)⟩], rfl⟩, CSub.nil _, trivial⟩
end Go.Proofs.YtdkahdehodopoaaGreat

namespace Go.Proofs.YtdkahdehodopoaaGreat
def inI (q x : Int) : Int := if 0 ≤ x ∧ x < q then x else 0
theorem inI_bd {q : Int} (hq : 1 ≤ q) (x : Int) : 0 ≤ inI q x ∧ inI q x < q := by unfold inI; split <;> omega
theorem inI_in {q x : Int} (h0 : 0 ≤ x) (h1 : x < q) : inI q x = x := by rw [inI, if_pos ⟨h0, h1⟩]
def trimL : List Int → List Int
 | [] => []
 | x :: xs => match trimL xs with
  | [] => if x = 0 then [] else [x]
  | y :: ys => x :: y :: ys
theorem trimL_snoc0 : ∀ xs : List Int, trimL (xs ++ [0]) = trimL xs
 | [] => rfl
 | x :: xs => by rw [List.cons_append, trimL, trimL_snoc0 xs, trimL]
theorem trimL_snoc {y : Int} (hy : y ≠ 0) : ∀ xs : List Int, trimL (xs ++ [y]) = xs ++ [y]
 | [] => by simp [trimL, hy]
 | x :: xs => by
  rw [List.cons_append, trimL, trimL_snoc hy xs]
  cases xs <;> rfl
theorem trimL_length (xs : List Int) : (trimL xs).length ≤ xs.length := by
 induction xs with
 | nil => simp [trimL]
 | cons x xs ih =>
  rw [trimL]
  split
  ·split <;> simp
  ·rename_i y ys h
   rw [h] at ih
   simp only [List.length_cons] at ih ⊢
   omega
theorem trimL_take : ∀ xs : List Int, trimL xs = xs.take (trimL xs).length
 | [] => rfl
 | x :: xs => by
  have ih := trimL_take xs
  rw [trimL]
  split
  ·split <;> simp
  ·rename_i y ys h
   rw [h] at ih
   simp only [List.length_cons, List.take_succ_cons]
   rw [← List.length_cons (a := y), ← ih]
theorem trimL_split (xs : List Int) : xs = trimL xs ++ xs.drop (trimL xs).length := by
 conv => lhs; rw [← List.take_append_drop (trimL xs).length xs]
 rw [← trimL_take]
theorem trim_step {xs : List Int} {k : Nat} (hk : 0 < k) (hkl : k ≤ xs.length) (h : trimL (xs.take k) = trimL xs) (h0 : xs.getD (k - 1) 0 = 0) : trimL (xs.take (k - 1)) = trimL xs := by
 rw [← h]
 have h1 : xs.take k = xs.take (k - 1) ++ [0] := by
  conv => lhs; rw [show k = (k - 1) + 1 by omega, List.take_add_one]
  rw [List.getD_eq_getElem?_getD, List.getElem?_eq_getElem (by omega)] at h0
  rw [List.getElem?_eq_getElem (by omega)]
  simp only [Option.getD_some] at h0
  rw [h0]; rfl
 rw [h1, trimL_snoc0]
theorem trim_done {xs : List Int} {k : Nat} (hkl : k ≤ xs.length) (h : trimL (xs.take k) = trimL xs) (h0 : k = 0 ∨ xs.getD (k - 1) 0 ≠ 0) : (trimL xs).length = k := by
 rw [← h]
 rcases Nat.eq_zero_or_pos k with hk | hk
 ·subst hk; simp [trimL]
 ·rcases h0 with h0 | h0
  ·omega
  ·have h1 : xs.take k = xs.take (k - 1) ++ [xs.getD (k - 1) 0] := by
    conv => lhs; rw [show k = (k - 1) + 1 by omega, List.take_add_one]
    rw [List.getD_eq_getElem?_getD, List.getElem?_eq_getElem (by omega)]
    rfl
   rw [h1, trimL_snoc h0]
   simp
   omega
def canL (q : Int) (l : List Int) : List Int := trimL (l.map (inI q))
theorem canL_length (q : Int) (l : List Int) : (canL q l).length ≤ l.length := by
 have := trimL_length (l.map (inI q))
 simpa [canL] using this
def cmpN (a b : List Int) : Nat → Int
 | 0 => 0
 | n + 1 => if a.getD n 0 < b.getD n 0 then -1 else if a.getD n 0 > b.getD n 0 then 1 else cmpN a b n
def cmpL (a b : List Int) : Int := if a.length < b.length then -1 else if a.length > b.length then 1 else cmpN a b a.length
theorem cmpN_neg (a b : List Int) : ∀ n, cmpN b a n = - cmpN a b n
 | 0 => rfl
 | n + 1 => by
  have := cmpN_neg a b n
  simp only [cmpN]
  split <;> split <;> (try split) <;> omega
theorem cmpL_neg (a b : List Int) : cmpL b a = - cmpL a b := by
 unfold cmpL
 have := cmpN_neg a b a.length
 by_cases h1 : a.length < b.length
 ·rw [if_neg (by omega), if_pos (by omega), if_pos h1]; rfl
 ·by_cases h2 : a.length > b.length
  ·rw [if_pos (by omega), if_neg h1, if_pos h2]
  ·rw [if_neg (by omega), if_neg (by omega), if_neg h1, if_neg h2, show b.length = a.length by omega]
   exact this
end Go.Proofs.YtdkahdehodopoaaGreat

namespace Go.Proofs.YtdkahdehodopoaaGreat
abbrev Row := Nat → Int
def Row.add (u v : Row) : Row := fun j => u j + v j
def Row.sm (c : Int) (v : Row) : Row := fun j => c * v j
def Row.z : Row := fun _ => 0
def Sup (n : Nat) (v : Row) : Prop := ∀ j, n ≤ j → v j = 0
structure Lin (T : Row → Row) : Prop where
 add : ∀ u v, T (u.add v) = (T u).add (T v)
 sm : ∀ c v, T (Row.sm c v) = Row.sm c (T v)
theorem Lin.z {T : Row → Row} (h : Lin T) : T Row.z = Row.z := by
 have := h.sm 0 Row.z
 have e : Row.sm 0 Row.z = Row.z := by funext j; simp [Row.sm, Row.z]
 rw [e] at this
 rw [this]; funext j; simp [Row.sm, Row.z]
def it (T : Row → Row) : Nat → Row → Row
 | 0, v => v
 | n + 1, v => T (it T n v)
theorem it_lin {T : Row → Row} (h : Lin T) : ∀ n, Lin (it T n)
 | 0 => ⟨fun _ _ => rfl, fun _ _ => rfl⟩
 | n + 1 => ⟨fun u v => by simp only [it, (it_lin h n).add, h.add], fun c v => by simp only [it, (it_lin h n).sm, h.sm]⟩
theorem it_comm (T : Row → Row) : ∀ (n : Nat) (v : Row), it T n (T v) = T (it T n v)
 | 0, _ => rfl
 | n + 1, v => by simp only [it, it_comm T n v]
def pl (T : Row → Row) : Nat → Row → Row → Row
 | 0, _, _ => Row.z
 | n + 1, Q, v => (pl T n Q v).add (Row.sm (Q n) (it T n v))
theorem Row.add_z (u : Row) : u.add Row.z = u := by funext j; simp [Row.add, Row.z]
theorem Row.z_add (u : Row) : Row.z.add u = u := by funext j; simp [Row.add, Row.z]
theorem Row.add_comm (u v : Row) : u.add v = v.add u := by funext j; simp only [Row.add]; omega
theorem Row.add_assoc (u v w : Row) : (u.add v).add w = u.add (v.add w) := by funext j; simp only [Row.add]; omega
theorem Row.sm_z (c : Int) : Row.sm c Row.z = Row.z := by funext j; simp [Row.sm, Row.z]
theorem Row.zero_sm (v : Row) : Row.sm 0 v = Row.z := by funext j; simp [Row.sm, Row.z]
theorem Row.sm_add (c : Int) (u v : Row) : Row.sm c (u.add v) = (Row.sm c u).add (Row.sm c v) := by funext j; simp [Row.sm, Row.add, Int.mul_add]
theorem Row.add_sm (c d : Int) (u : Row) : Row.sm (c + d) u = (Row.sm c u).add (Row.sm d u) := by funext j; simp [Row.sm, Row.add, Int.add_mul]
theorem Row.sm_sm (c d : Int) (u : Row) : Row.sm c (Row.sm d u) = Row.sm (c * d) u := by funext j; simp [Row.sm, Int.mul_assoc]
theorem Row.add4 (a b c d : Row) : (a.add b).add (c.add d) = (a.add c).add (b.add d) := by funext j; simp only [Row.add]; omega
theorem pl_lin {T : Row → Row} (h : Lin T) : ∀ n Q, Lin (pl T n Q)
 | 0, _ => ⟨fun _ _ => (Row.add_z _).symm, fun c _ => (Row.sm_z c).symm⟩
 | n + 1, Q => ⟨fun u v => by
   simp only [pl, (pl_lin h n Q).add, (it_lin h n).add, Row.sm_add]
   exact Row.add4 _ _ _ _, fun c v => by
   simp only [pl, (pl_lin h n Q).sm, (it_lin h n).sm, Row.sm_add, Row.sm_sm, Int.mul_comm]⟩
theorem pl_comm {T : Row → Row} (h : Lin T) : ∀ (n : Nat) (Q v : Row), pl T n Q (T v) = T (pl T n Q v)
 | 0, _, _ => h.z.symm
 | n + 1, Q, v => by simp only [pl, pl_comm h n Q v, it_comm, h.add, h.sm]
theorem pl_it {T : Row → Row} (h : Lin T) (n : Nat) (Q : Row) : ∀ (k : Nat) (v : Row), pl T n Q (it T k v) = it T k (pl T n Q v)
 | 0, _ => rfl
 | k + 1, v => by simp only [it, pl_comm h, pl_it h n Q k v]
theorem pl_pl {T : Row → Row} (h : Lin T) (n : Nat) (Q : Row) : ∀ (m : Nat) (R v : Row), pl T n Q (pl T m R v) = pl T m R (pl T n Q v)
 | 0, _, _ => (pl_lin h n Q).z
 | m + 1, R, v => by simp only [pl, (pl_lin h n Q).add, (pl_lin h n Q).sm, pl_pl h n Q m R v, pl_it h]
theorem pl_addQ {T : Row → Row} : ∀ (n : Nat) (Q Q' v : Row), pl T n (Q.add Q') v = (pl T n Q v).add (pl T n Q' v)
 | 0, _, _, _ => (Row.add_z _).symm
 | n + 1, Q, Q', v => by
  simp only [pl, pl_addQ n Q Q' v]
  rw [show Q.add Q' n = Q n + Q' n from rfl, Row.add_sm]
  exact Row.add4 _ _ _ _
theorem pl_smQ {T : Row → Row} : ∀ (n : Nat) (c : Int) (Q v : Row), pl T n (Row.sm c Q) v = Row.sm c (pl T n Q v)
 | 0, c, _, _ => (Row.sm_z c).symm
 | n + 1, c, Q, v => by
  simp only [pl, pl_smQ n c Q v, Row.sm_add, Row.sm_sm]
  rfl
theorem pl_cong {T : Row → Row} : ∀ (n : Nat) (Q Q' v : Row), (∀ i, i < n → Q i = Q' i) → pl T n Q v = pl T n Q' v
 | 0, _, _, _, _ => rfl
 | n + 1, Q, Q', v, h => by simp only [pl, pl_cong n Q Q' v (fun i hi => h i (by omega)), h n (by omega)]
theorem pl_bound {T : Row → Row} {n : Nat} {Q : Row} (hQ : Sup n Q) (v : Row) : ∀ k, pl T (n + k) Q v = pl T n Q v
 | 0 => rfl
 | k + 1 => by
  rw [← Nat.add_assoc, pl, pl_bound hQ v k, hQ (n + k) (by omega), Row.zero_sm, Row.add_z]
theorem pl_bound' {T : Row → Row} {n m : Nat} {Q : Row} (hQ : Sup n Q) (v : Row) (h : n ≤ m) : pl T m Q v = pl T n Q v := by
 have := pl_bound (T := T) hQ v (m - n)
 rwa [show n + (m - n) = m by omega] at this
theorem pl_z {T : Row → Row} (h : Lin T) (n : Nat) (Q : Row) : pl T n Q Row.z = Row.z := (pl_lin h n Q).z
def sh (v : Row) : Row := fun j => if j = 0 then 0 else v (j - 1)
theorem sh_lin : Lin sh := ⟨fun u v => by funext j; simp only [sh, Row.add]; split <;> omega, fun c v => by funext j; simp only [sh, Row.sm]; split <;> simp⟩
def e0 : Row := fun j => if j = 0 then 1 else 0
def ee (k : Nat) : Row := fun j => if j = k then 1 else 0
theorem sh_ee (k : Nat) : sh (ee k) = ee (k + 1) := by
 funext j
 simp only [sh, ee]
 by_cases h : j = 0
 ·simp [h]
 ·by_cases h2 : j - 1 = k
  ·rw [if_neg h, if_pos h2, if_pos (by omega)]
  ·rw [if_neg h, if_neg h2, if_neg (by omega)]
theorem sh_sup {n : Nat} {v : Row} (h : Sup n v) : Sup (n + 1) (sh v) := fun j hj => by
 simp only [sh]; rw [if_neg (by omega)]; exact h _ (by omega)
theorem it_sh_sup {n : Nat} {v : Row} (h : Sup n v) : ∀ k, Sup (n + k) (it sh k v)
 | 0 => h
 | k + 1 => by
  have := sh_sup (it_sh_sup h k)
  rwa [Nat.add_assoc] at this
theorem it_sh (v : Row) : ∀ (k j : Nat), it sh k v j = if j < k then 0 else v (j - k)
 | 0, j => by simp [it]
 | k + 1, j => by
  simp only [it, sh, it_sh v k]
  by_cases h : j = 0
  ·simp [h]
  ·rw [if_neg h]
   by_cases h2 : j - 1 < k
   ·rw [if_pos h2, if_pos (by omega)]
   ·rw [if_neg h2, if_neg (by omega), show j - 1 - k = j - (k + 1) by omega]
theorem pl_sh {T : Row → Row} (h : Lin T) : ∀ (n : Nat) (f v : Row), pl T (n + 1) (sh f) v = T (pl T n f v)
 | 0, f, v => by
  simp only [pl]
  rw [show sh f 0 = 0 from rfl, Row.zero_sm, Row.add_z, h.z]
 | n + 1, f, v => by
  rw [pl, pl_sh h n f v]
  rw [show sh f (n + 1) = f n from rfl]
  simp only [pl, h.add, h.sm, it]
theorem pl_it_sh {T : Row → Row} (h : Lin T) (m : Nat) (g v : Row) : ∀ (i : Nat), pl T (m + i) (it sh i g) v = it T i (pl T m g v)
 | 0 => rfl
 | i + 1 => by
  show pl T (m + i + 1) (sh (it sh i g)) v = T (it T i (pl T m g v))
  rw [pl_sh h, pl_it_sh h m g v i]
theorem pl_mul {T : Row → Row} (h : Lin T) {m : Nat} {g : Row} (hg : Sup m g) (Q v : Row) (k : Nat) : ∀ (n : Nat), n ≤ k + 1 → pl T (m + k) (pl sh n Q g) v = pl T n Q (pl T m g v)
 | 0, _ => by
  show pl T (m + k) Row.z v = Row.z
  have := pl_bound' (T := T) (n := 0) (m := m + k) (Q := Row.z) (fun _ _ => rfl) v (by omega)
  rw [this]; rfl
 | n + 1, hn => by
  simp only [pl, pl_addQ, pl_smQ, pl_mul h hg Q v k n (by omega)]
  congr 2
  rw [← pl_it_sh h]
  exact pl_bound' (it_sh_sup hg n) v (by omega)
def tm (M : Nat) (low : Row) (v : Row) : Row := fun j => if j < M then sh v j - v (M - 1) * low j else 0
theorem tm_lin (M : Nat) (low : Row) : Lin (tm M low) := ⟨fun u v => by
  funext j
  simp only [tm, Row.add]
  split
  ·have := congrFun (sh_lin.add u v) j
   simp only [Row.add] at this
   rw [this, Int.add_mul]; omega
  ·omega, fun c v => by
  funext j
  simp only [tm, Row.sm]
  split
  ·have := congrFun (sh_lin.sm c v) j
   simp only [Row.sm] at this
   rw [this, Int.mul_sub, Int.mul_assoc]
  ·simp⟩
theorem tm_sup (M : Nat) (low v : Row) : Sup M (tm M low v) := fun j hj => by simp only [tm]; rw [if_neg (by omega)]
theorem sup_add {n : Nat} {u v : Row} (hu : Sup n u) (hv : Sup n v) : Sup n (u.add v) := fun j hj => by simp only [Row.add, hu j hj, hv j hj]; rfl
theorem sup_sm {n : Nat} {u : Row} (c : Int) (hu : Sup n u) : Sup n (Row.sm c u) := fun j hj => by simp only [Row.sm, hu j hj]; simp
theorem it_tm_sup {M : Nat} {low v : Row} (hv : Sup M v) : ∀ n, Sup M (it (tm M low) n v)
 | 0 => hv
 | n + 1 => tm_sup M low _
theorem pl_tm_sup {M : Nat} {low v : Row} (hv : Sup M v) : ∀ n Q, Sup M (pl (tm M low) n Q v)
 | 0, _ => fun _ _ => rfl
 | n + 1, Q => sup_add (pl_tm_sup hv n Q) (sup_sm _ (it_tm_sup hv n))
theorem tm_ee {M : Nat} {low : Row} {k : Nat} (hk : k + 1 < M) : tm M low (ee k) = ee (k + 1) := by
 funext j
 simp only [tm, sh_ee]
 have h1 : ee k (M - 1) = 0 := by simp only [ee]; rw [if_neg (by omega)]
 rw [h1]
 by_cases hj : j < M
 ·rw [if_pos hj]; omega
 ·rw [if_neg hj]; simp only [ee]; rw [if_neg (by omega)]
theorem it_tm_e {M : Nat} {low : Row} : ∀ (k : Nat), k < M → it (tm M low) k (ee 0) = ee k
 | 0, _ => rfl
 | k + 1, h => by
  have h1 := it_tm_e (low := low) k (show k < M by omega)
  simp only [it, h1, tm_ee h]
theorem pl_tm_e {M : Nat} {low : Row} (a : Row) : ∀ (n : Nat), n ≤ M → pl (tm M low) n a (ee 0) = fun j => if j < n then a j else 0
 | 0, _ => by funext j; simp [pl, Row.z]
 | n + 1, h => by
  funext j
  have h3 := pl_tm_e (low := low) a n (show n ≤ M by omega)
  have h4 := it_tm_e (low := low) n (show n < M by omega)
  simp only [pl, h3, h4, Row.add, Row.sm, ee]
  by_cases h1 : j < n
  ·rw [if_pos h1, if_neg (by omega), if_pos (by omega)]; omega
  ·by_cases h2 : j = n
   ·rw [if_neg h1, if_pos h2, if_pos (by omega), h2]; omega
   ·rw [if_neg h1, if_neg h2, if_neg (by omega)]; omega
theorem pl_tm_self {M : Nat} {low a : Row} (ha : Sup M a) : pl (tm M low) M a (ee 0) = a := by
 rw [pl_tm_e a M (Nat.le_refl _)]
 funext j
 split
 ·rfl
 ·exact (ha j (by omega)).symm
def fF (M : Nat) (low : Row) : Row := fun j => if j < M then low j else if j = M then 1 else 0
theorem fF_e {M : Nat} {low : Row} (hM : 1 ≤ M) : pl (tm M low) (M + 1) (fF M low) (ee 0) = Row.z := by
 rw [pl]
 have h1 : pl (tm M low) M (fF M low) (ee 0) = fun j => if j < M then low j else 0 := by
  rw [pl_tm_e _ M (Nat.le_refl _)]
  funext j
  by_cases h : j < M
  ·simp [fF, h]
  ·simp [h]
 have h2 : fF M low M = 1 := by simp [fF]
 have h3 : it (tm M low) M (ee 0) = tm M low (ee (M - 1)) := by
  obtain ⟨k, rfl⟩ : ∃ k, M = k + 1 := ⟨M - 1, by omega⟩
  have h4 := it_tm_e (low := low) k (show k < k + 1 by omega)
  simp only [it, h4]
  rfl
 rw [h1, h2, h3]
 funext j
 simp only [Row.add, Row.sm, tm, Row.z, sh_ee]
 have h4 : ee (M - 1) (M - 1) = 1 := by simp [ee]
 rw [h4]
 by_cases h : j < M
 ·rw [if_pos h, if_pos h]
  have h5 : ee (M - 1 + 1) j = 0 := by simp only [ee]; rw [if_neg (by omega)]
  rw [h5]; omega
 ·rw [if_neg h, if_neg h]; omega
theorem fF_v {M : Nat} {low v : Row} (hM : 1 ≤ M) (hv : Sup M v) : pl (tm M low) (M + 1) (fF M low) v = Row.z := by
 have h := pl_tm_self (low := low) hv
 rw [← h, pl_pl (tm_lin M low), fF_e hM, pl_z (tm_lin M low)]
def rm (M : Nat) (low a b : Row) : Row := pl (tm M low) M b a
theorem rm_comm {M : Nat} {low a b : Row} (ha : Sup M a) (hb : Sup M b) : rm M low a b = rm M low b a := by
 have h1 : rm M low a b = pl (tm M low) M b (pl (tm M low) M a (ee 0)) := by rw [pl_tm_self ha]; rfl
 rw [h1, pl_pl (tm_lin M low), pl_tm_self hb]
 rfl
theorem rm_swap {M : Nat} {low a b c : Row} : rm M low (rm M low a b) c = rm M low (rm M low a c) b := pl_pl (tm_lin M low) M c M b a
theorem rm_sup {M : Nat} {low a b : Row} (ha : Sup M a) : Sup M (rm M low a b) := pl_tm_sup ha M b
theorem rm_assoc {M : Nat} {low a b c : Row} (ha : Sup M a) (hb : Sup M b) (hc : Sup M c) : rm M low (rm M low a b) c = rm M low a (rm M low b c) := by
 rw [rm_comm ha hb, rm_swap, rm_comm (rm_sup hb) ha]
theorem rm_one {M : Nat} {low a : Row} (ha : Sup M a) (hM : 1 ≤ M) : rm M low (ee 0) a = a := pl_tm_self ha
theorem rm_addL {M : Nat} {low a b c : Row} : rm M low (a.add b) c = (rm M low a c).add (rm M low b c) := (pl_lin (tm_lin M low) M c).add a b
def Cg (p : Int) (u v : Row) : Prop := ∃ w : Row, u = v.add (Row.sm p w)
theorem Cg.refl (p : Int) (u : Row) : Cg p u u := ⟨Row.z, by rw [Row.sm_z, Row.add_z]⟩
theorem Cg.of_eq {p : Int} {u v : Row} (h : u = v) : Cg p u v := h ▸ Cg.refl p u
theorem Cg.symm {p : Int} {u v : Row} (h : Cg p u v) : Cg p v u := by
 obtain ⟨w, rfl⟩ := h
 exact ⟨Row.sm (-1) w, by funext j; simp only [Row.add, Row.sm]; grind⟩
theorem Cg.trans {p : Int} {u v w : Row} (h : Cg p u v) (k : Cg p v w) : Cg p u w := by
 obtain ⟨x, rfl⟩ := h
 obtain ⟨y, rfl⟩ := k
 exact ⟨y.add x, by rw [Row.sm_add, Row.add_assoc]⟩
theorem Cg.add {p : Int} {u v u' v' : Row} (h : Cg p u v) (k : Cg p u' v') : Cg p (u.add u') (v.add v') := by
 obtain ⟨x, rfl⟩ := h
 obtain ⟨y, rfl⟩ := k
 exact ⟨x.add y, by rw [Row.sm_add]; exact Row.add4 _ _ _ _⟩
theorem Cg.sm {p : Int} {u v : Row} (c : Int) (h : Cg p u v) : Cg p (Row.sm c u) (Row.sm c v) := by
 obtain ⟨x, rfl⟩ := h
 exact ⟨Row.sm c x, by rw [Row.sm_add, Row.sm_sm, Row.sm_sm, Int.mul_comm]⟩
theorem Cg.lin {p : Int} {u v : Row} {T : Row → Row} (hT : Lin T) (h : Cg p u v) : Cg p (T u) (T v) := by
 obtain ⟨x, rfl⟩ := h
 exact ⟨T x, by rw [hT.add, hT.sm]⟩
theorem Cg.pl {p : Int} {Q Q' u v : Row} {T : Row → Row} (hT : Lin T) (n : Nat) (hQ : Cg p Q Q') (h : Cg p u v) : Cg p (pl T n Q u) (Go.Proofs.YtdkahdehodopoaaGreat.pl T n Q' v) := by
 refine Cg.trans (Cg.lin (pl_lin hT n Q) h) ?_
 obtain ⟨x, rfl⟩ := hQ
 exact ⟨Go.Proofs.YtdkahdehodopoaaGreat.pl T n x v, by rw [pl_addQ, pl_smQ]⟩
theorem Cg.of {p : Int} {u v : Row} (h : ∀ j, u j % p = v j % p) : Cg p u v := ⟨fun j => u j / p - v j / p, by
 funext j
 have h1 := Int.mul_ediv_add_emod (u j) p
 have h2 := Int.mul_ediv_add_emod (v j) p
 have h3 := h j
 simp only [Row.add, Row.sm, Int.mul_sub]
 omega⟩
theorem Cg.emod {p : Int} {u v : Row} (h : Cg p u v) (j : Nat) : u j % p = v j % p := by
 obtain ⟨x, rfl⟩ := h
 simp [Row.add, Row.sm]
end Go.Proofs.YtdkahdehodopoaaGreat

namespace Go.Proofs.YtdkahdehodopoaaGreat
def rl (l : List Int) : Row := fun j => l.getD j 0
theorem rl_sup (l : List Int) : Sup l.length (rl l) := fun j hj => by
 simp only [rl]; rw [List.getD_eq_getElem?_getD, List.getElem?_eq_none hj]; rfl
def rv (p : Int) (M : Nat) (u : Row) : Int := vl p ((List.range M).map (fun j => u j % p))
def dg (p : Int) (M : Nat) (x : Int) : Row := rl (digs p M x)
theorem dg_sup (p : Int) (M : Nat) (x : Int) : Sup M (dg p M x) := by
 have := rl_sup (digs p M x)
 rwa [digs_length] at this
theorem digs_vl {p : Int} (hp : 2 ≤ p) : ∀ (l : List Int), AllIn p l → digs p l.length (vl p l) = l
 | [], _ => rfl
 | d :: ds, h => by
  have h1 := h d (by simp)
  have h2 : (d + p * vl p ds) % p = d := by
   rw [Int.add_mul_emod_self_left]
   exact Int.emod_eq_of_lt h1.1 h1.2
  have h3 : (d + p * vl p ds) / p = vl p ds := by
   rw [Int.add_mul_ediv_left _ _ (by omega)]
   have : d / p = 0 := Int.ediv_eq_zero_of_lt h1.1 h1.2
   omega
  simp only [vl, List.length_cons, digs, h2, h3, digs_vl hp ds (fun c hc => h c (by simp [hc]))]
theorem vl_digs {p : Int} (hp : 2 ≤ p) : ∀ (M : Nat) (x : Int), 0 ≤ x → x < p ^ M → vl p (digs p M x) = x
 | 0, x, h0, h1 => by simp at h1; simp [vl, digs]; omega
 | M + 1, x, h0, h1 => by
  have h2 : x / p < p ^ M := Int.ediv_lt_of_lt_mul (by omega) (by rwa [Int.pow_succ] at h1)
  simp only [digs, vl, vl_digs hp M (x / p) (Int.ediv_nonneg h0 (by omega)) h2]
  have := Int.mul_ediv_add_emod x p
  omega
theorem rv_cong {p : Int} {M : Nat} {u v : Row} (h : ∀ j, j < M → u j % p = v j % p) : rv p M u = rv p M v := by
 unfold rv
 congr 1
 apply List.map_congr_left
 intro j hj
 exact h j (List.mem_range.1 hj)
theorem rv_cg {p : Int} {M : Nat} {u v : Row} (h : Cg p u v) : rv p M u = rv p M v := rv_cong fun j _ => h.emod j
theorem rv_bd {p : Int} (hp : 2 ≤ p) (M : Nat) (u : Row) : 0 ≤ rv p M u ∧ rv p M u < p ^ M := by
 have h := vl_in (p := p) (by omega) ((List.range M).map (fun j => u j % p)) (fun c hc => by
  obtain ⟨j, _, rfl⟩ := List.mem_map.1 hc
  exact ⟨Int.emod_nonneg _ (by omega), Int.emod_lt_of_pos _ (by omega)⟩)
 simpa [rv] using h
theorem dg_rv {p : Int} (hp : 2 ≤ p) (M : Nat) (u : Row) (j : Nat) (hj : j < M) : dg p M (rv p M u) j = u j % p := by
 have h := digs_vl hp ((List.range M).map (fun j => u j % p)) (fun c hc => by
  obtain ⟨j, _, rfl⟩ := List.mem_map.1 hc
  exact ⟨Int.emod_nonneg _ (by omega), Int.emod_lt_of_pos _ (by omega)⟩)
 simp only [List.length_map, List.length_range] at h
 simp only [dg, rl, rv, h]
 rw [List.getD_eq_getElem?_getD, List.getElem?_map, List.getElem?_range hj]
 rfl
theorem dg_rv_cg {p : Int} (hp : 2 ≤ p) {M : Nat} {u : Row} (hu : Sup M u) : Cg p (dg p M (rv p M u)) u := Cg.of fun j => by
 by_cases hj : j < M
 ·rw [dg_rv hp M u j hj, Int.emod_emod]
 ·rw [dg_sup p M _ j (by omega), hu j (by omega)]
theorem rv_dg {p : Int} (hp : 2 ≤ p) {M : Nat} {x : Int} (h0 : 0 ≤ x) (h1 : x < p ^ M) : rv p M (dg p M x) = x := by
 have h : (List.range M).map (fun j => dg p M x j % p) = digs p M x := by
  apply List.ext_getElem
  ·simp [digs_length]
  ·intro i h2 h3
   have h4 := (digs_in (p := p) (by omega) M x) _ (List.getElem_mem h3)
   have h5 : dg p M x i = (digs p M x)[i] := by
    simp only [dg, rl]
    rw [List.getD_eq_getElem?_getD, List.getElem?_eq_getElem h3]; rfl
   simp only [List.getElem_map, List.getElem_range, h5]
   exact Int.emod_eq_of_lt h4.1 h4.2
 unfold rv
 rw [h]
 exact vl_digs hp M x h0 h1
theorem dg_zero {p : Int} (hp : 2 ≤ p) (M : Nat) : dg p M 0 = Row.z := by
 have : ∀ M, digs p M 0 = List.replicate M 0 := fun M => by
  induction M with
  | zero => rfl
  | succ M ih => simp [digs, ih, List.replicate_succ]
 funext j
 simp only [dg, rl, this, Row.z]
 rw [List.getD_eq_getElem?_getD, List.getElem?_replicate]
 split <;> rfl
theorem dg_one {p : Int} (hp : 2 ≤ p) {M : Nat} (hM : 1 ≤ M) : dg p M 1 = ee 0 := by
 obtain ⟨k, rfl⟩ : ∃ k, M = k + 1 := ⟨M - 1, by omega⟩
 have h1 : (1 : Int) % p = 1 := Int.emod_eq_of_lt (by omega) (by omega)
 have h2 : (1 : Int) / p = 0 := Int.ediv_eq_zero_of_lt (by omega) (by omega)
 have h3 := dg_zero hp k
 funext j
 simp only [dg, rl, digs, h1, h2, ee]
 cases j with
 | zero => rfl
 | succ j =>
  have := congrFun h3 j
  simp only [dg, rl, Row.z] at this
  simpa using this
theorem pl_cons {T : Row → Row} (h : Lin T) : ∀ (n : Nat) (Q v : Row), pl T (n + 1) Q v = (Row.sm (Q 0) v).add (T (pl T n (fun i => Q (i + 1)) v))
 | 0, Q, v => by simp only [pl, h.z, Row.add_z, Row.z_add]; rfl
 | n + 1, Q, v => by
  rw [pl, pl_cons h n Q v]
  simp only [pl, h.add, h.sm, it, Row.add_assoc]
theorem hmulL_row (p : Int) (low a : List Int) (M : Nat) (hlow : low.length ≤ M) (ha : a.length = M) : ∀ (bs : List Int), Cg p (rl (hmulL p low a M bs)) (pl (tm M (rl low)) bs.length (rl bs) (rl a))
 | [] => Cg.of_eq (by
   funext j
   simp only [hmulL, rl, pl, Row.z, List.length_nil]
   rw [List.getD_eq_getElem?_getD, List.getElem?_replicate]; split <;> rfl)
 | b :: bs => by
  have ih := hmulL_row p low a M hlow ha bs
  have hT := tm_lin M (rl low)
  rw [List.length_cons, pl_cons hT]
  have h1 : (fun i => rl (b :: bs) (i + 1)) = rl bs := by funext i; simp [rl]
  have h2 : rl (b :: bs) 0 = b := rfl
  rw [h1, h2]
  refine Cg.trans ?_ (Cg.add (Cg.refl p (Row.sm b (rl a))) (Cg.lin hT ih))
  have hl := hmulL_length p low a M bs
  refine Cg.of fun j => ?_
  by_cases hj : j < M
  ·have h3 : rl (hmulL p low a M (b :: bs)) j = hent p low a (hmulL p low a M bs) b j := by
    simp only [rl, hmulL, hstep]
    rw [List.getD_eq_getElem?_getD, List.getElem?_map, List.getElem?_range (by omega)]
    rfl
   rw [h3]
   unfold hent
   simp only [Row.add, Row.sm, tm, if_pos hj, Int.emod_emod, hl]
   have h4 : hprev (hmulL p low a M bs) j = sh (rl (hmulL p low a M bs)) j := by
    simp only [hprev, sh, rl]
   rw [h4]
   simp only [rl]
   generalize sh _ j = s
   generalize (hmulL p low a M bs).getD (M - 1) 0 = t
   generalize low.getD j 0 = l
   generalize b * a.getD j 0 = e
   have h5 : s + (p - t) * l + e = (e + (s - t * l)) + p * l := by grind
   rw [h5, Int.add_mul_emod_self_left]
  ·have h3 : rl (hmulL p low a M (b :: bs)) j = 0 := by
    have := rl_sup (hmulL p low a M (b :: bs)) j (by rw [hmulL_length]; omega)
    exact this
   have h4 : rl a j = 0 := rl_sup a j (by omega)
   rw [h3]
   simp only [Row.add, Row.sm, h4, tm, if_neg hj]
   simp
theorem mulI_eq {p m : Int} {mod : List Int} (h : Shp p m mod) (x y : Int) : mulI p m mod x y = rv p m.toNat (rm m.toNat (rl mod) (dg p m.toNat x) (dg p m.toNat y)) := by
 have hp := h.p2
 have hm := h.m1
 have hlow : mod.length ≤ m.toNat := by
  rcases h.low with h1 | h1
  ·rw [h1.2]; simp
  ·omega
 have h1 := hmulL_row p mod (digs p m.toNat x) m.toNat hlow (digs_length p m.toNat x) (digs p m.toNat y)
 rw [digs_length] at h1
 show mulI p m mod x y = rv p m.toNat (pl (tm m.toNat (rl mod)) m.toNat (rl (digs p m.toNat y)) (rl (digs p m.toNat x)))
 rw [← rv_cg (M := m.toNat) h1]
 have h2 := hmulL_in (p := p) (by omega) mod (digs p m.toNat x) m.toNat (digs p m.toNat y)
 have h3 := hmulL_length p mod (digs p m.toNat x) m.toNat (digs p m.toNat y)
 unfold mulI rv
 congr 1
 apply List.ext_getElem
 ·simp [h3]
 ·intro i h4 h5
  have h6 := h2 _ (List.getElem_mem h4)
  simp only [List.getElem_map, List.getElem_range, rl]
  rw [List.getD_eq_getElem?_getD, List.getElem?_eq_getElem h4]
  exact (Int.emod_eq_of_lt h6.1 h6.2).symm
section
variable {p m : Int} {mod : List Int}
theorem mulI_cg (h : Shp p m mod) (x y : Int) : Cg p (dg p m.toNat (mulI p m mod x y)) (rm m.toNat (rl mod) (dg p m.toNat x) (dg p m.toNat y)) := by
 rw [mulI_eq h]
 exact dg_rv_cg h.p2 (rm_sup (dg_sup _ _ _))
theorem rm_cg {M : Nat} {low a a' b b' : Row} (ha : Cg p a a') (hb : Cg p b b') : Cg p (rm M low a b) (rm M low a' b') := Cg.pl (tm_lin M low) M hb ha
theorem mulI_comm (h : Shp p m mod) (x y : Int) : mulI p m mod x y = mulI p m mod y x := by
 rw [mulI_eq h, mulI_eq h, rm_comm (dg_sup _ _ _) (dg_sup _ _ _)]
theorem mulI_assoc (h : Shp p m mod) (x y z : Int) : mulI p m mod (mulI p m mod x y) z = mulI p m mod x (mulI p m mod y z) := by
 rw [mulI_eq h (mulI p m mod x y) z, mulI_eq h x (mulI p m mod y z)]
 refine rv_cg ?_
 refine Cg.trans (rm_cg (mulI_cg h x y) (Cg.refl _ _)) ?_
 rw [rm_assoc (dg_sup _ _ _) (dg_sup _ _ _) (dg_sup _ _ _)]
 exact rm_cg (Cg.refl _ _) (mulI_cg h y z).symm
theorem mulI_one (h : Shp p m mod) {x : Int} (h0 : 0 ≤ x) (h1 : x < pw p m) : mulI p m mod 1 x = x := by
 have hm := h.m1
 rw [mulI_eq h, dg_one h.p2 (by omega), rm_one (dg_sup _ _ _) (by omega)]
 exact rv_dg h.p2 h0 h1
theorem mulI_zero (h : Shp p m mod) (x : Int) : mulI p m mod 0 x = 0 := by
 rw [mulI_eq h, dg_zero h.p2]
 have h1 : rm m.toNat (rl mod) Row.z (dg p m.toNat x) = Row.z := pl_z (tm_lin _ _) _ _
 rw [h1, ← dg_zero h.p2 m.toNat]
 exact rv_dg h.p2 (by omega) (Int.pow_pos (by have := h.p2; omega))
def addI (p m : Int) (x y : Int) : Int := rv p m.toNat ((dg p m.toNat x).add (dg p m.toNat y))
def negI (p m : Int) (x : Int) : Int := rv p m.toNat (Row.sm (-1) (dg p m.toNat x))
theorem addI_cg (hp : 2 ≤ p) (x y : Int) : Cg p (dg p m.toNat (addI p m x y)) ((dg p m.toNat x).add (dg p m.toNat y)) := dg_rv_cg hp (sup_add (dg_sup _ _ _) (dg_sup _ _ _))
theorem addI_comm (x y : Int) : addI p m x y = addI p m y x := by unfold addI; rw [Row.add_comm]
theorem addI_assoc (hp : 2 ≤ p) (x y z : Int) : addI p m (addI p m x y) z = addI p m x (addI p m y z) := by
 unfold addI
 refine rv_cg ?_
 refine Cg.trans (Cg.add (addI_cg hp x y) (Cg.refl _ _)) ?_
 rw [Row.add_assoc]
 exact Cg.add (Cg.refl _ _) (addI_cg hp y z).symm
theorem addI_zero (hp : 2 ≤ p) {x : Int} (h0 : 0 ≤ x) (h1 : x < pw p m) : addI p m 0 x = x := by
 unfold addI
 rw [dg_zero hp, Row.z_add]
 exact rv_dg hp h0 h1
theorem addI_neg (hp : 2 ≤ p) (x : Int) : addI p m x (negI p m x) = 0 := by
 have h : Cg p ((dg p m.toNat x).add (dg p m.toNat (negI p m x))) Row.z := by
  refine Cg.trans (Cg.add (Cg.refl _ _) (dg_rv_cg hp (sup_sm _ (dg_sup _ _ _)))) (Cg.of_eq ?_)
  funext j; simp only [Row.add, Row.sm, Row.z]; omega
 unfold addI
 rw [rv_cg h, ← dg_zero hp m.toNat]
 exact rv_dg hp (by omega) (Int.pow_pos (by omega))
theorem mulI_add (h : Shp p m mod) (x y z : Int) : mulI p m mod (addI p m x y) z = addI p m (mulI p m mod x z) (mulI p m mod y z) := by
 rw [mulI_eq h]
 unfold addI
 refine rv_cg ?_
 refine Cg.trans (rm_cg (dg_rv_cg h.p2 (sup_add (dg_sup _ _ _) (dg_sup _ _ _))) (Cg.refl _ _)) ?_
 rw [rm_addL]
 exact Cg.add (mulI_cg h x z).symm (mulI_cg h y z).symm
theorem pwI_bd (h : Shp p m mod) {x : Int} (hx : 0 ≤ x ∧ x < pw p m) : ∀ n, 0 ≤ pwI p m mod x n ∧ pwI p m mod x n < pw p m
 | 0 => by have := h.q2; simp only [pwI]; omega
 | 1 => hx
 | n + 2 => mulI_bd h _ _
theorem pwI_succ (h : Shp p m mod) {x : Int} (hx : 0 ≤ x ∧ x < pw p m) : ∀ n, pwI p m mod x (n + 1) = mulI p m mod (pwI p m mod x n) x
 | 0 => (mulI_one h hx.1 hx.2).symm
 | n + 1 => rfl
theorem pwI_add (h : Shp p m mod) {x : Int} (hx : 0 ≤ x ∧ x < pw p m) (i : Nat) : ∀ j, pwI p m mod x (i + j) = mulI p m mod (pwI p m mod x i) (pwI p m mod x j)
 | 0 => by
  have := pwI_bd h hx i
  rw [show pwI p m mod x 0 = 1 from rfl, mulI_comm h, mulI_one h this.1 this.2]
  rfl
 | j + 1 => by rw [← Nat.add_assoc, pwI_succ h hx, pwI_add h hx i j, mulI_assoc h, ← pwI_succ h hx]
theorem IsGen.all {x : Int} {l : List Int} (hg : IsGen p m mod x l) {y : Int} (h0 : 0 < y) (h1 : y < pw p m) : y ∈ l := by
 refine Classical.byContradiction fun hy => ?_
 have h2 := nodup_len' (q := pw p m) (y :: l) (List.nodup_cons.2 ⟨hy, hg.pow.nodup⟩) (fun z hz => by
  rcases List.mem_cons.1 hz with rfl | hz
  ·exact ⟨h0, h1⟩
  ·exact hg.pow.nz z hz) (by omega)
 have h3 := hg.len
 simp only [List.length_cons] at h2
 omega
theorem IsGen.mem_pw {x : Int} {l : List Int} (hg : IsGen p m mod x l) {y : Int} (hy : y ∈ l) : ∃ i, i < l.length ∧ y = pwI p m mod x i := by
 obtain ⟨i, hi, rfl⟩ := List.getElem_of_mem hy
 have h := hg.pow.get i hi
 rw [List.getD_eq_getElem?_getD, List.getElem?_eq_getElem hi] at h
 exact ⟨i, hi, h⟩
theorem IsGen.pw_mem (hs : Shp p m mod) {x : Int} {l : List Int} (hg : IsGen p m mod x l) : ∀ n, pwI p m mod x n ∈ l := by
 have hx : 0 ≤ x ∧ x < pw p m := ⟨by have := hg.x1; omega, hg.x2⟩
 have h1 := hg.len
 have h2 := hg.pow.one
 have at_ : ∀ i, i < l.length → pwI p m mod x i ∈ l := fun i hi => by
  rw [← hg.pow.get i hi, List.getD_eq_getElem?_getD, List.getElem?_eq_getElem hi]
  exact List.getElem_mem hi
 intro n
 induction n with
 | zero => exact at_ 0 (by omega)
 | succ n ih =>
  obtain ⟨i, hi, he⟩ := hg.mem_pw ih
  rw [pwI_succ hs hx, he]
  by_cases hil : i + 1 < l.length
  ·rw [← pwI_succ hs hx]; exact at_ _ hil
  ·have hie : i = (pw p m - 2).toNat := by omega
   rw [← hg.pow.get i hi, hie, hg.last]
   exact at_ 0 (by omega)
theorem IsGen.no_zero (hs : Shp p m mod) {x : Int} {l : List Int} (hg : IsGen p m mod x l) {u v : Int} (hu : 0 < u ∧ u < pw p m) (hv : 0 < v ∧ v < pw p m) : mulI p m mod u v ≠ 0 := by
 have hx : 0 ≤ x ∧ x < pw p m := ⟨by have := hg.x1; omega, hg.x2⟩
 obtain ⟨i, _, rfl⟩ := hg.mem_pw (hg.all hu.1 hu.2)
 obtain ⟨j, _, rfl⟩ := hg.mem_pw (hg.all hv.1 hv.2)
 rw [← pwI_add hs hx]
 have := hg.pow.nz _ (hg.pw_mem hs (i + j))
 omega
end
def gF (low : List Int) : Row := rl (low ++ [1])
theorem gF_sup (low : List Int) : Sup (low.length + 1) (gF low) := by
 have := rl_sup (low ++ [1])
 rw [List.length_append] at this
 exact this
theorem gF_lo (low : List Int) {k : Nat} (h : k < low.length) : gF low k = low.getD k 0 := by
 simp only [gF, rl, List.getD_eq_getElem?_getD, List.getElem?_append_left h]
theorem gF_top (low : List Int) : gF low low.length = 1 := by
 simp [gF, rl, List.getD_eq_getElem?_getD]
theorem dstep_row {p : Int} {low r : List Int} {n : Nat} (hr : low.length + n < r.length) : Cg p (rl r) ((rl (dstep p low r (low.length + n))).add (Row.sm (r.getD (low.length + n) 0) (it sh n (gF low)))) := Cg.of fun k => by
 simp only [Row.add, Row.sm, it_sh]
 by_cases hk : k < r.length
 ·have h1 : rl (dstep p low r (low.length + n)) k = dent p low r (low.length + n) k := by
   simp only [rl, dstep]
   rw [List.getD_eq_getElem?_getD, List.getElem?_map, List.getElem?_range hk]
   rfl
  rw [h1]
  unfold dent
  by_cases h2 : k = low.length + n
  ·subst h2
   rw [if_pos rfl, if_neg (by omega), show low.length + n - n = low.length by omega, gF_top]
   simp only [rl]
   congr 1
   omega
  ·rw [if_neg h2]
   by_cases h3 : k < n
   ·rw [if_pos h3, if_neg (by omega)]
    simp only [rl]
    congr 1
    omega
   ·rw [if_neg h3]
    by_cases h4 : k < low.length + n
    ·rw [if_pos ⟨by omega, h4⟩, gF_lo low (by omega), show k + low.length - (low.length + n) = k - n by omega]
     simp only [rl]
     generalize r.getD k 0 = a
     generalize r.getD (low.length + n) 0 = c
     generalize low.getD (k - n) 0 = l
     rw [Int.emod_add_emod]
     have : a + (p - c) * l + c * l = a + p * l := by grind
     rw [this, Int.add_mul_emod_self_left]
    ·rw [if_neg (by omega), gF_sup low (k - n) (by omega)]
     simp only [rl]
     congr 1
     omega
 ·have h1 : rl (dstep p low r (low.length + n)) k = 0 := rl_sup _ k (by rw [dstep_length]; omega)
  have h2 : rl r k = 0 := rl_sup _ k (by omega)
  rw [h1, h2, if_neg (by omega), gF_sup low (k - n) (by omega)]
  simp
theorem dloop_row {p : Int} {low : List Int} : ∀ (n : Nat) (r : List Int), low.length + n ≤ r.length → ∃ Q : Row, Sup n Q ∧ Cg p (rl r) ((rl (dloop p low n r)).add (pl sh n Q (gF low))) ∧ (1 ≤ n → Q (n - 1) = r.getD (low.length + n - 1) 0)
 | 0, r, _ => ⟨Row.z, fun _ _ => rfl, Cg.of_eq (by simp only [dloop, pl, Row.add_z]), fun h => by omega⟩
 | n + 1, r, h => by
  have hsl := dstep_length p low r (low.length + n)
  obtain ⟨Q, h1, h2, _⟩ := dloop_row (p := p) (low := low) n (dstep p low r (low.length + n)) (by omega)
  have hQ : ∀ i, (fun i => if i < n then Q i else if i = n then r.getD (low.length + n) 0 else 0 : Row) i = if i < n then Q i else if i = n then r.getD (low.length + n) 0 else 0 := fun _ => rfl
  generalize (fun i => if i < n then Q i else if i = n then r.getD (low.length + n) 0 else 0 : Row) = Q2 at hQ
  refine ⟨Q2, fun j hj => by rw [hQ, if_neg (by omega), if_neg (by omega)], ?_, fun _ => by rw [hQ, if_neg (by omega), if_pos (by omega)]; rfl⟩
  refine Cg.trans (dstep_row (p := p) (low := low) (r := r) (n := n) (by omega)) ?_
  refine Cg.trans (Cg.add h2 (Cg.refl _ _)) (Cg.of_eq ?_)
  have h3 : pl sh n Q2 (gF low) = pl sh n Q (gF low) := pl_cong n _ _ _ (fun i hi => by rw [hQ, if_pos hi])
  have h4 : Q2 n = r.getD (low.length + n) 0 := by rw [hQ, if_neg (by omega), if_pos rfl]
  rw [Row.add_assoc, dloop, pl, h3, h4]
theorem fF_rl {mod : List Int} : rl (mod ++ [1]) = fF mod.length (rl mod) := by
 funext j
 simp only [rl, fF]
 by_cases h : j < mod.length
 ·rw [if_pos h, List.getD_eq_getElem?_getD, List.getElem?_append_left h, List.getD_eq_getElem?_getD]
 ·rw [if_neg h]
  by_cases h2 : j = mod.length
  ·subst h2; simp [List.getD_eq_getElem?_getD]
  ·rw [if_neg h2, List.getD_eq_getElem?_getD, List.getElem?_eq_none (by simp; omega)]; rfl
theorem ne_zero_row {p : Int} (hp : 2 ≤ p) {M : Nat} {u : Row} {k : Nat} (hk : k < M) (hu : u k % p ≠ 0) : 0 < rv p M u := by
 have h0 := (rv_bd hp M u).1
 have h3 : rv p M u ≠ 0 := fun e => hu (by
  have h1 := dg_rv hp M u k hk
  rw [e, dg_zero hp] at h1
  exact h1.symm)
 omega
theorem irr_of_gen {p m : Int} {mod : List Int} (hs : Shp p m mod) (hm : 2 ≤ m) {x : Int} {l : List Int} (hg : IsGen p m mod x l) : Irr p mod := by
 intro d hd hd2 v hv0 hv1
 have hp := hs.p2
 have hml : (mod.length : Int) = m := by
  rcases hs.low with h | h
  ·omega
  ·exact h.2
 have hM : m.toNat = mod.length := by omega
 cases hb : bDiv p (digs p d v) mod with
 | false => rfl
 | true =>
  exfalso
  have hlen := digs_length p d v
  generalize hlo : digs p d v = low at hb hlen
  obtain ⟨Q, hQ, hc, htop⟩ := dloop_row (p := p) (low := low) (mod.length + 1 - low.length) (mod ++ [1]) (by simp; omega)
  have hz : rl (dloop p low (mod.length + 1 - low.length) (mod ++ [1])) = Row.z := by
   funext j
   unfold bDiv divL at hb
   rw [List.all_eq_true] at hb
   simp only [rl, Row.z]
   by_cases hj : j < (dloop p low (mod.length + 1 - low.length) (mod ++ [1])).length
   ·rw [List.getD_eq_getElem?_getD, List.getElem?_eq_getElem hj]
    simpa using hb _ (List.getElem_mem hj)
   ·rw [List.getD_eq_getElem?_getD, List.getElem?_eq_none (by omega)]; rfl
  rw [hz, Row.z_add, fF_rl] at hc
  have htop' := htop (by omega)
  rw [show low.length + (mod.length + 1 - low.length) - 1 = mod.length by omega] at htop'
  have htop2 : (mod ++ [(1 : Int)]).getD mod.length 0 = 1 := by simp [List.getD_eq_getElem?_getD]
  rw [htop2] at htop'
  -- the two residues
  have hgs : Sup mod.length (gF low) := fun j hj => gF_sup low j (by omega)
  have hQs : Sup mod.length Q := fun j hj => hQ j (by omega)
  have hu : 0 < rv p mod.length (gF low) := ne_zero_row hp (k := low.length) (by omega) (by rw [gF_top, Int.emod_eq_of_lt (by omega) (by omega)]; omega)
  have hw : 0 < rv p mod.length Q := ne_zero_row hp (k := mod.length + 1 - low.length - 1) (by omega) (by rw [htop', Int.emod_eq_of_lt (by omega) (by omega)]; omega)
  have hu2 := (rv_bd hp mod.length (gF low)).2
  have hw2 := (rv_bd hp mod.length Q).2
  have hpw : pw p m = p ^ mod.length := by unfold pw; rw [hM]
  refine hg.no_zero hs ⟨hu, by rw [hpw]; exact hu2⟩ ⟨hw, by rw [hpw]; exact hw2⟩ ?_
  rw [mulI_eq hs, hM]
  have h1 : Cg p (rm mod.length (rl mod) (dg p mod.length (rv p mod.length (gF low))) (dg p mod.length (rv p mod.length Q))) Row.z := by
   refine Cg.trans (rm_cg (dg_rv_cg hp hgs) (dg_rv_cg hp hQs)) ?_
   have hT := tm_lin mod.length (rl mod)
   unfold rm
   rw [pl_bound' hQ _ (by omega)]
   have h2 : gF low = pl (tm mod.length (rl mod)) (low.length + 1) (gF low) (ee 0) := by
    rw [pl_tm_e (low := rl mod) (gF low) (low.length + 1) (by omega)]
    funext j
    split
    ·rfl
    ·exact gF_sup low j (by omega)
   rw [h2, ← pl_mul hT (gF_sup low) Q (ee 0) (mod.length - low.length) (mod.length + 1 - low.length) (by omega), show low.length + 1 + (mod.length - low.length) = mod.length + 1 by omega]
   refine Cg.trans (Cg.pl hT _ hc.symm (Cg.refl _ _)) (Cg.of_eq (fF_e (by omega)))
  rw [rv_cg h1, ← dg_zero hp mod.length]
  exact rv_dg hp (by omega) (Int.pow_pos (by omega))
theorem fldR_of_N {p m : Int} {mod : List Int} (h : FldN p m mod) : FldR p m mod := by
 obtain ⟨hs, x, l, hg⟩ := h
 refine ⟨hs, ?_⟩
 by_cases hm : m = 1
 ·exact .inl hm
 ·exact .inr (irr_of_gen hs.1 (by have := hs.1.m1; omega) hg)
end Go.Proofs.YtdkahdehodopoaaGreat

namespace Go.Proofs.YtdkahdehodopoaaGreat
theorem least_nat {P : Nat → Prop} (h : ∃ n, P n) : ∃ n, P n ∧ ∀ k, k < n → ¬ P k := by
 obtain ⟨n, hn⟩ := h
 induction n using Nat.strongRecOn with
 | _ n ih =>
  by_cases h : ∃ k, k < n ∧ P k
  ·obtain ⟨k, hk, hp⟩ := h
   exact ih k hk hp
  ·exact ⟨n, hn, fun k hk hp => h ⟨k, hk, hp⟩⟩
theorem prime_inv {p c : Int} (hp : IsP p) (hc : c % p ≠ 0) : ∃ u : Int, (u * c) % p = 1 := by
 have h2 := hp.1
 have hg : Int.gcd c p = 1 := by
  have h0 : (Int.gcd c p : Int) ∣ p := Int.gcd_dvd_right ..
  have h1 : (Int.gcd c p : Int) ∣ c := Int.gcd_dvd_left ..
  have hle : (Int.gcd c p : Int) ≤ p := Int.le_of_dvd (by omega) h0
  have hne0 : Int.gcd c p ≠ 0 := fun h => by
   rw [h] at h0
   have := Int.zero_dvd.1 h0
   omega
  rcases Nat.lt_or_ge (Int.gcd c p) 2 with h3 | h3
  ·omega
  ·exfalso
   by_cases h4 : (Int.gcd c p : Int) < p
   ·exact hp.2 _ (by omega) h4 (Int.emod_eq_zero_of_dvd h0)
   ·have h5 : (Int.gcd c p : Int) = p := by omega
    rw [h5] at h1
    exact hc (Int.emod_eq_zero_of_dvd h1)
 obtain ⟨u, hu⟩ := inverse (by omega) hg
 exact ⟨u, by rw [hu, Int.emod_eq_of_lt (by omega) (by omega)]⟩
theorem cg_z {p : Int} {u : Row} (h : ∀ j, u j % p = 0) : Cg p u Row.z := Cg.of fun j => by rw [h j]; rfl
theorem cg_z_emod {p : Int} {u : Row} (h : Cg p u Row.z) (j : Nat) : u j % p = 0 := by rw [h.emod j]; rfl
theorem it_sh_e : ∀ k, it sh k (ee 0) = ee k
 | 0 => rfl
 | k + 1 => by simp only [it, it_sh_e k, sh_ee]
theorem pl_sh_e (a : Row) : ∀ n, pl sh n a (ee 0) = fun j => if j < n then a j else 0
 | 0 => by funext j; simp [pl, Row.z]
 | n + 1 => by
  funext j
  have h3 := pl_sh_e a n
  have h4 := it_sh_e n
  simp only [pl, h3, h4, Row.add, Row.sm, ee]
  by_cases h1 : j < n
  ·rw [if_pos h1, if_neg (by omega), if_pos (by omega)]; omega
  ·by_cases h2 : j = n
   ·rw [if_neg h1, if_pos h2, if_pos (by omega), h2]; omega
   ·rw [if_neg h1, if_neg h2, if_neg (by omega)]; omega
theorem pl_sh_self {n : Nat} {a : Row} (ha : Sup n a) : pl sh n a (ee 0) = a := by
 rw [pl_sh_e]
 funext j
 split
 ·rfl
 ·exact (ha j (by omega)).symm
theorem sup_mono {n k : Nat} {u : Row} (h : Sup n u) (hk : n ≤ k) : Sup k u := fun j hj => h j (by omega)
theorem pl_sh_sup {e : Nat} {G : Row} (hG : Sup (e + 1) G) (h : Row) : ∀ N, Sup (N + e) (pl sh N h G)
 | 0 => fun _ _ => rfl
 | N + 1 => by
  refine sup_add (sup_mono (pl_sh_sup hG h N) (by omega)) (sup_sm _ ?_)
  have := it_sh_sup hG N
  exact sup_mono this (by omega)
theorem uniq {p : Int} {e : Nat} {G R : Row} (hG : Sup (e + 1) G) (hG1 : G e = 1) (hR : Sup e R) : ∀ (N : Nat) (h : Row), Cg p (pl sh N h G) R → Cg p R Row.z
 | 0, h, hc => hc.symm
 | N + 1, h, hc => by
  have h1 := hc.emod (N + e)
  have h2 : pl sh (N + 1) h G (N + e) = h N := by
   simp only [pl, Row.add, Row.sm, it_sh]
   rw [pl_sh_sup hG h N (N + e) (by omega), if_neg (by omega), show N + e - N = e by omega, hG1]
   omega
  rw [h2, hR (N + e) (by omega)] at h1
  refine uniq hG hG1 hR N h (Cg.trans ?_ hc)
  have h3 : Cg p (Row.sm (h N) (it sh N G)) Row.z := cg_z fun j => by
   simp only [Row.sm]
   rw [Int.mul_emod, h1]; simp
  have h4 := Cg.add (Cg.refl p (pl sh N h G)) h3.symm
  rw [Row.add_z] at h4
  exact h4
theorem dloop_in {p : Int} (hp : 1 ≤ p) {low : List Int} : ∀ (n : Nat) (r : List Int), AllIn p r → AllIn p (dloop p low n r)
 | 0, r, h => h
 | n + 1, r, h => dloop_in hp n _ (dstep_in hp h)
theorem dloop_sup {p : Int} {low : List Int} : ∀ (n : Nat) (r : List Int), Sup (low.length + n) (rl r) → Sup low.length (rl (dloop p low n r))
 | 0, r, h => h
 | n + 1, r, h => dloop_sup n _ (fun j hj => by
   by_cases hjl : j < r.length
   ·have h1 : rl (dstep p low r (low.length + n)) j = dent p low r (low.length + n) j := by
     simp only [rl, dstep]
     rw [List.getD_eq_getElem?_getD, List.getElem?_map, List.getElem?_range hjl]
     rfl
    rw [h1]
    unfold dent
    by_cases h2 : j = low.length + n
    ·rw [if_pos h2]
    ·rw [if_neg h2, if_neg (by omega)]
     exact h j (by omega)
   ·exact rl_sup _ j (by rw [dstep_length]; omega))
theorem bDiv_of_zero {p : Int} (hp : 2 ≤ p) {low mod : List Int} (hmod : AllIn p mod) (h : Cg p (rl (divL p low mod)) Row.z) : bDiv p low mod = true := bDiv_true fun k hk => by
 have hin : AllIn p (divL p low mod) := dloop_in (by omega) _ _ (fun z hz => by
  rcases List.mem_append.1 hz with h1 | h1
  ·exact hmod z h1
  ·simp at h1; omega)
 have h1 := cg_z_emod h k
 have h2 := hin.get (by omega) k
 have h3 : (divL p low mod).getD k 0 % p = 0 := h1
 rw [Int.emod_eq_of_lt h2.1 h2.2] at h3
 exact h3
theorem gF_cg {p : Int} (hp : 2 ≤ p) {d : Nat} {g : Row} (hg : Sup (d + 1) g) (hg1 : g d = 1) : Cg p (gF (digs p d (rv p d g))) g := Cg.of fun j => by
 have hl := digs_length p d (rv p d g)
 by_cases h1 : j < d
 ·rw [gF_lo _ (by omega)]
  have := dg_rv hp d g j h1
  simp only [dg, rl] at this
  rw [this, Int.emod_emod]
 ·by_cases h2 : j = d
  ·subst h2
   have : gF (digs p j (rv p j g)) j = 1 := by
    have h3 := gF_top (digs p j (rv p j g))
    rwa [hl] at h3
   rw [this, hg1]
  ·rw [gF_sup _ j (by omega), hg j (by omega)]
def An (p : Int) (M : Nat) (low a : Row) (d : Nat) (g : Row) : Prop := Sup (d + 1) g ∧ g d = 1 ∧ Cg p (pl (tm M low) (d + 1) g a) Row.z
theorem monic_of {p : Int} (hp : IsP p) {M : Nat} {low a h : Row} {n : Nat} (hh : Sup n h) (hne : ∃ k, k < n ∧ h k % p ≠ 0) (hz : Cg p (pl (tm M low) n h a) Row.z) : ∃ d, d < n ∧ ∃ g, An p M low a d g := by
 have hT := tm_lin M low
 -- the top index
 obtain ⟨k, hk, hkmax⟩ : ∃ k, (k < n ∧ h k % p ≠ 0) ∧ ∀ i, k < i → h i % p = 0 := by
  obtain ⟨k0, hk0, hk1⟩ := hne
  obtain ⟨e, he, hmin⟩ := least_nat (P := fun e => e < n ∧ h (n - 1 - e) % p ≠ 0) ⟨n - 1 - k0, by omega, by rw [show n - 1 - (n - 1 - k0) = k0 by omega]; exact hk1⟩
  refine ⟨n - 1 - e, ⟨by omega, he.2⟩, fun i hi => ?_⟩
  by_cases hin : i < n
  ·refine Classical.byContradiction fun hno => hmin (n - 1 - i) (by omega) ⟨by omega, ?_⟩
   rw [show n - 1 - (n - 1 - i) = i by omega]; exact hno
  ·rw [hh i (by omega)]; rfl
 obtain ⟨c, hc⟩ := prime_inv hp hk.2
 have hg : ∀ i, (fun i => if i < k then c * h i else if i = k then 1 else 0 : Row) i = if i < k then c * h i else if i = k then 1 else 0 := fun _ => rfl
 generalize (fun i => if i < k then c * h i else if i = k then 1 else 0 : Row) = g at hg
 have hgs : Sup (k + 1) g := fun j hj => by rw [hg, if_neg (by omega), if_neg (by omega)]
 refine ⟨k, hk.1, g, hgs, by rw [hg, if_neg (by omega), if_pos rfl], ?_⟩
 have hcg : Cg p g (Row.sm c h) := Cg.of fun i => by
  rw [hg]
  simp only [Row.sm]
  by_cases h1 : i < k
  ·rw [if_pos h1]
  ·rw [if_neg h1]
   by_cases h2 : i = k
   ·rw [if_pos h2, h2, hc]
    have := hp.1
    exact Int.emod_eq_of_lt (by omega) (by omega)
   ·rw [if_neg h2, Int.mul_emod, hkmax i (by omega)]; simp
 rw [← pl_bound' (T := tm M low) hgs a (show k + 1 ≤ n by omega)]
 refine Cg.trans (Cg.pl hT n hcg (Cg.refl _ _)) ?_
 rw [pl_smQ]
 have := Cg.sm c hz
 rwa [Row.sm_z] at this
theorem rv_zero {p : Int} (hp : 2 ≤ p) (M : Nat) : rv p M Row.z = 0 := by
 rw [← dg_zero hp M]
 exact rv_dg hp (by omega) (Int.pow_pos (by omega))
theorem zero_of_cg {p : Int} (hp : 2 ≤ p) {M : Nat} {u : Int} (h0 : 0 ≤ u) (h1 : u < p ^ M) (h : Cg p (dg p M u) Row.z) : u = 0 := by
 rw [← rv_dg hp h0 h1, rv_cg h, rv_zero hp]
theorem cg_of_rv {p : Int} (hp : 2 ≤ p) {M : Nat} {w : Row} (hw : Sup M w) (h : rv p M w = 0) : Cg p w Row.z := cg_z fun j => by
 by_cases hj : j < M
 ·rw [← dg_rv hp M w j hj, h, dg_zero hp]; rfl
 ·rw [hw j (by omega)]; rfl
theorem no_zero_irr {p m : Int} {mod : List Int} (hsp : ShpP p m mod) (hm : 2 ≤ m) (hirr : Irr p mod) {u v : Int} (hu : 0 < u ∧ u < pw p m) (hv : 0 < v ∧ v < pw p m) : mulI p m mod u v ≠ 0 := by
 intro hzero
 have hs := hsp.1
 have hpp := hsp.2
 have hp := hs.p2
 have hml : (mod.length : Int) = m := by
  rcases hs.low with h | h
  ·omega
  ·exact h.2
 have hM : m.toNat = mod.length := by omega
 have hpw : pw p m = p ^ mod.length := by unfold pw; rw [hM]
 rw [mulI_eq hs, hM] at hzero
 rw [hpw] at hu hv
 generalize hL : mod.length = M at *
 have hT := tm_lin M (rl mod)
 have ha : Sup M (dg p M u) := dg_sup _ _ _
 have hb : Sup M (dg p M v) := dg_sup _ _ _
 have hab := cg_of_rv hp (rm_sup ha) hzero
 have hne : ∀ {x : Int}, 0 < x ∧ x < p ^ M → ∃ k, k < M ∧ dg p M x k % p ≠ 0 := fun {x} hx => by
  refine Classical.byContradiction fun hno => ?_
  have h1 : Cg p (dg p M x) Row.z := cg_z fun j => by
   by_cases hj : j < M
   ·exact Classical.byContradiction fun h2 => hno ⟨j, hj, h2⟩
   ·rw [dg_sup p M x j (by omega)]; rfl
  have := zero_of_cg hp (by omega) hx.2 h1
  omega
 have hane := hne hu
 have hbne := hne hv
 generalize dg p M u = a at ha hab hane
 obtain ⟨d0, hd0, g0, hg0⟩ := monic_of hpp hb hbne hab
 obtain ⟨d, ⟨g, hg⟩, hmin⟩ := least_nat (P := fun d => ∃ g, An p M (rl mod) a d g) ⟨d0, g0, hg0⟩
 have hdM : d < M := by
  refine Nat.lt_of_le_of_lt (Nat.le_of_not_lt (fun hlt => hmin d0 hlt ⟨g0, hg0⟩)) hd0
 obtain ⟨hgs, hg1, hga⟩ := hg
 have hd1 : 1 ≤ d := by
  rcases Nat.eq_zero_or_pos d with h | h
  ·exfalso
   subst h
   have h1 : pl (tm M (rl mod)) (0 + 1) g a = a := by
    simp only [pl, it, Row.z_add, hg1]
    funext j; simp [Row.sm]
   rw [h1] at hga
   obtain ⟨k, _, hk⟩ := hane
   exact hk (cg_z_emod hga k)
  ·exact h
 -- the modulus divided by g
 have hll := digs_length p d (rv p d g)
 have hgF := gF_cg hp hgs hg1
 have hvb := rv_bd hp d g
 generalize hlo : digs p d (rv p d g) = low at hll hgF
 have hmodlen : (mod ++ [(1 : Int)]).length = M + 1 := by simp [hL]
 obtain ⟨Q, hQ, hc, htop⟩ := dloop_row (p := p) (low := low) (mod.length + 1 - low.length) (mod ++ [1]) (by omega)
 have hRs : Sup low.length (rl (divL p low mod)) := dloop_sup _ _ (by
  have h1 := rl_sup (mod ++ [(1 : Int)])
  exact sup_mono h1 (by omega))
 have hfF : rl (mod ++ [1]) = fF M (rl mod) := by rw [fF_rl, hL]
 rw [hfF] at hc
 have hc1 : Cg p (fF M (rl mod)) ((rl (divL p low mod)).add (pl sh (mod.length + 1 - low.length) Q (gF low))) := hc
 clear hc
 generalize hRd : rl (divL p low mod) = R at hRs hc1
 have hQ1 : Q (mod.length + 1 - low.length - 1) = 1 := by
  rw [htop (by omega), show low.length + (mod.length + 1 - low.length) - 1 = mod.length by omega]
  simp [List.getD_eq_getElem?_getD]
 have hRa : Cg p (pl (tm M (rl mod)) d R a) Row.z := by
  have h1 := Cg.pl hT (M + 1) hc1 (Cg.refl p a)
  rw [fF_v (by omega) ha, pl_addQ] at h1
  have h2 : pl (tm M (rl mod)) (M + 1) (pl sh (mod.length + 1 - low.length) Q (gF low)) a = pl (tm M (rl mod)) (mod.length + 1 - low.length) Q (pl (tm M (rl mod)) (low.length + 1) (gF low) a) := by
   rw [← pl_mul hT (gF_sup low) Q a (M - low.length) (mod.length + 1 - low.length) (by omega), show low.length + 1 + (M - low.length) = M + 1 by omega]
  have h3 : Cg p (pl (tm M (rl mod)) (low.length + 1) (gF low) a) Row.z := by
   rw [hll]
   exact Cg.trans (Cg.pl hT _ hgF (Cg.refl _ _)) hga
  have h4 : Cg p (pl (tm M (rl mod)) (M + 1) (pl sh (mod.length + 1 - low.length) Q (gF low)) a) Row.z := by
   rw [h2]
   have h5 := Cg.pl hT (mod.length + 1 - low.length) (Cg.refl p Q) h3
   rwa [pl_z hT] at h5
  have h6 := Cg.trans h1 (Cg.add (Cg.refl p (pl (tm M (rl mod)) (M + 1) R a)) h4)
  rw [Row.add_z, pl_bound' (T := tm M (rl mod)) (sup_mono hRs (show low.length ≤ d by omega)) a (show d ≤ M + 1 by omega)] at h6
  exact h6.symm
 have hRz : Cg p R Row.z := cg_z fun j => by
  refine Classical.byContradiction fun hno => ?_
  have hjd : j < d := Nat.lt_of_not_le (fun hge => hno (by rw [hRs j (by omega)]; rfl))
  obtain ⟨d', hd', g', hg'⟩ := monic_of hpp (sup_mono hRs (show low.length ≤ d by omega)) ⟨j, hjd, hno⟩ hRa
  exact hmin d' hd' ⟨g', hg'⟩
 have hbd : bDiv p low mod = true := bDiv_of_zero hp hs.ent (by rw [hRd]; exact hRz)
 by_cases h2d : 2 * d ≤ M
 ·have h1 := hirr d hd1 (by omega) (rv p d g) hvb.1 hvb.2
  rw [hlo, hbd] at h1
  cases h1
 ·-- the other factor
  have hn : mod.length + 1 - low.length = (M - d) + 1 := by omega
  rw [hn] at hQ hQ1 hc1
  rw [show M - d + 1 - 1 = M - d by omega] at hQ1
  have hll2 := digs_length p (M - d) (rv p (M - d) Q)
  have hgF2 := gF_cg hp hQ hQ1
  have hvb2 := rv_bd hp (M - d) Q
  have h1 := hirr (M - d) (by omega) (by omega) (rv p (M - d) Q) hvb2.1 hvb2.2
  generalize hlo2 : digs p (M - d) (rv p (M - d) Q) = low2 at hll2 hgF2 h1
  obtain ⟨Q2, hQ2, hc2, _⟩ := dloop_row (p := p) (low := low2) (mod.length + 1 - low2.length) (mod ++ [1]) (by omega)
  have hRs2 : Sup low2.length (rl (divL p low2 mod)) := dloop_sup _ _ (by
   have h1 := rl_sup (mod ++ [(1 : Int)])
   exact sup_mono h1 (by omega))
  rw [hfF] at hc2
  have hc3 : Cg p (fF M (rl mod)) ((rl (divL p low2 mod)).add (pl sh (mod.length + 1 - low2.length) Q2 (gF low2))) := hc2
  clear hc2
  rw [show mod.length + 1 - low2.length = d + 1 by omega] at hc3
  have hz2 : Cg p (rl (divL p low2 mod)) Row.z := by
   refine uniq (gF_sup low2) (gF_top low2) hRs2 (d + 1) (g.add (Row.sm (-1) Q2)) ?_
   -- f is g Q
   have h2 : Cg p (fF M (rl mod)) (pl sh (M - d + 1) Q (gF low)) := by
    have := Cg.trans hc1 (Cg.add hRz (Cg.refl p (pl sh (M - d + 1) Q (gF low))))
    rwa [Row.z_add] at this
   have h3 : Cg p (pl sh (M - d + 1) Q (gF low)) (pl sh (d + 1) g (gF low2)) := by
    refine Cg.trans (Cg.pl sh_lin _ (Cg.refl p Q) hgF) ?_
    have h4 : pl sh (M - d + 1) Q g = pl sh (d + 1) g Q := by
     have h5 := pl_sh_self hgs
     have h6 := pl_sh_self hQ
     calc pl sh (M - d + 1) Q g = pl sh (M - d + 1) Q (pl sh (d + 1) g (ee 0)) := by rw [h5]
      _ = pl sh (d + 1) g (pl sh (M - d + 1) Q (ee 0)) := pl_pl sh_lin _ _ _ _ _
      _ = pl sh (d + 1) g Q := by rw [h6]
    rw [h4]
    exact Cg.pl sh_lin _ (Cg.refl p g) hgF2.symm
   have h7 := Cg.trans hc3.symm (Cg.trans h2 h3)
   -- R2 + Q2 G = g G
   have h8 := Cg.add h7.symm (Cg.refl p (Row.sm (-1) (pl sh (d + 1) Q2 (gF low2))))
   rw [pl_addQ, pl_smQ]
   refine Cg.trans h8 (Cg.of_eq ?_)
   funext j; simp only [Row.add, Row.sm]; omega
  have hbd2 : bDiv p low2 mod = true := bDiv_of_zero hp hs.ent hz2
  rw [hbd2] at h1
  cases h1
theorem no_zero_prime {p : Int} (hsp : ShpP p 1 []) {u v : Int} (hu : 0 < u ∧ u < pw p 1) (hv : 0 < v ∧ v < pw p 1) : mulI p 1 [] u v ≠ 0 := by
 intro hz
 have hs := hsp.1
 have hp := hs.p2
 have hpw : pw p 1 = p := by
  have h2 := pw_succ p (k := 0) (by omega)
  rw [pw_zero, Int.zero_add, Int.one_mul] at h2
  exact h2
 rw [hpw] at hu hv
 rw [mulI_eq hs] at hz
 have h1 := cg_of_rv hp (rm_sup (dg_sup _ _ _)) hz
 have h2 := cg_z_emod h1 0
 have hd : ∀ x : Int, 0 ≤ x → x < p → dg p 1 x 0 = x := fun x h0 h1 => by
  simp only [dg, rl, digs]
  rw [Int.emod_eq_of_lt h0 h1]; rfl
 have h3 : rm (1 : Int).toNat (rl []) (dg p (1 : Int).toNat u) (dg p (1 : Int).toNat v) 0 = v * u := by
  show rm 1 (rl []) (dg p 1 u) (dg p 1 v) 0 = v * u
  simp only [rm, pl, it, Row.add, Row.z, Row.sm, hd u (by omega) hu.2, hd v (by omega) hv.2]
  omega
 rw [h3] at h2
 obtain ⟨c, hc⟩ := prime_inv (c := v) hsp.2 (by rw [Int.emod_eq_of_lt (by omega) hv.2]; omega)
 have h4 : (c * (v * u)) % p = u := by
  rw [← Int.mul_assoc, Int.mul_emod, hc, Int.one_mul, Int.emod_emod, Int.emod_eq_of_lt (by omega) hu.2]
 rw [Int.mul_emod, h2] at h4
 simp at h4
 omega
theorem no_zero {p m : Int} {mod : List Int} (h : FldR p m mod) {u v : Int} (hu : 0 < u ∧ u < pw p m) (hv : 0 < v ∧ v < pw p m) : mulI p m mod u v ≠ 0 := by
 rcases h.1.1.low with h1 | h1
 ·obtain ⟨rfl, rfl⟩ := h1
  exact no_zero_prime h.1 hu hv
 ·rcases h.2 with h2 | h2
  ·omega
  ·exact no_zero_irr h.1 h1.1 h2 hu hv
def El (p m : Int) (_mod : List Int) : Type := { x : Int // 0 ≤ x ∧ x < pw p m }
instance (p m : Int) (mod : List Int) : DecidableEq (El p m mod) := inferInstanceAs (DecidableEq { x : Int // 0 ≤ x ∧ x < pw p m })
theorem El.ext {p m : Int} {mod : List Int} {a b : El p m mod} (h : a.1 = b.1) : a = b := Subtype.ext h
theorem addI_bd {p m : Int} (hp : 2 ≤ p) (x y : Int) : 0 ≤ addI p m x y ∧ addI p m x y < pw p m := rv_bd hp _ _
theorem negI_bd {p m : Int} (hp : 2 ≤ p) (x : Int) : 0 ≤ negI p m x ∧ negI p m x < pw p m := rv_bd hp _ _
theorem negI_add {p m : Int} (hp : 2 ≤ p) (x : Int) : addI p m (negI p m x) x = 0 := by rw [addI_comm, addI_neg hp]
theorem addI_zeroR {p m : Int} (hp : 2 ≤ p) {x : Int} (h0 : 0 ≤ x) (h1 : x < pw p m) : addI p m x 0 = x := by rw [addI_comm]; exact addI_zero hp h0 h1
section
variable {p m : Int} {mod : List Int}
theorem mul_inj (h : FldR p m mod) {x y z : Int} (hx : 0 ≤ x ∧ x < pw p m) (hy : 0 ≤ y ∧ y < pw p m) (hz : 0 < z ∧ z < pw p m) (he : mulI p m mod x z = mulI p m mod y z) : x = y := by
 have hs := h.1.1
 have hp := hs.p2
 have h1 : mulI p m mod (addI p m x (negI p m y)) z = 0 := by
  rw [mulI_add hs, he, ← mulI_add hs, addI_neg hp, mulI_zero hs]
 have h2 := addI_bd (m := m) hp x (negI p m y)
 have h3 : addI p m x (negI p m y) = 0 := by
  refine Classical.byContradiction fun hne => ?_
  exact no_zero h ⟨by omega, h2.2⟩ hz h1
 have h4 : addI p m (addI p m x (negI p m y)) y = y := by rw [h3]; exact addI_zero hp hy.1 hy.2
 rw [addI_assoc hp, negI_add hp, addI_zeroR hp hx.1 hx.2] at h4
 exact h4
theorem inv_ex (h : FldR p m mod) {z : Int} (hz : 0 < z ∧ z < pw p m) : ∃ y, 0 ≤ y ∧ y < pw p m ∧ mulI p m mod y z = 1 := by
 have hs := h.1.1
 have hq := hs.q2
 -- the products with z are all different
 refine Classical.byContradiction fun hno => ?_
 let l := (List.range (pw p m - 1).toNat).map (fun i : Nat => mulI p m mod ((i : Int) + 1) z)
 have hnd : l.Nodup := by
  refine List.pairwise_map.2 (List.nodup_range.imp_of_mem ?_)
  intro i j hi hj hij e
  have h1 := List.mem_range.1 hi
  have h2 := List.mem_range.1 hj
  have := mul_inj h (x := (i : Int) + 1) (y := (j : Int) + 1) ⟨by omega, by omega⟩ ⟨by omega, by omega⟩ hz e
  omega
 have hb : ∀ y ∈ l, 0 < y ∧ y < pw p m := fun y hy => by
  obtain ⟨i, hi, rfl⟩ := List.mem_map.1 hy
  have h1 := List.mem_range.1 hi
  have h2 := mulI_bd hs ((i : Int) + 1) z
  have h3 := no_zero h (u := (i : Int) + 1) (v := z) ⟨by omega, by omega⟩ hz
  exact ⟨by omega, h2.2⟩
 have h1l : (1 : Int) ∉ l := fun hm => by
  obtain ⟨i, hi, he⟩ := List.mem_map.1 hm
  have h1 := List.mem_range.1 hi
  exact hno ⟨(i : Int) + 1, by omega, by omega, he⟩
 have h2 := nodup_len' (q := pw p m) (1 :: l) (List.nodup_cons.2 ⟨h1l, hnd⟩) (fun y hy => by
  rcases List.mem_cons.1 hy with rfl | hy
  ·omega
  ·exact hb y hy) (by omega)
 have h3 : l.length = (pw p m - 1).toNat := by simp [l]
 simp only [List.length_cons] at h2
 omega
open Classical in
noncomputable def invI (p m : Int) (mod : List Int) (z : Int) : Int := if h : ∃ y, 0 ≤ y ∧ y < pw p m ∧ mulI p m mod y z = 1 then Classical.choose h else 0
theorem invI_spec (h : FldR p m mod) {z : Int} (hz : 0 < z ∧ z < pw p m) : 0 ≤ invI p m mod z ∧ invI p m mod z < pw p m ∧ mulI p m mod (invI p m mod z) z = 1 := by
 rw [invI, dif_pos (inv_ex h hz)]
 exact Classical.choose_spec (inv_ex h hz)
theorem invI_bd (hs : Shp p m mod) (z : Int) : 0 ≤ invI p m mod z ∧ invI p m mod z < pw p m := by
 unfold invI
 split
 ·rename_i h
  have := Classical.choose_spec h
  exact ⟨this.1, this.2.1⟩
 ·have := hs.q2; omega
@[reducible] noncomputable def elFd (h : FldR p m mod) : Fd (El p m mod) where
 add a b := ⟨addI p m a.1 b.1, addI_bd h.1.1.p2 _ _⟩
 mul a b := ⟨mulI p m mod a.1 b.1, mulI_bd h.1.1 _ _⟩
 neg a := ⟨negI p m a.1, negI_bd h.1.1.p2 _⟩
 zero := ⟨0, by have := h.1.1.q2; omega⟩
 one := ⟨1, by have := h.1.1.q2; omega⟩
 inv a := ⟨invI p m mod a.1, invI_bd h.1.1 _⟩
 add_assoc a b c := El.ext (addI_assoc h.1.1.p2 _ _ _)
 add_comm a b := El.ext (addI_comm _ _)
 zero_add a := El.ext (addI_zero h.1.1.p2 a.2.1 a.2.2)
 neg_add a := El.ext (negI_add h.1.1.p2 _)
 mul_assoc a b c := El.ext (mulI_assoc h.1.1 _ _ _)
 mul_comm a b := El.ext (mulI_comm h.1.1 _ _)
 one_mul a := El.ext (mulI_one h.1.1 a.2.1 a.2.2)
 add_mul a b c := El.ext (mulI_add h.1.1 _ _ _)
 inv_mul a ha := El.ext ((invI_spec h ⟨by
  have h1 : a.1 ≠ 0 := fun e => ha (El.ext e)
  have := a.2.1
  omega, a.2.2⟩).2.2)
 one_ne h1 := by
  have h2 : (1 : Int) = 0 := congrArg Subtype.val h1
  omega
theorem filterMap_some {α β : Type} {f : α → Option β} {g : α → β} : ∀ {l : List α}, (∀ i ∈ l, f i = some (g i)) → l.filterMap f = l.map g
 | [], _ => rfl
 | a :: l, h => by
  rw [List.filterMap_cons, h a (by simp), List.map_cons, filterMap_some (fun i hi => h i (List.mem_cons_of_mem _ hi))]
def elNz (p m : Int) (mod : List Int) : List (El p m mod) := (List.range (pw p m - 1).toNat).filterMap (fun i : Nat => if h : (i : Int) + 1 < pw p m then some ⟨(i : Int) + 1, by omega, h⟩ else none)
theorem elNz_map (p m : Int) (mod : List Int) : (elNz p m mod).map (fun a => a.1) = (List.range (pw p m - 1).toNat).map (fun i : Nat => (i : Int) + 1) := by
 unfold elNz
 rw [List.map_filterMap]
 have h : ∀ i ∈ List.range (pw p m - 1).toNat, (Option.map (fun a : El p m mod => a.1) (if h : (i : Int) + 1 < pw p m then some ⟨(i : Int) + 1, by omega, h⟩ else none)) = some ((i : Int) + 1) := fun i hi => by
  have := List.mem_range.1 hi
  rw [dif_pos (by omega)]; rfl
 exact filterMap_some h
theorem elNz_len (p m : Int) (mod : List Int) : (elNz p m mod).length = (pw p m - 1).toNat := by
 have := congrArg List.length (elNz_map p m mod)
 simpa using this
theorem elNz_nz (h : FldR p m mod) : @Fd.Nz (El p m mod) (elFd h) (elNz p m mod) := by
 letI := elFd h
 refine ⟨?_, fun a => ?_⟩
 ·have h1 : ((elNz p m mod).map (fun a => a.1)).Nodup := by
   rw [elNz_map]
   refine List.pairwise_map.2 (List.nodup_range.imp ?_)
   intro i j hij e
   omega
  exact List.Pairwise.of_map (fun a => a.1) (fun a b hab e => hab (by rw [e])) h1
 ·have h2 : a ∈ elNz p m mod ↔ a.1 ∈ (elNz p m mod).map (fun a => a.1) := ⟨fun h => List.mem_map.2 ⟨a, h, rfl⟩, fun h => by
   obtain ⟨b, hb, he⟩ := List.mem_map.1 h
   exact El.ext he ▸ hb⟩
  rw [h2, elNz_map]
  have h3 := a.2
  constructor
  ·intro h4 h5
   obtain ⟨i, hi, he⟩ := List.mem_map.1 h4
   have : a.1 = 0 := congrArg Subtype.val h5
   omega
  ·intro h4
   have h5 : a.1 ≠ 0 := fun e => h4 (El.ext e)
   exact List.mem_map.2 ⟨(a.1 - 1).toNat, List.mem_range.2 (by omega), by omega⟩
theorem pow_val (h : FldR p m mod) (g : El p m mod) : ∀ n, (@Fd.pow _ (elFd h) g n).1 = pwI p m mod g.1 n
 | 0 => rfl
 | n + 1 => by
  rw [pwI_succ h.1.1 g.2, ← pow_val h g n]
  rfl
theorem gen_ex (h : FldR p m mod) : ∃ x l, IsGen p m mod x l := by
 letI := elFd h
 have hs := h.1.1
 have hq := hs.q2
 obtain ⟨g, hg⟩ := (elNz_nz h).gen
 rw [elNz_len] at hg
 obtain ⟨hg0, hg1, hg2⟩ := hg
 have hx := g.2
 have hx0 : g.1 ≠ 0 := fun e => hg0 (El.ext e)
 let n := (pw p m - 1).toNat
 let l := (List.range n).map (fun i => pwI p m mod g.1 i)
 have hlen : l.length = n := by simp [l]
 have hget : ∀ i, i < n → l.getD i 0 = pwI p m mod g.1 i := fun i hi => by
  simp only [l]
  rw [List.getD_eq_getElem?_getD, List.getElem?_map, List.getElem?_range hi]; rfl
 have hpn : pwI p m mod g.1 n = 1 := by rw [← pow_val h]; exact congrArg Subtype.val hg1
 have hnz : ∀ i, 0 < pwI p m mod g.1 i := fun i => by
  have h1 := Fd.pow_ne hg0 i
  have h2 : (Fd.pow g i).1 ≠ 0 := fun e => h1 (El.ext e)
  rw [pow_val h] at h2
  have := (pwI_bd hs hx i).1
  omega
 have hnd : l.Nodup := by
  refine List.pairwise_iff_getElem.2 (fun i j hi hj hij e => ?_)
  rw [hlen] at hi hj
  simp only [l, List.getElem_map, List.getElem_range] at e
  have h1 : Fd.pow g i = Fd.pow g j := El.ext (by rw [pow_val h, pow_val h, e])
  have h2 : Fd.pow g (j - i) = 1 := by
   have h3 : Fd.pow g i * Fd.pow g (j - i) = Fd.pow g i * 1 := by
    rw [← Fd.pow_add, show i + (j - i) = j by omega, ← h1, Fd.mul_one]
   exact Fd.mul_left_cancel (Fd.pow_ne hg0 i) h3
  have h4 := Nat.le_of_dvd (by omega) (hg2 _ h2)
  omega
 refine ⟨g.1, l, by omega, hx.2, ⟨by omega, fun i hi => hget i (by omega), fun y hy => ?_, hnd, ?_⟩, by omega, ?_⟩
 ·obtain ⟨i, _, rfl⟩ := List.mem_map.1 hy
  exact ⟨hnz i, (pwI_bd hs hx i).2⟩
 ·rw [hlen, hpn]
  exact .inr (List.mem_map.2 ⟨0, List.mem_range.2 (by omega), rfl⟩)
 ·rw [hget _ (by omega), ← pwI_succ hs hx, show (pw p m - 2).toNat + 1 = n by omega, hpn]
theorem fldN_iff : FldN p m mod ↔ FldR p m mod := ⟨fldR_of_N, fun h => ⟨h.1, gen_ex h⟩⟩
end
end Go.Proofs.YtdkahdehodopoaaGreat

set_option maxRecDepth 100000
namespace Go.Proofs.YtdkahdehodopoaaGreat
open Go.RowKit
theorem gf_Is_ent : Enters Tryz.prog 25 := enters_of Tryz.func25 (by kernel_rfl) (by kernel_rfl)
theorem gf_Is (g : GfM) (x : Int) :
  Pure Tryz.prog 25 #[.pointer (some g.p), .int .i64 x] [gfR g] (isV (.bool (decide (x ≥ 0) && decide (x < g.q)))) := by
 refine pure_of (args := [.pointer (some g.p), .int .i64 x]) 15 Tryz.func25 rfl rfl rfl gf_Is_ent ⟨id, trivial⟩ (fun w0 => ?_)
 refine tS ?_
 refine tR fun _ _ _ => ?_
 refine pV ?_
 refine tS ?_
 refine tR fun _ _ _ => ?_
 iterate 3 refine pV ?_
 refine stg rfl rfl rfl rfl rfl (fun hb => by (have hq := hb; try simp only [zbA] at hq); exact rMove rfl rfl) ?_
 refine stg rfl rfl rfl rfl rfl (fun hb => by (have hq := hb; try simp only [zbA] at hq); exact rMove rfl rfl) ?_
 refine stg rfl rfl rfl rfl rfl (fun hb => by (have hq := hb; try simp only [zbA] at hq); exact rNil rfl (evg rfl hb)) ?_
 refine stg rfl rfl rfl rfl rfl (fun hb => by (have hq := hb; try simp only [zbA] at hq); exact rFld rfl (evg rfl hb)) ?_
 refine stg rfl rfl rfl rfl rfl (fun hb => by (have hq := hb; try simp only [zbA] at hq); exact rLdF rfl (evg rfl hb) rfl) ?_
 refine stg rfl rfl rfl rfl rfl (fun hb => by (have hq := hb; try simp only [zbA] at hq); exact rLss rfl (evg rfl hb) (evg rfl hb)) ?_
 refine sV (rAndB rfl rfl rfl rfl) ?_
 refine pV ?_
 exact tr_ret ⟨trivial, _, _, rfl, ⟨rfl, rfl⟩, CSub.nil _, trivial⟩
theorem poly_trim_ent : Enters Tryz.prog 96 := enters_of Tryz.func96 (by kernel_rfl) (by kernel_rfl)
theorem poly_trim (A : Option Addr) (n c : Nat) (l : List Int) (hn : n = l.length) (hc : n ≤ c) (hl9 : l.length ≤ 17592186044415) :
  Pure Tryz.prog 96 #[.slice A n c] [ro A (ints l)] (isV (.slice A (trimL l).length c)) := by
 refine pure_of (args := [.slice A n c]) 21 Tryz.func96 rfl rfl rfl poly_trim_ent ⟨id, trivial⟩ (fun w0 => ?_)
 refine tS ?_
 refine tR fun _ _ _ => ?_
 refine pV ?_
 refine tS ?_
 refine tB ?_
 refine tr_loop1 (fun (k : Nat) => [(0, .slice A k c)]) (fun (k : Nat) => [ro A (ints l)]) (fun (k : Nat) => k ≤ l.length ∧ trimL (l.take k) = trimL l) (fun (k : Nat) => k) (n) ⟨rfl, trivial⟩ (by first | exact cs _ _ | exact CSub.refl _) (⟨by omega, by rw [List.take_of_length_le (by omega)]⟩) (fun k hI => ?_)
 obtain ⟨hk0, hk1⟩ := hI
 refine tS ?_
 refine tS ?_
 refine tR fun _ _ _ => ?_
 refine pV ?_
 refine sV (rLen rfl rfl) ?_
 iterate 2 refine pV ?_
 refine stg rfl rfl rfl rfl rfl (fun hb => by (have hq := hb; try simp only [zbA] at hq); exact rMove rfl rfl) ?_
 refine stg rfl rfl rfl rfl rfl (fun hb => by (have hq := hb; try simp only [zbA] at hq); exact rMove rfl rfl) ?_
 refine stg rfl rfl rfl rfl rfl (fun hb => by (have hq := hb; try simp only [zbA] at hq); exact rLen rfl (evg rfl hb)) ?_
 refine stg rfl rfl rfl rfl rfl (fun hb => by (have hq := hb; try simp only [zbA] at hq); exact rSub rfl (evg rfl hb) rfl (by omega) (by omega)) ?_
 refine stg rfl rfl rfl rfl rfl (fun hb => by (have hq := hb; try simp only [zbA] at hq); exact rIdxI rfl (evg rfl hb) (evg rfl hb) (by omega) (by omega) (by omega)) ?_
 refine stg rfl rfl rfl rfl rfl (fun hb => by (have hq := hb; try simp only [zbA] at hq); exact rLdI rfl (evg rfl hb) (by omega)) ?_
 refine stg rfl rfl rfl rfl rfl (fun hb => by (have hq := hb; try simp only [zbA] at hq); exact rEql rfl (evg rfl hb) rfl) ?_
 refine sV (rAndB rfl rfl rfl rfl) ?_
 refine tC rfl (fun h1 => ?_) (fun h1 => ?_)
 ·try simp only [zbA] at h1
  refine tK ?_
  refine tB ?_
  refine tR fun _ _ _ => ?_
  iterate 2 refine pV ?_
  refine sV (rLen rfl rfl) ?_
  refine sV (rSub rfl rfl rfl (by omega) (by omega)) ?_
  refine sV (rCutHi rfl rfl rfl (by omega) (by omega)) ?_
  refine pV ?_
  refine ⟨((k : Int) - 1).toNat, ⟨rfl, trivial⟩, by first | exact cs _ _ | exact CSub.refl _, ?_⟩
  have hkk : ((k : Int) - 1).toNat = k - 1 := by omega
  rw [hkk] at h1 ⊢
  exact ⟨⟨by omega, trim_step (by omega) hk0 hk1 h1.2⟩, by omega⟩
 ·try simp only [zbA] at h1
  refine tE ?_
  refine tS ?_
  refine tR fun _ _ _ => ?_
  iterate 2 refine pV ?_
  have hd := trim_done hk0 hk1 (by
   rcases h1 with h1 | h1
   ·exact .inl (by omega)
   ·rw [show ((k : Int) - 1).toNat = k - 1 by omega] at h1
    exact .inr h1)
  exact tr_ret ⟨trivial, _, _, rfl, ⟨by rw [hd], rfl⟩, CSub.nil _, trivial⟩
theorem poly_CanonS_ent : Enters Tryz.prog 57 := enters_of Tryz.func57 (by kernel_rfl) (by kernel_rfl)
theorem poly_CanonS (g : GfM) (A : Option Addr) (n c : Nat) (l : List Int) (hn : n = l.length) (hl9 : l.length ≤ 17592186044415) :
  Pure Tryz.prog 57 #[.pointer (some g.p), .slice A n c] [gfR g, ro A (ints l)] (one (fun v ch => ∃ B cap, v = .slice B (canL g.q l).length cap ∧ (canL g.q l).length ≤ cap ∧ ch = ow B 3 cap (ints (canL g.q l)))) := by
 have hnn : ((n : Int)).toNat = n := by omega
 refine pure_of (args := [.pointer (some g.p), .slice A n c]) 28 Tryz.func57 rfl rfl rfl poly_CanonS_ent ⟨id, id, trivial⟩ (fun w0 => ?_)
 refine tS ?_
 refine tR fun _ _ _ => ?_
 refine pV ?_
 refine tS ?_
 refine tR fun _ _ _ => ?_
 refine pV ?_
 refine sV (rLen rfl rfl) ?_
 refine eV (eMakeI rfl rfl rfl rfl rfl (by omega) (by omega) (by omega) (fun A1 => ?_))
 refine pV ?_
 refine tS ?_
 refine tS ?_
 refine tR fun _ _ _ => ?_
 rw [hnn]
 refine pV ?_
 refine sV (rLen rfl rfl) ?_
 refine pV ?_
 refine tB ?_
 refine tr_loop2 (fun (k : Int) (o : List Int) => [(0, .pointer (some g.p)), (5, .slice A1 n n), (11, .slice A n c), (12, .int .i64 n), (13, .int .i64 k)]) (fun (k : Int) (o : List Int) => [ow A1 3 n (ints o), gfR g, ro A (ints l)]) (fun (k : Int) (o : List Int) => 0 ≤ k ∧ k ≤ n ∧ o.length = n ∧ (∀ j : Nat, (j : Int) < k → o.getD j 0 = inI g.q (l.getD j 0)) ∧ ∀ j : Nat, k ≤ j → o.getD j 0 = 0) (fun (k : Int) (o : List Int) => (n - k).toNat) (0) (List.replicate n 0) ⟨rfl, rfl, rfl, rfl, rfl, trivial⟩ (by first | exact cs _ _ | exact CSub.refl _) (⟨by omega, by omega, by simp, fun j hj => by omega, fun j _ => by rw [List.getD_eq_getElem?_getD, List.getElem?_replicate]; split <;> rfl⟩) (fun k o hI => ?_)
 obtain ⟨hk0, hk1, hol, hdone, htodo⟩ := hI
 refine tS ?_
 refine tR fun _ _ _ => ?_
 refine pV ?_
 refine tS ?_
 refine tC rfl (fun h3 => ?_) (fun h3 => ?_)
 ·try simp only [zbA] at h3
  refine tK ?_
  refine tS ?_
  refine tB ?_
  refine tS ?_
  refine tR fun _ _ _ => ?_
  refine pV ?_
  refine sV (rIdxI rfl rfl rfl (by omega) (by omega) (by omega)) ?_
  refine sV (rLdI rfl rfl (by omega)) ?_
  iterate 2 refine pV ?_
  refine tS ?_
  refine tR fun _ _ _ => ?_
  iterate 2 refine pV ?_
  refine eV (eCallV rfl rfl rfl (gf_Is _ _) ⟨rfl, rfl, trivial⟩ ?_)
  refine tC rfl (fun h5 => ?_) (fun h5 => ?_)
  ·try simp only [zbA] at h5
   refine tR fun _ _ _ => ?_
   iterate 3 refine pV ?_
   refine sV (rIdxI rfl rfl rfl (by omega) (by omega) (by omega)) ?_
   refine eV (eStI rfl rfl rfl rfl (by omega) ?_)
   refine tR fun _ _ _ => ?_
   refine sV (rAdd rfl rfl rfl (by omega) (by omega)) ?_
   refine pV ?_
   refine ⟨k + 1, o.set k.toNat (l.getD k.toNat 0), ⟨rfl, rfl, rfl, rfl, rfl, trivial⟩, by first | exact cs _ _ | exact CSub.refl _, ?_⟩
   refine ⟨⟨by omega, by omega, by simpa using hol, fun j hj => ?_, fun j hj => by rw [getD_set, if_neg (by omega)]; exact htodo j (by omega)⟩, by omega⟩
   rw [getD_set]
   by_cases hjk : k.toNat = j
   ·subst hjk; rw [if_pos ⟨rfl, by omega⟩, inI_in (by omega) (by omega)]
   ·rw [if_neg (by omega)]; exact hdone j (by omega)
  ·try simp only [zbA] at h5
   refine tK ?_
   refine tR fun _ _ _ => ?_
   refine sV (rAdd rfl rfl rfl (by omega) (by omega)) ?_
   refine pV ?_
   refine ⟨k + 1, o, ⟨rfl, rfl, rfl, rfl, rfl, trivial⟩, by first | exact cs _ _ | exact CSub.refl _, ?_⟩
   refine ⟨⟨by omega, by omega, hol, fun j hj => ?_, fun j hj => htodo j (by omega)⟩, by omega⟩
   by_cases hjk : (j : Int) = k
   ·have hj2 : j = k.toNat := by omega
    rw [htodo j (by omega), hj2, inI, if_neg (by omega)]
   ·exact hdone j (by omega)
 ·try simp only [zbA] at h3
  refine tE ?_
  refine tS ?_
  have hkn : k = n := by omega
  have ho : o = l.map (inI g.q) := by
   apply List.ext_getElem (by simp; omega)
   intro i h1 h2
   have h3 := hdone i (by omega)
   rw [List.getD_eq_getElem?_getD, List.getElem?_eq_getElem h1, List.getD_eq_getElem?_getD, List.getElem?_eq_getElem (show i < l.length by omega)] at h3
   simpa using h3
  refine tR fun _ _ _ => ?_
  refine pV ?_
  refine eV (eCallV rfl rfl rfl (poly_trim _ _ _ o (by omega) (by omega) (by omega)) ⟨rfl, trivial⟩ ?_)
  refine pV ?_
  have hsp := trimL_split o
  have hco : canL g.q l = trimL o := by rw [ho]; rfl
  refine tr_ret ⟨trivial, _, _, rfl, ⟨_, rfl, A1, n, by rw [hco], by have := congrArg List.length hsp; rw [List.length_append] at this; rw [hco]; omega, rfl⟩, ?_, trivial, trivial⟩
  rw [hco]
  have hsh := ow_shrink (e := 3) (A := A1) (cap := n) (vs := ints (trimL o)) (ws := ints (o.drop (trimL o).length)) [gfR g, ro A (ints l)]
  rw [← ints_append, ← hsp] at hsh
  exact hsh.trans (cs _ _)
theorem poly_Canon (g : GfM) (A : Option Addr) (n c : Nat) (l : List Int) (hn : n = l.length) (hl9 : l.length ≤ 17592186044415) :
  Pure Tryz.prog 57 #[.pointer (some g.p), .slice A n c] [gfR g, ro A (ints l)] (one (fun v ch => ∃ B cap, v = .slice B (canL g.q l).length cap ∧ ch = ow B 3 cap (ints (canL g.q l)))) :=
 (poly_CanonS g A n c l hn hl9).mono fun v Fo ⟨ch, h1, B, cap, h2, _, h3⟩ => ⟨ch, h1, B, cap, h2, h3⟩
theorem ref_Is_ent : Enters Tryz.prog 103 := enters_of Tryz.func103 (by kernel_rfl) (by kernel_rfl)
theorem ref_Is (p m : Int) (A : Option Addr) (c : Nat) (mod : List Int) (x : Int) :
  Pure Tryz.prog 103 #[.agg #[.int .i64 p, .int .i64 m, .slice A mod.length c], .int .i64 x] [ro A (ints mod)] (isV (.bool (decide (x ≥ 0) && decide (x < ordI p m)))) := by
 refine pure_of (args := [.agg #[.int .i64 p, .int .i64 m, .slice A mod.length c], .int .i64 x]) 13 Tryz.func103 rfl rfl rfl ref_Is_ent ⟨id, trivial⟩ (fun w0 => ?_)
 refine tS ?_
 refine tR fun _ _ _ => ?_
 refine eV (eBox rfl rfl rfl rfl rfl (fun p0 => ?_))
 refine pV ?_
 refine tS ?_
 refine tR fun _ _ _ => ?_
 iterate 3 refine pV ?_
 refine stg rfl rfl rfl rfl rfl (fun hb => by (have hq := hb; try simp only [zbA] at hq); exact rMove rfl rfl) ?_
 refine stg rfl rfl rfl rfl rfl (fun hb => by (have hq := hb; try simp only [zbA] at hq); exact rLdS rfl rfl rfl) ?_
 refine efg rfl rfl rfl rfl rfl (fun hb => by (have hq := hb; try simp only [zbA] at hq); exact eCallV rfl rfl rfl (ref_order _ _ _ _ _) ⟨(evg rfl hb), trivial⟩ ⟨rfl, rfl⟩) ?_
 refine stg rfl rfl rfl rfl rfl (fun hb => by (have hq := hb; try simp only [zbA] at hq); exact rLss rfl (evg rfl hb) (evg rfl hb)) ?_
 refine sV (rAndB rfl rfl rfl rfl) ?_
 refine pV ?_
 exact tr_ret ⟨trivial, _, _, rfl, ⟨rfl, rfl⟩, CSub.nil _, trivial⟩
theorem ref_In_ent : Enters Tryz.prog 156 := enters_of Tryz.func156 (by kernel_rfl) (by kernel_rfl)
theorem ref_In (p m : Int) (A : Option Addr) (c : Nat) (mod : List Int) (x : Int) :
  Pure Tryz.prog 156 #[.agg #[.int .i64 p, .int .i64 m, .slice A mod.length c], .int .i64 x] [ro A (ints mod)] (isV (.int .i64 (inI (ordI p m) x))) := by
 refine pure_of (args := [.agg #[.int .i64 p, .int .i64 m, .slice A mod.length c], .int .i64 x]) 9 Tryz.func156 rfl rfl rfl ref_In_ent ⟨id, trivial⟩ (fun w0 => ?_)
 refine tS ?_
 refine tR fun _ _ _ => ?_
 refine eV (eBox rfl rfl rfl rfl rfl (fun p0 => ?_))
 refine pV ?_
 refine tS ?_
 refine tS ?_
 refine tR fun _ _ _ => ?_
 refine sV (rLdS rfl rfl rfl) ?_
 refine pV ?_
 refine eV (eCallV rfl rfl rfl (ref_Is _ _ _ _ _ _) ⟨rfl, rfl, trivial⟩ ?_)
 refine tC rfl (fun h1 => ?_) (fun h1 => ?_)
 ·try simp only [zbA] at h1
  refine tS ?_
  refine tR fun _ _ _ => ?_
  iterate 2 refine pV ?_
  exact tr_ret ⟨trivial, _, _, rfl, ⟨by rw [inI, if_pos ⟨by omega, by omega⟩], rfl⟩, CSub.nil _, trivial⟩
 ·try simp only [zbA] at h1
  refine tK ?_
  refine tS ?_
  refine tR fun _ _ _ => ?_
  refine pV ?_
  exact tr_ret ⟨trivial, _, _, rfl, ⟨by rw [inI, if_neg (by omega)], rfl⟩, CSub.nil _, trivial⟩
theorem fac_Compare_ent : Enters Tryz.prog 24 := enters_of Tryz.func24 (by kernel_rfl) (by kernel_rfl)
theorem fac_Compare (g : GfM) (Aa : Option Addr) (na ca : Nat) (a : List Int) (ha : na = a.length) (ha9 : a.length ≤ 17592186044415) (Ab : Option Addr) (nb cb : Nat) (b : List Int) (hb : nb = b.length) (hb9 : b.length ≤ 17592186044415) :
  Pure Tryz.prog 24 #[.pointer (some g.p), .slice Aa na ca, .slice Ab nb cb] [gfR g, ro Aa (ints a), ro Ab (ints b)] (isV (.int .i64 (cmpL (canL g.q a) (canL g.q b)))) := by
 have hla := canL_length g.q a
 have hlb := canL_length g.q b
 refine pure_of (args := [.pointer (some g.p), .slice Aa na ca, .slice Ab nb cb]) 53 Tryz.func24 rfl rfl rfl fac_Compare_ent ⟨id, id, id, trivial⟩ (fun w0 => ?_)
 refine tS ?_
 refine tR fun _ _ _ => ?_
 refine pV ?_
 refine tS ?_
 refine tR fun _ _ _ => ?_
 iterate 2 refine pV ?_
 refine eV (eCall1 rfl rfl rfl (poly_Canon g _ _ _ a (by omega) (by omega)) ⟨rfl, rfl, trivial⟩ ?_)
 rintro _ _ ⟨B1, c1, rfl, rfl⟩
 iterate 2 refine pV ?_
 refine eV (eCall1 rfl rfl rfl (poly_Canon g _ _ _ b (by omega) (by omega)) ⟨rfl, rfl, trivial⟩ ?_)
 rintro _ _ ⟨B1a, c1a, rfl, rfl⟩
 iterate 2 refine pV ?_
 refine tS ?_
 refine tS ?_
 refine tR fun _ _ _ => ?_
 refine pV ?_
 refine sV (rLen rfl rfl) ?_
 refine pV ?_
 refine sV (rLen rfl rfl) ?_
 refine pV ?_
 refine tC rfl (fun h2 => ?_) (fun h2 => ?_)
 ·try simp only [zbA] at h2
  refine tS ?_
  refine tS ?_
  refine tR fun _ _ _ => ?_
  refine pV ?_
  refine sV (rLen rfl rfl) ?_
  refine pV ?_
  refine sV (rLen rfl rfl) ?_
  refine pV ?_
  refine tC rfl (fun h3 => ?_) (fun h3 => ?_)
  ·try simp only [zbA] at h3
   refine tS ?_
   refine tR fun _ _ _ => ?_
   refine pV ?_
   exact tr_ret ⟨trivial, _, _, rfl, ⟨by rw [cmpL, if_pos (by omega)], rfl⟩, CSub.nil _, trivial⟩
  ·try simp only [zbA] at h3
   refine tK ?_
   refine tS ?_
   refine tR fun _ _ _ => ?_
   refine pV ?_
   exact tr_ret ⟨trivial, _, _, rfl, ⟨by rw [cmpL, if_neg (by omega), if_pos (by omega)], rfl⟩, CSub.nil _, trivial⟩
 ·try simp only [zbA] at h2
  refine tK ?_
  refine tS ?_
  refine tS ?_
  refine tR fun _ _ _ => ?_
  refine pV ?_
  refine sV (rLen rfl rfl) ?_
  refine sV (rSub rfl rfl rfl (by omega) (by omega)) ?_
  refine pV ?_
  refine tB ?_
  refine tr_loop1 (fun (i : Int) => [(7, .slice B1 (canL g.q a).length c1), (8, .slice B1a (canL g.q b).length c1a), (9, .int .i64 i)]) (fun (i : Int) => [ow B1a 3 c1a (ints (canL g.q b)), ow B1 3 c1 (ints (canL g.q a))]) (fun (i : Int) => (-1 ≤ i ∧ i < (canL g.q a).length) ∧ cmpN (canL g.q a) (canL g.q b) (i + 1).toNat = cmpL (canL g.q a) (canL g.q b)) (fun (i : Int) => (i + 1).toNat) (((canL g.q a).length : Int) - 1) ⟨rfl, rfl, rfl, trivial⟩ (by first | exact cs _ _ | exact CSub.refl _) (⟨⟨by omega, by omega⟩, by rw [cmpL, if_neg (by omega), if_neg (by omega)]; congr 1; omega⟩) (fun i hI => ?_)
  obtain ⟨⟨hi0, hi1⟩, hi2⟩ := hI
  have hst : 0 ≤ i → (i + 1).toNat = i.toNat + 1 := fun h => by omega
  refine tS ?_
  refine tS ?_
  refine tR fun _ _ _ => ?_
  iterate 2 refine pV ?_
  refine tC rfl (fun h7 => ?_) (fun h7 => ?_)
  ·try simp only [zbA] at h7
   refine tK ?_
   refine tS ?_
   refine tB ?_
   refine tB ?_
   refine tS ?_
   refine tr_draw [0, 1, 2, 3, 4, 5, 6, 7, 8, 9] [] mixed (by kernel_rfl) fun _ _ _ => ?_
   iterate 2 refine pV ?_
   refine sV (rIdxI rfl rfl rfl (by omega) (by omega) (by omega)) ?_
   refine sV (rLdI rfl rfl (by omega)) ?_
   iterate 2 refine pV ?_
   refine sV (rIdxI rfl rfl rfl (by omega) (by omega) (by omega)) ?_
   refine sV (rLdI rfl rfl (by omega)) ?_
   iterate 2 refine pV ?_
   refine tC rfl (fun h9 => ?_) (fun h9 => ?_)
   ·try simp only [zbA] at h9
    refine tS ?_
    refine tR fun _ _ _ => ?_
    refine pV ?_
    rw [hst (by omega), cmpN, if_pos (by omega)] at hi2
    exact tr_ret ⟨trivial, _, _, rfl, ⟨by rw [← hi2], rfl⟩, CSub.nil _, trivial⟩
   ·try simp only [zbA] at h9
    refine tS ?_
    refine tr_draw [0, 1, 2, 3, 4, 5, 6, 7, 8, 9] [] mixed (by kernel_rfl) fun _ _ _ => ?_
    iterate 2 refine pV ?_
    refine sV (rIdxI rfl rfl rfl (by omega) (by omega) (by omega)) ?_
    refine sV (rLdI rfl rfl (by omega)) ?_
    iterate 2 refine pV ?_
    refine sV (rIdxI rfl rfl rfl (by omega) (by omega) (by omega)) ?_
    refine sV (rLdI rfl rfl (by omega)) ?_
    iterate 2 refine pV ?_
    refine tC rfl (fun h11 => ?_) (fun h11 => ?_)
    ·try simp only [zbA] at h11
     refine tS ?_
     refine tR fun _ _ _ => ?_
     refine pV ?_
     rw [hst (by omega), cmpN, if_neg (by omega), if_pos (by omega)] at hi2
     exact tr_ret ⟨trivial, _, _, rfl, ⟨by rw [← hi2], rfl⟩, CSub.nil _, trivial⟩
    ·try simp only [zbA] at h11
     refine tK ?_
     refine tR fun _ _ _ => ?_
     refine pV ?_
     refine sV (rSub rfl rfl rfl (by omega) (by omega)) ?_
     refine pV ?_
     refine ⟨i - 1, ⟨rfl, rfl, rfl, trivial⟩, by first | exact cs _ _ | exact CSub.refl _, ?_⟩
     refine ⟨⟨⟨by omega, by omega⟩, ?_⟩, by omega⟩
     rw [hst (by omega), cmpN, if_neg (by omega), if_neg (by omega)] at hi2
     rw [show (i - 1 + 1).toNat = i.toNat by omega]
     exact hi2
  ·try simp only [zbA] at h7
   refine tE ?_
   refine tS ?_
   refine tR fun _ _ _ => ?_
   refine pV ?_
   have him : i = -1 := by omega
   subst him
   exact tr_ret ⟨trivial, _, _, rfl, ⟨by rw [← hi2]; rfl, rfl⟩, CSub.nil _, trivial⟩
theorem fld_New_ok (p m : Int) (A : Option Addr) (c : Nat) (mod : List Int) (hl9 : mod.length ≤ 17592186044415) (h : FldR p m mod) : Pure Tryz.prog 17 #[.agg #[.int .i64 p, .int .i64 m, .slice A mod.length c]] [ro A (ints mod)] (one (fun v ch => ∃ g : GfM, v = .tuple #[.pointer (some g.p), .int .i64 0] ∧ ch = gfN g ∧ GOk g p m mod)) :=
 (fld_New p m A c mod hl9).mono fun v Fo hr => by
  rcases hr with ⟨_, _, h3⟩ | ⟨g, h1, h2, hg⟩
  ·exact absurd (fldN_iff.2 h) h3
  ·exact ⟨_, h2, g, h1, rfl, hg⟩
end Go.Proofs.YtdkahdehodopoaaGreat

namespace Go.Proofs.YtdkahdehodopoaaGreat
section
variable {g : GfM} {p m : Int} {mod : List Int}
theorem GOk.fld (h : GOk g p m mod) : FldR p m mod := by
 obtain ⟨x, hx⟩ := h.gen
 exact fldN_iff.1 ⟨h.shp, x, _, hx⟩
theorem GOk.q2 (h : GOk g p m mod) : 2 ≤ g.q ∧ g.q ≤ 256 := by
 have h1 := h.shp.1.q2
 have h2 := h.shp.1.q
 have h3 := h.eq
 omega
theorem GOk.elen (h : GOk g p m mod) : (g.exp.length : Int) = g.q - 1 := by
 obtain ⟨x, hx⟩ := h.gen
 rw [h.eq]; exact hx.len
theorem GOk.llen' (h : GOk g p m mod) : (g.log.length : Int) = g.q := by
 have := h.llen
 have := h.q2
 omega
theorem GOk.log_spec (h : GOk g p m mod) {y : Int} (h0 : 0 < y) (h1 : y < g.q) : 0 ≤ g.log.getD y.toNat 0 ∧ g.log.getD y.toNat 0 < g.q - 1 ∧ g.exp.getD (g.log.getD y.toNat 0).toNat 0 = y := by
 obtain ⟨x, hx⟩ := h.gen
 have hl := h.elen
 have hm := hx.all h0 (by rw [← h.eq]; exact h1)
 obtain ⟨i, hi, he⟩ := List.getElem_of_mem hm
 have h2 := h.log i hi
 have h3 : g.exp.getD i 0 = y := by rw [List.getD_eq_getElem?_getD, List.getElem?_eq_getElem hi]; exact he
 rw [h3] at h2
 rw [h2]
 exact ⟨by omega, by omega, by rw [Int.toNat_natCast]; exact h3⟩
theorem GOk.exp_bd (h : GOk g p m mod) {i : Int} (h0 : 0 ≤ i) (h1 : i < g.q - 1) : 0 < g.exp.getD i.toNat 0 ∧ g.exp.getD i.toNat 0 < g.q := by
 obtain ⟨x, hx⟩ := h.gen
 have hl := h.elen
 have hi : i.toNat < g.exp.length := by omega
 have := hx.pow.nz _ (List.getElem_mem hi)
 rw [List.getD_eq_getElem?_getD, List.getElem?_eq_getElem hi, h.eq]
 exact this
theorem IsGen.pw_q {x : Int} {l : List Int} (hs : Shp p m mod) (hg : IsGen p m mod x l) : pwI p m mod x l.length = 1 := by
 have hx : 0 ≤ x ∧ x < pw p m := ⟨by have := hg.x1; omega, hg.x2⟩
 have h1 := hg.len
 have h2 := hg.pow.one
 have h3 := hg.pow.get (l.length - 1) (by omega)
 have h4 := hg.last
 rw [show (pw p m - 2).toNat = l.length - 1 by omega, h3, ← pwI_succ hs hx, show l.length - 1 + 1 = l.length by omega] at h4
 exact h4
theorem IsGen.pw_mod {x : Int} {l : List Int} (hs : Shp p m mod) (hg : IsGen p m mod x l) (n : Nat) : pwI p m mod x n = pwI p m mod x (n % l.length) := by
 have hx : 0 ≤ x ∧ x < pw p m := ⟨by have := hg.x1; omega, hg.x2⟩
 have key : ∀ k r, pwI p m mod x (l.length * k + r) = pwI p m mod x r := by
  intro k r
  induction k with
  | zero => simp
  | succ k ih =>
   have hb := pwI_bd hs hx (l.length * k + r)
   rw [show l.length * (k + 1) + r = l.length + (l.length * k + r) by rw [Nat.mul_succ]; omega, pwI_add hs hx, hg.pw_q hs, mulI_one hs hb.1 hb.2, ih]
 have h1 := key (n / l.length) (n % l.length)
 rwa [Nat.div_add_mod] at h1
theorem GOk.mul (h : GOk g p m mod) {a b : Int} (ha : 0 < a ∧ a < g.q) (hb : 0 < b ∧ b < g.q) : g.exp.getD ((g.log.getD a.toNat 0 + g.log.getD b.toNat 0) % (g.q - 1)).toNat 0 = mulI p m mod a b := by
 obtain ⟨x, hx⟩ := h.gen
 have hs := h.shp.1
 have hl := h.elen
 have hq := h.q2
 have hxb : 0 ≤ x ∧ x < pw p m := ⟨by have := hx.x1; omega, hx.x2⟩
 obtain ⟨i0, i1, i2⟩ := h.log_spec ha.1 ha.2
 obtain ⟨j0, j1, j2⟩ := h.log_spec hb.1 hb.2
 generalize g.log.getD a.toNat 0 = i at *
 generalize g.log.getD b.toNat 0 = j at *
 have h1 := hx.pow.get i.toNat (by omega)
 have h2 := hx.pow.get j.toNat (by omega)
 have e0 := Int.emod_nonneg (i + j) (show g.q - 1 ≠ 0 by omega)
 have e1 := Int.emod_lt_of_pos (i + j) (show 0 < g.q - 1 by omega)
 have h3 := hx.pow.get ((i + j) % (g.q - 1)).toNat (by omega)
 rw [i2] at h1
 rw [j2] at h2
 rw [h3, h1, h2, ← pwI_add hs hxb, hx.pw_mod hs (i.toNat + j.toNat)]
 congr 1
 have : (((i.toNat + j.toNat) % g.exp.length : Nat) : Int) = (i + j) % (g.q - 1) := by
  rw [← hl]
  simp only [Int.natCast_emod, Int.natCast_add]
  rw [Int.toNat_of_nonneg i0, Int.toNat_of_nonneg j0]
 omega
theorem GOk.inv (h : GOk g p m mod) {a : Int} (ha : 0 < a ∧ a < g.q) : g.exp.getD ((g.q - 1 - g.log.getD a.toNat 0) % (g.q - 1)).toNat 0 = invI p m mod a := by
 have hs := h.shp.1
 have hq := h.q2
 have heq := h.eq
 have hF := h.fld
 obtain ⟨i0, i1, i2⟩ := h.log_spec ha.1 ha.2
 have e0 := Int.emod_nonneg (g.q - 1 - g.log.getD a.toNat 0) (show g.q - 1 ≠ 0 by omega)
 have e1 := Int.emod_lt_of_pos (g.q - 1 - g.log.getD a.toNat 0) (show 0 < g.q - 1 by omega)
 have hb := h.exp_bd e0 e1
 have hi := invI_spec hF (z := a) ⟨ha.1, by omega⟩
 refine mul_inj hF (z := a) ⟨by omega, by omega⟩ ⟨hi.1, hi.2.1⟩ ⟨ha.1, by omega⟩ ?_
 rw [hi.2.2, ← h.mul hb ha]
 obtain ⟨j0, j1, j2⟩ := h.log_spec hb.1 hb.2
 obtain ⟨x, hx⟩ := h.gen
 have hl := h.elen
 -- the logarithm of exp k is k
 have h5 : g.log.getD (g.exp.getD ((g.q - 1 - g.log.getD a.toNat 0) % (g.q - 1)).toNat 0).toNat 0 = (g.q - 1 - g.log.getD a.toNat 0) % (g.q - 1) := by
  have := h.log ((g.q - 1 - g.log.getD a.toNat 0) % (g.q - 1)).toNat (by omega)
  rw [this]; omega
 rw [h5]
 have h6 : ((g.q - 1 - g.log.getD a.toNat 0) % (g.q - 1) + g.log.getD a.toNat 0) % (g.q - 1) = 0 := by
  rw [Int.emod_add_emod, show g.q - 1 - g.log.getD a.toNat 0 + g.log.getD a.toNat 0 = g.q - 1 by omega, Int.emod_self]
 rw [h6]
 have := hx.pow.get 0 (by omega)
 exact this
structure OrdI (p m : Int) (mod : List Int) (y : Int) (t : Nat) : Prop where
 pos : 1 ≤ t
 one : pwI p m mod y t = 1
 least : ∀ s, 1 ≤ s → s < t → pwI p m mod y s ≠ 1
theorem OrdI.unique {y : Int} {t t' : Nat} (h : OrdI p m mod y t) (h' : OrdI p m mod y t') : t = t' := by
 rcases Nat.lt_trichotomy t t' with h1 | h1 | h1
 ·exact absurd h.one (h'.least t h.pos h1)
 ·exact h1
 ·exact absurd h'.one (h.least t' h'.pos h1)
open Classical in
noncomputable def mord (p m : Int) (mod : List Int) (y : Int) : Nat := if h : ∃ t, OrdI p m mod y t then Classical.choose h else 0
theorem OrdI.eq {y : Int} {t : Nat} (h : OrdI p m mod y t) : mord p m mod y = t := by
 have h1 : ∃ t, OrdI p m mod y t := ⟨t, h⟩
 rw [mord, dif_pos h1]
 exact (Classical.choose_spec h1).unique h
theorem pwI_mul (hs : Shp p m mod) {x : Int} (hx : 0 ≤ x ∧ x < pw p m) (i : Nat) : ∀ t, pwI p m mod (pwI p m mod x i) t = pwI p m mod x (i * t)
 | 0 => rfl
 | t + 1 => by
  rw [pwI_succ hs (pwI_bd hs hx i), pwI_mul hs hx i t, ← pwI_add hs hx, Nat.mul_succ]
theorem IsGen.pw_one {x : Int} {l : List Int} (hs : Shp p m mod) (hg : IsGen p m mod x l) (k : Nat) : pwI p m mod x k = 1 ↔ l.length ∣ k := by
 have h1 := hg.pow.one
 rw [hg.pw_mod hs k]
 constructor
 ·intro h
  refine Nat.dvd_of_mod_eq_zero ?_
  have h2 := hg.pow.get (k % l.length) (Nat.mod_lt _ h1)
  have h3 := hg.pow.get 0 (by omega)
  have h4 : pwI p m mod x 0 = 1 := rfl
  rcases Nat.eq_zero_or_pos (k % l.length) with h5 | h5
  ·exact h5
  ·exfalso
   have h6 := Nat.mod_lt k h1
   rw [h, ← h4, ← h3] at h2
   rw [List.getD_eq_getElem?_getD, List.getElem?_eq_getElem h6, List.getD_eq_getElem?_getD, List.getElem?_eq_getElem (show 0 < l.length by omega)] at h2
   exact (List.pairwise_iff_getElem.1 hg.pow.nodup) 0 (k % l.length) (by omega) h6 h5 (by simpa using h2.symm)
 ·intro h
  rw [Nat.mod_eq_zero_of_dvd h]; rfl
theorem GOk.ord (h : GOk g p m mod) {y : Int} (hy : 0 < y ∧ y < g.q) : OrdI p m mod y ((g.q - 1).toNat / Nat.gcd (g.q - 1).toNat (g.log.getD y.toNat 0).toNat) := by
 obtain ⟨x, hx⟩ := h.gen
 have hs := h.shp.1
 have hl := h.elen
 have hq := h.q2
 have hxb : 0 ≤ x ∧ x < pw p m := ⟨by have := hx.x1; omega, hx.x2⟩
 obtain ⟨i0, i1, i2⟩ := h.log_spec hy.1 hy.2
 generalize (g.log.getD y.toNat 0) = i at *
 have hn : g.exp.length = (g.q - 1).toNat := by omega
 have h1 := hx.pow.get i.toNat (by omega)
 rw [i2] at h1
 generalize i.toNat = k at *
 have hone := fun t => hx.pw_one hs (k * t)
 rw [hn] at hone
 generalize hN : (g.q - 1).toNat = n at *
 have hn0 : 0 < n := by omega
 have hg0 : 0 < Nat.gcd n k := Nat.gcd_pos_of_pos_left _ hn0
 have hdn : Nat.gcd n k ∣ n := Nat.gcd_dvd_left _ _
 have hdk : Nat.gcd n k ∣ k := Nat.gcd_dvd_right _ _
 have hpos : 1 ≤ n / Nat.gcd n k := Nat.div_pos (Nat.le_of_dvd hn0 hdn) hg0
 have key : ∀ t, n ∣ k * t ↔ n / Nat.gcd n k ∣ t := fun t => by
  have hc : Nat.Coprime (n / Nat.gcd n k) (k / Nat.gcd n k) := Nat.coprime_div_gcd_div_gcd hg0
  have e1 : n = Nat.gcd n k * (n / Nat.gcd n k) := (Nat.mul_div_cancel' hdn).symm
  have e2 : k = Nat.gcd n k * (k / Nat.gcd n k) := (Nat.mul_div_cancel' hdk).symm
  constructor
  ·intro hd
   have h3 : Nat.gcd n k * (n / Nat.gcd n k) ∣ Nat.gcd n k * ((k / Nat.gcd n k) * t) := by
    rw [← e1, ← Nat.mul_assoc, ← e2]; exact hd
   exact hc.dvd_of_dvd_mul_left (Nat.dvd_of_mul_dvd_mul_left hg0 h3)
  ·rintro ⟨c, rfl⟩
   have : k * (n / Nat.gcd n k * c) = n * ((k / Nat.gcd n k) * c) := by
    clear hpos hc
    generalize n / Nat.gcd n k = a at e1 e2 ⊢
    generalize k / Nat.gcd n k = b at e1 e2 ⊢
    generalize Nat.gcd n k = d at e1 e2 ⊢
    calc k * (a * c) = (d * b) * (a * c) := by rw [← e2]
     _ = (d * a) * (b * c) := by ac_rfl
     _ = n * (b * c) := by rw [← e1]
   rw [this]
   exact Nat.dvd_mul_right _ _
 refine ⟨hpos, ?_, fun s hs1 hs2 he => ?_⟩
 ·rw [h1, pwI_mul hs hxb, hone, key]
  exact Nat.dvd_refl _
 ·rw [h1, pwI_mul hs hxb, hone, key] at he
  have := Nat.le_of_dvd (by omega) he
  omega
end
theorem reduce_step {p : Int} {M : Nat} {low c c' : Row} (hM : 1 ≤ M) {i : Nat} (hi : M ≤ i) (hc : ∀ k, k < i → c' k % p = (c k + (p - c i) * (if i ≤ k + M then low (k + M - i) else 0)) % p) :
  Cg p (pl (tm M low) i c' (ee 0)) (pl (tm M low) (i + 1) c (ee 0)) := by
 have hT := tm_lin M low
 -- the step as a row: minus c i times the shifted low
 have hlow : Sup M (fun j => if j < M then low j else 0 : Row) := fun j hj => by show (if j < M then _ else _) = _; rw [if_neg (by omega)]
 have h1 : Cg p (pl (tm M low) i c' (ee 0)) (pl (tm M low) i (c.add (Row.sm (-(c i)) (it sh (i - M) (fun j => if j < M then low j else 0)))) (ee 0)) := by
  have h2 : pl (tm M low) i c' (ee 0) = pl (tm M low) i (fun k => if k < i then c' k else 0) (ee 0) := pl_cong i _ _ _ (fun k hk => by rw [if_pos hk])
  have h3 : pl (tm M low) i (c.add (Row.sm (-(c i)) (it sh (i - M) (fun j => if j < M then low j else 0)))) (ee 0) = pl (tm M low) i (fun k => if k < i then (c.add (Row.sm (-(c i)) (it sh (i - M) (fun j => if j < M then low j else 0)))) k else 0) (ee 0) := pl_cong i _ _ _ (fun k hk => by rw [if_pos hk])
  rw [h2, h3]
  refine Cg.pl hT i (Cg.of fun k => ?_) (Cg.refl _ _)
  by_cases hk : k < i
  ·rw [if_pos hk, if_pos hk, hc k hk]
   simp only [Row.add, Row.sm, it_sh]
   by_cases h4 : i ≤ k + M
   ·rw [if_pos h4, if_neg (by omega), if_pos (by omega), show k - (i - M) = k + M - i by omega]
    have : c k + (p - c i) * low (k + M - i) = (c k + -(c i) * low (k + M - i)) + p * low (k + M - i) := by grind
    rw [this, Int.add_mul_emod_self_left]
   ·rw [if_neg h4, if_pos (by omega)]; simp
  ·rw [if_neg hk, if_neg hk]
 refine Cg.trans h1 (Cg.of_eq ?_)
 rw [pl_addQ, pl_smQ, pl]
 congr 1
 have h5 : pl (tm M low) i (it sh (i - M) (fun j => if j < M then low j else 0)) (ee 0) = it (tm M low) (i - M) (fun j => if j < M then low j else 0) := by
  have h6 := pl_it_sh hT M (fun j => if j < M then low j else 0) (ee 0) (i - M)
  rw [show M + (i - M) = i by omega] at h6
  rw [h6, pl_tm_self hlow]
 have h7 : it (tm M low) i (ee 0) = it (tm M low) (i - M) (Row.sm (-1) (fun j => if j < M then low j else 0)) := by
  have h8 : ∀ a b : Nat, it (tm M low) (a + b) (ee 0) = it (tm M low) a (it (tm M low) b (ee 0)) := fun a b => by
   induction a with
   | zero => simp [it]
   | succ a ih => rw [show a + 1 + b = (a + b) + 1 by omega]; simp only [it, ih]
  have h9 : it (tm M low) M (ee 0) = Row.sm (-1) (fun j => if j < M then low j else 0) := by
   obtain ⟨k, rfl⟩ : ∃ k, M = k + 1 := ⟨M - 1, by omega⟩
   have h10 := it_tm_e (low := low) k (show k < k + 1 by omega)
   simp only [it, h10]
   funext j
   simp only [tm, sh_ee, Row.sm]
   have h11 : ee k (k + 1 - 1) = 1 := by simp [ee]
   rw [h11]
   by_cases hj : j < k + 1
   ·rw [if_pos hj, if_pos hj]
    have h12 : ee (k + 1) j = 0 := by simp only [ee]; rw [if_neg (by omega)]
    rw [h12]; omega
   ·rw [if_neg hj, if_neg hj]; simp
  rw [show i = (i - M) + M by omega, h8, h9, show i - M + M - M = i - M by omega]
 rw [h5, h7, (it_lin hT (i - M)).sm, Row.sm_sm]
 congr 1
 omega
theorem conv_row {M : Nat} {low a b : Row} (ha : Sup M a) (hM : 1 ≤ M) : pl (tm M low) (2 * M - 1) (pl sh M b a) (ee 0) = rm M low a b := by
 have h := pl_mul (tm_lin M low) ha b (ee 0) (M - 1) M (by omega)
 rw [show M + (M - 1) = 2 * M - 1 by omega, pl_tm_self ha] at h
 exact h
theorem set_row {p : Int} {c : List Int} {k : Nat} {v d : Int} (hk : k < c.length) (hv : v % p = (c.getD k 0 + d) % p) : Cg p (rl (c.set k v)) ((rl c).add (Row.sm d (ee k))) := Cg.of fun j => by
 simp only [rl, Row.add, Row.sm, ee]
 rw [getD_set]
 by_cases h : k = j
 ·subst h; rw [if_pos ⟨rfl, hk⟩, if_pos rfl, hv]; congr 1; omega
 ·rw [if_neg (by omega), if_neg (by omega)]; congr 1; omega
def upTo (j : Nat) (b : Row) : Row := fun k => if k < j then b k else 0
theorem upTo_succ (i j : Nat) (b : Row) : it sh i (upTo (j + 1) b) = (it sh i (upTo j b)).add (Row.sm (b j) (ee (i + j))) := by
 funext k
 simp only [it_sh, upTo, Row.add, Row.sm, ee]
 by_cases h1 : k < i
 ·rw [if_pos h1, if_pos h1, if_neg (by omega)]; omega
 ·rw [if_neg h1, if_neg h1]
  by_cases h2 : k - i < j
  ·rw [if_pos h2, if_pos (by omega), if_neg (by omega)]; omega
  ·by_cases h3 : k = i + j
   ·rw [if_neg h2, if_pos (by omega), if_pos h3, show k - i = j by omega]; omega
   ·rw [if_neg h2, if_neg (by omega), if_neg h3]; omega
theorem upTo_all {j : Nat} {b : Row} (h : Sup j b) : upTo j b = b := by
 funext k
 simp only [upTo]
 split
 ·rfl
 ·exact (h k (by omega)).symm
theorem upTo_zero (i : Nat) (b : Row) : it sh i (upTo 0 b) = Row.z := by
 funext k
 simp only [it_sh, upTo, Row.z]
 split
 ·rfl
 ·rw [if_neg (by omega)]
theorem vl_take {p : Int} (hp : 2 ≤ p) {c : List Int} (hc : AllIn p c) {M : Nat} (hM : M ≤ c.length) : vl p (c.take M) = rv p M (rl c) := by
 unfold rv
 congr 1
 apply List.ext_getElem
 ·simp; omega
 ·intro i h1 h2
  have h3 : i < c.length := by simp at h1; omega
  have h4 := hc _ (List.getElem_mem h3)
  simp only [List.getElem_take, List.getElem_map, List.getElem_range, rl]
  rw [List.getD_eq_getElem?_getD, List.getElem?_eq_getElem h3]
  exact (Int.emod_eq_of_lt h4.1 h4.2).symm
theorem mul_done {p m : Int} {mod : List Int} (h : Shp p m mod) {X Y : Int} {c : List Int} (hc : AllIn p c) (hl : m.toNat ≤ c.length)
  (hr : Cg p (pl (tm m.toNat (rl mod)) m.toNat (rl c) (ee 0)) (rm m.toNat (rl mod) (dg p m.toNat Y) (dg p m.toNat X))) : vl p (c.take m.toNat) = mulI p m mod X Y := by
 rw [vl_take h.p2 hc hl, mulI_eq h, rm_comm (dg_sup _ _ _) (dg_sup _ _ _), ← rv_cg hr]
 refine rv_cong fun j hj => ?_
 rw [pl_tm_e (low := rl mod) (rl c) m.toNat (Nat.le_refl _)]
 simp only [if_pos hj]
end Go.Proofs.YtdkahdehodopoaaGreat

set_option maxRecDepth 100000
namespace Go.Proofs.YtdkahdehodopoaaGreat
open Go.RowKit
theorem gf_in_ent : Enters Tryz.prog 81 := enters_of Tryz.func81 (by kernel_rfl) (by kernel_rfl)
theorem gf_in (g : GfM) (x : Int) :
  Pure Tryz.prog 81 #[.pointer (some g.p), .int .i64 x] [gfR g] (isV (.int .i64 (inI g.q x))) := by
 refine pure_of (args := [.pointer (some g.p), .int .i64 x]) 9 Tryz.func81 rfl rfl rfl gf_in_ent ⟨id, trivial⟩ (fun w0 => ?_)
 refine tS ?_
 refine tR fun _ _ _ => ?_
 refine pV ?_
 refine tS ?_
 refine tS ?_
 refine tR fun _ _ _ => ?_
 iterate 2 refine pV ?_
 refine eV (eCallV rfl rfl rfl (gf_Is _ _) ⟨rfl, rfl, trivial⟩ ?_)
 refine tC rfl (fun h1 => ?_) (fun h1 => ?_)
 ·try simp only [zbA] at h1
  refine tS ?_
  refine tR fun _ _ _ => ?_
  iterate 2 refine pV ?_
  exact tr_ret ⟨trivial, _, _, rfl, ⟨by rw [inI, if_pos ⟨by omega, by omega⟩], rfl⟩, CSub.nil _, trivial⟩
 ·try simp only [zbA] at h1
  refine tK ?_
  refine tS ?_
  refine tR fun _ _ _ => ?_
  refine pV ?_
  exact tr_ret ⟨trivial, _, _, rfl, ⟨by rw [inI, if_neg (by omega)], rfl⟩, CSub.nil _, trivial⟩
theorem gf_Order_ent : Enters Tryz.prog 117 := enters_of Tryz.func117 (by kernel_rfl) (by kernel_rfl)
theorem gf_Order (g : GfM) :
  Pure Tryz.prog 117 #[.pointer (some g.p)] [gfR g] (isV (.int .i64 g.q)) := by
 refine pure_of (args := [.pointer (some g.p)]) 7 Tryz.func117 rfl rfl rfl gf_Order_ent ⟨id, trivial⟩ (fun w0 => ?_)
 refine tS ?_
 refine tR fun _ _ _ => ?_
 refine pV ?_
 refine tS ?_
 refine tR fun _ _ _ => ?_
 refine pV ?_
 refine sV (rNil rfl rfl) ?_
 refine sV (rFld rfl rfl) ?_
 refine sV (rLdF rfl rfl rfl) ?_
 refine pV ?_
 exact tr_ret ⟨trivial, _, _, rfl, ⟨rfl, rfl⟩, CSub.nil _, trivial⟩
end Go.Proofs.YtdkahdehodopoaaGreat

set_option maxRecDepth 100000
namespace Go.Proofs.YtdkahdehodopoaaGreat
open Go.RowKit
theorem ref_Digits_ent : Enters Tryz.prog 140 := enters_of Tryz.func140 (by kernel_rfl) (by kernel_rfl)
theorem ref_Digits (p m : Int) (A : Option Addr) (c : Nat) (mod : List Int) (hs : Shp p m mod) (x : Int) :
  Pure Tryz.prog 140 #[.agg #[.int .i64 p, .int .i64 m, .slice A mod.length c], .int .i64 x] [ro A (ints mod)] (one (fun v ch => ∃ B, v = .slice B m.toNat m.toNat ∧ ch = ow B 3 m.toNat (ints (digs p m.toNat (inI (ordI p m) x))))) := by
 have hp2 := hs.p2
 have hp9 := hs.p9
 have hm1 := hs.m1
 have hm8 := hs.m8
 have hqq := hs.q
 have hoq := hs.ord
 have hq2 := hs.q2
 have hib := inI_bd (q := ordI p m) (by omega) x
 refine pure_of (args := [.agg #[.int .i64 p, .int .i64 m, .slice A mod.length c], .int .i64 x]) 13 Tryz.func140 rfl rfl rfl ref_Digits_ent ⟨id, trivial⟩ (fun w0 => ?_)
 refine tS ?_
 refine tR fun _ _ _ => ?_
 refine eV (eBox rfl rfl rfl rfl rfl (fun p0 => ?_))
 refine pV ?_
 refine tS ?_
 refine tr_draw [0, 1, 3, 4, 5, 6, 2, 7, 8] [] mixed (by kernel_rfl) fun _ _ _ => ?_
 refine sV (rLdS rfl rfl rfl) ?_
 refine pV ?_
 refine sV (rFld rfl rfl) ?_
 refine sV (rLdF rfl rfl rfl) ?_
 refine sV (rFld rfl rfl) ?_
 refine sV (rLdF rfl rfl rfl) ?_
 refine eV (eCallV rfl rfl rfl (ref_In _ _ _ _ _ _) ⟨rfl, rfl, trivial⟩ ?_)
 refine eV (eCall1 rfl rfl rfl (ref_digits _ (by omega) (by omega) _ (by omega) (by omega) _ (by omega) (by omega)) ⟨rfl, rfl, rfl, trivial⟩ ?_)
 rintro _ _ ⟨B1a, rfl, rfl⟩
 refine pV ?_
 exact tr_ret ⟨trivial, _, _, rfl, ⟨_, rfl, _, rfl, rfl⟩, cs _ _, trivial, trivial⟩
theorem ref_Value_ent : Enters Tryz.prog 141 := enters_of Tryz.func141 (by kernel_rfl) (by kernel_rfl)
theorem ref_Value (p m : Int) (A : Option Addr) (c : Nat) (mod : List Int) (hp : 2 ≤ p) (hp2 : p ≤ 256) (B : Option Addr) (n cB : Nat) (d : List Int) (hn : n ≤ d.length) (hn2 : n ≤ 64) (hd : AllIn p d) (hq : p ^ n ≤ 256) :
  Pure Tryz.prog 141 #[.agg #[.int .i64 p, .int .i64 m, .slice A mod.length c], .slice B n cB] [ro A (ints mod), ro B (ints d)] (isV (.int .i64 (vl p (d.take n)))) := by
 have htl : (d.take n).length = n := by rw [List.length_take]; omega
 have hti : AllIn p (d.take n) := fun z hz => hd z (List.mem_of_mem_take hz)
 have htg : ∀ i : Nat, i < n → (d.take n).getD i 0 = d.getD i 0 := fun i hi => by simp [List.getD_eq_getElem?_getD, List.getElem?_take, hi]
 refine pure_of (args := [.agg #[.int .i64 p, .int .i64 m, .slice A mod.length c], .slice B n cB]) 24 Tryz.func141 rfl rfl rfl ref_Value_ent ⟨id, id, trivial⟩ (fun w0 => ?_)
 refine tS ?_
 refine tR fun _ _ _ => ?_
 refine eV (eBox rfl rfl rfl rfl rfl (fun p0 => ?_))
 refine pV ?_
 refine tS ?_
 refine tR fun _ _ _ => ?_
 refine pV ?_
 refine tS ?_
 refine tS ?_
 refine tR fun _ _ _ => ?_
 refine pV ?_
 refine sV (rLen rfl rfl) ?_
 refine sV (rSub rfl rfl rfl (by omega) (by omega)) ?_
 refine pV ?_
 refine tB ?_
 refine tr_loop2 (fun (i : Int) (s : Int) => [(1, .slice B n cB), (2, .pointer (some p0)), (5, .int .i64 s), (6, .int .i64 i)]) (fun (i : Int) (s : Int) => [blk p0 24 [.int .i64 p, .int .i64 m, .slice A mod.length c], ro B (ints d)]) (fun (i : Int) (s : Int) => -1 ≤ i ∧ i < n ∧ s = vl p ((d.take n).drop (i + 1).toNat)) (fun (i : Int) (s : Int) => (i + 1).toNat) ((n : Int) - 1) (0) ⟨rfl, rfl, rfl, rfl, trivial⟩ (by first | exact cs _ _ | exact CSub.refl _) (⟨by omega, by omega, by rw [List.drop_of_length_le (by omega)]; rfl⟩) (fun i s hI => ?_)
 obtain ⟨hi0, hi1, hs⟩ := hI
 have hv := vl_in (p := p) (by omega) ((d.take n).drop (i + 1).toNat) (fun c hc => hti c (List.mem_of_mem_drop hc))
 have hpb := pw_bd (p := p) (by omega) (k := ((d.take n).drop (i + 1).toNat).length) (m := n) (by rw [List.length_drop]; omega)
 have hmb := mul_bd0 s p 256 256 (by omega) (by omega) (by omega) (by omega)
 have hgd := hd.get (by omega) i.toNat
 refine tS ?_
 refine tS ?_
 refine tR fun _ _ _ => ?_
 iterate 2 refine pV ?_
 refine tC rfl (fun h3 => ?_) (fun h3 => ?_)
 ·try simp only [zbA] at h3
  refine tK ?_
  refine tS ?_
  refine tB ?_
  refine tr_draw [0, 1, 2, 3, 4, 5, 6, 7, 8, 9] [] mixed (by kernel_rfl) fun _ _ _ => ?_
  refine pV ?_
  refine sV (rFld rfl rfl) ?_
  refine sV (rLdF rfl rfl rfl) ?_
  refine sV (rMul rfl rfl rfl (by omega) (by omega)) ?_
  iterate 2 refine pV ?_
  refine sV (rIdxI rfl rfl rfl (by omega) (by omega) (by omega)) ?_
  refine sV (rLdI rfl rfl (by omega)) ?_
  refine sV (rAdd rfl rfl rfl (by omega) (by omega)) ?_
  refine pV ?_
  refine tR fun _ _ _ => ?_
  refine pV ?_
  refine sV (rSub rfl rfl rfl (by omega) (by omega)) ?_
  refine pV ?_
  refine ⟨i - 1, s * p + d.getD i.toNat 0, ⟨rfl, rfl, rfl, rfl, trivial⟩, by first | exact cs _ _ | exact CSub.refl _, ?_⟩
  refine ⟨⟨by omega, by omega, ?_⟩, by omega⟩
  rw [show (i - 1 + 1).toNat = i.toNat by omega, drop_getD (show i.toNat < (d.take n).length by omega), vl, hs, show (i + 1).toNat = i.toNat + 1 by omega, Int.mul_comm, Int.add_comm, htg _ (by omega)]
 ·try simp only [zbA] at h3
  refine tE ?_
  refine tS ?_
  refine tR fun _ _ _ => ?_
  iterate 2 refine pV ?_
  have him : i = -1 := by omega
  subst him
  exact tr_ret ⟨trivial, _, _, rfl, ⟨by rw [hs]; simp, rfl⟩, CSub.nil _, trivial⟩
theorem ref_Mul_ent : Enters Tryz.prog 138 := enters_of Tryz.func138 (by kernel_rfl) (by kernel_rfl)
theorem ref_Mul (p m : Int) (A : Option Addr) (c : Nat) (mod : List Int) (hs : Shp p m mod) (x y : Int) :
  Pure Tryz.prog 138 #[.agg #[.int .i64 p, .int .i64 m, .slice A mod.length c], .int .i64 x, .int .i64 y] [ro A (ints mod)] (isV (.int .i64 (mulI p m mod (inI (ordI p m) x) (inI (ordI p m) y)))) := by
 have hp2 := hs.p2
 have hp9 := hs.p9
 have hm1 := hs.m1
 have hm8 := hs.m8
 have hqq := hs.q
 have hlow := hs.low
 have hmi := hs.ent
 have hal := digs_length p m.toNat (inI (ordI p m) x)
 have hbl := digs_length p m.toNat (inI (ordI p m) y)
 have hai := digs_in (p := p) (by omega) m.toNat (inI (ordI p m) x)
 have hbi := digs_in (p := p) (by omega) m.toNat (inI (ordI p m) y)
 have hT := tm_lin m.toNat (rl mod)
 have hmul := @mul_done p m mod hs (inI (ordI p m) x) (inI (ordI p m) y)
 have hconv := conv_row (M := m.toNat) (low := rl mod) (a := dg p m.toNat (inI (ordI p m) y)) (b := dg p m.toNat (inI (ordI p m) x)) (dg_sup _ _ _) (by omega)
 simp only [dg] at hmul hconv
 generalize ha : digs p m.toNat (inI (ordI p m) x) = a at hal hai hmul hconv
 generalize hb : digs p m.toNat (inI (ordI p m) y) = b at hbl hbi hmul hconv
 have hbsup : Sup m.toNat (rl b) := by rw [← hbl]; exact rl_sup b
 refine pure_of (args := [.agg #[.int .i64 p, .int .i64 m, .slice A mod.length c], .int .i64 x, .int .i64 y]) 117 Tryz.func138 rfl rfl rfl ref_Mul_ent ⟨id, trivial⟩ (fun w0 => ?_)
 refine tS ?_
 refine tR fun _ _ _ => ?_
 refine eV (eBox rfl rfl rfl rfl rfl (fun p0 => ?_))
 refine pV ?_
 refine tS ?_
 refine tR fun _ _ _ => ?_
 refine sV (rLdS rfl rfl rfl) ?_
 refine pV ?_
 refine eV (eCall1 rfl rfl rfl (ref_Digits _ _ _ _ _ hs _) ⟨rfl, rfl, trivial⟩ ?_)
 rintro _ _ ⟨B1, rfl, rfl⟩
 refine pV ?_
 refine tS ?_
 rw [ha]
 refine tR fun _ _ _ => ?_
 refine sV (rLdS rfl rfl rfl) ?_
 refine pV ?_
 refine eV (eCall1 rfl rfl rfl (ref_Digits _ _ _ _ _ hs _) ⟨rfl, rfl, trivial⟩ ?_)
 rintro _ _ ⟨B2, rfl, rfl⟩
 refine pV ?_
 refine tS ?_
 rw [hb]
 refine tR fun _ _ _ => ?_
 refine sV (rFld rfl rfl) ?_
 refine sV (rLdF rfl rfl rfl) ?_
 refine sV (rMul rfl rfl rfl (by omega) (by omega)) ?_
 refine sV (rSub rfl rfl rfl (by omega) (by omega)) ?_
 refine eV (eMakeI rfl rfl rfl rfl rfl (by omega) (by omega) (by omega) (fun A3 => ?_))
 refine pV ?_
 refine tS ?_
 refine tS ?_
 refine tR fun _ _ _ => ?_
 refine pV ?_
 refine tB ?_
 refine tr_loop2 (fun (i : Int) (c2 : List Int) => [(3, .pointer (some p0)), (7, .slice B1 m.toNat m.toNat), (8, .slice B2 m.toNat m.toNat), (9, .slice A3 (2 * m - 1).toNat (2 * m - 1).toNat), (10, .int .i64 i)]) (fun (i : Int) (c2 : List Int) => [ow A3 3 (2 * m - 1).toNat (ints c2), ow B2 3 m.toNat (ints b), ow B1 3 m.toNat (ints a), blk p0 24 [.int .i64 p, .int .i64 m, .slice A mod.length c], ro A (ints mod)]) (fun (i : Int) (c2 : List Int) => (0 ≤ i ∧ i ≤ m) ∧ c2.length = (2 * m - 1).toNat ∧ AllIn p c2 ∧ Cg p (rl c2) (pl sh i.toNat (rl a) (rl b))) (fun (i : Int) (c2 : List Int) => (m - i).toNat) (0) (List.replicate (2 * m - 1).toNat 0) ⟨rfl, rfl, rfl, rfl, rfl, trivial⟩ (by first | exact cs _ _ | exact CSub.refl _) (⟨⟨by omega, by omega⟩, by simp, fun z hz => by have := List.eq_of_mem_replicate hz; omega, Cg.of_eq (by funext j; simp only [rl, pl, Row.z, Int.toNat_zero]; rw [List.getD_eq_getElem?_getD, List.getElem?_replicate]; split <;> rfl)⟩) (fun i c2 hI => ?_)
 obtain ⟨⟨hi0, hi1⟩, hcl, hci, hcr⟩ := hI
 refine tS ?_
 refine tS ?_
 refine tR fun _ _ _ => ?_
 refine pV ?_
 refine sV (rFld rfl rfl) ?_
 refine sV (rLdF rfl rfl rfl) ?_
 refine pV ?_
 refine tC rfl (fun h5 => ?_) (fun h5 => ?_)
 ·try simp only [zbA] at h5
  refine tK ?_
  refine tS ?_
  refine tB ?_
  refine tS ?_
  refine tR fun _ _ _ => ?_
  refine pV ?_
  refine tB ?_
  refine tr_loop2 (fun (j : Int) (c3 : List Int) => [(3, .pointer (some p0)), (7, .slice B1 m.toNat m.toNat), (8, .slice B2 m.toNat m.toNat), (9, .slice A3 (2 * m - 1).toNat (2 * m - 1).toNat), (10, .int .i64 i), (11, .int .i64 j)]) (fun (j : Int) (c3 : List Int) => [ow A3 3 (2 * m - 1).toNat (ints c3), ow B2 3 m.toNat (ints b), ow B1 3 m.toNat (ints a), blk p0 24 [.int .i64 p, .int .i64 m, .slice A mod.length c], ro A (ints mod)]) (fun (j : Int) (c3 : List Int) => (0 ≤ j ∧ j ≤ m) ∧ c3.length = (2 * m - 1).toNat ∧ AllIn p c3 ∧ Cg p (rl c3) ((pl sh i.toNat (rl a) (rl b)).add (Row.sm (rl a i.toNat) (it sh i.toNat (upTo j.toNat (rl b)))))) (fun (j : Int) (c3 : List Int) => (m - j).toNat) (0) (c2) ⟨rfl, rfl, rfl, rfl, rfl, rfl, trivial⟩ (by first | exact cs _ _ | exact CSub.refl _) (⟨⟨by omega, by omega⟩, hcl, hci, by rw [Int.toNat_zero, upTo_zero, Row.sm_z, Row.add_z]; exact hcr⟩) (fun j c3 hI => ?_)
  obtain ⟨⟨hj0, hj1⟩, hcl3, hci3, hcr3⟩ := hI
  have hg1 := hai.get (by omega) i.toNat
  have hg2 := hbi.get (by omega) j.toNat
  have hg3 := hci3.get (by omega) (i + j).toNat
  have hmb := mul_bd0 (a.getD i.toNat 0) (b.getD j.toNat 0) 256 256 (by omega) (by omega) (by omega) (by omega)
  have hv0 := Int.emod_nonneg (c3.getD (i + j).toNat 0 + a.getD i.toNat 0 * b.getD j.toNat 0) (show p ≠ 0 by omega)
  have hv1 := Int.emod_lt_of_pos (c3.getD (i + j).toNat 0 + a.getD i.toNat 0 * b.getD j.toNat 0) (show 0 < p by omega)
  refine tS ?_
  refine tS ?_
  refine tR fun _ _ _ => ?_
  refine pV ?_
  refine sV (rFld rfl rfl) ?_
  refine sV (rLdF rfl rfl rfl) ?_
  refine pV ?_
  refine tC rfl (fun h8 => ?_) (fun h8 => ?_)
  ·try simp only [zbA] at h8
   refine tK ?_
   refine tS ?_
   refine tB ?_
   refine tr_draw [0, 1, 2, 3, 4, 5, 6, 7, 8, 9, 10, 11, 12, 13, 14, 15, 16, 17, 18, 19, 20, 21, 22, 23] [24] mixed (by kernel_rfl) fun _ _ _ => ?_
   iterate 3 refine pV ?_
   refine sV (rAdd rfl rfl rfl (by omega) (by omega)) ?_
   iterate 3 refine pV ?_
   refine sV (rAdd rfl rfl rfl (by omega) (by omega)) ?_
   refine sV (rIdxI rfl rfl rfl (by omega) (by omega) (by omega)) ?_
   refine sV (rLdI rfl rfl (by omega)) ?_
   iterate 2 refine pV ?_
   refine sV (rIdxI rfl rfl rfl (by omega) (by omega) (by omega)) ?_
   refine sV (rLdI rfl rfl (by omega)) ?_
   iterate 2 refine pV ?_
   refine sV (rIdxI rfl rfl rfl (by omega) (by omega) (by omega)) ?_
   refine sV (rLdI rfl rfl (by omega)) ?_
   refine sV (rMul rfl rfl rfl (by omega) (by omega)) ?_
   refine sV (rAdd rfl rfl rfl (by omega) (by omega)) ?_
   refine sV (rFld rfl rfl) ?_
   refine sV (rLdF rfl rfl rfl) ?_
   refine sV (rRem rfl rfl rfl (by omega) (by omega)) ?_
   refine sV (rIdxI rfl rfl rfl (by omega) (by omega) (by omega)) ?_
   refine eV (eStI rfl rfl rfl rfl (by omega) ?_)
   refine tR fun _ _ _ => ?_
   refine pV ?_
   refine sV (rAdd rfl rfl rfl (by omega) (by omega)) ?_
   refine pV ?_
   refine ⟨j + 1, c3.set (i + j).toNat ((c3.getD (i + j).toNat 0 + a.getD i.toNat 0 * b.getD j.toNat 0) % p), ⟨rfl, rfl, rfl, rfl, rfl, rfl, trivial⟩, by first | exact cs _ _ | exact CSub.refl _, ?_⟩
   refine ⟨⟨⟨by omega, by omega⟩, by simpa using hcl3, hci3.set ⟨hv0, hv1⟩ _, ?_⟩, by omega⟩
   refine Cg.trans (set_row (d := a.getD i.toNat 0 * b.getD j.toNat 0) (by omega) (by rw [Int.emod_emod])) ?_
   refine Cg.trans (Cg.add hcr3 (Cg.refl _ _)) (Cg.of_eq ?_)
   rw [show (j + 1).toNat = j.toNat + 1 by omega, upTo_succ, Row.sm_add, Row.sm_sm, Row.add_assoc, show i.toNat + j.toNat = (i + j).toNat by omega]
   rfl
  ·try simp only [zbA] at h8
   refine tE ?_
   refine tR fun _ _ _ => ?_
   refine pV ?_
   refine sV (rAdd rfl rfl rfl (by omega) (by omega)) ?_
   refine pV ?_
   refine ⟨i + 1, c3, ⟨rfl, rfl, rfl, rfl, rfl, trivial⟩, by first | exact cs _ _ | exact CSub.refl _, ?_⟩
   have hjm : j.toNat = m.toNat := by omega
   refine ⟨⟨⟨by omega, by omega⟩, hcl3, hci3, ?_⟩, by omega⟩
   rw [hjm, upTo_all hbsup] at hcr3
   rw [show (i + 1).toNat = i.toNat + 1 by omega]
   exact hcr3
 ·try simp only [zbA] at h5
  refine tE ?_
  refine tS ?_
  refine tS ?_
  refine tR fun _ _ _ => ?_
  refine sV (rFld rfl rfl) ?_
  refine sV (rLdF rfl rfl rfl) ?_
  refine sV (rMul rfl rfl rfl (by omega) (by omega)) ?_
  refine sV (rSub rfl rfl rfl (by omega) (by omega)) ?_
  refine pV ?_
  refine tB ?_
  refine tr_loop2 (fun (i : Int) (c2 : List Int) => [(3, .pointer (some p0)), (7, .slice B1 m.toNat m.toNat), (8, .slice B2 m.toNat m.toNat), (9, .slice A3 (2 * m - 1).toNat (2 * m - 1).toNat), (12, .int .i64 i)]) (fun (i : Int) (c2 : List Int) => [ow A3 3 (2 * m - 1).toNat (ints c2), ow B2 3 m.toNat (ints b), ow B1 3 m.toNat (ints a), blk p0 24 [.int .i64 p, .int .i64 m, .slice A mod.length c], ro A (ints mod)]) (fun (i : Int) (c2 : List Int) => (m - 1 ≤ i ∧ i ≤ 2 * m - 2) ∧ c2.length = (2 * m - 1).toNat ∧ AllIn p c2 ∧ Cg p (pl (tm m.toNat (rl mod)) (i + 1).toNat (rl c2) (ee 0)) (rm m.toNat (rl mod) (rl b) (rl a))) (fun (i : Int) (c2 : List Int) => (i + 1).toNat) (2 * m - 2) (c2) ⟨rfl, rfl, rfl, rfl, rfl, trivial⟩ (by first | exact cs _ _ | exact CSub.refl _) (⟨⟨by omega, by omega⟩, hcl, hci, by
       rw [← hconv, show (2 * m - 2 + 1).toNat = 2 * m.toNat - 1 by omega]
       rw [show (i.toNat) = m.toNat by omega] at hcr
       exact Cg.pl hT _ hcr (Cg.refl _ _)⟩) (fun i c2 hI => ?_)
  clear hcl hci hcr hi0 hi1
  obtain ⟨⟨hi0, hi1⟩, hcl, hci, hcr⟩ := hI
  refine tS ?_
  refine tS ?_
  refine tR fun _ _ _ => ?_
  refine pV ?_
  refine sV (rFld rfl rfl) ?_
  refine sV (rLdF rfl rfl rfl) ?_
  refine pV ?_
  refine tC rfl (fun h12 => ?_) (fun h12 => ?_)
  ·try simp only [zbA] at h12
   refine tK ?_
   refine tS ?_
   refine tB ?_
   refine tS ?_
   refine tR fun _ _ _ => ?_
   refine pV ?_
   refine tB ?_
   refine tr_loop2 (fun (j : Int) (c3 : List Int) => [(3, .pointer (some p0)), (7, .slice B1 m.toNat m.toNat), (8, .slice B2 m.toNat m.toNat), (9, .slice A3 (2 * m - 1).toNat (2 * m - 1).toNat), (12, .int .i64 i), (13, .int .i64 j)]) (fun (j : Int) (c3 : List Int) => [ow A3 3 (2 * m - 1).toNat (ints c3), ow B2 3 m.toNat (ints b), ow B1 3 m.toNat (ints a), blk p0 24 [.int .i64 p, .int .i64 m, .slice A mod.length c], ro A (ints mod)]) (fun (j : Int) (c3 : List Int) => (0 ≤ j ∧ j ≤ m) ∧ c3.length = (2 * m - 1).toNat ∧ AllIn p c3 ∧ (∀ k : Nat, i - m ≤ k → (k : Int) < i - m + j → c3.getD k 0 = (c2.getD k 0 + (p - c2.getD i.toNat 0) * mod.getD (k + m.toNat - i.toNat) 0) % p) ∧ ∀ k : Nat, ¬ (i - m ≤ k ∧ (k : Int) < i - m + j) → c3.getD k 0 = c2.getD k 0) (fun (j : Int) (c3 : List Int) => (m - j).toNat) (0) (c2) ⟨rfl, rfl, rfl, rfl, rfl, rfl, trivial⟩ (by first | exact cs _ _ | exact CSub.refl _) (⟨⟨by omega, by omega⟩, hcl, hci, fun k k0 k1 => by omega, fun k _ => rfl⟩) (fun j c3 hI => ?_)
   obtain ⟨⟨hj0, hj1⟩, hcl3, hci3, hdone, htodo⟩ := hI
   have hmodl : (mod.length : Int) = m := by omega
   have hg1 := hmi.get (by omega) j.toNat
   have hg3 := hci3.get (by omega) (i - m + j).toNat
   have hg4 := hci3.get (by omega) i.toNat
   have htop := htodo i.toNat (by omega)
   have hmb := mul_bd0 (p - c3.getD i.toNat 0) (mod.getD j.toNat 0) 256 256 (by omega) (by omega) (by omega) (by omega)
   have hv0 := Int.emod_nonneg (c3.getD (i - m + j).toNat 0 + (p - c3.getD i.toNat 0) * mod.getD j.toNat 0) (show p ≠ 0 by omega)
   have hv1 := Int.emod_lt_of_pos (c3.getD (i - m + j).toNat 0 + (p - c3.getD i.toNat 0) * mod.getD j.toNat 0) (show 0 < p by omega)
   refine tS ?_
   refine tS ?_
   refine tR fun _ _ _ => ?_
   refine pV ?_
   refine sV (rFld rfl rfl) ?_
   refine sV (rLdF rfl rfl rfl) ?_
   refine pV ?_
   refine tC rfl (fun h15 => ?_) (fun h15 => ?_)
   ·try simp only [zbA] at h15
    refine tK ?_
    refine tS ?_
    refine tB ?_
    refine tr_draw [0, 1, 2, 3, 4, 5, 6, 7, 8, 9, 10, 11, 12, 13, 14, 15, 16, 17, 18, 19, 20, 21, 22, 23, 24, 25, 26, 27, 28, 29, 30, 31, 32, 33] [34] mixed (by kernel_rfl) fun _ _ _ => ?_
    iterate 2 refine pV ?_
    refine sV (rFld rfl rfl) ?_
    refine sV (rLdF rfl rfl rfl) ?_
    refine sV (rSub rfl rfl rfl (by omega) (by omega)) ?_
    refine pV ?_
    refine sV (rAdd rfl rfl rfl (by omega) (by omega)) ?_
    iterate 2 refine pV ?_
    refine sV (rFld rfl rfl) ?_
    refine sV (rLdF rfl rfl rfl) ?_
    refine sV (rSub rfl rfl rfl (by omega) (by omega)) ?_
    refine pV ?_
    refine sV (rAdd rfl rfl rfl (by omega) (by omega)) ?_
    refine sV (rIdxI rfl rfl rfl (by omega) (by omega) (by omega)) ?_
    refine sV (rLdI rfl rfl (by omega)) ?_
    refine sV (rFld rfl rfl) ?_
    refine sV (rLdF rfl rfl rfl) ?_
    iterate 2 refine pV ?_
    refine sV (rIdxI rfl rfl rfl (by omega) (by omega) (by omega)) ?_
    refine sV (rLdI rfl rfl (by omega)) ?_
    refine sV (rSub rfl rfl rfl (by omega) (by omega)) ?_
    refine sV (rFld rfl rfl) ?_
    refine sV (rLdF rfl rfl rfl) ?_
    refine pV ?_
    refine sV (rIdxI rfl rfl rfl (by omega) (by omega) (by omega)) ?_
    refine sV (rLdI rfl rfl (by omega)) ?_
    refine sV (rMul rfl rfl rfl (by omega) (by omega)) ?_
    refine sV (rAdd rfl rfl rfl (by omega) (by omega)) ?_
    refine sV (rFld rfl rfl) ?_
    refine sV (rLdF rfl rfl rfl) ?_
    refine sV (rRem rfl rfl rfl (by omega) (by omega)) ?_
    refine sV (rIdxI rfl rfl rfl (by omega) (by omega) (by omega)) ?_
    refine eV (eStI rfl rfl rfl rfl (by omega) ?_)
    refine tR fun _ _ _ => ?_
    refine pV ?_
    refine sV (rAdd rfl rfl rfl (by omega) (by omega)) ?_
    refine pV ?_
    refine ⟨j + 1, c3.set (i - m + j).toNat ((c3.getD (i - m + j).toNat 0 + (p - c3.getD i.toNat 0) * mod.getD j.toNat 0) % p), ⟨rfl, rfl, rfl, rfl, rfl, rfl, trivial⟩, by first | exact cs _ _ | exact CSub.refl _, ?_⟩
    refine ⟨⟨⟨by omega, by omega⟩, by simpa using hcl3, hci3.set ⟨hv0, hv1⟩ _, fun k k0 k1 => ?_, fun k hk => ?_⟩, by omega⟩
    ·rw [getD_set]
     by_cases hkk : (i - m + j).toNat = k
     ·rw [if_pos ⟨hkk, by omega⟩, hkk, htop, htodo k (by omega), show k + m.toNat - i.toNat = j.toNat by omega]
     ·rw [if_neg (by omega)]; exact hdone k k0 (by omega)
    ·rw [getD_set, if_neg (by omega)]
     exact htodo k (by omega)
   ·try simp only [zbA] at h15
    refine tE ?_
    refine tR fun _ _ _ => ?_
    refine pV ?_
    refine sV (rSub rfl rfl rfl (by omega) (by omega)) ?_
    refine pV ?_
    refine ⟨i - 1, c3, ⟨rfl, rfl, rfl, rfl, rfl, trivial⟩, by first | exact cs _ _ | exact CSub.refl _, ?_⟩
    refine ⟨⟨⟨by omega, by omega⟩, hcl3, hci3, ?_⟩, by omega⟩
    refine Cg.trans ?_ hcr
    rw [show (i - 1 + 1).toNat = i.toNat by omega, show (i + 1).toNat = i.toNat + 1 by omega]
    refine reduce_step (by omega) (by omega) (fun k hk => ?_)
    by_cases hkk : i.toNat ≤ k + m.toNat
    ·rw [if_pos hkk]
     have := hdone k (by omega) (by omega)
     simp only [rl]
     rw [this, Int.emod_emod]
    ·rw [if_neg hkk]
     have := htodo k (by omega)
     simp only [rl]
     rw [this]; simp
  ·try simp only [zbA] at h12
   refine tE ?_
   refine tS ?_
   have him : i = m - 1 := by omega
   have hpq : p ^ m.toNat ≤ 256 := hqq
   rw [show (i + 1).toNat = m.toNat by omega] at hcr
   refine tr_draw [0, 1, 2, 3, 4, 5, 6] [] mixed (by kernel_rfl) fun _ _ _ => ?_
   refine sV (rLdS rfl rfl rfl) ?_
   refine pV ?_
   refine sV (rFld rfl rfl) ?_
   refine sV (rLdF rfl rfl rfl) ?_
   refine sV (rCutHi rfl rfl rfl (by omega) (by omega)) ?_
   refine eV (eCallV rfl rfl rfl (ref_Value _ _ _ _ _ (by omega) (by omega) _ _ _ c2 (by omega) (by omega) hci (by omega)) ⟨rfl, rfl, trivial⟩ ?_)
   refine pV ?_
   have hres := hmul hci (by omega) hcr
   exact tr_ret ⟨trivial, _, _, rfl, ⟨by rw [hres], rfl⟩, CSub.nil _, trivial⟩
theorem chkF_cases (p m : Int) (mod : List Int) : (FldR p m mod ∧ chkF p m mod = 0) ∨ (¬ FldR p m mod ∧ chkF p m mod = 1) := by
 by_cases h : FldR p m mod
 ·exact .inl ⟨h, chkF_ok h⟩
 ·exact .inr ⟨h, chkF_no h⟩
end Go.Proofs.YtdkahdehodopoaaGreat

namespace Go.Proofs.YtdkahdehodopoaaGreat
open Go.ChangeShapes Go.WideShapes Go.ChangeAt Go.RowKit Go.Deep
def Fits (n : Int) : Prop := -9223372036854775808 ≤ n ∧ n ≤ 9223372036854775807
theorem fits_of_wf {n : Int} (h : (Lit.int .i64 n).wf = true) : Fits n := by
 simp [Lit.wf, IntKind.min, IntKind.max, IntKind.bits, IntKind.signed] at h
 unfold Fits
 omega
section
variable {H : Type} {enc : TypeId × Value → H} {P : Program} {w : World} {held : Bool} {t e : TypeId} {fuel : Nat} {cs : List Value} {x : DataW H × List MemPlace}
theorem open_I (ht : P.underlying t = some (.int .i64)) (h : DataW.trod enc P w 0 (fun _ => true) held fuel t cs = some x) : ∃ n, cs = [.int .i64 n] ∧ Fits n := by
 obtain ⟨n, h1, _, h3⟩ := DataW.trod_int ht h
 exact ⟨n, h1, fits_of_wf h3⟩
end
section
variable {H : Type} {enc : TypeId × Value → H} {P : Program} {w : World} {b : Nat} {t e : TypeId} {v : Value} {d : DataW H} {p : List MemPlace}
def fdInfo (P : Program) (t : TypeId) (i : Nat) : Option (Nat × TypeId × Nat) :=
 match P.underlying t with
 | some (.struct fs) => (fs[i]?).map fun f => (f.offset, f.type, P.cellsOf f.type)
 | _ => none
def isSt (P : Program) (t : TypeId) : Bool := match P.underlying t with | some (.struct _) => true | _ => false
end
def Light {H : Type} (P : Program) (t : TypeId) (d : DataW H) : Prop := ∀ n ∈ d.weights P t, n ≤ reachBytes
theorem light_of {H : Type} {P : Program} {ts : List TypeId} {ds : List (DataW H)} (h : (DataW.weightsEach P ts ds).all (· ≤ reachBytes) = true) {j : Nat} {t : TypeId} {d : DataW H} (ht : ts[j]? = some t) (hd : ds[j]? = some d) : Light P t d := fun n hn => by
 have := List.all_eq_true.1 h _ (DataW.weights_mem_each ht hd n hn)
 simpa using this
section
variable {H : Type} {enc : TypeId × Value → H} {P : Program} {w : World} {held : Bool} {t e : TypeId} {fuel : Nat} {cs : List Value} {x : DataW H × List MemPlace}
theorem open_ISw (ht : P.underlying t = some (.slice e)) (he : P.underlying e = some (.int .i64)) (hc : P.cellsOf e = 1) (hb : P.bytesOf e = 8) (hw : Light P t x.1) (h : DataW.trod enc P w 0 (fun _ => true) held fuel t cs = some x) :
  ∃ (A : Option Addr) (c : Nat) (xs : List Int), cs = [.slice A xs.length c] ∧ xs.length ≤ c ∧ (ro A (ints xs)).sat w ∧ (∀ z ∈ xs, Fits z) ∧ xs.length ≤ 17592186044415 := by
 rcases open_ints ht he hc h with ⟨rfl, _⟩ | ⟨a, len, cap, zs, rfl, _, hl, hm, hz, hx, hcell, hwz⟩
 ·exact ⟨none, 0, [], rfl, Nat.le_refl _, fun j hj => by simp [ints] at hj, fun z hz => by simp at hz, by simp⟩
 ·simp only [if_true] at hz
  have hlen : (zs.take len).length = len := by rw [List.length_take]; omega
  have hwt := hw (((lits .i64 (zs.take len) : List (DataW H)).length + (lits .i64 (zs.drop len) : List (DataW H)).length) * P.bytesOf e) (by rw [hx]; simp [DataW.weights, ht])
  refine ⟨some a, cap, zs.take len, by rw [hlen], by rw [hlen]; exact hl, fun j hj => ?_, fun z hz' => fits_of_wf (hwz z (List.mem_of_mem_take hz')), ?_⟩
  ·rw [ints_length, hlen] at hj
   refine ⟨a, rfl, ?_⟩
   rw [hcell j (by omega)]
   have hj' : j < zs.length := by omega
   simp [ints, hj']
  ·rw [hb] at hwt
   simp only [lits, List.length_map, hlen, reachBytes] at hwt
   omega
end
section
variable {H : Type} {enc : TypeId × Value → H} {P : Program} {w : World} {b : Nat} {t e : TypeId} {v : Value} {d : DataW H} {p : List MemPlace}
theorem get_FdW (hst : isSt P t = true) (hw : Light P t d) (hv : Value.okWide P w .any b t v) (h : DataW.Trod enc P w 0 (fun _ => true) true t v d p) :
  ∃ l : List Value, v = .agg l.toArray ∧ l.length = P.cellsOf t ∧ ∀ (i off : Nat) (ty : TypeId) (n : Nat), fdInfo P t i = some (off, ty, n) → ∃ m y, DataW.trod enc P w 0 (fun _ => true) true m ty ((l.drop off).take n) = some y ∧ Light P ty y.1 := by
 unfold isSt at hst
 split at hst
 ·rename_i fs hu
  obtain ⟨cs, rfl, _⟩ := okWide_struct hu hv
  obtain ⟨fuel, hf⟩ := h
  obtain ⟨xs, n, _, hx, h1, h2, h3⟩ := DataW.trod_struct hu hf
  have hd : d = .agg (xs.map (·.1)) := congrArg Prod.fst hx
  refine ⟨cs.toList, rfl, h1, fun i off ty k hi => ?_⟩
  simp only [fdInfo, hu] at hi
  cases hfi : fs[i]? with
  | none => simp [hfi] at hi
  | some f =>
   simp only [hfi, Option.map_some, Option.some.injEq, Prod.mk.injEq] at hi
   obtain ⟨rfl, rfl, rfl⟩ := hi
   have hlt : i < xs.length := by rw [h2]; exact (Array.getElem?_eq_some_iff.1 hfi).1
   refine ⟨n, xs[i], (h3 i f hfi).trans (List.getElem?_eq_getElem hlt), fun k hk => hw k ?_⟩
   rw [hd]
   simp only [DataW.weights, hu]
   refine DataW.weights_mem_each (j := i) (t := f.type) (d := xs[i].1) (by simp [hfi]) (by simp [hlt]) k hk
 ·cases hst
end
section
variable {H : Type} {enc : TypeId × Value → H} {P : Program} {w : World} {held : Bool} {t e f : TypeId} {fuel : Nat} {cs : List Value} {x : DataW H × List MemPlace}
theorem open_FdW (hst : isSt P t = true) (hw : Light P t x.1) (h : DataW.trod enc P w 0 (fun _ => true) held fuel t cs = some x) :
  cs.length = P.cellsOf t ∧ ∀ (i off : Nat) (ty : TypeId) (n : Nat), fdInfo P t i = some (off, ty, n) → ∃ m y, DataW.trod enc P w 0 (fun _ => true) held m ty ((cs.drop off).take n) = some y ∧ Light P ty y.1 := by
 unfold isSt at hst
 split at hst
 ·rename_i fs hu
  obtain ⟨xs, n, _, hx, h1, h2, h3⟩ := DataW.trod_struct hu h
  have hd : x.1 = .agg (xs.map (·.1)) := congrArg Prod.fst hx
  refine ⟨h1, fun i off ty k hi => ?_⟩
  simp only [fdInfo, hu] at hi
  cases hfi : fs[i]? with
  | none => simp [hfi] at hi
  | some f =>
   simp only [hfi, Option.map_some, Option.some.injEq, Prod.mk.injEq] at hi
   obtain ⟨rfl, rfl, rfl⟩ := hi
   have hlt : i < xs.length := by rw [h2]; exact (Array.getElem?_eq_some_iff.1 hfi).1
   refine ⟨n, xs[i], (h3 i f hfi).trans (List.getElem?_eq_getElem hlt), fun k hk => hw k ?_⟩
   rw [hd]
   simp only [DataW.weights, hu]
   refine DataW.weights_mem_each (j := i) (t := f.type) (d := xs[i].1) (by simp [hfi]) (by simp [hlt]) k hk
 ·cases hst
theorem mem_weightsAll {d : DataW H} : ∀ {l : List (DataW H)}, d ∈ l → ∀ n ∈ d.weights P e, n ∈ DataW.weightsAll P e l
 | a :: r, h, n, hn => by
  simp only [DataW.weightsAll, List.mem_append]
  rcases List.mem_cons.1 h with rfl | h
  ·exact .inl hn
  ·exact .inr (mem_weightsAll h n hn)
instance : Inhabited RowM := ⟨rowD⟩
theorem open_ISSw (ht : P.underlying t = some (.slice e)) (he : P.underlying e = some (.slice f)) (hf : P.underlying f = some (.int .i64)) (hc : P.cellsOf e = 1) (hcf : P.cellsOf f = 1) (hb : P.bytesOf e = 24) (hbf : P.bytesOf f = 8) (hw : Light P t x.1) (h : DataW.trod enc P w 0 (fun _ => true) held fuel t cs = some x) :
  ∃ (A : Option Addr) (c : Nat) (rs : List RowM), cs = [.slice A rs.length c] ∧ (ro A (hdrs rs)).sat w ∧ (rowsR rs).sat w ∧ rs.length ≤ 17592186044415 ∧ (∀ r ∈ rs, r.xs.length ≤ 17592186044415) ∧ ∀ r ∈ rs, r.xs.length ≤ r.cap := by
 rcases open_slice1 ht hc h with ⟨rfl, _⟩ | ⟨a, len, cap, m, n, V, D, Pl, rfl, _, hl, hm, hmm, hx, hcell⟩
 ·exact ⟨none, 0, [], rfl, fun j hj => by simp [hdrs] at hj, fun r hr => by simp at hr, by simp, fun r hr => by simp at hr, fun r hr => by simp at hr⟩
 ·simp only [if_true] at hmm
  have hxw : ∀ i, i < len → Light P e (D i) := fun i hi k hk => hw k (by
   rw [hx]
   simp only [DataW.weights, ht]
   refine List.mem_cons_of_mem _ (List.mem_append_left _ (mem_weightsAll (d := D i) ?_ k hk))
   exact List.mem_map.2 ⟨i, List.mem_range.2 hi, rfl⟩)
  obtain ⟨R, hR⟩ := choose_lt (α := RowM) (n := len) (p := fun i r => V i = r.hdr ∧ (ro r.A (ints r.xs)).sat w ∧ r.xs.length ≤ 17592186044415 ∧ r.xs.length ≤ r.cap) (fun i hi => by
   obtain ⟨A, c, xs, h1, h2, h3, _, h5⟩ := open_ISw he hf hcf hbf (hxw i hi) (hcell i (by omega)).2
   refine ⟨⟨A, c, xs⟩, ?_, h3, h5, h2⟩
   simpa [RowM.hdr] using h1)
  have hlen : ((List.range len).map R).length = len := by simp
  have hmem : ∀ r ∈ (List.range len).map R, ∃ i, i < len ∧ R i = r := fun r hr => by
   obtain ⟨i, hi, rfl⟩ := List.mem_map.1 hr
   exact ⟨i, List.mem_range.1 hi, rfl⟩
  refine ⟨some a, cap, (List.range len).map R, by rw [hlen], fun j hj => ?_, fun r hr => ?_, ?_, fun r hr => ?_, fun r hr => ?_⟩
  ·have hj' : j < len := by simpa [hdrs] using hj
   refine ⟨a, rfl, ?_⟩
   rw [(hcell j (by omega)).1, (hR j hj').1]
   simp [hdrs]
  ·obtain ⟨i, hi, rfl⟩ := hmem r hr
   exact (hR i hi).2.1
  ·have hwt := hw ((((List.range len).map D).length + ((List.range (m - len)).map fun j => D (len + j)).length) * P.bytesOf e) (by rw [hx]; simp [DataW.weights, ht])
   rw [hb] at hwt
   simp only [List.length_map, List.length_range, reachBytes] at hwt
   rw [hlen]; omega
  ·obtain ⟨i, hi, rfl⟩ := hmem r hr
   exact (hR i hi).2.2.1
  ·obtain ⟨i, hi, rfl⟩ := hmem r hr
   exact (hR i hi).2.2.2
end
theorem joined_of {P : Program} {f : FuncId} {fn : Func} {s : ChangeSpec} {c : OpenClaim}
  (h1 : (c.wf (OpenSpec.ofChange s) && laidOutB P && mapsRowed P && fn.params.all (P.readableRec ·) && namedTie P c.named s.vars && (c.stops == []) && (P.stops == []) && (c.knobs == []) && (P.stopKnobs == [])) = true)
  (h2 : (c.inPlace == P.inPlace f) = true) (h3 : (c.unfollowed == P.unfollowed f) = true) (h4 : (c.recurses == P.recurses f) = true) (h5 : (c.named == P.varsNamed f) = true)
  (h6 : (c.maps == (fn.params.toList ++ s.plain.varTypes P).any (P.mapsRec ·)) = true) (h7 : (c.ifaces == (fn.params.toList ++ s.plain.varTypes P).any (P.ifacesRec ·)) = true) (h8 : (c.mapsOut == P.mapsAmong fn.resultTypes.toList) = true)
  (h9 : (c.loops == (fn.params.toList ++ s.plain.varTypes P).any (P.loopsFrom ·)) = true) (h10 : (c.wideKeys == (fn.params.toList ++ s.plain.varTypes P ++ fn.resultTypes.toList).any (P.wideKeysFrom ·)) = true)
  (h11 : s.vars.all (P.varReadable ·) = true) (h12 : fn.resultTypes.all (fun t => P.readableRec t && decide (t < P.types.size)) = true) (h13 : (c.ifacesOut == fn.resultTypes.toList.any (P.ifacesRec ·)) = true) (h14 : (c.loopsOut == fn.resultTypes.toList.any (P.loopsFrom ·)) = true)
  (h15 : (c.plainKeys == P.plainKeys) = true) (h16 : c.shortTexts.isNone = true) (h17 : P.stopsHeard = true) (h18 : P.mayEnter = true) (h19 : (c.lifted == P.liftsFinal) = true) (h20 : (P.make == some c.make) = true)
  (h21 : (c.kinds == (if c.domain.isEmpty then [] else fn.params.toList.map fun t => match P.underlying t with | some (.int k) => some k | _ => none)) = true) (h22 : (c.pinned == c.pinnedBy) = true)
  (h23 : (c.veiled == (fn.params.toList ++ s.plain.varTypes P ++ fn.resultTypes.toList).any (P.veiledRec ·)) = true) (h24 : c.veiledFits P fn.params.toList (fn.params.toList ++ s.plain.varTypes P ++ fn.resultTypes.toList) = true) : joinedFacts P f fn s c = true := by
 unfold joinedFacts
 simp only [Bool.and_eq_true] at h1 ⊢
 obtain ⟨⟨⟨⟨⟨⟨⟨⟨a1, a2⟩, a3⟩, a4⟩, a5⟩, a6⟩, a7⟩, a8⟩, a9⟩ := h1
 and_intros <;> assumption
end Go.Proofs.YtdkahdehodopoaaGreat

set_option maxRecDepth 100000
namespace Go.Proofs.YtdkahdehodopoaaGreat
open Go.ChangeShapes Go.WideShapes Go.ChangeAt Go.RowKit
theorem get_Code {H : Type} {enc : TypeId × Value → H} {w : World} {b : Nat} {v : Value} {d : DataW H} {p : List MemPlace} (hw : Light Tryz.prog 27 d) (hv : Value.okWide Tryz.prog w .any b 27 v) (h : DataW.Trod enc Tryz.prog w 0 (fun _ => true) true 27 v d p) :
  ∃ (P M : Int) (A : Option Addr) (c : Nat) (mod : List Int) (n : Int) (G : Option Addr) (k : Nat) (rs : List RowM), v = .agg #[.int .i64 P, .int .i64 M, .slice A mod.length c, .int .i64 n, .slice G rs.length k] ∧ ((ro A (ints mod)).sat w ∧ mod.length ≤ 17592186044415) ∧ ((ro G (hdrs rs)).sat w ∧ (rowsR rs).sat w) ∧ rs.length ≤ 17592186044415 ∧ (∀ r ∈ rs, r.xs.length ≤ 17592186044415) ∧ ∀ r ∈ rs, r.xs.length ≤ r.cap := by
 obtain ⟨l, rfl, h1, h2⟩ := get_FdW (by kernel_rfl) hw hv h
 have hl : l.length = 5 := h1.trans (by kernel_rfl)
 obtain ⟨nf, yf, hyf, lf⟩ := h2 0 0 24 3 (by kernel_rfl)
 obtain ⟨_, g2⟩ := open_FdW (by kernel_rfl) lf hyf
 obtain ⟨n0, y0, hy0, _⟩ := g2 0 0 3 1 (by kernel_rfl)
 obtain ⟨a0, e0, _⟩ := open_I Tryz.underlying3 hy0
 obtain ⟨n1, y1, hy1, _⟩ := g2 1 1 3 1 (by kernel_rfl)
 obtain ⟨a1, e1, _⟩ := open_I Tryz.underlying3 hy1
 obtain ⟨n2, y2, hy2, hl2⟩ := g2 2 2 22 1 (by kernel_rfl)
 obtain ⟨A, c, xs, e2, _, h3, _, h4⟩ := open_ISw Tryz.underlying22 Tryz.underlying3 (by kernel_rfl) (by kernel_rfl) hl2 hy2
 obtain ⟨n3, y3, hy3, _⟩ := h2 1 3 3 1 (by kernel_rfl)
 obtain ⟨a3, e3, _⟩ := open_I Tryz.underlying3 hy3
 obtain ⟨n4, y4, hy4, hl4⟩ := h2 2 4 25 1 (by kernel_rfl)
 obtain ⟨G, k, rs, e4, h5, h6, h7, h8⟩ := open_ISSw Tryz.underlying25 Tryz.underlying22 Tryz.underlying3 (by kernel_rfl) (by kernel_rfl) (by kernel_rfl) (by kernel_rfl) hl4 hy4
 match l, hl with
 | [b0, b1, b2, b3, b4], _ =>
  simp at e0 e1 e2 e3 e4
  exact ⟨a0, a1, A, c, xs, a3, G, k, rs, by rw [e0, e1, e2, e3, e4], ⟨h3, h4⟩, ⟨h5, h6⟩, h7, h8⟩
end Go.Proofs.YtdkahdehodopoaaGreat

namespace Go.Proofs.YtdkahdehodopoaaGreat
open Rg
theorem trimL_beyond : ∀ (xs : List Int) (j : Nat), (trimL xs).length ≤ j → xs.getD j 0 = 0
 | [], j, _ => rfl
 | x :: xs, j, h => by
  rw [trimL] at h
  split at h
  ·rename_i h0
   cases j with
   | zero =>
    split at h
    ·rename_i hx; rw [hx]; rfl
    ·simp at h
   | succ j =>
    have := trimL_beyond xs j (by rw [h0]; simp)
    simpa using this
  ·rename_i y ys h0
   cases j with
   | zero => simp at h
   | succ j =>
    have := trimL_beyond xs j (by rw [h0]; simpa using h)
    simpa using this
theorem trimL_last : ∀ (xs : List Int) (k : Nat), (trimL xs).length = k + 1 → xs.getD k 0 ≠ 0
 | [], k, h => by simp [trimL] at h
 | x :: xs, k, h => by
  rw [trimL] at h
  split at h
  ·split at h
   ·simp at h
   ·rename_i hx
    simp at h
    subst h
    exact hx
  ·rename_i y ys h0
   cases k with
   | zero => simp at h
   | succ k =>
    have := trimL_last xs k (by rw [h0]; simpa using h)
    simpa using this
theorem trimL_getD (xs : List Int) (j : Nat) : (trimL xs).getD j 0 = xs.getD j 0 := by
 by_cases h : j < (trimL xs).length
 ·conv => rhs; rw [trimL_split xs]
  rw [List.getD_eq_getElem?_getD, List.getD_eq_getElem?_getD, List.getElem?_append_left h]
 ·rw [trimL_beyond xs j (by omega), List.getD_eq_getElem?_getD, List.getElem?_eq_none (by omega)]; rfl
class IsF (p m : Int) (mod : List Int) : Prop where
 out : FldR p m mod
noncomputable instance elF (p m : Int) (mod : List Int) [h : IsF p m mod] : Fd (El p m mod) := elFd h.out
theorem IsF.q2 {p m : Int} {mod : List Int} (h : IsF p m mod) : 2 ≤ pw p m := h.out.1.1.q2
theorem IsF.ord {p m : Int} {mod : List Int} (h : IsF p m mod) : ordI p m = pw p m := h.out.1.1.ord
section
variable {p m : Int} {mod : List Int} [hF : IsF p m mod]
def el (x : Int) : El p m mod := ⟨inI (pw p m) x, inI_bd (by have := hF.q2; omega) x⟩
theorem el_in {x : Int} (h : 0 ≤ x ∧ x < pw p m) : (el x : El p m mod).1 = x := inI_in h.1 h.2
theorem el_of (a : El p m mod) : el a.1 = a := El.ext (inI_in a.2.1 a.2.2)
theorem el_zero : (el 0 : El p m mod) = 0 := El.ext (inI_in (Int.le_refl 0) (by have := hF.q2; omega))
theorem el_one : (el 1 : El p m mod) = 1 := El.ext (inI_in (by omega) (by have := hF.q2; omega))
theorem one_val : (1 : El p m mod).1 = 1 := rfl
theorem add_val (a b : El p m mod) : (a + b).1 = addI p m a.1 b.1 := rfl
theorem val_zero_iff (a : El p m mod) : a.1 = 0 ↔ a = 0 := ⟨fun h => El.ext h, fun h => by rw [h]; rfl⟩
theorem el_eq_zero {x : Int} (h : 0 ≤ x ∧ x < pw p m) : (el x : El p m mod) = 0 ↔ x = 0 := by rw [← val_zero_iff, el_in h]
noncomputable def pol (l : List Int) : Po (El p m mod) := ⟨fun j => el (l.getD j 0), l.length, fun j hj => by
 show el (l.getD j 0) = 0
 rw [List.getD_eq_getElem?_getD, List.getElem?_eq_none hj]; exact el_zero⟩
theorem cf_pol (l : List Int) (j : Nat) : Po.cf (pol l : Po (El p m mod)) j = el (l.getD j 0) := rfl
theorem pol_sh (l : List Int) : Po.Sh (pol l : Po (El p m mod)) l.length := fun j hj => by
 rw [cf_pol, List.getD_eq_getElem?_getD, List.getElem?_eq_none hj]; exact el_zero
noncomputable def il (f : Po (El p m mod)) : List Int := (List.range (Po.len f)).map fun j => (Po.cf f j).1
theorem il_length (f : Po (El p m mod)) : (il f).length = Po.len f := by simp [il]
theorem il_getD (f : Po (El p m mod)) (j : Nat) : (il f).getD j 0 = (Po.cf f j).1 := by
 by_cases h : j < Po.len f
 ·rw [List.getD_eq_getElem?_getD, List.getElem?_eq_getElem (by rw [il_length]; exact h)]
  simp [il]
 ·rw [List.getD_eq_getElem?_getD, List.getElem?_eq_none (by rw [il_length]; omega), Po.cf_ge (by omega)]; rfl
theorem il_in (f : Po (El p m mod)) : AllIn (pw p m) (il f) := fun c hc => by
 obtain ⟨j, _, rfl⟩ := List.mem_map.1 hc
 exact (Po.cf f j).2
theorem pol_il (f : Po (El p m mod)) : pol (il f) = f := Po.ext fun j => by rw [cf_pol, il_getD, el_of]
theorem il_inj {f g : Po (El p m mod)} (h : il f = il g) : f = g := by rw [← pol_il f, h, pol_il]
theorem getD_map0 (q : Int) (l : List Int) (j : Nat) : (l.map (inI q)).getD j 0 = inI q (l.getD j 0) := by
 by_cases h : j < l.length
 ·simp [List.getD_eq_getElem?_getD, h]
 ·rw [List.getD_eq_getElem?_getD, List.getElem?_eq_none (by simpa using h), List.getD_eq_getElem?_getD, List.getElem?_eq_none (by omega)]
  simp [inI]
theorem len_pol (l : List Int) : Po.len (pol l : Po (El p m mod)) = (canL (pw p m) l).length := by
 have hb : ∀ j, (canL (pw p m) l).length ≤ j → Po.cf (pol l : Po (El p m mod)) j = 0 := fun j hj => by
  have h1 := trimL_beyond (l.map (inI (pw p m))) j hj
  rw [getD_map0] at h1
  exact El.ext h1
 rcases Nat.eq_zero_or_pos (canL (pw p m) l).length with h | h
 ·rw [h] at hb ⊢
  exact Nat.le_zero.1 (Po.len_le hb)
 ·obtain ⟨k, hk⟩ : ∃ k, (canL (pw p m) l).length = k + 1 := ⟨_, (Nat.sub_add_cancel h).symm⟩
  rw [hk] at hb ⊢
  refine Po.len_eq hb fun h0 => ?_
  have h1 := trimL_last (l.map (inI (pw p m))) k hk
  rw [getD_map0] at h1
  exact h1 (congrArg Subtype.val h0)
theorem ext_getD {a b : List Int} (hl : a.length = b.length) (h : ∀ j, a.getD j 0 = b.getD j 0) : a = b := List.ext_getElem hl fun j h1 h2 => by
 have := h j
 rw [List.getD_eq_getElem?_getD, List.getElem?_eq_getElem h1, List.getD_eq_getElem?_getD, List.getElem?_eq_getElem h2] at this
 exact this
theorem il_pol (l : List Int) : il (pol l : Po (El p m mod)) = canL (pw p m) l := ext_getD (by rw [il_length, len_pol]) fun j => by
 rw [il_getD, cf_pol]
 unfold canL
 rw [trimL_getD, getD_map0]; rfl
theorem canL_of_in {q : Int} {l : List Int} (h : AllIn q l) : canL q l = trimL l := by
 unfold canL
 congr 1
 conv => rhs; rw [← List.map_id l]
 exact List.map_congr_left fun x hx => inI_in (h x hx).1 (h x hx).2
theorem il_trim {l : List Int} (h : AllIn (pw p m) l) : il (pol l : Po (El p m mod)) = trimL l := by rw [il_pol, canL_of_in h]
theorem pol_nil : (pol [] : Po (El p m mod)) = 0 := Po.ext fun j => el_zero
theorem il_zero : il (0 : Po (El p m mod)) = [] := by unfold il; rw [Po.len_zero]; rfl
theorem il_self {l : List Int} (h : AllIn (pw p m) l) (h0 : l = [] ∨ l.getD (l.length - 1) 0 ≠ 0) : il (pol l : Po (El p m mod)) = l := by
 rw [il_trim h]
 have h1 := trim_done (xs := l) (k := l.length) (Nat.le_refl _) (by rw [List.take_length]) (by
  rcases h0 with h0 | h0
  ·exact .inl (by rw [h0]; rfl)
  ·exact .inr h0)
 rw [trimL_take, h1, List.take_length]
noncomputable def rw' (l : List Int) : Vc (El p m mod) := fun j => el (l.getD j 0)
theorem rw_at (l : List Int) (j : Nat) : (rw' l : Vc (El p m mod)) j = el (l.getD j 0) := rfl
end
end Go.Proofs.YtdkahdehodopoaaGreat

namespace Go.Proofs.YtdkahdehodopoaaGreat
def addD (p : Int) : Nat → Int → Int → Int
 | 0, _, _ => 0
 | n + 1, x, y => (x % p + y % p) % p + p * addD p n (x / p) (y / p)
def negD (p : Int) : Nat → Int → Int
 | 0, _ => 0
 | n + 1, x => (p - x % p) % p + p * negD p n (x / p)
theorem dg_head (p : Int) (M : Nat) (x : Int) : dg p (M + 1) x 0 = x % p := rfl
theorem rv_head (p : Int) (M : Nat) (u : Row) : rv p (M + 1) u = u 0 % p + p * rv p M (fun j => u (j + 1)) := by
 unfold rv
 rw [List.range_succ_eq_map, List.map_cons, List.map_map, vl]
 rfl
theorem add_rec (p : Int) : ∀ (M : Nat) (x y : Int), rv p M ((dg p M x).add (dg p M y)) = addD p M x y
 | 0, _, _ => rfl
 | M + 1, x, y => by
  rw [rv_head, addD, ← add_rec p M]
  rfl
theorem addI_rec (p m x y : Int) : addI p m x y = addD p m.toNat x y := add_rec p _ x y
theorem neg_rec {p : Int} (hp : 2 ≤ p) : ∀ (M : Nat) (x : Int), rv p M (Row.sm (-1) (dg p M x)) = negD p M x
 | 0, _ => rfl
 | M + 1, x => by
  rw [rv_head, negD, ← neg_rec hp M]
  have h1 : Row.sm (-1) (dg p (M + 1) x) 0 % p = (p - x % p) % p := by
   simp only [Row.sm, dg_head]
   rw [show (-1 : Int) * (x % p) = (p - x % p) + p * (-1) by omega, Int.add_mul_emod_self_left]
  rw [h1]
  rfl
theorem negI_rec {p : Int} (hp : 2 ≤ p) (m x : Int) : negI p m x = negD p m.toNat x := neg_rec hp _ x
theorem addD_bd {p : Int} (hp : 2 ≤ p) : ∀ (n : Nat) (x y : Int), 0 ≤ addD p n x y ∧ addD p n x y < p ^ n := fun n x y => by
 have := rv_bd hp n ((dg p n x).add (dg p n y))
 rwa [add_rec] at this
theorem negD_bd {p : Int} (hp : 2 ≤ p) : ∀ (n : Nat) (x : Int), 0 ≤ negD p n x ∧ negD p n x < p ^ n := fun n x => by
 have := rv_bd hp n (Row.sm (-1) (dg p n x))
 rwa [neg_rec hp] at this
theorem addD_zero (p : Int) : ∀ n : Nat, addD p n 0 0 = 0
 | 0 => rfl
 | n + 1 => by simp [addD, addD_zero p n]
theorem negD_zero (p : Int) : ∀ n : Nat, negD p n 0 = 0
 | 0 => rfl
 | n + 1 => by simp [negD, negD_zero p n]
theorem ediv_lt_pow {p x : Int} (hp : 2 ≤ p) {n : Nat} (h : x < p ^ (n + 1)) : x / p < p ^ n := Int.ediv_lt_of_lt_mul (by omega) (by rwa [Int.pow_succ] at h)
theorem xor_rec : ∀ (n x y : Nat), x < 2 ^ n → y < 2 ^ n → addD 2 n x y = ((x ^^^ y : Nat) : Int)
 | 0, x, y, hx, hy => by
  have h1 : x = 0 := by simpa using hx
  have h2 : y = 0 := by simpa using hy
  subst h1; subst h2
  simp [addD]
 | n + 1, x, y, hx, hy => by
  have h1 : x / 2 < 2 ^ n := by rw [Nat.pow_succ] at hx; omega
  have h2 : y / 2 < 2 ^ n := by rw [Nat.pow_succ] at hy; omega
  have ih := xor_rec n (x / 2) (y / 2) h1 h2
  rw [addD]
  have e1 : ((x : Int) / 2) = ((x / 2 : Nat) : Int) := by omega
  have e2 : ((y : Int) / 2) = ((y / 2 : Nat) : Int) := by omega
  rw [e1, e2, ih, ← Nat.xor_div_two]
  have e3 : (x ^^^ y) % 2 = (x + y) % 2 := by
   have h3 := Nat.xor_mod_two_pow (a := x) (b := y) (n := 1)
   rw [Nat.pow_one] at h3
   rw [h3]
   rcases Nat.mod_two_eq_zero_or_one x with hx0 | hx0 <;> rcases Nat.mod_two_eq_zero_or_one y with hy0 | hy0 <;> rw [hx0, hy0] <;> simp <;> omega
  have e4 := Nat.div_add_mod (x ^^^ y) 2
  have e5 : ((x : Int) % 2 + (y : Int) % 2) % 2 = (((x + y) % 2 : Nat) : Int) := by omega
  rw [e5, ← e3]
  omega
theorem addI_two {m x y : Int} (hx : 0 ≤ x ∧ x < pw 2 m) (hy : 0 ≤ y ∧ y < pw 2 m) : addI 2 m x y = ((x.toNat ^^^ y.toNat : Nat) : Int) := by
 rw [addI_rec]
 have h1 : ((2 ^ m.toNat : Nat) : Int) = pw 2 m := by rw [Int.natCast_pow]; rfl
 have := xor_rec m.toNat x.toNat y.toNat (by omega) (by omega)
 rwa [Int.toNat_of_nonneg hx.1, Int.toNat_of_nonneg hy.1] at this
section
variable {p m : Int} {mod : List Int} [hF : IsF p m mod]
theorem el_inj {x y : Int} (hx : 0 ≤ x ∧ x < pw p m) (hy : 0 ≤ y ∧ y < pw p m) (h : (el x : El p m mod) = el y) : x = y := by
 have := congrArg Subtype.val h
 rwa [el_in hx, el_in hy] at this
end
end Go.Proofs.YtdkahdehodopoaaGreat

set_option maxRecDepth 100000
namespace Go.Proofs.YtdkahdehodopoaaGreat
open Go.RowKit Go.Shelf
attribute [local go_sem] Oper.semAt_some
set_option maxRecDepth 100000 in
set_option maxHeartbeats 2000000 in
theorem elems_in (F : Fence) (n : Nat) (hF : F.fn 119) (hro : F.round = none) (hn : 1 ≤ n) (l Bs b q : Nat) (hq : q ≤ 256) (J Jx : List Int → World → Prop)
  (hY : ∀ pre x W, J pre W → pre.length < q → YieldAt F (n - 1) Tryz.prog l #[.int .i64 x] W fun e W' =>
   (e = .returned (.bool true) ∧ J (pre ++ [x]) W' ∧ True) ∨ (e = .returned (.bool false) ∧ Jx (pre ++ [x]) W'))
  (W : World) (hBs : W.cell? ⟨Bs, 0, none⟩ = some (.pointer (some ⟨b, 0, none⟩))) (hc : W.cell? ⟨b, 3, none⟩ = some (.int .i64 q)) (h0 : J [] W) :
  CallsIn F n Tryz.prog 119 #[.func (.yield l) #[] #[], .pointer (some ⟨Bs, 0, none⟩)] W fun e W' => (∃ v, e = .returned v) ∧
   ((∃ ys, ys = upI q ∧ J ys W') ∨ (∃ pre, (∃ k, k ≤ q ∧ pre = upI k) ∧ Jx pre W')) := by
 refine callsIn_of_wp Tryz.func119 rfl hF ?_ hro
 simp only [Tryz.ntmps119, List.size_toArray, List.length_cons, List.length_nil, Nat.reduceAdd, Nat.reduceSub, Array.replicate_succ, Array.replicate_zero, List.push_toArray, List.append_toArray, List.nil_append, List.cons_append]
 gi_wp2
 gi_loopw [8] (fun i wr => ∃ k : Nat, k ≤ q ∧ i = .int .i64 k ∧ J (upI k) wr)
  (fun i _ => q - (intOf i).toNat)
 case atStart => exact ⟨0, Nat.zero_le _, rfl, h0⟩
 case round =>
  obtain ⟨k, hk, rfl, hJs⟩ := hrel
  by_cases hlt : k < q
  ·obtain ⟨fn, tmps, assign, body, hy, hR⟩ := hY _ (k : Int) wr hJs (by rw [upI_length]; exact hlt)
   gi_wp2
   refine hR.mono ?_
   rintro e W3 (⟨rfl, hJ3, _⟩ | ⟨rfl, hJx3⟩)
   ·gi_wp2
    go_roundw
    case rel => exact ⟨k + 1, by omega, by simp, by rw [upI_succ]; exact hJ3⟩
    case measure => simp [intOf]; omega
   ·gi_wp2
    refine bodyPost_ret (results_none rfl _ _ _) rfl ?_
    exact ⟨⟨_, rfl⟩, .inr ⟨_, ⟨k + 1, by omega, (upI_succ _).symm⟩, hJx3⟩⟩
  ·obtain rfl : k = q := by omega
   gi_wp2
   go_end0
   exact ⟨⟨_, rfl⟩, .inl ⟨_, rfl, hJs⟩⟩
theorem elems_gives {Bs : Addr} {g : GfM} {e : TypeId} {F F' : List Chunk} (hq0 : 0 ≤ g.q) (hq : g.q ≤ 256) [hB : PkBlk F Bs e [.pointer (some g.p)] F'] [hG : HasGF F g] :
  Gives Tryz.prog F 119 #[.pointer (some Bs)] g.q.toNat := ⟨fun M w0 w hm => by
 have h1 := (hm.perm hB.perm).sat _ (List.mem_cons_self ..)
 have h2 := (hG.has M w0 w hm).1
 have hb := h1.1
 have hp := h2.1
 obtain ⟨ad, e1, hc⟩ := blk_reads h1 0 (by simp)
 simp only [Option.some.injEq] at e1
 subst e1
 obtain ⟨ad, e2, hc2⟩ := h2.2 3 (by simp [GfM.cells])
 simp only [Option.some.injEq] at e2
 subst e2
 simp only [GfM.cells, List.getElem_cons_zero, List.getElem_cons_succ] at hc hc2
 rw [hb, add_new] at hc
 rw [hp, add_new] at hc2
 intro l J Jx W hW _ _ hY h0
 have k1 : W.cell? ⟨Bs.block, 0, none⟩ = some (.pointer (some ⟨g.p.block, 0, none⟩)) := by
  rw [hW.cell (p := ⟨Bs.block, 0, none⟩) (World.block_lt_of_cell? _ _ hc), hc, ← hp]
 have k2 : W.cell? ⟨g.p.block, 3, none⟩ = some (.int .i64 g.q.toNat) := by
  rw [hW.cell (p := ⟨g.p.block, 3, none⟩) (World.block_lt_of_cell? _ _ hc2), hc2, Int.toNat_of_nonneg hq0]
 have := elems_in (WR none) 1 trivial rfl (Nat.le_refl _) l Bs.block g.p.block g.q.toNat (by omega) J Jx hY W k1 k2 h0
 rw [hb]
 exact this⟩
end Go.Proofs.YtdkahdehodopoaaGreat

set_option maxRecDepth 100000
namespace Go.Proofs.YtdkahdehodopoaaGreat
open Go.RowKit
theorem gf_Elements1_ent : Enters Tryz.prog 119 := enters_of Tryz.func119 (by kernel_rfl) (by kernel_rfl)
theorem gf_Elements_ent : Enters Tryz.prog 78 := enters_of Tryz.func78 (by kernel_rfl) (by kernel_rfl)
theorem gf_Elements (g : GfM) :
  Pure Tryz.prog 78 #[.pointer (some g.p)] [gfR g] (one (fun v ch => ∃ Bs : Addr, v = .func (.func 119) #[] #[.pointer (some Bs)] ∧ ch = blk Bs 45 [.pointer (some g.p)])) := by
 refine pure_of (args := [.pointer (some g.p)]) 4 Tryz.func78 rfl rfl rfl gf_Elements_ent ⟨id, trivial⟩ (fun w0 => ?_)
 refine tS ?_
 refine tR fun _ _ _ => ?_
 refine eV (eBox rfl rfl rfl rfl rfl (fun p0 => ?_))
 refine pV ?_
 refine tS ?_
 refine tR fun _ _ _ => ?_
 refine sV (rFun rfl rfl rfl) ?_
 refine pV ?_
 exact tr_ret ⟨trivial, _, _, rfl, ⟨_, rfl, p0, rfl, rfl⟩, cs _ _, trivial, trivial⟩
end Go.Proofs.YtdkahdehodopoaaGreat

set_option maxRecDepth 100000
namespace Go.Proofs.YtdkahdehodopoaaGreat
open Go.RowKit
end Go.Proofs.YtdkahdehodopoaaGreat

namespace Go.Proofs.YtdkahdehodopoaaGreat
end Go.Proofs.YtdkahdehodopoaaGreat

set_option maxRecDepth 100000
namespace Go.Proofs.YtdkahdehodopoaaGreat
open Go.RowKit
end Go.Proofs.YtdkahdehodopoaaGreat

set_option maxRecDepth 100000
namespace Go.Proofs.YtdkahdehodopoaaGreat
open Go.RowKit
theorem take_eq_next {α : Type} (d : α) (a b : List α) {k : Nat} (hl : a.length = b.length) (hk : k < a.length) (h : a.take k = b.take k) (he : a.getD k d = b.getD k d) : a.take (k + 1) = b.take (k + 1) := by
 rw [List.take_add_one, List.take_add_one, h, List.getElem?_eq_getElem hk, List.getElem?_eq_getElem (show k < b.length by omega)]
 rw [List.getD_eq_getElem?_getD, List.getElem?_eq_getElem hk, List.getD_eq_getElem?_getD, List.getElem?_eq_getElem (show k < b.length by omega)] at he
 simp only [Option.getD_some] at he
 rw [he]
theorem xs_getD (rs : List RowM) (k : Nat) : (rs.map (·.xs)).getD k [] = (rs.getD k rowD).xs := by
 simp only [List.getD_eq_getElem?_getD, List.getElem?_map]
 cases rs[k]? <;> rfl
theorem ref_SameInts_ent : Enters Tryz.prog 62 := enters_of Tryz.func62 (by kernel_rfl) (by kernel_rfl)
theorem ref_SameInts (A : Option Addr) (n c : Nat) (a : List Int) (hn : n = a.length) (B : Option Addr) (m d : Nat) (b : List Int) (hm : m = b.length) (h9 : a.length ≤ 1000000000000) :
  Pure Tryz.prog 62 #[.slice A n c, .slice B m d] [ro A (ints a), ro B (ints b)] (isV (.bool (decide (a = b)))) := by
 refine pure_of (args := [.slice A n c, .slice B m d]) 26 Tryz.func62 rfl rfl rfl ref_SameInts_ent ⟨id, id, trivial⟩ (fun w0 => ?_)
 refine tS ?_
 refine tR fun _ _ _ => ?_
 refine pV ?_
 refine tS ?_
 refine tS ?_
 refine tR fun _ _ _ => ?_
 refine pV ?_
 refine sV (rLen rfl rfl) ?_
 refine pV ?_
 refine sV (rLen rfl rfl) ?_
 refine pV ?_
 refine tC rfl (fun h1 => ?_) (fun h1 => ?_)
 ·try simp only [zbA] at h1
  refine tS ?_
  refine tR fun _ _ _ => ?_
  refine pV ?_
  exact tr_ret ⟨trivial, _, _, rfl, ⟨by rw [decide_eq_false (fun h => by rw [h] at hn; omega)], rfl⟩, CSub.nil _, trivial⟩
 ·try simp only [zbA] at h1
  refine tK ?_
  refine tS ?_
  refine tS ?_
  refine tR fun _ _ _ => ?_
  refine pV ?_
  refine tB ?_
  refine tr_loop1 (fun (i : Nat) => [(0, .slice A n c), (1, .slice B m d), (5, .int .i64 i)]) (fun (i : Nat) => [ro A (ints a), ro B (ints b)]) (fun (i : Nat) => i ≤ a.length ∧ a.take i = b.take i) (fun (i : Nat) => a.length - i) (0) ⟨rfl, rfl, rfl, trivial⟩ (by first | exact cs _ _ | exact CSub.refl _) (⟨by omega, rfl⟩) (fun i hI => ?_)
  obtain ⟨hi, ht⟩ := hI
  have hll : a.length = b.length := by omega
  refine tS ?_
  refine tS ?_
  refine tR fun _ _ _ => ?_
  iterate 2 refine pV ?_
  refine sV (rLen rfl rfl) ?_
  refine pV ?_
  refine tC rfl (fun h4 => ?_) (fun h4 => ?_)
  ·try simp only [zbA] at h4
   refine tK ?_
   refine tS ?_
   refine tB ?_
   refine tS ?_
   refine tr_draw [0, 1, 2, 3, 4, 5, 6, 7, 8] [] mixed (by kernel_rfl) fun _ _ _ => ?_
   iterate 2 refine pV ?_
   refine sV (rIdxI rfl rfl rfl (by omega) (by omega) (by omega)) ?_
   refine sV (rLdI rfl rfl (by omega)) ?_
   iterate 2 refine pV ?_
   refine sV (rIdxI rfl rfl rfl (by omega) (by omega) (by omega)) ?_
   refine sV (rLdI rfl rfl (by omega)) ?_
   refine pV ?_
   refine tC rfl (fun h6 => ?_) (fun h6 => ?_)
   ·try simp only [zbA] at h6
    refine tS ?_
    refine tR fun _ _ _ => ?_
    refine pV ?_
    exact tr_ret ⟨trivial, _, _, rfl, ⟨by rw [decide_eq_false (fun h => h6 (by rw [h]))], rfl⟩, CSub.nil _, trivial⟩
   ·try simp only [zbA] at h6
    refine tK ?_
    refine tR fun _ _ _ => ?_
    refine pV ?_
    refine sV (rAdd rfl rfl rfl (by omega) (by omega)) ?_
    refine pV ?_
    refine ⟨i + 1, ⟨rfl, rfl, rfl, trivial⟩, by first | exact cs _ _ | exact CSub.refl _, ?_⟩
    exact ⟨⟨by omega, take_eq_next 0 a b hll (by omega) ht (by simpa using h6)⟩, by omega⟩
  ·try simp only [zbA] at h4
   refine tE ?_
   refine tS ?_
   refine tR fun _ _ _ => ?_
   refine pV ?_
   have hia : i = a.length := by omega
   rw [hia, List.take_length, hll, List.take_length] at ht
   exact tr_ret ⟨trivial, _, _, rfl, ⟨by rw [decide_eq_true ht], rfl⟩, CSub.nil _, trivial⟩
theorem ref_SameRows_ent : Enters Tryz.prog 29 := enters_of Tryz.func29 (by kernel_rfl) (by kernel_rfl)
theorem ref_SameRows (A : Option Addr) (n c : Nat) (rs : List RowM) (hn : n = rs.length) (B : Option Addr) (m d : Nat) (qs : List RowM) (hm : m = qs.length) (h9 : rs.length ≤ 1000000000000) (h8 : ∀ r ∈ rs, r.xs.length ≤ 1000000000000) :
  Pure Tryz.prog 29 #[.slice A n c, .slice B m d] [ro A (hdrs rs), rowsR rs, ro B (hdrs qs), rowsR qs] (isV (.bool (decide (rs.map (·.xs) = qs.map (·.xs))))) := by
 refine pure_of (args := [.slice A n c, .slice B m d]) 27 Tryz.func29 rfl rfl rfl ref_SameRows_ent ⟨id, id, id, id, trivial⟩ (fun w0 => ?_)
 refine tS ?_
 refine tR fun _ _ _ => ?_
 refine pV ?_
 refine tS ?_
 refine tS ?_
 refine tR fun _ _ _ => ?_
 refine pV ?_
 refine sV (rLen rfl rfl) ?_
 refine pV ?_
 refine sV (rLen rfl rfl) ?_
 refine pV ?_
 refine tC rfl (fun h1 => ?_) (fun h1 => ?_)
 ·try simp only [zbA] at h1
  refine tS ?_
  refine tR fun _ _ _ => ?_
  refine pV ?_
  exact tr_ret ⟨trivial, _, _, rfl, ⟨by rw [decide_eq_false (fun h => by have := congrArg List.length h; simp at this; omega)], rfl⟩, CSub.nil _, trivial⟩
 ·try simp only [zbA] at h1
  refine tK ?_
  refine tS ?_
  refine tS ?_
  refine tR fun _ _ _ => ?_
  refine pV ?_
  refine tB ?_
  refine tr_loop1 (fun (i : Nat) => [(0, .slice A n c), (1, .slice B m d), (5, .int .i64 i)]) (fun (i : Nat) => [ro A (hdrs rs), rowsR rs, ro B (hdrs qs), rowsR qs]) (fun (i : Nat) => i ≤ rs.length ∧ (rs.map (·.xs)).take i = (qs.map (·.xs)).take i) (fun (i : Nat) => rs.length - i) (0) ⟨rfl, rfl, rfl, trivial⟩ (by first | exact cs _ _ | exact CSub.refl _) (⟨by omega, rfl⟩) (fun i hI => ?_)
  obtain ⟨hi, ht⟩ := hI
  have hll : rs.length = qs.length := by omega
  refine tS ?_
  refine tS ?_
  refine tR fun _ _ _ => ?_
  iterate 2 refine pV ?_
  refine sV (rLen rfl rfl) ?_
  refine pV ?_
  refine tC rfl (fun h4 => ?_) (fun h4 => ?_)
  ·try simp only [zbA] at h4
   refine tK ?_
   refine tS ?_
   refine tB ?_
   refine tS ?_
   haveI : InB (i : Int).toNat rs.length := ⟨by omega⟩
   haveI : InB (i : Int).toNat qs.length := ⟨by omega⟩
   have hr8 := h8 _ (getD_mem (show (i : Int).toNat < rs.length by omega) rowD)
   refine tr_draw [0, 1, 2, 3, 4, 5, 6, 7, 8, 9] [] mixed (by kernel_rfl) fun _ _ _ => ?_
   iterate 2 refine pV ?_
   refine sV (rIdxR rfl rfl rfl (by omega) (by omega) (by omega)) ?_
   refine sV (rLdR rfl rfl (by omega)) ?_
   iterate 2 refine pV ?_
   refine sV (rIdxR rfl rfl rfl (by omega) (by omega) (by omega)) ?_
   refine sV (rLdR rfl rfl (by omega)) ?_
   refine eV (eCallV rfl rfl rfl (ref_SameInts _ _ _ _ (by first | rfl | simp | omega) _ _ _ _ (by first | rfl | simp | omega) (by omega)) ⟨rfl, rfl, trivial⟩ ?_)
   refine sV (rNotB rfl rfl) ?_
   refine tC rfl (fun h6 => ?_) (fun h6 => ?_)
   ·try simp only [zbA] at h6
    refine tS ?_
    refine tR fun _ _ _ => ?_
    refine pV ?_
    exact tr_ret ⟨trivial, _, _, rfl, ⟨by rw [decide_eq_false (fun h => by have := congrArg (fun l => l.getD i []) h; simp only [xs_getD] at this; simp only [Int.toNat_natCast] at h6; exact h6 this)], rfl⟩, CSub.nil _, trivial⟩
   ·try simp only [zbA] at h6
    refine tK ?_
    refine tR fun _ _ _ => ?_
    refine pV ?_
    refine sV (rAdd rfl rfl rfl (by omega) (by omega)) ?_
    refine pV ?_
    refine ⟨i + 1, ⟨rfl, rfl, rfl, trivial⟩, by first | exact cs _ _ | exact CSub.refl _, ?_⟩
    exact ⟨⟨by omega, take_eq_next [] _ _ (by simpa using hll) (by rw [List.length_map]; omega) ht (by rw [xs_getD, xs_getD]; simpa using h6)⟩, by omega⟩
  ·try simp only [zbA] at h4
   refine tE ?_
   refine tS ?_
   refine tR fun _ _ _ => ?_
   refine pV ?_
   have hia : i = rs.length := by omega
   have h5 : (rs.map (fun r : RowM => r.xs)).length = i := by rw [List.length_map]; omega
   have h7 : (qs.map (fun r : RowM => r.xs)).length = i := by rw [List.length_map]; omega
   rw [List.take_of_length_le (by omega), List.take_of_length_le (by omega)] at ht
   exact tr_ret ⟨trivial, _, _, rfl, ⟨by rw [decide_eq_true ht], rfl⟩, CSub.nil _, trivial⟩
theorem slc_IndexFunc_ent : Enters Tryz.prog 82 := enters_of Tryz.func82 (by kernel_rfl) (by kernel_rfl)
theorem slc_IndexFunc (A : Option Addr) (n c : Nat) (xs : List Int) (hn : n = xs.length) (h9 : xs.length ≤ 1000000000000) (f : FuncId) (lb : List Value) (Gc : List Chunk) (φ : Int → Bool) (hf : ∀ x ∈ xs, Pure Tryz.prog f ([Value.int .i64 x] ++ lb).toArray Gc (isV (.bool (φ x)))) :
  Pure Tryz.prog 82 #[.slice A n c, .func (.func f) #[] lb.toArray] [ro A (ints xs), bun Gc] (val (fun v => ∃ r : Int, v = .int .i64 r ∧ (r ≥ 0 ↔ xs.any φ = true))) := by
 refine pure_of (args := [.slice A n c, .func (.func f) #[] lb.toArray]) 19 Tryz.func82 rfl rfl rfl slc_IndexFunc_ent ⟨id, id, trivial⟩ (fun w0 => ?_)
 refine tS ?_
 refine tR fun _ _ _ => ?_
 refine pV ?_
 refine tS ?_
 refine tS ?_
 refine tR fun _ _ _ => ?_
 refine pV ?_
 refine sV (rLen rfl rfl) ?_
 refine pV ?_
 refine tB ?_
 refine tr_loop1 (fun (i : Nat) => [(0, .slice A n c), (1, .func (.func f) #[] lb.toArray), (7, .int .i64 n), (8, .int .i64 i)]) (fun (i : Nat) => [ro A (ints xs), bun Gc]) (fun (i : Nat) => i ≤ xs.length ∧ ∀ x ∈ xs.take i, φ x = false) (fun (i : Nat) => xs.length - i) (0) ⟨rfl, rfl, rfl, rfl, trivial⟩ (by first | exact cs _ _ | exact CSub.refl _) (⟨by omega, fun x hx => by simp at hx⟩) (fun i hI => ?_)
 obtain ⟨hi, hno⟩ := hI
 refine tS ?_
 refine tR fun _ _ _ => ?_
 refine pV ?_
 refine tS ?_
 refine tC rfl (fun h2 => ?_) (fun h2 => ?_)
 ·try simp only [zbA] at h2
  refine tK ?_
  refine tS ?_
  refine tB ?_
  refine tS ?_
  refine tR fun _ _ _ => ?_
  iterate 2 refine pV ?_
  refine tS ?_
  have hmem : xs.getD (i : Int).toNat 0 ∈ xs := getD_mem (show (i : Int).toNat < xs.length by omega) 0
  refine tR fun _ _ _ => ?_
  iterate 3 refine pV ?_
  refine sV (rIdxI rfl rfl rfl (by omega) (by omega) (by omega)) ?_
  refine sV (rLdI rfl rfl (by omega)) ?_
  refine eV (eCallFV rfl rfl rfl rfl (hf _ hmem) ⟨rfl, trivial⟩ ent_bun ?_)
  refine tC rfl (fun h4 => ?_) (fun h4 => ?_)
  ·try simp only [zbA] at h4
   refine tS ?_
   refine tR fun _ _ _ => ?_
   iterate 2 refine pV ?_
   exact tr_ret ⟨trivial, _, _, rfl, ⟨rfl, _, rfl, ⟨fun _ => List.any_eq_true.2 ⟨_, hmem, h4⟩, fun _ => by omega⟩⟩, CSub.nil _, trivial⟩
  ·try simp only [zbA] at h4
   refine tK ?_
   refine tR fun _ _ _ => ?_
   refine sV (rAdd rfl rfl rfl (by omega) (by omega)) ?_
   refine pV ?_
   refine ⟨i + 1, ⟨rfl, rfl, rfl, rfl, trivial⟩, by first | exact cs _ _ | exact CSub.refl _, ?_⟩
   refine ⟨⟨by omega, fun x hx => ?_⟩, by omega⟩
   rw [List.take_add_one, List.mem_append] at hx
   rcases hx with hx | hx
   ·exact hno x hx
   ·rw [List.getElem?_eq_getElem (by omega)] at hx
    simp only [Option.toList_some, List.mem_singleton] at hx
    rw [hx]
    have : xs.getD (i : Int).toNat 0 = xs[i] := by simp [List.getD_eq_getElem?_getD, show i < xs.length by omega]
    rw [this] at h4
    exact h4
 ·try simp only [zbA] at h2
  refine tE ?_
  refine tS ?_
  refine tR fun _ _ _ => ?_
  refine pV ?_
  have hin : i = xs.length := by omega
  rw [hin, List.take_length] at hno
  exact tr_ret ⟨trivial, _, _, rfl, ⟨rfl, _, rfl, ⟨fun h => absurd h (by decide), fun h => by
   obtain ⟨x, hx, hp⟩ := List.any_eq_true.1 h
   rw [hno x hx] at hp; cases hp⟩⟩, CSub.nil _, trivial⟩
theorem slc_ContainsFunc_ent : Enters Tryz.prog 51 := enters_of Tryz.func51 (by kernel_rfl) (by kernel_rfl)
theorem slc_ContainsFunc (A : Option Addr) (n c : Nat) (xs : List Int) (hn : n = xs.length) (h9 : xs.length ≤ 1000000000000) (f : FuncId) (lb : List Value) (Gc : List Chunk) (φ : Int → Bool) (hf : ∀ x ∈ xs, Pure Tryz.prog f ([Value.int .i64 x] ++ lb).toArray Gc (isV (.bool (φ x)))) :
  Pure Tryz.prog 51 #[.slice A n c, .func (.func f) #[] lb.toArray] [ro A (ints xs), bun Gc] (isV (.bool (xs.any φ))) := by
 refine pure_of (args := [.slice A n c, .func (.func f) #[] lb.toArray]) 9 Tryz.func51 rfl rfl rfl slc_ContainsFunc_ent ⟨id, id, trivial⟩ (fun w0 => ?_)
 refine tS ?_
 refine tR fun _ _ _ => ?_
 refine pV ?_
 refine tS ?_
 refine tR fun _ _ _ => ?_
 iterate 2 refine pV ?_
 refine eV (eCall0 rfl rfl rfl (slc_IndexFunc A n c xs hn h9 f lb Gc φ hf) ⟨rfl, rfl, trivial⟩ ?_)
 rintro _ ⟨r, rfl, hr⟩
 iterate 2 refine pV ?_
 exact tr_ret ⟨trivial, _, _, rfl, ⟨by cases hx : xs.any φ <;> simp [hx] at hr ⊢ <;> omega, rfl⟩, CSub.nil _, trivial⟩
end Go.Proofs.YtdkahdehodopoaaGreat

set_option maxRecDepth 100000
namespace Go.Proofs.YtdkahdehodopoaaGreat
open Go.RowKit
end Go.Proofs.YtdkahdehodopoaaGreat

namespace Go.Proofs.YtdkahdehodopoaaGreat
end Go.Proofs.YtdkahdehodopoaaGreat

set_option maxRecDepth 100000
namespace Go.Proofs.YtdkahdehodopoaaGreat
open Go.RowKit
end Go.Proofs.YtdkahdehodopoaaGreat

namespace Go.Proofs.YtdkahdehodopoaaGreat
namespace Rg
section
variable {R : Type} [Rg R]
def nc : Nat → R
 | 0 => 0
 | 1 => 1
 | n + 2 => nc (n + 1) + 1
theorem nc_succ : ∀ n : Nat, (nc (n + 1) : R) = nc n + 1
 | 0 => (Rg.zero_add (1 : R)).symm
 | _ + 1 => rfl
def ic : Int → R
 | .ofNat n => nc n
 | .negSucc n => -(nc (n + 1))
@[reducible] def grindOf (n : Nat) : OfNat R n := match n with
 | 0 => Zero.toOfNat0
 | 1 => One.toOfNat1
 | n + 2 => ⟨nc (n + 2)⟩
theorem of_nc : ∀ n : Nat, (@OfNat.ofNat R n (grindOf n)) = nc n
 | 0 => rfl
 | 1 => rfl
 | _ + 2 => rfl
instance (priority := low) grindSemi : Lean.Grind.Semiring R where
 natCast := ⟨nc⟩
 ofNat := grindOf
 nsmul := ⟨fun n a => nc n * a⟩
 npow := ⟨fun a n => Rg.pow a n⟩
 add_zero := Rg.add_zero
 add_comm := Rg.add_comm
 add_assoc := Rg.add_assoc
 mul_assoc := Rg.mul_assoc
 mul_one := Rg.mul_one
 one_mul := Rg.one_mul
 left_distrib := Rg.mul_add
 right_distrib := Rg.add_mul
 zero_mul := Rg.zero_mul
 mul_zero := Rg.mul_zero
 pow_zero := fun _ => rfl
 pow_succ := fun _ _ => rfl
 ofNat_succ := fun n => by rw [of_nc, of_nc]; exact nc_succ n
 ofNat_eq_natCast := fun n => of_nc n
 nsmul_eq_natCast_mul := fun _ _ => rfl
theorem ic_neg : ∀ i : Int, (ic (-i) : R) = -ic i
 | .ofNat 0 => (Rg.neg_zero (R := R)).symm
 | .ofNat (_ + 1) => rfl
 | .negSucc n => (Rg.neg_neg (nc (n + 1) : R)).symm
instance (priority := low) grindRing : Lean.Grind.CommRing R where
 intCast := ⟨ic⟩
 zsmul := ⟨fun i a => ic i * a⟩
 neg_add_cancel := Rg.neg_add
 sub_eq_add_neg := fun _ _ => rfl
 neg_zsmul := fun i a => by show ic (-i) * a = -(ic i * a); rw [ic_neg, Rg.neg_mul]
 zsmul_natCast_eq_nsmul := fun _ _ => rfl
 intCast_ofNat := fun n => (of_nc n).symm
 intCast_neg := ic_neg
 mul_comm := Rg.mul_comm
end
end Rg
end Go.Proofs.YtdkahdehodopoaaGreat

namespace Go.Proofs.YtdkahdehodopoaaGreat
section
variable {p m : Int} {mod : List Int} [hF : IsF p m mod]
theorem cf_set (l : List Int) {k : Nat} (v : Int) (hk : k < l.length) (j : Nat) : (el ((l.set k v).getD j 0) : El p m mod) = if j = k then el v else el (l.getD j 0) := by
 rw [getD_set]
 by_cases h : k = j
 ·subst h; rw [if_pos ⟨rfl, hk⟩, if_pos rfl]
 ·rw [if_neg (by omega), if_neg (by omega)]
theorem pol_set (l : List Int) {k : Nat} (v : Int) (hk : k < l.length) : (pol (l.set k v) : Po (El p m mod)) = pol l + Po.mn (el v - el (l.getD k 0)) k := Po.ext fun j => by
 rw [Po.cf_add, cf_pol, cf_pol, Po.cf_mn, cf_set l v hk]
 by_cases h : j = k
 ·subst h; rw [if_pos rfl, if_pos rfl]; grind
 ·rw [if_neg h, if_neg h]; grind
theorem pol_set_add (l : List Int) {k : Nat} {v : Int} {d : El p m mod} (hk : k < l.length) (h : (el v : El p m mod) = el (l.getD k 0) + d) : (pol (l.set k v) : Po (El p m mod)) = pol l + Po.mn d k := by
 rw [pol_set l v hk, h]
 congr 2
 grind
theorem getD_take (l : List Int) (k j : Nat) : (l.take k).getD j 0 = if j < k then l.getD j 0 else 0 := by
 rw [List.getD_eq_getElem?_getD, List.getElem?_take]
 split
 ·rw [List.getD_eq_getElem?_getD]
 ·rfl
theorem pol_take_zero (l : List Int) : (pol (l.take 0) : Po (El p m mod)) = 0 := by rw [List.take_zero]; exact pol_nil
theorem pol_take_succ (l : List Int) (k : Nat) : (pol (l.take (k + 1)) : Po (El p m mod)) = pol (l.take k) + Po.mn (el (l.getD k 0)) k := Po.ext fun j => by
 rw [Po.cf_add, cf_pol, cf_pol, Po.cf_mn, getD_take, getD_take]
 by_cases h : j = k
 ·subst h
  rw [if_pos (by omega), if_neg (by omega), if_pos rfl, el_zero]
  grind
 ·by_cases h2 : j < k
  ·rw [if_pos (by omega), if_pos h2, if_neg h]; grind
  ·rw [if_neg (by omega), if_neg h2, if_neg h]; grind
theorem pol_rep (n : Nat) : (pol (List.replicate n 0) : Po (El p m mod)) = 0 := Po.ext fun j => by
 rw [cf_pol, show (List.replicate n (0 : Int)).getD j 0 = 0 by rw [List.getD_eq_getElem?_getD, List.getElem?_replicate]; split <;> rfl, el_zero]
 rfl
theorem il_map {f : Po (El p m mod)} {c : El p m mod} (hc : c ≠ 0) : (il f).map (fun y => (c * el y : El p m mod).1) = il (Po.C c * f) := ext_getD (by rw [List.length_map, il_length, il_length, Po.len_C_mul hc]) fun j => by
 rw [il_getD, Po.cf_C_mul, List.getD_eq_getElem?_getD, List.getElem?_map]
 by_cases hj : j < (il f).length
 ·rw [List.getElem?_eq_getElem hj]
  have h1 := il_getD f j
  rw [List.getD_eq_getElem?_getD, List.getElem?_eq_getElem hj, Option.getD_some] at h1
  rw [Option.map_some, Option.getD_some, h1, el_of]
 ·rw [List.getElem?_eq_none (by omega), Option.map_none, Option.getD_none]
  rw [il_length] at hj
  rw [Po.cf_ge (by omega), Rg.mul_zero]
  rfl
end
end Go.Proofs.YtdkahdehodopoaaGreat

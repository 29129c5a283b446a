/-
  FIELDS. One sentence: the product of two residues, the powers of an element, the first generator, and the table of a field.
  Conditions: each theorem's own, written out in it.
-/
import Derived.Test.YtancpcmiimcdhaaFld1
import Derived.Test.YtancpcmiimcdhaaSymI
import Derived.Test.YtancpcmiimcdhaaDig
import Derived.Test.YtancpcmiimcdhaaBest
set_option linter.unusedSimpArgs false
set_option linter.unusedVariables false
namespace Go.Proofs.Ytancpcmiimcdhaa
open Go.RowKit

theorem fld_mul_ent : Enters Try.prog 58 := enters_of Try.func58 (by kernel_rfl) (by kernel_rfl)
theorem fld_mul (p m : Int) (A : Option Addr) (c : Nat) (mod : List Int) (hs : Shp p m mod) (x y : Int) (hx : 0 ≤ x) (hx9 : x ≤ 256) (hy : 0 ≤ y) (hy9 : y ≤ 256) :
    Pure Try.prog 58 #[.agg #[.int .i64 p, .int .i64 m, .slice A mod.length c], .int .i64 x, .int .i64 y] [ro A (ints mod)] (isV (.int .i64 (mulI p m mod x y))) := by
  have hnn : ((m.toNat : Nat) : Int) = m := by have := hs.m1; omega
  have hp2 := hs.p2
  have hp9 := hs.p9
  have hm1 := hs.m1
  have hm8 := hs.m8
  have hqq := hs.q
  have hlow := hs.low
  have hdx := digs_length p m.toNat x
  have hdy := digs_length p m.toNat y
  have hdxi := digs_in (p := p) (by omega) m.toNat x
  have hdyi := digs_in (p := p) (by omega) m.toNat y
  have hmi := hs.ent
  refine pure_of (args := [.agg #[.int .i64 p, .int .i64 m, .slice A mod.length c], .int .i64 x, .int .i64 y]) 97 Try.func58 rfl rfl rfl fld_mul_ent ⟨id, trivial⟩ (fun w0 => ?_)
  refine tr_seq ?_
  refine tr_region fun _ _ _ => ?_
  refine ef rfl rfl (eBox rfl rfl rfl rfl rfl (fun p0 => ?_)) 
  refine pu rfl rfl rfl rfl rfl ?_
  refine tr_seq ?_
  refine tr_draw [0, 1, 2, 3, 4, 6, 7, 8, 9, 10, 5, 11, 12, 13] [] mixed (by kernel_rfl) fun _ _ _ => ?_
  refine pu rfl rfl rfl rfl rfl ?_
  refine st rfl rfl rfl rfl (rFld rfl rfl) ?_
  refine st rfl rfl rfl rfl (rLdF rfl rfl rfl) ?_
  refine st rfl rfl rfl rfl (rFld rfl rfl) ?_
  refine st rfl rfl rfl rfl (rLdF rfl rfl rfl) ?_
  refine pu rfl rfl rfl rfl rfl ?_
  refine st rfl rfl rfl rfl (rFld rfl rfl) ?_
  refine st rfl rfl rfl rfl (rLdF rfl rfl rfl) ?_
  refine st rfl rfl rfl rfl (rFld rfl rfl) ?_
  refine st rfl rfl rfl rfl (rLdF rfl rfl rfl) ?_
  refine ef rfl rfl (eCall1 rfl rfl rfl (fld_digits _ (by omega) (by omega) _ (by omega) (by omega) _ (by omega) (by omega)) ⟨rfl, rfl, rfl, trivial⟩ ?_) 
  rintro _ _ ⟨B1, rfl, rfl⟩
  refine ef rfl rfl (eCall1 rfl rfl rfl (fld_digits _ (by omega) (by omega) _ (by omega) (by omega) _ (by omega) (by omega)) ⟨rfl, rfl, rfl, trivial⟩ ?_) 
  rintro _ _ ⟨B1a, rfl, rfl⟩
  iterate 2 refine pu rfl rfl rfl rfl rfl ?_
  refine tr_seq ?_
  refine tr_region fun _ _ _ => ?_
  refine st rfl rfl rfl rfl (rFld rfl rfl) ?_
  refine st rfl rfl rfl rfl (rLdF rfl rfl rfl) ?_
  refine ef rfl rfl (eMakeI rfl rfl rfl rfl rfl (by omega) (by omega) (by omega) (fun A2 => ?_)) 
  refine pu rfl rfl rfl rfl rfl ?_
  refine tr_seq ?_
  refine tr_seq ?_
  refine tr_region fun _ _ _ => ?_
  refine st rfl rfl rfl rfl (rFld rfl rfl) ?_
  refine st rfl rfl rfl rfl (rLdF rfl rfl rfl) ?_
  refine st rfl rfl rfl rfl (rSub rfl rfl rfl (by omega) (by omega)) ?_
  refine pu rfl rfl rfl rfl rfl ?_
  refine tr_block ?_
  refine tr_loop2 (fun (i : Int) (o : List Int) => [(3, .pointer (some p0)), (7, .slice B1 m.toNat m.toNat), (8, .slice B1a m.toNat m.toNat), (9, .slice A2 m.toNat m.toNat), (10, .int .i64 i)]) (fun (i : Int) (o : List Int) => [ow A2 3 m.toNat (ints o), ow B1a 3 m.toNat (ints (digs p m.toNat y)), ow B1 3 m.toNat (ints (digs p m.toNat x)), blk p0 36 [.int .i64 p, .int .i64 m, .slice A mod.length c], ro A (ints mod)]) (fun (i : Int) (o : List Int) => -1 ≤ i ∧ i < m ∧ o = hmulL p mod (digs p m.toNat x) m.toNat ((digs p m.toNat y).drop (i + 1).toNat)) (fun (i : Int) (o : List Int) => (i + 1).toNat) (m - 1) (List.replicate m.toNat 0) ⟨rfl, rfl, rfl, rfl, rfl, trivial⟩ (by first | exact cs _ _ | exact CSub.refl _) (⟨by omega, by omega, by rw [List.drop_of_length_le (by omega)]; rfl⟩) (fun i o hI => ?_)
  obtain ⟨hi0, hi1, ho⟩ := hI
  have hol : o.length = m.toNat := by rw [ho, hmulL_length]
  have hoi : AllIn p o := by rw [ho]; exact hmulL_in (by omega) _ _ _ _
  refine tr_seq ?_
  refine tr_seq ?_
  refine tr_region fun _ _ _ => ?_
  iterate 2 refine pu rfl rfl rfl rfl rfl ?_
  refine tr_cond_bool rfl (fun h4 => ?_) (fun h4 => ?_)
  · try simp only [zb1, zb2, zb3, zb4, zb5, zb6, zb7, zb8, zb9, zb10] at h4
    refine tr_skip ?_
    refine tr_seq ?_
    refine tr_block ?_
    refine tr_seq ?_
    refine tr_region fun _ _ _ => ?_
    refine pu rfl rfl rfl rfl rfl ?_
    refine st rfl rfl rfl rfl (rFld rfl rfl) ?_
    refine st rfl rfl rfl rfl (rLdF rfl rfl rfl) ?_
    refine st rfl rfl rfl rfl (rSub rfl rfl rfl (by omega) (by omega)) ?_
    refine st rfl rfl rfl rfl (rIdxI rfl rfl rfl (by omega) (by omega) (by omega)) ?_
    refine st rfl rfl rfl rfl (rLdI rfl rfl (by omega)) ?_
    refine pu rfl rfl rfl rfl rfl ?_
    refine tr_seq ?_
    refine tr_draw [0, 1, 2, 3, 4, 5, 6] [7] mixed (by kernel_rfl) fun _ _ _ => ?_
    refine pu rfl rfl rfl rfl rfl ?_
    refine st rfl rfl rfl rfl (rCut rfl rfl rfl (by omega) (by omega) (by omega)) ?_
    refine pu rfl rfl rfl rfl rfl ?_
    refine st rfl rfl rfl rfl (rFld rfl rfl) ?_
    refine st rfl rfl rfl rfl (rLdF rfl rfl rfl) ?_
    refine st rfl rfl rfl rfl (rSub rfl rfl rfl (by omega) (by omega)) ?_
    refine st rfl rfl rfl rfl (rCutHi rfl rfl rfl (by omega) (by omega)) ?_
    refine ef rfl rfl (eCopyI rfl rfl rfl rfl rfl rfl (by first | omega | (simp; omega)) (by first | omega | (simp; omega)) ?_) 
    have h1n : ((1 : Int)).toNat = 1 := rfl
    have hcp : o.take ((1 : Int)).toNat ++ o.take (min (m - 1).toNat (m.toNat - ((1 : Int)).toNat)) ++ o.drop (((1 : Int)).toNat + min (m - 1).toNat (m.toNat - ((1 : Int)).toNat)) = o.take 1 ++ o.take (m.toNat - 1) := by
      rw [h1n, show min (m - 1).toNat (m.toNat - 1) = m.toNat - 1 by omega, List.drop_of_length_le (by omega), List.append_nil]
    have hcl : (o.take 1 ++ o.take (m.toNat - 1)).length = m.toNat := by simp; omega
    have hcopy : ∀ k : Nat, k < m.toNat → ((o.take 1 ++ o.take (m.toNat - 1)).set 0 0).getD k 0 = hprev o k := fun k hk => by
      rw [getD_set]
      unfold hprev
      by_cases hk0 : k = 0
      · subst hk0; rw [if_pos ⟨rfl, by omega⟩, if_pos rfl]
      · rw [if_neg (by omega), if_neg hk0, List.getD_eq_getElem?_getD, List.getElem?_append_right (by simp; omega), List.getElem?_take, if_pos (by simp; omega), List.getD_eq_getElem?_getD]
        simp
        rw [show k - min 1 o.length = k - 1 by omega]
    rw [hcp]
    refine tr_seq ?_
    refine tr_region fun _ _ _ => ?_
    refine pu rfl rfl rfl rfl rfl ?_
    refine st rfl rfl rfl rfl (rIdxI rfl rfl rfl (by omega) (by omega) (by omega)) ?_
    refine ef rfl rfl (eStI rfl rfl rfl rfl (by omega) ?_) 
    refine tr_seq ?_
    refine tr_region fun _ _ _ => ?_
    refine pu rfl rfl rfl rfl rfl ?_
    refine st rfl rfl rfl rfl (rLen rfl rfl) ?_
    rw [hnn]
    refine pu rfl rfl rfl rfl rfl ?_
    refine tr_block ?_
    refine tr_loop2 (fun (j : Int) (l : List Int) => [(3, .pointer (some p0)), (7, .slice B1 m.toNat m.toNat), (8, .slice B1a m.toNat m.toNat), (9, .slice A2 m.toNat m.toNat), (10, .int .i64 i), (11, .int .i64 (o.getD (m - 1).toNat 0)), (53, .int .i64 m), (54, .int .i64 j)]) (fun (j : Int) (l : List Int) => [ow A2 3 m.toNat (ints l), ow B1a 3 m.toNat (ints (digs p m.toNat y)), ow B1 3 m.toNat (ints (digs p m.toNat x)), blk p0 36 [.int .i64 p, .int .i64 m, .slice A mod.length c], ro A (ints mod)]) (fun (j : Int) (l : List Int) => 0 ≤ j ∧ j ≤ m ∧ l.length = m.toNat ∧ (∀ k : Nat, (k : Int) < j → k < m.toNat → l.getD k 0 = hent p mod (digs p m.toNat x) o ((digs p m.toNat y).getD i.toNat 0) k) ∧ ∀ k : Nat, j ≤ k → k < m.toNat → l.getD k 0 = hprev o k) (fun (j : Int) (l : List Int) => (m - j).toNat) (0) ((o.take 1 ++ o.take (m.toNat - 1)).set 0 0) ⟨rfl, rfl, rfl, rfl, rfl, rfl, rfl, rfl, trivial⟩ (by first | exact cs _ _ | exact CSub.refl _) (⟨by omega, by omega, by simp; omega, fun k k0 k1 => by omega, fun k k0 k1 => hcopy k k1⟩) (fun j l hI => ?_)
    obtain ⟨hj0, hj1, hl, hdone, htodo⟩ := hI
    have htop := hoi.get (by omega) (m - 1).toNat
    have hg1 := hmi.get (by omega) j.toNat
    have hg2 := hdxi.get (by omega) j.toNat
    have hg3 := hdyi.get (by omega) i.toNat
    have hmb1 := mul_bd0 (p - o.getD (m - 1).toNat 0) (mod.getD j.toNat 0) 256 256 (by omega) (by omega) (by omega) (by omega)
    have hmb2 := mul_bd0 ((digs p m.toNat y).getD i.toNat 0) ((digs p m.toNat x).getD j.toNat 0) 256 256 (by omega) (by omega) (by omega) (by omega)
    have hg4 : j < m → l.getD j.toNat 0 = hprev o j.toNat := fun h => htodo j.toNat (by omega) (by omega)
    have hg5 : 0 ≤ hprev o j.toNat ∧ hprev o j.toNat < p := by
      unfold hprev; split
      · omega
      · exact hoi.get (by omega) _
    have hent0 : hent p mod (digs p m.toNat x) o ((digs p m.toNat y).getD i.toNat 0) j.toNat = (hprev o j.toNat + (p - o.getD (m - 1).toNat 0) * mod.getD j.toNat 0 + (digs p m.toNat y).getD i.toNat 0 * (digs p m.toNat x).getD j.toNat 0) % p := by
      unfold hent; rw [hol, show m.toNat - 1 = (m - 1).toNat by omega]
    have hm10 : m = 1 → mod.getD j.toNat 0 = 0 := fun h => by
      rcases hlow with h1 | h1
      · rw [h1.2]; rfl
      · omega
    refine tr_seq ?_
    refine tr_region fun _ _ _ => ?_
    refine pu rfl rfl rfl rfl rfl ?_
    refine tr_seq ?_
    refine tr_cond_bool rfl (fun h10 => ?_) (fun h10 => ?_)
    · try simp only [zb1, zb2, zb3, zb4, zb5, zb6, zb7, zb8, zb9, zb10] at h10
      refine tr_skip ?_
      refine tr_seq ?_
      refine tr_block ?_
      refine tr_seq ?_
      refine tr_region fun _ _ _ => ?_
      iterate 2 refine pu rfl rfl rfl rfl rfl ?_
      refine tr_seq ?_
      refine tr_region fun _ _ _ => ?_
      refine pu rfl rfl rfl rfl rfl ?_
      refine tr_seq ?_
      refine tr_seq ?_
      refine tr_region fun _ _ _ => ?_
      refine st rfl rfl rfl rfl (rFld rfl rfl) ?_
      refine st rfl rfl rfl rfl (rLdF rfl rfl rfl) ?_
      refine pu rfl rfl rfl rfl rfl ?_
      refine tr_cond_bool rfl (fun h13 => ?_) (fun h13 => ?_)
      · try simp only [zb1, zb2, zb3, zb4, zb5, zb6, zb7, zb8, zb9, zb10] at h13
        refine tr_region fun _ _ _ => ?_
        refine st rfl rfl rfl rfl (rFld rfl rfl) ?_
        refine st rfl rfl rfl rfl (rLdF rfl rfl rfl) ?_
        refine pu rfl rfl rfl rfl rfl ?_
        refine st rfl rfl rfl rfl (rIdxI rfl rfl rfl (by omega) (by omega) (by omega)) ?_
        refine st rfl rfl rfl rfl (rLdI rfl rfl (by omega)) ?_
        refine pu rfl rfl rfl rfl rfl ?_
        refine tr_draw [0, 1, 2, 3, 4, 5, 6, 7, 8, 9, 10, 11, 12, 13, 14, 15, 16, 17, 18, 19, 20, 21, 22, 23, 24, 25, 26] [27] mixed (by kernel_rfl) fun _ _ _ => ?_
        iterate 4 refine pu rfl rfl rfl rfl rfl ?_
        refine st rfl rfl rfl rfl (rIdxI rfl rfl rfl (by omega) (by omega) (by omega)) ?_
        refine st rfl rfl rfl rfl (rLdI rfl rfl (by omega)) ?_
        refine st rfl rfl rfl rfl (rFld rfl rfl) ?_
        refine st rfl rfl rfl rfl (rLdF rfl rfl rfl) ?_
        refine pu rfl rfl rfl rfl rfl ?_
        refine st rfl rfl rfl rfl (rSub rfl rfl rfl (by omega) (by omega)) ?_
        refine pu rfl rfl rfl rfl rfl ?_
        refine st rfl rfl rfl rfl (rMul rfl rfl rfl (by omega) (by omega)) ?_
        refine st rfl rfl rfl rfl (rAdd rfl rfl rfl (by omega) (by omega)) ?_
        iterate 2 refine pu rfl rfl rfl rfl rfl ?_
        refine st rfl rfl rfl rfl (rIdxI rfl rfl rfl (by omega) (by omega) (by omega)) ?_
        refine st rfl rfl rfl rfl (rLdI rfl rfl (by omega)) ?_
        iterate 2 refine pu rfl rfl rfl rfl rfl ?_
        refine st rfl rfl rfl rfl (rIdxI rfl rfl rfl (by omega) (by omega) (by omega)) ?_
        refine st rfl rfl rfl rfl (rLdI rfl rfl (by omega)) ?_
        refine st rfl rfl rfl rfl (rMul rfl rfl rfl (by omega) (by omega)) ?_
        refine st rfl rfl rfl rfl (rAdd rfl rfl rfl (by omega) (by omega)) ?_
        refine st rfl rfl rfl rfl (rFld rfl rfl) ?_
        refine st rfl rfl rfl rfl (rLdF rfl rfl rfl) ?_
        refine st rfl rfl rfl rfl (rRem rfl rfl rfl (by omega) (by omega)) ?_
        refine st rfl rfl rfl rfl (rIdxI rfl rfl rfl (by omega) (by omega) (by omega)) ?_
        refine ef rfl rfl (eStI rfl rfl rfl rfl (by omega) ?_) 
        refine tr_region fun _ _ _ => ?_
        refine st rfl rfl rfl rfl (rAdd rfl rfl rfl (by omega) (by omega)) ?_
        refine pu rfl rfl rfl rfl rfl ?_
        refine ⟨j + 1, l.set j.toNat ((l.getD j.toNat 0 + (p - o.getD (m - 1).toNat 0) * mod.getD j.toNat 0 + (digs p m.toNat y).getD i.toNat 0 * (digs p m.toNat x).getD j.toNat 0) % p), ⟨rfl, rfl, rfl, rfl, rfl, rfl, rfl, rfl, trivial⟩, by first | exact cs _ _ | exact CSub.refl _, ?_⟩
        have hval : (l.getD j.toNat 0 + (p - o.getD (m - 1).toNat 0) * mod.getD j.toNat 0 + (digs p m.toNat y).getD i.toNat 0 * (digs p m.toNat x).getD j.toNat 0) % p = hent p mod (digs p m.toNat x) o ((digs p m.toNat y).getD i.toNat 0) j.toNat := by rw [hent0, hg4 h10]
        rw [hval]
        exact ⟨⟨by omega, by omega, by simpa using hl, fun k k0 k1 => by
          rw [getD_set]
          by_cases hkj : j.toNat = k
          · subst hkj; rw [if_pos ⟨rfl, by omega⟩]
          · rw [if_neg (by omega)]; exact hdone k (by omega) k1, fun k k0 k1 => by
          rw [getD_set, if_neg (by omega)]; exact htodo k (by omega) k1⟩, by omega⟩
      · try simp only [zb1, zb2, zb3, zb4, zb5, zb6, zb7, zb8, zb9, zb10] at h13
        refine tr_skip ?_
        refine tr_draw [0, 1, 2, 3, 4, 5, 6, 7, 8, 9, 10, 11, 12, 13, 14, 15, 16, 17, 18, 19, 20, 21, 22, 23, 24, 25, 26] [27] mixed (by kernel_rfl) fun _ _ _ => ?_
        iterate 4 refine pu rfl rfl rfl rfl rfl ?_
        refine st rfl rfl rfl rfl (rIdxI rfl rfl rfl (by omega) (by omega) (by omega)) ?_
        refine st rfl rfl rfl rfl (rLdI rfl rfl (by omega)) ?_
        refine st rfl rfl rfl rfl (rFld rfl rfl) ?_
        refine st rfl rfl rfl rfl (rLdF rfl rfl rfl) ?_
        refine pu rfl rfl rfl rfl rfl ?_
        refine st rfl rfl rfl rfl (rSub rfl rfl rfl (by omega) (by omega)) ?_
        refine pu rfl rfl rfl rfl rfl ?_
        refine st rfl rfl rfl rfl (rMul rfl rfl rfl (by omega) (by omega)) ?_
        refine st rfl rfl rfl rfl (rAdd rfl rfl rfl (by omega) (by omega)) ?_
        iterate 2 refine pu rfl rfl rfl rfl rfl ?_
        refine st rfl rfl rfl rfl (rIdxI rfl rfl rfl (by omega) (by omega) (by omega)) ?_
        refine st rfl rfl rfl rfl (rLdI rfl rfl (by omega)) ?_
        iterate 2 refine pu rfl rfl rfl rfl rfl ?_
        refine st rfl rfl rfl rfl (rIdxI rfl rfl rfl (by omega) (by omega) (by omega)) ?_
        refine st rfl rfl rfl rfl (rLdI rfl rfl (by omega)) ?_
        refine st rfl rfl rfl rfl (rMul rfl rfl rfl (by omega) (by omega)) ?_
        refine st rfl rfl rfl rfl (rAdd rfl rfl rfl (by omega) (by omega)) ?_
        refine st rfl rfl rfl rfl (rFld rfl rfl) ?_
        refine st rfl rfl rfl rfl (rLdF rfl rfl rfl) ?_
        refine st rfl rfl rfl rfl (rRem rfl rfl rfl (by omega) (by omega)) ?_
        refine st rfl rfl rfl rfl (rIdxI rfl rfl rfl (by omega) (by omega) (by omega)) ?_
        refine ef rfl rfl (eStI rfl rfl rfl rfl (by omega) ?_) 
        refine tr_region fun _ _ _ => ?_
        refine st rfl rfl rfl rfl (rAdd rfl rfl rfl (by omega) (by omega)) ?_
        refine pu rfl rfl rfl rfl rfl ?_
        refine ⟨j + 1, l.set j.toNat ((l.getD j.toNat 0 + (p - o.getD (m - 1).toNat 0) * 0 + (digs p m.toNat y).getD i.toNat 0 * (digs p m.toNat x).getD j.toNat 0) % p), ⟨rfl, rfl, rfl, rfl, rfl, rfl, rfl, rfl, trivial⟩, by first | exact cs _ _ | exact CSub.refl _, ?_⟩
        have hval : (l.getD j.toNat 0 + (p - o.getD (m - 1).toNat 0) * 0 + (digs p m.toNat y).getD i.toNat 0 * (digs p m.toNat x).getD j.toNat 0) % p = hent p mod (digs p m.toNat x) o ((digs p m.toNat y).getD i.toNat 0) j.toNat := by rw [hent0, hg4 h10, hm10 (by omega)]
        rw [hval]
        exact ⟨⟨by omega, by omega, by simpa using hl, fun k k0 k1 => by
          rw [getD_set]
          by_cases hkj : j.toNat = k
          · subst hkj; rw [if_pos ⟨rfl, by omega⟩]
          · rw [if_neg (by omega)]; exact hdone k (by omega) k1, fun k k0 k1 => by
          rw [getD_set, if_neg (by omega)]; exact htodo k (by omega) k1⟩, by omega⟩
    · try simp only [zb1, zb2, zb3, zb4, zb5, zb6, zb7, zb8, zb9, zb10] at h10
      refine tr_exit ?_
      refine tr_region fun _ _ _ => ?_
      refine pu rfl rfl rfl rfl rfl ?_
      refine st rfl rfl rfl rfl (rSub rfl rfl rfl (by omega) (by omega)) ?_
      refine pu rfl rfl rfl rfl rfl ?_
      refine ⟨i - 1, l, ⟨rfl, rfl, rfl, rfl, rfl, trivial⟩, by first | exact cs _ _ | exact CSub.refl _, ?_⟩
      refine ⟨⟨by omega, by omega, ?_⟩, by omega⟩
      rw [show (i - 1 + 1).toNat = i.toNat by omega, drop_getD (show i.toNat < (digs p m.toNat y).length by omega), hmulL, show i.toNat + 1 = (i + 1).toNat by omega, ← ho]
      exact hstep_of (by omega) (fun k hk => hdone k (by omega) (by omega))
  · try simp only [zb1, zb2, zb3, zb4, zb5, zb6, zb7, zb8, zb9, zb10] at h4
    refine tr_exit ?_
    refine tr_seq ?_
    have him : i = -1 := by omega
    have hpm : p ^ o.length ≤ 256 := by rw [hol]; exact hqq
    refine tr_region fun _ _ _ => ?_
    refine pu rfl rfl rfl rfl rfl ?_
    refine st rfl rfl rfl rfl (rFld rfl rfl) ?_
    refine st rfl rfl rfl rfl (rLdF rfl rfl rfl) ?_
    refine ef rfl rfl (eCallV rfl rfl rfl (fld_value _ _ _ o _ (by omega) (by omega) (by omega) (by omega) hoi (by omega)) ⟨rfl, rfl, trivial⟩ ?_) 
    refine pu rfl rfl rfl rfl rfl ?_
    have him : i = -1 := by omega
    subst him
    exact tr_ret ⟨trivial, _, _, rfl, ⟨by
      rw [mulI, ho]; rfl, rfl⟩, CSub.nil _, trivial⟩

theorem fld_powers_ent : Enters Try.prog 57 := enters_of Try.func57 (by kernel_rfl) (by kernel_rfl)
theorem fld_powers (p m : Int) (A : Option Addr) (c : Nat) (mod : List Int) (hs : Shp p m mod) (q : Int) (hq : q = pw p m) (x : Int) (hx : 1 ≤ x) (hx9 : x < q) :
    Pure Try.prog 57 #[.agg #[.int .i64 p, .int .i64 m, .slice A mod.length c], .int .i64 q, .int .i64 x] [ro A (ints mod)] (one (fun v ch => ∃ B l cap, v = .slice B l.length cap ∧ PowOk p m mod x l ∧ ch = ow B 3 cap (ints l))) := by
  have hp2 := hs.p2
  have hp9 := hs.p9
  have hm1 := hs.m1
  have hm8 := hs.m8
  have hqq := hs.q
  have hq2 : 2 ≤ pw p m := by
    have h1 := pw_mono (p := p) (by omega) (a := 1) (b := m) (by omega) hm1
    have h2 := pw_succ p (k := 0) (by omega)
    rw [pw_zero, Int.zero_add, Int.one_mul] at h2
    omega
  have hrl : (List.replicate q.toNat false).length = q.toNat := by simp
  refine pure_of (args := [.agg #[.int .i64 p, .int .i64 m, .slice A mod.length c], .int .i64 q, .int .i64 x]) 37 Try.func57 rfl rfl rfl fld_powers_ent ⟨id, trivial⟩ (fun w0 => ?_)
  refine tr_seq ?_
  refine tr_region fun _ _ _ => ?_
  refine ef rfl rfl (eBox rfl rfl rfl rfl rfl (fun p0 => ?_)) 
  refine pu rfl rfl rfl rfl rfl ?_
  refine tr_seq ?_
  refine tr_region fun _ _ _ => ?_
  refine ef rfl rfl (eLit1I rfl rfl rfl rfl (fun A1 => ?_)) 
  refine pu rfl rfl rfl rfl rfl ?_
  refine tr_seq ?_
  refine tr_region fun _ _ _ => ?_
  refine pu rfl rfl rfl rfl rfl ?_
  refine ef rfl rfl (eMakeB rfl rfl rfl rfl rfl (by omega) (by omega) (by omega) (fun A2 => ?_)) 
  refine pu rfl rfl rfl rfl rfl ?_
  refine tr_seq ?_
  refine tr_region fun _ _ _ => ?_
  refine pu rfl rfl rfl rfl rfl ?_
  refine st rfl rfl rfl rfl (rIdxB rfl rfl rfl (by omega) (by omega) (by omega)) ?_
  refine ef rfl rfl (eStB rfl rfl rfl rfl (by omega) ?_) 
  refine tr_seq ?_
  refine tr_seq ?_
  refine tr_region fun _ _ _ => ?_
  iterate 2 refine pu rfl rfl rfl rfl rfl ?_
  refine tr_block ?_
  refine tr_loop5 (fun (y : Int) (l : List Int) (sn : List Bool) (B : Option Addr) (cap : Nat) => [(1, .int .i64 q), (2, .int .i64 x), (3, .pointer (some p0)), (7, .slice B l.length cap), (8, .slice A2 q.toNat q.toNat), (9, .int .i64 y)]) (fun (y : Int) (l : List Int) (sn : List Bool) (B : Option Addr) (cap : Nat) => [ow B 3 cap (ints l), ow A2 4 q.toNat (bools sn), blk p0 36 [.int .i64 p, .int .i64 m, .slice A mod.length c], ro A (ints mod)]) (fun (y : Int) (l : List Int) (sn : List Bool) (B : Option Addr) (cap : Nat) => (0 ≤ y ∧ y < q) ∧ (1 ≤ l.length ∧ (l.length : Int) ≤ q - 1) ∧ (∀ i, i < l.length → l.getD i 0 = pwI p m mod x i) ∧ (∀ z ∈ l, 0 < z ∧ z < pw p m) ∧ l.Nodup ∧ y = pwI p m mod x l.length ∧ sn.length = q.toNat ∧ ∀ z, 0 ≤ z → z < q → (sn.getD z.toNat false = true ↔ z ∈ l)) (fun (y : Int) (l : List Int) (sn : List Bool) (B : Option Addr) (cap : Nat) => (q - l.length).toNat) (x) ([1]) ((List.replicate q.toNat false).set ((1 : Int)).toNat true) (A1) (1) ⟨rfl, rfl, rfl, rfl, rfl, rfl, trivial⟩ (by first | exact cs _ _ | exact CSub.refl _) (⟨⟨by omega, by omega⟩, ⟨by simp, by simp; omega⟩, fun i hi => by
            have h0 : i = 0 := by simp at hi; omega
            subst h0; rfl, fun z hz => by simp at hz; omega, by simp, rfl, by simp, fun z z0 z1 => by
            rw [getD_set]
            by_cases hz : z = 1
            · subst hz; simp; omega
            · rw [if_neg (by omega), List.getD_eq_getElem?_getD, List.getElem?_replicate, if_pos (by omega)]
              simp [hz]⟩) (fun y l sn B cap hI => ?_)
  obtain ⟨⟨hy0, hy1⟩, ⟨hl0, hl1⟩, hget, hnz, hnd, hye, hsl, hsn⟩ := hI
  have hmb := mulI_bd hs y x
  refine tr_seq ?_
  refine tr_seq ?_
  refine tr_region fun _ _ _ => ?_
  iterate 3 refine pu rfl rfl rfl rfl rfl ?_
  refine stg rfl rfl rfl rfl rfl (fun hb => by (have hq := hb; try simp only [zb1, zb2, zb3, zb4, zb5, zb6, zb7, zb8, zb9, zb10] at hq); exact rMove rfl rfl) ?_
  refine stg rfl rfl rfl rfl rfl (fun hb => by (have hq := hb; try simp only [zb1, zb2, zb3, zb4, zb5, zb6, zb7, zb8, zb9, zb10] at hq); exact rMove rfl rfl) ?_
  refine stg rfl rfl rfl rfl rfl (fun hb => by (have hq := hb; try simp only [zb1, zb2, zb3, zb4, zb5, zb6, zb7, zb8, zb9, zb10] at hq); exact rIdxB rfl (evg rfl hb) (evg rfl hb) (by omega) (by omega) (by omega)) ?_
  refine stg rfl rfl rfl rfl rfl (fun hb => by (have hq := hb; try simp only [zb1, zb2, zb3, zb4, zb5, zb6, zb7, zb8, zb9, zb10] at hq); exact rLdB rfl (evg rfl hb) (by omega)) ?_
  refine stg rfl rfl rfl rfl rfl (fun hb => by (have hq := hb; try simp only [zb1, zb2, zb3, zb4, zb5, zb6, zb7, zb8, zb9, zb10] at hq); exact rNotB rfl (evg rfl hb)) ?_
  refine st rfl rfl rfl rfl (rAndB rfl rfl rfl rfl) ?_
  refine tr_cond_bool rfl (fun h5 => ?_) (fun h5 => ?_)
  · try simp only [zb1, zb2, zb3, zb4, zb5, zb6, zb7, zb8, zb9, zb10] at h5
    refine tr_skip ?_
    refine tr_seq ?_
    refine tr_block ?_
    refine tr_seq ?_
    refine tr_region fun _ _ _ => ?_
    iterate 2 refine pu rfl rfl rfl rfl rfl ?_
    refine st rfl rfl rfl rfl (rIdxB rfl rfl rfl (by omega) (by omega) (by omega)) ?_
    refine ef rfl rfl (eStB rfl rfl rfl rfl (by omega) ?_) 
    refine tr_region fun _ _ _ => ?_
    iterate 2 refine pu rfl rfl rfl rfl rfl ?_
    refine ef rfl rfl (eLit1I rfl rfl rfl rfl (fun A8 => ?_)) 
    refine ef rfl rfl (eAppI rfl rfl rfl rfl rfl (by first | rfl | simp) (by first | rfl | simp) (by first | omega | (simp; omega)) (fun A8a c8a => ?_)) 
    refine pu rfl rfl rfl rfl rfl ?_
    refine tr_region fun _ _ _ => ?_
    refine st rfl rfl rfl rfl (rLdS rfl rfl rfl) ?_
    iterate 2 refine pu rfl rfl rfl rfl rfl ?_
    refine ef rfl rfl (eCallV rfl rfl rfl (fld_mul _ _ _ _ _ hs _ _ (by omega) (by omega) (by omega) (by omega)) ⟨rfl, rfl, rfl, trivial⟩ ?_) 
    refine pu rfl rfl rfl rfl rfl ?_
    refine ⟨mulI p m mod y x, l ++ [y], sn.set y.toNat true, A8a, c8a, ⟨rfl, rfl, rfl, rfl, rfl, rfl, trivial⟩, by first | exact cs _ _ | exact CSub.refl _, ?_⟩
    have hyl : ¬ y ∈ l := fun h => by
      have := (hsn y hy0 hy1).2 h
      rw [h5.2] at this
      cases this
    have hnd2 : (l ++ [y]).Nodup := by
      rw [List.nodup_append]
      exact ⟨hnd, by simp, fun a ha b hb => by simp at hb; subst hb; exact fun e => hyl (e ▸ ha)⟩
    have hnz2 : ∀ z ∈ l ++ [y], 0 < z ∧ z < pw p m := fun z hz => by
      rcases List.mem_append.1 hz with h | h
      · exact hnz z h
      · simp at h; omega
    have hlen2 := nodup_len' (q := q) (l ++ [y]) hnd2 (fun z hz => by have := hnz2 z hz; omega) (by omega)
    refine ⟨⟨⟨by omega, by omega⟩, ⟨by simp, hlen2⟩, fun i hi => ?_, hnz2, hnd2, ?_, by simpa using hsl, fun z z0 z1 => ?_⟩, by simp; omega⟩
    · by_cases hil : i < l.length
      · rw [← hget i hil, List.getD_eq_getElem?_getD, List.getD_eq_getElem?_getD, List.getElem?_append_left hil]
      · have hie : i = l.length := by simp at hi; omega
        subst hie
        rw [List.getD_eq_getElem?_getD, List.getElem?_append_right (Nat.le_refl _)]
        simpa using hye
    · rw [List.length_append, List.length_singleton, hye]
      obtain ⟨n, hn⟩ : ∃ n, l.length = n + 1 := ⟨l.length - 1, by omega⟩
      rw [hn]; rfl
    · rw [getD_set]
      by_cases hz : y.toNat = z.toNat
      · have : y = z := by omega
        subst this
        rw [if_pos ⟨rfl, by omega⟩]; simp
      · rw [if_neg (by omega), hsn z z0 z1]
        have : z ≠ y := by omega
        simp [this]
  · try simp only [zb1, zb2, zb3, zb4, zb5, zb6, zb7, zb8, zb9, zb10] at h5
    refine tr_exit ?_
    refine tr_seq ?_
    refine tr_region fun _ _ _ => ?_
    iterate 2 refine pu rfl rfl rfl rfl rfl ?_
    exact tr_ret ⟨trivial, _, _, rfl, ⟨_, rfl, _, _, _, rfl, ⟨hl0, hget, hnz, hnd, by
      rw [← hye]
      rcases h5 with h | h
      · exact .inl (by omega)
      · exact .inr ((hsn y hy0 hy1).1 h)⟩, rfl⟩, cs _ _, trivial, trivial⟩

theorem fld_gen_ent : Enters Try.prog 44 := enters_of Try.func44 (by kernel_rfl) (by kernel_rfl)
theorem fld_gen (p m : Int) (A : Option Addr) (c : Nat) (mod : List Int) (hs : Shp p m mod) (q : Int) (hq : q = pw p m) :
    Pure Try.prog 44 #[.agg #[.int .i64 p, .int .i64 m, .slice A mod.length c], .int .i64 q] [ro A (ints mod)] (one (fun v ch => ∃ B l cap, v = .slice B l.length cap ∧ GenR p m mod l ∧ (l = [] → B = none) ∧ ch = ow B 3 cap (ints l))) := by
  have hp2 := hs.p2
  have hp9 := hs.p9
  have hm1 := hs.m1
  have hm8 := hs.m8
  have hqq := hs.q
  have hq2 : 2 ≤ pw p m := by
    have h1 := pw_mono (p := p) (by omega) (a := 1) (b := m) (by omega) hm1
    have h2 := pw_succ p (k := 0) (by omega)
    rw [pw_zero, Int.zero_add, Int.one_mul] at h2
    omega
  refine pure_of (args := [.agg #[.int .i64 p, .int .i64 m, .slice A mod.length c], .int .i64 q]) 33 Try.func44 rfl rfl rfl fld_gen_ent ⟨id, trivial⟩ (fun w0 => ?_)
  refine tr_seq ?_
  refine tr_region fun _ _ _ => ?_
  refine ef rfl rfl (eBox rfl rfl rfl rfl rfl (fun p0 => ?_)) 
  refine pu rfl rfl rfl rfl rfl ?_
  refine tr_seq ?_
  refine tr_seq ?_
  refine tr_region fun _ _ _ => ?_
  refine pu rfl rfl rfl rfl rfl ?_
  refine tr_block ?_
  refine tr_loop1 (fun (x : Int) => [(1, .int .i64 q), (2, .pointer (some p0)), (5, .int .i64 x)]) (fun (x : Int) => [blk p0 36 [.int .i64 p, .int .i64 m, .slice A mod.length c], ro A (ints mod)]) (fun (x : Int) => 1 ≤ x ∧ x ≤ q ∧ ∀ x2, 1 ≤ x2 → x2 < x → ∃ l, PowOk p m mod x2 l ∧ ¬ ((l.length : Int) = pw p m - 1 ∧ mulI p m mod (l.getD (pw p m - 2).toNat 0) x2 = 1)) (fun (x : Int) => (q - x).toNat) (1) ⟨rfl, rfl, rfl, trivial⟩ (by first | exact cs _ _ | exact CSub.refl _) (⟨by omega, by omega, fun x2 h1 h2 => by omega⟩) (fun x hI => ?_)
  obtain ⟨hx0, hx1, hno⟩ := hI
  refine tr_seq ?_
  refine tr_seq ?_
  refine tr_region fun _ _ _ => ?_
  iterate 3 refine pu rfl rfl rfl rfl rfl ?_
  refine tr_cond_bool rfl (fun h2 => ?_) (fun h2 => ?_)
  · try simp only [zb1, zb2, zb3, zb4, zb5, zb6, zb7, zb8, zb9, zb10] at h2
    refine tr_skip ?_
    refine tr_seq ?_
    refine tr_block ?_
    refine tr_seq ?_
    refine tr_region fun _ _ _ => ?_
    refine st rfl rfl rfl rfl (rLdS rfl rfl rfl) ?_
    iterate 2 refine pu rfl rfl rfl rfl rfl ?_
    refine ef rfl rfl (eCall1 rfl rfl rfl (fld_powers _ _ _ _ _ hs _ (by assumption) _ (by omega) (by omega)) ⟨rfl, rfl, rfl, trivial⟩ ?_) 
    rintro _ _ ⟨B4, l4, c4, rfl, hl4, rfl⟩
    refine pu rfl rfl rfl rfl rfl ?_
    refine tr_seq ?_
    have hge : (l4.length : Int) = q - 1 → 0 < l4.getD (q - 2).toNat 0 ∧ l4.getD (q - 2).toNat 0 < q := fun h => by
      have h1 : (q - 2).toNat < l4.length := by omega
      rw [List.getD_eq_getElem?_getD, List.getElem?_eq_getElem h1]
      have h2 := hl4.nz _ (List.getElem_mem h1)
      rw [← hq] at h2
      exact h2
    refine tr_draw [0, 1, 2, 3, 4, 5, 6, 7, 8, 9, 10, 11, 12, 13, 14, 15] [] mixed (by kernel_rfl) fun _ _ _ => ?_
    refine pu rfl rfl rfl rfl rfl ?_
    refine st rfl rfl rfl rfl (rLen rfl rfl) ?_
    refine pu rfl rfl rfl rfl rfl ?_
    refine st rfl rfl rfl rfl (rSub rfl rfl rfl (by omega) (by omega)) ?_
    iterate 2 refine pu rfl rfl rfl rfl rfl ?_
    refine stg rfl rfl rfl rfl rfl (fun hb => by (have hq := hb; try simp only [zb1, zb2, zb3, zb4, zb5, zb6, zb7, zb8, zb9, zb10] at hq); exact rLdS rfl rfl rfl) ?_
    refine stg rfl rfl rfl rfl rfl (fun hb => by (have hq := hb; try simp only [zb1, zb2, zb3, zb4, zb5, zb6, zb7, zb8, zb9, zb10] at hq); exact rMove rfl rfl) ?_
    refine stg rfl rfl rfl rfl rfl (fun hb => by (have hq := hb; try simp only [zb1, zb2, zb3, zb4, zb5, zb6, zb7, zb8, zb9, zb10] at hq); exact rMove rfl rfl) ?_
    refine stg rfl rfl rfl rfl rfl (fun hb => by (have hq := hb; try simp only [zb1, zb2, zb3, zb4, zb5, zb6, zb7, zb8, zb9, zb10] at hq); exact rSub rfl (evg rfl hb) rfl (by omega) (by omega)) ?_
    refine stg rfl rfl rfl rfl rfl (fun hb => by (have hq := hb; try simp only [zb1, zb2, zb3, zb4, zb5, zb6, zb7, zb8, zb9, zb10] at hq); exact rIdxI rfl (evg rfl hb) (evg rfl hb) (by omega) (by omega) (by omega)) ?_
    refine stg rfl rfl rfl rfl rfl (fun hb => by (have hq := hb; try simp only [zb1, zb2, zb3, zb4, zb5, zb6, zb7, zb8, zb9, zb10] at hq); exact rLdI rfl (evg rfl hb) (by omega)) ?_
    refine stg rfl rfl rfl rfl rfl (fun hb => by (have hq := hb; try simp only [zb1, zb2, zb3, zb4, zb5, zb6, zb7, zb8, zb9, zb10] at hq); exact rMove rfl rfl) ?_
    refine efg rfl rfl rfl rfl rfl (fun hb => by (have hq := hb; try simp only [zb1, zb2, zb3, zb4, zb5, zb6, zb7, zb8, zb9, zb10] at hq); exact eCallV rfl rfl rfl (fld_mul _ _ _ _ _ hs _ _ (by omega) (by omega) (by omega) (by omega)) ⟨(evg rfl hb), (evg rfl hb), (evg rfl hb), trivial⟩ ⟨rfl, rfl⟩) ?_
    refine stg rfl rfl rfl rfl rfl (fun hb => by (have hq := hb; try simp only [zb1, zb2, zb3, zb4, zb5, zb6, zb7, zb8, zb9, zb10] at hq); exact rEql rfl (evg rfl hb) rfl) ?_
    refine st rfl rfl rfl rfl (rAndB rfl rfl rfl rfl) ?_
    refine tr_cond_bool rfl (fun h5 => ?_) (fun h5 => ?_)
    · try simp only [zb1, zb2, zb3, zb4, zb5, zb6, zb7, zb8, zb9, zb10] at h5
      refine tr_seq ?_
      refine tr_region fun _ _ _ => ?_
      iterate 2 refine pu rfl rfl rfl rfl rfl ?_
      exact tr_ret ⟨trivial, _, _, rfl, ⟨_, rfl, _, _, _, rfl, .inl ⟨x, by omega, by omega, hl4, by omega, by rw [← hq]; exact h5.2⟩, fun h => by
        have := hl4.one
        rw [h] at this
        simp at this, rfl⟩, cs _ _, trivial, trivial⟩
    · try simp only [zb1, zb2, zb3, zb4, zb5, zb6, zb7, zb8, zb9, zb10] at h5
      refine tr_skip ?_
      refine tr_region fun _ _ _ => ?_
      refine pu rfl rfl rfl rfl rfl ?_
      refine st rfl rfl rfl rfl (rAdd rfl rfl rfl (by omega) (by omega)) ?_
      refine pu rfl rfl rfl rfl rfl ?_
      refine ⟨x + 1, ⟨rfl, rfl, rfl, trivial⟩, by first | exact cs _ _ | exact CSub.refl _, ?_⟩
      exact ⟨⟨by omega, by omega, fun x2 h1 h2 => by
        by_cases hxx : x2 = x
        · subst hxx
          refine ⟨l4, hl4, fun h => ?_⟩
          rw [← hq] at h
          rcases h5 with h5 | h5
          · exact h5 h.1
          · exact h5 h.2
        · exact hno x2 h1 (by omega)⟩, by omega⟩
  · try simp only [zb1, zb2, zb3, zb4, zb5, zb6, zb7, zb8, zb9, zb10] at h2
    refine tr_exit ?_
    refine tr_seq ?_
    have hxq : x = q := by omega
    refine tr_nil 3 ?_
    refine tr_region fun _ _ _ => ?_
    refine pu rfl rfl rfl rfl rfl ?_
    exact tr_ret ⟨trivial, _, _, rfl, ⟨_, rfl, none, [], 0, rfl, .inr ⟨rfl, fun x2 h1 h2 => hno x2 h1 (by omega)⟩, fun _ => rfl, rfl⟩, cs _ [ow none 3 0 []], trivial, trivial⟩

theorem fld_shape_ent : Enters Try.prog 42 := enters_of Try.func42 (by kernel_rfl) (by kernel_rfl)
theorem fld_shape (p m : Int) (A : Option Addr) (c : Nat) (mod : List Int) (hl9 : mod.length ≤ 17592186044415) :
    Pure Try.prog 42 #[.agg #[.int .i64 p, .int .i64 m, .slice A mod.length c]] [ro A (ints mod)] (isV (.bool (bShp p m mod))) := by
  have hord := @ord_cases p m
  refine pure_of (args := [.agg #[.int .i64 p, .int .i64 m, .slice A mod.length c]]) 46 Try.func42 rfl rfl rfl fld_shape_ent ⟨id, trivial⟩ (fun w0 => ?_)
  refine tr_seq ?_
  refine tr_region fun _ _ _ => ?_
  refine ef rfl rfl (eBox rfl rfl rfl rfl rfl (fun p0 => ?_)) 
  refine pu rfl rfl rfl rfl rfl ?_
  refine tr_seq ?_
  refine tr_seq ?_
  refine tr_region fun _ _ _ => ?_
  refine st rfl rfl rfl rfl (rFld rfl rfl) ?_
  refine st rfl rfl rfl rfl (rLdF rfl rfl rfl) ?_
  refine st rfl rfl rfl rfl (rFld rfl rfl) ?_
  refine st rfl rfl rfl rfl (rLdF rfl rfl rfl) ?_
  refine ef rfl rfl (eCallV rfl rfl rfl (fld_order _ _) ⟨rfl, rfl, trivial⟩ ?_) 
  iterate 2 refine pu rfl rfl rfl rfl rfl ?_
  refine stg rfl rfl rfl rfl rfl (fun hb => by (have hq := hb; try simp only [zb1, zb2, zb3, zb4, zb5, zb6, zb7, zb8, zb9, zb10] at hq); exact rFld rfl rfl) ?_
  refine stg rfl rfl rfl rfl rfl (fun hb => by (have hq := hb; try simp only [zb1, zb2, zb3, zb4, zb5, zb6, zb7, zb8, zb9, zb10] at hq); exact rLdF rfl (evg rfl hb) rfl) ?_
  skip
  refine efg rfl rfl rfl rfl rfl (fun hb => by (have hq := hb; try simp only [zb1, zb2, zb3, zb4, zb5, zb6, zb7, zb8, zb9, zb10] at hq); exact eCallV rfl rfl rfl (fld_isPrime _ (by omega)) ⟨(evg rfl hb), trivial⟩ ⟨rfl, rfl⟩) ?_
  refine stg rfl rfl rfl rfl rfl (fun hb => by (have hq := hb; try simp only [zb1, zb2, zb3, zb4, zb5, zb6, zb7, zb8, zb9, zb10] at hq); exact rNotB rfl (evg rfl hb)) ?_
  refine st rfl rfl rfl rfl (rOrB rfl rfl rfl rfl) ?_
  refine tr_cond_bool rfl (fun h1 => ?_) (fun h1 => ?_)
  · try simp only [zb1, zb2, zb3, zb4, zb5, zb6, zb7, zb8, zb9, zb10] at h1
    refine tr_seq ?_
    refine tr_region fun _ _ _ => ?_
    refine pu rfl rfl rfl rfl rfl ?_
    have hno : ¬ ShpP p m mod := fun h => by
      rcases h1 with h1 | h1
      · exact not_shp_ord h1 h
      · rw [bIsP_true h.2] at h1; cases h1
    exact tr_ret ⟨trivial, _, _, rfl, ⟨by rw [bShp_false hno], rfl⟩, CSub.nil _, trivial⟩
  · try simp only [zb1, zb2, zb3, zb4, zb5, zb6, zb7, zb8, zb9, zb10] at h1
    have hcc := hord (by omega)
    obtain ⟨hp2, hp9, hm1, hm8, hqq, hoe⟩ := hcc
    have hprime := (bIsP_iff p).1 h1.2
    refine tr_skip ?_
    refine tr_seq ?_
    refine tr_seq ?_
    refine tr_region fun _ _ _ => ?_
    refine st rfl rfl rfl rfl (rFld rfl rfl) ?_
    refine st rfl rfl rfl rfl (rLdF rfl rfl rfl) ?_
    refine pu rfl rfl rfl rfl rfl ?_
    refine tr_cond_bool rfl (fun h3 => ?_) (fun h3 => ?_)
    · try simp only [zb1, zb2, zb3, zb4, zb5, zb6, zb7, zb8, zb9, zb10] at h3
      refine tr_seq ?_
      refine tr_region fun _ _ _ => ?_
      refine st rfl rfl rfl rfl (rFld rfl rfl) ?_
      refine st rfl rfl rfl rfl (rLdF rfl rfl rfl) ?_
      refine st rfl rfl rfl rfl (rLen rfl rfl) ?_
      iterate 2 refine pu rfl rfl rfl rfl rfl ?_
      have hb : decide ((mod.length : Int) = 0) = bShp p m mod := by
        by_cases h : (mod.length : Int) = 0
        · have hm0 : mod = [] := List.eq_nil_of_length_eq_zero (by omega)
          rw [decide_eq_true h, bShp_true ⟨⟨hp2, hp9, hm1, hm8, hqq, .inl ⟨h3, hm0⟩, by rw [hm0]; exact fun c hc => by simp at hc⟩, hprime⟩]
        · rw [decide_eq_false h, bShp_false (fun hs => by
            rcases hs.1.low with h2 | h2
            · rw [h2.2] at h; exact h rfl
            · omega)]
      exact tr_ret ⟨trivial, _, _, rfl, ⟨by rw [hb], rfl⟩, CSub.nil _, trivial⟩
    · try simp only [zb1, zb2, zb3, zb4, zb5, zb6, zb7, zb8, zb9, zb10] at h3
      refine tr_skip ?_
      refine tr_seq ?_
      refine tr_seq ?_
      refine tr_region fun _ _ _ => ?_
      refine st rfl rfl rfl rfl (rFld rfl rfl) ?_
      refine st rfl rfl rfl rfl (rLdF rfl rfl rfl) ?_
      refine st rfl rfl rfl rfl (rLen rfl rfl) ?_
      refine st rfl rfl rfl rfl (rFld rfl rfl) ?_
      refine st rfl rfl rfl rfl (rLdF rfl rfl rfl) ?_
      refine pu rfl rfl rfl rfl rfl ?_
      refine tr_cond_bool rfl (fun h5 => ?_) (fun h5 => ?_)
      · try simp only [zb1, zb2, zb3, zb4, zb5, zb6, zb7, zb8, zb9, zb10] at h5
        refine tr_seq ?_
        refine tr_region fun _ _ _ => ?_
        refine pu rfl rfl rfl rfl rfl ?_
        exact tr_ret ⟨trivial, _, _, rfl, ⟨by rw [bShp_false (fun hs => by
          rcases hs.1.low with h2 | h2
          · exact h3 h2.1
          · exact h5 h2.2)], rfl⟩, CSub.nil _, trivial⟩
      · try simp only [zb1, zb2, zb3, zb4, zb5, zb6, zb7, zb8, zb9, zb10] at h5
        refine tr_skip ?_
        refine tr_seq ?_
        refine tr_seq ?_
        refine tr_region fun _ _ _ => ?_
        refine st rfl rfl rfl rfl (rFld rfl rfl) ?_
        refine st rfl rfl rfl rfl (rLdF rfl rfl rfl) ?_
        refine st rfl rfl rfl rfl (rLen rfl rfl) ?_
        refine pu rfl rfl rfl rfl rfl ?_
        refine tr_block ?_
        refine tr_loop1 (fun (k : Int) => [(1, .pointer (some p0)), (31, .slice A mod.length c), (32, .int .i64 mod.length), (33, .int .i64 k)]) (fun (k : Int) => [blk p0 36 [.int .i64 p, .int .i64 m, .slice A mod.length c], ro A (ints mod)]) (fun (k : Int) => 0 ≤ k ∧ k ≤ mod.length ∧ AllIn p (mod.take k.toNat)) (fun (k : Int) => (mod.length - k).toNat) (0) ⟨rfl, rfl, rfl, rfl, trivial⟩ (by first | exact cs _ _ | exact CSub.refl _) (⟨by omega, by omega, fun c hc => by simp at hc⟩) (fun k hI => ?_)
        obtain ⟨hk0, hk1, hkin⟩ := hI
        refine tr_seq ?_
        refine tr_region fun _ _ _ => ?_
        refine pu rfl rfl rfl rfl rfl ?_
        refine tr_seq ?_
        refine tr_cond_bool rfl (fun h8 => ?_) (fun h8 => ?_)
        · try simp only [zb1, zb2, zb3, zb4, zb5, zb6, zb7, zb8, zb9, zb10] at h8
          refine tr_skip ?_
          refine tr_seq ?_
          refine tr_block ?_
          refine tr_seq ?_
          refine tr_region fun _ _ _ => ?_
          refine st rfl rfl rfl rfl (rIdxI rfl rfl rfl (by omega) (by omega) (by omega)) ?_
          refine st rfl rfl rfl rfl (rLdI rfl rfl (by omega)) ?_
          refine pu rfl rfl rfl rfl rfl ?_
          refine tr_seq ?_
          refine tr_region fun _ _ _ => ?_
          iterate 3 refine pu rfl rfl rfl rfl rfl ?_
          refine stg rfl rfl rfl rfl rfl (fun hb => by (have hq := hb; try simp only [zb1, zb2, zb3, zb4, zb5, zb6, zb7, zb8, zb9, zb10] at hq); exact rMove rfl rfl) ?_
          refine stg rfl rfl rfl rfl rfl (fun hb => by (have hq := hb; try simp only [zb1, zb2, zb3, zb4, zb5, zb6, zb7, zb8, zb9, zb10] at hq); exact rFld rfl rfl) ?_
          refine stg rfl rfl rfl rfl rfl (fun hb => by (have hq := hb; try simp only [zb1, zb2, zb3, zb4, zb5, zb6, zb7, zb8, zb9, zb10] at hq); exact rLdF rfl (evg rfl hb) rfl) ?_
          refine stg rfl rfl rfl rfl rfl (fun hb => by (have hq := hb; try simp only [zb1, zb2, zb3, zb4, zb5, zb6, zb7, zb8, zb9, zb10] at hq); exact rGeq rfl (evg rfl hb) (evg rfl hb)) ?_
          refine st rfl rfl rfl rfl (rOrB rfl rfl rfl rfl) ?_
          refine tr_cond_bool rfl (fun h10 => ?_) (fun h10 => ?_)
          · try simp only [zb1, zb2, zb3, zb4, zb5, zb6, zb7, zb8, zb9, zb10] at h10
            refine tr_seq ?_
            refine tr_region fun _ _ _ => ?_
            refine pu rfl rfl rfl rfl rfl ?_
            exact tr_ret ⟨trivial, _, _, rfl, ⟨by rw [bShp_false (fun hs => by
              have := hs.1.ent.get (by omega) k.toNat
              omega)], rfl⟩, CSub.nil _, trivial⟩
          · try simp only [zb1, zb2, zb3, zb4, zb5, zb6, zb7, zb8, zb9, zb10] at h10
            refine tr_skip ?_
            refine tr_region fun _ _ _ => ?_
            refine st rfl rfl rfl rfl (rAdd rfl rfl rfl (by omega) (by omega)) ?_
            refine pu rfl rfl rfl rfl rfl ?_
            refine ⟨k + 1, ⟨rfl, rfl, rfl, rfl, trivial⟩, by first | exact cs _ _ | exact CSub.refl _, ?_⟩
            refine ⟨⟨by omega, by omega, fun z hz => ?_⟩, by omega⟩
            rw [take_next 0 mod k hk0 (by omega)] at hz
            rcases List.mem_append.1 hz with h | h
            · exact hkin z h
            · simp only [List.mem_singleton] at h
              rw [h]
              omega
        · try simp only [zb1, zb2, zb3, zb4, zb5, zb6, zb7, zb8, zb9, zb10] at h8
          refine tr_exit ?_
          refine tr_seq ?_
          refine tr_region fun _ _ _ => ?_
          refine pu rfl rfl rfl rfl rfl ?_
          rw [take_len mod k (by omega)] at hkin
          exact tr_ret ⟨trivial, _, _, rfl, ⟨by rw [bShp_true ⟨⟨hp2, hp9, hm1, hm8, hqq, .inr ⟨by omega, by omega⟩, hkin⟩, hprime⟩], rfl⟩, CSub.nil _, trivial⟩

theorem fld_New_ent : Enters Try.prog 31 := enters_of Try.func31 (by kernel_rfl) (by kernel_rfl)
theorem fld_New (p m : Int) (A : Option Addr) (c : Nat) (mod : List Int) (hl9 : mod.length ≤ 17592186044415) :
    Pure Try.prog 31 #[.agg #[.int .i64 p, .int .i64 m, .slice A mod.length c]] [ro A (ints mod)] (fun v Fo => (v = .tuple #[.pointer none, .int .i64 1] ∧ Fo = [] ∧ ¬ FldN p m mod) ∨ ∃ g : GfM, v = .tuple #[.pointer (some g.p), .int .i64 0] ∧ Fo = [gfN g] ∧ GOk g p m mod) := by
  refine pure_of (args := [.agg #[.int .i64 p, .int .i64 m, .slice A mod.length c]]) 53 Try.func31 rfl rfl rfl fld_New_ent ⟨id, trivial⟩ (fun w0 => ?_)
  refine tr_seq ?_
  refine tr_region fun _ _ _ => ?_
  refine ef rfl rfl (eBox rfl rfl rfl rfl rfl (fun p0 => ?_)) 
  iterate 2 refine pu rfl rfl rfl rfl rfl ?_
  refine tr_seq ?_
  refine tr_seq ?_
  refine tr_region fun _ _ _ => ?_
  refine st rfl rfl rfl rfl (rLdS rfl rfl rfl) ?_
  refine ef rfl rfl (eCallV rfl rfl rfl (fld_shape _ _ _ _ _ (by omega)) ⟨rfl, trivial⟩ ?_) 
  refine st rfl rfl rfl rfl (rNotB rfl rfl) ?_
  refine tr_cond_bool rfl (fun h1 => ?_) (fun h1 => ?_)
  · try simp only [zb1, zb2, zb3, zb4, zb5, zb6, zb7, zb8, zb9, zb10] at h1
    refine tr_seq ?_
    refine tr_region fun _ _ _ => ?_
    iterate 2 refine pu rfl rfl rfl rfl rfl ?_
    exact tr_ret ⟨trivial, _, _, rfl, .inl ⟨rfl, rfl, fun h => by
      rw [bShp_true h.1] at h1; cases h1⟩, CSub.nil _, trivial⟩
  · try simp only [zb1, zb2, zb3, zb4, zb5, zb6, zb7, zb8, zb9, zb10] at h1
    have hs := (bShp_iff p m mod).1 h1
    have hord := hs.1.ord
    have hs1 := hs.1
    refine tr_skip ?_
    refine tr_seq ?_
    refine tr_region fun _ _ _ => ?_
    refine st rfl rfl rfl rfl (rFld rfl rfl) ?_
    refine st rfl rfl rfl rfl (rLdF rfl rfl rfl) ?_
    refine st rfl rfl rfl rfl (rFld rfl rfl) ?_
    refine st rfl rfl rfl rfl (rLdF rfl rfl rfl) ?_
    refine ef rfl rfl (eCallV rfl rfl rfl (fld_order _ _) ⟨rfl, rfl, trivial⟩ ?_) 
    refine pu rfl rfl rfl rfl rfl ?_
    refine tr_seq ?_
    rw [hord]
    refine tr_region fun _ _ _ => ?_
    refine st rfl rfl rfl rfl (rLdS rfl rfl rfl) ?_
    refine pu rfl rfl rfl rfl rfl ?_
    refine ef rfl rfl (eCall1 rfl rfl rfl (fld_gen _ _ _ _ _ hs1 _ rfl) ⟨rfl, rfl, trivial⟩ ?_) 
    rintro _ _ ⟨B4, l4, c4, rfl, hl4, hn4, rfl⟩
    refine pu rfl rfl rfl rfl rfl ?_
    refine tr_seq ?_
    refine tr_seq ?_
    refine tr_region fun _ _ _ => ?_
    refine pu rfl rfl rfl rfl rfl ?_
    refine st rfl rfl rfl rfl (rNilS rfl rfl rfl) ?_
    refine tr_cond_bool rfl (fun h5 => ?_) (fun h5 => ?_)
    · try simp only [zb1, zb2, zb3, zb4, zb5, zb6, zb7, zb8, zb9, zb10] at h5
      refine tr_emptyI (A := B4) (xs := l4) (fun hemp => ?_)
      have hl0 := hemp h5
      refine tr_seq ?_
      refine tr_region fun _ _ _ => ?_
      iterate 2 refine pu rfl rfl rfl rfl rfl ?_
      exact tr_ret ⟨trivial, _, _, rfl, .inl ⟨rfl, rfl, fun h => by
        rw [hl0] at hl4
        exact hl4.nil h.2⟩, CSub.nil _, trivial⟩
    · try simp only [zb1, zb2, zb3, zb4, zb5, zb6, zb7, zb8, zb9, zb10] at h5
      refine tr_skip ?_
      have hgn : l4 ≠ [] := fun h => by
        rw [hn4 h] at h5
        cases h5
      obtain ⟨x, hgen⟩ : ∃ x, IsGen p m mod x l4 := by
        rcases hl4 with h | h
        · exact h
        · exact absurd h.1 hgn
      have hqq := hs1.q
      have hq2 := hs1.q2
      have hlen := hgen.len
      refine tr_mid (fun (q : Addr × (Option Addr) × Nat × (Option Addr)) => match q with | (pg, Am, cm, Al) => [(5, .slice B4 l4.length c4), (6, .pointer (some pg))]) (fun (q : Addr × (Option Addr) × Nat × (Option Addr)) => match q with | (pg, Am, cm, Al) => [blk pg 70 [.int .i64 p, .int .i64 m, .slice Am mod.length cm, .int .i64 (pw p m), .slice B4 l4.length c4, .slice Al (pw p m).toNat (pw p m).toNat], ow Am 3 cm (ints mod), ow B4 3 c4 (ints l4), ow Al 3 (pw p m).toNat (ints (List.replicate (pw p m).toNat 0))]) ?_ ?_
      · refine tr_tree (.one 0 (.one 1 (.one 2 (.one 3 (.one 5 (.one 6 (.one 9 (.one 10 (.one 11 (.two 4 (.two 7 (.one 8 (.one 12 (.one 13 (.one 14 (.one 15 .nil))))) 12 (.one 7 (.one 8 (.one 13 (.one 14 (.one 15 .nil)))))) 12 (.one 4 (.one 7 (.one 8 (.one 13 (.one 14 (.one 15 .nil)))))))))))))))) [] mixed (by kernel_rfl) fun _ _ _ => ?_
        refine st rfl rfl rfl rfl (rFld rfl rfl) ?_
        refine st rfl rfl rfl rfl (rLdF rfl rfl rfl) ?_
        refine st rfl rfl rfl rfl (rFld rfl rfl) ?_
        refine st rfl rfl rfl rfl (rLdF rfl rfl rfl) ?_
        refine st rfl rfl rfl rfl (rFld rfl rfl) ?_
        refine st rfl rfl rfl rfl (rLdF rfl rfl rfl) ?_
        iterate 3 refine pu rfl rfl rfl rfl rfl ?_
        refine ⟨?_, ?_⟩
        · refine ef rfl rfl (eLit0I rfl rfl rfl  (fun A7 => ?_))
          refine ⟨?_, ?_⟩
          · refine ef rfl rfl (eAppXI rfl rfl rfl rfl rfl (by first | rfl | simp) (by first | rfl | simp) (by first | rfl | simp) (by first | omega | (simp; omega)) (fun A7a c7a => ?_))
            rw [List.nil_append]
            refine st rfl rfl rfl rfl (rBuild rfl rfl) ?_
            refine ef rfl rfl (eMakeI rfl rfl rfl rfl rfl (by omega) (by omega) (by omega) (fun A7b => ?_)) 
            refine st rfl rfl rfl rfl (rBuild rfl rfl) ?_
            refine ef rfl rfl (eBox rfl rfl rfl rfl rfl (fun p7c => ?_)) 
            refine pu rfl rfl rfl rfl rfl ?_
            exact ⟨rfl, (p7c, A7a, c7a, A7b), ⟨rfl, rfl, trivial⟩, by first | exact cs _ _ | exact CSub.refl _⟩
          · refine ef rfl rfl (eMakeI rfl rfl rfl rfl rfl (by omega) (by omega) (by omega) (fun A7b => ?_))
            refine ef rfl rfl (eAppXI rfl rfl rfl rfl rfl (by first | rfl | simp) (by first | rfl | simp) (by first | rfl | simp) (by first | omega | (simp; omega)) (fun A7a c7a => ?_)) 
            rw [List.nil_append]
            refine st rfl rfl rfl rfl (rBuild rfl rfl) ?_
            refine st rfl rfl rfl rfl (rBuild rfl rfl) ?_
            refine ef rfl rfl (eBox rfl rfl rfl rfl rfl (fun p7c => ?_)) 
            refine pu rfl rfl rfl rfl rfl ?_
            exact ⟨rfl, (p7c, A7a, c7a, A7b), ⟨rfl, rfl, trivial⟩, by first | exact cs _ _ | exact CSub.refl _⟩
        · refine ef rfl rfl (eMakeI rfl rfl rfl rfl rfl (by omega) (by omega) (by omega) (fun A7b => ?_))
          refine ef rfl rfl (eLit0I rfl rfl rfl  (fun A7 => ?_)) 
          refine ef rfl rfl (eAppXI rfl rfl rfl rfl rfl (by first | rfl | simp) (by first | rfl | simp) (by first | rfl | simp) (by first | omega | (simp; omega)) (fun A7a c7a => ?_)) 
          rw [List.nil_append]
          refine st rfl rfl rfl rfl (rBuild rfl rfl) ?_
          refine st rfl rfl rfl rfl (rBuild rfl rfl) ?_
          refine ef rfl rfl (eBox rfl rfl rfl rfl rfl (fun p7c => ?_)) 
          refine pu rfl rfl rfl rfl rfl ?_
          exact ⟨rfl, (p7c, A7a, c7a, A7b), ⟨rfl, rfl, trivial⟩, by first | exact cs _ _ | exact CSub.refl _⟩
      · rintro ⟨pg, Am, cm, Al⟩
        refine tr_seq ?_
        refine tr_seq ?_
        refine tr_region fun _ _ _ => ?_
        refine pu rfl rfl rfl rfl rfl ?_
        refine st rfl rfl rfl rfl (rLen rfl rfl) ?_
        refine pu rfl rfl rfl rfl rfl ?_
        refine tr_block ?_
        refine tr_loop2 (fun (k : Int) (lg : List Int) => [(6, .pointer (some pg)), (37, .slice B4 l4.length c4), (38, .int .i64 l4.length), (39, .int .i64 k)]) (fun (k : Int) (lg : List Int) => [blk pg 70 [.int .i64 p, .int .i64 m, .slice Am mod.length cm, .int .i64 (pw p m), .slice B4 l4.length c4, .slice Al (pw p m).toNat (pw p m).toNat], ow Am 3 cm (ints mod), ow B4 3 c4 (ints l4), ow Al 3 (pw p m).toNat (ints lg)]) (fun (k : Int) (lg : List Int) => 0 ≤ k ∧ k ≤ l4.length ∧ lg.length = (pw p m).toNat ∧ lg.getD 0 0 = 0 ∧ ∀ i : Nat, (i : Int) < k → lg.getD (l4.getD i 0).toNat 0 = i) (fun (k : Int) (lg : List Int) => (l4.length - k).toNat) (0) (List.replicate (pw p m).toNat 0) ⟨rfl, rfl, rfl, rfl, trivial⟩ (by first | exact cs _ _ | exact CSub.refl _) (⟨by omega, by omega, by simp, by rw [List.getD_eq_getElem?_getD, List.getElem?_replicate]; split <;> rfl, fun i hi => by omega⟩) (fun k lg hI => ?_)
        obtain ⟨hk0, hk1, hll, hlz, hlg⟩ := hI
        have hent : k < l4.length → 0 < l4.getD k.toNat 0 ∧ l4.getD k.toNat 0 < pw p m := fun h => by
          rw [List.getD_eq_getElem?_getD, List.getElem?_eq_getElem (show k.toNat < l4.length by omega)]
          exact hgen.pow.nz _ (List.getElem_mem _)
        refine tr_seq ?_
        refine tr_region fun _ _ _ => ?_
        refine pu rfl rfl rfl rfl rfl ?_
        refine tr_seq ?_
        refine tr_cond_bool rfl (fun h9 => ?_) (fun h9 => ?_)
        · try simp only [zb1, zb2, zb3, zb4, zb5, zb6, zb7, zb8, zb9, zb10] at h9
          refine tr_skip ?_
          refine tr_seq ?_
          refine tr_block ?_
          refine tr_seq ?_
          refine tr_region fun _ _ _ => ?_
          refine pu rfl rfl rfl rfl rfl ?_
          refine st rfl rfl rfl rfl (rIdxI rfl rfl rfl (by omega) (by omega) (by omega)) ?_
          refine st rfl rfl rfl rfl (rLdI rfl rfl (by omega)) ?_
          iterate 2 refine pu rfl rfl rfl rfl rfl ?_
          have hentk := hent h9
          refine tr_region fun _ _ _ => ?_
          refine pu rfl rfl rfl rfl rfl ?_
          refine st rfl rfl rfl rfl (rNil rfl rfl) ?_
          refine st rfl rfl rfl rfl (rFld rfl rfl) ?_
          refine st rfl rfl rfl rfl (rLdF rfl rfl rfl) ?_
          iterate 2 refine pu rfl rfl rfl rfl rfl ?_
          refine st rfl rfl rfl rfl (rIdxI rfl rfl rfl (by omega) (by omega) (by omega)) ?_
          refine ef rfl rfl (eStI rfl rfl rfl rfl (by omega) ?_) 
          refine tr_region fun _ _ _ => ?_
          refine st rfl rfl rfl rfl (rAdd rfl rfl rfl (by omega) (by omega)) ?_
          refine pu rfl rfl rfl rfl rfl ?_
          refine ⟨k + 1, lg.set (l4.getD k.toNat 0).toNat k, ⟨rfl, rfl, rfl, rfl, trivial⟩, by first | exact cs _ _ | exact CSub.refl _, ?_⟩
          have he := hent h9
          refine ⟨⟨by omega, by omega, by simpa using hll, by rw [getD_set, if_neg (by omega)]; exact hlz, fun i hi => ?_⟩, by omega⟩
          rw [getD_set]
          by_cases hik : (i : Int) = k
          · have : i = k.toNat := by omega
            rw [this, if_pos ⟨rfl, by omega⟩]
            omega
          · have hne : ¬ l4.getD k.toNat 0 = l4.getD i 0 := fun e => by
              rw [List.getD_eq_getElem?_getD, List.getElem?_eq_getElem (show k.toNat < l4.length by omega), List.getD_eq_getElem?_getD, List.getElem?_eq_getElem (show i < l4.length by omega)] at e
              exact (List.pairwise_iff_getElem.1 hgen.pow.nodup) i k.toNat (by omega) (by omega) (by omega) (by simpa using e.symm)
            have hie : 0 < l4.getD i 0 := by
              rw [List.getD_eq_getElem?_getD, List.getElem?_eq_getElem (show i < l4.length by omega)]
              exact (hgen.pow.nz _ (List.getElem_mem _)).1
            rw [if_neg (by omega)]
            exact hlg i (by omega)
        · try simp only [zb1, zb2, zb3, zb4, zb5, zb6, zb7, zb8, zb9, zb10] at h9
          refine tr_exit ?_
          refine tr_seq ?_
          refine tr_region fun _ _ _ => ?_
          iterate 3 refine pu rfl rfl rfl rfl rfl ?_
          have hkk : k = l4.length := by omega
          refine tr_ret ⟨trivial, _, _, rfl, .inr ⟨⟨pg, p, m, Am, cm, mod, pw p m, B4, c4, l4, Al, (pw p m).toNat, lg⟩, rfl, rfl, ⟨rfl, rfl, rfl, hs, rfl, ⟨x, hgen⟩, hll, hlz, fun i hi => hlg i (by have h7 : i < l4.length := hi; omega)⟩⟩, ?_, gfO_excl _ _ _, trivial⟩
          have hc : [.int .i64 p, .int .i64 m, .slice Am mod.length cm, .int .i64 (pw p m), .slice B4 l4.length c4, .slice Al (pw p m).toNat (pw p m).toNat] = GfM.cells ⟨pg, p, m, Am, cm, mod, pw p m, B4, c4, l4, Al, (pw p m).toNat, lg⟩ := by simp [GfM.cells, hll]
          rw [hc]
          exact csub_gfO _ _ ⟨pg, p, m, Am, cm, mod, pw p m, B4, c4, l4, Al, (pw p m).toNat, lg⟩ []

end Go.Proofs.Ytancpcmiimcdhaa

/-
  ORDEREDGREEDY, PART 6 OF 9. One sentence: the texts behind the law OrderedGreedy, put together.
  Conditions: each theorem's own, written out in it.
-/
import Derived.Test.YtoalphamojhpcaaK5
set_option linter.unusedSimpArgs false
set_option linter.unusedVariables false
set_option linter.unusedSectionVars false
set_option linter.unusedSimpArgs false
set_option linter.unusedVariables false
set_option maxRecDepth 100000
namespace Go.Proofs.Ytoalphamojhpcaa
open Go.RowKit
theorem slc_insF_ent : Enters Try.prog 70 := enters_of Try.func70 (by kernel_rfl) (by kernel_rfl)
theorem slc_insF (A : Option Addr) (n c : Nat) (xs : List Int) (hn : n = xs.length) (h9 : xs.length ≤ 1000000) (a b : Int) (ha : 0 ≤ a) (hab : a ≤ b) (hb : b ≤ xs.length) (f : FuncId) (lb : List Value) (Gc : List Chunk) (r : Int → Int) (hr : ∀ x, 0 ≤ r x ∧ r x ≤ 4294967296) (hf : ∀ x ∈ xs, ∀ y ∈ xs, Pure Try.prog f ([Value.int .i64 x, Value.int .i64 y] ++ lb).toArray Gc (isV (.int .i64 (r y - r x)))) (ht : Tie r (gd xs) a.toNat b.toNat) :
    Mut Try.prog 70 #[.slice A n c, .int .i64 a, .int .i64 b, .func (.func f) #[] lb.toArray] [ow A 3 c (ints xs)] [bun Gc] (one (fun v ch => v = .tuple #[] ∧ ∃ ys : List Int, ch = ow A 3 c (ints ys) ∧ SrtTo r xs ys a.toNat b.toNat)) := by
  refine mut_of (args := [.slice A n c, .int .i64 a, .int .i64 b, .func (.func f) #[] lb.toArray]) 53 (F := [ow A 3 c (ints xs), bun Gc]) rfl Try.func70 rfl rfl rfl slc_insF_ent (fun w0 => ?_)
  refine tr_seq ?_
  refine tr_region fun _ _ _ => ?_
  refine pu rfl rfl rfl rfl rfl ?_
  refine st rfl rfl rfl rfl (rAdd rfl rfl rfl (by omega) (by omega)) ?_
  refine pu rfl rfl rfl rfl rfl ?_
  refine tr_block ?_
  refine tr_loop2 (fun (i : Int) (ys : List Int) => [(0, .slice A n c), (8, .int .i64 i), (1, .int .i64 a), (2, .int .i64 b), (3, .func (.func f) #[] lb.toArray)]) (fun (i : Int) (ys : List Int) => [ow A 3 c (ints ys), bun Gc]) (fun (i : Int) (ys : List Int) => (a + 1 ≤ i ∧ (i ≤ b ∨ i = a + 1)) ∧ ys.Perm xs ∧ Frm (gd xs) (gd ys) a.toNat b.toNat ∧ Srt r (gd ys) a.toNat i.toNat ∧ Tie r (gd ys) a.toNat b.toNat) (fun (i : Int) (ys : List Int) => (b - i).toNat) ((a + 1)) (xs) ⟨rfl, rfl, rfl, rfl, rfl, trivial⟩ (by first | exact cs _ _ | exact CSub.refl _) (⟨⟨by omega, .inr rfl⟩, List.Perm.refl _, Frm.refl _ _ _, fun u v h1 h2 h3 => by omega, ht⟩) (fun i ys hI => ?_)
  obtain ⟨⟨hi0, hi1⟩, hp0, hfr0, hs0, ht0⟩ := hI
  have hyl := hp0.length_eq
  refine tr_seq ?_
  refine tr_seq ?_
  refine tr_region fun _ _ _ => ?_
  iterate 3 refine pu rfl rfl rfl rfl rfl ?_
  refine tr_cond_bool rfl (fun h1 => ?_) (fun h1 => ?_)
  · try simp only [zbA] at h1
    refine tr_skip ?_
    refine tr_seq ?_
    refine tr_block ?_
    refine tr_seq ?_
    refine tr_region fun _ _ _ => ?_
    iterate 2 refine pu rfl rfl rfl rfl rfl ?_
    refine tr_block ?_
    refine tr_loop2 (fun (j : Int) (zs : List Int) => [(0, .slice A n c), (9, .int .i64 j), (1, .int .i64 a), (2, .int .i64 b), (3, .func (.func f) #[] lb.toArray), (8, .int .i64 i), (12, .int .i64 i), (13, .int .i64 b), (17, .int .i64 i)]) (fun (j : Int) (zs : List Int) => [ow A 3 c (ints zs), bun Gc]) (fun (j : Int) (zs : List Int) => (a ≤ j ∧ j ≤ i) ∧ zs.Perm xs ∧ Frm (gd xs) (gd zs) a.toNat b.toNat ∧ InsJ r (gd zs) a.toNat b.toNat i.toNat j.toNat) (fun (j : Int) (zs : List Int) => j.toNat) (i) (ys) ⟨rfl, rfl, rfl, rfl, rfl, rfl, rfl, rfl, rfl, trivial⟩ (by first | exact cs _ _ | exact CSub.refl _) (⟨⟨by omega, by omega⟩, hp0, hfr0, InsJ.start hs0 ht0 (by omega)⟩) (fun j zs hI => ?_)
    obtain ⟨⟨hj0, hj1⟩, hp, hfr, hJ⟩ := hI
    have hzl := hp.length_eq
    have hm1 : zs.getD j.toNat 0 ∈ xs := hp.mem_iff.1 (getD_mem (show (j.toNat) < zs.length by omega) 0)
    have hm2 : zs.getD (j - 1).toNat 0 ∈ xs := hp.mem_iff.1 (getD_mem (show ((j - 1).toNat) < zs.length by omega) 0)
    have hb1 := hr (zs.getD j.toNat 0)
    have hb2 := hr (zs.getD (j - 1).toNat 0)
    refine tr_seq ?_
    refine tr_seq ?_
    refine tr_draw [0, 1, 2, 3, 4, 5, 6, 7, 8, 9, 10, 11, 12, 13, 14, 15, 16] [] mixed (by kernel_rfl) fun _ _ _ => ?_
    iterate 4 refine pu rfl rfl rfl rfl rfl ?_
    refine stg rfl rfl rfl rfl rfl (fun hb => by (have hq := hb; try simp only [zbA] at hq); exact rMove rfl rfl) ?_
    refine stg rfl rfl rfl rfl rfl (fun hb => by (have hq := hb; try simp only [zbA] at hq); exact rMove rfl rfl) ?_
    refine stg rfl rfl rfl rfl rfl (fun hb => by (have hq := hb; try simp only [zbA] at hq); exact rMove rfl rfl) ?_
    refine stg rfl rfl rfl rfl rfl (fun hb => by (have hq := hb; try simp only [zbA] at hq); exact rIdxI rfl (evg rfl hb) (evg rfl hb) (by omega) (by omega) (by omega)) ?_
    refine stg rfl rfl rfl rfl rfl (fun hb => by (have hq := hb; try simp only [zbA] at hq); exact rLdI rfl (evg rfl hb) (by omega)) ?_
    refine stg rfl rfl rfl rfl rfl (fun hb => by (have hq := hb; try simp only [zbA] at hq); exact rMove rfl rfl) ?_
    refine stg rfl rfl rfl rfl rfl (fun hb => by (have hq := hb; try simp only [zbA] at hq); exact rMove rfl rfl) ?_
    refine stg rfl rfl rfl rfl rfl (fun hb => by (have hq := hb; try simp only [zbA] at hq); exact rSub rfl (evg rfl hb) rfl (by omega) (by omega)) ?_
    refine stg rfl rfl rfl rfl rfl (fun hb => by (have hq := hb; try simp only [zbA] at hq); exact rIdxI rfl (evg rfl hb) (evg rfl hb) (by omega) (by omega) (by omega)) ?_
    refine stg rfl rfl rfl rfl rfl (fun hb => by (have hq := hb; try simp only [zbA] at hq); exact rLdI rfl (evg rfl hb) (by omega)) ?_
    refine efg rfl rfl rfl rfl rfl (fun hb => by (have hq := hb; try simp only [zbA] at hq); exact eCallFV rfl rfl rfl (evg rfl hb) (hf _ hm1 _ hm2) ⟨(evg rfl hb), (evg rfl hb), trivial⟩ ent_bun ⟨rfl, rfl⟩) ?_
    refine stg rfl rfl rfl rfl rfl (fun hb => by (have hq := hb; try simp only [zbA] at hq); exact rLss rfl (evg rfl hb) rfl) ?_
    refine st rfl rfl rfl rfl (rAndB rfl rfl rfl rfl) ?_
    refine tr_cond_bool rfl (fun h4 => ?_) (fun h4 => ?_)
    · try simp only [zbA] at h4
      refine tr_skip ?_
      refine tr_seq ?_
      refine tr_block ?_
      refine tr_plan [] [(0, 0), (0, 1), (2, 2), (2, 3), (2, 4), (0, 5), (0, 6), (0, 7), (0, 8), (0, 9), (0, 10), (0, 11), (0, 12), (0, 13), (0, 14), (1, 15), (0, 16), (1, 17)] mixed (by kernel_rfl) fun _ _ _ => ?_
      iterate 2 refine pu rfl rfl rfl rfl rfl ?_
      refine stF rfl rfl rfl rfl (cs _ _) (rMove rfl rfl) ?_
      refine stF rfl rfl rfl rfl (cs _ _) (rMove rfl rfl) ?_
      refine stF rfl rfl rfl rfl (cs _ _) (rSub rfl rfl rfl (by omega) (by omega)) ?_
      iterate 2 refine pu rfl rfl rfl rfl rfl ?_
      refine st rfl rfl rfl rfl (rSub rfl rfl rfl (by omega) (by omega)) ?_
      refine st rfl rfl rfl rfl (rIdxI rfl rfl rfl (by omega) (by omega) (by omega)) ?_
      refine st rfl rfl rfl rfl (rLdI rfl rfl (by omega)) ?_
      iterate 2 refine pu rfl rfl rfl rfl rfl ?_
      refine st rfl rfl rfl rfl (rIdxI rfl rfl rfl (by omega) (by omega) (by omega)) ?_
      refine st rfl rfl rfl rfl (rLdI rfl rfl (by omega)) ?_
      refine st rfl rfl rfl rfl (rIdxI rfl rfl rfl (by omega) (by omega) (by omega)) ?_
      refine ef rfl rfl (eStI rfl rfl rfl rfl (by omega) ?_) 
      refine ⟨cs _ _, ?_⟩
      refine st rfl rfl rfl rfl (rIdxI rfl rfl rfl (by omega) (by omega) (by rw [List.length_set]; omega)) ?_
      refine ef rfl rfl (eStI rfl rfl rfl rfl (by rw [List.length_set]; omega) ?_) 
      refine ⟨cs _ _, ?_⟩
      refine tr_region fun _ _ _ => ?_
      refine pu rfl rfl rfl rfl rfl ?_
      refine st rfl rfl rfl rfl (rSub rfl rfl rfl (by omega) (by omega)) ?_
      refine pu rfl rfl rfl rfl rfl ?_
      refine ⟨j - 1, swL zs j.toNat (j - 1).toNat, ⟨rfl, rfl, rfl, rfl, rfl, rfl, rfl, rfl, rfl, trivial⟩, by first | exact cs _ _ | exact CSub.refl _, ?_⟩
      have e := gd_swL (xs := zs) (i := j.toNat) (j := (j - 1).toNat) (by omega) (by omega)
      refine ⟨⟨⟨by omega, by omega⟩, (swL_perm (by omega) (by omega)).trans hp, ?_, ?_⟩, by omega⟩
      · rw [e]; exact hfr.trans (swp_frm _ (by omega) (by omega) (by omega) (by omega))
      · rw [e, show (j - 1).toNat = j.toNat - 1 by omega]
        refine hJ.step (by omega) (by omega) (by omega) ?_
        have e2 : (gd zs) (j.toNat - 1) = zs.getD (j - 1).toNat 0 := by rw [show (j - 1).toNat = j.toNat - 1 by omega]; rfl
        rw [e2]
        show _ < r (zs.getD j.toNat 0)
        omega
    · try simp only [zbA] at h4
      refine tr_exit ?_
      refine tr_region fun _ _ _ => ?_
      refine pu rfl rfl rfl rfl rfl ?_
      refine st rfl rfl rfl rfl (rAdd rfl rfl rfl (by omega) (by omega)) ?_
      refine pu rfl rfl rfl rfl rfl ?_
      refine ⟨i + 1, zs, ⟨rfl, rfl, rfl, rfl, rfl, trivial⟩, by first | exact cs _ _ | exact CSub.refl _, ?_⟩
      have hst := hJ.stop (by omega) (by omega) (by omega) (by
        by_cases hja : j = a
        · exact .inl (by omega)
        · refine .inr ?_
          have e : (gd zs) (j.toNat - 1) = zs.getD (j - 1).toNat 0 := by rw [show (j - 1).toNat = j.toNat - 1 by omega]; rfl
          rw [e]
          show r (zs.getD j.toNat 0) ≤ _
          omega)
      exact ⟨⟨⟨by omega, .inl (by omega)⟩, hp, hfr, by rw [show (i + 1).toNat = i.toNat + 1 by omega]; exact hst.1, hst.2⟩, by omega⟩
  · try simp only [zbA] at h1
    refine tr_exit ?_
    have hsf : Srt r (gd ys) a.toNat b.toNat := hs0.sub (Nat.le_refl _) (by omega)
    exact ⟨trivial, _, _, .nil, ⟨_, rfl, rfl, ys, rfl, ⟨hp0, hfr0, hsf⟩⟩, cs _ _, trivial, trivial⟩
theorem slc_swr_ent : Enters Try.prog 96 := enters_of Try.func96 (by kernel_rfl) (by kernel_rfl)
theorem slc_swr (A : Option Addr) (n c : Nat) (xs : List Int) (hn : n = xs.length) (h9 : xs.length ≤ 1000000) (a b z : Int) (ha : 0 ≤ a) (hn0 : 0 ≤ z) (hab : a + z ≤ b) (hb : b + z ≤ xs.length) (fv : Value) :
    Mut Try.prog 96 #[.slice A n c, .int .i64 a, .int .i64 b, .int .i64 z, fv] [ow A 3 c (ints xs)] [] (one (fun v ch => v = .tuple #[] ∧ ∃ ys : List Int, ch = ow A 3 c (ints ys) ∧ ys.Perm xs ∧ gd ys = swr (gd xs) a.toNat b.toNat z.toNat)) := by
  refine mut_of (args := [.slice A n c, .int .i64 a, .int .i64 b, .int .i64 z, fv]) 38 (F := [ow A 3 c (ints xs)]) rfl Try.func96 rfl rfl rfl slc_swr_ent (fun w0 => ?_)
  refine tr_seq ?_
  refine tr_region fun _ _ _ => ?_
  refine pu rfl rfl rfl rfl rfl ?_
  refine tr_block ?_
  refine tr_loop2 (fun (i : Int) (zs : List Int) => [(0, .slice A n c), (10, .int .i64 i), (1, .int .i64 a), (2, .int .i64 b), (3, .int .i64 z)]) (fun (i : Int) (zs : List Int) => [ow A 3 c (ints zs)]) (fun (i : Int) (zs : List Int) => (0 ≤ i ∧ i ≤ z) ∧ zs.Perm xs ∧ gd zs = swr (gd xs) a.toNat b.toNat i.toNat) (fun (i : Int) (zs : List Int) => (z - i).toNat) (0) (xs) ⟨rfl, rfl, rfl, rfl, rfl, trivial⟩ (by first | exact cs _ _ | exact CSub.refl _) (⟨⟨by omega, by omega⟩, List.Perm.refl _, by rw [Int.toNat_zero, swr_zero]⟩) (fun i zs hI => ?_)
  obtain ⟨⟨hi0, hi1⟩, hp, hg⟩ := hI
  have hzl := hp.length_eq
  refine tr_seq ?_
  refine tr_seq ?_
  refine tr_region fun _ _ _ => ?_
  iterate 3 refine pu rfl rfl rfl rfl rfl ?_
  refine tr_cond_bool rfl (fun h1 => ?_) (fun h1 => ?_)
  · try simp only [zbA] at h1
    refine tr_skip ?_
    refine tr_seq ?_
    refine tr_block ?_
    refine tr_plan [] [(0, 0), (0, 1), (0, 2), (0, 3), (2, 4), (2, 5), (2, 6), (2, 7), (0, 8), (0, 9), (0, 10), (0, 11), (0, 12), (0, 13), (0, 14), (0, 15), (0, 16), (0, 17), (0, 18), (0, 19), (0, 20), (1, 21), (0, 22), (1, 23)] mixed (by kernel_rfl) fun _ _ _ => ?_
    iterate 3 refine pu rfl rfl rfl rfl rfl ?_
    refine st rfl rfl rfl rfl (rAdd rfl rfl rfl (by omega) (by omega)) ?_
    refine stF rfl rfl rfl rfl (cs _ _) (rMove rfl rfl) ?_
    refine stF rfl rfl rfl rfl (cs _ _) (rMove rfl rfl) ?_
    refine stF rfl rfl rfl rfl (cs _ _) (rMove rfl rfl) ?_
    refine stF rfl rfl rfl rfl (cs _ _) (rAdd rfl rfl rfl (by omega) (by omega)) ?_
    iterate 3 refine pu rfl rfl rfl rfl rfl ?_
    refine st rfl rfl rfl rfl (rAdd rfl rfl rfl (by omega) (by omega)) ?_
    refine st rfl rfl rfl rfl (rIdxI rfl rfl rfl (by omega) (by omega) (by omega)) ?_
    refine st rfl rfl rfl rfl (rLdI rfl rfl (by omega)) ?_
    iterate 3 refine pu rfl rfl rfl rfl rfl ?_
    refine st rfl rfl rfl rfl (rAdd rfl rfl rfl (by omega) (by omega)) ?_
    refine st rfl rfl rfl rfl (rIdxI rfl rfl rfl (by omega) (by omega) (by omega)) ?_
    refine st rfl rfl rfl rfl (rLdI rfl rfl (by omega)) ?_
    refine st rfl rfl rfl rfl (rIdxI rfl rfl rfl (by omega) (by omega) (by omega)) ?_
    refine ef rfl rfl (eStI rfl rfl rfl rfl (by omega) ?_) 
    refine ⟨cs _ _, ?_⟩
    refine st rfl rfl rfl rfl (rIdxI rfl rfl rfl (by omega) (by omega) (by rw [List.length_set]; omega)) ?_
    refine ef rfl rfl (eStI rfl rfl rfl rfl (by rw [List.length_set]; omega) ?_) 
    refine ⟨cs _ _, ?_⟩
    refine tr_region fun _ _ _ => ?_
    refine pu rfl rfl rfl rfl rfl ?_
    refine st rfl rfl rfl rfl (rAdd rfl rfl rfl (by omega) (by omega)) ?_
    refine pu rfl rfl rfl rfl rfl ?_
    refine ⟨i + 1, swL zs (a + i).toNat (b + i).toNat, ⟨rfl, rfl, rfl, rfl, rfl, trivial⟩, by first | exact cs _ _ | exact CSub.refl _, ?_⟩
    have e := gd_swL (xs := zs) (i := (a + i).toNat) (j := (b + i).toNat) (by omega) (by omega)
    refine ⟨⟨⟨by omega, by omega⟩, (swL_perm (by omega) (by omega)).trans hp, ?_⟩, by omega⟩
    rw [e, hg, show (a + i).toNat = a.toNat + i.toNat by omega, show (b + i).toNat = b.toNat + i.toNat by omega, show (i + 1).toNat = i.toNat + 1 by omega]
    exact swr_succ _ (by omega)
  · try simp only [zbA] at h1
    refine tr_exit ?_
    have hin : i = z := by omega
    rw [hin] at hg
    exact ⟨trivial, _, _, .nil, ⟨_, rfl, rfl, zs, rfl, ⟨hp, hg⟩⟩, cs _ _, trivial, trivial⟩
theorem slc_rot_ent : Enters Try.prog 83 := enters_of Try.func83 (by kernel_rfl) (by kernel_rfl)
theorem slc_rot (A : Option Addr) (n c : Nat) (xs : List Int) (hn : n = xs.length) (h9 : xs.length ≤ 1000000) (a m b : Int) (ha : 0 ≤ a) (ham : a < m) (hmb : m < b) (hb : b ≤ xs.length) (fv : Value) :
    Mut Try.prog 83 #[.slice A n c, .int .i64 a, .int .i64 m, .int .i64 b, fv] [ow A 3 c (ints xs)] [] (one (fun v ch => v = .tuple #[] ∧ ∃ ys : List Int, ch = ow A 3 c (ints ys) ∧ ys.Perm xs ∧ gd ys = rot (gd xs) a.toNat m.toNat b.toNat)) := by
  refine mut_of (args := [.slice A n c, .int .i64 a, .int .i64 m, .int .i64 b, fv]) 58 (F := [ow A 3 c (ints xs)]) rfl Try.func83 rfl rfl rfl slc_rot_ent (fun w0 => ?_)
  refine tr_seq ?_
  refine tr_region fun _ _ _ => ?_
  iterate 2 refine pu rfl rfl rfl rfl rfl ?_
  refine st rfl rfl rfl rfl (rSub rfl rfl rfl (by omega) (by omega)) ?_
  refine pu rfl rfl rfl rfl rfl ?_
  refine tr_seq ?_
  refine tr_region fun _ _ _ => ?_
  iterate 2 refine pu rfl rfl rfl rfl rfl ?_
  refine st rfl rfl rfl rfl (rSub rfl rfl rfl (by omega) (by omega)) ?_
  refine pu rfl rfl rfl rfl rfl ?_
  refine tr_seq ?_
  refine tr_block ?_
  refine tr_loop3 (fun (i : Int) (j : Int) (zs : List Int) => [(0, .slice A n c), (10, .int .i64 i), (11, .int .i64 j), (2, .int .i64 m), (4, fv)]) (fun (i : Int) (j : Int) (zs : List Int) => [ow A 3 c (ints zs)]) (fun (i : Int) (j : Int) (zs : List Int) => (1 ≤ i ∧ i ≤ m - a ∧ 1 ≤ j ∧ m + j ≤ b) ∧ zs.Perm xs ∧ rot (gd zs) (m.toNat - i.toNat) m.toNat (m.toNat + j.toNat) = rot (gd xs) a.toNat m.toNat b.toNat) (fun (i : Int) (j : Int) (zs : List Int) => (i + j).toNat) ((m - a)) ((b - m)) (xs) ⟨rfl, rfl, rfl, rfl, rfl, trivial⟩ (by first | exact cs _ _ | exact CSub.refl _) (⟨⟨by omega, by omega, by omega, by omega⟩, List.Perm.refl _, by rw [show m.toNat - (m - a).toNat = a.toNat by omega, show m.toNat + (b - m).toNat = b.toNat by omega]⟩) (fun i j zs hI => ?_)
  obtain ⟨⟨hi0, hi1, hj0, hj1⟩, hp, hg⟩ := hI
  have hzl := hp.length_eq
  refine tr_seq ?_
  refine tr_seq ?_
  refine tr_region fun _ _ _ => ?_
  iterate 3 refine pu rfl rfl rfl rfl rfl ?_
  refine tr_cond_bool rfl (fun h2 => ?_) (fun h2 => ?_)
  · try simp only [zbA] at h2
    refine tr_skip ?_
    refine tr_block ?_
    refine tr_seq ?_
    refine tr_region fun _ _ _ => ?_
    iterate 3 refine pu rfl rfl rfl rfl rfl ?_
    refine tr_cond_bool rfl (fun h3 => ?_) (fun h3 => ?_)
    · try simp only [zbA] at h3
      refine tr_seq ?_
      refine tr_region fun _ _ _ => ?_
      iterate 3 refine pu rfl rfl rfl rfl rfl ?_
      refine st rfl rfl rfl rfl (rSub rfl rfl rfl (by omega) (by omega)) ?_
      iterate 3 refine pu rfl rfl rfl rfl rfl ?_
      refine ef rfl rfl (eCallM1 rfl rfl rfl (slc_swr A n c zs (by omega) (by omega) (m - i) m j (by omega) (by omega) (by omega) (by omega) _) ⟨rfl, rfl, rfl, rfl, rfl, trivial⟩ ?_) 
      rintro _ _ ⟨rfl, us, rfl, hpu, hgu⟩
      refine tr_region fun _ _ _ => ?_
      iterate 2 refine pu rfl rfl rfl rfl rfl ?_
      refine st rfl rfl rfl rfl (rSub rfl rfl rfl (by omega) (by omega)) ?_
      refine pu rfl rfl rfl rfl rfl ?_
      refine ⟨i - j, j, us, ⟨rfl, rfl, rfl, rfl, rfl, trivial⟩, by first | exact cs _ _ | exact CSub.refl _, ?_⟩
      refine ⟨⟨⟨by omega, by omega, by omega, by omega⟩, hpu.trans hp, ?_⟩, by omega⟩
      rw [← hg, hgu, show (m - i).toNat = m.toNat - i.toNat by omega, show m.toNat - (i - j).toNat = m.toNat - i.toNat + j.toNat by omega]
      exact rot_gt _ (by omega) (by omega)
    · try simp only [zbA] at h3
      refine tr_seq ?_
      refine tr_region fun _ _ _ => ?_
      iterate 3 refine pu rfl rfl rfl rfl rfl ?_
      refine st rfl rfl rfl rfl (rSub rfl rfl rfl (by omega) (by omega)) ?_
      iterate 2 refine pu rfl rfl rfl rfl rfl ?_
      refine st rfl rfl rfl rfl (rAdd rfl rfl rfl (by omega) (by omega)) ?_
      refine pu rfl rfl rfl rfl rfl ?_
      refine st rfl rfl rfl rfl (rSub rfl rfl rfl (by omega) (by omega)) ?_
      iterate 2 refine pu rfl rfl rfl rfl rfl ?_
      refine ef rfl rfl (eCallM1 rfl rfl rfl (slc_swr A n c zs (by omega) (by omega) (m - i) (m + j - i) i (by omega) (by omega) (by omega) (by omega) _) ⟨rfl, rfl, rfl, rfl, rfl, trivial⟩ ?_) 
      rintro _ _ ⟨rfl, us, rfl, hpu, hgu⟩
      refine tr_region fun _ _ _ => ?_
      iterate 2 refine pu rfl rfl rfl rfl rfl ?_
      refine st rfl rfl rfl rfl (rSub rfl rfl rfl (by omega) (by omega)) ?_
      refine pu rfl rfl rfl rfl rfl ?_
      refine ⟨i, j - i, us, ⟨rfl, rfl, rfl, rfl, rfl, trivial⟩, by first | exact cs _ _ | exact CSub.refl _, ?_⟩
      refine ⟨⟨⟨by omega, by omega, by omega, by omega⟩, hpu.trans hp, ?_⟩, by omega⟩
      rw [← hg, hgu, show (m - i).toNat = m.toNat - i.toNat by omega, show (m + j - i).toNat = m.toNat + j.toNat - i.toNat by omega, show (j - i).toNat = j.toNat - i.toNat by omega]
      exact rot_lt _ (by omega) (by omega)
  · try simp only [zbA] at h2
    refine tr_exit ?_
    refine tr_region fun _ _ _ => ?_
    iterate 3 refine pu rfl rfl rfl rfl rfl ?_
    refine st rfl rfl rfl rfl (rSub rfl rfl rfl (by omega) (by omega)) ?_
    iterate 3 refine pu rfl rfl rfl rfl rfl ?_
    refine ef rfl rfl (eCallM1 rfl rfl rfl (slc_swr A n c zs (by omega) (by omega) (m - i) m i (by omega) (by omega) (by omega) (by omega) _) ⟨rfl, rfl, rfl, rfl, rfl, trivial⟩ ?_) 
    rintro _ _ ⟨rfl, us, rfl, hpu, hgu⟩
    have hij : i = j := by omega
    have hfin : gd us = rot (gd xs) a.toNat m.toNat b.toNat := by
      rw [← hg, hgu, ← hij, show (m - i).toNat = m.toNat - i.toNat by omega]
      exact rot_eq _ (by omega)
    exact ⟨trivial, _, _, .nil, ⟨_, rfl, rfl, us, rfl, ⟨hpu.trans hp, hfin⟩⟩, cs _ _, trivial, trivial⟩
theorem slc_symS_ent : Enters Try.prog 71 := enters_of Try.func71 (by kernel_rfl) (by kernel_rfl)
theorem slc_symS (A : Option Addr) (n c : Nat) (xs : List Int) (hn : n = xs.length) (h9 : xs.length ≤ 1000000) (a m b : Int) (ha : 0 ≤ a) (ham : a < m) (hmb : m < b) (hb : b ≤ xs.length) (f : FuncId) (lb : List Value) (Gc : List Chunk) (r : Int → Int) (hr : ∀ x, 0 ≤ r x ∧ r x ≤ 4294967296) (hf : ∀ x ∈ xs, ∀ y ∈ xs, Pure Try.prog f ([Value.int .i64 x, Value.int .i64 y] ++ lb).toArray Gc (isV (.int .i64 (r y - r x)))) (hA : Srt r (gd xs) a.toNat m.toNat) (hB : Srt r (gd xs) m.toNat b.toNat) (hc : Crs r (gd xs) a.toNat m.toNat b.toNat) (ih : ∀ (xs' : List Int) (a' m' b' : Int), xs'.length = xs.length → xs'.Perm xs → 0 ≤ a' → a' < m' → m' < b' → b' ≤ xs.length → b' - a' < b - a → Srt r (gd xs') a'.toNat m'.toNat → Srt r (gd xs') m'.toNat b'.toNat → Crs r (gd xs') a'.toNat m'.toNat b'.toNat → Mut Try.prog 71 #[.slice A n c, .int .i64 a', .int .i64 m', .int .i64 b', .func (.func f) #[] lb.toArray] [ow A 3 c (ints xs')] [bun Gc] (one (fun v ch => v = .tuple #[] ∧ ∃ ys : List Int, ch = ow A 3 c (ints ys) ∧ SrtTo r xs' ys a'.toNat b'.toNat))) :
    Mut Try.prog 71 #[.slice A n c, .int .i64 a, .int .i64 m, .int .i64 b, .func (.func f) #[] lb.toArray] [ow A 3 c (ints xs)] [bun Gc] (one (fun v ch => v = .tuple #[] ∧ ∃ ys : List Int, ch = ow A 3 c (ints ys) ∧ SrtTo r xs ys a.toNat b.toNat)) := by
  refine mut_of (args := [.slice A n c, .int .i64 a, .int .i64 m, .int .i64 b, .func (.func f) #[] lb.toArray]) 220 (F := [ow A 3 c (ints xs), bun Gc]) rfl Try.func71 rfl rfl rfl slc_symS_ent (fun w0 => ?_)
  refine tr_seq ?_
  refine tr_seq ?_
  refine tr_region fun _ _ _ => ?_
  iterate 2 refine pu rfl rfl rfl rfl rfl ?_
  refine st rfl rfl rfl rfl (rSub rfl rfl rfl (by omega) (by omega)) ?_
  refine pu rfl rfl rfl rfl rfl ?_
  refine tr_cond_bool rfl (fun h0 => ?_) (fun h0 => ?_)
  · try simp only [zbA] at h0
    refine tr_seq ?_
    refine tr_region fun _ _ _ => ?_
    iterate 2 refine pu rfl rfl rfl rfl rfl ?_
    refine tr_seq ?_
    refine tr_region fun _ _ _ => ?_
    iterate 2 refine pu rfl rfl rfl rfl rfl ?_
    refine tr_seq ?_
    refine tr_block ?_
    refine tr_loop2 (fun (i : Int) (j : Int) => [(0, .slice A n c), (1, .int .i64 a), (2, .int .i64 m), (3, .int .i64 b), (4, .func (.func f) #[] lb.toArray), (10, .int .i64 i), (11, .int .i64 j)]) (fun (i : Int) (j : Int) => [ow A 3 c (ints xs), bun Gc]) (fun (i : Int) (j : Int) => (m ≤ i ∧ i ≤ j ∧ j ≤ b) ∧ (∀ u : Nat, a.toNat + 1 ≤ u → u < i.toNat → r (gd xs a.toNat) < r (gd xs u)) ∧ ∀ u : Nat, j.toNat ≤ u → u < b.toNat → r (gd xs u) ≤ r (gd xs a.toNat)) (fun (i : Int) (j : Int) => (j - i).toNat) (m) (b) ⟨rfl, rfl, rfl, rfl, rfl, rfl, rfl, trivial⟩ (by first | exact cs _ _ | exact CSub.refl _) (⟨⟨by omega, by omega, by omega⟩, fun u h1 h2 => by omega, fun u h1 h2 => by omega⟩) (fun i j hI => ?_)
    obtain ⟨⟨hi0, hij, hj1⟩, hlo, hup⟩ := hI
    refine tr_seq ?_
    refine tr_seq ?_
    refine tr_region fun _ _ _ => ?_
    iterate 3 refine pu rfl rfl rfl rfl rfl ?_
    refine tr_cond_bool rfl (fun h3 => ?_) (fun h3 => ?_)
    · try simp only [zbA] at h3
      refine tr_skip ?_
      refine tr_block ?_
      refine tr_seq ?_
      refine tr_region fun _ _ _ => ?_
      iterate 2 refine pu rfl rfl rfl rfl rfl ?_
      refine st rfl rfl rfl rfl (rAdd rfl rfl rfl (by omega) (by omega)) ?_
      refine st rfl rfl rfl rfl (rConv rfl undI undUint rfl (IntWalk.u64_in _ ⟨by omega, by omega⟩)) ?_
      refine st rfl rfl rfl rfl (rShr1 rfl rfl rfl) ?_
      refine st rfl rfl rfl rfl (rConv rfl undUint undI rfl (IntWalk.i64_in _ ⟨by omega, by omega⟩)) ?_
      refine pu rfl rfl rfl rfl rfl ?_
      refine tr_seq ?_
      have hm1 : xs.getD ((i + j) / 2).toNat 0 ∈ xs := getD_mem (show (((i + j) / 2).toNat) < xs.length by omega) 0
      have hm2 : xs.getD a.toNat 0 ∈ xs := getD_mem (show (a.toNat) < xs.length by omega) 0
      have hb1 := hr (xs.getD ((i + j) / 2).toNat 0)
      have hb2 := hr (xs.getD a.toNat 0)
      refine tr_draw [0, 1, 2, 3, 4, 5, 6, 7, 8, 9, 10] [] mixed (by kernel_rfl) fun _ _ _ => ?_
      iterate 3 refine pu rfl rfl rfl rfl rfl ?_
      refine st rfl rfl rfl rfl (rIdxI rfl rfl rfl (by omega) (by omega) (by omega)) ?_
      refine st rfl rfl rfl rfl (rLdI rfl rfl (by omega)) ?_
      iterate 2 refine pu rfl rfl rfl rfl rfl ?_
      refine st rfl rfl rfl rfl (rIdxI rfl rfl rfl (by omega) (by omega) (by omega)) ?_
      refine st rfl rfl rfl rfl (rLdI rfl rfl (by omega)) ?_
      refine ef rfl rfl (eCallFV rfl rfl rfl rfl (hf _ hm1 _ hm2) ⟨rfl, rfl, trivial⟩ ent_bun ?_) 
      refine pu rfl rfl rfl rfl rfl ?_
      refine tr_cond_bool rfl (fun h5 => ?_) (fun h5 => ?_)
      · try simp only [zbA] at h5
        refine tr_region fun _ _ _ => ?_
        refine pu rfl rfl rfl rfl rfl ?_
        refine st rfl rfl rfl rfl (rAdd rfl rfl rfl (by omega) (by omega)) ?_
        refine pu rfl rfl rfl rfl rfl ?_
        refine ⟨(i + j) / 2 + 1, j, ⟨rfl, rfl, rfl, rfl, rfl, rfl, rfl, trivial⟩, by first | exact cs _ _ | exact CSub.refl _, ?_⟩
        refine ⟨⟨⟨by omega, by omega, by omega⟩, fun u h1 h2 => ?_, hup⟩, by omega⟩
        have h5' : r (gd xs a.toNat) < r (gd xs ((i + j) / 2).toNat) := by show r (xs.getD _ 0) < r (xs.getD _ 0); omega
        by_cases e : u = ((i + j) / 2).toNat
        · rw [e]; exact h5'
        · have := hB u ((i + j) / 2).toNat (by omega) (by omega) (by omega)
          unfold ltO at this; omega
      · try simp only [zbA] at h5
        refine tr_region fun _ _ _ => ?_
        iterate 2 refine pu rfl rfl rfl rfl rfl ?_
        refine ⟨i, (i + j) / 2, ⟨rfl, rfl, rfl, rfl, rfl, rfl, rfl, trivial⟩, by first | exact cs _ _ | exact CSub.refl _, ?_⟩
        refine ⟨⟨⟨by omega, by omega, by omega⟩, hlo, fun u h1 h2 => ?_⟩, by omega⟩
        have h5' : r (gd xs ((i + j) / 2).toNat) ≤ r (gd xs a.toNat) := by show r (xs.getD _ 0) ≤ r (xs.getD _ 0); omega
        by_cases e : u = ((i + j) / 2).toNat
        · rw [e]; exact h5'
        · have := hB ((i + j) / 2).toNat u (by omega) (by omega) (by omega)
          unfold ltO at this; omega
    · try simp only [zbA] at h3
      refine tr_exit ?_
      refine tr_seq ?_
      refine tr_seq ?_
      refine tr_region fun _ _ _ => ?_
      iterate 2 refine pu rfl rfl rfl rfl rfl ?_
      refine tr_block ?_
      refine tr_loop2 (fun (k : Int) (zs : List Int) => [(0, .slice A n c), (10, .int .i64 i), (13, .int .i64 k), (1, .int .i64 a), (2, .int .i64 m), (3, .int .i64 b), (4, .func (.func f) #[] lb.toArray)]) (fun (k : Int) (zs : List Int) => [ow A 3 c (ints zs), bun Gc]) (fun (k : Int) (zs : List Int) => (a ≤ k ∧ k ≤ i - 1) ∧ zs.Perm xs ∧ gd zs = rot (gd xs) a.toNat (a.toNat + 1) (k.toNat + 1)) (fun (k : Int) (zs : List Int) => (i - k).toNat) (a) (xs) ⟨rfl, rfl, rfl, rfl, rfl, rfl, rfl, trivial⟩ (by first | exact cs _ _ | exact CSub.refl _) (⟨⟨by omega, by omega⟩, List.Perm.refl _, (rot_id _ (.inr rfl) (by omega)).symm⟩) (fun k zs hI => ?_)
      obtain ⟨⟨hk0, hk1⟩, hp, hg⟩ := hI
      have hzl := hp.length_eq
      refine tr_seq ?_
      refine tr_seq ?_
      refine tr_region fun _ _ _ => ?_
      iterate 2 refine pu rfl rfl rfl rfl rfl ?_
      refine st rfl rfl rfl rfl (rSub rfl rfl rfl (by omega) (by omega)) ?_
      refine pu rfl rfl rfl rfl rfl ?_
      refine tr_cond_bool rfl (fun h9 => ?_) (fun h9 => ?_)
      · try simp only [zbA] at h9
        refine tr_skip ?_
        refine tr_seq ?_
        refine tr_block ?_
        refine tr_plan [] [(0, 0), (0, 1), (2, 2), (2, 3), (2, 4), (0, 5), (0, 6), (0, 7), (0, 8), (0, 9), (0, 10), (0, 11), (0, 12), (0, 13), (0, 14), (1, 15), (0, 16), (1, 17)] mixed (by kernel_rfl) fun _ _ _ => ?_
        iterate 2 refine pu rfl rfl rfl rfl rfl ?_
        refine stF rfl rfl rfl rfl (cs _ _) (rMove rfl rfl) ?_
        refine stF rfl rfl rfl rfl (cs _ _) (rMove rfl rfl) ?_
        refine stF rfl rfl rfl rfl (cs _ _) (rAdd rfl rfl rfl (by omega) (by omega)) ?_
        iterate 2 refine pu rfl rfl rfl rfl rfl ?_
        refine st rfl rfl rfl rfl (rAdd rfl rfl rfl (by omega) (by omega)) ?_
        refine st rfl rfl rfl rfl (rIdxI rfl rfl rfl (by omega) (by omega) (by omega)) ?_
        refine st rfl rfl rfl rfl (rLdI rfl rfl (by omega)) ?_
        iterate 2 refine pu rfl rfl rfl rfl rfl ?_
        refine st rfl rfl rfl rfl (rIdxI rfl rfl rfl (by omega) (by omega) (by omega)) ?_
        refine st rfl rfl rfl rfl (rLdI rfl rfl (by omega)) ?_
        refine st rfl rfl rfl rfl (rIdxI rfl rfl rfl (by omega) (by omega) (by omega)) ?_
        refine ef rfl rfl (eStI rfl rfl rfl rfl (by omega) ?_) 
        refine ⟨cs _ _, ?_⟩
        refine st rfl rfl rfl rfl (rIdxI rfl rfl rfl (by omega) (by omega) (by rw [List.length_set]; omega)) ?_
        refine ef rfl rfl (eStI rfl rfl rfl rfl (by rw [List.length_set]; omega) ?_) 
        refine ⟨cs _ _, ?_⟩
        refine tr_region fun _ _ _ => ?_
        refine pu rfl rfl rfl rfl rfl ?_
        refine st rfl rfl rfl rfl (rAdd rfl rfl rfl (by omega) (by omega)) ?_
        refine pu rfl rfl rfl rfl rfl ?_
        refine ⟨k + 1, swL zs k.toNat (k + 1).toNat, ⟨rfl, rfl, rfl, rfl, rfl, rfl, rfl, trivial⟩, by first | exact cs _ _ | exact CSub.refl _, ?_⟩
        have e := gd_swL (xs := zs) (i := k.toNat) (j := (k + 1).toNat) (by omega) (by omega)
        refine ⟨⟨⟨by omega, by omega⟩, (swL_perm (by omega) (by omega)).trans hp, ?_⟩, by omega⟩
        rw [e, hg, show (k + 1).toNat = k.toNat + 1 by omega]
        exact rot_first_succ _ (by omega)
      · try simp only [zbA] at h9
        refine tr_exit ?_
        have hki : k = i - 1 := by omega
        rw [show k.toNat + 1 = i.toNat by omega] at hg
        have hms : m.toNat = a.toNat + 1 := by omega
        have hS := mrg_first (i := i.toNat) (hms ▸ hB) (hms ▸ hc) (by omega) (by omega) hlo (fun u h1 h2 => hup u (by omega) h2)
        exact tr_ret ⟨trivial, _, _, .nil, ⟨_, rfl, rfl, zs, rfl, SrtTo.of_rot hp hg (by omega) (by omega) (Nat.le_refl _) (by omega) hS⟩, cs _ _, trivial, trivial⟩
  · try simp only [zbA] at h0
    refine tr_skip ?_
    refine tr_seq ?_
    refine tr_seq ?_
    refine tr_region fun _ _ _ => ?_
    iterate 2 refine pu rfl rfl rfl rfl rfl ?_
    refine st rfl rfl rfl rfl (rSub rfl rfl rfl (by omega) (by omega)) ?_
    refine pu rfl rfl rfl rfl rfl ?_
    refine tr_cond_bool rfl (fun h12 => ?_) (fun h12 => ?_)
    · try simp only [zbA] at h12
      refine tr_seq ?_
      refine tr_region fun _ _ _ => ?_
      iterate 2 refine pu rfl rfl rfl rfl rfl ?_
      refine tr_seq ?_
      refine tr_region fun _ _ _ => ?_
      iterate 2 refine pu rfl rfl rfl rfl rfl ?_
      refine tr_seq ?_
      refine tr_block ?_
      refine tr_loop2 (fun (i : Int) (j : Int) => [(0, .slice A n c), (1, .int .i64 a), (2, .int .i64 m), (3, .int .i64 b), (4, .func (.func f) #[] lb.toArray), (14, .int .i64 i), (15, .int .i64 j)]) (fun (i : Int) (j : Int) => [ow A 3 c (ints xs), bun Gc]) (fun (i : Int) (j : Int) => (a ≤ i ∧ i ≤ j ∧ j ≤ m) ∧ (∀ u : Nat, a.toNat ≤ u → u < i.toNat → r (gd xs m.toNat) ≤ r (gd xs u)) ∧ ∀ u : Nat, j.toNat ≤ u → u < m.toNat → r (gd xs u) < r (gd xs m.toNat)) (fun (i : Int) (j : Int) => (j - i).toNat) (a) (m) ⟨rfl, rfl, rfl, rfl, rfl, rfl, rfl, trivial⟩ (by first | exact cs _ _ | exact CSub.refl _) (⟨⟨by omega, by omega, by omega⟩, fun u h1 h2 => by omega, fun u h1 h2 => by omega⟩) (fun i j hI => ?_)
      obtain ⟨⟨hi0, hij, hj1⟩, hlo, hup⟩ := hI
      refine tr_seq ?_
      refine tr_seq ?_
      refine tr_region fun _ _ _ => ?_
      iterate 3 refine pu rfl rfl rfl rfl rfl ?_
      refine tr_cond_bool rfl (fun h15 => ?_) (fun h15 => ?_)
      · try simp only [zbA] at h15
        refine tr_skip ?_
        refine tr_block ?_
        refine tr_seq ?_
        refine tr_region fun _ _ _ => ?_
        iterate 2 refine pu rfl rfl rfl rfl rfl ?_
        refine st rfl rfl rfl rfl (rAdd rfl rfl rfl (by omega) (by omega)) ?_
        refine st rfl rfl rfl rfl (rConv rfl undI undUint rfl (IntWalk.u64_in _ ⟨by omega, by omega⟩)) ?_
        refine st rfl rfl rfl rfl (rShr1 rfl rfl rfl) ?_
        refine st rfl rfl rfl rfl (rConv rfl undUint undI rfl (IntWalk.i64_in _ ⟨by omega, by omega⟩)) ?_
        refine pu rfl rfl rfl rfl rfl ?_
        refine tr_seq ?_
        have hm1 : xs.getD m.toNat 0 ∈ xs := getD_mem (show (m.toNat) < xs.length by omega) 0
        have hm2 : xs.getD ((i + j) / 2).toNat 0 ∈ xs := getD_mem (show (((i + j) / 2).toNat) < xs.length by omega) 0
        have hb1 := hr (xs.getD m.toNat 0)
        have hb2 := hr (xs.getD ((i + j) / 2).toNat 0)
        refine tr_draw [0, 1, 2, 3, 4, 5, 6, 7, 8, 9, 10, 11] [] mixed (by kernel_rfl) fun _ _ _ => ?_
        iterate 3 refine pu rfl rfl rfl rfl rfl ?_
        refine st rfl rfl rfl rfl (rIdxI rfl rfl rfl (by omega) (by omega) (by omega)) ?_
        refine st rfl rfl rfl rfl (rLdI rfl rfl (by omega)) ?_
        iterate 2 refine pu rfl rfl rfl rfl rfl ?_
        refine st rfl rfl rfl rfl (rIdxI rfl rfl rfl (by omega) (by omega) (by omega)) ?_
        refine st rfl rfl rfl rfl (rLdI rfl rfl (by omega)) ?_
        refine ef rfl rfl (eCallFV rfl rfl rfl rfl (hf _ hm1 _ hm2) ⟨rfl, rfl, trivial⟩ ent_bun ?_) 
        refine pu rfl rfl rfl rfl rfl ?_
        refine st rfl rfl rfl rfl (rNotB rfl rfl) ?_
        refine tr_cond_bool rfl (fun h17 => ?_) (fun h17 => ?_)
        · try simp only [zbA] at h17
          refine tr_region fun _ _ _ => ?_
          refine pu rfl rfl rfl rfl rfl ?_
          refine st rfl rfl rfl rfl (rAdd rfl rfl rfl (by omega) (by omega)) ?_
          refine pu rfl rfl rfl rfl rfl ?_
          refine ⟨(i + j) / 2 + 1, j, ⟨rfl, rfl, rfl, rfl, rfl, rfl, rfl, trivial⟩, by first | exact cs _ _ | exact CSub.refl _, ?_⟩
          refine ⟨⟨⟨by omega, by omega, by omega⟩, fun u h1 h2 => ?_, hup⟩, by omega⟩
          have h5' : r (gd xs m.toNat) ≤ r (gd xs ((i + j) / 2).toNat) := by show r (xs.getD _ 0) ≤ r (xs.getD _ 0); omega
          by_cases e : u = ((i + j) / 2).toNat
          · rw [e]; exact h5'
          · have := hA u ((i + j) / 2).toNat (by omega) (by omega) (by omega)
            unfold ltO at this; omega
        · try simp only [zbA] at h17
          refine tr_region fun _ _ _ => ?_
          iterate 2 refine pu rfl rfl rfl rfl rfl ?_
          refine ⟨i, (i + j) / 2, ⟨rfl, rfl, rfl, rfl, rfl, rfl, rfl, trivial⟩, by first | exact cs _ _ | exact CSub.refl _, ?_⟩
          refine ⟨⟨⟨by omega, by omega, by omega⟩, hlo, fun u h1 h2 => ?_⟩, by omega⟩
          have h5' : r (gd xs ((i + j) / 2).toNat) < r (gd xs m.toNat) := by show r (xs.getD _ 0) < r (xs.getD _ 0); omega
          by_cases e : u = ((i + j) / 2).toNat
          · rw [e]; exact h5'
          · have := hA ((i + j) / 2).toNat u (by omega) (by omega) (by omega)
            unfold ltO at this; omega
      · try simp only [zbA] at h15
        refine tr_exit ?_
        refine tr_seq ?_
        refine tr_seq ?_
        refine tr_region fun _ _ _ => ?_
        iterate 2 refine pu rfl rfl rfl rfl rfl ?_
        refine tr_block ?_
        refine tr_loop2 (fun (k : Int) (zs : List Int) => [(0, .slice A n c), (14, .int .i64 i), (17, .int .i64 k), (1, .int .i64 a), (2, .int .i64 m), (3, .int .i64 b), (4, .func (.func f) #[] lb.toArray)]) (fun (k : Int) (zs : List Int) => [ow A 3 c (ints zs), bun Gc]) (fun (k : Int) (zs : List Int) => (i ≤ k ∧ k ≤ m) ∧ zs.Perm xs ∧ gd zs = rot (gd xs) k.toNat m.toNat (m.toNat + 1)) (fun (k : Int) (zs : List Int) => (k - i).toNat) (m) (xs) ⟨rfl, rfl, rfl, rfl, rfl, rfl, rfl, trivial⟩ (by first | exact cs _ _ | exact CSub.refl _) (⟨⟨by omega, by omega⟩, List.Perm.refl _, (rot_id _ (.inl rfl) (Nat.le_refl _)).symm⟩) (fun k zs hI => ?_)
        obtain ⟨⟨hk0, hk1⟩, hp, hg⟩ := hI
        have hzl := hp.length_eq
        refine tr_seq ?_
        refine tr_seq ?_
        refine tr_region fun _ _ _ => ?_
        iterate 3 refine pu rfl rfl rfl rfl rfl ?_
        refine tr_cond_bool rfl (fun h21 => ?_) (fun h21 => ?_)
        · try simp only [zbA] at h21
          refine tr_skip ?_
          refine tr_seq ?_
          refine tr_block ?_
          refine tr_plan [] [(0, 0), (0, 1), (2, 2), (2, 3), (2, 4), (0, 5), (0, 6), (0, 7), (0, 8), (0, 9), (0, 10), (0, 11), (0, 12), (0, 13), (0, 14), (1, 15), (0, 16), (1, 17)] mixed (by kernel_rfl) fun _ _ _ => ?_
          iterate 2 refine pu rfl rfl rfl rfl rfl ?_
          refine stF rfl rfl rfl rfl (cs _ _) (rMove rfl rfl) ?_
          refine stF rfl rfl rfl rfl (cs _ _) (rMove rfl rfl) ?_
          refine stF rfl rfl rfl rfl (cs _ _) (rSub rfl rfl rfl (by omega) (by omega)) ?_
          iterate 2 refine pu rfl rfl rfl rfl rfl ?_
          refine st rfl rfl rfl rfl (rSub rfl rfl rfl (by omega) (by omega)) ?_
          refine st rfl rfl rfl rfl (rIdxI rfl rfl rfl (by omega) (by omega) (by omega)) ?_
          refine st rfl rfl rfl rfl (rLdI rfl rfl (by omega)) ?_
          iterate 2 refine pu rfl rfl rfl rfl rfl ?_
          refine st rfl rfl rfl rfl (rIdxI rfl rfl rfl (by omega) (by omega) (by omega)) ?_
          refine st rfl rfl rfl rfl (rLdI rfl rfl (by omega)) ?_
          refine st rfl rfl rfl rfl (rIdxI rfl rfl rfl (by omega) (by omega) (by omega)) ?_
          refine ef rfl rfl (eStI rfl rfl rfl rfl (by omega) ?_) 
          refine ⟨cs _ _, ?_⟩
          refine st rfl rfl rfl rfl (rIdxI rfl rfl rfl (by omega) (by omega) (by rw [List.length_set]; omega)) ?_
          refine ef rfl rfl (eStI rfl rfl rfl rfl (by rw [List.length_set]; omega) ?_) 
          refine ⟨cs _ _, ?_⟩
          refine tr_region fun _ _ _ => ?_
          refine pu rfl rfl rfl rfl rfl ?_
          refine st rfl rfl rfl rfl (rSub rfl rfl rfl (by omega) (by omega)) ?_
          refine pu rfl rfl rfl rfl rfl ?_
          refine ⟨k - 1, swL zs k.toNat (k - 1).toNat, ⟨rfl, rfl, rfl, rfl, rfl, rfl, rfl, trivial⟩, by first | exact cs _ _ | exact CSub.refl _, ?_⟩
          have e := gd_swL (xs := zs) (i := k.toNat) (j := (k - 1).toNat) (by omega) (by omega)
          refine ⟨⟨⟨by omega, by omega⟩, (swL_perm (by omega) (by omega)).trans hp, ?_⟩, by omega⟩
          rw [e, hg, show (k - 1).toNat = k.toNat - 1 by omega]
          exact rot_last_succ _ (by omega) (by omega)
        · try simp only [zbA] at h21
          refine tr_exit ?_
          have hki : k = i := by omega
          have hbs : b.toNat = m.toNat + 1 := by omega
          rw [hki] at hg
          have hS := mrg_last (i := i.toNat) hA (hbs ▸ hc) (by omega) (by omega) hlo (fun u h1 h2 => hup u (by omega) h2)
          rw [← hbs] at hS hg
          exact tr_ret ⟨trivial, _, _, .nil, ⟨_, rfl, rfl, zs, rfl, SrtTo.of_rot hp hg (by omega) (by omega) (by omega) (Nat.le_refl _) hS⟩, cs _ _, trivial, trivial⟩
    · try simp only [zbA] at h12
      refine tr_skip ?_
      refine tr_seq ?_
      refine tr_region fun _ _ _ => ?_
      iterate 2 refine pu rfl rfl rfl rfl rfl ?_
      refine st rfl rfl rfl rfl (rAdd rfl rfl rfl (by omega) (by omega)) ?_
      refine st rfl rfl rfl rfl (rConv rfl undI undUint rfl (IntWalk.u64_in _ ⟨by omega, by omega⟩)) ?_
      refine st rfl rfl rfl rfl (rShr1 rfl rfl rfl) ?_
      refine st rfl rfl rfl rfl (rConv rfl undUint undI rfl (IntWalk.i64_in _ ⟨by omega, by omega⟩)) ?_
      refine pu rfl rfl rfl rfl rfl ?_
      refine tr_seq ?_
      refine tr_region fun _ _ _ => ?_
      iterate 2 refine pu rfl rfl rfl rfl rfl ?_
      refine st rfl rfl rfl rfl (rAdd rfl rfl rfl (by omega) (by omega)) ?_
      refine pu rfl rfl rfl rfl rfl ?_
      refine tr_seq ?_
      refine tr_region fun _ _ _ => ?_
      iterate 2 refine pu rfl rfl rfl rfl rfl ?_
      refine tr_join (fun (q : Int × Int) => match q with | (s, q) => [(0, .slice A n c), (1, .int .i64 a), (2, .int .i64 m), (3, .int .i64 b), (4, .func (.func f) #[] lb.toArray), (18, .int .i64 ((a + b) / 2)), (19, .int .i64 ((a + b) / 2 + m)), (20, .int .i64 s), (21, .int .i64 q)]) (fun (q : Int × Int) => match q with | (s, q) => [ow A 3 c (ints xs), bun Gc]) (fun (q : Int × Int) => match q with | (s, q) => (a ≤ s ∧ s ≤ q ∧ q ≤ m ∧ q ≤ ((a + b) / 2) ∧ ((a + b) / 2 + m) - b ≤ s) ∧ (s = a ∨ ((a + b) / 2 + m) - s = b) ∧ (q = m ∨ ((a + b) / 2 + m) - q = m)) ?_ ?_
      · refine tr_seq ?_
        refine tr_region fun _ _ _ => ?_
        iterate 3 refine pu rfl rfl rfl rfl rfl ?_
        refine tr_cond_bool rfl (fun h27 => ?_) (fun h27 => ?_)
        · try simp only [zbA] at h27
          refine tr_seq ?_
          refine tr_region fun _ _ _ => ?_
          iterate 2 refine pu rfl rfl rfl rfl rfl ?_
          refine st rfl rfl rfl rfl (rSub rfl rfl rfl (by omega) (by omega)) ?_
          refine pu rfl rfl rfl rfl rfl ?_
          refine tr_region fun _ _ _ => ?_
          iterate 2 refine pu rfl rfl rfl rfl rfl ?_
          refine ⟨((((a + b) / 2 + m) - b), ((a + b) / 2)), ⟨rfl, rfl, rfl, rfl, rfl, rfl, rfl, rfl, rfl, trivial⟩, by first | exact cs _ _ | exact CSub.refl _, ?_⟩
          exact ⟨⟨by omega, by omega, by omega, by omega, by omega⟩, .inr (by omega), .inr (by omega)⟩
        · try simp only [zbA] at h27
          refine tr_seq ?_
          refine tr_region fun _ _ _ => ?_
          iterate 2 refine pu rfl rfl rfl rfl rfl ?_
          refine tr_region fun _ _ _ => ?_
          iterate 2 refine pu rfl rfl rfl rfl rfl ?_
          refine ⟨(a, m), ⟨rfl, rfl, rfl, rfl, rfl, rfl, rfl, rfl, rfl, trivial⟩, by first | exact cs _ _ | exact CSub.refl _, ?_⟩
          exact ⟨⟨by omega, by omega, by omega, by omega, by omega⟩, .inl rfl, .inl rfl⟩
      · rintro ⟨s, q⟩ hI
        obtain ⟨⟨hs1, hs2, hs3, hs4, hs5⟩, hse, hqe⟩ := hI
        refine tr_seq ?_
        refine tr_region fun _ _ _ => ?_
        refine pu rfl rfl rfl rfl rfl ?_
        refine st rfl rfl rfl rfl (rSub rfl rfl rfl (by omega) (by omega)) ?_
        refine pu rfl rfl rfl rfl rfl ?_
        refine tr_seq ?_
        refine tr_block ?_
        refine tr_loop2 (fun (s2 : Int) (q2 : Int) => [(0, .slice A n c), (1, .int .i64 a), (2, .int .i64 m), (3, .int .i64 b), (4, .func (.func f) #[] lb.toArray), (20, .int .i64 s2), (21, .int .i64 q2), (22, .int .i64 (((a + b) / 2 + m) - 1)), (18, .int .i64 ((a + b) / 2)), (19, .int .i64 ((a + b) / 2 + m))]) (fun (s2 : Int) (q2 : Int) => [ow A 3 c (ints xs), bun Gc]) (fun (s2 : Int) (q2 : Int) => (s ≤ s2 ∧ s2 ≤ q2 ∧ q2 ≤ q) ∧ (s2 = s ∨ r (gd xs (((a + b) / 2 + m) - s2).toNat) ≤ r (gd xs (s2 - 1).toNat)) ∧ (q2 = q ∨ r (gd xs q2.toNat) < r (gd xs (((a + b) / 2 + m) - q2 - 1).toNat))) (fun (s2 : Int) (q2 : Int) => (q2 - s2).toNat) (s) (q) ⟨rfl, rfl, rfl, rfl, rfl, rfl, rfl, rfl, rfl, rfl, trivial⟩ (by first | exact cs _ _ | exact CSub.refl _) (⟨⟨by omega, by omega, by omega⟩, .inl rfl, .inl rfl⟩) (fun s2 q2 hI => ?_)
        obtain ⟨⟨hs0, hsq, hq1⟩, hlo, hup⟩ := hI
        refine tr_seq ?_
        refine tr_seq ?_
        refine tr_region fun _ _ _ => ?_
        iterate 3 refine pu rfl rfl rfl rfl rfl ?_
        refine tr_cond_bool rfl (fun h33 => ?_) (fun h33 => ?_)
        · try simp only [zbA] at h33
          refine tr_skip ?_
          refine tr_block ?_
          refine tr_seq ?_
          refine tr_region fun _ _ _ => ?_
          iterate 2 refine pu rfl rfl rfl rfl rfl ?_
          refine st rfl rfl rfl rfl (rAdd rfl rfl rfl (by omega) (by omega)) ?_
          refine st rfl rfl rfl rfl (rConv rfl undI undUint rfl (IntWalk.u64_in _ ⟨by omega, by omega⟩)) ?_
          refine st rfl rfl rfl rfl (rShr1 rfl rfl rfl) ?_
          refine st rfl rfl rfl rfl (rConv rfl undUint undI rfl (IntWalk.i64_in _ ⟨by omega, by omega⟩)) ?_
          refine pu rfl rfl rfl rfl rfl ?_
          refine tr_seq ?_
          have hm1 : xs.getD (((a + b) / 2 + m) - 1 - (s2 + q2) / 2).toNat 0 ∈ xs := getD_mem (show ((((a + b) / 2 + m) - 1 - (s2 + q2) / 2).toNat) < xs.length by omega) 0
          have hm2 : xs.getD ((s2 + q2) / 2).toNat 0 ∈ xs := getD_mem (show (((s2 + q2) / 2).toNat) < xs.length by omega) 0
          have hb1 := hr (xs.getD (((a + b) / 2 + m) - 1 - (s2 + q2) / 2).toNat 0)
          have hb2 := hr (xs.getD ((s2 + q2) / 2).toNat 0)
          refine tr_draw [0, 1, 2, 3, 4, 5, 6, 7, 8, 9, 10, 11, 12, 13] [] mixed (by kernel_rfl) fun _ _ _ => ?_
          iterate 4 refine pu rfl rfl rfl rfl rfl ?_
          refine st rfl rfl rfl rfl (rSub rfl rfl rfl (by omega) (by omega)) ?_
          refine st rfl rfl rfl rfl (rIdxI rfl rfl rfl (by omega) (by omega) (by omega)) ?_
          refine st rfl rfl rfl rfl (rLdI rfl rfl (by omega)) ?_
          iterate 2 refine pu rfl rfl rfl rfl rfl ?_
          refine st rfl rfl rfl rfl (rIdxI rfl rfl rfl (by omega) (by omega) (by omega)) ?_
          refine st rfl rfl rfl rfl (rLdI rfl rfl (by omega)) ?_
          refine ef rfl rfl (eCallFV rfl rfl rfl rfl (hf _ hm1 _ hm2) ⟨rfl, rfl, trivial⟩ ent_bun ?_) 
          refine pu rfl rfl rfl rfl rfl ?_
          refine st rfl rfl rfl rfl (rNotB rfl rfl) ?_
          refine tr_cond_bool rfl (fun h35 => ?_) (fun h35 => ?_)
          · try simp only [zbA] at h35
            refine tr_region fun _ _ _ => ?_
            refine pu rfl rfl rfl rfl rfl ?_
            refine st rfl rfl rfl rfl (rAdd rfl rfl rfl (by omega) (by omega)) ?_
            refine pu rfl rfl rfl rfl rfl ?_
            refine ⟨(s2 + q2) / 2 + 1, q2, ⟨rfl, rfl, rfl, rfl, rfl, rfl, rfl, rfl, rfl, rfl, trivial⟩, by first | exact cs _ _ | exact CSub.refl _, ?_⟩
            refine ⟨⟨⟨by omega, by omega, by omega⟩, .inr ?_, hup⟩, by omega⟩
            rw [show (((a + b) / 2 + m) - ((s2 + q2) / 2 + 1)).toNat = (((a + b) / 2 + m) - 1 - (s2 + q2) / 2).toNat by omega, show ((s2 + q2) / 2 + 1 - 1).toNat = ((s2 + q2) / 2).toNat by omega]
            show r (xs.getD _ 0) ≤ r (xs.getD _ 0)
            omega
          · try simp only [zbA] at h35
            refine tr_region fun _ _ _ => ?_
            iterate 2 refine pu rfl rfl rfl rfl rfl ?_
            refine ⟨s2, (s2 + q2) / 2, ⟨rfl, rfl, rfl, rfl, rfl, rfl, rfl, rfl, rfl, rfl, trivial⟩, by first | exact cs _ _ | exact CSub.refl _, ?_⟩
            refine ⟨⟨⟨by omega, by omega, by omega⟩, hlo, .inr ?_⟩, by omega⟩
            rw [show (((a + b) / 2 + m) - (s2 + q2) / 2 - 1).toNat = (((a + b) / 2 + m) - 1 - (s2 + q2) / 2).toNat by omega]
            show r (xs.getD _ 0) < r (xs.getD _ 0)
            omega
        · try simp only [zbA] at h33
          refine tr_exit ?_
          refine tr_seq ?_
          refine tr_region fun _ _ _ => ?_
          iterate 2 refine pu rfl rfl rfl rfl rfl ?_
          refine st rfl rfl rfl rfl (rSub rfl rfl rfl (by omega) (by omega)) ?_
          refine pu rfl rfl rfl rfl rfl ?_
          refine tr_join (fun (q : (List Int)) => match q with | zs => [(0, .slice A n c), (1, .int .i64 a), (2, .int .i64 m), (3, .int .i64 b), (4, .func (.func f) #[] lb.toArray), (18, .int .i64 ((a + b) / 2)), (20, .int .i64 s2), (24, .int .i64 (((a + b) / 2 + m) - s2))]) (fun (q : (List Int)) => match q with | zs => [ow A 3 c (ints zs), bun Gc]) (fun (q : (List Int)) => match q with | zs => zs.Perm xs ∧ gd zs = rot (gd xs) s2.toNat m.toNat (((a + b) / 2 + m) - s2).toNat) ?_ ?_
          · refine tr_seq ?_
            refine tr_region fun _ _ _ => ?_
            iterate 4 refine pu rfl rfl rfl rfl rfl ?_
            refine stg rfl rfl rfl rfl rfl (fun hb => by (have hq := hb; try simp only [zbA] at hq); exact rMove rfl rfl) ?_
            refine stg rfl rfl rfl rfl rfl (fun hb => by (have hq := hb; try simp only [zbA] at hq); exact rMove rfl rfl) ?_
            refine stg rfl rfl rfl rfl rfl (fun hb => by (have hq := hb; try simp only [zbA] at hq); exact rLss rfl (evg rfl hb) (evg rfl hb)) ?_
            refine st rfl rfl rfl rfl (rAndB rfl rfl rfl rfl) ?_
            refine tr_cond_bool rfl (fun h39 => ?_) (fun h39 => ?_)
            · try simp only [zbA] at h39
              refine tr_region fun _ _ _ => ?_
              iterate 5 refine pu rfl rfl rfl rfl rfl ?_
              refine ef rfl rfl (eCallM1 rfl rfl rfl (slc_rot A n c xs hn h9 s2 m (((a + b) / 2 + m) - s2) (by omega) (by omega) (by omega) (by omega) _) ⟨rfl, rfl, rfl, rfl, rfl, trivial⟩ ?_) 
              rintro _ _ ⟨rfl, zs, rfl, hpz, hgz⟩
              refine ⟨(zs), ⟨rfl, rfl, rfl, rfl, rfl, rfl, rfl, rfl, trivial⟩, by first | exact cs _ _ | exact CSub.refl _, ?_⟩
              exact ⟨hpz, hgz⟩
            · try simp only [zbA] at h39
              refine tr_skip ?_
              refine ⟨(xs), ⟨rfl, rfl, rfl, rfl, rfl, rfl, rfl, rfl, trivial⟩, by first | exact cs _ _ | exact CSub.refl _, ?_⟩
              exact ⟨List.Perm.refl _, (rot_id _ (by omega) (by omega)).symm⟩
          · rintro zs hI
            obtain ⟨hpz, hgz⟩ := hI
            have hzl := hpz.length_eq
            have hH := half_of (mid := (((a + b) / 2)).toNat) (s := s2.toNat) hA hB hc (by omega) (by omega) (by omega) (by omega) (by omega) (by omega) (by omega) (by omega) (by
              rcases hlo with h | h
              · rcases hse with h' | h'
                · exact .inl (by omega)
                · exact .inr (.inl (by omega))
              · refine .inr (.inr ?_)
                rw [show (((a + b) / 2)).toNat + m.toNat - s2.toNat = (((a + b) / 2 + m) - s2).toNat by omega, show s2.toNat - 1 = (s2 - 1).toNat by omega]; exact h) (by
              rcases hup with h | h
              · rcases hqe with h' | h'
                · exact .inl (by omega)
                · exact .inr (.inl (by omega))
              · refine .inr (.inr ?_)
                rw [show (((a + b) / 2)).toNat + m.toNat - s2.toNat - 1 = (((a + b) / 2 + m) - q2 - 1).toNat by omega, show s2.toNat = q2.toNat by omega]; exact h)
            rw [show (((a + b) / 2)).toNat + m.toNat - s2.toNat = (((a + b) / 2 + m) - s2).toNat by omega, ← hgz] at hH
            refine tr_join (fun (q : (List Int)) => match q with | us => [(0, .slice A n c), (1, .int .i64 a), (2, .int .i64 m), (3, .int .i64 b), (4, .func (.func f) #[] lb.toArray), (18, .int .i64 ((a + b) / 2)), (24, .int .i64 (((a + b) / 2 + m) - s2))]) (fun (q : (List Int)) => match q with | us => [ow A 3 c (ints us), bun Gc]) (fun (q : (List Int)) => match q with | us => us.Perm zs ∧ Frm (gd zs) (gd us) a.toNat (((a + b) / 2)).toNat ∧ Srt r (gd us) a.toNat (((a + b) / 2)).toNat) ?_ ?_
            · refine tr_seq ?_
              refine tr_region fun _ _ _ => ?_
              iterate 4 refine pu rfl rfl rfl rfl rfl ?_
              refine stg rfl rfl rfl rfl rfl (fun hb => by (have hq := hb; try simp only [zbA] at hq); exact rMove rfl rfl) ?_
              refine stg rfl rfl rfl rfl rfl (fun hb => by (have hq := hb; try simp only [zbA] at hq); exact rMove rfl rfl) ?_
              refine stg rfl rfl rfl rfl rfl (fun hb => by (have hq := hb; try simp only [zbA] at hq); exact rLss rfl (evg rfl hb) (evg rfl hb)) ?_
              refine st rfl rfl rfl rfl (rAndB rfl rfl rfl rfl) ?_
              refine tr_cond_bool rfl (fun h41 => ?_) (fun h41 => ?_)
              · try simp only [zbA] at h41
                refine tr_region fun _ _ _ => ?_
                iterate 5 refine pu rfl rfl rfl rfl rfl ?_
                refine ef rfl rfl (eCallM1 rfl rfl rfl (ih zs a s2 ((a + b) / 2) (by omega) hpz (by omega) (by omega) (by omega) (by omega) (by omega) hH.s1 hH.s2 hH.c1) ⟨rfl, rfl, rfl, rfl, rfl, trivial⟩ ?_) 
                rintro _ _ ⟨rfl, us, rfl, hsu⟩
                refine ⟨(us), ⟨rfl, rfl, rfl, rfl, rfl, rfl, rfl, trivial⟩, by first | exact cs _ _ | exact CSub.refl _, ?_⟩
                exact ⟨hsu.perm, hsu.frm, hsu.srt⟩
              · try simp only [zbA] at h41
                refine tr_skip ?_
                refine ⟨(zs), ⟨rfl, rfl, rfl, rfl, rfl, rfl, rfl, trivial⟩, by first | exact cs _ _ | exact CSub.refl _, ?_⟩
                exact ⟨List.Perm.refl _, Frm.refl _ _ _, hH.s1.two hH.s2 (by omega)⟩
            · rintro us hI
              obtain ⟨hpu, hfu, hsu⟩ := hI
              have hul := hpu.length_eq
              refine tr_seq ?_
              refine tr_region fun _ _ _ => ?_
              iterate 4 refine pu rfl rfl rfl rfl rfl ?_
              refine stg rfl rfl rfl rfl rfl (fun hb => by (have hq := hb; try simp only [zbA] at hq); exact rMove rfl rfl) ?_
              refine stg rfl rfl rfl rfl rfl (fun hb => by (have hq := hb; try simp only [zbA] at hq); exact rMove rfl rfl) ?_
              refine stg rfl rfl rfl rfl rfl (fun hb => by (have hq := hb; try simp only [zbA] at hq); exact rLss rfl (evg rfl hb) (evg rfl hb)) ?_
              refine st rfl rfl rfl rfl (rAndB rfl rfl rfl rfl) ?_
              refine tr_cond_bool rfl (fun h43 => ?_) (fun h43 => ?_)
              · try simp only [zbA] at h43
                refine tr_region fun _ _ _ => ?_
                iterate 5 refine pu rfl rfl rfl rfl rfl ?_
                refine ef rfl rfl (eCallM1 rfl rfl rfl (ih us ((a + b) / 2) (((a + b) / 2 + m) - s2) b (by omega) (hpu.trans hpz) (by omega) (by omega) (by omega) (by omega) (by omega) (hH.s3.frm hfu (.inr (by omega))) (hH.s4.frm hfu (.inr (by omega))) (fun u v h1 h2 h3 h4 e => by rw [hfu.1 u (by omega), hfu.1 v (by omega)] at e ⊢; exact hH.c2 u v h1 h2 h3 h4 e)) ⟨rfl, rfl, rfl, rfl, rfl, trivial⟩ ?_) 
                rintro _ _ ⟨rfl, ws, rfl, hsw⟩
                have hfz : Frm (gd xs) (gd zs) a.toNat b.toNat := by rw [hgz]; exact (rot_frm _ (by omega) (by omega)).mono (by omega) (by omega)
                exact ⟨trivial, _, _, .nil, ⟨_, rfl, rfl, ws, rfl, ⟨hsw.perm.trans (hpu.trans hpz), (hfz.trans (hfu.mono (by omega) (by omega))).trans (hsw.frm.mono (by omega) (by omega)), half_done hH.all hfu hsw.frm hsu hsw.srt⟩⟩, cs _ _, trivial, trivial⟩
              · try simp only [zbA] at h43
                refine tr_skip ?_
                have hfz : Frm (gd xs) (gd zs) a.toNat b.toNat := by rw [hgz]; exact (rot_frm _ (by omega) (by omega)).mono (by omega) (by omega)
                have hs2 : Srt r (gd us) ((a + b) / 2).toNat b.toNat := (hH.s3.frm hfu (.inr (by omega))).two (hH.s4.frm hfu (.inr (by omega))) (by omega)
                exact ⟨trivial, _, _, .nil, ⟨_, rfl, rfl, us, rfl, ⟨hpu.trans hpz, hfz.trans (hfu.mono (by omega) (by omega)), half_done hH.all hfu (Frm.refl _ _ _) hsu hs2⟩⟩, cs _ _, trivial, trivial⟩
theorem slc_sym (A : Option Addr) (n c : Nat) (f : FuncId) (lb : List Value) (Gc : List Chunk) (r : Int → Int) (hr : ∀ x, 0 ≤ r x ∧ r x ≤ 4294967296) : ∀ (N : Nat) (xs : List Int) (hn : n = xs.length) (h9 : xs.length ≤ 1000000) (a m b : Int) (ha : 0 ≤ a) (ham : a < m) (hmb : m < b) (hb : b ≤ xs.length) (hN : (b - a).toNat ≤ N) (hf : ∀ x ∈ xs, ∀ y ∈ xs, Pure Try.prog f ([Value.int .i64 x, Value.int .i64 y] ++ lb).toArray Gc (isV (.int .i64 (r y - r x)))) (hA : Srt r (gd xs) a.toNat m.toNat) (hB : Srt r (gd xs) m.toNat b.toNat) (hc : Crs r (gd xs) a.toNat m.toNat b.toNat),
    Mut Try.prog 71 #[.slice A n c, .int .i64 a, .int .i64 m, .int .i64 b, .func (.func f) #[] lb.toArray] [ow A 3 c (ints xs)] [bun Gc] (one (fun v ch => v = .tuple #[] ∧ ∃ ys : List Int, ch = ow A 3 c (ints ys) ∧ SrtTo r xs ys a.toNat b.toNat))
  | 0, xs, hn, h9, a, m, b, ha, ham, hmb, hb, hN, hf, hA, hB, hc => by omega
  | N + 1, xs, hn, h9, a, m, b, ha, ham, hmb, hb, hN, hf, hA, hB, hc => by
    refine slc_symS A n c xs hn h9 a m b ha ham hmb hb f lb Gc r hr hf hA hB hc fun xs' a' m' b' hl hp h0 h1 h2 h3 h4 hA' hB' hc' => ?_
    exact slc_sym A n c f lb Gc r hr N xs' (by omega) (by omega) a' m' b' h0 h1 h2 (by omega) (by omega) (fun x hx y hy => hf x (hp.mem_iff.1 hx) y (hp.mem_iff.1 hy)) hA' hB' hc'
end Go.Proofs.Ytoalphamojhpcaa

set_option linter.unusedSimpArgs false
set_option linter.unusedVariables false
set_option maxRecDepth 100000
namespace Go.Proofs.Ytoalphamojhpcaa
open Go.RowKit
theorem slc_stab_ent : Enters Try.prog 56 := enters_of Try.func56 (by kernel_rfl) (by kernel_rfl)
theorem slc_stab (A : Option Addr) (n c : Nat) (xs : List Int) (hn : n = xs.length) (h9 : xs.length ≤ 1000000) (f : FuncId) (lb : List Value) (Gc : List Chunk) (r : Int → Int) (hr : ∀ x, 0 ≤ r x ∧ r x ≤ 4294967296) (hf : ∀ x ∈ xs, ∀ y ∈ xs, Pure Try.prog f ([Value.int .i64 x, Value.int .i64 y] ++ lb).toArray Gc (isV (.int .i64 (r y - r x)))) (ht : Tie r (gd xs) 0 xs.length) :
    Mut Try.prog 56 #[.slice A n c, .int .i64 n, .func (.func f) #[] lb.toArray] [ow A 3 c (ints xs)] [bun Gc] (one (fun v ch => v = .tuple #[] ∧ ∃ ys : List Int, ch = ow A 3 c (ints ys) ∧ ys.Perm xs ∧ Srt r (gd ys) 0 xs.length)) := by
  refine mut_of (args := [.slice A n c, .int .i64 n, .func (.func f) #[] lb.toArray]) 63 (F := [ow A 3 c (ints xs), bun Gc]) rfl Try.func56 rfl rfl rfl slc_stab_ent (fun w0 => ?_)
  refine tr_seq ?_
  refine tr_region fun _ _ _ => ?_
  refine pu rfl rfl rfl rfl rfl ?_
  refine tr_seq ?_
  refine tr_region fun _ _ _ => ?_
  iterate 3 refine pu rfl rfl rfl rfl rfl ?_
  refine tr_seq ?_
  refine tr_block ?_
  refine tr_loop3 (fun (a : Int) (b : Int) (ys : List Int) => [(6, .int .i64 20), (7, .int .i64 a), (8, .int .i64 b), (0, .slice A n c), (1, .int .i64 n), (2, .func (.func f) #[] lb.toArray)]) (fun (a : Int) (b : Int) (ys : List Int) => [ow A 3 c (ints ys), bun Gc]) (fun (a : Int) (b : Int) (ys : List Int) => (0 ≤ a ∧ b = a + 20 ∧ a ≤ n) ∧ 20 ∣ a.toNat ∧ ys.Perm xs ∧ Tie r (gd ys) 0 xs.length ∧ Blk r (gd ys) 20 xs.length a.toNat) (fun (a : Int) (b : Int) (ys : List Int) => (n + 20 - a).toNat) (0) (20) (xs) ⟨rfl, rfl, rfl, rfl, rfl, rfl, trivial⟩ (by first | exact cs _ _ | exact CSub.refl _) (⟨⟨by omega, by omega, by omega⟩, by omega, List.Perm.refl _, ht, fun c _ h => by omega⟩) (fun a b ys hI => ?_)
  obtain ⟨⟨ha0, hb0, han⟩, hdv, hp1, ht1, hbl⟩ := hI
  have hyl := hp1.length_eq
  refine tr_seq ?_
  refine tr_seq ?_
  refine tr_region fun _ _ _ => ?_
  iterate 3 refine pu rfl rfl rfl rfl rfl ?_
  refine tr_cond_bool rfl (fun h2 => ?_) (fun h2 => ?_)
  · try simp only [zbA] at h2
    refine tr_skip ?_
    refine tr_block ?_
    refine tr_seq ?_
    refine tr_region fun _ _ _ => ?_
    iterate 4 refine pu rfl rfl rfl rfl rfl ?_
    refine ef rfl rfl (eCallM1 rfl rfl rfl (slc_insF A n c ys (by omega) (by omega) a b (by omega) (by omega) (by omega) f lb Gc r hr (fun x hx y hy => hf x (hp1.mem_iff.1 hx) y (hp1.mem_iff.1 hy)) (ht1.sub (by omega) (by omega))) ⟨rfl, rfl, rfl, rfl, trivial⟩ ?_) 
    rintro _ _ ⟨rfl, zs, rfl, hsz⟩
    refine tr_seq ?_
    refine tr_region fun _ _ _ => ?_
    iterate 2 refine pu rfl rfl rfl rfl rfl ?_
    refine tr_region fun _ _ _ => ?_
    iterate 2 refine pu rfl rfl rfl rfl rfl ?_
    refine st rfl rfl rfl rfl (rAdd rfl rfl rfl (by omega) (by omega)) ?_
    refine pu rfl rfl rfl rfl rfl ?_
    refine ⟨b, (b + 20), zs, ⟨rfl, rfl, rfl, rfl, rfl, rfl, trivial⟩, by first | exact cs _ _ | exact CSub.refl _, ?_⟩
    have hpz := hsz.perm.trans hp1
    have hzl := hpz.length_eq
    have ht2 : Tie r (gd zs) 0 xs.length := ht1.frm hsz.frm hsz.srt.tie (by omega) (by omega)
    refine ⟨⟨⟨by omega, by omega, by omega⟩, by omega, hpz, ht2, ?_⟩, by omega⟩
    rw [show b.toNat = a.toNat + 20 by omega]
    refine blk_push (blk_frm hbl hsz.frm hdv (Nat.le_refl _)) hdv ?_
    rw [show min (a.toNat + 20) xs.length = b.toNat by omega]
    exact hsz.srt
  · try simp only [zbA] at h2
    refine tr_exit ?_
    refine tr_seq ?_
    refine tr_region fun _ _ _ => ?_
    iterate 4 refine pu rfl rfl rfl rfl rfl ?_
    refine ef rfl rfl (eCallM1 rfl rfl rfl (slc_insF A n c ys (by omega) (by omega) a n (by omega) (by omega) (by omega) f lb Gc r hr (fun x hx y hy => hf x (hp1.mem_iff.1 hx) y (hp1.mem_iff.1 hy)) (ht1.sub (by omega) (by omega))) ⟨rfl, rfl, rfl, rfl, trivial⟩ ?_) 
    rintro _ _ ⟨rfl, zs, rfl, hsz⟩
    have hpz := hsz.perm.trans hp1
    have hzl := hpz.length_eq
    have ht2 : Tie r (gd zs) 0 xs.length := ht1.frm hsz.frm hsz.srt.tie (by omega) (by omega)
    have hbl2 : Blk r (gd zs) (20 : Int).toNat xs.length xs.length := by
      by_cases han2 : a = n
      · have h1 := blk_frm hbl hsz.frm hdv (Nat.le_refl _)
        exact fun e he hen hen2 => h1 e he (by omega) hen2
      · have h1 := blk_push (blk_frm hbl hsz.frm hdv (Nat.le_refl _)) hdv (by
          rw [show min (a.toNat + 20) xs.length = (n : Int).toNat by omega]
          exact hsz.srt)
        exact fun e he hen hen2 => h1 e he (by omega) hen2
    refine tr_block ?_
    refine tr_loop2 (fun (bs : Int) (ys2 : List Int) => [(6, .int .i64 bs), (0, .slice A n c), (1, .int .i64 n), (2, .func (.func f) #[] lb.toArray)]) (fun (bs : Int) (ys2 : List Int) => [ow A 3 c (ints ys2), bun Gc]) (fun (bs : Int) (ys2 : List Int) => (1 ≤ bs ∧ bs ≤ 2000020) ∧ ys2.Perm xs ∧ Tie r (gd ys2) 0 xs.length ∧ Blk r (gd ys2) bs.toNat xs.length xs.length) (fun (bs : Int) (ys2 : List Int) => (4000041 - bs).toNat) (20) (zs) ⟨rfl, rfl, rfl, rfl, trivial⟩ (by first | exact cs _ _ | exact CSub.refl _) (⟨⟨by omega, by omega⟩, hpz, ht2, hbl2⟩) (fun bs ys2 hI => ?_)
    obtain ⟨⟨hbs0, hbs1⟩, hp2, ht3, hbl3⟩ := hI
    have hyl2 := hp2.length_eq
    refine tr_seq ?_
    refine tr_seq ?_
    refine tr_region fun _ _ _ => ?_
    iterate 3 refine pu rfl rfl rfl rfl rfl ?_
    refine tr_cond_bool rfl (fun h7 => ?_) (fun h7 => ?_)
    · try simp only [zbA] at h7
      refine tr_skip ?_
      refine tr_block ?_
      refine tr_seq ?_
      refine tr_region fun _ _ _ => ?_
      refine pu rfl rfl rfl rfl rfl ?_
      refine st rfl rfl rfl rfl (rMul rfl rfl rfl (by omega) (by omega)) ?_
      iterate 2 refine pu rfl rfl rfl rfl rfl ?_
      refine tr_seq ?_
      refine tr_block ?_
      refine tr_loop3 (fun (a : Int) (b : Int) (zs2 : List Int) => [(6, .int .i64 bs), (7, .int .i64 a), (8, .int .i64 b), (0, .slice A n c), (1, .int .i64 n), (2, .func (.func f) #[] lb.toArray), (28, .int .i64 bs), (29, .int .i64 n), (31, .int .i64 bs)]) (fun (a : Int) (b : Int) (zs2 : List Int) => [ow A 3 c (ints zs2), bun Gc]) (fun (a : Int) (b : Int) (zs2 : List Int) => (0 ≤ a ∧ b = a + 2 * bs ∧ a ≤ n) ∧ (2 * bs).toNat ∣ a.toNat ∧ zs2.Perm xs ∧ Tie r (gd zs2) 0 xs.length ∧ Blk r (gd zs2) (2 * bs).toNat xs.length a.toNat ∧ ∀ e : Nat, bs.toNat ∣ e → a.toNat ≤ e → e < xs.length → Srt r (gd zs2) e (min (e + bs.toNat) xs.length)) (fun (a : Int) (b : Int) (zs2 : List Int) => (n + 1 - a).toNat) (0) ((2 * bs)) (ys2) ⟨rfl, rfl, rfl, rfl, rfl, rfl, rfl, rfl, rfl, trivial⟩ (by first | exact cs _ _ | exact CSub.refl _) (⟨⟨by omega, by omega, by omega⟩, Nat.dvd_zero _, hp2, ht3, fun c _ h => by omega, fun e he _ hen => hbl3 e he hen hen⟩) (fun a b zs2 hI => ?_)
      obtain ⟨⟨ha0, hb0, han⟩, hdv, hp1, ht1, hbl, hrest⟩ := hI
      have hzl2 := hp1.length_eq
      have hdb : bs.toNat ∣ a.toNat := Nat.dvd_trans ⟨2, by omega⟩ hdv
      refine tr_seq ?_
      refine tr_seq ?_
      refine tr_region fun _ _ _ => ?_
      iterate 3 refine pu rfl rfl rfl rfl rfl ?_
      refine tr_cond_bool rfl (fun h9 => ?_) (fun h9 => ?_)
      · try simp only [zbA] at h9
        refine tr_skip ?_
        refine tr_block ?_
        refine tr_seq ?_
        have hA := hrest a.toNat hdb (Nat.le_refl _) (by omega)
        rw [show min (a.toNat + bs.toNat) xs.length = (a + bs).toNat by omega] at hA
        have hB := hrest (a + bs).toNat (by rw [show (a + bs).toNat = a.toNat + bs.toNat by omega]; exact Nat.dvd_add hdb (Nat.dvd_refl _)) (by omega) (by omega)
        rw [show min ((a + bs).toNat + bs.toNat) xs.length = b.toNat by omega] at hB
        have hC : Crs r (gd zs2) a.toNat (a + bs).toNat b.toNat := (ht1.sub (by omega) (by omega) : Tie r (gd zs2) a.toNat b.toNat).crs _
        refine tr_region fun _ _ _ => ?_
        iterate 4 refine pu rfl rfl rfl rfl rfl ?_
        refine st rfl rfl rfl rfl (rAdd rfl rfl rfl (by omega) (by omega)) ?_
        iterate 2 refine pu rfl rfl rfl rfl rfl ?_
        refine ef rfl rfl (eCallM1 rfl rfl rfl (slc_sym A n c f lb Gc r hr _ zs2 (by omega) (by omega) a (a + bs) b (by omega) (by omega) (by omega) (by omega) (Nat.le_refl _) (fun x hx y hy => hf x (hp1.mem_iff.1 hx) y (hp1.mem_iff.1 hy)) hA hB hC) ⟨rfl, rfl, rfl, rfl, rfl, trivial⟩ ?_) 
        rintro _ _ ⟨rfl, us, rfl, hsu⟩
        refine tr_seq ?_
        refine tr_region fun _ _ _ => ?_
        iterate 2 refine pu rfl rfl rfl rfl rfl ?_
        refine tr_region fun _ _ _ => ?_
        iterate 2 refine pu rfl rfl rfl rfl rfl ?_
        refine st rfl rfl rfl rfl (rMul rfl rfl rfl (by omega) (by omega)) ?_
        refine st rfl rfl rfl rfl (rAdd rfl rfl rfl (by omega) (by omega)) ?_
        refine pu rfl rfl rfl rfl rfl ?_
        refine ⟨b, (b + 2 * bs), us, ⟨rfl, rfl, rfl, rfl, rfl, rfl, rfl, rfl, rfl, trivial⟩, by first | exact cs _ _ | exact CSub.refl _, ?_⟩
        have hpu := hsu.perm.trans hp1
        have hul := hpu.length_eq
        refine ⟨⟨⟨by omega, by omega, by omega⟩, ?_, hpu, ht1.frm hsu.frm hsu.srt.tie (by omega) (by omega), ?_, fun e he hae hen => ?_⟩, by omega⟩
        · rw [show b.toNat = a.toNat + (2 * bs).toNat by omega]; exact Nat.dvd_add hdv (Nat.dvd_refl _)
        · rw [show b.toNat = a.toNat + (2 * bs).toNat by omega]
          refine blk_push (blk_frm hbl hsu.frm hdv (Nat.le_refl _)) hdv ?_
          rw [show min (a.toNat + (2 * bs).toNat) xs.length = b.toNat by omega]
          exact hsu.srt
        · exact (hrest e he (by omega) hen).frm hsu.frm (.inr (by omega))
      · try simp only [zbA] at h9
        refine tr_exit ?_
        refine tr_seq ?_
        refine tr_seq ?_
        refine tr_region fun _ _ _ => ?_
        iterate 2 refine pu rfl rfl rfl rfl rfl ?_
        refine st rfl rfl rfl rfl (rAdd rfl rfl rfl (by omega) (by omega)) ?_
        refine pu rfl rfl rfl rfl rfl ?_
        refine tr_seq ?_
        refine tr_region fun _ _ _ => ?_
        iterate 3 refine pu rfl rfl rfl rfl rfl ?_
        refine tr_cond_bool rfl (fun h14 => ?_) (fun h14 => ?_)
        · try simp only [zbA] at h14
          have hA := hrest a.toNat hdb (Nat.le_refl _) (by omega)
          rw [show min (a.toNat + bs.toNat) xs.length = (a + bs).toNat by omega] at hA
          have hB := hrest (a + bs).toNat (by rw [show (a + bs).toNat = a.toNat + bs.toNat by omega]; exact Nat.dvd_add hdb (Nat.dvd_refl _)) (by omega) (by omega)
          rw [show min ((a + bs).toNat + bs.toNat) xs.length = (n : Int).toNat by omega] at hB
          have hC : Crs r (gd zs2) a.toNat (a + bs).toNat (n : Int).toNat := (ht1.sub (by omega) (by omega) : Tie r (gd zs2) a.toNat (n : Int).toNat).crs _
          refine tr_region fun _ _ _ => ?_
          iterate 5 refine pu rfl rfl rfl rfl rfl ?_
          refine ef rfl rfl (eCallM1 rfl rfl rfl (slc_sym A n c f lb Gc r hr _ zs2 (by omega) (by omega) a (a + bs) n (by omega) (by omega) (by omega) (by omega) (Nat.le_refl _) (fun x hx y hy => hf x (hp1.mem_iff.1 hx) y (hp1.mem_iff.1 hy)) hA hB hC) ⟨rfl, rfl, rfl, rfl, rfl, trivial⟩ ?_) 
          rintro _ _ ⟨rfl, us, rfl, hsu⟩
          refine tr_region fun _ _ _ => ?_
          refine pu rfl rfl rfl rfl rfl ?_
          refine st rfl rfl rfl rfl (rMul rfl rfl rfl (by omega) (by omega)) ?_
          refine pu rfl rfl rfl rfl rfl ?_
          refine ⟨bs * 2, us, ⟨rfl, rfl, rfl, rfl, trivial⟩, by first | exact cs _ _ | exact CSub.refl _, ?_⟩
          have hpu := hsu.perm.trans hp1
          have hdv2 : bs.toNat ∣ a.toNat := Nat.dvd_trans ⟨2, by omega⟩ hdv
          have ht4 : Tie r (gd us) 0 xs.length := ht1.frm hsu.frm hsu.srt.tie (by omega) (by omega)
          refine ⟨⟨⟨by omega, by omega⟩, hpu, ht4, ?_⟩, by omega⟩
          rw [show (bs * 2).toNat = (2 * bs).toNat by omega]
          have h1 := blk_push (blk_frm hbl hsu.frm hdv (Nat.le_refl _)) hdv (by
            rw [show min (a.toNat + (2 * bs).toNat) xs.length = (n : Int).toNat by omega]
            exact hsu.srt)
          exact fun c hc hcn hcn2 => h1 c hc (by omega) hcn2
        · try simp only [zbA] at h14
          refine tr_skip ?_
          refine tr_region fun _ _ _ => ?_
          refine pu rfl rfl rfl rfl rfl ?_
          refine st rfl rfl rfl rfl (rMul rfl rfl rfl (by omega) (by omega)) ?_
          refine pu rfl rfl rfl rfl rfl ?_
          refine ⟨bs * 2, zs2, ⟨rfl, rfl, rfl, rfl, trivial⟩, by first | exact cs _ _ | exact CSub.refl _, ?_⟩
          refine ⟨⟨⟨by omega, by omega⟩, hp1, ht1, ?_⟩, by omega⟩
          rw [show (bs * 2).toNat = (2 * bs).toNat by omega]
          by_cases han2 : a = n
          · exact fun c hc hcn hcn2 => hbl c hc (by omega) hcn2
          · have h1 := blk_push hbl hdv (by
              have := hrest a.toNat (Nat.dvd_trans ⟨2, by omega⟩ hdv) (Nat.le_refl _) (by omega)
              rw [show min (a.toNat + bs.toNat) xs.length = xs.length by omega] at this
              rw [show min (a.toNat + (2 * bs).toNat) xs.length = xs.length by omega]
              exact this)
            exact fun c hc hcn hcn2 => h1 c hc (by omega) hcn2
    · try simp only [zbA] at h7
      refine tr_exit ?_
      have hfin : Srt r (gd ys2) 0 xs.length := by
        by_cases h0 : xs.length = 0
        · exact fun u v h1 h2 h3 => by omega
        · have := hbl3 0 (Nat.dvd_zero _) (by omega) (by omega)
          rwa [show min (0 + bs.toNat) xs.length = xs.length by omega] at this
      exact ⟨trivial, _, _, .nil, ⟨_, rfl, rfl, ys2, rfl, ⟨hp2, hfin⟩⟩, cs _ _, trivial, trivial⟩
theorem slc_SortStab_ent : Enters Try.prog 39 := enters_of Try.func39 (by kernel_rfl) (by kernel_rfl)
theorem slc_SortStab (A : Option Addr) (n c : Nat) (xs : List Int) (hn : n = xs.length) (h9 : xs.length ≤ 1000000) (f : FuncId) (lb : List Value) (Gc : List Chunk) (r : Int → Int) (hr : ∀ x, 0 ≤ r x ∧ r x ≤ 4294967296) (hf : ∀ x ∈ xs, ∀ y ∈ xs, Pure Try.prog f ([Value.int .i64 x, Value.int .i64 y] ++ lb).toArray Gc (isV (.int .i64 (r y - r x)))) (ht : Tie r (gd xs) 0 xs.length) :
    Mut Try.prog 39 #[.slice A n c, .func (.func f) #[] lb.toArray] [ow A 3 c (ints xs)] [bun Gc] (one (fun v ch => v = .tuple #[] ∧ ∃ ys : List Int, ch = ow A 3 c (ints ys) ∧ ys.Perm xs ∧ Srt r (gd ys) 0 xs.length)) := by
  refine mut_of (args := [.slice A n c, .func (.func f) #[] lb.toArray]) 9 (F := [ow A 3 c (ints xs), bun Gc]) rfl Try.func39 rfl rfl rfl slc_SortStab_ent (fun w0 => ?_)
  refine tr_region fun _ _ _ => ?_
  iterate 2 refine pu rfl rfl rfl rfl rfl ?_
  refine st rfl rfl rfl rfl (rLen rfl rfl) ?_
  refine pu rfl rfl rfl rfl rfl ?_
  refine ef rfl rfl (eCallM1 rfl rfl rfl (slc_stab A n c xs hn h9 f lb Gc r hr hf ht) ⟨rfl, rfl, rfl, trivial⟩ ?_) 
  rintro _ _ ⟨rfl, ys, rfl, hpy, hsy⟩
  exact ⟨trivial, _, _, .nil, ⟨_, rfl, rfl, ys, rfl, ⟨hpy, hsy⟩⟩, cs _ _, trivial, trivial⟩
def rlF (ts : List RowM) : Int → Int := fun x => (relL ts).getD x.toNat 0
theorem sec_hi {r : List Int} {q : Int} (h : RowOk q r) (h2 : 2 ≤ q) : 0 ≤ relI r ∧ relI r ≤ 2147483648 := by
  have hl := h.1
  have h0 : 0 < r.length := by omega
  have hh := hardI_lt h0
  have hb := sec_bd (b := hardI r) h.2 (by omega) r.length (Nat.le_refl _)
  have ha := h.at (hardI r)
  have hn : ∃ j, j < r.length ∧ j ≠ hardI r := by
    by_cases e : hardI r = 0
    · exact ⟨1, by omega, by omega⟩
    · exact ⟨0, h0, fun e' => e e'.symm⟩
  have hnn := sec_nn (b := hardI r) (fun x hx => (h.2 x hx).1) r.length (Nat.le_refl _) hn
  have hge : r.getD (hardI r) 0 ≤ sec r (hardI r) r.length := by
    have key : ∀ k, k ≤ r.length → 0 ≤ sec r (hardI r) k → r.getD (hardI r) 0 ≤ sec r (hardI r) k := fun k => by
      induction k with
      | zero => intro _ h; rw [sec] at h; omega
      | succ k ih =>
        intro hk
        rw [sec]
        split
        · intro _; exact hardI_min (by omega)
        · exact ih (by omega)
    exact key _ (Nat.le_refl _) hnn
  unfold relI
  omega
theorem rlF_bd {ts : List RowM} {q : Int} (htr : ∀ r ∈ ts, RowOk q r.xs) (h2 : 2 ≤ q) (x : Int) : 0 ≤ rlF ts x ∧ rlF ts x ≤ 2147483648 := by
  unfold rlF
  by_cases h : x.toNat < ts.length
  · rw [relL_getD ts h]; exact sec_hi (htr _ (getD_mem h _)) h2
  · rw [getD_out (by rw [relL_length]; omega)]; omega
end Go.Proofs.Ytoalphamojhpcaa

set_option linter.unusedSimpArgs false
set_option linter.unusedVariables false
set_option maxRecDepth 100000
namespace Go.Proofs.Ytoalphamojhpcaa
open Go.RowKit
theorem ref_Pick_ent : Enters Try.prog 29 := enters_of Try.func29 (by kernel_rfl) (by kernel_rfl)
theorem ref_Pick (X : Option Addr) (nx cx : Nat) (l : List Int) (hnx : nx = l.length) (hl : l.length ≤ 1000000) (Q : Option Addr) (nq cq : Nat) (os : List Int) (hnq : nq = os.length) (hq9 : os.length ≤ 1000000) (hos : ∀ i ∈ os, 0 ≤ i ∧ i < l.length) :
    Pure Try.prog 29 #[.slice X nx cx, .slice Q nq cq] [ro X (ints l), ro Q (ints os)] (one (fun v ch => ∃ B cb, v = .slice B nq cb ∧ ch = ow B 3 cb (ints (pkL os l)))) := by
  refine pure_of (args := [.slice X nx cx, .slice Q nq cq]) 27 Try.func29 rfl rfl rfl ref_Pick_ent ⟨id, id, trivial⟩ (fun w0 => ?_)
  refine tr_seq ?_
  refine tr_region fun _ _ _ => ?_
  refine pu rfl rfl rfl rfl rfl ?_
  refine tr_seq ?_
  refine tr_region fun _ _ _ => ?_
  refine pu rfl rfl rfl rfl rfl ?_
  refine st rfl rfl rfl rfl (rLen rfl rfl) ?_
  refine ef rfl rfl (eMakeI rfl rfl rfl rfl rfl (by omega) (by omega) (by omega) (fun A1 => ?_)) 
  refine pu rfl rfl rfl rfl rfl ?_
  simp only [Int.toNat_natCast]
  refine tr_seq ?_
  refine tr_seq ?_
  refine tr_region fun _ _ _ => ?_
  refine pu rfl rfl rfl rfl rfl ?_
  refine tr_block ?_
  refine tr_loop2 (fun (k : Int) (o : List Int) => [(5, .slice A1 nq nq), (6, .int .i64 k), (0, .slice X nx cx), (1, .slice Q nq cq), (4, .slice none 0 0)]) (fun (k : Int) (o : List Int) => [ow A1 3 nq (ints o), ro X (ints l), ro Q (ints os)]) (fun (k : Int) (o : List Int) => (0 ≤ k ∧ k ≤ nq) ∧ o.length = nq ∧ ∀ j : Nat, (j : Int) < k → o.getD j 0 = l.getD (os.getD j 0).toNat 0) (fun (k : Int) (o : List Int) => (nq - k).toNat) (0) (List.replicate nq 0) ⟨rfl, rfl, rfl, rfl, rfl, trivial⟩ (by first | exact cs _ _ | exact CSub.refl _) (⟨⟨by omega, by omega⟩, by simp, fun j hj => by omega⟩) (fun k o hI => ?_)
  obtain ⟨⟨hk0, hk1⟩, hol, ho⟩ := hI
  refine tr_seq ?_
  refine tr_seq ?_
  refine tr_region fun _ _ _ => ?_
  iterate 2 refine pu rfl rfl rfl rfl rfl ?_
  refine st rfl rfl rfl rfl (rLen rfl rfl) ?_
  refine pu rfl rfl rfl rfl rfl ?_
  refine tr_cond_bool rfl (fun h3 => ?_) (fun h3 => ?_)
  · try simp only [zbA] at h3
    refine tr_skip ?_
    refine tr_seq ?_
    refine tr_block ?_
    have hb := hos _ (getD_mem (show k.toNat < os.length by omega) 0)
    refine tr_region fun _ _ _ => ?_
    iterate 5 refine pu rfl rfl rfl rfl rfl ?_
    refine st rfl rfl rfl rfl (rIdxI rfl rfl rfl (by omega) (by omega) (by omega)) ?_
    refine st rfl rfl rfl rfl (rLdI rfl rfl (by omega)) ?_
    refine st rfl rfl rfl rfl (rIdxI rfl rfl rfl (by omega) (by omega) (by omega)) ?_
    refine st rfl rfl rfl rfl (rLdI rfl rfl (by omega)) ?_
    refine st rfl rfl rfl rfl (rIdxI rfl rfl rfl (by omega) (by omega) (by omega)) ?_
    refine ef rfl rfl (eStI rfl rfl rfl rfl (by omega) ?_) 
    refine tr_region fun _ _ _ => ?_
    refine pu rfl rfl rfl rfl rfl ?_
    refine st rfl rfl rfl rfl (rAdd rfl rfl rfl (by omega) (by omega)) ?_
    refine pu rfl rfl rfl rfl rfl ?_
    refine ⟨k + 1, o.set k.toNat (l.getD (os.getD k.toNat 0).toNat 0), ⟨rfl, rfl, rfl, rfl, rfl, trivial⟩, by first | exact cs _ _ | exact CSub.refl _, ?_⟩
    refine ⟨⟨⟨by omega, by omega⟩, by simpa using hol, fun j hj => ?_⟩, by omega⟩
    rw [getD_set]
    by_cases he : k.toNat = j
    · subst he; rw [if_pos ⟨rfl, by omega⟩]
    · rw [if_neg (fun h => he h.1)]; exact ho j (by omega)
  · try simp only [zbA] at h3
    refine tr_exit ?_
    refine tr_seq ?_
    refine tr_region fun _ _ _ => ?_
    iterate 2 refine pu rfl rfl rfl rfl rfl ?_
    have hfin : o = pkL os l := ext_getD (by rw [pkL_length]; omega) fun j => by
      by_cases hj : j < os.length
      · rw [pkL_getD hj]; exact ho j (by omega)
      · rw [getD_out (by omega), getD_out (by rw [pkL_length]; omega)]
    subst hfin
    exact tr_ret ⟨trivial, _, _, rfl, ⟨_, rfl, A1, nq, rfl, rfl⟩, cs _ _, trivial, trivial⟩
theorem ref_Indep_ent : Enters Try.prog 18 := enters_of Try.func18 (by kernel_rfl) (by kernel_rfl)
theorem ref_Indep (p m : Int) (A : Option Addr) (c : Nat) (mod : List Int) [hF : IsF p m mod] (w : Int) (Aa : Option Addr) (n ca : Nat) (rs : List RowM) (hn : n = rs.length) (h9 : rs.length ≤ 256) (hc : CodeOk p m mod w rs) (Q : Option Addr) (nq cq : Nat) (os : List Int) (hnq : nq = os.length) (hq9 : os.length ≤ 1000) (hos : ∀ i ∈ os, 0 ≤ i ∧ i < w) :
    Pure Try.prog 18 #[.agg #[.int .i64 p, .int .i64 m, .slice A mod.length c, .int .i64 w, .slice Aa n ca], .slice Q nq cq] [ro A (ints mod), ro Aa (hdrs rs), rowsR rs, ro Q (ints os)] (isV (.bool (indB p m mod rs os))) := by
  have hl9 := hF.short
  have hn1 := hc.n1
  have hn64 := hc.n64
  have hlen := hc.len
  have hgd := hc.good
  have h8 := hgd.h8 (N := 17592186044415) (by omega)
  have hck := hc.zero
  have hq2 := hF.q2
  refine pure_of (args := [.agg #[.int .i64 p, .int .i64 m, .slice A mod.length c, .int .i64 w, .slice Aa n ca], .slice Q nq cq]) 40 Try.func18 rfl rfl rfl ref_Indep_ent ⟨id, id, id, id, trivial⟩ (fun w0 => ?_)
  refine tr_seq ?_
  refine tr_region fun _ _ _ => ?_
  refine ef rfl rfl (eBox rfl rfl rfl rfl rfl (fun p0 => ?_)) 
  refine pu rfl rfl rfl rfl rfl ?_
  refine tr_seq ?_
  refine tr_region fun _ _ _ => ?_
  refine pu rfl rfl rfl rfl rfl ?_
  refine tr_seq ?_
  refine tr_seq ?_
  refine tr_region fun _ _ _ => ?_
  refine pu rfl rfl rfl rfl rfl ?_
  refine tr_block ?_
  refine tr_nilR 22 3 ?_
  refine tr_loop4 (fun (k : Int) (AQ : Option Addr) (c2 : Nat) (qs : List RowM) => [(5, .slice AQ qs.length c2), (6, .int .i64 k), (1, .slice Q nq cq), (2, .pointer (some p0)), (4, .bool false)]) (fun (k : Int) (AQ : Option Addr) (c2 : Nat) (qs : List RowM) => [ow AQ 22 c2 (hdrs qs), rowsCh 3 qs, blk p0 27 [.int .i64 p, .int .i64 m, .slice A mod.length c, .int .i64 w, .slice Aa n ca], ro A (ints mod), ro Aa (hdrs rs), rowsR rs, ro Q (ints os)]) (fun (k : Int) (AQ : Option Addr) (c2 : Nat) (qs : List RowM) => (0 ≤ k ∧ k ≤ n) ∧ xss qs = ((xss rs).take k.toNat).map (pkL os)) (fun (k : Int) (AQ : Option Addr) (c2 : Nat) (qs : List RowM) => (n - k).toNat) (0) (none) (0) ([]) ⟨rfl, rfl, rfl, rfl, rfl, trivial⟩ (by first | exact cs _ _ | exact CSub.refl _) (⟨⟨by omega, by omega⟩, rfl⟩) (fun k AQ c2 qs hI => ?_)
  obtain ⟨⟨hk0, hk1⟩, hqs⟩ := hI
  have hql : qs.length = k.toNat := by have := congrArg List.length hqs; simp at this; omega
  refine tr_seq ?_
  refine tr_seq ?_
  refine tr_region fun _ _ _ => ?_
  refine pu rfl rfl rfl rfl rfl ?_
  refine st rfl rfl rfl rfl (rFld rfl rfl) ?_
  refine st rfl rfl rfl rfl (rLdF rfl rfl rfl) ?_
  refine st rfl rfl rfl rfl (rLen rfl rfl) ?_
  refine pu rfl rfl rfl rfl rfl ?_
  refine tr_cond_bool rfl (fun h3 => ?_) (fun h3 => ?_)
  · try simp only [zbA] at h3
    refine tr_skip ?_
    refine tr_seq ?_
    refine tr_block ?_
    haveI : InB k.toNat rs.length := ⟨by omega⟩
    have hgk := hgd.get (show k.toNat < rs.length by omega)
    have hgk1 := hgk.1
    refine tr_region fun _ _ _ => ?_
    refine pu rfl rfl rfl rfl rfl ?_
    refine st rfl rfl rfl rfl (rFld rfl rfl) ?_
    refine st rfl rfl rfl rfl (rLdF rfl rfl rfl) ?_
    refine pu rfl rfl rfl rfl rfl ?_
    refine st rfl rfl rfl rfl (rIdxR rfl rfl rfl (by omega) (by omega) (by omega)) ?_
    refine st rfl rfl rfl rfl (rLdR rfl rfl (by omega)) ?_
    refine pu rfl rfl rfl rfl rfl ?_
    refine ef rfl rfl (eCall1 rfl rfl rfl (ref_Pick _ _ _ (rs.getD k.toNat rowD).xs rfl (by omega) Q nq cq os hnq (by omega) (fun i hi => by have := hos i hi; omega)) ⟨rfl, rfl, trivial⟩ ?_) 
    rintro _ _ ⟨B5, cp5, rfl, rfl⟩
    refine ef rfl rfl (eLit1 rfl rfl rfl rfl rfl (fun A5a => ?_)) 
    refine ef rfl rfl (eAppRn (pkL os (rs.getD k.toNat rowD).xs) (by rw [pkL_length]; omega) rfl rfl rfl rfl rfl (by first | rfl | simp) (by omega) (fun A5b c5b => ?_)) 
    refine pu rfl rfl rfl rfl rfl ?_
    refine tr_region fun _ _ _ => ?_
    refine pu rfl rfl rfl rfl rfl ?_
    refine st rfl rfl rfl rfl (rAdd rfl rfl rfl (by omega) (by omega)) ?_
    refine pu rfl rfl rfl rfl rfl ?_
    refine ⟨k + 1, A5b, c5b, qs ++ [⟨B5, cp5, pkL os (rs.getD k.toNat rowD).xs⟩], ⟨rfl, rfl, rfl, rfl, rfl, trivial⟩, by exact rows_app, ?_⟩
    refine ⟨⟨⟨by omega, by omega⟩, ?_⟩, by omega⟩
    rw [show (k + 1).toNat = k.toNat + 1 by omega, xss_take1 (by omega), xss_snoc, hqs, List.map_append]; rfl
  · try simp only [zbA] at h3
    refine tr_exit ?_
    refine tr_seq ?_
    have hkr : (xss rs).take k.toNat = xss rs := List.take_of_length_le (by rw [xss_length]; omega)
    rw [hkr] at hqs
    have hgq : Gd (pw p m) (nq : Int).toNat qs := by
      have := gd_pk (by omega) hgd hqs
      rwa [show (nq : Int).toNat = os.length by omega]
    refine tr_region fun _ _ _ => ?_
    refine st rfl rfl rfl rfl (rFld rfl rfl) ?_
    refine st rfl rfl rfl rfl (rLdSF rfl rfl) ?_
    iterate 2 refine pu rfl rfl rfl rfl rfl ?_
    refine st rfl rfl rfl rfl (rLen rfl rfl) ?_
    refine ef rfl rfl (eCall3 rfl rfl rfl (ref_RCanon _ _ _ _ _ (nq : Int) (by omega) (by omega) AQ _ c2 qs rfl (by omega) hgq) ⟨rfl, rfl, rfl, trivial⟩ ?_) 
    rintro _ _ _ _ ⟨r3, B6, cg6, Bp6, cp6, ps6, rfl, rfl, rfl, rfl, hR6, hk6⟩
    iterate 5 refine pu rfl rfl rfl rfl rfl ?_
    refine tr_seq ?_
    refine tr_region fun _ _ _ => ?_
    refine pu rfl rfl rfl rfl rfl ?_
    refine st rfl rfl rfl rfl (rLen rfl rfl) ?_
    refine pu rfl rfl rfl rfl rfl ?_
    refine st rfl rfl rfl rfl (rLen rfl rfl) ?_
    iterate 2 refine pu rfl rfl rfl rfl rfl ?_
    obtain ⟨qq, hpq, hrq⟩ := hR6.form
    have hspq := hR6.span
    rw [vsR_pk hqs] at hspq
    rw [show (nq : Int).toNat = (os.map Int.toNat).length by rw [List.length_map]; omega] at hrq
    have hii := Vc.ind_iff hrq hspq
    have hpl : ps6.length = qq.length := by rw [hpq, List.length_map]
    rw [List.length_map] at hii
    have hval : indB p m mod rs os = decide ((ps6.length : Int) = nq) := Bool.eq_iff_iff.2 (by rw [indB_iff, ← hii, decide_eq_true_iff]; omega)
    exact tr_ret ⟨trivial, _, _, rfl, ⟨by rw [hval], rfl⟩, CSub.nil _, trivial⟩
theorem mat_Columns_ent : Enters Try.prog 41 := enters_of Try.func41 (by kernel_rfl) (by kernel_rfl)
theorem mat_Columns (p m : Int) (A : Option Addr) (c : Nat) (mod : List Int) [hF : IsF p m mod] (w : Int) (Aa : Option Addr) (n ca : Nat) (rs : List RowM) (hn : n = rs.length) (h9 : rs.length ≤ 256) (hc : CodeOk p m mod w rs) (Q : Option Addr) (nq cq : Nat) (os : List Int) (hnq : nq = os.length) (hq9 : os.length ≤ 256) (hos : ∀ i ∈ os, 0 ≤ i ∧ i < w) :
    Pure Try.prog 41 #[.agg #[.int .i64 p, .int .i64 m, .slice A mod.length c], .agg #[.int .i64 w, .slice Aa n ca], .slice Q nq cq] [ro A (ints mod), ro Aa (hdrs rs), rowsR rs, ro Q (ints os)] (two (fun v ca cb => ∃ B cb2 r3, v = .tuple #[.agg #[.int .i64 nq, .slice B r3.length cb2], .int .i64 0] ∧ ca = ow B 22 cb2 (hdrs r3) ∧ cb = rowsCh 3 r3 ∧ xss r3 = (xss rs).map (pkL os))) := by
  have hl9 := hF.short
  have hn1 := hc.n1
  have hn64 := hc.n64
  have hlen := hc.len
  have hgd := hc.good
  have h8 := hgd.h8 (N := 17592186044415) (by omega)
  have hck := hc.zero
  have hq2 := hF.q2
  refine pure_ofC (args := [.agg #[.int .i64 p, .int .i64 m, .slice A mod.length c], .agg #[.int .i64 w, .slice Aa n ca], .slice Q nq cq]) 85 Try.func41 rfl rfl rfl mat_Columns_ent ⟨id, id, id, id, trivial⟩ (fun w0 => ?_)
  refine tr_seq ?_
  refine tr_region fun _ _ _ => ?_
  refine ef rfl rfl (eBox rfl rfl rfl rfl rfl (fun p0 => ?_)) 
  refine ef rfl rfl (eBox rfl rfl rfl rfl rfl (fun p0a => ?_)) 
  refine ef rfl rfl (eAlloc rfl rfl rfl (fun p0b => ?_)) 
  refine pu rfl rfl rfl rfl rfl ?_
  refine tr_seq ?_
  refine tr_seq ?_
  refine tr_region fun _ _ _ => ?_
  refine st rfl rfl rfl rfl (rLdS rfl rfl rfl) ?_
  refine st rfl rfl rfl rfl (rLdS rfl rfl rfl) ?_
  refine ef rfl rfl (eLitS rfl rfl rfl rfl (fun p1 => ?_)) 
  refine ef rfl rfl (eCall1 rfl rfl rfl (mat_openG _ _ _ _ _ (by omega) _ _ w Aa _ ca rs hn (by omega) h8 hc.row) ⟨rfl, rfl, trivial⟩ ?_) 
  rintro _ _ ⟨g, rfl, rfl, hg⟩
  iterate 5 refine pu rfl rfl rfl rfl rfl ?_
  refine tr_seq ?_
  refine tr_region fun _ _ _ => ?_
  iterate 2 refine pu rfl rfl rfl rfl rfl ?_
  refine tr_cond_bool rfl (fun h2 => ?_) (fun h2 => ?_)
  · try simp only [zbA] at h2
    first | exact absurd trivial h2 | exact absurd rfl h2 | omega | (exact absurd h2 (by simp)) --done
  · try simp only [zbA] at h2
    refine tr_skip ?_
    refine tr_seq ?_
    refine tr_seq ?_
    refine tr_region fun _ _ _ => ?_
    refine pu rfl rfl rfl rfl rfl ?_
    refine st rfl rfl rfl rfl (rLen rfl rfl) ?_
    refine pu rfl rfl rfl rfl rfl ?_
    refine tr_cond_bool rfl (fun h4 => ?_) (fun h4 => ?_)
    · try simp only [zbA] at h4
      omega --done
    · try simp only [zbA] at h4
      refine tr_skip ?_
      refine tr_seq ?_
      refine tr_seq ?_
      refine tr_region fun _ _ _ => ?_
      refine pu rfl rfl rfl rfl rfl ?_
      refine st rfl rfl rfl rfl (rLen rfl rfl) ?_
      refine pu rfl rfl rfl rfl rfl ?_
      refine tr_block ?_
      refine tr_loop1 (fun (k : Int) => [(35, .int .i64 k), (2, .slice Q nq cq), (4, .pointer (some p0a)), (6, .pointer (some p0b)), (33, .slice Q nq cq), (34, .int .i64 nq)]) (fun (k : Int) => [gfN g, blk p0b 58 [.int .i64 0, .slice none 0 0], blk p0 24 [.int .i64 p, .int .i64 m, .slice A mod.length c], blk p0a 58 [.int .i64 w, .slice Aa n ca], ro A (ints mod), ro Aa (hdrs rs), rowsR rs, ro Q (ints os)]) (fun (k : Int) => 0 ≤ k ∧ k ≤ nq) (fun (k : Int) => (nq - k).toNat) (0) ⟨rfl, rfl, rfl, rfl, rfl, rfl, trivial⟩ (by first | exact cs _ _ | exact CSub.refl _) (⟨by omega, by omega⟩) (fun k hI => ?_)
      refine tr_seq ?_
      refine tr_region fun _ _ _ => ?_
      refine pu rfl rfl rfl rfl rfl ?_
      refine tr_seq ?_
      refine tr_cond_bool rfl (fun h7 => ?_) (fun h7 => ?_)
      · try simp only [zbA] at h7
        refine tr_skip ?_
        refine tr_seq ?_
        refine tr_block ?_
        refine tr_seq ?_
        refine tr_region fun _ _ _ => ?_
        refine st rfl rfl rfl rfl (rIdxI rfl rfl rfl (by omega) (by omega) (by omega)) ?_
        refine st rfl rfl rfl rfl (rLdI rfl rfl (by omega)) ?_
        refine pu rfl rfl rfl rfl rfl ?_
        refine tr_seq ?_
        refine tr_region fun _ _ _ => ?_
        iterate 3 refine pu rfl rfl rfl rfl rfl ?_
        refine stg rfl rfl rfl rfl rfl (fun hb => by (have hq := hb; try simp only [zbA] at hq); exact rMove rfl rfl) ?_
        refine stg rfl rfl rfl rfl rfl (fun hb => by (have hq := hb; try simp only [zbA] at hq); exact rFld rfl rfl) ?_
        refine stg rfl rfl rfl rfl rfl (fun hb => by (have hq := hb; try simp only [zbA] at hq); exact rLdF rfl (evg rfl hb) rfl) ?_
        refine stg rfl rfl rfl rfl rfl (fun hb => by (have hq := hb; try simp only [zbA] at hq); exact rGeq rfl (evg rfl hb) (evg rfl hb)) ?_
        refine st rfl rfl rfl rfl (rOrB rfl rfl rfl rfl) ?_
        refine tr_cond_bool rfl (fun h9 => ?_) (fun h9 => ?_)
        · try simp only [zbA] at h9
          have hb := hos _ (getD_mem (show k.toNat < os.length by omega) 0)
          omega --done
        · try simp only [zbA] at h9
          refine tr_skip ?_
          refine tr_region fun _ _ _ => ?_
          refine st rfl rfl rfl rfl (rAdd rfl rfl rfl (by omega) (by omega)) ?_
          refine pu rfl rfl rfl rfl rfl ?_
          refine ⟨k + 1, ⟨rfl, rfl, rfl, rfl, rfl, rfl, trivial⟩, by first | exact cs _ _ | exact CSub.refl _, ?_⟩
          exact ⟨⟨by omega, by omega⟩, by omega⟩
      · try simp only [zbA] at h7
        refine tr_exit ?_
        refine tr_seq ?_
        refine tr_region fun _ _ _ => ?_
        refine pu rfl rfl rfl rfl rfl ?_
        refine st rfl rfl rfl rfl (rLen rfl rfl) ?_
        refine st rfl rfl rfl rfl (rBuild rfl rfl) ?_
        refine ef rfl rfl (eAlloc rfl rfl rfl (fun p12 => ?_)) 
        refine ef rfl rfl (eStS rfl rfl rfl rfl rfl rfl ?_) 
        refine tr_seq ?_
        refine tr_seq ?_
        refine tr_region fun _ _ _ => ?_
        refine st rfl rfl rfl rfl (rFld rfl rfl) ?_
        refine st rfl rfl rfl rfl (rLdF rfl rfl rfl) ?_
        refine st rfl rfl rfl rfl (rLen rfl rfl) ?_
        refine pu rfl rfl rfl rfl rfl ?_
        refine tr_block ?_
        refine tr_nilR 22 3 ?_
        refine tr_loop4 (fun (k : Int) (AQ : Option Addr) (c2 : Nat) (qs : List RowM) => [(12, .pointer (some p12)), (55, .int .i64 k), (53, .slice Aa n ca), (54, .int .i64 n), (2, .slice Q nq cq), (6, .pointer (some p0b))]) (fun (k : Int) (AQ : Option Addr) (c2 : Nat) (qs : List RowM) => [ow AQ 22 c2 (hdrs qs), rowsCh 3 qs, blk p12 58 [.int .i64 nq, .slice AQ qs.length c2], blk p0b 58 [.int .i64 0, .slice none 0 0], gfN g, blk p0 24 [.int .i64 p, .int .i64 m, .slice A mod.length c], blk p0a 58 [.int .i64 w, .slice Aa n ca], ro A (ints mod), ro Aa (hdrs rs), rowsR rs, ro Q (ints os)]) (fun (k : Int) (AQ : Option Addr) (c2 : Nat) (qs : List RowM) => (0 ≤ k ∧ k ≤ n) ∧ xss qs = ((xss rs).take k.toNat).map (pkL os)) (fun (k : Int) (AQ : Option Addr) (c2 : Nat) (qs : List RowM) => (n - k).toNat) (0) (none) (0) ([]) ⟨rfl, rfl, rfl, rfl, rfl, rfl, trivial⟩ (by first | exact cs _ _ | exact CSub.refl _) (⟨⟨by omega, by omega⟩, rfl⟩) (fun k AQ c2 qs hI => ?_)
        obtain ⟨⟨hk0, hk1⟩, hqs⟩ := hI
        have hql : qs.length = k.toNat := by have := congrArg List.length hqs; simp at this; omega
        refine tr_seq ?_
        refine tr_region fun _ _ _ => ?_
        refine pu rfl rfl rfl rfl rfl ?_
        refine tr_seq ?_
        refine tr_cond_bool rfl (fun h14 => ?_) (fun h14 => ?_)
        · try simp only [zbA] at h14
          refine tr_skip ?_
          refine tr_seq ?_
          refine tr_block ?_
          refine tr_seq ?_
          refine tr_region fun _ _ _ => ?_
          refine st rfl rfl rfl rfl (rIdxR rfl rfl rfl (by omega) (by omega) (by omega)) ?_
          refine st rfl rfl rfl rfl (rLdR rfl rfl (by omega)) ?_
          refine pu rfl rfl rfl rfl rfl ?_
          refine tr_seq ?_
          haveI : InB k.toNat rs.length := ⟨by omega⟩
          have hgk := hgd.get (show k.toNat < rs.length by omega)
          have hgk1 := hgk.1
          refine tr_region fun _ _ _ => ?_
          refine pu rfl rfl rfl rfl rfl ?_
          refine st rfl rfl rfl rfl (rLen rfl rfl) ?_
          refine ef rfl rfl (eMakeI rfl rfl rfl rfl rfl (by omega) (by omega) (by omega) (fun A16 => ?_)) 
          refine pu rfl rfl rfl rfl rfl ?_
          simp only [Int.toNat_natCast]
          refine tr_seq ?_
          refine tr_seq ?_
          refine tr_region fun _ _ _ => ?_
          refine pu rfl rfl rfl rfl rfl ?_
          refine st rfl rfl rfl rfl (rLen rfl rfl) ?_
          refine pu rfl rfl rfl rfl rfl ?_
          refine tr_block ?_
          refine tr_loop2 (fun (j : Int) (y : List Int) => [(64, .int .i64 j), (15, .slice A16 nq nq), (14, .slice (rs.getD k.toNat rowD).A (rs.getD k.toNat rowD).xs.length (rs.getD k.toNat rowD).cap), (2, .slice Q nq cq), (6, .pointer (some p0b)), (12, .pointer (some p12)), (53, .slice Aa n ca), (54, .int .i64 n), (55, .int .i64 k), (59, .slice Q nq cq), (60, .int .i64 nq), (61, .slice A16 nq nq), (62, .slice Q nq cq), (63, .int .i64 nq)]) (fun (j : Int) (y : List Int) => [ow A16 3 nq (ints y), ow AQ 22 c2 (hdrs qs), rowsCh 3 qs, blk p12 58 [.int .i64 nq, .slice AQ qs.length c2], blk p0b 58 [.int .i64 0, .slice none 0 0], gfN g, blk p0 24 [.int .i64 p, .int .i64 m, .slice A mod.length c], blk p0a 58 [.int .i64 w, .slice Aa n ca], ro A (ints mod), ro Aa (hdrs rs), rowsR rs, ro Q (ints os)]) (fun (j : Int) (y : List Int) => (0 ≤ j ∧ j ≤ nq) ∧ y.length = nq ∧ ∀ z : Nat, (z : Int) < j → y.getD z 0 = (rs.getD k.toNat rowD).xs.getD (os.getD z 0).toNat 0) (fun (j : Int) (y : List Int) => (nq - j).toNat) (0) (List.replicate nq 0) ⟨rfl, rfl, rfl, rfl, rfl, rfl, rfl, rfl, rfl, rfl, rfl, rfl, rfl, rfl, trivial⟩ (by first | exact cs _ _ | exact CSub.refl _) (⟨⟨by omega, by omega⟩, by simp, fun z hz => by omega⟩) (fun j y hI => ?_)
          obtain ⟨⟨hj0, hj1⟩, hyl, hy⟩ := hI
          refine tr_seq ?_
          refine tr_region fun _ _ _ => ?_
          refine pu rfl rfl rfl rfl rfl ?_
          refine tr_seq ?_
          refine tr_cond_bool rfl (fun h18 => ?_) (fun h18 => ?_)
          · try simp only [zbA] at h18
            refine tr_skip ?_
            refine tr_seq ?_
            refine tr_block ?_
            refine tr_seq ?_
            refine tr_region fun _ _ _ => ?_
            refine pu rfl rfl rfl rfl rfl ?_
            refine st rfl rfl rfl rfl (rIdxI rfl rfl rfl (by omega) (by omega) (by omega)) ?_
            refine st rfl rfl rfl rfl (rLdI rfl rfl (by omega)) ?_
            iterate 2 refine pu rfl rfl rfl rfl rfl ?_
            have hb := hos _ (getD_mem (show j.toNat < os.length by omega) 0)
            refine tr_region fun _ _ _ => ?_
            iterate 4 refine pu rfl rfl rfl rfl rfl ?_
            refine st rfl rfl rfl rfl (rIdxI rfl rfl rfl (by omega) (by omega) (by omega)) ?_
            refine st rfl rfl rfl rfl (rLdI rfl rfl (by omega)) ?_
            refine st rfl rfl rfl rfl (rIdxI rfl rfl rfl (by omega) (by omega) (by omega)) ?_
            refine ef rfl rfl (eStI rfl rfl rfl rfl (by omega) ?_) 
            refine tr_region fun _ _ _ => ?_
            refine st rfl rfl rfl rfl (rAdd rfl rfl rfl (by omega) (by omega)) ?_
            refine pu rfl rfl rfl rfl rfl ?_
            refine ⟨j + 1, y.set j.toNat ((rs.getD k.toNat rowD).xs.getD (os.getD j.toNat 0).toNat 0), ⟨rfl, rfl, rfl, rfl, rfl, rfl, rfl, rfl, rfl, rfl, rfl, rfl, rfl, rfl, trivial⟩, by first | exact cs _ _ | exact CSub.refl _, ?_⟩
            refine ⟨⟨⟨by omega, by omega⟩, by simpa using hyl, fun z hz => ?_⟩, by omega⟩
            rw [getD_set]
            by_cases he : j.toNat = z
            · subst he; rw [if_pos ⟨rfl, by omega⟩]
            · rw [if_neg (fun h => he h.1)]; exact hy z (by omega)
          · try simp only [zbA] at h18
            refine tr_exit ?_
            have hjq : j.toNat = os.length := by omega
            have hyf : y = pkL os (rs.getD k.toNat rowD).xs := ext_getD (by rw [pkL_length]; omega) fun z => by
              by_cases hz : z < os.length
              · rw [pkL_getD hz]; exact hy z (by omega)
              · rw [getD_out (by omega), getD_out (by rw [pkL_length]; omega)]
            subst hyf
            refine tr_region fun _ _ _ => ?_
            refine st rfl rfl rfl rfl (rFld rfl rfl) ?_
            refine st rfl rfl rfl rfl (rLdF rfl rfl rfl) ?_
            refine pu rfl rfl rfl rfl rfl ?_
            refine ef rfl rfl (eLit1 rfl rfl rfl rfl rfl (fun A22 => ?_)) 
            refine ef rfl rfl (eAppRn (pkL os (rs.getD k.toNat rowD).xs) (by rw [pkL_length]; omega) rfl rfl rfl rfl rfl (by first | rfl | simp) (by omega) (fun A22a c22a => ?_)) 
            refine st rfl rfl rfl rfl (rFld rfl rfl) ?_
            refine ef rfl rfl (eStF rfl rfl rfl rfl rfl (by simp) rfl rfl ?_) 
            simp only [List.set_cons_succ, List.set_cons_zero]
            refine tr_region fun _ _ _ => ?_
            refine st rfl rfl rfl rfl (rAdd rfl rfl rfl (by omega) (by omega)) ?_
            refine pu rfl rfl rfl rfl rfl ?_
            refine ⟨k + 1, A22a, c22a, qs ++ [⟨A16, nq, pkL os (rs.getD k.toNat rowD).xs⟩], ⟨rfl, rfl, rfl, rfl, rfl, rfl, trivial⟩, by exact rows_app, ?_⟩
            refine ⟨⟨⟨by omega, by omega⟩, ?_⟩, by omega⟩
            rw [show (k + 1).toNat = k.toNat + 1 by omega, xss_take1 (by omega), xss_snoc, hqs, List.map_append]; rfl
        · try simp only [zbA] at h14
          refine tr_exit ?_
          refine tr_seq ?_
          refine tr_region fun _ _ _ => ?_
          refine st rfl rfl rfl rfl (rLdS rfl rfl rfl) ?_
          refine ef rfl rfl (eStS rfl rfl rfl rfl rfl rfl ?_) 
          refine pu rfl rfl rfl rfl rfl ?_
          have hkr : (xss rs).take k.toNat = xss rs := List.take_of_length_le (by rw [xss_length]; omega)
          rw [hkr] at hqs
          exact tr_ret ⟨trivial, _, _, (.cell rfl (cellS rfl) (.tmp rfl .nil)), ⟨_, _, rfl, AQ, c2, qs, rfl, rfl, rfl, hqs⟩, cs _ _, trivial, trivial, trivial⟩
end Go.Proofs.Ytoalphamojhpcaa

set_option linter.unusedSimpArgs false
set_option linter.unusedVariables false
set_option maxRecDepth 100000
namespace Go.Proofs.Ytoalphamojhpcaa
open Go.RowKit
theorem qs_le {K : Type} [Fd K] {n : Nat} {R : List (Vc K)} {qs : List Nat} (h : Vc.Rr n R qs) : qs.length ≤ n := by
  rcases Nat.eq_zero_or_pos qs.length with h0 | h0
  · omega
  · have a := Vc.rise_ge h.rise (qs.length - 1) (by omega)
    have b := h.lt (qs.length - 1) (by omega)
    omega
section
variable {p m : Int} {mod : List Int} [hF : IsF p m mod]
theorem BasOf.le {rs : List RowM} {o bs : List Int} (h : BasOf p m mod rs o bs) : bs.length ≤ o.length := by
  obtain ⟨E, qs, h1, h2, rfl⟩ := h
  rw [List.length_map]; exact qs_le h1
theorem BasOf.of_rr {w : Nat} {rs rc r3 : List RowM} {o ps : List Int} (ho : o.length = w) (hc : xss rc = (xss rs).map (pkL o)) (h : RrOf p m mod w rc r3 ps) : BasOf p m mod rs o (ps.map fun q => o.getD q.toNat 0) := by
  obtain ⟨qs, hp, hr⟩ := h.form
  refine ⟨_, qs, by rw [ho]; exact hr, fun u => ?_, ?_⟩
  · rw [h.span u, vsR_pk hc]
  · rw [hp, List.map_map]; rfl
theorem BasOf.mem {rs : List RowM} {o bs : List Int} (h : BasOf p m mod rs o bs) {x : Int} (hx : x ∈ bs) : x ∈ o := by
  obtain ⟨E, qs, h1, h2, rfl⟩ := h
  obtain ⟨q, hq, rfl⟩ := List.mem_map.1 hx
  obtain ⟨j, hj, rfl⟩ := List.getElem_of_mem hq
  have := h1.lt j hj
  rw [List.getD_eq_getElem?_getD, List.getElem?_eq_getElem hj] at this
  exact getD_mem this 0
end
theorem take_mapQ {o ps : List Int} {k : Nat} (h : k < ps.length) : ((ps.take (k + 1)).map fun q => o.getD q.toNat 0) = ((ps.take k).map fun q => o.getD q.toNat 0) ++ [o.getD (ps.getD k 0).toNat 0] := by
  rw [List.take_add_one, List.getElem?_eq_getElem h, List.map_append, List.getD_eq_getElem?_getD (l := ps), List.getElem?_eq_getElem h]; rfl
theorem ord_basis1_ent : Enters Try.prog 40 := enters_of Try.func40 (by kernel_rfl) (by kernel_rfl)
theorem ord_basis1 (x y : Int) (pp : Addr) (D : Option Addr) (cd : Nat) (ts : List RowM) (q : Int) (hq2 : 2 ≤ q) (htr : ∀ r ∈ ts, RowOk q r.xs) (hx : 0 ≤ x ∧ x < ts.length) (hy : 0 ≤ y ∧ y < ts.length) :
    Pure Try.prog 40 #[.int .i64 x, .int .i64 y, .pointer (some pp)] [ro (some pp) [.slice D (relL ts).length cd], ro D (ints (relL ts))] (isV (.int .i64 (rlF ts y - rlF ts x))) := by
  have hl := relL_length ts
  have h1 := rlF_bd htr hq2 x
  have h2 := rlF_bd htr hq2 y
  unfold rlF at h1 h2
  refine pure_of (args := [.int .i64 x, .int .i64 y, .pointer (some pp)]) 15 Try.func40 rfl rfl rfl ord_basis1_ent ⟨id, id, trivial⟩ (fun w0 => ?_)
  refine tr_seq ?_
  refine tr_region fun _ _ _ => ?_
  refine pu rfl rfl rfl rfl rfl ?_
  refine tr_seq ?_
  refine tr_draw [0, 1, 2, 3, 4, 5, 6, 7, 8, 9] [] mixed (by kernel_rfl) fun _ _ _ => ?_
  refine st rfl rfl rfl rfl (rLd0 rfl rfl) ?_
  refine pu rfl rfl rfl rfl rfl ?_
  refine st rfl rfl rfl rfl (rIdxI rfl rfl rfl (by omega) (by omega) (by omega)) ?_
  refine st rfl rfl rfl rfl (rLdI rfl rfl (by omega)) ?_
  refine st rfl rfl rfl rfl (rLd0 rfl rfl) ?_
  refine pu rfl rfl rfl rfl rfl ?_
  refine st rfl rfl rfl rfl (rIdxI rfl rfl rfl (by omega) (by omega) (by omega)) ?_
  refine st rfl rfl rfl rfl (rLdI rfl rfl (by omega)) ?_
  refine st rfl rfl rfl rfl (rSub rfl rfl rfl (by omega) (by omega)) ?_
  refine pu rfl rfl rfl rfl rfl ?_
  exact tr_ret ⟨trivial, _, _, rfl, ⟨rfl, rfl⟩, CSub.nil _, trivial⟩
theorem ord_basis_ent : Enters Try.prog 27 := enters_of Try.func27 (by kernel_rfl) (by kernel_rfl)
theorem ord_basis (p m : Int) (A : Option Addr) (c : Nat) (mod : List Int) [hF : IsF p m mod] (w : Int) (Aa : Option Addr) (n ca : Nat) (rs : List RowM) (hn : n = rs.length) (h9 : rs.length ≤ 256) (hc : CodeOk p m mod w rs) (T : Option Addr) (nt ct : Nat) (ts : List RowM) (hnt : nt = ts.length) (htab : TabOk (pw p m) w ts) :
    Pure Try.prog 27 #[.agg #[.int .i64 p, .int .i64 m, .slice A mod.length c, .int .i64 w, .slice Aa n ca], .slice T nt ct] [ro A (ints mod), ro Aa (hdrs rs), rowsR rs, ro T (hdrs ts), rowsR ts] (one (fun v ch => ∃ B cb bs o, v = .slice B bs.length cb ∧ ch = ow B 3 cb (ints bs) ∧ OrdS (rlF ts) ts.length o ∧ BasOf p m mod rs o bs)) := by
  have hl9 := hF.short
  have hn1 := hc.n1
  have hn64 := hc.n64
  have hlen := hc.len
  have hgd := hc.good
  have h8 := hgd.h8 (N := 17592186044415) (by omega)
  have hck := hc.zero
  have hq2 := hF.q2
  have htl := htab.len
  have hq256 := hF.out.1.1.q
  have hrll := relL_length ts
  refine pure_of (args := [.agg #[.int .i64 p, .int .i64 m, .slice A mod.length c, .int .i64 w, .slice Aa n ca], .slice T nt ct]) 73 Try.func27 rfl rfl rfl ord_basis_ent ⟨id, id, id, id, id, trivial⟩ (fun w0 => ?_)
  refine tr_seq ?_
  refine tr_region fun _ _ _ => ?_
  refine ef rfl rfl (eBox rfl rfl rfl rfl rfl (fun p0 => ?_)) 
  refine pu rfl rfl rfl rfl rfl ?_
  refine tr_seq ?_
  refine tr_region fun _ _ _ => ?_
  refine pu rfl rfl rfl rfl rfl ?_
  refine ef rfl rfl (eCall2 rfl rfl rfl (ord_hard T nt ct ts hnt (pw p m) hq2 hq256 (by omega) htab.row) ⟨rfl, trivial⟩ ?_) 
  rintro _ _ _ ⟨B1, c1, D1, d1, rfl, rfl, rfl⟩
  iterate 3 refine pu rfl rfl rfl rfl rfl ?_
  refine ef rfl rfl (eAlloc rfl rfl rfl (fun p1a => ?_)) 
  refine pu rfl rfl rfl rfl rfl ?_
  refine ef rfl rfl (eSt0 rfl rfl rfl rfl rfl rfl ?_) 
  refine tr_seq ?_
  refine tr_region fun _ _ _ => ?_
  refine st rfl rfl rfl rfl (rFld rfl rfl) ?_
  refine st rfl rfl rfl rfl (rLdF rfl rfl rfl) ?_
  refine ef rfl rfl (eMakeI rfl rfl rfl rfl rfl (by omega) (by omega) (by omega) (fun A2 => ?_)) 
  refine pu rfl rfl rfl rfl rfl ?_
  refine tr_seq ?_
  refine tr_seq ?_
  refine tr_region fun _ _ _ => ?_
  refine pu rfl rfl rfl rfl rfl ?_
  refine st rfl rfl rfl rfl (rLen rfl rfl) ?_
  refine pu rfl rfl rfl rfl rfl ?_
  refine tr_block ?_
  refine tr_loop2 (fun (k : Int) (o : List Int) => [(7, .slice A2 w.toNat w.toNat), (6, .pointer (some p1a)), (27, .int .i64 k), (2, .pointer (some p0)), (4, .slice none 0 0), (26, .int .i64 w.toNat)]) (fun (k : Int) (o : List Int) => [ow A2 3 w.toNat (ints o), blk p1a 22 [.slice D1 (relL ts).length d1], ow D1 3 d1 (ints (relL ts)), blk p0 27 [.int .i64 p, .int .i64 m, .slice A mod.length c, .int .i64 w, .slice Aa n ca], ro A (ints mod), ro Aa (hdrs rs), rowsR rs, ro T (hdrs ts), rowsR ts]) (fun (k : Int) (o : List Int) => (0 ≤ k ∧ k ≤ w) ∧ o.length = w.toNat ∧ ∀ j : Nat, (j : Int) < k → o.getD j 0 = (j : Int)) (fun (k : Int) (o : List Int) => (w - k).toNat) (0) (List.replicate w.toNat 0) ⟨rfl, rfl, rfl, rfl, rfl, rfl, trivial⟩ (by first | exact cs _ _ | exact CSub.refl _) (⟨⟨by omega, by omega⟩, by simp, fun j hj => by omega⟩) (fun k o hI => ?_)
  obtain ⟨⟨hk0, hk1⟩, hol, ho⟩ := hI
  refine tr_seq ?_
  refine tr_region fun _ _ _ => ?_
  refine pu rfl rfl rfl rfl rfl ?_
  refine tr_seq ?_
  refine tr_cond_bool rfl (fun h4 => ?_) (fun h4 => ?_)
  · try simp only [zbA] at h4
    refine tr_skip ?_
    refine tr_seq ?_
    refine tr_block ?_
    refine tr_seq ?_
    refine tr_region fun _ _ _ => ?_
    iterate 2 refine pu rfl rfl rfl rfl rfl ?_
    refine tr_region fun _ _ _ => ?_
    iterate 3 refine pu rfl rfl rfl rfl rfl ?_
    refine st rfl rfl rfl rfl (rIdxI rfl rfl rfl (by omega) (by omega) (by omega)) ?_
    refine ef rfl rfl (eStI rfl rfl rfl rfl (by omega) ?_) 
    refine tr_region fun _ _ _ => ?_
    refine st rfl rfl rfl rfl (rAdd rfl rfl rfl (by omega) (by omega)) ?_
    refine pu rfl rfl rfl rfl rfl ?_
    refine ⟨k + 1, o.set k.toNat k, ⟨rfl, rfl, rfl, rfl, rfl, rfl, trivial⟩, by first | exact cs _ _ | exact CSub.refl _, ?_⟩
    refine ⟨⟨⟨by omega, by omega⟩, by simpa using hol, fun j hj => ?_⟩, by omega⟩
    rw [getD_set]
    by_cases he : k.toNat = j
    · rw [if_pos ⟨he, by omega⟩]; omega
    · rw [if_neg (fun h => he h.1)]; exact ho j (by omega)
  · try simp only [zbA] at h4
    refine tr_exit ?_
    refine tr_seq ?_
    have hkw : k = w := by omega
    have hob : ∀ x ∈ o, 0 ≤ x ∧ x < ts.length := fun x hx => by
      obtain ⟨j, hj, rfl⟩ := List.getElem_of_mem hx
      have := ho j (by omega)
      rw [List.getD_eq_getElem?_getD, List.getElem?_eq_getElem hj] at this
      have h2 : o[j] = (j : Int) := this
      omega
    have htie : Tie (rlF ts) (gd o) 0 o.length := fun u v h1 h2 h3 _ => by
      have a := ho u (by omega)
      have b := ho v (by omega)
      show o.getD u 0 < o.getD v 0
      omega
    refine tr_region fun _ _ _ => ?_
    refine pu rfl rfl rfl rfl rfl ?_
    refine st rfl rfl rfl rfl (rFun rfl rfl rfl) ?_
    refine ef rfl rfl (eCallM1 rfl rfl rfl (slc_SortStab A2 _ _ o (by omega) (by omega) _ [.pointer (some p1a)] [ro (some p1a) [.slice D1 (relL ts).length d1], ro D1 (ints (relL ts))] (rlF ts) (fun x => by have := rlF_bd htab.row hq2 x; omega) (fun x hx y hy => ord_basis1 x y p1a D1 d1 ts (pw p m) hq2 htab.row (hob x hx) (hob y hy)) htie) ⟨rfl, rfl, trivial⟩ ?_) 
    rintro _ _ ⟨rfl, o2, rfl, hpo, hso⟩
    refine tr_seq ?_
    have hol2 := hpo.length_eq
    have hob2 : ∀ i ∈ o2, 0 ≤ i ∧ i < w := fun i hi => by have := hob i (hpo.mem_iff.1 hi); omega
    have hO : OrdS (rlF ts) ts.length o2 := OrdS.of_sort (l := o) (by omega) (fun k hk => ho k (by omega)) hpo (by rw [show ts.length = o.length by omega]; exact hso)
    refine tr_region fun _ _ _ => ?_
    refine st rfl rfl rfl rfl (rFld rfl rfl) ?_
    refine st rfl rfl rfl rfl (rLdSF rfl rfl) ?_
    refine st rfl rfl rfl rfl (rFld rfl rfl) ?_
    refine st rfl rfl rfl rfl (rLdF rfl rfl rfl) ?_
    refine st rfl rfl rfl rfl (rFld rfl rfl) ?_
    refine st rfl rfl rfl rfl (rLdF rfl rfl rfl) ?_
    refine st rfl rfl rfl rfl (rBuild rfl rfl) ?_
    refine pu rfl rfl rfl rfl rfl ?_
    refine ef rfl rfl (eCall2 rfl rfl rfl (mat_Columns p m A c mod w Aa n ca rs hn h9 hc A2 _ _ o2 (by omega) (by omega) hob2) ⟨rfl, rfl, rfl, trivial⟩ ?_) 
    rintro _ _ _ ⟨Bc, cc, rc, rfl, rfl, rfl, hrc⟩
    iterate 3 refine pu rfl rfl rfl rfl rfl ?_
    refine ef rfl rfl (eAlloc rfl rfl rfl (fun p9a => ?_)) 
    refine ef rfl rfl (eStS rfl rfl rfl rfl rfl rfl ?_) 
    refine pu rfl rfl rfl rfl rfl ?_
    refine tr_seq ?_
    have hrcl : rc.length = rs.length := by have := congrArg List.length hrc; simpa using this
    have hgc := gd_pk (by omega) hgd hrc
    have hEc : rowsC (pw p m) (w.toNat : Int) (xss rc) = 0 := rowsC_gd (by omega) (by omega) (by omega) (by rw [Int.toNat_natCast, show w.toNat = o2.length by omega]; exact hgc)
    refine tr_region fun _ _ _ => ?_
    refine st rfl rfl rfl rfl (rFld rfl rfl) ?_
    refine st rfl rfl rfl rfl (rLdSF rfl rfl) ?_
    refine st rfl rfl rfl rfl (rLdS rfl rfl rfl) ?_
    refine ef rfl rfl (eCall3 rfl rfl rfl (mat_CanonicalG _ _ _ _ _ (by omega) (w.toNat : Int) Bc _ cc rc rfl (by omega) (hgc.h8 (by omega)) hEc) ⟨rfl, rfl, trivial⟩ ?_) 
    rintro _ _ _ _ ⟨Bk, r3, Bp, cp, ps, rfl, rfl, rfl, rfl, hR, hk⟩
    iterate 4 refine pu rfl rfl rfl rfl rfl ?_
    refine ef rfl rfl (eAlloc rfl rfl rfl (fun p10a => ?_)) 
    refine ef rfl rfl (eStS rfl rfl rfl rfl rfl rfl ?_) 
    iterate 2 refine pu rfl rfl rfl rfl rfl ?_
    refine tr_seq ?_
    refine tr_region fun _ _ _ => ?_
    refine pu rfl rfl rfl rfl rfl ?_
    refine tr_seq ?_
    refine tr_seq ?_
    rw [Int.toNat_natCast] at hR
    obtain ⟨qs, hpq, hrq⟩ := hR.form
    have hpl : ps.length = qs.length := by rw [hpq, List.length_map]
    have hql := qs_le hrq
    have hpk : ∀ j, j < ps.length → 0 ≤ ps.getD j 0 ∧ ps.getD j 0 < o2.length := fun j hj => by
      have := hrq.lt j (by omega)
      rw [hpq, ofNat_getD]; omega
    refine tr_region fun _ _ _ => ?_
    refine pu rfl rfl rfl rfl rfl ?_
    refine st rfl rfl rfl rfl (rLen rfl rfl) ?_
    refine pu rfl rfl rfl rfl rfl ?_
    refine tr_block ?_
    refine tr_nilI 3 ?_
    refine tr_loop4 (fun (k2 : Int) (B : Option Addr) (cb : Nat) (l : List Int) => [(7, .slice A2 w.toNat w.toNat), (14, .slice B l.length cb), (58, .slice Bp ps.length cp), (59, .int .i64 ps.length), (60, .int .i64 k2), (4, .slice none 0 0)]) (fun (k2 : Int) (B : Option Addr) (cb : Nat) (l : List Int) => [ow B 3 cb (ints l), ow Bp 3 cp (ints ps), ow A2 3 w.toNat (ints o2), blk p1a 22 [.slice D1 (relL ts).length d1], ow D1 3 d1 (ints (relL ts)), blk p0 27 [.int .i64 p, .int .i64 m, .slice A mod.length c, .int .i64 w, .slice Aa n ca], ro A (ints mod), ro Aa (hdrs rs), rowsR rs, ro T (hdrs ts), rowsR ts]) (fun (k2 : Int) (B : Option Addr) (cb : Nat) (l : List Int) => (0 ≤ k2 ∧ k2 ≤ ps.length) ∧ l = (ps.take k2.toNat).map fun q => o2.getD q.toNat 0) (fun (k2 : Int) (B : Option Addr) (cb : Nat) (l : List Int) => (ps.length - k2).toNat) (0) (none) (0) ([]) ⟨rfl, rfl, rfl, rfl, rfl, rfl, trivial⟩ (by first | exact cs _ _ | exact CSub.refl _) (⟨⟨by omega, by omega⟩, rfl⟩) (fun k2 B cb l hI => ?_)
    obtain ⟨⟨hk20, hk21⟩, hl⟩ := hI
    have hll : l.length = k2.toNat := by rw [hl, List.length_map, List.length_take]; omega
    refine tr_seq ?_
    refine tr_region fun _ _ _ => ?_
    refine pu rfl rfl rfl rfl rfl ?_
    refine tr_seq ?_
    refine tr_cond_bool rfl (fun h13 => ?_) (fun h13 => ?_)
    · try simp only [zbA] at h13
      refine tr_skip ?_
      refine tr_seq ?_
      refine tr_block ?_
      refine tr_seq ?_
      skip
      refine tr_region fun _ _ _ => ?_
      refine st rfl rfl rfl rfl (rIdxI rfl rfl rfl (by omega) (by omega) (by omega)) ?_
      refine st rfl rfl rfl rfl (rLdI rfl rfl (by omega)) ?_
      refine pu rfl rfl rfl rfl rfl ?_
      have hpb := hpk k2.toNat (by omega)
      refine tr_region fun _ _ _ => ?_
      iterate 3 refine pu rfl rfl rfl rfl rfl ?_
      refine st rfl rfl rfl rfl (rIdxI rfl rfl rfl (by omega) (by omega) (by omega)) ?_
      refine st rfl rfl rfl rfl (rLdI rfl rfl (by omega)) ?_
      refine ef rfl rfl (eLit1I rfl rfl rfl rfl (fun A15 => ?_)) 
      refine ef rfl rfl (eAppI rfl rfl rfl rfl rfl (by first | rfl | simp | omega) (by first | rfl | simp | omega) (by first | omega | (simp; omega)) (fun A15a c15a => ?_)) 
      refine pu rfl rfl rfl rfl rfl ?_
      refine tr_region fun _ _ _ => ?_
      refine st rfl rfl rfl rfl (rAdd rfl rfl rfl (by omega) (by omega)) ?_
      refine pu rfl rfl rfl rfl rfl ?_
      refine ⟨k2 + 1, A15a, c15a, l ++ [o2.getD (ps.getD k2.toNat 0).toNat 0], ⟨rfl, rfl, rfl, rfl, rfl, rfl, trivial⟩, by first | exact cs _ _ | exact CSub.refl _, ?_⟩
      exact ⟨⟨⟨by omega, by omega⟩, by rw [show (k2 + 1).toNat = k2.toNat + 1 by omega, take_mapQ (by omega), ← hl]⟩, by omega⟩
    · try simp only [zbA] at h13
      refine tr_exit ?_
      refine tr_seq ?_
      refine tr_region fun _ _ _ => ?_
      iterate 2 refine pu rfl rfl rfl rfl rfl ?_
      have hkp : ps.take k2.toNat = ps := List.take_of_length_le (by omega)
      rw [hkp] at hl
      have hBO := BasOf.of_rr (show o2.length = w.toNat by omega) hrc hR
      rw [← hl] at hBO
      exact tr_ret ⟨trivial, _, _, rfl, ⟨_, rfl, B, cb, l, o2, rfl, rfl, hO, hBO⟩, cs _ _, trivial, trivial⟩
theorem ord_BasisG_ent : Enters Try.prog 16 := enters_of Try.func16 (by kernel_rfl) (by kernel_rfl)
theorem ord_BasisG (p m : Int) (A : Option Addr) (c : Nat) (mod : List Int) [hF : IsF p m mod] (w : Int) (Aa : Option Addr) (n ca : Nat) (rs : List RowM) (hn : n = rs.length) (h9 : rs.length ≤ 256) (hc : CodeOk p m mod w rs) (T : Option Addr) (nt ct : Nat) (ts : List RowM) (hnt : nt = ts.length) (t9 : ts.length ≤ 17592186044415) (t8 : ∀ r ∈ ts, r.xs.length ≤ 17592186044415) (ho : ordC (pw p m) w (xss ts) = 0) :
    Pure Try.prog 16 #[.agg #[.int .i64 p, .int .i64 m, .slice A mod.length c, .int .i64 w, .slice Aa n ca], .slice T nt ct] [ro A (ints mod), ro Aa (hdrs rs), rowsR rs, ro T (hdrs ts), rowsR ts] (one (fun v ch => ∃ B cb bs o, v = .tuple #[.slice B bs.length cb, .int .i64 0] ∧ ch = ow B 3 cb (ints bs) ∧ OrdS (rlF ts) ts.length o ∧ BasOf p m mod rs o bs)) := by
  have hl9 := hF.short
  have hn1 := hc.n1
  have hn64 := hc.n64
  have hlen := hc.len
  have hgd := hc.good
  have h8 := hgd.h8 (N := 17592186044415) (by omega)
  have hck := hc.zero
  have hq2 := hF.q2
  have htab := ordC_zero ho
  have htl := htab.len
  have hq256 := hF.out.1.1.q
  refine pure_of (args := [.agg #[.int .i64 p, .int .i64 m, .slice A mod.length c, .int .i64 w, .slice Aa n ca], .slice T nt ct]) 20 Try.func16 rfl rfl rfl ord_BasisG_ent ⟨id, id, id, id, id, trivial⟩ (fun w0 => ?_)
  refine tr_seq ?_
  refine tr_region fun _ _ _ => ?_
  refine ef rfl rfl (eBox rfl rfl rfl rfl rfl (fun p0 => ?_)) 
  iterate 2 refine pu rfl rfl rfl rfl rfl ?_
  refine tr_seq ?_
  refine tr_seq ?_
  refine tr_region fun _ _ _ => ?_
  refine st rfl rfl rfl rfl (rLdS rfl rfl rfl) ?_
  refine pu rfl rfl rfl rfl rfl ?_
  refine ef rfl rfl (eCall1 rfl rfl rfl (ord_checkedG p m A c mod w Aa n ca rs hn h9 hc T nt ct ts hnt t9 t8 ho) ⟨rfl, rfl, trivial⟩ ?_) 
  rintro _ _ ⟨g, rfl, rfl, hg⟩
  iterate 5 refine pu rfl rfl rfl rfl rfl ?_
  refine tr_seq ?_
  refine tr_region fun _ _ _ => ?_
  iterate 2 refine pu rfl rfl rfl rfl rfl ?_
  refine tr_cond_bool rfl (fun h2 => ?_) (fun h2 => ?_)
  · try simp only [zbA] at h2
    first | exact absurd trivial h2 | exact absurd rfl h2 | omega | (exact absurd h2 (by simp)) --done
  · try simp only [zbA] at h2
    refine tr_skip ?_
    refine tr_seq ?_
    refine tr_region fun _ _ _ => ?_
    refine st rfl rfl rfl rfl (rLdS rfl rfl rfl) ?_
    refine pu rfl rfl rfl rfl rfl ?_
    refine ef rfl rfl (eCall1 rfl rfl rfl (ord_basis p m A c mod w Aa n ca rs hn h9 hc T nt ct ts hnt htab) ⟨rfl, rfl, trivial⟩ ?_) 
    rintro _ _ ⟨B4, c4, b4, o4, rfl, rfl, hO4, hB4⟩
    iterate 2 refine pu rfl rfl rfl rfl rfl ?_
    exact tr_ret ⟨trivial, _, _, rfl, ⟨_, rfl, B4, c4, b4, o4, rfl, rfl, hO4, hB4⟩, cs _ _, trivial, trivial⟩
end Go.Proofs.Ytoalphamojhpcaa

set_option linter.unusedSimpArgs false
set_option linter.unusedVariables false
namespace Go.Proofs.Ytoalphamojhpcaa
open Go.RowKit
theorem ro_cut {A : Option Addr} {l : List Int} (i c : Nat) (hc : l.length ≤ c) (F : List Chunk) : CSub (ro A (ints l) :: F) (ro (cutA A i c) (ints (l.drop i)) :: ro A (ints l) :: F) := by
  by_cases h : i < c
  · have := ro_partI (A := A) (l := l) i l.length c h F
    rwa [List.take_of_length_le (by simp)] at this
  · have h0 : l.drop i = [] := List.drop_eq_nil_of_le (by omega)
    rw [h0]
    exact CSub.dup (c := ro A (ints l)) (d := ro (cutA A i c) (ints [])) ⟨fun w h j hj => by simp [ints] at hj, fun b hb => absurd rfl hb.1, fun h => h⟩ (fun h => h) F
theorem ro_pre {A : Option Addr} {l : List Int} (i : Nat) (F : List Chunk) : CSub (ro A (ints l) :: F) (ro A (ints (l.take i)) :: ro A (ints l) :: F) :=
  CSub.dup (c := ro A (ints l)) (d := ro A (ints (l.take i))) ⟨fun w h j hj => by
    have e : ints (l.take i) = (ints l).take i := by simp [ints, List.map_take]
    have hj' : j < ((ints l).take i).length := by rw [← e]; exact hj
    rw [List.length_take] at hj'
    obtain ⟨ad, h1, h2⟩ := h j (by omega)
    refine ⟨ad, h1, ?_⟩
    rw [h2]
    congr 1
    simp only [e, List.getElem_take], fun b hb => ⟨fun e => hb.1 (by
      have e2 : ints (l.take i) = (ints l).take i := by simp [ints, List.map_take]
      rw [e2, e, List.take_nil]), hb.2⟩, fun h => h⟩ (fun h => h) F
theorem ow_split {e : TypeId} {A : Option Addr} {cap : Nat} {l : List Int} (i : Nat) (hc : l.length ≤ cap) (F : List Chunk) : CSub (ow A e cap (ints l) :: F) (ro A (ints (l.take i)) :: ro (cutA A i cap) (ints (l.drop i)) :: F) :=
  (ow_ro F).trans ((ro_pre i F).trans (CSub.cons _ ((ro_cut i cap hc F).trans (CSub.cons _ (CSub.drop _ _)))))
theorem tr_midE {P : Program} {N : NR} {M : Nat → Prop} {w0 : World} {L : Fr} {F : List Chunk} {S : Type} (Lf : S → Fr) (Ff : S → List Chunk) {c : Code} {Q : Exit → Fr → List Chunk → Prop} (h : Tr P N M w0 c L F (fun e L' F' => e = .normal ∧ ∃ s, FSub L' (Lf s) ∧ CSub F' (Ff s)))
    (k : ∀ s L' F', FSub L' (Lf s) → CSub F' (Ff s) → Q .normal L' F') : Tr P N M w0 c L F Q :=
  h.mono fun e L' F' hq => by
    obtain ⟨h1, s, h2, h3⟩ := hq
    subst h1
    exact k s L' F' h2 h3
end Go.Proofs.Ytoalphamojhpcaa

set_option linter.unusedSimpArgs false
set_option linter.unusedVariables false
set_option linter.unusedSectionVars false
namespace Go.Proofs.Ytoalphamojhpcaa
open Go.RowKit
structure InsAt (s : List Int) (x : Int) (k : Nat) : Prop where
  le : k ≤ s.length
  up : ∀ j, j < k → x ≤ s.getD j 0
theorem fall_ins {s : List Int} {x : Int} {k : Nat} (hs : s.Pairwise (· ≥ ·)) (h : InsAt s x k) (hstop : k = s.length ∨ s.getD k 0 < x) : (s.take k ++ [x] ++ s.drop k).Pairwise (· ≥ ·) := by
  have e : s.take k ++ s.drop k = s := List.take_append_drop k s
  have hp := hs
  rw [← e, List.pairwise_append] at hp
  obtain ⟨h1, h2, h3⟩ := hp
  rw [List.append_assoc, List.pairwise_append]
  refine ⟨h1, ?_, fun a ha b hb => ?_⟩
  · rw [List.singleton_append, List.pairwise_cons]
    refine ⟨fun b hb => ?_, h2⟩
    rcases hstop with hk | hk
    · rw [List.drop_eq_nil_of_le (by omega)] at hb; simp at hb
    · have hkl : k < s.length := Nat.lt_of_not_le fun hle => by rw [List.drop_eq_nil_of_le hle] at hb; simp at hb
      have hd : s.drop k = s[k] :: s.drop (k + 1) := List.drop_eq_getElem_cons hkl
      have hg : s.getD k 0 = s[k] := by rw [List.getD_eq_getElem?_getD, List.getElem?_eq_getElem hkl]; rfl
      rw [hd] at hb h2
      rcases List.mem_cons.1 hb with rfl | hb
      · show x ≥ s[k]; omega
      · have := (List.pairwise_cons.1 h2).1 b hb
        show x ≥ b
        have h4 : s[k] ≥ b := this
        omega
  · obtain ⟨j, hj, rfl⟩ := List.getElem_of_mem ha
    rw [List.length_take] at hj
    have hx := h.up j (by omega)
    rw [List.getD_eq_getElem?_getD, List.getElem?_eq_getElem (by omega)] at hx
    rw [List.getElem_take]
    rcases List.mem_append.1 hb with hb | hb
    · rw [List.mem_singleton.1 hb]; exact hx
    · have := h3 ((s.take k)[j]'(by rw [List.length_take]; omega)) (List.getElem_mem _) b hb
      rwa [List.getElem_take] at this
theorem ins_perm (s : List Int) (x : Int) (k : Nat) : (s.take k ++ [x] ++ s.drop k).Perm (s ++ [x]) := by
  have h1 : (s.take k ++ [x] ++ s.drop k).Perm (s.take k ++ s.drop k ++ [x]) := by
    rw [List.append_assoc, List.append_assoc]
    exact (List.perm_append_comm (l₁ := [x]) (l₂ := s.drop k)).append_left _
  rwa [List.take_append_drop] at h1
theorem fall_count {s : List Int} (hs : s.Pairwise (· ≥ ·)) {i : Nat} (hi : i < s.length) : i + 1 ≤ (s.filter fun y => decide (s.getD i 0 ≤ y)).length := by
  have h1 : (s.take (i + 1)).filter (fun y => decide (s.getD i 0 ≤ y)) = s.take (i + 1) := List.filter_eq_self.2 fun y hy => by
    obtain ⟨j, hj, rfl⟩ := List.getElem_of_mem hy
    rw [List.length_take] at hj
    rw [List.getElem_take, List.getD_eq_getElem?_getD, List.getElem?_eq_getElem hi]
    refine decide_eq_true ?_
    show s[i] ≤ s[j]
    by_cases e : j = i
    · subst e; exact Int.le_refl _
    · exact List.pairwise_iff_getElem.1 hs j i (by omega) hi (by omega)
  have h2 : ((s.take (i + 1)).filter (fun y => decide (s.getD i 0 ≤ y))).length ≤ (s.filter fun y => decide (s.getD i 0 ≤ y)).length := ((List.take_sublist (i + 1) s).filter _).length_le
  rw [h1, List.length_take] at h2
  omega
theorem map_getD_range (l : List Int) : (List.range l.length).map (fun j => l.getD j 0) = l := List.ext_getElem (by simp) fun i h1 h2 => by
  simp only [List.getElem_map, List.getElem_range]
  rw [List.getD_eq_getElem?_getD, List.getElem?_eq_getElem h2]; rfl
section
variable {p m : Int} {mod : List Int} [hF : IsF p m mod]
theorem ord_fall {r : Int → Int} {n : Nat} {o : List Int} (h : OrdS r n o) {i j : Nat} (hij : i ≤ j) (hj : j < o.length) : r (o.getD j 0) ≤ r (o.getD i 0) := by
  by_cases e : i = j
  · subst e; exact Int.le_refl _
  · have := List.pairwise_iff_getElem.1 h.pw i j (by omega) hj (by omega)
    rw [List.getD_eq_getElem?_getD, List.getElem?_eq_getElem hj, List.getD_eq_getElem?_getD, List.getElem?_eq_getElem (show i < o.length by omega)]
    unfold ltO at this
    show r o[j] ≤ r o[i]
    omega
theorem BasOf.dim {rs : List RowM} {r : Int → Int} {n : Nat} {o bs : List Int} (hO : OrdS r n o) (hf : formP p m mod n rs) (h : BasOf p m mod rs o bs) : bs.length = rs.length := by
  obtain ⟨E, qs, h1, h2, rfl⟩ := h
  obtain ⟨qq, hq⟩ := hf
  rw [List.length_map, Vc.pk_dim (o := o.map Int.toNat) hq (by rw [List.length_map]; exact h1) h2 (fun j hj => ?_), vsR_length]
  have hm := hO.perm.mem_iff.2 (mem_ixL.2 (show 0 ≤ (j : Int) ∧ (j : Int) < n by omega))
  obtain ⟨z, hz, he⟩ := List.getElem_of_mem hm
  refine ⟨z, by rw [List.length_map]; exact hz, ?_⟩
  rw [toN_getD, List.getD_eq_getElem?_getD, List.getElem?_eq_getElem hz]
  show (o[z]).toNat = j
  omega
theorem BasOf.ind {rs : List RowM} {o bs : List Int} (h : BasOf p m mod rs o bs) : indB p m mod rs bs = true := by
  obtain ⟨E, qs, h1, h2, rfl⟩ := h
  rw [indB_iff]
  have := Vc.ind_piv (R := (vsR rs : List (Vc (El p m mod)))) (o := o.map Int.toNat) (ps := qs) (by rw [List.length_map]; exact h1) h2
  rw [List.map_map]
  have e : (Int.toNat ∘ fun q => o.getD q 0) = fun q => (o.map Int.toNat).getD q 0 := funext fun q => (toN_getD o q).symm
  rw [e]; exact this
theorem BasOf.fall {rs : List RowM} {r : Int → Int} {n : Nat} {o bs : List Int} (hO : OrdS r n o) (h : BasOf p m mod rs o bs) {i : Nat} (hi : i + 1 < bs.length) : r (bs.getD (i + 1) 0) ≤ r (bs.getD i 0) := by
  obtain ⟨E, qs, h1, h2, rfl⟩ := h
  rw [List.length_map] at hi
  have hg : ∀ k, k < qs.length → (qs.map fun q => o.getD q 0).getD k 0 = o.getD (qs.getD k 0) 0 := fun k hk => by
    rw [List.getD_eq_getElem?_getD, List.getElem?_map, List.getElem?_eq_getElem hk, List.getD_eq_getElem?_getD (l := qs), List.getElem?_eq_getElem hk]; rfl
  rw [hg _ (by omega), hg _ (by omega)]
  exact ord_fall hO (Nat.le_of_lt (h1.rise i (i + 1) (by omega) (by omega))) (h1.lt _ (by omega))
theorem bas_best {rs : List RowM} {r : Int → Int} {o bs set s : List Int} (hO : OrdS r o.length o) (hB : BasOf p m mod rs o bs) (hset : ∀ x ∈ set, 0 ≤ x ∧ x < o.length) (hI : Vc.Ind (vsR rs : List (Vc (El p m mod))) (set.map Int.toNat)) (hs : s.Pairwise (· ≥ ·)) (hp : s.Perm (set.map r)) (hl : bs.length ≤ set.length) {i : Nat} (hi : i < bs.length) : s.getD i 0 ≤ r (bs.getD i 0) := by
  obtain ⟨E, qs, hR, hsp, rfl⟩ := hB
  rw [List.length_map] at hi
  have hbi : (qs.map fun q => o.getD q 0).getD i 0 = o.getD (qs.getD i 0) 0 := by
    rw [List.getD_eq_getElem?_getD, List.getElem?_map, List.getElem?_eq_getElem hi, List.getD_eq_getElem?_getD (l := qs), List.getElem?_eq_getElem hi]; rfl
  rw [hbi]
  refine Int.le_of_not_gt fun hlt => ?_
  have hgt : r (o.getD (qs.getD i 0) 0) < s.getD i 0 := hlt
  have hil : i < s.length := by
    rw [hp.length_eq, List.length_map]
    rw [List.length_map] at hl
    omega
  have hJ := fall_count hs hil
  have hcnt : (s.filter fun y => decide (s.getD i 0 ≤ y)).length = ((List.range set.length).filter fun j => decide (s.getD i 0 ≤ r (set.getD j 0))).length := by
    rw [(hp.filter _).length_eq]
    have e : set.map r = (List.range set.length).map fun j => r (set.getD j 0) := by
      have := congrArg (List.map r) (map_getD_range set)
      rw [List.map_map] at this
      exact this.symm
    rw [e, List.filter_map, List.length_map]
    rfl
  rw [hcnt] at hJ
  have hbest := Vc.greedy_best (R := (vsR rs : List (Vc (El p m mod)))) (o := o.map Int.toNat) (E := E) (ps := qs) (S := set.map Int.toNat) (by rw [List.length_map]; exact hR) hsp hI (r := fun z => r (z : Int)) (fun a b hab hb => by
    rw [List.length_map] at hb
    have h1 := ord_fall hO hab hb
    have ha' := hO.bd _ (getD_mem (show a < o.length by omega) 0)
    have hb' := hO.bd _ (getD_mem hb 0)
    rw [toN_getD, toN_getD]
    rw [Int.toNat_of_nonneg ha'.1, Int.toNat_of_nonneg hb'.1]
    exact h1) (fun j hj => by
    rw [List.length_map] at hj
    have := hset _ (getD_mem hj 0)
    have hm := hO.perm.mem_iff.2 (mem_ixL.2 this)
    obtain ⟨z, hz, he⟩ := List.getElem_of_mem hm
    refine ⟨z, by rw [List.length_map]; exact hz, ?_⟩
    rw [toN_getD, toN_getD, List.getD_eq_getElem?_getD (l := o), List.getElem?_eq_getElem hz]
    show (o[z]).toNat = _
    rw [he]) hi (x := s.getD i 0) (by
    have h1 := hO.bd _ (getD_mem (show qs.getD i 0 < o.length from hR.lt i hi) 0)
    rw [toN_getD, Int.toNat_of_nonneg h1.1]; exact hgt) (J := (List.range set.length).filter fun j => decide (s.getD i 0 ≤ r (set.getD j 0))) (List.nodup_range.filter _) (fun j hj => by
    obtain ⟨h1, h2⟩ := List.mem_filter.1 hj
    have hjl := List.mem_range.1 h1
    refine ⟨by rw [List.length_map]; exact hjl, ?_⟩
    have h3 := hset _ (getD_mem hjl 0)
    rw [toN_getD, Int.toNat_of_nonneg h3.1]
    exact of_decide_eq_true h2)
  omega
end
end Go.Proofs.Ytoalphamojhpcaa

/-
  THE GREATEST BOUNDS. One sentence: what bch.Bound, bch.Tzeng and the reference Best return.
  Conditions: each theorem's own, written out in it.
-/
import Derived.Test.YtancpcmiimcdhaaBch1
import Derived.Test.YtancpcmiimcdhaaBest
set_option linter.unusedSimpArgs false
set_option linter.unusedVariables false
namespace Go.Proofs.Ytancpcmiimcdhaa
open Go.RowKit

theorem bch_consecutive_ent : Enters Try.prog 41 := enters_of Try.func41 (by kernel_rfl) (by kernel_rfl)
theorem bch_consecutive (n : Int) (hn : 1 ≤ n) (hn2 : n ≤ 64) (zs : List Int) (t : Int) (ht0 : 0 ≤ t) (ht1 : t < n) (A : Option Addr) (c : Nat) :
    Pure Try.prog 41 #[.slice A n.toNat c, .int .i64 t] [ro A (bools (memL n zs))] (one (fun v ch => ∃ B ls, v = .slice B n.toNat n.toNat ∧ LenOk n zs t ls ∧ ch = ow B 3 n.toNat (ints ls))) := by
  have hnn : ((n.toNat : Nat) : Int) = n := by omega
  have hml := memL_length n zs
  refine pure_of (args := [.slice A n.toNat c, .int .i64 t]) 45 Try.func41 rfl rfl rfl bch_consecutive_ent ⟨id, trivial⟩ (fun w0 => ?_)
  refine tr_seq ?_
  refine tr_region ?_
  refine pu rfl rfl rfl rfl rfl ?_
  refine tr_seq ?_
  refine tr_region ?_
  refine pu rfl rfl rfl rfl rfl ?_
  refine st rfl rfl rfl rfl (rLen rfl rfl) ?_
  rw [hnn]
  refine pu rfl rfl rfl rfl rfl ?_
  refine tr_seq ?_
  refine tr_region ?_
  refine pu rfl rfl rfl rfl rfl ?_
  refine ef rfl rfl (eMakeI rfl rfl rfl rfl rfl (by omega) (by omega) (by omega) (fun A2 => ?_)) 
  refine pu rfl rfl rfl rfl rfl ?_
  refine tr_seq ?_
  refine tr_seq ?_
  refine tr_region ?_
  iterate 2 refine pu rfl rfl rfl rfl rfl ?_
  refine tr_block ?_
  refine tr_loop2 (fun (k : Int) (l : List Int) => [(0, .slice A n.toNat c), (1, .int .i64 t), (5, .int .i64 n), (6, .slice A2 n.toNat n.toNat), (12, .int .i64 n), (13, .int .i64 k)]) (fun (k : Int) (l : List Int) => [ow A2 3 n.toNat (ints l), ro A (bools (memL n zs))]) (fun (k : Int) (l : List Int) => 0 ≤ k ∧ k ≤ n ∧ l.length = n.toNat ∧ (∀ s, k ≤ s → s < n → l.getD s.toNat 0 = 0) ∧ LenTo n zs t l k) (fun (k : Int) (l : List Int) => (n - k).toNat) (0) (List.replicate n.toNat 0) ⟨rfl, rfl, rfl, rfl, rfl, rfl, trivial⟩ (by first | exact cs _ _ | exact CSub.refl _) (⟨by omega, by omega, by simp, fun s h1 h2 => by rw [List.getD_eq_getElem?_getD, List.getElem?_replicate, if_pos (by omega)]; rfl, fun s h1 h2 => by omega⟩) (fun k l hI => ?_)
  obtain ⟨hk0, hk1, hk2, hk3, hk4⟩ := hI
  refine tr_seq ?_
  refine tr_region ?_
  refine pu rfl rfl rfl rfl rfl ?_
  refine tr_seq ?_
  refine tr_cond_bool rfl (fun h4 => ?_) (fun h4 => ?_)
  · try simp only [zb1, zb2, zb3, zb4, zb5, zb6, zb7, zb8, zb9, zb10] at h4
    refine tr_skip ?_
    refine tr_seq ?_
    refine tr_block ?_
    refine tr_seq ?_
    refine tr_region ?_
    iterate 2 refine pu rfl rfl rfl rfl rfl ?_
    refine tr_block ?_
    refine tr_loop1 (fun (l2 : List Int) => [(0, .slice A n.toNat c), (1, .int .i64 t), (5, .int .i64 n), (6, .slice A2 n.toNat n.toNat), (12, .int .i64 n), (13, .int .i64 k), (7, .int .i64 k)]) (fun (l2 : List Int) => [ow A2 3 n.toNat (ints l2), ro A (bools (memL n zs))]) (fun (l2 : List Int) => LenAt n zs t l l2 k) (fun (l2 : List Int) => (n - l2.getD k.toNat 0).toNat) (l) ⟨rfl, rfl, rfl, rfl, rfl, rfl, rfl, trivial⟩ (by first | exact cs _ _ | exact CSub.refl _) (⟨hk2, fun s h1 h2 => rfl, by rw [hk3 k (by omega) h4]; omega, by rw [hk3 k (by omega) h4]; omega, fun i i0 i1 => by rw [hk3 k (by omega) h4] at i1; omega⟩) (fun l2 hI => ?_)
    have hl1 := hI.1
    have hl2 := hI.2.2.1
    have hl3 := hI.2.2.2.1
    have hp := mul_bd0 (l2.getD k.toNat 0) t 64 64 hl2 (by omega) (by omega) (by omega)
    have he0 := Int.emod_nonneg (k + l2.getD k.toNat 0 * t) (show n ≠ 0 by omega)
    have he1 := Int.emod_lt_of_pos (k + l2.getD k.toNat 0 * t) (show 0 < n by omega)
    refine tr_seq ?_
    refine tr_seq ?_
    refine tr_region ?_
    iterate 2 refine pu rfl rfl rfl rfl rfl ?_
    refine st rfl rfl rfl rfl (rIdxI rfl rfl rfl (by omega) (by omega) (by omega)) ?_
    refine st rfl rfl rfl rfl (rLdI rfl rfl (by omega)) ?_
    iterate 3 refine pu rfl rfl rfl rfl rfl ?_
    refine stg rfl rfl rfl rfl rfl (fun hb => by (have hq := hb; try simp only [zb1, zb2, zb3, zb4, zb5, zb6, zb7, zb8, zb9, zb10] at hq); exact rMove rfl rfl) ?_
    refine stg rfl rfl rfl rfl rfl (fun hb => by (have hq := hb; try simp only [zb1, zb2, zb3, zb4, zb5, zb6, zb7, zb8, zb9, zb10] at hq); exact rMove rfl rfl) ?_
    refine stg rfl rfl rfl rfl rfl (fun hb => by (have hq := hb; try simp only [zb1, zb2, zb3, zb4, zb5, zb6, zb7, zb8, zb9, zb10] at hq); exact rMove rfl rfl) ?_
    refine stg rfl rfl rfl rfl rfl (fun hb => by (have hq := hb; try simp only [zb1, zb2, zb3, zb4, zb5, zb6, zb7, zb8, zb9, zb10] at hq); exact rMove rfl rfl) ?_
    refine stg rfl rfl rfl rfl rfl (fun hb => by (have hq := hb; try simp only [zb1, zb2, zb3, zb4, zb5, zb6, zb7, zb8, zb9, zb10] at hq); exact rIdxI rfl (evg rfl hb) (evg rfl hb) (by omega) (by omega) (by omega)) ?_
    refine stg rfl rfl rfl rfl rfl (fun hb => by (have hq := hb; try simp only [zb1, zb2, zb3, zb4, zb5, zb6, zb7, zb8, zb9, zb10] at hq); exact rLdI rfl (evg rfl hb) (by omega)) ?_
    refine stg rfl rfl rfl rfl rfl (fun hb => by (have hq := hb; try simp only [zb1, zb2, zb3, zb4, zb5, zb6, zb7, zb8, zb9, zb10] at hq); exact rMove rfl rfl) ?_
    refine stg rfl rfl rfl rfl rfl (fun hb => by (have hq := hb; try simp only [zb1, zb2, zb3, zb4, zb5, zb6, zb7, zb8, zb9, zb10] at hq); exact rMul rfl (evg rfl hb) (evg rfl hb) (by omega) (by omega)) ?_
    refine stg rfl rfl rfl rfl rfl (fun hb => by (have hq := hb; try simp only [zb1, zb2, zb3, zb4, zb5, zb6, zb7, zb8, zb9, zb10] at hq); exact rAdd rfl (evg rfl hb) (evg rfl hb) (by omega) (by omega)) ?_
    refine stg rfl rfl rfl rfl rfl (fun hb => by (have hq := hb; try simp only [zb1, zb2, zb3, zb4, zb5, zb6, zb7, zb8, zb9, zb10] at hq); exact rMove rfl rfl) ?_
    refine stg rfl rfl rfl rfl rfl (fun hb => by (have hq := hb; try simp only [zb1, zb2, zb3, zb4, zb5, zb6, zb7, zb8, zb9, zb10] at hq); exact rRem rfl (evg rfl hb) (evg rfl hb) (by omega) (by omega)) ?_
    refine stg rfl rfl rfl rfl rfl (fun hb => by (have hq := hb; try simp only [zb1, zb2, zb3, zb4, zb5, zb6, zb7, zb8, zb9, zb10] at hq); exact rIdxB rfl (evg rfl hb) (evg rfl hb) (by omega) (by omega) (by omega)) ?_
    refine stg rfl rfl rfl rfl rfl (fun hb => by (have hq := hb; try simp only [zb1, zb2, zb3, zb4, zb5, zb6, zb7, zb8, zb9, zb10] at hq); exact rLdB rfl (evg rfl hb) (by omega)) ?_
    refine st rfl rfl rfl rfl (rAndB rfl rfl rfl rfl) ?_
    refine tr_cond_bool rfl (fun h6 => ?_) (fun h6 => ?_)
    · try simp only [zb1, zb2, zb3, zb4, zb5, zb6, zb7, zb8, zb9, zb10] at h6
      refine tr_skip ?_
      refine tr_block ?_
      refine tr_region ?_
      iterate 2 refine pu rfl rfl rfl rfl rfl ?_
      refine st rfl rfl rfl rfl (rIdxI rfl rfl rfl (by omega) (by omega) (by omega)) ?_
      refine st rfl rfl rfl rfl (rLdI rfl rfl (by omega)) ?_
      refine st rfl rfl rfl rfl (rAdd rfl rfl rfl (by omega) (by omega)) ?_
      refine st rfl rfl rfl rfl (rIdxI rfl rfl rfl (by omega) (by omega) (by omega)) ?_
      refine ef rfl rfl (eStI rfl rfl rfl rfl (by omega) ?_) 
      refine ⟨l2.set k.toNat (l2.getD k.toNat 0 + 1), ⟨rfl, rfl, rfl, rfl, rfl, rfl, rfl, trivial⟩, by first | exact cs _ _ | exact CSub.refl _, ?_⟩
      have hst := LenAt.step ⟨hk0, h4⟩ hI h6.1 ((memL_get n hn zs _).1 h6.2)
      refine ⟨hst.1, ?_⟩
      rw [hst.2]
      have := h6.1
      omega
    · try simp only [zb1, zb2, zb3, zb4, zb5, zb6, zb7, zb8, zb9, zb10] at h6
      refine tr_exit ?_
      refine tr_region ?_
      refine st rfl rfl rfl rfl (rAdd rfl rfl rfl (by omega) (by omega)) ?_
      refine pu rfl rfl rfl rfl rfl ?_
      refine ⟨k + 1, l2, ⟨rfl, rfl, rfl, rfl, rfl, rfl, trivial⟩, by first | exact cs _ _ | exact CSub.refl _, ?_⟩
      have hdone := LenAt.done ⟨hk0, h4⟩ hk4 hI (by
        rcases h6 with h6 | h6
        · exact .inl h6
        · exact .inr (fun hz => by
            have := (memL_get n hn zs _).2 hz
            rw [h6] at this
            cases this))
      exact ⟨⟨by omega, by omega, hI.1, fun s h1 h2 => by rw [hI.2.1 s (by omega) (by omega)]; exact hk3 s (by omega) h2, hdone⟩, by omega⟩
  · try simp only [zb1, zb2, zb3, zb4, zb5, zb6, zb7, zb8, zb9, zb10] at h4
    refine tr_exit ?_
    refine tr_seq ?_
    refine tr_region ?_
    iterate 2 refine pu rfl rfl rfl rfl rfl ?_
    have hkn : k = n := by omega
    subst hkn
    exact tr_ret ⟨trivial, _, _, rfl, ⟨_, rfl, _, _, rfl, hk4.all hk2, rfl⟩, cs _ _, trivial, trivial⟩

theorem bch_best_ent : Enters Try.prog 28 := enters_of Try.func28 (by kernel_rfl) (by kernel_rfl)
theorem bch_best (n : Int) (A : Option Addr) (ca : Nat) (zs : List Int) (hl : zs.length ≤ 1000000000) (most : Int) (hmost : most = 0 ∨ most = n) :
    Pure Try.prog 28 #[.int .i64 n, .slice A zs.length ca, .int .i64 most] [ro A (ints zs)] (val (fun v => ∃ b s t c x m e, v = .tuple #[.int .i64 b, .agg #[.int .i64 s, .int .i64 t, .int .i64 c, .int .i64 x, .int .i64 m], .int .i64 e] ∧ BestR n zs most b s t c x m e)) := by
  refine pure_ofC (args := [.int .i64 n, .slice A zs.length ca, .int .i64 most]) 111 Try.func28 rfl rfl rfl bch_best_ent ⟨id, trivial⟩ (fun w0 => ?_)
  refine tr_seq ?_
  refine tr_region ?_
  refine pu rfl rfl rfl rfl rfl ?_
  refine ef rfl rfl (eAlloc rfl rfl rfl (fun p0 => ?_)) 
  refine pu rfl rfl rfl rfl rfl ?_
  refine tr_seq ?_
  refine tr_seq ?_
  refine tr_region ?_
  iterate 3 refine pu rfl rfl rfl rfl rfl ?_
  refine stg rfl rfl rfl rfl rfl (fun hb => by (have hq := hb; try simp only [zb1, zb2, zb3, zb4, zb5, zb6, zb7, zb8, zb9, zb10] at hq); exact rMove rfl rfl) ?_
  refine stg rfl rfl rfl rfl rfl (fun hb => by (have hq := hb; try simp only [zb1, zb2, zb3, zb4, zb5, zb6, zb7, zb8, zb9, zb10] at hq); exact rGtr rfl (evg rfl hb) rfl) ?_
  refine st rfl rfl rfl rfl (rOrB rfl rfl rfl rfl) ?_
  refine tr_cond_bool rfl (fun h1 => ?_) (fun h1 => ?_)
  · try simp only [zb1, zb2, zb3, zb4, zb5, zb6, zb7, zb8, zb9, zb10] at h1
    refine tr_seq ?_
    refine tr_region ?_
    refine st rfl rfl rfl rfl (rBuild rfl rfl) ?_
    refine pu rfl rfl rfl rfl rfl ?_
    refine ef rfl rfl (eStS rfl rfl rfl rfl rfl rfl ?_) 
    refine pu rfl rfl rfl rfl rfl ?_
    exact tr_ret ⟨trivial, _, _, (.tmp rfl (.cell rfl (cellS rfl) (.tmp rfl .nil))), ⟨rfl, 0, 0, 0, 0, 0, 0, 4, rfl, .inl ⟨by omega, rfl, rfl, rfl, rfl, rfl, rfl, rfl⟩⟩, CSub.nil _, trivial⟩
  · try simp only [zb1, zb2, zb3, zb4, zb5, zb6, zb7, zb8, zb9, zb10] at h1
    refine tr_skip ?_
    refine tr_seq ?_
    refine tr_region ?_
    iterate 2 refine pu rfl rfl rfl rfl rfl ?_
    refine ef rfl rfl (eCall1 rfl rfl rfl (bch_members _ (by omega) (by omega) _ _ _ (by omega)) ⟨rfl, rfl, trivial⟩ ?_) 
    rintro _ _ ⟨B3, rfl, rfl⟩
    refine pu rfl rfl rfl rfl rfl ?_
    refine tr_seq ?_
    refine tr_region ?_
    skip
    refine st rfl rfl rfl rfl (rBuild rfl rfl) ?_
    refine ef rfl rfl (eAlloc rfl rfl rfl (fun p4 => ?_)) 
    refine pu rfl rfl rfl rfl rfl ?_
    refine ef rfl rfl (eStS rfl rfl rfl rfl rfl rfl ?_) 
    refine tr_seq ?_
    refine tr_seq ?_
    refine tr_region ?_
    iterate 2 refine pu rfl rfl rfl rfl rfl ?_
    refine tr_block ?_
    refine tr_loop7 (fun (T : Int) (b : Int) (s : Int) (t : Int) (c : Int) (x : Int) (m : Int) => [(0, .int .i64 n), (2, .int .i64 most), (7, .pointer (some p0)), (9, .slice B3 n.toNat n.toNat), (10, .int .i64 b), (11, .pointer (some p4)), (29, .int .i64 n), (30, .int .i64 T)]) (fun (T : Int) (b : Int) (s : Int) (t : Int) (c : Int) (x : Int) (m : Int) => [ow B3 4 n.toNat (bools (memL n zs)), blk p0 24 [.int .i64 0, .int .i64 0, .int .i64 0, .int .i64 0, .int .i64 0], blk p4 24 [.int .i64 s, .int .i64 t, .int .i64 c, .int .i64 x, .int .i64 m]]) (fun (T : Int) (b : Int) (s : Int) (t : Int) (c : Int) (x : Int) (m : Int) => (0 ≤ T ∧ T ≤ n) ∧ Bd n zs most b T 0 0 0 ∧ Att n zs most b s t c x m ∧ 1 ≤ b ∧ b ≤ 2 * n + 2) (fun (T : Int) (b : Int) (s : Int) (t : Int) (c : Int) (x : Int) (m : Int) => (n - T).toNat) (0) (1) (0) (0) (0) (0) (0) ⟨rfl, rfl, rfl, rfl, rfl, rfl, rfl, rfl, trivial⟩ (by first | exact cs _ _ | exact CSub.refl _) (⟨⟨by omega, by omega⟩, Bd.start n zs most, .inl ⟨rfl, rfl, rfl, rfl, rfl, rfl⟩, by omega, by omega⟩) (fun T b s t c x m hI => ?_)
    obtain ⟨⟨hT0, hT1⟩, hBd, hAtt, hb1, hb2⟩ := hI
    refine tr_seq ?_
    refine tr_region ?_
    refine pu rfl rfl rfl rfl rfl ?_
    refine tr_seq ?_
    refine tr_cond_bool rfl (fun h6 => ?_) (fun h6 => ?_)
    · try simp only [zb1, zb2, zb3, zb4, zb5, zb6, zb7, zb8, zb9, zb10] at h6
      refine tr_skip ?_
      refine tr_seq ?_
      refine tr_block ?_
      refine tr_seq ?_
      refine tr_region ?_
      iterate 2 refine pu rfl rfl rfl rfl rfl ?_
      refine tr_seq ?_
      refine tr_seq ?_
      refine tr_region ?_
      iterate 2 refine pu rfl rfl rfl rfl rfl ?_
      refine ef rfl rfl (eCallV rfl rfl rfl (bch_divisor _ _ (by omega) (by omega)) ⟨rfl, rfl, trivial⟩ ?_) 
      refine pu rfl rfl rfl rfl rfl ?_
      refine tr_cond_bool rfl (fun h8 => ?_) (fun h8 => ?_)
      · try simp only [zb1, zb2, zb3, zb4, zb5, zb6, zb7, zb8, zb9, zb10] at h8
        refine tr_exit ?_
        refine tr_region ?_
        refine st rfl rfl rfl rfl (rAdd rfl rfl rfl (by omega) (by omega)) ?_
        refine pu rfl rfl rfl rfl rfl ?_
        refine ⟨T + 1, b, s, t, c, x, m, ⟨rfl, rfl, rfl, rfl, rfl, rfl, rfl, rfl, trivial⟩, by first | exact cs _ _ | exact CSub.refl _, ?_⟩
        exact ⟨⟨⟨by omega, by omega⟩, hBd.skipT (by omega), hAtt, hb1, hb2⟩, by omega⟩
      · try simp only [zb1, zb2, zb3, zb4, zb5, zb6, zb7, zb8, zb9, zb10] at h8
        refine tr_skip ?_
        refine tr_seq ?_
        refine tr_region ?_
        iterate 2 refine pu rfl rfl rfl rfl rfl ?_
        refine ef rfl rfl (eCall1 rfl rfl rfl (bch_consecutive _ (by omega) (by omega) zs _ (by omega) (by omega) _ _) ⟨rfl, rfl, trivial⟩ ?_) 
        rintro _ _ ⟨B9, ls9, rfl, hls9, rfl⟩
        refine pu rfl rfl rfl rfl rfl ?_
        refine tr_seq ?_
        refine tr_region ?_
        iterate 2 refine pu rfl rfl rfl rfl rfl ?_
        refine tr_block ?_
        refine tr_loop7 (fun (X : Int) (b : Int) (s : Int) (t : Int) (c : Int) (x : Int) (m : Int) => [(0, .int .i64 n), (2, .int .i64 most), (7, .pointer (some p0)), (9, .slice B3 n.toNat n.toNat), (10, .int .i64 b), (11, .pointer (some p4)), (29, .int .i64 n), (30, .int .i64 T), (12, .int .i64 T), (13, .slice B9 n.toNat n.toNat), (40, .int .i64 n), (41, .int .i64 X)]) (fun (X : Int) (b : Int) (s : Int) (t : Int) (c : Int) (x : Int) (m : Int) => [ow B9 3 n.toNat (ints ls9), ow B3 4 n.toNat (bools (memL n zs)), blk p0 24 [.int .i64 0, .int .i64 0, .int .i64 0, .int .i64 0, .int .i64 0], blk p4 24 [.int .i64 s, .int .i64 t, .int .i64 c, .int .i64 x, .int .i64 m]]) (fun (X : Int) (b : Int) (s : Int) (t : Int) (c : Int) (x : Int) (m : Int) => (0 ≤ X ∧ X ≤ n) ∧ Bd n zs most b T X 0 0 ∧ Att n zs most b s t c x m ∧ 1 ≤ b ∧ b ≤ 2 * n + 2) (fun (X : Int) (b : Int) (s : Int) (t : Int) (c : Int) (x : Int) (m : Int) => (n - X).toNat) (0) (b) (s) (t) (c) (x) (m) ⟨rfl, rfl, rfl, rfl, rfl, rfl, rfl, rfl, rfl, rfl, rfl, rfl, trivial⟩ (by first | exact cs _ _ | exact CSub.refl _) (⟨⟨by omega, by omega⟩, hBd, hAtt, hb1, hb2⟩) (fun X b s t c x m hI => ?_)
        clear hBd hAtt hb1 hb2
        obtain ⟨⟨hX0, hX1⟩, hBd, hAtt, hb1, hb2⟩ := hI
        refine tr_seq ?_
        refine tr_region ?_
        refine pu rfl rfl rfl rfl rfl ?_
        refine tr_seq ?_
        refine tr_cond_bool rfl (fun h11 => ?_) (fun h11 => ?_)
        · try simp only [zb1, zb2, zb3, zb4, zb5, zb6, zb7, zb8, zb9, zb10] at h11
          refine tr_skip ?_
          refine tr_seq ?_
          refine tr_block ?_
          refine tr_seq ?_
          refine tr_region ?_
          iterate 2 refine pu rfl rfl rfl rfl rfl ?_
          refine tr_seq ?_
          refine tr_seq ?_
          refine tr_region ?_
          iterate 3 refine pu rfl rfl rfl rfl rfl ?_
          refine stg rfl rfl rfl rfl rfl (fun hb => by (have hq := hb; try simp only [zb1, zb2, zb3, zb4, zb5, zb6, zb7, zb8, zb9, zb10] at hq); exact rMove rfl rfl) ?_
          refine stg rfl rfl rfl rfl rfl (fun hb => by (have hq := hb; try simp only [zb1, zb2, zb3, zb4, zb5, zb6, zb7, zb8, zb9, zb10] at hq); exact rGtr rfl (evg rfl hb) rfl) ?_
          refine st rfl rfl rfl rfl (rAndB rfl rfl rfl rfl) ?_
          refine tr_cond_bool rfl (fun h13 => ?_) (fun h13 => ?_)
          · try simp only [zb1, zb2, zb3, zb4, zb5, zb6, zb7, zb8, zb9, zb10] at h13
            skip
            refine tr_exit ?_
            refine tr_region ?_
            refine st rfl rfl rfl rfl (rAdd rfl rfl rfl (by omega) (by omega)) ?_
            refine pu rfl rfl rfl rfl rfl ?_
            refine ⟨T + 1, b, s, t, c, x, m, ⟨rfl, rfl, rfl, rfl, rfl, rfl, rfl, rfl, trivial⟩, by first | exact cs _ _ | exact CSub.refl _, ?_⟩
            obtain ⟨hm0, hXp⟩ := h13
            subst hm0
            exact ⟨⟨⟨by omega, by omega⟩, hBd.brkT (by omega) (by omega), hAtt, hb1, hb2⟩, by omega⟩
          · try simp only [zb1, zb2, zb3, zb4, zb5, zb6, zb7, zb8, zb9, zb10] at h13
            refine tr_skip ?_
            refine tr_seq ?_
            refine tr_region ?_
            iterate 2 refine pu rfl rfl rfl rfl rfl ?_
            refine tr_block ?_
            refine tr_loop7 (fun (U : Int) (b : Int) (s : Int) (t : Int) (c : Int) (x : Int) (m : Int) => [(0, .int .i64 n), (2, .int .i64 most), (7, .pointer (some p0)), (9, .slice B3 n.toNat n.toNat), (10, .int .i64 b), (11, .pointer (some p4)), (29, .int .i64 n), (30, .int .i64 T), (12, .int .i64 T), (13, .slice B9 n.toNat n.toNat), (40, .int .i64 n), (41, .int .i64 X), (14, .int .i64 X), (50, .int .i64 n), (51, .int .i64 U)]) (fun (U : Int) (b : Int) (s : Int) (t : Int) (c : Int) (x : Int) (m : Int) => [ow B9 3 n.toNat (ints ls9), ow B3 4 n.toNat (bools (memL n zs)), blk p0 24 [.int .i64 0, .int .i64 0, .int .i64 0, .int .i64 0, .int .i64 0], blk p4 24 [.int .i64 s, .int .i64 t, .int .i64 c, .int .i64 x, .int .i64 m]]) (fun (U : Int) (b : Int) (s : Int) (t : Int) (c : Int) (x : Int) (m : Int) => (0 ≤ U ∧ U ≤ n) ∧ Bd n zs most b T X U 0 ∧ Att n zs most b s t c x m ∧ 1 ≤ b ∧ b ≤ 2 * n + 2) (fun (U : Int) (b : Int) (s : Int) (t : Int) (c : Int) (x : Int) (m : Int) => (n - U).toNat) (0) (b) (s) (t) (c) (x) (m) ⟨rfl, rfl, rfl, rfl, rfl, rfl, rfl, rfl, rfl, rfl, rfl, rfl, rfl, rfl, rfl, trivial⟩ (by first | exact cs _ _ | exact CSub.refl _) (⟨⟨by omega, by omega⟩, hBd, hAtt, hb1, hb2⟩) (fun U b s t c x m hI => ?_)
            clear hBd hAtt hb1 hb2
            obtain ⟨⟨hU0, hU1⟩, hBd, hAtt, hb1, hb2⟩ := hI
            refine tr_seq ?_
            refine tr_region ?_
            refine pu rfl rfl rfl rfl rfl ?_
            refine tr_seq ?_
            refine tr_cond_bool rfl (fun h15 => ?_) (fun h15 => ?_)
            · try simp only [zb1, zb2, zb3, zb4, zb5, zb6, zb7, zb8, zb9, zb10] at h15
              refine tr_skip ?_
              refine tr_seq ?_
              refine tr_block ?_
              refine tr_seq ?_
              refine tr_region ?_
              iterate 2 refine pu rfl rfl rfl rfl rfl ?_
              refine tr_seq ?_
              refine tr_region ?_
              iterate 2 refine pu rfl rfl rfl rfl rfl ?_
              refine tr_seq ?_
              refine tr_region ?_
              refine pu rfl rfl rfl rfl rfl ?_
              refine st rfl rfl rfl rfl (rAdd rfl rfl rfl (by omega) (by omega)) ?_
              refine pu rfl rfl rfl rfl rfl ?_
              refine tr_block ?_
              refine tr_loop8 (fun (J : Int) (k : Int) (b : Int) (s : Int) (t : Int) (c : Int) (x : Int) (m : Int) => [(0, .int .i64 n), (2, .int .i64 most), (7, .pointer (some p0)), (9, .slice B3 n.toNat n.toNat), (10, .int .i64 b), (11, .pointer (some p4)), (29, .int .i64 n), (30, .int .i64 T), (12, .int .i64 T), (13, .slice B9 n.toNat n.toNat), (40, .int .i64 n), (41, .int .i64 X), (14, .int .i64 X), (50, .int .i64 n), (51, .int .i64 U), (15, .int .i64 U), (16, .int .i64 k), (56, .int .i64 (most + 1)), (57, .int .i64 J)]) (fun (J : Int) (k : Int) (b : Int) (s : Int) (t : Int) (c : Int) (x : Int) (m : Int) => [ow B9 3 n.toNat (ints ls9), ow B3 4 n.toNat (bools (memL n zs)), blk p0 24 [.int .i64 0, .int .i64 0, .int .i64 0, .int .i64 0, .int .i64 0], blk p4 24 [.int .i64 s, .int .i64 t, .int .i64 c, .int .i64 x, .int .i64 m]]) (fun (J : Int) (k : Int) (b : Int) (s : Int) (t : Int) (c : Int) (x : Int) (m : Int) => (0 ≤ J ∧ J ≤ most + 1) ∧ Cnt n zs T X U J k ∧ Bd n zs most b T X U J ∧ Att n zs most b s t c x m ∧ 1 ≤ b ∧ b ≤ 2 * n + 2) (fun (J : Int) (k : Int) (b : Int) (s : Int) (t : Int) (c : Int) (x : Int) (m : Int) => (most + 1 - J).toNat) (0) (n) (b) (s) (t) (c) (x) (m) ⟨rfl, rfl, rfl, rfl, rfl, rfl, rfl, rfl, rfl, rfl, rfl, rfl, rfl, rfl, rfl, rfl, rfl, rfl, rfl, trivial⟩ (by first | exact cs _ _ | exact CSub.refl _) (⟨⟨by omega, by omega⟩, Cnt.start n zs T X U (by omega), hBd, hAtt, hb1, hb2⟩) (fun J k b s t c x m hI => ?_)
              clear hBd hAtt hb1 hb2
              obtain ⟨⟨hJ0, hJ1⟩, hcnt, hBd, hAtt, hb1, hb2⟩ := hI
              have hp := mul_bd0 J X 65 64 (by omega) (by omega) (by omega) (by omega)
              have he0 := Int.emod_nonneg (U + J * X) (show n ≠ 0 by omega)
              have he1 := Int.emod_lt_of_pos (U + J * X) (show 0 < n by omega)
              have hcn := hcnt.next (by omega) hJ0 hls9
              have hk0 := hcn.1
              have hk1 := hcn.2.1
              refine tr_seq ?_
              refine tr_region ?_
              refine pu rfl rfl rfl rfl rfl ?_
              refine tr_seq ?_
              refine tr_cond_bool rfl (fun h19 => ?_) (fun h19 => ?_)
              · try simp only [zb1, zb2, zb3, zb4, zb5, zb6, zb7, zb8, zb9, zb10] at h19
                refine tr_skip ?_
                refine tr_seq ?_
                refine tr_block ?_
                refine tr_seq ?_
                refine tr_region ?_
                iterate 2 refine pu rfl rfl rfl rfl rfl ?_
                refine tr_seq ?_
                have hlen9 := hls9.len
                refine tr_region ?_
                iterate 5 refine pu rfl rfl rfl rfl rfl ?_
                refine st rfl rfl rfl rfl (rMul rfl rfl rfl (by omega) (by omega)) ?_
                refine st rfl rfl rfl rfl (rAdd rfl rfl rfl (by omega) (by omega)) ?_
                refine pu rfl rfl rfl rfl rfl ?_
                refine st rfl rfl rfl rfl (rRem rfl rfl rfl (by omega) (by omega)) ?_
                refine st rfl rfl rfl rfl (rIdxI rfl rfl rfl (by omega) (by omega) (by omega)) ?_
                refine st rfl rfl rfl rfl (rLdI rfl rfl (by omega)) ?_
                refine st rfl rfl rfl rfl (rMin rfl rfl rfl) ?_
                refine pu rfl rfl rfl rfl rfl ?_
                refine tr_seq ?_
                refine tr_seq ?_
                refine tr_region ?_
                iterate 2 refine pu rfl rfl rfl rfl rfl ?_
                refine tr_cond_bool rfl (fun h22 => ?_) (fun h22 => ?_)
                · try simp only [zb1, zb2, zb3, zb4, zb5, zb6, zb7, zb8, zb9, zb10] at h22
                  refine tr_exit ?_
                  refine tr_region ?_
                  refine st rfl rfl rfl rfl (rAdd rfl rfl rfl (by omega) (by omega)) ?_
                  refine pu rfl rfl rfl rfl rfl ?_
                  refine ⟨U + 1, b, s, t, c, x, m, ⟨rfl, rfl, rfl, rfl, rfl, rfl, rfl, rfl, rfl, rfl, rfl, rfl, rfl, rfl, rfl, trivial⟩, by first | exact cs _ _ | exact CSub.refl _, ?_⟩
                  rw [h22] at hcn
                  exact ⟨⟨⟨by omega, by omega⟩, hBd.brkS hcn, hAtt, hb1, hb2⟩, by omega⟩
                · try simp only [zb1, zb2, zb3, zb4, zb5, zb6, zb7, zb8, zb9, zb10] at h22
                  refine tr_skip ?_
                  refine tr_seq ?_
                  refine tr_region ?_
                  refine pu rfl rfl rfl rfl rfl ?_
                  refine st rfl rfl rfl rfl (rAdd rfl rfl rfl (by omega) (by omega)) ?_
                  refine pu rfl rfl rfl rfl rfl ?_
                  refine st rfl rfl rfl rfl (rAdd rfl rfl rfl (by omega) (by omega)) ?_
                  iterate 3 refine pu rfl rfl rfl rfl rfl ?_
                  refine stg rfl rfl rfl rfl rfl (fun hb => by (have hq := hb; try simp only [zb1, zb2, zb3, zb4, zb5, zb6, zb7, zb8, zb9, zb10] at hq); exact rMove rfl rfl) ?_
                  refine stg rfl rfl rfl rfl rfl (fun hb => by (have hq := hb; try simp only [zb1, zb2, zb3, zb4, zb5, zb6, zb7, zb8, zb9, zb10] at hq); exact rEql rfl (evg rfl hb) rfl) ?_
                  refine stg rfl rfl rfl rfl rfl (fun hb => by (have hq := hb; try simp only [zb1, zb2, zb3, zb4, zb5, zb6, zb7, zb8, zb9, zb10] at hq); exact rMove rfl (evg rfl hb)) ?_
                  refine stg2 rfl rfl rfl rfl rfl (fun hb => by (have hq := hb; try simp only [zb1, zb2, zb3, zb4, zb5, zb6, zb7, zb8, zb9, zb10] at hq); exact rMove rfl rfl) ?_
                  refine stg2 rfl rfl rfl rfl rfl (fun hb => by (have hq := hb; try simp only [zb1, zb2, zb3, zb4, zb5, zb6, zb7, zb8, zb9, zb10] at hq); exact rMove rfl rfl) ?_
                  refine efg2 rfl rfl rfl rfl rfl (fun hb => by (have hq := hb; try simp only [zb1, zb2, zb3, zb4, zb5, zb6, zb7, zb8, zb9, zb10] at hq); exact eCallV rfl rfl rfl (bch_divisor _ _ (by omega) (by omega)) ⟨(evg rfl hb), (evg rfl hb), trivial⟩ ⟨rfl, rfl⟩) ?_
                  refine stg2 rfl rfl rfl rfl rfl (fun hb => by (have hq := hb; try simp only [zb1, zb2, zb3, zb4, zb5, zb6, zb7, zb8, zb9, zb10] at hq); exact rMove rfl rfl) ?_
                  refine stg2 rfl rfl rfl rfl rfl (fun hb => by (have hq := hb; try simp only [zb1, zb2, zb3, zb4, zb5, zb6, zb7, zb8, zb9, zb10] at hq); exact rLeq rfl (evg rfl hb) (evg rfl hb)) ?_
                  refine stg rfl rfl rfl rfl rfl (fun hb => by (have hq := hb; try simp only [zb1, zb2, zb3, zb4, zb5, zb6, zb7, zb8, zb9, zb10] at hq); exact rOrB rfl (evg rfl hb) rfl (evgp rfl hb)) ?_
                  refine st rfl rfl rfl rfl (rAndB rfl rfl rfl rfl) ?_
                  refine tr_cond_bool rfl (fun h23 => ?_) (fun h23 => ?_)
                  · try simp only [zb1, zb2, zb3, zb4, zb5, zb6, zb7, zb8, zb9, zb10] at h23
                    refine tr_region ?_
                    refine pu rfl rfl rfl rfl rfl ?_
                    refine st rfl rfl rfl rfl (rAdd rfl rfl rfl (by omega) (by omega)) ?_
                    refine pu rfl rfl rfl rfl rfl ?_
                    refine st rfl rfl rfl rfl (rAdd rfl rfl rfl (by omega) (by omega)) ?_
                    iterate 5 refine pu rfl rfl rfl rfl rfl ?_
                    refine st rfl rfl rfl rfl (rBuild rfl rfl) ?_
                    refine pu rfl rfl rfl rfl rfl ?_
                    refine ef rfl rfl (eStS rfl rfl rfl rfl rfl rfl ?_) 
                    refine tr_region ?_
                    refine st rfl rfl rfl rfl (rAdd rfl rfl rfl (by omega) (by omega)) ?_
                    refine pu rfl rfl rfl rfl rfl ?_
                    refine ⟨J + 1, min k (ls9.getD ((U + J * X) % n).toNat 0), min k (ls9.getD ((U + J * X) % n).toNat 0) + 1 + J, U, T, min k (ls9.getD ((U + J * X) % n).toNat 0), X, J, ⟨rfl, rfl, rfl, rfl, rfl, rfl, rfl, rfl, rfl, rfl, rfl, rfl, rfl, rfl, rfl, rfl, rfl, rfl, rfl, trivial⟩, by first | exact cs _ _ | exact CSub.refl _, ?_⟩
                    exact ⟨⟨⟨by omega, by omega⟩, hcn, hBd.nextJ hcn (by omega) (fun _ => Int.le_refl _), .inr ⟨hcn.valid (by omega) ⟨by omega, by omega⟩ ⟨by omega, by omega⟩ ⟨by omega, by omega⟩ (by omega) ⟨by omega, by omega⟩ (by omega), rfl⟩, by omega, by omega⟩, by omega⟩
                  · try simp only [zb1, zb2, zb3, zb4, zb5, zb6, zb7, zb8, zb9, zb10] at h23
                    refine tr_skip ?_
                    refine tr_region ?_
                    refine st rfl rfl rfl rfl (rAdd rfl rfl rfl (by omega) (by omega)) ?_
                    refine pu rfl rfl rfl rfl rfl ?_
                    refine ⟨J + 1, min k (ls9.getD ((U + J * X) % n).toNat 0), b, s, t, c, x, m, ⟨rfl, rfl, rfl, rfl, rfl, rfl, rfl, rfl, rfl, rfl, rfl, rfl, rfl, rfl, rfl, rfl, rfl, rfl, rfl, trivial⟩, by first | exact cs _ _ | exact CSub.refl _, ?_⟩
                    exact ⟨⟨⟨by omega, by omega⟩, hcn, hBd.nextJ hcn (by omega) (fun _ => by omega), hAtt, hb1, hb2⟩, by omega⟩
              · try simp only [zb1, zb2, zb3, zb4, zb5, zb6, zb7, zb8, zb9, zb10] at h19
                refine tr_exit ?_
                refine tr_region ?_
                refine st rfl rfl rfl rfl (rAdd rfl rfl rfl (by omega) (by omega)) ?_
                refine pu rfl rfl rfl rfl rfl ?_
                refine ⟨U + 1, b, s, t, c, x, m, ⟨rfl, rfl, rfl, rfl, rfl, rfl, rfl, rfl, rfl, rfl, rfl, rfl, rfl, rfl, rfl, trivial⟩, by first | exact cs _ _ | exact CSub.refl _, ?_⟩
                have hJn : J = most + 1 := by omega
                subst hJn
                exact ⟨⟨⟨by omega, by omega⟩, hBd.nextS, hAtt, hb1, hb2⟩, by omega⟩
            · try simp only [zb1, zb2, zb3, zb4, zb5, zb6, zb7, zb8, zb9, zb10] at h15
              refine tr_exit ?_
              refine tr_region ?_
              refine st rfl rfl rfl rfl (rAdd rfl rfl rfl (by omega) (by omega)) ?_
              refine pu rfl rfl rfl rfl rfl ?_
              refine ⟨X + 1, b, s, t, c, x, m, ⟨rfl, rfl, rfl, rfl, rfl, rfl, rfl, rfl, rfl, rfl, rfl, rfl, trivial⟩, by first | exact cs _ _ | exact CSub.refl _, ?_⟩
              have hSn : U = n := by omega
              subst hSn
              exact ⟨⟨⟨by omega, by omega⟩, hBd.nextX, hAtt, hb1, hb2⟩, by omega⟩
        · try simp only [zb1, zb2, zb3, zb4, zb5, zb6, zb7, zb8, zb9, zb10] at h11
          refine tr_exit ?_
          refine tr_region ?_
          refine st rfl rfl rfl rfl (rAdd rfl rfl rfl (by omega) (by omega)) ?_
          refine pu rfl rfl rfl rfl rfl ?_
          refine ⟨T + 1, b, s, t, c, x, m, ⟨rfl, rfl, rfl, rfl, rfl, rfl, rfl, rfl, trivial⟩, by first | exact cs _ _ | exact CSub.refl _, ?_⟩
          have hXn : X = n := by omega
          subst hXn
          exact ⟨⟨⟨by omega, by omega⟩, hBd.nextT, hAtt, hb1, hb2⟩, by omega⟩
    · try simp only [zb1, zb2, zb3, zb4, zb5, zb6, zb7, zb8, zb9, zb10] at h6
      refine tr_exit ?_
      refine tr_seq ?_
      refine tr_seq ?_
      refine tr_region ?_
      refine st rfl rfl rfl rfl (rFld rfl rfl) ?_
      refine st rfl rfl rfl rfl (rLdF rfl rfl rfl) ?_
      refine pu rfl rfl rfl rfl rfl ?_
      refine tr_cond_bool rfl (fun h29 => ?_) (fun h29 => ?_)
      · try simp only [zb1, zb2, zb3, zb4, zb5, zb6, zb7, zb8, zb9, zb10] at h29
        refine tr_region ?_
        refine st rfl rfl rfl rfl (rFld rfl rfl) ?_
        refine ef rfl rfl (eStF rfl rfl rfl rfl rfl (by simp) rfl rfl ?_) 
        refine tr_seq ?_
        refine tr_draw [0, 1, 2] [3, 4] mixed (by kernel_rfl) ?_
        refine pu rfl rfl rfl rfl rfl ?_
        refine st rfl rfl rfl rfl (rLdS rfl rfl rfl) ?_
        refine pu rfl rfl rfl rfl rfl ?_
        refine ef rfl rfl (eStS rfl rfl rfl rfl rfl rfl ?_) 
        refine pu rfl rfl rfl rfl rfl ?_
        have hTn : T = n := by omega
        rw [hTn] at hBd
        first
        | exact tr_ret ⟨trivial, _, _, (.tmp rfl (.cell rfl (cellS rfl) (.tmp rfl .nil))), ⟨rfl, b, s, t, c, _, m, 0, rfl, bestR_0 (by omega) hmost hBd hAtt h29⟩, CSub.nil _, trivial⟩
        | exact tr_ret ⟨trivial, _, _, (.tmp rfl (.cell rfl (cellS rfl) (.tmp rfl .nil))), ⟨rfl, b, s, t, c, _, m, 0, rfl, bestR_1 (by omega) hmost hBd hAtt h29⟩, CSub.nil _, trivial⟩
      · try simp only [zb1, zb2, zb3, zb4, zb5, zb6, zb7, zb8, zb9, zb10] at h29
        refine tr_skip ?_
        refine tr_seq ?_
        refine tr_draw [0, 1, 2] [3, 4] mixed (by kernel_rfl) ?_
        refine pu rfl rfl rfl rfl rfl ?_
        refine st rfl rfl rfl rfl (rLdS rfl rfl rfl) ?_
        refine pu rfl rfl rfl rfl rfl ?_
        refine ef rfl rfl (eStS rfl rfl rfl rfl rfl rfl ?_) 
        refine pu rfl rfl rfl rfl rfl ?_
        have hTn : T = n := by omega
        rw [hTn] at hBd
        first
        | exact tr_ret ⟨trivial, _, _, (.tmp rfl (.cell rfl (cellS rfl) (.tmp rfl .nil))), ⟨rfl, b, s, t, c, _, m, 0, rfl, bestR_0 (by omega) hmost hBd hAtt h29⟩, CSub.nil _, trivial⟩
        | exact tr_ret ⟨trivial, _, _, (.tmp rfl (.cell rfl (cellS rfl) (.tmp rfl .nil))), ⟨rfl, b, s, t, c, _, m, 0, rfl, bestR_1 (by omega) hmost hBd hAtt h29⟩, CSub.nil _, trivial⟩

theorem bch_Bound_ent : Enters Try.prog 10 := enters_of Try.func10 (by kernel_rfl) (by kernel_rfl)
theorem bch_Bound (n : Int) (A : Option Addr) (ca : Nat) (zs : List Int) (hl : zs.length ≤ 1000000000) :
    Pure Try.prog 10 #[.int .i64 n, .slice A zs.length ca] [ro A (ints zs)] (val (fun v => ∃ b s t c x m e, v = .tuple #[.int .i64 b, .agg #[.int .i64 s, .int .i64 t, .int .i64 c, .int .i64 x, .int .i64 m], .int .i64 e] ∧ BestR n zs 0 b s t c x m e)) := by
  refine pure_ofC (args := [.int .i64 n, .slice A zs.length ca]) 13 Try.func10 rfl rfl rfl bch_Bound_ent ⟨id, trivial⟩ (fun w0 => ?_)
  refine tr_seq ?_
  refine tr_region ?_
  refine pu rfl rfl rfl rfl rfl ?_
  refine ef rfl rfl (eAlloc rfl rfl rfl (fun p0 => ?_)) 
  refine pu rfl rfl rfl rfl rfl ?_
  refine tr_seq ?_
  refine tr_region ?_
  iterate 2 refine pu rfl rfl rfl rfl rfl ?_
  refine ef rfl rfl (eCall0 rfl rfl rfl (bch_best _ _ _ _ (by omega) _ (by omega)) ⟨rfl, rfl, rfl, trivial⟩ ?_) 
  rintro _ ⟨b1, s1, t1, c1, x1, m1, e1, rfl, hB1⟩
  iterate 4 refine pu rfl rfl rfl rfl rfl ?_
  refine ef rfl rfl (eStS rfl rfl rfl rfl rfl rfl ?_) 
  refine pu rfl rfl rfl rfl rfl ?_
  exact tr_ret ⟨trivial, _, _, (.tmp rfl (.cell rfl (cellS rfl) (.tmp rfl .nil))), ⟨rfl, _, _, _, _, _, _, _, rfl, hB1⟩, CSub.nil _, trivial⟩

theorem bch_Tzeng_ent : Enters Try.prog 11 := enters_of Try.func11 (by kernel_rfl) (by kernel_rfl)
theorem bch_Tzeng (n : Int) (A : Option Addr) (ca : Nat) (zs : List Int) (hl : zs.length ≤ 1000000000) :
    Pure Try.prog 11 #[.int .i64 n, .slice A zs.length ca] [ro A (ints zs)] (val (fun v => ∃ b s t c x m e, v = .tuple #[.int .i64 b, .agg #[.int .i64 s, .int .i64 t, .int .i64 c, .int .i64 x, .int .i64 m], .int .i64 e] ∧ BestR n zs n b s t c x m e)) := by
  refine pure_ofC (args := [.int .i64 n, .slice A zs.length ca]) 14 Try.func11 rfl rfl rfl bch_Tzeng_ent ⟨id, trivial⟩ (fun w0 => ?_)
  refine tr_seq ?_
  refine tr_region ?_
  refine pu rfl rfl rfl rfl rfl ?_
  refine ef rfl rfl (eAlloc rfl rfl rfl (fun p0 => ?_)) 
  refine pu rfl rfl rfl rfl rfl ?_
  refine tr_seq ?_
  refine tr_region ?_
  iterate 3 refine pu rfl rfl rfl rfl rfl ?_
  refine ef rfl rfl (eCall0 rfl rfl rfl (bch_best _ _ _ _ (by omega) _ (by omega)) ⟨rfl, rfl, rfl, trivial⟩ ?_) 
  rintro _ ⟨b1, s1, t1, c1, x1, m1, e1, rfl, hB1⟩
  iterate 4 refine pu rfl rfl rfl rfl rfl ?_
  refine ef rfl rfl (eStS rfl rfl rfl rfl rfl rfl ?_) 
  refine pu rfl rfl rfl rfl rfl ?_
  exact tr_ret ⟨trivial, _, _, (.tmp rfl (.cell rfl (cellS rfl) (.tmp rfl .nil))), ⟨rfl, _, _, _, _, _, _, _, rfl, hB1⟩, CSub.nil _, trivial⟩

theorem ref_column_ent : Enters Try.prog 29 := enters_of Try.func29 (by kernel_rfl) (by kernel_rfl)
theorem ref_column (n : Int) (hn : 1 ≤ n) (hn2 : n ≤ 64) (A : Option Addr) (ca : Nat) (zs : List Int) (hl : zs.length ≤ 1000000000) (a x most : Int) (ha0 : 0 ≤ a) (ha1 : a ≤ 100000) (hx0 : 0 ≤ x) (hx1 : x ≤ 64) (hm0 : 0 ≤ most) (hm1 : most ≤ 64) :
    Pure Try.prog 29 #[.int .i64 n, .slice A (resid n zs).length ca, .int .i64 a, .int .i64 x, .int .i64 most] [ro A (ints (resid n zs))] (val (fun v => ∃ j, v = .int .i64 j ∧ ColOk n zs a x most j)) := by
  have hrl : (resid n zs).length = zs.length := by simp [resid]
  refine pure_of (args := [.int .i64 n, .slice A (resid n zs).length ca, .int .i64 a, .int .i64 x, .int .i64 most]) 30 Try.func29 rfl rfl rfl ref_column_ent ⟨id, trivial⟩ (fun w0 => ?_)
  refine tr_seq ?_
  refine tr_region ?_
  refine pu rfl rfl rfl rfl rfl ?_
  refine tr_seq ?_
  refine tr_region ?_
  refine pu rfl rfl rfl rfl rfl ?_
  refine tr_seq ?_
  refine tr_block ?_
  refine tr_loop1 (fun (j : Int) => [(0, .int .i64 n), (1, .slice A (resid n zs).length ca), (2, .int .i64 a), (3, .int .i64 x), (4, .int .i64 most), (11, .int .i64 j)]) (fun (j : Int) => [ro A (ints (resid n zs))]) (fun (j : Int) => -1 ≤ j ∧ j ≤ most ∧ ∀ i, 0 ≤ i → i ≤ j → Zer n zs (a + i * x)) (fun (j : Int) => (most - j).toNat) (-1) ⟨rfl, rfl, rfl, rfl, rfl, rfl, trivial⟩ (by first | exact cs _ _ | exact CSub.refl _) (⟨by omega, by omega, fun i i0 i1 => by omega⟩) (fun j hI => ?_)
  obtain ⟨hj0, hj1, hJ⟩ := hI
  have hp := mul_bd0 (j + 1) x 65 64 (by omega) (by omega) (by omega) (by omega)
  refine tr_seq ?_
  refine tr_seq ?_
  refine tr_region ?_
  iterate 4 refine pu rfl rfl rfl rfl rfl ?_
  refine stg rfl rfl rfl rfl rfl (fun hb => by (have hq := hb; try simp only [zb1, zb2, zb3, zb4, zb5, zb6, zb7, zb8, zb9, zb10] at hq); exact rMove rfl rfl) ?_
  refine stg rfl rfl rfl rfl rfl (fun hb => by (have hq := hb; try simp only [zb1, zb2, zb3, zb4, zb5, zb6, zb7, zb8, zb9, zb10] at hq); exact rMove rfl rfl) ?_
  refine stg rfl rfl rfl rfl rfl (fun hb => by (have hq := hb; try simp only [zb1, zb2, zb3, zb4, zb5, zb6, zb7, zb8, zb9, zb10] at hq); exact rMove rfl rfl) ?_
  refine stg rfl rfl rfl rfl rfl (fun hb => by (have hq := hb; try simp only [zb1, zb2, zb3, zb4, zb5, zb6, zb7, zb8, zb9, zb10] at hq); exact rAdd rfl (evg rfl hb) rfl (by omega) (by omega)) ?_
  refine stg rfl rfl rfl rfl rfl (fun hb => by (have hq := hb; try simp only [zb1, zb2, zb3, zb4, zb5, zb6, zb7, zb8, zb9, zb10] at hq); exact rMove rfl rfl) ?_
  refine stg rfl rfl rfl rfl rfl (fun hb => by (have hq := hb; try simp only [zb1, zb2, zb3, zb4, zb5, zb6, zb7, zb8, zb9, zb10] at hq); exact rMul rfl (evg rfl hb) (evg rfl hb) (by omega) (by omega)) ?_
  refine stg rfl rfl rfl rfl rfl (fun hb => by (have hq := hb; try simp only [zb1, zb2, zb3, zb4, zb5, zb6, zb7, zb8, zb9, zb10] at hq); exact rAdd rfl (evg rfl hb) (evg rfl hb) (by omega) (by omega)) ?_
  refine stg rfl rfl rfl rfl rfl (fun hb => by (have hq := hb; try simp only [zb1, zb2, zb3, zb4, zb5, zb6, zb7, zb8, zb9, zb10] at hq); exact rMove rfl rfl) ?_
  refine efg rfl rfl rfl rfl rfl (fun hb => by (have hq := hb; try simp only [zb1, zb2, zb3, zb4, zb5, zb6, zb7, zb8, zb9, zb10] at hq); exact eCallV rfl rfl rfl (ref_mod _ _ (by omega) (by omega)) ⟨(evg rfl hb), (evg rfl hb), trivial⟩ ⟨rfl, rfl⟩) ?_
  refine efg rfl rfl rfl rfl rfl (fun hb => by (have hq := hb; try simp only [zb1, zb2, zb3, zb4, zb5, zb6, zb7, zb8, zb9, zb10] at hq); exact eCallV rfl rfl rfl (ref_has _ _ _ _ (by omega)) ⟨(evg rfl hb), (evg rfl hb), trivial⟩ ⟨rfl, rfl⟩) ?_
  refine st rfl rfl rfl rfl (rAndB rfl rfl rfl rfl) ?_
  refine tr_cond_bool rfl (fun h2 => ?_) (fun h2 => ?_)
  · try simp only [zb1, zb2, zb3, zb4, zb5, zb6, zb7, zb8, zb9, zb10] at h2
    refine tr_skip ?_
    refine tr_block ?_
    refine tr_region ?_
    refine pu rfl rfl rfl rfl rfl ?_
    refine st rfl rfl rfl rfl (rAdd rfl rfl rfl (by omega) (by omega)) ?_
    refine pu rfl rfl rfl rfl rfl ?_
    refine ⟨j + 1, ⟨rfl, rfl, rfl, rfl, rfl, rfl, trivial⟩, by first | exact cs _ _ | exact CSub.refl _, ?_⟩
    have hz := (resid_mem n zs _).1 h2.2
    exact ⟨⟨by omega, by omega, fun i i0 i1 => by
      by_cases hi : i = j + 1
      · subst hi; exact hz
      · exact hJ i i0 (by omega)⟩, by omega⟩
  · try simp only [zb1, zb2, zb3, zb4, zb5, zb6, zb7, zb8, zb9, zb10] at h2
    refine tr_exit ?_
    refine tr_seq ?_
    refine tr_region ?_
    iterate 2 refine pu rfl rfl rfl rfl rfl ?_
    refine tr_ret ⟨trivial, _, _, rfl, ⟨rfl, j, rfl, hj0, hj1, fun m m0 m1 => ⟨fun hh => ?_, fun hm i i0 i1 => hJ i i0 (by omega)⟩⟩, CSub.nil _, trivial⟩
    rcases h2 with h2 | h2
    · omega
    · by_cases hmj : m ≤ j
      · exact hmj
      · exact absurd ((resid_mem n zs _).2 (hh (j + 1) (by omega) (by omega))) h2

theorem ref_Best_ent : Enters Try.prog 12 := enters_of Try.func12 (by kernel_rfl) (by kernel_rfl)
theorem ref_Best (n : Int) (hn : 1 ≤ n) (hn2 : n ≤ 64) (A : Option Addr) (ca : Nat) (zs : List Int) (hl : zs.length ≤ 1000000000) (most : Int) (hmost : most = 0 ∨ most = n) :
    Pure Try.prog 12 #[.int .i64 n, .slice A zs.length ca, .int .i64 most] [ro A (ints zs)] (isV (.int .i64 (bestN n zs most))) := by
  have hrl : (resid n zs).length = zs.length := by simp [resid]
  refine pure_of (args := [.int .i64 n, .slice A zs.length ca, .int .i64 most]) 87 Try.func12 rfl rfl rfl ref_Best_ent ⟨id, trivial⟩ (fun w0 => ?_)
  refine tr_seq ?_
  refine tr_region ?_
  refine pu rfl rfl rfl rfl rfl ?_
  refine tr_seq ?_
  refine tr_region ?_
  iterate 2 refine pu rfl rfl rfl rfl rfl ?_
  refine ef rfl rfl (eCall1 rfl rfl rfl (ref_residues _ (by omega) (by omega) _ _ _ (by omega)) ⟨rfl, rfl, trivial⟩ ?_) 
  rintro _ _ ⟨B1, c1, rfl, rfl⟩
  refine pu rfl rfl rfl rfl rfl ?_
  refine tr_seq ?_
  refine tr_region ?_
  refine pu rfl rfl rfl rfl rfl ?_
  refine tr_seq ?_
  refine tr_seq ?_
  refine tr_region ?_
  refine pu rfl rfl rfl rfl rfl ?_
  refine tr_block ?_
  refine tr_loop2 (fun (U : Int) (b : Int) => [(0, .int .i64 n), (2, .int .i64 most), (7, .slice B1 (resid n zs).length c1), (8, .int .i64 b), (9, .int .i64 U)]) (fun (U : Int) (b : Int) => [ow B1 3 c1 (ints (resid n zs))]) (fun (U : Int) (b : Int) => (0 ≤ U ∧ U ≤ n) ∧ Rd2 n zs most b U 0 0 1 ∧ Att2 n zs most b ∧ 1 ≤ b ∧ b ≤ 2 * n + 2) (fun (U : Int) (b : Int) => (n - U).toNat) (0) (1) ⟨rfl, rfl, rfl, rfl, rfl, trivial⟩ (by first | exact cs _ _ | exact CSub.refl _) (⟨⟨by omega, by omega⟩, Rd2.start n zs most, .inl rfl, by omega, by omega⟩) (fun U b hI => ?_)
  obtain ⟨⟨hU0, hU1⟩, hR, hA, hb1, hb2⟩ := hI
  refine tr_seq ?_
  refine tr_seq ?_
  refine tr_region ?_
  iterate 3 refine pu rfl rfl rfl rfl rfl ?_
  refine tr_cond_bool rfl (fun h4 => ?_) (fun h4 => ?_)
  · try simp only [zb1, zb2, zb3, zb4, zb5, zb6, zb7, zb8, zb9, zb10] at h4
    refine tr_skip ?_
    refine tr_seq ?_
    refine tr_block ?_
    refine tr_seq ?_
    refine tr_region ?_
    refine pu rfl rfl rfl rfl rfl ?_
    refine tr_block ?_
    refine tr_loop2 (fun (T : Int) (b : Int) => [(0, .int .i64 n), (2, .int .i64 most), (7, .slice B1 (resid n zs).length c1), (8, .int .i64 b), (9, .int .i64 U), (10, .int .i64 T)]) (fun (T : Int) (b : Int) => [ow B1 3 c1 (ints (resid n zs))]) (fun (T : Int) (b : Int) => (0 ≤ T ∧ T ≤ n) ∧ Rd2 n zs most b U T 0 1 ∧ Att2 n zs most b ∧ 1 ≤ b ∧ b ≤ 2 * n + 2) (fun (T : Int) (b : Int) => (n - T).toNat) (0) (b) ⟨rfl, rfl, rfl, rfl, rfl, rfl, trivial⟩ (by first | exact cs _ _ | exact CSub.refl _) (⟨⟨by omega, by omega⟩, hR, hA, hb1, hb2⟩) (fun T b hI => ?_)
    clear hR hA hb1 hb2
    obtain ⟨⟨hT0, hT1⟩, hR, hA, hb1, hb2⟩ := hI
    refine tr_seq ?_
    refine tr_seq ?_
    refine tr_region ?_
    iterate 3 refine pu rfl rfl rfl rfl rfl ?_
    refine tr_cond_bool rfl (fun h7 => ?_) (fun h7 => ?_)
    · try simp only [zb1, zb2, zb3, zb4, zb5, zb6, zb7, zb8, zb9, zb10] at h7
      refine tr_skip ?_
      refine tr_seq ?_
      refine tr_block ?_
      refine tr_seq ?_
      refine tr_region ?_
      refine pu rfl rfl rfl rfl rfl ?_
      refine tr_block ?_
      refine tr_loop2 (fun (X : Int) (b : Int) => [(0, .int .i64 n), (2, .int .i64 most), (7, .slice B1 (resid n zs).length c1), (8, .int .i64 b), (9, .int .i64 U), (10, .int .i64 T), (11, .int .i64 X)]) (fun (X : Int) (b : Int) => [ow B1 3 c1 (ints (resid n zs))]) (fun (X : Int) (b : Int) => (0 ≤ X ∧ X ≤ n) ∧ Rd2 n zs most b U T X 1 ∧ Att2 n zs most b ∧ 1 ≤ b ∧ b ≤ 2 * n + 2) (fun (X : Int) (b : Int) => (n - X).toNat) (0) (b) ⟨rfl, rfl, rfl, rfl, rfl, rfl, rfl, trivial⟩ (by first | exact cs _ _ | exact CSub.refl _) (⟨⟨by omega, by omega⟩, hR, hA, hb1, hb2⟩) (fun X b hI => ?_)
      clear hR hA hb1 hb2
      obtain ⟨⟨hX0, hX1⟩, hR, hA, hb1, hb2⟩ := hI
      have hUm : U % n = U := Int.emod_eq_of_lt (by omega) (by omega)
      have hrm := resid_mem n zs U
      rw [hUm] at hrm
      refine tr_seq ?_
      refine tr_seq ?_
      refine tr_region ?_
      iterate 3 refine pu rfl rfl rfl rfl rfl ?_
      refine tr_cond_bool rfl (fun h10 => ?_) (fun h10 => ?_)
      · try simp only [zb1, zb2, zb3, zb4, zb5, zb6, zb7, zb8, zb9, zb10] at h10
        refine tr_skip ?_
        refine tr_seq ?_
        refine tr_block ?_
        refine tr_seq ?_
        refine tr_seq ?_
        refine tr_region ?_
        iterate 2 refine pu rfl rfl rfl rfl rfl ?_
        refine ef rfl rfl (eCallV rfl rfl rfl (ref_Gcd _ _ (by omega) (by omega)) ⟨rfl, rfl, trivial⟩ ?_) 
        iterate 2 refine pu rfl rfl rfl rfl rfl ?_
        refine stg rfl rfl rfl rfl rfl (fun hb => by (have hq := hb; try simp only [zb1, zb2, zb3, zb4, zb5, zb6, zb7, zb8, zb9, zb10] at hq); exact rMove rfl rfl) ?_
        refine stg rfl rfl rfl rfl rfl (fun hb => by (have hq := hb; try simp only [zb1, zb2, zb3, zb4, zb5, zb6, zb7, zb8, zb9, zb10] at hq); exact rMove rfl rfl) ?_
        refine efg rfl rfl rfl rfl rfl (fun hb => by (have hq := hb; try simp only [zb1, zb2, zb3, zb4, zb5, zb6, zb7, zb8, zb9, zb10] at hq); exact eCallV rfl rfl rfl (ref_has _ _ _ _ (by omega)) ⟨(evg rfl hb), (evg rfl hb), trivial⟩ ⟨rfl, rfl⟩) ?_
        refine stg rfl rfl rfl rfl rfl (fun hb => by (have hq := hb; try simp only [zb1, zb2, zb3, zb4, zb5, zb6, zb7, zb8, zb9, zb10] at hq); exact rNotB rfl (evg rfl hb)) ?_
        refine st rfl rfl rfl rfl (rOrB rfl rfl rfl rfl) ?_
        refine pu rfl rfl rfl rfl rfl ?_
        refine stg rfl rfl rfl rfl rfl (fun hb => by (have hq := hb; try simp only [zb1, zb2, zb3, zb4, zb5, zb6, zb7, zb8, zb9, zb10] at hq); exact rMove rfl rfl) ?_
        refine stg rfl rfl rfl rfl rfl (fun hb => by (have hq := hb; try simp only [zb1, zb2, zb3, zb4, zb5, zb6, zb7, zb8, zb9, zb10] at hq); exact rGtr rfl (evg rfl hb) rfl) ?_
        refine stg rfl rfl rfl rfl rfl (fun hb => by (have hq := hb; try simp only [zb1, zb2, zb3, zb4, zb5, zb6, zb7, zb8, zb9, zb10] at hq); exact rMove rfl (evg rfl hb)) ?_
        refine stg2 rfl rfl rfl rfl rfl (fun hb => by (have hq := hb; try simp only [zb1, zb2, zb3, zb4, zb5, zb6, zb7, zb8, zb9, zb10] at hq); exact rMove rfl rfl) ?_
        refine stg2 rfl rfl rfl rfl rfl (fun hb => by (have hq := hb; try simp only [zb1, zb2, zb3, zb4, zb5, zb6, zb7, zb8, zb9, zb10] at hq); exact rEql rfl (evg rfl hb) rfl) ?_
        refine stg rfl rfl rfl rfl rfl (fun hb => by (have hq := hb; try simp only [zb1, zb2, zb3, zb4, zb5, zb6, zb7, zb8, zb9, zb10] at hq); exact rAndB rfl (evg rfl hb) (evgp rfl hb) rfl) ?_
        refine st rfl rfl rfl rfl (rOrB rfl rfl rfl rfl) ?_
        refine tr_cond_bool rfl (fun h12 => ?_) (fun h12 => ?_)
        · try simp only [zb1, zb2, zb3, zb4, zb5, zb6, zb7, zb8, zb9, zb10] at h12
          refine tr_exit ?_
          refine tr_region ?_
          refine pu rfl rfl rfl rfl rfl ?_
          refine st rfl rfl rfl rfl (rAdd rfl rfl rfl (by omega) (by omega)) ?_
          refine pu rfl rfl rfl rfl rfl ?_
          refine ⟨X + 1, b, ⟨rfl, rfl, rfl, rfl, rfl, rfl, rfl, trivial⟩, by first | exact cs _ _ | exact CSub.refl _, ?_⟩
          exact ⟨⟨⟨by omega, by omega⟩, hR.skip (by omega) hX0 (by
            rcases h12 with (h | h) | h
            · exact .inl (.inl (by omega))
            · exact .inl (.inr (fun hz => h (hrm.2 hz)))
            · exact .inr ⟨h.1, h.2⟩), hA, hb1, hb2⟩, by omega⟩
        · try simp only [zb1, zb2, zb3, zb4, zb5, zb6, zb7, zb8, zb9, zb10] at h12
          refine tr_skip ?_
          refine tr_seq ?_
          refine tr_region ?_
          iterate 2 refine pu rfl rfl rfl rfl rfl ?_
          refine tr_seq ?_
          refine tr_region ?_
          refine pu rfl rfl rfl rfl rfl ?_
          refine tr_block ?_
          refine tr_loop3 (fun (C : Int) (r : Int) (b : Int) => [(0, .int .i64 n), (2, .int .i64 most), (7, .slice B1 (resid n zs).length c1), (8, .int .i64 b), (9, .int .i64 U), (10, .int .i64 T), (11, .int .i64 X), (12, .int .i64 r), (13, .int .i64 C)]) (fun (C : Int) (r : Int) (b : Int) => [ow B1 3 c1 (ints (resid n zs))]) (fun (C : Int) (r : Int) (b : Int) => (1 ≤ C ∧ C ≤ n + 1) ∧ (0 ≤ r ∧ Rows2 n zs most U T X (C - 1) r) ∧ Rd2 n zs most b U T X C ∧ Att2 n zs most b ∧ 1 ≤ b ∧ b ≤ 2 * n + 2) (fun (C : Int) (r : Int) (b : Int) => (n + 1 - C).toNat) (1) (most) (b) ⟨rfl, rfl, rfl, rfl, rfl, rfl, rfl, rfl, rfl, trivial⟩ (by first | exact cs _ _ | exact CSub.refl _) (⟨⟨by omega, by omega⟩, ⟨by omega, Rows2.start n zs most U T X (by omega)⟩, hR, hA, hb1, hb2⟩) (fun C r b hI => ?_)
          clear hR hA hb1 hb2
          obtain ⟨⟨hC0, hC1⟩, ⟨hr0, hr1⟩, hR, hA, hb1, hb2⟩ := hI
          have hr2 := hr1.2.1
          have hp := mul_bd0 (C - 1) T 64 64 (by omega) (by omega) (by omega) (by omega)
          refine tr_seq ?_
          refine tr_seq ?_
          refine tr_region ?_
          iterate 3 refine pu rfl rfl rfl rfl rfl ?_
          refine tr_cond_bool rfl (fun h15 => ?_) (fun h15 => ?_)
          · try simp only [zb1, zb2, zb3, zb4, zb5, zb6, zb7, zb8, zb9, zb10] at h15
            refine tr_skip ?_
            refine tr_seq ?_
            refine tr_block ?_
            refine tr_seq ?_
            refine tr_region ?_
            iterate 5 refine pu rfl rfl rfl rfl rfl ?_
            refine st rfl rfl rfl rfl (rSub rfl rfl rfl (by omega) (by omega)) ?_
            refine pu rfl rfl rfl rfl rfl ?_
            refine st rfl rfl rfl rfl (rMul rfl rfl rfl (by omega) (by omega)) ?_
            refine st rfl rfl rfl rfl (rAdd rfl rfl rfl (by omega) (by omega)) ?_
            iterate 2 refine pu rfl rfl rfl rfl rfl ?_
            refine ef rfl rfl (eCall0 rfl rfl rfl (ref_column _ (by omega) (by omega) _ _ zs (by omega) _ _ _ (by omega) (by omega) (by omega) (by omega) (by omega) (by omega)) ⟨rfl, rfl, rfl, rfl, rfl, trivial⟩ ?_) 
            rintro _ ⟨j17, rfl, hj17⟩
            refine st rfl rfl rfl rfl (rMin rfl rfl rfl) ?_
            refine pu rfl rfl rfl rfl rfl ?_
            refine tr_seq ?_
            refine tr_seq ?_
            have hrw := hr1.next (by omega) hr0 hj17
            rw [show C - 1 + 1 = C by omega] at hrw
            have hj17a := hj17.1
            have hj17b := hj17.2.1
            refine tr_region ?_
            iterate 2 refine pu rfl rfl rfl rfl rfl ?_
            refine tr_cond_bool rfl (fun h18 => ?_) (fun h18 => ?_)
            · try simp only [zb1, zb2, zb3, zb4, zb5, zb6, zb7, zb8, zb9, zb10] at h18
              refine tr_exit ?_
              refine tr_region ?_
              refine pu rfl rfl rfl rfl rfl ?_
              refine st rfl rfl rfl rfl (rAdd rfl rfl rfl (by omega) (by omega)) ?_
              refine pu rfl rfl rfl rfl rfl ?_
              refine ⟨X + 1, b, ⟨rfl, rfl, rfl, rfl, rfl, rfl, rfl, trivial⟩, by first | exact cs _ _ | exact CSub.refl _, ?_⟩
              exact ⟨⟨⟨by omega, by omega⟩, hR.brk hrw (by omega), hA, hb1, hb2⟩, by omega⟩
            · try simp only [zb1, zb2, zb3, zb4, zb5, zb6, zb7, zb8, zb9, zb10] at h18
              refine tr_skip ?_
              refine tr_seq ?_
              refine tr_region ?_
              iterate 2 refine pu rfl rfl rfl rfl rfl ?_
              refine st rfl rfl rfl rfl (rAdd rfl rfl rfl (by omega) (by omega)) ?_
              refine st rfl rfl rfl rfl (rMax rfl rfl rfl) ?_
              refine pu rfl rfl rfl rfl rfl ?_
              refine tr_seq ?_
              refine tr_region ?_
              iterate 2 refine pu rfl rfl rfl rfl rfl ?_
              refine ef rfl rfl (eCallV rfl rfl rfl (ref_Gcd _ _ (by omega) (by omega)) ⟨rfl, rfl, trivial⟩ ?_) 
              iterate 2 refine pu rfl rfl rfl rfl rfl ?_
              refine tr_cond_bool rfl (fun h20 => ?_) (fun h20 => ?_)
              · try simp only [zb1, zb2, zb3, zb4, zb5, zb6, zb7, zb8, zb9, zb10] at h20
                refine tr_region ?_
                iterate 2 refine pu rfl rfl rfl rfl rfl ?_
                refine st rfl rfl rfl rfl (rAdd rfl rfl rfl (by omega) (by omega)) ?_
                refine pu rfl rfl rfl rfl rfl ?_
                refine st rfl rfl rfl rfl (rAdd rfl rfl rfl (by omega) (by omega)) ?_
                refine st rfl rfl rfl rfl (rMax rfl rfl rfl) ?_
                refine pu rfl rfl rfl rfl rfl ?_
                refine tr_region ?_
                refine pu rfl rfl rfl rfl rfl ?_
                refine st rfl rfl rfl rfl (rAdd rfl rfl rfl (by omega) (by omega)) ?_
                refine pu rfl rfl rfl rfl rfl ?_
                refine ⟨C + 1, min r j17, max (max b (C + 1)) (C + 1 + min r j17), ⟨rfl, rfl, rfl, rfl, rfl, rfl, rfl, rfl, rfl, trivial⟩, by first | exact cs _ _ | exact CSub.refl _, ?_⟩
                have hg : Int.gcd T n = 1 := by omega
                exact ⟨⟨⟨by omega, by omega⟩, ⟨by omega, by rw [show C + 1 - 1 = C by omega]; exact hrw⟩, hR.nextC hrw (by omega) (by omega) (fun _ => by omega), (hA.max0 (hrw.valid (m := 0) ⟨by omega, by omega⟩ ⟨hU0, h4⟩ ⟨hT0, h7⟩ ⟨hX0, h10⟩ hg ⟨by omega, by omega⟩ (.inl rfl))).max (hrw.valid (m := min r j17) ⟨by omega, by omega⟩ ⟨hU0, h4⟩ ⟨hT0, h7⟩ ⟨hX0, h10⟩ hg ⟨by omega, by omega⟩ (.inr h20)), by omega, by omega⟩, by omega⟩
              · try simp only [zb1, zb2, zb3, zb4, zb5, zb6, zb7, zb8, zb9, zb10] at h20
                refine tr_skip ?_
                refine tr_region ?_
                refine pu rfl rfl rfl rfl rfl ?_
                refine st rfl rfl rfl rfl (rAdd rfl rfl rfl (by omega) (by omega)) ?_
                refine pu rfl rfl rfl rfl rfl ?_
                refine ⟨C + 1, min r j17, max b (C + 1), ⟨rfl, rfl, rfl, rfl, rfl, rfl, rfl, rfl, rfl, trivial⟩, by first | exact cs _ _ | exact CSub.refl _, ?_⟩
                have hg : Int.gcd T n = 1 := by omega
                exact ⟨⟨⟨by omega, by omega⟩, ⟨by omega, by rw [show C + 1 - 1 = C by omega]; exact hrw⟩, hR.nextC hrw (by omega) (by omega) (fun h => absurd h h20), hA.max0 (hrw.valid (m := 0) ⟨by omega, by omega⟩ ⟨hU0, h4⟩ ⟨hT0, h7⟩ ⟨hX0, h10⟩ hg ⟨by omega, by omega⟩ (.inl rfl)), by omega, by omega⟩, by omega⟩
          · try simp only [zb1, zb2, zb3, zb4, zb5, zb6, zb7, zb8, zb9, zb10] at h15
            refine tr_exit ?_
            refine tr_region ?_
            refine pu rfl rfl rfl rfl rfl ?_
            refine st rfl rfl rfl rfl (rAdd rfl rfl rfl (by omega) (by omega)) ?_
            refine pu rfl rfl rfl rfl rfl ?_
            refine ⟨X + 1, b, ⟨rfl, rfl, rfl, rfl, rfl, rfl, rfl, trivial⟩, by first | exact cs _ _ | exact CSub.refl _, ?_⟩
            have hCn : C = n + 1 := by omega
            rw [hCn] at hR
            exact ⟨⟨⟨by omega, by omega⟩, hR.nextX, hA, hb1, hb2⟩, by omega⟩
      · try simp only [zb1, zb2, zb3, zb4, zb5, zb6, zb7, zb8, zb9, zb10] at h10
        refine tr_exit ?_
        refine tr_region ?_
        refine pu rfl rfl rfl rfl rfl ?_
        refine st rfl rfl rfl rfl (rAdd rfl rfl rfl (by omega) (by omega)) ?_
        refine pu rfl rfl rfl rfl rfl ?_
        refine ⟨T + 1, b, ⟨rfl, rfl, rfl, rfl, rfl, rfl, trivial⟩, by first | exact cs _ _ | exact CSub.refl _, ?_⟩
        have hXn : X = n := by omega
        rw [hXn] at hR
        exact ⟨⟨⟨by omega, by omega⟩, hR.nextT, hA, hb1, hb2⟩, by omega⟩
    · try simp only [zb1, zb2, zb3, zb4, zb5, zb6, zb7, zb8, zb9, zb10] at h7
      refine tr_exit ?_
      refine tr_region ?_
      refine pu rfl rfl rfl rfl rfl ?_
      refine st rfl rfl rfl rfl (rAdd rfl rfl rfl (by omega) (by omega)) ?_
      refine pu rfl rfl rfl rfl rfl ?_
      refine ⟨U + 1, b, ⟨rfl, rfl, rfl, rfl, rfl, trivial⟩, by first | exact cs _ _ | exact CSub.refl _, ?_⟩
      have hTn : T = n := by omega
      rw [hTn] at hR
      exact ⟨⟨⟨by omega, by omega⟩, hR.nextS, hA, hb1, hb2⟩, by omega⟩
  · try simp only [zb1, zb2, zb3, zb4, zb5, zb6, zb7, zb8, zb9, zb10] at h4
    refine tr_exit ?_
    refine tr_seq ?_
    refine tr_region ?_
    iterate 2 refine pu rfl rfl rfl rfl rfl ?_
    have hUn : U = n := by omega
    rw [hUn] at hR
    exact tr_ret ⟨trivial, _, _, rfl, ⟨by rw [(hR.done hA).eq], rfl⟩, CSub.nil _, trivial⟩

end Go.Proofs.Ytancpcmiimcdhaa

/-
  THE LAW CyclicPartition. One sentence: whatever the input, the law returns true and the input reads as it did.
  Conditions: none.
-/
import Derived.Test.YtjmojhflnjbgaaaCls
import Derived.Test.YtjmojhflnjbgaaaBest
import Derived.Test.YtjmojhflnjbgaaaOpen
import Derived.Test.YtjmojhflnjbgaaaSymO
set_option linter.unusedSimpArgs false
set_option linter.unusedVariables false
set_option maxRecDepth 100000
namespace Go.Proofs.Ytjmojhflnjbgaaa
open Go.ChangeShapes Go.WideShapes Go.ChangeAt Go.RowKit

theorem rep_zero (k j : Nat) : (List.replicate k (0 : Int)).getD j 0 = 0 := by
  rw [List.getD_eq_getElem?_getD, List.getElem?_replicate]; split <;> rfl
theorem nodup_take {l : List Int} (h : l.Nodup) {i : Nat} (hi : i < l.length) (hm : l.getD i 0 ∈ l.take i) : False := by
  rw [List.getD_eq_getElem?_getD, List.getElem?_eq_getElem hi] at hm
  obtain ⟨j, hj, he⟩ := List.getElem_of_mem hm
  rw [List.length_take] at hj
  rw [List.getElem_take] at he
  have := nodup_inj h (by omega) hi he
  omega

theorem cosetArgs_ok' {q n : Int} (h : cosetArgs q n = 0) : 2 ≤ q ∧ q ≤ 256 ∧ 1 ≤ n ∧ n ≤ 65536 ∧ Int.gcd q n = 1 := by
  unfold cosetArgs at h
  split at h
  · omega
  · split at h
    · omega
    · omega

theorem law_CyclicPartition_no_ent : Enters Try.prog 11 := enters_of Try.func11 (by kernel_rfl) (by kernel_rfl)
theorem law_CyclicPartition_no (q n : Int) (q0 : 0 ≤ q) (q1 : q ≤ 255) (n0 : 0 ≤ n) (n1 : n ≤ 255) (h : cosetArgs q n ≠ 0) :
    Pure Try.prog 11 #[.int .u8 q, .int .u8 n] [] (isV (.bool true)) := by
  refine pure_of (args := [.int .u8 q, .int .u8 n]) 129 Try.func11 rfl rfl rfl law_CyclicPartition_no_ent trivial (fun w0 => ?_)
  refine tr_seq ?_
  refine tr_region fun _ _ _ => ?_
  refine pu rfl rfl rfl rfl rfl ?_
  refine tr_seq ?_
  refine tr_region fun _ _ _ => ?_
  refine pu rfl rfl rfl rfl rfl ?_
  refine st rfl rfl rfl rfl (rConv rfl undU8 undI rfl (IntWalk.i64_in _ ⟨by omega, by omega⟩)) ?_
  refine pu rfl rfl rfl rfl rfl ?_
  refine st rfl rfl rfl rfl (rConv rfl undU8 undI rfl (IntWalk.i64_in _ ⟨by omega, by omega⟩)) ?_
  refine ef rfl rfl (eCallV rfl rfl rfl (cyc_Cosets_no _ _ h) ⟨rfl, rfl, trivial⟩ ?_) 
  iterate 5 refine pu rfl rfl rfl rfl rfl ?_
  refine tr_seq ?_
  refine tr_seq ?_
  refine tr_region fun _ _ _ => ?_
  refine pu rfl rfl rfl rfl rfl ?_
  refine st rfl rfl rfl rfl (rLssK rfl rfl rfl) ?_
  refine pu rfl rfl rfl rfl rfl ?_
  refine stg rfl rfl rfl rfl rfl (fun hb => by (have hq := hb; try simp only [zb1, zb2, zb3, zb4, zb5, zb6, zb7, zb8, zb9, zb10] at hq); exact rMove rfl rfl) ?_
  refine stg rfl rfl rfl rfl rfl (fun hb => by (have hq := hb; try simp only [zb1, zb2, zb3, zb4, zb5, zb6, zb7, zb8, zb9, zb10] at hq); exact rLssK rfl (evg rfl hb) rfl) ?_
  refine st rfl rfl rfl rfl (rOrB rfl rfl rfl rfl) ?_
  refine tr_cond_bool rfl (fun h2 => ?_) (fun h2 => ?_)
  · try simp only [zb1, zb2, zb3, zb4, zb5, zb6, zb7, zb8, zb9, zb10] at h2
    refine tr_seq ?_
    refine tr_region fun _ _ _ => ?_
    iterate 3 refine pu rfl rfl rfl rfl rfl ?_
    have hc : cosetArgs q n = 6 := by rw [cosetArgs, if_pos (by omega)]
    exact tr_ret ⟨trivial, _, _, rfl, ⟨by simp [hc], rfl⟩, CSub.nil _, trivial⟩
  · try simp only [zb1, zb2, zb3, zb4, zb5, zb6, zb7, zb8, zb9, zb10] at h2
    refine tr_skip ?_
    refine tr_seq ?_
    refine tr_seq ?_
    refine tr_region fun _ _ _ => ?_
    iterate 2 refine pu rfl rfl rfl rfl rfl ?_
    refine tr_cond_bool rfl (fun h4 => ?_) (fun h4 => ?_)
    · try simp only [zb1, zb2, zb3, zb4, zb5, zb6, zb7, zb8, zb9, zb10] at h4
      refine tr_seq ?_
      refine tr_region fun _ _ _ => ?_
      iterate 3 refine pu rfl rfl rfl rfl rfl ?_
      refine stg rfl rfl rfl rfl rfl (fun hb => by (have hq := hb; try simp only [zb1, zb2, zb3, zb4, zb5, zb6, zb7, zb8, zb9, zb10] at hq); exact rMove rfl rfl) ?_
      refine stg rfl rfl rfl rfl rfl (fun hb => by (have hq := hb; try simp only [zb1, zb2, zb3, zb4, zb5, zb6, zb7, zb8, zb9, zb10] at hq); exact rConv rfl undU8 undI (evg rfl hb) (IntWalk.i64_in _ ⟨by omega, by omega⟩)) ?_
      refine stg rfl rfl rfl rfl rfl (fun hb => by (have hq := hb; try simp only [zb1, zb2, zb3, zb4, zb5, zb6, zb7, zb8, zb9, zb10] at hq); exact rMove rfl rfl) ?_
      refine stg rfl rfl rfl rfl rfl (fun hb => by (have hq := hb; try simp only [zb1, zb2, zb3, zb4, zb5, zb6, zb7, zb8, zb9, zb10] at hq); exact rConv rfl undU8 undI (evg rfl hb) (IntWalk.i64_in _ ⟨by omega, by omega⟩)) ?_
      refine efg rfl rfl rfl rfl rfl (fun hb => by (have hq := hb; try simp only [zb1, zb2, zb3, zb4, zb5, zb6, zb7, zb8, zb9, zb10] at hq); exact eCallV rfl rfl rfl (ref_common _ _ (by omega) (by omega)) ⟨(evg rfl hb), (evg rfl hb), trivial⟩ ⟨rfl, rfl⟩) ?_
      refine stg rfl rfl rfl rfl rfl (fun hb => by (have hq := hb; try simp only [zb1, zb2, zb3, zb4, zb5, zb6, zb7, zb8, zb9, zb10] at hq); exact rNeq rfl (evg rfl hb) rfl) ?_
      refine st rfl rfl rfl rfl (rAndB rfl rfl rfl rfl) ?_
      refine pu rfl rfl rfl rfl rfl ?_
      have hg : (Int.gcd q n : Int) ≠ 1 := fun e => h (by rw [cosetArgs, if_neg (by omega), if_neg (by omega)])
      have hc : cosetArgs q n = 10 := by rw [cosetArgs, if_neg (by omega), if_pos hg]
      exact tr_ret ⟨trivial, _, _, rfl, ⟨by simp [hc]; omega, rfl⟩, CSub.nil _, trivial⟩
    · try simp only [zb1, zb2, zb3, zb4, zb5, zb6, zb7, zb8, zb9, zb10] at h4
      exact absurd h4 h --done

theorem law_CyclicPartition_ok_ent : Enters Try.prog 11 := enters_of Try.func11 (by kernel_rfl) (by kernel_rfl)
theorem law_CyclicPartition_ok (q n : Int) (q0 : 0 ≤ q) (q1 : q ≤ 255) (n0 : 0 ≤ n) (n1 : n ≤ 255) (h : cosetArgs q n = 0) :
    Pure Try.prog 11 #[.int .u8 q, .int .u8 n] [] (isV (.bool true)) := by
  obtain ⟨hq, hq2, hn, hn2, hg⟩ := cosetArgs_ok' h
  refine pure_of (args := [.int .u8 q, .int .u8 n]) 129 Try.func11 rfl rfl rfl law_CyclicPartition_ok_ent trivial (fun w0 => ?_)
  refine tr_seq ?_
  refine tr_region fun _ _ _ => ?_
  refine pu rfl rfl rfl rfl rfl ?_
  refine tr_seq ?_
  refine tr_region fun _ _ _ => ?_
  refine pu rfl rfl rfl rfl rfl ?_
  refine st rfl rfl rfl rfl (rConv rfl undU8 undI rfl (IntWalk.i64_in _ ⟨by omega, by omega⟩)) ?_
  refine pu rfl rfl rfl rfl rfl ?_
  refine st rfl rfl rfl rfl (rConv rfl undU8 undI rfl (IntWalk.i64_in _ ⟨by omega, by omega⟩)) ?_
  refine ef rfl rfl (eCall2 rfl rfl rfl (cyc_Cosets q n hq hq2 hn hn2 hg) ⟨rfl, rfl, trivial⟩ ?_) 
  rintro _ _ _ ⟨A1, c1, rs, rfl, rfl, rfl, hrs⟩
  iterate 5 refine pu rfl rfl rfl rfl rfl ?_
  refine tr_seq ?_
  refine tr_seq ?_
  have hrl : rs.length = (cosAll q n n.toNat).length := by have := congrArg List.length hrs; rwa [List.length_map] at this
  have hrk : ∀ k : Nat, (rs.getD k rowD).xs = rowK q n k := fun k => by rw [← xs_getD, hrs]; rfl
  have hrn : rs.length ≤ n.toNat := by rw [hrl]; exact cosAll_length q n n.toNat
  refine tr_region fun _ _ _ => ?_
  refine pu rfl rfl rfl rfl rfl ?_
  refine st rfl rfl rfl rfl (rLssK rfl rfl rfl) ?_
  refine pu rfl rfl rfl rfl rfl ?_
  refine stg rfl rfl rfl rfl rfl (fun hb => by (have hq := hb; try simp only [zb1, zb2, zb3, zb4, zb5, zb6, zb7, zb8, zb9, zb10] at hq); exact rMove rfl rfl) ?_
  refine stg rfl rfl rfl rfl rfl (fun hb => by (have hq := hb; try simp only [zb1, zb2, zb3, zb4, zb5, zb6, zb7, zb8, zb9, zb10] at hq); exact rLssK rfl (evg rfl hb) rfl) ?_
  refine st rfl rfl rfl rfl (rOrB rfl rfl rfl rfl) ?_
  refine tr_cond_bool rfl (fun h2 => ?_) (fun h2 => ?_)
  · try simp only [zb1, zb2, zb3, zb4, zb5, zb6, zb7, zb8, zb9, zb10] at h2
    omega --done
  · try simp only [zb1, zb2, zb3, zb4, zb5, zb6, zb7, zb8, zb9, zb10] at h2
    refine tr_skip ?_
    refine tr_seq ?_
    refine tr_seq ?_
    refine tr_region fun _ _ _ => ?_
    iterate 2 refine pu rfl rfl rfl rfl rfl ?_
    refine tr_cond_bool rfl (fun h4 => ?_) (fun h4 => ?_)
    · try simp only [zb1, zb2, zb3, zb4, zb5, zb6, zb7, zb8, zb9, zb10] at h4
      exact absurd trivial h4 --done
    · try simp only [zb1, zb2, zb3, zb4, zb5, zb6, zb7, zb8, zb9, zb10] at h4
      refine tr_skip ?_
      refine tr_seq ?_
      refine tr_region fun _ _ _ => ?_
      refine pu rfl rfl rfl rfl rfl ?_
      refine st rfl rfl rfl rfl (rConv rfl undU8 undI rfl (IntWalk.i64_in _ ⟨by omega, by omega⟩)) ?_
      refine ef rfl rfl (eMakeI rfl rfl rfl rfl rfl (by omega) (by omega) (by omega) (fun A6 => ?_)) 
      refine pu rfl rfl rfl rfl rfl ?_
      refine tr_seq ?_
      refine tr_region fun _ _ _ => ?_
      refine pu rfl rfl rfl rfl rfl ?_
      refine tr_seq ?_
      refine tr_seq ?_
      refine tr_region fun _ _ _ => ?_
      refine pu rfl rfl rfl rfl rfl ?_
      refine tr_block ?_
      refine tr_loop3 (fun (k : Nat) (hm : List Int) (cc : Int) => [(0, .int .u8 q), (1, .int .u8 n), (5, .slice A1 rs.length c1), (7, .slice A6 n.toNat n.toNat), (8, .int .i64 cc), (9, .int .i64 k)]) (fun (k : Nat) (hm : List Int) (cc : Int) => [ow A6 3 n.toNat (ints hm), ow A1 22 c1 (hdrs rs), rowsCh 3 rs]) (fun (k : Nat) (hm : List Int) (cc : Int) => k ≤ rs.length ∧ (hm.length : Int) = n ∧ (∀ k2 : Nat, k2 < k → ∀ x ∈ rowK q n k2, hm.getD x.toNat 0 = k2 + 1) ∧ (∀ x : Int, 0 ≤ x → x < n → hm.getD x.toNat 0 ≠ 0 → ∃ k2 : Nat, k2 < k ∧ x ∈ rowK q n k2) ∧ cc = cntN hm) (fun (k : Nat) (hm : List Int) (cc : Int) => rs.length - k) (0) (List.replicate n.toNat 0) (0) ⟨rfl, rfl, rfl, rfl, rfl, rfl, trivial⟩ (by first | exact cs _ _ | exact CSub.refl _) (⟨by omega, by simp; omega, fun k2 h2 => by omega, fun x _ _ h2 => absurd (rep_zero _ _) h2, by rw [cntN_zero]; rfl⟩) (fun k hm cc hI => ?_)
      obtain ⟨hk, hml, hm1, hm2, hcc⟩ := hI
      subst hcc
      have hcl := cntN_le hm
      refine tr_seq ?_
      refine tr_seq ?_
      refine tr_region fun _ _ _ => ?_
      iterate 2 refine pu rfl rfl rfl rfl rfl ?_
      refine st rfl rfl rfl rfl (rLen rfl rfl) ?_
      refine pu rfl rfl rfl rfl rfl ?_
      refine tr_cond_bool rfl (fun h9 => ?_) (fun h9 => ?_)
      · try simp only [zb1, zb2, zb3, zb4, zb5, zb6, zb7, zb8, zb9, zb10] at h9
        refine tr_skip ?_
        refine tr_seq ?_
        refine tr_block ?_
        refine tr_seq ?_
        refine tr_region fun _ _ _ => ?_
        refine pu rfl rfl rfl rfl rfl ?_
        refine tr_block ?_
        refine tr_loop3 (fun (i : Nat) (hm3 : List Int) (c3 : Int) => [(0, .int .u8 q), (1, .int .u8 n), (5, .slice A1 rs.length c1), (7, .slice A6 n.toNat n.toNat), (8, .int .i64 c3), (9, .int .i64 k), (10, .int .i64 i)]) (fun (i : Nat) (hm3 : List Int) (c3 : Int) => [ow A6 3 n.toNat (ints hm3), ow A1 22 c1 (hdrs rs), rowsCh 3 rs]) (fun (i : Nat) (hm3 : List Int) (c3 : Int) => i ≤ (rowK q n k).length ∧ (hm3.length : Int) = n ∧ (∀ k2 : Nat, k2 < k → ∀ x ∈ rowK q n k2, hm3.getD x.toNat 0 = k2 + 1) ∧ (∀ x ∈ (rowK q n k).take i, hm3.getD x.toNat 0 = k + 1) ∧ (∀ x : Int, 0 ≤ x → x < n → hm3.getD x.toNat 0 ≠ 0 → (∃ k2 : Nat, k2 < k ∧ x ∈ rowK q n k2) ∨ x ∈ (rowK q n k).take i) ∧ c3 = cntN hm3) (fun (i : Nat) (hm3 : List Int) (c3 : Int) => (rowK q n k).length - i) (0) (hm) ((cntN hm : Int)) ⟨rfl, rfl, rfl, rfl, rfl, rfl, rfl, trivial⟩ (by first | exact cs _ _ | exact CSub.refl _) (⟨by omega, hml, hm1, fun x hx => by simp at hx, fun x h1 h2 h3 => .inl (hm2 x h1 h2 h3), rfl⟩) (fun i hm3 c3 hI => ?_)
        obtain ⟨hi, hml3, hm3', hi1, hi2, hcc⟩ := hI
        subst hcc
        have hcl3 := cntN_le hm3
        refine tr_seq ?_
        refine tr_seq ?_
        haveI hin : InB (k : Int).toNat rs.length := ⟨by omega⟩
        have hrow := hrk (k : Int).toNat
        refine tr_region fun _ _ _ => ?_
        iterate 3 refine pu rfl rfl rfl rfl rfl ?_
        refine st rfl rfl rfl rfl (rIdxR rfl rfl rfl (by omega) (by omega) (by omega)) ?_
        refine st rfl rfl rfl rfl (rLdR rfl rfl (by omega)) ?_
        refine st rfl rfl rfl rfl (rLen rfl rfl) ?_
        refine pu rfl rfl rfl rfl rfl ?_
        refine tr_cond_bool rfl (fun h12 => ?_) (fun h12 => ?_)
        · try simp only [zb1, zb2, zb3, zb4, zb5, zb6, zb7, zb8, zb9, zb10] at h12
          refine tr_skip ?_
          refine tr_seq ?_
          refine tr_block ?_
          refine tr_seq ?_
          refine tr_seq ?_
          have hik : (i : Int).toNat < (rowK q n k).length := by rw [← hrk]; simpa using h12
          have hxm : (rowK q n k).getD i 0 ∈ rowK q n k := getD_mem (by simpa using hik) 0
          have hxb := row_in hn (show k < (cosAll q n n.toNat).length by omega) hxm
          have hrowl : ((rowK q n k).length : Int) ≤ n := in_range_len hn (row_nodup (by omega)) (fun y hy => row_in hn (show k < (cosAll q n n.toNat).length by omega) hy)
          have hx0 : hm3.getD ((rowK q n k).getD i 0).toNat 0 = 0 := Classical.byContradiction fun h => by
            rcases hi2 _ hxb.1 hxb.2 h with ⟨k2, h4, h5⟩ | h4
            · have := row_one hg hn (show k2 < (cosAll q n n.toNat).length by omega) (show k < (cosAll q n n.toNat).length by omega) h5 hxm
              omega
            · exact nodup_take (row_nodup (show k < (cosAll q n n.toNat).length by omega)) (by simpa using hik) h4
          have hgetx : (rs.getD (k : Int).toNat rowD).xs.getD (i : Int).toNat 0 = (rowK q n k).getD i 0 := by rw [hrow]; simp
          refine tr_region fun _ _ _ => ?_
          iterate 2 refine pu rfl rfl rfl rfl rfl ?_
          refine st rfl rfl rfl rfl (rIdxR rfl rfl rfl (by omega) (by omega) (by omega)) ?_
          refine st rfl rfl rfl rfl (rLdR rfl rfl (by omega)) ?_
          refine pu rfl rfl rfl rfl rfl ?_
          refine st rfl rfl rfl rfl (rIdxI rfl rfl rfl (by omega) (by omega) (by omega)) ?_
          refine st rfl rfl rfl rfl (rLdI rfl rfl (by omega)) ?_
          iterate 2 refine pu rfl rfl rfl rfl rfl ?_
          refine stg rfl rfl rfl rfl rfl (fun hb => by (have hq := hb; try simp only [zb1, zb2, zb3, zb4, zb5, zb6, zb7, zb8, zb9, zb10] at hq); exact rMove rfl rfl) ?_
          refine stg rfl rfl rfl rfl rfl (fun hb => by (have hq := hb; try simp only [zb1, zb2, zb3, zb4, zb5, zb6, zb7, zb8, zb9, zb10] at hq); exact rMove rfl rfl) ?_
          refine stg rfl rfl rfl rfl rfl (fun hb => by (have hq := hb; try simp only [zb1, zb2, zb3, zb4, zb5, zb6, zb7, zb8, zb9, zb10] at hq); exact rIdxR rfl (evg rfl hb) (evg rfl hb) (by omega) (by omega) (by omega)) ?_
          refine stg rfl rfl rfl rfl rfl (fun hb => by (have hq := hb; try simp only [zb1, zb2, zb3, zb4, zb5, zb6, zb7, zb8, zb9, zb10] at hq); exact rLdR rfl (evg rfl hb) (by omega)) ?_
          refine stg rfl rfl rfl rfl rfl (fun hb => by (have hq := hb; try simp only [zb1, zb2, zb3, zb4, zb5, zb6, zb7, zb8, zb9, zb10] at hq); exact rMove rfl rfl) ?_
          refine stg rfl rfl rfl rfl rfl (fun hb => by (have hq := hb; try simp only [zb1, zb2, zb3, zb4, zb5, zb6, zb7, zb8, zb9, zb10] at hq); exact rIdxI rfl (evg rfl hb) (evg rfl hb) (by omega) (by omega) (by omega)) ?_
          refine stg rfl rfl rfl rfl rfl (fun hb => by (have hq := hb; try simp only [zb1, zb2, zb3, zb4, zb5, zb6, zb7, zb8, zb9, zb10] at hq); exact rLdI rfl (evg rfl hb) (by omega)) ?_
          refine stg rfl rfl rfl rfl rfl (fun hb => by (have hq := hb; try simp only [zb1, zb2, zb3, zb4, zb5, zb6, zb7, zb8, zb9, zb10] at hq); exact rMove rfl rfl) ?_
          refine stg rfl rfl rfl rfl rfl (fun hb => by (have hq := hb; try simp only [zb1, zb2, zb3, zb4, zb5, zb6, zb7, zb8, zb9, zb10] at hq); exact rConv rfl undU8 undI (evg rfl hb) (IntWalk.i64_in _ ⟨by omega, by omega⟩)) ?_
          refine stg rfl rfl rfl rfl rfl (fun hb => by (have hq := hb; try simp only [zb1, zb2, zb3, zb4, zb5, zb6, zb7, zb8, zb9, zb10] at hq); exact rGeq rfl (evg rfl hb) (evg rfl hb)) ?_
          refine st rfl rfl rfl rfl (rOrB rfl rfl rfl rfl) ?_
          refine pu rfl rfl rfl rfl rfl ?_
          refine stg rfl rfl rfl rfl rfl (fun hb => by (have hq := hb; try simp only [zb1, zb2, zb3, zb4, zb5, zb6, zb7, zb8, zb9, zb10] at hq); exact rMove rfl rfl) ?_
          refine stg rfl rfl rfl rfl rfl (fun hb => by (have hq := hb; try simp only [zb1, zb2, zb3, zb4, zb5, zb6, zb7, zb8, zb9, zb10] at hq); exact rMove rfl rfl) ?_
          refine stg rfl rfl rfl rfl rfl (fun hb => by (have hq := hb; try simp only [zb1, zb2, zb3, zb4, zb5, zb6, zb7, zb8, zb9, zb10] at hq); exact rMove rfl rfl) ?_
          refine stg rfl rfl rfl rfl rfl (fun hb => by (have hq := hb; try simp only [zb1, zb2, zb3, zb4, zb5, zb6, zb7, zb8, zb9, zb10] at hq); exact rIdxR rfl (evg rfl hb) (evg rfl hb) (by omega) (by omega) (by omega)) ?_
          refine stg rfl rfl rfl rfl rfl (fun hb => by (have hq := hb; try simp only [zb1, zb2, zb3, zb4, zb5, zb6, zb7, zb8, zb9, zb10] at hq); exact rLdR rfl (evg rfl hb) (by omega)) ?_
          refine stg rfl rfl rfl rfl rfl (fun hb => by (have hq := hb; try simp only [zb1, zb2, zb3, zb4, zb5, zb6, zb7, zb8, zb9, zb10] at hq); exact rMove rfl rfl) ?_
          refine stg rfl rfl rfl rfl rfl (fun hb => by (have hq := hb; try simp only [zb1, zb2, zb3, zb4, zb5, zb6, zb7, zb8, zb9, zb10] at hq); exact rIdxI rfl (evg rfl hb) (evg rfl hb) (by omega) (by omega) (by omega)) ?_
          refine stg rfl rfl rfl rfl rfl (fun hb => by (have hq := hb; try simp only [zb1, zb2, zb3, zb4, zb5, zb6, zb7, zb8, zb9, zb10] at hq); exact rLdI rfl (evg rfl hb) (by omega)) ?_
          refine stg rfl rfl rfl rfl rfl (fun hb => by (have hq := hb; try simp only [zb1, zb2, zb3, zb4, zb5, zb6, zb7, zb8, zb9, zb10] at hq); exact rIdxI rfl (evg rfl hb) (evg rfl hb) (by omega) (by omega) (by omega)) ?_
          refine stg rfl rfl rfl rfl rfl (fun hb => by (have hq := hb; try simp only [zb1, zb2, zb3, zb4, zb5, zb6, zb7, zb8, zb9, zb10] at hq); exact rLdI rfl (evg rfl hb) (by omega)) ?_
          refine stg rfl rfl rfl rfl rfl (fun hb => by (have hq := hb; try simp only [zb1, zb2, zb3, zb4, zb5, zb6, zb7, zb8, zb9, zb10] at hq); exact rNeq rfl (evg rfl hb) rfl) ?_
          refine st rfl rfl rfl rfl (rOrB rfl rfl rfl rfl) ?_
          refine tr_cond_bool rfl (fun h14 => ?_) (fun h14 => ?_)
          · try simp only [zb1, zb2, zb3, zb4, zb5, zb6, zb7, zb8, zb9, zb10] at h14
            simp only [hgetx] at h14
            omega --done
          · try simp only [zb1, zb2, zb3, zb4, zb5, zb6, zb7, zb8, zb9, zb10] at h14
            refine tr_skip ?_
            refine tr_seq ?_
            refine tr_region fun _ _ _ => ?_
            iterate 3 refine pu rfl rfl rfl rfl rfl ?_
            refine st rfl rfl rfl rfl (rIdxR rfl rfl rfl (by omega) (by omega) (by omega)) ?_
            refine st rfl rfl rfl rfl (rLdR rfl rfl (by omega)) ?_
            refine pu rfl rfl rfl rfl rfl ?_
            refine st rfl rfl rfl rfl (rIdxI rfl rfl rfl (by omega) (by omega) (by omega)) ?_
            refine st rfl rfl rfl rfl (rLdI rfl rfl (by omega)) ?_
            refine pu rfl rfl rfl rfl rfl ?_
            refine st rfl rfl rfl rfl (rAdd rfl rfl rfl (by omega) (by omega)) ?_
            refine st rfl rfl rfl rfl (rIdxI rfl rfl rfl (by omega) (by omega) (by omega)) ?_
            refine ef rfl rfl (eStI rfl rfl rfl rfl (by omega) ?_) 
            simp only [hgetx]
            have hcn : (cntN hm3 : Int) + 1 = (cntN (hm3.set ((rowK q n k).getD i 0).toNat (k + 1)) : Int) := by rw [cntN_set _ _ _ (by omega) (by rw [List.getD_eq_getElem?_getD, List.getElem?_eq_getElem (show ((rowK q n k).getD i 0).toNat < hm3.length by omega)] at hx0 ⊢; exact hx0) (by omega)]; rfl
            refine tr_region fun _ _ _ => ?_
            refine pu rfl rfl rfl rfl rfl ?_
            refine st rfl rfl rfl rfl (rAdd rfl rfl rfl (by omega) (by omega)) ?_
            refine pu rfl rfl rfl rfl rfl ?_
            refine tr_region fun _ _ _ => ?_
            refine pu rfl rfl rfl rfl rfl ?_
            refine st rfl rfl rfl rfl (rAdd rfl rfl rfl (by omega) (by omega)) ?_
            refine pu rfl rfl rfl rfl rfl ?_
            refine ⟨i + 1, hm3.set ((rowK q n k).getD i 0).toNat (k + 1), (cntN hm3 : Int) + 1, ⟨rfl, rfl, rfl, rfl, rfl, rfl, rfl, trivial⟩, by first | exact cs _ _ | exact CSub.refl _, ?_⟩
            refine ⟨⟨by omega, by simpa using hml3, fun k2 hk2 y hy => ?_, fun y hy => ?_, fun y h1 h2 h3 => ?_, hcn⟩, by omega⟩
            · have hyb := row_in hn (show k2 < (cosAll q n n.toNat).length by omega) hy
              rw [getD_set, if_neg (fun h => ?_)]
              · exact hm3' k2 hk2 y hy
              · have : y = (rowK q n k).getD i 0 := by omega
                rw [this] at hy
                have := row_one hg hn (show k2 < (cosAll q n n.toNat).length by omega) (show k < (cosAll q n n.toNat).length by omega) hy hxm
                omega
            · rw [getD_set]
              split
              · rfl
              · rename_i hne
                rw [List.take_add_one, List.mem_append] at hy
                rcases hy with hy | hy
                · exact hi1 y hy
                · exfalso
                  rw [List.getElem?_eq_getElem (by simpa using hik)] at hy
                  simp only [Option.toList_some, List.mem_singleton] at hy
                  apply hne
                  rw [hy, List.getD_eq_getElem?_getD, List.getElem?_eq_getElem (by simpa using hik)]
                  exact ⟨rfl, by rw [List.getD_eq_getElem?_getD, List.getElem?_eq_getElem (by simpa using hik)] at hxb; simp only [Option.getD_some] at hxb ⊢; omega⟩
            · rw [getD_set] at h3
              by_cases he : ((rowK q n k).getD i 0).toNat = y.toNat
              · right
                have : y = (rowK q n k).getD i 0 := by omega
                rw [this, List.take_add_one, List.mem_append]
                right
                rw [List.getD_eq_getElem?_getD, List.getElem?_eq_getElem (by simpa using hik)]
                simp
              · rw [if_neg (by omega)] at h3
                rcases hi2 y h1 h2 h3 with h | h
                · exact .inl h
                · right; rw [List.take_add_one]; exact List.mem_append_left _ h
        · try simp only [zb1, zb2, zb3, zb4, zb5, zb6, zb7, zb8, zb9, zb10] at h12
          refine tr_exit ?_
          refine tr_region fun _ _ _ => ?_
          refine pu rfl rfl rfl rfl rfl ?_
          refine st rfl rfl rfl rfl (rAdd rfl rfl rfl (by omega) (by omega)) ?_
          refine pu rfl rfl rfl rfl rfl ?_
          refine ⟨k + 1, hm3, (cntN hm3 : Int), ⟨rfl, rfl, rfl, rfl, rfl, rfl, trivial⟩, by first | exact cs _ _ | exact CSub.refl _, ?_⟩
          have hir : i = (rowK q n k).length := by
            have h2 := hrk (k : Int).toNat
            have h3 := congrArg List.length h2
            simp only [Int.toNat_natCast] at h3
            simp only [Int.toNat_natCast] at h12
            omega
          rw [hir, List.take_length] at hi1 hi2
          refine ⟨⟨by omega, hml3, fun k2 hk2 x hx => ?_, fun x h1 h2 h3 => ?_, rfl⟩, by omega⟩
          · by_cases he : k2 = k
            · subst he; exact hi1 x hx
            · exact hm3' k2 (by omega) x hx
          · rcases hi2 x h1 h2 h3 with ⟨k2, h4, h5⟩ | h4
            · exact ⟨k2, by omega, h5⟩
            · exact ⟨k, by omega, h4⟩
      · try simp only [zb1, zb2, zb3, zb4, zb5, zb6, zb7, zb8, zb9, zb10] at h9
        refine tr_exit ?_
        refine tr_seq ?_
        refine tr_seq ?_
        have hkr : k = (cosAll q n n.toNat).length := by omega
        have hall : ∀ x : Int, 0 ≤ x → x < n → ∃ k2 : Nat, k2 < k ∧ x ∈ rowK q n k2 := fun x h1 h2 => by
          obtain ⟨k2, h3, h4⟩ := row_all (q := q) hn ⟨h1, h2⟩
          exact ⟨k2, by omega, h4⟩
        have hfull : (cntN hm : Int) = n := by
          rw [cntN_full fun j hj => ?_]
          · exact hml
          · obtain ⟨k2, h3, h4⟩ := hall j (by omega) (by omega)
            have := hm1 k2 h3 _ h4
            simp only [Int.toNat_natCast] at this
            omega
        refine tr_region fun _ _ _ => ?_
        refine pu rfl rfl rfl rfl rfl ?_
        refine tr_block ?_
        refine tr_loop1 (fun (j : Nat) => [(0, .int .u8 q), (1, .int .u8 n), (7, .slice A6 n.toNat n.toNat), (8, .int .i64 (cntN hm)), (11, .int .i64 j)]) (fun (j : Nat) => [ow A6 3 n.toNat (ints hm)]) (fun (j : Nat) => (j : Int) ≤ n) (fun (j : Nat) => n.toNat - j) (0) ⟨rfl, rfl, rfl, rfl, rfl, trivial⟩ (by first | exact cs _ _ | exact CSub.refl _) (by omega) (fun j hI => ?_)
        refine tr_seq ?_
        refine tr_seq ?_
        refine tr_region fun _ _ _ => ?_
        iterate 2 refine pu rfl rfl rfl rfl rfl ?_
        refine st rfl rfl rfl rfl (rConv rfl undU8 undI rfl (IntWalk.i64_in _ ⟨by omega, by omega⟩)) ?_
        refine pu rfl rfl rfl rfl rfl ?_
        refine tr_cond_bool rfl (fun h19 => ?_) (fun h19 => ?_)
        · try simp only [zb1, zb2, zb3, zb4, zb5, zb6, zb7, zb8, zb9, zb10] at h19
          refine tr_skip ?_
          refine tr_seq ?_
          refine tr_block ?_
          refine tr_seq ?_
          have hjb := mul_bd0 (j : Int) q 255 255 (by omega) (by omega) (by omega) (by omega)
          have e0 := Int.emod_nonneg ((j : Int) * q) (show n ≠ 0 by omega)
          have e1 := Int.emod_lt_of_pos ((j : Int) * q) (show 0 < n by omega)
          have hsame : hm.getD (j : Int).toNat 0 = hm.getD ((j : Int) * q % n).toNat 0 := by
            obtain ⟨k2, h3, h4⟩ := hall j (by omega) (by omega)
            rw [hm1 k2 h3 _ h4, hm1 k2 h3 _ (row_mul hn (show k2 < (cosAll q n n.toNat).length by omega) h4)]
          refine tr_draw [0, 1, 2, 3, 4, 5, 6, 7, 8, 9, 10, 11, 12, 13, 14] [] mixed (by kernel_rfl) fun _ _ _ => ?_
          iterate 2 refine pu rfl rfl rfl rfl rfl ?_
          refine st rfl rfl rfl rfl (rIdxI rfl rfl rfl (by omega) (by omega) (by omega)) ?_
          refine st rfl rfl rfl rfl (rLdI rfl rfl (by omega)) ?_
          iterate 3 refine pu rfl rfl rfl rfl rfl ?_
          refine st rfl rfl rfl rfl (rConv rfl undU8 undI rfl (IntWalk.i64_in _ ⟨by omega, by omega⟩)) ?_
          refine st rfl rfl rfl rfl (rMul rfl rfl rfl (by omega) (by omega)) ?_
          refine pu rfl rfl rfl rfl rfl ?_
          refine st rfl rfl rfl rfl (rConv rfl undU8 undI rfl (IntWalk.i64_in _ ⟨by omega, by omega⟩)) ?_
          refine st rfl rfl rfl rfl (rRem rfl rfl rfl (by omega) (by omega)) ?_
          refine st rfl rfl rfl rfl (rIdxI rfl rfl rfl (by omega) (by omega) (by omega)) ?_
          refine st rfl rfl rfl rfl (rLdI rfl rfl (by omega)) ?_
          refine pu rfl rfl rfl rfl rfl ?_
          refine tr_cond_bool rfl (fun h21 => ?_) (fun h21 => ?_)
          · try simp only [zb1, zb2, zb3, zb4, zb5, zb6, zb7, zb8, zb9, zb10] at h21
            exact absurd hsame h21 --done
          · try simp only [zb1, zb2, zb3, zb4, zb5, zb6, zb7, zb8, zb9, zb10] at h21
            refine tr_skip ?_
            refine tr_region fun _ _ _ => ?_
            refine pu rfl rfl rfl rfl rfl ?_
            refine st rfl rfl rfl rfl (rAdd rfl rfl rfl (by omega) (by omega)) ?_
            refine pu rfl rfl rfl rfl rfl ?_
            refine ⟨j + 1, ⟨rfl, rfl, rfl, rfl, rfl, trivial⟩, by first | exact cs _ _ | exact CSub.refl _, ?_⟩
            exact ⟨by omega, by omega⟩
        · try simp only [zb1, zb2, zb3, zb4, zb5, zb6, zb7, zb8, zb9, zb10] at h19
          refine tr_exit ?_
          refine tr_seq ?_
          refine tr_region fun _ _ _ => ?_
          iterate 2 refine pu rfl rfl rfl rfl rfl ?_
          refine st rfl rfl rfl rfl (rConv rfl undU8 undI rfl (IntWalk.i64_in _ ⟨by omega, by omega⟩)) ?_
          iterate 2 refine pu rfl rfl rfl rfl rfl ?_
          exact tr_ret ⟨trivial, _, _, rfl, ⟨by simp [hfull], rfl⟩, CSub.nil _, trivial⟩

theorem law_CyclicPartition (q n : Int) (q0 : 0 ≤ q) (q1 : q ≤ 255) (n0 : 0 ≤ n) (n1 : n ≤ 255) : Pure Try.prog 11 #[.int .u8 q, .int .u8 n] [] (isV (.bool true)) := by
  by_cases h : cosetArgs q n = 0
  · exact law_CyclicPartition_ok q n q0 q1 n0 n1 h
  · exact law_CyclicPartition_no q n q0 q1 n0 n1 h


namespace lawCyclicPartition
theorem own : ownKnob Try.prog.godebug = none := by kernel_rfl
theorem laidOut : laidOutB Try.prog = true := by kernel_rfl
set_option maxRecDepth 100000 in
theorem lifted (os : Os) (started : os.Started) (H : Type) (enc : TypeId × Value → H) :
    ReturnsInHanded {} Try.checked os 11 .any (Rows.cyclicPartitionSpec.pre6 enc Try.prog Try.f11 Rows.cyclicPartitionRow.domain false) (Rows.cyclicPartitionSpec.post enc Try.prog Try.f11 false true false false) := by
  refine returnsInHanded_of_change_sized (C := Try.checked) own started (by kernel_rfl) Try.func11
    (ChangeSpec.witness6 (enc := enc) (C := Try.checked) false ⟨#[], #[.int .u8 0, .int .u8 0], []⟩ 8 (by kernel_rfl) (by kernel_rfl) (by kernel_rfl) (by kernel_rfl)) ?_
  intro W base args ds gs before hval0 hW hcnd hsz _
  have hval : ∀ (j : Nat) t v, Try.f11.params[j]? = some t → args[j]? = some v → Value.okWide Try.prog W .any base t v := hval0
  have hW' := hW
  obtain ⟨p, q, hA0, hV, rfl, hfz, hnd⟩ := hW
  have hA : DataW.TrodAll enc Try.prog W 0 (fun _ => true) true Try.f11.params.toList args.toList ds p := hA0
  rw [Try.params11] at hA hval
  obtain ⟨v0, vs0, d0, ds0, p0, q0, hargs, rfl, rfl, h0, r0⟩ := trodAll_cons hA
  obtain ⟨v1, vs1, d1, ds1, p1, q1, rfl, rfl, rfl, h1, r1⟩ := trodAll_cons r0
  obtain ⟨rfl, rfl, rfl⟩ := trodAll_nil r1
  obtain rfl : args = #[v0, v1] := by cases args; simp_all
  obtain ⟨rfl, rfl⟩ := trodVars_none hV
  have k0 := h0
  have lt0 : ∀ x ∈ p0, x.block < W.heap.size := by obtain ⟨m, hm⟩ := k0; exact DataW.trod_lt m _ _ _ hm
  have k1 := h1
  have lt1 : ∀ x ∈ p1, x.block < W.heap.size := by obtain ⟨m, hm⟩ := k1; exact DataW.trod_lt m _ _ _ hm
  obtain ⟨n0, rfl, fn0⟩ := get_U8 Try.underlying5 (hval 0 5 v0 rfl rfl) h0
  obtain ⟨n1, rfl, fn1⟩ := get_U8 Try.underlying5 (hval 1 5 v1 rfl rfl) h1
  clear hA0 hval0
  have hlaw := law_CyclicPartition n0 n1 fn0.1 fn0.2 fn1.1 fn1.2
  have hsat : ∀ ch ∈ ([] : List Chunk), ch.sat W := fun ch hc => by simp at hc
  refine (hlaw.run W hsat).mono fun e W' ⟨v, Fo, he, bel, hv, _⟩ => ?_
  obtain ⟨rfl, _⟩ := hv
  subst he
  exact ⟨_, rfl, _, _, _, [], _, [], hW', trodAll_mk1 (shut_bool Try.underlying4 _), (trodAll_cons_mk (Below.trod laidOut (by kernel_rfl) (of_decide_eq_true (by kernel_rfl)) k0 bel lt0) (trodAll_cons_mk (Below.trod laidOut (by kernel_rfl) (of_decide_eq_true (by kernel_rfl)) k1 bel lt1) trodAll_mk0)), rfl, bel.frame _, fun h => by cases h⟩

theorem proved : Rows.CyclicPartitionSaid :=
  OpenClaim.holds_of_wide 11 Try.f11 rfl rfl rfl rfl rfl rfl rfl ⟨rfl, rfl, rfl, rfl, rfl⟩ rfl rfl rfl rfl rfl (by kernel_rfl) Try.func11 (by kernel_rfl)
    (of_decide_eq_true (by kernel_rfl)) (by unfold Func.isWrapper; first | (rw [if_pos (by decide +kernel)]; kernel_rfl) | (rw [if_neg (by decide +kernel)]; exact ⟨rfl, rfl⟩))
    (fun os started H enc _ => lifted os started H enc)
end lawCyclicPartition

end Go.Proofs.Ytjmojhflnjbgaaa

/-
  THE LAW BchClosures. One sentence: whatever the input, the law returns true and the input reads as it did.
  Conditions: none.
-/
import Derived.Test.YtjmojhflnjbgaaaCls
import Derived.Test.YtjmojhflnjbgaaaOpen
import Derived.Test.YtjmojhflnjbgaaaSymO
set_option linter.unusedSimpArgs false
set_option linter.unusedVariables false
set_option maxRecDepth 100000
namespace Go.Proofs.Ytjmojhflnjbgaaa
open Go.ChangeShapes Go.WideShapes Go.ChangeAt Go.RowKit

theorem closureArgs_ok {q n : Int} (h : closureArgs q n = 0) : 2 ≤ q ∧ q ≤ 256 ∧ 1 ≤ n ∧ n ≤ 64 ∧ Int.gcd q n = 1 := by
  unfold closureArgs at h
  split at h
  · omega
  · split at h
    · omega
    · split at h <;> omega

theorem law_BchClosures_no_ent : Enters Try.prog 12 := enters_of Try.func12 (by kernel_rfl) (by kernel_rfl)
theorem law_BchClosures_no (q n : Int) (Z : Option Addr) (cz : Nat) (zs : List Int) (hl9 : zs.length ≤ 17592186044415) (h : closureArgs q n ≠ 0) :
    Pure Try.prog 12 #[.int .i64 q, .int .i64 n, .slice Z zs.length cz] [ro Z (ints zs)] (isV (.bool true)) := by
  refine pure_of (args := [.int .i64 q, .int .i64 n, .slice Z zs.length cz]) 53 Try.func12 rfl rfl rfl law_BchClosures_no_ent ⟨id, trivial⟩ (fun w0 => ?_)
  refine tr_seq ?_
  refine tr_region fun _ _ _ => ?_
  refine pu rfl rfl rfl rfl rfl ?_
  refine tr_seq ?_
  refine tr_seq ?_
  refine tr_region fun _ _ _ => ?_
  refine pu rfl rfl rfl rfl rfl ?_
  refine st rfl rfl rfl rfl (rLen rfl rfl) ?_
  iterate 2 refine pu rfl rfl rfl rfl rfl ?_
  refine stg rfl rfl rfl rfl rfl (fun hb => by (have hq := hb; try simp only [zb1, zb2, zb3, zb4, zb5, zb6, zb7, zb8, zb9, zb10] at hq); exact rMove rfl rfl) ?_
  refine stg rfl rfl rfl rfl rfl (fun hb => by (have hq := hb; try simp only [zb1, zb2, zb3, zb4, zb5, zb6, zb7, zb8, zb9, zb10] at hq); exact rGtr rfl (evg rfl hb) rfl) ?_
  refine stg rfl rfl rfl rfl rfl (fun hb => by (have hq := hb; try simp only [zb1, zb2, zb3, zb4, zb5, zb6, zb7, zb8, zb9, zb10] at hq); exact rMove rfl (evg rfl hb)) ?_
  refine stg2 rfl rfl rfl rfl rfl (fun hb => by (have hq := hb; try simp only [zb1, zb2, zb3, zb4, zb5, zb6, zb7, zb8, zb9, zb10] at hq); exact rMove rfl rfl) ?_
  refine stg2 rfl rfl rfl rfl rfl (fun hb => by (have hq := hb; try simp only [zb1, zb2, zb3, zb4, zb5, zb6, zb7, zb8, zb9, zb10] at hq); exact rMove rfl rfl) ?_
  refine efg2 rfl rfl rfl rfl rfl (fun hb => by (have hq := hb; try simp only [zb1, zb2, zb3, zb4, zb5, zb6, zb7, zb8, zb9, zb10] at hq); exact eCallV rfl rfl rfl (ref_ClosureArgs _ _) ⟨(evg rfl hb), (evg rfl hb), trivial⟩ ⟨rfl, rfl⟩) ?_
  refine stg2 rfl rfl rfl rfl rfl (fun hb => by (have hq := hb; try simp only [zb1, zb2, zb3, zb4, zb5, zb6, zb7, zb8, zb9, zb10] at hq); exact rEql rfl (evg rfl hb) rfl) ?_
  refine stg rfl rfl rfl rfl rfl (fun hb => by (have hq := hb; try simp only [zb1, zb2, zb3, zb4, zb5, zb6, zb7, zb8, zb9, zb10] at hq); exact rAndB rfl (evg rfl hb) (evgp rfl hb) rfl) ?_
  refine st rfl rfl rfl rfl (rOrB rfl rfl rfl rfl) ?_
  refine tr_cond_bool rfl (fun h1 => ?_) (fun h1 => ?_)
  · try simp only [zb1, zb2, zb3, zb4, zb5, zb6, zb7, zb8, zb9, zb10] at h1
    refine tr_seq ?_
    refine tr_region fun _ _ _ => ?_
    refine pu rfl rfl rfl rfl rfl ?_
    exact tr_ret ⟨trivial, _, _, rfl, ⟨rfl, rfl⟩, CSub.nil _, trivial⟩
  · try simp only [zb1, zb2, zb3, zb4, zb5, zb6, zb7, zb8, zb9, zb10] at h1
    refine tr_skip ?_
    refine tr_seq ?_
    refine tr_region fun _ _ _ => ?_
    iterate 3 refine pu rfl rfl rfl rfl rfl ?_
    refine ef rfl rfl (eCallV rfl rfl rfl (bch_Closure_no q n _ _ zs (by omega) h) ⟨rfl, rfl, rfl, trivial⟩ ?_) 
    iterate 5 refine pu rfl rfl rfl rfl rfl ?_
    refine tr_seq ?_
    refine tr_seq ?_
    refine tr_region fun _ _ _ => ?_
    iterate 2 refine pu rfl rfl rfl rfl rfl ?_
    refine ef rfl rfl (eCallV rfl rfl rfl (ref_ClosureArgs _ _) ⟨rfl, rfl, trivial⟩ ?_) 
    refine pu rfl rfl rfl rfl rfl ?_
    refine tr_cond_bool rfl (fun h4 => ?_) (fun h4 => ?_)
    · try simp only [zb1, zb2, zb3, zb4, zb5, zb6, zb7, zb8, zb9, zb10] at h4
      refine tr_seq ?_
      refine tr_region fun _ _ _ => ?_
      iterate 3 refine pu rfl rfl rfl rfl rfl ?_
      refine ef rfl rfl (eCallV rfl rfl rfl (ref_ClosureArgs _ _) ⟨rfl, rfl, trivial⟩ ?_) 
      iterate 2 refine pu rfl rfl rfl rfl rfl ?_
      refine stg rfl rfl rfl rfl rfl (fun hb => by (have hq := hb; try simp only [zb1, zb2, zb3, zb4, zb5, zb6, zb7, zb8, zb9, zb10] at hq); exact rMove rfl rfl) ?_
      refine stg rfl rfl rfl rfl rfl (fun hb => by (have hq := hb; try simp only [zb1, zb2, zb3, zb4, zb5, zb6, zb7, zb8, zb9, zb10] at hq); exact rLen rfl (evg rfl hb)) ?_
      refine stg rfl rfl rfl rfl rfl (fun hb => by (have hq := hb; try simp only [zb1, zb2, zb3, zb4, zb5, zb6, zb7, zb8, zb9, zb10] at hq); exact rEql rfl (evg rfl hb) rfl) ?_
      refine st rfl rfl rfl rfl (rAndB rfl rfl rfl rfl) ?_
      refine pu rfl rfl rfl rfl rfl ?_
      exact tr_ret ⟨trivial, _, _, rfl, ⟨by simp, rfl⟩, CSub.nil _, trivial⟩
    · try simp only [zb1, zb2, zb3, zb4, zb5, zb6, zb7, zb8, zb9, zb10] at h4
      exact absurd h4 h --done

theorem law_BchClosures_ok_ent : Enters Try.prog 12 := enters_of Try.func12 (by kernel_rfl) (by kernel_rfl)
theorem law_BchClosures_ok (q n : Int) (Z : Option Addr) (cz : Nat) (zs : List Int) (hl9 : zs.length ≤ 17592186044415) (h : closureArgs q n = 0) :
    Pure Try.prog 12 #[.int .i64 q, .int .i64 n, .slice Z zs.length cz] [ro Z (ints zs)] (isV (.bool true)) := by
  obtain ⟨hq, hq2, hn, hn2, hg⟩ := closureArgs_ok h
  refine pure_of (args := [.int .i64 q, .int .i64 n, .slice Z zs.length cz]) 53 Try.func12 rfl rfl rfl law_BchClosures_ok_ent ⟨id, trivial⟩ (fun w0 => ?_)
  refine tr_seq ?_
  refine tr_region fun _ _ _ => ?_
  refine pu rfl rfl rfl rfl rfl ?_
  refine tr_seq ?_
  refine tr_seq ?_
  refine tr_region fun _ _ _ => ?_
  refine pu rfl rfl rfl rfl rfl ?_
  refine st rfl rfl rfl rfl (rLen rfl rfl) ?_
  iterate 2 refine pu rfl rfl rfl rfl rfl ?_
  refine stg rfl rfl rfl rfl rfl (fun hb => by (have hq := hb; try simp only [zb1, zb2, zb3, zb4, zb5, zb6, zb7, zb8, zb9, zb10] at hq); exact rMove rfl rfl) ?_
  refine stg rfl rfl rfl rfl rfl (fun hb => by (have hq := hb; try simp only [zb1, zb2, zb3, zb4, zb5, zb6, zb7, zb8, zb9, zb10] at hq); exact rGtr rfl (evg rfl hb) rfl) ?_
  refine stg rfl rfl rfl rfl rfl (fun hb => by (have hq := hb; try simp only [zb1, zb2, zb3, zb4, zb5, zb6, zb7, zb8, zb9, zb10] at hq); exact rMove rfl (evg rfl hb)) ?_
  refine stg2 rfl rfl rfl rfl rfl (fun hb => by (have hq := hb; try simp only [zb1, zb2, zb3, zb4, zb5, zb6, zb7, zb8, zb9, zb10] at hq); exact rMove rfl rfl) ?_
  refine stg2 rfl rfl rfl rfl rfl (fun hb => by (have hq := hb; try simp only [zb1, zb2, zb3, zb4, zb5, zb6, zb7, zb8, zb9, zb10] at hq); exact rMove rfl rfl) ?_
  refine efg2 rfl rfl rfl rfl rfl (fun hb => by (have hq := hb; try simp only [zb1, zb2, zb3, zb4, zb5, zb6, zb7, zb8, zb9, zb10] at hq); exact eCallV rfl rfl rfl (ref_ClosureArgs _ _) ⟨(evg rfl hb), (evg rfl hb), trivial⟩ ⟨rfl, rfl⟩) ?_
  refine stg2 rfl rfl rfl rfl rfl (fun hb => by (have hq := hb; try simp only [zb1, zb2, zb3, zb4, zb5, zb6, zb7, zb8, zb9, zb10] at hq); exact rEql rfl (evg rfl hb) rfl) ?_
  refine stg rfl rfl rfl rfl rfl (fun hb => by (have hq := hb; try simp only [zb1, zb2, zb3, zb4, zb5, zb6, zb7, zb8, zb9, zb10] at hq); exact rAndB rfl (evg rfl hb) (evgp rfl hb) rfl) ?_
  refine st rfl rfl rfl rfl (rOrB rfl rfl rfl rfl) ?_
  refine tr_cond_bool rfl (fun h1 => ?_) (fun h1 => ?_)
  · try simp only [zb1, zb2, zb3, zb4, zb5, zb6, zb7, zb8, zb9, zb10] at h1
    refine tr_seq ?_
    refine tr_region fun _ _ _ => ?_
    refine pu rfl rfl rfl rfl rfl ?_
    exact tr_ret ⟨trivial, _, _, rfl, ⟨rfl, rfl⟩, CSub.nil _, trivial⟩
  · try simp only [zb1, zb2, zb3, zb4, zb5, zb6, zb7, zb8, zb9, zb10] at h1
    refine tr_skip ?_
    refine tr_seq ?_
    refine tr_region fun _ _ _ => ?_
    iterate 3 refine pu rfl rfl rfl rfl rfl ?_
    refine ef rfl rfl (eCall1 rfl rfl rfl (bch_Closure q n _ _ zs (by omega) hq hq2 hn hn2 hg) ⟨rfl, rfl, rfl, trivial⟩ ?_) 
    rintro _ _ ⟨B3, c3, rfl, rfl⟩
    iterate 5 refine pu rfl rfl rfl rfl rfl ?_
    refine tr_seq ?_
    refine tr_seq ?_
    refine tr_region fun _ _ _ => ?_
    iterate 2 refine pu rfl rfl rfl rfl rfl ?_
    refine ef rfl rfl (eCallV rfl rfl rfl (ref_ClosureArgs _ _) ⟨rfl, rfl, trivial⟩ ?_) 
    refine pu rfl rfl rfl rfl rfl ?_
    refine tr_cond_bool rfl (fun h4 => ?_) (fun h4 => ?_)
    · try simp only [zb1, zb2, zb3, zb4, zb5, zb6, zb7, zb8, zb9, zb10] at h4
      exact absurd h h4 --done
    · try simp only [zb1, zb2, zb3, zb4, zb5, zb6, zb7, zb8, zb9, zb10] at h4
      refine tr_skip ?_
      refine tr_seq ?_
      refine tr_region fun _ _ _ => ?_
      iterate 3 refine pu rfl rfl rfl rfl rfl ?_
      refine stT rfl rfl rfl (by simp) rfl rfl (rMove rfl rfl) ?_
      refine stT rfl rfl rfl (by simp) rfl rfl (rMove rfl rfl) ?_
      refine stT rfl rfl rfl (by simp) rfl rfl (rMove rfl rfl) ?_
      refine stT rfl rfl rfl (by simp) rfl rfl (rMove rfl rfl) ?_
      refine efT rfl rfl rfl (by simp) (eCall1 rfl rfl rfl (ref_Closure q n _ _ zs (by omega) hq hq2 hn hn2 hg) ⟨rfl, rfl, rfl, trivial⟩ ?_) 
      rintro _ _ ⟨B6, c6, rfl, rfl⟩
      refine efT rfl rfl rfl (by simp) (eCallV rfl rfl rfl (ref_SameInts _ _ _ (clsL q n zs) rfl _ _ _ (clsL q n zs) rfl (by have := clsL_length q n zs; omega)) ⟨rfl, rfl, trivial⟩ ?_) 
      refine st rfl rfl rfl rfl (rPick1 rfl rfl (by simp) rfl) ?_
      refine pu rfl rfl rfl rfl rfl ?_
      exact tr_ret ⟨trivial, _, _, rfl, ⟨by simp, rfl⟩, CSub.nil _, trivial⟩

theorem law_BchClosures (q n : Int) (Z : Option Addr) (cz : Nat) (zs : List Int) (hl9 : zs.length ≤ 17592186044415) : Pure Try.prog 12 #[.int .i64 q, .int .i64 n, .slice Z zs.length cz] [ro Z (ints zs)] (isV (.bool true)) := by
  by_cases h : closureArgs q n = 0
  · exact law_BchClosures_ok q n Z cz zs hl9 h
  · exact law_BchClosures_no q n Z cz zs hl9 h


namespace lawBchClosures
theorem own : ownKnob Try.prog.godebug = none := by kernel_rfl
theorem laidOut : laidOutB Try.prog = true := by kernel_rfl
set_option maxRecDepth 100000 in
theorem lifted (os : Os) (started : os.Started) (H : Type) (enc : TypeId × Value → H) :
    ReturnsInHanded {} Try.checked os 12 .any (Rows.bchClosuresSpec.pre6 enc Try.prog Try.f12 Rows.bchClosuresRow.domain false) (Rows.bchClosuresSpec.post enc Try.prog Try.f12 false true false false) := by
  refine returnsInHanded_of_change_sized (C := Try.checked) own started (by kernel_rfl) Try.func12
    (ChangeSpec.witness6 (enc := enc) (C := Try.checked) false ⟨#[], #[.int .i64 0, .int .i64 0, .slice none 0 0], []⟩ 8 (by kernel_rfl) (by kernel_rfl) (by kernel_rfl) (by kernel_rfl)) ?_
  intro W base args ds gs before hval0 hW hcnd hsz _
  have hval : ∀ (j : Nat) t v, Try.f12.params[j]? = some t → args[j]? = some v → Value.okWide Try.prog W .any base t v := hval0
  have hW' := hW
  obtain ⟨p, q, hA0, hV, rfl, hfz, hnd⟩ := hW
  have hA : DataW.TrodAll enc Try.prog W 0 (fun _ => true) true Try.f12.params.toList args.toList ds p := hA0
  rw [Try.params12] at hA hval
  obtain ⟨v0, vs0, d0, ds0, p0, q0, hargs, rfl, rfl, h0, r0⟩ := trodAll_cons hA
  obtain ⟨v1, vs1, d1, ds1, p1, q1, rfl, rfl, rfl, h1, r1⟩ := trodAll_cons r0
  obtain ⟨v2, vs2, d2, ds2, p2, q2, rfl, rfl, rfl, h2, r2⟩ := trodAll_cons r1
  obtain ⟨rfl, rfl, rfl⟩ := trodAll_nil r2
  obtain rfl : args = #[v0, v1, v2] := by cases args; simp_all
  obtain ⟨rfl, rfl⟩ := trodVars_none hV
  have k0 := h0
  have lt0 : ∀ x ∈ p0, x.block < W.heap.size := by obtain ⟨m, hm⟩ := k0; exact DataW.trod_lt m _ _ _ hm
  have k1 := h1
  have lt1 : ∀ x ∈ p1, x.block < W.heap.size := by obtain ⟨m, hm⟩ := k1; exact DataW.trod_lt m _ _ _ hm
  have k2 := h2
  have lt2 : ∀ x ∈ p2, x.block < W.heap.size := by obtain ⟨m, hm⟩ := k2; exact DataW.trod_lt m _ _ _ hm
  obtain ⟨n0, rfl, fn0⟩ := get_I Try.underlying3 (hval 0 3 v0 rfl rfl) h0
  obtain ⟨n1, rfl, fn1⟩ := get_I Try.underlying3 (hval 1 3 v1 rfl rfl) h1
  obtain ⟨A2, c2, xs2, w2⟩ := get_ISw Try.underlying22 Try.underlying3 (by kernel_rfl) (by kernel_rfl) (light_of hsz (j := 2) rfl rfl) (hval 2 22 v2 rfl rfl) h2
  obtain rfl := w2.val
  clear hA0 hval0
  have hlaw := law_BchClosures n0 n1 A2 c2 xs2 w2.short
  have hsat : ∀ ch ∈ [ro A2 (ints xs2)], ch.sat W := fun ch hc => by
    simp only [List.mem_singleton] at hc
    subst hc
    exact w2.sat
  refine (hlaw.run W hsat).mono fun e W' ⟨v, Fo, he, bel, hv, _⟩ => ?_
  obtain ⟨rfl, _⟩ := hv
  subst he
  exact ⟨_, rfl, _, _, _, [], _, [], hW', trodAll_mk1 (shut_bool Try.underlying4 _), (trodAll_cons_mk (Below.trod laidOut (by kernel_rfl) (of_decide_eq_true (by kernel_rfl)) k0 bel lt0) (trodAll_cons_mk (Below.trod laidOut (by kernel_rfl) (of_decide_eq_true (by kernel_rfl)) k1 bel lt1) (trodAll_cons_mk (Below.trod laidOut (by kernel_rfl) (of_decide_eq_true (by kernel_rfl)) k2 bel lt2) trodAll_mk0))), rfl, bel.frame _, fun h => by cases h⟩

theorem proved : Rows.BchClosuresSaid :=
  OpenClaim.holds_of_wide 12 Try.f12 rfl rfl rfl rfl rfl rfl rfl ⟨rfl, rfl, rfl, rfl, rfl⟩ rfl rfl rfl rfl rfl (by kernel_rfl) Try.func12 (by kernel_rfl)
    (of_decide_eq_true (by kernel_rfl)) (by unfold Func.isWrapper; first | (rw [if_pos (by decide +kernel)]; kernel_rfl) | (rw [if_neg (by decide +kernel)]; exact ⟨rfl, rfl⟩))
    (fun os started H enc _ => lifted os started H enc)
end lawBchClosures

end Go.Proofs.Ytjmojhflnjbgaaa

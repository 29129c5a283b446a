/-
  THE LAW BchChecks. One sentence: whatever the input, the law returns true and the input reads as it did.
  Conditions: none.
-/
import Derived.Test.YtancpcmiimcdhaaBch1
import Derived.Test.YtancpcmiimcdhaaOpen
set_option linter.unusedSimpArgs false
set_option linter.unusedVariables false
namespace Go.Proofs.Ytancpcmiimcdhaa
open Go.ChangeShapes Go.WideShapes Go.ChangeAt Go.RowKit

theorem get_Run {H : Type} {enc : TypeId × Value → H} {w : World} {b : Nat} {v : Value} {d : DataW H} {p : List MemPlace} (hv : Value.okWide Try.prog w .any b 24 v) (h : DataW.Trod enc Try.prog w 0 (fun _ => true) true 24 v d p) :
    ∃ s t c x m : Int, v = .agg #[.int .i64 s, .int .i64 t, .int .i64 c, .int .i64 x, .int .i64 m] ∧ True := by
  obtain ⟨l, rfl, h1, h2⟩ := get_Fd (by kernel_rfl) hv h
  have hl : l.length = 5 := h1.trans (by kernel_rfl)
  obtain ⟨n0, y0, hy0⟩ := h2 0 0 3 1 (by kernel_rfl)
  obtain ⟨a0, e0, _⟩ := open_I Try.underlying3 hy0
  obtain ⟨n1, y1, hy1⟩ := h2 1 1 3 1 (by kernel_rfl)
  obtain ⟨a1, e1, _⟩ := open_I Try.underlying3 hy1
  obtain ⟨n2, y2, hy2⟩ := h2 2 2 3 1 (by kernel_rfl)
  obtain ⟨a2, e2, _⟩ := open_I Try.underlying3 hy2
  obtain ⟨n3, y3, hy3⟩ := h2 3 3 3 1 (by kernel_rfl)
  obtain ⟨a3, e3, _⟩ := open_I Try.underlying3 hy3
  obtain ⟨n4, y4, hy4⟩ := h2 4 4 3 1 (by kernel_rfl)
  obtain ⟨a4, e4, _⟩ := open_I Try.underlying3 hy4
  match l, hl with
  | [b0, b1, b2, b3, b4], _ =>
    simp at e0 e1 e2 e3 e4
    exact ⟨a0, a1, a2, a3, a4, by rw [e0, e1, e2, e3, e4], trivial⟩

theorem law_BchChecks_ent : Enters Try.prog 3 := enters_of Try.func3 (by kernel_rfl) (by kernel_rfl)
theorem law_BchChecks (n : Int) (A : Option Addr) (c : Nat) (zs : List Int) (s t ct x m : Int) :
    Pure Try.prog 3 #[.int .i64 n, .slice A zs.length c, .agg #[.int .i64 s, .int .i64 t, .int .i64 ct, .int .i64 x, .int .i64 m]] [ro A (ints zs)] (isV (.bool true)) := by
  refine pure_of (args := [.int .i64 n, .slice A zs.length c, .agg #[.int .i64 s, .int .i64 t, .int .i64 ct, .int .i64 x, .int .i64 m]]) 36 Try.func3 rfl rfl rfl law_BchChecks_ent ⟨id, trivial⟩ (fun w0 => ?_)
  refine tr_seq ?_
  refine tr_region ?_
  refine ef rfl rfl (eBox rfl rfl rfl rfl rfl (fun p0 => ?_)) 
  refine pu rfl rfl rfl rfl rfl ?_
  refine tr_seq ?_
  refine tr_seq ?_
  refine tr_region ?_
  refine pu rfl rfl rfl rfl rfl ?_
  refine st rfl rfl rfl rfl (rLen rfl rfl) ?_
  refine pu rfl rfl rfl rfl rfl ?_
  refine tr_cond_bool rfl (fun h1 => ?_) (fun h1 => ?_)
  · try simp only [zb1, zb2, zb3, zb4, zb5, zb6, zb7, zb8, zb9, zb10] at h1
    refine tr_seq ?_
    refine tr_region ?_
    refine pu rfl rfl rfl rfl rfl ?_
    exact tr_ret ⟨trivial, _, _, rfl, ⟨rfl, rfl⟩, CSub.nil _, trivial⟩
  · try simp only [zb1, zb2, zb3, zb4, zb5, zb6, zb7, zb8, zb9, zb10] at h1
    refine tr_skip ?_
    refine tr_seq ?_
    refine tr_region ?_
    iterate 2 refine pu rfl rfl rfl rfl rfl ?_
    refine st rfl rfl rfl rfl (rLdS rfl rfl rfl) ?_
    refine ef rfl rfl (eCallV rfl rfl rfl (bch_Check _ _ _ _ (by omega) _ _ _ _ _) ⟨rfl, rfl, rfl, trivial⟩ ?_) 
    iterate 5 refine pu rfl rfl rfl rfl rfl ?_
    refine tr_seq ?_
    refine tr_region ?_
    iterate 2 refine pu rfl rfl rfl rfl rfl ?_
    refine st rfl rfl rfl rfl (rLdS rfl rfl rfl) ?_
    refine ef rfl rfl (eCallV rfl rfl rfl (ref_Check _ _ _ _ (by omega) _ _ _ _ _) ⟨rfl, rfl, rfl, trivial⟩ ?_) 
    iterate 5 refine pu rfl rfl rfl rfl rfl ?_
    refine tr_seq ?_
    refine tr_region ?_
    iterate 4 refine pu rfl rfl rfl rfl rfl ?_
    refine stg rfl rfl rfl rfl rfl (fun hb => by (have hq := hb; try simp only [zb1, zb2, zb3, zb4, zb5, zb6, zb7, zb8, zb9, zb10] at hq); exact rMove rfl rfl) ?_
    refine stg rfl rfl rfl rfl rfl (fun hb => by (have hq := hb; try simp only [zb1, zb2, zb3, zb4, zb5, zb6, zb7, zb8, zb9, zb10] at hq); exact rMove rfl rfl) ?_
    refine stg rfl rfl rfl rfl rfl (fun hb => by (have hq := hb; try simp only [zb1, zb2, zb3, zb4, zb5, zb6, zb7, zb8, zb9, zb10] at hq); exact rEql rfl (evg rfl hb) (evg rfl hb)) ?_
    refine st rfl rfl rfl rfl (rAndB rfl rfl rfl rfl) ?_
    refine pu rfl rfl rfl rfl rfl ?_
    exact tr_ret ⟨trivial, _, _, rfl, ⟨by simp, rfl⟩, CSub.nil _, trivial⟩


namespace lawBchChecks
theorem own : ownKnob Try.prog.godebug = none := by kernel_rfl
theorem laidOut : laidOutB Try.prog = true := by kernel_rfl
set_option maxRecDepth 100000 in
theorem lifted (os : Os) (started : os.Started) (H : Type) (enc : TypeId × Value → H) :
    ReturnsInHanded {} Try.checked os 3 .any (Rows.bchChecksSpec.pre6 enc Try.prog Try.f3 Rows.bchChecksRow.domain false) (Rows.bchChecksSpec.post enc Try.prog Try.f3 false true false false) := by
  refine returnsInHanded_of_change_sized (C := Try.checked) own started (by kernel_rfl) Try.func3
    (ChangeSpec.witness6 (enc := enc) (C := Try.checked) false ⟨#[], #[.int .i64 0, .slice none 0 0, .agg #[.int .i64 0, .int .i64 0, .int .i64 0, .int .i64 0, .int .i64 0]], []⟩ 8 (by kernel_rfl) (by kernel_rfl) (by kernel_rfl) (by kernel_rfl)) ?_
  intro W base args ds gs before hval0 hW hcnd hsz _
  have hval : ∀ (j : Nat) t v, Try.f3.params[j]? = some t → args[j]? = some v → Value.okWide Try.prog W .any base t v := hval0
  have hW' := hW
  obtain ⟨p, q, hA0, hV, rfl, hfz, hnd⟩ := hW
  have hA : DataW.TrodAll enc Try.prog W 0 (fun _ => true) true Try.f3.params.toList args.toList ds p := hA0
  rw [Try.params3] at hA hval
  obtain ⟨v0, vs0, d0, ds0, p0, q0, hargs, rfl, rfl, h0, r0⟩ := trodAll_cons hA
  obtain ⟨v1, vs1, d1, ds1, p1, q1, rfl, rfl, rfl, h1, r1⟩ := trodAll_cons r0
  obtain ⟨v2, vs2, d2, ds2, p2, q2, rfl, rfl, rfl, h2, r2⟩ := trodAll_cons r1
  obtain ⟨rfl, rfl, rfl⟩ := trodAll_nil r2
  obtain rfl : args = #[v0, v1, v2] := by cases args; simp_all
  obtain ⟨rfl, rfl⟩ := trodVars_none hV
  have k0 := h0
  have lt0 : ∀ x ∈ p0, x.block < W.heap.size := by obtain ⟨m, hm⟩ := k0; exact DataW.trod_lt m _ _ _ hm
  have k1 := h1
  have lt1 : ∀ x ∈ p1, x.block < W.heap.size := by obtain ⟨m, hm⟩ := k1; exact DataW.trod_lt m _ _ _ hm
  have k2 := h2
  have lt2 : ∀ x ∈ p2, x.block < W.heap.size := by obtain ⟨m, hm⟩ := k2; exact DataW.trod_lt m _ _ _ hm
  obtain ⟨n0, rfl, fn0⟩ := get_I Try.underlying3 (hval 0 3 v0 rfl rfl) h0
  obtain ⟨A1, c1, xs1, w1⟩ := get_IS Try.underlying22 Try.underlying3 (by kernel_rfl) (hval 1 22 v1 rfl rfl) h1
  obtain rfl := w1.val
  obtain ⟨r2s, r2t, r2c, r2x, r2m, rfl, fr2⟩ := get_Run (hval 2 24 v2 rfl rfl) h2
  clear hA0 hval0
  have hlaw := law_BchChecks n0 A1 c1 xs1 r2s r2t r2c r2x r2m
  have hsat : ∀ ch ∈ [ro A1 (ints xs1)], ch.sat W := fun ch hc => by
    simp only [List.mem_singleton] at hc
    subst hc
    exact w1.sat
  refine (hlaw.run W hsat).mono fun e W' ⟨v, Fo, he, bel, hv, _⟩ => ?_
  obtain ⟨rfl, _⟩ := hv
  subst he
  exact ⟨_, rfl, _, _, _, [], _, [], hW', trodAll_mk1 (shut_bool Try.underlying4 _), (trodAll_cons_mk (Below.trod laidOut (by kernel_rfl) (of_decide_eq_true (by kernel_rfl)) k0 bel lt0) (trodAll_cons_mk (Below.trod laidOut (by kernel_rfl) (of_decide_eq_true (by kernel_rfl)) k1 bel lt1) (trodAll_cons_mk (Below.trod laidOut (by kernel_rfl) (of_decide_eq_true (by kernel_rfl)) k2 bel lt2) trodAll_mk0))), rfl, bel.frame _, fun h => by cases h⟩

theorem proved : Rows.BchChecksSaid :=
  OpenClaim.holds_of_wide 3 Try.f3 rfl rfl rfl rfl rfl rfl rfl ⟨rfl, rfl, rfl, rfl, rfl⟩ rfl rfl rfl rfl rfl (by kernel_rfl) Try.func3 (by kernel_rfl)
    (of_decide_eq_true (by kernel_rfl)) (by unfold Func.isWrapper; first | (rw [if_pos (by decide +kernel)]; kernel_rfl) | (rw [if_neg (by decide +kernel)]; exact ⟨rfl, rfl⟩))
    (fun os started H enc _ => lifted os started H enc)
end lawBchChecks

end Go.Proofs.Ytancpcmiimcdhaa

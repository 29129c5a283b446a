/-
  BCHWEIGHTS, PART 10 OF 10. One sentence: the texts behind the law BchWeights, put together.
  Conditions: each theorem's own, written out in it.
-/
import Derived.Test.YtgnmcoegdogfgaaGreatK9
set_option linter.unusedSimpArgs false
set_option linter.unusedVariables false
set_option linter.unusedSectionVars false
set_option linter.unusedSimpArgs false
set_option linter.unusedVariables false
set_option maxRecDepth 100000
namespace Go.Proofs.YtgnmcoegdogfgaaGreat
open Go.ChangeShapes Go.WideShapes Go.ChangeAt Go.RowKit
theorem get_Run {H : Type} {enc : TypeId × Value → H} {w : World} {b : Nat} {v : Value} {d : DataW H} {p : List MemPlace} (hv : Value.okWide Tryz.prog w .any b 29 v) (h : DataW.Trod enc Tryz.prog w 0 (fun _ => true) true 29 v d p) :
    ∃ s t c x m : Int, v = .agg #[.int .i64 s, .int .i64 t, .int .i64 c, .int .i64 x, .int .i64 m] ∧ True := by
  obtain ⟨l, rfl, h1, h2⟩ := get_Fd (by kernel_rfl) hv h
  have hl : l.length = 5 := h1.trans (by kernel_rfl)
  obtain ⟨n0, y0, hy0⟩ := h2 0 0 3 1 (by kernel_rfl)
  obtain ⟨a0, e0, _⟩ := open_I Tryz.underlying3 hy0
  obtain ⟨n1, y1, hy1⟩ := h2 1 1 3 1 (by kernel_rfl)
  obtain ⟨a1, e1, _⟩ := open_I Tryz.underlying3 hy1
  obtain ⟨n2, y2, hy2⟩ := h2 2 2 3 1 (by kernel_rfl)
  obtain ⟨a2, e2, _⟩ := open_I Tryz.underlying3 hy2
  obtain ⟨n3, y3, hy3⟩ := h2 3 3 3 1 (by kernel_rfl)
  obtain ⟨a3, e3, _⟩ := open_I Tryz.underlying3 hy3
  obtain ⟨n4, y4, hy4⟩ := h2 4 4 3 1 (by kernel_rfl)
  obtain ⟨a4, e4, _⟩ := open_I Tryz.underlying3 hy4
  match l, hl with
  | [b0, b1, b2, b3, b4], _ =>
    simp at e0 e1 e2 e3 e4
    exact ⟨a0, a1, a2, a3, a4, by rw [e0, e1, e2, e3, e4], trivial⟩
namespace lawBchWeights
theorem own : ownKnob Tryz.prog.godebug = none := by kernel_rfl
theorem laidOut : laidOutB Tryz.prog = true := by kernel_rfl
set_option maxRecDepth 100000 in
theorem lifted (os : Os) (started : os.Started) (H : Type) (enc : TypeId × Value → H) :
    ReturnsInHanded {} Tryz.checked os 3 .any (Rows.bchWeightsSpec.pre6 enc Tryz.prog Tryz.f3 Rows.bchWeightsRow.domain false) (Rows.bchWeightsSpec.post enc Tryz.prog Tryz.f3 false true false false) := by
  refine returnsInHanded_of_change_sized (C := Tryz.checked) own started (by kernel_rfl) Tryz.func3
    (ChangeSpec.witness6 (enc := enc) (C := Tryz.checked) false ⟨#[], #[.agg #[.int .i64 0, .int .i64 0, .slice none 0 0, .int .i64 0, .slice none 0 0], .agg #[.int .i64 0, .int .i64 0, .slice none 0 0], .agg #[.int .i64 0, .int .i64 0, .int .i64 0, .int .i64 0, .int .i64 0], .slice none 0 0], []⟩ 8 (by kernel_rfl) (by kernel_rfl) (by kernel_rfl) (by kernel_rfl)) ?_
  intro W base args ds gs before hval0 hW hcnd hsz _
  have hval : ∀ (j : Nat) t v, Tryz.f3.params[j]? = some t → args[j]? = some v → Value.okWide Tryz.prog W .any base t v := hval0
  have hW' := hW
  obtain ⟨p, q, hA0, hV, rfl, hfz, hnd⟩ := hW
  have hA : DataW.TrodAll enc Tryz.prog W 0 (fun _ => true) true Tryz.f3.params.toList args.toList ds p := hA0
  rw [Tryz.params3] at hA hval
  obtain ⟨v0, vs0, d0, ds0, p0, q0, hargs, rfl, rfl, h0, r0⟩ := trodAll_cons hA
  obtain ⟨v1, vs1, d1, ds1, p1, q1, rfl, rfl, rfl, h1, r1⟩ := trodAll_cons r0
  obtain ⟨v2, vs2, d2, ds2, p2, q2, rfl, rfl, rfl, h2, r2⟩ := trodAll_cons r1
  obtain ⟨v3, vs3, d3, ds3, p3, q3, rfl, rfl, rfl, h3, r3⟩ := trodAll_cons r2
  obtain ⟨rfl, rfl, rfl⟩ := trodAll_nil r3
  obtain rfl : args = #[v0, v1, v2, v3] := by cases args; simp_all
  obtain ⟨rfl, rfl⟩ := trodVars_none hV
  have k0 := h0
  have lt0 : ∀ x ∈ p0, x.block < W.heap.size := by obtain ⟨m, hm⟩ := k0; exact DataW.trod_lt m _ _ _ hm
  have k1 := h1
  have lt1 : ∀ x ∈ p1, x.block < W.heap.size := by obtain ⟨m, hm⟩ := k1; exact DataW.trod_lt m _ _ _ hm
  have k2 := h2
  have lt2 : ∀ x ∈ p2, x.block < W.heap.size := by obtain ⟨m, hm⟩ := k2; exact DataW.trod_lt m _ _ _ hm
  have k3 := h3
  have lt3 : ∀ x ∈ p3, x.block < W.heap.size := by obtain ⟨m, hm⟩ := k3; exact DataW.trod_lt m _ _ _ hm
  obtain ⟨P0, M0, A0, c0, mod0, N0, G0, kc0, gen0, rfl, wc0⟩ := get_Code (light_of hsz (j := 0) rfl rfl) (hval 0 27 v0 rfl rfl) h0
  obtain ⟨P1, M1, A1, c1, mod1, rfl, wf1⟩ := get_F (light_of hsz (j := 1) rfl rfl) (hval 1 24 v1 rfl rfl) h1
  obtain ⟨r2s, r2t, r2c, r2x, r2m, rfl, fr2⟩ := get_Run (hval 2 29 v2 rfl rfl) h2
  obtain ⟨A3, c3, xs3, w3⟩ := get_ISw Tryz.underlying22 Tryz.underlying3 (by kernel_rfl) (by kernel_rfl) (light_of hsz (j := 3) rfl rfl) (hval 3 22 v3 rfl rfl) h3
  obtain rfl := w3.val
  clear hA0 hval0
  have hlaw := law_BchWeights P0 M0 A0 c0 mod0 wc0.1.2 N0 G0 gen0.length kc0 gen0 rfl wc0.2.2.1 wc0.2.2.2.1 P1 M1 A1 c1 mod1 wf1.2 r2s r2t r2c r2x r2m A3 xs3.length c3 xs3 rfl w3.short
  have hsat : ∀ ch ∈ [ro A0 (ints mod0), ro G0 (hdrs gen0), rowsR gen0, ro A1 (ints mod1), ro A3 (ints xs3)], ch.sat W := fun ch hc => by
    simp only [List.mem_cons, List.not_mem_nil, or_false] at hc
    rcases hc with rfl | rfl | rfl | rfl | rfl
    · exact wc0.1.1
    · exact wc0.2.1.1
    · exact wc0.2.1.2
    · exact wf1.1
    · exact w3.sat
  refine (hlaw.run W hsat).mono fun e W' ⟨v, Fo, he, bel, hv, _⟩ => ?_
  obtain ⟨rfl, _⟩ := hv
  subst he
  exact ⟨_, rfl, _, _, _, [], _, [], hW', trodAll_mk1 (shut_bool Tryz.underlying4 _), (trodAll_cons_mk (Below.trod laidOut (by kernel_rfl) (of_decide_eq_true (by kernel_rfl)) k0 bel lt0) (trodAll_cons_mk (Below.trod laidOut (by kernel_rfl) (of_decide_eq_true (by kernel_rfl)) k1 bel lt1) (trodAll_cons_mk (Below.trod laidOut (by kernel_rfl) (of_decide_eq_true (by kernel_rfl)) k2 bel lt2) (trodAll_cons_mk (Below.trod laidOut (by kernel_rfl) (of_decide_eq_true (by kernel_rfl)) k3 bel lt3) trodAll_mk0)))), rfl, bel.frame _, fun h => by cases h⟩
theorem jp1 : (Rows.bchWeightsRow.wf (OpenSpec.ofChange Rows.bchWeightsSpec) && laidOutB Tryz.prog && mapsRowed Tryz.prog && Tryz.f3.params.all (Tryz.prog.readableRec ·) && namedTie Tryz.prog Rows.bchWeightsRow.named Rows.bchWeightsSpec.vars && (Rows.bchWeightsRow.stops == []) && (Tryz.prog.stops == []) && (Rows.bchWeightsRow.knobs == []) && (Tryz.prog.stopKnobs == [])) = true := by kernel_rfl
theorem jp2 : (Rows.bchWeightsRow.inPlace == Tryz.prog.inPlace 3) = true := by kernel_rfl
theorem jp3 : (Rows.bchWeightsRow.unfollowed == Tryz.prog.unfollowed 3) = true := by kernel_rfl
theorem jp4 : (Rows.bchWeightsRow.recurses == Tryz.prog.recurses 3) = true := by kernel_rfl
theorem jp5 : (Rows.bchWeightsRow.named == Tryz.prog.varsNamed 3) = true := by kernel_rfl
theorem jp6 : (Rows.bchWeightsRow.maps == (Tryz.f3.params.toList ++ Rows.bchWeightsSpec.plain.varTypes Tryz.prog).any (Tryz.prog.mapsRec ·)) = true := by kernel_rfl
theorem jp7 : (Rows.bchWeightsRow.ifaces == (Tryz.f3.params.toList ++ Rows.bchWeightsSpec.plain.varTypes Tryz.prog).any (Tryz.prog.ifacesRec ·)) = true := by kernel_rfl
theorem jp8 : (Rows.bchWeightsRow.mapsOut == Tryz.prog.mapsAmong Tryz.f3.resultTypes.toList) = true := by kernel_rfl
theorem jp9 : (Rows.bchWeightsRow.loops == (Tryz.f3.params.toList ++ Rows.bchWeightsSpec.plain.varTypes Tryz.prog).any (Tryz.prog.loopsFrom ·)) = true := by kernel_rfl
theorem jp10 : (Rows.bchWeightsRow.wideKeys == (Tryz.f3.params.toList ++ Rows.bchWeightsSpec.plain.varTypes Tryz.prog ++ Tryz.f3.resultTypes.toList).any (Tryz.prog.wideKeysFrom ·)) = true := by kernel_rfl
theorem jp11 : Rows.bchWeightsSpec.vars.all (Tryz.prog.varReadable ·) = true := by kernel_rfl
theorem jp12 : Tryz.f3.resultTypes.all (fun t => Tryz.prog.readableRec t && decide (t < Tryz.prog.types.size)) = true := by kernel_rfl
theorem jp13 : (Rows.bchWeightsRow.ifacesOut == Tryz.f3.resultTypes.toList.any (Tryz.prog.ifacesRec ·)) = true := by kernel_rfl
theorem jp14 : (Rows.bchWeightsRow.loopsOut == Tryz.f3.resultTypes.toList.any (Tryz.prog.loopsFrom ·)) = true := by kernel_rfl
theorem jp16 : Rows.bchWeightsRow.shortTexts.isNone = true := by kernel_rfl
theorem jp21 : (Rows.bchWeightsRow.kinds == (if Rows.bchWeightsRow.domain.isEmpty then [] else Tryz.f3.params.toList.map fun t => match Tryz.prog.underlying t with | some (.int k) => some k | _ => none)) = true := by kernel_rfl
theorem jp22 : (Rows.bchWeightsRow.pinned == Rows.bchWeightsRow.pinnedBy) = true := by kernel_rfl
theorem jp23 : (Rows.bchWeightsRow.veiled == (Tryz.f3.params.toList ++ Rows.bchWeightsSpec.plain.varTypes Tryz.prog ++ Tryz.f3.resultTypes.toList).any (Tryz.prog.veiledRec ·)) = true := by kernel_rfl
theorem jp24 : Rows.bchWeightsRow.veiledFits Tryz.prog Tryz.f3.params.toList (Tryz.f3.params.toList ++ Rows.bchWeightsSpec.plain.varTypes Tryz.prog ++ Tryz.f3.resultTypes.toList) = true := by kernel_rfl
theorem inst : Tryz.f3.isInstance Tryz.prog Rows.bchWeightsRow.origin Rows.bchWeightsRow.targs := of_decide_eq_true (by kernel_rfl)
theorem wrap : Tryz.f3.isWrapper Tryz.prog Rows.bchWeightsRow.wrapper Rows.bchWeightsRow.mainSum := by unfold Func.isWrapper; first | (rw [if_pos (by decide +kernel)]; kernel_rfl) | (rw [if_neg (by decide +kernel)]; exact ⟨rfl, rfl⟩)
theorem named : Tryz.prog.funcNamed Rows.bchWeightsRow.func = some 3 := by kernel_rfl
theorem joined : joinedFacts Tryz.prog 3 Tryz.f3 Rows.bchWeightsSpec Rows.bchWeightsRow = true :=
  joined_of jp1 jp2 jp3 jp4 jp5 jp6 jp7 jp8 jp9 jp10 jp11 jp12 jp13 jp14 Facts.f15 jp16 Facts.f17 Facts.f18 Facts.f19 Facts.f20 jp21 jp22 jp23 jp24
theorem proved : Rows.BchWeightsSaid :=
  OpenClaim.holds_of_wide 3 Tryz.f3 rfl rfl rfl rfl rfl rfl rfl ⟨rfl, rfl, rfl, rfl, rfl⟩ rfl rfl rfl rfl rfl named Tryz.func3 joined inst wrap
    (fun os started H enc _ => lifted os started H enc)
end lawBchWeights
end Go.Proofs.YtgnmcoegdogfgaaGreat

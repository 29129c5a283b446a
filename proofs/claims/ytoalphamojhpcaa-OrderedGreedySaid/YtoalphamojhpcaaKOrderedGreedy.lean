/-
  ORDEREDGREEDY, PART 9 OF 9. One sentence: the texts behind the law OrderedGreedy, put together.
  Conditions: each theorem's own, written out in it.
-/
import Derived.Test.YtoalphamojhpcaaK8
set_option linter.unusedSimpArgs false
set_option linter.unusedVariables false
set_option linter.unusedSectionVars false
set_option linter.unusedSimpArgs false
set_option linter.unusedVariables false
set_option maxRecDepth 100000
namespace Go.Proofs.Ytoalphamojhpcaa
open Go.ChangeShapes Go.WideShapes Go.ChangeAt Go.RowKit
namespace lawOrderedGreedy
theorem own : ownKnob Try.prog.godebug = none := by kernel_rfl
theorem laidOut : laidOutB Try.prog = true := by kernel_rfl
set_option maxRecDepth 100000 in
theorem lifted (os : Os) (started : os.Started) (H : Type) (enc : TypeId × Value → H) :
    ReturnsInHanded {} Try.checked os 5 .any (Rows.orderedGreedySpec.pre6 enc Try.prog Try.f5 Rows.orderedGreedyRow.domain false) (Rows.orderedGreedySpec.post enc Try.prog Try.f5 false true false false) := by
  refine returnsInHanded_of_change_sized (C := Try.checked) own started (by kernel_rfl) Try.func5
    (ChangeSpec.witness6 (enc := enc) (C := Try.checked) false ⟨#[], #[.agg #[.int .i64 0, .int .i64 0, .slice none 0 0, .int .i64 0, .slice none 0 0], .slice none 0 0, .slice none 0 0], []⟩ 8 (by kernel_rfl) (by kernel_rfl) (by kernel_rfl) (by kernel_rfl)) ?_
  intro W base args ds gs before hval0 hW hcnd hsz _
  have hval : ∀ (j : Nat) t v, Try.f5.params[j]? = some t → args[j]? = some v → Value.okWide Try.prog W .any base t v := hval0
  have hW' := hW
  obtain ⟨p, q, hA0, hV, rfl, hfz, hnd⟩ := hW
  have hA : DataW.TrodAll enc Try.prog W 0 (fun _ => true) true Try.f5.params.toList args.toList ds p := hA0
  rw [Try.params5] at hA hval
  obtain ⟨v0, vs0, d0, ds0, p0, q0, hargs, rfl, rfl, h0, r0⟩ := trodAll_cons hA
  obtain ⟨v1, vs1, d1, ds1, p1, q1, rfl, rfl, rfl, h1, r1⟩ := trodAll_cons r0
  obtain ⟨v2, vs2, d2, ds2, p2, q2, rfl, rfl, rfl, h2, r2⟩ := trodAll_cons r1
  obtain ⟨rfl, rfl, rfl⟩ := trodAll_nil r2
  obtain rfl : args = #[v0, v1, v2] := by cases args; simp_all
  obtain ⟨rfl, rfl⟩ := trodVars_none hV
  have k0 := h0
  have lt0 : ∀ x ∈ p0, x.block < W.heap.size := by obtain ⟨m, hm⟩ := k0; exact DataW.trod_lt m _ _ _ hm
  have k1 := h1
  have lt1 : ∀ x ∈ p1, x.block < W.heap.size := by obtain ⟨m, hm⟩ := k1; exact DataW.trod_lt m _ _ _ hm
  have k2 := h2
  have lt2 : ∀ x ∈ p2, x.block < W.heap.size := by obtain ⟨m, hm⟩ := k2; exact DataW.trod_lt m _ _ _ hm
  obtain ⟨P0, M0, A0, c0, mod0, N0, G0, kc0, gen0, rfl, wc0⟩ := get_Code (light_of hsz (j := 0) rfl rfl) (hval 0 27 v0 rfl rfl) h0
  obtain ⟨A1, c1, rs1, rfl, s1⟩ := get_ISSw Try.underlying25 Try.underlying22 Try.underlying3 (by kernel_rfl) (by kernel_rfl) (by kernel_rfl) (by kernel_rfl) (light_of hsz (j := 1) rfl rfl) (hval 1 25 v1 rfl rfl) h1
  obtain ⟨A2, c2, xs2, w2⟩ := get_ISw Try.underlying22 Try.underlying3 (by kernel_rfl) (by kernel_rfl) (light_of hsz (j := 2) rfl rfl) (hval 2 22 v2 rfl rfl) h2
  obtain rfl := w2.val
  clear hA0 hval0
  have hlaw := law_OrderedGreedy P0 M0 A0 c0 mod0 wc0.1.2 N0 G0 gen0.length kc0 gen0 rfl wc0.2.2.1 wc0.2.2.2.1 A1 rs1.length c1 rs1 rfl s1.2.2.1 s1.2.2.2.1 A2 xs2.length c2 xs2 rfl w2.short
  have hsat : ∀ ch ∈ [ro A0 (ints mod0), ro G0 (hdrs gen0), rowsR gen0, ro A1 (hdrs rs1), rowsR rs1, ro A2 (ints xs2)], ch.sat W := fun ch hc => by
    simp only [List.mem_cons, List.not_mem_nil, or_false] at hc
    rcases hc with rfl | rfl | rfl | rfl | rfl | rfl
    · exact wc0.1.1
    · exact wc0.2.1.1
    · exact wc0.2.1.2
    · exact s1.1
    · exact s1.2.1
    · exact w2.sat
  refine (hlaw.run W hsat).mono fun e W' ⟨v, Fo, he, bel, hv, _⟩ => ?_
  obtain ⟨rfl, _⟩ := hv
  subst he
  exact ⟨_, rfl, _, _, _, [], _, [], hW', trodAll_mk1 (shut_bool Try.underlying4 _), (trodAll_cons_mk (Below.trod laidOut (by kernel_rfl) (of_decide_eq_true (by kernel_rfl)) k0 bel lt0) (trodAll_cons_mk (Below.trod laidOut (by kernel_rfl) (of_decide_eq_true (by kernel_rfl)) k1 bel lt1) (trodAll_cons_mk (Below.trod laidOut (by kernel_rfl) (of_decide_eq_true (by kernel_rfl)) k2 bel lt2) trodAll_mk0))), rfl, bel.frame _, fun h => by cases h⟩
theorem jp1 : (Rows.orderedGreedyRow.wf (OpenSpec.ofChange Rows.orderedGreedySpec) && laidOutB Try.prog && mapsRowed Try.prog && Try.f5.params.all (Try.prog.readableRec ·) && namedTie Try.prog Rows.orderedGreedyRow.named Rows.orderedGreedySpec.vars && (Rows.orderedGreedyRow.stops == []) && (Try.prog.stops == []) && (Rows.orderedGreedyRow.knobs == []) && (Try.prog.stopKnobs == [])) = true := by kernel_rfl
theorem jp2 : (Rows.orderedGreedyRow.inPlace == Try.prog.inPlace 5) = true := by kernel_rfl
theorem jp3 : (Rows.orderedGreedyRow.unfollowed == Try.prog.unfollowed 5) = true := by kernel_rfl
theorem jp4 : (Rows.orderedGreedyRow.recurses == Try.prog.recurses 5) = true := by kernel_rfl
theorem jp5 : (Rows.orderedGreedyRow.named == Try.prog.varsNamed 5) = true := by kernel_rfl
theorem jp6 : (Rows.orderedGreedyRow.maps == (Try.f5.params.toList ++ Rows.orderedGreedySpec.plain.varTypes Try.prog).any (Try.prog.mapsRec ·)) = true := by kernel_rfl
theorem jp7 : (Rows.orderedGreedyRow.ifaces == (Try.f5.params.toList ++ Rows.orderedGreedySpec.plain.varTypes Try.prog).any (Try.prog.ifacesRec ·)) = true := by kernel_rfl
theorem jp8 : (Rows.orderedGreedyRow.mapsOut == Try.prog.mapsAmong Try.f5.resultTypes.toList) = true := by kernel_rfl
theorem jp9 : (Rows.orderedGreedyRow.loops == (Try.f5.params.toList ++ Rows.orderedGreedySpec.plain.varTypes Try.prog).any (Try.prog.loopsFrom ·)) = true := by kernel_rfl
theorem jp10 : (Rows.orderedGreedyRow.wideKeys == (Try.f5.params.toList ++ Rows.orderedGreedySpec.plain.varTypes Try.prog ++ Try.f5.resultTypes.toList).any (Try.prog.wideKeysFrom ·)) = true := by kernel_rfl
theorem jp11 : Rows.orderedGreedySpec.vars.all (Try.prog.varReadable ·) = true := by kernel_rfl
theorem jp12 : Try.f5.resultTypes.all (fun t => Try.prog.readableRec t && decide (t < Try.prog.types.size)) = true := by kernel_rfl
theorem jp13 : (Rows.orderedGreedyRow.ifacesOut == Try.f5.resultTypes.toList.any (Try.prog.ifacesRec ·)) = true := by kernel_rfl
theorem jp14 : (Rows.orderedGreedyRow.loopsOut == Try.f5.resultTypes.toList.any (Try.prog.loopsFrom ·)) = true := by kernel_rfl
theorem jp16 : Rows.orderedGreedyRow.shortTexts.isNone = true := by kernel_rfl
theorem jp21 : (Rows.orderedGreedyRow.kinds == (if Rows.orderedGreedyRow.domain.isEmpty then [] else Try.f5.params.toList.map fun t => match Try.prog.underlying t with | some (.int k) => some k | _ => none)) = true := by kernel_rfl
theorem jp22 : (Rows.orderedGreedyRow.pinned == Rows.orderedGreedyRow.pinnedBy) = true := by kernel_rfl
theorem jp23 : (Rows.orderedGreedyRow.veiled == (Try.f5.params.toList ++ Rows.orderedGreedySpec.plain.varTypes Try.prog ++ Try.f5.resultTypes.toList).any (Try.prog.veiledRec ·)) = true := by kernel_rfl
theorem jp24 : Rows.orderedGreedyRow.veiledFits Try.prog Try.f5.params.toList (Try.f5.params.toList ++ Rows.orderedGreedySpec.plain.varTypes Try.prog ++ Try.f5.resultTypes.toList) = true := by kernel_rfl
theorem inst : Try.f5.isInstance Try.prog Rows.orderedGreedyRow.origin Rows.orderedGreedyRow.targs := of_decide_eq_true (by kernel_rfl)
theorem wrap : Try.f5.isWrapper Try.prog Rows.orderedGreedyRow.wrapper Rows.orderedGreedyRow.mainSum := by unfold Func.isWrapper; first | (rw [if_pos (by decide +kernel)]; kernel_rfl) | (rw [if_neg (by decide +kernel)]; exact ⟨rfl, rfl⟩)
theorem named : Try.prog.funcNamed Rows.orderedGreedyRow.func = some 5 := by kernel_rfl
theorem joined : joinedFacts Try.prog 5 Try.f5 Rows.orderedGreedySpec Rows.orderedGreedyRow = true :=
  joined_of jp1 jp2 jp3 jp4 jp5 jp6 jp7 jp8 jp9 jp10 jp11 jp12 jp13 jp14 Facts.f15 jp16 Facts.f17 Facts.f18 Facts.f19 Facts.f20 jp21 jp22 jp23 jp24
theorem proved : Rows.OrderedGreedySaid :=
  OpenClaim.holds_of_wide 5 Try.f5 rfl rfl rfl rfl rfl rfl rfl ⟨rfl, rfl, rfl, rfl, rfl⟩ rfl rfl rfl rfl rfl named Try.func5 joined inst wrap
    (fun os started H enc _ => lifted os started H enc)
end lawOrderedGreedy
end Go.Proofs.Ytoalphamojhpcaa

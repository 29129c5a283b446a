/-
  FACTORBYDEGREES, PART 9 OF 9. One sentence: the texts behind the law FactorByDegrees, put together.
  Conditions: each theorem's own, written out in it.
-/
import Derived.Test.YtbhoeaijpnjgdaaK8
set_option linter.unusedSimpArgs false
set_option linter.unusedVariables false
set_option linter.unusedSectionVars false
set_option maxRecDepth 100000
namespace Go.Proofs.Ytbhoeaijpnjgdaa
open Go.ChangeShapes Go.WideShapes Go.ChangeAt Go.RowKit
namespace lawFactorByDegrees
theorem own : ownKnob Try.prog.godebug = none := by kernel_rfl
theorem laidOut : laidOutB Try.prog = true := by kernel_rfl
set_option maxRecDepth 100000 in
theorem lifted (os : Os) (started : os.Started) (H : Type) (enc : TypeId × Value → H) :
  ReturnsInHanded {} Try.checked os 3 .any (Rows.factorByDegreesSpec.pre6 enc Try.prog Try.f3 Rows.factorByDegreesRow.domain false) (Rows.factorByDegreesSpec.post enc Try.prog Try.f3 false true false false) := by
 refine returnsInHanded_of_change_sized (C := Try.checked) own started (by kernel_rfl) Try.func3
  (ChangeSpec.witness6 (enc := enc) (C := Try.checked) false ⟨#[], #[.agg #[.int .i64 0, .int .i64 0, .slice none 0 0], .slice none 0 0], []⟩ 8 (by kernel_rfl) (by kernel_rfl) (by kernel_rfl) (by kernel_rfl)) ?_
 intro W base args ds gs before hval0 hW hcnd hsz _
 have hval : ∀ (j : Nat) t v, Try.f3.params[j]? = some t → args[j]? = some v → Value.okWide Try.prog W .any base t v := hval0
 have hW' := hW
 obtain ⟨p, q, hA0, hV, rfl, hfz, hnd⟩ := hW
 have hA : DataW.TrodAll enc Try.prog W 0 (fun _ => true) true Try.f3.params.toList args.toList ds p := hA0
 rw [Try.params3] at hA hval
 obtain ⟨v0, vs0, d0, ds0, p0, q0, hargs, rfl, rfl, h0, r0⟩ := trodAll_cons hA
 obtain ⟨v1, vs1, d1, ds1, p1, q1, rfl, rfl, rfl, h1, r1⟩ := trodAll_cons r0
 obtain ⟨rfl, rfl, rfl⟩ := trodAll_nil r1
 obtain rfl : args = #[v0, v1] := by cases args; simp_all
 obtain ⟨rfl, rfl⟩ := trodVars_none hV
 have k0 := h0
 have lt0 : ∀ x ∈ p0, x.block < W.heap.size := by obtain ⟨m, hm⟩ := k0; exact DataW.trod_lt m _ _ _ hm
 have k1 := h1
 have lt1 : ∀ x ∈ p1, x.block < W.heap.size := by obtain ⟨m, hm⟩ := k1; exact DataW.trod_lt m _ _ _ hm
 obtain ⟨P0, M0, A0, c0, mod0, rfl, wf0⟩ := get_F (light_of hsz (j := 0) rfl rfl) (hval 0 24 v0 rfl rfl) h0
 obtain ⟨A1, c1, xs1, w1⟩ := get_ISw Try.underlying22 Try.underlying3 (by kernel_rfl) (by kernel_rfl) (light_of hsz (j := 1) rfl rfl) (hval 1 22 v1 rfl rfl) h1
 obtain rfl := w1.val
 clear hA0 hval0
 have hlaw := law_FactorByDegrees P0 M0 A0 c0 mod0 wf0.2 A1 c1 xs1 w1.short
 have hsat : ∀ ch ∈ [ro A0 (ints mod0), ro A1 (ints xs1)], ch.sat W := fun ch hc => by
  simp only [List.mem_cons, List.not_mem_nil, or_false] at hc
  rcases hc with rfl | rfl
  ·exact wf0.1
  ·exact w1.sat
 refine (hlaw.run W hsat).mono fun e W' ⟨v, Fo, he, bel, hv, _⟩ => ?_
 obtain ⟨rfl, _⟩ := hv
 subst he
 exact ⟨_, rfl, _, _, _, [], _, [], hW', trodAll_mk1 (shut_bool Try.underlying4 _), (trodAll_cons_mk (Below.trod laidOut (by kernel_rfl) (of_decide_eq_true (by kernel_rfl)) k0 bel lt0) (trodAll_cons_mk (Below.trod laidOut (by kernel_rfl) (of_decide_eq_true (by kernel_rfl)) k1 bel lt1) trodAll_mk0)), rfl, bel.frame _, fun h => by cases h⟩
theorem jp1 : (Rows.factorByDegreesRow.wf (OpenSpec.ofChange Rows.factorByDegreesSpec) && laidOutB Try.prog && mapsRowed Try.prog && Try.f3.params.all (Try.prog.readableRec ·) && namedTie Try.prog Rows.factorByDegreesRow.named Rows.factorByDegreesSpec.vars && (Rows.factorByDegreesRow.stops == []) && (Try.prog.stops == []) && (Rows.factorByDegreesRow.knobs == []) && (Try.prog.stopKnobs == [])) = true := by kernel_rfl
theorem jp2 : (Rows.factorByDegreesRow.inPlace == Try.prog.inPlace 3) = true := by kernel_rfl
theorem jp3 : (Rows.factorByDegreesRow.unfollowed == Try.prog.unfollowed 3) = true := by kernel_rfl
theorem jp4 : (Rows.factorByDegreesRow.recurses == Try.prog.recurses 3) = true := by kernel_rfl
theorem jp5 : (Rows.factorByDegreesRow.named == Try.prog.varsNamed 3) = true := by kernel_rfl
theorem jp6 : (Rows.factorByDegreesRow.maps == (Try.f3.params.toList ++ Rows.factorByDegreesSpec.plain.varTypes Try.prog).any (Try.prog.mapsRec ·)) = true := by kernel_rfl
theorem jp7 : (Rows.factorByDegreesRow.ifaces == (Try.f3.params.toList ++ Rows.factorByDegreesSpec.plain.varTypes Try.prog).any (Try.prog.ifacesRec ·)) = true := by kernel_rfl
theorem jp8 : (Rows.factorByDegreesRow.mapsOut == Try.prog.mapsAmong Try.f3.resultTypes.toList) = true := by kernel_rfl
theorem jp9 : (Rows.factorByDegreesRow.loops == (Try.f3.params.toList ++ Rows.factorByDegreesSpec.plain.varTypes Try.prog).any (Try.prog.loopsFrom ·)) = true := by kernel_rfl
theorem jp10 : (Rows.factorByDegreesRow.wideKeys == (Try.f3.params.toList ++ Rows.factorByDegreesSpec.plain.varTypes Try.prog ++ Try.f3.resultTypes.toList).any (Try.prog.wideKeysFrom ·)) = true := by kernel_rfl
theorem jp11 : Rows.factorByDegreesSpec.vars.all (Try.prog.varReadable ·) = true := by kernel_rfl
theorem jp12 : Try.f3.resultTypes.all (fun t => Try.prog.readableRec t && decide (t < Try.prog.types.size)) = true := by kernel_rfl
theorem jp13 : (Rows.factorByDegreesRow.ifacesOut == Try.f3.resultTypes.toList.any (Try.prog.ifacesRec ·)) = true := by kernel_rfl
theorem jp14 : (Rows.factorByDegreesRow.loopsOut == Try.f3.resultTypes.toList.any (Try.prog.loopsFrom ·)) = true := by kernel_rfl
theorem jp16 : Rows.factorByDegreesRow.shortTexts.isNone = true := by kernel_rfl
theorem jp21 : (Rows.factorByDegreesRow.kinds == (if Rows.factorByDegreesRow.domain.isEmpty then [] else Try.f3.params.toList.map fun t => match Try.prog.underlying t with | some (.int k) => some k | _ => none)) = true := by kernel_rfl
theorem jp22 : (Rows.factorByDegreesRow.pinned == Rows.factorByDegreesRow.pinnedBy) = true := by kernel_rfl
theorem jp23 : (Rows.factorByDegreesRow.veiled == (Try.f3.params.toList ++ Rows.factorByDegreesSpec.plain.varTypes Try.prog ++ Try.f3.resultTypes.toList).any (Try.prog.veiledRec ·)) = true := by kernel_rfl
theorem jp24 : Rows.factorByDegreesRow.veiledFits Try.prog Try.f3.params.toList (Try.f3.params.toList ++ Rows.factorByDegreesSpec.plain.varTypes Try.prog ++ Try.f3.resultTypes.toList) = true := by kernel_rfl
theorem inst : Try.f3.isInstance Try.prog Rows.factorByDegreesRow.origin Rows.factorByDegreesRow.targs := of_decide_eq_true (by kernel_rfl)
theorem wrap : Try.f3.isWrapper Try.prog Rows.factorByDegreesRow.wrapper Rows.factorByDegreesRow.mainSum := by unfold Func.isWrapper; first | (rw [if_pos (by decide +kernel)]; kernel_rfl) | (rw [if_neg (by decide +kernel)]; exact ⟨rfl, rfl⟩)
theorem named : Try.prog.funcNamed Rows.factorByDegreesRow.func = some 3 := by kernel_rfl
theorem joined : joinedFacts Try.prog 3 Try.f3 Rows.factorByDegreesSpec Rows.factorByDegreesRow = true :=
 joined_of jp1 jp2 jp3 jp4 jp5 jp6 jp7 jp8 jp9 jp10 jp11 jp12 jp13 jp14 Facts.f15 jp16 Facts.f17 Facts.f18 Facts.f19 Facts.f20 jp21 jp22 jp23 jp24
theorem proved : Rows.FactorByDegreesSaid :=
 OpenClaim.holds_of_wide 3 Try.f3 rfl rfl rfl rfl rfl rfl rfl ⟨rfl, rfl, rfl, rfl, rfl⟩ rfl rfl rfl rfl rfl named Try.func3 joined inst wrap
  (fun os started H enc _ => lifted os started H enc)
end lawFactorByDegrees
end Go.Proofs.Ytbhoeaijpnjgdaa

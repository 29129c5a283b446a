/-
  FACTORDIVIDES, PART 9 OF 9. One sentence: the texts behind the law FactorDivides, put together.
  Conditions: each theorem's own, written out in it.
-/
import Derived.Test.YtbhoeaijpnjgdaaK8
set_option linter.unusedSimpArgs false
set_option linter.unusedVariables false
set_option linter.unusedSectionVars false
set_option maxRecDepth 100000
namespace Go.Proofs.Ytbhoeaijpnjgdaa
open Go.ChangeShapes Go.WideShapes Go.ChangeAt Go.RowKit
namespace lawFactorDivides
theorem own : ownKnob Try.prog.godebug = none := by kernel_rfl
theorem laidOut : laidOutB Try.prog = true := by kernel_rfl
set_option maxRecDepth 100000 in
theorem lifted (os : Os) (started : os.Started) (H : Type) (enc : TypeId × Value → H) :
  ReturnsInHanded {} Try.checked os 8 .any (Rows.factorDividesSpec.pre6 enc Try.prog Try.f8 Rows.factorDividesRow.domain false) (Rows.factorDividesSpec.post enc Try.prog Try.f8 false true false false) := by
 refine returnsInHanded_of_change_sized (C := Try.checked) own started (by kernel_rfl) Try.func8
  (ChangeSpec.witness6 (enc := enc) (C := Try.checked) false ⟨#[], #[.agg #[.int .i64 0, .int .i64 0, .slice none 0 0], .slice none 0 0, .slice none 0 0], []⟩ 8 (by kernel_rfl) (by kernel_rfl) (by kernel_rfl) (by kernel_rfl)) ?_
 intro W base args ds gs before hval0 hW hcnd hsz _
 have hval : ∀ (j : Nat) t v, Try.f8.params[j]? = some t → args[j]? = some v → Value.okWide Try.prog W .any base t v := hval0
 have hW' := hW
 obtain ⟨p, q, hA0, hV, rfl, hfz, hnd⟩ := hW
 have hA : DataW.TrodAll enc Try.prog W 0 (fun _ => true) true Try.f8.params.toList args.toList ds p := hA0
 rw [Try.params8] at hA hval
 obtain ⟨v0, vs0, d0, ds0, p0, q0, hargs, rfl, rfl, h0, r0⟩ := trodAll_cons hA
 obtain ⟨v1, vs1, d1, ds1, p1, q1, rfl, rfl, rfl, h1, r1⟩ := trodAll_cons r0
 obtain ⟨v2, vs2, d2, ds2, p2, q2, rfl, rfl, rfl, h2, r2⟩ := trodAll_cons r1
 obtain ⟨rfl, rfl, rfl⟩ := trodAll_nil r2
 obtain rfl : args = #[v0, v1, v2] := by cases args; simp_all
 obtain ⟨rfl, rfl⟩ := trodVars_none hV
 have k0 := h0
 have lt0 : ∀ x ∈ p0, x.block < W.heap.size := by obtain ⟨m, hm⟩ := k0; exact DataW.trod_lt m _ _ _ hm
 have k1 := h1
 have lt1 : ∀ x ∈ p1, x.block < W.heap.size := by obtain ⟨m, hm⟩ := k1; exact DataW.trod_lt m _ _ _ hm
 have k2 := h2
 have lt2 : ∀ x ∈ p2, x.block < W.heap.size := by obtain ⟨m, hm⟩ := k2; exact DataW.trod_lt m _ _ _ hm
 obtain ⟨P0, M0, A0, c0, mod0, rfl, wf0⟩ := get_F (light_of hsz (j := 0) rfl rfl) (hval 0 24 v0 rfl rfl) h0
 obtain ⟨A1, c1, xs1, w1⟩ := get_ISw Try.underlying22 Try.underlying3 (by kernel_rfl) (by kernel_rfl) (light_of hsz (j := 1) rfl rfl) (hval 1 22 v1 rfl rfl) h1
 obtain rfl := w1.val
 obtain ⟨A2, c2, xs2, w2⟩ := get_ISw Try.underlying22 Try.underlying3 (by kernel_rfl) (by kernel_rfl) (light_of hsz (j := 2) rfl rfl) (hval 2 22 v2 rfl rfl) h2
 obtain rfl := w2.val
 clear hA0 hval0
 have hlaw := law_FactorDivides P0 M0 A0 c0 mod0 wf0.2 A1 c1 xs1 w1.short A2 c2 xs2 w2.short
 have hsat : ∀ ch ∈ [ro A0 (ints mod0), ro A1 (ints xs1), ro A2 (ints xs2)], ch.sat W := fun ch hc => by
  simp only [List.mem_cons, List.not_mem_nil, or_false] at hc
  rcases hc with rfl | rfl | rfl
  ·exact wf0.1
  ·exact w1.sat
  ·exact w2.sat
 refine (hlaw.run W hsat).mono fun e W' ⟨v, Fo, he, bel, hv, _⟩ => ?_
 obtain ⟨rfl, _⟩ := hv
 subst he
 exact ⟨_, rfl, _, _, _, [], _, [], hW', trodAll_mk1 (shut_bool Try.underlying4 _), (trodAll_cons_mk (Below.trod laidOut (by kernel_rfl) (of_decide_eq_true (by kernel_rfl)) k0 bel lt0) (trodAll_cons_mk (Below.trod laidOut (by kernel_rfl) (of_decide_eq_true (by kernel_rfl)) k1 bel lt1) (trodAll_cons_mk (Below.trod laidOut (by kernel_rfl) (of_decide_eq_true (by kernel_rfl)) k2 bel lt2) trodAll_mk0))), rfl, bel.frame _, fun h => by cases h⟩
theorem jp1 : (Rows.factorDividesRow.wf (OpenSpec.ofChange Rows.factorDividesSpec) && laidOutB Try.prog && mapsRowed Try.prog && Try.f8.params.all (Try.prog.readableRec ·) && namedTie Try.prog Rows.factorDividesRow.named Rows.factorDividesSpec.vars && (Rows.factorDividesRow.stops == []) && (Try.prog.stops == []) && (Rows.factorDividesRow.knobs == []) && (Try.prog.stopKnobs == [])) = true := by kernel_rfl
theorem jp2 : (Rows.factorDividesRow.inPlace == Try.prog.inPlace 8) = true := by kernel_rfl
theorem jp3 : (Rows.factorDividesRow.unfollowed == Try.prog.unfollowed 8) = true := by kernel_rfl
theorem jp4 : (Rows.factorDividesRow.recurses == Try.prog.recurses 8) = true := by kernel_rfl
theorem jp5 : (Rows.factorDividesRow.named == Try.prog.varsNamed 8) = true := by kernel_rfl
theorem jp6 : (Rows.factorDividesRow.maps == (Try.f8.params.toList ++ Rows.factorDividesSpec.plain.varTypes Try.prog).any (Try.prog.mapsRec ·)) = true := by kernel_rfl
theorem jp7 : (Rows.factorDividesRow.ifaces == (Try.f8.params.toList ++ Rows.factorDividesSpec.plain.varTypes Try.prog).any (Try.prog.ifacesRec ·)) = true := by kernel_rfl
theorem jp8 : (Rows.factorDividesRow.mapsOut == Try.prog.mapsAmong Try.f8.resultTypes.toList) = true := by kernel_rfl
theorem jp9 : (Rows.factorDividesRow.loops == (Try.f8.params.toList ++ Rows.factorDividesSpec.plain.varTypes Try.prog).any (Try.prog.loopsFrom ·)) = true := by kernel_rfl
theorem jp10 : (Rows.factorDividesRow.wideKeys == (Try.f8.params.toList ++ Rows.factorDividesSpec.plain.varTypes Try.prog ++ Try.f8.resultTypes.toList).any (Try.prog.wideKeysFrom ·)) = true := by kernel_rfl
theorem jp11 : Rows.factorDividesSpec.vars.all (Try.prog.varReadable ·) = true := by kernel_rfl
theorem jp12 : Try.f8.resultTypes.all (fun t => Try.prog.readableRec t && decide (t < Try.prog.types.size)) = true := by kernel_rfl
theorem jp13 : (Rows.factorDividesRow.ifacesOut == Try.f8.resultTypes.toList.any (Try.prog.ifacesRec ·)) = true := by kernel_rfl
theorem jp14 : (Rows.factorDividesRow.loopsOut == Try.f8.resultTypes.toList.any (Try.prog.loopsFrom ·)) = true := by kernel_rfl
theorem jp16 : Rows.factorDividesRow.shortTexts.isNone = true := by kernel_rfl
theorem jp21 : (Rows.factorDividesRow.kinds == (if Rows.factorDividesRow.domain.isEmpty then [] else Try.f8.params.toList.map fun t => match Try.prog.underlying t with | some (.int k) => some k | _ => none)) = true := by kernel_rfl
theorem jp22 : (Rows.factorDividesRow.pinned == Rows.factorDividesRow.pinnedBy) = true := by kernel_rfl
theorem jp23 : (Rows.factorDividesRow.veiled == (Try.f8.params.toList ++ Rows.factorDividesSpec.plain.varTypes Try.prog ++ Try.f8.resultTypes.toList).any (Try.prog.veiledRec ·)) = true := by kernel_rfl
theorem jp24 : Rows.factorDividesRow.veiledFits Try.prog Try.f8.params.toList (Try.f8.params.toList ++ Rows.factorDividesSpec.plain.varTypes Try.prog ++ Try.f8.resultTypes.toList) = true := by kernel_rfl
theorem inst : Try.f8.isInstance Try.prog Rows.factorDividesRow.origin Rows.factorDividesRow.targs := of_decide_eq_true (by kernel_rfl)
theorem wrap : Try.f8.isWrapper Try.prog Rows.factorDividesRow.wrapper Rows.factorDividesRow.mainSum := by unfold Func.isWrapper; first | (rw [if_pos (by decide +kernel)]; kernel_rfl) | (rw [if_neg (by decide +kernel)]; exact ⟨rfl, rfl⟩)
theorem named : Try.prog.funcNamed Rows.factorDividesRow.func = some 8 := by kernel_rfl
theorem joined : joinedFacts Try.prog 8 Try.f8 Rows.factorDividesSpec Rows.factorDividesRow = true :=
 joined_of jp1 jp2 jp3 jp4 jp5 jp6 jp7 jp8 jp9 jp10 jp11 jp12 jp13 jp14 Facts.f15 jp16 Facts.f17 Facts.f18 Facts.f19 Facts.f20 jp21 jp22 jp23 jp24
theorem proved : Rows.FactorDividesSaid :=
 OpenClaim.holds_of_wide 8 Try.f8 rfl rfl rfl rfl rfl rfl rfl ⟨rfl, rfl, rfl, rfl, rfl⟩ rfl rfl rfl rfl rfl named Try.func8 joined inst wrap
  (fun os started H enc _ => lifted os started H enc)
end lawFactorDivides
end Go.Proofs.Ytbhoeaijpnjgdaa

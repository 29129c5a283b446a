/-
  CYCLICDIVIDES, PART 10 OF 10. One sentence: the texts behind the law CyclicDivides, put together.
  Conditions: each theorem's own, written out in it.
-/
import Derived.Test.YtdkahdehodopoaaGreatK9
set_option linter.unusedSimpArgs false
set_option linter.unusedVariables false
set_option linter.unusedSectionVars false
set_option maxRecDepth 100000
namespace Go.Proofs.YtdkahdehodopoaaGreat
open Go.ChangeShapes Go.WideShapes Go.ChangeAt Go.RowKit
namespace lawCyclicDivides
theorem own : ownKnob Tryz.prog.godebug = none := by kernel_rfl
theorem laidOut : laidOutB Tryz.prog = true := by kernel_rfl
set_option maxRecDepth 100000 in
theorem lifted (os : Os) (started : os.Started) (H : Type) (enc : TypeId × Value → H) :
  ReturnsInHanded {} Tryz.checked os 3 .any (Rows.cyclicDividesSpec.pre6 enc Tryz.prog Tryz.f3 Rows.cyclicDividesRow.domain false) (Rows.cyclicDividesSpec.post enc Tryz.prog Tryz.f3 false true false false) := by
 refine returnsInHanded_of_change_sized (C := Tryz.checked) own started (by kernel_rfl) Tryz.func3
  (ChangeSpec.witness6 (enc := enc) (C := Tryz.checked) false ⟨#[], #[.agg #[.int .i64 0, .int .i64 0, .slice none 0 0, .int .i64 0, .slice none 0 0]], []⟩ 8 (by kernel_rfl) (by kernel_rfl) (by kernel_rfl) (by kernel_rfl)) ?_
 intro W base args ds gs before hval0 hW hcnd hsz _
 have hval : ∀ (j : Nat) t v, Tryz.f3.params[j]? = some t → args[j]? = some v → Value.okWide Tryz.prog W .any base t v := hval0
 have hW' := hW
 obtain ⟨p, q, hA0, hV, rfl, hfz, hnd⟩ := hW
 have hA : DataW.TrodAll enc Tryz.prog W 0 (fun _ => true) true Tryz.f3.params.toList args.toList ds p := hA0
 rw [Tryz.params3] at hA hval
 obtain ⟨v0, vs0, d0, ds0, p0, q0, hargs, rfl, rfl, h0, r0⟩ := trodAll_cons hA
 obtain ⟨rfl, rfl, rfl⟩ := trodAll_nil r0
 obtain rfl : args = #[v0] := by cases args; simp_all
 obtain ⟨rfl, rfl⟩ := trodVars_none hV
 have k0 := h0
 have lt0 : ∀ x ∈ p0, x.block < W.heap.size := by obtain ⟨m, hm⟩ := k0; exact DataW.trod_lt m _ _ _ hm
 obtain ⟨P0, M0, A0, c0, mod0, N0, G0, kc0, gen0, rfl, wc0⟩ := get_Code (light_of hsz (j := 0) rfl rfl) (hval 0 27 v0 rfl rfl) h0
 clear hA0 hval0
 have hlaw := law_CyclicDivides P0 M0 A0 c0 mod0 wc0.1.2 N0 G0 gen0.length kc0 gen0 rfl wc0.2.2.1 wc0.2.2.2.1
 have hsat : ∀ ch ∈ [ro A0 (ints mod0), ro G0 (hdrs gen0), rowsR gen0], ch.sat W := fun ch hc => by
  simp only [List.mem_cons, List.not_mem_nil, or_false] at hc
  rcases hc with rfl | rfl | rfl
  ·exact wc0.1.1
  ·exact wc0.2.1.1
  ·exact wc0.2.1.2
 refine (hlaw.run W hsat).mono fun e W' ⟨v, Fo, he, bel, hv, _⟩ => ?_
 obtain ⟨rfl, _⟩ := hv
 subst he
 exact ⟨_, rfl, _, _, _, [], _, [], hW', trodAll_mk1 (shut_bool Tryz.underlying4 _), (trodAll_cons_mk (Below.trod laidOut (by kernel_rfl) (of_decide_eq_true (by kernel_rfl)) k0 bel lt0) trodAll_mk0), rfl, bel.frame _, fun h => by cases h⟩
theorem jp1 : (Rows.cyclicDividesRow.wf (OpenSpec.ofChange Rows.cyclicDividesSpec) && laidOutB Tryz.prog && mapsRowed Tryz.prog && Tryz.f3.params.all (Tryz.prog.readableRec ·) && namedTie Tryz.prog Rows.cyclicDividesRow.named Rows.cyclicDividesSpec.vars && (Rows.cyclicDividesRow.stops == []) && (Tryz.prog.stops == []) && (Rows.cyclicDividesRow.knobs == []) && (Tryz.prog.stopKnobs == [])) = true := by kernel_rfl
theorem jp2 : (Rows.cyclicDividesRow.inPlace == Tryz.prog.inPlace 3) = true := by kernel_rfl
theorem jp3 : (Rows.cyclicDividesRow.unfollowed == Tryz.prog.unfollowed 3) = true := by kernel_rfl
theorem jp4 : (Rows.cyclicDividesRow.recurses == Tryz.prog.recurses 3) = true := by kernel_rfl
theorem jp5 : (Rows.cyclicDividesRow.named == Tryz.prog.varsNamed 3) = true := by kernel_rfl
theorem jp6 : (Rows.cyclicDividesRow.maps == (Tryz.f3.params.toList ++ Rows.cyclicDividesSpec.plain.varTypes Tryz.prog).any (Tryz.prog.mapsRec ·)) = true := by kernel_rfl
theorem jp7 : (Rows.cyclicDividesRow.ifaces == (Tryz.f3.params.toList ++ Rows.cyclicDividesSpec.plain.varTypes Tryz.prog).any (Tryz.prog.ifacesRec ·)) = true := by kernel_rfl
theorem jp8 : (Rows.cyclicDividesRow.mapsOut == Tryz.prog.mapsAmong Tryz.f3.resultTypes.toList) = true := by kernel_rfl
theorem jp9 : (Rows.cyclicDividesRow.loops == (Tryz.f3.params.toList ++ Rows.cyclicDividesSpec.plain.varTypes Tryz.prog).any (Tryz.prog.loopsFrom ·)) = true := by kernel_rfl
theorem jp10 : (Rows.cyclicDividesRow.wideKeys == (Tryz.f3.params.toList ++ Rows.cyclicDividesSpec.plain.varTypes Tryz.prog ++ Tryz.f3.resultTypes.toList).any (Tryz.prog.wideKeysFrom ·)) = true := by kernel_rfl
theorem jp11 : Rows.cyclicDividesSpec.vars.all (Tryz.prog.varReadable ·) = true := by kernel_rfl
theorem jp12 : Tryz.f3.resultTypes.all (fun t => Tryz.prog.readableRec t && decide (t < Tryz.prog.types.size)) = true := by kernel_rfl
theorem jp13 : (Rows.cyclicDividesRow.ifacesOut == Tryz.f3.resultTypes.toList.any (Tryz.prog.ifacesRec ·)) = true := by kernel_rfl
theorem jp14 : (Rows.cyclicDividesRow.loopsOut == Tryz.f3.resultTypes.toList.any (Tryz.prog.loopsFrom ·)) = true := by kernel_rfl
theorem jp16 : Rows.cyclicDividesRow.shortTexts.isNone = true := by kernel_rfl
theorem jp21 : (Rows.cyclicDividesRow.kinds == (if Rows.cyclicDividesRow.domain.isEmpty then [] else Tryz.f3.params.toList.map fun t => match Tryz.prog.underlying t with | some (.int k) => some k | _ => none)) = true := by kernel_rfl
theorem jp22 : (Rows.cyclicDividesRow.pinned == Rows.cyclicDividesRow.pinnedBy) = true := by kernel_rfl
theorem jp23 : (Rows.cyclicDividesRow.veiled == (Tryz.f3.params.toList ++ Rows.cyclicDividesSpec.plain.varTypes Tryz.prog ++ Tryz.f3.resultTypes.toList).any (Tryz.prog.veiledRec ·)) = true := by kernel_rfl
theorem jp24 : Rows.cyclicDividesRow.veiledFits Tryz.prog Tryz.f3.params.toList (Tryz.f3.params.toList ++ Rows.cyclicDividesSpec.plain.varTypes Tryz.prog ++ Tryz.f3.resultTypes.toList) = true := by kernel_rfl
theorem inst : Tryz.f3.isInstance Tryz.prog Rows.cyclicDividesRow.origin Rows.cyclicDividesRow.targs := of_decide_eq_true (by kernel_rfl)
theorem wrap : Tryz.f3.isWrapper Tryz.prog Rows.cyclicDividesRow.wrapper Rows.cyclicDividesRow.mainSum := by unfold Func.isWrapper; first | (rw [if_pos (by decide +kernel)]; kernel_rfl) | (rw [if_neg (by decide +kernel)]; exact ⟨rfl, rfl⟩)
theorem named : Tryz.prog.funcNamed Rows.cyclicDividesRow.func = some 3 := by kernel_rfl
theorem joined : joinedFacts Tryz.prog 3 Tryz.f3 Rows.cyclicDividesSpec Rows.cyclicDividesRow = true :=
 joined_of jp1 jp2 jp3 jp4 jp5 jp6 jp7 jp8 jp9 jp10 jp11 jp12 jp13 jp14 Facts.f15 jp16 Facts.f17 Facts.f18 Facts.f19 Facts.f20 jp21 jp22 jp23 jp24
theorem proved : Rows.CyclicDividesSaid :=
 OpenClaim.holds_of_wide 3 Tryz.f3 rfl rfl rfl rfl rfl rfl rfl ⟨rfl, rfl, rfl, rfl, rfl⟩ rfl rfl rfl rfl rfl named Tryz.func3 joined inst wrap
  (fun os started H enc _ => lifted os started H enc)
end lawCyclicDivides
end Go.Proofs.YtdkahdehodopoaaGreat

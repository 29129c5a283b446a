/-
  FACTORTESTS, PART 9 OF 9. One sentence: the texts behind the law FactorTests, put together.
  Conditions: each theorem's own, written out in it.
-/
import Derived.Test.YtbhoeaijpnjgdaaGreatK8
set_option linter.unusedSimpArgs false
set_option linter.unusedVariables false
set_option linter.unusedSectionVars false
set_option maxRecDepth 100000
namespace Go.Proofs.YtbhoeaijpnjgdaaGreat
open Go.ChangeShapes Go.WideShapes Go.ChangeAt Go.RowKit
namespace lawFactorTests
theorem own : ownKnob Tryz.prog.godebug = none := by kernel_rfl
theorem laidOut : laidOutB Tryz.prog = true := by kernel_rfl
set_option maxRecDepth 100000 in
theorem lifted (os : Os) (started : os.Started) (H : Type) (enc : TypeId × Value → H) :
  ReturnsInHanded {} Tryz.checked os 6 .any (Rows.factorTestsSpec.pre6 enc Tryz.prog Tryz.f6 Rows.factorTestsRow.domain false) (Rows.factorTestsSpec.post enc Tryz.prog Tryz.f6 false true false false) := by
 refine returnsInHanded_of_change_sized (C := Tryz.checked) own started (by kernel_rfl) Tryz.func6
  (ChangeSpec.witness6 (enc := enc) (C := Tryz.checked) false ⟨#[], #[.agg #[.int .i64 0, .int .i64 0, .slice none 0 0], .slice none 0 0], []⟩ 8 (by kernel_rfl) (by kernel_rfl) (by kernel_rfl) (by kernel_rfl)) ?_
 intro W base args ds gs before hval0 hW hcnd hsz _
 have hval : ∀ (j : Nat) t v, Tryz.f6.params[j]? = some t → args[j]? = some v → Value.okWide Tryz.prog W .any base t v := hval0
 have hW' := hW
 obtain ⟨p, q, hA0, hV, rfl, hfz, hnd⟩ := hW
 have hA : DataW.TrodAll enc Tryz.prog W 0 (fun _ => true) true Tryz.f6.params.toList args.toList ds p := hA0
 rw [Tryz.params6] at hA hval
 obtain ⟨v0, vs0, d0, ds0, p0, q0, hargs, rfl, rfl, h0, r0⟩ := trodAll_cons hA
 obtain ⟨v1, vs1, d1, ds1, p1, q1, rfl, rfl, rfl, h1, r1⟩ := trodAll_cons r0
 obtain ⟨rfl, rfl, rfl⟩ := trodAll_nil r1
 obtain rfl : args = #[v0, v1] := by cases args; simp_all
 obtain ⟨rfl, rfl⟩ := trodVars_none hV
 have k0 := h0
 have lt0 : ∀ x ∈ p0, x.block < W.heap.size := by obtain ⟨m, hm⟩ := k0; exact DataW.trod_lt m _ _ _ hm
 have k1 := h1
 have lt1 : ∀ x ∈ p1, x.block < W.heap.size := by obtain ⟨m, hm⟩ := k1; exact DataW.trod_lt m _ _ _ hm
 obtain ⟨P0, M0, A0, c0, mod0, rfl, wf0⟩ := get_F (light_of hsz (j := 0) rfl rfl) (hval 0 24 v0 rfl rfl) h0
 obtain ⟨A1, c1, xs1, w1⟩ := get_ISw Tryz.underlying22 Tryz.underlying3 (by kernel_rfl) (by kernel_rfl) (light_of hsz (j := 1) rfl rfl) (hval 1 22 v1 rfl rfl) h1
 obtain rfl := w1.val
 clear hA0 hval0
 have hlaw := law_FactorTests P0 M0 A0 c0 mod0 wf0.2 A1 c1 xs1 w1.short
 have hsat : ∀ ch ∈ [ro A0 (ints mod0), ro A1 (ints xs1)], ch.sat W := fun ch hc => by
  simp only [List.mem_cons, List.not_mem_nil, or_false] at hc
  rcases hc with rfl | rfl
  ·exact wf0.1
  ·exact w1.sat
 refine (hlaw.run W hsat).mono fun e W' ⟨v, Fo, he, bel, hv, _⟩ => ?_
 obtain ⟨rfl, _⟩ := hv
 subst he
 exact ⟨_, rfl, _, _, _, [], _, [], hW', trodAll_mk1 (shut_bool Tryz.underlying4 _), (trodAll_cons_mk (Below.trod laidOut (by kernel_rfl) (of_decide_eq_true (by kernel_rfl)) k0 bel lt0) (trodAll_cons_mk (Below.trod laidOut (by kernel_rfl) (of_decide_eq_true (by kernel_rfl)) k1 bel lt1) trodAll_mk0)), rfl, bel.frame _, fun h => by cases h⟩
theorem jp1 : (Rows.factorTestsRow.wf (OpenSpec.ofChange Rows.factorTestsSpec) && laidOutB Tryz.prog && mapsRowed Tryz.prog && Tryz.f6.params.all (Tryz.prog.readableRec ·) && namedTie Tryz.prog Rows.factorTestsRow.named Rows.factorTestsSpec.vars && (Rows.factorTestsRow.stops == []) && (Tryz.prog.stops == []) && (Rows.factorTestsRow.knobs == []) && (Tryz.prog.stopKnobs == [])) = true := by kernel_rfl
theorem jp2 : (Rows.factorTestsRow.inPlace == Tryz.prog.inPlace 6) = true := by kernel_rfl
theorem jp3 : (Rows.factorTestsRow.unfollowed == Tryz.prog.unfollowed 6) = true := by kernel_rfl
theorem jp4 : (Rows.factorTestsRow.recurses == Tryz.prog.recurses 6) = true := by kernel_rfl
theorem jp5 : (Rows.factorTestsRow.named == Tryz.prog.varsNamed 6) = true := by kernel_rfl
theorem jp6 : (Rows.factorTestsRow.maps == (Tryz.f6.params.toList ++ Rows.factorTestsSpec.plain.varTypes Tryz.prog).any (Tryz.prog.mapsRec ·)) = true := by kernel_rfl
theorem jp7 : (Rows.factorTestsRow.ifaces == (Tryz.f6.params.toList ++ Rows.factorTestsSpec.plain.varTypes Tryz.prog).any (Tryz.prog.ifacesRec ·)) = true := by kernel_rfl
theorem jp8 : (Rows.factorTestsRow.mapsOut == Tryz.prog.mapsAmong Tryz.f6.resultTypes.toList) = true := by kernel_rfl
theorem jp9 : (Rows.factorTestsRow.loops == (Tryz.f6.params.toList ++ Rows.factorTestsSpec.plain.varTypes Tryz.prog).any (Tryz.prog.loopsFrom ·)) = true := by kernel_rfl
theorem jp10 : (Rows.factorTestsRow.wideKeys == (Tryz.f6.params.toList ++ Rows.factorTestsSpec.plain.varTypes Tryz.prog ++ Tryz.f6.resultTypes.toList).any (Tryz.prog.wideKeysFrom ·)) = true := by kernel_rfl
theorem jp11 : Rows.factorTestsSpec.vars.all (Tryz.prog.varReadable ·) = true := by kernel_rfl
theorem jp12 : Tryz.f6.resultTypes.all (fun t => Tryz.prog.readableRec t && decide (t < Tryz.prog.types.size)) = true := by kernel_rfl
theorem jp13 : (Rows.factorTestsRow.ifacesOut == Tryz.f6.resultTypes.toList.any (Tryz.prog.ifacesRec ·)) = true := by kernel_rfl
theorem jp14 : (Rows.factorTestsRow.loopsOut == Tryz.f6.resultTypes.toList.any (Tryz.prog.loopsFrom ·)) = true := by kernel_rfl
theorem jp16 : Rows.factorTestsRow.shortTexts.isNone = true := by kernel_rfl
theorem jp21 : (Rows.factorTestsRow.kinds == (if Rows.factorTestsRow.domain.isEmpty then [] else Tryz.f6.params.toList.map fun t => match Tryz.prog.underlying t with | some (.int k) => some k | _ => none)) = true := by kernel_rfl
theorem jp22 : (Rows.factorTestsRow.pinned == Rows.factorTestsRow.pinnedBy) = true := by kernel_rfl
theorem jp23 : (Rows.factorTestsRow.veiled == (Tryz.f6.params.toList ++ Rows.factorTestsSpec.plain.varTypes Tryz.prog ++ Tryz.f6.resultTypes.toList).any (Tryz.prog.veiledRec ·)) = true := by kernel_rfl
theorem jp24 : Rows.factorTestsRow.veiledFits Tryz.prog Tryz.f6.params.toList (Tryz.f6.params.toList ++ Rows.factorTestsSpec.plain.varTypes Tryz.prog ++ Tryz.f6.resultTypes.toList) = true := by kernel_rfl
theorem inst : Tryz.f6.isInstance Tryz.prog Rows.factorTestsRow.origin Rows.factorTestsRow.targs := of_decide_eq_true (by kernel_rfl)
theorem wrap : Tryz.f6.isWrapper Tryz.prog Rows.factorTestsRow.wrapper Rows.factorTestsRow.mainSum := by unfold Func.isWrapper; first | (rw [if_pos (by decide +kernel)]; kernel_rfl) | (rw [if_neg (by decide +kernel)]; exact ⟨rfl, rfl⟩)
theorem named : Tryz.prog.funcNamed Rows.factorTestsRow.func = some 6 := by kernel_rfl
theorem joined : joinedFacts Tryz.prog 6 Tryz.f6 Rows.factorTestsSpec Rows.factorTestsRow = true :=
 joined_of jp1 jp2 jp3 jp4 jp5 jp6 jp7 jp8 jp9 jp10 jp11 jp12 jp13 jp14 Facts.f15 jp16 Facts.f17 Facts.f18 Facts.f19 Facts.f20 jp21 jp22 jp23 jp24
theorem proved : Rows.FactorTestsSaid :=
 OpenClaim.holds_of_wide 6 Tryz.f6 rfl rfl rfl rfl rfl rfl rfl ⟨rfl, rfl, rfl, rfl, rfl⟩ rfl rfl rfl rfl rfl named Tryz.func6 joined inst wrap
  (fun os started H enc _ => lifted os started H enc)
end lawFactorTests
end Go.Proofs.YtbhoeaijpnjgdaaGreat

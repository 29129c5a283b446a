/-
  FACTORCOUNTED, PART 8 OF 8. One sentence: the texts behind the law FactorCounted, put together.
  Conditions: each theorem's own, written out in it.
-/
import Derived.Test.YtdkahdehodopoaaK7
set_option linter.unusedSimpArgs false
set_option linter.unusedVariables false
set_option linter.unusedSectionVars false
set_option maxRecDepth 100000
namespace Go.Proofs.Ytdkahdehodopoaa
open Go.ChangeShapes Go.WideShapes Go.ChangeAt Go.RowKit
namespace lawFactorCounted
theorem own : ownKnob Try.prog.godebug = none := by kernel_rfl
theorem laidOut : laidOutB Try.prog = true := by kernel_rfl
set_option maxRecDepth 100000 in
theorem lifted (os : Os) (started : os.Started) (H : Type) (enc : TypeId × Value → H) :
  ReturnsInHanded {} Try.checked os 4 .any (Rows.factorCountedSpec.pre6 enc Try.prog Try.f4 Rows.factorCountedRow.domain false) (Rows.factorCountedSpec.post enc Try.prog Try.f4 false true false false) := by
 refine returnsInHanded_of_change_sized (C := Try.checked) own started (by kernel_rfl) Try.func4
  (ChangeSpec.witness6 (enc := enc) (C := Try.checked) false ⟨#[], #[.agg #[.int .i64 0, .int .i64 0, .slice none 0 0], .int .i64 0], []⟩ 8 (by kernel_rfl) (by kernel_rfl) (by kernel_rfl) (by kernel_rfl)) ?_
 intro W base args ds gs before hval0 hW hcnd hsz _
 have hval : ∀ (j : Nat) t v, Try.f4.params[j]? = some t → args[j]? = some v → Value.okWide Try.prog W .any base t v := hval0
 have hW' := hW
 obtain ⟨p, q, hA0, hV, rfl, hfz, hnd⟩ := hW
 have hA : DataW.TrodAll enc Try.prog W 0 (fun _ => true) true Try.f4.params.toList args.toList ds p := hA0
 rw [Try.params4] at hA hval
 obtain ⟨v0, vs0, d0, ds0, p0, q0, hargs, rfl, rfl, h0, r0⟩ := trodAll_cons hA
 obtain ⟨v1, vs1, d1, ds1, p1, q1, rfl, rfl, rfl, h1, r1⟩ := trodAll_cons r0
 obtain ⟨rfl, rfl, rfl⟩ := trodAll_nil r1
 obtain rfl : args = #[v0, v1] := by cases args; simp_all
 obtain ⟨rfl, rfl⟩ := trodVars_none hV
 have k0 := h0
 have lt0 : ∀ x ∈ p0, x.block < W.heap.size := by obtain ⟨m, hm⟩ := k0; exact DataW.trod_lt m _ _ _ hm
 have k1 := h1
 have lt1 : ∀ x ∈ p1, x.block < W.heap.size := by obtain ⟨m, hm⟩ := k1; exact DataW.trod_lt m _ _ _ hm
 obtain ⟨P0, M0, A0, c0, mod0, rfl, wf0⟩ := get_F (light_of hsz (j := 0) rfl rfl) (hval 0 24 v0 rfl rfl) h0
 obtain ⟨n1, rfl, fn1⟩ := get_I Try.underlying3 (hval 1 3 v1 rfl rfl) h1
 clear hA0 hval0
 have hlaw := law_FactorCounted P0 M0 A0 c0 mod0 wf0.2 n1
 have hsat : ∀ ch ∈ [ro A0 (ints mod0)], ch.sat W := fun ch hc => by
  simp only [List.mem_cons, List.not_mem_nil, or_false] at hc
  subst hc
  exact wf0.1
 refine (hlaw.run W hsat).mono fun e W' ⟨v, Fo, he, bel, hv, _⟩ => ?_
 obtain ⟨rfl, _⟩ := hv
 subst he
 exact ⟨_, rfl, _, _, _, [], _, [], hW', trodAll_mk1 (shut_bool Try.underlying4 _), (trodAll_cons_mk (Below.trod laidOut (by kernel_rfl) (of_decide_eq_true (by kernel_rfl)) k0 bel lt0) (trodAll_cons_mk (Below.trod laidOut (by kernel_rfl) (of_decide_eq_true (by kernel_rfl)) k1 bel lt1) trodAll_mk0)), rfl, bel.frame _, fun h => by cases h⟩
theorem jp1 : (Rows.factorCountedRow.wf (OpenSpec.ofChange Rows.factorCountedSpec) && laidOutB Try.prog && mapsRowed Try.prog && Try.f4.params.all (Try.prog.readableRec ·) && namedTie Try.prog Rows.factorCountedRow.named Rows.factorCountedSpec.vars && (Rows.factorCountedRow.stops == []) && (Try.prog.stops == []) && (Rows.factorCountedRow.knobs == []) && (Try.prog.stopKnobs == [])) = true := by kernel_rfl
theorem jp2 : (Rows.factorCountedRow.inPlace == Try.prog.inPlace 4) = true := by kernel_rfl
theorem jp3 : (Rows.factorCountedRow.unfollowed == Try.prog.unfollowed 4) = true := by kernel_rfl
theorem jp4 : (Rows.factorCountedRow.recurses == Try.prog.recurses 4) = true := by kernel_rfl
theorem jp5 : (Rows.factorCountedRow.named == Try.prog.varsNamed 4) = true := by kernel_rfl
theorem jp6 : (Rows.factorCountedRow.maps == (Try.f4.params.toList ++ Rows.factorCountedSpec.plain.varTypes Try.prog).any (Try.prog.mapsRec ·)) = true := by kernel_rfl
theorem jp7 : (Rows.factorCountedRow.ifaces == (Try.f4.params.toList ++ Rows.factorCountedSpec.plain.varTypes Try.prog).any (Try.prog.ifacesRec ·)) = true := by kernel_rfl
theorem jp8 : (Rows.factorCountedRow.mapsOut == Try.prog.mapsAmong Try.f4.resultTypes.toList) = true := by kernel_rfl
theorem jp9 : (Rows.factorCountedRow.loops == (Try.f4.params.toList ++ Rows.factorCountedSpec.plain.varTypes Try.prog).any (Try.prog.loopsFrom ·)) = true := by kernel_rfl
theorem jp10 : (Rows.factorCountedRow.wideKeys == (Try.f4.params.toList ++ Rows.factorCountedSpec.plain.varTypes Try.prog ++ Try.f4.resultTypes.toList).any (Try.prog.wideKeysFrom ·)) = true := by kernel_rfl
theorem jp11 : Rows.factorCountedSpec.vars.all (Try.prog.varReadable ·) = true := by kernel_rfl
theorem jp12 : Try.f4.resultTypes.all (fun t => Try.prog.readableRec t && decide (t < Try.prog.types.size)) = true := by kernel_rfl
theorem jp13 : (Rows.factorCountedRow.ifacesOut == Try.f4.resultTypes.toList.any (Try.prog.ifacesRec ·)) = true := by kernel_rfl
theorem jp14 : (Rows.factorCountedRow.loopsOut == Try.f4.resultTypes.toList.any (Try.prog.loopsFrom ·)) = true := by kernel_rfl
theorem jp16 : Rows.factorCountedRow.shortTexts.isNone = true := by kernel_rfl
theorem jp21 : (Rows.factorCountedRow.kinds == (if Rows.factorCountedRow.domain.isEmpty then [] else Try.f4.params.toList.map fun t => match Try.prog.underlying t with | some (.int k) => some k | _ => none)) = true := by kernel_rfl
theorem jp22 : (Rows.factorCountedRow.pinned == Rows.factorCountedRow.pinnedBy) = true := by kernel_rfl
theorem jp23 : (Rows.factorCountedRow.veiled == (Try.f4.params.toList ++ Rows.factorCountedSpec.plain.varTypes Try.prog ++ Try.f4.resultTypes.toList).any (Try.prog.veiledRec ·)) = true := by kernel_rfl
theorem jp24 : Rows.factorCountedRow.veiledFits Try.prog Try.f4.params.toList (Try.f4.params.toList ++ Rows.factorCountedSpec.plain.varTypes Try.prog ++ Try.f4.resultTypes.toList) = true := by kernel_rfl
theorem inst : Try.f4.isInstance Try.prog Rows.factorCountedRow.origin Rows.factorCountedRow.targs := of_decide_eq_true (by kernel_rfl)
theorem wrap : Try.f4.isWrapper Try.prog Rows.factorCountedRow.wrapper Rows.factorCountedRow.mainSum := by unfold Func.isWrapper; first | (rw [if_pos (by decide +kernel)]; kernel_rfl) | (rw [if_neg (by decide +kernel)]; exact ⟨rfl, rfl⟩)
theorem named : Try.prog.funcNamed Rows.factorCountedRow.func = some 4 := by kernel_rfl
theorem joined : joinedFacts Try.prog 4 Try.f4 Rows.factorCountedSpec Rows.factorCountedRow = true :=
 joined_of jp1 jp2 jp3 jp4 jp5 jp6 jp7 jp8 jp9 jp10 jp11 jp12 jp13 jp14 Facts.f15 jp16 Facts.f17 Facts.f18 Facts.f19 Facts.f20 jp21 jp22 jp23 jp24
theorem proved : Rows.FactorCountedSaid :=
 OpenClaim.holds_of_wide 4 Try.f4 rfl rfl rfl rfl rfl rfl rfl ⟨rfl, rfl, rfl, rfl, rfl⟩ rfl rfl rfl rfl rfl named Try.func4 joined inst wrap
  (fun os started H enc _ => lifted os started H enc)
end lawFactorCounted
end Go.Proofs.Ytdkahdehodopoaa

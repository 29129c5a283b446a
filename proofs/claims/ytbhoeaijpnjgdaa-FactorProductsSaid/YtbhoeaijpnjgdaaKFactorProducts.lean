/-
  FACTORPRODUCTS, PART 7 OF 7. One sentence: the texts behind the law FactorProducts, put together.
  Conditions: each theorem's own, written out in it.
-/
import Derived.Test.YtbhoeaijpnjgdaaK6
set_option linter.unusedSimpArgs false
set_option linter.unusedVariables false
set_option linter.unusedSectionVars false
set_option maxRecDepth 100000
namespace Go.Proofs.Ytbhoeaijpnjgdaa
open Go.ChangeShapes Go.WideShapes Go.ChangeAt Go.RowKit
namespace lawFactorProducts
theorem own : ownKnob Try.prog.godebug = none := by kernel_rfl
theorem laidOut : laidOutB Try.prog = true := by kernel_rfl
set_option maxRecDepth 100000 in
theorem lifted (os : Os) (started : os.Started) (H : Type) (enc : TypeId × Value → H) :
  ReturnsInHanded {} Try.checked os 4 .any (Rows.factorProductsSpec.pre6 enc Try.prog Try.f4 Rows.factorProductsRow.domain false) (Rows.factorProductsSpec.post enc Try.prog Try.f4 false true false false) := by
 refine returnsInHanded_of_change_sized (C := Try.checked) own started (by kernel_rfl) Try.func4
  (ChangeSpec.witness6 (enc := enc) (C := Try.checked) false ⟨#[], #[.agg #[.int .i64 0, .int .i64 0, .slice none 0 0, .int .i64 0, .slice none 0 0]], []⟩ 8 (by kernel_rfl) (by kernel_rfl) (by kernel_rfl) (by kernel_rfl)) ?_
 intro W base args ds gs before hval0 hW hcnd hsz _
 have hval : ∀ (j : Nat) t v, Try.f4.params[j]? = some t → args[j]? = some v → Value.okWide Try.prog W .any base t v := hval0
 have hW' := hW
 obtain ⟨p, q, hA0, hV, rfl, hfz, hnd⟩ := hW
 have hA : DataW.TrodAll enc Try.prog W 0 (fun _ => true) true Try.f4.params.toList args.toList ds p := hA0
 rw [Try.params4] at hA hval
 obtain ⟨v0, vs0, d0, ds0, p0, q0, hargs, rfl, rfl, h0, r0⟩ := trodAll_cons hA
 obtain ⟨rfl, rfl, rfl⟩ := trodAll_nil r0
 obtain rfl : args = #[v0] := by cases args; simp_all
 obtain ⟨rfl, rfl⟩ := trodVars_none hV
 have k0 := h0
 have lt0 : ∀ x ∈ p0, x.block < W.heap.size := by obtain ⟨m, hm⟩ := k0; exact DataW.trod_lt m _ _ _ hm
 obtain ⟨P0, M0, A0, c0, mod0, L0, X0, x0, fs0, rfl, wp0⟩ := get_Parts (light_of hsz (j := 0) rfl rfl) (hval 0 40 v0 rfl rfl) h0
 clear hA0 hval0
 have hlaw := law_FactorProducts P0 M0 A0 c0 mod0 wp0.1.2 L0 X0 _ x0 fs0 rfl wp0.2.2.2.1 wp0.2.2.2.2
 have hsat : ∀ ch ∈ [ro A0 (ints mod0), ro X0 (prs (fcs fs0)), rowsR (rws fs0)], ch.sat W := fun ch hc => by
  simp only [List.mem_cons, List.not_mem_nil, or_false] at hc
  rcases hc with rfl | rfl | rfl
  ·exact wp0.1.1
  ·exact wp0.2.1
  ·exact wp0.2.2.1
 refine (hlaw.run W hsat).mono fun e W' ⟨v, Fo, he, bel, hv, _⟩ => ?_
 obtain ⟨rfl, _⟩ := hv
 subst he
 exact ⟨_, rfl, _, _, _, [], _, [], hW', trodAll_mk1 (shut_bool Try.underlying4 _), (trodAll_cons_mk (Below.trod laidOut (by kernel_rfl) (of_decide_eq_true (by kernel_rfl)) k0 bel lt0) trodAll_mk0), rfl, bel.frame _, fun h => by cases h⟩
theorem jp1 : (Rows.factorProductsRow.wf (OpenSpec.ofChange Rows.factorProductsSpec) && laidOutB Try.prog && mapsRowed Try.prog && Try.f4.params.all (Try.prog.readableRec ·) && namedTie Try.prog Rows.factorProductsRow.named Rows.factorProductsSpec.vars && (Rows.factorProductsRow.stops == []) && (Try.prog.stops == []) && (Rows.factorProductsRow.knobs == []) && (Try.prog.stopKnobs == [])) = true := by kernel_rfl
theorem jp2 : (Rows.factorProductsRow.inPlace == Try.prog.inPlace 4) = true := by kernel_rfl
theorem jp3 : (Rows.factorProductsRow.unfollowed == Try.prog.unfollowed 4) = true := by kernel_rfl
theorem jp4 : (Rows.factorProductsRow.recurses == Try.prog.recurses 4) = true := by kernel_rfl
theorem jp5 : (Rows.factorProductsRow.named == Try.prog.varsNamed 4) = true := by kernel_rfl
theorem jp6 : (Rows.factorProductsRow.maps == (Try.f4.params.toList ++ Rows.factorProductsSpec.plain.varTypes Try.prog).any (Try.prog.mapsRec ·)) = true := by kernel_rfl
theorem jp7 : (Rows.factorProductsRow.ifaces == (Try.f4.params.toList ++ Rows.factorProductsSpec.plain.varTypes Try.prog).any (Try.prog.ifacesRec ·)) = true := by kernel_rfl
theorem jp8 : (Rows.factorProductsRow.mapsOut == Try.prog.mapsAmong Try.f4.resultTypes.toList) = true := by kernel_rfl
theorem jp9 : (Rows.factorProductsRow.loops == (Try.f4.params.toList ++ Rows.factorProductsSpec.plain.varTypes Try.prog).any (Try.prog.loopsFrom ·)) = true := by kernel_rfl
theorem jp10 : (Rows.factorProductsRow.wideKeys == (Try.f4.params.toList ++ Rows.factorProductsSpec.plain.varTypes Try.prog ++ Try.f4.resultTypes.toList).any (Try.prog.wideKeysFrom ·)) = true := by kernel_rfl
theorem jp11 : Rows.factorProductsSpec.vars.all (Try.prog.varReadable ·) = true := by kernel_rfl
theorem jp12 : Try.f4.resultTypes.all (fun t => Try.prog.readableRec t && decide (t < Try.prog.types.size)) = true := by kernel_rfl
theorem jp13 : (Rows.factorProductsRow.ifacesOut == Try.f4.resultTypes.toList.any (Try.prog.ifacesRec ·)) = true := by kernel_rfl
theorem jp14 : (Rows.factorProductsRow.loopsOut == Try.f4.resultTypes.toList.any (Try.prog.loopsFrom ·)) = true := by kernel_rfl
theorem jp16 : Rows.factorProductsRow.shortTexts.isNone = true := by kernel_rfl
theorem jp21 : (Rows.factorProductsRow.kinds == (if Rows.factorProductsRow.domain.isEmpty then [] else Try.f4.params.toList.map fun t => match Try.prog.underlying t with | some (.int k) => some k | _ => none)) = true := by kernel_rfl
theorem jp22 : (Rows.factorProductsRow.pinned == Rows.factorProductsRow.pinnedBy) = true := by kernel_rfl
theorem jp23 : (Rows.factorProductsRow.veiled == (Try.f4.params.toList ++ Rows.factorProductsSpec.plain.varTypes Try.prog ++ Try.f4.resultTypes.toList).any (Try.prog.veiledRec ·)) = true := by kernel_rfl
theorem jp24 : Rows.factorProductsRow.veiledFits Try.prog Try.f4.params.toList (Try.f4.params.toList ++ Rows.factorProductsSpec.plain.varTypes Try.prog ++ Try.f4.resultTypes.toList) = true := by kernel_rfl
theorem inst : Try.f4.isInstance Try.prog Rows.factorProductsRow.origin Rows.factorProductsRow.targs := of_decide_eq_true (by kernel_rfl)
theorem wrap : Try.f4.isWrapper Try.prog Rows.factorProductsRow.wrapper Rows.factorProductsRow.mainSum := by unfold Func.isWrapper; first | (rw [if_pos (by decide +kernel)]; kernel_rfl) | (rw [if_neg (by decide +kernel)]; exact ⟨rfl, rfl⟩)
theorem named : Try.prog.funcNamed Rows.factorProductsRow.func = some 4 := by kernel_rfl
theorem joined : joinedFacts Try.prog 4 Try.f4 Rows.factorProductsSpec Rows.factorProductsRow = true :=
 joined_of jp1 jp2 jp3 jp4 jp5 jp6 jp7 jp8 jp9 jp10 jp11 jp12 jp13 jp14 Facts.f15 jp16 Facts.f17 Facts.f18 Facts.f19 Facts.f20 jp21 jp22 jp23 jp24
theorem proved : Rows.FactorProductsSaid :=
 OpenClaim.holds_of_wide 4 Try.f4 rfl rfl rfl rfl rfl rfl rfl ⟨rfl, rfl, rfl, rfl, rfl⟩ rfl rfl rfl rfl rfl named Try.func4 joined inst wrap
  (fun os started H enc _ => lifted os started H enc)
end lawFactorProducts
end Go.Proofs.Ytbhoeaijpnjgdaa

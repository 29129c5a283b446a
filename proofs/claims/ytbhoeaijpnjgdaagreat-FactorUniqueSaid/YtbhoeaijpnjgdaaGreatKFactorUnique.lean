/-
  FACTORUNIQUE, PART 9 OF 9. One sentence: the texts behind the law FactorUnique, put together.
  Conditions: each theorem's own, written out in it.
-/
import Derived.Test.YtbhoeaijpnjgdaaGreatK8
set_option linter.unusedSimpArgs false
set_option linter.unusedVariables false
set_option linter.unusedSectionVars false
set_option maxRecDepth 100000
namespace Go.Proofs.YtbhoeaijpnjgdaaGreat
open Go.ChangeShapes Go.WideShapes Go.ChangeAt Go.RowKit
namespace lawFactorUnique
theorem own : ownKnob Tryz.prog.godebug = none := by kernel_rfl
theorem laidOut : laidOutB Tryz.prog = true := by kernel_rfl
set_option maxRecDepth 100000 in
theorem lifted (os : Os) (started : os.Started) (H : Type) (enc : TypeId × Value → H) :
  ReturnsInHanded {} Tryz.checked os 5 .any (Rows.factorUniqueSpec.pre6 enc Tryz.prog Tryz.f5 Rows.factorUniqueRow.domain false) (Rows.factorUniqueSpec.post enc Tryz.prog Tryz.f5 false true false false) := by
 refine returnsInHanded_of_change_sized (C := Tryz.checked) own started (by kernel_rfl) Tryz.func5
  (ChangeSpec.witness6 (enc := enc) (C := Tryz.checked) false ⟨#[], #[.agg #[.int .i64 0, .int .i64 0, .slice none 0 0, .int .i64 0, .slice none 0 0]], []⟩ 8 (by kernel_rfl) (by kernel_rfl) (by kernel_rfl) (by kernel_rfl)) ?_
 intro W base args ds gs before hval0 hW hcnd hsz _
 have hval : ∀ (j : Nat) t v, Tryz.f5.params[j]? = some t → args[j]? = some v → Value.okWide Tryz.prog W .any base t v := hval0
 have hW' := hW
 obtain ⟨p, q, hA0, hV, rfl, hfz, hnd⟩ := hW
 have hA : DataW.TrodAll enc Tryz.prog W 0 (fun _ => true) true Tryz.f5.params.toList args.toList ds p := hA0
 rw [Tryz.params5] at hA hval
 obtain ⟨v0, vs0, d0, ds0, p0, q0, hargs, rfl, rfl, h0, r0⟩ := trodAll_cons hA
 obtain ⟨rfl, rfl, rfl⟩ := trodAll_nil r0
 obtain rfl : args = #[v0] := by cases args; simp_all
 obtain ⟨rfl, rfl⟩ := trodVars_none hV
 have k0 := h0
 have lt0 : ∀ x ∈ p0, x.block < W.heap.size := by obtain ⟨m, hm⟩ := k0; exact DataW.trod_lt m _ _ _ hm
 obtain ⟨P0, M0, A0, c0, mod0, L0, X0, x0, fs0, rfl, wp0⟩ := get_Parts (light_of hsz (j := 0) rfl rfl) (hval 0 47 v0 rfl rfl) h0
 clear hA0 hval0
 have hlaw := law_FactorUnique P0 M0 A0 c0 mod0 wp0.1.2 L0 X0 _ x0 fs0 rfl wp0.2.2.2.1 wp0.2.2.2.2
 have hsat : ∀ ch ∈ [ro A0 (ints mod0), ro X0 (prs (fcs fs0)), rowsR (rws fs0)], ch.sat W := fun ch hc => by
  simp only [List.mem_cons, List.not_mem_nil, or_false] at hc
  rcases hc with rfl | rfl | rfl
  ·exact wp0.1.1
  ·exact wp0.2.1
  ·exact wp0.2.2.1
 refine (hlaw.run W hsat).mono fun e W' ⟨v, Fo, he, bel, hv, _⟩ => ?_
 obtain ⟨rfl, _⟩ := hv
 subst he
 exact ⟨_, rfl, _, _, _, [], _, [], hW', trodAll_mk1 (shut_bool Tryz.underlying4 _), (trodAll_cons_mk (Below.trod laidOut (by kernel_rfl) (of_decide_eq_true (by kernel_rfl)) k0 bel lt0) trodAll_mk0), rfl, bel.frame _, fun h => by cases h⟩
theorem jp1 : (Rows.factorUniqueRow.wf (OpenSpec.ofChange Rows.factorUniqueSpec) && laidOutB Tryz.prog && mapsRowed Tryz.prog && Tryz.f5.params.all (Tryz.prog.readableRec ·) && namedTie Tryz.prog Rows.factorUniqueRow.named Rows.factorUniqueSpec.vars && (Rows.factorUniqueRow.stops == []) && (Tryz.prog.stops == []) && (Rows.factorUniqueRow.knobs == []) && (Tryz.prog.stopKnobs == [])) = true := by kernel_rfl
theorem jp2 : (Rows.factorUniqueRow.inPlace == Tryz.prog.inPlace 5) = true := by kernel_rfl
theorem jp3 : (Rows.factorUniqueRow.unfollowed == Tryz.prog.unfollowed 5) = true := by kernel_rfl
theorem jp4 : (Rows.factorUniqueRow.recurses == Tryz.prog.recurses 5) = true := by kernel_rfl
theorem jp5 : (Rows.factorUniqueRow.named == Tryz.prog.varsNamed 5) = true := by kernel_rfl
theorem jp6 : (Rows.factorUniqueRow.maps == (Tryz.f5.params.toList ++ Rows.factorUniqueSpec.plain.varTypes Tryz.prog).any (Tryz.prog.mapsRec ·)) = true := by kernel_rfl
theorem jp7 : (Rows.factorUniqueRow.ifaces == (Tryz.f5.params.toList ++ Rows.factorUniqueSpec.plain.varTypes Tryz.prog).any (Tryz.prog.ifacesRec ·)) = true := by kernel_rfl
theorem jp8 : (Rows.factorUniqueRow.mapsOut == Tryz.prog.mapsAmong Tryz.f5.resultTypes.toList) = true := by kernel_rfl
theorem jp9 : (Rows.factorUniqueRow.loops == (Tryz.f5.params.toList ++ Rows.factorUniqueSpec.plain.varTypes Tryz.prog).any (Tryz.prog.loopsFrom ·)) = true := by kernel_rfl
theorem jp10 : (Rows.factorUniqueRow.wideKeys == (Tryz.f5.params.toList ++ Rows.factorUniqueSpec.plain.varTypes Tryz.prog ++ Tryz.f5.resultTypes.toList).any (Tryz.prog.wideKeysFrom ·)) = true := by kernel_rfl
theorem jp11 : Rows.factorUniqueSpec.vars.all (Tryz.prog.varReadable ·) = true := by kernel_rfl
theorem jp12 : Tryz.f5.resultTypes.all (fun t => Tryz.prog.readableRec t && decide (t < Tryz.prog.types.size)) = true := by kernel_rfl
theorem jp13 : (Rows.factorUniqueRow.ifacesOut == Tryz.f5.resultTypes.toList.any (Tryz.prog.ifacesRec ·)) = true := by kernel_rfl
theorem jp14 : (Rows.factorUniqueRow.loopsOut == Tryz.f5.resultTypes.toList.any (Tryz.prog.loopsFrom ·)) = true := by kernel_rfl
theorem jp16 : Rows.factorUniqueRow.shortTexts.isNone = true := by kernel_rfl
theorem jp21 : (Rows.factorUniqueRow.kinds == (if Rows.factorUniqueRow.domain.isEmpty then [] else Tryz.f5.params.toList.map fun t => match Tryz.prog.underlying t with | some (.int k) => some k | _ => none)) = true := by kernel_rfl
theorem jp22 : (Rows.factorUniqueRow.pinned == Rows.factorUniqueRow.pinnedBy) = true := by kernel_rfl
theorem jp23 : (Rows.factorUniqueRow.veiled == (Tryz.f5.params.toList ++ Rows.factorUniqueSpec.plain.varTypes Tryz.prog ++ Tryz.f5.resultTypes.toList).any (Tryz.prog.veiledRec ·)) = true := by kernel_rfl
theorem jp24 : Rows.factorUniqueRow.veiledFits Tryz.prog Tryz.f5.params.toList (Tryz.f5.params.toList ++ Rows.factorUniqueSpec.plain.varTypes Tryz.prog ++ Tryz.f5.resultTypes.toList) = true := by kernel_rfl
theorem inst : Tryz.f5.isInstance Tryz.prog Rows.factorUniqueRow.origin Rows.factorUniqueRow.targs := of_decide_eq_true (by kernel_rfl)
theorem wrap : Tryz.f5.isWrapper Tryz.prog Rows.factorUniqueRow.wrapper Rows.factorUniqueRow.mainSum := by unfold Func.isWrapper; first | (rw [if_pos (by decide +kernel)]; kernel_rfl) | (rw [if_neg (by decide +kernel)]; exact ⟨rfl, rfl⟩)
theorem named : Tryz.prog.funcNamed Rows.factorUniqueRow.func = some 5 := by kernel_rfl
theorem joined : joinedFacts Tryz.prog 5 Tryz.f5 Rows.factorUniqueSpec Rows.factorUniqueRow = true :=
 joined_of jp1 jp2 jp3 jp4 jp5 jp6 jp7 jp8 jp9 jp10 jp11 jp12 jp13 jp14 Facts.f15 jp16 Facts.f17 Facts.f18 Facts.f19 Facts.f20 jp21 jp22 jp23 jp24
theorem proved : Rows.FactorUniqueSaid :=
 OpenClaim.holds_of_wide 5 Tryz.f5 rfl rfl rfl rfl rfl rfl rfl ⟨rfl, rfl, rfl, rfl, rfl⟩ rfl rfl rfl rfl rfl named Tryz.func5 joined inst wrap
  (fun os started H enc _ => lifted os started H enc)
end lawFactorUnique
end Go.Proofs.YtbhoeaijpnjgdaaGreat

/-
  BCHDESIGNED, PART 9 OF 9. One sentence: the texts behind the law BchDesigned, put together.
  Conditions: each theorem's own, written out in it.
-/
import Derived.Test.YtgnmcoegdogfgaaGreatK8
set_option linter.unusedSimpArgs false
set_option linter.unusedVariables false
set_option linter.unusedSectionVars false
set_option linter.unusedSimpArgs false
set_option linter.unusedVariables false
set_option maxRecDepth 100000
namespace Go.Proofs.YtgnmcoegdogfgaaGreat
open Go.ChangeShapes Go.WideShapes Go.ChangeAt Go.RowKit
namespace lawBchDesigned
theorem own : ownKnob Tryz.prog.godebug = none := by kernel_rfl
theorem laidOut : laidOutB Tryz.prog = true := by kernel_rfl
set_option maxRecDepth 100000 in
theorem lifted (os : Os) (started : os.Started) (H : Type) (enc : TypeId × Value → H) :
    ReturnsInHanded {} Tryz.checked os 5 .any (Rows.bchDesignedSpec.pre6 enc Tryz.prog Tryz.f5 Rows.bchDesignedRow.domain false) (Rows.bchDesignedSpec.post enc Tryz.prog Tryz.f5 false true false false) := by
  refine returnsInHanded_of_change_sized (C := Tryz.checked) own started (by kernel_rfl) Tryz.func5
    (ChangeSpec.witness6 (enc := enc) (C := Tryz.checked) false ⟨#[], #[.agg #[.int .i64 0, .int .i64 0, .slice none 0 0], .agg #[.int .i64 0, .int .i64 0, .slice none 0 0], .int .i64 0, .int .i64 0, .int .i64 0, .slice none 0 0], []⟩ 8 (by kernel_rfl) (by kernel_rfl) (by kernel_rfl) (by kernel_rfl)) ?_
  intro W base args ds gs before hval0 hW hcnd hsz _
  have hval : ∀ (j : Nat) t v, Tryz.f5.params[j]? = some t → args[j]? = some v → Value.okWide Tryz.prog W .any base t v := hval0
  have hW' := hW
  obtain ⟨p, q, hA0, hV, rfl, hfz, hnd⟩ := hW
  have hA : DataW.TrodAll enc Tryz.prog W 0 (fun _ => true) true Tryz.f5.params.toList args.toList ds p := hA0
  rw [Tryz.params5] at hA hval
  obtain ⟨v0, vs0, d0, ds0, p0, q0, hargs, rfl, rfl, h0, r0⟩ := trodAll_cons hA
  obtain ⟨v1, vs1, d1, ds1, p1, q1, rfl, rfl, rfl, h1, r1⟩ := trodAll_cons r0
  obtain ⟨v2, vs2, d2, ds2, p2, q2, rfl, rfl, rfl, h2, r2⟩ := trodAll_cons r1
  obtain ⟨v3, vs3, d3, ds3, p3, q3, rfl, rfl, rfl, h3, r3⟩ := trodAll_cons r2
  obtain ⟨v4, vs4, d4, ds4, p4, q4, rfl, rfl, rfl, h4, r4⟩ := trodAll_cons r3
  obtain ⟨v5, vs5, d5, ds5, p5, q5, rfl, rfl, rfl, h5, r5⟩ := trodAll_cons r4
  obtain ⟨rfl, rfl, rfl⟩ := trodAll_nil r5
  obtain rfl : args = #[v0, v1, v2, v3, v4, v5] := by cases args; simp_all
  obtain ⟨rfl, rfl⟩ := trodVars_none hV
  have k0 := h0
  have lt0 : ∀ x ∈ p0, x.block < W.heap.size := by obtain ⟨m, hm⟩ := k0; exact DataW.trod_lt m _ _ _ hm
  have k1 := h1
  have lt1 : ∀ x ∈ p1, x.block < W.heap.size := by obtain ⟨m, hm⟩ := k1; exact DataW.trod_lt m _ _ _ hm
  have k2 := h2
  have lt2 : ∀ x ∈ p2, x.block < W.heap.size := by obtain ⟨m, hm⟩ := k2; exact DataW.trod_lt m _ _ _ hm
  have k3 := h3
  have lt3 : ∀ x ∈ p3, x.block < W.heap.size := by obtain ⟨m, hm⟩ := k3; exact DataW.trod_lt m _ _ _ hm
  have k4 := h4
  have lt4 : ∀ x ∈ p4, x.block < W.heap.size := by obtain ⟨m, hm⟩ := k4; exact DataW.trod_lt m _ _ _ hm
  have k5 := h5
  have lt5 : ∀ x ∈ p5, x.block < W.heap.size := by obtain ⟨m, hm⟩ := k5; exact DataW.trod_lt m _ _ _ hm
  obtain ⟨P0, M0, A0, c0, mod0, rfl, wf0⟩ := get_F (light_of hsz (j := 0) rfl rfl) (hval 0 24 v0 rfl rfl) h0
  obtain ⟨P1, M1, A1, c1, mod1, rfl, wf1⟩ := get_F (light_of hsz (j := 1) rfl rfl) (hval 1 24 v1 rfl rfl) h1
  obtain ⟨n2, rfl, fn2⟩ := get_I Tryz.underlying3 (hval 2 3 v2 rfl rfl) h2
  obtain ⟨n3, rfl, fn3⟩ := get_I Tryz.underlying3 (hval 3 3 v3 rfl rfl) h3
  obtain ⟨n4, rfl, fn4⟩ := get_I Tryz.underlying3 (hval 4 3 v4 rfl rfl) h4
  obtain ⟨A5, c5, xs5, w5⟩ := get_ISw Tryz.underlying22 Tryz.underlying3 (by kernel_rfl) (by kernel_rfl) (light_of hsz (j := 5) rfl rfl) (hval 5 22 v5 rfl rfl) h5
  obtain rfl := w5.val
  clear hA0 hval0
  have hlaw := law_BchDesigned P0 M0 A0 c0 mod0 P1 M1 A1 c1 mod1 wf0.2 wf1.2 n2 n3 n4 A5 xs5.length c5 xs5 rfl w5.short
  have hsat : ∀ ch ∈ [ro A0 (ints mod0), ro A1 (ints mod1), ro A5 (ints xs5)], ch.sat W := fun ch hc => by
    simp only [List.mem_cons, List.not_mem_nil, or_false] at hc
    rcases hc with rfl | rfl | rfl
    · exact wf0.1
    · exact wf1.1
    · exact w5.sat
  refine (hlaw.run W hsat).mono fun e W' ⟨v, Fo, he, bel, hv, _⟩ => ?_
  obtain ⟨rfl, _⟩ := hv
  subst he
  exact ⟨_, rfl, _, _, _, [], _, [], hW', trodAll_mk1 (shut_bool Tryz.underlying4 _), (trodAll_cons_mk (Below.trod laidOut (by kernel_rfl) (of_decide_eq_true (by kernel_rfl)) k0 bel lt0) (trodAll_cons_mk (Below.trod laidOut (by kernel_rfl) (of_decide_eq_true (by kernel_rfl)) k1 bel lt1) (trodAll_cons_mk (Below.trod laidOut (by kernel_rfl) (of_decide_eq_true (by kernel_rfl)) k2 bel lt2) (trodAll_cons_mk (Below.trod laidOut (by kernel_rfl) (of_decide_eq_true (by kernel_rfl)) k3 bel lt3) (trodAll_cons_mk (Below.trod laidOut (by kernel_rfl) (of_decide_eq_true (by kernel_rfl)) k4 bel lt4) (trodAll_cons_mk (Below.trod laidOut (by kernel_rfl) (of_decide_eq_true (by kernel_rfl)) k5 bel lt5) trodAll_mk0)))))), rfl, bel.frame _, fun h => by cases h⟩
theorem jp1 : (Rows.bchDesignedRow.wf (OpenSpec.ofChange Rows.bchDesignedSpec) && laidOutB Tryz.prog && mapsRowed Tryz.prog && Tryz.f5.params.all (Tryz.prog.readableRec ·) && namedTie Tryz.prog Rows.bchDesignedRow.named Rows.bchDesignedSpec.vars && (Rows.bchDesignedRow.stops == []) && (Tryz.prog.stops == []) && (Rows.bchDesignedRow.knobs == []) && (Tryz.prog.stopKnobs == [])) = true := by kernel_rfl
theorem jp2 : (Rows.bchDesignedRow.inPlace == Tryz.prog.inPlace 5) = true := by kernel_rfl
theorem jp3 : (Rows.bchDesignedRow.unfollowed == Tryz.prog.unfollowed 5) = true := by kernel_rfl
theorem jp4 : (Rows.bchDesignedRow.recurses == Tryz.prog.recurses 5) = true := by kernel_rfl
theorem jp5 : (Rows.bchDesignedRow.named == Tryz.prog.varsNamed 5) = true := by kernel_rfl
theorem jp6 : (Rows.bchDesignedRow.maps == (Tryz.f5.params.toList ++ Rows.bchDesignedSpec.plain.varTypes Tryz.prog).any (Tryz.prog.mapsRec ·)) = true := by kernel_rfl
theorem jp7 : (Rows.bchDesignedRow.ifaces == (Tryz.f5.params.toList ++ Rows.bchDesignedSpec.plain.varTypes Tryz.prog).any (Tryz.prog.ifacesRec ·)) = true := by kernel_rfl
theorem jp8 : (Rows.bchDesignedRow.mapsOut == Tryz.prog.mapsAmong Tryz.f5.resultTypes.toList) = true := by kernel_rfl
theorem jp9 : (Rows.bchDesignedRow.loops == (Tryz.f5.params.toList ++ Rows.bchDesignedSpec.plain.varTypes Tryz.prog).any (Tryz.prog.loopsFrom ·)) = true := by kernel_rfl
theorem jp10 : (Rows.bchDesignedRow.wideKeys == (Tryz.f5.params.toList ++ Rows.bchDesignedSpec.plain.varTypes Tryz.prog ++ Tryz.f5.resultTypes.toList).any (Tryz.prog.wideKeysFrom ·)) = true := by kernel_rfl
theorem jp11 : Rows.bchDesignedSpec.vars.all (Tryz.prog.varReadable ·) = true := by kernel_rfl
theorem jp12 : Tryz.f5.resultTypes.all (fun t => Tryz.prog.readableRec t && decide (t < Tryz.prog.types.size)) = true := by kernel_rfl
theorem jp13 : (Rows.bchDesignedRow.ifacesOut == Tryz.f5.resultTypes.toList.any (Tryz.prog.ifacesRec ·)) = true := by kernel_rfl
theorem jp14 : (Rows.bchDesignedRow.loopsOut == Tryz.f5.resultTypes.toList.any (Tryz.prog.loopsFrom ·)) = true := by kernel_rfl
theorem jp16 : Rows.bchDesignedRow.shortTexts.isNone = true := by kernel_rfl
theorem jp21 : (Rows.bchDesignedRow.kinds == (if Rows.bchDesignedRow.domain.isEmpty then [] else Tryz.f5.params.toList.map fun t => match Tryz.prog.underlying t with | some (.int k) => some k | _ => none)) = true := by kernel_rfl
theorem jp22 : (Rows.bchDesignedRow.pinned == Rows.bchDesignedRow.pinnedBy) = true := by kernel_rfl
theorem jp23 : (Rows.bchDesignedRow.veiled == (Tryz.f5.params.toList ++ Rows.bchDesignedSpec.plain.varTypes Tryz.prog ++ Tryz.f5.resultTypes.toList).any (Tryz.prog.veiledRec ·)) = true := by kernel_rfl
theorem jp24 : Rows.bchDesignedRow.veiledFits Tryz.prog Tryz.f5.params.toList (Tryz.f5.params.toList ++ Rows.bchDesignedSpec.plain.varTypes Tryz.prog ++ Tryz.f5.resultTypes.toList) = true := by kernel_rfl
theorem inst : Tryz.f5.isInstance Tryz.prog Rows.bchDesignedRow.origin Rows.bchDesignedRow.targs := of_decide_eq_true (by kernel_rfl)
theorem wrap : Tryz.f5.isWrapper Tryz.prog Rows.bchDesignedRow.wrapper Rows.bchDesignedRow.mainSum := by unfold Func.isWrapper; first | (rw [if_pos (by decide +kernel)]; kernel_rfl) | (rw [if_neg (by decide +kernel)]; exact ⟨rfl, rfl⟩)
theorem named : Tryz.prog.funcNamed Rows.bchDesignedRow.func = some 5 := by kernel_rfl
theorem joined : joinedFacts Tryz.prog 5 Tryz.f5 Rows.bchDesignedSpec Rows.bchDesignedRow = true :=
  joined_of jp1 jp2 jp3 jp4 jp5 jp6 jp7 jp8 jp9 jp10 jp11 jp12 jp13 jp14 Facts.f15 jp16 Facts.f17 Facts.f18 Facts.f19 Facts.f20 jp21 jp22 jp23 jp24
theorem proved : Rows.BchDesignedSaid :=
  OpenClaim.holds_of_wide 5 Tryz.f5 rfl rfl rfl rfl rfl rfl rfl ⟨rfl, rfl, rfl, rfl, rfl⟩ rfl rfl rfl rfl rfl named Tryz.func5 joined inst wrap
    (fun os started H enc _ => lifted os started H enc)
end lawBchDesigned
end Go.Proofs.YtgnmcoegdogfgaaGreat

/-
  BCHSOLOMON, PART 9 OF 9. One sentence: the texts behind the law BchSolomon, put together.
  Conditions: each theorem's own, written out in it.
-/
import Derived.Test.YtgnmcoegdogfgaaGreatK8
set_option linter.unusedSimpArgs false
set_option linter.unusedVariables false
set_option linter.unusedSectionVars false
set_option linter.unusedSimpArgs false
set_option linter.unusedVariables false
set_option maxRecDepth 100000
namespace Go.Proofs.YtgnmcoegdogfgaaGreat
open Go.ChangeShapes Go.WideShapes Go.ChangeAt Go.RowKit
namespace lawBchSolomon
theorem own : ownKnob Tryz.prog.godebug = none := by kernel_rfl
theorem laidOut : laidOutB Tryz.prog = true := by kernel_rfl
set_option maxRecDepth 100000 in
theorem lifted (os : Os) (started : os.Started) (H : Type) (enc : TypeId × Value → H) :
    ReturnsInHanded {} Tryz.checked os 6 .any (Rows.bchSolomonSpec.pre6 enc Tryz.prog Tryz.f6 Rows.bchSolomonRow.domain false) (Rows.bchSolomonSpec.post enc Tryz.prog Tryz.f6 false true false false) := by
  refine returnsInHanded_of_change_sized (C := Tryz.checked) own started (by kernel_rfl) Tryz.func6
    (ChangeSpec.witness6 (enc := enc) (C := Tryz.checked) false ⟨#[], #[.agg #[.int .i64 0, .int .i64 0, .slice none 0 0], .int .i64 0, .int .i64 0, .int .i64 0, .slice none 0 0], []⟩ 8 (by kernel_rfl) (by kernel_rfl) (by kernel_rfl) (by kernel_rfl)) ?_
  intro W base args ds gs before hval0 hW hcnd hsz _
  have hval : ∀ (j : Nat) t v, Tryz.f6.params[j]? = some t → args[j]? = some v → Value.okWide Tryz.prog W .any base t v := hval0
  have hW' := hW
  obtain ⟨p, q, hA0, hV, rfl, hfz, hnd⟩ := hW
  have hA : DataW.TrodAll enc Tryz.prog W 0 (fun _ => true) true Tryz.f6.params.toList args.toList ds p := hA0
  rw [Tryz.params6] at hA hval
  obtain ⟨v0, vs0, d0, ds0, p0, q0, hargs, rfl, rfl, h0, r0⟩ := trodAll_cons hA
  obtain ⟨v1, vs1, d1, ds1, p1, q1, rfl, rfl, rfl, h1, r1⟩ := trodAll_cons r0
  obtain ⟨v2, vs2, d2, ds2, p2, q2, rfl, rfl, rfl, h2, r2⟩ := trodAll_cons r1
  obtain ⟨v3, vs3, d3, ds3, p3, q3, rfl, rfl, rfl, h3, r3⟩ := trodAll_cons r2
  obtain ⟨v4, vs4, d4, ds4, p4, q4, rfl, rfl, rfl, h4, r4⟩ := trodAll_cons r3
  obtain ⟨rfl, rfl, rfl⟩ := trodAll_nil r4
  obtain rfl : args = #[v0, v1, v2, v3, v4] := by cases args; simp_all
  obtain ⟨rfl, rfl⟩ := trodVars_none hV
  have k0 := h0
  have lt0 : ∀ x ∈ p0, x.block < W.heap.size := by obtain ⟨m, hm⟩ := k0; exact DataW.trod_lt m _ _ _ hm
  have k1 := h1
  have lt1 : ∀ x ∈ p1, x.block < W.heap.size := by obtain ⟨m, hm⟩ := k1; exact DataW.trod_lt m _ _ _ hm
  have k2 := h2
  have lt2 : ∀ x ∈ p2, x.block < W.heap.size := by obtain ⟨m, hm⟩ := k2; exact DataW.trod_lt m _ _ _ hm
  have k3 := h3
  have lt3 : ∀ x ∈ p3, x.block < W.heap.size := by obtain ⟨m, hm⟩ := k3; exact DataW.trod_lt m _ _ _ hm
  have k4 := h4
  have lt4 : ∀ x ∈ p4, x.block < W.heap.size := by obtain ⟨m, hm⟩ := k4; exact DataW.trod_lt m _ _ _ hm
  obtain ⟨P0, M0, A0, c0, mod0, rfl, wf0⟩ := get_F (light_of hsz (j := 0) rfl rfl) (hval 0 24 v0 rfl rfl) h0
  obtain ⟨n1, rfl, fn1⟩ := get_I Tryz.underlying3 (hval 1 3 v1 rfl rfl) h1
  obtain ⟨n2, rfl, fn2⟩ := get_I Tryz.underlying3 (hval 2 3 v2 rfl rfl) h2
  obtain ⟨n3, rfl, fn3⟩ := get_I Tryz.underlying3 (hval 3 3 v3 rfl rfl) h3
  obtain ⟨A4, c4, xs4, w4⟩ := get_ISw Tryz.underlying22 Tryz.underlying3 (by kernel_rfl) (by kernel_rfl) (light_of hsz (j := 4) rfl rfl) (hval 4 22 v4 rfl rfl) h4
  obtain rfl := w4.val
  clear hA0 hval0
  have hlaw := law_BchSolomon P0 M0 A0 c0 mod0 wf0.2 n1 n2 n3 A4 xs4.length c4 xs4 rfl w4.short
  have hsat : ∀ ch ∈ [ro A0 (ints mod0), ro A4 (ints xs4)], ch.sat W := fun ch hc => by
    simp only [List.mem_cons, List.not_mem_nil, or_false] at hc
    rcases hc with rfl | rfl
    · exact wf0.1
    · exact w4.sat
  refine (hlaw.run W hsat).mono fun e W' ⟨v, Fo, he, bel, hv, _⟩ => ?_
  obtain ⟨rfl, _⟩ := hv
  subst he
  exact ⟨_, rfl, _, _, _, [], _, [], hW', trodAll_mk1 (shut_bool Tryz.underlying4 _), (trodAll_cons_mk (Below.trod laidOut (by kernel_rfl) (of_decide_eq_true (by kernel_rfl)) k0 bel lt0) (trodAll_cons_mk (Below.trod laidOut (by kernel_rfl) (of_decide_eq_true (by kernel_rfl)) k1 bel lt1) (trodAll_cons_mk (Below.trod laidOut (by kernel_rfl) (of_decide_eq_true (by kernel_rfl)) k2 bel lt2) (trodAll_cons_mk (Below.trod laidOut (by kernel_rfl) (of_decide_eq_true (by kernel_rfl)) k3 bel lt3) (trodAll_cons_mk (Below.trod laidOut (by kernel_rfl) (of_decide_eq_true (by kernel_rfl)) k4 bel lt4) trodAll_mk0))))), rfl, bel.frame _, fun h => by cases h⟩
theorem jp1 : (Rows.bchSolomonRow.wf (OpenSpec.ofChange Rows.bchSolomonSpec) && laidOutB Tryz.prog && mapsRowed Tryz.prog && Tryz.f6.params.all (Tryz.prog.readableRec ·) && namedTie Tryz.prog Rows.bchSolomonRow.named Rows.bchSolomonSpec.vars && (Rows.bchSolomonRow.stops == []) && (Tryz.prog.stops == []) && (Rows.bchSolomonRow.knobs == []) && (Tryz.prog.stopKnobs == [])) = true := by kernel_rfl
theorem jp2 : (Rows.bchSolomonRow.inPlace == Tryz.prog.inPlace 6) = true := by kernel_rfl
theorem jp3 : (Rows.bchSolomonRow.unfollowed == Tryz.prog.unfollowed 6) = true := by kernel_rfl
theorem jp4 : (Rows.bchSolomonRow.recurses == Tryz.prog.recurses 6) = true := by kernel_rfl
theorem jp5 : (Rows.bchSolomonRow.named == Tryz.prog.varsNamed 6) = true := by kernel_rfl
theorem jp6 : (Rows.bchSolomonRow.maps == (Tryz.f6.params.toList ++ Rows.bchSolomonSpec.plain.varTypes Tryz.prog).any (Tryz.prog.mapsRec ·)) = true := by kernel_rfl
theorem jp7 : (Rows.bchSolomonRow.ifaces == (Tryz.f6.params.toList ++ Rows.bchSolomonSpec.plain.varTypes Tryz.prog).any (Tryz.prog.ifacesRec ·)) = true := by kernel_rfl
theorem jp8 : (Rows.bchSolomonRow.mapsOut == Tryz.prog.mapsAmong Tryz.f6.resultTypes.toList) = true := by kernel_rfl
theorem jp9 : (Rows.bchSolomonRow.loops == (Tryz.f6.params.toList ++ Rows.bchSolomonSpec.plain.varTypes Tryz.prog).any (Tryz.prog.loopsFrom ·)) = true := by kernel_rfl
theorem jp10 : (Rows.bchSolomonRow.wideKeys == (Tryz.f6.params.toList ++ Rows.bchSolomonSpec.plain.varTypes Tryz.prog ++ Tryz.f6.resultTypes.toList).any (Tryz.prog.wideKeysFrom ·)) = true := by kernel_rfl
theorem jp11 : Rows.bchSolomonSpec.vars.all (Tryz.prog.varReadable ·) = true := by kernel_rfl
theorem jp12 : Tryz.f6.resultTypes.all (fun t => Tryz.prog.readableRec t && decide (t < Tryz.prog.types.size)) = true := by kernel_rfl
theorem jp13 : (Rows.bchSolomonRow.ifacesOut == Tryz.f6.resultTypes.toList.any (Tryz.prog.ifacesRec ·)) = true := by kernel_rfl
theorem jp14 : (Rows.bchSolomonRow.loopsOut == Tryz.f6.resultTypes.toList.any (Tryz.prog.loopsFrom ·)) = true := by kernel_rfl
theorem jp16 : Rows.bchSolomonRow.shortTexts.isNone = true := by kernel_rfl
theorem jp21 : (Rows.bchSolomonRow.kinds == (if Rows.bchSolomonRow.domain.isEmpty then [] else Tryz.f6.params.toList.map fun t => match Tryz.prog.underlying t with | some (.int k) => some k | _ => none)) = true := by kernel_rfl
theorem jp22 : (Rows.bchSolomonRow.pinned == Rows.bchSolomonRow.pinnedBy) = true := by kernel_rfl
theorem jp23 : (Rows.bchSolomonRow.veiled == (Tryz.f6.params.toList ++ Rows.bchSolomonSpec.plain.varTypes Tryz.prog ++ Tryz.f6.resultTypes.toList).any (Tryz.prog.veiledRec ·)) = true := by kernel_rfl
theorem jp24 : Rows.bchSolomonRow.veiledFits Tryz.prog Tryz.f6.params.toList (Tryz.f6.params.toList ++ Rows.bchSolomonSpec.plain.varTypes Tryz.prog ++ Tryz.f6.resultTypes.toList) = true := by kernel_rfl
theorem inst : Tryz.f6.isInstance Tryz.prog Rows.bchSolomonRow.origin Rows.bchSolomonRow.targs := of_decide_eq_true (by kernel_rfl)
theorem wrap : Tryz.f6.isWrapper Tryz.prog Rows.bchSolomonRow.wrapper Rows.bchSolomonRow.mainSum := by unfold Func.isWrapper; first | (rw [if_pos (by decide +kernel)]; kernel_rfl) | (rw [if_neg (by decide +kernel)]; exact ⟨rfl, rfl⟩)
theorem named : Tryz.prog.funcNamed Rows.bchSolomonRow.func = some 6 := by kernel_rfl
theorem joined : joinedFacts Tryz.prog 6 Tryz.f6 Rows.bchSolomonSpec Rows.bchSolomonRow = true :=
  joined_of jp1 jp2 jp3 jp4 jp5 jp6 jp7 jp8 jp9 jp10 jp11 jp12 jp13 jp14 Facts.f15 jp16 Facts.f17 Facts.f18 Facts.f19 Facts.f20 jp21 jp22 jp23 jp24
theorem proved : Rows.BchSolomonSaid :=
  OpenClaim.holds_of_wide 6 Tryz.f6 rfl rfl rfl rfl rfl rfl rfl ⟨rfl, rfl, rfl, rfl, rfl⟩ rfl rfl rfl rfl rfl named Tryz.func6 joined inst wrap
    (fun os started H enc _ => lifted os started H enc)
end lawBchSolomon
end Go.Proofs.YtgnmcoegdogfgaaGreat

/-
  CYCLICQUASI, PART 8 OF 8. One sentence: the texts behind the law CyclicQuasi, put together.
  Conditions: each theorem's own, written out in it.
-/
import Derived.Deep.CondSized
import Derived.Test.YtdkahdehodopoaaK7
set_option linter.unusedSimpArgs false
set_option linter.unusedVariables false
set_option linter.unusedSectionVars false
set_option maxRecDepth 100000
namespace Go.Proofs.Ytdkahdehodopoaa
open Go.ChangeShapes Go.WideShapes Go.ChangeAt Go.RowKit
namespace lawCyclicQuasi
theorem own : ownKnob Try.prog.godebug = none := by kernel_rfl
theorem laidOut : laidOutB Try.prog = true := by kernel_rfl
set_option maxRecDepth 100000 in
theorem lifted (os : Os) (started : os.Started) (H : Type) (enc : TypeId × Value → H) (F : Stop.Interp) :
  ReturnsInHanded {} Try.checked os 3 .any ((Rows.OpenSpec.upto Rows.cyclicQuasiSpec).pre6 enc Try.prog Try.f3 Rows.cyclicQuasiUptoRow.domain false) (((Rows.OpenSpec.upto Rows.cyclicQuasiSpec).at F).post enc Try.prog Try.f3 false true false false) := by
 refine returnsInHanded_of_cond_sized (C := Try.checked) (s := (Rows.OpenSpec.upto Rows.cyclicQuasiSpec)) (k := Rows.uptoSmall) rfl own started (by kernel_rfl) Try.func3
  (OpenSpec.witness (enc := enc) (C := Try.checked) (s := (Rows.OpenSpec.upto Rows.cyclicQuasiSpec)) (k := Rows.uptoSmall) rfl false ⟨#[], #[.agg #[.int .i64 0, .int .i64 0, .slice none 0 0], .int .i64 0, .slice none 0 0], []⟩ 8 (by kernel_rfl) (by kernel_rfl) (by kernel_rfl) (x := ([.agg [.lit (.int .i64 0), .lit (.int .i64 0), .nil], .lit (.int .i64 0), .nil], [], [])) (by kernel_rfl) rfl (by kernel_rfl)) ?_
 intro W base args ds gs before hval0 hW hcnd hk hsz _
 have hval : ∀ (j : Nat) t v, Try.f3.params[j]? = some t → args[j]? = some v → Value.okWide Try.prog W .any base t v := hval0
 have hW' := hW
 obtain ⟨p, q, hA0, hV, rfl, hfz, hnd⟩ := hW
 have hA : DataW.TrodAll enc Try.prog W 0 (fun _ => true) true Try.f3.params.toList args.toList ds p := hA0
 rw [Try.params3] at hA hval
 obtain ⟨v0, vs0, d0, ds0, p0, q0, hargs, rfl, rfl, h0, r0⟩ := trodAll_cons hA
 obtain ⟨v1, vs1, d1, ds1, p1, q1, rfl, rfl, rfl, h1, r1⟩ := trodAll_cons r0
 obtain ⟨v2, vs2, d2, ds2, p2, q2, rfl, rfl, rfl, h2, r2⟩ := trodAll_cons r1
 obtain ⟨rfl, rfl, rfl⟩ := trodAll_nil r2
 obtain rfl : args = #[v0, v1, v2] := by cases args; simp_all
 obtain ⟨rfl, rfl⟩ := trodVars_none hV
 have k0 := h0
 have lt0 : ∀ x ∈ p0, x.block < W.heap.size := by obtain ⟨m, hm⟩ := k0; exact DataW.trod_lt m _ _ _ hm
 have k1 := h1
 have lt1 : ∀ x ∈ p1, x.block < W.heap.size := by obtain ⟨m, hm⟩ := k1; exact DataW.trod_lt m _ _ _ hm
 have k2 := h2
 have lt2 : ∀ x ∈ p2, x.block < W.heap.size := by obtain ⟨m, hm⟩ := k2; exact DataW.trod_lt m _ _ _ hm
 obtain ⟨P0, M0, A0, c0, mod0, rfl, wf0⟩ := get_F (light_of hsz (j := 0) rfl rfl) (hval 0 24 v0 rfl rfl) h0
 obtain ⟨n1, rfl, fn1⟩ := get_I Try.underlying3 (hval 1 3 v1 rfl rfl) h1
 obtain ⟨A2, c2, us2, rfl, sh2, sc2, hu2, hb2⟩ := get_I3u Try.underlying25 Try.underlying26 Try.underlying22 Try.underlying3 (by kernel_rfl) (by kernel_rfl) (by kernel_rfl) (hval 2 25 v2 rfl rfl) h2
 clear hA0 hval0
 have hbk : Rows.uptoBulk d2 ≤ 1048576 := by
  have h0 : Rows.uptoBulkAll ([d0, d1, d2] ++ ([] : List (DataW H))) ≤ 1048576 := of_decide_eq_true hk
  have h1 := bulk_part (d := d2) (l := [d0, d1, d2] ++ ([] : List (DataW H))) (by simp)
  omega
 have hlaw := law_CyclicQuasi P0 M0 A0 c0 mod0 wf0.2 n1 A2 us2.length c2 us2 rfl (by omega) (fun c hc => by have := hb2 c hc; omega)
 have hsat : ∀ ch ∈ [ro A0 (ints mod0), ro A2 (cubH us2), cubR us2], ch.sat W := fun ch hc => by
  simp only [List.mem_cons, List.not_mem_nil, or_false] at hc
  rcases hc with rfl | rfl | rfl
  ·exact wf0.1
  ·exact sh2
  ·exact sc2
 refine (hlaw.run W hsat).mono fun e W' ⟨v, Fo, he, bel, hv, _⟩ => ?_
 obtain ⟨rfl, _⟩ := hv
 subst he
 exact ⟨_, rfl, _, _, _, [], _, [], hW', trodAll_mk1 (shut_bool Try.underlying4 _), (trodAll_cons_mk (Below.trod laidOut (by kernel_rfl) (of_decide_eq_true (by kernel_rfl)) k0 bel lt0) (trodAll_cons_mk (Below.trod laidOut (by kernel_rfl) (of_decide_eq_true (by kernel_rfl)) k1 bel lt1) (trodAll_cons_mk (Below.trod laidOut (by kernel_rfl) (of_decide_eq_true (by kernel_rfl)) k2 bel lt2) trodAll_mk0))), rfl, bel.frame _, fun h => by cases h⟩
theorem jp1 : (Rows.cyclicQuasiUptoRow.wf (OpenSpec.ofChange (Rows.OpenSpec.upto Rows.cyclicQuasiSpec).bare) && laidOutB Try.prog && mapsRowed Try.prog && Try.f3.params.all (Try.prog.readableRec ·) && namedTie Try.prog Rows.cyclicQuasiUptoRow.named (Rows.OpenSpec.upto Rows.cyclicQuasiSpec).bare.vars && (Rows.cyclicQuasiUptoRow.stops == []) && (Try.prog.stops == []) && (Rows.cyclicQuasiUptoRow.knobs == []) && (Try.prog.stopKnobs == [])) = true := by kernel_rfl
theorem jp2 : (Rows.cyclicQuasiUptoRow.inPlace == Try.prog.inPlace 3) = true := by kernel_rfl
theorem jp3 : (Rows.cyclicQuasiUptoRow.unfollowed == Try.prog.unfollowed 3) = true := by kernel_rfl
theorem jp4 : (Rows.cyclicQuasiUptoRow.recurses == Try.prog.recurses 3) = true := by kernel_rfl
theorem jp5 : (Rows.cyclicQuasiUptoRow.named == Try.prog.varsNamed 3) = true := by kernel_rfl
theorem jp6 : (Rows.cyclicQuasiUptoRow.maps == (Try.f3.params.toList ++ (Rows.OpenSpec.upto Rows.cyclicQuasiSpec).bare.plain.varTypes Try.prog).any (Try.prog.mapsRec ·)) = true := by kernel_rfl
theorem jp7 : (Rows.cyclicQuasiUptoRow.ifaces == (Try.f3.params.toList ++ (Rows.OpenSpec.upto Rows.cyclicQuasiSpec).bare.plain.varTypes Try.prog).any (Try.prog.ifacesRec ·)) = true := by kernel_rfl
theorem jp8 : (Rows.cyclicQuasiUptoRow.mapsOut == Try.prog.mapsAmong Try.f3.resultTypes.toList) = true := by kernel_rfl
theorem jp9 : (Rows.cyclicQuasiUptoRow.loops == (Try.f3.params.toList ++ (Rows.OpenSpec.upto Rows.cyclicQuasiSpec).bare.plain.varTypes Try.prog).any (Try.prog.loopsFrom ·)) = true := by kernel_rfl
theorem jp10 : (Rows.cyclicQuasiUptoRow.wideKeys == (Try.f3.params.toList ++ (Rows.OpenSpec.upto Rows.cyclicQuasiSpec).bare.plain.varTypes Try.prog ++ Try.f3.resultTypes.toList).any (Try.prog.wideKeysFrom ·)) = true := by kernel_rfl
theorem jp11 : (Rows.OpenSpec.upto Rows.cyclicQuasiSpec).bare.vars.all (Try.prog.varReadable ·) = true := by kernel_rfl
theorem jp12 : Try.f3.resultTypes.all (fun t => Try.prog.readableRec t && decide (t < Try.prog.types.size)) = true := by kernel_rfl
theorem jp13 : (Rows.cyclicQuasiUptoRow.ifacesOut == Try.f3.resultTypes.toList.any (Try.prog.ifacesRec ·)) = true := by kernel_rfl
theorem jp14 : (Rows.cyclicQuasiUptoRow.loopsOut == Try.f3.resultTypes.toList.any (Try.prog.loopsFrom ·)) = true := by kernel_rfl
theorem jp16 : Rows.cyclicQuasiUptoRow.shortTexts.isNone = true := by kernel_rfl
theorem jp21 : (Rows.cyclicQuasiUptoRow.kinds == (if Rows.cyclicQuasiUptoRow.domain.isEmpty then [] else Try.f3.params.toList.map fun t => match Try.prog.underlying t with | some (.int k) => some k | _ => none)) = true := by kernel_rfl
theorem jp22 : (Rows.cyclicQuasiUptoRow.pinned == Rows.cyclicQuasiUptoRow.pinnedBy) = true := by kernel_rfl
theorem jp23 : (Rows.cyclicQuasiUptoRow.veiled == (Try.f3.params.toList ++ (Rows.OpenSpec.upto Rows.cyclicQuasiSpec).bare.plain.varTypes Try.prog ++ Try.f3.resultTypes.toList).any (Try.prog.veiledRec ·)) = true := by kernel_rfl
theorem jp24 : Rows.cyclicQuasiUptoRow.veiledFits Try.prog Try.f3.params.toList (Try.f3.params.toList ++ (Rows.OpenSpec.upto Rows.cyclicQuasiSpec).bare.plain.varTypes Try.prog ++ Try.f3.resultTypes.toList) = true := by kernel_rfl
theorem inst : Try.f3.isInstance Try.prog Rows.cyclicQuasiUptoRow.origin Rows.cyclicQuasiUptoRow.targs := of_decide_eq_true (by kernel_rfl)
theorem wrap : Try.f3.isWrapper Try.prog Rows.cyclicQuasiUptoRow.wrapper Rows.cyclicQuasiUptoRow.mainSum := by unfold Func.isWrapper; first | (rw [if_pos (by decide +kernel)]; kernel_rfl) | (rw [if_neg (by decide +kernel)]; exact ⟨rfl, rfl⟩)
theorem named : Try.prog.funcNamed Rows.cyclicQuasiUptoRow.func = some 3 := by kernel_rfl
theorem joined : joinedFacts Try.prog 3 Try.f3 (Rows.OpenSpec.upto Rows.cyclicQuasiSpec).bare Rows.cyclicQuasiUptoRow = true :=
 joined_of jp1 jp2 jp3 jp4 jp5 jp6 jp7 jp8 jp9 jp10 jp11 jp12 jp13 jp14 Facts.f15 jp16 Facts.f17 Facts.f18 Facts.f19 Facts.f20 jp21 jp22 jp23 jp24
theorem proved : Rows.CyclicQuasiUptoSaid :=
 OpenClaim.holds_of_cond 3 Try.f3 rfl rfl rfl rfl rfl rfl rfl ⟨rfl, rfl, rfl, rfl, rfl⟩ rfl rfl rfl rfl rfl named Try.func3 joined inst wrap
  (fun os started H enc _ F => lifted os started H enc F)
end lawCyclicQuasi
end Go.Proofs.Ytdkahdehodopoaa

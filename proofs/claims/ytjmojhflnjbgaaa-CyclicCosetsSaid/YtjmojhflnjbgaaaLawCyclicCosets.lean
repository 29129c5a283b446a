/-
  THE LAW CyclicCosets. One sentence: whatever the input, the law returns true and the input reads as it did.
  Conditions: none.
-/
import Derived.Test.YtjmojhflnjbgaaaCosW
import Derived.Test.YtjmojhflnjbgaaaOpen
set_option linter.unusedSimpArgs false
set_option linter.unusedVariables false
set_option maxRecDepth 100000
namespace Go.Proofs.Ytjmojhflnjbgaaa
open Go.ChangeShapes Go.WideShapes Go.ChangeAt Go.RowKit

theorem cosetArgs_ok {q n : Int} (h : cosetArgs q n = 0) : 2 ≤ q ∧ q ≤ 256 ∧ 1 ≤ n ∧ n ≤ 65536 ∧ Int.gcd q n = 1 := by
  unfold cosetArgs at h
  split at h
  · omega
  · split at h
    · omega
    · omega
theorem rows_short {rs : List RowM} {q n : Int} {k : Nat} (h : rs.map (·.xs) = cosAll q n k) : rs.length ≤ k ∧ ∀ r ∈ rs, r.xs.length ≤ n.toNat := by
  refine ⟨by have := congrArg List.length h; rw [List.length_map] at this; have := cosAll_length q n k; omega, fun r hr => ?_⟩
  have h1 : r.xs ∈ cosAll q n k := by rw [← h]; exact List.mem_map.2 ⟨r, hr, rfl⟩
  obtain ⟨i, _, he⟩ := List.mem_map.1 h1
  rw [← he]; exact cosL_length q n i

theorem law_CyclicCosets_no_ent : Enters Try.prog 10 := enters_of Try.func10 (by kernel_rfl) (by kernel_rfl)
theorem law_CyclicCosets_no (q n : Int) (h : cosetArgs q n ≠ 0) :
    Pure Try.prog 10 #[.int .i64 q, .int .i64 n] [] (isV (.bool true)) := by
  refine pure_of (args := [.int .i64 q, .int .i64 n]) 48 Try.func10 rfl rfl rfl law_CyclicCosets_no_ent trivial (fun w0 => ?_)
  refine tr_seq ?_
  refine tr_region fun _ _ _ => ?_
  refine pu rfl rfl rfl rfl rfl ?_
  refine tr_seq ?_
  refine tr_seq ?_
  refine tr_region fun _ _ _ => ?_
  iterate 3 refine pu rfl rfl rfl rfl rfl ?_
  refine stg rfl rfl rfl rfl rfl (fun hb => by (have hq := hb; try simp only [zb1, zb2, zb3, zb4, zb5, zb6, zb7, zb8, zb9, zb10] at hq); exact rMove rfl rfl) ?_
  refine stg rfl rfl rfl rfl rfl (fun hb => by (have hq := hb; try simp only [zb1, zb2, zb3, zb4, zb5, zb6, zb7, zb8, zb9, zb10] at hq); exact rMove rfl rfl) ?_
  refine efg rfl rfl rfl rfl rfl (fun hb => by (have hq := hb; try simp only [zb1, zb2, zb3, zb4, zb5, zb6, zb7, zb8, zb9, zb10] at hq); exact eCallV rfl rfl rfl (ref_CosetArgs _ _) ⟨(evg rfl hb), (evg rfl hb), trivial⟩ ⟨rfl, rfl⟩) ?_
  refine stg rfl rfl rfl rfl rfl (fun hb => by (have hq := hb; try simp only [zb1, zb2, zb3, zb4, zb5, zb6, zb7, zb8, zb9, zb10] at hq); exact rEql rfl (evg rfl hb) rfl) ?_
  refine st rfl rfl rfl rfl (rAndB rfl rfl rfl rfl) ?_
  refine tr_cond_bool rfl (fun h1 => ?_) (fun h1 => ?_)
  · try simp only [zb1, zb2, zb3, zb4, zb5, zb6, zb7, zb8, zb9, zb10] at h1
    refine tr_seq ?_
    refine tr_region fun _ _ _ => ?_
    refine pu rfl rfl rfl rfl rfl ?_
    exact tr_ret ⟨trivial, _, _, rfl, ⟨rfl, rfl⟩, CSub.nil _, trivial⟩
  · try simp only [zb1, zb2, zb3, zb4, zb5, zb6, zb7, zb8, zb9, zb10] at h1
    refine tr_skip ?_
    refine tr_seq ?_
    refine tr_region fun _ _ _ => ?_
    iterate 2 refine pu rfl rfl rfl rfl rfl ?_
    refine ef rfl rfl (eCallV rfl rfl rfl (cyc_Cosets_no _ _ h) ⟨rfl, rfl, trivial⟩ ?_) 
    iterate 5 refine pu rfl rfl rfl rfl rfl ?_
    refine tr_seq ?_
    refine tr_seq ?_
    refine tr_region fun _ _ _ => ?_
    iterate 2 refine pu rfl rfl rfl rfl rfl ?_
    refine ef rfl rfl (eCallV rfl rfl rfl (ref_CosetArgs _ _) ⟨rfl, rfl, trivial⟩ ?_) 
    refine pu rfl rfl rfl rfl rfl ?_
    refine tr_cond_bool rfl (fun h4 => ?_) (fun h4 => ?_)
    · try simp only [zb1, zb2, zb3, zb4, zb5, zb6, zb7, zb8, zb9, zb10] at h4
      refine tr_seq ?_
      refine tr_region fun _ _ _ => ?_
      iterate 3 refine pu rfl rfl rfl rfl rfl ?_
      refine ef rfl rfl (eCallV rfl rfl rfl (ref_CosetArgs _ _) ⟨rfl, rfl, trivial⟩ ?_) 
      iterate 2 refine pu rfl rfl rfl rfl rfl ?_
      refine stg rfl rfl rfl rfl rfl (fun hb => by (have hq := hb; try simp only [zb1, zb2, zb3, zb4, zb5, zb6, zb7, zb8, zb9, zb10] at hq); exact rMove rfl rfl) ?_
      refine stg rfl rfl rfl rfl rfl (fun hb => by (have hq := hb; try simp only [zb1, zb2, zb3, zb4, zb5, zb6, zb7, zb8, zb9, zb10] at hq); exact rLen rfl (evg rfl hb)) ?_
      refine stg rfl rfl rfl rfl rfl (fun hb => by (have hq := hb; try simp only [zb1, zb2, zb3, zb4, zb5, zb6, zb7, zb8, zb9, zb10] at hq); exact rEql rfl (evg rfl hb) rfl) ?_
      refine st rfl rfl rfl rfl (rAndB rfl rfl rfl rfl) ?_
      refine pu rfl rfl rfl rfl rfl ?_
      exact tr_ret ⟨trivial, _, _, rfl, ⟨by simp, rfl⟩, CSub.nil _, trivial⟩
    · try simp only [zb1, zb2, zb3, zb4, zb5, zb6, zb7, zb8, zb9, zb10] at h4
      exact absurd h4 h --done

theorem law_CyclicCosets_ok_ent : Enters Try.prog 10 := enters_of Try.func10 (by kernel_rfl) (by kernel_rfl)
theorem law_CyclicCosets_ok (q n : Int) (h : cosetArgs q n = 0) :
    Pure Try.prog 10 #[.int .i64 q, .int .i64 n] [] (isV (.bool true)) := by
  obtain ⟨hq, hq2, hn, hn2, hg⟩ := cosetArgs_ok h
  refine pure_of (args := [.int .i64 q, .int .i64 n]) 48 Try.func10 rfl rfl rfl law_CyclicCosets_ok_ent trivial (fun w0 => ?_)
  refine tr_seq ?_
  refine tr_region fun _ _ _ => ?_
  refine pu rfl rfl rfl rfl rfl ?_
  refine tr_seq ?_
  refine tr_seq ?_
  refine tr_region fun _ _ _ => ?_
  iterate 3 refine pu rfl rfl rfl rfl rfl ?_
  refine stg rfl rfl rfl rfl rfl (fun hb => by (have hq := hb; try simp only [zb1, zb2, zb3, zb4, zb5, zb6, zb7, zb8, zb9, zb10] at hq); exact rMove rfl rfl) ?_
  refine stg rfl rfl rfl rfl rfl (fun hb => by (have hq := hb; try simp only [zb1, zb2, zb3, zb4, zb5, zb6, zb7, zb8, zb9, zb10] at hq); exact rMove rfl rfl) ?_
  refine efg rfl rfl rfl rfl rfl (fun hb => by (have hq := hb; try simp only [zb1, zb2, zb3, zb4, zb5, zb6, zb7, zb8, zb9, zb10] at hq); exact eCallV rfl rfl rfl (ref_CosetArgs _ _) ⟨(evg rfl hb), (evg rfl hb), trivial⟩ ⟨rfl, rfl⟩) ?_
  refine stg rfl rfl rfl rfl rfl (fun hb => by (have hq := hb; try simp only [zb1, zb2, zb3, zb4, zb5, zb6, zb7, zb8, zb9, zb10] at hq); exact rEql rfl (evg rfl hb) rfl) ?_
  refine st rfl rfl rfl rfl (rAndB rfl rfl rfl rfl) ?_
  refine tr_cond_bool rfl (fun h1 => ?_) (fun h1 => ?_)
  · try simp only [zb1, zb2, zb3, zb4, zb5, zb6, zb7, zb8, zb9, zb10] at h1
    refine tr_seq ?_
    refine tr_region fun _ _ _ => ?_
    refine pu rfl rfl rfl rfl rfl ?_
    exact tr_ret ⟨trivial, _, _, rfl, ⟨rfl, rfl⟩, CSub.nil _, trivial⟩
  · try simp only [zb1, zb2, zb3, zb4, zb5, zb6, zb7, zb8, zb9, zb10] at h1
    refine tr_skip ?_
    refine tr_seq ?_
    refine tr_region fun _ _ _ => ?_
    iterate 2 refine pu rfl rfl rfl rfl rfl ?_
    refine ef rfl rfl (eCall2 rfl rfl rfl (cyc_Cosets q n hq hq2 hn hn2 hg) ⟨rfl, rfl, trivial⟩ ?_) 
    rintro _ _ _ ⟨A3, c3, rs3, rfl, rfl, rfl, hrs⟩
    iterate 5 refine pu rfl rfl rfl rfl rfl ?_
    refine tr_seq ?_
    refine tr_seq ?_
    have hsh := rows_short hrs
    refine tr_region fun _ _ _ => ?_
    iterate 2 refine pu rfl rfl rfl rfl rfl ?_
    refine ef rfl rfl (eCallV rfl rfl rfl (ref_CosetArgs _ _) ⟨rfl, rfl, trivial⟩ ?_) 
    refine pu rfl rfl rfl rfl rfl ?_
    refine tr_cond_bool rfl (fun h4 => ?_) (fun h4 => ?_)
    · try simp only [zb1, zb2, zb3, zb4, zb5, zb6, zb7, zb8, zb9, zb10] at h4
      exact absurd h h4 --done
    · try simp only [zb1, zb2, zb3, zb4, zb5, zb6, zb7, zb8, zb9, zb10] at h4
      refine tr_skip ?_
      refine tr_seq ?_
      have hn300 : ¬ n > 300 := h1.resolve_right (fun e => e h)
      refine tr_region fun _ _ _ => ?_
      iterate 3 refine pu rfl rfl rfl rfl rfl ?_
      refine stT rfl rfl rfl (by simp; omega) rfl rfl (rMove rfl rfl) ?_
      refine stT rfl rfl rfl (by simp; omega) rfl rfl (rEql rfl rfl rfl) ?_
      refine stT rfl rfl rfl (by simp; omega) rfl rfl (rMove rfl rfl) ?_
      refine stT rfl rfl rfl (by simp) rfl rfl (rMove rfl rfl) ?_
      refine stT rfl rfl rfl (by simp) rfl rfl (rMove rfl rfl) ?_
      refine stT rfl rfl rfl (by simp) rfl rfl (rMove rfl rfl) ?_
      refine efT rfl rfl rfl (by simp) (eCall2 rfl rfl rfl (ref_Cosets q n hq hq2 hn hn2 hg) ⟨rfl, rfl, trivial⟩ ?_) 
      rintro _ _ _ ⟨A6, c6, qs, rfl, rfl, rfl, hqs⟩
      refine efT rfl rfl rfl (by simp) (eCallV rfl rfl rfl (ref_SameRows _ _ _ _ rfl _ _ _ _ rfl (by omega) (fun r hr => by have := hsh.2 r hr; omega)) ⟨rfl, rfl, trivial⟩ ?_) 
      refine stT rfl rfl rfl (by simp; omega) rfl rfl (rAndB rfl rfl rfl rfl) ?_
      refine st rfl rfl rfl rfl (rPick0 rfl rfl (by simp; omega) rfl) ?_
      refine pu rfl rfl rfl rfl rfl ?_
      exact tr_ret ⟨trivial, _, _, rfl, ⟨by simp [hrs, hqs], rfl⟩, CSub.nil _, trivial⟩

theorem law_CyclicCosets (q n : Int) : Pure Try.prog 10 #[.int .i64 q, .int .i64 n] [] (isV (.bool true)) := by
  by_cases h : cosetArgs q n = 0
  · exact law_CyclicCosets_ok q n h
  · exact law_CyclicCosets_no q n h


namespace lawCyclicCosets
theorem own : ownKnob Try.prog.godebug = none := by kernel_rfl
theorem laidOut : laidOutB Try.prog = true := by kernel_rfl
set_option maxRecDepth 100000 in
theorem lifted (os : Os) (started : os.Started) (H : Type) (enc : TypeId × Value → H) :
    ReturnsInHanded {} Try.checked os 10 .any (Rows.cyclicCosetsSpec.pre6 enc Try.prog Try.f10 Rows.cyclicCosetsRow.domain false) (Rows.cyclicCosetsSpec.post enc Try.prog Try.f10 false true false false) := by
  refine returnsInHanded_of_change_sized (C := Try.checked) own started (by kernel_rfl) Try.func10
    (ChangeSpec.witness6 (enc := enc) (C := Try.checked) false ⟨#[], #[.int .i64 0, .int .i64 0], []⟩ 8 (by kernel_rfl) (by kernel_rfl) (by kernel_rfl) (by kernel_rfl)) ?_
  intro W base args ds gs before hval0 hW hcnd hsz _
  have hval : ∀ (j : Nat) t v, Try.f10.params[j]? = some t → args[j]? = some v → Value.okWide Try.prog W .any base t v := hval0
  have hW' := hW
  obtain ⟨p, q, hA0, hV, rfl, hfz, hnd⟩ := hW
  have hA : DataW.TrodAll enc Try.prog W 0 (fun _ => true) true Try.f10.params.toList args.toList ds p := hA0
  rw [Try.params10] at hA hval
  obtain ⟨v0, vs0, d0, ds0, p0, q0, hargs, rfl, rfl, h0, r0⟩ := trodAll_cons hA
  obtain ⟨v1, vs1, d1, ds1, p1, q1, rfl, rfl, rfl, h1, r1⟩ := trodAll_cons r0
  obtain ⟨rfl, rfl, rfl⟩ := trodAll_nil r1
  obtain rfl : args = #[v0, v1] := by cases args; simp_all
  obtain ⟨rfl, rfl⟩ := trodVars_none hV
  have k0 := h0
  have lt0 : ∀ x ∈ p0, x.block < W.heap.size := by obtain ⟨m, hm⟩ := k0; exact DataW.trod_lt m _ _ _ hm
  have k1 := h1
  have lt1 : ∀ x ∈ p1, x.block < W.heap.size := by obtain ⟨m, hm⟩ := k1; exact DataW.trod_lt m _ _ _ hm
  obtain ⟨n0, rfl, fn0⟩ := get_I Try.underlying3 (hval 0 3 v0 rfl rfl) h0
  obtain ⟨n1, rfl, fn1⟩ := get_I Try.underlying3 (hval 1 3 v1 rfl rfl) h1
  clear hA0 hval0
  have hlaw := law_CyclicCosets n0 n1
  have hsat : ∀ ch ∈ ([] : List Chunk), ch.sat W := fun ch hc => by simp at hc
  refine (hlaw.run W hsat).mono fun e W' ⟨v, Fo, he, bel, hv, _⟩ => ?_
  obtain ⟨rfl, _⟩ := hv
  subst he
  exact ⟨_, rfl, _, _, _, [], _, [], hW', trodAll_mk1 (shut_bool Try.underlying4 _), (trodAll_cons_mk (Below.trod laidOut (by kernel_rfl) (of_decide_eq_true (by kernel_rfl)) k0 bel lt0) (trodAll_cons_mk (Below.trod laidOut (by kernel_rfl) (of_decide_eq_true (by kernel_rfl)) k1 bel lt1) trodAll_mk0)), rfl, bel.frame _, fun h => by cases h⟩

theorem proved : Rows.CyclicCosetsSaid :=
  OpenClaim.holds_of_wide 10 Try.f10 rfl rfl rfl rfl rfl rfl rfl ⟨rfl, rfl, rfl, rfl, rfl⟩ rfl rfl rfl rfl rfl (by kernel_rfl) Try.func10 (by kernel_rfl)
    (of_decide_eq_true (by kernel_rfl)) (by unfold Func.isWrapper; first | (rw [if_pos (by decide +kernel)]; kernel_rfl) | (rw [if_neg (by decide +kernel)]; exact ⟨rfl, rfl⟩))
    (fun os started H enc _ => lifted os started H enc)
end lawCyclicCosets

end Go.Proofs.Ytjmojhflnjbgaaa

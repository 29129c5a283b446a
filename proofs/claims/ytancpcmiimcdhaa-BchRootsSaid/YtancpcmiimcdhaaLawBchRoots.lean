/-
  THE LAW BchRoots. One sentence: whatever the input, the law returns true and the input reads as it did.
  Conditions: none.
-/
import Derived.Test.YtancpcmiimcdhaaRoot
import Derived.Test.YtancpcmiimcdhaaOpen
set_option linter.unusedSimpArgs false
set_option linter.unusedVariables false
namespace Go.Proofs.Ytancpcmiimcdhaa
open Go.ChangeShapes Go.WideShapes Go.ChangeAt Go.RowKit

theorem get_F {H : Type} {enc : TypeId × Value → H} {w : World} {b : Nat} {v : Value} {d : DataW H} {p : List MemPlace} (hw : Light Try.prog 36 d) (hv : Value.okWide Try.prog w .any b 36 v) (h : DataW.Trod enc Try.prog w 0 (fun _ => true) true 36 v d p) :
    ∃ (P M : Int) (A : Option Addr) (c : Nat) (mod : List Int), v = .agg #[.int .i64 P, .int .i64 M, .slice A mod.length c] ∧ (ro A (ints mod)).sat w ∧ mod.length ≤ 17592186044415 := by
  obtain ⟨l, rfl, h1, h2⟩ := get_FdW (by kernel_rfl) hw hv h
  have hl : l.length = 3 := h1.trans (by kernel_rfl)
  obtain ⟨n0, y0, hy0, _⟩ := h2 0 0 3 1 (by kernel_rfl)
  obtain ⟨a0, e0, _⟩ := open_I Try.underlying3 hy0
  obtain ⟨n1, y1, hy1, _⟩ := h2 1 1 3 1 (by kernel_rfl)
  obtain ⟨a1, e1, _⟩ := open_I Try.underlying3 hy1
  obtain ⟨n2, y2, hy2, hl2⟩ := h2 2 2 22 1 (by kernel_rfl)
  obtain ⟨A, c, xs, e2, _, h3, _, h4⟩ := open_ISw Try.underlying22 Try.underlying3 (by kernel_rfl) (by kernel_rfl) hl2 hy2
  match l, hl with
  | [b0, b1, b2], _ =>
    simp at e0 e1 e2
    exact ⟨a0, a1, A, c, xs, by rw [e0, e1, e2], h3, h4⟩

theorem rootArgs_no {p m : Int} {mod : List Int} (h : ¬ FldR p m mod) (n : Int) : rootArgs p m mod n = 1 := by unfold rootArgs; rw [if_pos (by rw [chkF_no h]; omega)]

theorem law_BchRoots_no_ent : Enters Try.prog 7 := enters_of Try.func7 (by kernel_rfl) (by kernel_rfl)
theorem law_BchRoots_no (p m : Int) (A : Option Addr) (c : Nat) (mod : List Int) (hl9 : mod.length ≤ 17592186044415) (n : Int) (hF : ¬ FldR p m mod) :
    Pure Try.prog 7 #[.agg #[.int .i64 p, .int .i64 m, .slice A mod.length c], .int .i64 n] [ro A (ints mod)] (isV (.bool true)) := by
  have hra := rootArgs_no hF n
  refine pure_of (args := [.agg #[.int .i64 p, .int .i64 m, .slice A mod.length c], .int .i64 n]) 35 Try.func7 rfl rfl rfl law_BchRoots_no_ent ⟨id, trivial⟩ (fun w0 => ?_)
  refine tr_seq ?_
  refine tr_region fun _ _ _ => ?_
  refine ef rfl rfl (eBox rfl rfl rfl rfl rfl (fun p0 => ?_)) 
  refine pu rfl rfl rfl rfl rfl ?_
  refine tr_seq ?_
  refine tr_region fun _ _ _ => ?_
  refine st rfl rfl rfl rfl (rLdS rfl rfl rfl) ?_
  refine pu rfl rfl rfl rfl rfl ?_
  refine ef rfl rfl (eCallV rfl rfl rfl (bch_Root_no _ _ _ _ _ (by omega) _ hF) ⟨rfl, rfl, trivial⟩ ?_) 
  iterate 5 refine pu rfl rfl rfl rfl rfl ?_
  refine tr_seq ?_
  refine tr_seq ?_
  refine tr_region fun _ _ _ => ?_
  refine st rfl rfl rfl rfl (rLdS rfl rfl rfl) ?_
  refine pu rfl rfl rfl rfl rfl ?_
  refine ef rfl rfl (eCallV rfl rfl rfl (ref_RootArgs _ _ _ _ _ (by omega) _) ⟨rfl, rfl, trivial⟩ ?_) 
  refine pu rfl rfl rfl rfl rfl ?_
  refine tr_cond_bool rfl (fun h2 => ?_) (fun h2 => ?_)
  · try simp only [zb1, zb2, zb3, zb4, zb5, zb6, zb7, zb8, zb9, zb10] at h2
    refine tr_seq ?_
    refine tr_region fun _ _ _ => ?_
    refine pu rfl rfl rfl rfl rfl ?_
    refine st rfl rfl rfl rfl (rLdS rfl rfl rfl) ?_
    refine pu rfl rfl rfl rfl rfl ?_
    refine ef rfl rfl (eCallV rfl rfl rfl (ref_RootArgs _ _ _ _ _ (by omega) _) ⟨rfl, rfl, trivial⟩ ?_) 
    iterate 2 refine pu rfl rfl rfl rfl rfl ?_
    refine stg rfl rfl rfl rfl rfl (fun hb => by (have hq := hb; try simp only [zb1, zb2, zb3, zb4, zb5, zb6, zb7, zb8, zb9, zb10] at hq); exact rMove rfl rfl) ?_
    refine stg rfl rfl rfl rfl rfl (fun hb => by (have hq := hb; try simp only [zb1, zb2, zb3, zb4, zb5, zb6, zb7, zb8, zb9, zb10] at hq); exact rEql rfl (evg rfl hb) rfl) ?_
    refine st rfl rfl rfl rfl (rAndB rfl rfl rfl rfl) ?_
    refine pu rfl rfl rfl rfl rfl ?_
    exact tr_ret ⟨trivial, _, _, rfl, ⟨by simp [hra], rfl⟩, CSub.nil _, trivial⟩
  · try simp only [zb1, zb2, zb3, zb4, zb5, zb6, zb7, zb8, zb9, zb10] at h2
    omega --done

theorem law_BchRoots_ok_ent : Enters Try.prog 7 := enters_of Try.func7 (by kernel_rfl) (by kernel_rfl)
theorem law_BchRoots_ok (p m : Int) (A : Option Addr) (c : Nat) (mod : List Int) (hl9 : mod.length ≤ 17592186044415) (n : Int) (hF : FldR p m mod) :
    Pure Try.prog 7 #[.agg #[.int .i64 p, .int .i64 m, .slice A mod.length c], .int .i64 n] [ro A (ints mod)] (isV (.bool true)) := by
  refine pure_of (args := [.agg #[.int .i64 p, .int .i64 m, .slice A mod.length c], .int .i64 n]) 35 Try.func7 rfl rfl rfl law_BchRoots_ok_ent ⟨id, trivial⟩ (fun w0 => ?_)
  refine tr_seq ?_
  refine tr_region fun _ _ _ => ?_
  refine ef rfl rfl (eBox rfl rfl rfl rfl rfl (fun p0 => ?_)) 
  refine pu rfl rfl rfl rfl rfl ?_
  refine tr_seq ?_
  refine tr_region fun _ _ _ => ?_
  refine st rfl rfl rfl rfl (rLdS rfl rfl rfl) ?_
  refine pu rfl rfl rfl rfl rfl ?_
  refine ef rfl rfl (eCallV rfl rfl rfl (bch_Root_ok _ _ _ _ _ (by omega) _ hF) ⟨rfl, rfl, trivial⟩ ?_) 
  iterate 5 refine pu rfl rfl rfl rfl rfl ?_
  refine tr_seq ?_
  refine tr_seq ?_
  refine tr_region fun _ _ _ => ?_
  refine st rfl rfl rfl rfl (rLdS rfl rfl rfl) ?_
  refine pu rfl rfl rfl rfl rfl ?_
  refine ef rfl rfl (eCallV rfl rfl rfl (ref_RootArgs _ _ _ _ _ (by omega) _) ⟨rfl, rfl, trivial⟩ ?_) 
  refine pu rfl rfl rfl rfl rfl ?_
  refine tr_cond_bool rfl (fun h2 => ?_) (fun h2 => ?_)
  · try simp only [zb1, zb2, zb3, zb4, zb5, zb6, zb7, zb8, zb9, zb10] at h2
    refine tr_seq ?_
    refine tr_region fun _ _ _ => ?_
    refine pu rfl rfl rfl rfl rfl ?_
    refine st rfl rfl rfl rfl (rLdS rfl rfl rfl) ?_
    refine pu rfl rfl rfl rfl rfl ?_
    refine ef rfl rfl (eCallV rfl rfl rfl (ref_RootArgs _ _ _ _ _ (by omega) _) ⟨rfl, rfl, trivial⟩ ?_) 
    iterate 2 refine pu rfl rfl rfl rfl rfl ?_
    refine stg rfl rfl rfl rfl rfl (fun hb => by (have hq := hb; try simp only [zb1, zb2, zb3, zb4, zb5, zb6, zb7, zb8, zb9, zb10] at hq); exact rMove rfl rfl) ?_
    refine stg rfl rfl rfl rfl rfl (fun hb => by (have hq := hb; try simp only [zb1, zb2, zb3, zb4, zb5, zb6, zb7, zb8, zb9, zb10] at hq); exact rEql rfl (evg rfl hb) rfl) ?_
    refine st rfl rfl rfl rfl (rAndB rfl rfl rfl rfl) ?_
    refine pu rfl rfl rfl rfl rfl ?_
    exact tr_ret ⟨trivial, _, _, rfl, ⟨by simp [*], rfl⟩, CSub.nil _, trivial⟩
  · try simp only [zb1, zb2, zb3, zb4, zb5, zb6, zb7, zb8, zb9, zb10] at h2
    refine tr_skip ?_
    refine tr_seq ?_
    refine tr_region fun _ _ _ => ?_
    iterate 3 refine pu rfl rfl rfl rfl rfl ?_
    refine stg rfl rfl rfl rfl rfl (fun hb => by (have hq := hb; try simp only [zb1, zb2, zb3, zb4, zb5, zb6, zb7, zb8, zb9, zb10] at hq); exact rMove rfl rfl) ?_
    refine stg rfl rfl rfl rfl rfl (fun hb => by (have hq := hb; try simp only [zb1, zb2, zb3, zb4, zb5, zb6, zb7, zb8, zb9, zb10] at hq); exact rLdS rfl rfl rfl) ?_
    refine stg rfl rfl rfl rfl rfl (fun hb => by (have hq := hb; try simp only [zb1, zb2, zb3, zb4, zb5, zb6, zb7, zb8, zb9, zb10] at hq); exact rMove rfl rfl) ?_
    refine efg rfl rfl rfl rfl rfl (fun hb => by (have hq := hb; try simp only [zb1, zb2, zb3, zb4, zb5, zb6, zb7, zb8, zb9, zb10] at hq); exact eCallV rfl rfl rfl (ref_Root _ _ _ _ _ hF _) ⟨(evg rfl hb), (evg rfl hb), trivial⟩ ⟨rfl, rfl⟩) ?_
    refine stg rfl rfl rfl rfl rfl (fun hb => by (have hq := hb; try simp only [zb1, zb2, zb3, zb4, zb5, zb6, zb7, zb8, zb9, zb10] at hq); exact rEql rfl (evg rfl hb) (evg rfl hb)) ?_
    refine st rfl rfl rfl rfl (rAndB rfl rfl rfl rfl) ?_
    refine pu rfl rfl rfl rfl rfl ?_
    exact tr_ret ⟨trivial, _, _, rfl, ⟨by simp [*], rfl⟩, CSub.nil _, trivial⟩

theorem law_BchRoots (p m : Int) (A : Option Addr) (c : Nat) (mod : List Int) (hl9 : mod.length ≤ 17592186044415) (n : Int) : Pure Try.prog 7 #[.agg #[.int .i64 p, .int .i64 m, .slice A mod.length c], .int .i64 n] [ro A (ints mod)] (isV (.bool true)) := by
  by_cases hF : FldR p m mod
  · exact law_BchRoots_ok p m A c mod hl9 n hF
  · exact law_BchRoots_no p m A c mod hl9 n hF


namespace lawBchRoots
theorem own : ownKnob Try.prog.godebug = none := by kernel_rfl
theorem laidOut : laidOutB Try.prog = true := by kernel_rfl
set_option maxRecDepth 100000 in
theorem lifted (os : Os) (started : os.Started) (H : Type) (enc : TypeId × Value → H) :
    ReturnsInHanded {} Try.checked os 7 .any (Rows.bchRootsSpec.pre6 enc Try.prog Try.f7 Rows.bchRootsRow.domain false) (Rows.bchRootsSpec.post enc Try.prog Try.f7 false true false false) := by
  refine returnsInHanded_of_change_sized (C := Try.checked) own started (by kernel_rfl) Try.func7
    (ChangeSpec.witness6 (enc := enc) (C := Try.checked) false ⟨#[], #[.agg #[.int .i64 0, .int .i64 0, .slice none 0 0], .int .i64 0], []⟩ 8 (by kernel_rfl) (by kernel_rfl) (by kernel_rfl) (by kernel_rfl)) ?_
  intro W base args ds gs before hval0 hW hcnd hsz _
  have hval : ∀ (j : Nat) t v, Try.f7.params[j]? = some t → args[j]? = some v → Value.okWide Try.prog W .any base t v := hval0
  have hW' := hW
  obtain ⟨p, q, hA0, hV, rfl, hfz, hnd⟩ := hW
  have hA : DataW.TrodAll enc Try.prog W 0 (fun _ => true) true Try.f7.params.toList args.toList ds p := hA0
  rw [Try.params7] at hA hval
  obtain ⟨v0, vs0, d0, ds0, p0, q0, hargs, rfl, rfl, h0, r0⟩ := trodAll_cons hA
  obtain ⟨v1, vs1, d1, ds1, p1, q1, rfl, rfl, rfl, h1, r1⟩ := trodAll_cons r0
  obtain ⟨rfl, rfl, rfl⟩ := trodAll_nil r1
  obtain rfl : args = #[v0, v1] := by cases args; simp_all
  obtain ⟨rfl, rfl⟩ := trodVars_none hV
  have k0 := h0
  have lt0 : ∀ x ∈ p0, x.block < W.heap.size := by obtain ⟨m, hm⟩ := k0; exact DataW.trod_lt m _ _ _ hm
  have k1 := h1
  have lt1 : ∀ x ∈ p1, x.block < W.heap.size := by obtain ⟨m, hm⟩ := k1; exact DataW.trod_lt m _ _ _ hm
  obtain ⟨P0, M0, A0, c0, mod0, rfl, wf0⟩ := get_F (light_of hsz (j := 0) rfl rfl) (hval 0 36 v0 rfl rfl) h0
  obtain ⟨n1, rfl, fn1⟩ := get_I Try.underlying3 (hval 1 3 v1 rfl rfl) h1
  clear hA0 hval0
  have hlaw := law_BchRoots P0 M0 A0 c0 mod0 wf0.2 n1
  have hsat : ∀ ch ∈ [ro A0 (ints mod0)], ch.sat W := fun ch hc => by
    simp only [List.mem_cons, List.not_mem_nil, or_false] at hc
    rcases hc with rfl
    exact wf0.1
  refine (hlaw.run W hsat).mono fun e W' ⟨v, Fo, he, bel, hv, _⟩ => ?_
  obtain ⟨rfl, _⟩ := hv
  subst he
  exact ⟨_, rfl, _, _, _, [], _, [], hW', trodAll_mk1 (shut_bool Try.underlying4 _), (trodAll_cons_mk (Below.trod laidOut (by kernel_rfl) (of_decide_eq_true (by kernel_rfl)) k0 bel lt0) (trodAll_cons_mk (Below.trod laidOut (by kernel_rfl) (of_decide_eq_true (by kernel_rfl)) k1 bel lt1) trodAll_mk0)), rfl, bel.frame _, fun h => by cases h⟩

theorem proved : Rows.BchRootsSaid :=
  OpenClaim.holds_of_wide 7 Try.f7 rfl rfl rfl rfl rfl rfl rfl ⟨rfl, rfl, rfl, rfl, rfl⟩ rfl rfl rfl rfl rfl (by kernel_rfl) Try.func7 (by kernel_rfl)
    (of_decide_eq_true (by kernel_rfl)) (by unfold Func.isWrapper; first | (rw [if_pos (by decide +kernel)]; kernel_rfl) | (rw [if_neg (by decide +kernel)]; exact ⟨rfl, rfl⟩))
    (fun os started H enc _ => lifted os started H enc)
end lawBchRoots

end Go.Proofs.Ytancpcmiimcdhaa

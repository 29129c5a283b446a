/-
  BCHWEIGHTS, PART 4 OF 10. One sentence: the texts behind the law BchWeights, put together.
  Conditions: each theorem's own, written out in it.
-/
import Derived.ProofKit
import Derived.Deep.Slices
import Derived.SizedLaws
import Derived.OpenShut
import Derived.ShutString
import Derived.ChangeOld
import Derived.RangeFuncNested
import Derived.RangeFuncBound
import Derived.RangeFuncCalls
import Derived.RangeFuncLeaves
import Derived.Shelf.Abstract
import Derived.Shelf.RegionOpen
import Derived.WalkKit
import Derived.OwnWalkIn
import Derived.TacticsInMore
import Derived.LoopNIn
import Derived.LoopIn
import Derived.Test.YtgnmcoegdogfgaaGreatShelf
import Derived.Sort.OwnSortedInts
import Derived.Test.YtgnmcoegdogfgaaGreatK3
set_option linter.unusedSimpArgs false
set_option linter.unusedVariables false
set_option linter.unusedSectionVars false
set_option linter.unusedSimpArgs false
set_option linter.unusedVariables false
namespace Go.Proofs.YtgnmcoegdogfgaaGreat
open Go.ChangeShapes Go.WideShapes Go.ChangeAt Go.RowKit Go.Deep
def Fits (n : Int) : Prop := -9223372036854775808 ≤ n ∧ n ≤ 9223372036854775807
theorem fits_of_wf {n : Int} (h : (Lit.int .i64 n).wf = true) : Fits n := by
  simp [Lit.wf, IntKind.min, IntKind.max, IntKind.bits, IntKind.signed] at h
  unfold Fits
  omega
section
variable {H : Type} {enc : TypeId × Value → H} {P : Program} {w : World} {held : Bool} {t e : TypeId} {fuel : Nat} {cs : List Value} {x : DataW H × List MemPlace}
theorem open_I (ht : P.underlying t = some (.int .i64)) (h : DataW.trod enc P w 0 (fun _ => true) held fuel t cs = some x) : ∃ n, cs = [.int .i64 n] ∧ Fits n := by
  obtain ⟨n, h1, _, h3⟩ := DataW.trod_int ht h
  exact ⟨n, h1, fits_of_wf h3⟩
end
structure IsIS (w : World) (v : Value) (A : Option Addr) (c : Nat) (xs : List Int) : Prop where
  val : v = .slice A xs.length c
  sat : (ro A (ints xs)).sat w
  le : xs.length ≤ c
  max : c ≤ maxLen
  fits : ∀ z ∈ xs, Fits z
section
variable {H : Type} {enc : TypeId × Value → H} {P : Program} {w : World} {b : Nat} {t e : TypeId} {v : Value} {d : DataW H} {p : List MemPlace}
theorem get_St {fs : Array Field} (ht : P.underlying t = some (.struct fs)) (hv : Value.okWide P w .any b t v) (h : DataW.Trod enc P w 0 (fun _ => true) true t v d p) :
    ∃ cs : Array Value, v = .agg cs ∧ cs.toList.length = P.cellsOf t ∧ ∀ (i : Nat) (f : Field), fs[i]? = some f → ∃ n y, DataW.trod enc P w 0 (fun _ => true) true n f.type ((cs.toList.drop f.offset).take (P.cellsOf f.type)) = some y := by
  obtain ⟨cs, rfl, _⟩ := okWide_struct ht hv
  obtain ⟨fuel, hf⟩ := h
  obtain ⟨xs, n, _, _, h1, h2, h3⟩ := DataW.trod_struct ht hf
  refine ⟨cs, rfl, h1, fun i f hi => ?_⟩
  have hlt : i < xs.length := by rw [h2]; exact (Array.getElem?_eq_some_iff.1 hi).1
  exact ⟨n, xs[i], (h3 i f hi).trans (List.getElem?_eq_getElem hlt)⟩
def fdInfo (P : Program) (t : TypeId) (i : Nat) : Option (Nat × TypeId × Nat) :=
  match P.underlying t with
  | some (.struct fs) => (fs[i]?).map fun f => (f.offset, f.type, P.cellsOf f.type)
  | _ => none
def isSt (P : Program) (t : TypeId) : Bool := match P.underlying t with | some (.struct _) => true | _ => false
theorem get_Fd (hst : isSt P t = true) (hv : Value.okWide P w .any b t v) (h : DataW.Trod enc P w 0 (fun _ => true) true t v d p) :
    ∃ l : List Value, v = .agg l.toArray ∧ l.length = P.cellsOf t ∧ ∀ (i off : Nat) (ty : TypeId) (n : Nat), fdInfo P t i = some (off, ty, n) → ∃ m y, DataW.trod enc P w 0 (fun _ => true) true m ty ((l.drop off).take n) = some y := by
  unfold isSt at hst
  split at hst
  · rename_i fs hu
    obtain ⟨⟨l⟩, rfl, h1, h2⟩ := get_St hu hv h
    refine ⟨l, rfl, h1, fun i off ty n hi => ?_⟩
    simp only [fdInfo, hu] at hi
    cases hf : fs[i]? with
    | none => simp [hf] at hi
    | some f =>
      simp only [hf, Option.map_some, Option.some.injEq, Prod.mk.injEq] at hi
      obtain ⟨rfl, rfl, rfl⟩ := hi
      exact h2 i f hf
  · cases hst
end
def Light {H : Type} (P : Program) (t : TypeId) (d : DataW H) : Prop := ∀ n ∈ d.weights P t, n ≤ reachBytes
theorem light_of {H : Type} {P : Program} {ts : List TypeId} {ds : List (DataW H)} (h : (DataW.weightsEach P ts ds).all (· ≤ reachBytes) = true) {j : Nat} {t : TypeId} {d : DataW H} (ht : ts[j]? = some t) (hd : ds[j]? = some d) : Light P t d := fun n hn => by
  have := List.all_eq_true.1 h _ (DataW.weights_mem_each ht hd n hn)
  simpa using this
section
variable {H : Type} {enc : TypeId × Value → H} {P : Program} {w : World} {held : Bool} {t e : TypeId} {fuel : Nat} {cs : List Value} {x : DataW H × List MemPlace}
theorem open_ISw (ht : P.underlying t = some (.slice e)) (he : P.underlying e = some (.int .i64)) (hc : P.cellsOf e = 1) (hb : P.bytesOf e = 8) (hw : Light P t x.1) (h : DataW.trod enc P w 0 (fun _ => true) held fuel t cs = some x) :
    ∃ (A : Option Addr) (c : Nat) (xs : List Int), cs = [.slice A xs.length c] ∧ xs.length ≤ c ∧ (ro A (ints xs)).sat w ∧ (∀ z ∈ xs, Fits z) ∧ xs.length ≤ 17592186044415 := by
  rcases open_ints ht he hc h with ⟨rfl, _⟩ | ⟨a, len, cap, zs, rfl, _, hl, hm, hz, hx, hcell, hwz⟩
  · exact ⟨none, 0, [], rfl, Nat.le_refl _, fun j hj => by simp [ints] at hj, fun z hz => by simp at hz, by simp⟩
  · simp only [if_true] at hz
    have hlen : (zs.take len).length = len := by rw [List.length_take]; omega
    have hwt := hw (((lits .i64 (zs.take len) : List (DataW H)).length + (lits .i64 (zs.drop len) : List (DataW H)).length) * P.bytesOf e) (by rw [hx]; simp [DataW.weights, ht])
    refine ⟨some a, cap, zs.take len, by rw [hlen], by rw [hlen]; exact hl, fun j hj => ?_, fun z hz' => fits_of_wf (hwz z (List.mem_of_mem_take hz')), ?_⟩
    · rw [ints_length, hlen] at hj
      refine ⟨a, rfl, ?_⟩
      rw [hcell j (by omega)]
      have hj' : j < zs.length := by omega
      simp [ints, hj']
    · rw [hb] at hwt
      simp only [lits, List.length_map, hlen, reachBytes] at hwt
      omega
end
section
variable {H : Type} {enc : TypeId × Value → H} {P : Program} {w : World} {b : Nat} {t e : TypeId} {v : Value} {d : DataW H} {p : List MemPlace}
structure IsISw (w : World) (v : Value) (A : Option Addr) (c : Nat) (xs : List Int) : Prop where
  val : v = .slice A xs.length c
  sat : (ro A (ints xs)).sat w
  le : xs.length ≤ c
  short : xs.length ≤ 17592186044415
  fits : ∀ z ∈ xs, Fits z
theorem get_ISw (ht : P.underlying t = some (.slice e)) (he : P.underlying e = some (.int .i64)) (hc : P.cellsOf e = 1) (hb : P.bytesOf e = 8) (hw : Light P t d) (hv : Value.okWide P w .any b t v) (h : DataW.Trod enc P w 0 (fun _ => true) true t v d p) : ∃ A c xs, IsISw w v A c xs := by
  obtain ⟨a0, l0, c0, rfl⟩ := okWide_slice ht hv
  obtain ⟨fuel, hf⟩ := h
  obtain ⟨A, c, xs, h1, h2, h3, h4, h5⟩ := open_ISw ht he hc hb hw hf
  simp [Value.cells] at h1
  exact ⟨A, c, xs, by rw [h1.1, h1.2.1, h1.2.2], h3, h2, h5, h4⟩
theorem get_FdW (hst : isSt P t = true) (hw : Light P t d) (hv : Value.okWide P w .any b t v) (h : DataW.Trod enc P w 0 (fun _ => true) true t v d p) :
    ∃ l : List Value, v = .agg l.toArray ∧ l.length = P.cellsOf t ∧ ∀ (i off : Nat) (ty : TypeId) (n : Nat), fdInfo P t i = some (off, ty, n) → ∃ m y, DataW.trod enc P w 0 (fun _ => true) true m ty ((l.drop off).take n) = some y ∧ Light P ty y.1 := by
  unfold isSt at hst
  split at hst
  · rename_i fs hu
    obtain ⟨cs, rfl, _⟩ := okWide_struct hu hv
    obtain ⟨fuel, hf⟩ := h
    obtain ⟨xs, n, _, hx, h1, h2, h3⟩ := DataW.trod_struct hu hf
    have hd : d = .agg (xs.map (·.1)) := congrArg Prod.fst hx
    refine ⟨cs.toList, rfl, h1, fun i off ty k hi => ?_⟩
    simp only [fdInfo, hu] at hi
    cases hfi : fs[i]? with
    | none => simp [hfi] at hi
    | some f =>
      simp only [hfi, Option.map_some, Option.some.injEq, Prod.mk.injEq] at hi
      obtain ⟨rfl, rfl, rfl⟩ := hi
      have hlt : i < xs.length := by rw [h2]; exact (Array.getElem?_eq_some_iff.1 hfi).1
      refine ⟨n, xs[i], (h3 i f hfi).trans (List.getElem?_eq_getElem hlt), fun k hk => hw k ?_⟩
      rw [hd]
      simp only [DataW.weights, hu]
      refine DataW.weights_mem_each (j := i) (t := f.type) (d := xs[i].1) (by simp [hfi]) (by simp [hlt]) k hk
  · cases hst
end
section
variable {H : Type} {enc : TypeId × Value → H} {P : Program} {w : World} {held : Bool} {t e f : TypeId} {fuel : Nat} {cs : List Value} {x : DataW H × List MemPlace}
theorem open_FdW (hst : isSt P t = true) (hw : Light P t x.1) (h : DataW.trod enc P w 0 (fun _ => true) held fuel t cs = some x) :
    cs.length = P.cellsOf t ∧ ∀ (i off : Nat) (ty : TypeId) (n : Nat), fdInfo P t i = some (off, ty, n) → ∃ m y, DataW.trod enc P w 0 (fun _ => true) held m ty ((cs.drop off).take n) = some y ∧ Light P ty y.1 := by
  unfold isSt at hst
  split at hst
  · rename_i fs hu
    obtain ⟨xs, n, _, hx, h1, h2, h3⟩ := DataW.trod_struct hu h
    have hd : x.1 = .agg (xs.map (·.1)) := congrArg Prod.fst hx
    refine ⟨h1, fun i off ty k hi => ?_⟩
    simp only [fdInfo, hu] at hi
    cases hfi : fs[i]? with
    | none => simp [hfi] at hi
    | some f =>
      simp only [hfi, Option.map_some, Option.some.injEq, Prod.mk.injEq] at hi
      obtain ⟨rfl, rfl, rfl⟩ := hi
      have hlt : i < xs.length := by rw [h2]; exact (Array.getElem?_eq_some_iff.1 hfi).1
      refine ⟨n, xs[i], (h3 i f hfi).trans (List.getElem?_eq_getElem hlt), fun k hk => hw k ?_⟩
      rw [hd]
      simp only [DataW.weights, hu]
      refine DataW.weights_mem_each (j := i) (t := f.type) (d := xs[i].1) (by simp [hfi]) (by simp [hlt]) k hk
  · cases hst
theorem mem_weightsAll {d : DataW H} : ∀ {l : List (DataW H)}, d ∈ l → ∀ n ∈ d.weights P e, n ∈ DataW.weightsAll P e l
  | a :: r, h, n, hn => by
    simp only [DataW.weightsAll, List.mem_append]
    rcases List.mem_cons.1 h with rfl | h
    · exact .inl hn
    · exact .inr (mem_weightsAll h n hn)
instance : Inhabited RowM := ⟨rowD⟩
theorem open_ISSw (ht : P.underlying t = some (.slice e)) (he : P.underlying e = some (.slice f)) (hf : P.underlying f = some (.int .i64)) (hc : P.cellsOf e = 1) (hcf : P.cellsOf f = 1) (hb : P.bytesOf e = 24) (hbf : P.bytesOf f = 8) (hw : Light P t x.1) (h : DataW.trod enc P w 0 (fun _ => true) held fuel t cs = some x) :
    ∃ (A : Option Addr) (c : Nat) (rs : List RowM), cs = [.slice A rs.length c] ∧ (ro A (hdrs rs)).sat w ∧ (rowsR rs).sat w ∧ rs.length ≤ 17592186044415 ∧ (∀ r ∈ rs, r.xs.length ≤ 17592186044415) ∧ ∀ r ∈ rs, r.xs.length ≤ r.cap := by
  rcases open_slice1 ht hc h with ⟨rfl, _⟩ | ⟨a, len, cap, m, n, V, D, Pl, rfl, _, hl, hm, hmm, hx, hcell⟩
  · exact ⟨none, 0, [], rfl, fun j hj => by simp [hdrs] at hj, fun r hr => by simp at hr, by simp, fun r hr => by simp at hr, fun r hr => by simp at hr⟩
  · simp only [if_true] at hmm
    have hxw : ∀ i, i < len → Light P e (D i) := fun i hi k hk => hw k (by
      rw [hx]
      simp only [DataW.weights, ht]
      refine List.mem_cons_of_mem _ (List.mem_append_left _ (mem_weightsAll (d := D i) ?_ k hk))
      exact List.mem_map.2 ⟨i, List.mem_range.2 hi, rfl⟩)
    obtain ⟨R, hR⟩ := choose_lt (α := RowM) (n := len) (p := fun i r => V i = r.hdr ∧ (ro r.A (ints r.xs)).sat w ∧ r.xs.length ≤ 17592186044415 ∧ r.xs.length ≤ r.cap) (fun i hi => by
      obtain ⟨A, c, xs, h1, h2, h3, _, h5⟩ := open_ISw he hf hcf hbf (hxw i hi) (hcell i (by omega)).2
      refine ⟨⟨A, c, xs⟩, ?_, h3, h5, h2⟩
      simpa [RowM.hdr] using h1)
    have hlen : ((List.range len).map R).length = len := by simp
    have hmem : ∀ r ∈ (List.range len).map R, ∃ i, i < len ∧ R i = r := fun r hr => by
      obtain ⟨i, hi, rfl⟩ := List.mem_map.1 hr
      exact ⟨i, List.mem_range.1 hi, rfl⟩
    refine ⟨some a, cap, (List.range len).map R, by rw [hlen], fun j hj => ?_, fun r hr => ?_, ?_, fun r hr => ?_, fun r hr => ?_⟩
    · have hj' : j < len := by simpa [hdrs] using hj
      refine ⟨a, rfl, ?_⟩
      rw [(hcell j (by omega)).1, (hR j hj').1]
      simp [hdrs]
    · obtain ⟨i, hi, rfl⟩ := hmem r hr
      exact (hR i hi).2.1
    · have hwt := hw ((((List.range len).map D).length + ((List.range (m - len)).map fun j => D (len + j)).length) * P.bytesOf e) (by rw [hx]; simp [DataW.weights, ht])
      rw [hb] at hwt
      simp only [List.length_map, List.length_range, reachBytes] at hwt
      rw [hlen]; omega
    · obtain ⟨i, hi, rfl⟩ := hmem r hr
      exact (hR i hi).2.2.1
    · obtain ⟨i, hi, rfl⟩ := hmem r hr
      exact (hR i hi).2.2.2
end
theorem joined_of {P : Program} {f : FuncId} {fn : Func} {s : ChangeSpec} {c : OpenClaim}
    (h1 : (c.wf (OpenSpec.ofChange s) && laidOutB P && mapsRowed P && fn.params.all (P.readableRec ·) && namedTie P c.named s.vars && (c.stops == []) && (P.stops == []) && (c.knobs == []) && (P.stopKnobs == [])) = true)
    (h2 : (c.inPlace == P.inPlace f) = true) (h3 : (c.unfollowed == P.unfollowed f) = true) (h4 : (c.recurses == P.recurses f) = true) (h5 : (c.named == P.varsNamed f) = true)
    (h6 : (c.maps == (fn.params.toList ++ s.plain.varTypes P).any (P.mapsRec ·)) = true) (h7 : (c.ifaces == (fn.params.toList ++ s.plain.varTypes P).any (P.ifacesRec ·)) = true) (h8 : (c.mapsOut == P.mapsAmong fn.resultTypes.toList) = true)
    (h9 : (c.loops == (fn.params.toList ++ s.plain.varTypes P).any (P.loopsFrom ·)) = true) (h10 : (c.wideKeys == (fn.params.toList ++ s.plain.varTypes P ++ fn.resultTypes.toList).any (P.wideKeysFrom ·)) = true)
    (h11 : s.vars.all (P.varReadable ·) = true) (h12 : fn.resultTypes.all (fun t => P.readableRec t && decide (t < P.types.size)) = true) (h13 : (c.ifacesOut == fn.resultTypes.toList.any (P.ifacesRec ·)) = true) (h14 : (c.loopsOut == fn.resultTypes.toList.any (P.loopsFrom ·)) = true)
    (h15 : (c.plainKeys == P.plainKeys) = true) (h16 : c.shortTexts.isNone = true) (h17 : P.stopsHeard = true) (h18 : P.mayEnter = true) (h19 : (c.lifted == P.liftsFinal) = true) (h20 : (P.make == some c.make) = true)
    (h21 : (c.kinds == (if c.domain.isEmpty then [] else fn.params.toList.map fun t => match P.underlying t with | some (.int k) => some k | _ => none)) = true) (h22 : (c.pinned == c.pinnedBy) = true)
    (h23 : (c.veiled == (fn.params.toList ++ s.plain.varTypes P ++ fn.resultTypes.toList).any (P.veiledRec ·)) = true) (h24 : c.veiledFits P fn.params.toList (fn.params.toList ++ s.plain.varTypes P ++ fn.resultTypes.toList) = true) : joinedFacts P f fn s c = true := by
  unfold joinedFacts
  simp only [Bool.and_eq_true] at h1 ⊢
  obtain ⟨⟨⟨⟨⟨⟨⟨⟨a1, a2⟩, a3⟩, a4⟩, a5⟩, a6⟩, a7⟩, a8⟩, a9⟩ := h1
  and_intros <;> assumption
end Go.Proofs.YtgnmcoegdogfgaaGreat

set_option linter.unusedSimpArgs false
set_option linter.unusedVariables false
set_option maxRecDepth 100000
namespace Go.Proofs.YtgnmcoegdogfgaaGreat
open Go.ChangeShapes Go.WideShapes Go.ChangeAt Go.RowKit
theorem get_F {H : Type} {enc : TypeId × Value → H} {w : World} {b : Nat} {v : Value} {d : DataW H} {p : List MemPlace} (hw : Light Tryz.prog 24 d) (hv : Value.okWide Tryz.prog w .any b 24 v) (h : DataW.Trod enc Tryz.prog w 0 (fun _ => true) true 24 v d p) :
    ∃ (P M : Int) (A : Option Addr) (c : Nat) (mod : List Int), v = .agg #[.int .i64 P, .int .i64 M, .slice A mod.length c] ∧ (ro A (ints mod)).sat w ∧ mod.length ≤ 17592186044415 := by
  obtain ⟨l, rfl, h1, h2⟩ := get_FdW (by kernel_rfl) hw hv h
  have hl : l.length = 3 := h1.trans (by kernel_rfl)
  obtain ⟨n0, y0, hy0, _⟩ := h2 0 0 3 1 (by kernel_rfl)
  obtain ⟨a0, e0, _⟩ := open_I Tryz.underlying3 hy0
  obtain ⟨n1, y1, hy1, _⟩ := h2 1 1 3 1 (by kernel_rfl)
  obtain ⟨a1, e1, _⟩ := open_I Tryz.underlying3 hy1
  obtain ⟨n2, y2, hy2, hl2⟩ := h2 2 2 22 1 (by kernel_rfl)
  obtain ⟨A, c, xs, e2, _, h3, _, h4⟩ := open_ISw Tryz.underlying22 Tryz.underlying3 (by kernel_rfl) (by kernel_rfl) hl2 hy2
  match l, hl with
  | [b0, b1, b2], _ =>
    simp at e0 e1 e2
    exact ⟨a0, a1, A, c, xs, by rw [e0, e1, e2], h3, h4⟩
end Go.Proofs.YtgnmcoegdogfgaaGreat

set_option linter.unusedSimpArgs false
set_option linter.unusedVariables false
set_option maxRecDepth 100000
namespace Go.Proofs.YtgnmcoegdogfgaaGreat
open Go.ChangeShapes Go.WideShapes Go.ChangeAt Go.RowKit
theorem get_Code {H : Type} {enc : TypeId × Value → H} {w : World} {b : Nat} {v : Value} {d : DataW H} {p : List MemPlace} (hw : Light Tryz.prog 27 d) (hv : Value.okWide Tryz.prog w .any b 27 v) (h : DataW.Trod enc Tryz.prog w 0 (fun _ => true) true 27 v d p) :
    ∃ (P M : Int) (A : Option Addr) (c : Nat) (mod : List Int) (n : Int) (G : Option Addr) (k : Nat) (rs : List RowM), v = .agg #[.int .i64 P, .int .i64 M, .slice A mod.length c, .int .i64 n, .slice G rs.length k] ∧ ((ro A (ints mod)).sat w ∧ mod.length ≤ 17592186044415) ∧ ((ro G (hdrs rs)).sat w ∧ (rowsR rs).sat w) ∧ rs.length ≤ 17592186044415 ∧ (∀ r ∈ rs, r.xs.length ≤ 17592186044415) ∧ ∀ r ∈ rs, r.xs.length ≤ r.cap := by
  obtain ⟨l, rfl, h1, h2⟩ := get_FdW (by kernel_rfl) hw hv h
  have hl : l.length = 5 := h1.trans (by kernel_rfl)
  obtain ⟨nf, yf, hyf, lf⟩ := h2 0 0 24 3 (by kernel_rfl)
  obtain ⟨_, g2⟩ := open_FdW (by kernel_rfl) lf hyf
  obtain ⟨n0, y0, hy0, _⟩ := g2 0 0 3 1 (by kernel_rfl)
  obtain ⟨a0, e0, _⟩ := open_I Tryz.underlying3 hy0
  obtain ⟨n1, y1, hy1, _⟩ := g2 1 1 3 1 (by kernel_rfl)
  obtain ⟨a1, e1, _⟩ := open_I Tryz.underlying3 hy1
  obtain ⟨n2, y2, hy2, hl2⟩ := g2 2 2 22 1 (by kernel_rfl)
  obtain ⟨A, c, xs, e2, _, h3, _, h4⟩ := open_ISw Tryz.underlying22 Tryz.underlying3 (by kernel_rfl) (by kernel_rfl) hl2 hy2
  obtain ⟨n3, y3, hy3, _⟩ := h2 1 3 3 1 (by kernel_rfl)
  obtain ⟨a3, e3, _⟩ := open_I Tryz.underlying3 hy3
  obtain ⟨n4, y4, hy4, hl4⟩ := h2 2 4 25 1 (by kernel_rfl)
  obtain ⟨G, k, rs, e4, h5, h6, h7, h8⟩ := open_ISSw Tryz.underlying25 Tryz.underlying22 Tryz.underlying3 (by kernel_rfl) (by kernel_rfl) (by kernel_rfl) (by kernel_rfl) hl4 hy4
  match l, hl with
  | [b0, b1, b2, b3, b4], _ =>
    simp at e0 e1 e2 e3 e4
    exact ⟨a0, a1, A, c, xs, a3, G, k, rs, by rw [e0, e1, e2, e3, e4], ⟨h3, h4⟩, ⟨h5, h6⟩, h7, h8⟩
end Go.Proofs.YtgnmcoegdogfgaaGreat

set_option linter.unusedSimpArgs false
set_option linter.unusedVariables false
set_option linter.unusedSectionVars false
namespace Go.Proofs.YtgnmcoegdogfgaaGreat
open Rg
theorem trimL_beyond : ∀ (xs : List Int) (j : Nat), (trimL xs).length ≤ j → xs.getD j 0 = 0
  | [], j, _ => rfl
  | x :: xs, j, h => by
    rw [trimL] at h
    split at h
    · rename_i h0
      cases j with
      | zero =>
        split at h
        · rename_i hx; rw [hx]; rfl
        · simp at h
      | succ j =>
        have := trimL_beyond xs j (by rw [h0]; simp)
        simpa using this
    · rename_i y ys h0
      cases j with
      | zero => simp at h
      | succ j =>
        have := trimL_beyond xs j (by rw [h0]; simpa using h)
        simpa using this
theorem trimL_last : ∀ (xs : List Int) (k : Nat), (trimL xs).length = k + 1 → xs.getD k 0 ≠ 0
  | [], k, h => by simp [trimL] at h
  | x :: xs, k, h => by
    rw [trimL] at h
    split at h
    · split at h
      · simp at h
      · rename_i hx
        simp at h
        subst h
        exact hx
    · rename_i y ys h0
      cases k with
      | zero => simp at h
      | succ k =>
        have := trimL_last xs k (by rw [h0]; simpa using h)
        simpa using this
theorem trimL_getD (xs : List Int) (j : Nat) : (trimL xs).getD j 0 = xs.getD j 0 := by
  by_cases h : j < (trimL xs).length
  · conv => rhs; rw [trimL_split xs]
    rw [List.getD_eq_getElem?_getD, List.getD_eq_getElem?_getD, List.getElem?_append_left h]
  · rw [trimL_beyond xs j (by omega), List.getD_eq_getElem?_getD, List.getElem?_eq_none (by omega)]; rfl
class IsF (p m : Int) (mod : List Int) : Prop where
  out : FldR p m mod
noncomputable instance elF (p m : Int) (mod : List Int) [h : IsF p m mod] : Fd (El p m mod) := elFd h.out
theorem IsF.q2 {p m : Int} {mod : List Int} (h : IsF p m mod) : 2 ≤ pw p m := h.out.1.1.q2
theorem IsF.ord {p m : Int} {mod : List Int} (h : IsF p m mod) : ordI p m = pw p m := h.out.1.1.ord
section
variable {p m : Int} {mod : List Int} [hF : IsF p m mod]
def el (x : Int) : El p m mod := ⟨inI (pw p m) x, inI_bd (by have := hF.q2; omega) x⟩
theorem el_val (x : Int) : (el x : El p m mod).1 = inI (pw p m) x := rfl
theorem el_in {x : Int} (h : 0 ≤ x ∧ x < pw p m) : (el x : El p m mod).1 = x := inI_in h.1 h.2
theorem el_of (a : El p m mod) : el a.1 = a := El.ext (inI_in a.2.1 a.2.2)
theorem el_zero : (el 0 : El p m mod) = 0 := El.ext (inI_in (Int.le_refl 0) (by have := hF.q2; omega))
theorem el_one : (el 1 : El p m mod) = 1 := El.ext (inI_in (by omega) (by have := hF.q2; omega))
theorem one_val : (1 : El p m mod).1 = 1 := rfl
theorem add_val (a b : El p m mod) : (a + b).1 = addI p m a.1 b.1 := rfl
theorem mul_val (a b : El p m mod) : (a * b).1 = mulI p m mod a.1 b.1 := rfl
theorem val_zero_iff (a : El p m mod) : a.1 = 0 ↔ a = 0 := ⟨fun h => El.ext h, fun h => by rw [h]; rfl⟩
theorem el_eq_zero {x : Int} (h : 0 ≤ x ∧ x < pw p m) : (el x : El p m mod) = 0 ↔ x = 0 := by rw [← val_zero_iff, el_in h]
noncomputable def pol (l : List Int) : Po (El p m mod) := ⟨fun j => el (l.getD j 0), l.length, fun j hj => by
  show el (l.getD j 0) = 0
  rw [List.getD_eq_getElem?_getD, List.getElem?_eq_none hj]; exact el_zero⟩
theorem cf_pol (l : List Int) (j : Nat) : Po.cf (pol l : Po (El p m mod)) j = el (l.getD j 0) := rfl
theorem pol_sh (l : List Int) : Po.Sh (pol l : Po (El p m mod)) l.length := fun j hj => by
  rw [cf_pol, List.getD_eq_getElem?_getD, List.getElem?_eq_none hj]; exact el_zero
noncomputable def il (f : Po (El p m mod)) : List Int := (List.range (Po.len f)).map fun j => (Po.cf f j).1
theorem il_length (f : Po (El p m mod)) : (il f).length = Po.len f := by simp [il]
theorem il_getD (f : Po (El p m mod)) (j : Nat) : (il f).getD j 0 = (Po.cf f j).1 := by
  by_cases h : j < Po.len f
  · rw [List.getD_eq_getElem?_getD, List.getElem?_eq_getElem (by rw [il_length]; exact h)]
    simp [il]
  · rw [List.getD_eq_getElem?_getD, List.getElem?_eq_none (by rw [il_length]; omega), Po.cf_ge (by omega)]; rfl
theorem pol_il (f : Po (El p m mod)) : pol (il f) = f := Po.ext fun j => by rw [cf_pol, il_getD, el_of]
theorem getD_map0 (q : Int) (l : List Int) (j : Nat) : (l.map (inI q)).getD j 0 = inI q (l.getD j 0) := by
  by_cases h : j < l.length
  · simp [List.getD_eq_getElem?_getD, h]
  · rw [List.getD_eq_getElem?_getD, List.getElem?_eq_none (by simpa using h), List.getD_eq_getElem?_getD, List.getElem?_eq_none (by omega)]
    simp [inI]
theorem len_pol (l : List Int) : Po.len (pol l : Po (El p m mod)) = (canL (pw p m) l).length := by
  have hb : ∀ j, (canL (pw p m) l).length ≤ j → Po.cf (pol l : Po (El p m mod)) j = 0 := fun j hj => by
    have h1 := trimL_beyond (l.map (inI (pw p m))) j hj
    rw [getD_map0] at h1
    exact El.ext h1
  rcases Nat.eq_zero_or_pos (canL (pw p m) l).length with h | h
  · rw [h] at hb ⊢
    exact Nat.le_zero.1 (Po.len_le hb)
  · obtain ⟨k, hk⟩ : ∃ k, (canL (pw p m) l).length = k + 1 := ⟨_, (Nat.sub_add_cancel h).symm⟩
    rw [hk] at hb ⊢
    refine Po.len_eq hb fun h0 => ?_
    have h1 := trimL_last (l.map (inI (pw p m))) k hk
    rw [getD_map0] at h1
    exact h1 (congrArg Subtype.val h0)
theorem ext_getD {a b : List Int} (hl : a.length = b.length) (h : ∀ j, a.getD j 0 = b.getD j 0) : a = b := List.ext_getElem hl fun j h1 h2 => by
  have := h j
  rw [List.getD_eq_getElem?_getD, List.getElem?_eq_getElem h1, List.getD_eq_getElem?_getD, List.getElem?_eq_getElem h2] at this
  exact this
theorem il_pol (l : List Int) : il (pol l : Po (El p m mod)) = canL (pw p m) l := ext_getD (by rw [il_length, len_pol]) fun j => by
  rw [il_getD, cf_pol]
  unfold canL
  rw [trimL_getD, getD_map0]; rfl
theorem pol_nil : (pol [] : Po (El p m mod)) = 0 := Po.ext fun j => el_zero
theorem il_zero : il (0 : Po (El p m mod)) = [] := by unfold il; rw [Po.len_zero]; rfl
theorem il_eq_nil {f : Po (El p m mod)} : il f = [] ↔ f = 0 := ⟨fun h => by rw [← pol_il f, h, pol_nil], fun h => by rw [h, il_zero]⟩
noncomputable def rw' (l : List Int) : Vc (El p m mod) := fun j => el (l.getD j 0)
theorem rw_at (l : List Int) (j : Nat) : (rw' l : Vc (El p m mod)) j = el (l.getD j 0) := rfl
end
end Go.Proofs.YtgnmcoegdogfgaaGreat

set_option linter.unusedSimpArgs false
set_option linter.unusedVariables false
namespace Go.Proofs.YtgnmcoegdogfgaaGreat
def addD (p : Int) : Nat → Int → Int → Int
  | 0, _, _ => 0
  | n + 1, x, y => (x % p + y % p) % p + p * addD p n (x / p) (y / p)
def negD (p : Int) : Nat → Int → Int
  | 0, _ => 0
  | n + 1, x => (p - x % p) % p + p * negD p n (x / p)
theorem dg_head (p : Int) (M : Nat) (x : Int) : dg p (M + 1) x 0 = x % p := rfl
theorem rv_head (p : Int) (M : Nat) (u : Row) : rv p (M + 1) u = u 0 % p + p * rv p M (fun j => u (j + 1)) := by
  unfold rv
  rw [List.range_succ_eq_map, List.map_cons, List.map_map, vl]
  rfl
theorem add_rec (p : Int) : ∀ (M : Nat) (x y : Int), rv p M ((dg p M x).add (dg p M y)) = addD p M x y
  | 0, _, _ => rfl
  | M + 1, x, y => by
    rw [rv_head, addD, ← add_rec p M]
    rfl
theorem addI_rec (p m x y : Int) : addI p m x y = addD p m.toNat x y := add_rec p _ x y
theorem neg_rec {p : Int} (hp : 2 ≤ p) : ∀ (M : Nat) (x : Int), rv p M (Row.sm (-1) (dg p M x)) = negD p M x
  | 0, _ => rfl
  | M + 1, x => by
    rw [rv_head, negD, ← neg_rec hp M]
    have h1 : Row.sm (-1) (dg p (M + 1) x) 0 % p = (p - x % p) % p := by
      simp only [Row.sm, dg_head]
      rw [show (-1 : Int) * (x % p) = (p - x % p) + p * (-1) by omega, Int.add_mul_emod_self_left]
    rw [h1]
    rfl
theorem negI_rec {p : Int} (hp : 2 ≤ p) (m x : Int) : negI p m x = negD p m.toNat x := neg_rec hp _ x
theorem addD_bd {p : Int} (hp : 2 ≤ p) : ∀ (n : Nat) (x y : Int), 0 ≤ addD p n x y ∧ addD p n x y < p ^ n := fun n x y => by
  have := rv_bd hp n ((dg p n x).add (dg p n y))
  rwa [add_rec] at this
theorem negD_bd {p : Int} (hp : 2 ≤ p) : ∀ (n : Nat) (x : Int), 0 ≤ negD p n x ∧ negD p n x < p ^ n := fun n x => by
  have := rv_bd hp n (Row.sm (-1) (dg p n x))
  rwa [neg_rec hp] at this
theorem addD_zero (p : Int) : ∀ n : Nat, addD p n 0 0 = 0
  | 0 => rfl
  | n + 1 => by simp [addD, addD_zero p n]
theorem negD_zero (p : Int) : ∀ n : Nat, negD p n 0 = 0
  | 0 => rfl
  | n + 1 => by simp [negD, negD_zero p n]
theorem ediv_lt_pow {p x : Int} (hp : 2 ≤ p) {n : Nat} (h : x < p ^ (n + 1)) : x / p < p ^ n := Int.ediv_lt_of_lt_mul (by omega) (by rwa [Int.pow_succ] at h)
theorem xor_rec : ∀ (n x y : Nat), x < 2 ^ n → y < 2 ^ n → addD 2 n x y = ((x ^^^ y : Nat) : Int)
  | 0, x, y, hx, hy => by
    have h1 : x = 0 := by simpa using hx
    have h2 : y = 0 := by simpa using hy
    subst h1; subst h2
    simp [addD]
  | n + 1, x, y, hx, hy => by
    have h1 : x / 2 < 2 ^ n := by rw [Nat.pow_succ] at hx; omega
    have h2 : y / 2 < 2 ^ n := by rw [Nat.pow_succ] at hy; omega
    have ih := xor_rec n (x / 2) (y / 2) h1 h2
    rw [addD]
    have e1 : ((x : Int) / 2) = ((x / 2 : Nat) : Int) := by omega
    have e2 : ((y : Int) / 2) = ((y / 2 : Nat) : Int) := by omega
    rw [e1, e2, ih, ← Nat.xor_div_two]
    have e3 : (x ^^^ y) % 2 = (x + y) % 2 := by
      have h3 := Nat.xor_mod_two_pow (a := x) (b := y) (n := 1)
      rw [Nat.pow_one] at h3
      rw [h3]
      rcases Nat.mod_two_eq_zero_or_one x with hx0 | hx0 <;> rcases Nat.mod_two_eq_zero_or_one y with hy0 | hy0 <;> rw [hx0, hy0] <;> simp <;> omega
    have e4 := Nat.div_add_mod (x ^^^ y) 2
    have e5 : ((x : Int) % 2 + (y : Int) % 2) % 2 = (((x + y) % 2 : Nat) : Int) := by omega
    rw [e5, ← e3]
    omega
theorem addI_two {m x y : Int} (hx : 0 ≤ x ∧ x < pw 2 m) (hy : 0 ≤ y ∧ y < pw 2 m) : addI 2 m x y = ((x.toNat ^^^ y.toNat : Nat) : Int) := by
  rw [addI_rec]
  have h1 : ((2 ^ m.toNat : Nat) : Int) = pw 2 m := by rw [Int.natCast_pow]; rfl
  have := xor_rec m.toNat x.toNat y.toNat (by omega) (by omega)
  rwa [Int.toNat_of_nonneg hx.1, Int.toNat_of_nonneg hy.1] at this
section
variable {p m : Int} {mod : List Int} [hF : IsF p m mod]
theorem el_inj {x y : Int} (hx : 0 ≤ x ∧ x < pw p m) (hy : 0 ≤ y ∧ y < pw p m) (h : (el x : El p m mod) = el y) : x = y := by
  have := congrArg Subtype.val h
  rwa [el_in hx, el_in hy] at this
end
end Go.Proofs.YtgnmcoegdogfgaaGreat

set_option linter.unusedSimpArgs false
set_option linter.unusedVariables false
set_option maxRecDepth 100000
namespace Go.Proofs.YtgnmcoegdogfgaaGreat
open Go.RowKit Go.Shelf
attribute [local go_sem] Oper.semAt_some
set_option maxRecDepth 100000 in
set_option maxHeartbeats 2000000 in
theorem elems_in (F : Fence) (n : Nat) (hF : F.fn 187) (hro : F.round = none) (hn : 1 ≤ n) (l Bs b q : Nat) (hq : q ≤ 256) (J Jx : List Int → World → Prop)
    (hY : ∀ pre x W, J pre W → pre.length < q → YieldAt F (n - 1) Tryz.prog l #[.int .i64 x] W fun e W' =>
      (e = .returned (.bool true) ∧ J (pre ++ [x]) W' ∧ True) ∨ (e = .returned (.bool false) ∧ Jx (pre ++ [x]) W'))
    (W : World) (hBs : W.cell? ⟨Bs, 0, none⟩ = some (.pointer (some ⟨b, 0, none⟩))) (hc : W.cell? ⟨b, 3, none⟩ = some (.int .i64 q)) (h0 : J [] W) :
    CallsIn F n Tryz.prog 187 #[.func (.yield l) #[] #[], .pointer (some ⟨Bs, 0, none⟩)] W fun e W' => (∃ v, e = .returned v) ∧
      ((∃ ys, ys = upI q ∧ J ys W') ∨ (∃ pre, (∃ k, k ≤ q ∧ pre = upI k) ∧ Jx pre W')) := by
  refine callsIn_of_wp Tryz.func187 rfl hF ?_ hro
  simp only [Tryz.ntmps187, List.size_toArray, List.length_cons, List.length_nil, Nat.reduceAdd, Nat.reduceSub, Array.replicate_succ, Array.replicate_zero, List.push_toArray, List.append_toArray, List.nil_append, List.cons_append]
  gi_wp2
  gi_loopw [8] (fun i wr => ∃ k : Nat, k ≤ q ∧ i = .int .i64 k ∧ J (upI k) wr)
    (fun i _ => q - (intOf i).toNat)
  case atStart => exact ⟨0, Nat.zero_le _, rfl, h0⟩
  case round =>
    obtain ⟨k, hk, rfl, hJs⟩ := hrel
    by_cases hlt : k < q
    · obtain ⟨fn, tmps, assign, body, hy, hR⟩ := hY _ (k : Int) wr hJs (by rw [upI_length]; exact hlt)
      gi_wp2
      refine hR.mono ?_
      rintro e W3 (⟨rfl, hJ3, _⟩ | ⟨rfl, hJx3⟩)
      · gi_wp2
        go_roundw
        case rel => exact ⟨k + 1, by omega, by simp, by rw [upI_succ]; exact hJ3⟩
        case measure => simp [intOf]; omega
      · gi_wp2
        refine bodyPost_ret (results_none rfl _ _ _) rfl ?_
        exact ⟨⟨_, rfl⟩, .inr ⟨_, ⟨k + 1, by omega, (upI_succ _).symm⟩, hJx3⟩⟩
    · obtain rfl : k = q := by omega
      gi_wp2
      go_end0
      exact ⟨⟨_, rfl⟩, .inl ⟨_, rfl, hJs⟩⟩
theorem elems_gives {Bs : Addr} {g : GfM} {e : TypeId} {F F' : List Chunk} (hq0 : 0 ≤ g.q) (hq : g.q ≤ 256) [hB : PkBlk F Bs e [.pointer (some g.p)] F'] [hG : HasGF F g] :
    Gives Tryz.prog F 187 #[.pointer (some Bs)] g.q.toNat := ⟨fun M w0 w hm => by
  have h1 := (hm.perm hB.perm).sat _ (List.mem_cons_self ..)
  have h2 := (hG.has M w0 w hm).1
  have hb := h1.1
  have hp := h2.1
  obtain ⟨ad, e1, hc⟩ := blk_reads h1 0 (by simp)
  simp only [Option.some.injEq] at e1
  subst e1
  obtain ⟨ad, e2, hc2⟩ := h2.2 3 (by simp [GfM.cells])
  simp only [Option.some.injEq] at e2
  subst e2
  simp only [GfM.cells, List.getElem_cons_zero, List.getElem_cons_succ] at hc hc2
  rw [hb, add_new] at hc
  rw [hp, add_new] at hc2
  intro l J Jx W hW _ _ hY h0
  have k1 : W.cell? ⟨Bs.block, 0, none⟩ = some (.pointer (some ⟨g.p.block, 0, none⟩)) := by
    rw [hW.cell (p := ⟨Bs.block, 0, none⟩) (World.block_lt_of_cell? _ _ hc), hc, ← hp]
  have k2 : W.cell? ⟨g.p.block, 3, none⟩ = some (.int .i64 g.q.toNat) := by
    rw [hW.cell (p := ⟨g.p.block, 3, none⟩) (World.block_lt_of_cell? _ _ hc2), hc2, Int.toNat_of_nonneg hq0]
  have := elems_in (WR none) 1 trivial rfl (Nat.le_refl _) l Bs.block g.p.block g.q.toNat (by omega) J Jx hY W k1 k2 h0
  rw [hb]
  exact this⟩
end Go.Proofs.YtgnmcoegdogfgaaGreat

set_option linter.unusedSimpArgs false
set_option linter.unusedVariables false
set_option maxRecDepth 100000
namespace Go.Proofs.YtgnmcoegdogfgaaGreat
open Go.RowKit
theorem gf_Elements1_ent : Enters Tryz.prog 187 := enters_of Tryz.func187 (by kernel_rfl) (by kernel_rfl)
theorem gf_Elements_ent : Enters Tryz.prog 136 := enters_of Tryz.func136 (by kernel_rfl) (by kernel_rfl)
theorem gf_Elements (g : GfM) :
    Pure Tryz.prog 136 #[.pointer (some g.p)] [gfR g] (one (fun v ch => ∃ Bs : Addr, v = .func (.func 187) #[] #[.pointer (some Bs)] ∧ ch = blk Bs 58 [.pointer (some g.p)])) := by
  refine pure_of (args := [.pointer (some g.p)]) 4 Tryz.func136 rfl rfl rfl gf_Elements_ent ⟨id, trivial⟩ (fun w0 => ?_)
  refine tr_seq ?_
  refine tr_region fun _ _ _ => ?_
  refine ef rfl rfl (eBox rfl rfl rfl rfl rfl (fun p0 => ?_)) 
  refine pu rfl rfl rfl rfl rfl ?_
  refine tr_seq ?_
  refine tr_region fun _ _ _ => ?_
  refine st rfl rfl rfl rfl (rFun rfl rfl rfl) ?_
  refine pu rfl rfl rfl rfl rfl ?_
  exact tr_ret ⟨trivial, _, _, rfl, ⟨_, rfl, p0, rfl, rfl⟩, cs _ _, trivial, trivial⟩
theorem gf_MulOrder2 (g : GfM) (p m : Int) (mod : List Int) (hg : GOk g p m mod) (y : Int) : Pure Tryz.prog 137 #[.pointer (some g.p), .int .i64 y] [gfR g] (isV (.tuple #[.int .i64 (if inI g.q y = 0 then 0 else mord p m mod (inI g.q y) : Nat), .int .i64 (if inI g.q y = 0 then 7 else 0)])) :=
  (gf_MulOrder g p m mod hg y).mono fun v Fo hr => ⟨hr.1.trans (by split <;> simp [*]), hr.2⟩
theorem bch_Root_ok_ent : Enters Tryz.prog 76 := enters_of Tryz.func76 (by kernel_rfl) (by kernel_rfl)
theorem bch_Root_ok (p m : Int) (A : Option Addr) (c : Nat) (mod : List Int) (hl9 : mod.length ≤ 17592186044415) (n : Int) (hF : FldR p m mod) :
    Pure Tryz.prog 76 #[.agg #[.int .i64 p, .int .i64 m, .slice A mod.length c], .int .i64 n] [ro A (ints mod)] (isV (.tuple #[.int .i64 (if rootArgs p m mod n = 0 then rootI p m mod n else 0), .int .i64 (rootArgs p m mod n)])) := by
  have hch := chkF_ok hF
  refine pure_ofC (args := [.agg #[.int .i64 p, .int .i64 m, .slice A mod.length c], .int .i64 n]) 42 Tryz.func76 rfl rfl rfl bch_Root_ok_ent ⟨id, trivial⟩ (fun w0 => ?_)
  refine tr_seq ?_
  refine tr_region fun _ _ _ => ?_
  refine ef rfl rfl (eBox rfl rfl rfl rfl rfl (fun p0 => ?_)) 
  refine ef rfl rfl (eBox rfl rfl rfl rfl rfl (fun p0a => ?_)) 
  refine ef rfl rfl (eAlloc rfl rfl rfl (fun p0b => ?_)) 
  refine ef rfl rfl (eAlloc rfl rfl rfl (fun p0c => ?_)) 
  refine tr_seq ?_
  refine tr_region fun _ _ _ => ?_
  refine st rfl rfl rfl rfl (rLdS rfl rfl rfl) ?_
  refine ef rfl rfl (eCall1 rfl rfl rfl (fld_New_ok _ _ _ _ _ (by omega) hF) ⟨rfl, trivial⟩ ?_) 
  rintro _ _ ⟨g, rfl, rfl, hg⟩
  iterate 3 refine pu rfl rfl rfl rfl rfl ?_
  refine ef rfl rfl (eAlloc rfl rfl rfl (fun p1a => ?_)) 
  refine ef rfl rfl (eSt0 rfl rfl rfl rfl rfl rfl ?_) 
  refine pu rfl rfl rfl rfl rfl ?_
  refine tr_seq ?_
  refine tr_seq ?_
  refine tr_region fun _ _ _ => ?_
  iterate 2 refine pu rfl rfl rfl rfl rfl ?_
  refine tr_cond_bool rfl (fun h2 => ?_) (fun h2 => ?_)
  · try simp only [zbA] at h2
    simp at h2 --done
  · try simp only [zbA] at h2
    refine tr_skip ?_
    refine tr_seq ?_
    refine tr_seq ?_
    refine tr_region fun _ _ _ => ?_
    refine st rfl rfl rfl rfl (rLd0 rfl rfl) ?_
    iterate 2 refine pu rfl rfl rfl rfl rfl ?_
    refine stg rfl rfl rfl rfl rfl (fun hb => by (have hq := hb; try simp only [zbA] at hq); exact rLd0 rfl rfl) ?_
    refine stg rfl rfl rfl rfl rfl (fun hb => by (have hq := hb; try simp only [zbA] at hq); exact rGtr rfl (evg rfl hb) rfl) ?_
    refine st rfl rfl rfl rfl (rOrB rfl rfl rfl rfl) ?_
    refine tr_cond_bool rfl (fun h4 => ?_) (fun h4 => ?_)
    · try simp only [zbA] at h4
      refine tr_seq ?_
      refine tr_region fun _ _ _ => ?_
      refine ef rfl rfl (eSt0 rfl rfl rfl rfl rfl rfl ?_) 
      refine ef rfl rfl (eSt0 rfl rfl rfl rfl rfl rfl ?_) 
      have hra : rootArgs p m mod n = 4 := by unfold rootArgs; rw [if_neg (by omega), if_pos (by omega)]
      exact tr_ret ⟨trivial, _, _, (.cell rfl cell1 (.cell rfl cell1 .nil)), ⟨by rw [hra]; rfl, rfl⟩, CSub.nil _, trivial⟩
    · try simp only [zbA] at h4
      refine tr_skip ?_
      refine tr_seq ?_
      refine tr_seq ?_
      have hq2 := hg.q2
      have hqe := hg.eq
      refine tr_region fun _ _ _ => ?_
      refine st rfl rfl rfl rfl (rLd0 rfl rfl) ?_
      refine ef rfl rfl (eCall1 rfl rfl rfl (gf_Elements _) ⟨rfl, trivial⟩ ?_) 
      rintro _ _ ⟨B6, rfl, rfl⟩
      refine tr_block ?_
      refine tr_range (hseq := elems_gives (by omega) (by omega)) rfl gf_Elements1_ent rfl rfl rfl rfl rfl (fun (q : Unit) => [blk B6 58 [.pointer (some g.p)], blk p1a 58 [.pointer (some g.p)], gfN g, blk p0 24 [.int .i64 p, .int .i64 m, .slice A mod.length c], blk p0a 3 [.int .i64 n], blk p0b 3 [.int .i64 0], blk p0c 31 [.int .i64 0]]) (fun (pre : List Int) (q : Unit) => ∀ z ∈ pre, (mord p m mod (inI g.q z) : Int) ≠ n ∨ inI g.q z = 0) () (by first | exact cs _ _ | exact CSub.refl _) (fun z hz => by simp at hz) ?_ ?_
      · rintro pre x q l M0 W0 hlen hI
        refine tr_block ?_
        refine tr_seq ?_
        refine tr_region fun _ _ _ => ?_
        refine st rfl rfl rfl rfl (rLd0 rfl rfl) ?_
        refine pu rfl rfl rfl rfl rfl ?_
        refine ef rfl rfl (eCallV rfl rfl rfl (gf_MulOrder2 g p m mod hg _) ⟨rfl, rfl, trivial⟩ ?_) 
        iterate 5 refine pu rfl rfl rfl rfl rfl ?_
        refine tr_seq ?_
        generalize hz : inI g.q x = z
        refine tr_region fun _ _ _ => ?_
        iterate 3 refine pu rfl rfl rfl rfl rfl ?_
        refine stg rfl rfl rfl rfl rfl (fun hb => by (have hq := hb; try simp only [zbA] at hq); exact rMove rfl rfl) ?_
        refine stg rfl rfl rfl rfl rfl (fun hb => by (have hq := hb; try simp only [zbA] at hq); exact rLd0 rfl rfl) ?_
        refine stg rfl rfl rfl rfl rfl (fun hb => by (have hq := hb; try simp only [zbA] at hq); exact rEql rfl (evg rfl hb) (evg rfl hb)) ?_
        refine st rfl rfl rfl rfl (rAndB rfl rfl rfl rfl) ?_
        refine tr_cond_bool rfl (fun h9 => ?_) (fun h9 => ?_)
        · try simp only [zbA] at h9
          refine tr_seq ?_
          refine tr_region fun _ _ _ => ?_
          refine pu rfl rfl rfl rfl rfl ?_
          refine ef rfl rfl (eSt0 rfl rfl rfl rfl rfl rfl ?_) 
          refine ef rfl rfl (eSt0 rfl rfl rfl rfl rfl rfl ?_) 
          refine tr_ret fun hpre => ?_
          obtain ⟨k, hk, hk2⟩ := hpre
          have hpk : pre = upI pre.length ∧ x = pre.length ∧ (pre.length : Int) < g.q := by
            have h1 := congrArg List.length hk2
            rw [upI_length, List.length_append, List.length_singleton] at h1
            rw [← h1, upI_succ] at hk2
            have h2 := List.append_inj' hk2 rfl
            exact ⟨h2.1, by simpa using h2.2, by omega⟩
          obtain ⟨hp1, hp2, hp3⟩ := hpk
          have hzx : z = x := by rw [← hz, inI_in (by omega) (by omega)]
          have hz0 : z ≠ 0 := fun e => by rw [e] at h9; simp at h9
          rw [if_neg hz0, if_neg hz0] at h9
          have hr : RootI p m mod n x := .inr ⟨by omega, by omega, by rw [← hzx]; exact h9.2, fun y h1 h2 => by
            have h3 := hI y (by rw [hp1]; exact List.mem_map.2 ⟨y.toNat, List.mem_range.2 (by omega), by omega⟩)
            rw [inI_in (by omega) (by omega)] at h3
            rcases h3 with h3 | h3
            · exact h3
            · omega⟩
          have hra : rootArgs p m mod n = 0 := by unfold rootArgs; rw [if_neg (by omega), if_neg (by omega), if_neg (by rw [hr.eq]; omega)]
          exact ⟨trivial, _, _, (.cell rfl cell1 (.cell rfl cell1 .nil)), ⟨by rw [hra, if_pos rfl, hr.eq]; rfl, rfl⟩, CSub.nil _, trivial⟩
        · try simp only [zbA] at h9
          refine tr_skip ?_
          refine ⟨(), by first | exact cs _ _ | exact CSub.refl _, ?_⟩
          intro y hy
          rcases List.mem_append.1 hy with hy | hy
          · exact hI y hy
          · simp only [List.mem_singleton] at hy
            subst hy
            rw [hz]
            by_cases hz0 : z = 0
            · exact .inr hz0
            · left
              rw [if_neg hz0, if_neg hz0] at h9
              intro he
              rcases h9 with h9 | h9
              · exact h9 rfl
              · exact h9 (by exact_mod_cast he)
      · rintro q hI
        have hr : RootI p m mod n 0 := .inl ⟨rfl, fun y h1 h2 => by
          have h3 := hI y (List.mem_map.2 ⟨y.toNat, List.mem_range.2 (by omega), by omega⟩)
          rw [inI_in (by omega) (by omega)] at h3
          rcases h3 with h3 | h3
          · exact h3
          · omega⟩
        have hra : rootArgs p m mod n = 11 := by unfold rootArgs; rw [if_neg (by omega), if_neg (by omega), if_pos hr.eq]
        refine tr_seq ?_
        refine tr_region fun _ _ _ => ?_
        refine ef rfl rfl (eSt0 rfl rfl rfl rfl rfl rfl ?_) 
        refine ef rfl rfl (eSt0 rfl rfl rfl rfl rfl rfl ?_) 
        exact tr_ret ⟨trivial, _, _, (.cell rfl cell1 (.cell rfl cell1 .nil)), ⟨by rw [hra]; rfl, rfl⟩, CSub.nil _, trivial⟩
end Go.Proofs.YtgnmcoegdogfgaaGreat

set_option linter.unusedSimpArgs false
set_option linter.unusedVariables false
set_option maxRecDepth 100000
namespace Go.Proofs.YtgnmcoegdogfgaaGreat
open Go.RowKit
theorem bch_members_ent : Enters Tryz.prog 40 := enters_of Tryz.func40 (by kernel_rfl) (by kernel_rfl)
theorem bch_members (n : Int) (hn : 1 ≤ n) (hn2 : n ≤ 100000) (A : Option Addr) (c : Nat) (zs : List Int) (hl : zs.length ≤ 1000000000) :
    Pure Tryz.prog 40 #[.int .i64 n, .slice A zs.length c] [ro A (ints zs)] (one (fun v ch => ∃ B, v = .slice B n.toNat n.toNat ∧ ch = ow B 4 n.toNat (bools (memL n zs)))) := by
  refine pure_of (args := [.int .i64 n, .slice A zs.length c]) 23 Tryz.func40 rfl rfl rfl bch_members_ent ⟨id, trivial⟩ (fun w0 => ?_)
  refine tr_seq ?_
  refine tr_region fun _ _ _ => ?_
  refine pu rfl rfl rfl rfl rfl ?_
  refine tr_seq ?_
  refine tr_region fun _ _ _ => ?_
  refine pu rfl rfl rfl rfl rfl ?_
  refine ef rfl rfl (eMakeB rfl rfl rfl rfl rfl (by omega) (by omega) (by omega) (fun A1 => ?_)) 
  refine pu rfl rfl rfl rfl rfl ?_
  refine tr_seq ?_
  refine tr_seq ?_
  refine tr_region fun _ _ _ => ?_
  refine pu rfl rfl rfl rfl rfl ?_
  refine st rfl rfl rfl rfl (rLen rfl rfl) ?_
  refine pu rfl rfl rfl rfl rfl ?_
  refine tr_block ?_
  refine tr_loop1 (fun (k : Int) => [(0, .int .i64 n), (5, .slice A1 n.toNat n.toNat), (10, .slice A zs.length c), (11, .int .i64 zs.length), (12, .int .i64 k)]) (fun (k : Int) => [ow A1 4 n.toNat (bools (memL n (zs.take k.toNat))), ro A (ints zs)]) (fun (k : Int) => 0 ≤ k ∧ k ≤ zs.length) (fun (k : Int) => (zs.length - k).toNat) (0) ⟨rfl, rfl, rfl, rfl, rfl, trivial⟩ (by first | exact cs _ _ | exact CSub.refl _) (⟨by omega, by omega⟩) (fun k hI => ?_)
  obtain ⟨hk0, hk1⟩ := hI
  have hml := memL_length n (zs.take k.toNat)
  refine tr_seq ?_
  refine tr_region fun _ _ _ => ?_
  refine pu rfl rfl rfl rfl rfl ?_
  refine tr_seq ?_
  refine tr_cond_bool rfl (fun h3 => ?_) (fun h3 => ?_)
  · try simp only [zbA] at h3
    refine tr_skip ?_
    refine tr_seq ?_
    refine tr_block ?_
    refine tr_seq ?_
    refine tr_region fun _ _ _ => ?_
    refine st rfl rfl rfl rfl (rIdxI rfl rfl rfl (by omega) (by omega) (by omega)) ?_
    refine st rfl rfl rfl rfl (rLdI rfl rfl (by omega)) ?_
    refine pu rfl rfl rfl rfl rfl ?_
    refine tr_region fun _ _ _ => ?_
    iterate 3 refine pu rfl rfl rfl rfl rfl ?_
    refine ef rfl rfl (eCallV rfl rfl rfl (bch_modulo _ _ (by omega) (by omega)) ⟨rfl, rfl, trivial⟩ ?_) 
    have hm0 := Int.emod_nonneg (zs.getD k.toNat 0) (show n ≠ 0 by omega)
    have hm1 := Int.emod_lt_of_pos (zs.getD k.toNat 0) (show 0 < n by omega)
    refine st rfl rfl rfl rfl (rIdxB rfl rfl rfl (by omega) (by omega) (by omega)) ?_
    refine ef rfl rfl (eStB rfl rfl rfl rfl (by omega) ?_) 
    refine tr_region fun _ _ _ => ?_
    rw [← memL_snoc, ← take_next 0 zs k hk0 (by omega)]
    refine st rfl rfl rfl rfl (rAdd rfl rfl rfl (by omega) (by omega)) ?_
    refine pu rfl rfl rfl rfl rfl ?_
    refine ⟨k + 1, ⟨rfl, rfl, rfl, rfl, rfl, trivial⟩, by first | exact cs _ _ | exact CSub.refl _, ?_⟩
    exact ⟨⟨by omega, by omega⟩, by omega⟩
  · try simp only [zbA] at h3
    refine tr_exit ?_
    refine tr_seq ?_
    refine tr_region fun _ _ _ => ?_
    iterate 2 refine pu rfl rfl rfl rfl rfl ?_
    rw [take_len zs k (by omega)]
    exact tr_ret ⟨trivial, _, _, rfl, ⟨_, rfl, _, rfl, rfl⟩, cs _ _, trivial, trivial⟩
theorem bch_Check_ent : Enters Tryz.prog 11 := enters_of Tryz.func11 (by kernel_rfl) (by kernel_rfl)
theorem bch_Check (n : Int) (A : Option Addr) (c : Nat) (zs : List Int) (hl : zs.length ≤ 1000000000) (s t ct x m : Int) :
    Pure Tryz.prog 11 #[.int .i64 n, .slice A zs.length c, .agg #[.int .i64 s, .int .i64 t, .int .i64 ct, .int .i64 x, .int .i64 m]] [ro A (ints zs)] (isV (.tuple #[.int .i64 (chk n zs s t ct x m).1, .int .i64 (chk n zs s t ct x m).2])) := by
  have hchk := chk.eq_1 n zs s t ct x m
  refine pure_of (args := [.int .i64 n, .slice A zs.length c, .agg #[.int .i64 s, .int .i64 t, .int .i64 ct, .int .i64 x, .int .i64 m]]) 114 Tryz.func11 rfl rfl rfl bch_Check_ent ⟨id, trivial⟩ (fun w0 => ?_)
  refine tr_seq ?_
  refine tr_region fun _ _ _ => ?_
  refine ef rfl rfl (eBox rfl rfl rfl rfl rfl (fun p0 => ?_)) 
  iterate 2 refine pu rfl rfl rfl rfl rfl ?_
  refine tr_seq ?_
  refine tr_block ?_
  refine tr_seq ?_
  refine tr_region fun _ _ _ => ?_
  iterate 3 refine pu rfl rfl rfl rfl rfl ?_
  refine stg rfl rfl rfl rfl rfl (fun hb => by (have hq := hb; try simp only [zbA] at hq); exact rMove rfl rfl) ?_
  refine stg rfl rfl rfl rfl rfl (fun hb => by (have hq := hb; try simp only [zbA] at hq); exact rGtr rfl (evg rfl hb) rfl) ?_
  refine st rfl rfl rfl rfl (rOrB rfl rfl rfl rfl) ?_
  refine pu rfl rfl rfl rfl rfl ?_
  refine tr_cond_bool rfl (fun h1 => ?_) (fun h1 => ?_)
  · try simp only [zbA] at h1
    refine tr_seq ?_
    refine tr_region fun _ _ _ => ?_
    iterate 2 refine pu rfl rfl rfl rfl rfl ?_
    exact tr_ret ⟨trivial, _, _, rfl, ⟨by rw [hchk, if_pos (by omega)], rfl⟩, CSub.nil _, trivial⟩
  · try simp only [zbA] at h1
    refine tr_seq ?_
    have hn1 : 1 ≤ n ∧ n ≤ 64 := by omega
    refine tr_region fun _ _ _ => ?_
    refine st rfl rfl rfl rfl (rFld rfl rfl) ?_
    refine st rfl rfl rfl rfl (rLdF rfl rfl rfl) ?_
    refine ef rfl rfl (eCallV rfl rfl rfl (bch_far _) ⟨rfl, trivial⟩ ?_) 
    refine pu rfl rfl rfl rfl rfl ?_
    refine stg rfl rfl rfl rfl rfl (fun hb => by (have hq := hb; try simp only [zbA] at hq); exact rFld rfl rfl) ?_
    refine stg rfl rfl rfl rfl rfl (fun hb => by (have hq := hb; try simp only [zbA] at hq); exact rLdF rfl (evg rfl hb) rfl) ?_
    refine efg rfl rfl rfl rfl rfl (fun hb => by (have hq := hb; try simp only [zbA] at hq); exact eCallV rfl rfl rfl (bch_far _) ⟨(evg rfl hb), trivial⟩ ⟨rfl, rfl⟩) ?_
    refine st rfl rfl rfl rfl (rOrB rfl rfl rfl rfl) ?_
    refine pu rfl rfl rfl rfl rfl ?_
    refine stg rfl rfl rfl rfl rfl (fun hb => by (have hq := hb; try simp only [zbA] at hq); exact rFld rfl rfl) ?_
    refine stg rfl rfl rfl rfl rfl (fun hb => by (have hq := hb; try simp only [zbA] at hq); exact rLdF rfl (evg rfl hb) rfl) ?_
    refine efg rfl rfl rfl rfl rfl (fun hb => by (have hq := hb; try simp only [zbA] at hq); exact eCallV rfl rfl rfl (bch_far _) ⟨(evg rfl hb), trivial⟩ ⟨rfl, rfl⟩) ?_
    refine st rfl rfl rfl rfl (rOrB rfl rfl rfl rfl) ?_
    refine pu rfl rfl rfl rfl rfl ?_
    refine stg rfl rfl rfl rfl rfl (fun hb => by (have hq := hb; try simp only [zbA] at hq); exact rFld rfl rfl) ?_
    refine stg rfl rfl rfl rfl rfl (fun hb => by (have hq := hb; try simp only [zbA] at hq); exact rLdF rfl (evg rfl hb) rfl) ?_
    refine stg rfl rfl rfl rfl rfl (fun hb => by (have hq := hb; try simp only [zbA] at hq); exact rLss rfl (evg rfl hb) rfl) ?_
    refine st rfl rfl rfl rfl (rOrB rfl rfl rfl rfl) ?_
    refine pu rfl rfl rfl rfl rfl ?_
    refine stg rfl rfl rfl rfl rfl (fun hb => by (have hq := hb; try simp only [zbA] at hq); exact rFld rfl rfl) ?_
    refine stg rfl rfl rfl rfl rfl (fun hb => by (have hq := hb; try simp only [zbA] at hq); exact rLdF rfl (evg rfl hb) rfl) ?_
    refine stg rfl rfl rfl rfl rfl (fun hb => by (have hq := hb; try simp only [zbA] at hq); exact rMove rfl rfl) ?_
    refine stg rfl rfl rfl rfl rfl (fun hb => by (have hq := hb; try simp only [zbA] at hq); exact rGtr rfl (evg rfl hb) (evg rfl hb)) ?_
    refine st rfl rfl rfl rfl (rOrB rfl rfl rfl rfl) ?_
    refine pu rfl rfl rfl rfl rfl ?_
    refine stg rfl rfl rfl rfl rfl (fun hb => by (have hq := hb; try simp only [zbA] at hq); exact rFld rfl rfl) ?_
    refine stg rfl rfl rfl rfl rfl (fun hb => by (have hq := hb; try simp only [zbA] at hq); exact rLdF rfl (evg rfl hb) rfl) ?_
    refine stg rfl rfl rfl rfl rfl (fun hb => by (have hq := hb; try simp only [zbA] at hq); exact rLss rfl (evg rfl hb) rfl) ?_
    refine st rfl rfl rfl rfl (rOrB rfl rfl rfl rfl) ?_
    refine pu rfl rfl rfl rfl rfl ?_
    refine stg rfl rfl rfl rfl rfl (fun hb => by (have hq := hb; try simp only [zbA] at hq); exact rFld rfl rfl) ?_
    refine stg rfl rfl rfl rfl rfl (fun hb => by (have hq := hb; try simp only [zbA] at hq); exact rLdF rfl (evg rfl hb) rfl) ?_
    refine stg rfl rfl rfl rfl rfl (fun hb => by (have hq := hb; try simp only [zbA] at hq); exact rMove rfl rfl) ?_
    refine stg rfl rfl rfl rfl rfl (fun hb => by (have hq := hb; try simp only [zbA] at hq); exact rGtr rfl (evg rfl hb) (evg rfl hb)) ?_
    refine st rfl rfl rfl rfl (rOrB rfl rfl rfl rfl) ?_
    refine pu rfl rfl rfl rfl rfl ?_
    refine tr_cond_bool rfl (fun h3 => ?_) (fun h3 => ?_)
    · try simp only [zbA] at h3
      refine tr_seq ?_
      refine tr_region fun _ _ _ => ?_
      iterate 2 refine pu rfl rfl rfl rfl rfl ?_
      have hA : RunArgs n s t ct x m := by unfold RunArgs Far; omega
      exact tr_ret ⟨trivial, _, _, rfl, ⟨by rw [hchk, if_neg (by omega), if_pos hA], rfl⟩, CSub.nil _, trivial⟩
    · try simp only [zbA] at h3
      have hfar : ¬ RunArgs n s t ct x m := by
        unfold RunArgs Far; omega
      have hb1 : -2147483648 ≤ s ∧ s ≤ 2147483648 ∧ -2147483648 ≤ t ∧ t ≤ 2147483648 ∧ -2147483648 ≤ x ∧ x ≤ 2147483648 := by omega
      refine tr_seq ?_
      refine tr_draw [0, 1, 2, 3, 4, 5, 6, 7, 8, 9, 10, 11, 12, 14, 15, 13, 16, 17, 18, 19] [] mixed (by kernel_rfl) fun _ _ _ => ?_
      refine st rfl rfl rfl rfl (rFld rfl rfl) ?_
      refine st rfl rfl rfl rfl (rLdF rfl rfl rfl) ?_
      refine pu rfl rfl rfl rfl rfl ?_
      refine ef rfl rfl (eCallV rfl rfl rfl (bch_divisor _ _ (by omega) (by omega)) ⟨rfl, rfl, trivial⟩ ?_) 
      iterate 2 refine pu rfl rfl rfl rfl rfl ?_
      refine stg rfl rfl rfl rfl rfl (fun hb => by (have hq := hb; try simp only [zbA] at hq); exact rFld rfl rfl) ?_
      refine stg rfl rfl rfl rfl rfl (fun hb => by (have hq := hb; try simp only [zbA] at hq); exact rLdF rfl (evg rfl hb) rfl) ?_
      refine stg rfl rfl rfl rfl rfl (fun hb => by (have hq := hb; try simp only [zbA] at hq); exact rGtr rfl (evg rfl hb) rfl) ?_
      refine stg rfl rfl rfl rfl rfl (fun hb => by (have hq := hb; try simp only [zbA] at hq); exact rMove rfl (evg rfl hb)) ?_
      refine stg2 rfl rfl rfl rfl rfl (fun hb => by (have hq := hb; try simp only [zbA] at hq); exact rFld rfl rfl) ?_
      refine stg2 rfl rfl rfl rfl rfl (fun hb => by (have hq := hb; try simp only [zbA] at hq); exact rLdF rfl (evg rfl hb) rfl) ?_
      refine stg2 rfl rfl rfl rfl rfl (fun hb => by (have hq := hb; try simp only [zbA] at hq); exact rMove rfl rfl) ?_
      refine stg2 rfl rfl rfl rfl rfl (fun hb => by (have hq := hb; try simp only [zbA] at hq); exact rFld rfl rfl) ?_
      refine stg2 rfl rfl rfl rfl rfl (fun hb => by (have hq := hb; try simp only [zbA] at hq); exact rLdF rfl (evg rfl hb) rfl) ?_
      refine efg2 rfl rfl rfl rfl rfl (fun hb => by (have hq := hb; try simp only [zbA] at hq); exact eCallV rfl rfl rfl (bch_divisor _ _ (by omega) (by omega)) ⟨(evg rfl hb), (evg rfl hb), trivial⟩ ⟨rfl, rfl⟩) ?_
      refine stg2 rfl rfl rfl rfl rfl (fun hb => by (have hq := hb; try simp only [zbA] at hq); exact rGtr rfl (evg rfl hb) (evg rfl hb)) ?_
      refine stg rfl rfl rfl rfl rfl (fun hb => by (have hq := hb; try simp only [zbA] at hq); exact rAndB rfl (evg rfl hb) (evgp rfl hb) rfl) ?_
      refine st rfl rfl rfl rfl (rOrB rfl rfl rfl rfl) ?_
      refine pu rfl rfl rfl rfl rfl ?_
      refine tr_cond_bool rfl (fun h5 => ?_) (fun h5 => ?_)
      · try simp only [zbA] at h5
        skip
        refine tr_seq ?_
        refine tr_region fun _ _ _ => ?_
        iterate 2 refine pu rfl rfl rfl rfl rfl ?_
        exact tr_ret ⟨trivial, _, _, rfl, ⟨by rw [hchk, if_neg (by omega), if_neg hfar, if_pos (show RunBad n t ct x m by unfold RunBad; omega)], rfl⟩, CSub.nil _, trivial⟩
      · try simp only [zbA] at h5
        refine tr_skip ?_
        refine tr_seq ?_
        skip
        refine tr_region fun _ _ _ => ?_
        iterate 2 refine pu rfl rfl rfl rfl rfl ?_
        refine ef rfl rfl (eCall1 rfl rfl rfl (bch_members _ (by omega) (by omega) _ _ _ (by omega)) ⟨rfl, rfl, trivial⟩ ?_) 
        rintro _ _ ⟨B7, rfl, rfl⟩
        refine pu rfl rfl rfl rfl rfl ?_
        refine tr_seq ?_
        refine tr_seq ?_
        refine tr_region fun _ _ _ => ?_
        refine st rfl rfl rfl rfl (rFld rfl rfl) ?_
        refine st rfl rfl rfl rfl (rLdF rfl rfl rfl) ?_
        refine pu rfl rfl rfl rfl rfl ?_
        refine tr_block ?_
        refine tr_loop1 (fun (i : Int) => [(0, .int .i64 n), (5, .pointer (some p0)), (8, .slice B7 n.toNat n.toNat), (78, .int .i64 ct), (79, .int .i64 i)]) (fun (i : Int) => [ow B7 4 n.toNat (bools (memL n zs)), blk p0 29 [.int .i64 s, .int .i64 t, .int .i64 ct, .int .i64 x, .int .i64 m]]) (fun (i : Int) => 0 ≤ i ∧ i ≤ ct ∧ ∀ i2 : Int, 0 ≤ i2 → i2 < i → ∀ j : Int, 0 ≤ j → j ≤ m → Zer n zs (s + i2 * t + j * x)) (fun (i : Int) => (ct - i).toNat) (0) ⟨rfl, rfl, rfl, rfl, rfl, trivial⟩ (by first | exact cs _ _ | exact CSub.refl _) (⟨by omega, by omega, fun i2 h1 h2 => by omega⟩) (fun i hI => ?_)
        obtain ⟨hi0, hi1, hI⟩ := hI
        refine tr_seq ?_
        refine tr_region fun _ _ _ => ?_
        refine pu rfl rfl rfl rfl rfl ?_
        refine tr_seq ?_
        refine tr_cond_bool rfl (fun h9 => ?_) (fun h9 => ?_)
        · try simp only [zbA] at h9
          refine tr_skip ?_
          refine tr_seq ?_
          refine tr_block ?_
          refine tr_seq ?_
          refine tr_region fun _ _ _ => ?_
          iterate 2 refine pu rfl rfl rfl rfl rfl ?_
          refine tr_seq ?_
          refine tr_region fun _ _ _ => ?_
          refine st rfl rfl rfl rfl (rFld rfl rfl) ?_
          refine st rfl rfl rfl rfl (rLdF rfl rfl rfl) ?_
          refine st rfl rfl rfl rfl (rAdd rfl rfl rfl (by omega) (by omega)) ?_
          refine pu rfl rfl rfl rfl rfl ?_
          refine tr_block ?_
          refine tr_loop1 (fun (j : Int) => [(0, .int .i64 n), (5, .pointer (some p0)), (8, .slice B7 n.toNat n.toNat), (78, .int .i64 ct), (79, .int .i64 i), (9, .int .i64 i), (84, .int .i64 (m + 1)), (85, .int .i64 j)]) (fun (j : Int) => [ow B7 4 n.toNat (bools (memL n zs)), blk p0 29 [.int .i64 s, .int .i64 t, .int .i64 ct, .int .i64 x, .int .i64 m]]) (fun (j : Int) => 0 ≤ j ∧ j ≤ m + 1 ∧ ∀ j2 : Int, 0 ≤ j2 → j2 < j → Zer n zs (s + i * t + j2 * x)) (fun (j : Int) => (m + 1 - j).toNat) (0) ⟨rfl, rfl, rfl, rfl, rfl, rfl, rfl, rfl, trivial⟩ (by first | exact cs _ _ | exact CSub.refl _) (⟨by omega, by omega, fun i2 h1 h2 => by omega⟩) (fun j hI => ?_)
          obtain ⟨hj0, hj1, hJ⟩ := hI
          refine tr_seq ?_
          refine tr_region fun _ _ _ => ?_
          refine pu rfl rfl rfl rfl rfl ?_
          refine tr_seq ?_
          refine tr_cond_bool rfl (fun h12 => ?_) (fun h12 => ?_)
          · try simp only [zbA] at h12
            refine tr_skip ?_
            refine tr_seq ?_
            refine tr_block ?_
            refine tr_seq ?_
            refine tr_region fun _ _ _ => ?_
            iterate 2 refine pu rfl rfl rfl rfl rfl ?_
            refine tr_seq ?_
            refine tr_region fun _ _ _ => ?_
            have hp1 := mul_bd i t 64 2147483648 (by omega) (by omega) (by omega) (by omega)
            have hp2 := mul_bd j x 64 2147483648 (by omega) (by omega) (by omega) (by omega)
            have he0 := Int.emod_nonneg (s + i * t + j * x) (show n ≠ 0 by omega)
            have he1 := Int.emod_lt_of_pos (s + i * t + j * x) (show 0 < n by omega)
            have hml := memL_length n zs
            refine pu rfl rfl rfl rfl rfl ?_
            refine st rfl rfl rfl rfl (rFld rfl rfl) ?_
            refine st rfl rfl rfl rfl (rLdF rfl rfl rfl) ?_
            refine pu rfl rfl rfl rfl rfl ?_
            refine st rfl rfl rfl rfl (rFld rfl rfl) ?_
            refine st rfl rfl rfl rfl (rLdF rfl rfl rfl) ?_
            refine st rfl rfl rfl rfl (rMul rfl rfl rfl (by omega) (by omega)) ?_
            refine st rfl rfl rfl rfl (rAdd rfl rfl rfl (by omega) (by omega)) ?_
            refine pu rfl rfl rfl rfl rfl ?_
            refine st rfl rfl rfl rfl (rFld rfl rfl) ?_
            refine st rfl rfl rfl rfl (rLdF rfl rfl rfl) ?_
            refine st rfl rfl rfl rfl (rMul rfl rfl rfl (by omega) (by omega)) ?_
            refine st rfl rfl rfl rfl (rAdd rfl rfl rfl (by omega) (by omega)) ?_
            refine pu rfl rfl rfl rfl rfl ?_
            refine ef rfl rfl (eCallV rfl rfl rfl (bch_modulo _ _ (by omega) (by omega)) ⟨rfl, rfl, trivial⟩ ?_) 
            refine st rfl rfl rfl rfl (rIdxB rfl rfl rfl (by omega) (by omega) (by omega)) ?_
            refine st rfl rfl rfl rfl (rLdB rfl rfl (by omega)) ?_
            refine st rfl rfl rfl rfl (rNotB rfl rfl) ?_
            refine tr_cond_bool rfl (fun h14 => ?_) (fun h14 => ?_)
            · try simp only [zbA] at h14
              refine tr_seq ?_
              refine tr_region fun _ _ _ => ?_
              iterate 2 refine pu rfl rfl rfl rfl rfl ?_
              have hno : ¬ RunOk n zs s t ct x m := fun hr => by
                have h1 := (memL_get n (by omega) zs _).2 (hr i hi0 (by omega) j hj0 (by omega))
                rw [h1] at h14
                cases h14
              exact tr_ret ⟨trivial, _, _, rfl, ⟨by rw [hchk, if_neg (by omega), if_neg hfar, if_neg (show ¬ RunBad n t ct x m by unfold RunBad; omega), if_neg hno], rfl⟩, CSub.nil _, trivial⟩
            · try simp only [zbA] at h14
              refine tr_skip ?_
              refine tr_region fun _ _ _ => ?_
              refine st rfl rfl rfl rfl (rAdd rfl rfl rfl (by omega) (by omega)) ?_
              refine pu rfl rfl rfl rfl rfl ?_
              refine ⟨j + 1, ⟨rfl, rfl, rfl, rfl, rfl, rfl, rfl, rfl, trivial⟩, by first | exact cs _ _ | exact CSub.refl _, ?_⟩
              refine ⟨⟨by omega, by omega, fun j2 h1 h2 => ?_⟩, by omega⟩
              by_cases he : j2 = j
              · subst he; exact (memL_get n (by omega) zs _).1 h14
              · exact hJ j2 h1 (by omega)
          · try simp only [zbA] at h12
            refine tr_exit ?_
            refine tr_region fun _ _ _ => ?_
            refine st rfl rfl rfl rfl (rAdd rfl rfl rfl (by omega) (by omega)) ?_
            refine pu rfl rfl rfl rfl rfl ?_
            refine ⟨i + 1, ⟨rfl, rfl, rfl, rfl, rfl, trivial⟩, by first | exact cs _ _ | exact CSub.refl _, ?_⟩
            refine ⟨⟨by omega, by omega, fun i2 h1 h2 j2 h3 h4 => ?_⟩, by omega⟩
            by_cases he : i2 = i
            · subst he; exact hJ j2 h3 (by omega)
            · exact hI i2 h1 (by omega) j2 h3 h4
        · try simp only [zbA] at h9
          refine tr_exit ?_
          refine tr_seq ?_
          refine tr_region fun _ _ _ => ?_
          refine st rfl rfl rfl rfl (rFld rfl rfl) ?_
          refine st rfl rfl rfl rfl (rLdF rfl rfl rfl) ?_
          refine st rfl rfl rfl rfl (rAdd rfl rfl rfl (by omega) (by omega)) ?_
          refine st rfl rfl rfl rfl (rFld rfl rfl) ?_
          refine st rfl rfl rfl rfl (rLdF rfl rfl rfl) ?_
          refine st rfl rfl rfl rfl (rAdd rfl rfl rfl (by omega) (by omega)) ?_
          iterate 2 refine pu rfl rfl rfl rfl rfl ?_
          have hok : RunOk n zs s t ct x m := fun i2 h1 h2 j h3 h4 => hI i2 h1 (by omega) j h3 h4
          exact tr_ret ⟨trivial, _, _, rfl, ⟨by rw [hchk, if_neg (by omega), if_neg hfar, if_neg (show ¬ RunBad n t ct x m by unfold RunBad; omega), if_pos hok], rfl⟩, CSub.nil _, trivial⟩
theorem ref_CheckArgs_ent : Enters Tryz.prog 42 := enters_of Tryz.func42 (by kernel_rfl) (by kernel_rfl)
theorem ref_CheckArgs (n : Int) (s t ct x m : Int) :
    Pure Tryz.prog 42 #[.int .i64 n, .agg #[.int .i64 s, .int .i64 t, .int .i64 ct, .int .i64 x, .int .i64 m]] [] (isV (.int .i64 (chkA n s t ct x m))) := by
  have hchk := chkA.eq_1 n s t ct x m
  refine pure_of (args := [.int .i64 n, .agg #[.int .i64 s, .int .i64 t, .int .i64 ct, .int .i64 x, .int .i64 m]]) 49 Tryz.func42 rfl rfl rfl ref_CheckArgs_ent trivial (fun w0 => ?_)
  refine tr_seq ?_
  refine tr_region fun _ _ _ => ?_
  refine ef rfl rfl (eBox rfl rfl rfl rfl rfl (fun p0 => ?_)) 
  refine pu rfl rfl rfl rfl rfl ?_
  refine tr_seq ?_
  refine tr_seq ?_
  refine tr_region fun _ _ _ => ?_
  iterate 3 refine pu rfl rfl rfl rfl rfl ?_
  refine stg rfl rfl rfl rfl rfl (fun hb => by (have hq := hb; try simp only [zbA] at hq); exact rMove rfl rfl) ?_
  refine stg rfl rfl rfl rfl rfl (fun hb => by (have hq := hb; try simp only [zbA] at hq); exact rGtr rfl (evg rfl hb) rfl) ?_
  refine st rfl rfl rfl rfl (rOrB rfl rfl rfl rfl) ?_
  refine tr_cond_bool rfl (fun h1 => ?_) (fun h1 => ?_)
  · try simp only [zbA] at h1
    refine tr_seq ?_
    refine tr_region fun _ _ _ => ?_
    refine pu rfl rfl rfl rfl rfl ?_
    exact tr_ret ⟨trivial, _, _, rfl, ⟨by rw [hchk, if_pos (by omega)], rfl⟩, CSub.nil _, trivial⟩
  · try simp only [zbA] at h1
    refine tr_skip ?_
    refine tr_seq ?_
    refine tr_seq ?_
    refine tr_region fun _ _ _ => ?_
    refine st rfl rfl rfl rfl (rFld rfl rfl) ?_
    refine st rfl rfl rfl rfl (rLdF rfl rfl rfl) ?_
    refine ef rfl rfl (eCallV rfl rfl rfl (ref_wide _) ⟨rfl, trivial⟩ ?_) 
    refine st rfl rfl rfl rfl (rNotB rfl rfl) ?_
    refine pu rfl rfl rfl rfl rfl ?_
    refine stg rfl rfl rfl rfl rfl (fun hb => by (have hq := hb; try simp only [zbA] at hq); exact rFld rfl rfl) ?_
    refine stg rfl rfl rfl rfl rfl (fun hb => by (have hq := hb; try simp only [zbA] at hq); exact rLdF rfl (evg rfl hb) rfl) ?_
    refine efg rfl rfl rfl rfl rfl (fun hb => by (have hq := hb; try simp only [zbA] at hq); exact eCallV rfl rfl rfl (ref_wide _) ⟨(evg rfl hb), trivial⟩ ⟨rfl, rfl⟩) ?_
    refine stg rfl rfl rfl rfl rfl (fun hb => by (have hq := hb; try simp only [zbA] at hq); exact rNotB rfl (evg rfl hb)) ?_
    refine st rfl rfl rfl rfl (rOrB rfl rfl rfl rfl) ?_
    refine pu rfl rfl rfl rfl rfl ?_
    refine stg rfl rfl rfl rfl rfl (fun hb => by (have hq := hb; try simp only [zbA] at hq); exact rFld rfl rfl) ?_
    refine stg rfl rfl rfl rfl rfl (fun hb => by (have hq := hb; try simp only [zbA] at hq); exact rLdF rfl (evg rfl hb) rfl) ?_
    refine efg rfl rfl rfl rfl rfl (fun hb => by (have hq := hb; try simp only [zbA] at hq); exact eCallV rfl rfl rfl (ref_wide _) ⟨(evg rfl hb), trivial⟩ ⟨rfl, rfl⟩) ?_
    refine stg rfl rfl rfl rfl rfl (fun hb => by (have hq := hb; try simp only [zbA] at hq); exact rNotB rfl (evg rfl hb)) ?_
    refine st rfl rfl rfl rfl (rOrB rfl rfl rfl rfl) ?_
    refine pu rfl rfl rfl rfl rfl ?_
    refine stg rfl rfl rfl rfl rfl (fun hb => by (have hq := hb; try simp only [zbA] at hq); exact rFld rfl rfl) ?_
    refine stg rfl rfl rfl rfl rfl (fun hb => by (have hq := hb; try simp only [zbA] at hq); exact rLdF rfl (evg rfl hb) rfl) ?_
    refine stg rfl rfl rfl rfl rfl (fun hb => by (have hq := hb; try simp only [zbA] at hq); exact rLss rfl (evg rfl hb) rfl) ?_
    refine st rfl rfl rfl rfl (rOrB rfl rfl rfl rfl) ?_
    refine pu rfl rfl rfl rfl rfl ?_
    refine stg rfl rfl rfl rfl rfl (fun hb => by (have hq := hb; try simp only [zbA] at hq); exact rFld rfl rfl) ?_
    refine stg rfl rfl rfl rfl rfl (fun hb => by (have hq := hb; try simp only [zbA] at hq); exact rLdF rfl (evg rfl hb) rfl) ?_
    refine stg rfl rfl rfl rfl rfl (fun hb => by (have hq := hb; try simp only [zbA] at hq); exact rMove rfl rfl) ?_
    refine stg rfl rfl rfl rfl rfl (fun hb => by (have hq := hb; try simp only [zbA] at hq); exact rGtr rfl (evg rfl hb) (evg rfl hb)) ?_
    refine st rfl rfl rfl rfl (rOrB rfl rfl rfl rfl) ?_
    refine pu rfl rfl rfl rfl rfl ?_
    refine stg rfl rfl rfl rfl rfl (fun hb => by (have hq := hb; try simp only [zbA] at hq); exact rFld rfl rfl) ?_
    refine stg rfl rfl rfl rfl rfl (fun hb => by (have hq := hb; try simp only [zbA] at hq); exact rLdF rfl (evg rfl hb) rfl) ?_
    refine stg rfl rfl rfl rfl rfl (fun hb => by (have hq := hb; try simp only [zbA] at hq); exact rLss rfl (evg rfl hb) rfl) ?_
    refine st rfl rfl rfl rfl (rOrB rfl rfl rfl rfl) ?_
    refine pu rfl rfl rfl rfl rfl ?_
    refine stg rfl rfl rfl rfl rfl (fun hb => by (have hq := hb; try simp only [zbA] at hq); exact rFld rfl rfl) ?_
    refine stg rfl rfl rfl rfl rfl (fun hb => by (have hq := hb; try simp only [zbA] at hq); exact rLdF rfl (evg rfl hb) rfl) ?_
    refine stg rfl rfl rfl rfl rfl (fun hb => by (have hq := hb; try simp only [zbA] at hq); exact rMove rfl rfl) ?_
    refine stg rfl rfl rfl rfl rfl (fun hb => by (have hq := hb; try simp only [zbA] at hq); exact rGtr rfl (evg rfl hb) (evg rfl hb)) ?_
    refine st rfl rfl rfl rfl (rOrB rfl rfl rfl rfl) ?_
    refine tr_cond_bool rfl (fun h3 => ?_) (fun h3 => ?_)
    · try simp only [zbA] at h3
      refine tr_seq ?_
      refine tr_region fun _ _ _ => ?_
      refine pu rfl rfl rfl rfl rfl ?_
      have hA : RunArgs n s t ct x m := by unfold RunArgs Far; omega
      exact tr_ret ⟨trivial, _, _, rfl, ⟨by rw [hchk, if_neg (by omega), if_pos hA], rfl⟩, CSub.nil _, trivial⟩
    · try simp only [zbA] at h3
      refine tr_skip ?_
      refine tr_seq ?_
      refine tr_region fun _ _ _ => ?_
      refine pu rfl rfl rfl rfl rfl ?_
      have hA : ¬ RunArgs n s t ct x m := by unfold RunArgs Far; omega
      exact tr_ret ⟨trivial, _, _, rfl, ⟨by rw [hchk, if_neg (by omega), if_neg hA], rfl⟩, CSub.nil _, trivial⟩
theorem ref_residues_ent : Enters Tryz.prog 45 := enters_of Tryz.func45 (by kernel_rfl) (by kernel_rfl)
theorem ref_residues (n : Int) (hn : 1 ≤ n) (hn2 : n ≤ 100000) (A : Option Addr) (c : Nat) (zs : List Int) (hl : zs.length ≤ 1000000000) :
    Pure Tryz.prog 45 #[.int .i64 n, .slice A zs.length c] [ro A (ints zs)] (one (fun v ch => ∃ B cap, v = .slice B (resid n zs).length cap ∧ ch = ow B 3 cap (ints (resid n zs)))) := by
  refine pure_of (args := [.int .i64 n, .slice A zs.length c]) 23 Tryz.func45 rfl rfl rfl ref_residues_ent ⟨id, trivial⟩ (fun w0 => ?_)
  refine tr_seq ?_
  refine tr_region fun _ _ _ => ?_
  refine pu rfl rfl rfl rfl rfl ?_
  refine tr_seq ?_
  refine tr_region fun _ _ _ => ?_
  refine pu rfl rfl rfl rfl rfl ?_
  refine tr_seq ?_
  refine tr_seq ?_
  refine tr_region fun _ _ _ => ?_
  refine pu rfl rfl rfl rfl rfl ?_
  refine tr_block ?_
  refine tr_nil 3 ?_
  refine tr_loop3 (fun (k : Int) (B : Option Addr) (cap : Nat) => [(0, .int .i64 n), (1, .slice A zs.length c), (5, .slice B (resid n (zs.take k.toNat)).length cap), (6, .int .i64 k)]) (fun (k : Int) (B : Option Addr) (cap : Nat) => [ow B 3 cap (ints (resid n (zs.take k.toNat))), ro A (ints zs)]) (fun (k : Int) (B : Option Addr) (cap : Nat) => 0 ≤ k ∧ k ≤ zs.length) (fun (k : Int) (B : Option Addr) (cap : Nat) => (zs.length - k).toNat) (0) (none) (0) ⟨rfl, rfl, rfl, rfl, trivial⟩ (by first | exact cs _ _ | exact CSub.refl _) (⟨by omega, by omega⟩) (fun k B cap hI => ?_)
  obtain ⟨hk0, hk1⟩ := hI
  have hrl : (resid n (zs.take k.toNat)).length = k.toNat := by simp [resid]; omega
  refine tr_seq ?_
  refine tr_seq ?_
  refine tr_region fun _ _ _ => ?_
  iterate 2 refine pu rfl rfl rfl rfl rfl ?_
  refine st rfl rfl rfl rfl (rLen rfl rfl) ?_
  refine pu rfl rfl rfl rfl rfl ?_
  refine tr_cond_bool rfl (fun h3 => ?_) (fun h3 => ?_)
  · try simp only [zbA] at h3
    refine tr_skip ?_
    refine tr_seq ?_
    refine tr_block ?_
    refine tr_region fun _ _ _ => ?_
    iterate 3 refine pu rfl rfl rfl rfl rfl ?_
    refine st rfl rfl rfl rfl (rIdxI rfl rfl rfl (by omega) (by omega) (by omega)) ?_
    refine st rfl rfl rfl rfl (rLdI rfl rfl (by omega)) ?_
    refine pu rfl rfl rfl rfl rfl ?_
    refine ef rfl rfl (eCallV rfl rfl rfl (ref_mod _ _ (by omega) (by omega)) ⟨rfl, rfl, trivial⟩ ?_) 
    refine ef rfl rfl (eLit1I rfl rfl rfl rfl (fun A5a => ?_)) 
    refine ef rfl rfl (eAppI rfl rfl rfl rfl rfl (by first | rfl | simp) (by first | rfl | simp) (by first | omega | (simp; omega)) (fun A5b c5b => ?_)) 
    refine pu rfl rfl rfl rfl rfl ?_
    refine tr_region fun _ _ _ => ?_
    rw [← resid_snoc, ← take_next 0 zs k hk0 (by omega)]
    refine pu rfl rfl rfl rfl rfl ?_
    refine st rfl rfl rfl rfl (rAdd rfl rfl rfl (by omega) (by omega)) ?_
    refine pu rfl rfl rfl rfl rfl ?_
    refine ⟨k + 1, A5b, c5b, ⟨rfl, rfl, rfl, rfl, trivial⟩, by first | exact cs _ _ | exact CSub.refl _, ?_⟩
    exact ⟨⟨by omega, by omega⟩, by omega⟩
  · try simp only [zbA] at h3
    refine tr_exit ?_
    refine tr_seq ?_
    refine tr_region fun _ _ _ => ?_
    iterate 2 refine pu rfl rfl rfl rfl rfl ?_
    rw [take_len zs k (by omega)]
    exact tr_ret ⟨trivial, _, _, rfl, ⟨_, rfl, _, _, rfl, rfl⟩, cs _ _, trivial, trivial⟩
theorem ref_has_ent : Enters Tryz.prog 46 := enters_of Tryz.func46 (by kernel_rfl) (by kernel_rfl)
theorem ref_has (A : Option Addr) (c : Nat) (l : List Int) (y : Int) (hl : l.length ≤ 1000000000) :
    Pure Tryz.prog 46 #[.slice A l.length c, .int .i64 y] [ro A (ints l)] (isV (.bool (decide (y ∈ l)))) := by
  refine pure_of (args := [.slice A l.length c, .int .i64 y]) 18 Tryz.func46 rfl rfl rfl ref_has_ent ⟨id, trivial⟩ (fun w0 => ?_)
  refine tr_seq ?_
  refine tr_region fun _ _ _ => ?_
  refine pu rfl rfl rfl rfl rfl ?_
  refine tr_seq ?_
  refine tr_seq ?_
  refine tr_region fun _ _ _ => ?_
  refine pu rfl rfl rfl rfl rfl ?_
  refine tr_block ?_
  refine tr_loop1 (fun (k : Int) => [(0, .slice A l.length c), (1, .int .i64 y), (5, .int .i64 k)]) (fun (k : Int) => [ro A (ints l)]) (fun (k : Int) => 0 ≤ k ∧ k ≤ l.length ∧ ¬ y ∈ l.take k.toNat) (fun (k : Int) => (l.length - k).toNat) (0) ⟨rfl, rfl, rfl, trivial⟩ (by first | exact cs _ _ | exact CSub.refl _) (⟨by omega, by omega, by simp⟩) (fun k hI => ?_)
  obtain ⟨hk0, hk1, hk2⟩ := hI
  refine tr_seq ?_
  refine tr_seq ?_
  refine tr_region fun _ _ _ => ?_
  iterate 2 refine pu rfl rfl rfl rfl rfl ?_
  refine st rfl rfl rfl rfl (rLen rfl rfl) ?_
  refine pu rfl rfl rfl rfl rfl ?_
  refine tr_cond_bool rfl (fun h2 => ?_) (fun h2 => ?_)
  · try simp only [zbA] at h2
    refine tr_skip ?_
    refine tr_seq ?_
    refine tr_block ?_
    refine tr_seq ?_
    refine tr_region fun _ _ _ => ?_
    iterate 2 refine pu rfl rfl rfl rfl rfl ?_
    refine st rfl rfl rfl rfl (rIdxI rfl rfl rfl (by omega) (by omega) (by omega)) ?_
    refine st rfl rfl rfl rfl (rLdI rfl rfl (by omega)) ?_
    iterate 2 refine pu rfl rfl rfl rfl rfl ?_
    refine tr_cond_bool rfl (fun h4 => ?_) (fun h4 => ?_)
    · try simp only [zbA] at h4
      refine tr_seq ?_
      refine tr_region fun _ _ _ => ?_
      refine pu rfl rfl rfl rfl rfl ?_
      have hy : y ∈ l := by
        rw [← h4, List.getD_eq_getElem?_getD, List.getElem?_eq_getElem (by omega)]
        exact List.getElem_mem _
      exact tr_ret ⟨trivial, _, _, rfl, ⟨by rw [decide_eq_true hy], rfl⟩, CSub.nil _, trivial⟩
    · try simp only [zbA] at h4
      refine tr_skip ?_
      refine tr_region fun _ _ _ => ?_
      refine pu rfl rfl rfl rfl rfl ?_
      refine st rfl rfl rfl rfl (rAdd rfl rfl rfl (by omega) (by omega)) ?_
      refine pu rfl rfl rfl rfl rfl ?_
      refine ⟨k + 1, ⟨rfl, rfl, rfl, trivial⟩, by first | exact cs _ _ | exact CSub.refl _, ?_⟩
      refine ⟨⟨by omega, by omega, ?_⟩, by omega⟩
      rw [take_next 0 l k hk0 (by omega)]
      intro hm
      rcases List.mem_append.1 hm with hm | hm
      · exact hk2 hm
      · exact h4 (List.mem_singleton.1 hm).symm
  · try simp only [zbA] at h2
    refine tr_exit ?_
    refine tr_seq ?_
    refine tr_region fun _ _ _ => ?_
    refine pu rfl rfl rfl rfl rfl ?_
    rw [take_len l k (by omega)] at hk2
    exact tr_ret ⟨trivial, _, _, rfl, ⟨by rw [decide_eq_false hk2], rfl⟩, CSub.nil _, trivial⟩
theorem ref_Check_ent : Enters Tryz.prog 12 := enters_of Tryz.func12 (by kernel_rfl) (by kernel_rfl)
theorem ref_Check (n : Int) (A : Option Addr) (c : Nat) (zs : List Int) (hl : zs.length ≤ 1000000000) (s t ct x m : Int) :
    Pure Tryz.prog 12 #[.int .i64 n, .slice A zs.length c, .agg #[.int .i64 s, .int .i64 t, .int .i64 ct, .int .i64 x, .int .i64 m]] [ro A (ints zs)] (isV (.tuple #[.int .i64 (chk n zs s t ct x m).1, .int .i64 (chk n zs s t ct x m).2])) := by
  have hchk := chk.eq_1 n zs s t ct x m
  have hca := chkA.eq_1 n s t ct x m
  refine pure_of (args := [.int .i64 n, .slice A zs.length c, .agg #[.int .i64 s, .int .i64 t, .int .i64 ct, .int .i64 x, .int .i64 m]]) 79 Tryz.func12 rfl rfl rfl ref_Check_ent ⟨id, trivial⟩ (fun w0 => ?_)
  refine tr_seq ?_
  refine tr_region fun _ _ _ => ?_
  refine ef rfl rfl (eBox rfl rfl rfl rfl rfl (fun p0 => ?_)) 
  iterate 2 refine pu rfl rfl rfl rfl rfl ?_
  refine tr_seq ?_
  refine tr_region fun _ _ _ => ?_
  refine pu rfl rfl rfl rfl rfl ?_
  refine st rfl rfl rfl rfl (rLdS rfl rfl rfl) ?_
  refine ef rfl rfl (eCallV rfl rfl rfl (ref_CheckArgs _ _ _ _ _ _) ⟨rfl, rfl, trivial⟩ ?_) 
  refine pu rfl rfl rfl rfl rfl ?_
  refine tr_seq ?_
  refine tr_seq ?_
  refine tr_region fun _ _ _ => ?_
  iterate 2 refine pu rfl rfl rfl rfl rfl ?_
  refine tr_cond_bool rfl (fun h2 => ?_) (fun h2 => ?_)
  · try simp only [zbA] at h2
    skip
    refine tr_seq ?_
    refine tr_region fun _ _ _ => ?_
    iterate 3 refine pu rfl rfl rfl rfl rfl ?_
    have hne : n < 1 ∨ n > 64 ∨ RunArgs n s t ct x m := by
      by_cases h5 : n < 1 ∨ n > 64
      · omega
      · rw [hca, if_neg h5] at h2
        by_cases h6 : RunArgs n s t ct x m
        · exact .inr (.inr h6)
        · rw [if_neg h6] at h2; exact absurd rfl h2
    by_cases h5 : n < 1 ∨ n > 64
    · exact tr_ret ⟨trivial, _, _, rfl, ⟨by rw [hchk, hca, if_pos h5, if_pos h5], rfl⟩, CSub.nil _, trivial⟩
    · have h6 : RunArgs n s t ct x m := by
        rcases hne with h | h | h
        · exact absurd (Or.inl h) h5
        · exact absurd (Or.inr h) h5
        · exact h
      exact tr_ret ⟨trivial, _, _, rfl, ⟨by rw [hchk, hca, if_neg h5, if_neg h5, if_pos h6, if_pos h6], rfl⟩, CSub.nil _, trivial⟩
  · try simp only [zbA] at h2
    have hargs := chkA_ok (by omega : chkA n s t ct x m = 0)
    obtain ⟨hn1, hfar⟩ := hargs
    have hfar2 := hfar
    unfold RunArgs Far at hfar2
    have hx0 := Int.emod_nonneg t (show n ≠ 0 by omega)
    have hx1 := Int.emod_nonneg x (show n ≠ 0 by omega)
    have hgt := gcd_emod t n
    have hgx := gcd_emod x n
    refine tr_skip ?_
    refine tr_seq ?_
    refine tr_seq ?_
    refine tr_draw [0, 1, 2, 4, 3, 5, 6, 7, 8, 9, 10, 11, 12, 13, 14, 16, 18, 19, 15, 17, 20, 21, 22] [] mixed (by kernel_rfl) fun _ _ _ => ?_
    refine st rfl rfl rfl rfl (rFld rfl rfl) ?_
    refine st rfl rfl rfl rfl (rLdF rfl rfl rfl) ?_
    iterate 2 refine pu rfl rfl rfl rfl rfl ?_
    refine ef rfl rfl (eCallV rfl rfl rfl (ref_mod _ _ (by omega) (by omega)) ⟨rfl, rfl, trivial⟩ ?_) 
    refine ef rfl rfl (eCallV rfl rfl rfl (ref_Gcd _ _ (by omega) (by omega)) ⟨rfl, rfl, trivial⟩ ?_) 
    iterate 2 refine pu rfl rfl rfl rfl rfl ?_
    refine stg rfl rfl rfl rfl rfl (fun hb => by (have hq := hb; try simp only [zbA] at hq); exact rFld rfl rfl) ?_
    refine stg rfl rfl rfl rfl rfl (fun hb => by (have hq := hb; try simp only [zbA] at hq); exact rLdF rfl (evg rfl hb) rfl) ?_
    refine stg rfl rfl rfl rfl rfl (fun hb => by (have hq := hb; try simp only [zbA] at hq); exact rGtr rfl (evg rfl hb) rfl) ?_
    refine stg rfl rfl rfl rfl rfl (fun hb => by (have hq := hb; try simp only [zbA] at hq); exact rMove rfl (evg rfl hb)) ?_
    refine stg2 rfl rfl rfl rfl rfl (fun hb => by (have hq := hb; try simp only [zbA] at hq); exact rFld rfl rfl) ?_
    refine stg2 rfl rfl rfl rfl rfl (fun hb => by (have hq := hb; try simp only [zbA] at hq); exact rLdF rfl (evg rfl hb) rfl) ?_
    refine stg2 rfl rfl rfl rfl rfl (fun hb => by (have hq := hb; try simp only [zbA] at hq); exact rMove rfl rfl) ?_
    refine stg2 rfl rfl rfl rfl rfl (fun hb => by (have hq := hb; try simp only [zbA] at hq); exact rMove rfl rfl) ?_
    refine stg2 rfl rfl rfl rfl rfl (fun hb => by (have hq := hb; try simp only [zbA] at hq); exact rFld rfl rfl) ?_
    refine stg2 rfl rfl rfl rfl rfl (fun hb => by (have hq := hb; try simp only [zbA] at hq); exact rLdF rfl (evg rfl hb) rfl) ?_
    refine efg2 rfl rfl rfl rfl rfl (fun hb => by (have hq := hb; try simp only [zbA] at hq); exact eCallV rfl rfl rfl (ref_mod _ _ (by omega) (by omega)) ⟨(evg rfl hb), (evg rfl hb), trivial⟩ ⟨rfl, rfl⟩) ?_
    refine efg2 rfl rfl rfl rfl rfl (fun hb => by (have hq := hb; try simp only [zbA] at hq); exact eCallV rfl rfl rfl (ref_Gcd _ _ (by omega) (by omega)) ⟨(evg rfl hb), (evg rfl hb), trivial⟩ ⟨rfl, rfl⟩) ?_
    refine stg2 rfl rfl rfl rfl rfl (fun hb => by (have hq := hb; try simp only [zbA] at hq); exact rGtr rfl (evg rfl hb) (evg rfl hb)) ?_
    refine stg rfl rfl rfl rfl rfl (fun hb => by (have hq := hb; try simp only [zbA] at hq); exact rAndB rfl (evg rfl hb) (evgp rfl hb) rfl) ?_
    refine st rfl rfl rfl rfl (rOrB rfl rfl rfl rfl) ?_
    refine tr_cond_bool rfl (fun h4 => ?_) (fun h4 => ?_)
    · try simp only [zbA] at h4
      refine tr_seq ?_
      refine tr_region fun _ _ _ => ?_
      iterate 2 refine pu rfl rfl rfl rfl rfl ?_
      exact tr_ret ⟨trivial, _, _, rfl, ⟨by rw [hchk, if_neg (by omega), if_neg hfar, if_pos (show RunBad n t ct x m by unfold RunBad; omega)], rfl⟩, CSub.nil _, trivial⟩
    · try simp only [zbA] at h4
      refine tr_skip ?_
      refine tr_seq ?_
      refine tr_region fun _ _ _ => ?_
      iterate 2 refine pu rfl rfl rfl rfl rfl ?_
      refine ef rfl rfl (eCall1 rfl rfl rfl (ref_residues _ (by omega) (by omega) _ _ _ (by omega)) ⟨rfl, rfl, trivial⟩ ?_) 
      rintro _ _ ⟨B6, c6, rfl, rfl⟩
      refine pu rfl rfl rfl rfl rfl ?_
      refine tr_seq ?_
      refine tr_seq ?_
      refine tr_region fun _ _ _ => ?_
      refine pu rfl rfl rfl rfl rfl ?_
      refine tr_block ?_
      refine tr_loop1 (fun (i : Int) => [(0, .int .i64 n), (5, .pointer (some p0)), (9, .slice B6 (resid n zs).length c6), (10, .int .i64 i)]) (fun (i : Int) => [ow B6 3 c6 (ints (resid n zs)), blk p0 29 [.int .i64 s, .int .i64 t, .int .i64 ct, .int .i64 x, .int .i64 m]]) (fun (i : Int) => 0 ≤ i ∧ i ≤ ct ∧ ∀ i2 : Int, 0 ≤ i2 → i2 < i → ∀ j : Int, 0 ≤ j → j ≤ m → Zer n zs (s + i2 * t + j * x)) (fun (i : Int) => (ct - i).toNat) (0) ⟨rfl, rfl, rfl, rfl, trivial⟩ (by first | exact cs _ _ | exact CSub.refl _) (⟨by omega, by omega, fun i2 h1 h2 => by omega⟩) (fun i hI => ?_)
      obtain ⟨hi0, hi1, hI⟩ := hI
      refine tr_seq ?_
      refine tr_seq ?_
      refine tr_region fun _ _ _ => ?_
      refine pu rfl rfl rfl rfl rfl ?_
      refine st rfl rfl rfl rfl (rFld rfl rfl) ?_
      refine st rfl rfl rfl rfl (rLdF rfl rfl rfl) ?_
      refine pu rfl rfl rfl rfl rfl ?_
      refine tr_cond_bool rfl (fun h8 => ?_) (fun h8 => ?_)
      · try simp only [zbA] at h8
        refine tr_skip ?_
        refine tr_seq ?_
        refine tr_block ?_
        refine tr_seq ?_
        refine tr_region fun _ _ _ => ?_
        refine pu rfl rfl rfl rfl rfl ?_
        refine tr_block ?_
        refine tr_loop1 (fun (j : Int) => [(0, .int .i64 n), (5, .pointer (some p0)), (9, .slice B6 (resid n zs).length c6), (10, .int .i64 i), (11, .int .i64 j)]) (fun (j : Int) => [ow B6 3 c6 (ints (resid n zs)), blk p0 29 [.int .i64 s, .int .i64 t, .int .i64 ct, .int .i64 x, .int .i64 m]]) (fun (j : Int) => 0 ≤ j ∧ j ≤ m + 1 ∧ ∀ j2 : Int, 0 ≤ j2 → j2 < j → Zer n zs (s + i * t + j2 * x)) (fun (j : Int) => (m + 1 - j).toNat) (0) ⟨rfl, rfl, rfl, rfl, rfl, trivial⟩ (by first | exact cs _ _ | exact CSub.refl _) (⟨by omega, by omega, fun i2 h1 h2 => by omega⟩) (fun j hI => ?_)
        obtain ⟨hj0, hj1, hJ⟩ := hI
        refine tr_seq ?_
        refine tr_seq ?_
        refine tr_region fun _ _ _ => ?_
        refine pu rfl rfl rfl rfl rfl ?_
        refine st rfl rfl rfl rfl (rFld rfl rfl) ?_
        refine st rfl rfl rfl rfl (rLdF rfl rfl rfl) ?_
        refine pu rfl rfl rfl rfl rfl ?_
        refine tr_cond_bool rfl (fun h11 => ?_) (fun h11 => ?_)
        · try simp only [zbA] at h11
          refine tr_skip ?_
          refine tr_seq ?_
          refine tr_block ?_
          refine tr_seq ?_
          refine tr_region fun _ _ _ => ?_
          have hp1 := mul_bd i t 64 2147483648 (by omega) (by omega) (by omega) (by omega)
          have hp2 := mul_bd j x 64 2147483648 (by omega) (by omega) (by omega) (by omega)
          have he0 := Int.emod_nonneg (s + i * t + j * x) (show n ≠ 0 by omega)
          have he1 := Int.emod_lt_of_pos (s + i * t + j * x) (show 0 < n by omega)
          have hml := memL_length n zs
          have hrl : (resid n zs).length = zs.length := by simp [resid]
          refine pu rfl rfl rfl rfl rfl ?_
          refine st rfl rfl rfl rfl (rFld rfl rfl) ?_
          refine st rfl rfl rfl rfl (rLdF rfl rfl rfl) ?_
          refine pu rfl rfl rfl rfl rfl ?_
          refine st rfl rfl rfl rfl (rFld rfl rfl) ?_
          refine st rfl rfl rfl rfl (rLdF rfl rfl rfl) ?_
          refine st rfl rfl rfl rfl (rMul rfl rfl rfl (by omega) (by omega)) ?_
          refine st rfl rfl rfl rfl (rAdd rfl rfl rfl (by omega) (by omega)) ?_
          refine pu rfl rfl rfl rfl rfl ?_
          refine st rfl rfl rfl rfl (rFld rfl rfl) ?_
          refine st rfl rfl rfl rfl (rLdF rfl rfl rfl) ?_
          refine st rfl rfl rfl rfl (rMul rfl rfl rfl (by omega) (by omega)) ?_
          refine st rfl rfl rfl rfl (rAdd rfl rfl rfl (by omega) (by omega)) ?_
          refine pu rfl rfl rfl rfl rfl ?_
          refine ef rfl rfl (eCallV rfl rfl rfl (ref_mod _ _ (by omega) (by omega)) ⟨rfl, rfl, trivial⟩ ?_) 
          refine ef rfl rfl (eCallV rfl rfl rfl (ref_has _ _ _ _ (by omega)) ⟨rfl, rfl, trivial⟩ ?_) 
          refine st rfl rfl rfl rfl (rNotB rfl rfl) ?_
          refine tr_cond_bool rfl (fun h13 => ?_) (fun h13 => ?_)
          · try simp only [zbA] at h13
            refine tr_seq ?_
            refine tr_region fun _ _ _ => ?_
            iterate 2 refine pu rfl rfl rfl rfl rfl ?_
            have hno : ¬ RunOk n zs s t ct x m := fun hr => h13 ((resid_mem n zs _).2 (hr i hi0 (by omega) j hj0 (by omega)))
            exact tr_ret ⟨trivial, _, _, rfl, ⟨by rw [hchk, if_neg (by omega), if_neg hfar, if_neg (show ¬ RunBad n t ct x m by unfold RunBad; omega), if_neg hno], rfl⟩, CSub.nil _, trivial⟩
          · try simp only [zbA] at h13
            refine tr_skip ?_
            refine tr_region fun _ _ _ => ?_
            refine pu rfl rfl rfl rfl rfl ?_
            refine st rfl rfl rfl rfl (rAdd rfl rfl rfl (by omega) (by omega)) ?_
            refine pu rfl rfl rfl rfl rfl ?_
            refine ⟨j + 1, ⟨rfl, rfl, rfl, rfl, rfl, trivial⟩, by first | exact cs _ _ | exact CSub.refl _, ?_⟩
            refine ⟨⟨by omega, by omega, fun j2 h1 h2 => ?_⟩, by omega⟩
            by_cases he : j2 = j
            · subst he; exact (resid_mem n zs _).1 h13
            · exact hJ j2 h1 (by omega)
        · try simp only [zbA] at h11
          refine tr_exit ?_
          refine tr_region fun _ _ _ => ?_
          refine pu rfl rfl rfl rfl rfl ?_
          refine st rfl rfl rfl rfl (rAdd rfl rfl rfl (by omega) (by omega)) ?_
          refine pu rfl rfl rfl rfl rfl ?_
          refine ⟨i + 1, ⟨rfl, rfl, rfl, rfl, trivial⟩, by first | exact cs _ _ | exact CSub.refl _, ?_⟩
          refine ⟨⟨by omega, by omega, fun i2 h1 h2 j2 h3 h4 => ?_⟩, by omega⟩
          by_cases he : i2 = i
          · subst he; exact hJ j2 h3 (by omega)
          · exact hI i2 h1 (by omega) j2 h3 h4
      · try simp only [zbA] at h8
        refine tr_exit ?_
        refine tr_seq ?_
        refine tr_region fun _ _ _ => ?_
        refine st rfl rfl rfl rfl (rFld rfl rfl) ?_
        refine st rfl rfl rfl rfl (rLdF rfl rfl rfl) ?_
        refine st rfl rfl rfl rfl (rAdd rfl rfl rfl (by omega) (by omega)) ?_
        refine st rfl rfl rfl rfl (rFld rfl rfl) ?_
        refine st rfl rfl rfl rfl (rLdF rfl rfl rfl) ?_
        refine st rfl rfl rfl rfl (rAdd rfl rfl rfl (by omega) (by omega)) ?_
        iterate 2 refine pu rfl rfl rfl rfl rfl ?_
        have hok : RunOk n zs s t ct x m := fun i2 h1 h2 j h3 h4 => hI i2 h1 (by omega) j h3 h4
        exact tr_ret ⟨trivial, _, _, rfl, ⟨by rw [hchk, if_neg (by omega), if_neg hfar, if_neg (show ¬ RunBad n t ct x m by unfold RunBad; omega), if_pos hok], rfl⟩, CSub.nil _, trivial⟩
end Go.Proofs.YtgnmcoegdogfgaaGreat

set_option linter.unusedSimpArgs false
set_option linter.unusedVariables false
namespace Go.Proofs.YtgnmcoegdogfgaaGreat
def stp (q n : Int) : Nat → Int → Int
  | 0, i => i
  | k + 1, i => stp q n k i * q % n
def Orb (q n i j : Int) : Prop := ∃ k, j = stp q n k i
theorem stp_bd {q n i : Int} (hn : 1 ≤ n) (hi : 0 ≤ i ∧ i < n) : ∀ k, 0 ≤ stp q n k i ∧ stp q n k i < n
  | 0 => hi
  | k + 1 => ⟨Int.emod_nonneg _ (by omega), Int.emod_lt_of_pos _ (by omega)⟩
theorem stp_add (q n i : Int) (a : Nat) : ∀ b, stp q n b (stp q n a i) = stp q n (a + b) i
  | 0 => rfl
  | b + 1 => by rw [stp, stp_add q n i a b, ← Nat.add_assoc, stp]
theorem Orb.refl (q n i : Int) : Orb q n i i := ⟨0, rfl⟩
theorem Orb.trans {q n i j k : Int} (h : Orb q n i j) (h' : Orb q n j k) : Orb q n i k := by
  obtain ⟨a, rfl⟩ := h
  obtain ⟨b, rfl⟩ := h'
  exact ⟨a + b, stp_add q n i a b⟩
theorem mul_inj_mod {q n a b : Int} (hg : Int.gcd q n = 1) (ha : 0 ≤ a ∧ a < n) (hb : 0 ≤ b ∧ b < n) (h : a * q % n = b * q % n) : a = b := by
  have h1 : n ∣ (a - b) * q := by
    rw [Int.sub_mul]
    exact Int.dvd_of_emod_eq_zero (Int.emod_eq_emod_iff_emod_sub_eq_zero.1 h)
  have h2 : n.natAbs ∣ (a - b).natAbs * q.natAbs := by
    rw [← Int.natAbs_mul]
    exact Int.natAbs_dvd_natAbs.2 h1
  have h3 : n.natAbs ∣ (a - b).natAbs := Nat.Coprime.dvd_of_dvd_mul_right (by
    show Nat.gcd n.natAbs q.natAbs = 1
    rw [Nat.gcd_comm]; exact hg) h2
  rcases Nat.eq_zero_or_pos (a - b).natAbs with h4 | h4
  · omega
  · have := Nat.le_of_dvd h4 h3
    omega
theorem stp_inj {q n i j : Int} (hg : Int.gcd q n = 1) (hn : 1 ≤ n) (hi : 0 ≤ i ∧ i < n) (hj : 0 ≤ j ∧ j < n) : ∀ k, stp q n k i = stp q n k j → i = j
  | 0, h => h
  | k + 1, h => stp_inj hg hn hi hj k (mul_inj_mod hg (stp_bd hn hi k) (stp_bd hn hj k) h)
theorem stp_back {q n i : Int} (hg : Int.gcd q n = 1) (hn : 1 ≤ n) (hi : 0 ≤ i ∧ i < n) : ∃ d, 1 ≤ d ∧ stp q n d i = i := by
  refine Classical.byContradiction fun hno => ?_
  have hd : ((List.range (n.toNat + 1)).map fun k => stp q n k i + 1).Nodup := by
    refine List.pairwise_map.2 (List.nodup_range.imp_of_mem fun {a b} ha hb hab h => ?_)
    have key : ∀ a b : Nat, a < b → stp q n a i + 1 = stp q n b i + 1 → False := fun a b hlt h => by
      apply hno
      refine ⟨b - a, by omega, ?_⟩
      have h1 : stp q n a (stp q n (b - a) i) = stp q n a i := by
        rw [stp_add, show b - a + a = b by omega]; omega
      exact stp_inj hg hn (stp_bd hn hi _) hi a h1
    rcases Nat.lt_or_gt_of_ne hab with h' | h'
    · exact key a b h' h
    · exact key b a h' h.symm
  have := nodup_len n.toNat _ hd (fun y hy => by
    obtain ⟨k, _, rfl⟩ := List.mem_map.1 hy
    have := stp_bd (q := q) hn hi k
    omega)
  simp at this
  omega
theorem Orb.symm {q n i j : Int} (hg : Int.gcd q n = 1) (hn : 1 ≤ n) (hi : 0 ≤ i ∧ i < n) (h : Orb q n i j) : Orb q n j i := by
  obtain ⟨k, rfl⟩ := h
  obtain ⟨d, hd, hb⟩ := stp_back hg hn hi
  have h1 : ∀ m, stp q n (d * m) i = i := fun m => by
    induction m with
    | zero => rfl
    | succ m ih => rw [Nat.mul_succ, ← stp_add, ih, hb]
  refine ⟨d * k - k, ?_⟩
  have h2 : k ≤ d * k := Nat.le_mul_of_pos_left k (by omega)
  rw [stp_add, show k + (d * k - k) = d * k by omega, h1]
theorem mem_upI {k : Nat} {x : Int} : x ∈ upI k ↔ 0 ≤ x ∧ x < k := by
  unfold upI
  rw [List.mem_map]
  constructor
  · rintro ⟨a, ha, rfl⟩
    have := List.mem_range.1 ha
    omega
  · rintro ⟨h1, h2⟩
    exact ⟨x.toNat, List.mem_range.2 (by omega), by omega⟩
end Go.Proofs.YtgnmcoegdogfgaaGreat

set_option linter.unusedSimpArgs false
set_option linter.unusedVariables false
set_option maxRecDepth 100000
namespace Go.Proofs.YtgnmcoegdogfgaaGreat
open Go.RowKit
end Go.Proofs.YtgnmcoegdogfgaaGreat

set_option linter.unusedSimpArgs false
set_option linter.unusedVariables false
set_option maxRecDepth 100000
namespace Go.Proofs.YtgnmcoegdogfgaaGreat
open Go.RowKit
theorem take_eq_next {α : Type} (d : α) (a b : List α) {k : Nat} (hl : a.length = b.length) (hk : k < a.length) (h : a.take k = b.take k) (he : a.getD k d = b.getD k d) : a.take (k + 1) = b.take (k + 1) := by
  rw [List.take_add_one, List.take_add_one, h, List.getElem?_eq_getElem hk, List.getElem?_eq_getElem (show k < b.length by omega)]
  rw [List.getD_eq_getElem?_getD, List.getElem?_eq_getElem hk, List.getD_eq_getElem?_getD, List.getElem?_eq_getElem (show k < b.length by omega)] at he
  simp only [Option.getD_some] at he
  rw [he]
theorem xs_getD (rs : List RowM) (k : Nat) : (rs.map (·.xs)).getD k [] = (rs.getD k rowD).xs := by
  simp only [List.getD_eq_getElem?_getD, List.getElem?_map]
  cases rs[k]? <;> rfl
theorem ref_SameInts_ent : Enters Tryz.prog 99 := enters_of Tryz.func99 (by kernel_rfl) (by kernel_rfl)
theorem ref_SameInts (A : Option Addr) (n c : Nat) (a : List Int) (hn : n = a.length) (B : Option Addr) (m d : Nat) (b : List Int) (hm : m = b.length) (h9 : a.length ≤ 1000000000000) :
    Pure Tryz.prog 99 #[.slice A n c, .slice B m d] [ro A (ints a), ro B (ints b)] (isV (.bool (decide (a = b)))) := by
  refine pure_of (args := [.slice A n c, .slice B m d]) 26 Tryz.func99 rfl rfl rfl ref_SameInts_ent ⟨id, id, trivial⟩ (fun w0 => ?_)
  refine tr_seq ?_
  refine tr_region fun _ _ _ => ?_
  refine pu rfl rfl rfl rfl rfl ?_
  refine tr_seq ?_
  refine tr_seq ?_
  refine tr_region fun _ _ _ => ?_
  refine pu rfl rfl rfl rfl rfl ?_
  refine st rfl rfl rfl rfl (rLen rfl rfl) ?_
  refine pu rfl rfl rfl rfl rfl ?_
  refine st rfl rfl rfl rfl (rLen rfl rfl) ?_
  refine pu rfl rfl rfl rfl rfl ?_
  refine tr_cond_bool rfl (fun h1 => ?_) (fun h1 => ?_)
  · try simp only [zbA] at h1
    refine tr_seq ?_
    refine tr_region fun _ _ _ => ?_
    refine pu rfl rfl rfl rfl rfl ?_
    exact tr_ret ⟨trivial, _, _, rfl, ⟨by rw [decide_eq_false (fun h => by rw [h] at hn; omega)], rfl⟩, CSub.nil _, trivial⟩
  · try simp only [zbA] at h1
    refine tr_skip ?_
    refine tr_seq ?_
    refine tr_seq ?_
    refine tr_region fun _ _ _ => ?_
    refine pu rfl rfl rfl rfl rfl ?_
    refine tr_block ?_
    refine tr_loop1 (fun (i : Nat) => [(0, .slice A n c), (1, .slice B m d), (5, .int .i64 i)]) (fun (i : Nat) => [ro A (ints a), ro B (ints b)]) (fun (i : Nat) => i ≤ a.length ∧ a.take i = b.take i) (fun (i : Nat) => a.length - i) (0) ⟨rfl, rfl, rfl, trivial⟩ (by first | exact cs _ _ | exact CSub.refl _) (⟨by omega, rfl⟩) (fun i hI => ?_)
    obtain ⟨hi, ht⟩ := hI
    have hll : a.length = b.length := by omega
    refine tr_seq ?_
    refine tr_seq ?_
    refine tr_region fun _ _ _ => ?_
    iterate 2 refine pu rfl rfl rfl rfl rfl ?_
    refine st rfl rfl rfl rfl (rLen rfl rfl) ?_
    refine pu rfl rfl rfl rfl rfl ?_
    refine tr_cond_bool rfl (fun h4 => ?_) (fun h4 => ?_)
    · try simp only [zbA] at h4
      refine tr_skip ?_
      refine tr_seq ?_
      refine tr_block ?_
      refine tr_seq ?_
      refine tr_draw [0, 1, 2, 3, 4, 5, 6, 7, 8] [] mixed (by kernel_rfl) fun _ _ _ => ?_
      iterate 2 refine pu rfl rfl rfl rfl rfl ?_
      refine st rfl rfl rfl rfl (rIdxI rfl rfl rfl (by omega) (by omega) (by omega)) ?_
      refine st rfl rfl rfl rfl (rLdI rfl rfl (by omega)) ?_
      iterate 2 refine pu rfl rfl rfl rfl rfl ?_
      refine st rfl rfl rfl rfl (rIdxI rfl rfl rfl (by omega) (by omega) (by omega)) ?_
      refine st rfl rfl rfl rfl (rLdI rfl rfl (by omega)) ?_
      refine pu rfl rfl rfl rfl rfl ?_
      refine tr_cond_bool rfl (fun h6 => ?_) (fun h6 => ?_)
      · try simp only [zbA] at h6
        refine tr_seq ?_
        refine tr_region fun _ _ _ => ?_
        refine pu rfl rfl rfl rfl rfl ?_
        exact tr_ret ⟨trivial, _, _, rfl, ⟨by rw [decide_eq_false (fun h => h6 (by rw [h]))], rfl⟩, CSub.nil _, trivial⟩
      · try simp only [zbA] at h6
        refine tr_skip ?_
        refine tr_region fun _ _ _ => ?_
        refine pu rfl rfl rfl rfl rfl ?_
        refine st rfl rfl rfl rfl (rAdd rfl rfl rfl (by omega) (by omega)) ?_
        refine pu rfl rfl rfl rfl rfl ?_
        refine ⟨i + 1, ⟨rfl, rfl, rfl, trivial⟩, by first | exact cs _ _ | exact CSub.refl _, ?_⟩
        exact ⟨⟨by omega, take_eq_next 0 a b hll (by omega) ht (by simpa using h6)⟩, by omega⟩
    · try simp only [zbA] at h4
      refine tr_exit ?_
      refine tr_seq ?_
      refine tr_region fun _ _ _ => ?_
      refine pu rfl rfl rfl rfl rfl ?_
      have hia : i = a.length := by omega
      rw [hia, List.take_length, hll, List.take_length] at ht
      exact tr_ret ⟨trivial, _, _, rfl, ⟨by rw [decide_eq_true ht], rfl⟩, CSub.nil _, trivial⟩
theorem ref_SameRows_ent : Enters Tryz.prog 54 := enters_of Tryz.func54 (by kernel_rfl) (by kernel_rfl)
theorem ref_SameRows (A : Option Addr) (n c : Nat) (rs : List RowM) (hn : n = rs.length) (B : Option Addr) (m d : Nat) (qs : List RowM) (hm : m = qs.length) (h9 : rs.length ≤ 1000000000000) (h8 : ∀ r ∈ rs, r.xs.length ≤ 1000000000000) :
    Pure Tryz.prog 54 #[.slice A n c, .slice B m d] [ro A (hdrs rs), rowsR rs, ro B (hdrs qs), rowsR qs] (isV (.bool (decide (rs.map (·.xs) = qs.map (·.xs))))) := by
  refine pure_of (args := [.slice A n c, .slice B m d]) 27 Tryz.func54 rfl rfl rfl ref_SameRows_ent ⟨id, id, id, id, trivial⟩ (fun w0 => ?_)
  refine tr_seq ?_
  refine tr_region fun _ _ _ => ?_
  refine pu rfl rfl rfl rfl rfl ?_
  refine tr_seq ?_
  refine tr_seq ?_
  refine tr_region fun _ _ _ => ?_
  refine pu rfl rfl rfl rfl rfl ?_
  refine st rfl rfl rfl rfl (rLen rfl rfl) ?_
  refine pu rfl rfl rfl rfl rfl ?_
  refine st rfl rfl rfl rfl (rLen rfl rfl) ?_
  refine pu rfl rfl rfl rfl rfl ?_
  refine tr_cond_bool rfl (fun h1 => ?_) (fun h1 => ?_)
  · try simp only [zbA] at h1
    refine tr_seq ?_
    refine tr_region fun _ _ _ => ?_
    refine pu rfl rfl rfl rfl rfl ?_
    exact tr_ret ⟨trivial, _, _, rfl, ⟨by rw [decide_eq_false (fun h => by have := congrArg List.length h; simp at this; omega)], rfl⟩, CSub.nil _, trivial⟩
  · try simp only [zbA] at h1
    refine tr_skip ?_
    refine tr_seq ?_
    refine tr_seq ?_
    refine tr_region fun _ _ _ => ?_
    refine pu rfl rfl rfl rfl rfl ?_
    refine tr_block ?_
    refine tr_loop1 (fun (i : Nat) => [(0, .slice A n c), (1, .slice B m d), (5, .int .i64 i)]) (fun (i : Nat) => [ro A (hdrs rs), rowsR rs, ro B (hdrs qs), rowsR qs]) (fun (i : Nat) => i ≤ rs.length ∧ (rs.map (·.xs)).take i = (qs.map (·.xs)).take i) (fun (i : Nat) => rs.length - i) (0) ⟨rfl, rfl, rfl, trivial⟩ (by first | exact cs _ _ | exact CSub.refl _) (⟨by omega, rfl⟩) (fun i hI => ?_)
    obtain ⟨hi, ht⟩ := hI
    have hll : rs.length = qs.length := by omega
    refine tr_seq ?_
    refine tr_seq ?_
    refine tr_region fun _ _ _ => ?_
    iterate 2 refine pu rfl rfl rfl rfl rfl ?_
    refine st rfl rfl rfl rfl (rLen rfl rfl) ?_
    refine pu rfl rfl rfl rfl rfl ?_
    refine tr_cond_bool rfl (fun h4 => ?_) (fun h4 => ?_)
    · try simp only [zbA] at h4
      refine tr_skip ?_
      refine tr_seq ?_
      refine tr_block ?_
      refine tr_seq ?_
      haveI : InB (i : Int).toNat rs.length := ⟨by omega⟩
      haveI : InB (i : Int).toNat qs.length := ⟨by omega⟩
      have hr8 := h8 _ (getD_mem (show (i : Int).toNat < rs.length by omega) rowD)
      refine tr_draw [0, 1, 2, 3, 4, 5, 6, 7, 8, 9] [] mixed (by kernel_rfl) fun _ _ _ => ?_
      iterate 2 refine pu rfl rfl rfl rfl rfl ?_
      refine st rfl rfl rfl rfl (rIdxR rfl rfl rfl (by omega) (by omega) (by omega)) ?_
      refine st rfl rfl rfl rfl (rLdR rfl rfl (by omega)) ?_
      iterate 2 refine pu rfl rfl rfl rfl rfl ?_
      refine st rfl rfl rfl rfl (rIdxR rfl rfl rfl (by omega) (by omega) (by omega)) ?_
      refine st rfl rfl rfl rfl (rLdR rfl rfl (by omega)) ?_
      refine ef rfl rfl (eCallV rfl rfl rfl (ref_SameInts _ _ _ _ (by first | rfl | simp | omega) _ _ _ _ (by first | rfl | simp | omega) (by omega)) ⟨rfl, rfl, trivial⟩ ?_) 
      refine st rfl rfl rfl rfl (rNotB rfl rfl) ?_
      refine tr_cond_bool rfl (fun h6 => ?_) (fun h6 => ?_)
      · try simp only [zbA] at h6
        refine tr_seq ?_
        refine tr_region fun _ _ _ => ?_
        refine pu rfl rfl rfl rfl rfl ?_
        exact tr_ret ⟨trivial, _, _, rfl, ⟨by rw [decide_eq_false (fun h => by have := congrArg (fun l => l.getD i []) h; simp only [xs_getD] at this; simp only [Int.toNat_natCast] at h6; exact h6 this)], rfl⟩, CSub.nil _, trivial⟩
      · try simp only [zbA] at h6
        refine tr_skip ?_
        refine tr_region fun _ _ _ => ?_
        refine pu rfl rfl rfl rfl rfl ?_
        refine st rfl rfl rfl rfl (rAdd rfl rfl rfl (by omega) (by omega)) ?_
        refine pu rfl rfl rfl rfl rfl ?_
        refine ⟨i + 1, ⟨rfl, rfl, rfl, trivial⟩, by first | exact cs _ _ | exact CSub.refl _, ?_⟩
        exact ⟨⟨by omega, take_eq_next [] _ _ (by simpa using hll) (by rw [List.length_map]; omega) ht (by rw [xs_getD, xs_getD]; simpa using h6)⟩, by omega⟩
    · try simp only [zbA] at h4
      refine tr_exit ?_
      refine tr_seq ?_
      refine tr_region fun _ _ _ => ?_
      refine pu rfl rfl rfl rfl rfl ?_
      have hia : i = rs.length := by omega
      have h5 : (rs.map (fun r : RowM => r.xs)).length = i := by rw [List.length_map]; omega
      have h7 : (qs.map (fun r : RowM => r.xs)).length = i := by rw [List.length_map]; omega
      rw [List.take_of_length_le (by omega), List.take_of_length_le (by omega)] at ht
      exact tr_ret ⟨trivial, _, _, rfl, ⟨by rw [decide_eq_true ht], rfl⟩, CSub.nil _, trivial⟩
end Go.Proofs.YtgnmcoegdogfgaaGreat

set_option linter.unusedSimpArgs false
set_option linter.unusedVariables false
set_option maxRecDepth 100000
namespace Go.Proofs.YtgnmcoegdogfgaaGreat
open Go.RowKit
end Go.Proofs.YtgnmcoegdogfgaaGreat

set_option linter.unusedSimpArgs false
set_option linter.unusedVariables false
namespace Go.Proofs.YtgnmcoegdogfgaaGreat
end Go.Proofs.YtgnmcoegdogfgaaGreat

set_option linter.unusedSimpArgs false
set_option linter.unusedVariables false
set_option maxRecDepth 100000
namespace Go.Proofs.YtgnmcoegdogfgaaGreat
open Go.RowKit
end Go.Proofs.YtgnmcoegdogfgaaGreat

set_option linter.unusedSimpArgs false
set_option linter.unusedVariables false
namespace Go.Proofs.YtgnmcoegdogfgaaGreat
namespace Rg
section
variable {R : Type} [Rg R]
def nc : Nat → R
  | 0 => 0
  | 1 => 1
  | n + 2 => nc (n + 1) + 1
theorem nc_succ : ∀ n : Nat, (nc (n + 1) : R) = nc n + 1
  | 0 => (Rg.zero_add (1 : R)).symm
  | _ + 1 => rfl
def ic : Int → R
  | .ofNat n => nc n
  | .negSucc n => -(nc (n + 1))
@[reducible] def grindOf (n : Nat) : OfNat R n := match n with
  | 0 => Zero.toOfNat0
  | 1 => One.toOfNat1
  | n + 2 => ⟨nc (n + 2)⟩
theorem of_nc : ∀ n : Nat, (@OfNat.ofNat R n (grindOf n)) = nc n
  | 0 => rfl
  | 1 => rfl
  | _ + 2 => rfl
instance (priority := low) grindSemi : Lean.Grind.Semiring R where
  natCast := ⟨nc⟩
  ofNat := grindOf
  nsmul := ⟨fun n a => nc n * a⟩
  npow := ⟨fun a n => Rg.pow a n⟩
  add_zero := Rg.add_zero
  add_comm := Rg.add_comm
  add_assoc := Rg.add_assoc
  mul_assoc := Rg.mul_assoc
  mul_one := Rg.mul_one
  one_mul := Rg.one_mul
  left_distrib := Rg.mul_add
  right_distrib := Rg.add_mul
  zero_mul := Rg.zero_mul
  mul_zero := Rg.mul_zero
  pow_zero := fun _ => rfl
  pow_succ := fun _ _ => rfl
  ofNat_succ := fun n => by rw [of_nc, of_nc]; exact nc_succ n
  ofNat_eq_natCast := fun n => of_nc n
  nsmul_eq_natCast_mul := fun _ _ => rfl
theorem ic_neg : ∀ i : Int, (ic (-i) : R) = -ic i
  | .ofNat 0 => (Rg.neg_zero (R := R)).symm
  | .ofNat (_ + 1) => rfl
  | .negSucc n => (Rg.neg_neg (nc (n + 1) : R)).symm
instance (priority := low) grindRing : Lean.Grind.CommRing R where
  intCast := ⟨ic⟩
  zsmul := ⟨fun i a => ic i * a⟩
  neg_add_cancel := Rg.neg_add
  sub_eq_add_neg := fun _ _ => rfl
  neg_zsmul := fun i a => by show ic (-i) * a = -(ic i * a); rw [ic_neg, Rg.neg_mul]
  zsmul_natCast_eq_nsmul := fun _ _ => rfl
  intCast_ofNat := fun n => (of_nc n).symm
  intCast_neg := ic_neg
  mul_comm := Rg.mul_comm
end
end Rg
end Go.Proofs.YtgnmcoegdogfgaaGreat

set_option linter.unusedSimpArgs false
set_option linter.unusedVariables false
set_option linter.unusedSectionVars false
namespace Go.Proofs.YtgnmcoegdogfgaaGreat
section
variable {p m : Int} {mod : List Int} [hF : IsF p m mod]
end
end Go.Proofs.YtgnmcoegdogfgaaGreat

set_option linter.unusedSimpArgs false
set_option linter.unusedVariables false
set_option maxRecDepth 100000
namespace Go.Proofs.YtgnmcoegdogfgaaGreat
open Go.RowKit
theorem pow_pos1 {p : Int} (hp : 2 ≤ p) (k : Nat) : 1 ≤ p ^ k := by
  have : 0 < p ^ k := Int.pow_pos (by omega)
  omega
theorem wp_le {w p z q : Int} (hw : 1 ≤ w) (hp : 1 ≤ p) (hz : 1 ≤ z) (h : w * p * z = q) : 1 ≤ w * p ∧ w * p ≤ q := by
  have h1 : 0 < w * p := Int.mul_pos (by omega) (by omega)
  have h2 : w * p * 1 ≤ w * p * z := Int.mul_le_mul_of_nonneg_left hz (by omega)
  omega
theorem le_wp {w z q : Int} (hw : 1 ≤ w) (hz : 1 ≤ z) (h : w * z = q) : z ≤ q := by
  have h1 : 1 * z ≤ w * z := Int.mul_le_mul_of_nonneg_right hw (by omega)
  omega
theorem ltEq {a b c : Int} (h : a < b) (e : b = c) : a < c := by omega
theorem digit_w {d p w q : Int} (h0 : 0 ≤ d) (h1 : d < p) (hw : 1 ≤ w) (h : w * p ≤ q) : 0 ≤ d * w ∧ d * w ≤ q := by
  have h2 : d * w ≤ p * w := Int.mul_le_mul_of_nonneg_right (by omega) (by omega)
  have h3 : 0 ≤ d * w := Int.mul_nonneg h0 (by omega)
  rw [Int.mul_comm p w] at h2
  omega
theorem gf_Add_ent : Enters Tryz.prog 138 := enters_of Tryz.func138 (by kernel_rfl) (by kernel_rfl)
theorem gf_Add (g : GfM) (p m : Int) (mod : List Int) (hg : GOk g p m mod) (x y : Int) :
    Pure Tryz.prog 138 #[.pointer (some g.p), .int .i64 x, .int .i64 y] [gfR g] (isV (.int .i64 (addI p m (inI g.q x) (inI g.q y)))) := by
  obtain rfl := hg.eP
  have hq := hg.q2
  have hel := hg.elen
  have hll := hg.llen'
  have heq := hg.eq
  have hp2 := hg.shp.1.p2
  have hp9 := hg.shp.1.p9
  have hxb := inI_bd (q := g.q) (by omega) x
  have hyb := inI_bd (q := g.q) (by omega) y
  have htb := addI_bd (m := m) hp2 (inI g.q x) (inI g.q y)
  have hrec := addI_rec g.P m (inI g.q x) (inI g.q y)
  refine pure_of (args := [.pointer (some g.p), .int .i64 x, .int .i64 y]) 77 Tryz.func138 rfl rfl rfl gf_Add_ent ⟨id, trivial⟩ (fun w0 => ?_)
  refine tr_seq ?_
  refine tr_region fun _ _ _ => ?_
  refine pu rfl rfl rfl rfl rfl ?_
  refine tr_seq ?_
  refine tr_region fun _ _ _ => ?_
  iterate 2 refine pu rfl rfl rfl rfl rfl ?_
  refine ef rfl rfl (eCallV rfl rfl rfl (gf_in _ _) ⟨rfl, rfl, trivial⟩ ?_) 
  iterate 2 refine pu rfl rfl rfl rfl rfl ?_
  refine ef rfl rfl (eCallV rfl rfl rfl (gf_in _ _) ⟨rfl, rfl, trivial⟩ ?_) 
  iterate 2 refine pu rfl rfl rfl rfl rfl ?_
  refine tr_seq ?_
  refine tr_seq ?_
  refine tr_region fun _ _ _ => ?_
  refine pu rfl rfl rfl rfl rfl ?_
  refine st rfl rfl rfl rfl (rNil rfl rfl) ?_
  refine st rfl rfl rfl rfl (rFld rfl rfl) ?_
  refine st rfl rfl rfl rfl (rFldN rfl rfl) ?_
  refine st rfl rfl rfl rfl (rLdF rfl rfl rfl) ?_
  refine pu rfl rfl rfl rfl rfl ?_
  refine tr_cond_bool rfl (fun h2 => ?_) (fun h2 => ?_)
  · try simp only [zbA] at h2
    refine tr_seq ?_
    have h2x := addI_two (m := m) (x := inI g.q x) (y := inI g.q y)
    refine tr_region fun _ _ _ => ?_
    iterate 2 refine pu rfl rfl rfl rfl rfl ?_
    refine st rfl rfl rfl rfl (rXor rfl rfl rfl (by omega) (by omega)) ?_
    refine pu rfl rfl rfl rfl rfl ?_
    exact tr_ret ⟨trivial, _, _, rfl, ⟨by rw [← h2x (by rw [← h2, ← heq]; exact hxb) (by rw [← h2, ← heq]; exact hyb), h2], rfl⟩, CSub.nil _, trivial⟩
  · try simp only [zbA] at h2
    refine tr_skip ?_
    refine tr_seq ?_
    refine tr_region fun _ _ _ => ?_
    iterate 2 refine pu rfl rfl rfl rfl rfl ?_
    refine tr_seq ?_
    refine tr_block ?_
    refine tr_loop5 (fun (k : Nat) (a : Int) (b : Int) (s : Int) (w : Int) => [(0, .pointer (some g.p)), (1, .int .i64 a), (2, .int .i64 b), (7, .int .i64 s), (8, .int .i64 w)]) (fun (k : Nat) (a : Int) (b : Int) (s : Int) (w : Int) => [gfR g]) (fun (k : Nat) (a : Int) (b : Int) (s : Int) (w : Int) => (0 ≤ a ∧ a < g.P ^ k) ∧ (0 ≤ b ∧ b < g.P ^ k) ∧ 0 ≤ s ∧ 1 ≤ w ∧ w * g.P ^ k = g.q ∧ s + w * addD g.P k a b = addI g.P m (inI g.q x) (inI g.q y)) (fun (k : Nat) (a : Int) (b : Int) (s : Int) (w : Int) => k) (m.toNat) (inI g.q x) (inI g.q y) (0) (1) ⟨rfl, rfl, rfl, rfl, rfl, trivial⟩ (by first | exact cs _ _ | exact CSub.refl _) (⟨⟨hxb.1, ltEq hxb.2 heq⟩, ⟨hyb.1, ltEq hyb.2 heq⟩, by omega, by omega, by rw [Int.one_mul, heq]; rfl, by rw [Int.one_mul, Int.zero_add, hrec]⟩) (fun k a b s w hI => ?_)
    obtain ⟨⟨ha0, ha1⟩, ⟨hb0, hb1⟩, hs0, hw1, hw, hs⟩ := hI
    refine tr_seq ?_
    refine tr_seq ?_
    refine tr_region fun _ _ _ => ?_
    iterate 3 refine pu rfl rfl rfl rfl rfl ?_
    refine stg rfl rfl rfl rfl rfl (fun hb => by (have hq := hb; try simp only [zbA] at hq); exact rMove rfl rfl) ?_
    refine stg rfl rfl rfl rfl rfl (fun hb => by (have hq := hb; try simp only [zbA] at hq); exact rGtr rfl (evg rfl hb) rfl) ?_
    refine st rfl rfl rfl rfl (rOrB rfl rfl rfl rfl) ?_
    refine tr_cond_bool rfl (fun h5 => ?_) (fun h5 => ?_)
    · try simp only [zbA] at h5
      refine tr_skip ?_
      refine tr_block ?_
      refine tr_seq ?_
      have hk0 : k ≠ 0 := fun e => by
        subst e
        simp only [Int.pow_zero] at ha1 hb1
        omega
      obtain ⟨j, rfl⟩ : ∃ j, k = j + 1 := ⟨k - 1, by omega⟩
      have hpj := pow_pos1 hp2 j
      have hwq : w * g.P * g.P ^ j = g.q := by rw [← hw, Int.pow_succ, Int.mul_assoc, Int.mul_comm g.P]
      have hwp := wp_le hw1 (by omega) hpj hwq
      have hpq := le_wp hw1 (pow_pos1 hp2 (j + 1)) hw
      have e0 := Int.emod_nonneg a (show g.P ≠ 0 by omega)
      have e1 := Int.emod_lt_of_pos a (show 0 < g.P by omega)
      have e2 := Int.emod_nonneg b (show g.P ≠ 0 by omega)
      have e3 := Int.emod_lt_of_pos b (show 0 < g.P by omega)
      have e4 := Int.emod_nonneg (a % g.P + b % g.P) (show g.P ≠ 0 by omega)
      have e5 := Int.emod_lt_of_pos (a % g.P + b % g.P) (show 0 < g.P by omega)
      have hdw := digit_w e4 e5 hw1 hwp.2
      have had := addD_bd hp2 (j + 1) a b
      have hwa := Int.mul_nonneg (show 0 ≤ w by omega) had.1
      refine tr_draw [0, 1, 2, 3, 4, 5, 6, 7, 8, 9, 10, 11, 12, 13, 14, 15, 16, 17, 18, 19, 20, 21, 22, 23, 24, 25] [] mixed (by kernel_rfl) fun _ _ _ => ?_
      iterate 3 refine pu rfl rfl rfl rfl rfl ?_
      refine st rfl rfl rfl rfl (rNil rfl rfl) ?_
      refine st rfl rfl rfl rfl (rFld rfl rfl) ?_
      refine st rfl rfl rfl rfl (rFldN rfl rfl) ?_
      refine st rfl rfl rfl rfl (rLdF rfl rfl rfl) ?_
      refine st rfl rfl rfl rfl (rRem rfl rfl rfl (by omega) (by omega)) ?_
      iterate 2 refine pu rfl rfl rfl rfl rfl ?_
      refine st rfl rfl rfl rfl (rNil rfl rfl) ?_
      refine st rfl rfl rfl rfl (rFld rfl rfl) ?_
      refine st rfl rfl rfl rfl (rFldN rfl rfl) ?_
      refine st rfl rfl rfl rfl (rLdF rfl rfl rfl) ?_
      refine st rfl rfl rfl rfl (rRem rfl rfl rfl (by omega) (by omega)) ?_
      refine st rfl rfl rfl rfl (rAdd rfl rfl rfl (by omega) (by omega)) ?_
      refine pu rfl rfl rfl rfl rfl ?_
      refine st rfl rfl rfl rfl (rNil rfl rfl) ?_
      refine st rfl rfl rfl rfl (rFld rfl rfl) ?_
      refine st rfl rfl rfl rfl (rFldN rfl rfl) ?_
      refine st rfl rfl rfl rfl (rLdF rfl rfl rfl) ?_
      refine st rfl rfl rfl rfl (rRem rfl rfl rfl (by omega) (by omega)) ?_
      refine pu rfl rfl rfl rfl rfl ?_
      refine st rfl rfl rfl rfl (rMul rfl rfl rfl (by omega) (by omega)) ?_
      refine st rfl rfl rfl rfl (rAdd rfl rfl rfl (by omega) (by omega)) ?_
      refine pu rfl rfl rfl rfl rfl ?_
      refine tr_seq ?_
      refine tr_region fun _ _ _ => ?_
      iterate 2 refine pu rfl rfl rfl rfl rfl ?_
      refine st rfl rfl rfl rfl (rNil rfl rfl) ?_
      refine st rfl rfl rfl rfl (rFld rfl rfl) ?_
      refine st rfl rfl rfl rfl (rFldN rfl rfl) ?_
      refine st rfl rfl rfl rfl (rLdF rfl rfl rfl) ?_
      refine st rfl rfl rfl rfl (rMul rfl rfl rfl (by omega) (by omega)) ?_
      refine pu rfl rfl rfl rfl rfl ?_
      refine tr_seq ?_
      refine tr_region fun _ _ _ => ?_
      iterate 2 refine pu rfl rfl rfl rfl rfl ?_
      refine st rfl rfl rfl rfl (rNil rfl rfl) ?_
      refine st rfl rfl rfl rfl (rFld rfl rfl) ?_
      refine st rfl rfl rfl rfl (rFldN rfl rfl) ?_
      refine st rfl rfl rfl rfl (rLdF rfl rfl rfl) ?_
      refine st rfl rfl rfl rfl (rQuo rfl rfl rfl (by omega) (by omega)) ?_
      refine pu rfl rfl rfl rfl rfl ?_
      refine tr_region fun _ _ _ => ?_
      iterate 2 refine pu rfl rfl rfl rfl rfl ?_
      refine st rfl rfl rfl rfl (rNil rfl rfl) ?_
      refine st rfl rfl rfl rfl (rFld rfl rfl) ?_
      refine st rfl rfl rfl rfl (rFldN rfl rfl) ?_
      refine st rfl rfl rfl rfl (rLdF rfl rfl rfl) ?_
      refine st rfl rfl rfl rfl (rQuo rfl rfl rfl (by omega) (by omega)) ?_
      refine pu rfl rfl rfl rfl rfl ?_
      refine ⟨j, a / g.P, b / g.P, s + (a % g.P + b % g.P) % g.P * w, w * g.P, ⟨rfl, rfl, rfl, rfl, rfl, trivial⟩, by first | exact cs _ _ | exact CSub.refl _, ?_⟩
      refine ⟨⟨⟨Int.ediv_nonneg ha0 (by omega), ediv_lt_pow hp2 ha1⟩, ⟨Int.ediv_nonneg hb0 (by omega), ediv_lt_pow hp2 hb1⟩, by omega, by omega, hwq, ?_⟩, by omega⟩
      rw [← hs, addD]
      grind
    · try simp only [zbA] at h5
      skip
      refine tr_exit ?_
      refine tr_seq ?_
      refine tr_region fun _ _ _ => ?_
      iterate 2 refine pu rfl rfl rfl rfl rfl ?_
      have ha00 : a = 0 := by omega
      have hb00 : b = 0 := by omega
      subst ha00 hb00
      rw [addD_zero, Int.mul_zero, Int.add_zero] at hs
      exact tr_ret ⟨trivial, _, _, rfl, ⟨by rw [hs], rfl⟩, CSub.nil _, trivial⟩
theorem gf_Neg_ent : Enters Tryz.prog 116 := enters_of Tryz.func116 (by kernel_rfl) (by kernel_rfl)
theorem gf_Neg (g : GfM) (p m : Int) (mod : List Int) (hg : GOk g p m mod) (x : Int) :
    Pure Tryz.prog 116 #[.pointer (some g.p), .int .i64 x] [gfR g] (isV (.int .i64 (negI p m (inI g.q x)))) := by
  obtain rfl := hg.eP
  have hq := hg.q2
  have hel := hg.elen
  have hll := hg.llen'
  have heq := hg.eq
  have hp2 := hg.shp.1.p2
  have hp9 := hg.shp.1.p9
  have hxb := inI_bd (q := g.q) (by omega) x
  have htb := negI_bd (m := m) hp2 (inI g.q x)
  have hrec := negI_rec hp2 m (inI g.q x)
  refine pure_of (args := [.pointer (some g.p), .int .i64 x]) 50 Tryz.func116 rfl rfl rfl gf_Neg_ent ⟨id, trivial⟩ (fun w0 => ?_)
  refine tr_seq ?_
  refine tr_region fun _ _ _ => ?_
  refine pu rfl rfl rfl rfl rfl ?_
  refine tr_seq ?_
  refine tr_region fun _ _ _ => ?_
  iterate 2 refine pu rfl rfl rfl rfl rfl ?_
  refine ef rfl rfl (eCallV rfl rfl rfl (gf_in _ _) ⟨rfl, rfl, trivial⟩ ?_) 
  refine pu rfl rfl rfl rfl rfl ?_
  refine tr_seq ?_
  refine tr_region fun _ _ _ => ?_
  iterate 2 refine pu rfl rfl rfl rfl rfl ?_
  refine tr_seq ?_
  refine tr_block ?_
  refine tr_loop4 (fun (k : Nat) (a : Int) (s : Int) (w : Int) => [(0, .pointer (some g.p)), (1, .int .i64 a), (5, .int .i64 s), (6, .int .i64 w)]) (fun (k : Nat) (a : Int) (s : Int) (w : Int) => [gfR g]) (fun (k : Nat) (a : Int) (s : Int) (w : Int) => (0 ≤ a ∧ a < g.P ^ k) ∧ 0 ≤ s ∧ 1 ≤ w ∧ w * g.P ^ k = g.q ∧ s + w * negD g.P k a = negI g.P m (inI g.q x)) (fun (k : Nat) (a : Int) (s : Int) (w : Int) => k) (m.toNat) (inI g.q x) (0) (1) ⟨rfl, rfl, rfl, rfl, trivial⟩ (by first | exact cs _ _ | exact CSub.refl _) (⟨⟨hxb.1, ltEq hxb.2 heq⟩, by omega, by omega, by rw [Int.one_mul, heq]; rfl, by rw [Int.one_mul, Int.zero_add, hrec]⟩) (fun k a s w hI => ?_)
  obtain ⟨⟨ha0, ha1⟩, hs0, hw1, hw, hs⟩ := hI
  refine tr_seq ?_
  refine tr_seq ?_
  refine tr_region fun _ _ _ => ?_
  iterate 2 refine pu rfl rfl rfl rfl rfl ?_
  refine tr_cond_bool rfl (fun h3 => ?_) (fun h3 => ?_)
  · try simp only [zbA] at h3
    refine tr_skip ?_
    refine tr_block ?_
    refine tr_seq ?_
    have hk0 : k ≠ 0 := fun e => by
      subst e
      simp only [Int.pow_zero] at ha1
      omega
    obtain ⟨j, rfl⟩ : ∃ j, k = j + 1 := ⟨k - 1, by omega⟩
    have hpj := pow_pos1 hp2 j
    have hwq : w * g.P * g.P ^ j = g.q := by rw [← hw, Int.pow_succ, Int.mul_assoc, Int.mul_comm g.P]
    have hwp := wp_le hw1 (by omega) hpj hwq
    have hpq := le_wp hw1 (pow_pos1 hp2 (j + 1)) hw
    have e0 := Int.emod_nonneg a (show g.P ≠ 0 by omega)
    have e1 := Int.emod_lt_of_pos a (show 0 < g.P by omega)
    have e4 := Int.emod_nonneg (g.P - a % g.P) (show g.P ≠ 0 by omega)
    have e5 := Int.emod_lt_of_pos (g.P - a % g.P) (show 0 < g.P by omega)
    have hdw := digit_w e4 e5 hw1 hwp.2
    have had := negD_bd hp2 (j + 1) a
    have hwa := Int.mul_nonneg (show 0 ≤ w by omega) had.1
    refine tr_draw [0, 1, 2, 3, 4, 5, 6, 7, 8, 9, 10, 11, 12, 13, 14, 15, 16, 17, 18, 19, 20, 21, 22, 23] [] mixed (by kernel_rfl) fun _ _ _ => ?_
    iterate 2 refine pu rfl rfl rfl rfl rfl ?_
    refine st rfl rfl rfl rfl (rNil rfl rfl) ?_
    refine st rfl rfl rfl rfl (rFld rfl rfl) ?_
    refine st rfl rfl rfl rfl (rFldN rfl rfl) ?_
    refine st rfl rfl rfl rfl (rLdF rfl rfl rfl) ?_
    iterate 2 refine pu rfl rfl rfl rfl rfl ?_
    refine st rfl rfl rfl rfl (rNil rfl rfl) ?_
    refine st rfl rfl rfl rfl (rFld rfl rfl) ?_
    refine st rfl rfl rfl rfl (rFldN rfl rfl) ?_
    refine st rfl rfl rfl rfl (rLdF rfl rfl rfl) ?_
    refine st rfl rfl rfl rfl (rRem rfl rfl rfl (by omega) (by omega)) ?_
    refine st rfl rfl rfl rfl (rSub rfl rfl rfl (by omega) (by omega)) ?_
    refine pu rfl rfl rfl rfl rfl ?_
    refine st rfl rfl rfl rfl (rNil rfl rfl) ?_
    refine st rfl rfl rfl rfl (rFld rfl rfl) ?_
    refine st rfl rfl rfl rfl (rFldN rfl rfl) ?_
    refine st rfl rfl rfl rfl (rLdF rfl rfl rfl) ?_
    refine st rfl rfl rfl rfl (rRem rfl rfl rfl (by omega) (by omega)) ?_
    refine pu rfl rfl rfl rfl rfl ?_
    refine st rfl rfl rfl rfl (rMul rfl rfl rfl (by omega) (by omega)) ?_
    refine st rfl rfl rfl rfl (rAdd rfl rfl rfl (by omega) (by omega)) ?_
    refine pu rfl rfl rfl rfl rfl ?_
    refine tr_seq ?_
    refine tr_region fun _ _ _ => ?_
    iterate 2 refine pu rfl rfl rfl rfl rfl ?_
    refine st rfl rfl rfl rfl (rNil rfl rfl) ?_
    refine st rfl rfl rfl rfl (rFld rfl rfl) ?_
    refine st rfl rfl rfl rfl (rFldN rfl rfl) ?_
    refine st rfl rfl rfl rfl (rLdF rfl rfl rfl) ?_
    refine st rfl rfl rfl rfl (rMul rfl rfl rfl (by omega) (by omega)) ?_
    refine pu rfl rfl rfl rfl rfl ?_
    refine tr_region fun _ _ _ => ?_
    iterate 2 refine pu rfl rfl rfl rfl rfl ?_
    refine st rfl rfl rfl rfl (rNil rfl rfl) ?_
    refine st rfl rfl rfl rfl (rFld rfl rfl) ?_
    refine st rfl rfl rfl rfl (rFldN rfl rfl) ?_
    refine st rfl rfl rfl rfl (rLdF rfl rfl rfl) ?_
    refine st rfl rfl rfl rfl (rQuo rfl rfl rfl (by omega) (by omega)) ?_
    refine pu rfl rfl rfl rfl rfl ?_
    refine ⟨j, a / g.P, s + (g.P - a % g.P) % g.P * w, w * g.P, ⟨rfl, rfl, rfl, rfl, trivial⟩, by first | exact cs _ _ | exact CSub.refl _, ?_⟩
    refine ⟨⟨⟨Int.ediv_nonneg ha0 (by omega), ediv_lt_pow hp2 ha1⟩, by omega, by omega, hwq, ?_⟩, by omega⟩
    rw [← hs, negD]
    grind
  · try simp only [zbA] at h3
    refine tr_exit ?_
    refine tr_seq ?_
    refine tr_region fun _ _ _ => ?_
    iterate 2 refine pu rfl rfl rfl rfl rfl ?_
    have ha00 : a = 0 := by omega
    subst ha00
    rw [negD_zero, Int.mul_zero, Int.add_zero] at hs
    exact tr_ret ⟨trivial, _, _, rfl, ⟨by rw [hs], rfl⟩, CSub.nil _, trivial⟩
theorem gf_Mul_ent : Enters Tryz.prog 132 := enters_of Tryz.func132 (by kernel_rfl) (by kernel_rfl)
theorem gf_Mul (g : GfM) (p m : Int) (mod : List Int) (hg : GOk g p m mod) (x y : Int) :
    Pure Tryz.prog 132 #[.pointer (some g.p), .int .i64 x, .int .i64 y] [gfR g] (isV (.int .i64 (mulI p m mod (inI g.q x) (inI g.q y)))) := by
  obtain rfl := hg.eP
  have hq := hg.q2
  have hel := hg.elen
  have hll := hg.llen'
  have heq := hg.eq
  have hp2 := hg.shp.1.p2
  have hp9 := hg.shp.1.p9
  have hxb := inI_bd (q := g.q) (by omega) x
  have hyb := inI_bd (q := g.q) (by omega) y
  refine pure_of (args := [.pointer (some g.p), .int .i64 x, .int .i64 y]) 46 Tryz.func132 rfl rfl rfl gf_Mul_ent ⟨id, trivial⟩ (fun w0 => ?_)
  refine tr_seq ?_
  refine tr_region fun _ _ _ => ?_
  refine pu rfl rfl rfl rfl rfl ?_
  refine tr_seq ?_
  refine tr_region fun _ _ _ => ?_
  iterate 2 refine pu rfl rfl rfl rfl rfl ?_
  refine ef rfl rfl (eCallV rfl rfl rfl (gf_in _ _) ⟨rfl, rfl, trivial⟩ ?_) 
  iterate 2 refine pu rfl rfl rfl rfl rfl ?_
  refine ef rfl rfl (eCallV rfl rfl rfl (gf_in _ _) ⟨rfl, rfl, trivial⟩ ?_) 
  iterate 2 refine pu rfl rfl rfl rfl rfl ?_
  refine tr_seq ?_
  refine tr_seq ?_
  refine tr_region fun _ _ _ => ?_
  iterate 3 refine pu rfl rfl rfl rfl rfl ?_
  refine stg rfl rfl rfl rfl rfl (fun hb => by (have hq := hb; try simp only [zbA] at hq); exact rMove rfl rfl) ?_
  refine stg rfl rfl rfl rfl rfl (fun hb => by (have hq := hb; try simp only [zbA] at hq); exact rEql rfl (evg rfl hb) rfl) ?_
  refine st rfl rfl rfl rfl (rOrB rfl rfl rfl rfl) ?_
  refine tr_cond_bool rfl (fun h2 => ?_) (fun h2 => ?_)
  · try simp only [zbA] at h2
    refine tr_seq ?_
    refine tr_region fun _ _ _ => ?_
    refine pu rfl rfl rfl rfl rfl ?_
    exact tr_ret ⟨trivial, _, _, rfl, ⟨by
      rcases h2 with h | h
      · rw [h, mulI_zero hg.shp.1]
      · rw [h, mulI_comm hg.shp.1, mulI_zero hg.shp.1], rfl⟩, CSub.nil _, trivial⟩
  · try simp only [zbA] at h2
    refine tr_skip ?_
    refine tr_seq ?_
    have hlx := hg.log_spec (y := inI g.q x) (by omega) (by omega)
    have hly := hg.log_spec (y := inI g.q y) (by omega) (by omega)
    have e0 := Int.emod_nonneg (g.log.getD (inI g.q x).toNat 0 + g.log.getD (inI g.q y).toNat 0) (show g.q - 1 ≠ 0 by omega)
    have e1 := Int.emod_lt_of_pos (g.log.getD (inI g.q x).toNat 0 + g.log.getD (inI g.q y).toNat 0) (show 0 < g.q - 1 by omega)
    refine tr_draw [0, 1, 2, 3, 4, 5, 6, 7, 8, 9, 10, 11, 12, 13, 14, 15, 16, 17, 18, 19, 20, 21, 22, 23, 24, 25, 26, 27] [] mixed (by kernel_rfl) fun _ _ _ => ?_
    refine pu rfl rfl rfl rfl rfl ?_
    refine st rfl rfl rfl rfl (rNil rfl rfl) ?_
    refine st rfl rfl rfl rfl (rFld rfl rfl) ?_
    refine st rfl rfl rfl rfl (rLdF rfl rfl rfl) ?_
    refine pu rfl rfl rfl rfl rfl ?_
    refine st rfl rfl rfl rfl (rNil rfl rfl) ?_
    refine st rfl rfl rfl rfl (rFld rfl rfl) ?_
    refine st rfl rfl rfl rfl (rLdF rfl rfl rfl) ?_
    refine pu rfl rfl rfl rfl rfl ?_
    refine st rfl rfl rfl rfl (rIdxI rfl rfl rfl (by omega) (by omega) (by omega)) ?_
    refine st rfl rfl rfl rfl (rLdI rfl rfl (by omega)) ?_
    refine pu rfl rfl rfl rfl rfl ?_
    refine st rfl rfl rfl rfl (rNil rfl rfl) ?_
    refine st rfl rfl rfl rfl (rFld rfl rfl) ?_
    refine st rfl rfl rfl rfl (rLdF rfl rfl rfl) ?_
    refine pu rfl rfl rfl rfl rfl ?_
    refine st rfl rfl rfl rfl (rIdxI rfl rfl rfl (by omega) (by omega) (by omega)) ?_
    refine st rfl rfl rfl rfl (rLdI rfl rfl (by omega)) ?_
    refine st rfl rfl rfl rfl (rAdd rfl rfl rfl (by omega) (by omega)) ?_
    refine pu rfl rfl rfl rfl rfl ?_
    refine st rfl rfl rfl rfl (rNil rfl rfl) ?_
    refine st rfl rfl rfl rfl (rFld rfl rfl) ?_
    refine st rfl rfl rfl rfl (rLdF rfl rfl rfl) ?_
    refine st rfl rfl rfl rfl (rSub rfl rfl rfl (by omega) (by omega)) ?_
    refine st rfl rfl rfl rfl (rRem rfl rfl rfl (by omega) (by omega)) ?_
    refine st rfl rfl rfl rfl (rIdxI rfl rfl rfl (by omega) (by omega) (by omega)) ?_
    refine st rfl rfl rfl rfl (rLdI rfl rfl (by omega)) ?_
    refine pu rfl rfl rfl rfl rfl ?_
    exact tr_ret ⟨trivial, _, _, rfl, ⟨by rw [hg.mul ⟨by omega, by omega⟩ ⟨by omega, by omega⟩], rfl⟩, CSub.nil _, trivial⟩
theorem gf_Inv_ent : Enters Tryz.prog 178 := enters_of Tryz.func178 (by kernel_rfl) (by kernel_rfl)
theorem gf_Inv (g : GfM) (p m : Int) (mod : List Int) (hg : GOk g p m mod) (x : Int) :
    Pure Tryz.prog 178 #[.pointer (some g.p), .int .i64 x] [gfR g] (isV (if inI g.q x = 0 then .tuple #[.int .i64 0, .int .i64 7] else .tuple #[.int .i64 (invI p m mod (inI g.q x)), .int .i64 0])) := by
  obtain rfl := hg.eP
  have hq := hg.q2
  have hel := hg.elen
  have hll := hg.llen'
  have heq := hg.eq
  have hp2 := hg.shp.1.p2
  have hp9 := hg.shp.1.p9
  have hxb := inI_bd (q := g.q) (by omega) x
  refine pure_of (args := [.pointer (some g.p), .int .i64 x]) 36 Tryz.func178 rfl rfl rfl gf_Inv_ent ⟨id, trivial⟩ (fun w0 => ?_)
  refine tr_seq ?_
  refine tr_region fun _ _ _ => ?_
  iterate 2 refine pu rfl rfl rfl rfl rfl ?_
  refine tr_seq ?_
  refine tr_region fun _ _ _ => ?_
  iterate 2 refine pu rfl rfl rfl rfl rfl ?_
  refine ef rfl rfl (eCallV rfl rfl rfl (gf_in _ _) ⟨rfl, rfl, trivial⟩ ?_) 
  refine pu rfl rfl rfl rfl rfl ?_
  refine tr_seq ?_
  refine tr_seq ?_
  refine tr_region fun _ _ _ => ?_
  iterate 2 refine pu rfl rfl rfl rfl rfl ?_
  refine tr_cond_bool rfl (fun h2 => ?_) (fun h2 => ?_)
  · try simp only [zbA] at h2
    refine tr_seq ?_
    refine tr_region fun _ _ _ => ?_
    iterate 2 refine pu rfl rfl rfl rfl rfl ?_
    exact tr_ret ⟨trivial, _, _, rfl, ⟨by rw [if_pos h2], rfl⟩, CSub.nil _, trivial⟩
  · try simp only [zbA] at h2
    refine tr_skip ?_
    refine tr_seq ?_
    have hlx := hg.log_spec (y := inI g.q x) (by omega) (by omega)
    have e0 := Int.emod_nonneg (g.q - 1 - g.log.getD (inI g.q x).toNat 0) (show g.q - 1 ≠ 0 by omega)
    have e1 := Int.emod_lt_of_pos (g.q - 1 - g.log.getD (inI g.q x).toNat 0) (show 0 < g.q - 1 by omega)
    refine tr_draw [0, 1, 2, 3, 4, 5, 6, 7, 8, 9, 10, 11, 12, 13, 14, 15, 16, 17, 18, 19, 20, 21, 22, 23, 24, 25, 26] [] mixed (by kernel_rfl) fun _ _ _ => ?_
    refine pu rfl rfl rfl rfl rfl ?_
    refine st rfl rfl rfl rfl (rNil rfl rfl) ?_
    refine st rfl rfl rfl rfl (rFld rfl rfl) ?_
    refine st rfl rfl rfl rfl (rLdF rfl rfl rfl) ?_
    refine pu rfl rfl rfl rfl rfl ?_
    refine st rfl rfl rfl rfl (rNil rfl rfl) ?_
    refine st rfl rfl rfl rfl (rFld rfl rfl) ?_
    refine st rfl rfl rfl rfl (rLdF rfl rfl rfl) ?_
    refine st rfl rfl rfl rfl (rSub rfl rfl rfl (by omega) (by omega)) ?_
    refine pu rfl rfl rfl rfl rfl ?_
    refine st rfl rfl rfl rfl (rNil rfl rfl) ?_
    refine st rfl rfl rfl rfl (rFld rfl rfl) ?_
    refine st rfl rfl rfl rfl (rLdF rfl rfl rfl) ?_
    refine pu rfl rfl rfl rfl rfl ?_
    refine st rfl rfl rfl rfl (rIdxI rfl rfl rfl (by omega) (by omega) (by omega)) ?_
    refine st rfl rfl rfl rfl (rLdI rfl rfl (by omega)) ?_
    refine st rfl rfl rfl rfl (rSub rfl rfl rfl (by omega) (by omega)) ?_
    refine pu rfl rfl rfl rfl rfl ?_
    refine st rfl rfl rfl rfl (rNil rfl rfl) ?_
    refine st rfl rfl rfl rfl (rFld rfl rfl) ?_
    refine st rfl rfl rfl rfl (rLdF rfl rfl rfl) ?_
    refine st rfl rfl rfl rfl (rSub rfl rfl rfl (by omega) (by omega)) ?_
    refine st rfl rfl rfl rfl (rRem rfl rfl rfl (by omega) (by omega)) ?_
    refine st rfl rfl rfl rfl (rIdxI rfl rfl rfl (by omega) (by omega) (by omega)) ?_
    refine st rfl rfl rfl rfl (rLdI rfl rfl (by omega)) ?_
    iterate 2 refine pu rfl rfl rfl rfl rfl ?_
    exact tr_ret ⟨trivial, _, _, rfl, ⟨by rw [if_neg h2, hg.inv ⟨by omega, by omega⟩], rfl⟩, CSub.nil _, trivial⟩
theorem gf_Scale_ent : Enters Tryz.prog 180 := enters_of Tryz.func180 (by kernel_rfl) (by kernel_rfl)
theorem gf_Scale (g : GfM) (p m : Int) (mod : List Int) (hg : GOk g p m mod) (x : Int) (A : Option Addr) (n c : Nat) (l : List Int) (hn : n = l.length) (h9 : l.length ≤ 17592186044415) :
    Pure Tryz.prog 180 #[.pointer (some g.p), .int .i64 x, .slice A n c] [gfR g, ro A (ints l)] (one (fun v ch => ∃ B, v = .slice B l.length l.length ∧ ch = ow B 3 l.length (ints (l.map fun y => mulI p m mod (inI g.q x) (inI g.q y))))) := by
  refine pure_of (args := [.pointer (some g.p), .int .i64 x, .slice A n c]) 29 Tryz.func180 rfl rfl rfl gf_Scale_ent ⟨id, id, trivial⟩ (fun w0 => ?_)
  refine tr_seq ?_
  refine tr_region fun _ _ _ => ?_
  refine pu rfl rfl rfl rfl rfl ?_
  refine tr_seq ?_
  refine tr_region fun _ _ _ => ?_
  refine pu rfl rfl rfl rfl rfl ?_
  refine st rfl rfl rfl rfl (rLen rfl rfl) ?_
  refine ef rfl rfl (eMakeI rfl rfl rfl rfl rfl (by omega) (by omega) (by omega) (fun A1 => ?_)) 
  refine pu rfl rfl rfl rfl rfl ?_
  refine tr_seq ?_
  refine tr_seq ?_
  refine tr_region fun _ _ _ => ?_
  refine pu rfl rfl rfl rfl rfl ?_
  refine st rfl rfl rfl rfl (rLen rfl rfl) ?_
  refine pu rfl rfl rfl rfl rfl ?_
  refine tr_block ?_
  refine tr_loop2 (fun (k : Int) (o : List Int) => [(0, .pointer (some g.p)), (1, .int .i64 x), (7, .slice A1 n n), (13, .slice A n c), (14, .int .i64 n), (15, .int .i64 k)]) (fun (k : Int) (o : List Int) => [ow A1 3 n (ints o), gfR g, ro A (ints l)]) (fun (k : Int) (o : List Int) => (0 ≤ k ∧ k ≤ n) ∧ o.length = n ∧ ∀ j : Nat, (j : Int) < k → o.getD j 0 = mulI p m mod (inI g.q x) (inI g.q (l.getD j 0))) (fun (k : Int) (o : List Int) => (n - k).toNat) (0) (List.replicate n 0) ⟨rfl, rfl, rfl, rfl, rfl, rfl, trivial⟩ (by first | exact cs _ _ | exact CSub.refl _) (⟨⟨by omega, by omega⟩, by simp, fun j hj => by omega⟩) (fun k o hI => ?_)
  obtain ⟨hk, hol, ho⟩ := hI
  refine tr_seq ?_
  refine tr_region fun _ _ _ => ?_
  refine pu rfl rfl rfl rfl rfl ?_
  refine tr_seq ?_
  refine tr_cond_bool rfl (fun h3 => ?_) (fun h3 => ?_)
  · try simp only [zbA] at h3
    refine tr_skip ?_
    refine tr_seq ?_
    refine tr_block ?_
    refine tr_seq ?_
    refine tr_region fun _ _ _ => ?_
    refine pu rfl rfl rfl rfl rfl ?_
    refine st rfl rfl rfl rfl (rIdxI rfl rfl rfl (by omega) (by omega) (by omega)) ?_
    refine st rfl rfl rfl rfl (rLdI rfl rfl (by omega)) ?_
    iterate 2 refine pu rfl rfl rfl rfl rfl ?_
    refine tr_region fun _ _ _ => ?_
    iterate 5 refine pu rfl rfl rfl rfl rfl ?_
    refine ef rfl rfl (eCallV rfl rfl rfl (gf_Mul g p m mod hg _ _) ⟨rfl, rfl, rfl, trivial⟩ ?_) 
    refine st rfl rfl rfl rfl (rIdxI rfl rfl rfl (by omega) (by omega) (by omega)) ?_
    refine ef rfl rfl (eStI rfl rfl rfl rfl (by omega) ?_) 
    refine tr_region fun _ _ _ => ?_
    refine st rfl rfl rfl rfl (rAdd rfl rfl rfl (by omega) (by omega)) ?_
    refine pu rfl rfl rfl rfl rfl ?_
    refine ⟨k + 1, o.set k.toNat (mulI p m mod (inI g.q x) (inI g.q (l.getD k.toNat 0))), ⟨rfl, rfl, rfl, rfl, rfl, rfl, trivial⟩, by first | exact cs _ _ | exact CSub.refl _, ?_⟩
    refine ⟨⟨⟨by omega, by omega⟩, by simpa using hol, fun j hj => ?_⟩, by omega⟩
    rw [getD_set]
    by_cases he : k.toNat = j
    · subst he; rw [if_pos ⟨rfl, by omega⟩]
    · rw [if_neg (by omega)]; exact ho j (by omega)
  · try simp only [zbA] at h3
    refine tr_exit ?_
    refine tr_seq ?_
    refine tr_region fun _ _ _ => ?_
    iterate 2 refine pu rfl rfl rfl rfl rfl ?_
    have hm : o = l.map fun y => mulI p m mod (inI g.q x) (inI g.q y) := by
      refine List.ext_getElem (by simp; omega) fun j h1 h2 => ?_
      have := ho j (by omega)
      rw [List.getD_eq_getElem?_getD, List.getElem?_eq_getElem h1, List.getD_eq_getElem?_getD, List.getElem?_eq_getElem (show j < l.length by omega)] at this
      simpa using this
    rw [hm]
    subst hn
    exact tr_ret ⟨trivial, _, _, rfl, ⟨_, rfl, _, rfl, rfl⟩, cs _ _, trivial, trivial⟩
theorem ref_Add_ent : Enters Tryz.prog 89 := enters_of Tryz.func89 (by kernel_rfl) (by kernel_rfl)
theorem ref_Add (p m : Int) (A : Option Addr) (c : Nat) (mod : List Int) (hs : Shp p m mod) (x y : Int) :
    Pure Tryz.prog 89 #[.agg #[.int .i64 p, .int .i64 m, .slice A mod.length c], .int .i64 x, .int .i64 y] [ro A (ints mod)] (isV (.int .i64 (addI p m (inI (ordI p m) x) (inI (ordI p m) y)))) := by
  have hp2 := hs.p2
  have hp9 := hs.p9
  have hm1 := hs.m1
  have hm8 := hs.m8
  have hqq := hs.q
  have hoq := hs.ord
  have hpm : p ^ m.toNat ≤ 256 := hqq
  have hal := digs_length p m.toNat (inI (ordI p m) x)
  have hbl := digs_length p m.toNat (inI (ordI p m) y)
  have hai := digs_in (p := p) (by omega) m.toNat (inI (ordI p m) x)
  have hbi := digs_in (p := p) (by omega) m.toNat (inI (ordI p m) y)
  have hvt : ∀ c : List Int, AllIn p c → m.toNat ≤ c.length → vl p (c.take m.toNat) = rv p m.toNat (rl c) := fun c h1 h2 => vl_take hp2 h1 h2
  have hdef : addI p m (inI (ordI p m) x) (inI (ordI p m) y) = rv p m.toNat ((rl (digs p m.toNat (inI (ordI p m) x))).add (rl (digs p m.toNat (inI (ordI p m) y)))) := rfl
  rw [hdef]
  generalize ha : digs p m.toNat (inI (ordI p m) x) = a at hal hai
  generalize hb : digs p m.toNat (inI (ordI p m) y) = b at hbl hbi
  refine pure_of (args := [.agg #[.int .i64 p, .int .i64 m, .slice A mod.length c], .int .i64 x, .int .i64 y]) 40 Tryz.func89 rfl rfl rfl ref_Add_ent ⟨id, trivial⟩ (fun w0 => ?_)
  refine tr_seq ?_
  refine tr_region fun _ _ _ => ?_
  refine ef rfl rfl (eBox rfl rfl rfl rfl rfl (fun p0 => ?_)) 
  refine pu rfl rfl rfl rfl rfl ?_
  refine tr_seq ?_
  refine tr_region fun _ _ _ => ?_
  refine st rfl rfl rfl rfl (rLdS rfl rfl rfl) ?_
  refine pu rfl rfl rfl rfl rfl ?_
  refine ef rfl rfl (eCall1 rfl rfl rfl (ref_Digits _ _ _ _ _ hs _) ⟨rfl, rfl, trivial⟩ ?_) 
  rintro _ _ ⟨B1, rfl, rfl⟩
  refine pu rfl rfl rfl rfl rfl ?_
  rw [ha]
  refine tr_seq ?_
  refine tr_region fun _ _ _ => ?_
  refine st rfl rfl rfl rfl (rLdS rfl rfl rfl) ?_
  refine pu rfl rfl rfl rfl rfl ?_
  refine ef rfl rfl (eCall1 rfl rfl rfl (ref_Digits _ _ _ _ _ hs _) ⟨rfl, rfl, trivial⟩ ?_) 
  rintro _ _ ⟨B2, rfl, rfl⟩
  refine pu rfl rfl rfl rfl rfl ?_
  rw [hb]
  refine tr_seq ?_
  refine tr_seq ?_
  refine tr_region fun _ _ _ => ?_
  refine pu rfl rfl rfl rfl rfl ?_
  refine tr_block ?_
  refine tr_loop2 (fun (k : Int) (o : List Int) => [(3, .pointer (some p0)), (7, .slice B1 m.toNat m.toNat), (8, .slice B2 m.toNat m.toNat), (9, .int .i64 k)]) (fun (k : Int) (o : List Int) => [ow B2 3 m.toNat (ints b), ow B1 3 m.toNat (ints o), blk p0 24 [.int .i64 p, .int .i64 m, .slice A mod.length c], ro A (ints mod)]) (fun (k : Int) (o : List Int) => (0 ≤ k ∧ k ≤ m) ∧ o.length = m.toNat ∧ AllIn p o ∧ (∀ j : Nat, (j : Int) < k → o.getD j 0 = (a.getD j 0 + b.getD j 0) % p) ∧ ∀ j : Nat, k ≤ j → o.getD j 0 = a.getD j 0) (fun (k : Int) (o : List Int) => (m - k).toNat) (0) (a) ⟨rfl, rfl, rfl, rfl, trivial⟩ (by first | exact cs _ _ | exact CSub.refl _) (⟨⟨by omega, by omega⟩, hal, hai, fun j hj => by omega, fun j hj => rfl⟩) (fun k o hI => ?_)
  obtain ⟨⟨hk, hk1⟩, hol, hoi, ho1, ho2⟩ := hI
  have hg1 := hoi.get (by omega) k.toNat
  have hg2 := hbi.get (by omega) k.toNat
  have e0 := Int.emod_nonneg (o.getD k.toNat 0 + b.getD k.toNat 0) (show p ≠ 0 by omega)
  have e1 := Int.emod_lt_of_pos (o.getD k.toNat 0 + b.getD k.toNat 0) (show 0 < p by omega)
  refine tr_seq ?_
  refine tr_seq ?_
  refine tr_region fun _ _ _ => ?_
  iterate 2 refine pu rfl rfl rfl rfl rfl ?_
  refine st rfl rfl rfl rfl (rLen rfl rfl) ?_
  refine pu rfl rfl rfl rfl rfl ?_
  refine tr_cond_bool rfl (fun h4 => ?_) (fun h4 => ?_)
  · try simp only [zbA] at h4
    refine tr_skip ?_
    refine tr_seq ?_
    refine tr_block ?_
    refine tr_draw [0, 1, 2, 3, 4, 5, 6, 7, 8, 9, 10, 11, 12, 13, 14] [15] mixed (by kernel_rfl) fun _ _ _ => ?_
    iterate 4 refine pu rfl rfl rfl rfl rfl ?_
    refine st rfl rfl rfl rfl (rIdxI rfl rfl rfl (by omega) (by omega) (by omega)) ?_
    refine st rfl rfl rfl rfl (rLdI rfl rfl (by omega)) ?_
    iterate 2 refine pu rfl rfl rfl rfl rfl ?_
    refine st rfl rfl rfl rfl (rIdxI rfl rfl rfl (by omega) (by omega) (by omega)) ?_
    refine st rfl rfl rfl rfl (rLdI rfl rfl (by omega)) ?_
    refine st rfl rfl rfl rfl (rAdd rfl rfl rfl (by omega) (by omega)) ?_
    refine st rfl rfl rfl rfl (rFld rfl rfl) ?_
    refine st rfl rfl rfl rfl (rLdF rfl rfl rfl) ?_
    refine st rfl rfl rfl rfl (rRem rfl rfl rfl (by omega) (by omega)) ?_
    refine st rfl rfl rfl rfl (rIdxI rfl rfl rfl (by omega) (by omega) (by omega)) ?_
    refine ef rfl rfl (eStI rfl rfl rfl rfl (by omega) ?_) 
    refine tr_region fun _ _ _ => ?_
    refine pu rfl rfl rfl rfl rfl ?_
    refine st rfl rfl rfl rfl (rAdd rfl rfl rfl (by omega) (by omega)) ?_
    refine pu rfl rfl rfl rfl rfl ?_
    refine ⟨k + 1, o.set k.toNat ((o.getD k.toNat 0 + b.getD k.toNat 0) % p), ⟨rfl, rfl, rfl, rfl, trivial⟩, by first | exact cs _ _ | exact CSub.refl _, ?_⟩
    refine ⟨⟨⟨by omega, by omega⟩, by simpa using hol, hoi.set ⟨e0, e1⟩ _, fun j hj => ?_, fun j hj => ?_⟩, by omega⟩
    · rw [getD_set]
      by_cases he : k.toNat = j
      · subst he; rw [if_pos ⟨rfl, by omega⟩, ho2 k.toNat (by omega)]
      · rw [if_neg (by omega)]; exact ho1 j (by omega)
    · rw [getD_set, if_neg (by omega)]; exact ho2 j (by omega)
  · try simp only [zbA] at h4
    refine tr_exit ?_
    refine tr_seq ?_
    refine tr_region fun _ _ _ => ?_
    refine st rfl rfl rfl rfl (rLdS rfl rfl rfl) ?_
    refine pu rfl rfl rfl rfl rfl ?_
    refine ef rfl rfl (eCallV rfl rfl rfl (ref_Value _ _ _ _ _ (by omega) (by omega) _ _ _ o (by omega) (by omega) hoi (by omega)) ⟨rfl, rfl, trivial⟩ ?_) 
    refine pu rfl rfl rfl rfl rfl ?_
    have hkm : k = m := by omega
    exact tr_ret ⟨trivial, _, _, rfl, ⟨by rw [hvt o hoi (by omega)]; exact congrArg _ (rv_cong fun j hj => by rw [show rl o j = (a.getD j 0 + b.getD j 0) % p from ho1 j (by omega), Int.emod_emod]; rfl), rfl⟩, CSub.nil _, trivial⟩
theorem ref_Neg_ent : Enters Tryz.prog 152 := enters_of Tryz.func152 (by kernel_rfl) (by kernel_rfl)
theorem ref_Neg (p m : Int) (A : Option Addr) (c : Nat) (mod : List Int) (hs : Shp p m mod) (x : Int) :
    Pure Tryz.prog 152 #[.agg #[.int .i64 p, .int .i64 m, .slice A mod.length c], .int .i64 x] [ro A (ints mod)] (isV (.int .i64 (negI p m (inI (ordI p m) x)))) := by
  have hp2 := hs.p2
  have hp9 := hs.p9
  have hm1 := hs.m1
  have hm8 := hs.m8
  have hqq := hs.q
  have hoq := hs.ord
  have hpm : p ^ m.toNat ≤ 256 := hqq
  have hal := digs_length p m.toNat (inI (ordI p m) x)
  have hai := digs_in (p := p) (by omega) m.toNat (inI (ordI p m) x)
  have hvt : ∀ c : List Int, AllIn p c → m.toNat ≤ c.length → vl p (c.take m.toNat) = rv p m.toNat (rl c) := fun c h1 h2 => vl_take hp2 h1 h2
  have hdef : negI p m (inI (ordI p m) x) = rv p m.toNat (Row.sm (-1) (rl (digs p m.toNat (inI (ordI p m) x)))) := rfl
  rw [hdef]
  generalize ha : digs p m.toNat (inI (ordI p m) x) = a at hal hai
  refine pure_of (args := [.agg #[.int .i64 p, .int .i64 m, .slice A mod.length c], .int .i64 x]) 32 Tryz.func152 rfl rfl rfl ref_Neg_ent ⟨id, trivial⟩ (fun w0 => ?_)
  refine tr_seq ?_
  refine tr_region fun _ _ _ => ?_
  refine ef rfl rfl (eBox rfl rfl rfl rfl rfl (fun p0 => ?_)) 
  refine pu rfl rfl rfl rfl rfl ?_
  refine tr_seq ?_
  refine tr_region fun _ _ _ => ?_
  refine st rfl rfl rfl rfl (rLdS rfl rfl rfl) ?_
  refine pu rfl rfl rfl rfl rfl ?_
  refine ef rfl rfl (eCall1 rfl rfl rfl (ref_Digits _ _ _ _ _ hs _) ⟨rfl, rfl, trivial⟩ ?_) 
  rintro _ _ ⟨B1, rfl, rfl⟩
  refine pu rfl rfl rfl rfl rfl ?_
  rw [ha]
  refine tr_seq ?_
  refine tr_seq ?_
  refine tr_region fun _ _ _ => ?_
  refine pu rfl rfl rfl rfl rfl ?_
  refine tr_block ?_
  refine tr_loop2 (fun (k : Int) (o : List Int) => [(2, .pointer (some p0)), (5, .slice B1 m.toNat m.toNat), (6, .int .i64 k)]) (fun (k : Int) (o : List Int) => [ow B1 3 m.toNat (ints o), blk p0 24 [.int .i64 p, .int .i64 m, .slice A mod.length c], ro A (ints mod)]) (fun (k : Int) (o : List Int) => (0 ≤ k ∧ k ≤ m) ∧ o.length = m.toNat ∧ AllIn p o ∧ (∀ j : Nat, (j : Int) < k → o.getD j 0 = (p - a.getD j 0) % p) ∧ ∀ j : Nat, k ≤ j → o.getD j 0 = a.getD j 0) (fun (k : Int) (o : List Int) => (m - k).toNat) (0) (a) ⟨rfl, rfl, rfl, trivial⟩ (by first | exact cs _ _ | exact CSub.refl _) (⟨⟨by omega, by omega⟩, hal, hai, fun j hj => by omega, fun j hj => rfl⟩) (fun k o hI => ?_)
  obtain ⟨⟨hk, hk1⟩, hol, hoi, ho1, ho2⟩ := hI
  have hg1 := hoi.get (by omega) k.toNat
  have e0 := Int.emod_nonneg (p - o.getD k.toNat 0) (show p ≠ 0 by omega)
  have e1 := Int.emod_lt_of_pos (p - o.getD k.toNat 0) (show 0 < p by omega)
  refine tr_seq ?_
  refine tr_seq ?_
  refine tr_region fun _ _ _ => ?_
  iterate 2 refine pu rfl rfl rfl rfl rfl ?_
  refine st rfl rfl rfl rfl (rLen rfl rfl) ?_
  refine pu rfl rfl rfl rfl rfl ?_
  refine tr_cond_bool rfl (fun h3 => ?_) (fun h3 => ?_)
  · try simp only [zbA] at h3
    refine tr_skip ?_
    refine tr_seq ?_
    refine tr_block ?_
    refine tr_draw [0, 1, 2, 3, 4, 5, 6, 7, 8, 9, 10, 11, 12] [13] mixed (by kernel_rfl) fun _ _ _ => ?_
    iterate 2 refine pu rfl rfl rfl rfl rfl ?_
    refine st rfl rfl rfl rfl (rFld rfl rfl) ?_
    refine st rfl rfl rfl rfl (rLdF rfl rfl rfl) ?_
    iterate 2 refine pu rfl rfl rfl rfl rfl ?_
    refine st rfl rfl rfl rfl (rIdxI rfl rfl rfl (by omega) (by omega) (by omega)) ?_
    refine st rfl rfl rfl rfl (rLdI rfl rfl (by omega)) ?_
    refine st rfl rfl rfl rfl (rSub rfl rfl rfl (by omega) (by omega)) ?_
    refine st rfl rfl rfl rfl (rFld rfl rfl) ?_
    refine st rfl rfl rfl rfl (rLdF rfl rfl rfl) ?_
    refine st rfl rfl rfl rfl (rRem rfl rfl rfl (by omega) (by omega)) ?_
    refine st rfl rfl rfl rfl (rIdxI rfl rfl rfl (by omega) (by omega) (by omega)) ?_
    refine ef rfl rfl (eStI rfl rfl rfl rfl (by omega) ?_) 
    refine tr_region fun _ _ _ => ?_
    refine pu rfl rfl rfl rfl rfl ?_
    refine st rfl rfl rfl rfl (rAdd rfl rfl rfl (by omega) (by omega)) ?_
    refine pu rfl rfl rfl rfl rfl ?_
    refine ⟨k + 1, o.set k.toNat ((p - o.getD k.toNat 0) % p), ⟨rfl, rfl, rfl, trivial⟩, by first | exact cs _ _ | exact CSub.refl _, ?_⟩
    refine ⟨⟨⟨by omega, by omega⟩, by simpa using hol, hoi.set ⟨e0, e1⟩ _, fun j hj => ?_, fun j hj => ?_⟩, by omega⟩
    · rw [getD_set]
      by_cases he : k.toNat = j
      · subst he; rw [if_pos ⟨rfl, by omega⟩, ho2 k.toNat (by omega)]
      · rw [if_neg (by omega)]; exact ho1 j (by omega)
    · rw [getD_set, if_neg (by omega)]; exact ho2 j (by omega)
  · try simp only [zbA] at h3
    refine tr_exit ?_
    refine tr_seq ?_
    refine tr_region fun _ _ _ => ?_
    refine st rfl rfl rfl rfl (rLdS rfl rfl rfl) ?_
    refine pu rfl rfl rfl rfl rfl ?_
    refine ef rfl rfl (eCallV rfl rfl rfl (ref_Value _ _ _ _ _ (by omega) (by omega) _ _ _ o (by omega) (by omega) hoi (by omega)) ⟨rfl, rfl, trivial⟩ ?_) 
    refine pu rfl rfl rfl rfl rfl ?_
    have hkm : k = m := by omega
    exact tr_ret ⟨trivial, _, _, rfl, ⟨by rw [hvt o hoi (by omega)]; exact congrArg _ (rv_cong fun j hj => by rw [show rl o j = (p - a.getD j 0) % p from ho1 j (by omega), Int.emod_emod]; show _ = (-1 * a.getD j 0) % p; rw [show p - a.getD j 0 = -1 * a.getD j 0 + p by omega, Int.add_emod_right]), rfl⟩, CSub.nil _, trivial⟩
theorem ref_Inv_ent : Enters Tryz.prog 193 := enters_of Tryz.func193 (by kernel_rfl) (by kernel_rfl)
theorem ref_Inv (p m : Int) (A : Option Addr) (c : Nat) (mod : List Int) (hF : FldR p m mod) (x : Int) :
    Pure Tryz.prog 193 #[.agg #[.int .i64 p, .int .i64 m, .slice A mod.length c], .int .i64 x] [ro A (ints mod)] (isV (.int .i64 (invI p m mod (inI (ordI p m) x)))) := by
  have hs := hF.1.1
  have hq2 := hs.q2
  have hp2 := hs.p2
  have hp9 := hs.p9
  have hm1 := hs.m1
  have hm8 := hs.m8
  have hqq := hs.q
  have hoq := hs.ord
  have hpm : p ^ m.toNat ≤ 256 := hqq
  have hxb := inI_bd (q := ordI p m) (by omega) x
  refine pure_of (args := [.agg #[.int .i64 p, .int .i64 m, .slice A mod.length c], .int .i64 x]) 18 Tryz.func193 rfl rfl rfl ref_Inv_ent ⟨id, trivial⟩ (fun w0 => ?_)
  refine tr_seq ?_
  refine tr_region fun _ _ _ => ?_
  refine ef rfl rfl (eBox rfl rfl rfl rfl rfl (fun p0 => ?_)) 
  refine pu rfl rfl rfl rfl rfl ?_
  refine tr_seq ?_
  refine tr_seq ?_
  refine tr_region fun _ _ _ => ?_
  refine pu rfl rfl rfl rfl rfl ?_
  refine tr_block ?_
  refine tr_loop1 (fun (i : Int) => [(1, .int .i64 x), (2, .pointer (some p0)), (5, .int .i64 i)]) (fun (i : Int) => [blk p0 24 [.int .i64 p, .int .i64 m, .slice A mod.length c], ro A (ints mod)]) (fun (i : Int) => 1 ≤ i ∧ i ≤ pw p m ∧ ∀ j : Int, 1 ≤ j → j < i → mulI p m mod (inI (ordI p m) x) j ≠ 1) (fun (i : Int) => (pw p m - i).toNat) (1) ⟨rfl, rfl, rfl, trivial⟩ (by first | exact cs _ _ | exact CSub.refl _) (⟨by omega, by omega, fun j h1 h2 => by omega⟩) (fun i hI => ?_)
  obtain ⟨hi0, hi1, hno⟩ := hI
  refine tr_seq ?_
  refine tr_seq ?_
  refine tr_region fun _ _ _ => ?_
  refine pu rfl rfl rfl rfl rfl ?_
  refine st rfl rfl rfl rfl (rLdS rfl rfl rfl) ?_
  refine ef rfl rfl (eCallV rfl rfl rfl (ref_order _ _ _ _ _) ⟨rfl, trivial⟩ ?_) 
  refine pu rfl rfl rfl rfl rfl ?_
  refine tr_cond_bool rfl (fun h2 => ?_) (fun h2 => ?_)
  · try simp only [zbA] at h2
    refine tr_skip ?_
    refine tr_seq ?_
    refine tr_block ?_
    refine tr_seq ?_
    refine tr_region fun _ _ _ => ?_
    refine st rfl rfl rfl rfl (rLdS rfl rfl rfl) ?_
    iterate 2 refine pu rfl rfl rfl rfl rfl ?_
    refine ef rfl rfl (eCallV rfl rfl rfl (ref_Mul _ _ _ _ _ hs _ _) ⟨rfl, rfl, rfl, trivial⟩ ?_) 
    refine pu rfl rfl rfl rfl rfl ?_
    refine tr_cond_bool rfl (fun h4 => ?_) (fun h4 => ?_)
    · try simp only [zbA] at h4
      refine tr_seq ?_
      refine tr_region fun _ _ _ => ?_
      iterate 2 refine pu rfl rfl rfl rfl rfl ?_
      rw [inI_in (q := ordI p m) (x := i) (by omega) (by omega)] at h4
      have hx0 : inI (ordI p m) x ≠ 0 := fun e => by rw [e, mulI_zero hs] at h4; omega
      have hi := invI_spec hF (z := inI (ordI p m) x) ⟨by omega, by omega⟩
      have hin : i = invI p m mod (inI (ordI p m) x) := mul_inj hF (z := inI (ordI p m) x) ⟨by omega, by omega⟩ ⟨hi.1, hi.2.1⟩ ⟨by omega, by omega⟩ (by rw [hi.2.2, mulI_comm hs, h4])
      exact tr_ret ⟨trivial, _, _, rfl, ⟨by rw [← hin], rfl⟩, CSub.nil _, trivial⟩
    · try simp only [zbA] at h4
      refine tr_skip ?_
      refine tr_region fun _ _ _ => ?_
      refine pu rfl rfl rfl rfl rfl ?_
      refine st rfl rfl rfl rfl (rAdd rfl rfl rfl (by omega) (by omega)) ?_
      refine pu rfl rfl rfl rfl rfl ?_
      refine ⟨i + 1, ⟨rfl, rfl, rfl, trivial⟩, by first | exact cs _ _ | exact CSub.refl _, ?_⟩
      refine ⟨⟨by omega, by omega, fun j h1 h2 => ?_⟩, by omega⟩
      by_cases he : j = i
      · subst he; rw [inI_in (q := ordI p m) (x := j) (by omega) (by omega)] at h4; exact h4
      · exact hno j h1 (by omega)
  · try simp only [zbA] at h2
    refine tr_exit ?_
    refine tr_seq ?_
    refine tr_region fun _ _ _ => ?_
    refine pu rfl rfl rfl rfl rfl ?_
    have hz : invI p m mod (inI (ordI p m) x) = 0 := by
      unfold invI
      rw [dif_neg]
      rintro ⟨y, h1, h2, h3⟩
      have hy0 : y ≠ 0 := fun e => by rw [e, mulI_zero hs] at h3; omega
      exact hno y (by omega) (by omega) (by rw [mulI_comm hs]; exact h3)
    exact tr_ret ⟨trivial, _, _, rfl, ⟨by rw [hz], rfl⟩, CSub.nil _, trivial⟩
end Go.Proofs.YtgnmcoegdogfgaaGreat

set_option linter.unusedSimpArgs false
set_option linter.unusedVariables false
set_option maxRecDepth 100000
namespace Go.Proofs.YtgnmcoegdogfgaaGreat
open Go.RowKit
theorem gf_AddE (g : GfM) {p m : Int} {mod : List Int} [hF : IsF p m mod] (hg : GOk g p m mod) (x y : Int) : Pure Tryz.prog 138 #[.pointer (some g.p), .int .i64 x, .int .i64 y] [gfR g] (isV (.int .i64 (el x + el y : El p m mod).1)) := by
  have h := gf_Add g p m mod hg x y
  rw [hg.eq] at h
  exact h
theorem gf_MulE (g : GfM) {p m : Int} {mod : List Int} [hF : IsF p m mod] (hg : GOk g p m mod) (x y : Int) : Pure Tryz.prog 132 #[.pointer (some g.p), .int .i64 x, .int .i64 y] [gfR g] (isV (.int .i64 (el x * el y : El p m mod).1)) := by
  have h := gf_Mul g p m mod hg x y
  rw [hg.eq] at h
  exact h
theorem gf_NegE (g : GfM) {p m : Int} {mod : List Int} [hF : IsF p m mod] (hg : GOk g p m mod) (x : Int) : Pure Tryz.prog 116 #[.pointer (some g.p), .int .i64 x] [gfR g] (isV (.int .i64 (-el x : El p m mod).1)) := by
  have h := gf_Neg g p m mod hg x
  rw [hg.eq] at h
  exact h
theorem gf_InvE (g : GfM) {p m : Int} {mod : List Int} [hF : IsF p m mod] (hg : GOk g p m mod) (x : Int) (hx : (el x : El p m mod) ≠ 0) : Pure Tryz.prog 178 #[.pointer (some g.p), .int .i64 x] [gfR g] (isV (.tuple #[.int .i64 (Fd.inv (el x : El p m mod)).1, .int .i64 0])) := by
  have h := gf_Inv g p m mod hg x
  have e : ¬ inI (pw p m) x = 0 := fun e => hx ((val_zero_iff (el x : El p m mod)).1 e)
  rw [hg.eq, if_neg e] at h
  exact h
theorem gf_ScaleE (g : GfM) {p m : Int} {mod : List Int} [hF : IsF p m mod] (hg : GOk g p m mod) (x : Int) (A : Option Addr) (n c : Nat) (l : List Int) (hn : n = l.length) (h9 : l.length ≤ 17592186044415) : Pure Tryz.prog 180 #[.pointer (some g.p), .int .i64 x, .slice A n c] [gfR g, ro A (ints l)] (one (fun v ch => ∃ B, v = .slice B l.length l.length ∧ ch = ow B 3 l.length (ints (l.map fun y => (el x * el y : El p m mod).1)))) := by
  have h := gf_Scale g p m mod hg x A n c l hn h9
  rw [hg.eq] at h
  exact h
theorem poly_CanonE (g : GfM) {p m : Int} {mod : List Int} [hF : IsF p m mod] (hg : GOk g p m mod) (A : Option Addr) (n c : Nat) (a : List Int) (hn : n = a.length) (ha9 : a.length ≤ 17592186044415) : Pure Tryz.prog 123 #[.pointer (some g.p), .slice A n c] [gfR g, ro A (ints a)] (one (fun v ch => ∃ B cap, v = .slice B (il (pol a : Po (El p m mod))).length cap ∧ (il (pol a : Po (El p m mod))).length ≤ cap ∧ ch = ow B 3 cap (ints (il (pol a : Po (El p m mod)))))) := by
  have h := poly_CanonS g A n c a hn ha9
  rw [hg.eq, ← il_pol (mod := mod)] at h
  exact h
theorem El.bd {p m : Int} {mod : List Int} (a : El p m mod) : 0 ≤ a.1 ∧ a.1 < pw p m := a.2
theorem allIn_rep {q : Int} (hq : 0 < q) (n : Nat) : AllIn q (List.replicate n 0) := fun z hz => by have := List.eq_of_mem_replicate hz; omega
theorem rep_get (n j : Nat) : (List.replicate n (0 : Int)).getD j 0 = 0 := by rw [List.getD_eq_getElem?_getD, List.getElem?_replicate]; split <;> rfl
theorem il_le {p m : Int} {mod : List Int} [hF : IsF p m mod] (l : List Int) : (il (pol l : Po (El p m mod))).length ≤ l.length := by
  rw [il_length]
  exact Po.len_le (pol_sh l)
section
variable {p m : Int} {mod : List Int} [hF : IsF p m mod]
end
theorem ref_AddE (p m : Int) (A : Option Addr) (c : Nat) (mod : List Int) [hF : IsF p m mod] (x y : Int) : Pure Tryz.prog 89 #[.agg #[.int .i64 p, .int .i64 m, .slice A mod.length c], .int .i64 x, .int .i64 y] [ro A (ints mod)] (isV (.int .i64 (el x + el y : El p m mod).1)) := by
  have h := ref_Add p m A c mod hF.out.1.1 x y
  rw [hF.ord] at h
  exact h
theorem ref_MulE (p m : Int) (A : Option Addr) (c : Nat) (mod : List Int) [hF : IsF p m mod] (x y : Int) : Pure Tryz.prog 90 #[.agg #[.int .i64 p, .int .i64 m, .slice A mod.length c], .int .i64 x, .int .i64 y] [ro A (ints mod)] (isV (.int .i64 (el x * el y : El p m mod).1)) := by
  have h := ref_Mul p m A c mod hF.out.1.1 x y
  rw [hF.ord] at h
  exact h
theorem ref_NegE (p m : Int) (A : Option Addr) (c : Nat) (mod : List Int) [hF : IsF p m mod] (x : Int) : Pure Tryz.prog 152 #[.agg #[.int .i64 p, .int .i64 m, .slice A mod.length c], .int .i64 x] [ro A (ints mod)] (isV (.int .i64 (-el x : El p m mod).1)) := by
  have h := ref_Neg p m A c mod hF.out.1.1 x
  rw [hF.ord] at h
  exact h
theorem ref_InvE (p m : Int) (A : Option Addr) (c : Nat) (mod : List Int) [hF : IsF p m mod] (x : Int) : Pure Tryz.prog 193 #[.agg #[.int .i64 p, .int .i64 m, .slice A mod.length c], .int .i64 x] [ro A (ints mod)] (isV (.int .i64 (Fd.inv (el x) : El p m mod).1)) := by
  have h := ref_Inv p m A c mod hF.out x
  rw [hF.ord] at h
  exact h
end Go.Proofs.YtgnmcoegdogfgaaGreat

set_option linter.unusedSimpArgs false
set_option linter.unusedVariables false
set_option maxRecDepth 100000
namespace Go.Proofs.YtgnmcoegdogfgaaGreat
open Go.RowKit
section
variable {p m : Int} {mod : List Int} [hF : IsF p m mod]
noncomputable def addR (c : El p m mod) (ds ss : List Int) : List Int := (List.range ds.length).map fun j => (el (ds.getD j 0) + c * el (ss.getD j 0) : El p m mod).1
noncomputable def sclR (c : El p m mod) (xs : List Int) : List Int := xs.map fun y => (c * el y : El p m mod).1
@[simp] theorem addR_length (c : El p m mod) (ds ss : List Int) : (addR c ds ss).length = ds.length := by simp [addR]
@[simp] theorem sclR_length (c : El p m mod) (xs : List Int) : (sclR c xs).length = xs.length := by simp [sclR]
theorem addR_get (c : El p m mod) (ds ss : List Int) {j : Nat} (h : j < ds.length) : (addR c ds ss).getD j 0 = (el (ds.getD j 0) + c * el (ss.getD j 0) : El p m mod).1 := by
  unfold addR
  rw [List.getD_eq_getElem?_getD, List.getElem?_map, List.getElem?_range h]
  rfl
theorem addR_in (c : El p m mod) (ds ss : List Int) : AllIn (pw p m) (addR c ds ss) := fun z hz => by
  obtain ⟨j, _, rfl⟩ := List.mem_map.1 hz
  exact El.bd _
theorem sclR_in (c : El p m mod) (xs : List Int) : AllIn (pw p m) (sclR c xs) := fun z hz => by
  obtain ⟨j, _, rfl⟩ := List.mem_map.1 hz
  exact El.bd _
theorem getD_out {l : List Int} {j : Nat} (h : l.length ≤ j) : l.getD j 0 = 0 := by rw [List.getD_eq_getElem?_getD, List.getElem?_eq_none h]; rfl
theorem rw_addR (c : El p m mod) (ds ss : List Int) (h : ss.length ≤ ds.length) : (rw' (addR c ds ss) : Vc (El p m mod)) = rw' ds + Vc.sc c (rw' ss) := Vc.ext fun j => by
  rw [Vc.add_at, Vc.sc_at, rw_at, rw_at, rw_at]
  by_cases hj : j < ds.length
  · rw [addR_get c ds ss hj, el_of]
  · rw [getD_out (by simpa using hj), getD_out (l := ds) (by omega), getD_out (l := ss) (by omega), el_zero]; grind
theorem rw_sclR (c : El p m mod) (xs : List Int) : (rw' (sclR c xs) : Vc (El p m mod)) = Vc.sc c (rw' xs) := Vc.ext fun j => by
  rw [Vc.sc_at, rw_at, rw_at]
  by_cases hj : j < xs.length
  · unfold sclR
    rw [List.getD_eq_getElem?_getD, List.getElem?_map, List.getElem?_eq_getElem hj, List.getD_eq_getElem?_getD, List.getElem?_eq_getElem hj]
    exact el_of _
  · rw [getD_out (by simpa using hj), getD_out (l := xs) (by omega), el_zero]; grind
end
theorem mem_erase {rs : List RowM} {i k : Nat} (hk : k < rs.length) (h : k ≠ i) : rs.getD k rowD ∈ rs.eraseIdx i := by
  rw [List.mem_eraseIdx_iff_getElem]
  exact ⟨k, hk, h, by rw [List.getD_eq_getElem?_getD, List.getElem?_eq_getElem hk]; rfl⟩
theorem mat_add_ent : Enters Tryz.prog 238 := enters_of Tryz.func238 (by kernel_rfl) (by kernel_rfl)
theorem mat_add (g : GfM) {p m : Int} {mod : List Int} [hF : IsF p m mod] (hg : GOk g p m mod) (D : Option Addr) (cd : Nat) (ds : List Int) (c : Int) (B : Option Addr) (cb : Nat) (ss : List Int) (hl : ss.length = ds.length) (h9 : ds.length ≤ 17592186044415) (hds : AllIn (pw p m) ds) :
    Mut Tryz.prog 238 #[.pointer (some g.p), .slice D ds.length cd, .int .i64 c, .slice B ss.length cb] [ow D 3 cd (ints ds)] [gfR g, ro B (ints ss)] (one (fun v ch => v = .tuple #[] ∧ ch = ow D 3 cd (ints (addR (el c : El p m mod) ds ss)))) := by
  refine mut_of (args := [.pointer (some g.p), .slice D ds.length cd, .int .i64 c, .slice B ss.length cb]) 33 (F := [ow D 3 cd (ints ds), gfR g, ro B (ints ss)]) rfl Tryz.func238 rfl rfl rfl mat_add_ent (fun w0 => ?_)
  refine tr_seq ?_
  refine tr_region fun _ _ _ => ?_
  refine pu rfl rfl rfl rfl rfl ?_
  refine st rfl rfl rfl rfl (rLen rfl rfl) ?_
  refine pu rfl rfl rfl rfl rfl ?_
  refine tr_block ?_
  refine tr_loop2 (fun (j : Int) (o : List Int) => [(0, .pointer (some g.p)), (1, .slice D ds.length cd), (2, .int .i64 c), (10, .slice B ss.length cb), (11, .int .i64 ss.length), (12, .int .i64 j)]) (fun (j : Int) (o : List Int) => [ow D 3 cd (ints o), gfR g, ro B (ints ss)]) (fun (j : Int) (o : List Int) => (0 ≤ j ∧ j ≤ ss.length) ∧ o.length = ds.length ∧ (∀ t : Nat, (t : Int) < j → o.getD t 0 = (el (ds.getD t 0) + el c * el (ss.getD t 0) : El p m mod).1) ∧ ∀ t : Nat, j ≤ t → o.getD t 0 = ds.getD t 0) (fun (j : Int) (o : List Int) => (ss.length - j).toNat) (0) (ds) ⟨rfl, rfl, rfl, rfl, rfl, rfl, trivial⟩ (by first | exact cs _ _ | exact CSub.refl _) (⟨⟨by omega, by omega⟩, rfl, fun t ht => by omega, fun t ht => rfl⟩) (fun j o hI => ?_)
  obtain ⟨⟨hj0, hj1⟩, hol, ho1, ho2⟩ := hI
  refine tr_seq ?_
  refine tr_region fun _ _ _ => ?_
  refine pu rfl rfl rfl rfl rfl ?_
  refine tr_seq ?_
  refine tr_cond_bool rfl (fun h1 => ?_) (fun h1 => ?_)
  · try simp only [zbA] at h1
    refine tr_skip ?_
    refine tr_seq ?_
    refine tr_block ?_
    refine tr_seq ?_
    refine tr_region fun _ _ _ => ?_
    refine pu rfl rfl rfl rfl rfl ?_
    refine st rfl rfl rfl rfl (rIdxI rfl rfl rfl (by omega) (by omega) (by omega)) ?_
    refine st rfl rfl rfl rfl (rLdI rfl rfl (by omega)) ?_
    iterate 2 refine pu rfl rfl rfl rfl rfl ?_
    refine tr_seq ?_
    refine tr_region fun _ _ _ => ?_
    iterate 2 refine pu rfl rfl rfl rfl rfl ?_
    refine tr_cond_bool rfl (fun h3 => ?_) (fun h3 => ?_)
    · try simp only [zbA] at h3
      refine tr_draw [0, 1, 2, 3, 4, 5, 6, 7, 8, 9, 10, 11, 12] [13] mixed (by kernel_rfl) fun _ _ _ => ?_
      iterate 5 refine pu rfl rfl rfl rfl rfl ?_
      refine st rfl rfl rfl rfl (rIdxI rfl rfl rfl (by omega) (by omega) (by omega)) ?_
      refine st rfl rfl rfl rfl (rLdI rfl rfl (by omega)) ?_
      iterate 3 refine pu rfl rfl rfl rfl rfl ?_
      refine ef rfl rfl (eCallV rfl rfl rfl (gf_MulE g hg _ _) ⟨rfl, rfl, rfl, trivial⟩ ?_) 
      refine ef rfl rfl (eCallV rfl rfl rfl (gf_AddE g hg _ _) ⟨rfl, rfl, rfl, trivial⟩ ?_) 
      refine st rfl rfl rfl rfl (rIdxI rfl rfl rfl (by omega) (by omega) (by omega)) ?_
      refine ef rfl rfl (eStI rfl rfl rfl rfl (by omega) ?_) 
      refine tr_region fun _ _ _ => ?_
      refine st rfl rfl rfl rfl (rAdd rfl rfl rfl (by omega) (by omega)) ?_
      refine pu rfl rfl rfl rfl rfl ?_
      refine ⟨j + 1, o.set j.toNat (el (o.getD j.toNat 0) + el (el c * el (ss.getD j.toNat 0) : El p m mod).1 : El p m mod).1, ⟨rfl, rfl, rfl, rfl, rfl, rfl, trivial⟩, by first | exact cs _ _ | exact CSub.refl _, ?_⟩
      refine ⟨⟨⟨by omega, by omega⟩, by simpa using hol, fun t ht => ?_, fun t ht => ?_⟩, by omega⟩
      · rw [getD_set]
        by_cases he : j.toNat = t
        · subst he; rw [if_pos ⟨rfl, by omega⟩, el_of, ho2 _ (by omega)]
        · rw [if_neg (by omega)]; exact ho1 t (by omega)
      · rw [getD_set, if_neg (by omega)]; exact ho2 t (by omega)
    · try simp only [zbA] at h3
      refine tr_skip ?_
      refine tr_region fun _ _ _ => ?_
      refine st rfl rfl rfl rfl (rAdd rfl rfl rfl (by omega) (by omega)) ?_
      refine pu rfl rfl rfl rfl rfl ?_
      refine ⟨j + 1, o, ⟨rfl, rfl, rfl, rfl, rfl, rfl, trivial⟩, by first | exact cs _ _ | exact CSub.refl _, ?_⟩
      refine ⟨⟨⟨by omega, by omega⟩, hol, fun t ht => ?_, fun t ht => ho2 t (by omega)⟩, by omega⟩
      by_cases he : j.toNat = t
      · subst he
        have hb := hds.get (by have := hF.q2; omega) j.toNat
        rw [ho2 _ (by omega), show ss.getD j.toNat 0 = 0 by omega, el_zero, Rg.mul_zero, Rg.add_zero, el_in hb]
      · exact ho1 t (by omega)
  · try simp only [zbA] at h1
    refine tr_exit ?_
    have hfin : o = addR (el c : El p m mod) ds ss := ext_getD (by simpa using hol) fun t => by
      by_cases ht : t < ds.length
      · rw [addR_get _ _ _ ht, ho1 t (by omega)]
      · rw [getD_out (by omega), getD_out (by simp; omega)]
    rw [← hfin]
    exact ⟨trivial, _, _, .nil, ⟨_, rfl, rfl, rfl⟩, cs _ _, trivial, trivial⟩
theorem elim_swap_ent : Enters Tryz.prog 235 := enters_of Tryz.func235 (by kernel_rfl) (by kernel_rfl)
theorem elim_swap (A : Option Addr) (n cp : Nat) (rs : List RowM) (hn : n = rs.length) (pi pk : Addr) (i k : Int) (hi : 0 ≤ i ∧ i < rs.length) (hk : 0 ≤ k ∧ k < rs.length) :
    Mut Tryz.prog 235 #[.slice A n cp, .pointer (some pi), .pointer (some pk)] [ow A 22 cp (hdrs rs), rowsCh 3 rs] [ro (some pi) [.int .i64 i], ro (some pk) [.int .i64 k]] (two (fun v ca cb => v = .tuple #[] ∧ ca = ow A 22 cp (hdrs ((rs.set k.toNat (rs.getD i.toNat rowD)).set i.toNat (rs.getD k.toNat rowD))) ∧ cb = rowsCh 3 ((rs.set k.toNat (rs.getD i.toNat rowD)).set i.toNat (rs.getD k.toNat rowD)))) := by
  haveI : InB i.toNat rs.length := ⟨by omega⟩
  haveI : InB k.toNat rs.length := ⟨by omega⟩
  refine mut_of (args := [.slice A n cp, .pointer (some pi), .pointer (some pk)]) 18 (F := [ow A 22 cp (hdrs rs), rowsCh 3 rs, ro (some pi) [.int .i64 i], ro (some pk) [.int .i64 k]]) rfl Tryz.func235 rfl rfl rfl elim_swap_ent (fun w0 => ?_)
  refine tr_plan [ro (some pi) [.int .i64 i], ro (some pk) [.int .i64 k]] [(0, 0), (0, 1), (2, 2), (2, 3), (0, 4), (0, 5), (0, 6), (0, 7), (0, 8), (0, 9), (0, 10), (0, 11), (0, 12), (1, 13), (0, 14), (1, 15)] mixed (by kernel_rfl) fun _ _ _ => ?_
  refine pu rfl rfl rfl rfl rfl ?_
  refine st rfl rfl rfl rfl (rLd0 rfl rfl) ?_
  refine stF rfl rfl rfl rfl (cs _ _) (rMove rfl rfl) ?_
  refine stF rfl rfl rfl rfl (cs _ _) (rLd0 rfl rfl) ?_
  refine pu rfl rfl rfl rfl rfl ?_
  refine st rfl rfl rfl rfl (rLd0 rfl rfl) ?_
  refine st rfl rfl rfl rfl (rIdxR rfl rfl rfl (by omega) (by omega) (by omega)) ?_
  refine st rfl rfl rfl rfl (rLdR rfl rfl (by omega)) ?_
  refine pu rfl rfl rfl rfl rfl ?_
  refine st rfl rfl rfl rfl (rLd0 rfl rfl) ?_
  refine st rfl rfl rfl rfl (rIdxR rfl rfl rfl (by omega) (by omega) (by omega)) ?_
  refine st rfl rfl rfl rfl (rLdR rfl rfl (by omega)) ?_
  refine st rfl rfl rfl rfl (rIdxR rfl rfl rfl (by omega) (by omega) (by omega)) ?_
  refine ef rfl rfl (eSt rfl rfl rfl rfl (by first | omega | (simp; omega)) rfl rfl ?_) 
  refine ⟨cs _ _, ?_⟩
  refine st rfl rfl rfl rfl (rIdx rfl rfl rfl (by omega) (by omega) (by simp; omega)) ?_
  refine ef rfl rfl (eSt rfl rfl rfl rfl (by first | omega | (simp; omega)) rfl rfl ?_) 
  refine ⟨cs _ _, ?_⟩
  have hh : ((hdrs rs).set k.toNat (RowM.hdr (rs.getD i.toNat rowD))).set i.toNat (RowM.hdr (rs.getD k.toNat rowD)) = hdrs ((rs.set k.toNat (rs.getD i.toNat rowD)).set i.toNat (rs.getD k.toNat rowD)) := by rw [hdrs_set, hdrs_set]
  exact ⟨trivial, _, _, .nil, ⟨_, _, rfl, rfl, rfl, rfl⟩, hh ▸ ((cs _ [rowsCh 3 rs, ow A 22 cp (((hdrs rs).set k.toNat (.slice (rs.getD i.toNat rowD).A (rs.getD i.toNat rowD).xs.length (rs.getD i.toNat rowD).cap)).set i.toNat (.slice (rs.getD k.toNat rowD).A (rs.getD k.toNat rowD).xs.length (rs.getD k.toNat rowD).cap))]).trans ((rows_perm (swap_perm rowD rs (by omega) (by omega)) _).trans (CSub.perm (List.Perm.swap ..)))), trivial, trivial, trivial⟩
theorem elim_scale_ent : Enters Tryz.prog 236 := enters_of Tryz.func236 (by kernel_rfl) (by kernel_rfl)
theorem elim_scale (g : GfM) {p m : Int} {mod : List Int} [hF : IsF p m mod] (hg : GOk g p m mod) (A : Option Addr) (n cp : Nat) (rs : List RowM) (hn : n = rs.length) (pg pf pk : Addr) (f k : Int) (hk : 0 ≤ k ∧ k < rs.length) (hl : (rs.getD k.toNat rowD).xs.length ≤ 17592186044415) :
    Mut Tryz.prog 236 #[.slice A n cp, .pointer (some pg), .pointer (some pf), .pointer (some pk)] [ow A 22 cp (hdrs rs), rowsCh 3 rs] [ro (some pg) [.pointer (some g.p)], ro (some pf) [.int .i64 f], ro (some pk) [.int .i64 k], gfR g] (two (fun v ca cb => ∃ B, v = .tuple #[] ∧ ca = ow A 22 cp (hdrs (rs.set k.toNat (⟨B, (rs.getD k.toNat rowD).xs.length, sclR (el f : El p m mod) (rs.getD k.toNat rowD).xs⟩ : RowM))) ∧ cb = rowsCh 3 (rs.set k.toNat (⟨B, (rs.getD k.toNat rowD).xs.length, sclR (el f : El p m mod) (rs.getD k.toNat rowD).xs⟩ : RowM)))) := by
  haveI : InB k.toNat rs.length := ⟨by omega⟩
  refine mut_of (args := [.slice A n cp, .pointer (some pg), .pointer (some pf), .pointer (some pk)]) 15 (F := [ow A 22 cp (hdrs rs), rowsCh 3 rs, ro (some pg) [.pointer (some g.p)], ro (some pf) [.int .i64 f], ro (some pk) [.int .i64 k], gfR g]) rfl Tryz.func236 rfl rfl rfl elim_scale_ent (fun w0 => ?_)
  refine tr_draw [0, 1, 2, 3, 4, 5, 6, 7, 8, 9] [10] mixed (by kernel_rfl) fun _ _ _ => ?_
  refine pu rfl rfl rfl rfl rfl ?_
  refine st rfl rfl rfl rfl (rLd0 rfl rfl) ?_
  refine st rfl rfl rfl rfl (rLd0 rfl rfl) ?_
  refine st rfl rfl rfl rfl (rLd0 rfl rfl) ?_
  refine pu rfl rfl rfl rfl rfl ?_
  refine st rfl rfl rfl rfl (rLd0 rfl rfl) ?_
  refine st rfl rfl rfl rfl (rIdxR rfl rfl rfl (by omega) (by omega) (by omega)) ?_
  refine st rfl rfl rfl rfl (rLdR rfl rfl (by omega)) ?_
  refine ef rfl rfl (eCall1 rfl rfl rfl (gf_ScaleE g hg _ _ _ _ (rs.getD k.toNat rowD).xs rfl hl) ⟨rfl, rfl, rfl, trivial⟩ ?_) 
  rintro _ _ ⟨B, rfl, rfl⟩
  refine st rfl rfl rfl rfl (rIdxR rfl rfl rfl (by omega) (by omega) (by omega)) ?_
  refine ef rfl rfl (eSt rfl rfl rfl rfl (by first | omega | (simp; omega)) rfl rfl ?_) 
  have hh : (hdrs rs).set k.toNat (.slice B (rs.getD k.toNat rowD).xs.length (rs.getD k.toNat rowD).xs.length) = hdrs (rs.set k.toNat (⟨B, (rs.getD k.toNat rowD).xs.length, sclR (el f : El p m mod) (rs.getD k.toNat rowD).xs⟩ : RowM)) := by rw [hdrs_set]; simp [RowM.hdr]
  exact ⟨trivial, _, _, .nil, ⟨_, _, rfl, B, rfl, rfl, rfl⟩, hh ▸ ((cs _ [rowsCh 3 rs, ow B 3 (rs.getD k.toNat rowD).xs.length (ints ((rs.getD k.toNat rowD).xs.map fun y => (el f * el y : El p m mod).1)), ow A 22 cp ((hdrs rs).set k.toNat (.slice B (rs.getD k.toNat rowD).xs.length (rs.getD k.toNat rowD).xs.length))]).trans ((rows_put (r := (⟨B, (rs.getD k.toNat rowD).xs.length, sclR (el f : El p m mod) (rs.getD k.toNat rowD).xs⟩ : RowM)) (show k.toNat < rs.length by omega) _).trans (CSub.perm (List.Perm.swap ..)))), trivial, trivial, trivial⟩
theorem elim_add_ent : Enters Tryz.prog 237 := enters_of Tryz.func237 (by kernel_rfl) (by kernel_rfl)
theorem elim_add (g : GfM) {p m : Int} {mod : List Int} [hF : IsF p m mod] (hg : GOk g p m mod) (A : Option Addr) (n cp : Nat) (rs : List RowM) (hn : n = rs.length) (pg pi pf pk : Addr) (f i k : Int) (hi : 0 ≤ i ∧ i < rs.length) (hk : 0 ≤ k ∧ k < rs.length) (hik : i ≠ k) (hl : (rs.getD k.toNat rowD).xs.length = (rs.getD i.toNat rowD).xs.length) (hl9 : (rs.getD i.toNat rowD).xs.length ≤ 17592186044415) (hin : AllIn (pw p m) (rs.getD i.toNat rowD).xs) :
    Mut Tryz.prog 237 #[.slice A n cp, .pointer (some pg), .pointer (some pi), .pointer (some pf), .pointer (some pk)] [ow A 22 cp (hdrs rs), rowsCh 3 rs] [ro (some pg) [.pointer (some g.p)], ro (some pi) [.int .i64 i], ro (some pf) [.int .i64 f], ro (some pk) [.int .i64 k], gfR g] (two (fun v ca cb => v = .tuple #[] ∧ ca = ow A 22 cp (hdrs (rs.set i.toNat (⟨(rs.getD i.toNat rowD).A, (rs.getD i.toNat rowD).cap, addR (-(el f : El p m mod)) (rs.getD i.toNat rowD).xs (rs.getD k.toNat rowD).xs⟩ : RowM))) ∧ cb = rowsCh 3 (rs.set i.toNat (⟨(rs.getD i.toNat rowD).A, (rs.getD i.toNat rowD).cap, addR (-(el f : El p m mod)) (rs.getD i.toNat rowD).xs (rs.getD k.toNat rowD).xs⟩ : RowM)))) := by
  haveI : InB i.toNat rs.length := ⟨by omega⟩
  haveI : InB k.toNat rs.length := ⟨by omega⟩
  haveI : RowIn (rs.getD k.toNat rowD) (rs.eraseIdx i.toNat) := ⟨mem_erase (by omega) (by omega)⟩
  refine mut_of (args := [.slice A n cp, .pointer (some pg), .pointer (some pi), .pointer (some pf), .pointer (some pk)]) 19 (F := [ow A 22 cp (hdrs rs), rowsCh 3 rs, ro (some pg) [.pointer (some g.p)], ro (some pi) [.int .i64 i], ro (some pf) [.int .i64 f], ro (some pk) [.int .i64 k], gfR g]) rfl Tryz.func237 rfl rfl rfl elim_add_ent (fun w0 => ?_)
  refine tr_draw [0, 1, 2, 3, 4, 5, 6, 8, 9, 10, 11, 7] [12] mixed (by kernel_rfl) fun _ _ _ => ?_
  refine st rfl rfl rfl rfl (rLd0 rfl rfl) ?_
  refine pu rfl rfl rfl rfl rfl ?_
  refine st rfl rfl rfl rfl (rLd0 rfl rfl) ?_
  refine st rfl rfl rfl rfl (rIdxR rfl rfl rfl (by omega) (by omega) (by omega)) ?_
  refine st rfl rfl rfl rfl (rLdR rfl rfl (by omega)) ?_
  refine st rfl rfl rfl rfl (rLd0 rfl rfl) ?_
  refine st rfl rfl rfl rfl (rLd0 rfl rfl) ?_
  refine pu rfl rfl rfl rfl rfl ?_
  refine st rfl rfl rfl rfl (rLd0 rfl rfl) ?_
  refine st rfl rfl rfl rfl (rIdxR rfl rfl rfl (by omega) (by omega) (by omega)) ?_
  refine st rfl rfl rfl rfl (rLdR rfl rfl (by omega)) ?_
  refine ef rfl rfl (eCallV rfl rfl rfl (gf_NegE g hg _) ⟨rfl, rfl, trivial⟩ ?_) 
  refine st_sub (((cs _ [rowsCh 3 rs, ow A 22 cp (hdrs rs), ro (some pg) [.pointer (some g.p)], ro (some pi) [.int .i64 i], ro (some pf) [.int .i64 f], ro (some pk) [.int .i64 k], gfR g]).trans (rows_out (show i.toNat < rs.length by omega) _) : CSub _ [ow (rs.getD i.toNat rowD).A 3 (rs.getD i.toNat rowD).cap (ints (rs.getD i.toNat rowD).xs), rowsCh 3 (rs.eraseIdx i.toNat), ow A 22 cp (hdrs rs), ro (some pg) [.pointer (some g.p)], ro (some pi) [.int .i64 i], ro (some pf) [.int .i64 f], ro (some pk) [.int .i64 k], gfR g])) ?_
  refine ef rfl rfl (eCallM1 rfl rfl rfl (mat_add g hg _ _ _ _ _ _ _ hl hl9 hin) ⟨rfl, rfl, rfl, rfl, trivial⟩ ?_) 
  rintro _ _ ⟨rfl, rfl⟩
  rw [el_of]
  have hh : (hdrs rs).set i.toNat (RowM.hdr (⟨(rs.getD i.toNat rowD).A, (rs.getD i.toNat rowD).cap, addR (-(el f : El p m mod)) (rs.getD i.toNat rowD).xs (rs.getD k.toNat rowD).xs⟩ : RowM)) = hdrs (rs.set i.toNat (⟨(rs.getD i.toNat rowD).A, (rs.getD i.toNat rowD).cap, addR (-(el f : El p m mod)) (rs.getD i.toNat rowD).xs (rs.getD k.toNat rowD).xs⟩ : RowM)) := (hdrs_set _ _ _).symm
  have hs : (hdrs rs).set i.toNat (RowM.hdr (⟨(rs.getD i.toNat rowD).A, (rs.getD i.toNat rowD).cap, addR (-(el f : El p m mod)) (rs.getD i.toNat rowD).xs (rs.getD k.toNat rowD).xs⟩ : RowM)) = hdrs rs := by
    have e1 : RowM.hdr (⟨(rs.getD i.toNat rowD).A, (rs.getD i.toNat rowD).cap, addR (-(el f : El p m mod)) (rs.getD i.toNat rowD).xs (rs.getD k.toNat rowD).xs⟩ : RowM) = RowM.hdr (rs.getD i.toNat rowD) := by simp [RowM.hdr]
    rw [e1, ← hdrs_set]
    congr 1
    rw [List.getD_eq_getElem?_getD, List.getElem?_eq_getElem (show i.toNat < rs.length by omega)]
    exact List.set_getElem_self _
  exact ⟨trivial, _, _, .nil, ⟨_, _, rfl, rfl, rfl, rfl⟩, (hs.symm.trans hh) ▸ ((cs _ [ow (rs.getD i.toNat rowD).A 3 (rs.getD i.toNat rowD).cap (ints (addR (-(el f : El p m mod)) (rs.getD i.toNat rowD).xs (rs.getD k.toNat rowD).xs)), rowsCh 3 (rs.eraseIdx i.toNat), ow A 22 cp (hdrs rs)]).trans ((rows_in (r := (⟨(rs.getD i.toNat rowD).A, (rs.getD i.toNat rowD).cap, addR (-(el f : El p m mod)) (rs.getD i.toNat rowD).xs (rs.getD k.toNat rowD).xs⟩ : RowM)) (show i.toNat < rs.length by omega) _).trans (CSub.perm (List.Perm.swap ..)))), trivial, trivial, trivial⟩
theorem elim_each_ent : Enters Tryz.prog 234 := enters_of Tryz.func234 (by kernel_rfl) (by kernel_rfl)
theorem elim_each (A : Option Addr) (n cp : Nat) (rs : List RowM) (hn : n = rs.length) (ff : FuncId) (lb : List Value) (p5 p7 : Addr) (Gc : List Chunk) (hGc : NoEx Gc) (Φ : Value → Chunk → Chunk → Prop) (hf : Mut Tryz.prog ff ([(.slice A n cp : Value)] ++ lb).toArray [ow A 22 cp (hdrs rs), rowsCh 3 rs] Gc (two Φ)) (hex : ∀ u c d, Φ u c d → AllEx [c, d]) :
    Mut Tryz.prog 234 #[.func (.func ff) #[] lb.toArray, .pointer (some p5), .pointer (some p7)] [ow A 22 cp (hdrs rs), rowsCh 3 rs] [ro (some p5) [.slice A n cp], ro (some p7) [.slice none 0 0], bun Gc] (two (fun v ca cb => v = .tuple #[] ∧ ∃ u, Φ u ca cb)) := by
  refine mut_of (args := [.func (.func ff) #[] lb.toArray, .pointer (some p5), .pointer (some p7)]) 13 (F := [ow A 22 cp (hdrs rs), rowsCh 3 rs, ro (some p5) [.slice A n cp], ro (some p7) [.slice none 0 0], bun Gc]) rfl Tryz.func234 rfl rfl rfl elim_each_ent (fun w0 => ?_)
  refine tr_seq ?_
  refine tr_region fun _ _ _ => ?_
  refine pu rfl rfl rfl rfl rfl ?_
  refine st rfl rfl rfl rfl (rLd0 rfl rfl) ?_
  refine ef rfl rfl (eCallF2 rfl rfl rfl rfl (hf) ⟨rfl, trivial⟩ ?_ hGc) 
  rintro _ _ _ hΦ
  refine tr_seq ?_
  refine tr_region fun _ _ _ => ?_
  refine st rfl rfl rfl rfl (rLd0 rfl rfl) ?_
  refine st rfl rfl rfl rfl (rLen rfl rfl) ?_
  refine pu rfl rfl rfl rfl rfl ?_
  refine tr_cond_bool rfl (fun h1 => ?_) (fun h1 => ?_)
  · try simp only [zbA] at h1
    exact absurd h1 (by simp) --done
  · try simp only [zbA] at h1
    refine tr_skip ?_
    exact ⟨trivial, _, _, .nil, ⟨_, _, rfl, rfl, _, hΦ⟩, cs _ _, hex _ _ _ hΦ⟩
end Go.Proofs.YtgnmcoegdogfgaaGreat

set_option linter.unusedSimpArgs false
set_option linter.unusedVariables false
set_option linter.unusedSectionVars false
namespace Go.Proofs.YtgnmcoegdogfgaaGreat
namespace Vc
variable {K : Type} [Fd K]
theorem getD_setV {α : Type} (l : List α) (i j : Nat) (v d : α) : (l.set i v).getD j d = if i = j ∧ j < l.length then v else l.getD j d := by
  rw [List.getD_eq_getElem?_getD, List.getElem?_set]
  by_cases h : i = j
  · subst h
    by_cases h2 : i < l.length
    · rw [if_pos rfl, if_pos h2, if_pos ⟨rfl, h2⟩]; rfl
    · rw [if_pos rfl, if_neg h2, if_neg (fun h => h2 h.2), List.getD_eq_getElem?_getD, List.getElem?_eq_none (by omega)]
  · rw [if_neg h, if_neg (fun e => h e.1), ← List.getD_eq_getElem?_getD]
theorem span_perm {V V' : List (Vc K)} (h : V.Perm V') (u : Vc K) : SpL V u ↔ SpL V' u :=
  ⟨fun hu => hu.mono fun r hr => .of (h.mem_iff.1 hr), fun hu => hu.mono fun r hr => .of (h.mem_iff.2 hr)⟩
theorem span_set {V : List (Vc K)} {i : Nat} {v : Vc K} (hi : i < V.length) (h1 : SpL V v) (h2 : SpL (V.set i v) (V.getD i 0)) (u : Vc K) : SpL V u ↔ SpL (V.set i v) u := by
  constructor
  · refine fun hu => hu.mono fun r hr => ?_
    obtain ⟨j, hj, rfl⟩ := List.getElem_of_mem hr
    by_cases hij : i = j
    · subst hij
      have : V.getD i 0 = V[i] := by rw [List.getD_eq_getElem?_getD, List.getElem?_eq_getElem hi]; rfl
      rw [← this]; exact h2
    · refine .of ?_
      rw [List.mem_iff_getElem]
      exact ⟨j, by simpa using hj, by rw [List.getElem_set_ne hij]⟩
  · refine fun hu => hu.mono fun r hr => ?_
    rcases List.mem_or_eq_of_mem_set hr with h | h
    · exact .of h
    · rw [h]; exact h1
structure Eli (W : Vc K → Prop) (n : Nat) (V : List (Vc K)) (c : Nat) (ps : List Nat) : Prop where
  sp : ∀ u, SpL V u ↔ W u
  len : ps.length ≤ V.length
  lt : ∀ i, i < ps.length → ps.getD i 0 < c
  rise : ∀ i k, i < k → k < ps.length → ps.getD i 0 < ps.getD k 0
  one : ∀ i, i < ps.length → V.getD i 0 (ps.getD i 0) = 1
  off : ∀ i k, i < V.length → k < ps.length → i ≠ k → V.getD i 0 (ps.getD k 0) = 0
  low : ∀ i j, i < ps.length → j < ps.getD i 0 → V.getD i 0 j = 0
  zer : ∀ i j, ps.length ≤ i → i < V.length → j < c → V.getD i 0 j = 0
  sup : ∀ i j, i < V.length → n ≤ j → V.getD i 0 j = 0
variable {W : Vc K → Prop} {n c : Nat} {V : List (Vc K)} {ps : List Nat}
theorem Eli.start (hs : ∀ i j, i < V.length → n ≤ j → V.getD i 0 j = 0) : Eli (SpL V) n V 0 [] where
  sp _ := Iff.rfl
  len := Nat.zero_le _
  lt i h := by simp at h
  rise i k _ h := by simp at h
  one i h := by simp at h
  off i k _ h _ := by simp at h
  low i j h := by simp at h
  zer i j _ _ h := by omega
  sup := hs
theorem Eli.skip (h : Eli W n V c ps) (hz : ∀ i, ps.length ≤ i → i < V.length → V.getD i 0 c = 0) : Eli W n V (c + 1) ps :=
  { h with
    lt := fun i hi => by have := h.lt i hi; omega
    zer := fun i j h1 h2 h3 => by
      by_cases e : j = c
      · subst e; exact hz i h1 h2
      · exact h.zer i j h1 h2 (by omega) }
theorem Eli.swap (h : Eli W n V c ps) {a : Nat} (ha : ps.length ≤ a) (ha2 : a < V.length) : Eli W n ((V.set ps.length (V.getD a 0)).set a (V.getD ps.length 0)) c ps := by
  have hp := swap_perm (0 : Vc K) V (i := ps.length) (j := a) (by omega) ha2
  have key : ∀ i, i < V.length → ((V.set ps.length (V.getD a 0)).set a (V.getD ps.length 0)).getD i 0 = V.getD (if i = a then ps.length else if i = ps.length then a else i) 0 := fun i hi => by
    rw [getD_setV]
    by_cases e1 : a = i
    · rw [if_pos (show a = i ∧ i < (V.set ps.length (V.getD a 0)).length from ⟨e1, by simpa using hi⟩), if_pos (show i = a from e1.symm)]
    · rw [if_neg (show ¬ (a = i ∧ i < (V.set ps.length (V.getD a 0)).length) from fun e => e1 e.1), if_neg (show ¬ i = a from fun e => e1 e.symm), getD_setV]
      by_cases e2 : ps.length = i
      · rw [if_pos (show ps.length = i ∧ i < V.length from ⟨e2, hi⟩), if_pos (show i = ps.length from e2.symm)]
      · rw [if_neg (show ¬ (ps.length = i ∧ i < V.length) from fun e => e2 e.1), if_neg (show ¬ i = ps.length from fun e => e2 e.symm)]
  have lenE : ((V.set ps.length (V.getD a 0)).set a (V.getD ps.length 0)).length = V.length := by simp
  refine ⟨fun u => ((span_perm hp u).symm).trans (h.sp u), by rw [lenE]; exact h.len, h.lt, h.rise, fun i hi => ?_, fun i k hi hk hik => ?_, fun i j hi hj => ?_, fun i j h1 h2 h3 => ?_, fun i j hi hj => ?_⟩
  · rw [key i (by have := h.len; omega), if_neg (by omega), if_neg (by omega)]; exact h.one i hi
  · rw [lenE] at hi
    rw [key i hi]
    split
    · exact h.off _ k (by omega) hk (by omega)
    · split
      · exact h.off _ k ha2 hk (by omega)
      · exact h.off _ k hi hk hik
  · rw [key i (by have := h.len; omega), if_neg (by omega), if_neg (by omega)]; exact h.low i j hi hj
  · rw [lenE] at h2
    rw [key i h2]
    split
    · exact h.zer _ j (by omega) (by omega) h3
    · split
      · exact h.zer _ j ha ha2 h3
      · exact h.zer _ j h1 h2 h3
  · rw [lenE] at hi
    rw [key i hi]
    split
    · exact h.sup _ j (by omega) hj
    · split
      · exact h.sup _ j ha2 hj
      · exact h.sup _ j hi hj
theorem Eli.turn (h : Eli W n V c ps) {i : Nat} {v : Vc K} (hi : i < V.length) (hk : ps.length < V.length) (h1 : SpL V v) (h2 : SpL (V.set i v) (V.getD i 0))
    (hv : (∃ f, v = V.getD i 0 + sc f (V.getD ps.length 0) ∧ i ≠ ps.length) ∨ (∃ e, v = sc e (V.getD ps.length 0) ∧ i = ps.length)) : Eli W n (V.set i v) c ps := by
  have key : ∀ t j, t < V.length → (∀ u, u < V.length → u = t ∨ u = ps.length → V.getD u 0 j = 0) → (V.set i v).getD t 0 j = 0 := fun t j ht hz => by
    rw [getD_setV]
    by_cases e : i = t
    · subst e
      rw [if_pos ⟨rfl, ht⟩]
      rcases hv with ⟨f, rfl, _⟩ | ⟨e, rfl, _⟩
      · rw [add_at, sc_at, hz i ht (.inl rfl), hz ps.length hk (.inr rfl)]; grind
      · rw [sc_at, hz ps.length hk (.inr rfl)]; grind
    · rw [if_neg (fun x => e x.1)]; exact hz t ht (.inl rfl)
  have lenE : (V.set i v).length = V.length := by simp
  refine ⟨fun u => (span_set hi h1 h2 u).symm.trans (h.sp u), by rw [lenE]; exact h.len, h.lt, h.rise, fun t ht => ?_, fun t k ht hk2 htk => ?_, fun t j ht hj => ?_, fun t j h3 h4 h5 => ?_, fun t j ht hj => ?_⟩
  · rw [getD_setV]
    by_cases e : i = t
    · subst e
      rw [if_pos ⟨rfl, hi⟩]
      rcases hv with ⟨f, rfl, _⟩ | ⟨e, _, he⟩
      · rw [add_at, sc_at, h.one i ht, h.off ps.length i hk ht (by omega)]; grind
      · omega
    · rw [if_neg (fun x => e x.1)]; exact h.one t ht
  · rw [lenE] at ht
    exact key t _ ht fun u hu hu2 => h.off u k hu hk2 (by rcases hu2 with rfl | rfl <;> omega)
  · exact key t j (by have := h.len; omega) fun u hu hu2 => by
      rcases hu2 with rfl | rfl
      · exact h.low _ j ht hj
      · exact h.zer _ j (Nat.le_refl _) hk (by have := h.lt t ht; omega)
  · rw [lenE] at h4
    exact key t j h4 fun u hu hu2 => h.zer u j (by rcases hu2 with rfl | rfl <;> omega) hu h5
  · rw [lenE] at ht
    exact key t j ht fun u hu _ => h.sup u j hu hj
theorem Eli.scale (h : Eli W n V c ps) (hk : ps.length < V.length) {e : K} (he : e ≠ 0) : Eli W n (V.set ps.length (sc e (V.getD ps.length 0))) c ps := by
  refine h.turn hk hk (Sp.scale _ (.of (getD_eq_mem hk 0))) ?_ (.inr ⟨e, rfl, rfl⟩)
  have h2 : (sc e (V.getD ps.length 0)) ∈ V.set ps.length (sc e (V.getD ps.length 0)) := by
    rw [List.mem_iff_getElem]
    exact ⟨ps.length, by simpa using hk, by rw [List.getElem_set_self]⟩
  have h3 := Sp.scale (Fd.inv e) (Sp.of (S := fun r => r ∈ V.set ps.length (sc e (V.getD ps.length 0))) h2)
  rwa [sc_sc, Fd.inv_mul e he, one_sc] at h3
theorem Eli.plus (h : Eli W n V c ps) (hk : ps.length < V.length) {i : Nat} (hi : i < V.length) (hik : i ≠ ps.length) (f : K) : Eli W n (V.set i (V.getD i 0 + sc f (V.getD ps.length 0))) c ps := by
  refine h.turn hi hk (Sp.plus (.of (getD_eq_mem hi 0)) (Sp.scale _ (.of (getD_eq_mem hk 0)))) ?_ (.inl ⟨f, rfl, hik⟩)
  have h2 : (V.getD i 0 + sc f (V.getD ps.length 0)) ∈ V.set i (V.getD i 0 + sc f (V.getD ps.length 0)) := by
    rw [List.mem_iff_getElem]
    exact ⟨i, by simpa using hi, by rw [List.getElem_set_self]⟩
  have h3 : V.getD ps.length 0 ∈ V.set i (V.getD i 0 + sc f (V.getD ps.length 0)) := by
    rw [List.mem_iff_getElem]
    refine ⟨ps.length, by simpa using hk, ?_⟩
    have e : V.getD ps.length 0 = V[ps.length] := by rw [List.getD_eq_getElem?_getD, List.getElem?_eq_getElem hk]; rfl
    rw [List.getElem_set_ne hik]
    exact e.symm
  have h4 := Sp.plus (Sp.of (S := fun r => r ∈ V.set i (V.getD i 0 + sc f (V.getD ps.length 0))) h2) (Sp.scale (-f) (Sp.of h3))
  have h5 : V.getD i 0 + sc f (V.getD ps.length 0) + sc (-f) (V.getD ps.length 0) = V.getD i 0 := ext fun j => by
    rw [add_at, add_at, sc_at, sc_at]; grind
  rwa [h5] at h4
theorem getD_snoc (ps : List Nat) (c i : Nat) : (ps ++ [c]).getD i 0 = if i < ps.length then ps.getD i 0 else if i = ps.length then c else 0 := by
  rw [List.getD_eq_getElem?_getD, List.getElem?_append]
  split
  · rw [List.getD_eq_getElem?_getD]
  · by_cases h : i = ps.length
    · subst h; rw [if_pos rfl]; simp
    · rw [if_neg h, List.getElem?_eq_none (by simp; omega)]; rfl
theorem Eli.push (h : Eli W n V c ps) (hk : ps.length < V.length) (h1 : V.getD ps.length 0 c = 1) (h0 : ∀ i, i < V.length → i ≠ ps.length → V.getD i 0 c = 0) : Eli W n V (c + 1) (ps ++ [c]) := by
  have ll : (ps ++ [c]).length = ps.length + 1 := by simp
  refine ⟨h.sp, by omega, fun i hi => ?_, fun i k hik hk2 => ?_, fun i hi => ?_, fun i k hi hk2 hik => ?_, fun i j hi hj => ?_, fun i j h2 h3 h4 => ?_, h.sup⟩
  · rw [getD_snoc]
    split
    · rename_i hlt; have := h.lt i hlt; omega
    · split <;> omega
  · rw [getD_snoc, getD_snoc, if_pos (by omega)]
    split
    · rename_i hlt; exact h.rise i k hik hlt
    · rw [if_pos (by omega)]; exact h.lt i (by omega)
  · rw [getD_snoc]
    split
    · rename_i hlt; exact h.one i hlt
    · rw [if_pos (by omega), show i = ps.length by omega]; exact h1
  · rw [getD_snoc]
    split
    · rename_i hlt; exact h.off i k hi hlt hik
    · rw [if_pos (by omega)]; exact h0 i hi (by omega)
  · rw [getD_snoc] at hj
    split at hj
    · rename_i hlt; exact h.low i j hlt hj
    · rw [if_pos (by omega)] at hj
      exact h.zer i j (by omega) (by omega) hj
  · by_cases e : j = c
    · subst e; exact h0 i h3 (by omega)
    · exact h.zer i j (by omega) h3 (by omega)
theorem getD_takeV (V : List (Vc K)) (k i : Nat) (h : i < k) : (V.take k).getD i 0 = V.getD i 0 := by
  rw [List.getD_eq_getElem?_getD, List.getElem?_take, if_pos h, List.getD_eq_getElem?_getD]
theorem Eli.done (h : Eli W n V c ps) (hc : n ≤ c ∨ V.length ≤ ps.length) (hcn : c ≤ n) : Rr n (V.take ps.length) ps ∧ ∀ u, SpL (V.take ps.length) u ↔ W u := by
  have hl : (V.take ps.length).length = ps.length := by rw [List.length_take]; have := h.len; omega
  refine ⟨⟨hl.symm, fun i hi => by have := h.lt i hi; omega, h.rise, fun i hi => ?_, fun i k hi hk hik => ?_, fun i j hi hj => ?_, fun i j hi hj => ?_⟩, fun u => ?_⟩
  · rw [getD_takeV _ _ _ hi]; exact h.one i hi
  · rw [getD_takeV _ _ _ hi]; exact h.off i k (by have := h.len; omega) hk hik
  · rw [getD_takeV _ _ _ hi]; exact h.low i j hi hj
  · rw [getD_takeV _ _ _ hi]; exact h.sup i j (by have := h.len; omega) hj
  · rw [← h.sp u]
    constructor
    · exact fun hu => hu.mono fun r hr => .of (List.mem_of_mem_take hr)
    · refine fun hu => hu.mono fun r hr => ?_
      obtain ⟨i, hi, rfl⟩ := List.getElem_of_mem hr
      by_cases hik : i < ps.length
      · refine .of ?_
        rw [List.mem_iff_getElem]
        exact ⟨i, by omega, by rw [List.getElem_take]⟩
      · have hz : V[i] = 0 := ext fun j => by
          have e : V[i] = V.getD i 0 := by rw [List.getD_eq_getElem?_getD, List.getElem?_eq_getElem hi]; rfl
          rw [e]
          rcases hc with hc | hc
          · by_cases hj : j < c
            · exact h.zer i j (by omega) hi hj
            · exact h.sup i j hi (by omega)
          · omega
        rw [hz]; exact .zero
end Vc
end Go.Proofs.YtgnmcoegdogfgaaGreat

set_option linter.unusedSimpArgs false
set_option linter.unusedVariables false
set_option maxRecDepth 100000
namespace Go.Proofs.YtgnmcoegdogfgaaGreat
open Go.RowKit
section
variable {p m : Int} {mod : List Int} [hF : IsF p m mod]
noncomputable def vsR (rs : List RowM) : List (Vc (El p m mod)) := rs.map fun r => rw' r.xs
@[simp] theorem vsR_length (rs : List RowM) : (vsR rs : List (Vc (El p m mod))).length = rs.length := by simp [vsR]
theorem rw_nil : (rw' [] : Vc (El p m mod)) = 0 := Vc.ext fun j => el_zero
theorem vsR_get (rs : List RowM) (i : Nat) : (vsR rs : List (Vc (El p m mod))).getD i 0 = rw' (rs.getD i rowD).xs := by
  unfold vsR
  rw [List.getD_eq_getElem?_getD, List.getElem?_map, List.getD_eq_getElem?_getD]
  cases rs[i]? with
  | none => exact rw_nil.symm
  | some r => rfl
theorem vsR_set (rs : List RowM) (i : Nat) (r : RowM) : (vsR (rs.set i r) : List (Vc (El p m mod))) = (vsR rs).set i (rw' r.xs) := by
  unfold vsR; rw [List.map_set]
theorem vsR_at (rs : List RowM) (i c : Nat) : (vsR rs : List (Vc (El p m mod))).getD i 0 c = el ((rs.getD i rowD).xs.getD c 0) := by rw [vsR_get]; rfl
end
def Gd (q : Int) (w : Nat) (rs : List RowM) : Prop := ∀ r ∈ rs, r.xs.length = w ∧ AllIn q r.xs
theorem Gd.get {q : Int} {w : Nat} {rs : List RowM} (h : Gd q w rs) {i : Nat} (hi : i < rs.length) : (rs.getD i rowD).xs.length = w ∧ AllIn q (rs.getD i rowD).xs := h _ (getD_mem hi _)
theorem Gd.set {q : Int} {w : Nat} {rs : List RowM} (h : Gd q w rs) (i : Nat) {r : RowM} (h1 : r.xs.length = w) (h2 : AllIn q r.xs) : Gd q w (rs.set i r) := fun s hs => by
  rcases List.mem_or_eq_of_mem_set hs with hs | hs
  · exact h s hs
  · subst hs; exact ⟨h1, h2⟩
theorem Gd.perm {q : Int} {w : Nat} {rs qs : List RowM} (h : Gd q w rs) (hp : rs.Perm qs) : Gd q w qs := fun s hs => h s (hp.mem_iff.2 hs)
theorem row_set (rs : List RowM) (i j : Nat) (r : RowM) : (rs.set i r).getD j rowD = if i = j ∧ j < rs.length then r else rs.getD j rowD := by
  rw [List.getD_eq_getElem?_getD, List.getElem?_set]
  by_cases h : i = j
  · subst h
    by_cases h2 : i < rs.length
    · rw [if_pos rfl, if_pos h2, if_pos ⟨rfl, h2⟩]; rfl
    · rw [if_pos rfl, if_neg h2, if_neg (fun h => h2 h.2), List.getD_eq_getElem?_getD, List.getElem?_eq_none (by omega)]
  · rw [if_neg h, if_neg (fun e => h e.1), ← List.getD_eq_getElem?_getD]
theorem elim_eachV (A : Option Addr) (n cp : Nat) (rs : List RowM) (hn : n = rs.length) (ff : FuncId) (lb : List Value) (p5 p7 : Addr) (Gc : List Chunk) (hGc : NoEx Gc) (Φ : Value → Chunk → Chunk → Prop) (hf : Mut Tryz.prog ff ([(.slice A n cp : Value)] ++ lb).toArray [ow A 22 cp (hdrs rs), rowsCh 3 rs] Gc (two Φ)) (hex : ∀ u c d, Φ u c d → AllEx [c, d]) :
    Mut Tryz.prog 234 ([(.func (.func ff) #[] lb.toArray : Value)] ++ [(.pointer (some p5) : Value), .pointer (some p7)]).toArray [ow A 22 cp (hdrs rs), rowsCh 3 rs] [ro (some p5) [.slice A n cp], ro (some p7) [.slice none 0 0], bun Gc] (two (fun v ca cb => v = .tuple #[] ∧ ∃ u, Φ u ca cb)) :=
  elim_each A n cp rs hn ff lb p5 p7 Gc hGc Φ hf hex
theorem val_of_el {p m : Int} {mod : List Int} [hF : IsF p m mod] {xs : List Int} (h : AllIn (pw p m) xs) (j : Nat) (hj : True) (he : (el (xs.getD j 0) : El p m mod) = 1) : xs.getD j 0 = 1 := by
  have hb := h.get (by have := hF.q2; omega) j
  have := congrArg Subtype.val he
  rwa [el_in hb] at this
theorem mat_eliminate_ent : Enters Tryz.prog 214 := enters_of Tryz.func214 (by kernel_rfl) (by kernel_rfl)
theorem mat_eliminate (g : GfM) {p m : Int} {mod : List Int} [hF : IsF p m mod] (hg : GOk g p m mod) (w : Int) (hw0 : 0 ≤ w) (hw9 : w ≤ 1000000) (A : Option Addr) (n cp : Nat) (rs : List RowM) (hn : n = rs.length) (hr9 : rs.length ≤ 1000000) (hgd0 : Gd (pw p m) w.toNat rs) :
    Mut Tryz.prog 214 #[.pointer (some g.p), .slice A n cp, .int .i64 w, .slice none 0 0] [ow A 22 cp (hdrs rs), rowsCh 3 rs] [gfR g] (three (fun v ca cb cc => ∃ rs2 B cb2 ps qs d, v = .tuple #[.slice B ps.length cb2, .int .i64 d] ∧ ca = ow A 22 cp (hdrs rs2) ∧ cb = rowsCh 3 rs2 ∧ cc = ow B 3 cb2 (ints ps) ∧ ps = qs.map Int.ofNat ∧ rs2.length = rs.length ∧ Gd (pw p m) w.toNat rs2 ∧ qs.length ≤ rs.length ∧ Vc.Rr w.toNat ((vsR rs2 : List (Vc (El p m mod))).take qs.length) qs ∧ ∀ u, Vc.SpL ((vsR rs2 : List (Vc (El p m mod))).take qs.length) u ↔ Vc.SpL (vsR rs) u)) := by
  have hq2 := hF.q2
  refine mut_of (args := [.pointer (some g.p), .slice A n cp, .int .i64 w, .slice none 0 0]) 125 (F := [ow A 22 cp (hdrs rs), rowsCh 3 rs, gfR g]) rfl Tryz.func214 rfl rfl rfl mat_eliminate_ent (fun w0 => ?_)
  refine tr_seq ?_
  refine tr_region fun _ _ _ => ?_
  refine ef rfl rfl (eBox rfl rfl rfl rfl rfl (fun p0 => ?_)) 
  refine ef rfl rfl (eBox rfl rfl rfl rfl rfl (fun p0a => ?_)) 
  refine ef rfl rfl (eBox rfl rfl rfl rfl rfl (fun p0b => ?_)) 
  iterate 2 refine pu rfl rfl rfl rfl rfl ?_
  refine tr_seq ?_
  refine tr_region fun _ _ _ => ?_
  refine pu rfl rfl rfl rfl rfl ?_
  refine tr_seq ?_
  refine tr_region fun _ _ _ => ?_
  refine st rfl rfl rfl rfl (rFun rfl rfl rfl) ?_
  refine pu rfl rfl rfl rfl rfl ?_
  refine tr_seq ?_
  refine tr_region fun _ _ _ => ?_
  refine pu rfl rfl rfl rfl rfl ?_
  refine tr_seq ?_
  refine tr_seq ?_
  refine tr_region fun _ _ _ => ?_
  refine pu rfl rfl rfl rfl rfl ?_
  refine tr_block ?_
  refine tr_nilI 3 ?_
  refine tr_loop6 (fun (c : Int) (ps : List Int) (AP : Option Addr) (cP : Nat) (r2 : List RowM) (dd : Int) => [(2, .int .i64 w), (4, .pointer (some p0)), (5, .pointer (some p0a)), (10, .int .i64 dd), (11, .func (.func 234) #[] [.pointer (some p0a), .pointer (some p0b)].toArray), (12, .slice AP ps.length cP), (13, .int .i64 c)]) (fun (c : Int) (ps : List Int) (AP : Option Addr) (cP : Nat) (r2 : List RowM) (dd : Int) => [ow AP 3 cP (ints ps), ow A 22 cp (hdrs r2), rowsCh 3 r2, blk p0b 25 [.slice none 0 0], blk p0a 25 [.slice A n cp], blk p0 58 [.pointer (some g.p)], gfR g]) (fun (c : Int) (ps : List Int) (AP : Option Addr) (cP : Nat) (r2 : List RowM) (dd : Int) => (0 ≤ c ∧ c ≤ w) ∧ (r2.length = rs.length ∧ Gd (pw p m) w.toNat r2) ∧ ∃ qs, ps = qs.map Int.ofNat ∧ Vc.Eli (Vc.SpL (vsR rs : List (Vc (El p m mod)))) w.toNat (vsR r2) c.toNat qs) (fun (c : Int) (ps : List Int) (AP : Option Addr) (cP : Nat) (r2 : List RowM) (dd : Int) => (w - c).toNat) (0) ([]) (none) (0) (rs) (1) ⟨rfl, rfl, rfl, rfl, rfl, rfl, rfl, trivial⟩ (by first | exact cs _ _ | exact CSub.refl _) (⟨⟨by omega, by omega⟩, ⟨rfl, hgd0⟩, [], rfl, Vc.Eli.start fun i j hi hj => by rw [vsR_at, getD_out (by rw [(hgd0.get (by simpa using hi)).1]; omega), el_zero]⟩) (fun c ps AP cP r2 dd hI => ?_)
  obtain ⟨⟨hc0, hc1⟩, ⟨hrl, hgd⟩, qs, hps, hE⟩ := hI
  have hpl : ps.length = qs.length := by rw [hps, List.length_map]
  have hEl := hE.len
  rw [vsR_length] at hEl
  refine tr_seq ?_
  refine tr_seq ?_
  refine tr_region fun _ _ _ => ?_
  iterate 4 refine pu rfl rfl rfl rfl rfl ?_
  refine stg rfl rfl rfl rfl rfl (fun hb => by (have hq := hb; try simp only [zbA] at hq); exact rMove rfl rfl) ?_
  refine stg rfl rfl rfl rfl rfl (fun hb => by (have hq := hb; try simp only [zbA] at hq); exact rLen rfl (evg rfl hb)) ?_
  refine stg rfl rfl rfl rfl rfl (fun hb => by (have hq := hb; try simp only [zbA] at hq); exact rLd0 rfl rfl) ?_
  refine stg rfl rfl rfl rfl rfl (fun hb => by (have hq := hb; try simp only [zbA] at hq); exact rLen rfl (evg rfl hb)) ?_
  refine stg rfl rfl rfl rfl rfl (fun hb => by (have hq := hb; try simp only [zbA] at hq); exact rLss rfl (evg rfl hb) (evg rfl hb)) ?_
  refine st rfl rfl rfl rfl (rAndB rfl rfl rfl rfl) ?_
  refine tr_cond_bool rfl (fun h5 => ?_) (fun h5 => ?_)
  · try simp only [zbA] at h5
    refine tr_skip ?_
    refine tr_seq ?_
    refine tr_block ?_
    refine tr_seq ?_
    refine tr_region fun _ _ _ => ?_
    refine pu rfl rfl rfl rfl rfl ?_
    refine st rfl rfl rfl rfl (rLen rfl rfl) ?_
    refine ef rfl rfl (eAlloc rfl rfl rfl (fun p7 => ?_)) 
    refine ef rfl rfl (eSt0 rfl rfl rfl rfl rfl rfl ?_) 
    generalize hk : ((ps.length : Nat) : Int) = k
    refine tr_seq ?_
    refine tr_region fun _ _ _ => ?_
    refine st rfl rfl rfl rfl (rLd0 rfl rfl) ?_
    refine ef rfl rfl (eAlloc rfl rfl rfl (fun p8 => ?_)) 
    refine ef rfl rfl (eSt0 rfl rfl rfl rfl rfl rfl ?_) 
    refine tr_seq ?_
    refine tr_block ?_
    refine tr_loop1 (fun (ta : Int) => [(2, .int .i64 w), (4, .pointer (some p0)), (5, .pointer (some p0a)), (10, .int .i64 dd), (11, .func (.func 234) #[] [.pointer (some p0a), .pointer (some p0b)].toArray), (12, .slice AP ps.length cP), (13, .int .i64 c), (14, .pointer (some p7)), (15, .pointer (some p8))]) (fun (ta : Int) => [blk p8 3 [.int .i64 ta], blk p7 3 [.int .i64 k], ow AP 3 cP (ints ps), ow A 22 cp (hdrs r2), rowsCh 3 r2, blk p0b 25 [.slice none 0 0], blk p0a 25 [.slice A n cp], blk p0 58 [.pointer (some g.p)], gfR g]) (fun (ta : Int) => (k ≤ ta ∧ ta ≤ rs.length) ∧ ∀ i : Nat, k ≤ i → (i : Int) < ta → (r2.getD i rowD).xs.getD c.toNat 0 = 0) (fun (ta : Int) => (rs.length - ta).toNat) (k) ⟨rfl, rfl, rfl, rfl, rfl, rfl, rfl, rfl, rfl, trivial⟩ (by first | exact cs _ _ | exact CSub.refl _) (⟨⟨by omega, by omega⟩, fun i h1 h2 => by omega⟩) (fun ta hI => ?_)
    obtain ⟨⟨ht0, ht1⟩, htz⟩ := hI
    refine tr_seq ?_
    refine tr_seq ?_
    refine tr_region fun _ _ _ => ?_
    refine st rfl rfl rfl rfl (rLd0 rfl rfl) ?_
    refine st rfl rfl rfl rfl (rLd0 rfl rfl) ?_
    refine st rfl rfl rfl rfl (rLen rfl rfl) ?_
    iterate 2 refine pu rfl rfl rfl rfl rfl ?_
    refine stg rfl rfl rfl rfl rfl (fun hb => by (have hq := hb; try simp only [zbA] at hq); exact rLd0 rfl rfl) ?_
    refine stg rfl rfl rfl rfl rfl (fun hb => by (have hq := hb; try simp only [zbA] at hq); exact rLd0 rfl rfl) ?_
    refine stg rfl rfl rfl rfl rfl (fun hb => by (have hq := hb; try simp only [zbA] at hq); exact rIdxR rfl (evg rfl hb) (evg rfl hb) (by omega) (by omega) (by omega)) ?_
    refine stg rfl rfl rfl rfl rfl (fun hb => by (have hq := hb; try simp only [zbA] at hq); exact rLdR rfl (evg rfl hb) (by omega)) ?_
    refine stg rfl rfl rfl rfl rfl (fun hb => by (have hq := hb; try simp only [zbA] at hq); exact rMove rfl rfl) ?_
    refine stg rfl rfl rfl rfl rfl (fun hb => by (have hq := hb; try simp only [zbA] at hq); exact (haveI : InB ta.toNat r2.length := ⟨by omega⟩; have hw := (hgd.get (show ta.toNat < r2.length by omega)).1; rIdxI rfl (evg rfl hb) (evg rfl hb) (by omega) (by omega) (by omega))) ?_
    refine stg rfl rfl rfl rfl rfl (fun hb => by (have hq := hb; try simp only [zbA] at hq); exact (haveI : InB ta.toNat r2.length := ⟨by omega⟩; have hw := (hgd.get (show ta.toNat < r2.length by omega)).1; rLdI rfl (evg rfl hb) (by omega))) ?_
    refine stg rfl rfl rfl rfl rfl (fun hb => by (have hq := hb; try simp only [zbA] at hq); exact rEql rfl (evg rfl hb) rfl) ?_
    refine st rfl rfl rfl rfl (rAndB rfl rfl rfl rfl) ?_
    refine tr_cond_bool rfl (fun h9 => ?_) (fun h9 => ?_)
    · try simp only [zbA] at h9
      refine tr_skip ?_
      refine tr_block ?_
      refine tr_region fun _ _ _ => ?_
      refine st rfl rfl rfl rfl (rLd0 rfl rfl) ?_
      refine st rfl rfl rfl rfl (rAdd rfl rfl rfl (by omega) (by omega)) ?_
      refine ef rfl rfl (eSt0 rfl rfl rfl rfl rfl rfl ?_) 
      refine ⟨ta + 1, ⟨rfl, rfl, rfl, rfl, rfl, rfl, rfl, rfl, rfl, trivial⟩, by first | exact cs _ _ | exact CSub.refl _, ?_⟩
      refine ⟨⟨⟨by omega, by omega⟩, fun i h1 h2 => ?_⟩, by omega⟩
      by_cases he : (i : Int) = ta
      · have : i = ta.toNat := by omega
        rw [this]; exact h9.2
      · exact htz i h1 (by omega)
    · try simp only [zbA] at h9
      refine tr_exit ?_
      refine tr_seq ?_
      refine tr_seq ?_
      refine tr_region fun _ _ _ => ?_
      refine st rfl rfl rfl rfl (rLd0 rfl rfl) ?_
      refine st rfl rfl rfl rfl (rLd0 rfl rfl) ?_
      refine st rfl rfl rfl rfl (rLen rfl rfl) ?_
      refine pu rfl rfl rfl rfl rfl ?_
      refine tr_cond_bool rfl (fun h11 => ?_) (fun h11 => ?_)
      · try simp only [zbA] at h11
        refine tr_exit ?_
        refine tr_region fun _ _ _ => ?_
        refine pu rfl rfl rfl rfl rfl ?_
        refine st rfl rfl rfl rfl (rAdd rfl rfl rfl (by omega) (by omega)) ?_
        refine pu rfl rfl rfl rfl rfl ?_
        refine ⟨c + 1, ps, AP, cP, r2, dd, ⟨rfl, rfl, rfl, rfl, rfl, rfl, rfl, trivial⟩, by first | exact cs _ _ | exact CSub.refl _, ?_⟩
        refine ⟨⟨⟨by omega, by omega⟩, ⟨hrl, hgd⟩, qs, hps, ?_⟩, by omega⟩
        rw [show (c + 1).toNat = c.toNat + 1 by omega]
        refine hE.skip fun i h1 h2 => ?_
        rw [vsR_length] at h2
        rw [vsR_at, htz i (by omega) (by omega), el_zero]
      · try simp only [zbA] at h11
        refine tr_skip ?_
        refine tr_join (fun (q : (List RowM) × Int) => match q with | (r3, d2) => [(2, .int .i64 w), (4, .pointer (some p0)), (5, .pointer (some p0a)), (10, .int .i64 d2), (11, .func (.func 234) #[] [.pointer (some p0a), .pointer (some p0b)].toArray), (12, .slice AP ps.length cP), (13, .int .i64 c), (14, .pointer (some p7)), (15, .pointer (some p8))]) (fun (q : (List RowM) × Int) => match q with | (r3, d2) => [blk p8 3 [.int .i64 ta], blk p7 3 [.int .i64 k], ow AP 3 cP (ints ps), ow A 22 cp (hdrs r3), rowsCh 3 r3, blk p0b 25 [.slice none 0 0], blk p0a 25 [.slice A n cp], blk p0 58 [.pointer (some g.p)], gfR g]) (fun (q : (List RowM) × Int) => match q with | (r3, d2) => (r3.length = rs.length ∧ Gd (pw p m) w.toNat r3) ∧ Vc.Eli (Vc.SpL (vsR rs : List (Vc (El p m mod)))) w.toNat (vsR r3) c.toNat qs ∧ (r3.getD k.toNat rowD).xs.getD c.toNat 0 ≠ 0) ?_ ?_
        · refine tr_seq ?_
          have hne : (r2.getD ta.toNat rowD).xs.getD c.toNat 0 ≠ 0 := h9.resolve_left (fun h => h (by omega))
          have hkq : k.toNat = qs.length := by omega
          refine tr_region fun _ _ _ => ?_
          refine st rfl rfl rfl rfl (rLd0 rfl rfl) ?_
          refine st rfl rfl rfl rfl (rLd0 rfl rfl) ?_
          refine pu rfl rfl rfl rfl rfl ?_
          refine tr_cond_bool rfl (fun h12 => ?_) (fun h12 => ?_)
          · try simp only [zbA] at h12
            refine tr_seq ?_
            refine tr_region fun _ _ _ => ?_
            refine pu rfl rfl rfl rfl rfl ?_
            refine st rfl rfl rfl rfl (rFun rfl rfl rfl) ?_
            refine ef rfl rfl (eCallF2 rfl rfl rfl rfl (elim_eachV A n cp r2 (by omega) 235 [.pointer (some p8), .pointer (some p7)] p0a p0b [ro (some p8) [.int .i64 ta], ro (some p7) [.int .i64 k]] ⟨id, id, trivial⟩ _ (elim_swap A n cp r2 (by omega) p8 p7 ta k (by omega) (by omega)) (fun _ _ _ h => by obtain ⟨_, rfl, rfl⟩ := h; exact ⟨trivial, trivial, trivial⟩)) ⟨rfl, trivial⟩ ?_) 
            rintro _ _ _ ⟨rfl, _, _, rfl, rfl⟩
            refine tr_region fun _ _ _ => ?_
            refine st rfl rfl rfl rfl (rLd0 rfl rfl) ?_
            refine pu rfl rfl rfl rfl rfl ?_
            refine ef rfl rfl (eCallV rfl rfl rfl (gf_NegE g hg _) ⟨rfl, rfl, trivial⟩ ?_) 
            refine pu rfl rfl rfl rfl rfl ?_
            refine ⟨((r2.set k.toNat (r2.getD ta.toNat rowD)).set ta.toNat (r2.getD k.toNat rowD), (-(el dd : El p m mod)).1), ⟨rfl, rfl, rfl, rfl, rfl, rfl, rfl, rfl, rfl, trivial⟩, by first | exact cs _ _ | exact CSub.refl _, ?_⟩
            refine ⟨⟨by simpa using hrl, hgd.perm (swap_perm rowD r2 (by omega) (by omega))⟩, ?_, ?_⟩
            · have := hE.swap (a := ta.toNat) (by omega) (by rw [vsR_length]; omega)
              rw [← hkq, vsR_get, vsR_get] at this
              rw [vsR_set, vsR_set]; exact this
            · rw [row_set, if_neg (by omega), row_set, if_pos ⟨rfl, by omega⟩]; exact hne
          · try simp only [zbA] at h12
            refine tr_skip ?_
            refine ⟨(r2, dd), ⟨rfl, rfl, rfl, rfl, rfl, rfl, rfl, rfl, rfl, trivial⟩, by first | exact cs _ _ | exact CSub.refl _, ?_⟩
            exact ⟨⟨hrl, hgd⟩, hE, by rw [show k = ta by omega]; exact hne⟩
        · rintro ⟨r3, d2⟩ hI
          obtain ⟨⟨hrl3, hgd3⟩, hE3, hne3⟩ := hI
          have hkq : k.toNat = qs.length := by omega
          refine tr_seq ?_
          haveI : InB k.toNat r3.length := ⟨by omega⟩
          have hw3 := hgd3.get (show k.toNat < r3.length by omega)
          have hen := hw3.2.get (by omega) c.toNat
          have hnz3 : (el ((r3.getD k.toNat rowD).xs.getD c.toNat 0) : El p m mod) ≠ 0 := fun e => hne3 ((el_eq_zero hen).1 e)
          have hw31 := hw3.1
          refine tr_draw [0, 1, 2, 3, 4, 5, 6, 7, 8, 9, 10] [] mixed (by kernel_rfl) fun _ _ _ => ?_
          refine st rfl rfl rfl rfl (rLd0 rfl rfl) ?_
          refine pu rfl rfl rfl rfl rfl ?_
          refine st rfl rfl rfl rfl (rLd0 rfl rfl) ?_
          refine st rfl rfl rfl rfl (rLd0 rfl rfl) ?_
          refine st rfl rfl rfl rfl (rIdxR rfl rfl rfl (by omega) (by omega) (by omega)) ?_
          refine st rfl rfl rfl rfl (rLdR rfl rfl (by omega)) ?_
          refine pu rfl rfl rfl rfl rfl ?_
          refine st rfl rfl rfl rfl (rIdxI rfl rfl rfl (by omega) (by omega) (by omega)) ?_
          refine st rfl rfl rfl rfl (rLdI rfl rfl (by omega)) ?_
          refine ef rfl rfl (eCallV rfl rfl rfl (gf_MulE g hg _ _) ⟨rfl, rfl, rfl, trivial⟩ ?_) 
          refine pu rfl rfl rfl rfl rfl ?_
          generalize (el d2 * el ((r3.getD k.toNat rowD).xs.getD c.toNat 0) : El p m mod).1 = d3
          refine tr_join (fun (q : (List RowM)) => match q with | r4 => [(2, .int .i64 w), (4, .pointer (some p0)), (5, .pointer (some p0a)), (10, .int .i64 d3), (11, .func (.func 234) #[] [.pointer (some p0a), .pointer (some p0b)].toArray), (12, .slice AP ps.length cP), (13, .int .i64 c), (14, .pointer (some p7))]) (fun (q : (List RowM)) => match q with | r4 => [blk p7 3 [.int .i64 k], ow AP 3 cP (ints ps), ow A 22 cp (hdrs r4), rowsCh 3 r4, blk p0b 25 [.slice none 0 0], blk p0a 25 [.slice A n cp], blk p0 58 [.pointer (some g.p)], gfR g]) (fun (q : (List RowM)) => match q with | r4 => (r4.length = rs.length ∧ Gd (pw p m) w.toNat r4) ∧ Vc.Eli (Vc.SpL (vsR rs : List (Vc (El p m mod)))) w.toNat (vsR r4) c.toNat qs ∧ (r4.getD k.toNat rowD).xs.getD c.toNat 0 = 1) ?_ ?_
          · refine tr_mid (fun (q : Addr) => match q with | pi => [(2, .int .i64 w), (4, .pointer (some p0)), (5, .pointer (some p0a)), (10, .int .i64 d3), (11, .func (.func 234) #[] [.pointer (some p0a), .pointer (some p0b)].toArray), (12, .slice AP ps.length cP), (13, .int .i64 c), (14, .pointer (some p7)), (15, .pointer (some p8)), (16, .pointer (some pi)), (17, .int .i64 0)]) (fun (q : Addr) => match q with | pi => [blk pi 3 [.int .i64 (Fd.inv (el ((r3.getD k.toNat rowD).xs.getD c.toNat 0) : El p m mod)).1], blk p8 3 [.int .i64 ta], blk p7 3 [.int .i64 k], ow AP 3 cP (ints ps), ow A 22 cp (hdrs r3), rowsCh 3 r3, blk p0b 25 [.slice none 0 0], blk p0a 25 [.slice A n cp], blk p0 58 [.pointer (some g.p)], gfR g]) ?_ ?_
            · refine tr_planT [] (.one 0 0 (.one 0 1 (.one 0 2 (.one 0 3 (.one 0 4 (.one 0 5 (.one 0 6 (.one 0 7 (.two 8 (.one 0 9 (.one 0 10 (.one 2 11 (.one 0 12 (.one 1 13 (.one 0 14 .nil)))))) 12 (.one 0 8 (.one 0 9 (.one 0 10 (.one 2 11 (.one 1 13 (.one 0 14 .nil))))))))))))))) mixed (by kernel_rfl) fun _ _ _ => ?_
              refine st rfl rfl rfl rfl (rLd0 rfl rfl) ?_
              refine st rfl rfl rfl rfl (rLd0 rfl rfl) ?_
              refine st rfl rfl rfl rfl (rLd0 rfl rfl) ?_
              refine st rfl rfl rfl rfl (rIdxR rfl rfl rfl (by omega) (by omega) (by omega)) ?_
              refine st rfl rfl rfl rfl (rLdR rfl rfl (by omega)) ?_
              refine pu rfl rfl rfl rfl rfl ?_
              refine st rfl rfl rfl rfl (rIdxI rfl rfl rfl (by omega) (by omega) (by omega)) ?_
              refine st rfl rfl rfl rfl (rLdI rfl rfl (by omega)) ?_
              refine ⟨?_, ?_⟩
              · refine ef rfl rfl (eCallV rfl rfl rfl (gf_InvE g hg _ hnz3) ⟨rfl, rfl, trivial⟩ ?_)
                iterate 2 refine pu rfl rfl rfl rfl rfl ?_
                refine stF rfl rfl rfl rfl (cs _ _) (rExt rfl rfl rfl) ?_
                refine ef rfl rfl (eAlloc rfl rfl rfl (fun p16a => ?_)) 
                refine ef rfl rfl (eSt0 rfl rfl rfl rfl rfl rfl ?_) 
                refine ⟨cs _ _, ?_⟩
                refine pu rfl rfl rfl rfl rfl ?_
                exact ⟨rfl, (p16a), ⟨rfl, rfl, rfl, rfl, rfl, rfl, rfl, rfl, rfl, rfl, rfl, trivial⟩, by first | exact cs _ _ | exact CSub.refl _⟩
              · refine ef rfl rfl (eAlloc rfl rfl rfl (fun p16a => ?_))
                refine ef rfl rfl (eCallV rfl rfl rfl (gf_InvE g hg _ hnz3) ⟨rfl, rfl, trivial⟩ ?_) 
                iterate 2 refine pu rfl rfl rfl rfl rfl ?_
                refine stF rfl rfl rfl rfl (cs _ _) (rExt rfl rfl rfl) ?_
                refine ef rfl rfl (eSt0 rfl rfl rfl rfl rfl rfl ?_) 
                refine ⟨cs _ _, ?_⟩
                refine pu rfl rfl rfl rfl rfl ?_
                exact ⟨rfl, (p16a), ⟨rfl, rfl, rfl, rfl, rfl, rfl, rfl, rfl, rfl, rfl, rfl, trivial⟩, by first | exact cs _ _ | exact CSub.refl _⟩
            · rintro pi
              refine tr_seq ?_
              refine tr_region fun _ _ _ => ?_
              iterate 3 refine pu rfl rfl rfl rfl rfl ?_
              refine stg rfl rfl rfl rfl rfl (fun hb => by (have hq := hb; try simp only [zbA] at hq); exact rLd0 rfl rfl) ?_
              refine stg rfl rfl rfl rfl rfl (fun hb => by (have hq := hb; try simp only [zbA] at hq); exact rNeq rfl (evg rfl hb) rfl) ?_
              refine st rfl rfl rfl rfl (rAndB rfl rfl rfl rfl) ?_
              refine tr_cond_bool rfl (fun h17 => ?_) (fun h17 => ?_)
              · try simp only [zbA] at h17
                refine tr_region fun _ _ _ => ?_
                refine pu rfl rfl rfl rfl rfl ?_
                refine st rfl rfl rfl rfl (rFun rfl rfl rfl) ?_
                refine ef rfl rfl (eCallF2 rfl rfl rfl rfl (elim_eachV A n cp r3 (by omega) 236 [.pointer (some p0), .pointer (some pi), .pointer (some p7)] p0a p0b [ro (some p0) [.pointer (some g.p)], ro (some pi) [.int .i64 (Fd.inv (el ((r3.getD k.toNat rowD).xs.getD c.toNat 0) : El p m mod)).1], ro (some p7) [.int .i64 k], gfR g] ⟨id, id, id, id, trivial⟩ _ (elim_scale g hg A n cp r3 (by omega) p0 pi p7 _ k (by omega) (by omega)) (fun _ _ _ h => by obtain ⟨_, _, rfl, rfl⟩ := h; exact ⟨trivial, trivial, trivial⟩)) ⟨rfl, trivial⟩ ?_) 
                rintro _ _ _ ⟨rfl, _, B18, _, rfl, rfl⟩
                refine ⟨(r3.set k.toNat (⟨B18, (r3.getD k.toNat rowD).xs.length, sclR (el ((Fd.inv (el ((r3.getD k.toNat rowD).xs.getD c.toNat 0) : El p m mod)).1) : El p m mod) (r3.getD k.toNat rowD).xs⟩ : RowM)), ⟨rfl, rfl, rfl, rfl, rfl, rfl, rfl, rfl, trivial⟩, by first | exact cs _ _ | exact CSub.refl _, ?_⟩
                refine ⟨⟨by simpa using hrl3, hgd3.set _ (by simpa using hw3.1) (sclR_in _ _)⟩, ?_, ?_⟩
                · have := hE3.scale (by rw [vsR_length]; omega) (Fd.inv_ne hnz3)
                  rw [← hkq, vsR_get] at this
                  rw [vsR_set, rw_sclR, el_of]; exact this
                · rw [row_set, if_pos ⟨rfl, by omega⟩]
                  refine (val_of_el (mod := mod) (sclR_in _ _) c.toNat trivial ?_)
                  have := congrFun (rw_sclR (el ((Fd.inv (el ((r3.getD k.toNat rowD).xs.getD c.toNat 0) : El p m mod)).1) : El p m mod) (r3.getD k.toNat rowD).xs) c.toNat
                  rw [rw_at, Vc.sc_at, rw_at, el_of] at this
                  rw [el_of, this]; exact Fd.inv_mul _ hnz3
              · try simp only [zbA] at h17
                refine tr_skip ?_
                refine ⟨(r3), ⟨rfl, rfl, rfl, rfl, rfl, rfl, rfl, rfl, trivial⟩, by first | exact cs _ _ | exact CSub.refl _, ?_⟩
                refine ⟨⟨hrl3, hgd3⟩, hE3, ?_⟩
                have hone : ((Fd.inv (el ((r3.getD k.toNat rowD).xs.getD c.toNat 0) : El p m mod)).1) = 1 := by simpa using h17
                refine val_of_el (mod := mod) hw3.2 c.toNat trivial ?_
                have h1 : (Fd.inv (el ((r3.getD k.toNat rowD).xs.getD c.toNat 0) : El p m mod)) = 1 := El.ext hone
                have h2 := Fd.mul_inv _ hnz3
                rw [h1, Rg.mul_one] at h2
                exact h2
          · rintro r4 hI
            obtain ⟨⟨hrl4, hgd4⟩, hE4, hone4⟩ := hI
            refine tr_seq ?_
            refine tr_seq ?_
            refine tr_region fun _ _ _ => ?_
            refine st rfl rfl rfl rfl (rLd0 rfl rfl) ?_
            refine st rfl rfl rfl rfl (rLen rfl rfl) ?_
            refine pu rfl rfl rfl rfl rfl ?_
            refine tr_block ?_
            refine tr_loop2 (fun (i : Int) (r5 : List RowM) => [(2, .int .i64 w), (4, .pointer (some p0)), (5, .pointer (some p0a)), (10, .int .i64 d3), (11, .func (.func 234) #[] [.pointer (some p0a), .pointer (some p0b)].toArray), (12, .slice AP ps.length cP), (13, .int .i64 c), (14, .pointer (some p7)), (97, .int .i64 n), (98, .int .i64 i)]) (fun (i : Int) (r5 : List RowM) => [blk p7 3 [.int .i64 k], ow AP 3 cP (ints ps), ow A 22 cp (hdrs r5), rowsCh 3 r5, blk p0b 25 [.slice none 0 0], blk p0a 25 [.slice A n cp], blk p0 58 [.pointer (some g.p)], gfR g]) (fun (i : Int) (r5 : List RowM) => (0 ≤ i ∧ i ≤ n) ∧ (r5.length = rs.length ∧ Gd (pw p m) w.toNat r5) ∧ Vc.Eli (Vc.SpL (vsR rs : List (Vc (El p m mod)))) w.toNat (vsR r5) c.toNat qs ∧ (r5.getD k.toNat rowD).xs.getD c.toNat 0 = 1 ∧ ∀ t : Nat, (t : Int) < i → t ≠ k.toNat → (r5.getD t rowD).xs.getD c.toNat 0 = 0) (fun (i : Int) (r5 : List RowM) => (n - i).toNat) (0) (r4) ⟨rfl, rfl, rfl, rfl, rfl, rfl, rfl, rfl, rfl, rfl, trivial⟩ (by first | exact cs _ _ | exact CSub.refl _) (⟨⟨by omega, by omega⟩, ⟨hrl4, hgd4⟩, hE4, hone4, fun t h1 h2 => by omega⟩) (fun i r5 hI => ?_)
            obtain ⟨⟨hi0, hi1⟩, ⟨hrl5, hgd5⟩, hE5, hone5, hz5⟩ := hI
            refine tr_seq ?_
            refine tr_region fun _ _ _ => ?_
            refine pu rfl rfl rfl rfl rfl ?_
            refine tr_seq ?_
            refine tr_cond_bool rfl (fun h20 => ?_) (fun h20 => ?_)
            · try simp only [zbA] at h20
              refine tr_skip ?_
              refine tr_seq ?_
              refine tr_block ?_
              refine tr_seq ?_
              refine tr_region fun _ _ _ => ?_
              refine pu rfl rfl rfl rfl rfl ?_
              refine ef rfl rfl (eAlloc rfl rfl rfl (fun p21 => ?_)) 
              refine ef rfl rfl (eSt0 rfl rfl rfl rfl rfl rfl ?_) 
              refine tr_seq ?_
              haveI : InB i.toNat r5.length := ⟨by omega⟩
              have hwi := hgd5.get (show i.toNat < r5.length by omega)
              have hwk := hgd5.get (show k.toNat < r5.length by omega)
              have hwi1 := hwi.1
              have hwk1 := hwk.1
              refine tr_region fun _ _ _ => ?_
              refine st rfl rfl rfl rfl (rLd0 rfl rfl) ?_
              refine st rfl rfl rfl rfl (rLd0 rfl rfl) ?_
              refine st rfl rfl rfl rfl (rIdxR rfl rfl rfl (by omega) (by omega) (by omega)) ?_
              refine st rfl rfl rfl rfl (rLdR rfl rfl (by omega)) ?_
              refine pu rfl rfl rfl rfl rfl ?_
              refine st rfl rfl rfl rfl (rIdxI rfl rfl rfl (by omega) (by omega) (by omega)) ?_
              refine st rfl rfl rfl rfl (rLdI rfl rfl (by omega)) ?_
              refine ef rfl rfl (eAlloc rfl rfl rfl (fun p22 => ?_)) 
              refine ef rfl rfl (eSt0 rfl rfl rfl rfl rfl rfl ?_) 
              refine tr_seq ?_
              refine tr_region fun _ _ _ => ?_
              refine st rfl rfl rfl rfl (rLd0 rfl rfl) ?_
              refine st rfl rfl rfl rfl (rLd0 rfl rfl) ?_
              iterate 2 refine pu rfl rfl rfl rfl rfl ?_
              refine stg rfl rfl rfl rfl rfl (fun hb => by (have hq := hb; try simp only [zbA] at hq); exact rLd0 rfl rfl) ?_
              refine stg rfl rfl rfl rfl rfl (fun hb => by (have hq := hb; try simp only [zbA] at hq); exact rNeq rfl (evg rfl hb) rfl) ?_
              refine st rfl rfl rfl rfl (rAndB rfl rfl rfl rfl) ?_
              refine tr_cond_bool rfl (fun h23 => ?_) (fun h23 => ?_)
              · try simp only [zbA] at h23
                refine tr_region fun _ _ _ => ?_
                refine pu rfl rfl rfl rfl rfl ?_
                refine st rfl rfl rfl rfl (rFun rfl rfl rfl) ?_
                refine ef rfl rfl (eCallF2 rfl rfl rfl rfl (elim_eachV A n cp r5 (by omega) 237 [.pointer (some p0), .pointer (some p21), .pointer (some p22), .pointer (some p7)] p0a p0b [ro (some p0) [.pointer (some g.p)], ro (some p21) [.int .i64 i], ro (some p22) [.int .i64 ((r5.getD i.toNat rowD).xs.getD c.toNat 0)], ro (some p7) [.int .i64 k], gfR g] ⟨id, id, id, id, id, trivial⟩ _ (elim_add g hg A n cp r5 (by omega) p0 p21 p22 p7 _ i k (by omega) (by omega) (by omega) (by omega) (by omega) hwi.2) (fun _ _ _ h => by obtain ⟨_, rfl, rfl⟩ := h; exact ⟨trivial, trivial, trivial⟩)) ⟨rfl, trivial⟩ ?_) 
                rintro _ _ _ ⟨rfl, _, _, rfl, rfl⟩
                refine tr_region fun _ _ _ => ?_
                refine st rfl rfl rfl rfl (rAdd rfl rfl rfl (by omega) (by omega)) ?_
                refine pu rfl rfl rfl rfl rfl ?_
                refine ⟨i + 1, r5.set i.toNat (⟨(r5.getD i.toNat rowD).A, (r5.getD i.toNat rowD).cap, addR (-(el ((r5.getD i.toNat rowD).xs.getD c.toNat 0) : El p m mod)) (r5.getD i.toNat rowD).xs (r5.getD k.toNat rowD).xs⟩ : RowM), ⟨rfl, rfl, rfl, rfl, rfl, rfl, rfl, rfl, rfl, rfl, trivial⟩, by first | exact cs _ _ | exact CSub.refl _, ?_⟩
                refine ⟨⟨⟨by omega, by omega⟩, ⟨by simpa using hrl5, hgd5.set _ (by simpa using hwi.1) (addR_in _ _ _)⟩, ?_, ?_, fun t h1 h2 => ?_⟩, by omega⟩
                · have := hE5.plus (by rw [vsR_length]; omega) (i := i.toNat) (by rw [vsR_length]; omega) (by omega) (-(el ((r5.getD i.toNat rowD).xs.getD c.toNat 0) : El p m mod))
                  rw [← hkq, vsR_get, vsR_get] at this
                  rw [vsR_set, rw_addR _ _ _ (by omega)]; exact this
                · rw [row_set, if_neg (by omega)]; exact hone5
                · rw [row_set]
                  split
                  · rename_i he
                    obtain ⟨rfl, he⟩ := he
                    show (addR _ _ _).getD c.toNat 0 = 0
                    rw [addR_get _ _ _ (by omega), hone5, el_one]
                    exact congrArg Subtype.val (show (el ((r5.getD i.toNat rowD).xs.getD c.toNat 0) + -el ((r5.getD i.toNat rowD).xs.getD c.toNat 0) * 1 : El p m mod) = 0 by grind)
                  · exact hz5 t (by omega) h2
              · try simp only [zbA] at h23
                refine tr_skip ?_
                refine tr_region fun _ _ _ => ?_
                refine st rfl rfl rfl rfl (rAdd rfl rfl rfl (by omega) (by omega)) ?_
                refine pu rfl rfl rfl rfl rfl ?_
                refine ⟨i + 1, r5, ⟨rfl, rfl, rfl, rfl, rfl, rfl, rfl, rfl, rfl, rfl, trivial⟩, by first | exact cs _ _ | exact CSub.refl _, ?_⟩
                refine ⟨⟨⟨by omega, by omega⟩, ⟨hrl5, hgd5⟩, hE5, hone5, fun t h1 h2 => ?_⟩, by omega⟩
                by_cases he : t = i.toNat
                · subst he
                  have h3 : i ≠ k := by omega
                  exact h23.resolve_left h3
                · exact hz5 t (by omega) h2
            · try simp only [zbA] at h20
              refine tr_exit ?_
              refine tr_region fun _ _ _ => ?_
              iterate 2 refine pu rfl rfl rfl rfl rfl ?_
              refine ef rfl rfl (eLit1I rfl rfl rfl rfl (fun A26 => ?_)) 
              refine ef rfl rfl (eAppI rfl rfl rfl rfl rfl (by first | rfl | simp) (by first | rfl | simp) (by first | omega | (simp; omega)) (fun A26a c26a => ?_)) 
              refine pu rfl rfl rfl rfl rfl ?_
              refine tr_region fun _ _ _ => ?_
              refine pu rfl rfl rfl rfl rfl ?_
              refine st rfl rfl rfl rfl (rAdd rfl rfl rfl (by omega) (by omega)) ?_
              refine pu rfl rfl rfl rfl rfl ?_
              refine ⟨c + 1, ps ++ [c], A26a, c26a, r5, d3, ⟨rfl, rfl, rfl, rfl, rfl, rfl, rfl, trivial⟩, by first | exact cs _ _ | exact CSub.refl _, ?_⟩
              refine ⟨⟨⟨by omega, by omega⟩, ⟨hrl5, hgd5⟩, qs ++ [c.toNat], ?_, ?_⟩, by omega⟩
              · rw [hps, List.map_append]; simp; omega
              · rw [show (c + 1).toNat = c.toNat + 1 by omega]
                refine hE5.push (by rw [vsR_length]; omega) ?_ (fun t h1 h2 => ?_)
                · rw [vsR_at, ← hkq, hone5, el_one]
                · rw [vsR_length] at h1
                  rw [vsR_at, hz5 t (by omega) (by omega), el_zero]
  · try simp only [zbA] at h5
    refine tr_exit ?_
    refine tr_seq ?_
    refine tr_region fun _ _ _ => ?_
    iterate 4 refine pu rfl rfl rfl rfl rfl ?_
    obtain ⟨hR1, hR2⟩ := hE.done (by rw [vsR_length]; omega) (by omega)
    exact tr_ret ⟨trivial, _, _, (.tmp rfl (.tmp rfl .nil)), ⟨_, _, _, rfl, r2, AP, cP, ps, qs, dd, rfl, rfl, rfl, rfl, hps, hrl, hgd, by omega, hR1, hR2⟩, cs _ _, trivial, trivial, trivial, trivial⟩
end Go.Proofs.YtgnmcoegdogfgaaGreat

/-
  BCHSOLOMON, PART 4 OF 9. One sentence: the texts behind the law BchSolomon, put together.
  Conditions: each theorem's own, written out in it.
-/
import Derived.ProofKit
import Derived.Deep.Slices
import Derived.SizedLaws
import Derived.OpenShut
import Derived.ShutString
import Derived.ChangeOld
import Derived.RangeFuncNested
import Derived.RangeFuncBound
import Derived.RangeFuncCalls
import Derived.RangeFuncLeaves
import Derived.Shelf.Abstract
import Derived.Shelf.RegionOpen
import Derived.WalkKit
import Derived.OwnWalkIn
import Derived.TacticsInMore
import Derived.LoopNIn
import Derived.LoopIn
import Derived.Test.YtgnmcoegdogfgaaGreatShelf
import Derived.Sort.OwnSortedInts
import Derived.Test.YtgnmcoegdogfgaaGreatK3
set_option linter.unusedSimpArgs false
set_option linter.unusedVariables false
set_option linter.unusedSectionVars false
set_option linter.unusedSimpArgs false
set_option linter.unusedVariables false
namespace Go.Proofs.YtgnmcoegdogfgaaGreat
open Go.ChangeShapes Go.WideShapes Go.ChangeAt Go.RowKit Go.Deep
def Fits (n : Int) : Prop := -9223372036854775808 ≤ n ∧ n ≤ 9223372036854775807
theorem fits_of_wf {n : Int} (h : (Lit.int .i64 n).wf = true) : Fits n := by
  simp [Lit.wf, IntKind.min, IntKind.max, IntKind.bits, IntKind.signed] at h
  unfold Fits
  omega
section
variable {H : Type} {enc : TypeId × Value → H} {P : Program} {w : World} {held : Bool} {t e : TypeId} {fuel : Nat} {cs : List Value} {x : DataW H × List MemPlace}
theorem open_I (ht : P.underlying t = some (.int .i64)) (h : DataW.trod enc P w 0 (fun _ => true) held fuel t cs = some x) : ∃ n, cs = [.int .i64 n] ∧ Fits n := by
  obtain ⟨n, h1, _, h3⟩ := DataW.trod_int ht h
  exact ⟨n, h1, fits_of_wf h3⟩
end
structure IsIS (w : World) (v : Value) (A : Option Addr) (c : Nat) (xs : List Int) : Prop where
  val : v = .slice A xs.length c
  sat : (ro A (ints xs)).sat w
  le : xs.length ≤ c
  max : c ≤ maxLen
  fits : ∀ z ∈ xs, Fits z
section
variable {H : Type} {enc : TypeId × Value → H} {P : Program} {w : World} {b : Nat} {t e : TypeId} {v : Value} {d : DataW H} {p : List MemPlace}
theorem get_I (ht : P.underlying t = some (.int .i64)) (hv : Value.okWide P w .any b t v) (h : DataW.Trod enc P w 0 (fun _ => true) true t v d p) : ∃ n, v = .int .i64 n ∧ Fits n := by
  obtain ⟨n, rfl, _, _, hn⟩ := open_int ht hv h
  exact ⟨n, rfl, fits_of_wf hn⟩
def fdInfo (P : Program) (t : TypeId) (i : Nat) : Option (Nat × TypeId × Nat) :=
  match P.underlying t with
  | some (.struct fs) => (fs[i]?).map fun f => (f.offset, f.type, P.cellsOf f.type)
  | _ => none
def isSt (P : Program) (t : TypeId) : Bool := match P.underlying t with | some (.struct _) => true | _ => false
end
def Light {H : Type} (P : Program) (t : TypeId) (d : DataW H) : Prop := ∀ n ∈ d.weights P t, n ≤ reachBytes
theorem light_of {H : Type} {P : Program} {ts : List TypeId} {ds : List (DataW H)} (h : (DataW.weightsEach P ts ds).all (· ≤ reachBytes) = true) {j : Nat} {t : TypeId} {d : DataW H} (ht : ts[j]? = some t) (hd : ds[j]? = some d) : Light P t d := fun n hn => by
  have := List.all_eq_true.1 h _ (DataW.weights_mem_each ht hd n hn)
  simpa using this
section
variable {H : Type} {enc : TypeId × Value → H} {P : Program} {w : World} {held : Bool} {t e : TypeId} {fuel : Nat} {cs : List Value} {x : DataW H × List MemPlace}
theorem open_ISw (ht : P.underlying t = some (.slice e)) (he : P.underlying e = some (.int .i64)) (hc : P.cellsOf e = 1) (hb : P.bytesOf e = 8) (hw : Light P t x.1) (h : DataW.trod enc P w 0 (fun _ => true) held fuel t cs = some x) :
    ∃ (A : Option Addr) (c : Nat) (xs : List Int), cs = [.slice A xs.length c] ∧ xs.length ≤ c ∧ (ro A (ints xs)).sat w ∧ (∀ z ∈ xs, Fits z) ∧ xs.length ≤ 17592186044415 := by
  rcases open_ints ht he hc h with ⟨rfl, _⟩ | ⟨a, len, cap, zs, rfl, _, hl, hm, hz, hx, hcell, hwz⟩
  · exact ⟨none, 0, [], rfl, Nat.le_refl _, fun j hj => by simp [ints] at hj, fun z hz => by simp at hz, by simp⟩
  · simp only [if_true] at hz
    have hlen : (zs.take len).length = len := by rw [List.length_take]; omega
    have hwt := hw (((lits .i64 (zs.take len) : List (DataW H)).length + (lits .i64 (zs.drop len) : List (DataW H)).length) * P.bytesOf e) (by rw [hx]; simp [DataW.weights, ht])
    refine ⟨some a, cap, zs.take len, by rw [hlen], by rw [hlen]; exact hl, fun j hj => ?_, fun z hz' => fits_of_wf (hwz z (List.mem_of_mem_take hz')), ?_⟩
    · rw [ints_length, hlen] at hj
      refine ⟨a, rfl, ?_⟩
      rw [hcell j (by omega)]
      have hj' : j < zs.length := by omega
      simp [ints, hj']
    · rw [hb] at hwt
      simp only [lits, List.length_map, hlen, reachBytes] at hwt
      omega
end
section
variable {H : Type} {enc : TypeId × Value → H} {P : Program} {w : World} {b : Nat} {t e : TypeId} {v : Value} {d : DataW H} {p : List MemPlace}
structure IsISw (w : World) (v : Value) (A : Option Addr) (c : Nat) (xs : List Int) : Prop where
  val : v = .slice A xs.length c
  sat : (ro A (ints xs)).sat w
  le : xs.length ≤ c
  short : xs.length ≤ 17592186044415
  fits : ∀ z ∈ xs, Fits z
theorem get_ISw (ht : P.underlying t = some (.slice e)) (he : P.underlying e = some (.int .i64)) (hc : P.cellsOf e = 1) (hb : P.bytesOf e = 8) (hw : Light P t d) (hv : Value.okWide P w .any b t v) (h : DataW.Trod enc P w 0 (fun _ => true) true t v d p) : ∃ A c xs, IsISw w v A c xs := by
  obtain ⟨a0, l0, c0, rfl⟩ := okWide_slice ht hv
  obtain ⟨fuel, hf⟩ := h
  obtain ⟨A, c, xs, h1, h2, h3, h4, h5⟩ := open_ISw ht he hc hb hw hf
  simp [Value.cells] at h1
  exact ⟨A, c, xs, by rw [h1.1, h1.2.1, h1.2.2], h3, h2, h5, h4⟩
theorem get_FdW (hst : isSt P t = true) (hw : Light P t d) (hv : Value.okWide P w .any b t v) (h : DataW.Trod enc P w 0 (fun _ => true) true t v d p) :
    ∃ l : List Value, v = .agg l.toArray ∧ l.length = P.cellsOf t ∧ ∀ (i off : Nat) (ty : TypeId) (n : Nat), fdInfo P t i = some (off, ty, n) → ∃ m y, DataW.trod enc P w 0 (fun _ => true) true m ty ((l.drop off).take n) = some y ∧ Light P ty y.1 := by
  unfold isSt at hst
  split at hst
  · rename_i fs hu
    obtain ⟨cs, rfl, _⟩ := okWide_struct hu hv
    obtain ⟨fuel, hf⟩ := h
    obtain ⟨xs, n, _, hx, h1, h2, h3⟩ := DataW.trod_struct hu hf
    have hd : d = .agg (xs.map (·.1)) := congrArg Prod.fst hx
    refine ⟨cs.toList, rfl, h1, fun i off ty k hi => ?_⟩
    simp only [fdInfo, hu] at hi
    cases hfi : fs[i]? with
    | none => simp [hfi] at hi
    | some f =>
      simp only [hfi, Option.map_some, Option.some.injEq, Prod.mk.injEq] at hi
      obtain ⟨rfl, rfl, rfl⟩ := hi
      have hlt : i < xs.length := by rw [h2]; exact (Array.getElem?_eq_some_iff.1 hfi).1
      refine ⟨n, xs[i], (h3 i f hfi).trans (List.getElem?_eq_getElem hlt), fun k hk => hw k ?_⟩
      rw [hd]
      simp only [DataW.weights, hu]
      refine DataW.weights_mem_each (j := i) (t := f.type) (d := xs[i].1) (by simp [hfi]) (by simp [hlt]) k hk
  · cases hst
end
section
variable {H : Type} {enc : TypeId × Value → H} {P : Program} {w : World} {held : Bool} {t e f : TypeId} {fuel : Nat} {cs : List Value} {x : DataW H × List MemPlace}
instance : Inhabited RowM := ⟨rowD⟩
end
theorem joined_of {P : Program} {f : FuncId} {fn : Func} {s : ChangeSpec} {c : OpenClaim}
    (h1 : (c.wf (OpenSpec.ofChange s) && laidOutB P && mapsRowed P && fn.params.all (P.readableRec ·) && namedTie P c.named s.vars && (c.stops == []) && (P.stops == []) && (c.knobs == []) && (P.stopKnobs == [])) = true)
    (h2 : (c.inPlace == P.inPlace f) = true) (h3 : (c.unfollowed == P.unfollowed f) = true) (h4 : (c.recurses == P.recurses f) = true) (h5 : (c.named == P.varsNamed f) = true)
    (h6 : (c.maps == (fn.params.toList ++ s.plain.varTypes P).any (P.mapsRec ·)) = true) (h7 : (c.ifaces == (fn.params.toList ++ s.plain.varTypes P).any (P.ifacesRec ·)) = true) (h8 : (c.mapsOut == P.mapsAmong fn.resultTypes.toList) = true)
    (h9 : (c.loops == (fn.params.toList ++ s.plain.varTypes P).any (P.loopsFrom ·)) = true) (h10 : (c.wideKeys == (fn.params.toList ++ s.plain.varTypes P ++ fn.resultTypes.toList).any (P.wideKeysFrom ·)) = true)
    (h11 : s.vars.all (P.varReadable ·) = true) (h12 : fn.resultTypes.all (fun t => P.readableRec t && decide (t < P.types.size)) = true) (h13 : (c.ifacesOut == fn.resultTypes.toList.any (P.ifacesRec ·)) = true) (h14 : (c.loopsOut == fn.resultTypes.toList.any (P.loopsFrom ·)) = true)
    (h15 : (c.plainKeys == P.plainKeys) = true) (h16 : c.shortTexts.isNone = true) (h17 : P.stopsHeard = true) (h18 : P.mayEnter = true) (h19 : (c.lifted == P.liftsFinal) = true) (h20 : (P.make == some c.make) = true)
    (h21 : (c.kinds == (if c.domain.isEmpty then [] else fn.params.toList.map fun t => match P.underlying t with | some (.int k) => some k | _ => none)) = true) (h22 : (c.pinned == c.pinnedBy) = true)
    (h23 : (c.veiled == (fn.params.toList ++ s.plain.varTypes P ++ fn.resultTypes.toList).any (P.veiledRec ·)) = true) (h24 : c.veiledFits P fn.params.toList (fn.params.toList ++ s.plain.varTypes P ++ fn.resultTypes.toList) = true) : joinedFacts P f fn s c = true := by
  unfold joinedFacts
  simp only [Bool.and_eq_true] at h1 ⊢
  obtain ⟨⟨⟨⟨⟨⟨⟨⟨a1, a2⟩, a3⟩, a4⟩, a5⟩, a6⟩, a7⟩, a8⟩, a9⟩ := h1
  and_intros <;> assumption
end Go.Proofs.YtgnmcoegdogfgaaGreat

set_option linter.unusedSimpArgs false
set_option linter.unusedVariables false
set_option maxRecDepth 100000
namespace Go.Proofs.YtgnmcoegdogfgaaGreat
open Go.ChangeShapes Go.WideShapes Go.ChangeAt Go.RowKit
theorem get_F {H : Type} {enc : TypeId × Value → H} {w : World} {b : Nat} {v : Value} {d : DataW H} {p : List MemPlace} (hw : Light Tryz.prog 24 d) (hv : Value.okWide Tryz.prog w .any b 24 v) (h : DataW.Trod enc Tryz.prog w 0 (fun _ => true) true 24 v d p) :
    ∃ (P M : Int) (A : Option Addr) (c : Nat) (mod : List Int), v = .agg #[.int .i64 P, .int .i64 M, .slice A mod.length c] ∧ (ro A (ints mod)).sat w ∧ mod.length ≤ 17592186044415 := by
  obtain ⟨l, rfl, h1, h2⟩ := get_FdW (by kernel_rfl) hw hv h
  have hl : l.length = 3 := h1.trans (by kernel_rfl)
  obtain ⟨n0, y0, hy0, _⟩ := h2 0 0 3 1 (by kernel_rfl)
  obtain ⟨a0, e0, _⟩ := open_I Tryz.underlying3 hy0
  obtain ⟨n1, y1, hy1, _⟩ := h2 1 1 3 1 (by kernel_rfl)
  obtain ⟨a1, e1, _⟩ := open_I Tryz.underlying3 hy1
  obtain ⟨n2, y2, hy2, hl2⟩ := h2 2 2 22 1 (by kernel_rfl)
  obtain ⟨A, c, xs, e2, _, h3, _, h4⟩ := open_ISw Tryz.underlying22 Tryz.underlying3 (by kernel_rfl) (by kernel_rfl) hl2 hy2
  match l, hl with
  | [b0, b1, b2], _ =>
    simp at e0 e1 e2
    exact ⟨a0, a1, A, c, xs, by rw [e0, e1, e2], h3, h4⟩
end Go.Proofs.YtgnmcoegdogfgaaGreat

set_option linter.unusedSimpArgs false
set_option linter.unusedVariables false
set_option linter.unusedSectionVars false
namespace Go.Proofs.YtgnmcoegdogfgaaGreat
open Rg
theorem trimL_beyond : ∀ (xs : List Int) (j : Nat), (trimL xs).length ≤ j → xs.getD j 0 = 0
  | [], j, _ => rfl
  | x :: xs, j, h => by
    rw [trimL] at h
    split at h
    · rename_i h0
      cases j with
      | zero =>
        split at h
        · rename_i hx; rw [hx]; rfl
        · simp at h
      | succ j =>
        have := trimL_beyond xs j (by rw [h0]; simp)
        simpa using this
    · rename_i y ys h0
      cases j with
      | zero => simp at h
      | succ j =>
        have := trimL_beyond xs j (by rw [h0]; simpa using h)
        simpa using this
theorem trimL_last : ∀ (xs : List Int) (k : Nat), (trimL xs).length = k + 1 → xs.getD k 0 ≠ 0
  | [], k, h => by simp [trimL] at h
  | x :: xs, k, h => by
    rw [trimL] at h
    split at h
    · split at h
      · simp at h
      · rename_i hx
        simp at h
        subst h
        exact hx
    · rename_i y ys h0
      cases k with
      | zero => simp at h
      | succ k =>
        have := trimL_last xs k (by rw [h0]; simpa using h)
        simpa using this
theorem trimL_getD (xs : List Int) (j : Nat) : (trimL xs).getD j 0 = xs.getD j 0 := by
  by_cases h : j < (trimL xs).length
  · conv => rhs; rw [trimL_split xs]
    rw [List.getD_eq_getElem?_getD, List.getD_eq_getElem?_getD, List.getElem?_append_left h]
  · rw [trimL_beyond xs j (by omega), List.getD_eq_getElem?_getD, List.getElem?_eq_none (by omega)]; rfl
class IsF (p m : Int) (mod : List Int) : Prop where
  out : FldR p m mod
noncomputable instance elF (p m : Int) (mod : List Int) [h : IsF p m mod] : Fd (El p m mod) := elFd h.out
theorem IsF.q2 {p m : Int} {mod : List Int} (h : IsF p m mod) : 2 ≤ pw p m := h.out.1.1.q2
theorem IsF.ord {p m : Int} {mod : List Int} (h : IsF p m mod) : ordI p m = pw p m := h.out.1.1.ord
section
variable {p m : Int} {mod : List Int} [hF : IsF p m mod]
def el (x : Int) : El p m mod := ⟨inI (pw p m) x, inI_bd (by have := hF.q2; omega) x⟩
theorem el_val (x : Int) : (el x : El p m mod).1 = inI (pw p m) x := rfl
theorem el_in {x : Int} (h : 0 ≤ x ∧ x < pw p m) : (el x : El p m mod).1 = x := inI_in h.1 h.2
theorem el_of (a : El p m mod) : el a.1 = a := El.ext (inI_in a.2.1 a.2.2)
theorem el_zero : (el 0 : El p m mod) = 0 := El.ext (inI_in (Int.le_refl 0) (by have := hF.q2; omega))
theorem el_one : (el 1 : El p m mod) = 1 := El.ext (inI_in (by omega) (by have := hF.q2; omega))
theorem one_val : (1 : El p m mod).1 = 1 := rfl
theorem add_val (a b : El p m mod) : (a + b).1 = addI p m a.1 b.1 := rfl
theorem mul_val (a b : El p m mod) : (a * b).1 = mulI p m mod a.1 b.1 := rfl
theorem val_zero_iff (a : El p m mod) : a.1 = 0 ↔ a = 0 := ⟨fun h => El.ext h, fun h => by rw [h]; rfl⟩
theorem el_eq_zero {x : Int} (h : 0 ≤ x ∧ x < pw p m) : (el x : El p m mod) = 0 ↔ x = 0 := by rw [← val_zero_iff, el_in h]
noncomputable def pol (l : List Int) : Po (El p m mod) := ⟨fun j => el (l.getD j 0), l.length, fun j hj => by
  show el (l.getD j 0) = 0
  rw [List.getD_eq_getElem?_getD, List.getElem?_eq_none hj]; exact el_zero⟩
theorem cf_pol (l : List Int) (j : Nat) : Po.cf (pol l : Po (El p m mod)) j = el (l.getD j 0) := rfl
theorem pol_sh (l : List Int) : Po.Sh (pol l : Po (El p m mod)) l.length := fun j hj => by
  rw [cf_pol, List.getD_eq_getElem?_getD, List.getElem?_eq_none hj]; exact el_zero
noncomputable def il (f : Po (El p m mod)) : List Int := (List.range (Po.len f)).map fun j => (Po.cf f j).1
theorem il_length (f : Po (El p m mod)) : (il f).length = Po.len f := by simp [il]
theorem il_getD (f : Po (El p m mod)) (j : Nat) : (il f).getD j 0 = (Po.cf f j).1 := by
  by_cases h : j < Po.len f
  · rw [List.getD_eq_getElem?_getD, List.getElem?_eq_getElem (by rw [il_length]; exact h)]
    simp [il]
  · rw [List.getD_eq_getElem?_getD, List.getElem?_eq_none (by rw [il_length]; omega), Po.cf_ge (by omega)]; rfl
theorem il_in (f : Po (El p m mod)) : AllIn (pw p m) (il f) := fun c hc => by
  obtain ⟨j, _, rfl⟩ := List.mem_map.1 hc
  exact (Po.cf f j).2
theorem pol_il (f : Po (El p m mod)) : pol (il f) = f := Po.ext fun j => by rw [cf_pol, il_getD, el_of]
theorem getD_map0 (q : Int) (l : List Int) (j : Nat) : (l.map (inI q)).getD j 0 = inI q (l.getD j 0) := by
  by_cases h : j < l.length
  · simp [List.getD_eq_getElem?_getD, h]
  · rw [List.getD_eq_getElem?_getD, List.getElem?_eq_none (by simpa using h), List.getD_eq_getElem?_getD, List.getElem?_eq_none (by omega)]
    simp [inI]
theorem len_pol (l : List Int) : Po.len (pol l : Po (El p m mod)) = (canL (pw p m) l).length := by
  have hb : ∀ j, (canL (pw p m) l).length ≤ j → Po.cf (pol l : Po (El p m mod)) j = 0 := fun j hj => by
    have h1 := trimL_beyond (l.map (inI (pw p m))) j hj
    rw [getD_map0] at h1
    exact El.ext h1
  rcases Nat.eq_zero_or_pos (canL (pw p m) l).length with h | h
  · rw [h] at hb ⊢
    exact Nat.le_zero.1 (Po.len_le hb)
  · obtain ⟨k, hk⟩ : ∃ k, (canL (pw p m) l).length = k + 1 := ⟨_, (Nat.sub_add_cancel h).symm⟩
    rw [hk] at hb ⊢
    refine Po.len_eq hb fun h0 => ?_
    have h1 := trimL_last (l.map (inI (pw p m))) k hk
    rw [getD_map0] at h1
    exact h1 (congrArg Subtype.val h0)
theorem ext_getD {a b : List Int} (hl : a.length = b.length) (h : ∀ j, a.getD j 0 = b.getD j 0) : a = b := List.ext_getElem hl fun j h1 h2 => by
  have := h j
  rw [List.getD_eq_getElem?_getD, List.getElem?_eq_getElem h1, List.getD_eq_getElem?_getD, List.getElem?_eq_getElem h2] at this
  exact this
theorem il_pol (l : List Int) : il (pol l : Po (El p m mod)) = canL (pw p m) l := ext_getD (by rw [il_length, len_pol]) fun j => by
  rw [il_getD, cf_pol]
  unfold canL
  rw [trimL_getD, getD_map0]; rfl
theorem canL_of_in {q : Int} {l : List Int} (h : AllIn q l) : canL q l = trimL l := by
  unfold canL
  congr 1
  conv => rhs; rw [← List.map_id l]
  exact List.map_congr_left fun x hx => inI_in (h x hx).1 (h x hx).2
theorem il_trim {l : List Int} (h : AllIn (pw p m) l) : il (pol l : Po (El p m mod)) = trimL l := by rw [il_pol, canL_of_in h]
theorem pol_nil : (pol [] : Po (El p m mod)) = 0 := Po.ext fun j => el_zero
theorem il_zero : il (0 : Po (El p m mod)) = [] := by unfold il; rw [Po.len_zero]; rfl
theorem il_eq_nil {f : Po (El p m mod)} : il f = [] ↔ f = 0 := ⟨fun h => by rw [← pol_il f, h, pol_nil], fun h => by rw [h, il_zero]⟩
theorem il_self {l : List Int} (h : AllIn (pw p m) l) (h0 : l = [] ∨ l.getD (l.length - 1) 0 ≠ 0) : il (pol l : Po (El p m mod)) = l := by
  rw [il_trim h]
  have h1 := trim_done (xs := l) (k := l.length) (Nat.le_refl _) (by rw [List.take_length]) (by
    rcases h0 with h0 | h0
    · exact .inl (by rw [h0]; rfl)
    · exact .inr h0)
  rw [trimL_take, h1, List.take_length]
noncomputable def rw' (l : List Int) : Vc (El p m mod) := fun j => el (l.getD j 0)
theorem rw_at (l : List Int) (j : Nat) : (rw' l : Vc (El p m mod)) j = el (l.getD j 0) := rfl
end
end Go.Proofs.YtgnmcoegdogfgaaGreat

set_option linter.unusedSimpArgs false
set_option linter.unusedVariables false
namespace Go.Proofs.YtgnmcoegdogfgaaGreat
def addD (p : Int) : Nat → Int → Int → Int
  | 0, _, _ => 0
  | n + 1, x, y => (x % p + y % p) % p + p * addD p n (x / p) (y / p)
def negD (p : Int) : Nat → Int → Int
  | 0, _ => 0
  | n + 1, x => (p - x % p) % p + p * negD p n (x / p)
theorem dg_head (p : Int) (M : Nat) (x : Int) : dg p (M + 1) x 0 = x % p := rfl
theorem rv_head (p : Int) (M : Nat) (u : Row) : rv p (M + 1) u = u 0 % p + p * rv p M (fun j => u (j + 1)) := by
  unfold rv
  rw [List.range_succ_eq_map, List.map_cons, List.map_map, vl]
  rfl
theorem add_rec (p : Int) : ∀ (M : Nat) (x y : Int), rv p M ((dg p M x).add (dg p M y)) = addD p M x y
  | 0, _, _ => rfl
  | M + 1, x, y => by
    rw [rv_head, addD, ← add_rec p M]
    rfl
theorem addI_rec (p m x y : Int) : addI p m x y = addD p m.toNat x y := add_rec p _ x y
theorem neg_rec {p : Int} (hp : 2 ≤ p) : ∀ (M : Nat) (x : Int), rv p M (Row.sm (-1) (dg p M x)) = negD p M x
  | 0, _ => rfl
  | M + 1, x => by
    rw [rv_head, negD, ← neg_rec hp M]
    have h1 : Row.sm (-1) (dg p (M + 1) x) 0 % p = (p - x % p) % p := by
      simp only [Row.sm, dg_head]
      rw [show (-1 : Int) * (x % p) = (p - x % p) + p * (-1) by omega, Int.add_mul_emod_self_left]
    rw [h1]
    rfl
theorem negI_rec {p : Int} (hp : 2 ≤ p) (m x : Int) : negI p m x = negD p m.toNat x := neg_rec hp _ x
theorem addD_bd {p : Int} (hp : 2 ≤ p) : ∀ (n : Nat) (x y : Int), 0 ≤ addD p n x y ∧ addD p n x y < p ^ n := fun n x y => by
  have := rv_bd hp n ((dg p n x).add (dg p n y))
  rwa [add_rec] at this
theorem negD_bd {p : Int} (hp : 2 ≤ p) : ∀ (n : Nat) (x : Int), 0 ≤ negD p n x ∧ negD p n x < p ^ n := fun n x => by
  have := rv_bd hp n (Row.sm (-1) (dg p n x))
  rwa [neg_rec hp] at this
theorem addD_zero (p : Int) : ∀ n : Nat, addD p n 0 0 = 0
  | 0 => rfl
  | n + 1 => by simp [addD, addD_zero p n]
theorem negD_zero (p : Int) : ∀ n : Nat, negD p n 0 = 0
  | 0 => rfl
  | n + 1 => by simp [negD, negD_zero p n]
theorem ediv_lt_pow {p x : Int} (hp : 2 ≤ p) {n : Nat} (h : x < p ^ (n + 1)) : x / p < p ^ n := Int.ediv_lt_of_lt_mul (by omega) (by rwa [Int.pow_succ] at h)
theorem xor_rec : ∀ (n x y : Nat), x < 2 ^ n → y < 2 ^ n → addD 2 n x y = ((x ^^^ y : Nat) : Int)
  | 0, x, y, hx, hy => by
    have h1 : x = 0 := by simpa using hx
    have h2 : y = 0 := by simpa using hy
    subst h1; subst h2
    simp [addD]
  | n + 1, x, y, hx, hy => by
    have h1 : x / 2 < 2 ^ n := by rw [Nat.pow_succ] at hx; omega
    have h2 : y / 2 < 2 ^ n := by rw [Nat.pow_succ] at hy; omega
    have ih := xor_rec n (x / 2) (y / 2) h1 h2
    rw [addD]
    have e1 : ((x : Int) / 2) = ((x / 2 : Nat) : Int) := by omega
    have e2 : ((y : Int) / 2) = ((y / 2 : Nat) : Int) := by omega
    rw [e1, e2, ih, ← Nat.xor_div_two]
    have e3 : (x ^^^ y) % 2 = (x + y) % 2 := by
      have h3 := Nat.xor_mod_two_pow (a := x) (b := y) (n := 1)
      rw [Nat.pow_one] at h3
      rw [h3]
      rcases Nat.mod_two_eq_zero_or_one x with hx0 | hx0 <;> rcases Nat.mod_two_eq_zero_or_one y with hy0 | hy0 <;> rw [hx0, hy0] <;> simp <;> omega
    have e4 := Nat.div_add_mod (x ^^^ y) 2
    have e5 : ((x : Int) % 2 + (y : Int) % 2) % 2 = (((x + y) % 2 : Nat) : Int) := by omega
    rw [e5, ← e3]
    omega
theorem addI_two {m x y : Int} (hx : 0 ≤ x ∧ x < pw 2 m) (hy : 0 ≤ y ∧ y < pw 2 m) : addI 2 m x y = ((x.toNat ^^^ y.toNat : Nat) : Int) := by
  rw [addI_rec]
  have h1 : ((2 ^ m.toNat : Nat) : Int) = pw 2 m := by rw [Int.natCast_pow]; rfl
  have := xor_rec m.toNat x.toNat y.toNat (by omega) (by omega)
  rwa [Int.toNat_of_nonneg hx.1, Int.toNat_of_nonneg hy.1] at this
section
variable {p m : Int} {mod : List Int} [hF : IsF p m mod]
theorem el_inj {x y : Int} (hx : 0 ≤ x ∧ x < pw p m) (hy : 0 ≤ y ∧ y < pw p m) (h : (el x : El p m mod) = el y) : x = y := by
  have := congrArg Subtype.val h
  rwa [el_in hx, el_in hy] at this
end
end Go.Proofs.YtgnmcoegdogfgaaGreat

set_option linter.unusedSimpArgs false
set_option linter.unusedVariables false
set_option maxRecDepth 100000
namespace Go.Proofs.YtgnmcoegdogfgaaGreat
open Go.RowKit Go.Shelf
attribute [local go_sem] Oper.semAt_some
set_option maxRecDepth 100000 in
set_option maxHeartbeats 2000000 in
theorem elems_in (F : Fence) (n : Nat) (hF : F.fn 187) (hro : F.round = none) (hn : 1 ≤ n) (l Bs b q : Nat) (hq : q ≤ 256) (J Jx : List Int → World → Prop)
    (hY : ∀ pre x W, J pre W → pre.length < q → YieldAt F (n - 1) Tryz.prog l #[.int .i64 x] W fun e W' =>
      (e = .returned (.bool true) ∧ J (pre ++ [x]) W' ∧ True) ∨ (e = .returned (.bool false) ∧ Jx (pre ++ [x]) W'))
    (W : World) (hBs : W.cell? ⟨Bs, 0, none⟩ = some (.pointer (some ⟨b, 0, none⟩))) (hc : W.cell? ⟨b, 3, none⟩ = some (.int .i64 q)) (h0 : J [] W) :
    CallsIn F n Tryz.prog 187 #[.func (.yield l) #[] #[], .pointer (some ⟨Bs, 0, none⟩)] W fun e W' => (∃ v, e = .returned v) ∧
      ((∃ ys, ys = upI q ∧ J ys W') ∨ (∃ pre, (∃ k, k ≤ q ∧ pre = upI k) ∧ Jx pre W')) := by
  refine callsIn_of_wp Tryz.func187 rfl hF ?_ hro
  simp only [Tryz.ntmps187, List.size_toArray, List.length_cons, List.length_nil, Nat.reduceAdd, Nat.reduceSub, Array.replicate_succ, Array.replicate_zero, List.push_toArray, List.append_toArray, List.nil_append, List.cons_append]
  gi_wp2
  gi_loopw [8] (fun i wr => ∃ k : Nat, k ≤ q ∧ i = .int .i64 k ∧ J (upI k) wr)
    (fun i _ => q - (intOf i).toNat)
  case atStart => exact ⟨0, Nat.zero_le _, rfl, h0⟩
  case round =>
    obtain ⟨k, hk, rfl, hJs⟩ := hrel
    by_cases hlt : k < q
    · obtain ⟨fn, tmps, assign, body, hy, hR⟩ := hY _ (k : Int) wr hJs (by rw [upI_length]; exact hlt)
      gi_wp2
      refine hR.mono ?_
      rintro e W3 (⟨rfl, hJ3, _⟩ | ⟨rfl, hJx3⟩)
      · gi_wp2
        go_roundw
        case rel => exact ⟨k + 1, by omega, by simp, by rw [upI_succ]; exact hJ3⟩
        case measure => simp [intOf]; omega
      · gi_wp2
        refine bodyPost_ret (results_none rfl _ _ _) rfl ?_
        exact ⟨⟨_, rfl⟩, .inr ⟨_, ⟨k + 1, by omega, (upI_succ _).symm⟩, hJx3⟩⟩
    · obtain rfl : k = q := by omega
      gi_wp2
      go_end0
      exact ⟨⟨_, rfl⟩, .inl ⟨_, rfl, hJs⟩⟩
theorem elems_gives {Bs : Addr} {g : GfM} {e : TypeId} {F F' : List Chunk} (hq0 : 0 ≤ g.q) (hq : g.q ≤ 256) [hB : PkBlk F Bs e [.pointer (some g.p)] F'] [hG : HasGF F g] :
    Gives Tryz.prog F 187 #[.pointer (some Bs)] g.q.toNat := ⟨fun M w0 w hm => by
  have h1 := (hm.perm hB.perm).sat _ (List.mem_cons_self ..)
  have h2 := (hG.has M w0 w hm).1
  have hb := h1.1
  have hp := h2.1
  obtain ⟨ad, e1, hc⟩ := blk_reads h1 0 (by simp)
  simp only [Option.some.injEq] at e1
  subst e1
  obtain ⟨ad, e2, hc2⟩ := h2.2 3 (by simp [GfM.cells])
  simp only [Option.some.injEq] at e2
  subst e2
  simp only [GfM.cells, List.getElem_cons_zero, List.getElem_cons_succ] at hc hc2
  rw [hb, add_new] at hc
  rw [hp, add_new] at hc2
  intro l J Jx W hW _ _ hY h0
  have k1 : W.cell? ⟨Bs.block, 0, none⟩ = some (.pointer (some ⟨g.p.block, 0, none⟩)) := by
    rw [hW.cell (p := ⟨Bs.block, 0, none⟩) (World.block_lt_of_cell? _ _ hc), hc, ← hp]
  have k2 : W.cell? ⟨g.p.block, 3, none⟩ = some (.int .i64 g.q.toNat) := by
    rw [hW.cell (p := ⟨g.p.block, 3, none⟩) (World.block_lt_of_cell? _ _ hc2), hc2, Int.toNat_of_nonneg hq0]
  have := elems_in (WR none) 1 trivial rfl (Nat.le_refl _) l Bs.block g.p.block g.q.toNat (by omega) J Jx hY W k1 k2 h0
  rw [hb]
  exact this⟩
end Go.Proofs.YtgnmcoegdogfgaaGreat

set_option linter.unusedSimpArgs false
set_option linter.unusedVariables false
set_option maxRecDepth 100000
namespace Go.Proofs.YtgnmcoegdogfgaaGreat
open Go.RowKit
theorem gf_Elements1_ent : Enters Tryz.prog 187 := enters_of Tryz.func187 (by kernel_rfl) (by kernel_rfl)
theorem gf_Elements_ent : Enters Tryz.prog 136 := enters_of Tryz.func136 (by kernel_rfl) (by kernel_rfl)
theorem gf_Elements (g : GfM) :
    Pure Tryz.prog 136 #[.pointer (some g.p)] [gfR g] (one (fun v ch => ∃ Bs : Addr, v = .func (.func 187) #[] #[.pointer (some Bs)] ∧ ch = blk Bs 58 [.pointer (some g.p)])) := by
  refine pure_of (args := [.pointer (some g.p)]) 4 Tryz.func136 rfl rfl rfl gf_Elements_ent ⟨id, trivial⟩ (fun w0 => ?_)
  refine tr_seq ?_
  refine tr_region fun _ _ _ => ?_
  refine ef rfl rfl (eBox rfl rfl rfl rfl rfl (fun p0 => ?_)) 
  refine pu rfl rfl rfl rfl rfl ?_
  refine tr_seq ?_
  refine tr_region fun _ _ _ => ?_
  refine st rfl rfl rfl rfl (rFun rfl rfl rfl) ?_
  refine pu rfl rfl rfl rfl rfl ?_
  exact tr_ret ⟨trivial, _, _, rfl, ⟨_, rfl, p0, rfl, rfl⟩, cs _ _, trivial, trivial⟩
theorem gf_MulOrder2 (g : GfM) (p m : Int) (mod : List Int) (hg : GOk g p m mod) (y : Int) : Pure Tryz.prog 137 #[.pointer (some g.p), .int .i64 y] [gfR g] (isV (.tuple #[.int .i64 (if inI g.q y = 0 then 0 else mord p m mod (inI g.q y) : Nat), .int .i64 (if inI g.q y = 0 then 7 else 0)])) :=
  (gf_MulOrder g p m mod hg y).mono fun v Fo hr => ⟨hr.1.trans (by split <;> simp [*]), hr.2⟩
theorem bch_Root_ok_ent : Enters Tryz.prog 76 := enters_of Tryz.func76 (by kernel_rfl) (by kernel_rfl)
theorem bch_Root_ok (p m : Int) (A : Option Addr) (c : Nat) (mod : List Int) (hl9 : mod.length ≤ 17592186044415) (n : Int) (hF : FldR p m mod) :
    Pure Tryz.prog 76 #[.agg #[.int .i64 p, .int .i64 m, .slice A mod.length c], .int .i64 n] [ro A (ints mod)] (isV (.tuple #[.int .i64 (if rootArgs p m mod n = 0 then rootI p m mod n else 0), .int .i64 (rootArgs p m mod n)])) := by
  have hch := chkF_ok hF
  refine pure_ofC (args := [.agg #[.int .i64 p, .int .i64 m, .slice A mod.length c], .int .i64 n]) 42 Tryz.func76 rfl rfl rfl bch_Root_ok_ent ⟨id, trivial⟩ (fun w0 => ?_)
  refine tr_seq ?_
  refine tr_region fun _ _ _ => ?_
  refine ef rfl rfl (eBox rfl rfl rfl rfl rfl (fun p0 => ?_)) 
  refine ef rfl rfl (eBox rfl rfl rfl rfl rfl (fun p0a => ?_)) 
  refine ef rfl rfl (eAlloc rfl rfl rfl (fun p0b => ?_)) 
  refine ef rfl rfl (eAlloc rfl rfl rfl (fun p0c => ?_)) 
  refine tr_seq ?_
  refine tr_region fun _ _ _ => ?_
  refine st rfl rfl rfl rfl (rLdS rfl rfl rfl) ?_
  refine ef rfl rfl (eCall1 rfl rfl rfl (fld_New_ok _ _ _ _ _ (by omega) hF) ⟨rfl, trivial⟩ ?_) 
  rintro _ _ ⟨g, rfl, rfl, hg⟩
  iterate 3 refine pu rfl rfl rfl rfl rfl ?_
  refine ef rfl rfl (eAlloc rfl rfl rfl (fun p1a => ?_)) 
  refine ef rfl rfl (eSt0 rfl rfl rfl rfl rfl rfl ?_) 
  refine pu rfl rfl rfl rfl rfl ?_
  refine tr_seq ?_
  refine tr_seq ?_
  refine tr_region fun _ _ _ => ?_
  iterate 2 refine pu rfl rfl rfl rfl rfl ?_
  refine tr_cond_bool rfl (fun h2 => ?_) (fun h2 => ?_)
  · try simp only [zbA] at h2
    simp at h2 --done
  · try simp only [zbA] at h2
    refine tr_skip ?_
    refine tr_seq ?_
    refine tr_seq ?_
    refine tr_region fun _ _ _ => ?_
    refine st rfl rfl rfl rfl (rLd0 rfl rfl) ?_
    iterate 2 refine pu rfl rfl rfl rfl rfl ?_
    refine stg rfl rfl rfl rfl rfl (fun hb => by (have hq := hb; try simp only [zbA] at hq); exact rLd0 rfl rfl) ?_
    refine stg rfl rfl rfl rfl rfl (fun hb => by (have hq := hb; try simp only [zbA] at hq); exact rGtr rfl (evg rfl hb) rfl) ?_
    refine st rfl rfl rfl rfl (rOrB rfl rfl rfl rfl) ?_
    refine tr_cond_bool rfl (fun h4 => ?_) (fun h4 => ?_)
    · try simp only [zbA] at h4
      refine tr_seq ?_
      refine tr_region fun _ _ _ => ?_
      refine ef rfl rfl (eSt0 rfl rfl rfl rfl rfl rfl ?_) 
      refine ef rfl rfl (eSt0 rfl rfl rfl rfl rfl rfl ?_) 
      have hra : rootArgs p m mod n = 4 := by unfold rootArgs; rw [if_neg (by omega), if_pos (by omega)]
      exact tr_ret ⟨trivial, _, _, (.cell rfl cell1 (.cell rfl cell1 .nil)), ⟨by rw [hra]; rfl, rfl⟩, CSub.nil _, trivial⟩
    · try simp only [zbA] at h4
      refine tr_skip ?_
      refine tr_seq ?_
      refine tr_seq ?_
      have hq2 := hg.q2
      have hqe := hg.eq
      refine tr_region fun _ _ _ => ?_
      refine st rfl rfl rfl rfl (rLd0 rfl rfl) ?_
      refine ef rfl rfl (eCall1 rfl rfl rfl (gf_Elements _) ⟨rfl, trivial⟩ ?_) 
      rintro _ _ ⟨B6, rfl, rfl⟩
      refine tr_block ?_
      refine tr_range (hseq := elems_gives (by omega) (by omega)) rfl gf_Elements1_ent rfl rfl rfl rfl rfl (fun (q : Unit) => [blk B6 58 [.pointer (some g.p)], blk p1a 58 [.pointer (some g.p)], gfN g, blk p0 24 [.int .i64 p, .int .i64 m, .slice A mod.length c], blk p0a 3 [.int .i64 n], blk p0b 3 [.int .i64 0], blk p0c 31 [.int .i64 0]]) (fun (pre : List Int) (q : Unit) => ∀ z ∈ pre, (mord p m mod (inI g.q z) : Int) ≠ n ∨ inI g.q z = 0) () (by first | exact cs _ _ | exact CSub.refl _) (fun z hz => by simp at hz) ?_ ?_
      · rintro pre x q l M0 W0 hlen hI
        refine tr_block ?_
        refine tr_seq ?_
        refine tr_region fun _ _ _ => ?_
        refine st rfl rfl rfl rfl (rLd0 rfl rfl) ?_
        refine pu rfl rfl rfl rfl rfl ?_
        refine ef rfl rfl (eCallV rfl rfl rfl (gf_MulOrder2 g p m mod hg _) ⟨rfl, rfl, trivial⟩ ?_) 
        iterate 5 refine pu rfl rfl rfl rfl rfl ?_
        refine tr_seq ?_
        generalize hz : inI g.q x = z
        refine tr_region fun _ _ _ => ?_
        iterate 3 refine pu rfl rfl rfl rfl rfl ?_
        refine stg rfl rfl rfl rfl rfl (fun hb => by (have hq := hb; try simp only [zbA] at hq); exact rMove rfl rfl) ?_
        refine stg rfl rfl rfl rfl rfl (fun hb => by (have hq := hb; try simp only [zbA] at hq); exact rLd0 rfl rfl) ?_
        refine stg rfl rfl rfl rfl rfl (fun hb => by (have hq := hb; try simp only [zbA] at hq); exact rEql rfl (evg rfl hb) (evg rfl hb)) ?_
        refine st rfl rfl rfl rfl (rAndB rfl rfl rfl rfl) ?_
        refine tr_cond_bool rfl (fun h9 => ?_) (fun h9 => ?_)
        · try simp only [zbA] at h9
          refine tr_seq ?_
          refine tr_region fun _ _ _ => ?_
          refine pu rfl rfl rfl rfl rfl ?_
          refine ef rfl rfl (eSt0 rfl rfl rfl rfl rfl rfl ?_) 
          refine ef rfl rfl (eSt0 rfl rfl rfl rfl rfl rfl ?_) 
          refine tr_ret fun hpre => ?_
          obtain ⟨k, hk, hk2⟩ := hpre
          have hpk : pre = upI pre.length ∧ x = pre.length ∧ (pre.length : Int) < g.q := by
            have h1 := congrArg List.length hk2
            rw [upI_length, List.length_append, List.length_singleton] at h1
            rw [← h1, upI_succ] at hk2
            have h2 := List.append_inj' hk2 rfl
            exact ⟨h2.1, by simpa using h2.2, by omega⟩
          obtain ⟨hp1, hp2, hp3⟩ := hpk
          have hzx : z = x := by rw [← hz, inI_in (by omega) (by omega)]
          have hz0 : z ≠ 0 := fun e => by rw [e] at h9; simp at h9
          rw [if_neg hz0, if_neg hz0] at h9
          have hr : RootI p m mod n x := .inr ⟨by omega, by omega, by rw [← hzx]; exact h9.2, fun y h1 h2 => by
            have h3 := hI y (by rw [hp1]; exact List.mem_map.2 ⟨y.toNat, List.mem_range.2 (by omega), by omega⟩)
            rw [inI_in (by omega) (by omega)] at h3
            rcases h3 with h3 | h3
            · exact h3
            · omega⟩
          have hra : rootArgs p m mod n = 0 := by unfold rootArgs; rw [if_neg (by omega), if_neg (by omega), if_neg (by rw [hr.eq]; omega)]
          exact ⟨trivial, _, _, (.cell rfl cell1 (.cell rfl cell1 .nil)), ⟨by rw [hra, if_pos rfl, hr.eq]; rfl, rfl⟩, CSub.nil _, trivial⟩
        · try simp only [zbA] at h9
          refine tr_skip ?_
          refine ⟨(), by first | exact cs _ _ | exact CSub.refl _, ?_⟩
          intro y hy
          rcases List.mem_append.1 hy with hy | hy
          · exact hI y hy
          · simp only [List.mem_singleton] at hy
            subst hy
            rw [hz]
            by_cases hz0 : z = 0
            · exact .inr hz0
            · left
              rw [if_neg hz0, if_neg hz0] at h9
              intro he
              rcases h9 with h9 | h9
              · exact h9 rfl
              · exact h9 (by exact_mod_cast he)
      · rintro q hI
        have hr : RootI p m mod n 0 := .inl ⟨rfl, fun y h1 h2 => by
          have h3 := hI y (List.mem_map.2 ⟨y.toNat, List.mem_range.2 (by omega), by omega⟩)
          rw [inI_in (by omega) (by omega)] at h3
          rcases h3 with h3 | h3
          · exact h3
          · omega⟩
        have hra : rootArgs p m mod n = 11 := by unfold rootArgs; rw [if_neg (by omega), if_neg (by omega), if_pos hr.eq]
        refine tr_seq ?_
        refine tr_region fun _ _ _ => ?_
        refine ef rfl rfl (eSt0 rfl rfl rfl rfl rfl rfl ?_) 
        refine ef rfl rfl (eSt0 rfl rfl rfl rfl rfl rfl ?_) 
        exact tr_ret ⟨trivial, _, _, (.cell rfl cell1 (.cell rfl cell1 .nil)), ⟨by rw [hra]; rfl, rfl⟩, CSub.nil _, trivial⟩
end Go.Proofs.YtgnmcoegdogfgaaGreat

set_option linter.unusedSimpArgs false
set_option linter.unusedVariables false
set_option maxRecDepth 100000
namespace Go.Proofs.YtgnmcoegdogfgaaGreat
open Go.RowKit
theorem bch_members_ent : Enters Tryz.prog 40 := enters_of Tryz.func40 (by kernel_rfl) (by kernel_rfl)
theorem bch_members (n : Int) (hn : 1 ≤ n) (hn2 : n ≤ 100000) (A : Option Addr) (c : Nat) (zs : List Int) (hl : zs.length ≤ 1000000000) :
    Pure Tryz.prog 40 #[.int .i64 n, .slice A zs.length c] [ro A (ints zs)] (one (fun v ch => ∃ B, v = .slice B n.toNat n.toNat ∧ ch = ow B 4 n.toNat (bools (memL n zs)))) := by
  refine pure_of (args := [.int .i64 n, .slice A zs.length c]) 23 Tryz.func40 rfl rfl rfl bch_members_ent ⟨id, trivial⟩ (fun w0 => ?_)
  refine tr_seq ?_
  refine tr_region fun _ _ _ => ?_
  refine pu rfl rfl rfl rfl rfl ?_
  refine tr_seq ?_
  refine tr_region fun _ _ _ => ?_
  refine pu rfl rfl rfl rfl rfl ?_
  refine ef rfl rfl (eMakeB rfl rfl rfl rfl rfl (by omega) (by omega) (by omega) (fun A1 => ?_)) 
  refine pu rfl rfl rfl rfl rfl ?_
  refine tr_seq ?_
  refine tr_seq ?_
  refine tr_region fun _ _ _ => ?_
  refine pu rfl rfl rfl rfl rfl ?_
  refine st rfl rfl rfl rfl (rLen rfl rfl) ?_
  refine pu rfl rfl rfl rfl rfl ?_
  refine tr_block ?_
  refine tr_loop1 (fun (k : Int) => [(0, .int .i64 n), (5, .slice A1 n.toNat n.toNat), (10, .slice A zs.length c), (11, .int .i64 zs.length), (12, .int .i64 k)]) (fun (k : Int) => [ow A1 4 n.toNat (bools (memL n (zs.take k.toNat))), ro A (ints zs)]) (fun (k : Int) => 0 ≤ k ∧ k ≤ zs.length) (fun (k : Int) => (zs.length - k).toNat) (0) ⟨rfl, rfl, rfl, rfl, rfl, trivial⟩ (by first | exact cs _ _ | exact CSub.refl _) (⟨by omega, by omega⟩) (fun k hI => ?_)
  obtain ⟨hk0, hk1⟩ := hI
  have hml := memL_length n (zs.take k.toNat)
  refine tr_seq ?_
  refine tr_region fun _ _ _ => ?_
  refine pu rfl rfl rfl rfl rfl ?_
  refine tr_seq ?_
  refine tr_cond_bool rfl (fun h3 => ?_) (fun h3 => ?_)
  · try simp only [zbA] at h3
    refine tr_skip ?_
    refine tr_seq ?_
    refine tr_block ?_
    refine tr_seq ?_
    refine tr_region fun _ _ _ => ?_
    refine st rfl rfl rfl rfl (rIdxI rfl rfl rfl (by omega) (by omega) (by omega)) ?_
    refine st rfl rfl rfl rfl (rLdI rfl rfl (by omega)) ?_
    refine pu rfl rfl rfl rfl rfl ?_
    refine tr_region fun _ _ _ => ?_
    iterate 3 refine pu rfl rfl rfl rfl rfl ?_
    refine ef rfl rfl (eCallV rfl rfl rfl (bch_modulo _ _ (by omega) (by omega)) ⟨rfl, rfl, trivial⟩ ?_) 
    have hm0 := Int.emod_nonneg (zs.getD k.toNat 0) (show n ≠ 0 by omega)
    have hm1 := Int.emod_lt_of_pos (zs.getD k.toNat 0) (show 0 < n by omega)
    refine st rfl rfl rfl rfl (rIdxB rfl rfl rfl (by omega) (by omega) (by omega)) ?_
    refine ef rfl rfl (eStB rfl rfl rfl rfl (by omega) ?_) 
    refine tr_region fun _ _ _ => ?_
    rw [← memL_snoc, ← take_next 0 zs k hk0 (by omega)]
    refine st rfl rfl rfl rfl (rAdd rfl rfl rfl (by omega) (by omega)) ?_
    refine pu rfl rfl rfl rfl rfl ?_
    refine ⟨k + 1, ⟨rfl, rfl, rfl, rfl, rfl, trivial⟩, by first | exact cs _ _ | exact CSub.refl _, ?_⟩
    exact ⟨⟨by omega, by omega⟩, by omega⟩
  · try simp only [zbA] at h3
    refine tr_exit ?_
    refine tr_seq ?_
    refine tr_region fun _ _ _ => ?_
    iterate 2 refine pu rfl rfl rfl rfl rfl ?_
    rw [take_len zs k (by omega)]
    exact tr_ret ⟨trivial, _, _, rfl, ⟨_, rfl, _, rfl, rfl⟩, cs _ _, trivial, trivial⟩
end Go.Proofs.YtgnmcoegdogfgaaGreat

set_option linter.unusedSimpArgs false
set_option linter.unusedVariables false
namespace Go.Proofs.YtgnmcoegdogfgaaGreat
def stp (q n : Int) : Nat → Int → Int
  | 0, i => i
  | k + 1, i => stp q n k i * q % n
def Orb (q n i j : Int) : Prop := ∃ k, j = stp q n k i
theorem stp_bd {q n i : Int} (hn : 1 ≤ n) (hi : 0 ≤ i ∧ i < n) : ∀ k, 0 ≤ stp q n k i ∧ stp q n k i < n
  | 0 => hi
  | k + 1 => ⟨Int.emod_nonneg _ (by omega), Int.emod_lt_of_pos _ (by omega)⟩
theorem stp_add (q n i : Int) (a : Nat) : ∀ b, stp q n b (stp q n a i) = stp q n (a + b) i
  | 0 => rfl
  | b + 1 => by rw [stp, stp_add q n i a b, ← Nat.add_assoc, stp]
theorem Orb.refl (q n i : Int) : Orb q n i i := ⟨0, rfl⟩
theorem Orb.trans {q n i j k : Int} (h : Orb q n i j) (h' : Orb q n j k) : Orb q n i k := by
  obtain ⟨a, rfl⟩ := h
  obtain ⟨b, rfl⟩ := h'
  exact ⟨a + b, stp_add q n i a b⟩
theorem mul_inj_mod {q n a b : Int} (hg : Int.gcd q n = 1) (ha : 0 ≤ a ∧ a < n) (hb : 0 ≤ b ∧ b < n) (h : a * q % n = b * q % n) : a = b := by
  have h1 : n ∣ (a - b) * q := by
    rw [Int.sub_mul]
    exact Int.dvd_of_emod_eq_zero (Int.emod_eq_emod_iff_emod_sub_eq_zero.1 h)
  have h2 : n.natAbs ∣ (a - b).natAbs * q.natAbs := by
    rw [← Int.natAbs_mul]
    exact Int.natAbs_dvd_natAbs.2 h1
  have h3 : n.natAbs ∣ (a - b).natAbs := Nat.Coprime.dvd_of_dvd_mul_right (by
    show Nat.gcd n.natAbs q.natAbs = 1
    rw [Nat.gcd_comm]; exact hg) h2
  rcases Nat.eq_zero_or_pos (a - b).natAbs with h4 | h4
  · omega
  · have := Nat.le_of_dvd h4 h3
    omega
theorem stp_inj {q n i j : Int} (hg : Int.gcd q n = 1) (hn : 1 ≤ n) (hi : 0 ≤ i ∧ i < n) (hj : 0 ≤ j ∧ j < n) : ∀ k, stp q n k i = stp q n k j → i = j
  | 0, h => h
  | k + 1, h => stp_inj hg hn hi hj k (mul_inj_mod hg (stp_bd hn hi k) (stp_bd hn hj k) h)
theorem stp_back {q n i : Int} (hg : Int.gcd q n = 1) (hn : 1 ≤ n) (hi : 0 ≤ i ∧ i < n) : ∃ d, 1 ≤ d ∧ stp q n d i = i := by
  refine Classical.byContradiction fun hno => ?_
  have hd : ((List.range (n.toNat + 1)).map fun k => stp q n k i + 1).Nodup := by
    refine List.pairwise_map.2 (List.nodup_range.imp_of_mem fun {a b} ha hb hab h => ?_)
    have key : ∀ a b : Nat, a < b → stp q n a i + 1 = stp q n b i + 1 → False := fun a b hlt h => by
      apply hno
      refine ⟨b - a, by omega, ?_⟩
      have h1 : stp q n a (stp q n (b - a) i) = stp q n a i := by
        rw [stp_add, show b - a + a = b by omega]; omega
      exact stp_inj hg hn (stp_bd hn hi _) hi a h1
    rcases Nat.lt_or_gt_of_ne hab with h' | h'
    · exact key a b h' h
    · exact key b a h' h.symm
  have := nodup_len n.toNat _ hd (fun y hy => by
    obtain ⟨k, _, rfl⟩ := List.mem_map.1 hy
    have := stp_bd (q := q) hn hi k
    omega)
  simp at this
  omega
theorem Orb.symm {q n i j : Int} (hg : Int.gcd q n = 1) (hn : 1 ≤ n) (hi : 0 ≤ i ∧ i < n) (h : Orb q n i j) : Orb q n j i := by
  obtain ⟨k, rfl⟩ := h
  obtain ⟨d, hd, hb⟩ := stp_back hg hn hi
  have h1 : ∀ m, stp q n (d * m) i = i := fun m => by
    induction m with
    | zero => rfl
    | succ m ih => rw [Nat.mul_succ, ← stp_add, ih, hb]
  refine ⟨d * k - k, ?_⟩
  have h2 : k ≤ d * k := Nat.le_mul_of_pos_left k (by omega)
  rw [stp_add, show k + (d * k - k) = d * k by omega, h1]
theorem stp_closed {q n i : Int} {k t : Nat} (ht : t < k) (h : stp q n k i = stp q n t i) : ∀ m, ∃ s, s < k ∧ stp q n m i = stp q n s i
  | 0 => ⟨0, by omega, rfl⟩
  | m + 1 => by
    obtain ⟨s, hs, he⟩ := stp_closed ht h m
    by_cases hsk : s + 1 < k
    · exact ⟨s + 1, hsk, by rw [stp, he, stp]⟩
    · have : s + 1 = k := by omega
      refine ⟨t, ht, ?_⟩
      rw [stp, he, ← h, ← this, stp]
noncomputable def bOrb (q n i j : Int) : Bool := @decide (Orb q n i j) (Classical.propDecidable _)
theorem bOrb_iff {q n i j : Int} : bOrb q n i j = true ↔ Orb q n i j := by unfold bOrb; exact @decide_eq_true_iff _ (Classical.propDecidable _)
noncomputable def cosL (q n i : Int) : List Int := (upI n.toNat).filter (bOrb q n i)
theorem mem_upI {k : Nat} {x : Int} : x ∈ upI k ↔ 0 ≤ x ∧ x < k := by
  unfold upI
  rw [List.mem_map]
  constructor
  · rintro ⟨a, ha, rfl⟩
    have := List.mem_range.1 ha
    omega
  · rintro ⟨h1, h2⟩
    exact ⟨x.toNat, List.mem_range.2 (by omega), by omega⟩
theorem upI_lt (k : Nat) : (upI k).Pairwise (· < ·) := by
  unfold upI
  refine List.pairwise_map.2 (List.pairwise_lt_range.imp fun h => by omega)
theorem mem_cosL {q n i j : Int} (hn : 0 ≤ n) : j ∈ cosL q n i ↔ (0 ≤ j ∧ j < n) ∧ Orb q n i j := by
  unfold cosL
  rw [List.mem_filter, mem_upI, bOrb_iff]
  have : ((n.toNat : Nat) : Int) = n := by omega
  rw [this]
theorem cosL_lt (q n i : Int) : (cosL q n i).Pairwise (· < ·) := (upI_lt _).filter _
theorem asc_eq : ∀ (a b : List Int), a.Pairwise (· < ·) → b.Pairwise (· < ·) → (∀ x, x ∈ a ↔ x ∈ b) → a = b
  | [], [], _, _, _ => rfl
  | [], y :: b, _, _, h => by have := (h y).2 (List.mem_cons_self ..); simp at this
  | x :: a, [], _, _, h => by have := (h x).1 (List.mem_cons_self ..); simp at this
  | x :: a, y :: b, ha, hb, h => by
    obtain ⟨ha1, ha2⟩ := List.pairwise_cons.1 ha
    obtain ⟨hb1, hb2⟩ := List.pairwise_cons.1 hb
    have hxy : x = y := by
      rcases List.mem_cons.1 ((h x).1 (List.mem_cons_self ..)) with h1 | h1
      · exact h1
      · rcases List.mem_cons.1 ((h y).2 (List.mem_cons_self ..)) with h2 | h2
        · exact h2.symm
        · have := hb1 x h1
          have := ha1 y h2
          omega
    subst hxy
    congr 1
    refine asc_eq a b ha2 hb2 fun z => ⟨fun hz => ?_, fun hz => ?_⟩
    · rcases List.mem_cons.1 ((h z).1 (List.mem_cons_of_mem _ hz)) with h1 | h1
      · have := ha1 z hz; omega
      · exact h1
    · rcases List.mem_cons.1 ((h z).2 (List.mem_cons_of_mem _ hz)) with h1 | h1
      · have := hb1 z hz; omega
      · exact h1
def sortI (xs : List Int) : List Int := xs.mergeSort fun x y => decide (x ≤ y)
theorem sortI_perm (xs : List Int) : (sortI xs).Perm xs := List.mergeSort_perm ..
theorem sortI_le (xs : List Int) : (sortI xs).Pairwise (· ≤ ·) := by
  have h := List.pairwise_mergeSort (le := fun x y : Int => decide (x ≤ y)) (fun a b c h1 h2 => by simp at h1 h2 ⊢; omega) (fun a b => by simp; omega) xs
  exact h.imp fun h => by simpa using h
theorem sortI_lt {xs : List Int} (h : xs.Nodup) : (sortI xs).Pairwise (· < ·) := by
  have h1 : (sortI xs).Nodup := (sortI_perm xs).nodup_iff.2 h
  exact (List.pairwise_and_iff.2 ⟨sortI_le xs, h1⟩).imp fun ⟨a, b⟩ => by omega
theorem sortI_length (xs : List Int) : (sortI xs).length = xs.length := (sortI_perm xs).length_eq
theorem sort_orb {q n i : Int} {xs : List Int} (hn : 1 ≤ n) (hi : 0 ≤ i ∧ i < n) (h : xs.Nodup) (hm : ∀ x, x ∈ xs ↔ Orb q n i x) : sortI xs = cosL q n i :=
  asc_eq _ _ (sortI_lt h) (cosL_lt q n i) fun x => by
    rw [(sortI_perm xs).mem_iff, hm, mem_cosL (by omega)]
    constructor
    · intro ho
      obtain ⟨k, rfl⟩ := ho
      exact ⟨stp_bd hn hi k, ⟨k, rfl⟩⟩
    · exact fun h => h.2
def cntF (bs : List Bool) : Nat := (bs.filter (!·)).length
theorem cntF_set : ∀ (bs : List Bool) (j : Nat), j < bs.length → bs.getD j true = false → cntF (bs.set j true) < cntF bs
  | b :: bs, 0, _, h => by
    have : b = false := by simpa using h
    subst this
    simp [cntF]
  | b :: bs, j + 1, hj, h => by
    have := cntF_set bs j (by simpa using hj) (by simpa using h)
    cases b <;> simp [cntF] at this ⊢ <;> omega
theorem getDb_set (bs : List Bool) (i k : Nat) (d v : Bool) : (bs.set i v).getD k d = if i = k ∧ i < bs.length then v else bs.getD k d := by
  simp only [List.getD_eq_getElem?_getD, List.getElem?_set]
  by_cases h1 : i = k
  · subst h1
    by_cases h2 : i < bs.length
    · simp [h2]
    · simp [h2]
  · simp [h1]
noncomputable def bMin (q n i : Int) : Bool := @decide (∀ x, 0 ≤ x → x < i → ¬ Orb q n x i) (Classical.propDecidable _)
theorem bMin_iff {q n i : Int} : bMin q n i = true ↔ ∀ x, 0 ≤ x → x < i → ¬ Orb q n x i := by unfold bMin; exact @decide_eq_true_iff _ (Classical.propDecidable _)
noncomputable def cosAll (q n : Int) (k : Nat) : List (List Int) := ((upI k).filter (bMin q n)).map (cosL q n)
theorem cosAll_yes {q n : Int} {k : Nat} (h : bMin q n k = true) : cosAll q n (k + 1) = cosAll q n k ++ [cosL q n k] := by
  unfold cosAll
  rw [upI_succ, List.filter_append, List.map_append]
  simp [h]
theorem cosAll_no {q n : Int} {k : Nat} (h : bMin q n k = false) : cosAll q n (k + 1) = cosAll q n k := by
  unfold cosAll
  rw [upI_succ, List.filter_append, List.map_append]
  simp [h]
end Go.Proofs.YtgnmcoegdogfgaaGreat

set_option linter.unusedSimpArgs false
set_option linter.unusedVariables false
set_option maxRecDepth 100000
namespace Go.Proofs.YtgnmcoegdogfgaaGreat
open Go.RowKit
theorem slc_Sort_ent : Enters Tryz.prog 150 := enters_of Tryz.func150 (by kernel_rfl) (by kernel_rfl)
theorem slc_Sort (A : Option Addr) (n c : Nat) (xs : List Int) (hn : n = xs.length) (h9 : xs.length ≤ 1000000000) :
    Mut Tryz.prog 150 #[.slice A n c] [ow A 3 c (ints xs)] [] (one (fun v ch => v = .tuple #[] ∧ ch = ow A 3 c (ints (sortI xs)))) := ⟨slc_Sort_ent, fun w hm => by
  subst hn
  have h0 : w.ownsRow 0 3 1 (.slice A (ints xs).length c) (ints xs).length (ints xs) := hm.sat _ (List.mem_cons_self ..)
  have hnd := h0
  rcases h0 with ⟨h1, ⟨h2, h3⟩ | ⟨g, cap, cur, hv, hb, hh, hc, hmx, hs, ht⟩⟩
  · simp only [Value.slice.injEq] at h2
    obtain ⟨rfl, _, rfl⟩ := h2
    have hx : xs = [] := by simpa using h3
    subst hx
    have hsx : sortI [] = [] := List.eq_nil_of_length_eq_zero (by rw [sortI_length]; rfl)
    refine (Tryz.slices_Sort_int_none none 0 w).mono fun e w' ⟨h4, h5⟩ => ?_
    subst h4; subst h5
    exact ⟨_, _, rfl, ⟨_, rfl, rfl, rfl⟩, by rw [hsx]; simpa using hm, ⟨trivial, trivial⟩⟩
  · simp only [Value.slice.injEq] at hv
    obtain ⟨rfl, _, rfl⟩ := hv
    have hlen : (ints xs).length = xs.length := by simp
    rw [hlen, Nat.mul_one] at ht
    rw [hlen] at hc
    have hH := holds_of_blockI (ss := xs) hh (by simpa [ints] using ht)
    have hg : g < w.heap.size := (Array.getElem?_eq_some_iff.1 hh).1
    refine (Tryz.slices_Sort_int g 0 c xs w hH hg (by omega)).mono fun e w' ⟨h4, n, os, h5⟩ => ?_
    subst h4
    have hgr : w.grownBy w' (some g) := by rw [h5]; exact Go.grownBy_sortedI _
    have hown : w'.ownsRow 0 3 1 (.slice (some ⟨g, 0, none⟩) (ints (sortI xs)).length c) (ints (sortI xs)).length (ints (sortI xs)) := by
      have h6 := Go.ownsRow_sortedI (w := w) (base := 0) (g := g) (cap := c) (n := n) (e := 3) (os := os) (cur := cur) (ss := xs) (ts := sortI xs) (sortI_length xs) (Nat.zero_le _) hh hc hmx hs
      have hl2 : (ints (sortI xs)).length = xs.length := by simp [sortI_length]
      rw [h5, hl2]
      exact h6
    refine ⟨_, _, rfl, ⟨_, rfl, rfl, rfl⟩, ?_, ⟨trivial, trivial⟩⟩
    refine (hm.change (c := ow (some ⟨g, 0, none⟩) 3 c (ints xs)) (F := []) (d := ow (some ⟨g, 0, none⟩) 3 c (ints (sortI xs))) trivial ⟨hgr.os, hgr.tape, hgr.output, hgr.size, fun k hk hf => hgr.block k hk (fun e => hf ⟨⟨g, 0, none⟩, rfl, by simpa using e.symm⟩)⟩ hown (fun b hb => .inl hb) : Mem _ w w' _)⟩
end Go.Proofs.YtgnmcoegdogfgaaGreat

set_option linter.unusedSimpArgs false
set_option linter.unusedVariables false
set_option maxRecDepth 100000
namespace Go.Proofs.YtgnmcoegdogfgaaGreat
open Go.RowKit
theorem take_eq_next {α : Type} (d : α) (a b : List α) {k : Nat} (hl : a.length = b.length) (hk : k < a.length) (h : a.take k = b.take k) (he : a.getD k d = b.getD k d) : a.take (k + 1) = b.take (k + 1) := by
  rw [List.take_add_one, List.take_add_one, h, List.getElem?_eq_getElem hk, List.getElem?_eq_getElem (show k < b.length by omega)]
  rw [List.getD_eq_getElem?_getD, List.getElem?_eq_getElem hk, List.getD_eq_getElem?_getD, List.getElem?_eq_getElem (show k < b.length by omega)] at he
  simp only [Option.getD_some] at he
  rw [he]
theorem xs_getD (rs : List RowM) (k : Nat) : (rs.map (·.xs)).getD k [] = (rs.getD k rowD).xs := by
  simp only [List.getD_eq_getElem?_getD, List.getElem?_map]
  cases rs[k]? <;> rfl
theorem ref_SameInts_ent : Enters Tryz.prog 99 := enters_of Tryz.func99 (by kernel_rfl) (by kernel_rfl)
theorem ref_SameInts (A : Option Addr) (n c : Nat) (a : List Int) (hn : n = a.length) (B : Option Addr) (m d : Nat) (b : List Int) (hm : m = b.length) (h9 : a.length ≤ 1000000000000) :
    Pure Tryz.prog 99 #[.slice A n c, .slice B m d] [ro A (ints a), ro B (ints b)] (isV (.bool (decide (a = b)))) := by
  refine pure_of (args := [.slice A n c, .slice B m d]) 26 Tryz.func99 rfl rfl rfl ref_SameInts_ent ⟨id, id, trivial⟩ (fun w0 => ?_)
  refine tr_seq ?_
  refine tr_region fun _ _ _ => ?_
  refine pu rfl rfl rfl rfl rfl ?_
  refine tr_seq ?_
  refine tr_seq ?_
  refine tr_region fun _ _ _ => ?_
  refine pu rfl rfl rfl rfl rfl ?_
  refine st rfl rfl rfl rfl (rLen rfl rfl) ?_
  refine pu rfl rfl rfl rfl rfl ?_
  refine st rfl rfl rfl rfl (rLen rfl rfl) ?_
  refine pu rfl rfl rfl rfl rfl ?_
  refine tr_cond_bool rfl (fun h1 => ?_) (fun h1 => ?_)
  · try simp only [zbA] at h1
    refine tr_seq ?_
    refine tr_region fun _ _ _ => ?_
    refine pu rfl rfl rfl rfl rfl ?_
    exact tr_ret ⟨trivial, _, _, rfl, ⟨by rw [decide_eq_false (fun h => by rw [h] at hn; omega)], rfl⟩, CSub.nil _, trivial⟩
  · try simp only [zbA] at h1
    refine tr_skip ?_
    refine tr_seq ?_
    refine tr_seq ?_
    refine tr_region fun _ _ _ => ?_
    refine pu rfl rfl rfl rfl rfl ?_
    refine tr_block ?_
    refine tr_loop1 (fun (i : Nat) => [(0, .slice A n c), (1, .slice B m d), (5, .int .i64 i)]) (fun (i : Nat) => [ro A (ints a), ro B (ints b)]) (fun (i : Nat) => i ≤ a.length ∧ a.take i = b.take i) (fun (i : Nat) => a.length - i) (0) ⟨rfl, rfl, rfl, trivial⟩ (by first | exact cs _ _ | exact CSub.refl _) (⟨by omega, rfl⟩) (fun i hI => ?_)
    obtain ⟨hi, ht⟩ := hI
    have hll : a.length = b.length := by omega
    refine tr_seq ?_
    refine tr_seq ?_
    refine tr_region fun _ _ _ => ?_
    iterate 2 refine pu rfl rfl rfl rfl rfl ?_
    refine st rfl rfl rfl rfl (rLen rfl rfl) ?_
    refine pu rfl rfl rfl rfl rfl ?_
    refine tr_cond_bool rfl (fun h4 => ?_) (fun h4 => ?_)
    · try simp only [zbA] at h4
      refine tr_skip ?_
      refine tr_seq ?_
      refine tr_block ?_
      refine tr_seq ?_
      refine tr_draw [0, 1, 2, 3, 4, 5, 6, 7, 8] [] mixed (by kernel_rfl) fun _ _ _ => ?_
      iterate 2 refine pu rfl rfl rfl rfl rfl ?_
      refine st rfl rfl rfl rfl (rIdxI rfl rfl rfl (by omega) (by omega) (by omega)) ?_
      refine st rfl rfl rfl rfl (rLdI rfl rfl (by omega)) ?_
      iterate 2 refine pu rfl rfl rfl rfl rfl ?_
      refine st rfl rfl rfl rfl (rIdxI rfl rfl rfl (by omega) (by omega) (by omega)) ?_
      refine st rfl rfl rfl rfl (rLdI rfl rfl (by omega)) ?_
      refine pu rfl rfl rfl rfl rfl ?_
      refine tr_cond_bool rfl (fun h6 => ?_) (fun h6 => ?_)
      · try simp only [zbA] at h6
        refine tr_seq ?_
        refine tr_region fun _ _ _ => ?_
        refine pu rfl rfl rfl rfl rfl ?_
        exact tr_ret ⟨trivial, _, _, rfl, ⟨by rw [decide_eq_false (fun h => h6 (by rw [h]))], rfl⟩, CSub.nil _, trivial⟩
      · try simp only [zbA] at h6
        refine tr_skip ?_
        refine tr_region fun _ _ _ => ?_
        refine pu rfl rfl rfl rfl rfl ?_
        refine st rfl rfl rfl rfl (rAdd rfl rfl rfl (by omega) (by omega)) ?_
        refine pu rfl rfl rfl rfl rfl ?_
        refine ⟨i + 1, ⟨rfl, rfl, rfl, trivial⟩, by first | exact cs _ _ | exact CSub.refl _, ?_⟩
        exact ⟨⟨by omega, take_eq_next 0 a b hll (by omega) ht (by simpa using h6)⟩, by omega⟩
    · try simp only [zbA] at h4
      refine tr_exit ?_
      refine tr_seq ?_
      refine tr_region fun _ _ _ => ?_
      refine pu rfl rfl rfl rfl rfl ?_
      have hia : i = a.length := by omega
      rw [hia, List.take_length, hll, List.take_length] at ht
      exact tr_ret ⟨trivial, _, _, rfl, ⟨by rw [decide_eq_true ht], rfl⟩, CSub.nil _, trivial⟩
theorem ref_SameRows_ent : Enters Tryz.prog 54 := enters_of Tryz.func54 (by kernel_rfl) (by kernel_rfl)
theorem ref_SameRows (A : Option Addr) (n c : Nat) (rs : List RowM) (hn : n = rs.length) (B : Option Addr) (m d : Nat) (qs : List RowM) (hm : m = qs.length) (h9 : rs.length ≤ 1000000000000) (h8 : ∀ r ∈ rs, r.xs.length ≤ 1000000000000) :
    Pure Tryz.prog 54 #[.slice A n c, .slice B m d] [ro A (hdrs rs), rowsR rs, ro B (hdrs qs), rowsR qs] (isV (.bool (decide (rs.map (·.xs) = qs.map (·.xs))))) := by
  refine pure_of (args := [.slice A n c, .slice B m d]) 27 Tryz.func54 rfl rfl rfl ref_SameRows_ent ⟨id, id, id, id, trivial⟩ (fun w0 => ?_)
  refine tr_seq ?_
  refine tr_region fun _ _ _ => ?_
  refine pu rfl rfl rfl rfl rfl ?_
  refine tr_seq ?_
  refine tr_seq ?_
  refine tr_region fun _ _ _ => ?_
  refine pu rfl rfl rfl rfl rfl ?_
  refine st rfl rfl rfl rfl (rLen rfl rfl) ?_
  refine pu rfl rfl rfl rfl rfl ?_
  refine st rfl rfl rfl rfl (rLen rfl rfl) ?_
  refine pu rfl rfl rfl rfl rfl ?_
  refine tr_cond_bool rfl (fun h1 => ?_) (fun h1 => ?_)
  · try simp only [zbA] at h1
    refine tr_seq ?_
    refine tr_region fun _ _ _ => ?_
    refine pu rfl rfl rfl rfl rfl ?_
    exact tr_ret ⟨trivial, _, _, rfl, ⟨by rw [decide_eq_false (fun h => by have := congrArg List.length h; simp at this; omega)], rfl⟩, CSub.nil _, trivial⟩
  · try simp only [zbA] at h1
    refine tr_skip ?_
    refine tr_seq ?_
    refine tr_seq ?_
    refine tr_region fun _ _ _ => ?_
    refine pu rfl rfl rfl rfl rfl ?_
    refine tr_block ?_
    refine tr_loop1 (fun (i : Nat) => [(0, .slice A n c), (1, .slice B m d), (5, .int .i64 i)]) (fun (i : Nat) => [ro A (hdrs rs), rowsR rs, ro B (hdrs qs), rowsR qs]) (fun (i : Nat) => i ≤ rs.length ∧ (rs.map (·.xs)).take i = (qs.map (·.xs)).take i) (fun (i : Nat) => rs.length - i) (0) ⟨rfl, rfl, rfl, trivial⟩ (by first | exact cs _ _ | exact CSub.refl _) (⟨by omega, rfl⟩) (fun i hI => ?_)
    obtain ⟨hi, ht⟩ := hI
    have hll : rs.length = qs.length := by omega
    refine tr_seq ?_
    refine tr_seq ?_
    refine tr_region fun _ _ _ => ?_
    iterate 2 refine pu rfl rfl rfl rfl rfl ?_
    refine st rfl rfl rfl rfl (rLen rfl rfl) ?_
    refine pu rfl rfl rfl rfl rfl ?_
    refine tr_cond_bool rfl (fun h4 => ?_) (fun h4 => ?_)
    · try simp only [zbA] at h4
      refine tr_skip ?_
      refine tr_seq ?_
      refine tr_block ?_
      refine tr_seq ?_
      haveI : InB (i : Int).toNat rs.length := ⟨by omega⟩
      haveI : InB (i : Int).toNat qs.length := ⟨by omega⟩
      have hr8 := h8 _ (getD_mem (show (i : Int).toNat < rs.length by omega) rowD)
      refine tr_draw [0, 1, 2, 3, 4, 5, 6, 7, 8, 9] [] mixed (by kernel_rfl) fun _ _ _ => ?_
      iterate 2 refine pu rfl rfl rfl rfl rfl ?_
      refine st rfl rfl rfl rfl (rIdxR rfl rfl rfl (by omega) (by omega) (by omega)) ?_
      refine st rfl rfl rfl rfl (rLdR rfl rfl (by omega)) ?_
      iterate 2 refine pu rfl rfl rfl rfl rfl ?_
      refine st rfl rfl rfl rfl (rIdxR rfl rfl rfl (by omega) (by omega) (by omega)) ?_
      refine st rfl rfl rfl rfl (rLdR rfl rfl (by omega)) ?_
      refine ef rfl rfl (eCallV rfl rfl rfl (ref_SameInts _ _ _ _ (by first | rfl | simp | omega) _ _ _ _ (by first | rfl | simp | omega) (by omega)) ⟨rfl, rfl, trivial⟩ ?_) 
      refine st rfl rfl rfl rfl (rNotB rfl rfl) ?_
      refine tr_cond_bool rfl (fun h6 => ?_) (fun h6 => ?_)
      · try simp only [zbA] at h6
        refine tr_seq ?_
        refine tr_region fun _ _ _ => ?_
        refine pu rfl rfl rfl rfl rfl ?_
        exact tr_ret ⟨trivial, _, _, rfl, ⟨by rw [decide_eq_false (fun h => by have := congrArg (fun l => l.getD i []) h; simp only [xs_getD] at this; simp only [Int.toNat_natCast] at h6; exact h6 this)], rfl⟩, CSub.nil _, trivial⟩
      · try simp only [zbA] at h6
        refine tr_skip ?_
        refine tr_region fun _ _ _ => ?_
        refine pu rfl rfl rfl rfl rfl ?_
        refine st rfl rfl rfl rfl (rAdd rfl rfl rfl (by omega) (by omega)) ?_
        refine pu rfl rfl rfl rfl rfl ?_
        refine ⟨i + 1, ⟨rfl, rfl, rfl, trivial⟩, by first | exact cs _ _ | exact CSub.refl _, ?_⟩
        exact ⟨⟨by omega, take_eq_next [] _ _ (by simpa using hll) (by rw [List.length_map]; omega) ht (by rw [xs_getD, xs_getD]; simpa using h6)⟩, by omega⟩
    · try simp only [zbA] at h4
      refine tr_exit ?_
      refine tr_seq ?_
      refine tr_region fun _ _ _ => ?_
      refine pu rfl rfl rfl rfl rfl ?_
      have hia : i = rs.length := by omega
      have h5 : (rs.map (fun r : RowM => r.xs)).length = i := by rw [List.length_map]; omega
      have h7 : (qs.map (fun r : RowM => r.xs)).length = i := by rw [List.length_map]; omega
      rw [List.take_of_length_le (by omega), List.take_of_length_le (by omega)] at ht
      exact tr_ret ⟨trivial, _, _, rfl, ⟨by rw [decide_eq_true ht], rfl⟩, CSub.nil _, trivial⟩
theorem slc_IndexFunc_ent : Enters Tryz.prog 166 := enters_of Tryz.func166 (by kernel_rfl) (by kernel_rfl)
theorem slc_IndexFunc (A : Option Addr) (n c : Nat) (xs : List Int) (hn : n = xs.length) (h9 : xs.length ≤ 1000000000000) (f : FuncId) (lb : List Value) (Gc : List Chunk) (φ : Int → Bool) (hf : ∀ x ∈ xs, Pure Tryz.prog f ([Value.int .i64 x] ++ lb).toArray Gc (isV (.bool (φ x)))) :
    Pure Tryz.prog 166 #[.slice A n c, .func (.func f) #[] lb.toArray] [ro A (ints xs), bun Gc] (val (fun v => ∃ r : Int, v = .int .i64 r ∧ (r ≥ 0 ↔ xs.any φ = true))) := by
  refine pure_of (args := [.slice A n c, .func (.func f) #[] lb.toArray]) 19 Tryz.func166 rfl rfl rfl slc_IndexFunc_ent ⟨id, id, trivial⟩ (fun w0 => ?_)
  refine tr_seq ?_
  refine tr_region fun _ _ _ => ?_
  refine pu rfl rfl rfl rfl rfl ?_
  refine tr_seq ?_
  refine tr_seq ?_
  refine tr_region fun _ _ _ => ?_
  refine pu rfl rfl rfl rfl rfl ?_
  refine st rfl rfl rfl rfl (rLen rfl rfl) ?_
  refine pu rfl rfl rfl rfl rfl ?_
  refine tr_block ?_
  refine tr_loop1 (fun (i : Nat) => [(0, .slice A n c), (1, .func (.func f) #[] lb.toArray), (7, .int .i64 n), (8, .int .i64 i)]) (fun (i : Nat) => [ro A (ints xs), bun Gc]) (fun (i : Nat) => i ≤ xs.length ∧ ∀ x ∈ xs.take i, φ x = false) (fun (i : Nat) => xs.length - i) (0) ⟨rfl, rfl, rfl, rfl, trivial⟩ (by first | exact cs _ _ | exact CSub.refl _) (⟨by omega, fun x hx => by simp at hx⟩) (fun i hI => ?_)
  obtain ⟨hi, hno⟩ := hI
  refine tr_seq ?_
  refine tr_region fun _ _ _ => ?_
  refine pu rfl rfl rfl rfl rfl ?_
  refine tr_seq ?_
  refine tr_cond_bool rfl (fun h2 => ?_) (fun h2 => ?_)
  · try simp only [zbA] at h2
    refine tr_skip ?_
    refine tr_seq ?_
    refine tr_block ?_
    refine tr_seq ?_
    refine tr_region fun _ _ _ => ?_
    iterate 2 refine pu rfl rfl rfl rfl rfl ?_
    refine tr_seq ?_
    have hmem : xs.getD (i : Int).toNat 0 ∈ xs := getD_mem (show (i : Int).toNat < xs.length by omega) 0
    refine tr_region fun _ _ _ => ?_
    iterate 3 refine pu rfl rfl rfl rfl rfl ?_
    refine st rfl rfl rfl rfl (rIdxI rfl rfl rfl (by omega) (by omega) (by omega)) ?_
    refine st rfl rfl rfl rfl (rLdI rfl rfl (by omega)) ?_
    refine ef rfl rfl (eCallFV rfl rfl rfl rfl (hf _ hmem) ⟨rfl, trivial⟩ ent_bun ?_) 
    refine tr_cond_bool rfl (fun h4 => ?_) (fun h4 => ?_)
    · try simp only [zbA] at h4
      refine tr_seq ?_
      refine tr_region fun _ _ _ => ?_
      iterate 2 refine pu rfl rfl rfl rfl rfl ?_
      exact tr_ret ⟨trivial, _, _, rfl, ⟨rfl, _, rfl, ⟨fun _ => List.any_eq_true.2 ⟨_, hmem, h4⟩, fun _ => by omega⟩⟩, CSub.nil _, trivial⟩
    · try simp only [zbA] at h4
      refine tr_skip ?_
      refine tr_region fun _ _ _ => ?_
      refine st rfl rfl rfl rfl (rAdd rfl rfl rfl (by omega) (by omega)) ?_
      refine pu rfl rfl rfl rfl rfl ?_
      refine ⟨i + 1, ⟨rfl, rfl, rfl, rfl, trivial⟩, by first | exact cs _ _ | exact CSub.refl _, ?_⟩
      refine ⟨⟨by omega, fun x hx => ?_⟩, by omega⟩
      rw [List.take_add_one, List.mem_append] at hx
      rcases hx with hx | hx
      · exact hno x hx
      · rw [List.getElem?_eq_getElem (by omega)] at hx
        simp only [Option.toList_some, List.mem_singleton] at hx
        rw [hx]
        have : xs.getD (i : Int).toNat 0 = xs[i] := by simp [List.getD_eq_getElem?_getD, show i < xs.length by omega]
        rw [this] at h4
        exact h4
  · try simp only [zbA] at h2
    refine tr_exit ?_
    refine tr_seq ?_
    refine tr_region fun _ _ _ => ?_
    refine pu rfl rfl rfl rfl rfl ?_
    have hin : i = xs.length := by omega
    rw [hin, List.take_length] at hno
    exact tr_ret ⟨trivial, _, _, rfl, ⟨rfl, _, rfl, ⟨fun h => absurd h (by decide), fun h => by
      obtain ⟨x, hx, hp⟩ := List.any_eq_true.1 h
      rw [hno x hx] at hp; cases hp⟩⟩, CSub.nil _, trivial⟩
theorem slc_ContainsFunc_ent : Enters Tryz.prog 117 := enters_of Tryz.func117 (by kernel_rfl) (by kernel_rfl)
theorem slc_ContainsFunc (A : Option Addr) (n c : Nat) (xs : List Int) (hn : n = xs.length) (h9 : xs.length ≤ 1000000000000) (f : FuncId) (lb : List Value) (Gc : List Chunk) (φ : Int → Bool) (hf : ∀ x ∈ xs, Pure Tryz.prog f ([Value.int .i64 x] ++ lb).toArray Gc (isV (.bool (φ x)))) :
    Pure Tryz.prog 117 #[.slice A n c, .func (.func f) #[] lb.toArray] [ro A (ints xs), bun Gc] (isV (.bool (xs.any φ))) := by
  refine pure_of (args := [.slice A n c, .func (.func f) #[] lb.toArray]) 9 Tryz.func117 rfl rfl rfl slc_ContainsFunc_ent ⟨id, id, trivial⟩ (fun w0 => ?_)
  refine tr_seq ?_
  refine tr_region fun _ _ _ => ?_
  refine pu rfl rfl rfl rfl rfl ?_
  refine tr_seq ?_
  refine tr_region fun _ _ _ => ?_
  iterate 2 refine pu rfl rfl rfl rfl rfl ?_
  refine ef rfl rfl (eCall0 rfl rfl rfl (slc_IndexFunc A n c xs hn h9 f lb Gc φ hf) ⟨rfl, rfl, trivial⟩ ?_) 
  rintro _ ⟨r, rfl, hr⟩
  iterate 2 refine pu rfl rfl rfl rfl rfl ?_
  exact tr_ret ⟨trivial, _, _, rfl, ⟨by cases hx : xs.any φ <;> simp [hx] at hr ⊢ <;> omega, rfl⟩, CSub.nil _, trivial⟩
end Go.Proofs.YtgnmcoegdogfgaaGreat

set_option linter.unusedSimpArgs false
set_option linter.unusedVariables false
set_option maxRecDepth 100000
namespace Go.Proofs.YtgnmcoegdogfgaaGreat
open Go.RowKit
theorem cosAll_length (q n : Int) (k : Nat) : (cosAll q n k).length ≤ k := by
  unfold cosAll
  rw [List.length_map]
  have := List.length_filter_le (bMin q n) (upI k)
  rwa [upI_length] at this
theorem rep_false (m k : Nat) : (List.replicate m false).getD k false = false := by
  rw [List.getD_eq_getElem?_getD, List.getElem?_replicate]; split <;> rfl
theorem unseen_min {q n : Int} {k : Nat} {bs : List Bool} (hk : (k : Int) < n) (hm : ∀ x : Int, 0 ≤ x → x < n → (bs.getD x.toNat false = true ↔ ∃ y : Int, 0 ≤ y ∧ y < k ∧ Orb q n y x)) : bs.getD k false = false ↔ bMin q n k = true := by
  rw [bMin_iff]
  have h1 := hm k (by omega) hk
  simp only [Int.toNat_natCast] at h1
  constructor
  · intro h x hx hxk ho
    rw [h1.2 ⟨x, hx, hxk, ho⟩] at h; cases h
  · intro h
    refine Bool.eq_false_iff.2 fun h2 => ?_
    obtain ⟨y, a, b, c⟩ := h1.1 h2
    exact h y a b c
theorem cyc_Cosets_ent : Enters Tryz.prog 148 := enters_of Tryz.func148 (by kernel_rfl) (by kernel_rfl)
theorem cyc_Cosets (q n : Int) (hq : 2 ≤ q) (hq2 : q ≤ 256) (hn : 1 ≤ n) (hn2 : n ≤ 65536) (hg : Int.gcd q n = 1) :
    Pure Tryz.prog 148 #[.int .i64 q, .int .i64 n] [] (two (isRowsE 22 3 (cosAll q n n.toNat))) := by
  have hgg : (Int.gcd q n : Int) = 1 := by omega
  refine pure_of (args := [.int .i64 q, .int .i64 n]) 71 Tryz.func148 rfl rfl rfl cyc_Cosets_ent trivial (fun w0 => ?_)
  refine tr_seq ?_
  refine tr_region fun _ _ _ => ?_
  iterate 2 refine pu rfl rfl rfl rfl rfl ?_
  refine tr_seq ?_
  refine tr_seq ?_
  refine tr_region fun _ _ _ => ?_
  iterate 3 refine pu rfl rfl rfl rfl rfl ?_
  refine stg rfl rfl rfl rfl rfl (fun hb => by (have hq := hb; try simp only [zbA] at hq); exact rMove rfl rfl) ?_
  refine stg rfl rfl rfl rfl rfl (fun hb => by (have hq := hb; try simp only [zbA] at hq); exact rGtr rfl (evg rfl hb) rfl) ?_
  refine st rfl rfl rfl rfl (rOrB rfl rfl rfl rfl) ?_
  refine pu rfl rfl rfl rfl rfl ?_
  refine stg rfl rfl rfl rfl rfl (fun hb => by (have hq := hb; try simp only [zbA] at hq); exact rMove rfl rfl) ?_
  refine stg rfl rfl rfl rfl rfl (fun hb => by (have hq := hb; try simp only [zbA] at hq); exact rLss rfl (evg rfl hb) rfl) ?_
  refine st rfl rfl rfl rfl (rOrB rfl rfl rfl rfl) ?_
  refine pu rfl rfl rfl rfl rfl ?_
  refine stg rfl rfl rfl rfl rfl (fun hb => by (have hq := hb; try simp only [zbA] at hq); exact rMove rfl rfl) ?_
  refine stg rfl rfl rfl rfl rfl (fun hb => by (have hq := hb; try simp only [zbA] at hq); exact rGtr rfl (evg rfl hb) rfl) ?_
  refine st rfl rfl rfl rfl (rOrB rfl rfl rfl rfl) ?_
  refine tr_cond_bool rfl (fun h1 => ?_) (fun h1 => ?_)
  · try simp only [zbA] at h1
    omega --done
  · try simp only [zbA] at h1
    refine tr_skip ?_
    refine tr_seq ?_
    refine tr_seq ?_
    refine tr_region fun _ _ _ => ?_
    iterate 2 refine pu rfl rfl rfl rfl rfl ?_
    refine ef rfl rfl (eCallV rfl rfl rfl (num_Gcd q n (by omega) (by omega) (by omega) (by omega)) ⟨rfl, rfl, trivial⟩ ?_) 
    iterate 5 refine pu rfl rfl rfl rfl rfl ?_
    refine tr_seq ?_
    refine tr_region fun _ _ _ => ?_
    iterate 2 refine pu rfl rfl rfl rfl rfl ?_
    refine tr_cond_bool rfl (fun h4 => ?_) (fun h4 => ?_)
    · try simp only [zbA] at h4
      omega --done
    · try simp only [zbA] at h4
      refine tr_skip ?_
      refine tr_seq ?_
      refine tr_region fun _ _ _ => ?_
      refine pu rfl rfl rfl rfl rfl ?_
      refine tr_seq ?_
      refine tr_region fun _ _ _ => ?_
      refine pu rfl rfl rfl rfl rfl ?_
      refine ef rfl rfl (eMakeB rfl rfl rfl rfl rfl (by omega) (by omega) (by omega) (fun A7 => ?_)) 
      refine pu rfl rfl rfl rfl rfl ?_
      refine tr_seq ?_
      refine tr_seq ?_
      refine tr_region fun _ _ _ => ?_
      iterate 2 refine pu rfl rfl rfl rfl rfl ?_
      refine tr_block ?_
      refine tr_nilR 22 3 ?_
      refine tr_loop5 (fun (i : Nat) (A8 : Option Addr) (c8 : Nat) (rs : List RowM) (bs : List Bool) => [(0, .int .i64 q), (1, .int .i64 n), (8, .slice A8 rs.length c8), (9, .slice A7 n.toNat n.toNat), (37, .int .i64 n), (38, .int .i64 i)]) (fun (i : Nat) (A8 : Option Addr) (c8 : Nat) (rs : List RowM) (bs : List Bool) => [ow A8 22 c8 (hdrs rs), rowsCh 3 rs, ow A7 4 n.toNat (bools bs)]) (fun (i : Nat) (A8 : Option Addr) (c8 : Nat) (rs : List RowM) (bs : List Bool) => (i : Int) ≤ n ∧ rs.map (·.xs) = cosAll q n i ∧ (bs.length : Int) = n ∧ ∀ x : Int, 0 ≤ x → x < n → (bs.getD x.toNat false = true ↔ ∃ y : Int, 0 ≤ y ∧ y < (i : Int) ∧ Orb q n y x)) (fun (i : Nat) (A8 : Option Addr) (c8 : Nat) (rs : List RowM) (bs : List Bool) => n.toNat - i) (0) (none) (0) ([]) (List.replicate n.toNat false) ⟨rfl, rfl, rfl, rfl, rfl, rfl, trivial⟩ (by first | exact cs _ _ | exact CSub.refl _) (⟨by omega, rfl, by simp; omega, fun x hx _ => ⟨fun h => by (rw [rep_false] at h; cases h), fun ⟨y, a, b, _⟩ => by (simp at b; omega)⟩⟩) (fun i A8 c8 rs bs hI => ?_)
      obtain ⟨hi1, hrs, hbl, hseen⟩ := hI
      have hrl : rs.length ≤ i := by have := congrArg List.length hrs; rw [List.length_map] at this; have := cosAll_length q n i; omega
      refine tr_seq ?_
      refine tr_region fun _ _ _ => ?_
      refine pu rfl rfl rfl rfl rfl ?_
      refine tr_seq ?_
      refine tr_cond_bool rfl (fun h9 => ?_) (fun h9 => ?_)
      · try simp only [zbA] at h9
        refine tr_skip ?_
        refine tr_seq ?_
        refine tr_block ?_
        refine tr_seq ?_
        refine tr_region fun _ _ _ => ?_
        iterate 2 refine pu rfl rfl rfl rfl rfl ?_
        refine tr_seq ?_
        refine tr_seq ?_
        refine tr_region fun _ _ _ => ?_
        iterate 2 refine pu rfl rfl rfl rfl rfl ?_
        refine st rfl rfl rfl rfl (rIdxB rfl rfl rfl (by omega) (by omega) (by omega)) ?_
        refine st rfl rfl rfl rfl (rLdB rfl rfl (by omega)) ?_
        refine tr_cond_bool rfl (fun h11 => ?_) (fun h11 => ?_)
        · try simp only [zbA] at h11
          refine tr_exit ?_
          refine tr_region fun _ _ _ => ?_
          refine st rfl rfl rfl rfl (rAdd rfl rfl rfl (by omega) (by omega)) ?_
          refine pu rfl rfl rfl rfl rfl ?_
          refine ⟨i + 1, A8, c8, rs, bs, ⟨rfl, rfl, rfl, rfl, rfl, rfl, trivial⟩, by first | exact cs _ _ | exact CSub.refl _, ?_⟩
          have hmin : bMin q n i = false := Bool.eq_false_iff.2 fun h => by
            have := (unseen_min (by omega) hseen).2 h
            have h12 : bs.getD i false = true := by simpa using h11
            rw [h12] at this; cases this
          refine ⟨⟨by omega, by rw [cosAll_no hmin, hrs], hbl, fun x hx hxn => ?_⟩, by omega⟩
          rw [hseen x hx hxn]
          constructor
          · rintro ⟨y, a, b, c⟩; exact ⟨y, a, by omega, c⟩
          · rintro ⟨y, a, b, c⟩
            by_cases hyi : y = i
            · have h12 : bs.getD (i : Int).toNat false = true := h11
              obtain ⟨z, d, e, f⟩ := (hseen i (by omega) (by omega)).1 h12
              exact ⟨z, d, e, f.trans (hyi ▸ c)⟩
            · exact ⟨y, a, by omega, c⟩
        · try simp only [zbA] at h11
          refine tr_skip ?_
          refine tr_seq ?_
          refine tr_region fun _ _ _ => ?_
          refine pu rfl rfl rfl rfl rfl ?_
          refine tr_seq ?_
          refine tr_seq ?_
          refine tr_region fun _ _ _ => ?_
          iterate 2 refine pu rfl rfl rfl rfl rfl ?_
          refine tr_block ?_
          refine tr_nil 3 ?_
          refine tr_loop5 (fun (k : Nat) (A11 : Option Addr) (c11 : Nat) (xs : List Int) (bs2 : List Bool) => [(0, .int .i64 q), (1, .int .i64 n), (8, .slice A8 rs.length c8), (9, .slice A7 n.toNat n.toNat), (37, .int .i64 n), (38, .int .i64 i), (10, .int .i64 i), (11, .slice A11 xs.length c11), (12, .int .i64 (stp q n k i))]) (fun (k : Nat) (A11 : Option Addr) (c11 : Nat) (xs : List Int) (bs2 : List Bool) => [ow A11 3 c11 (ints xs), ow A8 22 c8 (hdrs rs), rowsCh 3 rs, ow A7 4 n.toNat (bools bs2)]) (fun (k : Nat) (A11 : Option Addr) (c11 : Nat) (xs : List Int) (bs2 : List Bool) => (bs2.length : Int) = n ∧ xs.length = k ∧ k ≤ n.toNat ∧ xs.Nodup ∧ (∀ x, x ∈ xs ↔ ∃ t, t < k ∧ x = stp q n t i) ∧ ∀ x : Int, 0 ≤ x → x < n → (bs2.getD x.toNat false = true ↔ bs.getD x.toNat false = true ∨ x ∈ xs)) (fun (k : Nat) (A11 : Option Addr) (c11 : Nat) (xs : List Int) (bs2 : List Bool) => cntF bs2) (0) (none) (0) ([]) (bs) ⟨rfl, rfl, rfl, rfl, rfl, rfl, rfl, rfl, rfl, trivial⟩ (by first | exact cs _ _ | exact CSub.refl _) (⟨hbl, rfl, by omega, List.nodup_nil, fun x => by simp, fun x _ _ => by simp⟩) (fun k A11 c11 xs bs2 hI => ?_)
          obtain ⟨hbl2, hxl, hkn, hnd, hx2, hb2⟩ := hI
          have hb := stp_bd (q := q) hn ⟨show (0 : Int) ≤ i by omega, by omega⟩ k
          have hmul := mul_bd0 (stp q n k i) q 65536 256 (by omega) (by omega) (by omega) (by omega)
          refine tr_seq ?_
          refine tr_seq ?_
          refine tr_region fun _ _ _ => ?_
          iterate 2 refine pu rfl rfl rfl rfl rfl ?_
          refine st rfl rfl rfl rfl (rIdxB rfl rfl rfl (by omega) (by omega) (by omega)) ?_
          refine st rfl rfl rfl rfl (rLdB rfl rfl (by omega)) ?_
          refine st rfl rfl rfl rfl (rNotB rfl rfl) ?_
          refine tr_cond_bool rfl (fun h14 => ?_) (fun h14 => ?_)
          · try simp only [zbA] at h14
            refine tr_skip ?_
            refine tr_seq ?_
            refine tr_block ?_
            refine tr_seq ?_
            refine tr_region fun _ _ _ => ?_
            iterate 2 refine pu rfl rfl rfl rfl rfl ?_
            refine st rfl rfl rfl rfl (rIdxB rfl rfl rfl (by omega) (by omega) (by omega)) ?_
            refine ef rfl rfl (eStB rfl rfl rfl rfl (by omega) ?_) 
            refine tr_region fun _ _ _ => ?_
            iterate 2 refine pu rfl rfl rfl rfl rfl ?_
            refine ef rfl rfl (eLit1I rfl rfl rfl rfl (fun A17 => ?_)) 
            refine ef rfl rfl (eAppI rfl rfl rfl rfl rfl (by first | rfl | simp) (by first | rfl | simp) (by first | omega | (simp; omega)) (fun A17a c17a => ?_)) 
            refine pu rfl rfl rfl rfl rfl ?_
            refine tr_region fun _ _ _ => ?_
            iterate 2 refine pu rfl rfl rfl rfl rfl ?_
            refine st rfl rfl rfl rfl (rMul rfl rfl rfl (by omega) (by omega)) ?_
            refine pu rfl rfl rfl rfl rfl ?_
            refine st rfl rfl rfl rfl (rRem rfl rfl rfl (by omega) (by omega)) ?_
            refine pu rfl rfl rfl rfl rfl ?_
            refine ⟨k + 1, A17a, c17a, xs ++ [stp q n k i], bs2.set (stp q n k i).toNat true, ⟨rfl, rfl, rfl, rfl, rfl, rfl, rfl, rfl, rfl, trivial⟩, by first | exact cs _ _ | exact CSub.refl _, ?_⟩
            have hfree : bs2.getD (stp q n k i).toNat false = false := by simpa using h14
            have hnx : stp q n k i ∉ xs := fun h => by rw [(hb2 _ hb.1 hb.2).2 (.inr h)] at hfree; cases hfree
            have hnd2 : (xs ++ [stp q n k i]).Nodup := by
              rw [List.nodup_append]
              exact ⟨hnd, by simp, fun a ha b hb => by simp only [List.mem_singleton] at hb; subst hb; exact fun e => hnx (e ▸ ha)⟩
            refine ⟨⟨by simpa using hbl2, by simp [hxl], ?_, hnd2, fun x => ?_, fun x hx hxn => ?_⟩, cntF_set _ _ (by omega) ?_⟩
            · have := nodup_len n.toNat ((xs ++ [stp q n k i]).map (· + 1)) (List.pairwise_map.2 (hnd2.imp fun h e => h (by omega))) (fun y hy => by
                obtain ⟨z, hz, rfl⟩ := List.mem_map.1 hy
                have hzb : 0 ≤ z ∧ z < n := by
                  rcases List.mem_append.1 hz with h | h
                  · obtain ⟨t, _, rfl⟩ := (hx2 z).1 h
                    exact stp_bd hn ⟨by omega, by omega⟩ t
                  · simp only [List.mem_singleton] at h; subst h; exact hb
                omega)
              simp at this; omega
            · rw [List.mem_append, hx2 x, List.mem_singleton]
              constructor
              · rintro (⟨t, ht, he⟩ | h)
                · exact ⟨t, by omega, he⟩
                · exact ⟨k, by omega, h⟩
              · rintro ⟨t, ht, he⟩
                rcases Nat.lt_or_ge t k with h | h
                · exact .inl ⟨t, h, he⟩
                · right; rw [he, show t = k by omega]
            · rw [getDb_set]
              by_cases hxe : (stp q n k i).toNat = x.toNat
              · rw [if_pos ⟨hxe, by omega⟩]
                have : x = stp q n k i := by omega
                simp [this]
              · rw [if_neg (by omega), hb2 x hx hxn]
                have : x ≠ stp q n k i := fun e => hxe (by rw [e])
                simp [this]
            · rw [List.getD_eq_getElem?_getD, List.getElem?_eq_getElem (by omega)] at hfree ⊢
              exact hfree
          · try simp only [zbA] at h14
            refine tr_exit ?_
            refine tr_seq ?_
            have hjx : stp q n k i ∈ xs := by
              have h15 : bs2.getD (stp q n k i).toNat false = true := by simpa using h14
              rcases (hb2 _ hb.1 hb.2).1 h15 with h | h
              · exfalso
                obtain ⟨y, a, b, c⟩ := (hseen _ hb.1 hb.2).1 h
                have ho : Orb q n i (stp q n k i) := ⟨k, rfl⟩
                have h16 := (hseen i (by omega) (by omega)).2 ⟨y, a, b, c.trans (ho.symm hg hn ⟨by omega, by omega⟩)⟩
                rw [h16] at h11; cases h11
              · exact h
            have hsl := sortI_length xs
            refine tr_region fun _ _ _ => ?_
            refine pu rfl rfl rfl rfl rfl ?_
            refine ef rfl rfl (eCallM1 rfl rfl rfl (slc_Sort A11 _ c11 xs rfl (by omega)) ⟨rfl, trivial⟩ ?_) 
            rintro _ _ ⟨rfl, rfl⟩
            rw [← hsl]
            refine tr_region fun _ _ _ => ?_
            iterate 2 refine pu rfl rfl rfl rfl rfl ?_
            refine ef rfl rfl (eLit1 rfl rfl rfl rfl rfl (fun A19 => ?_)) 
            refine ef rfl rfl (eAppR rfl rfl rfl rfl rfl (by first | rfl | simp) (by omega) (fun A19a c19a => ?_)) 
            refine pu rfl rfl rfl rfl rfl ?_
            refine tr_region fun _ _ _ => ?_
            refine st rfl rfl rfl rfl (rAdd rfl rfl rfl (by omega) (by omega)) ?_
            refine pu rfl rfl rfl rfl rfl ?_
            refine ⟨i + 1, A19a, c19a, rs ++ [⟨A11, c11, sortI xs⟩], bs2, ⟨rfl, rfl, rfl, rfl, rfl, rfl, trivial⟩, by exact rows_app, ?_⟩
            have hmin : bMin q n i = true := (unseen_min (by omega) hseen).1 (by simpa using h11)
            have hxo : ∀ x, x ∈ xs ↔ Orb q n i x := fun x => by
              rw [hx2 x]
              constructor
              · rintro ⟨t, _, rfl⟩; exact ⟨t, rfl⟩
              · rintro ⟨m, rfl⟩
                obtain ⟨t, ht, he⟩ := (hx2 _).1 hjx
                obtain ⟨s, hs, he2⟩ := stp_closed ht he m
                exact ⟨s, hs, he2⟩
            have hso := sort_orb (q := q) hn ⟨by omega, by omega⟩ hnd hxo
            refine ⟨⟨by omega, ?_, hbl2, fun x hx hxn => ?_⟩, by omega⟩
            · rw [cosAll_yes hmin, List.map_append, hrs, List.map_cons, List.map_nil, hso]
            · rw [hb2 x hx hxn, hxo, hseen x hx hxn]
              constructor
              · rintro (⟨y, a, b, c⟩ | h)
                · exact ⟨y, a, by omega, c⟩
                · exact ⟨i, by omega, by omega, h⟩
              · rintro ⟨y, a, b, c⟩
                by_cases hyi : y = i
                · right; rw [← hyi]; exact c
                · left; exact ⟨y, a, by omega, c⟩
      · try simp only [zbA] at h9
        refine tr_exit ?_
        refine tr_seq ?_
        refine tr_region fun _ _ _ => ?_
        iterate 3 refine pu rfl rfl rfl rfl rfl ?_
        have hin : i = n.toNat := by omega
        exact tr_ret ⟨trivial, _, _, rfl, ⟨_, _, rfl, A8, c8, rs, rfl, rfl, rfl, by rw [hrs, hin]⟩, cs _ _, trivial, trivial, trivial⟩
end Go.Proofs.YtgnmcoegdogfgaaGreat

set_option linter.unusedSimpArgs false
set_option linter.unusedVariables false
namespace Go.Proofs.YtgnmcoegdogfgaaGreat
theorem nodup_inj {l : List Int} (h : l.Nodup) {i j : Nat} (hi : i < l.length) (hj : j < l.length) (e : l[i] = l[j]) : i = j := by
  have h1 := List.pairwise_iff_getElem.1 h
  rcases Nat.lt_trichotomy i j with h2 | h2 | h2
  · exact absurd e (h1 i j hi hj h2)
  · exact h2
  · exact absurd e.symm (h1 j i hj hi h2)
noncomputable def reps (q n : Int) : List Int := (upI n.toNat).filter (bMin q n)
theorem reps_nodup (q n : Int) : (reps q n).Nodup := ((upI_lt _).imp fun h => by omega).filter _
theorem mem_reps {q n r : Int} (hn : 1 ≤ n) : r ∈ reps q n ↔ (0 ≤ r ∧ r < n) ∧ bMin q n r = true := by
  unfold reps
  rw [List.mem_filter, mem_upI]
  have : ((n.toNat : Nat) : Int) = n := by omega
  rw [this]
noncomputable def rowK (q n : Int) (k : Nat) : List Int := (cosAll q n n.toNat).getD k []
theorem row_rep {q n : Int} {k : Nat} (h : k < (cosAll q n n.toNat).length) : k < (reps q n).length ∧ rowK q n k = cosL q n ((reps q n).getD k 0) := by
  have h1 : k < (reps q n).length := by simpa [cosAll, reps] using h
  refine ⟨h1, ?_⟩
  unfold rowK
  rw [List.getD_eq_getElem?_getD, List.getElem?_eq_getElem h, List.getD_eq_getElem?_getD, List.getElem?_eq_getElem h1]
  simp [cosAll, reps]
theorem row_in {q n : Int} (hn : 1 ≤ n) {k : Nat} (h : k < (cosAll q n n.toNat).length) {x : Int} (hx : x ∈ rowK q n k) : 0 ≤ x ∧ x < n := by
  rw [(row_rep h).2] at hx
  exact ((mem_cosL (by omega)).1 hx).1
theorem row_nodup {q n : Int} {k : Nat} (h : k < (cosAll q n n.toNat).length) : (rowK q n k).Nodup := by
  rw [(row_rep h).2]
  exact (cosL_lt q n _).imp fun h => by omega
theorem row_mul {q n : Int} (hn : 1 ≤ n) {k : Nat} (h : k < (cosAll q n n.toNat).length) {x : Int} (hx : x ∈ rowK q n k) : x * q % n ∈ rowK q n k := by
  rw [(row_rep h).2] at hx ⊢
  obtain ⟨_, m, rfl⟩ := (mem_cosL (by omega)).1 hx
  exact (mem_cosL (by omega)).2 ⟨⟨Int.emod_nonneg _ (by omega), Int.emod_lt_of_pos _ (by omega)⟩, m + 1, rfl⟩
theorem rep_bd {q n : Int} (hn : 1 ≤ n) {k : Nat} (h : k < (reps q n).length) : (0 ≤ (reps q n).getD k 0 ∧ (reps q n).getD k 0 < n) ∧ bMin q n ((reps q n).getD k 0) = true := by
  refine (mem_reps hn).1 ?_
  rw [List.getD_eq_getElem?_getD, List.getElem?_eq_getElem h]
  exact List.getElem_mem h
theorem row_one {q n : Int} (hg : Int.gcd q n = 1) (hn : 1 ≤ n) {k k' : Nat} (h : k < (cosAll q n n.toNat).length) (h' : k' < (cosAll q n n.toNat).length) {x : Int} (hx : x ∈ rowK q n k) (hx' : x ∈ rowK q n k') : k = k' := by
  obtain ⟨a1, a2⟩ := row_rep h
  obtain ⟨b1, b2⟩ := row_rep h'
  rw [a2] at hx
  rw [b2] at hx'
  obtain ⟨c1, c2⟩ := rep_bd hn a1
  obtain ⟨d1, d2⟩ := rep_bd hn b1
  have h1 := ((mem_cosL (by omega)).1 hx).2
  have h2 := ((mem_cosL (by omega)).1 hx').2
  have h3 := h1.trans (h2.symm hg hn d1)
  have h4 := h3.symm hg hn c1
  have he : (reps q n).getD k 0 = (reps q n).getD k' 0 := by
    rcases Int.lt_trichotomy ((reps q n).getD k 0) ((reps q n).getD k' 0) with h5 | h5 | h5
    · exact absurd h3 (bMin_iff.1 d2 _ c1.1 h5)
    · exact h5
    · exact absurd h4 (bMin_iff.1 c2 _ d1.1 h5)
  rw [List.getD_eq_getElem?_getD, List.getElem?_eq_getElem a1, List.getD_eq_getElem?_getD, List.getElem?_eq_getElem b1] at he
  simp only [Option.getD_some] at he
  exact nodup_inj (reps_nodup q n) a1 b1 he
theorem row_all {q n : Int} (hn : 1 ≤ n) {x : Int} (hx : 0 ≤ x ∧ x < n) : ∃ k, k < (cosAll q n n.toNat).length ∧ x ∈ rowK q n k := by
  -- the least number whose orbit holds x
  have hex : ∃ y : Nat, Orb q n y x := ⟨x.toNat, by rw [Int.toNat_of_nonneg hx.1]; exact Orb.refl _ _ _⟩
  obtain ⟨y, hy, hmin⟩ : ∃ y : Nat, Orb q n y x ∧ ∀ z, z < y → ¬ Orb q n (z : Int) x := by
    obtain ⟨y, hy⟩ := hex
    induction y using Nat.strongRecOn with
    | _ y ih =>
      by_cases h1 : ∃ z, z < y ∧ Orb q n (z : Int) x
      · obtain ⟨z, h2, h3⟩ := h1
        exact ih z h2 h3
      · exact ⟨y, hy, fun z hz ho => h1 ⟨z, hz, ho⟩⟩
  have hyx : (y : Int) ≤ x := by
    rcases Int.lt_or_le x y with h | h
    · exact absurd (by rw [Int.toNat_of_nonneg hx.1]; exact Orb.refl _ _ _) (hmin x.toNat (by omega))
    · exact h
  have hm : (y : Int) ∈ reps q n := (mem_reps hn).2 ⟨⟨by omega, by omega⟩, bMin_iff.2 fun z h1 h2 ho => hmin z.toNat (by omega) (by rw [Int.toNat_of_nonneg h1]; exact ho.trans hy)⟩
  obtain ⟨k, hk, he⟩ := List.getElem_of_mem hm
  have hk' : k < (cosAll q n n.toNat).length := by simpa [cosAll, reps] using hk
  refine ⟨k, hk', ?_⟩
  rw [(row_rep hk').2, List.getD_eq_getElem?_getD, List.getElem?_eq_getElem hk, he]
  exact (mem_cosL (by omega)).2 ⟨hx, hy⟩
end Go.Proofs.YtgnmcoegdogfgaaGreat

set_option linter.unusedSimpArgs false
set_option linter.unusedVariables false
set_option maxRecDepth 100000
namespace Go.Proofs.YtgnmcoegdogfgaaGreat
open Go.RowKit
theorem bch_Closure1_ent : Enters Tryz.prog 149 := enters_of Tryz.func149 (by kernel_rfl) (by kernel_rfl)
theorem bch_Closure1 (x : Int) (p : Addr) (A : Option Addr) (n c : Nat) (bs : List Bool) (hn : n = bs.length) (hx : 0 ≤ x) (hx2 : x < bs.length) :
    Pure Tryz.prog 149 #[.int .i64 x, .pointer (some p)] [ro (some p) [.slice A n c], ro A (bools bs)] (isV (.bool (bs.getD x.toNat false))) := by
  refine pure_of (args := [.int .i64 x, .pointer (some p)]) 8 Tryz.func149 rfl rfl rfl bch_Closure1_ent ⟨id, id, trivial⟩ (fun w0 => ?_)
  refine tr_seq ?_
  refine tr_region fun _ _ _ => ?_
  refine pu rfl rfl rfl rfl rfl ?_
  refine tr_seq ?_
  refine tr_region fun _ _ _ => ?_
  refine st rfl rfl rfl rfl (rLd0 rfl rfl) ?_
  refine pu rfl rfl rfl rfl rfl ?_
  refine st rfl rfl rfl rfl (rIdxB rfl rfl rfl (by omega) (by omega) (by omega)) ?_
  refine st rfl rfl rfl rfl (rLdB rfl rfl (by omega)) ?_
  refine pu rfl rfl rfl rfl rfl ?_
  exact tr_ret ⟨trivial, _, _, rfl, ⟨rfl, rfl⟩, CSub.nil _, trivial⟩
noncomputable def bCls (q n : Int) (zs : List Int) (j : Int) : Bool := @decide (∃ z ∈ zs, Orb q n (z % n) j) (Classical.propDecidable _)
theorem bCls_iff {q n : Int} {zs : List Int} {j : Int} : bCls q n zs j = true ↔ ∃ z ∈ zs, Orb q n (z % n) j := by unfold bCls; exact @decide_eq_true_iff _ (Classical.propDecidable _)
noncomputable def clsL (q n : Int) (zs : List Int) : List Int := (upI n.toNat).filter (bCls q n zs)
theorem mem_clsL {q n : Int} {zs : List Int} {j : Int} (hn : 1 ≤ n) : j ∈ clsL q n zs ↔ (0 ≤ j ∧ j < n) ∧ ∃ z ∈ zs, Orb q n (z % n) j := by
  unfold clsL
  rw [List.mem_filter, mem_upI, bCls_iff, show ((n.toNat : Nat) : Int) = n by omega]
theorem clsL_lt (q n : Int) (zs : List Int) : (clsL q n zs).Pairwise (· < ·) := (upI_lt _).filter _
theorem clsL_length (q n : Int) (zs : List Int) : (clsL q n zs).length ≤ n.toNat := by
  unfold clsL
  have := List.length_filter_le (bCls q n zs) (upI n.toNat)
  rwa [upI_length] at this
theorem row_orb {q n : Int} (hn : 1 ≤ n) {k : Nat} (h : k < (cosAll q n n.toNat).length) {x : Int} (hx : x ∈ rowK q n k) : ∀ m, stp q n m x ∈ rowK q n k
  | 0 => hx
  | m + 1 => row_mul hn h (row_orb hn h hx m)
theorem in_range_len {n : Int} {xs : List Int} (hn : 1 ≤ n) (hd : xs.Nodup) (h : ∀ x ∈ xs, 0 ≤ x ∧ x < n) : (xs.length : Int) ≤ n := by
  have := nodup_len n.toNat (xs.map (· + 1)) (List.pairwise_map.2 (hd.imp fun h e => h (by omega))) (fun y hy => by
    obtain ⟨z, hz, rfl⟩ := List.mem_map.1 hy
    have := h z hz
    omega)
  simp at this; omega
theorem any_row {q n : Int} (hg : Int.gcd q n = 1) (hn : 1 ≤ n) {zs : List Int} {k : Nat} (h : k < (cosAll q n n.toNat).length) : (rowK q n k).any (fun i => (memL n zs).getD i.toNat false) = true ↔ ∃ z ∈ zs, z % n ∈ rowK q n k := by
  rw [List.any_eq_true]
  constructor
  · rintro ⟨x, hx, hp⟩
    have hb := row_in hn h hx
    have h1 := memL_get n hn zs x
    rw [Int.emod_eq_of_lt hb.1 hb.2] at h1
    obtain ⟨z, hz, he⟩ := h1.1 hp
    exact ⟨z, hz, by rw [he, Int.emod_eq_of_lt hb.1 hb.2]; exact hx⟩
  · rintro ⟨z, hz, hm⟩
    exact ⟨_, hm, (memL_get n hn zs z).2 ⟨z, hz, rfl⟩⟩
theorem cls_of {q n : Int} (hg : Int.gcd q n = 1) (hn : 1 ≤ n) {zs o : List Int} (hd : o.Nodup) (hm : ∀ x, x ∈ o ↔ ∃ k, k < (cosAll q n n.toNat).length ∧ x ∈ rowK q n k ∧ ∃ z ∈ zs, z % n ∈ rowK q n k) : sortI o = clsL q n zs :=
  asc_eq _ _ (sortI_lt hd) (clsL_lt q n zs) fun x => by
    rw [(sortI_perm o).mem_iff, hm, mem_clsL hn]
    constructor
    · rintro ⟨k, hk, hx, z, hz, hzk⟩
      refine ⟨row_in hn hk hx, z, hz, ?_⟩
      rw [(row_rep hk).2] at hx hzk
      have hb := rep_bd hn (row_rep hk).1
      exact (((mem_cosL (by omega)).1 hzk).2.symm hg hn hb.1).trans ((mem_cosL (by omega)).1 hx).2
    · rintro ⟨hb, z, hz, ho⟩
      obtain ⟨k, hk, hx⟩ := row_all (q := q) hn hb
      obtain ⟨m, hmm⟩ := ho.symm hg hn ⟨Int.emod_nonneg _ (by omega), Int.emod_lt_of_pos _ (by omega)⟩
      exact ⟨k, hk, hx, z, hz, by rw [hmm]; exact row_orb hn hk hx m⟩
theorem bch_Closure_ent : Enters Tryz.prog 96 := enters_of Tryz.func96 (by kernel_rfl) (by kernel_rfl)
theorem bch_Closure (q n : Int) (Z : Option Addr) (cz : Nat) (zs : List Int) (hz : zs.length ≤ 1000000) (hq : 2 ≤ q) (hq2 : q ≤ 256) (hn : 1 ≤ n) (hn2 : n ≤ 64) (hg : Int.gcd q n = 1) :
    Pure Tryz.prog 96 #[.int .i64 q, .int .i64 n, .slice Z zs.length cz] [ro Z (ints zs)] (one (fun v ch => ∃ B cap, v = .tuple #[.slice B (clsL q n zs).length cap, .int .i64 0] ∧ ch = ow B 3 cap (ints (clsL q n zs)))) := by
  refine pure_of (args := [.int .i64 q, .int .i64 n, .slice Z zs.length cz]) 56 Tryz.func96 rfl rfl rfl bch_Closure_ent ⟨id, trivial⟩ (fun w0 => ?_)
  refine tr_seq ?_
  refine tr_region fun _ _ _ => ?_
  iterate 2 refine pu rfl rfl rfl rfl rfl ?_
  refine tr_seq ?_
  refine tr_block ?_
  refine tr_seq ?_
  refine tr_region fun _ _ _ => ?_
  iterate 3 refine pu rfl rfl rfl rfl rfl ?_
  refine stg rfl rfl rfl rfl rfl (fun hb => by (have hq := hb; try simp only [zbA] at hq); exact rMove rfl rfl) ?_
  refine stg rfl rfl rfl rfl rfl (fun hb => by (have hq := hb; try simp only [zbA] at hq); exact rGtr rfl (evg rfl hb) rfl) ?_
  refine st rfl rfl rfl rfl (rOrB rfl rfl rfl rfl) ?_
  refine pu rfl rfl rfl rfl rfl ?_
  refine tr_cond_bool rfl (fun h1 => ?_) (fun h1 => ?_)
  · try simp only [zbA] at h1
    omega --done
  · try simp only [zbA] at h1
    refine tr_seq ?_
    refine tr_region fun _ _ _ => ?_
    iterate 3 refine pu rfl rfl rfl rfl rfl ?_
    refine stg rfl rfl rfl rfl rfl (fun hb => by (have hq := hb; try simp only [zbA] at hq); exact rMove rfl rfl) ?_
    refine stg rfl rfl rfl rfl rfl (fun hb => by (have hq := hb; try simp only [zbA] at hq); exact rGtr rfl (evg rfl hb) rfl) ?_
    refine st rfl rfl rfl rfl (rOrB rfl rfl rfl rfl) ?_
    refine pu rfl rfl rfl rfl rfl ?_
    refine tr_cond_bool rfl (fun h3 => ?_) (fun h3 => ?_)
    · try simp only [zbA] at h3
      omega --done
    · try simp only [zbA] at h3
      refine tr_skip ?_
      refine tr_seq ?_
      refine tr_region fun _ _ _ => ?_
      iterate 2 refine pu rfl rfl rfl rfl rfl ?_
      refine ef rfl rfl (eCall2 rfl rfl rfl (cyc_Cosets q n hq hq2 hn (by omega) hg) ⟨rfl, rfl, trivial⟩ ?_) 
      rintro _ _ _ ⟨A5, c5, rs, rfl, rfl, rfl, hrs⟩
      iterate 5 refine pu rfl rfl rfl rfl rfl ?_
      refine tr_seq ?_
      refine tr_seq ?_
      have hrl : rs.length = (cosAll q n n.toNat).length := by have := congrArg List.length hrs; rwa [List.length_map] at this
      have hrk : ∀ k : Nat, (rs.getD k rowD).xs = rowK q n k := fun k => by rw [← xs_getD, hrs]; rfl
      have hml := memL_length n zs
      have hrn : rs.length ≤ n.toNat := by rw [hrl]; exact cosAll_length q n n.toNat
      refine tr_region fun _ _ _ => ?_
      iterate 2 refine pu rfl rfl rfl rfl rfl ?_
      refine tr_cond_bool rfl (fun h6 => ?_) (fun h6 => ?_)
      · try simp only [zbA] at h6
        exact absurd trivial h6 --done
      · try simp only [zbA] at h6
        refine tr_skip ?_
        refine tr_seq ?_
        refine tr_region fun _ _ _ => ?_
        iterate 2 refine pu rfl rfl rfl rfl rfl ?_
        refine ef rfl rfl (eCall1 rfl rfl rfl (bch_members _ (by omega) (by omega) _ _ _ (by omega)) ⟨rfl, rfl, trivial⟩ ?_) 
        rintro _ _ ⟨B8, rfl, rfl⟩
        refine ef rfl rfl (eAlloc rfl rfl rfl (fun p8a => ?_)) 
        refine ef rfl rfl (eSt0 rfl rfl rfl rfl rfl rfl ?_) 
        refine tr_seq ?_
        refine tr_region fun _ _ _ => ?_
        refine pu rfl rfl rfl rfl rfl ?_
        refine tr_seq ?_
        refine tr_seq ?_
        refine tr_region fun _ _ _ => ?_
        refine pu rfl rfl rfl rfl rfl ?_
        refine st rfl rfl rfl rfl (rLen rfl rfl) ?_
        refine pu rfl rfl rfl rfl rfl ?_
        refine tr_block ?_
        refine tr_nilI 3 ?_
        refine tr_loop4 (fun (k : Nat) (A11 : Option Addr) (c11 : Nat) (o : List Int) => [(10, .pointer (some p8a)), (11, .slice A11 o.length c11), (40, .slice A5 rs.length c5), (41, .int .i64 rs.length), (42, .int .i64 k)]) (fun (k : Nat) (A11 : Option Addr) (c11 : Nat) (o : List Int) => [ow A11 3 c11 (ints o), ow A5 22 c5 (hdrs rs), rowsCh 3 rs, blk p8a 70 [.slice B8 n.toNat n.toNat], ow B8 4 n.toNat (bools (memL n zs))]) (fun (k : Nat) (A11 : Option Addr) (c11 : Nat) (o : List Int) => k ≤ rs.length ∧ o.Nodup ∧ (o.length : Int) ≤ n ∧ ∀ x, x ∈ o ↔ ∃ k2, k2 < k ∧ x ∈ rowK q n k2 ∧ ∃ z ∈ zs, z % n ∈ rowK q n k2) (fun (k : Nat) (A11 : Option Addr) (c11 : Nat) (o : List Int) => rs.length - k) (0) (none) (0) ([]) ⟨rfl, rfl, rfl, rfl, rfl, trivial⟩ (by first | exact cs _ _ | exact CSub.refl _) (⟨by omega, List.nodup_nil, by simp; omega, fun x => by simp⟩) (fun k A11 c11 o hI => ?_)
        obtain ⟨hk, hnd, hol, hmem⟩ := hI
        refine tr_seq ?_
        refine tr_region fun _ _ _ => ?_
        refine pu rfl rfl rfl rfl rfl ?_
        refine tr_seq ?_
        refine tr_cond_bool rfl (fun h11 => ?_) (fun h11 => ?_)
        · try simp only [zbA] at h11
          refine tr_skip ?_
          refine tr_seq ?_
          refine tr_block ?_
          refine tr_seq ?_
          haveI : InB (k : Int).toNat rs.length := ⟨by omega⟩
          refine tr_region fun _ _ _ => ?_
          refine st rfl rfl rfl rfl (rIdxR rfl rfl rfl (by omega) (by omega) (by omega)) ?_
          refine st rfl rfl rfl rfl (rLdR rfl rfl (by omega)) ?_
          refine pu rfl rfl rfl rfl rfl ?_
          refine tr_seq ?_
          have hxb : ∀ x ∈ (rs.getD (k : Int).toNat rowD).xs, 0 ≤ x ∧ x < (memL n zs).length := fun x hx => by
            rw [hrk] at hx
            have := row_in hn (show (k : Int).toNat < (cosAll q n n.toNat).length by omega) hx
            omega
          have hsl : ((rs.getD (k : Int).toNat rowD).xs.length : Int) ≤ n := in_range_len hn (by rw [hrk]; exact row_nodup (by omega)) (fun x hx => by rw [hrk] at hx; exact row_in hn (show (k : Int).toNat < (cosAll q n n.toNat).length by omega) hx)
          have hsh : (rs.getD (k : Int).toNat rowD).xs.length ≤ 1000000000000 := by omega
          refine tr_region fun _ _ _ => ?_
          refine pu rfl rfl rfl rfl rfl ?_
          refine st rfl rfl rfl rfl (rFun rfl rfl rfl) ?_
          refine ef rfl rfl (eCallV rfl rfl rfl (slc_ContainsFunc _ _ _ (rs.getD (k : Int).toNat rowD).xs rfl hsh _ [.pointer (some p8a)] [ro (some p8a) [.slice B8 n.toNat n.toNat], ro B8 (bools (memL n zs))] (fun i => (memL n zs).getD i.toNat false) (fun x hx => bch_Closure1 x p8a B8 _ _ (memL n zs) hml.symm (hxb x hx).1 (hxb x hx).2)) ⟨rfl, rfl, trivial⟩ ?_) 
          refine tr_cond_bool rfl (fun h13 => ?_) (fun h13 => ?_)
          · try simp only [zbA] at h13
            rw [hrk, any_row hg hn (by omega)] at h13
            refine tr_region fun _ _ _ => ?_
            iterate 2 refine pu rfl rfl rfl rfl rfl ?_
            refine ef rfl rfl (eAppI rfl rfl rfl rfl rfl (by first | rfl | simp) (by first | rfl | simp) (by first | omega | (simp; omega)) (fun A14 c14 => ?_)) 
            refine pu rfl rfl rfl rfl rfl ?_
            refine tr_region fun _ _ _ => ?_
            refine st rfl rfl rfl rfl (rAdd rfl rfl rfl (by omega) (by omega)) ?_
            refine pu rfl rfl rfl rfl rfl ?_
            refine ⟨k + 1, A14, c14, o ++ (rs.getD (k : Int).toNat rowD).xs, ⟨rfl, rfl, rfl, rfl, rfl, trivial⟩, by first | exact cs _ _ | exact CSub.refl _, ?_⟩
            have hkk : (k : Int).toNat < (cosAll q n n.toNat).length := by omega
            have hnew : (o ++ rowK q n (k : Int).toNat).Nodup := by
              rw [List.nodup_append]
              refine ⟨hnd, row_nodup hkk, fun a ha b hb e => ?_⟩
              subst e
              obtain ⟨k2, h1, h2, _⟩ := (hmem a).1 ha
              have := row_one hg hn (show k2 < (cosAll q n n.toNat).length by omega) hkk h2 hb
              omega
            rw [hrk]
            refine ⟨⟨by omega, hnew, in_range_len hn hnew (fun x hx => ?_), fun x => ?_⟩, by omega⟩
            · rcases List.mem_append.1 hx with hx | hx
              · obtain ⟨k2, h1, h2, _⟩ := (hmem x).1 hx
                exact row_in hn (show k2 < (cosAll q n n.toNat).length by omega) h2
              · exact row_in hn hkk hx
            · rw [List.mem_append, hmem]
              constructor
              · rintro (⟨k2, h1, h2⟩ | h)
                · exact ⟨k2, by omega, h2⟩
                · exact ⟨(k : Int).toNat, by omega, h, h13⟩
              · rintro ⟨k2, h1, h2⟩
                by_cases he : k2 = (k : Int).toNat
                · right; rw [← he]; exact h2.1
                · left; exact ⟨k2, by omega, h2⟩
          · try simp only [zbA] at h13
            refine tr_skip ?_
            refine tr_region fun _ _ _ => ?_
            refine st rfl rfl rfl rfl (rAdd rfl rfl rfl (by omega) (by omega)) ?_
            refine pu rfl rfl rfl rfl rfl ?_
            refine ⟨k + 1, A11, c11, o, ⟨rfl, rfl, rfl, rfl, rfl, trivial⟩, by first | exact cs _ _ | exact CSub.refl _, ?_⟩
            have hkk : (k : Int).toNat < (cosAll q n n.toNat).length := by omega
            rw [hrk] at h13
            have hno : ¬ ∃ z ∈ zs, z % n ∈ rowK q n (k : Int).toNat := fun h => by rw [(any_row hg hn hkk).2 h] at h13; cases h13
            refine ⟨⟨by omega, hnd, hol, fun x => ?_⟩, by omega⟩
            rw [hmem]
            constructor
            · rintro ⟨k2, h1, h2⟩; exact ⟨k2, by omega, h2⟩
            · rintro ⟨k2, h1, h2⟩
              by_cases he : k2 = (k : Int).toNat
              · exact absurd (he ▸ h2.2) hno
              · exact ⟨k2, by omega, h2⟩
        · try simp only [zbA] at h11
          refine tr_exit ?_
          refine tr_seq ?_
          refine tr_region fun _ _ _ => ?_
          refine pu rfl rfl rfl rfl rfl ?_
          refine ef rfl rfl (eCallM1 rfl rfl rfl (slc_Sort A11 _ c11 o rfl (by omega)) ⟨rfl, trivial⟩ ?_) 
          rintro _ _ ⟨rfl, rfl⟩
          have hkr : k = (cosAll q n n.toNat).length := by omega
          have hso := cls_of (zs := zs) hg hn hnd (fun x => by rw [hmem x, hkr])
          have hsl := sortI_length o
          rw [← hsl, hso]
          refine tr_seq ?_
          refine tr_region fun _ _ _ => ?_
          iterate 3 refine pu rfl rfl rfl rfl rfl ?_
          exact tr_ret ⟨trivial, _, _, rfl, ⟨_, rfl, A11, c11, rfl, rfl⟩, cs _ _, trivial, trivial⟩
end Go.Proofs.YtgnmcoegdogfgaaGreat

set_option linter.unusedSimpArgs false
set_option linter.unusedVariables false
namespace Go.Proofs.YtgnmcoegdogfgaaGreat
namespace Rg
section
variable {R : Type} [Rg R]
def nc : Nat → R
  | 0 => 0
  | 1 => 1
  | n + 2 => nc (n + 1) + 1
theorem nc_succ : ∀ n : Nat, (nc (n + 1) : R) = nc n + 1
  | 0 => (Rg.zero_add (1 : R)).symm
  | _ + 1 => rfl
def ic : Int → R
  | .ofNat n => nc n
  | .negSucc n => -(nc (n + 1))
@[reducible] def grindOf (n : Nat) : OfNat R n := match n with
  | 0 => Zero.toOfNat0
  | 1 => One.toOfNat1
  | n + 2 => ⟨nc (n + 2)⟩
theorem of_nc : ∀ n : Nat, (@OfNat.ofNat R n (grindOf n)) = nc n
  | 0 => rfl
  | 1 => rfl
  | _ + 2 => rfl
instance (priority := low) grindSemi : Lean.Grind.Semiring R where
  natCast := ⟨nc⟩
  ofNat := grindOf
  nsmul := ⟨fun n a => nc n * a⟩
  npow := ⟨fun a n => Rg.pow a n⟩
  add_zero := Rg.add_zero
  add_comm := Rg.add_comm
  add_assoc := Rg.add_assoc
  mul_assoc := Rg.mul_assoc
  mul_one := Rg.mul_one
  one_mul := Rg.one_mul
  left_distrib := Rg.mul_add
  right_distrib := Rg.add_mul
  zero_mul := Rg.zero_mul
  mul_zero := Rg.mul_zero
  pow_zero := fun _ => rfl
  pow_succ := fun _ _ => rfl
  ofNat_succ := fun n => by rw [of_nc, of_nc]; exact nc_succ n
  ofNat_eq_natCast := fun n => of_nc n
  nsmul_eq_natCast_mul := fun _ _ => rfl
theorem ic_neg : ∀ i : Int, (ic (-i) : R) = -ic i
  | .ofNat 0 => (Rg.neg_zero (R := R)).symm
  | .ofNat (_ + 1) => rfl
  | .negSucc n => (Rg.neg_neg (nc (n + 1) : R)).symm
instance (priority := low) grindRing : Lean.Grind.CommRing R where
  intCast := ⟨ic⟩
  zsmul := ⟨fun i a => ic i * a⟩
  neg_add_cancel := Rg.neg_add
  sub_eq_add_neg := fun _ _ => rfl
  neg_zsmul := fun i a => by show ic (-i) * a = -(ic i * a); rw [ic_neg, Rg.neg_mul]
  zsmul_natCast_eq_nsmul := fun _ _ => rfl
  intCast_ofNat := fun n => (of_nc n).symm
  intCast_neg := ic_neg
  mul_comm := Rg.mul_comm
end
end Rg
end Go.Proofs.YtgnmcoegdogfgaaGreat

set_option linter.unusedSimpArgs false
set_option linter.unusedVariables false
set_option linter.unusedSectionVars false
namespace Go.Proofs.YtgnmcoegdogfgaaGreat
section
variable {p m : Int} {mod : List Int} [hF : IsF p m mod]
theorem cf_set (l : List Int) {k : Nat} (v : Int) (hk : k < l.length) (j : Nat) : (el ((l.set k v).getD j 0) : El p m mod) = if j = k then el v else el (l.getD j 0) := by
  rw [getD_set]
  by_cases h : k = j
  · subst h; rw [if_pos ⟨rfl, hk⟩, if_pos rfl]
  · rw [if_neg (by omega), if_neg (by omega)]
theorem pol_set (l : List Int) {k : Nat} (v : Int) (hk : k < l.length) : (pol (l.set k v) : Po (El p m mod)) = pol l + Po.mn (el v - el (l.getD k 0)) k := Po.ext fun j => by
  rw [Po.cf_add, cf_pol, cf_pol, Po.cf_mn, cf_set l v hk]
  by_cases h : j = k
  · subst h; rw [if_pos rfl, if_pos rfl]; grind
  · rw [if_neg h, if_neg h]; grind
theorem pol_set_add (l : List Int) {k : Nat} {v : Int} {d : El p m mod} (hk : k < l.length) (h : (el v : El p m mod) = el (l.getD k 0) + d) : (pol (l.set k v) : Po (El p m mod)) = pol l + Po.mn d k := by
  rw [pol_set l v hk, h]
  congr 2
  grind
theorem getD_take (l : List Int) (k j : Nat) : (l.take k).getD j 0 = if j < k then l.getD j 0 else 0 := by
  rw [List.getD_eq_getElem?_getD, List.getElem?_take]
  split
  · rw [List.getD_eq_getElem?_getD]
  · rfl
theorem pol_take_zero (l : List Int) : (pol (l.take 0) : Po (El p m mod)) = 0 := by rw [List.take_zero]; exact pol_nil
theorem pol_take_succ (l : List Int) (k : Nat) : (pol (l.take (k + 1)) : Po (El p m mod)) = pol (l.take k) + Po.mn (el (l.getD k 0)) k := Po.ext fun j => by
  rw [Po.cf_add, cf_pol, cf_pol, Po.cf_mn, getD_take, getD_take]
  by_cases h : j = k
  · subst h
    rw [if_pos (by omega), if_neg (by omega), if_pos rfl, el_zero]
    grind
  · by_cases h2 : j < k
    · rw [if_pos (by omega), if_pos h2, if_neg h]; grind
    · rw [if_neg (by omega), if_neg h2, if_neg h]; grind
theorem pol_rep (n : Nat) : (pol (List.replicate n 0) : Po (El p m mod)) = 0 := Po.ext fun j => by
  rw [cf_pol, show (List.replicate n (0 : Int)).getD j 0 = 0 by rw [List.getD_eq_getElem?_getD, List.getElem?_replicate]; split <;> rfl, el_zero]
  rfl
theorem il_map {f : Po (El p m mod)} {c : El p m mod} (hc : c ≠ 0) : (il f).map (fun y => (c * el y : El p m mod).1) = il (Po.C c * f) := ext_getD (by rw [List.length_map, il_length, il_length, Po.len_C_mul hc]) fun j => by
  rw [il_getD, Po.cf_C_mul, List.getD_eq_getElem?_getD, List.getElem?_map]
  by_cases hj : j < (il f).length
  · rw [List.getElem?_eq_getElem hj]
    have h1 := il_getD f j
    rw [List.getD_eq_getElem?_getD, List.getElem?_eq_getElem hj, Option.getD_some] at h1
    rw [Option.map_some, Option.getD_some, h1, el_of]
  · rw [List.getElem?_eq_none (by omega), Option.map_none, Option.getD_none]
    rw [il_length] at hj
    rw [Po.cf_ge (by omega), Rg.mul_zero]
    rfl
end
end Go.Proofs.YtgnmcoegdogfgaaGreat

set_option linter.unusedSimpArgs false
set_option linter.unusedVariables false
set_option maxRecDepth 100000
namespace Go.Proofs.YtgnmcoegdogfgaaGreat
open Go.RowKit
theorem negI_in {p m : Int} (hp : 2 ≤ p) (x : Int) : inI (pw p m) (negI p m x) = negI p m x := inI_in (negI_bd hp x).1 (negI_bd hp x).2
theorem pow_pos1 {p : Int} (hp : 2 ≤ p) (k : Nat) : 1 ≤ p ^ k := by
  have : 0 < p ^ k := Int.pow_pos (by omega)
  omega
theorem wp_le {w p z q : Int} (hw : 1 ≤ w) (hp : 1 ≤ p) (hz : 1 ≤ z) (h : w * p * z = q) : 1 ≤ w * p ∧ w * p ≤ q := by
  have h1 : 0 < w * p := Int.mul_pos (by omega) (by omega)
  have h2 : w * p * 1 ≤ w * p * z := Int.mul_le_mul_of_nonneg_left hz (by omega)
  omega
theorem le_wp {w z q : Int} (hw : 1 ≤ w) (hz : 1 ≤ z) (h : w * z = q) : z ≤ q := by
  have h1 : 1 * z ≤ w * z := Int.mul_le_mul_of_nonneg_right hw (by omega)
  omega
theorem ltEq {a b c : Int} (h : a < b) (e : b = c) : a < c := by omega
theorem digit_w {d p w q : Int} (h0 : 0 ≤ d) (h1 : d < p) (hw : 1 ≤ w) (h : w * p ≤ q) : 0 ≤ d * w ∧ d * w ≤ q := by
  have h2 : d * w ≤ p * w := Int.mul_le_mul_of_nonneg_right (by omega) (by omega)
  have h3 : 0 ≤ d * w := Int.mul_nonneg h0 (by omega)
  rw [Int.mul_comm p w] at h2
  omega
theorem gf_Add_ent : Enters Tryz.prog 138 := enters_of Tryz.func138 (by kernel_rfl) (by kernel_rfl)
theorem gf_Add (g : GfM) (p m : Int) (mod : List Int) (hg : GOk g p m mod) (x y : Int) :
    Pure Tryz.prog 138 #[.pointer (some g.p), .int .i64 x, .int .i64 y] [gfR g] (isV (.int .i64 (addI p m (inI g.q x) (inI g.q y)))) := by
  obtain rfl := hg.eP
  have hq := hg.q2
  have hel := hg.elen
  have hll := hg.llen'
  have heq := hg.eq
  have hp2 := hg.shp.1.p2
  have hp9 := hg.shp.1.p9
  have hxb := inI_bd (q := g.q) (by omega) x
  have hyb := inI_bd (q := g.q) (by omega) y
  have htb := addI_bd (m := m) hp2 (inI g.q x) (inI g.q y)
  have hrec := addI_rec g.P m (inI g.q x) (inI g.q y)
  refine pure_of (args := [.pointer (some g.p), .int .i64 x, .int .i64 y]) 77 Tryz.func138 rfl rfl rfl gf_Add_ent ⟨id, trivial⟩ (fun w0 => ?_)
  refine tr_seq ?_
  refine tr_region fun _ _ _ => ?_
  refine pu rfl rfl rfl rfl rfl ?_
  refine tr_seq ?_
  refine tr_region fun _ _ _ => ?_
  iterate 2 refine pu rfl rfl rfl rfl rfl ?_
  refine ef rfl rfl (eCallV rfl rfl rfl (gf_in _ _) ⟨rfl, rfl, trivial⟩ ?_) 
  iterate 2 refine pu rfl rfl rfl rfl rfl ?_
  refine ef rfl rfl (eCallV rfl rfl rfl (gf_in _ _) ⟨rfl, rfl, trivial⟩ ?_) 
  iterate 2 refine pu rfl rfl rfl rfl rfl ?_
  refine tr_seq ?_
  refine tr_seq ?_
  refine tr_region fun _ _ _ => ?_
  refine pu rfl rfl rfl rfl rfl ?_
  refine st rfl rfl rfl rfl (rNil rfl rfl) ?_
  refine st rfl rfl rfl rfl (rFld rfl rfl) ?_
  refine st rfl rfl rfl rfl (rFldN rfl rfl) ?_
  refine st rfl rfl rfl rfl (rLdF rfl rfl rfl) ?_
  refine pu rfl rfl rfl rfl rfl ?_
  refine tr_cond_bool rfl (fun h2 => ?_) (fun h2 => ?_)
  · try simp only [zbA] at h2
    refine tr_seq ?_
    have h2x := addI_two (m := m) (x := inI g.q x) (y := inI g.q y)
    refine tr_region fun _ _ _ => ?_
    iterate 2 refine pu rfl rfl rfl rfl rfl ?_
    refine st rfl rfl rfl rfl (rXor rfl rfl rfl (by omega) (by omega)) ?_
    refine pu rfl rfl rfl rfl rfl ?_
    exact tr_ret ⟨trivial, _, _, rfl, ⟨by rw [← h2x (by rw [← h2, ← heq]; exact hxb) (by rw [← h2, ← heq]; exact hyb), h2], rfl⟩, CSub.nil _, trivial⟩
  · try simp only [zbA] at h2
    refine tr_skip ?_
    refine tr_seq ?_
    refine tr_region fun _ _ _ => ?_
    iterate 2 refine pu rfl rfl rfl rfl rfl ?_
    refine tr_seq ?_
    refine tr_block ?_
    refine tr_loop5 (fun (k : Nat) (a : Int) (b : Int) (s : Int) (w : Int) => [(0, .pointer (some g.p)), (1, .int .i64 a), (2, .int .i64 b), (7, .int .i64 s), (8, .int .i64 w)]) (fun (k : Nat) (a : Int) (b : Int) (s : Int) (w : Int) => [gfR g]) (fun (k : Nat) (a : Int) (b : Int) (s : Int) (w : Int) => (0 ≤ a ∧ a < g.P ^ k) ∧ (0 ≤ b ∧ b < g.P ^ k) ∧ 0 ≤ s ∧ 1 ≤ w ∧ w * g.P ^ k = g.q ∧ s + w * addD g.P k a b = addI g.P m (inI g.q x) (inI g.q y)) (fun (k : Nat) (a : Int) (b : Int) (s : Int) (w : Int) => k) (m.toNat) (inI g.q x) (inI g.q y) (0) (1) ⟨rfl, rfl, rfl, rfl, rfl, trivial⟩ (by first | exact cs _ _ | exact CSub.refl _) (⟨⟨hxb.1, ltEq hxb.2 heq⟩, ⟨hyb.1, ltEq hyb.2 heq⟩, by omega, by omega, by rw [Int.one_mul, heq]; rfl, by rw [Int.one_mul, Int.zero_add, hrec]⟩) (fun k a b s w hI => ?_)
    obtain ⟨⟨ha0, ha1⟩, ⟨hb0, hb1⟩, hs0, hw1, hw, hs⟩ := hI
    refine tr_seq ?_
    refine tr_seq ?_
    refine tr_region fun _ _ _ => ?_
    iterate 3 refine pu rfl rfl rfl rfl rfl ?_
    refine stg rfl rfl rfl rfl rfl (fun hb => by (have hq := hb; try simp only [zbA] at hq); exact rMove rfl rfl) ?_
    refine stg rfl rfl rfl rfl rfl (fun hb => by (have hq := hb; try simp only [zbA] at hq); exact rGtr rfl (evg rfl hb) rfl) ?_
    refine st rfl rfl rfl rfl (rOrB rfl rfl rfl rfl) ?_
    refine tr_cond_bool rfl (fun h5 => ?_) (fun h5 => ?_)
    · try simp only [zbA] at h5
      refine tr_skip ?_
      refine tr_block ?_
      refine tr_seq ?_
      have hk0 : k ≠ 0 := fun e => by
        subst e
        simp only [Int.pow_zero] at ha1 hb1
        omega
      obtain ⟨j, rfl⟩ : ∃ j, k = j + 1 := ⟨k - 1, by omega⟩
      have hpj := pow_pos1 hp2 j
      have hwq : w * g.P * g.P ^ j = g.q := by rw [← hw, Int.pow_succ, Int.mul_assoc, Int.mul_comm g.P]
      have hwp := wp_le hw1 (by omega) hpj hwq
      have hpq := le_wp hw1 (pow_pos1 hp2 (j + 1)) hw
      have e0 := Int.emod_nonneg a (show g.P ≠ 0 by omega)
      have e1 := Int.emod_lt_of_pos a (show 0 < g.P by omega)
      have e2 := Int.emod_nonneg b (show g.P ≠ 0 by omega)
      have e3 := Int.emod_lt_of_pos b (show 0 < g.P by omega)
      have e4 := Int.emod_nonneg (a % g.P + b % g.P) (show g.P ≠ 0 by omega)
      have e5 := Int.emod_lt_of_pos (a % g.P + b % g.P) (show 0 < g.P by omega)
      have hdw := digit_w e4 e5 hw1 hwp.2
      have had := addD_bd hp2 (j + 1) a b
      have hwa := Int.mul_nonneg (show 0 ≤ w by omega) had.1
      refine tr_draw [0, 1, 2, 3, 4, 5, 6, 7, 8, 9, 10, 11, 12, 13, 14, 15, 16, 17, 18, 19, 20, 21, 22, 23, 24, 25] [] mixed (by kernel_rfl) fun _ _ _ => ?_
      iterate 3 refine pu rfl rfl rfl rfl rfl ?_
      refine st rfl rfl rfl rfl (rNil rfl rfl) ?_
      refine st rfl rfl rfl rfl (rFld rfl rfl) ?_
      refine st rfl rfl rfl rfl (rFldN rfl rfl) ?_
      refine st rfl rfl rfl rfl (rLdF rfl rfl rfl) ?_
      refine st rfl rfl rfl rfl (rRem rfl rfl rfl (by omega) (by omega)) ?_
      iterate 2 refine pu rfl rfl rfl rfl rfl ?_
      refine st rfl rfl rfl rfl (rNil rfl rfl) ?_
      refine st rfl rfl rfl rfl (rFld rfl rfl) ?_
      refine st rfl rfl rfl rfl (rFldN rfl rfl) ?_
      refine st rfl rfl rfl rfl (rLdF rfl rfl rfl) ?_
      refine st rfl rfl rfl rfl (rRem rfl rfl rfl (by omega) (by omega)) ?_
      refine st rfl rfl rfl rfl (rAdd rfl rfl rfl (by omega) (by omega)) ?_
      refine pu rfl rfl rfl rfl rfl ?_
      refine st rfl rfl rfl rfl (rNil rfl rfl) ?_
      refine st rfl rfl rfl rfl (rFld rfl rfl) ?_
      refine st rfl rfl rfl rfl (rFldN rfl rfl) ?_
      refine st rfl rfl rfl rfl (rLdF rfl rfl rfl) ?_
      refine st rfl rfl rfl rfl (rRem rfl rfl rfl (by omega) (by omega)) ?_
      refine pu rfl rfl rfl rfl rfl ?_
      refine st rfl rfl rfl rfl (rMul rfl rfl rfl (by omega) (by omega)) ?_
      refine st rfl rfl rfl rfl (rAdd rfl rfl rfl (by omega) (by omega)) ?_
      refine pu rfl rfl rfl rfl rfl ?_
      refine tr_seq ?_
      refine tr_region fun _ _ _ => ?_
      iterate 2 refine pu rfl rfl rfl rfl rfl ?_
      refine st rfl rfl rfl rfl (rNil rfl rfl) ?_
      refine st rfl rfl rfl rfl (rFld rfl rfl) ?_
      refine st rfl rfl rfl rfl (rFldN rfl rfl) ?_
      refine st rfl rfl rfl rfl (rLdF rfl rfl rfl) ?_
      refine st rfl rfl rfl rfl (rMul rfl rfl rfl (by omega) (by omega)) ?_
      refine pu rfl rfl rfl rfl rfl ?_
      refine tr_seq ?_
      refine tr_region fun _ _ _ => ?_
      iterate 2 refine pu rfl rfl rfl rfl rfl ?_
      refine st rfl rfl rfl rfl (rNil rfl rfl) ?_
      refine st rfl rfl rfl rfl (rFld rfl rfl) ?_
      refine st rfl rfl rfl rfl (rFldN rfl rfl) ?_
      refine st rfl rfl rfl rfl (rLdF rfl rfl rfl) ?_
      refine st rfl rfl rfl rfl (rQuo rfl rfl rfl (by omega) (by omega)) ?_
      refine pu rfl rfl rfl rfl rfl ?_
      refine tr_region fun _ _ _ => ?_
      iterate 2 refine pu rfl rfl rfl rfl rfl ?_
      refine st rfl rfl rfl rfl (rNil rfl rfl) ?_
      refine st rfl rfl rfl rfl (rFld rfl rfl) ?_
      refine st rfl rfl rfl rfl (rFldN rfl rfl) ?_
      refine st rfl rfl rfl rfl (rLdF rfl rfl rfl) ?_
      refine st rfl rfl rfl rfl (rQuo rfl rfl rfl (by omega) (by omega)) ?_
      refine pu rfl rfl rfl rfl rfl ?_
      refine ⟨j, a / g.P, b / g.P, s + (a % g.P + b % g.P) % g.P * w, w * g.P, ⟨rfl, rfl, rfl, rfl, rfl, trivial⟩, by first | exact cs _ _ | exact CSub.refl _, ?_⟩
      refine ⟨⟨⟨Int.ediv_nonneg ha0 (by omega), ediv_lt_pow hp2 ha1⟩, ⟨Int.ediv_nonneg hb0 (by omega), ediv_lt_pow hp2 hb1⟩, by omega, by omega, hwq, ?_⟩, by omega⟩
      rw [← hs, addD]
      grind
    · try simp only [zbA] at h5
      skip
      refine tr_exit ?_
      refine tr_seq ?_
      refine tr_region fun _ _ _ => ?_
      iterate 2 refine pu rfl rfl rfl rfl rfl ?_
      have ha00 : a = 0 := by omega
      have hb00 : b = 0 := by omega
      subst ha00 hb00
      rw [addD_zero, Int.mul_zero, Int.add_zero] at hs
      exact tr_ret ⟨trivial, _, _, rfl, ⟨by rw [hs], rfl⟩, CSub.nil _, trivial⟩
theorem gf_Neg_ent : Enters Tryz.prog 116 := enters_of Tryz.func116 (by kernel_rfl) (by kernel_rfl)
theorem gf_Neg (g : GfM) (p m : Int) (mod : List Int) (hg : GOk g p m mod) (x : Int) :
    Pure Tryz.prog 116 #[.pointer (some g.p), .int .i64 x] [gfR g] (isV (.int .i64 (negI p m (inI g.q x)))) := by
  obtain rfl := hg.eP
  have hq := hg.q2
  have hel := hg.elen
  have hll := hg.llen'
  have heq := hg.eq
  have hp2 := hg.shp.1.p2
  have hp9 := hg.shp.1.p9
  have hxb := inI_bd (q := g.q) (by omega) x
  have htb := negI_bd (m := m) hp2 (inI g.q x)
  have hrec := negI_rec hp2 m (inI g.q x)
  refine pure_of (args := [.pointer (some g.p), .int .i64 x]) 50 Tryz.func116 rfl rfl rfl gf_Neg_ent ⟨id, trivial⟩ (fun w0 => ?_)
  refine tr_seq ?_
  refine tr_region fun _ _ _ => ?_
  refine pu rfl rfl rfl rfl rfl ?_
  refine tr_seq ?_
  refine tr_region fun _ _ _ => ?_
  iterate 2 refine pu rfl rfl rfl rfl rfl ?_
  refine ef rfl rfl (eCallV rfl rfl rfl (gf_in _ _) ⟨rfl, rfl, trivial⟩ ?_) 
  refine pu rfl rfl rfl rfl rfl ?_
  refine tr_seq ?_
  refine tr_region fun _ _ _ => ?_
  iterate 2 refine pu rfl rfl rfl rfl rfl ?_
  refine tr_seq ?_
  refine tr_block ?_
  refine tr_loop4 (fun (k : Nat) (a : Int) (s : Int) (w : Int) => [(0, .pointer (some g.p)), (1, .int .i64 a), (5, .int .i64 s), (6, .int .i64 w)]) (fun (k : Nat) (a : Int) (s : Int) (w : Int) => [gfR g]) (fun (k : Nat) (a : Int) (s : Int) (w : Int) => (0 ≤ a ∧ a < g.P ^ k) ∧ 0 ≤ s ∧ 1 ≤ w ∧ w * g.P ^ k = g.q ∧ s + w * negD g.P k a = negI g.P m (inI g.q x)) (fun (k : Nat) (a : Int) (s : Int) (w : Int) => k) (m.toNat) (inI g.q x) (0) (1) ⟨rfl, rfl, rfl, rfl, trivial⟩ (by first | exact cs _ _ | exact CSub.refl _) (⟨⟨hxb.1, ltEq hxb.2 heq⟩, by omega, by omega, by rw [Int.one_mul, heq]; rfl, by rw [Int.one_mul, Int.zero_add, hrec]⟩) (fun k a s w hI => ?_)
  obtain ⟨⟨ha0, ha1⟩, hs0, hw1, hw, hs⟩ := hI
  refine tr_seq ?_
  refine tr_seq ?_
  refine tr_region fun _ _ _ => ?_
  iterate 2 refine pu rfl rfl rfl rfl rfl ?_
  refine tr_cond_bool rfl (fun h3 => ?_) (fun h3 => ?_)
  · try simp only [zbA] at h3
    refine tr_skip ?_
    refine tr_block ?_
    refine tr_seq ?_
    have hk0 : k ≠ 0 := fun e => by
      subst e
      simp only [Int.pow_zero] at ha1
      omega
    obtain ⟨j, rfl⟩ : ∃ j, k = j + 1 := ⟨k - 1, by omega⟩
    have hpj := pow_pos1 hp2 j
    have hwq : w * g.P * g.P ^ j = g.q := by rw [← hw, Int.pow_succ, Int.mul_assoc, Int.mul_comm g.P]
    have hwp := wp_le hw1 (by omega) hpj hwq
    have hpq := le_wp hw1 (pow_pos1 hp2 (j + 1)) hw
    have e0 := Int.emod_nonneg a (show g.P ≠ 0 by omega)
    have e1 := Int.emod_lt_of_pos a (show 0 < g.P by omega)
    have e4 := Int.emod_nonneg (g.P - a % g.P) (show g.P ≠ 0 by omega)
    have e5 := Int.emod_lt_of_pos (g.P - a % g.P) (show 0 < g.P by omega)
    have hdw := digit_w e4 e5 hw1 hwp.2
    have had := negD_bd hp2 (j + 1) a
    have hwa := Int.mul_nonneg (show 0 ≤ w by omega) had.1
    refine tr_draw [0, 1, 2, 3, 4, 5, 6, 7, 8, 9, 10, 11, 12, 13, 14, 15, 16, 17, 18, 19, 20, 21, 22, 23] [] mixed (by kernel_rfl) fun _ _ _ => ?_
    iterate 2 refine pu rfl rfl rfl rfl rfl ?_
    refine st rfl rfl rfl rfl (rNil rfl rfl) ?_
    refine st rfl rfl rfl rfl (rFld rfl rfl) ?_
    refine st rfl rfl rfl rfl (rFldN rfl rfl) ?_
    refine st rfl rfl rfl rfl (rLdF rfl rfl rfl) ?_
    iterate 2 refine pu rfl rfl rfl rfl rfl ?_
    refine st rfl rfl rfl rfl (rNil rfl rfl) ?_
    refine st rfl rfl rfl rfl (rFld rfl rfl) ?_
    refine st rfl rfl rfl rfl (rFldN rfl rfl) ?_
    refine st rfl rfl rfl rfl (rLdF rfl rfl rfl) ?_
    refine st rfl rfl rfl rfl (rRem rfl rfl rfl (by omega) (by omega)) ?_
    refine st rfl rfl rfl rfl (rSub rfl rfl rfl (by omega) (by omega)) ?_
    refine pu rfl rfl rfl rfl rfl ?_
    refine st rfl rfl rfl rfl (rNil rfl rfl) ?_
    refine st rfl rfl rfl rfl (rFld rfl rfl) ?_
    refine st rfl rfl rfl rfl (rFldN rfl rfl) ?_
    refine st rfl rfl rfl rfl (rLdF rfl rfl rfl) ?_
    refine st rfl rfl rfl rfl (rRem rfl rfl rfl (by omega) (by omega)) ?_
    refine pu rfl rfl rfl rfl rfl ?_
    refine st rfl rfl rfl rfl (rMul rfl rfl rfl (by omega) (by omega)) ?_
    refine st rfl rfl rfl rfl (rAdd rfl rfl rfl (by omega) (by omega)) ?_
    refine pu rfl rfl rfl rfl rfl ?_
    refine tr_seq ?_
    refine tr_region fun _ _ _ => ?_
    iterate 2 refine pu rfl rfl rfl rfl rfl ?_
    refine st rfl rfl rfl rfl (rNil rfl rfl) ?_
    refine st rfl rfl rfl rfl (rFld rfl rfl) ?_
    refine st rfl rfl rfl rfl (rFldN rfl rfl) ?_
    refine st rfl rfl rfl rfl (rLdF rfl rfl rfl) ?_
    refine st rfl rfl rfl rfl (rMul rfl rfl rfl (by omega) (by omega)) ?_
    refine pu rfl rfl rfl rfl rfl ?_
    refine tr_region fun _ _ _ => ?_
    iterate 2 refine pu rfl rfl rfl rfl rfl ?_
    refine st rfl rfl rfl rfl (rNil rfl rfl) ?_
    refine st rfl rfl rfl rfl (rFld rfl rfl) ?_
    refine st rfl rfl rfl rfl (rFldN rfl rfl) ?_
    refine st rfl rfl rfl rfl (rLdF rfl rfl rfl) ?_
    refine st rfl rfl rfl rfl (rQuo rfl rfl rfl (by omega) (by omega)) ?_
    refine pu rfl rfl rfl rfl rfl ?_
    refine ⟨j, a / g.P, s + (g.P - a % g.P) % g.P * w, w * g.P, ⟨rfl, rfl, rfl, rfl, trivial⟩, by first | exact cs _ _ | exact CSub.refl _, ?_⟩
    refine ⟨⟨⟨Int.ediv_nonneg ha0 (by omega), ediv_lt_pow hp2 ha1⟩, by omega, by omega, hwq, ?_⟩, by omega⟩
    rw [← hs, negD]
    grind
  · try simp only [zbA] at h3
    refine tr_exit ?_
    refine tr_seq ?_
    refine tr_region fun _ _ _ => ?_
    iterate 2 refine pu rfl rfl rfl rfl rfl ?_
    have ha00 : a = 0 := by omega
    subst ha00
    rw [negD_zero, Int.mul_zero, Int.add_zero] at hs
    exact tr_ret ⟨trivial, _, _, rfl, ⟨by rw [hs], rfl⟩, CSub.nil _, trivial⟩
theorem gf_Sub_ent : Enters Tryz.prog 179 := enters_of Tryz.func179 (by kernel_rfl) (by kernel_rfl)
theorem gf_Sub (g : GfM) (p m : Int) (mod : List Int) (hg : GOk g p m mod) (x y : Int) :
    Pure Tryz.prog 179 #[.pointer (some g.p), .int .i64 x, .int .i64 y] [gfR g] (isV (.int .i64 (addI p m (inI g.q x) (negI p m (inI g.q y))))) := by
  refine pure_of (args := [.pointer (some g.p), .int .i64 x, .int .i64 y]) 13 Tryz.func179 rfl rfl rfl gf_Sub_ent ⟨id, trivial⟩ (fun w0 => ?_)
  refine tr_seq ?_
  refine tr_region fun _ _ _ => ?_
  refine pu rfl rfl rfl rfl rfl ?_
  refine tr_seq ?_
  refine tr_region fun _ _ _ => ?_
  iterate 4 refine pu rfl rfl rfl rfl rfl ?_
  refine ef rfl rfl (eCallV rfl rfl rfl (gf_Neg g p m mod hg _) ⟨rfl, rfl, trivial⟩ ?_) 
  refine ef rfl rfl (eCallV rfl rfl rfl (gf_Add g p m mod hg _ _) ⟨rfl, rfl, rfl, trivial⟩ ?_) 
  refine pu rfl rfl rfl rfl rfl ?_
  exact tr_ret ⟨trivial, _, _, rfl, ⟨by rw [hg.eq, negI_in hg.shp.1.p2], rfl⟩, CSub.nil _, trivial⟩
theorem gf_Mul_ent : Enters Tryz.prog 132 := enters_of Tryz.func132 (by kernel_rfl) (by kernel_rfl)
theorem gf_Mul (g : GfM) (p m : Int) (mod : List Int) (hg : GOk g p m mod) (x y : Int) :
    Pure Tryz.prog 132 #[.pointer (some g.p), .int .i64 x, .int .i64 y] [gfR g] (isV (.int .i64 (mulI p m mod (inI g.q x) (inI g.q y)))) := by
  obtain rfl := hg.eP
  have hq := hg.q2
  have hel := hg.elen
  have hll := hg.llen'
  have heq := hg.eq
  have hp2 := hg.shp.1.p2
  have hp9 := hg.shp.1.p9
  have hxb := inI_bd (q := g.q) (by omega) x
  have hyb := inI_bd (q := g.q) (by omega) y
  refine pure_of (args := [.pointer (some g.p), .int .i64 x, .int .i64 y]) 46 Tryz.func132 rfl rfl rfl gf_Mul_ent ⟨id, trivial⟩ (fun w0 => ?_)
  refine tr_seq ?_
  refine tr_region fun _ _ _ => ?_
  refine pu rfl rfl rfl rfl rfl ?_
  refine tr_seq ?_
  refine tr_region fun _ _ _ => ?_
  iterate 2 refine pu rfl rfl rfl rfl rfl ?_
  refine ef rfl rfl (eCallV rfl rfl rfl (gf_in _ _) ⟨rfl, rfl, trivial⟩ ?_) 
  iterate 2 refine pu rfl rfl rfl rfl rfl ?_
  refine ef rfl rfl (eCallV rfl rfl rfl (gf_in _ _) ⟨rfl, rfl, trivial⟩ ?_) 
  iterate 2 refine pu rfl rfl rfl rfl rfl ?_
  refine tr_seq ?_
  refine tr_seq ?_
  refine tr_region fun _ _ _ => ?_
  iterate 3 refine pu rfl rfl rfl rfl rfl ?_
  refine stg rfl rfl rfl rfl rfl (fun hb => by (have hq := hb; try simp only [zbA] at hq); exact rMove rfl rfl) ?_
  refine stg rfl rfl rfl rfl rfl (fun hb => by (have hq := hb; try simp only [zbA] at hq); exact rEql rfl (evg rfl hb) rfl) ?_
  refine st rfl rfl rfl rfl (rOrB rfl rfl rfl rfl) ?_
  refine tr_cond_bool rfl (fun h2 => ?_) (fun h2 => ?_)
  · try simp only [zbA] at h2
    refine tr_seq ?_
    refine tr_region fun _ _ _ => ?_
    refine pu rfl rfl rfl rfl rfl ?_
    exact tr_ret ⟨trivial, _, _, rfl, ⟨by
      rcases h2 with h | h
      · rw [h, mulI_zero hg.shp.1]
      · rw [h, mulI_comm hg.shp.1, mulI_zero hg.shp.1], rfl⟩, CSub.nil _, trivial⟩
  · try simp only [zbA] at h2
    refine tr_skip ?_
    refine tr_seq ?_
    have hlx := hg.log_spec (y := inI g.q x) (by omega) (by omega)
    have hly := hg.log_spec (y := inI g.q y) (by omega) (by omega)
    have e0 := Int.emod_nonneg (g.log.getD (inI g.q x).toNat 0 + g.log.getD (inI g.q y).toNat 0) (show g.q - 1 ≠ 0 by omega)
    have e1 := Int.emod_lt_of_pos (g.log.getD (inI g.q x).toNat 0 + g.log.getD (inI g.q y).toNat 0) (show 0 < g.q - 1 by omega)
    refine tr_draw [0, 1, 2, 3, 4, 5, 6, 7, 8, 9, 10, 11, 12, 13, 14, 15, 16, 17, 18, 19, 20, 21, 22, 23, 24, 25, 26, 27] [] mixed (by kernel_rfl) fun _ _ _ => ?_
    refine pu rfl rfl rfl rfl rfl ?_
    refine st rfl rfl rfl rfl (rNil rfl rfl) ?_
    refine st rfl rfl rfl rfl (rFld rfl rfl) ?_
    refine st rfl rfl rfl rfl (rLdF rfl rfl rfl) ?_
    refine pu rfl rfl rfl rfl rfl ?_
    refine st rfl rfl rfl rfl (rNil rfl rfl) ?_
    refine st rfl rfl rfl rfl (rFld rfl rfl) ?_
    refine st rfl rfl rfl rfl (rLdF rfl rfl rfl) ?_
    refine pu rfl rfl rfl rfl rfl ?_
    refine st rfl rfl rfl rfl (rIdxI rfl rfl rfl (by omega) (by omega) (by omega)) ?_
    refine st rfl rfl rfl rfl (rLdI rfl rfl (by omega)) ?_
    refine pu rfl rfl rfl rfl rfl ?_
    refine st rfl rfl rfl rfl (rNil rfl rfl) ?_
    refine st rfl rfl rfl rfl (rFld rfl rfl) ?_
    refine st rfl rfl rfl rfl (rLdF rfl rfl rfl) ?_
    refine pu rfl rfl rfl rfl rfl ?_
    refine st rfl rfl rfl rfl (rIdxI rfl rfl rfl (by omega) (by omega) (by omega)) ?_
    refine st rfl rfl rfl rfl (rLdI rfl rfl (by omega)) ?_
    refine st rfl rfl rfl rfl (rAdd rfl rfl rfl (by omega) (by omega)) ?_
    refine pu rfl rfl rfl rfl rfl ?_
    refine st rfl rfl rfl rfl (rNil rfl rfl) ?_
    refine st rfl rfl rfl rfl (rFld rfl rfl) ?_
    refine st rfl rfl rfl rfl (rLdF rfl rfl rfl) ?_
    refine st rfl rfl rfl rfl (rSub rfl rfl rfl (by omega) (by omega)) ?_
    refine st rfl rfl rfl rfl (rRem rfl rfl rfl (by omega) (by omega)) ?_
    refine st rfl rfl rfl rfl (rIdxI rfl rfl rfl (by omega) (by omega) (by omega)) ?_
    refine st rfl rfl rfl rfl (rLdI rfl rfl (by omega)) ?_
    refine pu rfl rfl rfl rfl rfl ?_
    exact tr_ret ⟨trivial, _, _, rfl, ⟨by rw [hg.mul ⟨by omega, by omega⟩ ⟨by omega, by omega⟩], rfl⟩, CSub.nil _, trivial⟩
theorem gf_Inv_ent : Enters Tryz.prog 178 := enters_of Tryz.func178 (by kernel_rfl) (by kernel_rfl)
theorem gf_Inv (g : GfM) (p m : Int) (mod : List Int) (hg : GOk g p m mod) (x : Int) :
    Pure Tryz.prog 178 #[.pointer (some g.p), .int .i64 x] [gfR g] (isV (if inI g.q x = 0 then .tuple #[.int .i64 0, .int .i64 7] else .tuple #[.int .i64 (invI p m mod (inI g.q x)), .int .i64 0])) := by
  obtain rfl := hg.eP
  have hq := hg.q2
  have hel := hg.elen
  have hll := hg.llen'
  have heq := hg.eq
  have hp2 := hg.shp.1.p2
  have hp9 := hg.shp.1.p9
  have hxb := inI_bd (q := g.q) (by omega) x
  refine pure_of (args := [.pointer (some g.p), .int .i64 x]) 36 Tryz.func178 rfl rfl rfl gf_Inv_ent ⟨id, trivial⟩ (fun w0 => ?_)
  refine tr_seq ?_
  refine tr_region fun _ _ _ => ?_
  iterate 2 refine pu rfl rfl rfl rfl rfl ?_
  refine tr_seq ?_
  refine tr_region fun _ _ _ => ?_
  iterate 2 refine pu rfl rfl rfl rfl rfl ?_
  refine ef rfl rfl (eCallV rfl rfl rfl (gf_in _ _) ⟨rfl, rfl, trivial⟩ ?_) 
  refine pu rfl rfl rfl rfl rfl ?_
  refine tr_seq ?_
  refine tr_seq ?_
  refine tr_region fun _ _ _ => ?_
  iterate 2 refine pu rfl rfl rfl rfl rfl ?_
  refine tr_cond_bool rfl (fun h2 => ?_) (fun h2 => ?_)
  · try simp only [zbA] at h2
    refine tr_seq ?_
    refine tr_region fun _ _ _ => ?_
    iterate 2 refine pu rfl rfl rfl rfl rfl ?_
    exact tr_ret ⟨trivial, _, _, rfl, ⟨by rw [if_pos h2], rfl⟩, CSub.nil _, trivial⟩
  · try simp only [zbA] at h2
    refine tr_skip ?_
    refine tr_seq ?_
    have hlx := hg.log_spec (y := inI g.q x) (by omega) (by omega)
    have e0 := Int.emod_nonneg (g.q - 1 - g.log.getD (inI g.q x).toNat 0) (show g.q - 1 ≠ 0 by omega)
    have e1 := Int.emod_lt_of_pos (g.q - 1 - g.log.getD (inI g.q x).toNat 0) (show 0 < g.q - 1 by omega)
    refine tr_draw [0, 1, 2, 3, 4, 5, 6, 7, 8, 9, 10, 11, 12, 13, 14, 15, 16, 17, 18, 19, 20, 21, 22, 23, 24, 25, 26] [] mixed (by kernel_rfl) fun _ _ _ => ?_
    refine pu rfl rfl rfl rfl rfl ?_
    refine st rfl rfl rfl rfl (rNil rfl rfl) ?_
    refine st rfl rfl rfl rfl (rFld rfl rfl) ?_
    refine st rfl rfl rfl rfl (rLdF rfl rfl rfl) ?_
    refine pu rfl rfl rfl rfl rfl ?_
    refine st rfl rfl rfl rfl (rNil rfl rfl) ?_
    refine st rfl rfl rfl rfl (rFld rfl rfl) ?_
    refine st rfl rfl rfl rfl (rLdF rfl rfl rfl) ?_
    refine st rfl rfl rfl rfl (rSub rfl rfl rfl (by omega) (by omega)) ?_
    refine pu rfl rfl rfl rfl rfl ?_
    refine st rfl rfl rfl rfl (rNil rfl rfl) ?_
    refine st rfl rfl rfl rfl (rFld rfl rfl) ?_
    refine st rfl rfl rfl rfl (rLdF rfl rfl rfl) ?_
    refine pu rfl rfl rfl rfl rfl ?_
    refine st rfl rfl rfl rfl (rIdxI rfl rfl rfl (by omega) (by omega) (by omega)) ?_
    refine st rfl rfl rfl rfl (rLdI rfl rfl (by omega)) ?_
    refine st rfl rfl rfl rfl (rSub rfl rfl rfl (by omega) (by omega)) ?_
    refine pu rfl rfl rfl rfl rfl ?_
    refine st rfl rfl rfl rfl (rNil rfl rfl) ?_
    refine st rfl rfl rfl rfl (rFld rfl rfl) ?_
    refine st rfl rfl rfl rfl (rLdF rfl rfl rfl) ?_
    refine st rfl rfl rfl rfl (rSub rfl rfl rfl (by omega) (by omega)) ?_
    refine st rfl rfl rfl rfl (rRem rfl rfl rfl (by omega) (by omega)) ?_
    refine st rfl rfl rfl rfl (rIdxI rfl rfl rfl (by omega) (by omega) (by omega)) ?_
    refine st rfl rfl rfl rfl (rLdI rfl rfl (by omega)) ?_
    iterate 2 refine pu rfl rfl rfl rfl rfl ?_
    exact tr_ret ⟨trivial, _, _, rfl, ⟨by rw [if_neg h2, hg.inv ⟨by omega, by omega⟩], rfl⟩, CSub.nil _, trivial⟩
theorem gf_Scale_ent : Enters Tryz.prog 180 := enters_of Tryz.func180 (by kernel_rfl) (by kernel_rfl)
theorem gf_Scale (g : GfM) (p m : Int) (mod : List Int) (hg : GOk g p m mod) (x : Int) (A : Option Addr) (n c : Nat) (l : List Int) (hn : n = l.length) (h9 : l.length ≤ 17592186044415) :
    Pure Tryz.prog 180 #[.pointer (some g.p), .int .i64 x, .slice A n c] [gfR g, ro A (ints l)] (one (fun v ch => ∃ B, v = .slice B l.length l.length ∧ ch = ow B 3 l.length (ints (l.map fun y => mulI p m mod (inI g.q x) (inI g.q y))))) := by
  refine pure_of (args := [.pointer (some g.p), .int .i64 x, .slice A n c]) 29 Tryz.func180 rfl rfl rfl gf_Scale_ent ⟨id, id, trivial⟩ (fun w0 => ?_)
  refine tr_seq ?_
  refine tr_region fun _ _ _ => ?_
  refine pu rfl rfl rfl rfl rfl ?_
  refine tr_seq ?_
  refine tr_region fun _ _ _ => ?_
  refine pu rfl rfl rfl rfl rfl ?_
  refine st rfl rfl rfl rfl (rLen rfl rfl) ?_
  refine ef rfl rfl (eMakeI rfl rfl rfl rfl rfl (by omega) (by omega) (by omega) (fun A1 => ?_)) 
  refine pu rfl rfl rfl rfl rfl ?_
  refine tr_seq ?_
  refine tr_seq ?_
  refine tr_region fun _ _ _ => ?_
  refine pu rfl rfl rfl rfl rfl ?_
  refine st rfl rfl rfl rfl (rLen rfl rfl) ?_
  refine pu rfl rfl rfl rfl rfl ?_
  refine tr_block ?_
  refine tr_loop2 (fun (k : Int) (o : List Int) => [(0, .pointer (some g.p)), (1, .int .i64 x), (7, .slice A1 n n), (13, .slice A n c), (14, .int .i64 n), (15, .int .i64 k)]) (fun (k : Int) (o : List Int) => [ow A1 3 n (ints o), gfR g, ro A (ints l)]) (fun (k : Int) (o : List Int) => (0 ≤ k ∧ k ≤ n) ∧ o.length = n ∧ ∀ j : Nat, (j : Int) < k → o.getD j 0 = mulI p m mod (inI g.q x) (inI g.q (l.getD j 0))) (fun (k : Int) (o : List Int) => (n - k).toNat) (0) (List.replicate n 0) ⟨rfl, rfl, rfl, rfl, rfl, rfl, trivial⟩ (by first | exact cs _ _ | exact CSub.refl _) (⟨⟨by omega, by omega⟩, by simp, fun j hj => by omega⟩) (fun k o hI => ?_)
  obtain ⟨hk, hol, ho⟩ := hI
  refine tr_seq ?_
  refine tr_region fun _ _ _ => ?_
  refine pu rfl rfl rfl rfl rfl ?_
  refine tr_seq ?_
  refine tr_cond_bool rfl (fun h3 => ?_) (fun h3 => ?_)
  · try simp only [zbA] at h3
    refine tr_skip ?_
    refine tr_seq ?_
    refine tr_block ?_
    refine tr_seq ?_
    refine tr_region fun _ _ _ => ?_
    refine pu rfl rfl rfl rfl rfl ?_
    refine st rfl rfl rfl rfl (rIdxI rfl rfl rfl (by omega) (by omega) (by omega)) ?_
    refine st rfl rfl rfl rfl (rLdI rfl rfl (by omega)) ?_
    iterate 2 refine pu rfl rfl rfl rfl rfl ?_
    refine tr_region fun _ _ _ => ?_
    iterate 5 refine pu rfl rfl rfl rfl rfl ?_
    refine ef rfl rfl (eCallV rfl rfl rfl (gf_Mul g p m mod hg _ _) ⟨rfl, rfl, rfl, trivial⟩ ?_) 
    refine st rfl rfl rfl rfl (rIdxI rfl rfl rfl (by omega) (by omega) (by omega)) ?_
    refine ef rfl rfl (eStI rfl rfl rfl rfl (by omega) ?_) 
    refine tr_region fun _ _ _ => ?_
    refine st rfl rfl rfl rfl (rAdd rfl rfl rfl (by omega) (by omega)) ?_
    refine pu rfl rfl rfl rfl rfl ?_
    refine ⟨k + 1, o.set k.toNat (mulI p m mod (inI g.q x) (inI g.q (l.getD k.toNat 0))), ⟨rfl, rfl, rfl, rfl, rfl, rfl, trivial⟩, by first | exact cs _ _ | exact CSub.refl _, ?_⟩
    refine ⟨⟨⟨by omega, by omega⟩, by simpa using hol, fun j hj => ?_⟩, by omega⟩
    rw [getD_set]
    by_cases he : k.toNat = j
    · subst he; rw [if_pos ⟨rfl, by omega⟩]
    · rw [if_neg (by omega)]; exact ho j (by omega)
  · try simp only [zbA] at h3
    refine tr_exit ?_
    refine tr_seq ?_
    refine tr_region fun _ _ _ => ?_
    iterate 2 refine pu rfl rfl rfl rfl rfl ?_
    have hm : o = l.map fun y => mulI p m mod (inI g.q x) (inI g.q y) := by
      refine List.ext_getElem (by simp; omega) fun j h1 h2 => ?_
      have := ho j (by omega)
      rw [List.getD_eq_getElem?_getD, List.getElem?_eq_getElem h1, List.getD_eq_getElem?_getD, List.getElem?_eq_getElem (show j < l.length by omega)] at this
      simpa using this
    rw [hm]
    subst hn
    exact tr_ret ⟨trivial, _, _, rfl, ⟨_, rfl, _, rfl, rfl⟩, cs _ _, trivial, trivial⟩
theorem ref_Add_ent : Enters Tryz.prog 89 := enters_of Tryz.func89 (by kernel_rfl) (by kernel_rfl)
theorem ref_Add (p m : Int) (A : Option Addr) (c : Nat) (mod : List Int) (hs : Shp p m mod) (x y : Int) :
    Pure Tryz.prog 89 #[.agg #[.int .i64 p, .int .i64 m, .slice A mod.length c], .int .i64 x, .int .i64 y] [ro A (ints mod)] (isV (.int .i64 (addI p m (inI (ordI p m) x) (inI (ordI p m) y)))) := by
  have hp2 := hs.p2
  have hp9 := hs.p9
  have hm1 := hs.m1
  have hm8 := hs.m8
  have hqq := hs.q
  have hoq := hs.ord
  have hpm : p ^ m.toNat ≤ 256 := hqq
  have hal := digs_length p m.toNat (inI (ordI p m) x)
  have hbl := digs_length p m.toNat (inI (ordI p m) y)
  have hai := digs_in (p := p) (by omega) m.toNat (inI (ordI p m) x)
  have hbi := digs_in (p := p) (by omega) m.toNat (inI (ordI p m) y)
  have hvt : ∀ c : List Int, AllIn p c → m.toNat ≤ c.length → vl p (c.take m.toNat) = rv p m.toNat (rl c) := fun c h1 h2 => vl_take hp2 h1 h2
  have hdef : addI p m (inI (ordI p m) x) (inI (ordI p m) y) = rv p m.toNat ((rl (digs p m.toNat (inI (ordI p m) x))).add (rl (digs p m.toNat (inI (ordI p m) y)))) := rfl
  rw [hdef]
  generalize ha : digs p m.toNat (inI (ordI p m) x) = a at hal hai
  generalize hb : digs p m.toNat (inI (ordI p m) y) = b at hbl hbi
  refine pure_of (args := [.agg #[.int .i64 p, .int .i64 m, .slice A mod.length c], .int .i64 x, .int .i64 y]) 40 Tryz.func89 rfl rfl rfl ref_Add_ent ⟨id, trivial⟩ (fun w0 => ?_)
  refine tr_seq ?_
  refine tr_region fun _ _ _ => ?_
  refine ef rfl rfl (eBox rfl rfl rfl rfl rfl (fun p0 => ?_)) 
  refine pu rfl rfl rfl rfl rfl ?_
  refine tr_seq ?_
  refine tr_region fun _ _ _ => ?_
  refine st rfl rfl rfl rfl (rLdS rfl rfl rfl) ?_
  refine pu rfl rfl rfl rfl rfl ?_
  refine ef rfl rfl (eCall1 rfl rfl rfl (ref_Digits _ _ _ _ _ hs _) ⟨rfl, rfl, trivial⟩ ?_) 
  rintro _ _ ⟨B1, rfl, rfl⟩
  refine pu rfl rfl rfl rfl rfl ?_
  rw [ha]
  refine tr_seq ?_
  refine tr_region fun _ _ _ => ?_
  refine st rfl rfl rfl rfl (rLdS rfl rfl rfl) ?_
  refine pu rfl rfl rfl rfl rfl ?_
  refine ef rfl rfl (eCall1 rfl rfl rfl (ref_Digits _ _ _ _ _ hs _) ⟨rfl, rfl, trivial⟩ ?_) 
  rintro _ _ ⟨B2, rfl, rfl⟩
  refine pu rfl rfl rfl rfl rfl ?_
  rw [hb]
  refine tr_seq ?_
  refine tr_seq ?_
  refine tr_region fun _ _ _ => ?_
  refine pu rfl rfl rfl rfl rfl ?_
  refine tr_block ?_
  refine tr_loop2 (fun (k : Int) (o : List Int) => [(3, .pointer (some p0)), (7, .slice B1 m.toNat m.toNat), (8, .slice B2 m.toNat m.toNat), (9, .int .i64 k)]) (fun (k : Int) (o : List Int) => [ow B2 3 m.toNat (ints b), ow B1 3 m.toNat (ints o), blk p0 24 [.int .i64 p, .int .i64 m, .slice A mod.length c], ro A (ints mod)]) (fun (k : Int) (o : List Int) => (0 ≤ k ∧ k ≤ m) ∧ o.length = m.toNat ∧ AllIn p o ∧ (∀ j : Nat, (j : Int) < k → o.getD j 0 = (a.getD j 0 + b.getD j 0) % p) ∧ ∀ j : Nat, k ≤ j → o.getD j 0 = a.getD j 0) (fun (k : Int) (o : List Int) => (m - k).toNat) (0) (a) ⟨rfl, rfl, rfl, rfl, trivial⟩ (by first | exact cs _ _ | exact CSub.refl _) (⟨⟨by omega, by omega⟩, hal, hai, fun j hj => by omega, fun j hj => rfl⟩) (fun k o hI => ?_)
  obtain ⟨⟨hk, hk1⟩, hol, hoi, ho1, ho2⟩ := hI
  have hg1 := hoi.get (by omega) k.toNat
  have hg2 := hbi.get (by omega) k.toNat
  have e0 := Int.emod_nonneg (o.getD k.toNat 0 + b.getD k.toNat 0) (show p ≠ 0 by omega)
  have e1 := Int.emod_lt_of_pos (o.getD k.toNat 0 + b.getD k.toNat 0) (show 0 < p by omega)
  refine tr_seq ?_
  refine tr_seq ?_
  refine tr_region fun _ _ _ => ?_
  iterate 2 refine pu rfl rfl rfl rfl rfl ?_
  refine st rfl rfl rfl rfl (rLen rfl rfl) ?_
  refine pu rfl rfl rfl rfl rfl ?_
  refine tr_cond_bool rfl (fun h4 => ?_) (fun h4 => ?_)
  · try simp only [zbA] at h4
    refine tr_skip ?_
    refine tr_seq ?_
    refine tr_block ?_
    refine tr_draw [0, 1, 2, 3, 4, 5, 6, 7, 8, 9, 10, 11, 12, 13, 14] [15] mixed (by kernel_rfl) fun _ _ _ => ?_
    iterate 4 refine pu rfl rfl rfl rfl rfl ?_
    refine st rfl rfl rfl rfl (rIdxI rfl rfl rfl (by omega) (by omega) (by omega)) ?_
    refine st rfl rfl rfl rfl (rLdI rfl rfl (by omega)) ?_
    iterate 2 refine pu rfl rfl rfl rfl rfl ?_
    refine st rfl rfl rfl rfl (rIdxI rfl rfl rfl (by omega) (by omega) (by omega)) ?_
    refine st rfl rfl rfl rfl (rLdI rfl rfl (by omega)) ?_
    refine st rfl rfl rfl rfl (rAdd rfl rfl rfl (by omega) (by omega)) ?_
    refine st rfl rfl rfl rfl (rFld rfl rfl) ?_
    refine st rfl rfl rfl rfl (rLdF rfl rfl rfl) ?_
    refine st rfl rfl rfl rfl (rRem rfl rfl rfl (by omega) (by omega)) ?_
    refine st rfl rfl rfl rfl (rIdxI rfl rfl rfl (by omega) (by omega) (by omega)) ?_
    refine ef rfl rfl (eStI rfl rfl rfl rfl (by omega) ?_) 
    refine tr_region fun _ _ _ => ?_
    refine pu rfl rfl rfl rfl rfl ?_
    refine st rfl rfl rfl rfl (rAdd rfl rfl rfl (by omega) (by omega)) ?_
    refine pu rfl rfl rfl rfl rfl ?_
    refine ⟨k + 1, o.set k.toNat ((o.getD k.toNat 0 + b.getD k.toNat 0) % p), ⟨rfl, rfl, rfl, rfl, trivial⟩, by first | exact cs _ _ | exact CSub.refl _, ?_⟩
    refine ⟨⟨⟨by omega, by omega⟩, by simpa using hol, hoi.set ⟨e0, e1⟩ _, fun j hj => ?_, fun j hj => ?_⟩, by omega⟩
    · rw [getD_set]
      by_cases he : k.toNat = j
      · subst he; rw [if_pos ⟨rfl, by omega⟩, ho2 k.toNat (by omega)]
      · rw [if_neg (by omega)]; exact ho1 j (by omega)
    · rw [getD_set, if_neg (by omega)]; exact ho2 j (by omega)
  · try simp only [zbA] at h4
    refine tr_exit ?_
    refine tr_seq ?_
    refine tr_region fun _ _ _ => ?_
    refine st rfl rfl rfl rfl (rLdS rfl rfl rfl) ?_
    refine pu rfl rfl rfl rfl rfl ?_
    refine ef rfl rfl (eCallV rfl rfl rfl (ref_Value _ _ _ _ _ (by omega) (by omega) _ _ _ o (by omega) (by omega) hoi (by omega)) ⟨rfl, rfl, trivial⟩ ?_) 
    refine pu rfl rfl rfl rfl rfl ?_
    have hkm : k = m := by omega
    exact tr_ret ⟨trivial, _, _, rfl, ⟨by rw [hvt o hoi (by omega)]; exact congrArg _ (rv_cong fun j hj => by rw [show rl o j = (a.getD j 0 + b.getD j 0) % p from ho1 j (by omega), Int.emod_emod]; rfl), rfl⟩, CSub.nil _, trivial⟩
theorem ref_Neg_ent : Enters Tryz.prog 152 := enters_of Tryz.func152 (by kernel_rfl) (by kernel_rfl)
theorem ref_Neg (p m : Int) (A : Option Addr) (c : Nat) (mod : List Int) (hs : Shp p m mod) (x : Int) :
    Pure Tryz.prog 152 #[.agg #[.int .i64 p, .int .i64 m, .slice A mod.length c], .int .i64 x] [ro A (ints mod)] (isV (.int .i64 (negI p m (inI (ordI p m) x)))) := by
  have hp2 := hs.p2
  have hp9 := hs.p9
  have hm1 := hs.m1
  have hm8 := hs.m8
  have hqq := hs.q
  have hoq := hs.ord
  have hpm : p ^ m.toNat ≤ 256 := hqq
  have hal := digs_length p m.toNat (inI (ordI p m) x)
  have hai := digs_in (p := p) (by omega) m.toNat (inI (ordI p m) x)
  have hvt : ∀ c : List Int, AllIn p c → m.toNat ≤ c.length → vl p (c.take m.toNat) = rv p m.toNat (rl c) := fun c h1 h2 => vl_take hp2 h1 h2
  have hdef : negI p m (inI (ordI p m) x) = rv p m.toNat (Row.sm (-1) (rl (digs p m.toNat (inI (ordI p m) x)))) := rfl
  rw [hdef]
  generalize ha : digs p m.toNat (inI (ordI p m) x) = a at hal hai
  refine pure_of (args := [.agg #[.int .i64 p, .int .i64 m, .slice A mod.length c], .int .i64 x]) 32 Tryz.func152 rfl rfl rfl ref_Neg_ent ⟨id, trivial⟩ (fun w0 => ?_)
  refine tr_seq ?_
  refine tr_region fun _ _ _ => ?_
  refine ef rfl rfl (eBox rfl rfl rfl rfl rfl (fun p0 => ?_)) 
  refine pu rfl rfl rfl rfl rfl ?_
  refine tr_seq ?_
  refine tr_region fun _ _ _ => ?_
  refine st rfl rfl rfl rfl (rLdS rfl rfl rfl) ?_
  refine pu rfl rfl rfl rfl rfl ?_
  refine ef rfl rfl (eCall1 rfl rfl rfl (ref_Digits _ _ _ _ _ hs _) ⟨rfl, rfl, trivial⟩ ?_) 
  rintro _ _ ⟨B1, rfl, rfl⟩
  refine pu rfl rfl rfl rfl rfl ?_
  rw [ha]
  refine tr_seq ?_
  refine tr_seq ?_
  refine tr_region fun _ _ _ => ?_
  refine pu rfl rfl rfl rfl rfl ?_
  refine tr_block ?_
  refine tr_loop2 (fun (k : Int) (o : List Int) => [(2, .pointer (some p0)), (5, .slice B1 m.toNat m.toNat), (6, .int .i64 k)]) (fun (k : Int) (o : List Int) => [ow B1 3 m.toNat (ints o), blk p0 24 [.int .i64 p, .int .i64 m, .slice A mod.length c], ro A (ints mod)]) (fun (k : Int) (o : List Int) => (0 ≤ k ∧ k ≤ m) ∧ o.length = m.toNat ∧ AllIn p o ∧ (∀ j : Nat, (j : Int) < k → o.getD j 0 = (p - a.getD j 0) % p) ∧ ∀ j : Nat, k ≤ j → o.getD j 0 = a.getD j 0) (fun (k : Int) (o : List Int) => (m - k).toNat) (0) (a) ⟨rfl, rfl, rfl, trivial⟩ (by first | exact cs _ _ | exact CSub.refl _) (⟨⟨by omega, by omega⟩, hal, hai, fun j hj => by omega, fun j hj => rfl⟩) (fun k o hI => ?_)
  obtain ⟨⟨hk, hk1⟩, hol, hoi, ho1, ho2⟩ := hI
  have hg1 := hoi.get (by omega) k.toNat
  have e0 := Int.emod_nonneg (p - o.getD k.toNat 0) (show p ≠ 0 by omega)
  have e1 := Int.emod_lt_of_pos (p - o.getD k.toNat 0) (show 0 < p by omega)
  refine tr_seq ?_
  refine tr_seq ?_
  refine tr_region fun _ _ _ => ?_
  iterate 2 refine pu rfl rfl rfl rfl rfl ?_
  refine st rfl rfl rfl rfl (rLen rfl rfl) ?_
  refine pu rfl rfl rfl rfl rfl ?_
  refine tr_cond_bool rfl (fun h3 => ?_) (fun h3 => ?_)
  · try simp only [zbA] at h3
    refine tr_skip ?_
    refine tr_seq ?_
    refine tr_block ?_
    refine tr_draw [0, 1, 2, 3, 4, 5, 6, 7, 8, 9, 10, 11, 12] [13] mixed (by kernel_rfl) fun _ _ _ => ?_
    iterate 2 refine pu rfl rfl rfl rfl rfl ?_
    refine st rfl rfl rfl rfl (rFld rfl rfl) ?_
    refine st rfl rfl rfl rfl (rLdF rfl rfl rfl) ?_
    iterate 2 refine pu rfl rfl rfl rfl rfl ?_
    refine st rfl rfl rfl rfl (rIdxI rfl rfl rfl (by omega) (by omega) (by omega)) ?_
    refine st rfl rfl rfl rfl (rLdI rfl rfl (by omega)) ?_
    refine st rfl rfl rfl rfl (rSub rfl rfl rfl (by omega) (by omega)) ?_
    refine st rfl rfl rfl rfl (rFld rfl rfl) ?_
    refine st rfl rfl rfl rfl (rLdF rfl rfl rfl) ?_
    refine st rfl rfl rfl rfl (rRem rfl rfl rfl (by omega) (by omega)) ?_
    refine st rfl rfl rfl rfl (rIdxI rfl rfl rfl (by omega) (by omega) (by omega)) ?_
    refine ef rfl rfl (eStI rfl rfl rfl rfl (by omega) ?_) 
    refine tr_region fun _ _ _ => ?_
    refine pu rfl rfl rfl rfl rfl ?_
    refine st rfl rfl rfl rfl (rAdd rfl rfl rfl (by omega) (by omega)) ?_
    refine pu rfl rfl rfl rfl rfl ?_
    refine ⟨k + 1, o.set k.toNat ((p - o.getD k.toNat 0) % p), ⟨rfl, rfl, rfl, trivial⟩, by first | exact cs _ _ | exact CSub.refl _, ?_⟩
    refine ⟨⟨⟨by omega, by omega⟩, by simpa using hol, hoi.set ⟨e0, e1⟩ _, fun j hj => ?_, fun j hj => ?_⟩, by omega⟩
    · rw [getD_set]
      by_cases he : k.toNat = j
      · subst he; rw [if_pos ⟨rfl, by omega⟩, ho2 k.toNat (by omega)]
      · rw [if_neg (by omega)]; exact ho1 j (by omega)
    · rw [getD_set, if_neg (by omega)]; exact ho2 j (by omega)
  · try simp only [zbA] at h3
    refine tr_exit ?_
    refine tr_seq ?_
    refine tr_region fun _ _ _ => ?_
    refine st rfl rfl rfl rfl (rLdS rfl rfl rfl) ?_
    refine pu rfl rfl rfl rfl rfl ?_
    refine ef rfl rfl (eCallV rfl rfl rfl (ref_Value _ _ _ _ _ (by omega) (by omega) _ _ _ o (by omega) (by omega) hoi (by omega)) ⟨rfl, rfl, trivial⟩ ?_) 
    refine pu rfl rfl rfl rfl rfl ?_
    have hkm : k = m := by omega
    exact tr_ret ⟨trivial, _, _, rfl, ⟨by rw [hvt o hoi (by omega)]; exact congrArg _ (rv_cong fun j hj => by rw [show rl o j = (p - a.getD j 0) % p from ho1 j (by omega), Int.emod_emod]; show _ = (-1 * a.getD j 0) % p; rw [show p - a.getD j 0 = -1 * a.getD j 0 + p by omega, Int.add_emod_right]), rfl⟩, CSub.nil _, trivial⟩
theorem ref_Inv_ent : Enters Tryz.prog 193 := enters_of Tryz.func193 (by kernel_rfl) (by kernel_rfl)
theorem ref_Inv (p m : Int) (A : Option Addr) (c : Nat) (mod : List Int) (hF : FldR p m mod) (x : Int) :
    Pure Tryz.prog 193 #[.agg #[.int .i64 p, .int .i64 m, .slice A mod.length c], .int .i64 x] [ro A (ints mod)] (isV (.int .i64 (invI p m mod (inI (ordI p m) x)))) := by
  have hs := hF.1.1
  have hq2 := hs.q2
  have hp2 := hs.p2
  have hp9 := hs.p9
  have hm1 := hs.m1
  have hm8 := hs.m8
  have hqq := hs.q
  have hoq := hs.ord
  have hpm : p ^ m.toNat ≤ 256 := hqq
  have hxb := inI_bd (q := ordI p m) (by omega) x
  refine pure_of (args := [.agg #[.int .i64 p, .int .i64 m, .slice A mod.length c], .int .i64 x]) 18 Tryz.func193 rfl rfl rfl ref_Inv_ent ⟨id, trivial⟩ (fun w0 => ?_)
  refine tr_seq ?_
  refine tr_region fun _ _ _ => ?_
  refine ef rfl rfl (eBox rfl rfl rfl rfl rfl (fun p0 => ?_)) 
  refine pu rfl rfl rfl rfl rfl ?_
  refine tr_seq ?_
  refine tr_seq ?_
  refine tr_region fun _ _ _ => ?_
  refine pu rfl rfl rfl rfl rfl ?_
  refine tr_block ?_
  refine tr_loop1 (fun (i : Int) => [(1, .int .i64 x), (2, .pointer (some p0)), (5, .int .i64 i)]) (fun (i : Int) => [blk p0 24 [.int .i64 p, .int .i64 m, .slice A mod.length c], ro A (ints mod)]) (fun (i : Int) => 1 ≤ i ∧ i ≤ pw p m ∧ ∀ j : Int, 1 ≤ j → j < i → mulI p m mod (inI (ordI p m) x) j ≠ 1) (fun (i : Int) => (pw p m - i).toNat) (1) ⟨rfl, rfl, rfl, trivial⟩ (by first | exact cs _ _ | exact CSub.refl _) (⟨by omega, by omega, fun j h1 h2 => by omega⟩) (fun i hI => ?_)
  obtain ⟨hi0, hi1, hno⟩ := hI
  refine tr_seq ?_
  refine tr_seq ?_
  refine tr_region fun _ _ _ => ?_
  refine pu rfl rfl rfl rfl rfl ?_
  refine st rfl rfl rfl rfl (rLdS rfl rfl rfl) ?_
  refine ef rfl rfl (eCallV rfl rfl rfl (ref_order _ _ _ _ _) ⟨rfl, trivial⟩ ?_) 
  refine pu rfl rfl rfl rfl rfl ?_
  refine tr_cond_bool rfl (fun h2 => ?_) (fun h2 => ?_)
  · try simp only [zbA] at h2
    refine tr_skip ?_
    refine tr_seq ?_
    refine tr_block ?_
    refine tr_seq ?_
    refine tr_region fun _ _ _ => ?_
    refine st rfl rfl rfl rfl (rLdS rfl rfl rfl) ?_
    iterate 2 refine pu rfl rfl rfl rfl rfl ?_
    refine ef rfl rfl (eCallV rfl rfl rfl (ref_Mul _ _ _ _ _ hs _ _) ⟨rfl, rfl, rfl, trivial⟩ ?_) 
    refine pu rfl rfl rfl rfl rfl ?_
    refine tr_cond_bool rfl (fun h4 => ?_) (fun h4 => ?_)
    · try simp only [zbA] at h4
      refine tr_seq ?_
      refine tr_region fun _ _ _ => ?_
      iterate 2 refine pu rfl rfl rfl rfl rfl ?_
      rw [inI_in (q := ordI p m) (x := i) (by omega) (by omega)] at h4
      have hx0 : inI (ordI p m) x ≠ 0 := fun e => by rw [e, mulI_zero hs] at h4; omega
      have hi := invI_spec hF (z := inI (ordI p m) x) ⟨by omega, by omega⟩
      have hin : i = invI p m mod (inI (ordI p m) x) := mul_inj hF (z := inI (ordI p m) x) ⟨by omega, by omega⟩ ⟨hi.1, hi.2.1⟩ ⟨by omega, by omega⟩ (by rw [hi.2.2, mulI_comm hs, h4])
      exact tr_ret ⟨trivial, _, _, rfl, ⟨by rw [← hin], rfl⟩, CSub.nil _, trivial⟩
    · try simp only [zbA] at h4
      refine tr_skip ?_
      refine tr_region fun _ _ _ => ?_
      refine pu rfl rfl rfl rfl rfl ?_
      refine st rfl rfl rfl rfl (rAdd rfl rfl rfl (by omega) (by omega)) ?_
      refine pu rfl rfl rfl rfl rfl ?_
      refine ⟨i + 1, ⟨rfl, rfl, rfl, trivial⟩, by first | exact cs _ _ | exact CSub.refl _, ?_⟩
      refine ⟨⟨by omega, by omega, fun j h1 h2 => ?_⟩, by omega⟩
      by_cases he : j = i
      · subst he; rw [inI_in (q := ordI p m) (x := j) (by omega) (by omega)] at h4; exact h4
      · exact hno j h1 (by omega)
  · try simp only [zbA] at h2
    refine tr_exit ?_
    refine tr_seq ?_
    refine tr_region fun _ _ _ => ?_
    refine pu rfl rfl rfl rfl rfl ?_
    have hz : invI p m mod (inI (ordI p m) x) = 0 := by
      unfold invI
      rw [dif_neg]
      rintro ⟨y, h1, h2, h3⟩
      have hy0 : y ≠ 0 := fun e => by rw [e, mulI_zero hs] at h3; omega
      exact hno y (by omega) (by omega) (by rw [mulI_comm hs]; exact h3)
    exact tr_ret ⟨trivial, _, _, rfl, ⟨by rw [hz], rfl⟩, CSub.nil _, trivial⟩
end Go.Proofs.YtgnmcoegdogfgaaGreat

set_option linter.unusedSimpArgs false
set_option linter.unusedVariables false
set_option maxRecDepth 100000
namespace Go.Proofs.YtgnmcoegdogfgaaGreat
open Go.RowKit
theorem gf_AddE (g : GfM) {p m : Int} {mod : List Int} [hF : IsF p m mod] (hg : GOk g p m mod) (x y : Int) : Pure Tryz.prog 138 #[.pointer (some g.p), .int .i64 x, .int .i64 y] [gfR g] (isV (.int .i64 (el x + el y : El p m mod).1)) := by
  have h := gf_Add g p m mod hg x y
  rw [hg.eq] at h
  exact h
theorem gf_SubE (g : GfM) {p m : Int} {mod : List Int} [hF : IsF p m mod] (hg : GOk g p m mod) (x y : Int) : Pure Tryz.prog 179 #[.pointer (some g.p), .int .i64 x, .int .i64 y] [gfR g] (isV (.int .i64 (el x - el y : El p m mod).1)) := by
  have h := gf_Sub g p m mod hg x y
  rw [hg.eq] at h
  exact h
theorem gf_MulE (g : GfM) {p m : Int} {mod : List Int} [hF : IsF p m mod] (hg : GOk g p m mod) (x y : Int) : Pure Tryz.prog 132 #[.pointer (some g.p), .int .i64 x, .int .i64 y] [gfR g] (isV (.int .i64 (el x * el y : El p m mod).1)) := by
  have h := gf_Mul g p m mod hg x y
  rw [hg.eq] at h
  exact h
theorem gf_NegE (g : GfM) {p m : Int} {mod : List Int} [hF : IsF p m mod] (hg : GOk g p m mod) (x : Int) : Pure Tryz.prog 116 #[.pointer (some g.p), .int .i64 x] [gfR g] (isV (.int .i64 (-el x : El p m mod).1)) := by
  have h := gf_Neg g p m mod hg x
  rw [hg.eq] at h
  exact h
theorem gf_InvE (g : GfM) {p m : Int} {mod : List Int} [hF : IsF p m mod] (hg : GOk g p m mod) (x : Int) (hx : (el x : El p m mod) ≠ 0) : Pure Tryz.prog 178 #[.pointer (some g.p), .int .i64 x] [gfR g] (isV (.tuple #[.int .i64 (Fd.inv (el x : El p m mod)).1, .int .i64 0])) := by
  have h := gf_Inv g p m mod hg x
  have e : ¬ inI (pw p m) x = 0 := fun e => hx ((val_zero_iff (el x : El p m mod)).1 e)
  rw [hg.eq, if_neg e] at h
  exact h
theorem gf_ScaleE (g : GfM) {p m : Int} {mod : List Int} [hF : IsF p m mod] (hg : GOk g p m mod) (x : Int) (A : Option Addr) (n c : Nat) (l : List Int) (hn : n = l.length) (h9 : l.length ≤ 17592186044415) : Pure Tryz.prog 180 #[.pointer (some g.p), .int .i64 x, .slice A n c] [gfR g, ro A (ints l)] (one (fun v ch => ∃ B, v = .slice B l.length l.length ∧ ch = ow B 3 l.length (ints (l.map fun y => (el x * el y : El p m mod).1)))) := by
  have h := gf_Scale g p m mod hg x A n c l hn h9
  rw [hg.eq] at h
  exact h
theorem poly_CanonE (g : GfM) {p m : Int} {mod : List Int} [hF : IsF p m mod] (hg : GOk g p m mod) (A : Option Addr) (n c : Nat) (a : List Int) (hn : n = a.length) (ha9 : a.length ≤ 17592186044415) : Pure Tryz.prog 123 #[.pointer (some g.p), .slice A n c] [gfR g, ro A (ints a)] (one (fun v ch => ∃ B cap, v = .slice B (il (pol a : Po (El p m mod))).length cap ∧ (il (pol a : Po (El p m mod))).length ≤ cap ∧ ch = ow B 3 cap (ints (il (pol a : Po (El p m mod)))))) := by
  have h := poly_CanonS g A n c a hn ha9
  rw [hg.eq, ← il_pol (mod := mod)] at h
  exact h
theorem El.bd {p m : Int} {mod : List Int} (a : El p m mod) : 0 ≤ a.1 ∧ a.1 < pw p m := a.2
theorem shrink_trim {A : Option Addr} {e : TypeId} {cap : Nat} (l : List Int) (F : List Chunk) : CSub (ow A e cap (ints l) :: F) (ow A e cap (ints (trimL l)) :: F) := by
  have hsh := ow_shrink (e := e) (A := A) (cap := cap) (vs := ints (trimL l)) (ws := ints (l.drop (trimL l).length)) F
  rw [← ints_append, ← trimL_split l] at hsh
  exact hsh
theorem div_acc {R : Type} [Rg R] {a q b r t : R} (h : a = q * b + r) : a = (q + t) * b + (r - t * b) := by grind
theorem allIn_rep {q : Int} (hq : 0 < q) (n : Nat) : AllIn q (List.replicate n 0) := fun z hz => by have := List.eq_of_mem_replicate hz; omega
theorem rep_get (n j : Nat) : (List.replicate n (0 : Int)).getD j 0 = 0 := by rw [List.getD_eq_getElem?_getD, List.getElem?_replicate]; split <;> rfl
theorem il_le {p m : Int} {mod : List Int} [hF : IsF p m mod] (l : List Int) : (il (pol l : Po (El p m mod))).length ≤ l.length := by
  rw [il_length]
  exact Po.len_le (pol_sh l)
theorem poly_Monic_ent : Enters Tryz.prog 125 := enters_of Tryz.func125 (by kernel_rfl) (by kernel_rfl)
theorem poly_Monic (g : GfM) {p m : Int} {mod : List Int} [hF : IsF p m mod] (hg : GOk g p m mod) (A : Option Addr) (n c : Nat) (a : List Int) (hn : n = a.length) (ha9 : a.length ≤ 17592186044415) (h0 : (pol a : Po (El p m mod)) ≠ 0) :
    Pure Tryz.prog 125 #[.pointer (some g.p), .slice A n c] [gfR g, ro A (ints a)] (one (fun v ch => ∃ B cap, v = .tuple #[.slice B (il (Po.mon (pol a : Po (El p m mod)))).length cap, .int .i64 0] ∧ ch = ow B 3 cap (ints (il (Po.mon (pol a : Po (El p m mod))))))) := by
  have hz : 0 < (il (pol a : Po (El p m mod))).length := by rw [il_length]; exact Po.len_pos h0
  have hcl := il_le (p := p) (m := m) (mod := mod) a
  have hld : (el ((il (pol a : Po (El p m mod))).getD (((il (pol a : Po (El p m mod))).length : Int) - 1).toNat 0) : El p m mod) = Po.lead (pol a : Po (El p m mod)) := by rw [il_getD, el_of, Po.lead, il_length, show ((Po.len (pol a : Po (El p m mod)) : Int) - 1).toNat = Po.len (pol a : Po (El p m mod)) - 1 by omega]
  have hnz : (el ((il (pol a : Po (El p m mod))).getD (((il (pol a : Po (El p m mod))).length : Int) - 1).toNat 0) : El p m mod) ≠ 0 := by rw [hld]; exact Po.lead_nz h0
  have hmap := il_map (f := (pol a : Po (El p m mod))) (c := Fd.inv (Po.lead (pol a : Po (El p m mod)))) (Fd.inv_ne (Po.lead_nz h0))
  have hml : (il (Po.mon (pol a : Po (El p m mod)))).length = (il (pol a : Po (El p m mod))).length := by rw [il_length, il_length, Po.mon_len]
  refine pure_of (args := [.pointer (some g.p), .slice A n c]) 30 Tryz.func125 rfl rfl rfl poly_Monic_ent ⟨id, id, trivial⟩ (fun w0 => ?_)
  refine tr_seq ?_
  refine tr_region fun _ _ _ => ?_
  iterate 2 refine pu rfl rfl rfl rfl rfl ?_
  refine tr_seq ?_
  refine tr_region fun _ _ _ => ?_
  iterate 2 refine pu rfl rfl rfl rfl rfl ?_
  refine ef rfl rfl (eCall1 rfl rfl rfl (poly_CanonE g hg _ _ _ _ (by first | omega | rfl | simp) (by omega)) ⟨rfl, rfl, trivial⟩ ?_) 
  rintro _ _ ⟨B1, c1, rfl, hcap1, rfl⟩
  refine pu rfl rfl rfl rfl rfl ?_
  refine tr_seq ?_
  refine tr_seq ?_
  refine tr_region fun _ _ _ => ?_
  refine pu rfl rfl rfl rfl rfl ?_
  refine st rfl rfl rfl rfl (rLen rfl rfl) ?_
  refine pu rfl rfl rfl rfl rfl ?_
  refine tr_cond_bool rfl (fun h2 => ?_) (fun h2 => ?_)
  · try simp only [zbA] at h2
    omega --done
  · try simp only [zbA] at h2
    refine tr_skip ?_
    refine tr_seq ?_
    refine tr_region fun _ _ _ => ?_
    iterate 3 refine pu rfl rfl rfl rfl rfl ?_
    refine st rfl rfl rfl rfl (rLen rfl rfl) ?_
    refine st rfl rfl rfl rfl (rSub rfl rfl rfl (by omega) (by omega)) ?_
    refine st rfl rfl rfl rfl (rIdxI rfl rfl rfl (by omega) (by omega) (by omega)) ?_
    refine st rfl rfl rfl rfl (rLdI rfl rfl (by omega)) ?_
    refine ef rfl rfl (eCallV rfl rfl rfl (gf_InvE g hg _ hnz) ⟨rfl, rfl, trivial⟩ ?_) 
    iterate 5 refine pu rfl rfl rfl rfl rfl ?_
    refine tr_seq ?_
    rw [hld]
    refine tr_region fun _ _ _ => ?_
    iterate 3 refine pu rfl rfl rfl rfl rfl ?_
    refine ef rfl rfl (eCall1 rfl rfl rfl (gf_ScaleE g hg _ _ _ _ (il (pol a : Po (El p m mod))) rfl (by omega)) ⟨rfl, rfl, rfl, trivial⟩ ?_) 
    rintro _ _ ⟨B5, rfl, rfl⟩
    iterate 2 refine pu rfl rfl rfl rfl rfl ?_
    simp only [el_of]
    rw [hmap, show Po.C (Fd.inv (Po.lead (pol a : Po (El p m mod)))) * (pol a : Po (El p m mod)) = Po.mon (pol a : Po (El p m mod)) from rfl]
    exact tr_ret ⟨trivial, _, _, rfl, ⟨_, rfl, _, _, by rw [hml], rfl⟩, cs _ _, trivial, trivial⟩
theorem poly_DivMod_ent : Enters Tryz.prog 124 := enters_of Tryz.func124 (by kernel_rfl) (by kernel_rfl)
theorem poly_DivMod (g : GfM) {p m : Int} {mod : List Int} [hF : IsF p m mod] (hg : GOk g p m mod) (A : Option Addr) (n c : Nat) (a : List Int) (hn : n = a.length) (ha9 : a.length ≤ 17592186044415) (B : Option Addr) (k d : Nat) (b : List Int) (hk : k = b.length) (hb9 : b.length ≤ 17592186044415) (h0 : (pol b : Po (El p m mod)) ≠ 0) :
    Pure Tryz.prog 124 #[.pointer (some g.p), .slice A n c, .slice B k d] [gfR g, ro A (ints a), ro B (ints b)] (two (fun v ch ch2 => ∃ B1 c1 B2 c2, v = .tuple #[.slice B1 (il (Po.quo (pol a : Po (El p m mod)) (pol b : Po (El p m mod)))).length c1, .slice B2 (il (Po.rem (pol a : Po (El p m mod)) (pol b : Po (El p m mod)))).length c2, .int .i64 0] ∧ ch = ow B1 3 c1 (ints (il (Po.quo (pol a : Po (El p m mod)) (pol b : Po (El p m mod))))) ∧ ch2 = ow B2 3 c2 (ints (il (Po.rem (pol a : Po (El p m mod)) (pol b : Po (El p m mod))))))) := by
  have hq2 := hF.q2
  have hla := il_le (p := p) (m := m) (mod := mod) a
  have hlb := il_le (p := p) (m := m) (mod := mod) b
  have hz : 0 < (il (pol b : Po (El p m mod))).length := by rw [il_length]; exact Po.len_pos h0
  have hld : (el ((il (pol b : Po (El p m mod))).getD (((il (pol b : Po (El p m mod))).length : Int) - 1).toNat 0) : El p m mod) = Po.lead (pol b : Po (El p m mod)) := by rw [il_getD, el_of, Po.lead, il_length, show ((Po.len (pol b : Po (El p m mod)) : Int) - 1).toNat = Po.len (pol b : Po (El p m mod)) - 1 by omega]
  have hnz : (el ((il (pol b : Po (El p m mod))).getD (((il (pol b : Po (El p m mod))).length : Int) - 1).toNat 0) : El p m mod) ≠ 0 := by rw [hld]; exact Po.lead_nz h0
  refine pure_of (args := [.pointer (some g.p), .slice A n c, .slice B k d]) 96 Tryz.func124 rfl rfl rfl poly_DivMod_ent ⟨id, id, id, trivial⟩ (fun w0 => ?_)
  refine tr_seq ?_
  refine tr_region fun _ _ _ => ?_
  iterate 3 refine pu rfl rfl rfl rfl rfl ?_
  refine tr_seq ?_
  refine tr_region fun _ _ _ => ?_
  iterate 2 refine pu rfl rfl rfl rfl rfl ?_
  refine ef rfl rfl (eCall1 rfl rfl rfl (poly_CanonE g hg _ _ _ _ (by first | omega | rfl | simp) (by omega)) ⟨rfl, rfl, trivial⟩ ?_) 
  rintro _ _ ⟨B1, c1, rfl, hcap1, rfl⟩
  iterate 2 refine pu rfl rfl rfl rfl rfl ?_
  refine ef rfl rfl (eCall1 rfl rfl rfl (poly_CanonE g hg _ _ _ _ (by first | omega | rfl | simp) (by omega)) ⟨rfl, rfl, trivial⟩ ?_) 
  rintro _ _ ⟨B1a, c1a, rfl, hcap1a, rfl⟩
  iterate 2 refine pu rfl rfl rfl rfl rfl ?_
  refine tr_seq ?_
  refine tr_seq ?_
  refine tr_region fun _ _ _ => ?_
  refine pu rfl rfl rfl rfl rfl ?_
  refine st rfl rfl rfl rfl (rLen rfl rfl) ?_
  refine pu rfl rfl rfl rfl rfl ?_
  refine tr_cond_bool rfl (fun h2 => ?_) (fun h2 => ?_)
  · try simp only [zbA] at h2
    omega --done
  · try simp only [zbA] at h2
    refine tr_skip ?_
    refine tr_seq ?_
    refine tr_region fun _ _ _ => ?_
    iterate 3 refine pu rfl rfl rfl rfl rfl ?_
    refine st rfl rfl rfl rfl (rLen rfl rfl) ?_
    refine st rfl rfl rfl rfl (rSub rfl rfl rfl (by omega) (by omega)) ?_
    refine st rfl rfl rfl rfl (rIdxI rfl rfl rfl (by omega) (by omega) (by omega)) ?_
    refine st rfl rfl rfl rfl (rLdI rfl rfl (by omega)) ?_
    refine ef rfl rfl (eCallV rfl rfl rfl (gf_InvE g hg _ hnz) ⟨rfl, rfl, trivial⟩ ?_) 
    iterate 5 refine pu rfl rfl rfl rfl rfl ?_
    refine tr_seq ?_
    rw [hld]
    refine tr_region fun _ _ _ => ?_
    refine pu rfl rfl rfl rfl rfl ?_
    refine st rfl rfl rfl rfl (rLen rfl rfl) ?_
    refine pu rfl rfl rfl rfl rfl ?_
    refine st rfl rfl rfl rfl (rLen rfl rfl) ?_
    refine st rfl rfl rfl rfl (rSub rfl rfl rfl (by omega) (by omega)) ?_
    refine st rfl rfl rfl rfl (rAdd rfl rfl rfl (by omega) (by omega)) ?_
    refine st rfl rfl rfl rfl (rMax rfl rfl rfl) ?_
    refine ef rfl rfl (eMakeI rfl rfl rfl rfl rfl (by omega) (by omega) (by omega) (fun A5 => ?_)) 
    refine pu rfl rfl rfl rfl rfl ?_
    generalize hN : (max 0 (((il (pol a : Po (El p m mod))).length : Int) - (il (pol b : Po (El p m mod))).length + 1)).toNat = N
    refine tr_seq ?_
    refine tr_seq ?_
    refine tr_region fun _ _ _ => ?_
    refine pu rfl rfl rfl rfl rfl ?_
    refine st rfl rfl rfl rfl (rLen rfl rfl) ?_
    refine pu rfl rfl rfl rfl rfl ?_
    refine st rfl rfl rfl rfl (rLen rfl rfl) ?_
    refine st rfl rfl rfl rfl (rSub rfl rfl rfl (by omega) (by omega)) ?_
    refine pu rfl rfl rfl rfl rfl ?_
    refine tr_block ?_
    refine tr_loop3 (fun (i : Int) (r : List Int) (qs : List Int) => [(0, .pointer (some g.p)), (2, .slice B1a (il (pol b : Po (El p m mod))).length c1a), (6, .slice A5 N N), (7, .slice B1 (il (pol a : Po (El p m mod))).length c1), (9, .int .i64 (Fd.inv (Po.lead (pol b : Po (El p m mod)))).1), (11, .int .i64 i)]) (fun (i : Int) (r : List Int) (qs : List Int) => [ow A5 3 N (ints qs), ow B1a 3 c1a (ints (il (pol b : Po (El p m mod)))), ow B1 3 c1 (ints r), gfR g]) (fun (i : Int) (r : List Int) (qs : List Int) => (i ≤ ((il (pol a : Po (El p m mod))).length : Int) - (il (pol b : Po (El p m mod))).length ∧ 0 ≤ ((il (pol b : Po (El p m mod))).length : Int) + i) ∧ (r.length = (il (pol a : Po (El p m mod))).length ∧ AllIn (pw p m) r) ∧ (qs.length = N ∧ AllIn (pw p m) qs) ∧ (∀ j : Nat, (j : Int) ≤ i → qs.getD j 0 = 0) ∧ Po.Sh (pol r : Po (El p m mod)) (((il (pol b : Po (El p m mod))).length : Int) + i).toNat ∧ (pol a : Po (El p m mod)) = pol qs * (pol b : Po (El p m mod)) + pol r) (fun (i : Int) (r : List Int) (qs : List Int) => (i + 1).toNat) (((il (pol a : Po (El p m mod))).length : Int) - (il (pol b : Po (El p m mod))).length) (il (pol a : Po (El p m mod))) (List.replicate N 0) ⟨rfl, rfl, rfl, rfl, rfl, rfl, trivial⟩ (by first | exact cs _ _ | exact CSub.refl _) (⟨⟨by omega, by omega⟩, ⟨rfl, il_in _⟩, ⟨by simp, allIn_rep (by omega) _⟩, fun j _ => rep_get _ _, fun j hj => by rw [cf_pol, il_getD, el_of]; exact Po.cf_ge (by rw [← il_length]; omega), by rw [pol_rep, pol_il]; grind⟩) (fun i r qs hI => ?_)
    obtain ⟨⟨hi0, hi1⟩, ⟨hrl, hri⟩, ⟨hql, hqi⟩, hq0, hsh, heq⟩ := hI
    refine tr_seq ?_
    refine tr_seq ?_
    refine tr_region fun _ _ _ => ?_
    iterate 2 refine pu rfl rfl rfl rfl rfl ?_
    refine tr_cond_bool rfl (fun h7 => ?_) (fun h7 => ?_)
    · try simp only [zbA] at h7
      refine tr_skip ?_
      refine tr_seq ?_
      refine tr_block ?_
      refine tr_seq ?_
      refine tr_region fun _ _ _ => ?_
      iterate 4 refine pu rfl rfl rfl rfl rfl ?_
      refine st rfl rfl rfl rfl (rLen rfl rfl) ?_
      refine st rfl rfl rfl rfl (rAdd rfl rfl rfl (by omega) (by omega)) ?_
      refine st rfl rfl rfl rfl (rSub rfl rfl rfl (by omega) (by omega)) ?_
      refine st rfl rfl rfl rfl (rIdxI rfl rfl rfl (by omega) (by omega) (by omega)) ?_
      refine st rfl rfl rfl rfl (rLdI rfl rfl (by omega)) ?_
      refine pu rfl rfl rfl rfl rfl ?_
      refine ef rfl rfl (eCallV rfl rfl rfl (gf_MulE g hg _ _) ⟨rfl, rfl, rfl, trivial⟩ ?_) 
      refine pu rfl rfl rfl rfl rfl ?_
      rw [el_of]
      generalize hc : (el (r.getD (i + (il (pol b : Po (El p m mod))).length - 1).toNat 0) * Fd.inv (Po.lead (pol b : Po (El p m mod))) : El p m mod) = cc
      have hcb := cc.2
      refine tr_seq ?_
      refine tr_region fun _ _ _ => ?_
      iterate 3 refine pu rfl rfl rfl rfl rfl ?_
      refine st rfl rfl rfl rfl (rIdxI rfl rfl rfl (by omega) (by omega) (by omega)) ?_
      refine ef rfl rfl (eStI rfl rfl rfl rfl (by omega) ?_) 
      skip
      refine tr_seq ?_
      refine tr_region fun _ _ _ => ?_
      refine pu rfl rfl rfl rfl rfl ?_
      refine st rfl rfl rfl rfl (rLen rfl rfl) ?_
      refine pu rfl rfl rfl rfl rfl ?_
      refine tr_block ?_
      refine tr_loop2 (fun (j : Int) (r2 : List Int) => [(0, .pointer (some g.p)), (2, .slice B1a (il (pol b : Po (El p m mod))).length c1a), (6, .slice A5 N N), (7, .slice B1 (il (pol a : Po (El p m mod))).length c1), (9, .int .i64 (Fd.inv (Po.lead (pol b : Po (El p m mod)))).1), (11, .int .i64 i), (12, .int .i64 cc.1), (67, .slice B1a (il (pol b : Po (El p m mod))).length c1a), (68, .int .i64 (il (pol b : Po (El p m mod))).length), (69, .int .i64 j)]) (fun (j : Int) (r2 : List Int) => [ow A5 3 N (ints (qs.set i.toNat cc.1)), ow B1a 3 c1a (ints (il (pol b : Po (El p m mod)))), ow B1 3 c1 (ints r2), gfR g]) (fun (j : Int) (r2 : List Int) => (0 ≤ j ∧ j ≤ (il (pol b : Po (El p m mod))).length) ∧ (r2.length = (il (pol a : Po (El p m mod))).length ∧ AllIn (pw p m) r2) ∧ (pol r2 : Po (El p m mod)) = pol r - Po.mn cc i.toNat * pol ((il (pol b : Po (El p m mod))).take j.toNat)) (fun (j : Int) (r2 : List Int) => (((il (pol b : Po (El p m mod))).length : Int) - j).toNat) (0) (r) ⟨rfl, rfl, rfl, rfl, rfl, rfl, rfl, rfl, rfl, rfl, trivial⟩ (by first | exact cs _ _ | exact CSub.refl _) (⟨⟨by omega, by omega⟩, ⟨hrl, hri⟩, by rw [Int.toNat_zero, pol_take_zero]; grind⟩) (fun j r2 hI => ?_)
      obtain ⟨⟨hj0, hj1⟩, ⟨hr2l, hr2i⟩, hr2⟩ := hI
      refine tr_seq ?_
      refine tr_region fun _ _ _ => ?_
      refine pu rfl rfl rfl rfl rfl ?_
      refine tr_seq ?_
      refine tr_cond_bool rfl (fun h12 => ?_) (fun h12 => ?_)
      · try simp only [zbA] at h12
        refine tr_skip ?_
        refine tr_seq ?_
        refine tr_block ?_
        refine tr_seq ?_
        refine tr_region fun _ _ _ => ?_
        refine pu rfl rfl rfl rfl rfl ?_
        refine st rfl rfl rfl rfl (rIdxI rfl rfl rfl (by omega) (by omega) (by omega)) ?_
        refine st rfl rfl rfl rfl (rLdI rfl rfl (by omega)) ?_
        iterate 2 refine pu rfl rfl rfl rfl rfl ?_
        refine tr_draw [0, 1, 2, 3, 4, 5, 6, 7, 8, 9, 10, 11, 12, 13, 14, 15, 16] [17] mixed (by kernel_rfl) fun _ _ _ => ?_
        iterate 3 refine pu rfl rfl rfl rfl rfl ?_
        refine st rfl rfl rfl rfl (rAdd rfl rfl rfl (by omega) (by omega)) ?_
        iterate 4 refine pu rfl rfl rfl rfl rfl ?_
        refine st rfl rfl rfl rfl (rAdd rfl rfl rfl (by omega) (by omega)) ?_
        refine st rfl rfl rfl rfl (rIdxI rfl rfl rfl (by omega) (by omega) (by omega)) ?_
        refine st rfl rfl rfl rfl (rLdI rfl rfl (by omega)) ?_
        iterate 3 refine pu rfl rfl rfl rfl rfl ?_
        refine ef rfl rfl (eCallV rfl rfl rfl (gf_MulE g hg _ _) ⟨rfl, rfl, rfl, trivial⟩ ?_) 
        refine ef rfl rfl (eCallV rfl rfl rfl (gf_SubE g hg _ _) ⟨rfl, rfl, rfl, trivial⟩ ?_) 
        refine st rfl rfl rfl rfl (rIdxI rfl rfl rfl (by omega) (by omega) (by omega)) ?_
        refine ef rfl rfl (eStI rfl rfl rfl rfl (by omega) ?_) 
        refine tr_region fun _ _ _ => ?_
        refine st rfl rfl rfl rfl (rAdd rfl rfl rfl (by omega) (by omega)) ?_
        refine pu rfl rfl rfl rfl rfl ?_
        refine ⟨j + 1, r2.set (i + j).toNat (el (r2.getD (i + j).toNat 0) - el (el cc.1 * el ((il (pol b : Po (El p m mod))).getD j.toNat 0) : El p m mod).1 : El p m mod).1, ⟨rfl, rfl, rfl, rfl, rfl, rfl, rfl, rfl, rfl, rfl, trivial⟩, by first | exact cs _ _ | exact CSub.refl _, ?_⟩
        refine ⟨⟨⟨by omega, by omega⟩, ⟨by simpa using hr2l, hr2i.set (El.bd _) _⟩, ?_⟩, by omega⟩
        rw [pol_set_add (d := -(cc * el ((il (pol b : Po (El p m mod))).getD j.toNat 0))) r2 (by omega) (by rw [el_of, el_of, el_of]; grind), hr2, show (j + 1).toNat = j.toNat + 1 by omega, pol_take_succ, show (i + j).toNat = i.toNat + j.toNat by omega]
        have e1 := Po.mn_mul cc (el ((il (pol b : Po (El p m mod))).getD j.toNat 0)) i.toNat j.toNat
        have e2 := Po.mn_neg (cc * el ((il (pol b : Po (El p m mod))).getD j.toNat 0)) (i.toNat + j.toNat)
        grind
      · try simp only [zbA] at h12
        refine tr_exit ?_
        refine tr_region fun _ _ _ => ?_
        refine pu rfl rfl rfl rfl rfl ?_
        refine st rfl rfl rfl rfl (rSub rfl rfl rfl (by omega) (by omega)) ?_
        refine pu rfl rfl rfl rfl rfl ?_
        refine ⟨i - 1, r2, qs.set i.toNat cc.1, ⟨rfl, rfl, rfl, rfl, rfl, rfl, trivial⟩, by first | exact cs _ _ | exact CSub.refl _, ?_⟩
        have hjn : j = (il (pol b : Po (El p m mod))).length := by omega
        rw [hjn, Int.toNat_natCast, List.take_length, pol_il] at hr2
        have hds := Po.div_step (f := (pol r : Po (El p m mod))) h0 (n := i.toNat) (by rw [← il_length]; exact hsh.mono (by omega))
        have htop : Po.cf (pol r : Po (El p m mod)) (Po.len (pol b : Po (El p m mod)) + i.toNat - 1) = el (r.getD (i + (il (pol b : Po (El p m mod))).length - 1).toNat 0) := by rw [cf_pol, ← il_length, show (il (pol b : Po (El p m mod))).length + i.toNat - 1 = (i + (il (pol b : Po (El p m mod))).length - 1).toNat by omega]
        rw [htop, hc, ← hr2, ← il_length] at hds
        refine ⟨⟨⟨by omega, by omega⟩, ⟨hr2l, hr2i⟩, ⟨by simpa using hql, hqi.set hcb _⟩, fun j hj => ?_, hds.mono (by omega), ?_⟩, by omega⟩
        · rw [getD_set, if_neg (by omega)]; exact hq0 j (by omega)
        · rw [hr2, pol_set_add (d := cc) qs (by omega) (by rw [hq0 _ (by omega), el_zero, el_of]; grind)]
          exact div_acc heq
    · try simp only [zbA] at h7
      refine tr_exit ?_
      refine tr_seq ?_
      refine tr_region fun _ _ _ => ?_
      refine pu rfl rfl rfl rfl rfl ?_
      refine ef rfl rfl (eCallV rfl rfl rfl (poly_trim _ _ _ qs (by omega) (by omega) (by omega)) ⟨rfl, trivial⟩ ?_) 
      refine pu rfl rfl rfl rfl rfl ?_
      refine ef rfl rfl (eCallV rfl rfl rfl (poly_trim _ _ _ r (by omega) (by omega) (by omega)) ⟨rfl, trivial⟩ ?_) 
      iterate 3 refine pu rfl rfl rfl rfl rfl ?_
      obtain ⟨hqq, hrr⟩ := Po.div_of heq (by rw [← il_length (f := (pol b : Po (El p m mod)))]; have := Po.len_le hsh; omega)
      rw [hqq, hrr, il_trim hqi, il_trim hri]
      exact tr_ret ⟨trivial, _, _, rfl, ⟨_, _, rfl, A5, N, B1, c1, rfl, rfl, rfl⟩, (cs _ [ow A5 3 N (ints qs), ow B1 3 c1 (ints r)]).trans ((shrink_trim _ _).trans (CSub.cons _ (shrink_trim _ _))), trivial, trivial, trivial⟩
theorem poly_Gcd_ent : Enters Tryz.prog 69 := enters_of Tryz.func69 (by kernel_rfl) (by kernel_rfl)
theorem poly_Gcd (g : GfM) {p m : Int} {mod : List Int} [hF : IsF p m mod] (hg : GOk g p m mod) (A : Option Addr) (n c : Nat) (a : List Int) (hn : n = a.length) (ha9 : a.length ≤ 17592186044415) (B : Option Addr) (k d : Nat) (b : List Int) (hk : k = b.length) (hb9 : b.length ≤ 17592186044415) (h0 : (pol a : Po (El p m mod)) ≠ 0 ∨ (pol b : Po (El p m mod)) ≠ 0) :
    Pure Tryz.prog 69 #[.pointer (some g.p), .slice A n c, .slice B k d] [gfR g, ro A (ints a), ro B (ints b)] (one (fun v ch => ∃ B cap, v = .slice B (il (Po.gcd (pol a : Po (El p m mod)) (pol b : Po (El p m mod)))).length cap ∧ ch = ow B 3 cap (ints (il (Po.gcd (pol a : Po (El p m mod)) (pol b : Po (El p m mod))))))) := by
  have hq2 := hF.q2
  have hla := il_le (p := p) (m := m) (mod := mod) a
  have hlb := il_le (p := p) (m := m) (mod := mod) b
  refine pure_of (args := [.pointer (some g.p), .slice A n c, .slice B k d]) 38 Tryz.func69 rfl rfl rfl poly_Gcd_ent ⟨id, id, id, trivial⟩ (fun w0 => ?_)
  refine tr_seq ?_
  refine tr_region fun _ _ _ => ?_
  refine pu rfl rfl rfl rfl rfl ?_
  refine tr_seq ?_
  refine tr_region fun _ _ _ => ?_
  iterate 2 refine pu rfl rfl rfl rfl rfl ?_
  refine ef rfl rfl (eCall1 rfl rfl rfl (poly_CanonE g hg _ _ _ _ (by first | omega | rfl | simp) (by omega)) ⟨rfl, rfl, trivial⟩ ?_) 
  rintro _ _ ⟨B1, c1, rfl, hcap1, rfl⟩
  iterate 2 refine pu rfl rfl rfl rfl rfl ?_
  refine ef rfl rfl (eCall1 rfl rfl rfl (poly_CanonE g hg _ _ _ _ (by first | omega | rfl | simp) (by omega)) ⟨rfl, rfl, trivial⟩ ?_) 
  rintro _ _ ⟨B1a, c1a, rfl, hcap1a, rfl⟩
  iterate 2 refine pu rfl rfl rfl rfl rfl ?_
  refine tr_seq ?_
  refine tr_block ?_
  refine tr_loop6 (fun (f : Po (El p m mod)) (h : Po (El p m mod)) (A6 : Option Addr) (c6 : Nat) (A7 : Option Addr) (c7 : Nat) => [(0, .pointer (some g.p)), (1, .slice A6 (il f).length c6), (2, .slice A7 (il h).length c7)]) (fun (f : Po (El p m mod)) (h : Po (El p m mod)) (A6 : Option Addr) (c6 : Nat) (A7 : Option Addr) (c7 : Nat) => [ow A6 3 c6 (ints (il f)), ow A7 3 c7 (ints (il h)), gfR g]) (fun (f : Po (El p m mod)) (h : Po (El p m mod)) (A6 : Option Addr) (c6 : Nat) (A7 : Option Addr) (c7 : Nat) => (f ≠ 0 ∨ h ≠ 0) ∧ (Po.len f ≤ 17592186044415 ∧ Po.len h ≤ 17592186044415) ∧ Po.gcd f h = Po.gcd (pol a : Po (El p m mod)) (pol b : Po (El p m mod))) (fun (f : Po (El p m mod)) (h : Po (El p m mod)) (A6 : Option Addr) (c6 : Nat) (A7 : Option Addr) (c7 : Nat) => Po.len h) ((pol a : Po (El p m mod))) ((pol b : Po (El p m mod))) (B1) (c1) (B1a) (c1a) ⟨rfl, rfl, rfl, trivial⟩ (by first | exact cs _ _ | exact CSub.refl _) (⟨h0, ⟨by rw [← il_length]; omega, by rw [← il_length]; omega⟩, rfl⟩) (fun f h A6 c6 A7 c7 hI => ?_)
  obtain ⟨hnz, ⟨hfl, hhl⟩, hgc⟩ := hI
  refine tr_seq ?_
  refine tr_seq ?_
  refine tr_region fun _ _ _ => ?_
  refine pu rfl rfl rfl rfl rfl ?_
  refine st rfl rfl rfl rfl (rLen rfl rfl) ?_
  refine pu rfl rfl rfl rfl rfl ?_
  refine tr_cond_bool rfl (fun h2 => ?_) (fun h2 => ?_)
  · try simp only [zbA] at h2
    refine tr_skip ?_
    refine tr_block ?_
    refine tr_seq ?_
    have hh : h ≠ 0 := Po.len_pos_iff.1 (by rw [← il_length]; omega)
    have hrl := Po.rem_len f hh
    have hgs := Po.gcd_step f hh
    refine tr_region fun _ _ _ => ?_
    iterate 3 refine pu rfl rfl rfl rfl rfl ?_
    refine ef rfl rfl (eCall2 rfl rfl rfl (poly_DivMod g hg _ _ _ (il f) rfl (by rw [il_length]; omega) _ _ _ (il h) rfl (by rw [il_length]; omega) (by rw [pol_il]; exact hh)) ⟨rfl, rfl, rfl, trivial⟩ ?_) 
    rintro _ _ _ ⟨A3, c3, B3, d3, rfl, rfl, rfl⟩
    iterate 7 refine pu rfl rfl rfl rfl rfl ?_
    simp only [pol_il]
    refine tr_region fun _ _ _ => ?_
    iterate 4 refine pu rfl rfl rfl rfl rfl ?_
    refine ⟨h, Po.rem f h, A7, c7, B3, d3, ⟨rfl, rfl, rfl, trivial⟩, by first | exact cs _ _ | exact CSub.refl _, ?_⟩
    exact ⟨⟨.inl hh, ⟨hhl, by omega⟩, by rw [← hgs, hgc]⟩, hrl⟩
  · try simp only [zbA] at h2
    refine tr_exit ?_
    refine tr_seq ?_
    have hh : h = 0 := Po.eq_zero_of_len (by rw [← il_length]; omega)
    have hf0 : f ≠ 0 := hnz.resolve_right (fun e => e hh)
    rw [hh, Po.gcd_zero] at hgc
    refine tr_region fun _ _ _ => ?_
    iterate 2 refine pu rfl rfl rfl rfl rfl ?_
    refine ef rfl rfl (eCall1 rfl rfl rfl (poly_Monic g hg _ _ _ (il f) rfl (by rw [il_length]; omega) (by rw [pol_il]; exact hf0)) ⟨rfl, rfl, trivial⟩ ?_) 
    rintro _ _ ⟨B5, c5, rfl, rfl⟩
    iterate 5 refine pu rfl rfl rfl rfl rfl ?_
    simp only [pol_il, hgc]
    refine tr_seq ?_
    refine tr_region fun _ _ _ => ?_
    iterate 2 refine pu rfl rfl rfl rfl rfl ?_
    exact tr_ret ⟨trivial, _, _, rfl, ⟨_, rfl, _, _, rfl, rfl⟩, cs _ _, trivial, trivial⟩
section
variable {p m : Int} {mod : List Int} [hF : IsF p m mod]
noncomputable def xn1 (n : Nat) : Po (El p m mod) := Po.mn 1 n - 1
theorem cf_xn1 {n : Nat} (hn : 1 ≤ n) (j : Nat) : Po.cf (xn1 n : Po (El p m mod)) j = if j = n then 1 else if j = 0 then -1 else 0 := by
  unfold xn1
  rw [Po.cf_sub, Po.cf_mn, Po.cf_one]
  by_cases h : j = n
  · rw [if_pos h, if_pos h, if_neg (by omega)]; grind
  · rw [if_neg h, if_neg h]
    by_cases h2 : j = 0
    · rw [if_pos h2, if_pos h2]; grind
    · rw [if_neg h2, if_neg h2]; grind
theorem xn1_sh {n : Nat} (hn : 1 ≤ n) : Po.Sh (xn1 n : Po (El p m mod)) (n + 1) := fun j hj => by rw [cf_xn1 hn, if_neg (by omega), if_neg (by omega)]
theorem xn1_len {n : Nat} (hn : 1 ≤ n) : Po.len (xn1 n : Po (El p m mod)) = n + 1 := Po.len_eq (xn1_sh hn) (by rw [cf_xn1 hn, if_pos rfl]; exact Fd.one_ne)
theorem xn1_ne {n : Nat} (hn : 1 ≤ n) : (xn1 n : Po (El p m mod)) ≠ 0 := Po.len_pos_iff.1 (by rw [xn1_len hn]; omega)
noncomputable def aroundL (p m : Int) (mod : List Int) [hF : IsF p m mod] (n : Nat) : List Int := ((List.replicate (n + 1) 0).set 0 (-(el 1 : El p m mod)).1).set n 1
theorem around_length (n : Nat) : (aroundL p m mod n).length = n + 1 := by simp [aroundL]
theorem pol_around {n : Nat} (hn : 1 ≤ n) : (pol (aroundL p m mod n) : Po (El p m mod)) = xn1 n := Po.ext fun j => by
  rw [cf_pol, cf_xn1 hn, aroundL, cf_set _ _ (by simp), cf_set _ _ (by simp), rep_get, el_one, el_zero, el_of]
end
theorem cyc_around_ent : Enters Tryz.prog 62 := enters_of Tryz.func62 (by kernel_rfl) (by kernel_rfl)
theorem cyc_around (g : GfM) {p m : Int} {mod : List Int} [hF : IsF p m mod] (hg : GOk g p m mod) (n : Int) (hn : 1 ≤ n) (hn9 : n ≤ 1000000) :
    Pure Tryz.prog 62 #[.pointer (some g.p), .int .i64 n] [gfR g] (one (fun v ch => ∃ B, v = .slice B (aroundL p m mod n.toNat).length (aroundL p m mod n.toNat).length ∧ ch = ow B 3 (aroundL p m mod n.toNat).length (ints (aroundL p m mod n.toNat)))) := by
  have hal := around_length (p := p) (m := m) (mod := mod) n.toNat
  have hl0 : (List.replicate (n + 1).toNat (0 : Int)).length = (n + 1).toNat := by simp
  have hl1 : ((List.replicate (n + 1).toNat (0 : Int)).set (Int.toNat 0) (-(el 1 : El p m mod)).1).length = (n + 1).toNat := by simp
  refine pure_of (args := [.pointer (some g.p), .int .i64 n]) 17 Tryz.func62 rfl rfl rfl cyc_around_ent ⟨id, trivial⟩ (fun w0 => ?_)
  refine tr_seq ?_
  refine tr_region fun _ _ _ => ?_
  refine pu rfl rfl rfl rfl rfl ?_
  refine tr_seq ?_
  refine tr_region fun _ _ _ => ?_
  refine pu rfl rfl rfl rfl rfl ?_
  refine st rfl rfl rfl rfl (rAdd rfl rfl rfl (by omega) (by omega)) ?_
  refine ef rfl rfl (eMakeI rfl rfl rfl rfl rfl (by omega) (by omega) (by omega) (fun A1 => ?_)) 
  refine pu rfl rfl rfl rfl rfl ?_
  refine tr_seq ?_
  refine tr_region fun _ _ _ => ?_
  iterate 4 refine pu rfl rfl rfl rfl rfl ?_
  refine ef rfl rfl (eCallV rfl rfl rfl (gf_NegE g hg _) ⟨rfl, rfl, trivial⟩ ?_) 
  refine st rfl rfl rfl rfl (rIdxI rfl rfl rfl (by omega) (by omega) (by omega)) ?_
  refine ef rfl rfl (eStI rfl rfl rfl rfl (by omega) ?_) 
  refine st rfl rfl rfl rfl (rIdxI rfl rfl rfl (by omega) (by omega) (by omega)) ?_
  refine ef rfl rfl (eStI rfl rfl rfl rfl (by omega) ?_) 
  refine tr_seq ?_
  refine tr_region fun _ _ _ => ?_
  iterate 2 refine pu rfl rfl rfl rfl rfl ?_
  have hnn : (n + 1).toNat = n.toNat + 1 := by omega
  have hdef : ((List.replicate (n.toNat + 1) (0 : Int)).set 0 (-(el 1 : El p m mod)).1).set n.toNat 1 = aroundL p m mod n.toNat := rfl
  simp only [hnn, Int.toNat_zero, hdef]
  exact tr_ret ⟨trivial, _, _, rfl, ⟨_, rfl, _, by rw [hal], rfl⟩, by rw [hal]; exact cs _ _, trivial, trivial⟩
theorem ref_AddE (p m : Int) (A : Option Addr) (c : Nat) (mod : List Int) [hF : IsF p m mod] (x y : Int) : Pure Tryz.prog 89 #[.agg #[.int .i64 p, .int .i64 m, .slice A mod.length c], .int .i64 x, .int .i64 y] [ro A (ints mod)] (isV (.int .i64 (el x + el y : El p m mod).1)) := by
  have h := ref_Add p m A c mod hF.out.1.1 x y
  rw [hF.ord] at h
  exact h
theorem ref_MulE (p m : Int) (A : Option Addr) (c : Nat) (mod : List Int) [hF : IsF p m mod] (x y : Int) : Pure Tryz.prog 90 #[.agg #[.int .i64 p, .int .i64 m, .slice A mod.length c], .int .i64 x, .int .i64 y] [ro A (ints mod)] (isV (.int .i64 (el x * el y : El p m mod).1)) := by
  have h := ref_Mul p m A c mod hF.out.1.1 x y
  rw [hF.ord] at h
  exact h
theorem ref_NegE (p m : Int) (A : Option Addr) (c : Nat) (mod : List Int) [hF : IsF p m mod] (x : Int) : Pure Tryz.prog 152 #[.agg #[.int .i64 p, .int .i64 m, .slice A mod.length c], .int .i64 x] [ro A (ints mod)] (isV (.int .i64 (-el x : El p m mod).1)) := by
  have h := ref_Neg p m A c mod hF.out.1.1 x
  rw [hF.ord] at h
  exact h
theorem ref_InvE (p m : Int) (A : Option Addr) (c : Nat) (mod : List Int) [hF : IsF p m mod] (x : Int) : Pure Tryz.prog 193 #[.agg #[.int .i64 p, .int .i64 m, .slice A mod.length c], .int .i64 x] [ro A (ints mod)] (isV (.int .i64 (Fd.inv (el x) : El p m mod).1)) := by
  have h := ref_Inv p m A c mod hF.out x
  rw [hF.ord] at h
  exact h
end Go.Proofs.YtgnmcoegdogfgaaGreat

set_option linter.unusedSimpArgs false
set_option linter.unusedVariables false
set_option maxRecDepth 100000
namespace Go.Proofs.YtgnmcoegdogfgaaGreat
open Go.RowKit
section
variable {p m : Int} {mod : List Int} [hF : IsF p m mod]
noncomputable def addR (c : El p m mod) (ds ss : List Int) : List Int := (List.range ds.length).map fun j => (el (ds.getD j 0) + c * el (ss.getD j 0) : El p m mod).1
noncomputable def sclR (c : El p m mod) (xs : List Int) : List Int := xs.map fun y => (c * el y : El p m mod).1
@[simp] theorem addR_length (c : El p m mod) (ds ss : List Int) : (addR c ds ss).length = ds.length := by simp [addR]
@[simp] theorem sclR_length (c : El p m mod) (xs : List Int) : (sclR c xs).length = xs.length := by simp [sclR]
theorem addR_get (c : El p m mod) (ds ss : List Int) {j : Nat} (h : j < ds.length) : (addR c ds ss).getD j 0 = (el (ds.getD j 0) + c * el (ss.getD j 0) : El p m mod).1 := by
  unfold addR
  rw [List.getD_eq_getElem?_getD, List.getElem?_map, List.getElem?_range h]
  rfl
theorem addR_in (c : El p m mod) (ds ss : List Int) : AllIn (pw p m) (addR c ds ss) := fun z hz => by
  obtain ⟨j, _, rfl⟩ := List.mem_map.1 hz
  exact El.bd _
theorem sclR_in (c : El p m mod) (xs : List Int) : AllIn (pw p m) (sclR c xs) := fun z hz => by
  obtain ⟨j, _, rfl⟩ := List.mem_map.1 hz
  exact El.bd _
theorem getD_out {l : List Int} {j : Nat} (h : l.length ≤ j) : l.getD j 0 = 0 := by rw [List.getD_eq_getElem?_getD, List.getElem?_eq_none h]; rfl
theorem rw_addR (c : El p m mod) (ds ss : List Int) (h : ss.length ≤ ds.length) : (rw' (addR c ds ss) : Vc (El p m mod)) = rw' ds + Vc.sc c (rw' ss) := Vc.ext fun j => by
  rw [Vc.add_at, Vc.sc_at, rw_at, rw_at, rw_at]
  by_cases hj : j < ds.length
  · rw [addR_get c ds ss hj, el_of]
  · rw [getD_out (by simpa using hj), getD_out (l := ds) (by omega), getD_out (l := ss) (by omega), el_zero]; grind
theorem rw_sclR (c : El p m mod) (xs : List Int) : (rw' (sclR c xs) : Vc (El p m mod)) = Vc.sc c (rw' xs) := Vc.ext fun j => by
  rw [Vc.sc_at, rw_at, rw_at]
  by_cases hj : j < xs.length
  · unfold sclR
    rw [List.getD_eq_getElem?_getD, List.getElem?_map, List.getElem?_eq_getElem hj, List.getD_eq_getElem?_getD, List.getElem?_eq_getElem hj]
    exact el_of _
  · rw [getD_out (by simpa using hj), getD_out (l := xs) (by omega), el_zero]; grind
end
theorem mem_erase {rs : List RowM} {i k : Nat} (hk : k < rs.length) (h : k ≠ i) : rs.getD k rowD ∈ rs.eraseIdx i := by
  rw [List.mem_eraseIdx_iff_getElem]
  exact ⟨k, hk, h, by rw [List.getD_eq_getElem?_getD, List.getElem?_eq_getElem hk]; rfl⟩
theorem mat_add_ent : Enters Tryz.prog 238 := enters_of Tryz.func238 (by kernel_rfl) (by kernel_rfl)
theorem mat_add (g : GfM) {p m : Int} {mod : List Int} [hF : IsF p m mod] (hg : GOk g p m mod) (D : Option Addr) (cd : Nat) (ds : List Int) (c : Int) (B : Option Addr) (cb : Nat) (ss : List Int) (hl : ss.length = ds.length) (h9 : ds.length ≤ 17592186044415) (hds : AllIn (pw p m) ds) :
    Mut Tryz.prog 238 #[.pointer (some g.p), .slice D ds.length cd, .int .i64 c, .slice B ss.length cb] [ow D 3 cd (ints ds)] [gfR g, ro B (ints ss)] (one (fun v ch => v = .tuple #[] ∧ ch = ow D 3 cd (ints (addR (el c : El p m mod) ds ss)))) := by
  refine mut_of (args := [.pointer (some g.p), .slice D ds.length cd, .int .i64 c, .slice B ss.length cb]) 33 (F := [ow D 3 cd (ints ds), gfR g, ro B (ints ss)]) rfl Tryz.func238 rfl rfl rfl mat_add_ent (fun w0 => ?_)
  refine tr_seq ?_
  refine tr_region fun _ _ _ => ?_
  refine pu rfl rfl rfl rfl rfl ?_
  refine st rfl rfl rfl rfl (rLen rfl rfl) ?_
  refine pu rfl rfl rfl rfl rfl ?_
  refine tr_block ?_
  refine tr_loop2 (fun (j : Int) (o : List Int) => [(0, .pointer (some g.p)), (1, .slice D ds.length cd), (2, .int .i64 c), (10, .slice B ss.length cb), (11, .int .i64 ss.length), (12, .int .i64 j)]) (fun (j : Int) (o : List Int) => [ow D 3 cd (ints o), gfR g, ro B (ints ss)]) (fun (j : Int) (o : List Int) => (0 ≤ j ∧ j ≤ ss.length) ∧ o.length = ds.length ∧ (∀ t : Nat, (t : Int) < j → o.getD t 0 = (el (ds.getD t 0) + el c * el (ss.getD t 0) : El p m mod).1) ∧ ∀ t : Nat, j ≤ t → o.getD t 0 = ds.getD t 0) (fun (j : Int) (o : List Int) => (ss.length - j).toNat) (0) (ds) ⟨rfl, rfl, rfl, rfl, rfl, rfl, trivial⟩ (by first | exact cs _ _ | exact CSub.refl _) (⟨⟨by omega, by omega⟩, rfl, fun t ht => by omega, fun t ht => rfl⟩) (fun j o hI => ?_)
  obtain ⟨⟨hj0, hj1⟩, hol, ho1, ho2⟩ := hI
  refine tr_seq ?_
  refine tr_region fun _ _ _ => ?_
  refine pu rfl rfl rfl rfl rfl ?_
  refine tr_seq ?_
  refine tr_cond_bool rfl (fun h1 => ?_) (fun h1 => ?_)
  · try simp only [zbA] at h1
    refine tr_skip ?_
    refine tr_seq ?_
    refine tr_block ?_
    refine tr_seq ?_
    refine tr_region fun _ _ _ => ?_
    refine pu rfl rfl rfl rfl rfl ?_
    refine st rfl rfl rfl rfl (rIdxI rfl rfl rfl (by omega) (by omega) (by omega)) ?_
    refine st rfl rfl rfl rfl (rLdI rfl rfl (by omega)) ?_
    iterate 2 refine pu rfl rfl rfl rfl rfl ?_
    refine tr_seq ?_
    refine tr_region fun _ _ _ => ?_
    iterate 2 refine pu rfl rfl rfl rfl rfl ?_
    refine tr_cond_bool rfl (fun h3 => ?_) (fun h3 => ?_)
    · try simp only [zbA] at h3
      refine tr_draw [0, 1, 2, 3, 4, 5, 6, 7, 8, 9, 10, 11, 12] [13] mixed (by kernel_rfl) fun _ _ _ => ?_
      iterate 5 refine pu rfl rfl rfl rfl rfl ?_
      refine st rfl rfl rfl rfl (rIdxI rfl rfl rfl (by omega) (by omega) (by omega)) ?_
      refine st rfl rfl rfl rfl (rLdI rfl rfl (by omega)) ?_
      iterate 3 refine pu rfl rfl rfl rfl rfl ?_
      refine ef rfl rfl (eCallV rfl rfl rfl (gf_MulE g hg _ _) ⟨rfl, rfl, rfl, trivial⟩ ?_) 
      refine ef rfl rfl (eCallV rfl rfl rfl (gf_AddE g hg _ _) ⟨rfl, rfl, rfl, trivial⟩ ?_) 
      refine st rfl rfl rfl rfl (rIdxI rfl rfl rfl (by omega) (by omega) (by omega)) ?_
      refine ef rfl rfl (eStI rfl rfl rfl rfl (by omega) ?_) 
      refine tr_region fun _ _ _ => ?_
      refine st rfl rfl rfl rfl (rAdd rfl rfl rfl (by omega) (by omega)) ?_
      refine pu rfl rfl rfl rfl rfl ?_
      refine ⟨j + 1, o.set j.toNat (el (o.getD j.toNat 0) + el (el c * el (ss.getD j.toNat 0) : El p m mod).1 : El p m mod).1, ⟨rfl, rfl, rfl, rfl, rfl, rfl, trivial⟩, by first | exact cs _ _ | exact CSub.refl _, ?_⟩
      refine ⟨⟨⟨by omega, by omega⟩, by simpa using hol, fun t ht => ?_, fun t ht => ?_⟩, by omega⟩
      · rw [getD_set]
        by_cases he : j.toNat = t
        · subst he; rw [if_pos ⟨rfl, by omega⟩, el_of, ho2 _ (by omega)]
        · rw [if_neg (by omega)]; exact ho1 t (by omega)
      · rw [getD_set, if_neg (by omega)]; exact ho2 t (by omega)
    · try simp only [zbA] at h3
      refine tr_skip ?_
      refine tr_region fun _ _ _ => ?_
      refine st rfl rfl rfl rfl (rAdd rfl rfl rfl (by omega) (by omega)) ?_
      refine pu rfl rfl rfl rfl rfl ?_
      refine ⟨j + 1, o, ⟨rfl, rfl, rfl, rfl, rfl, rfl, trivial⟩, by first | exact cs _ _ | exact CSub.refl _, ?_⟩
      refine ⟨⟨⟨by omega, by omega⟩, hol, fun t ht => ?_, fun t ht => ho2 t (by omega)⟩, by omega⟩
      by_cases he : j.toNat = t
      · subst he
        have hb := hds.get (by have := hF.q2; omega) j.toNat
        rw [ho2 _ (by omega), show ss.getD j.toNat 0 = 0 by omega, el_zero, Rg.mul_zero, Rg.add_zero, el_in hb]
      · exact ho1 t (by omega)
  · try simp only [zbA] at h1
    refine tr_exit ?_
    have hfin : o = addR (el c : El p m mod) ds ss := ext_getD (by simpa using hol) fun t => by
      by_cases ht : t < ds.length
      · rw [addR_get _ _ _ ht, ho1 t (by omega)]
      · rw [getD_out (by omega), getD_out (by simp; omega)]
    rw [← hfin]
    exact ⟨trivial, _, _, .nil, ⟨_, rfl, rfl, rfl⟩, cs _ _, trivial, trivial⟩
theorem elim_swap_ent : Enters Tryz.prog 235 := enters_of Tryz.func235 (by kernel_rfl) (by kernel_rfl)
theorem elim_swap (A : Option Addr) (n cp : Nat) (rs : List RowM) (hn : n = rs.length) (pi pk : Addr) (i k : Int) (hi : 0 ≤ i ∧ i < rs.length) (hk : 0 ≤ k ∧ k < rs.length) :
    Mut Tryz.prog 235 #[.slice A n cp, .pointer (some pi), .pointer (some pk)] [ow A 22 cp (hdrs rs), rowsCh 3 rs] [ro (some pi) [.int .i64 i], ro (some pk) [.int .i64 k]] (two (fun v ca cb => v = .tuple #[] ∧ ca = ow A 22 cp (hdrs ((rs.set k.toNat (rs.getD i.toNat rowD)).set i.toNat (rs.getD k.toNat rowD))) ∧ cb = rowsCh 3 ((rs.set k.toNat (rs.getD i.toNat rowD)).set i.toNat (rs.getD k.toNat rowD)))) := by
  haveI : InB i.toNat rs.length := ⟨by omega⟩
  haveI : InB k.toNat rs.length := ⟨by omega⟩
  refine mut_of (args := [.slice A n cp, .pointer (some pi), .pointer (some pk)]) 18 (F := [ow A 22 cp (hdrs rs), rowsCh 3 rs, ro (some pi) [.int .i64 i], ro (some pk) [.int .i64 k]]) rfl Tryz.func235 rfl rfl rfl elim_swap_ent (fun w0 => ?_)
  refine tr_plan [ro (some pi) [.int .i64 i], ro (some pk) [.int .i64 k]] [(0, 0), (0, 1), (2, 2), (2, 3), (0, 4), (0, 5), (0, 6), (0, 7), (0, 8), (0, 9), (0, 10), (0, 11), (0, 12), (1, 13), (0, 14), (1, 15)] mixed (by kernel_rfl) fun _ _ _ => ?_
  refine pu rfl rfl rfl rfl rfl ?_
  refine st rfl rfl rfl rfl (rLd0 rfl rfl) ?_
  refine stF rfl rfl rfl rfl (cs _ _) (rMove rfl rfl) ?_
  refine stF rfl rfl rfl rfl (cs _ _) (rLd0 rfl rfl) ?_
  refine pu rfl rfl rfl rfl rfl ?_
  refine st rfl rfl rfl rfl (rLd0 rfl rfl) ?_
  refine st rfl rfl rfl rfl (rIdxR rfl rfl rfl (by omega) (by omega) (by omega)) ?_
  refine st rfl rfl rfl rfl (rLdR rfl rfl (by omega)) ?_
  refine pu rfl rfl rfl rfl rfl ?_
  refine st rfl rfl rfl rfl (rLd0 rfl rfl) ?_
  refine st rfl rfl rfl rfl (rIdxR rfl rfl rfl (by omega) (by omega) (by omega)) ?_
  refine st rfl rfl rfl rfl (rLdR rfl rfl (by omega)) ?_
  refine st rfl rfl rfl rfl (rIdxR rfl rfl rfl (by omega) (by omega) (by omega)) ?_
  refine ef rfl rfl (eSt rfl rfl rfl rfl (by first | omega | (simp; omega)) rfl rfl ?_) 
  refine ⟨cs _ _, ?_⟩
  refine st rfl rfl rfl rfl (rIdx rfl rfl rfl (by omega) (by omega) (by simp; omega)) ?_
  refine ef rfl rfl (eSt rfl rfl rfl rfl (by first | omega | (simp; omega)) rfl rfl ?_) 
  refine ⟨cs _ _, ?_⟩
  have hh : ((hdrs rs).set k.toNat (RowM.hdr (rs.getD i.toNat rowD))).set i.toNat (RowM.hdr (rs.getD k.toNat rowD)) = hdrs ((rs.set k.toNat (rs.getD i.toNat rowD)).set i.toNat (rs.getD k.toNat rowD)) := by rw [hdrs_set, hdrs_set]
  exact ⟨trivial, _, _, .nil, ⟨_, _, rfl, rfl, rfl, rfl⟩, hh ▸ ((cs _ [rowsCh 3 rs, ow A 22 cp (((hdrs rs).set k.toNat (.slice (rs.getD i.toNat rowD).A (rs.getD i.toNat rowD).xs.length (rs.getD i.toNat rowD).cap)).set i.toNat (.slice (rs.getD k.toNat rowD).A (rs.getD k.toNat rowD).xs.length (rs.getD k.toNat rowD).cap))]).trans ((rows_perm (swap_perm rowD rs (by omega) (by omega)) _).trans (CSub.perm (List.Perm.swap ..)))), trivial, trivial, trivial⟩
theorem elim_scale_ent : Enters Tryz.prog 236 := enters_of Tryz.func236 (by kernel_rfl) (by kernel_rfl)
theorem elim_scale (g : GfM) {p m : Int} {mod : List Int} [hF : IsF p m mod] (hg : GOk g p m mod) (A : Option Addr) (n cp : Nat) (rs : List RowM) (hn : n = rs.length) (pg pf pk : Addr) (f k : Int) (hk : 0 ≤ k ∧ k < rs.length) (hl : (rs.getD k.toNat rowD).xs.length ≤ 17592186044415) :
    Mut Tryz.prog 236 #[.slice A n cp, .pointer (some pg), .pointer (some pf), .pointer (some pk)] [ow A 22 cp (hdrs rs), rowsCh 3 rs] [ro (some pg) [.pointer (some g.p)], ro (some pf) [.int .i64 f], ro (some pk) [.int .i64 k], gfR g] (two (fun v ca cb => ∃ B, v = .tuple #[] ∧ ca = ow A 22 cp (hdrs (rs.set k.toNat (⟨B, (rs.getD k.toNat rowD).xs.length, sclR (el f : El p m mod) (rs.getD k.toNat rowD).xs⟩ : RowM))) ∧ cb = rowsCh 3 (rs.set k.toNat (⟨B, (rs.getD k.toNat rowD).xs.length, sclR (el f : El p m mod) (rs.getD k.toNat rowD).xs⟩ : RowM)))) := by
  haveI : InB k.toNat rs.length := ⟨by omega⟩
  refine mut_of (args := [.slice A n cp, .pointer (some pg), .pointer (some pf), .pointer (some pk)]) 15 (F := [ow A 22 cp (hdrs rs), rowsCh 3 rs, ro (some pg) [.pointer (some g.p)], ro (some pf) [.int .i64 f], ro (some pk) [.int .i64 k], gfR g]) rfl Tryz.func236 rfl rfl rfl elim_scale_ent (fun w0 => ?_)
  refine tr_draw [0, 1, 2, 3, 4, 5, 6, 7, 8, 9] [10] mixed (by kernel_rfl) fun _ _ _ => ?_
  refine pu rfl rfl rfl rfl rfl ?_
  refine st rfl rfl rfl rfl (rLd0 rfl rfl) ?_
  refine st rfl rfl rfl rfl (rLd0 rfl rfl) ?_
  refine st rfl rfl rfl rfl (rLd0 rfl rfl) ?_
  refine pu rfl rfl rfl rfl rfl ?_
  refine st rfl rfl rfl rfl (rLd0 rfl rfl) ?_
  refine st rfl rfl rfl rfl (rIdxR rfl rfl rfl (by omega) (by omega) (by omega)) ?_
  refine st rfl rfl rfl rfl (rLdR rfl rfl (by omega)) ?_
  refine ef rfl rfl (eCall1 rfl rfl rfl (gf_ScaleE g hg _ _ _ _ (rs.getD k.toNat rowD).xs rfl hl) ⟨rfl, rfl, rfl, trivial⟩ ?_) 
  rintro _ _ ⟨B, rfl, rfl⟩
  refine st rfl rfl rfl rfl (rIdxR rfl rfl rfl (by omega) (by omega) (by omega)) ?_
  refine ef rfl rfl (eSt rfl rfl rfl rfl (by first | omega | (simp; omega)) rfl rfl ?_) 
  have hh : (hdrs rs).set k.toNat (.slice B (rs.getD k.toNat rowD).xs.length (rs.getD k.toNat rowD).xs.length) = hdrs (rs.set k.toNat (⟨B, (rs.getD k.toNat rowD).xs.length, sclR (el f : El p m mod) (rs.getD k.toNat rowD).xs⟩ : RowM)) := by rw [hdrs_set]; simp [RowM.hdr]
  exact ⟨trivial, _, _, .nil, ⟨_, _, rfl, B, rfl, rfl, rfl⟩, hh ▸ ((cs _ [rowsCh 3 rs, ow B 3 (rs.getD k.toNat rowD).xs.length (ints ((rs.getD k.toNat rowD).xs.map fun y => (el f * el y : El p m mod).1)), ow A 22 cp ((hdrs rs).set k.toNat (.slice B (rs.getD k.toNat rowD).xs.length (rs.getD k.toNat rowD).xs.length))]).trans ((rows_put (r := (⟨B, (rs.getD k.toNat rowD).xs.length, sclR (el f : El p m mod) (rs.getD k.toNat rowD).xs⟩ : RowM)) (show k.toNat < rs.length by omega) _).trans (CSub.perm (List.Perm.swap ..)))), trivial, trivial, trivial⟩
theorem elim_add_ent : Enters Tryz.prog 237 := enters_of Tryz.func237 (by kernel_rfl) (by kernel_rfl)
theorem elim_add (g : GfM) {p m : Int} {mod : List Int} [hF : IsF p m mod] (hg : GOk g p m mod) (A : Option Addr) (n cp : Nat) (rs : List RowM) (hn : n = rs.length) (pg pi pf pk : Addr) (f i k : Int) (hi : 0 ≤ i ∧ i < rs.length) (hk : 0 ≤ k ∧ k < rs.length) (hik : i ≠ k) (hl : (rs.getD k.toNat rowD).xs.length = (rs.getD i.toNat rowD).xs.length) (hl9 : (rs.getD i.toNat rowD).xs.length ≤ 17592186044415) (hin : AllIn (pw p m) (rs.getD i.toNat rowD).xs) :
    Mut Tryz.prog 237 #[.slice A n cp, .pointer (some pg), .pointer (some pi), .pointer (some pf), .pointer (some pk)] [ow A 22 cp (hdrs rs), rowsCh 3 rs] [ro (some pg) [.pointer (some g.p)], ro (some pi) [.int .i64 i], ro (some pf) [.int .i64 f], ro (some pk) [.int .i64 k], gfR g] (two (fun v ca cb => v = .tuple #[] ∧ ca = ow A 22 cp (hdrs (rs.set i.toNat (⟨(rs.getD i.toNat rowD).A, (rs.getD i.toNat rowD).cap, addR (-(el f : El p m mod)) (rs.getD i.toNat rowD).xs (rs.getD k.toNat rowD).xs⟩ : RowM))) ∧ cb = rowsCh 3 (rs.set i.toNat (⟨(rs.getD i.toNat rowD).A, (rs.getD i.toNat rowD).cap, addR (-(el f : El p m mod)) (rs.getD i.toNat rowD).xs (rs.getD k.toNat rowD).xs⟩ : RowM)))) := by
  haveI : InB i.toNat rs.length := ⟨by omega⟩
  haveI : InB k.toNat rs.length := ⟨by omega⟩
  haveI : RowIn (rs.getD k.toNat rowD) (rs.eraseIdx i.toNat) := ⟨mem_erase (by omega) (by omega)⟩
  refine mut_of (args := [.slice A n cp, .pointer (some pg), .pointer (some pi), .pointer (some pf), .pointer (some pk)]) 19 (F := [ow A 22 cp (hdrs rs), rowsCh 3 rs, ro (some pg) [.pointer (some g.p)], ro (some pi) [.int .i64 i], ro (some pf) [.int .i64 f], ro (some pk) [.int .i64 k], gfR g]) rfl Tryz.func237 rfl rfl rfl elim_add_ent (fun w0 => ?_)
  refine tr_draw [0, 1, 2, 3, 4, 5, 6, 8, 9, 10, 11, 7] [12] mixed (by kernel_rfl) fun _ _ _ => ?_
  refine st rfl rfl rfl rfl (rLd0 rfl rfl) ?_
  refine pu rfl rfl rfl rfl rfl ?_
  refine st rfl rfl rfl rfl (rLd0 rfl rfl) ?_
  refine st rfl rfl rfl rfl (rIdxR rfl rfl rfl (by omega) (by omega) (by omega)) ?_
  refine st rfl rfl rfl rfl (rLdR rfl rfl (by omega)) ?_
  refine st rfl rfl rfl rfl (rLd0 rfl rfl) ?_
  refine st rfl rfl rfl rfl (rLd0 rfl rfl) ?_
  refine pu rfl rfl rfl rfl rfl ?_
  refine st rfl rfl rfl rfl (rLd0 rfl rfl) ?_
  refine st rfl rfl rfl rfl (rIdxR rfl rfl rfl (by omega) (by omega) (by omega)) ?_
  refine st rfl rfl rfl rfl (rLdR rfl rfl (by omega)) ?_
  refine ef rfl rfl (eCallV rfl rfl rfl (gf_NegE g hg _) ⟨rfl, rfl, trivial⟩ ?_) 
  refine st_sub (((cs _ [rowsCh 3 rs, ow A 22 cp (hdrs rs), ro (some pg) [.pointer (some g.p)], ro (some pi) [.int .i64 i], ro (some pf) [.int .i64 f], ro (some pk) [.int .i64 k], gfR g]).trans (rows_out (show i.toNat < rs.length by omega) _) : CSub _ [ow (rs.getD i.toNat rowD).A 3 (rs.getD i.toNat rowD).cap (ints (rs.getD i.toNat rowD).xs), rowsCh 3 (rs.eraseIdx i.toNat), ow A 22 cp (hdrs rs), ro (some pg) [.pointer (some g.p)], ro (some pi) [.int .i64 i], ro (some pf) [.int .i64 f], ro (some pk) [.int .i64 k], gfR g])) ?_
  refine ef rfl rfl (eCallM1 rfl rfl rfl (mat_add g hg _ _ _ _ _ _ _ hl hl9 hin) ⟨rfl, rfl, rfl, rfl, trivial⟩ ?_) 
  rintro _ _ ⟨rfl, rfl⟩
  rw [el_of]
  have hh : (hdrs rs).set i.toNat (RowM.hdr (⟨(rs.getD i.toNat rowD).A, (rs.getD i.toNat rowD).cap, addR (-(el f : El p m mod)) (rs.getD i.toNat rowD).xs (rs.getD k.toNat rowD).xs⟩ : RowM)) = hdrs (rs.set i.toNat (⟨(rs.getD i.toNat rowD).A, (rs.getD i.toNat rowD).cap, addR (-(el f : El p m mod)) (rs.getD i.toNat rowD).xs (rs.getD k.toNat rowD).xs⟩ : RowM)) := (hdrs_set _ _ _).symm
  have hs : (hdrs rs).set i.toNat (RowM.hdr (⟨(rs.getD i.toNat rowD).A, (rs.getD i.toNat rowD).cap, addR (-(el f : El p m mod)) (rs.getD i.toNat rowD).xs (rs.getD k.toNat rowD).xs⟩ : RowM)) = hdrs rs := by
    have e1 : RowM.hdr (⟨(rs.getD i.toNat rowD).A, (rs.getD i.toNat rowD).cap, addR (-(el f : El p m mod)) (rs.getD i.toNat rowD).xs (rs.getD k.toNat rowD).xs⟩ : RowM) = RowM.hdr (rs.getD i.toNat rowD) := by simp [RowM.hdr]
    rw [e1, ← hdrs_set]
    congr 1
    rw [List.getD_eq_getElem?_getD, List.getElem?_eq_getElem (show i.toNat < rs.length by omega)]
    exact List.set_getElem_self _
  exact ⟨trivial, _, _, .nil, ⟨_, _, rfl, rfl, rfl, rfl⟩, (hs.symm.trans hh) ▸ ((cs _ [ow (rs.getD i.toNat rowD).A 3 (rs.getD i.toNat rowD).cap (ints (addR (-(el f : El p m mod)) (rs.getD i.toNat rowD).xs (rs.getD k.toNat rowD).xs)), rowsCh 3 (rs.eraseIdx i.toNat), ow A 22 cp (hdrs rs)]).trans ((rows_in (r := (⟨(rs.getD i.toNat rowD).A, (rs.getD i.toNat rowD).cap, addR (-(el f : El p m mod)) (rs.getD i.toNat rowD).xs (rs.getD k.toNat rowD).xs⟩ : RowM)) (show i.toNat < rs.length by omega) _).trans (CSub.perm (List.Perm.swap ..)))), trivial, trivial, trivial⟩
theorem elim_each_ent : Enters Tryz.prog 234 := enters_of Tryz.func234 (by kernel_rfl) (by kernel_rfl)
theorem elim_each (A : Option Addr) (n cp : Nat) (rs : List RowM) (hn : n = rs.length) (ff : FuncId) (lb : List Value) (p5 p7 : Addr) (Gc : List Chunk) (hGc : NoEx Gc) (Φ : Value → Chunk → Chunk → Prop) (hf : Mut Tryz.prog ff ([(.slice A n cp : Value)] ++ lb).toArray [ow A 22 cp (hdrs rs), rowsCh 3 rs] Gc (two Φ)) (hex : ∀ u c d, Φ u c d → AllEx [c, d]) :
    Mut Tryz.prog 234 #[.func (.func ff) #[] lb.toArray, .pointer (some p5), .pointer (some p7)] [ow A 22 cp (hdrs rs), rowsCh 3 rs] [ro (some p5) [.slice A n cp], ro (some p7) [.slice none 0 0], bun Gc] (two (fun v ca cb => v = .tuple #[] ∧ ∃ u, Φ u ca cb)) := by
  refine mut_of (args := [.func (.func ff) #[] lb.toArray, .pointer (some p5), .pointer (some p7)]) 13 (F := [ow A 22 cp (hdrs rs), rowsCh 3 rs, ro (some p5) [.slice A n cp], ro (some p7) [.slice none 0 0], bun Gc]) rfl Tryz.func234 rfl rfl rfl elim_each_ent (fun w0 => ?_)
  refine tr_seq ?_
  refine tr_region fun _ _ _ => ?_
  refine pu rfl rfl rfl rfl rfl ?_
  refine st rfl rfl rfl rfl (rLd0 rfl rfl) ?_
  refine ef rfl rfl (eCallF2 rfl rfl rfl rfl (hf) ⟨rfl, trivial⟩ ?_ hGc) 
  rintro _ _ _ hΦ
  refine tr_seq ?_
  refine tr_region fun _ _ _ => ?_
  refine st rfl rfl rfl rfl (rLd0 rfl rfl) ?_
  refine st rfl rfl rfl rfl (rLen rfl rfl) ?_
  refine pu rfl rfl rfl rfl rfl ?_
  refine tr_cond_bool rfl (fun h1 => ?_) (fun h1 => ?_)
  · try simp only [zbA] at h1
    exact absurd h1 (by simp) --done
  · try simp only [zbA] at h1
    refine tr_skip ?_
    exact ⟨trivial, _, _, .nil, ⟨_, _, rfl, rfl, _, hΦ⟩, cs _ _, hex _ _ _ hΦ⟩
end Go.Proofs.YtgnmcoegdogfgaaGreat

set_option linter.unusedSimpArgs false
set_option linter.unusedVariables false
set_option linter.unusedSectionVars false
namespace Go.Proofs.YtgnmcoegdogfgaaGreat
namespace Vc
variable {K : Type} [Fd K]
theorem getD_setV {α : Type} (l : List α) (i j : Nat) (v d : α) : (l.set i v).getD j d = if i = j ∧ j < l.length then v else l.getD j d := by
  rw [List.getD_eq_getElem?_getD, List.getElem?_set]
  by_cases h : i = j
  · subst h
    by_cases h2 : i < l.length
    · rw [if_pos rfl, if_pos h2, if_pos ⟨rfl, h2⟩]; rfl
    · rw [if_pos rfl, if_neg h2, if_neg (fun h => h2 h.2), List.getD_eq_getElem?_getD, List.getElem?_eq_none (by omega)]
  · rw [if_neg h, if_neg (fun e => h e.1), ← List.getD_eq_getElem?_getD]
theorem span_perm {V V' : List (Vc K)} (h : V.Perm V') (u : Vc K) : SpL V u ↔ SpL V' u :=
  ⟨fun hu => hu.mono fun r hr => .of (h.mem_iff.1 hr), fun hu => hu.mono fun r hr => .of (h.mem_iff.2 hr)⟩
theorem span_set {V : List (Vc K)} {i : Nat} {v : Vc K} (hi : i < V.length) (h1 : SpL V v) (h2 : SpL (V.set i v) (V.getD i 0)) (u : Vc K) : SpL V u ↔ SpL (V.set i v) u := by
  constructor
  · refine fun hu => hu.mono fun r hr => ?_
    obtain ⟨j, hj, rfl⟩ := List.getElem_of_mem hr
    by_cases hij : i = j
    · subst hij
      have : V.getD i 0 = V[i] := by rw [List.getD_eq_getElem?_getD, List.getElem?_eq_getElem hi]; rfl
      rw [← this]; exact h2
    · refine .of ?_
      rw [List.mem_iff_getElem]
      exact ⟨j, by simpa using hj, by rw [List.getElem_set_ne hij]⟩
  · refine fun hu => hu.mono fun r hr => ?_
    rcases List.mem_or_eq_of_mem_set hr with h | h
    · exact .of h
    · rw [h]; exact h1
structure Eli (W : Vc K → Prop) (n : Nat) (V : List (Vc K)) (c : Nat) (ps : List Nat) : Prop where
  sp : ∀ u, SpL V u ↔ W u
  len : ps.length ≤ V.length
  lt : ∀ i, i < ps.length → ps.getD i 0 < c
  rise : ∀ i k, i < k → k < ps.length → ps.getD i 0 < ps.getD k 0
  one : ∀ i, i < ps.length → V.getD i 0 (ps.getD i 0) = 1
  off : ∀ i k, i < V.length → k < ps.length → i ≠ k → V.getD i 0 (ps.getD k 0) = 0
  low : ∀ i j, i < ps.length → j < ps.getD i 0 → V.getD i 0 j = 0
  zer : ∀ i j, ps.length ≤ i → i < V.length → j < c → V.getD i 0 j = 0
  sup : ∀ i j, i < V.length → n ≤ j → V.getD i 0 j = 0
variable {W : Vc K → Prop} {n c : Nat} {V : List (Vc K)} {ps : List Nat}
theorem Eli.start (hs : ∀ i j, i < V.length → n ≤ j → V.getD i 0 j = 0) : Eli (SpL V) n V 0 [] where
  sp _ := Iff.rfl
  len := Nat.zero_le _
  lt i h := by simp at h
  rise i k _ h := by simp at h
  one i h := by simp at h
  off i k _ h _ := by simp at h
  low i j h := by simp at h
  zer i j _ _ h := by omega
  sup := hs
theorem Eli.skip (h : Eli W n V c ps) (hz : ∀ i, ps.length ≤ i → i < V.length → V.getD i 0 c = 0) : Eli W n V (c + 1) ps :=
  { h with
    lt := fun i hi => by have := h.lt i hi; omega
    zer := fun i j h1 h2 h3 => by
      by_cases e : j = c
      · subst e; exact hz i h1 h2
      · exact h.zer i j h1 h2 (by omega) }
theorem Eli.swap (h : Eli W n V c ps) {a : Nat} (ha : ps.length ≤ a) (ha2 : a < V.length) : Eli W n ((V.set ps.length (V.getD a 0)).set a (V.getD ps.length 0)) c ps := by
  have hp := swap_perm (0 : Vc K) V (i := ps.length) (j := a) (by omega) ha2
  have key : ∀ i, i < V.length → ((V.set ps.length (V.getD a 0)).set a (V.getD ps.length 0)).getD i 0 = V.getD (if i = a then ps.length else if i = ps.length then a else i) 0 := fun i hi => by
    rw [getD_setV]
    by_cases e1 : a = i
    · rw [if_pos (show a = i ∧ i < (V.set ps.length (V.getD a 0)).length from ⟨e1, by simpa using hi⟩), if_pos (show i = a from e1.symm)]
    · rw [if_neg (show ¬ (a = i ∧ i < (V.set ps.length (V.getD a 0)).length) from fun e => e1 e.1), if_neg (show ¬ i = a from fun e => e1 e.symm), getD_setV]
      by_cases e2 : ps.length = i
      · rw [if_pos (show ps.length = i ∧ i < V.length from ⟨e2, hi⟩), if_pos (show i = ps.length from e2.symm)]
      · rw [if_neg (show ¬ (ps.length = i ∧ i < V.length) from fun e => e2 e.1), if_neg (show ¬ i = ps.length from fun e => e2 e.symm)]
  have lenE : ((V.set ps.length (V.getD a 0)).set a (V.getD ps.length 0)).length = V.length := by simp
  refine ⟨fun u => ((span_perm hp u).symm).trans (h.sp u), by rw [lenE]; exact h.len, h.lt, h.rise, fun i hi => ?_, fun i k hi hk hik => ?_, fun i j hi hj => ?_, fun i j h1 h2 h3 => ?_, fun i j hi hj => ?_⟩
  · rw [key i (by have := h.len; omega), if_neg (by omega), if_neg (by omega)]; exact h.one i hi
  · rw [lenE] at hi
    rw [key i hi]
    split
    · exact h.off _ k (by omega) hk (by omega)
    · split
      · exact h.off _ k ha2 hk (by omega)
      · exact h.off _ k hi hk hik
  · rw [key i (by have := h.len; omega), if_neg (by omega), if_neg (by omega)]; exact h.low i j hi hj
  · rw [lenE] at h2
    rw [key i h2]
    split
    · exact h.zer _ j (by omega) (by omega) h3
    · split
      · exact h.zer _ j ha ha2 h3
      · exact h.zer _ j h1 h2 h3
  · rw [lenE] at hi
    rw [key i hi]
    split
    · exact h.sup _ j (by omega) hj
    · split
      · exact h.sup _ j ha2 hj
      · exact h.sup _ j hi hj
theorem Eli.turn (h : Eli W n V c ps) {i : Nat} {v : Vc K} (hi : i < V.length) (hk : ps.length < V.length) (h1 : SpL V v) (h2 : SpL (V.set i v) (V.getD i 0))
    (hv : (∃ f, v = V.getD i 0 + sc f (V.getD ps.length 0) ∧ i ≠ ps.length) ∨ (∃ e, v = sc e (V.getD ps.length 0) ∧ i = ps.length)) : Eli W n (V.set i v) c ps := by
  have key : ∀ t j, t < V.length → (∀ u, u < V.length → u = t ∨ u = ps.length → V.getD u 0 j = 0) → (V.set i v).getD t 0 j = 0 := fun t j ht hz => by
    rw [getD_setV]
    by_cases e : i = t
    · subst e
      rw [if_pos ⟨rfl, ht⟩]
      rcases hv with ⟨f, rfl, _⟩ | ⟨e, rfl, _⟩
      · rw [add_at, sc_at, hz i ht (.inl rfl), hz ps.length hk (.inr rfl)]; grind
      · rw [sc_at, hz ps.length hk (.inr rfl)]; grind
    · rw [if_neg (fun x => e x.1)]; exact hz t ht (.inl rfl)
  have lenE : (V.set i v).length = V.length := by simp
  refine ⟨fun u => (span_set hi h1 h2 u).symm.trans (h.sp u), by rw [lenE]; exact h.len, h.lt, h.rise, fun t ht => ?_, fun t k ht hk2 htk => ?_, fun t j ht hj => ?_, fun t j h3 h4 h5 => ?_, fun t j ht hj => ?_⟩
  · rw [getD_setV]
    by_cases e : i = t
    · subst e
      rw [if_pos ⟨rfl, hi⟩]
      rcases hv with ⟨f, rfl, _⟩ | ⟨e, _, he⟩
      · rw [add_at, sc_at, h.one i ht, h.off ps.length i hk ht (by omega)]; grind
      · omega
    · rw [if_neg (fun x => e x.1)]; exact h.one t ht
  · rw [lenE] at ht
    exact key t _ ht fun u hu hu2 => h.off u k hu hk2 (by rcases hu2 with rfl | rfl <;> omega)
  · exact key t j (by have := h.len; omega) fun u hu hu2 => by
      rcases hu2 with rfl | rfl
      · exact h.low _ j ht hj
      · exact h.zer _ j (Nat.le_refl _) hk (by have := h.lt t ht; omega)
  · rw [lenE] at h4
    exact key t j h4 fun u hu hu2 => h.zer u j (by rcases hu2 with rfl | rfl <;> omega) hu h5
  · rw [lenE] at ht
    exact key t j ht fun u hu _ => h.sup u j hu hj
theorem Eli.scale (h : Eli W n V c ps) (hk : ps.length < V.length) {e : K} (he : e ≠ 0) : Eli W n (V.set ps.length (sc e (V.getD ps.length 0))) c ps := by
  refine h.turn hk hk (Sp.scale _ (.of (getD_eq_mem hk 0))) ?_ (.inr ⟨e, rfl, rfl⟩)
  have h2 : (sc e (V.getD ps.length 0)) ∈ V.set ps.length (sc e (V.getD ps.length 0)) := by
    rw [List.mem_iff_getElem]
    exact ⟨ps.length, by simpa using hk, by rw [List.getElem_set_self]⟩
  have h3 := Sp.scale (Fd.inv e) (Sp.of (S := fun r => r ∈ V.set ps.length (sc e (V.getD ps.length 0))) h2)
  rwa [sc_sc, Fd.inv_mul e he, one_sc] at h3
theorem Eli.plus (h : Eli W n V c ps) (hk : ps.length < V.length) {i : Nat} (hi : i < V.length) (hik : i ≠ ps.length) (f : K) : Eli W n (V.set i (V.getD i 0 + sc f (V.getD ps.length 0))) c ps := by
  refine h.turn hi hk (Sp.plus (.of (getD_eq_mem hi 0)) (Sp.scale _ (.of (getD_eq_mem hk 0)))) ?_ (.inl ⟨f, rfl, hik⟩)
  have h2 : (V.getD i 0 + sc f (V.getD ps.length 0)) ∈ V.set i (V.getD i 0 + sc f (V.getD ps.length 0)) := by
    rw [List.mem_iff_getElem]
    exact ⟨i, by simpa using hi, by rw [List.getElem_set_self]⟩
  have h3 : V.getD ps.length 0 ∈ V.set i (V.getD i 0 + sc f (V.getD ps.length 0)) := by
    rw [List.mem_iff_getElem]
    refine ⟨ps.length, by simpa using hk, ?_⟩
    have e : V.getD ps.length 0 = V[ps.length] := by rw [List.getD_eq_getElem?_getD, List.getElem?_eq_getElem hk]; rfl
    rw [List.getElem_set_ne hik]
    exact e.symm
  have h4 := Sp.plus (Sp.of (S := fun r => r ∈ V.set i (V.getD i 0 + sc f (V.getD ps.length 0))) h2) (Sp.scale (-f) (Sp.of h3))
  have h5 : V.getD i 0 + sc f (V.getD ps.length 0) + sc (-f) (V.getD ps.length 0) = V.getD i 0 := ext fun j => by
    rw [add_at, add_at, sc_at, sc_at]; grind
  rwa [h5] at h4
theorem getD_snoc (ps : List Nat) (c i : Nat) : (ps ++ [c]).getD i 0 = if i < ps.length then ps.getD i 0 else if i = ps.length then c else 0 := by
  rw [List.getD_eq_getElem?_getD, List.getElem?_append]
  split
  · rw [List.getD_eq_getElem?_getD]
  · by_cases h : i = ps.length
    · subst h; rw [if_pos rfl]; simp
    · rw [if_neg h, List.getElem?_eq_none (by simp; omega)]; rfl
theorem Eli.push (h : Eli W n V c ps) (hk : ps.length < V.length) (h1 : V.getD ps.length 0 c = 1) (h0 : ∀ i, i < V.length → i ≠ ps.length → V.getD i 0 c = 0) : Eli W n V (c + 1) (ps ++ [c]) := by
  have ll : (ps ++ [c]).length = ps.length + 1 := by simp
  refine ⟨h.sp, by omega, fun i hi => ?_, fun i k hik hk2 => ?_, fun i hi => ?_, fun i k hi hk2 hik => ?_, fun i j hi hj => ?_, fun i j h2 h3 h4 => ?_, h.sup⟩
  · rw [getD_snoc]
    split
    · rename_i hlt; have := h.lt i hlt; omega
    · split <;> omega
  · rw [getD_snoc, getD_snoc, if_pos (by omega)]
    split
    · rename_i hlt; exact h.rise i k hik hlt
    · rw [if_pos (by omega)]; exact h.lt i (by omega)
  · rw [getD_snoc]
    split
    · rename_i hlt; exact h.one i hlt
    · rw [if_pos (by omega), show i = ps.length by omega]; exact h1
  · rw [getD_snoc]
    split
    · rename_i hlt; exact h.off i k hi hlt hik
    · rw [if_pos (by omega)]; exact h0 i hi (by omega)
  · rw [getD_snoc] at hj
    split at hj
    · rename_i hlt; exact h.low i j hlt hj
    · rw [if_pos (by omega)] at hj
      exact h.zer i j (by omega) (by omega) hj
  · by_cases e : j = c
    · subst e; exact h0 i h3 (by omega)
    · exact h.zer i j (by omega) h3 (by omega)
theorem getD_takeV (V : List (Vc K)) (k i : Nat) (h : i < k) : (V.take k).getD i 0 = V.getD i 0 := by
  rw [List.getD_eq_getElem?_getD, List.getElem?_take, if_pos h, List.getD_eq_getElem?_getD]
theorem Eli.done (h : Eli W n V c ps) (hc : n ≤ c ∨ V.length ≤ ps.length) (hcn : c ≤ n) : Rr n (V.take ps.length) ps ∧ ∀ u, SpL (V.take ps.length) u ↔ W u := by
  have hl : (V.take ps.length).length = ps.length := by rw [List.length_take]; have := h.len; omega
  refine ⟨⟨hl.symm, fun i hi => by have := h.lt i hi; omega, h.rise, fun i hi => ?_, fun i k hi hk hik => ?_, fun i j hi hj => ?_, fun i j hi hj => ?_⟩, fun u => ?_⟩
  · rw [getD_takeV _ _ _ hi]; exact h.one i hi
  · rw [getD_takeV _ _ _ hi]; exact h.off i k (by have := h.len; omega) hk hik
  · rw [getD_takeV _ _ _ hi]; exact h.low i j hi hj
  · rw [getD_takeV _ _ _ hi]; exact h.sup i j (by have := h.len; omega) hj
  · rw [← h.sp u]
    constructor
    · exact fun hu => hu.mono fun r hr => .of (List.mem_of_mem_take hr)
    · refine fun hu => hu.mono fun r hr => ?_
      obtain ⟨i, hi, rfl⟩ := List.getElem_of_mem hr
      by_cases hik : i < ps.length
      · refine .of ?_
        rw [List.mem_iff_getElem]
        exact ⟨i, by omega, by rw [List.getElem_take]⟩
      · have hz : V[i] = 0 := ext fun j => by
          have e : V[i] = V.getD i 0 := by rw [List.getD_eq_getElem?_getD, List.getElem?_eq_getElem hi]; rfl
          rw [e]
          rcases hc with hc | hc
          · by_cases hj : j < c
            · exact h.zer i j (by omega) hi hj
            · exact h.sup i j hi (by omega)
          · omega
        rw [hz]; exact .zero
end Vc
end Go.Proofs.YtgnmcoegdogfgaaGreat

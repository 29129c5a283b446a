/-
  WAYS KNOWN. One sentence: operations behind a guard that is known to hold, or known not to; pointers compared with nil; a slice cut shorter.
  Conditions: none. Plain theorems on the model's own words; no program is named here.
-/
import Derived.Test.YtjmojhflnjbgaaaSymJ
import Derived.Laws.Pointers
set_option linter.unusedSimpArgs false
set_option linter.unusedVariables false
namespace Go.Proofs.Ytjmojhflnjbgaaa
open Go.RowKit

section
variable {P : Program} {N : NB} {M : Nat → Prop} {w0 : World} {L : Fr} {F F' : List Chunk} {K : Fr → List Chunk → Prop} {b x : Bool} {ops : List Oper} {o : Oper} {v : Value} {y z u : Operand} {t t' e : TypeId}
theorem stT {s : Nat} {want b : Bool} (he : isEff o.op = false) (hg : guardSlot ops o = some (s, want)) (hb : Fr.get L s = some (.bool b)) (hbw : (b == want) = true) {d : Nat} (hdd : o.dst = some d) (hd : Nat.ble (d + 1) N.n = true)
    (h : Stl P N M w0 o L F v) (k : K (addL d v L) F) : StepO P N M w0 x ops o L F K := fun a w hl hm => by
  simp only [he, Bool.false_eq_true, if_false]
  exact ⟨v, fun w' hx => .inl ⟨(wanted_slot hg hb hl).trans hbw, .inl (h a w' hl (hm.ext hx))⟩, _, F, hl.add hdd hd v, hm, k⟩
theorem efT {s : Nat} {want b : Bool} (he : isEff o.op = true) (hg : guardSlot ops o = some (s, want)) (hb : Fr.get L s = some (.bool b)) (hbw : (b == want) = true) (h : Eff P N M w0 x o L F K) : StepO P N M w0 x ops o L F K := fun a w hl hm => by
  simp only [he, if_true]
  rw [wanted_slot hg hb hl, hbw]
  simp only [if_true]
  exact h a w hl hm
theorem skF {s : Nat} {want b : Bool} (hg : guardSlot ops o = some (s, want)) (hb : Fr.get L s = some (.bool b)) (hbw : (b == want) = false) {d : Nat} (hdd : o.dst = some d) (hd : Nat.ble (d + 1) N.n = true)
    (k : K (addL d undef L) F) : StepO P N M w0 x ops o L F K := fun a w hl hm => by
  have hw := (wanted_slot hg hb hl).trans hbw
  by_cases he : isEff o.op = true
  · simp only [he, if_true, hw, Bool.false_eq_true, if_false]
    exact ⟨_, F, hl.add hdd hd undef, hm, k⟩
  · simp only [he]
    exact ⟨undef, fun w' _ => .inr ⟨hw, rfl⟩, _, F, hl.add hdd hd undef, hm, k⟩
theorem rPick1 {b : Bool} (ho : o.op = .pick y z u) (hy : ev L y = some (.bool b)) (hb : b = true) (hz : ev L z = some v) : Stl P N M w0 o L F v := stl_pure fun a hl => by
  subst hb
  simp only [execOp, ho, hl.eval hy, hl.eval hz, asBool]
  rfl
theorem rPick0 {b : Bool} (ho : o.op = .pick y z u) (hy : ev L y = some (.bool b)) (hb : b = false) (hu : ev L u = some v) : Stl P N M w0 o L F v := stl_pure fun a hl => by
  subst hb
  simp only [execOp, ho, hl.eval hy, hl.eval hu, asBool]
  rfl
class PtTy (P : Program) (t : TypeId) : Prop where
  und : P.underlying t = some (.pointer (P.pointee t))
theorem rNilP {p : Option Addr} (ho : o.op = .binOp .eql t y z t') [h : PtTy P t] (hy : ev L y = some (.pointer p)) (hz : ev L z = some (.pointer none)) : Stl P N M w0 o L F (.bool p.isNone) := fun a w hl _ => by
  have h1 : (Op.equal t (.pointer p) (.pointer none)).run P w = .ok p.isNone w := by
    exact run_equalIn_pointer_nil w 9999 t p h.und
  simp [execOp, ho, hl.eval hy, hl.eval hz, eqGuard, binOp, h1]

/-- A slice of one's own, cut shorter. -/
theorem ow_shrink {A : Option Addr} {cap : Nat} {vs ws : List Value} (F : List Chunk) : CSub (ow A e cap (vs ++ ws) :: F) (ow A e cap vs :: F) :=
  CSub.weak (c := ow A e cap (vs ++ ws)) (d := ow A e cap vs) ⟨fun w h => by
    have h0 : w.ownsRow 0 e 1 (.slice A (vs ++ ws).length cap) (vs ++ ws).length (vs ++ ws) := h
    show w.ownsRow 0 e 1 (.slice A vs.length cap) vs.length vs
    rcases h0 with ⟨h1, h2 | ⟨g, c, cur, hv, hb, hh, hc, hm, hs, ht⟩⟩
    · obtain ⟨h3, h4⟩ := h2
      simp only [Value.slice.injEq] at h3
      have h5 : vs = [] ∧ ws = [] := by simpa using h4
      obtain ⟨rfl, rfl⟩ := h5
      exact ⟨by simp, .inl ⟨by simp [h3.1, h3.2.2], rfl⟩⟩
    · simp only [Value.slice.injEq] at hv
      obtain ⟨hA, _, hcap⟩ := hv
      subst hcap
      refine ⟨by omega, .inr ⟨g, cap, cur, by rw [hA], hb, hh, by simp at hc; omega, hm, hs, ?_⟩⟩
      have h6 : vs = (vs ++ ws).take vs.length := by simp
      rw [h6, ← ht, List.take_take]
      simp, fun b h => h, fun h => h⟩ F
end
end Go.Proofs.Ytjmojhflnjbgaaa

/-
  FURTHER STEPS. One sentence: comparisons of small unsigned numbers, and exclusive or.
  Conditions: none. Plain theorems on the model's own words; no program is named here.
-/
import Derived.Test.YtjmojhflnjbgaaaSymN
set_option linter.unusedSimpArgs false
set_option linter.unusedVariables false
namespace Go.Proofs.Ytjmojhflnjbgaaa
open Go.RowKit
section
variable {P : Program} {N : NB} {M : Nat → Prop} {w0 : World} {L : Fr} {F : List Chunk} {o : Oper} {v : Value} {x y : Operand} {t t' : TypeId}
theorem cmpk {k : IntKind} {c : BinOp} {m n : Int} {b : Bool} (hc : binOp c t (.int k m) (.int k n) = pure (.bool b)) (hg : ∀ z z' : Operand, eqGuard c t z z' (.int k m) (.int k n) = pure ()) (ho : o.op = .binOp c t x y t') (hx : ev L x = some (.int k m)) (hy : ev L y = some (.int k n)) : Stl P N M w0 o L F (.bool b) :=
  stl_pure fun a hl => by simp only [execOp, ho, hl.eval hx, hl.eval hy, hg, hc]; rfl
theorem rLssK {k : IntKind} {m n : Int} (ho : o.op = .binOp .lss t x y t') (hx : ev L x = some (.int k m)) (hy : ev L y = some (.int k n)) : Stl P N M w0 o L F (.bool (decide (m < n))) := cmpk (by simp [binOp, Op.intCmp]) (fun _ _ => rfl) ho hx hy
theorem rLeqK {k : IntKind} {m n : Int} (ho : o.op = .binOp .leq t x y t') (hx : ev L x = some (.int k m)) (hy : ev L y = some (.int k n)) : Stl P N M w0 o L F (.bool (decide (m ≤ n))) := cmpk (by simp [binOp, Op.intCmp]) (fun _ _ => rfl) ho hx hy
theorem rGtrK {k : IntKind} {m n : Int} (ho : o.op = .binOp .gtr t x y t') (hx : ev L x = some (.int k m)) (hy : ev L y = some (.int k n)) : Stl P N M w0 o L F (.bool (decide (m > n))) := cmpk (by simp [binOp, Op.intCmp]) (fun _ _ => rfl) ho hx hy
theorem rGeqK {k : IntKind} {m n : Int} (ho : o.op = .binOp .geq t x y t') (hx : ev L x = some (.int k m)) (hy : ev L y = some (.int k n)) : Stl P N M w0 o L F (.bool (decide (m ≥ n))) := cmpk (by simp [binOp, Op.intCmp]) (fun _ _ => rfl) ho hx hy
theorem rEqlK {k : IntKind} {m n : Int} (ho : o.op = .binOp .eql t x y t') (hx : ev L x = some (.int k m)) (hy : ev L y = some (.int k n)) : Stl P N M w0 o L F (.bool (decide (m = n))) := cmpk (by simp [binOp, Op.intCmp, BEq.beq]) (fun _ _ => rfl) ho hx hy
theorem rNeqK {k : IntKind} {m n : Int} (ho : o.op = .binOp .neq t x y t') (hx : ev L x = some (.int k m)) (hy : ev L y = some (.int k n)) : Stl P N M w0 o L F (.bool (decide (¬ m = n))) := cmpk (by simp [binOp, Op.intCmp, bne, BEq.beq]) (fun _ _ => rfl) ho hx hy
end
end Go.Proofs.Ytjmojhflnjbgaaa

/-
  No cell of these rows narrows 'for every input' (looked for: loops, veiled, ifaces, maps, wideKeys, modest, calm, conditions, laid).
  DERIVED. THE GIVEN ROWS OF THIS SEAT. 9 by the template 'for every input the law returns true; each argument reads behind the call as it read before'; 0 by the template 'total and deterministic' (their statements: YtbhoeaijpnjgdaaTotals.lean).
  GIVEN WITH THE SEED: the statements are not yours to turn. If you find one false, say at which input.
  Laid BY PROGRAM, IN A SANDBOX (cutbox-rows.mjs): the forced cells as the released guide's own fill.sh prints them over the translation 479952737e4da8f5… (all of the seat's roots in one cut). By AI agents, Wed Nov 11 2026. No macro, syntax, notation, axiom, sorry.
-/
import Derived.Test.YtbhoeaijpnjgdaaChecked
import GoSem.Claim
import GoSem.ClaimJoined
import GoSem.ClaimMapViews
import Derived.JoinedTies
import Derived.KernelRfl
namespace Go.Proofs.Ytbhoeaijpnjgdaa
/- THE CELL 'sum', in the pinned program and in every row, IS THE sha256 OF THE DUMP (.gsa) THAT YtbhoeaijpnjgdaaProg.lean LOADS. Nothing in Lean hashes anything: it is a label: what it is worth is what the hold of that sum in a sandbox is worth. -/
noncomputable def Try.pinned : Pinned := { name := "ytbhoeaijpnjgdaa", sum := "479952737e4da8f53afaa33de1b62a8a341f9dec35b4523932eb315cfa7af72c", checked := Try.checked }
namespace Rows
def none {H : Type} : Left H := { results := [], args := [] }

/-- 'codewrightlaw06.FactorByDegrees': WHATEVER THE INPUT: true; the input reads as it did. -/
def factorByDegreesSpec : ChangeSpec := { name := "factorByDegrees", fn := fun _ => fun
  | [d1, d2] => { results := [.lit (.bool true)], args := [d1, d2] }
  | _ => none }
def factorByDegreesRow : OpenClaim := { program := "ytbhoeaijpnjgdaa", sum := "479952737e4da8f53afaa33de1b62a8a341f9dec35b4523932eb315cfa7af72c", func := "codewright/codewrightlaw06.FactorByDegrees", spec := "factorByDegrees", recurses := true, apart := false }
def FactorByDegreesSaid : Prop := factorByDegreesRow.holds Try.pinned (OpenSpec.ofChange factorByDegreesSpec)

/-- ITS FALSE NEIGHBOUR: 'it returns false'. Refute it at one input. -/
def factorByDegreesWrong : ChangeSpec := { name := "factorByDegrees", fn := fun _ => fun
  | [d1, d2] => { results := [.lit (.bool false)], args := [d1, d2] }
  | _ => none }
def FactorByDegreesWrongFalsely : Prop := factorByDegreesRow.holds Try.pinned (OpenSpec.ofChange factorByDegreesWrong)

/-- 'codewrightlaw06.FactorProducts': WHATEVER THE INPUT: true; the input reads as it did. -/
def factorProductsSpec : ChangeSpec := { name := "factorProducts", fn := fun _ => fun
  | [d] => { results := [.lit (.bool true)], args := [d] }
  | _ => none }
def factorProductsRow : OpenClaim := { program := "ytbhoeaijpnjgdaa", sum := "479952737e4da8f53afaa33de1b62a8a341f9dec35b4523932eb315cfa7af72c", func := "codewright/codewrightlaw06.FactorProducts", spec := "factorProducts", apart := false }
def FactorProductsSaid : Prop := factorProductsRow.holds Try.pinned (OpenSpec.ofChange factorProductsSpec)

/-- ITS FALSE NEIGHBOUR: 'it returns false'. Refute it at one input. -/
def factorProductsWrong : ChangeSpec := { name := "factorProducts", fn := fun _ => fun
  | [d] => { results := [.lit (.bool false)], args := [d] }
  | _ => none }
def FactorProductsWrongFalsely : Prop := factorProductsRow.holds Try.pinned (OpenSpec.ofChange factorProductsWrong)

/-- 'codewrightlaw06.FactorPeriods': WHATEVER THE INPUT: true; the input reads as it did. -/
def factorPeriodsSpec : ChangeSpec := { name := "factorPeriods", fn := fun _ => fun
  | [d1, d2] => { results := [.lit (.bool true)], args := [d1, d2] }
  | _ => none }
def factorPeriodsRow : OpenClaim := { program := "ytbhoeaijpnjgdaa", sum := "479952737e4da8f53afaa33de1b62a8a341f9dec35b4523932eb315cfa7af72c", func := "codewright/codewrightlaw06.FactorPeriods", spec := "factorPeriods", unfollowed := true, recurses := true, apart := false }
def FactorPeriodsSaid : Prop := factorPeriodsRow.holds Try.pinned (OpenSpec.ofChange factorPeriodsSpec)

/-- ITS FALSE NEIGHBOUR: 'it returns false'. Refute it at one input. -/
def factorPeriodsWrong : ChangeSpec := { name := "factorPeriods", fn := fun _ => fun
  | [d1, d2] => { results := [.lit (.bool false)], args := [d1, d2] }
  | _ => none }
def FactorPeriodsWrongFalsely : Prop := factorPeriodsRow.holds Try.pinned (OpenSpec.ofChange factorPeriodsWrong)

/-- 'codewrightlaw06.FactorCounts': WHATEVER THE INPUT: true; the input reads as it did. -/
def factorCountsSpec : ChangeSpec := { name := "factorCounts", fn := fun _ => fun
  | [d1, d2] => { results := [.lit (.bool true)], args := [d1, d2] }
  | _ => none }
def factorCountsRow : OpenClaim := { program := "ytbhoeaijpnjgdaa", sum := "479952737e4da8f53afaa33de1b62a8a341f9dec35b4523932eb315cfa7af72c", func := "codewright/codewrightlaw06.FactorCounts", spec := "factorCounts", recurses := true, apart := false }
def FactorCountsSaid : Prop := factorCountsRow.holds Try.pinned (OpenSpec.ofChange factorCountsSpec)

/-- ITS FALSE NEIGHBOUR: 'it returns false'. Refute it at one input. -/
def factorCountsWrong : ChangeSpec := { name := "factorCounts", fn := fun _ => fun
  | [d1, d2] => { results := [.lit (.bool false)], args := [d1, d2] }
  | _ => none }
def FactorCountsWrongFalsely : Prop := factorCountsRow.holds Try.pinned (OpenSpec.ofChange factorCountsWrong)

/-- 'codewrightlaw06.FactorSquarefree': WHATEVER THE INPUT: true; the input reads as it did. -/
def factorSquarefreeSpec : ChangeSpec := { name := "factorSquarefree", fn := fun _ => fun
  | [d1, d2] => { results := [.lit (.bool true)], args := [d1, d2] }
  | _ => none }
def factorSquarefreeRow : OpenClaim := { program := "ytbhoeaijpnjgdaa", sum := "479952737e4da8f53afaa33de1b62a8a341f9dec35b4523932eb315cfa7af72c", func := "codewright/codewrightlaw06.FactorSquarefree", spec := "factorSquarefree", unfollowed := true, recurses := true, apart := false }
def FactorSquarefreeSaid : Prop := factorSquarefreeRow.holds Try.pinned (OpenSpec.ofChange factorSquarefreeSpec)

/-- ITS FALSE NEIGHBOUR: 'it returns false'. Refute it at one input. -/
def factorSquarefreeWrong : ChangeSpec := { name := "factorSquarefree", fn := fun _ => fun
  | [d1, d2] => { results := [.lit (.bool false)], args := [d1, d2] }
  | _ => none }
def FactorSquarefreeWrongFalsely : Prop := factorSquarefreeRow.holds Try.pinned (OpenSpec.ofChange factorSquarefreeWrong)

/-- 'codewrightlaw06.FactorDivides': WHATEVER THE INPUT: true; the input reads as it did. -/
def factorDividesSpec : ChangeSpec := { name := "factorDivides", fn := fun _ => fun
  | [d1, d2, d3] => { results := [.lit (.bool true)], args := [d1, d2, d3] }
  | _ => none }
def factorDividesRow : OpenClaim := { program := "ytbhoeaijpnjgdaa", sum := "479952737e4da8f53afaa33de1b62a8a341f9dec35b4523932eb315cfa7af72c", func := "codewright/codewrightlaw06.FactorDivides", spec := "factorDivides", unfollowed := true, recurses := true, apart := false }
def FactorDividesSaid : Prop := factorDividesRow.holds Try.pinned (OpenSpec.ofChange factorDividesSpec)

/-- ITS FALSE NEIGHBOUR: 'it returns false'. Refute it at one input. -/
def factorDividesWrong : ChangeSpec := { name := "factorDivides", fn := fun _ => fun
  | [d1, d2, d3] => { results := [.lit (.bool false)], args := [d1, d2, d3] }
  | _ => none }
def FactorDividesWrongFalsely : Prop := factorDividesRow.holds Try.pinned (OpenSpec.ofChange factorDividesWrong)

/-- 'codewrightlaw06.FactorFrobenius': WHATEVER THE INPUT: true; the input reads as it did. -/
def factorFrobeniusSpec : ChangeSpec := { name := "factorFrobenius", fn := fun _ => fun
  | [d1, d2] => { results := [.lit (.bool true)], args := [d1, d2] }
  | _ => none }
def factorFrobeniusRow : OpenClaim := { program := "ytbhoeaijpnjgdaa", sum := "479952737e4da8f53afaa33de1b62a8a341f9dec35b4523932eb315cfa7af72c", func := "codewright/codewrightlaw06.FactorFrobenius", spec := "factorFrobenius", unfollowed := true, recurses := true, apart := false }
def FactorFrobeniusSaid : Prop := factorFrobeniusRow.holds Try.pinned (OpenSpec.ofChange factorFrobeniusSpec)

/-- ITS FALSE NEIGHBOUR: 'it returns false'. Refute it at one input. -/
def factorFrobeniusWrong : ChangeSpec := { name := "factorFrobenius", fn := fun _ => fun
  | [d1, d2] => { results := [.lit (.bool false)], args := [d1, d2] }
  | _ => none }
def FactorFrobeniusWrongFalsely : Prop := factorFrobeniusRow.holds Try.pinned (OpenSpec.ofChange factorFrobeniusWrong)

/-- 'codewrightlaw06.FactorMultiplies': WHATEVER THE INPUT: true; the input reads as it did. -/
def factorMultipliesSpec : ChangeSpec := { name := "factorMultiplies", fn := fun _ => fun
  | [d1, d2] => { results := [.lit (.bool true)], args := [d1, d2] }
  | _ => none }
def factorMultipliesRow : OpenClaim := { program := "ytbhoeaijpnjgdaa", sum := "479952737e4da8f53afaa33de1b62a8a341f9dec35b4523932eb315cfa7af72c", func := "codewright/codewrightlaw06.FactorMultiplies", spec := "factorMultiplies", unfollowed := true, recurses := true, apart := false }
def FactorMultipliesSaid : Prop := factorMultipliesRow.holds Try.pinned (OpenSpec.ofChange factorMultipliesSpec)

/-- ITS FALSE NEIGHBOUR: 'it returns false'. Refute it at one input. -/
def factorMultipliesWrong : ChangeSpec := { name := "factorMultiplies", fn := fun _ => fun
  | [d1, d2] => { results := [.lit (.bool false)], args := [d1, d2] }
  | _ => none }
def FactorMultipliesWrongFalsely : Prop := factorMultipliesRow.holds Try.pinned (OpenSpec.ofChange factorMultipliesWrong)

/-- 'codewrightlaw06.FactorCounted': WHATEVER THE INPUT: true; the input reads as it did. -/
def factorCountedSpec : ChangeSpec := { name := "factorCounted", fn := fun _ => fun
  | [d1, d2] => { results := [.lit (.bool true)], args := [d1, d2] }
  | _ => none }
def factorCountedRow : OpenClaim := { program := "ytbhoeaijpnjgdaa", sum := "479952737e4da8f53afaa33de1b62a8a341f9dec35b4523932eb315cfa7af72c", func := "codewright/codewrightlaw06.FactorCounted", spec := "factorCounted", recurses := true, apart := false }
def FactorCountedSaid : Prop := factorCountedRow.holds Try.pinned (OpenSpec.ofChange factorCountedSpec)

/-- ITS FALSE NEIGHBOUR: 'it returns false'. Refute it at one input. -/
def factorCountedWrong : ChangeSpec := { name := "factorCounted", fn := fun _ => fun
  | [d1, d2] => { results := [.lit (.bool false)], args := [d1, d2] }
  | _ => none }
def FactorCountedWrongFalsely : Prop := factorCountedRow.holds Try.pinned (OpenSpec.ofChange factorCountedWrong)

/- THE SECOND FORM. 'bulk': how many values and letters a reading holds, each counted each time it is reached (what is shared counts as often as it is met; a slice's spare places count too). A statement '..UptoSaid' is the law's where the arguments, and the package variables that the reading takes, are together of bulk at most 1048576: NARROWER than '..Said'. Prove '..Said' where nothing that the law and all that it calls make is longer than what came in: it says more and counts as full. Else prove '..UptoSaid'. A law counts once. -/
mutual
def uptoBulk {H : Type} : DataW H → Nat
  | .lit (.string bytes) => bytes.length + 1
  | .lit _ => 1
  | .nil => 1
  | .ptr d => uptoBulk d + 1
  | .slice elems spare => uptoBulkAll elems + uptoBulkAll spare + 1
  | .agg parts => uptoBulkAll parts + 1
  | .iface _ d => uptoBulk d + 1
  | .map entries => uptoBulkEntries entries + 1
  | .held _ => 1
def uptoBulkAll {H : Type} : List (DataW H) → Nat
  | [] => 0
  | d :: r => uptoBulk d + uptoBulkAll r
def uptoBulkEntries {H : Type} : List (Lit × DataW H) → Nat
  | [] => 0
  | x :: r => uptoBulkEntry x + uptoBulkEntries r
def uptoBulkEntry {H : Type} : Lit × DataW H → Nat
  | (.string bytes, d) => bytes.length + uptoBulk d + 1
  | (_, d) => uptoBulk d + 1
 end
def uptoSmall : (H : Type) → List (DataW H) → Bool := fun _ ds => decide (uptoBulkAll ds ≤ 1048576)
def OpenSpec.upto (s : _root_.Go.ChangeSpec) : _root_.Go.OpenSpec := { _root_.Go.OpenSpec.ofChange s with cond := some uptoSmall }

/-- 'codewrightlaw06.FactorByDegrees', WHERE WHAT IT READS IS OF BULK AT MOST 1048576: true; the input reads as it did. -/
def factorByDegreesUptoRow : OpenClaim := { program := "ytbhoeaijpnjgdaa", sum := "479952737e4da8f53afaa33de1b62a8a341f9dec35b4523932eb315cfa7af72c", func := "codewright/codewrightlaw06.FactorByDegrees", spec := "factorByDegrees", recurses := true, apart := false, narrowed := true }
def FactorByDegreesUptoSaid : Prop := factorByDegreesUptoRow.holds Try.pinned (OpenSpec.upto factorByDegreesSpec)

/-- 'codewrightlaw06.FactorProducts', WHERE WHAT IT READS IS OF BULK AT MOST 1048576: true; the input reads as it did. -/
def factorProductsUptoRow : OpenClaim := { program := "ytbhoeaijpnjgdaa", sum := "479952737e4da8f53afaa33de1b62a8a341f9dec35b4523932eb315cfa7af72c", func := "codewright/codewrightlaw06.FactorProducts", spec := "factorProducts", apart := false, narrowed := true }
def FactorProductsUptoSaid : Prop := factorProductsUptoRow.holds Try.pinned (OpenSpec.upto factorProductsSpec)

/-- 'codewrightlaw06.FactorPeriods', WHERE WHAT IT READS IS OF BULK AT MOST 1048576: true; the input reads as it did. -/
def factorPeriodsUptoRow : OpenClaim := { program := "ytbhoeaijpnjgdaa", sum := "479952737e4da8f53afaa33de1b62a8a341f9dec35b4523932eb315cfa7af72c", func := "codewright/codewrightlaw06.FactorPeriods", spec := "factorPeriods", unfollowed := true, recurses := true, apart := false, narrowed := true }
def FactorPeriodsUptoSaid : Prop := factorPeriodsUptoRow.holds Try.pinned (OpenSpec.upto factorPeriodsSpec)

/-- 'codewrightlaw06.FactorCounts', WHERE WHAT IT READS IS OF BULK AT MOST 1048576: true; the input reads as it did. -/
def factorCountsUptoRow : OpenClaim := { program := "ytbhoeaijpnjgdaa", sum := "479952737e4da8f53afaa33de1b62a8a341f9dec35b4523932eb315cfa7af72c", func := "codewright/codewrightlaw06.FactorCounts", spec := "factorCounts", recurses := true, apart := false, narrowed := true }
def FactorCountsUptoSaid : Prop := factorCountsUptoRow.holds Try.pinned (OpenSpec.upto factorCountsSpec)

/-- 'codewrightlaw06.FactorSquarefree', WHERE WHAT IT READS IS OF BULK AT MOST 1048576: true; the input reads as it did. -/
def factorSquarefreeUptoRow : OpenClaim := { program := "ytbhoeaijpnjgdaa", sum := "479952737e4da8f53afaa33de1b62a8a341f9dec35b4523932eb315cfa7af72c", func := "codewright/codewrightlaw06.FactorSquarefree", spec := "factorSquarefree", unfollowed := true, recurses := true, apart := false, narrowed := true }
def FactorSquarefreeUptoSaid : Prop := factorSquarefreeUptoRow.holds Try.pinned (OpenSpec.upto factorSquarefreeSpec)

/-- 'codewrightlaw06.FactorDivides', WHERE WHAT IT READS IS OF BULK AT MOST 1048576: true; the input reads as it did. -/
def factorDividesUptoRow : OpenClaim := { program := "ytbhoeaijpnjgdaa", sum := "479952737e4da8f53afaa33de1b62a8a341f9dec35b4523932eb315cfa7af72c", func := "codewright/codewrightlaw06.FactorDivides", spec := "factorDivides", unfollowed := true, recurses := true, apart := false, narrowed := true }
def FactorDividesUptoSaid : Prop := factorDividesUptoRow.holds Try.pinned (OpenSpec.upto factorDividesSpec)

/-- 'codewrightlaw06.FactorFrobenius', WHERE WHAT IT READS IS OF BULK AT MOST 1048576: true; the input reads as it did. -/
def factorFrobeniusUptoRow : OpenClaim := { program := "ytbhoeaijpnjgdaa", sum := "479952737e4da8f53afaa33de1b62a8a341f9dec35b4523932eb315cfa7af72c", func := "codewright/codewrightlaw06.FactorFrobenius", spec := "factorFrobenius", unfollowed := true, recurses := true, apart := false, narrowed := true }
def FactorFrobeniusUptoSaid : Prop := factorFrobeniusUptoRow.holds Try.pinned (OpenSpec.upto factorFrobeniusSpec)

/-- 'codewrightlaw06.FactorMultiplies', WHERE WHAT IT READS IS OF BULK AT MOST 1048576: true; the input reads as it did. -/
def factorMultipliesUptoRow : OpenClaim := { program := "ytbhoeaijpnjgdaa", sum := "479952737e4da8f53afaa33de1b62a8a341f9dec35b4523932eb315cfa7af72c", func := "codewright/codewrightlaw06.FactorMultiplies", spec := "factorMultiplies", unfollowed := true, recurses := true, apart := false, narrowed := true }
def FactorMultipliesUptoSaid : Prop := factorMultipliesUptoRow.holds Try.pinned (OpenSpec.upto factorMultipliesSpec)

/-- 'codewrightlaw06.FactorCounted', WHERE WHAT IT READS IS OF BULK AT MOST 1048576: true; the input reads as it did. -/
def factorCountedUptoRow : OpenClaim := { program := "ytbhoeaijpnjgdaa", sum := "479952737e4da8f53afaa33de1b62a8a341f9dec35b4523932eb315cfa7af72c", func := "codewright/codewrightlaw06.FactorCounted", spec := "factorCounted", recurses := true, apart := false, narrowed := true }
def FactorCountedUptoSaid : Prop := factorCountedUptoRow.holds Try.pinned (OpenSpec.upto factorCountedSpec)

end Rows
end Go.Proofs.Ytbhoeaijpnjgdaa

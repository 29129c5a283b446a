/-
  No cell of these rows narrows 'for every input' (looked for: loops, veiled, ifaces, maps, wideKeys, modest, calm, conditions, laid).
  DERIVED. THE GIVEN ROWS OF THIS SEAT. 5 by the template 'for every input the law returns true; each argument reads behind the call as it read before'; 0 by the template 'total and deterministic' (their statements: YtgnmcoegdogfgaaGreatTotals.lean).
  GIVEN WITH THE SEED: the statements are not yours to turn. If you find one false, say at which input.
  Laid BY PROGRAM, IN A SANDBOX (cutbox-rows.mjs): the forced cells as the released guide's own fill.sh prints them over the translation c002894bfaae93e1… (all of the seat's roots in one cut). By AI agents, Wed Nov 11 2026. No macro, syntax, notation, axiom, sorry.
-/
import Derived.Test.YtgnmcoegdogfgaaGreatChecked
import GoSem.Claim
import GoSem.ClaimJoined
import GoSem.ClaimMapViews
import Derived.JoinedTies
import Derived.KernelRfl
namespace Go.Proofs.YtgnmcoegdogfgaaGreat
/- THE CELL 'sum', in the pinned program and in every row, IS THE sha256 OF THE DUMP (.gsa) THAT YtgnmcoegdogfgaaGreatProg.lean LOADS. Nothing in Lean hashes anything: it is a label: what it is worth is what the hold of that sum in a sandbox is worth. -/
noncomputable def Tryz.pinned : Pinned := { name := "ytgnmcoegdogfgaagreat", sum := "c002894bfaae93e11560005c2b4e0ae4f94035aad247e0ecc487badb85bbe64a", checked := Tryz.checked }
namespace Rows
def none {H : Type} : Left H := { results := [], args := [] }

/-- 'codewrightlaw17.BchWeights': WHATEVER THE INPUT: true; the input reads as it did. -/
def bchWeightsSpec : ChangeSpec := { name := "bchWeights", fn := fun _ => fun
  | [d1, d2, d3, d4] => { results := [.lit (.bool true)], args := [d1, d2, d3, d4] }
  | _ => none }
def bchWeightsRow : OpenClaim := { program := "ytgnmcoegdogfgaagreat", sum := "c002894bfaae93e11560005c2b4e0ae4f94035aad247e0ecc487badb85bbe64a", func := "codewright/codewrightlaw17.BchWeights", spec := "bchWeights", unfollowed := true, recurses := true, apart := false }
def BchWeightsSaid : Prop := bchWeightsRow.holds Tryz.pinned (OpenSpec.ofChange bchWeightsSpec)

/-- ITS FALSE NEIGHBOUR: 'it returns false'. Refute it at one input. -/
def bchWeightsWrong : ChangeSpec := { name := "bchWeights", fn := fun _ => fun
  | [d1, d2, d3, d4] => { results := [.lit (.bool false)], args := [d1, d2, d3, d4] }
  | _ => none }
def BchWeightsWrongFalsely : Prop := bchWeightsRow.holds Tryz.pinned (OpenSpec.ofChange bchWeightsWrong)

/-- 'codewrightlaw17.BchNews': WHATEVER THE INPUT: true; the input reads as it did. -/
def bchNewsSpec : ChangeSpec := { name := "bchNews", fn := fun _ => fun
  | [d1, d2, d3, d4, d5] => { results := [.lit (.bool true)], args := [d1, d2, d3, d4, d5] }
  | _ => none }
def bchNewsRow : OpenClaim := { program := "ytgnmcoegdogfgaagreat", sum := "c002894bfaae93e11560005c2b4e0ae4f94035aad247e0ecc487badb85bbe64a", func := "codewright/codewrightlaw17.BchNews", spec := "bchNews", unfollowed := true, recurses := true, apart := false }
def BchNewsSaid : Prop := bchNewsRow.holds Tryz.pinned (OpenSpec.ofChange bchNewsSpec)

/-- ITS FALSE NEIGHBOUR: 'it returns false'. Refute it at one input. -/
def bchNewsWrong : ChangeSpec := { name := "bchNews", fn := fun _ => fun
  | [d1, d2, d3, d4, d5] => { results := [.lit (.bool false)], args := [d1, d2, d3, d4, d5] }
  | _ => none }
def BchNewsWrongFalsely : Prop := bchNewsRow.holds Tryz.pinned (OpenSpec.ofChange bchNewsWrong)

/-- 'codewrightlaw17.BchDesigned': WHATEVER THE INPUT: true; the input reads as it did. -/
def bchDesignedSpec : ChangeSpec := { name := "bchDesigned", fn := fun _ => fun
  | [d1, d2, d3, d4, d5, d6] => { results := [.lit (.bool true)], args := [d1, d2, d3, d4, d5, d6] }
  | _ => none }
def bchDesignedRow : OpenClaim := { program := "ytgnmcoegdogfgaagreat", sum := "c002894bfaae93e11560005c2b4e0ae4f94035aad247e0ecc487badb85bbe64a", func := "codewright/codewrightlaw17.BchDesigned", spec := "bchDesigned", unfollowed := true, recurses := true, apart := false }
def BchDesignedSaid : Prop := bchDesignedRow.holds Tryz.pinned (OpenSpec.ofChange bchDesignedSpec)

/-- ITS FALSE NEIGHBOUR: 'it returns false'. Refute it at one input. -/
def bchDesignedWrong : ChangeSpec := { name := "bchDesigned", fn := fun _ => fun
  | [d1, d2, d3, d4, d5, d6] => { results := [.lit (.bool false)], args := [d1, d2, d3, d4, d5, d6] }
  | _ => none }
def BchDesignedWrongFalsely : Prop := bchDesignedRow.holds Tryz.pinned (OpenSpec.ofChange bchDesignedWrong)

/-- 'codewrightlaw17.BchSolomon': WHATEVER THE INPUT: true; the input reads as it did. -/
def bchSolomonSpec : ChangeSpec := { name := "bchSolomon", fn := fun _ => fun
  | [d1, d2, d3, d4, d5] => { results := [.lit (.bool true)], args := [d1, d2, d3, d4, d5] }
  | _ => none }
def bchSolomonRow : OpenClaim := { program := "ytgnmcoegdogfgaagreat", sum := "c002894bfaae93e11560005c2b4e0ae4f94035aad247e0ecc487badb85bbe64a", func := "codewright/codewrightlaw17.BchSolomon", spec := "bchSolomon", unfollowed := true, recurses := true, apart := false }
def BchSolomonSaid : Prop := bchSolomonRow.holds Tryz.pinned (OpenSpec.ofChange bchSolomonSpec)

/-- ITS FALSE NEIGHBOUR: 'it returns false'. Refute it at one input. -/
def bchSolomonWrong : ChangeSpec := { name := "bchSolomon", fn := fun _ => fun
  | [d1, d2, d3, d4, d5] => { results := [.lit (.bool false)], args := [d1, d2, d3, d4, d5] }
  | _ => none }
def BchSolomonWrongFalsely : Prop := bchSolomonRow.holds Tryz.pinned (OpenSpec.ofChange bchSolomonWrong)

/-- 'codewrightlaw16.CyclicDivides': WHATEVER THE INPUT: true; the input reads as it did. -/
def cyclicDividesSpec : ChangeSpec := { name := "cyclicDivides", fn := fun _ => fun
  | [d] => { results := [.lit (.bool true)], args := [d] }
  | _ => none }
def cyclicDividesRow : OpenClaim := { program := "ytgnmcoegdogfgaagreat", sum := "c002894bfaae93e11560005c2b4e0ae4f94035aad247e0ecc487badb85bbe64a", func := "codewright/codewrightlaw16.CyclicDivides", spec := "cyclicDivides", unfollowed := true, recurses := true, apart := false }
def CyclicDividesSaid : Prop := cyclicDividesRow.holds Tryz.pinned (OpenSpec.ofChange cyclicDividesSpec)

/-- ITS FALSE NEIGHBOUR: 'it returns false'. Refute it at one input. -/
def cyclicDividesWrong : ChangeSpec := { name := "cyclicDivides", fn := fun _ => fun
  | [d] => { results := [.lit (.bool false)], args := [d] }
  | _ => none }
def CyclicDividesWrongFalsely : Prop := cyclicDividesRow.holds Tryz.pinned (OpenSpec.ofChange cyclicDividesWrong)

/- THE SECOND FORM. 'bulk': how many values and letters a reading holds, each counted each time it is reached (what is shared counts as often as it is met; a slice's spare places count too). A statement '..UptoSaid' is the law's where the arguments, and the package variables that the reading takes, are together of bulk at most 1048576: NARROWER than '..Said'. Prove '..Said' where nothing that the law and all that it calls make is longer than what came in: it says more and counts as full. Else prove '..UptoSaid'. A law counts once. -/
mutual
def uptoBulk {H : Type} : DataW H → Nat
  | .lit (.string bytes) => bytes.length + 1
  | .lit _ => 1
  | .nil => 1
  | .ptr d => uptoBulk d + 1
  | .slice elems spare => uptoBulkAll elems + uptoBulkAll spare + 1
  | .agg parts => uptoBulkAll parts + 1
  | .iface _ d => uptoBulk d + 1
  | .map entries => uptoBulkEntries entries + 1
  | .held _ => 1
def uptoBulkAll {H : Type} : List (DataW H) → Nat
  | [] => 0
  | d :: r => uptoBulk d + uptoBulkAll r
def uptoBulkEntries {H : Type} : List (Lit × DataW H) → Nat
  | [] => 0
  | x :: r => uptoBulkEntry x + uptoBulkEntries r
def uptoBulkEntry {H : Type} : Lit × DataW H → Nat
  | (.string bytes, d) => bytes.length + uptoBulk d + 1
  | (_, d) => uptoBulk d + 1
 end
def uptoSmall : (H : Type) → List (DataW H) → Bool := fun _ ds => decide (uptoBulkAll ds ≤ 1048576)
def OpenSpec.upto (s : _root_.Go.ChangeSpec) : _root_.Go.OpenSpec := { _root_.Go.OpenSpec.ofChange s with cond := some uptoSmall }

/-- 'codewrightlaw17.BchWeights', WHERE WHAT IT READS IS OF BULK AT MOST 1048576: true; the input reads as it did. -/
def bchWeightsUptoRow : OpenClaim := { program := "ytgnmcoegdogfgaagreat", sum := "c002894bfaae93e11560005c2b4e0ae4f94035aad247e0ecc487badb85bbe64a", func := "codewright/codewrightlaw17.BchWeights", spec := "bchWeights", unfollowed := true, recurses := true, apart := false, narrowed := true }
def BchWeightsUptoSaid : Prop := bchWeightsUptoRow.holds Tryz.pinned (OpenSpec.upto bchWeightsSpec)

/-- 'codewrightlaw17.BchNews', WHERE WHAT IT READS IS OF BULK AT MOST 1048576: true; the input reads as it did. -/
def bchNewsUptoRow : OpenClaim := { program := "ytgnmcoegdogfgaagreat", sum := "c002894bfaae93e11560005c2b4e0ae4f94035aad247e0ecc487badb85bbe64a", func := "codewright/codewrightlaw17.BchNews", spec := "bchNews", unfollowed := true, recurses := true, apart := false, narrowed := true }
def BchNewsUptoSaid : Prop := bchNewsUptoRow.holds Tryz.pinned (OpenSpec.upto bchNewsSpec)

/-- 'codewrightlaw17.BchDesigned', WHERE WHAT IT READS IS OF BULK AT MOST 1048576: true; the input reads as it did. -/
def bchDesignedUptoRow : OpenClaim := { program := "ytgnmcoegdogfgaagreat", sum := "c002894bfaae93e11560005c2b4e0ae4f94035aad247e0ecc487badb85bbe64a", func := "codewright/codewrightlaw17.BchDesigned", spec := "bchDesigned", unfollowed := true, recurses := true, apart := false, narrowed := true }
def BchDesignedUptoSaid : Prop := bchDesignedUptoRow.holds Tryz.pinned (OpenSpec.upto bchDesignedSpec)

/-- 'codewrightlaw17.BchSolomon', WHERE WHAT IT READS IS OF BULK AT MOST 1048576: true; the input reads as it did. -/
def bchSolomonUptoRow : OpenClaim := { program := "ytgnmcoegdogfgaagreat", sum := "c002894bfaae93e11560005c2b4e0ae4f94035aad247e0ecc487badb85bbe64a", func := "codewright/codewrightlaw17.BchSolomon", spec := "bchSolomon", unfollowed := true, recurses := true, apart := false, narrowed := true }
def BchSolomonUptoSaid : Prop := bchSolomonUptoRow.holds Tryz.pinned (OpenSpec.upto bchSolomonSpec)

/-- 'codewrightlaw16.CyclicDivides', WHERE WHAT IT READS IS OF BULK AT MOST 1048576: true; the input reads as it did. -/
def cyclicDividesUptoRow : OpenClaim := { program := "ytgnmcoegdogfgaagreat", sum := "c002894bfaae93e11560005c2b4e0ae4f94035aad247e0ecc487badb85bbe64a", func := "codewright/codewrightlaw16.CyclicDivides", spec := "cyclicDivides", unfollowed := true, recurses := true, apart := false, narrowed := true }
def CyclicDividesUptoSaid : Prop := cyclicDividesUptoRow.holds Tryz.pinned (OpenSpec.upto cyclicDividesSpec)

end Rows
end Go.Proofs.YtgnmcoegdogfgaaGreat

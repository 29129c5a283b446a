/-
  No cell of these rows narrows 'for every input' (looked for: loops, veiled, ifaces, maps, wideKeys, modest, calm, conditions, laid).
  DERIVED. THE GIVEN ROWS OF THIS SEAT. 14 by the template 'for every input the law returns true; each argument reads behind the call as it read before'; 0 by the template 'total and deterministic' (their statements: YtjmojhflnjbgaaaGreatTotals.lean).
  GIVEN WITH THE SEED: the statements are not yours to turn. If you find one false, say at which input.
  Laid BY PROGRAM, IN A SANDBOX (cutbox-rows.mjs): the forced cells as the released guide's own fill.sh prints them over the translation b05ea0c4ff583cb7… (all of the seat's roots in one cut). By AI agents, Wed Nov 11 2026. No macro, syntax, notation, axiom, sorry.
-/
import Derived.Test.YtjmojhflnjbgaaaGreatChecked
import GoSem.Claim
import GoSem.ClaimJoined
import GoSem.ClaimMapViews
import Derived.JoinedTies
import Derived.KernelRfl
namespace Go.Proofs.YtjmojhflnjbgaaaGreat
/- THE CELL 'sum', in the pinned program and in every row, IS THE sha256 OF THE DUMP (.gsa) THAT YtjmojhflnjbgaaaGreatProg.lean LOADS. Nothing in Lean hashes anything: it is a label: what it is worth is what the hold of that sum in a sandbox is worth. -/
noncomputable def Tryz.pinned : Pinned := { name := "ytjmojhflnjbgaaagreat", sum := "b05ea0c4ff583cb796b1a4562ad721600b758a6c0d005b6853a849088b6b17e0", checked := Tryz.checked }
namespace Rows
def none {H : Type} : Left H := { results := [], args := [] }

/-- 'codewrightlaw16.CyclicIs': WHATEVER THE INPUT: true; the input reads as it did. -/
def cyclicIsSpec : ChangeSpec := { name := "cyclicIs", fn := fun _ => fun
  | [d] => { results := [.lit (.bool true)], args := [d] }
  | _ => none }
def cyclicIsRow : OpenClaim := { program := "ytjmojhflnjbgaaagreat", sum := "b05ea0c4ff583cb796b1a4562ad721600b758a6c0d005b6853a849088b6b17e0", func := "codewright/codewrightlaw16.CyclicIs", spec := "cyclicIs", unfollowed := true, recurses := true, apart := false }
def CyclicIsSaid : Prop := cyclicIsRow.holds Tryz.pinned (OpenSpec.ofChange cyclicIsSpec)

/-- ITS FALSE NEIGHBOUR: 'it returns false'. Refute it at one input. -/
def cyclicIsWrong : ChangeSpec := { name := "cyclicIs", fn := fun _ => fun
  | [d] => { results := [.lit (.bool false)], args := [d] }
  | _ => none }
def CyclicIsWrongFalsely : Prop := cyclicIsRow.holds Tryz.pinned (OpenSpec.ofChange cyclicIsWrong)

/-- 'codewrightlaw16.CyclicReverses': WHATEVER THE INPUT: true; the input reads as it did. -/
def cyclicReversesSpec : ChangeSpec := { name := "cyclicReverses", fn := fun _ => fun
  | [d] => { results := [.lit (.bool true)], args := [d] }
  | _ => none }
def cyclicReversesRow : OpenClaim := { program := "ytjmojhflnjbgaaagreat", sum := "b05ea0c4ff583cb796b1a4562ad721600b758a6c0d005b6853a849088b6b17e0", func := "codewright/codewrightlaw16.CyclicReverses", spec := "cyclicReverses", unfollowed := true, recurses := true, apart := false }
def CyclicReversesSaid : Prop := cyclicReversesRow.holds Tryz.pinned (OpenSpec.ofChange cyclicReversesSpec)

/-- ITS FALSE NEIGHBOUR: 'it returns false'. Refute it at one input. -/
def cyclicReversesWrong : ChangeSpec := { name := "cyclicReverses", fn := fun _ => fun
  | [d] => { results := [.lit (.bool false)], args := [d] }
  | _ => none }
def CyclicReversesWrongFalsely : Prop := cyclicReversesRow.holds Tryz.pinned (OpenSpec.ofChange cyclicReversesWrong)

/-- 'codewrightlaw16.CyclicLattice': WHATEVER THE INPUT: true; the input reads as it did. -/
def cyclicLatticeSpec : ChangeSpec := { name := "cyclicLattice", fn := fun _ => fun
  | [d1, d2, d3, d4] => { results := [.lit (.bool true)], args := [d1, d2, d3, d4] }
  | _ => none }
def cyclicLatticeRow : OpenClaim := { program := "ytjmojhflnjbgaaagreat", sum := "b05ea0c4ff583cb796b1a4562ad721600b758a6c0d005b6853a849088b6b17e0", func := "codewright/codewrightlaw16.CyclicLattice", spec := "cyclicLattice", unfollowed := true, recurses := true, apart := false }
def CyclicLatticeSaid : Prop := cyclicLatticeRow.holds Tryz.pinned (OpenSpec.ofChange cyclicLatticeSpec)

/-- ITS FALSE NEIGHBOUR: 'it returns false'. Refute it at one input. -/
def cyclicLatticeWrong : ChangeSpec := { name := "cyclicLattice", fn := fun _ => fun
  | [d1, d2, d3, d4] => { results := [.lit (.bool false)], args := [d1, d2, d3, d4] }
  | _ => none }
def CyclicLatticeWrongFalsely : Prop := cyclicLatticeRow.holds Tryz.pinned (OpenSpec.ofChange cyclicLatticeWrong)

/-- 'codewrightlaw16.CyclicDuals': WHATEVER THE INPUT: true; the input reads as it did. -/
def cyclicDualsSpec : ChangeSpec := { name := "cyclicDuals", fn := fun _ => fun
  | [d1, d2, d3] => { results := [.lit (.bool true)], args := [d1, d2, d3] }
  | _ => none }
def cyclicDualsRow : OpenClaim := { program := "ytjmojhflnjbgaaagreat", sum := "b05ea0c4ff583cb796b1a4562ad721600b758a6c0d005b6853a849088b6b17e0", func := "codewright/codewrightlaw16.CyclicDuals", spec := "cyclicDuals", unfollowed := true, recurses := true, apart := false }
def CyclicDualsSaid : Prop := cyclicDualsRow.holds Tryz.pinned (OpenSpec.ofChange cyclicDualsSpec)

/-- ITS FALSE NEIGHBOUR: 'it returns false'. Refute it at one input. -/
def cyclicDualsWrong : ChangeSpec := { name := "cyclicDuals", fn := fun _ => fun
  | [d1, d2, d3] => { results := [.lit (.bool false)], args := [d1, d2, d3] }
  | _ => none }
def CyclicDualsWrongFalsely : Prop := cyclicDualsRow.holds Tryz.pinned (OpenSpec.ofChange cyclicDualsWrong)

/-- 'codewrightlaw17.BchWeights': WHATEVER THE INPUT: true; the input reads as it did. -/
def bchWeightsSpec : ChangeSpec := { name := "bchWeights", fn := fun _ => fun
  | [d1, d2, d3, d4] => { results := [.lit (.bool true)], args := [d1, d2, d3, d4] }
  | _ => none }
def bchWeightsRow : OpenClaim := { program := "ytjmojhflnjbgaaagreat", sum := "b05ea0c4ff583cb796b1a4562ad721600b758a6c0d005b6853a849088b6b17e0", func := "codewright/codewrightlaw17.BchWeights", spec := "bchWeights", unfollowed := true, recurses := true, apart := false }
def BchWeightsSaid : Prop := bchWeightsRow.holds Tryz.pinned (OpenSpec.ofChange bchWeightsSpec)

/-- ITS FALSE NEIGHBOUR: 'it returns false'. Refute it at one input. -/
def bchWeightsWrong : ChangeSpec := { name := "bchWeights", fn := fun _ => fun
  | [d1, d2, d3, d4] => { results := [.lit (.bool false)], args := [d1, d2, d3, d4] }
  | _ => none }
def BchWeightsWrongFalsely : Prop := bchWeightsRow.holds Tryz.pinned (OpenSpec.ofChange bchWeightsWrong)

/-- 'codewrightlaw16.CyclicIdempotents': WHATEVER THE INPUT: true; the input reads as it did. -/
def cyclicIdempotentsSpec : ChangeSpec := { name := "cyclicIdempotents", fn := fun _ => fun
  | [d] => { results := [.lit (.bool true)], args := [d] }
  | _ => none }
def cyclicIdempotentsRow : OpenClaim := { program := "ytjmojhflnjbgaaagreat", sum := "b05ea0c4ff583cb796b1a4562ad721600b758a6c0d005b6853a849088b6b17e0", func := "codewright/codewrightlaw16.CyclicIdempotents", spec := "cyclicIdempotents", unfollowed := true, recurses := true, apart := false }
def CyclicIdempotentsSaid : Prop := cyclicIdempotentsRow.holds Tryz.pinned (OpenSpec.ofChange cyclicIdempotentsSpec)

/-- ITS FALSE NEIGHBOUR: 'it returns false'. Refute it at one input. -/
def cyclicIdempotentsWrong : ChangeSpec := { name := "cyclicIdempotents", fn := fun _ => fun
  | [d] => { results := [.lit (.bool false)], args := [d] }
  | _ => none }
def CyclicIdempotentsWrongFalsely : Prop := cyclicIdempotentsRow.holds Tryz.pinned (OpenSpec.ofChange cyclicIdempotentsWrong)

/-- 'codewrightlaw17.BchFromZeros': WHATEVER THE INPUT: true; the input reads as it did. -/
def bchFromZerosSpec : ChangeSpec := { name := "bchFromZeros", fn := fun _ => fun
  | [d1, d2, d3, d4] => { results := [.lit (.bool true)], args := [d1, d2, d3, d4] }
  | _ => none }
def bchFromZerosRow : OpenClaim := { program := "ytjmojhflnjbgaaagreat", sum := "b05ea0c4ff583cb796b1a4562ad721600b758a6c0d005b6853a849088b6b17e0", func := "codewright/codewrightlaw17.BchFromZeros", spec := "bchFromZeros", unfollowed := true, recurses := true, apart := false }
def BchFromZerosSaid : Prop := bchFromZerosRow.holds Tryz.pinned (OpenSpec.ofChange bchFromZerosSpec)

/-- ITS FALSE NEIGHBOUR: 'it returns false'. Refute it at one input. -/
def bchFromZerosWrong : ChangeSpec := { name := "bchFromZeros", fn := fun _ => fun
  | [d1, d2, d3, d4] => { results := [.lit (.bool false)], args := [d1, d2, d3, d4] }
  | _ => none }
def BchFromZerosWrongFalsely : Prop := bchFromZerosRow.holds Tryz.pinned (OpenSpec.ofChange bchFromZerosWrong)

/-- 'codewrightlaw17.BchMembers': WHATEVER THE INPUT: true; the input reads as it did. -/
def bchMembersSpec : ChangeSpec := { name := "bchMembers", fn := fun _ => fun
  | [d1, d2, d3, d4, d5] => { results := [.lit (.bool true)], args := [d1, d2, d3, d4, d5] }
  | _ => none }
def bchMembersRow : OpenClaim := { program := "ytjmojhflnjbgaaagreat", sum := "b05ea0c4ff583cb796b1a4562ad721600b758a6c0d005b6853a849088b6b17e0", func := "codewright/codewrightlaw17.BchMembers", spec := "bchMembers", unfollowed := true, recurses := true, apart := false }
def BchMembersSaid : Prop := bchMembersRow.holds Tryz.pinned (OpenSpec.ofChange bchMembersSpec)

/-- ITS FALSE NEIGHBOUR: 'it returns false'. Refute it at one input. -/
def bchMembersWrong : ChangeSpec := { name := "bchMembers", fn := fun _ => fun
  | [d1, d2, d3, d4, d5] => { results := [.lit (.bool false)], args := [d1, d2, d3, d4, d5] }
  | _ => none }
def BchMembersWrongFalsely : Prop := bchMembersRow.holds Tryz.pinned (OpenSpec.ofChange bchMembersWrong)

/-- 'codewrightlaw17.BchPolynomials': WHATEVER THE INPUT: true; the input reads as it did. -/
def bchPolynomialsSpec : ChangeSpec := { name := "bchPolynomials", fn := fun _ => fun
  | [d1, d2, d3, d4] => { results := [.lit (.bool true)], args := [d1, d2, d3, d4] }
  | _ => none }
def bchPolynomialsRow : OpenClaim := { program := "ytjmojhflnjbgaaagreat", sum := "b05ea0c4ff583cb796b1a4562ad721600b758a6c0d005b6853a849088b6b17e0", func := "codewright/codewrightlaw17.BchPolynomials", spec := "bchPolynomials", unfollowed := true, recurses := true, apart := false }
def BchPolynomialsSaid : Prop := bchPolynomialsRow.holds Tryz.pinned (OpenSpec.ofChange bchPolynomialsSpec)

/-- ITS FALSE NEIGHBOUR: 'it returns false'. Refute it at one input. -/
def bchPolynomialsWrong : ChangeSpec := { name := "bchPolynomials", fn := fun _ => fun
  | [d1, d2, d3, d4] => { results := [.lit (.bool false)], args := [d1, d2, d3, d4] }
  | _ => none }
def BchPolynomialsWrongFalsely : Prop := bchPolynomialsRow.holds Tryz.pinned (OpenSpec.ofChange bchPolynomialsWrong)

/-- 'codewrightlaw17.BchNews': WHATEVER THE INPUT: true; the input reads as it did. -/
def bchNewsSpec : ChangeSpec := { name := "bchNews", fn := fun _ => fun
  | [d1, d2, d3, d4, d5] => { results := [.lit (.bool true)], args := [d1, d2, d3, d4, d5] }
  | _ => none }
def bchNewsRow : OpenClaim := { program := "ytjmojhflnjbgaaagreat", sum := "b05ea0c4ff583cb796b1a4562ad721600b758a6c0d005b6853a849088b6b17e0", func := "codewright/codewrightlaw17.BchNews", spec := "bchNews", unfollowed := true, recurses := true, apart := false }
def BchNewsSaid : Prop := bchNewsRow.holds Tryz.pinned (OpenSpec.ofChange bchNewsSpec)

/-- ITS FALSE NEIGHBOUR: 'it returns false'. Refute it at one input. -/
def bchNewsWrong : ChangeSpec := { name := "bchNews", fn := fun _ => fun
  | [d1, d2, d3, d4, d5] => { results := [.lit (.bool false)], args := [d1, d2, d3, d4, d5] }
  | _ => none }
def BchNewsWrongFalsely : Prop := bchNewsRow.holds Tryz.pinned (OpenSpec.ofChange bchNewsWrong)

/-- 'codewrightlaw17.BchDesigned': WHATEVER THE INPUT: true; the input reads as it did. -/
def bchDesignedSpec : ChangeSpec := { name := "bchDesigned", fn := fun _ => fun
  | [d1, d2, d3, d4, d5, d6] => { results := [.lit (.bool true)], args := [d1, d2, d3, d4, d5, d6] }
  | _ => none }
def bchDesignedRow : OpenClaim := { program := "ytjmojhflnjbgaaagreat", sum := "b05ea0c4ff583cb796b1a4562ad721600b758a6c0d005b6853a849088b6b17e0", func := "codewright/codewrightlaw17.BchDesigned", spec := "bchDesigned", unfollowed := true, recurses := true, apart := false }
def BchDesignedSaid : Prop := bchDesignedRow.holds Tryz.pinned (OpenSpec.ofChange bchDesignedSpec)

/-- ITS FALSE NEIGHBOUR: 'it returns false'. Refute it at one input. -/
def bchDesignedWrong : ChangeSpec := { name := "bchDesigned", fn := fun _ => fun
  | [d1, d2, d3, d4, d5, d6] => { results := [.lit (.bool false)], args := [d1, d2, d3, d4, d5, d6] }
  | _ => none }
def BchDesignedWrongFalsely : Prop := bchDesignedRow.holds Tryz.pinned (OpenSpec.ofChange bchDesignedWrong)

/-- 'codewrightlaw17.BchSolomon': WHATEVER THE INPUT: true; the input reads as it did. -/
def bchSolomonSpec : ChangeSpec := { name := "bchSolomon", fn := fun _ => fun
  | [d1, d2, d3, d4, d5] => { results := [.lit (.bool true)], args := [d1, d2, d3, d4, d5] }
  | _ => none }
def bchSolomonRow : OpenClaim := { program := "ytjmojhflnjbgaaagreat", sum := "b05ea0c4ff583cb796b1a4562ad721600b758a6c0d005b6853a849088b6b17e0", func := "codewright/codewrightlaw17.BchSolomon", spec := "bchSolomon", unfollowed := true, recurses := true, apart := false }
def BchSolomonSaid : Prop := bchSolomonRow.holds Tryz.pinned (OpenSpec.ofChange bchSolomonSpec)

/-- ITS FALSE NEIGHBOUR: 'it returns false'. Refute it at one input. -/
def bchSolomonWrong : ChangeSpec := { name := "bchSolomon", fn := fun _ => fun
  | [d1, d2, d3, d4, d5] => { results := [.lit (.bool false)], args := [d1, d2, d3, d4, d5] }
  | _ => none }
def BchSolomonWrongFalsely : Prop := bchSolomonRow.holds Tryz.pinned (OpenSpec.ofChange bchSolomonWrong)

/-- 'codewrightlaw17.BchDimensions': WHATEVER THE INPUT: true; the input reads as it did. -/
def bchDimensionsSpec : ChangeSpec := { name := "bchDimensions", fn := fun _ => fun
  | [d1, d2, d3, d4] => { results := [.lit (.bool true)], args := [d1, d2, d3, d4] }
  | _ => none }
def bchDimensionsRow : OpenClaim := { program := "ytjmojhflnjbgaaagreat", sum := "b05ea0c4ff583cb796b1a4562ad721600b758a6c0d005b6853a849088b6b17e0", func := "codewright/codewrightlaw17.BchDimensions", spec := "bchDimensions", unfollowed := true, recurses := true, apart := false }
def BchDimensionsSaid : Prop := bchDimensionsRow.holds Tryz.pinned (OpenSpec.ofChange bchDimensionsSpec)

/-- ITS FALSE NEIGHBOUR: 'it returns false'. Refute it at one input. -/
def bchDimensionsWrong : ChangeSpec := { name := "bchDimensions", fn := fun _ => fun
  | [d1, d2, d3, d4] => { results := [.lit (.bool false)], args := [d1, d2, d3, d4] }
  | _ => none }
def BchDimensionsWrongFalsely : Prop := bchDimensionsRow.holds Tryz.pinned (OpenSpec.ofChange bchDimensionsWrong)

/-- 'codewrightlaw16.CyclicDivides': WHATEVER THE INPUT: true; the input reads as it did. -/
def cyclicDividesSpec : ChangeSpec := { name := "cyclicDivides", fn := fun _ => fun
  | [d] => { results := [.lit (.bool true)], args := [d] }
  | _ => none }
def cyclicDividesRow : OpenClaim := { program := "ytjmojhflnjbgaaagreat", sum := "b05ea0c4ff583cb796b1a4562ad721600b758a6c0d005b6853a849088b6b17e0", func := "codewright/codewrightlaw16.CyclicDivides", spec := "cyclicDivides", unfollowed := true, recurses := true, apart := false }
def CyclicDividesSaid : Prop := cyclicDividesRow.holds Tryz.pinned (OpenSpec.ofChange cyclicDividesSpec)

/-- ITS FALSE NEIGHBOUR: 'it returns false'. Refute it at one input. -/
def cyclicDividesWrong : ChangeSpec := { name := "cyclicDivides", fn := fun _ => fun
  | [d] => { results := [.lit (.bool false)], args := [d] }
  | _ => none }
def CyclicDividesWrongFalsely : Prop := cyclicDividesRow.holds Tryz.pinned (OpenSpec.ofChange cyclicDividesWrong)

/- THE SECOND FORM. 'bulk': how many values and letters a reading holds, each counted each time it is reached (what is shared counts as often as it is met; a slice's spare places count too). A statement '..UptoSaid' is the law's where the arguments, and the package variables that the reading takes, are together of bulk at most 1048576: NARROWER than '..Said'. Prove '..Said' where nothing that the law and all that it calls make is longer than what came in: it says more and counts as full. Else prove '..UptoSaid'. A law counts once. -/
mutual
def uptoBulk {H : Type} : DataW H → Nat
  | .lit (.string bytes) => bytes.length + 1
  | .lit _ => 1
  | .nil => 1
  | .ptr d => uptoBulk d + 1
  | .slice elems spare => uptoBulkAll elems + uptoBulkAll spare + 1
  | .agg parts => uptoBulkAll parts + 1
  | .iface _ d => uptoBulk d + 1
  | .map entries => uptoBulkEntries entries + 1
  | .held _ => 1
def uptoBulkAll {H : Type} : List (DataW H) → Nat
  | [] => 0
  | d :: r => uptoBulk d + uptoBulkAll r
def uptoBulkEntries {H : Type} : List (Lit × DataW H) → Nat
  | [] => 0
  | x :: r => uptoBulkEntry x + uptoBulkEntries r
def uptoBulkEntry {H : Type} : Lit × DataW H → Nat
  | (.string bytes, d) => bytes.length + uptoBulk d + 1
  | (_, d) => uptoBulk d + 1
 end
def uptoSmall : (H : Type) → List (DataW H) → Bool := fun _ ds => decide (uptoBulkAll ds ≤ 1048576)
def OpenSpec.upto (s : _root_.Go.ChangeSpec) : _root_.Go.OpenSpec := { _root_.Go.OpenSpec.ofChange s with cond := some uptoSmall }

/-- 'codewrightlaw16.CyclicIs', WHERE WHAT IT READS IS OF BULK AT MOST 1048576: true; the input reads as it did. -/
def cyclicIsUptoRow : OpenClaim := { program := "ytjmojhflnjbgaaagreat", sum := "b05ea0c4ff583cb796b1a4562ad721600b758a6c0d005b6853a849088b6b17e0", func := "codewright/codewrightlaw16.CyclicIs", spec := "cyclicIs", unfollowed := true, recurses := true, apart := false, narrowed := true }
def CyclicIsUptoSaid : Prop := cyclicIsUptoRow.holds Tryz.pinned (OpenSpec.upto cyclicIsSpec)

/-- 'codewrightlaw16.CyclicReverses', WHERE WHAT IT READS IS OF BULK AT MOST 1048576: true; the input reads as it did. -/
def cyclicReversesUptoRow : OpenClaim := { program := "ytjmojhflnjbgaaagreat", sum := "b05ea0c4ff583cb796b1a4562ad721600b758a6c0d005b6853a849088b6b17e0", func := "codewright/codewrightlaw16.CyclicReverses", spec := "cyclicReverses", unfollowed := true, recurses := true, apart := false, narrowed := true }
def CyclicReversesUptoSaid : Prop := cyclicReversesUptoRow.holds Tryz.pinned (OpenSpec.upto cyclicReversesSpec)

/-- 'codewrightlaw16.CyclicLattice', WHERE WHAT IT READS IS OF BULK AT MOST 1048576: true; the input reads as it did. -/
def cyclicLatticeUptoRow : OpenClaim := { program := "ytjmojhflnjbgaaagreat", sum := "b05ea0c4ff583cb796b1a4562ad721600b758a6c0d005b6853a849088b6b17e0", func := "codewright/codewrightlaw16.CyclicLattice", spec := "cyclicLattice", unfollowed := true, recurses := true, apart := false, narrowed := true }
def CyclicLatticeUptoSaid : Prop := cyclicLatticeUptoRow.holds Tryz.pinned (OpenSpec.upto cyclicLatticeSpec)

/-- 'codewrightlaw16.CyclicDuals', WHERE WHAT IT READS IS OF BULK AT MOST 1048576: true; the input reads as it did. -/
def cyclicDualsUptoRow : OpenClaim := { program := "ytjmojhflnjbgaaagreat", sum := "b05ea0c4ff583cb796b1a4562ad721600b758a6c0d005b6853a849088b6b17e0", func := "codewright/codewrightlaw16.CyclicDuals", spec := "cyclicDuals", unfollowed := true, recurses := true, apart := false, narrowed := true }
def CyclicDualsUptoSaid : Prop := cyclicDualsUptoRow.holds Tryz.pinned (OpenSpec.upto cyclicDualsSpec)

/-- 'codewrightlaw17.BchWeights', WHERE WHAT IT READS IS OF BULK AT MOST 1048576: true; the input reads as it did. -/
def bchWeightsUptoRow : OpenClaim := { program := "ytjmojhflnjbgaaagreat", sum := "b05ea0c4ff583cb796b1a4562ad721600b758a6c0d005b6853a849088b6b17e0", func := "codewright/codewrightlaw17.BchWeights", spec := "bchWeights", unfollowed := true, recurses := true, apart := false, narrowed := true }
def BchWeightsUptoSaid : Prop := bchWeightsUptoRow.holds Tryz.pinned (OpenSpec.upto bchWeightsSpec)

/-- 'codewrightlaw16.CyclicIdempotents', WHERE WHAT IT READS IS OF BULK AT MOST 1048576: true; the input reads as it did. -/
def cyclicIdempotentsUptoRow : OpenClaim := { program := "ytjmojhflnjbgaaagreat", sum := "b05ea0c4ff583cb796b1a4562ad721600b758a6c0d005b6853a849088b6b17e0", func := "codewright/codewrightlaw16.CyclicIdempotents", spec := "cyclicIdempotents", unfollowed := true, recurses := true, apart := false, narrowed := true }
def CyclicIdempotentsUptoSaid : Prop := cyclicIdempotentsUptoRow.holds Tryz.pinned (OpenSpec.upto cyclicIdempotentsSpec)

/-- 'codewrightlaw17.BchFromZeros', WHERE WHAT IT READS IS OF BULK AT MOST 1048576: true; the input reads as it did. -/
def bchFromZerosUptoRow : OpenClaim := { program := "ytjmojhflnjbgaaagreat", sum := "b05ea0c4ff583cb796b1a4562ad721600b758a6c0d005b6853a849088b6b17e0", func := "codewright/codewrightlaw17.BchFromZeros", spec := "bchFromZeros", unfollowed := true, recurses := true, apart := false, narrowed := true }
def BchFromZerosUptoSaid : Prop := bchFromZerosUptoRow.holds Tryz.pinned (OpenSpec.upto bchFromZerosSpec)

/-- 'codewrightlaw17.BchMembers', WHERE WHAT IT READS IS OF BULK AT MOST 1048576: true; the input reads as it did. -/
def bchMembersUptoRow : OpenClaim := { program := "ytjmojhflnjbgaaagreat", sum := "b05ea0c4ff583cb796b1a4562ad721600b758a6c0d005b6853a849088b6b17e0", func := "codewright/codewrightlaw17.BchMembers", spec := "bchMembers", unfollowed := true, recurses := true, apart := false, narrowed := true }
def BchMembersUptoSaid : Prop := bchMembersUptoRow.holds Tryz.pinned (OpenSpec.upto bchMembersSpec)

/-- 'codewrightlaw17.BchPolynomials', WHERE WHAT IT READS IS OF BULK AT MOST 1048576: true; the input reads as it did. -/
def bchPolynomialsUptoRow : OpenClaim := { program := "ytjmojhflnjbgaaagreat", sum := "b05ea0c4ff583cb796b1a4562ad721600b758a6c0d005b6853a849088b6b17e0", func := "codewright/codewrightlaw17.BchPolynomials", spec := "bchPolynomials", unfollowed := true, recurses := true, apart := false, narrowed := true }
def BchPolynomialsUptoSaid : Prop := bchPolynomialsUptoRow.holds Tryz.pinned (OpenSpec.upto bchPolynomialsSpec)

/-- 'codewrightlaw17.BchNews', WHERE WHAT IT READS IS OF BULK AT MOST 1048576: true; the input reads as it did. -/
def bchNewsUptoRow : OpenClaim := { program := "ytjmojhflnjbgaaagreat", sum := "b05ea0c4ff583cb796b1a4562ad721600b758a6c0d005b6853a849088b6b17e0", func := "codewright/codewrightlaw17.BchNews", spec := "bchNews", unfollowed := true, recurses := true, apart := false, narrowed := true }
def BchNewsUptoSaid : Prop := bchNewsUptoRow.holds Tryz.pinned (OpenSpec.upto bchNewsSpec)

/-- 'codewrightlaw17.BchDesigned', WHERE WHAT IT READS IS OF BULK AT MOST 1048576: true; the input reads as it did. -/
def bchDesignedUptoRow : OpenClaim := { program := "ytjmojhflnjbgaaagreat", sum := "b05ea0c4ff583cb796b1a4562ad721600b758a6c0d005b6853a849088b6b17e0", func := "codewright/codewrightlaw17.BchDesigned", spec := "bchDesigned", unfollowed := true, recurses := true, apart := false, narrowed := true }
def BchDesignedUptoSaid : Prop := bchDesignedUptoRow.holds Tryz.pinned (OpenSpec.upto bchDesignedSpec)

/-- 'codewrightlaw17.BchSolomon', WHERE WHAT IT READS IS OF BULK AT MOST 1048576: true; the input reads as it did. -/
def bchSolomonUptoRow : OpenClaim := { program := "ytjmojhflnjbgaaagreat", sum := "b05ea0c4ff583cb796b1a4562ad721600b758a6c0d005b6853a849088b6b17e0", func := "codewright/codewrightlaw17.BchSolomon", spec := "bchSolomon", unfollowed := true, recurses := true, apart := false, narrowed := true }
def BchSolomonUptoSaid : Prop := bchSolomonUptoRow.holds Tryz.pinned (OpenSpec.upto bchSolomonSpec)

/-- 'codewrightlaw17.BchDimensions', WHERE WHAT IT READS IS OF BULK AT MOST 1048576: true; the input reads as it did. -/
def bchDimensionsUptoRow : OpenClaim := { program := "ytjmojhflnjbgaaagreat", sum := "b05ea0c4ff583cb796b1a4562ad721600b758a6c0d005b6853a849088b6b17e0", func := "codewright/codewrightlaw17.BchDimensions", spec := "bchDimensions", unfollowed := true, recurses := true, apart := false, narrowed := true }
def BchDimensionsUptoSaid : Prop := bchDimensionsUptoRow.holds Tryz.pinned (OpenSpec.upto bchDimensionsSpec)

/-- 'codewrightlaw16.CyclicDivides', WHERE WHAT IT READS IS OF BULK AT MOST 1048576: true; the input reads as it did. -/
def cyclicDividesUptoRow : OpenClaim := { program := "ytjmojhflnjbgaaagreat", sum := "b05ea0c4ff583cb796b1a4562ad721600b758a6c0d005b6853a849088b6b17e0", func := "codewright/codewrightlaw16.CyclicDivides", spec := "cyclicDivides", unfollowed := true, recurses := true, apart := false, narrowed := true }
def CyclicDividesUptoSaid : Prop := cyclicDividesUptoRow.holds Tryz.pinned (OpenSpec.upto cyclicDividesSpec)

end Rows
end Go.Proofs.YtjmojhflnjbgaaaGreat

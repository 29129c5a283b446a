/-
  No cell of these rows narrows 'for every input' (looked for: loops, veiled, ifaces, maps, wideKeys, modest, calm, conditions, laid).
  DERIVED. THE GIVEN ROWS OF THIS SEAT. 13 by the template 'for every input the law returns true; each argument reads behind the call as it read before'; 0 by the template 'total and deterministic' (their statements: YtjmojhflnjbgaaaTotals.lean).
  GIVEN WITH THE SEED: the statements are not yours to turn. If you find one false, say at which input.
  Laid BY PROGRAM, IN A SANDBOX (cutbox-rows.mjs): the forced cells as the released guide's own fill.sh prints them over the translation b011804b2d045371… (all of the seat's roots in one cut). By AI agents, Wed Nov 11 2026. No macro, syntax, notation, axiom, sorry.
-/
import Derived.Test.YtjmojhflnjbgaaaChecked
import GoSem.Claim
import GoSem.ClaimJoined
import GoSem.ClaimMapViews
import Derived.JoinedTies
import Derived.KernelRfl
namespace Go.Proofs.Ytjmojhflnjbgaaa
/- THE CELL 'sum', in the pinned program and in every row, IS THE sha256 OF THE DUMP (.gsa) THAT YtjmojhflnjbgaaaProg.lean LOADS. Nothing in Lean hashes anything: it is a label: what it is worth is what the hold of that sum in a sandbox is worth. -/
noncomputable def Try.pinned : Pinned := { name := "ytjmojhflnjbgaaa", sum := "b011804b2d0453712e8948c083b2d28c473f49acdc409164bbc4699a8beec0eb", checked := Try.checked }
namespace Rows
def none {H : Type} : Left H := { results := [], args := [] }

/-- 'codewrightlaw17.BchChecks': WHATEVER THE INPUT: true; the input reads as it did. -/
def bchChecksSpec : ChangeSpec := { name := "bchChecks", fn := fun _ => fun
  | [d1, d2, d3] => { results := [.lit (.bool true)], args := [d1, d2, d3] }
  | _ => none }
def bchChecksRow : OpenClaim := { program := "ytjmojhflnjbgaaa", sum := "b011804b2d0453712e8948c083b2d28c473f49acdc409164bbc4699a8beec0eb", func := "codewright/codewrightlaw17.BchChecks", spec := "bchChecks", apart := false }
def BchChecksSaid : Prop := bchChecksRow.holds Try.pinned (OpenSpec.ofChange bchChecksSpec)

/-- ITS FALSE NEIGHBOUR: 'it returns false'. Refute it at one input. -/
def bchChecksWrong : ChangeSpec := { name := "bchChecks", fn := fun _ => fun
  | [d1, d2, d3] => { results := [.lit (.bool false)], args := [d1, d2, d3] }
  | _ => none }
def BchChecksWrongFalsely : Prop := bchChecksRow.holds Try.pinned (OpenSpec.ofChange bchChecksWrong)

/-- 'codewrightlaw17.BchBounds': WHATEVER THE INPUT: true; the input reads as it did. -/
def bchBoundsSpec : ChangeSpec := { name := "bchBounds", fn := fun _ => fun
  | [d1, d2] => { results := [.lit (.bool true)], args := [d1, d2] }
  | _ => none }
def bchBoundsRow : OpenClaim := { program := "ytjmojhflnjbgaaa", sum := "b011804b2d0453712e8948c083b2d28c473f49acdc409164bbc4699a8beec0eb", func := "codewright/codewrightlaw17.BchBounds", spec := "bchBounds", apart := false }
def BchBoundsSaid : Prop := bchBoundsRow.holds Try.pinned (OpenSpec.ofChange bchBoundsSpec)

/-- ITS FALSE NEIGHBOUR: 'it returns false'. Refute it at one input. -/
def bchBoundsWrong : ChangeSpec := { name := "bchBounds", fn := fun _ => fun
  | [d1, d2] => { results := [.lit (.bool false)], args := [d1, d2] }
  | _ => none }
def BchBoundsWrongFalsely : Prop := bchBoundsRow.holds Try.pinned (OpenSpec.ofChange bchBoundsWrong)

/-- 'codewrightlaw17.BchMultiplies': WHATEVER THE INPUT: true; the input reads as it did. -/
def bchMultipliesSpec : ChangeSpec := { name := "bchMultiplies", fn := fun _ => fun
  | [d1, d2, d3, d4] => { results := [.lit (.bool true)], args := [d1, d2, d3, d4] }
  | _ => none }
def bchMultipliesRow : OpenClaim := { program := "ytjmojhflnjbgaaa", sum := "b011804b2d0453712e8948c083b2d28c473f49acdc409164bbc4699a8beec0eb", func := "codewright/codewrightlaw17.BchMultiplies", spec := "bchMultiplies", apart := false }
def BchMultipliesSaid : Prop := bchMultipliesRow.holds Try.pinned (OpenSpec.ofChange bchMultipliesSpec)

/-- ITS FALSE NEIGHBOUR: 'it returns false'. Refute it at one input. -/
def bchMultipliesWrong : ChangeSpec := { name := "bchMultiplies", fn := fun _ => fun
  | [d1, d2, d3, d4] => { results := [.lit (.bool false)], args := [d1, d2, d3, d4] }
  | _ => none }
def BchMultipliesWrongFalsely : Prop := bchMultipliesRow.holds Try.pinned (OpenSpec.ofChange bchMultipliesWrong)

/-- 'codewrightlaw17.BchRoots': WHATEVER THE INPUT: true; the input reads as it did. -/
def bchRootsSpec : ChangeSpec := { name := "bchRoots", fn := fun _ => fun
  | [d1, d2] => { results := [.lit (.bool true)], args := [d1, d2] }
  | _ => none }
def bchRootsRow : OpenClaim := { program := "ytjmojhflnjbgaaa", sum := "b011804b2d0453712e8948c083b2d28c473f49acdc409164bbc4699a8beec0eb", func := "codewright/codewrightlaw17.BchRoots", spec := "bchRoots", unfollowed := true, recurses := true, apart := false }
def BchRootsSaid : Prop := bchRootsRow.holds Try.pinned (OpenSpec.ofChange bchRootsSpec)

/-- ITS FALSE NEIGHBOUR: 'it returns false'. Refute it at one input. -/
def bchRootsWrong : ChangeSpec := { name := "bchRoots", fn := fun _ => fun
  | [d1, d2] => { results := [.lit (.bool false)], args := [d1, d2] }
  | _ => none }
def BchRootsWrongFalsely : Prop := bchRootsRow.holds Try.pinned (OpenSpec.ofChange bchRootsWrong)

/-- 'codewrightlaw16.CyclicNews': WHATEVER THE INPUT: true; the input reads as it did. -/
def cyclicNewsSpec : ChangeSpec := { name := "cyclicNews", fn := fun _ => fun
  | [d1, d2, d3] => { results := [.lit (.bool true)], args := [d1, d2, d3] }
  | _ => none }
def cyclicNewsRow : OpenClaim := { program := "ytjmojhflnjbgaaa", sum := "b011804b2d0453712e8948c083b2d28c473f49acdc409164bbc4699a8beec0eb", func := "codewright/codewrightlaw16.CyclicNews", spec := "cyclicNews", unfollowed := true, recurses := true, apart := false }
def CyclicNewsSaid : Prop := cyclicNewsRow.holds Try.pinned (OpenSpec.ofChange cyclicNewsSpec)

/-- ITS FALSE NEIGHBOUR: 'it returns false'. Refute it at one input. -/
def cyclicNewsWrong : ChangeSpec := { name := "cyclicNews", fn := fun _ => fun
  | [d1, d2, d3] => { results := [.lit (.bool false)], args := [d1, d2, d3] }
  | _ => none }
def CyclicNewsWrongFalsely : Prop := cyclicNewsRow.holds Try.pinned (OpenSpec.ofChange cyclicNewsWrong)

/-- 'codewrightlaw16.CyclicIdeal': WHATEVER THE INPUT: true; the input reads as it did. -/
def cyclicIdealSpec : ChangeSpec := { name := "cyclicIdeal", fn := fun _ => fun
  | [d1, d2, d3, d4] => { results := [.lit (.bool true)], args := [d1, d2, d3, d4] }
  | _ => none }
def cyclicIdealRow : OpenClaim := { program := "ytjmojhflnjbgaaa", sum := "b011804b2d0453712e8948c083b2d28c473f49acdc409164bbc4699a8beec0eb", func := "codewright/codewrightlaw16.CyclicIdeal", spec := "cyclicIdeal", unfollowed := true, recurses := true, apart := false }
def CyclicIdealSaid : Prop := cyclicIdealRow.holds Try.pinned (OpenSpec.ofChange cyclicIdealSpec)

/-- ITS FALSE NEIGHBOUR: 'it returns false'. Refute it at one input. -/
def cyclicIdealWrong : ChangeSpec := { name := "cyclicIdeal", fn := fun _ => fun
  | [d1, d2, d3, d4] => { results := [.lit (.bool false)], args := [d1, d2, d3, d4] }
  | _ => none }
def CyclicIdealWrongFalsely : Prop := cyclicIdealRow.holds Try.pinned (OpenSpec.ofChange cyclicIdealWrong)

/-- 'codewrightlaw16.CyclicQuasi': WHATEVER THE INPUT: true; the input reads as it did. -/
def cyclicQuasiSpec : ChangeSpec := { name := "cyclicQuasi", fn := fun _ => fun
  | [d1, d2, d3] => { results := [.lit (.bool true)], args := [d1, d2, d3] }
  | _ => none }
def cyclicQuasiRow : OpenClaim := { program := "ytjmojhflnjbgaaa", sum := "b011804b2d0453712e8948c083b2d28c473f49acdc409164bbc4699a8beec0eb", func := "codewright/codewrightlaw16.CyclicQuasi", spec := "cyclicQuasi", unfollowed := true, recurses := true, apart := false }
def CyclicQuasiSaid : Prop := cyclicQuasiRow.holds Try.pinned (OpenSpec.ofChange cyclicQuasiSpec)

/-- ITS FALSE NEIGHBOUR: 'it returns false'. Refute it at one input. -/
def cyclicQuasiWrong : ChangeSpec := { name := "cyclicQuasi", fn := fun _ => fun
  | [d1, d2, d3] => { results := [.lit (.bool false)], args := [d1, d2, d3] }
  | _ => none }
def CyclicQuasiWrongFalsely : Prop := cyclicQuasiRow.holds Try.pinned (OpenSpec.ofChange cyclicQuasiWrong)

/-- 'codewrightlaw16.CyclicCosets': WHATEVER THE INPUT: true; the input reads as it did. -/
def cyclicCosetsSpec : ChangeSpec := { name := "cyclicCosets", fn := fun _ => fun
  | [d1, d2] => { results := [.lit (.bool true)], args := [d1, d2] }
  | _ => none }
def cyclicCosetsRow : OpenClaim := { program := "ytjmojhflnjbgaaa", sum := "b011804b2d0453712e8948c083b2d28c473f49acdc409164bbc4699a8beec0eb", func := "codewright/codewrightlaw16.CyclicCosets", spec := "cyclicCosets", recurses := true, apart := false }
def CyclicCosetsSaid : Prop := cyclicCosetsRow.holds Try.pinned (OpenSpec.ofChange cyclicCosetsSpec)

/-- ITS FALSE NEIGHBOUR: 'it returns false'. Refute it at one input. -/
def cyclicCosetsWrong : ChangeSpec := { name := "cyclicCosets", fn := fun _ => fun
  | [d1, d2] => { results := [.lit (.bool false)], args := [d1, d2] }
  | _ => none }
def CyclicCosetsWrongFalsely : Prop := cyclicCosetsRow.holds Try.pinned (OpenSpec.ofChange cyclicCosetsWrong)

/-- 'codewrightlaw16.CyclicPartition': WHATEVER THE INPUT: true; the input reads as it did. -/
def cyclicPartitionSpec : ChangeSpec := { name := "cyclicPartition", fn := fun _ => fun
  | [d1, d2] => { results := [.lit (.bool true)], args := [d1, d2] }
  | _ => none }
def cyclicPartitionRow : OpenClaim := { program := "ytjmojhflnjbgaaa", sum := "b011804b2d0453712e8948c083b2d28c473f49acdc409164bbc4699a8beec0eb", func := "codewright/codewrightlaw16.CyclicPartition", spec := "cyclicPartition", recurses := true, apart := false }
def CyclicPartitionSaid : Prop := cyclicPartitionRow.holds Try.pinned (OpenSpec.ofChange cyclicPartitionSpec)

/-- ITS FALSE NEIGHBOUR: 'it returns false'. Refute it at one input. -/
def cyclicPartitionWrong : ChangeSpec := { name := "cyclicPartition", fn := fun _ => fun
  | [d1, d2] => { results := [.lit (.bool false)], args := [d1, d2] }
  | _ => none }
def CyclicPartitionWrongFalsely : Prop := cyclicPartitionRow.holds Try.pinned (OpenSpec.ofChange cyclicPartitionWrong)

/-- 'codewrightlaw17.BchClosures': WHATEVER THE INPUT: true; the input reads as it did. -/
def bchClosuresSpec : ChangeSpec := { name := "bchClosures", fn := fun _ => fun
  | [d1, d2, d3] => { results := [.lit (.bool true)], args := [d1, d2, d3] }
  | _ => none }
def bchClosuresRow : OpenClaim := { program := "ytjmojhflnjbgaaa", sum := "b011804b2d0453712e8948c083b2d28c473f49acdc409164bbc4699a8beec0eb", func := "codewright/codewrightlaw17.BchClosures", spec := "bchClosures", unfollowed := true, recurses := true, apart := false }
def BchClosuresSaid : Prop := bchClosuresRow.holds Try.pinned (OpenSpec.ofChange bchClosuresSpec)

/-- ITS FALSE NEIGHBOUR: 'it returns false'. Refute it at one input. -/
def bchClosuresWrong : ChangeSpec := { name := "bchClosures", fn := fun _ => fun
  | [d1, d2, d3] => { results := [.lit (.bool false)], args := [d1, d2, d3] }
  | _ => none }
def BchClosuresWrongFalsely : Prop := bchClosuresRow.holds Try.pinned (OpenSpec.ofChange bchClosuresWrong)

/-- 'codewrightlaw16.CyclicShifts': WHATEVER THE INPUT: true; the input reads as it did. -/
def cyclicShiftsSpec : ChangeSpec := { name := "cyclicShifts", fn := fun _ => fun
  | [d1, d2] => { results := [.lit (.bool true)], args := [d1, d2] }
  | _ => none }
def cyclicShiftsRow : OpenClaim := { program := "ytjmojhflnjbgaaa", sum := "b011804b2d0453712e8948c083b2d28c473f49acdc409164bbc4699a8beec0eb", func := "codewright/codewrightlaw16.CyclicShifts", spec := "cyclicShifts", unfollowed := true, recurses := true, apart := false }
def CyclicShiftsSaid : Prop := cyclicShiftsRow.holds Try.pinned (OpenSpec.ofChange cyclicShiftsSpec)

/-- ITS FALSE NEIGHBOUR: 'it returns false'. Refute it at one input. -/
def cyclicShiftsWrong : ChangeSpec := { name := "cyclicShifts", fn := fun _ => fun
  | [d1, d2] => { results := [.lit (.bool false)], args := [d1, d2] }
  | _ => none }
def CyclicShiftsWrongFalsely : Prop := cyclicShiftsRow.holds Try.pinned (OpenSpec.ofChange cyclicShiftsWrong)

/-- 'codewrightlaw16.CyclicBlocks': WHATEVER THE INPUT: true; the input reads as it did. -/
def cyclicBlocksSpec : ChangeSpec := { name := "cyclicBlocks", fn := fun _ => fun
  | [d1, d2] => { results := [.lit (.bool true)], args := [d1, d2] }
  | _ => none }
def cyclicBlocksRow : OpenClaim := { program := "ytjmojhflnjbgaaa", sum := "b011804b2d0453712e8948c083b2d28c473f49acdc409164bbc4699a8beec0eb", func := "codewright/codewrightlaw16.CyclicBlocks", spec := "cyclicBlocks", unfollowed := true, recurses := true, apart := false }
def CyclicBlocksSaid : Prop := cyclicBlocksRow.holds Try.pinned (OpenSpec.ofChange cyclicBlocksSpec)

/-- ITS FALSE NEIGHBOUR: 'it returns false'. Refute it at one input. -/
def cyclicBlocksWrong : ChangeSpec := { name := "cyclicBlocks", fn := fun _ => fun
  | [d1, d2] => { results := [.lit (.bool false)], args := [d1, d2] }
  | _ => none }
def CyclicBlocksWrongFalsely : Prop := cyclicBlocksRow.holds Try.pinned (OpenSpec.ofChange cyclicBlocksWrong)

/-- 'codewrightlaw17.BchZeros': WHATEVER THE INPUT: true; the input reads as it did. -/
def bchZerosSpec : ChangeSpec := { name := "bchZeros", fn := fun _ => fun
  | [d1, d2] => { results := [.lit (.bool true)], args := [d1, d2] }
  | _ => none }
def bchZerosRow : OpenClaim := { program := "ytjmojhflnjbgaaa", sum := "b011804b2d0453712e8948c083b2d28c473f49acdc409164bbc4699a8beec0eb", func := "codewright/codewrightlaw17.BchZeros", spec := "bchZeros", unfollowed := true, recurses := true, apart := false }
def BchZerosSaid : Prop := bchZerosRow.holds Try.pinned (OpenSpec.ofChange bchZerosSpec)

/-- ITS FALSE NEIGHBOUR: 'it returns false'. Refute it at one input. -/
def bchZerosWrong : ChangeSpec := { name := "bchZeros", fn := fun _ => fun
  | [d1, d2] => { results := [.lit (.bool false)], args := [d1, d2] }
  | _ => none }
def BchZerosWrongFalsely : Prop := bchZerosRow.holds Try.pinned (OpenSpec.ofChange bchZerosWrong)

/- THE SECOND FORM. 'bulk': how many values and letters a reading holds, each counted each time it is reached (what is shared counts as often as it is met; a slice's spare places count too). A statement '..UptoSaid' is the law's where the arguments, and the package variables that the reading takes, are together of bulk at most 1048576: NARROWER than '..Said'. Prove '..Said' where nothing that the law and all that it calls make is longer than what came in: it says more and counts as full. Else prove '..UptoSaid'. A law counts once. -/
mutual
def uptoBulk {H : Type} : DataW H → Nat
  | .lit (.string bytes) => bytes.length + 1
  | .lit _ => 1
  | .nil => 1
  | .ptr d => uptoBulk d + 1
  | .slice elems spare => uptoBulkAll elems + uptoBulkAll spare + 1
  | .agg parts => uptoBulkAll parts + 1
  | .iface _ d => uptoBulk d + 1
  | .map entries => uptoBulkEntries entries + 1
  | .held _ => 1
def uptoBulkAll {H : Type} : List (DataW H) → Nat
  | [] => 0
  | d :: r => uptoBulk d + uptoBulkAll r
def uptoBulkEntries {H : Type} : List (Lit × DataW H) → Nat
  | [] => 0
  | x :: r => uptoBulkEntry x + uptoBulkEntries r
def uptoBulkEntry {H : Type} : Lit × DataW H → Nat
  | (.string bytes, d) => bytes.length + uptoBulk d + 1
  | (_, d) => uptoBulk d + 1
 end
def uptoSmall : (H : Type) → List (DataW H) → Bool := fun _ ds => decide (uptoBulkAll ds ≤ 1048576)
def OpenSpec.upto (s : _root_.Go.ChangeSpec) : _root_.Go.OpenSpec := { _root_.Go.OpenSpec.ofChange s with cond := some uptoSmall }

/-- 'codewrightlaw17.BchChecks', WHERE WHAT IT READS IS OF BULK AT MOST 1048576: true; the input reads as it did. -/
def bchChecksUptoRow : OpenClaim := { program := "ytjmojhflnjbgaaa", sum := "b011804b2d0453712e8948c083b2d28c473f49acdc409164bbc4699a8beec0eb", func := "codewright/codewrightlaw17.BchChecks", spec := "bchChecks", apart := false, narrowed := true }
def BchChecksUptoSaid : Prop := bchChecksUptoRow.holds Try.pinned (OpenSpec.upto bchChecksSpec)

/-- 'codewrightlaw17.BchBounds', WHERE WHAT IT READS IS OF BULK AT MOST 1048576: true; the input reads as it did. -/
def bchBoundsUptoRow : OpenClaim := { program := "ytjmojhflnjbgaaa", sum := "b011804b2d0453712e8948c083b2d28c473f49acdc409164bbc4699a8beec0eb", func := "codewright/codewrightlaw17.BchBounds", spec := "bchBounds", apart := false, narrowed := true }
def BchBoundsUptoSaid : Prop := bchBoundsUptoRow.holds Try.pinned (OpenSpec.upto bchBoundsSpec)

/-- 'codewrightlaw17.BchMultiplies', WHERE WHAT IT READS IS OF BULK AT MOST 1048576: true; the input reads as it did. -/
def bchMultipliesUptoRow : OpenClaim := { program := "ytjmojhflnjbgaaa", sum := "b011804b2d0453712e8948c083b2d28c473f49acdc409164bbc4699a8beec0eb", func := "codewright/codewrightlaw17.BchMultiplies", spec := "bchMultiplies", apart := false, narrowed := true }
def BchMultipliesUptoSaid : Prop := bchMultipliesUptoRow.holds Try.pinned (OpenSpec.upto bchMultipliesSpec)

/-- 'codewrightlaw17.BchRoots', WHERE WHAT IT READS IS OF BULK AT MOST 1048576: true; the input reads as it did. -/
def bchRootsUptoRow : OpenClaim := { program := "ytjmojhflnjbgaaa", sum := "b011804b2d0453712e8948c083b2d28c473f49acdc409164bbc4699a8beec0eb", func := "codewright/codewrightlaw17.BchRoots", spec := "bchRoots", unfollowed := true, recurses := true, apart := false, narrowed := true }
def BchRootsUptoSaid : Prop := bchRootsUptoRow.holds Try.pinned (OpenSpec.upto bchRootsSpec)

/-- 'codewrightlaw16.CyclicNews', WHERE WHAT IT READS IS OF BULK AT MOST 1048576: true; the input reads as it did. -/
def cyclicNewsUptoRow : OpenClaim := { program := "ytjmojhflnjbgaaa", sum := "b011804b2d0453712e8948c083b2d28c473f49acdc409164bbc4699a8beec0eb", func := "codewright/codewrightlaw16.CyclicNews", spec := "cyclicNews", unfollowed := true, recurses := true, apart := false, narrowed := true }
def CyclicNewsUptoSaid : Prop := cyclicNewsUptoRow.holds Try.pinned (OpenSpec.upto cyclicNewsSpec)

/-- 'codewrightlaw16.CyclicIdeal', WHERE WHAT IT READS IS OF BULK AT MOST 1048576: true; the input reads as it did. -/
def cyclicIdealUptoRow : OpenClaim := { program := "ytjmojhflnjbgaaa", sum := "b011804b2d0453712e8948c083b2d28c473f49acdc409164bbc4699a8beec0eb", func := "codewright/codewrightlaw16.CyclicIdeal", spec := "cyclicIdeal", unfollowed := true, recurses := true, apart := false, narrowed := true }
def CyclicIdealUptoSaid : Prop := cyclicIdealUptoRow.holds Try.pinned (OpenSpec.upto cyclicIdealSpec)

/-- 'codewrightlaw16.CyclicQuasi', WHERE WHAT IT READS IS OF BULK AT MOST 1048576: true; the input reads as it did. -/
def cyclicQuasiUptoRow : OpenClaim := { program := "ytjmojhflnjbgaaa", sum := "b011804b2d0453712e8948c083b2d28c473f49acdc409164bbc4699a8beec0eb", func := "codewright/codewrightlaw16.CyclicQuasi", spec := "cyclicQuasi", unfollowed := true, recurses := true, apart := false, narrowed := true }
def CyclicQuasiUptoSaid : Prop := cyclicQuasiUptoRow.holds Try.pinned (OpenSpec.upto cyclicQuasiSpec)

/-- 'codewrightlaw16.CyclicCosets', WHERE WHAT IT READS IS OF BULK AT MOST 1048576: true; the input reads as it did. -/
def cyclicCosetsUptoRow : OpenClaim := { program := "ytjmojhflnjbgaaa", sum := "b011804b2d0453712e8948c083b2d28c473f49acdc409164bbc4699a8beec0eb", func := "codewright/codewrightlaw16.CyclicCosets", spec := "cyclicCosets", recurses := true, apart := false, narrowed := true }
def CyclicCosetsUptoSaid : Prop := cyclicCosetsUptoRow.holds Try.pinned (OpenSpec.upto cyclicCosetsSpec)

/-- 'codewrightlaw16.CyclicPartition', WHERE WHAT IT READS IS OF BULK AT MOST 1048576: true; the input reads as it did. -/
def cyclicPartitionUptoRow : OpenClaim := { program := "ytjmojhflnjbgaaa", sum := "b011804b2d0453712e8948c083b2d28c473f49acdc409164bbc4699a8beec0eb", func := "codewright/codewrightlaw16.CyclicPartition", spec := "cyclicPartition", recurses := true, apart := false, narrowed := true }
def CyclicPartitionUptoSaid : Prop := cyclicPartitionUptoRow.holds Try.pinned (OpenSpec.upto cyclicPartitionSpec)

/-- 'codewrightlaw17.BchClosures', WHERE WHAT IT READS IS OF BULK AT MOST 1048576: true; the input reads as it did. -/
def bchClosuresUptoRow : OpenClaim := { program := "ytjmojhflnjbgaaa", sum := "b011804b2d0453712e8948c083b2d28c473f49acdc409164bbc4699a8beec0eb", func := "codewright/codewrightlaw17.BchClosures", spec := "bchClosures", unfollowed := true, recurses := true, apart := false, narrowed := true }
def BchClosuresUptoSaid : Prop := bchClosuresUptoRow.holds Try.pinned (OpenSpec.upto bchClosuresSpec)

/-- 'codewrightlaw16.CyclicShifts', WHERE WHAT IT READS IS OF BULK AT MOST 1048576: true; the input reads as it did. -/
def cyclicShiftsUptoRow : OpenClaim := { program := "ytjmojhflnjbgaaa", sum := "b011804b2d0453712e8948c083b2d28c473f49acdc409164bbc4699a8beec0eb", func := "codewright/codewrightlaw16.CyclicShifts", spec := "cyclicShifts", unfollowed := true, recurses := true, apart := false, narrowed := true }
def CyclicShiftsUptoSaid : Prop := cyclicShiftsUptoRow.holds Try.pinned (OpenSpec.upto cyclicShiftsSpec)

/-- 'codewrightlaw16.CyclicBlocks', WHERE WHAT IT READS IS OF BULK AT MOST 1048576: true; the input reads as it did. -/
def cyclicBlocksUptoRow : OpenClaim := { program := "ytjmojhflnjbgaaa", sum := "b011804b2d0453712e8948c083b2d28c473f49acdc409164bbc4699a8beec0eb", func := "codewright/codewrightlaw16.CyclicBlocks", spec := "cyclicBlocks", unfollowed := true, recurses := true, apart := false, narrowed := true }
def CyclicBlocksUptoSaid : Prop := cyclicBlocksUptoRow.holds Try.pinned (OpenSpec.upto cyclicBlocksSpec)

/-- 'codewrightlaw17.BchZeros', WHERE WHAT IT READS IS OF BULK AT MOST 1048576: true; the input reads as it did. -/
def bchZerosUptoRow : OpenClaim := { program := "ytjmojhflnjbgaaa", sum := "b011804b2d0453712e8948c083b2d28c473f49acdc409164bbc4699a8beec0eb", func := "codewright/codewrightlaw17.BchZeros", spec := "bchZeros", unfollowed := true, recurses := true, apart := false, narrowed := true }
def BchZerosUptoSaid : Prop := bchZerosUptoRow.holds Try.pinned (OpenSpec.upto bchZerosSpec)

end Rows
end Go.Proofs.Ytjmojhflnjbgaaa

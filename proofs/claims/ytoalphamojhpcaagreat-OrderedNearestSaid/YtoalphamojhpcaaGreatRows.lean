/-
  No cell of these rows narrows 'for every input' (looked for: loops, veiled, ifaces, maps, wideKeys, modest, calm, conditions, laid).
  DERIVED. THE GIVEN ROWS OF THIS SEAT. 6 by the template 'for every input the law returns true; each argument reads behind the call as it read before'; 0 by the template 'total and deterministic' (their statements: YtoalphamojhpcaaGreatTotals.lean).
  GIVEN WITH THE SEED: the statements are not yours to turn. If you find one false, say at which input.
  Laid BY PROGRAM, IN A SANDBOX (cutbox-rows.mjs): the forced cells as the released guide's own fill.sh prints them over the translation 59dbcbd072af0ce3… (all of the seat's roots in one cut). By AI agents, Wed Nov 11 2026. No macro, syntax, notation, axiom, sorry.
-/
import Derived.Test.YtoalphamojhpcaaGreatChecked
import GoSem.Claim
import GoSem.ClaimJoined
import GoSem.ClaimMapViews
import Derived.JoinedTies
import Derived.KernelRfl
namespace Go.Proofs.YtoalphamojhpcaaGreat
/- THE CELL 'sum', in the pinned program and in every row, IS THE sha256 OF THE DUMP (.gsa) THAT YtoalphamojhpcaaGreatProg.lean LOADS. Nothing in Lean hashes anything: it is a label: what it is worth is what the hold of that sum in a sandbox is worth. -/
noncomputable def Tryz.pinned : Pinned := { name := "ytoalphamojhpcaagreat", sum := "59dbcbd072af0ce35476abde409fbe13be7a20b24949523b58f538d23473952a", checked := Tryz.checked }
namespace Rows
def none {H : Type} : Left H := { results := [], args := [] }

/-- 'codewrightlaw42.OrderedCertain': WHATEVER THE INPUT: true; the input reads as it did. -/
def orderedCertainSpec : ChangeSpec := { name := "orderedCertain", fn := fun _ => fun
  | [d1, d2, d3, d4] => { results := [.lit (.bool true)], args := [d1, d2, d3, d4] }
  | _ => none }
def orderedCertainRow : OpenClaim := { program := "ytoalphamojhpcaagreat", sum := "59dbcbd072af0ce35476abde409fbe13be7a20b24949523b58f538d23473952a", func := "codewright/codewrightlaw42.OrderedCertain", spec := "orderedCertain", unfollowed := true, recurses := true, apart := false }
def OrderedCertainSaid : Prop := orderedCertainRow.holds Tryz.pinned (OpenSpec.ofChange orderedCertainSpec)

/-- ITS FALSE NEIGHBOUR: 'it returns false'. Refute it at one input. -/
def orderedCertainWrong : ChangeSpec := { name := "orderedCertain", fn := fun _ => fun
  | [d1, d2, d3, d4] => { results := [.lit (.bool false)], args := [d1, d2, d3, d4] }
  | _ => none }
def OrderedCertainWrongFalsely : Prop := orderedCertainRow.holds Tryz.pinned (OpenSpec.ofChange orderedCertainWrong)

/-- 'codewrightlaw42.OrderedOptimal': WHATEVER THE INPUT: true; the input reads as it did. -/
def orderedOptimalSpec : ChangeSpec := { name := "orderedOptimal", fn := fun _ => fun
  | [d1, d2, d3, d4] => { results := [.lit (.bool true)], args := [d1, d2, d3, d4] }
  | _ => none }
def orderedOptimalRow : OpenClaim := { program := "ytoalphamojhpcaagreat", sum := "59dbcbd072af0ce35476abde409fbe13be7a20b24949523b58f538d23473952a", func := "codewright/codewrightlaw42.OrderedOptimal", spec := "orderedOptimal", unfollowed := true, recurses := true, apart := false }
def OrderedOptimalSaid : Prop := orderedOptimalRow.holds Tryz.pinned (OpenSpec.ofChange orderedOptimalSpec)

/-- ITS FALSE NEIGHBOUR: 'it returns false'. Refute it at one input. -/
def orderedOptimalWrong : ChangeSpec := { name := "orderedOptimal", fn := fun _ => fun
  | [d1, d2, d3, d4] => { results := [.lit (.bool false)], args := [d1, d2, d3, d4] }
  | _ => none }
def OrderedOptimalWrongFalsely : Prop := orderedOptimalRow.holds Tryz.pinned (OpenSpec.ofChange orderedOptimalWrong)

/-- 'codewrightlaw42.OrderedDecodes': WHATEVER THE INPUT: true; the input reads as it did. -/
def orderedDecodesSpec : ChangeSpec := { name := "orderedDecodes", fn := fun _ => fun
  | [d1, d2, d3] => { results := [.lit (.bool true)], args := [d1, d2, d3] }
  | _ => none }
def orderedDecodesRow : OpenClaim := { program := "ytoalphamojhpcaagreat", sum := "59dbcbd072af0ce35476abde409fbe13be7a20b24949523b58f538d23473952a", func := "codewright/codewrightlaw42.OrderedDecodes", spec := "orderedDecodes", unfollowed := true, recurses := true, named := ["math/bits.divideError", "math/bits.overflowError"], apart := false }
def OrderedDecodesSaid : Prop := orderedDecodesRow.holds Tryz.pinned (OpenSpec.ofChange orderedDecodesSpec)

/-- ITS FALSE NEIGHBOUR: 'it returns false'. Refute it at one input. -/
def orderedDecodesWrong : ChangeSpec := { name := "orderedDecodes", fn := fun _ => fun
  | [d1, d2, d3] => { results := [.lit (.bool false)], args := [d1, d2, d3] }
  | _ => none }
def OrderedDecodesWrongFalsely : Prop := orderedDecodesRow.holds Tryz.pinned (OpenSpec.ofChange orderedDecodesWrong)

/-- 'codewrightlaw42.OrderedBest': WHATEVER THE INPUT: true; the input reads as it did. -/
def orderedBestSpec : ChangeSpec := { name := "orderedBest", fn := fun _ => fun
  | [d1, d2, d3] => { results := [.lit (.bool true)], args := [d1, d2, d3] }
  | _ => none }
def orderedBestRow : OpenClaim := { program := "ytoalphamojhpcaagreat", sum := "59dbcbd072af0ce35476abde409fbe13be7a20b24949523b58f538d23473952a", func := "codewright/codewrightlaw42.OrderedBest", spec := "orderedBest", unfollowed := true, recurses := true, named := ["math/bits.divideError", "math/bits.overflowError"], apart := false }
def OrderedBestSaid : Prop := orderedBestRow.holds Tryz.pinned (OpenSpec.ofChange orderedBestSpec)

/-- ITS FALSE NEIGHBOUR: 'it returns false'. Refute it at one input. -/
def orderedBestWrong : ChangeSpec := { name := "orderedBest", fn := fun _ => fun
  | [d1, d2, d3] => { results := [.lit (.bool false)], args := [d1, d2, d3] }
  | _ => none }
def OrderedBestWrongFalsely : Prop := orderedBestRow.holds Tryz.pinned (OpenSpec.ofChange orderedBestWrong)

/-- 'codewrightlaw42.OrderedNearest': WHATEVER THE INPUT: true; the input reads as it did. -/
def orderedNearestSpec : ChangeSpec := { name := "orderedNearest", fn := fun _ => fun
  | [d1, d2, d3] => { results := [.lit (.bool true)], args := [d1, d2, d3] }
  | _ => none }
def orderedNearestRow : OpenClaim := { program := "ytoalphamojhpcaagreat", sum := "59dbcbd072af0ce35476abde409fbe13be7a20b24949523b58f538d23473952a", func := "codewright/codewrightlaw42.OrderedNearest", spec := "orderedNearest", unfollowed := true, recurses := true, named := ["math/bits.divideError", "math/bits.overflowError"], apart := false }
def OrderedNearestSaid : Prop := orderedNearestRow.holds Tryz.pinned (OpenSpec.ofChange orderedNearestSpec)

/-- ITS FALSE NEIGHBOUR: 'it returns false'. Refute it at one input. -/
def orderedNearestWrong : ChangeSpec := { name := "orderedNearest", fn := fun _ => fun
  | [d1, d2, d3] => { results := [.lit (.bool false)], args := [d1, d2, d3] }
  | _ => none }
def OrderedNearestWrongFalsely : Prop := orderedNearestRow.holds Tryz.pinned (OpenSpec.ofChange orderedNearestWrong)

/-- 'codewrightlaw42.OrderedWithin': WHATEVER THE INPUT: true; the input reads as it did. -/
def orderedWithinSpec : ChangeSpec := { name := "orderedWithin", fn := fun _ => fun
  | [d1, d2, d3, d4] => { results := [.lit (.bool true)], args := [d1, d2, d3, d4] }
  | _ => none }
def orderedWithinRow : OpenClaim := { program := "ytoalphamojhpcaagreat", sum := "59dbcbd072af0ce35476abde409fbe13be7a20b24949523b58f538d23473952a", func := "codewright/codewrightlaw42.OrderedWithin", spec := "orderedWithin", unfollowed := true, recurses := true, named := ["math/bits.divideError", "math/bits.overflowError"], apart := false }
def OrderedWithinSaid : Prop := orderedWithinRow.holds Tryz.pinned (OpenSpec.ofChange orderedWithinSpec)

/-- ITS FALSE NEIGHBOUR: 'it returns false'. Refute it at one input. -/
def orderedWithinWrong : ChangeSpec := { name := "orderedWithin", fn := fun _ => fun
  | [d1, d2, d3, d4] => { results := [.lit (.bool false)], args := [d1, d2, d3, d4] }
  | _ => none }
def OrderedWithinWrongFalsely : Prop := orderedWithinRow.holds Tryz.pinned (OpenSpec.ofChange orderedWithinWrong)

/- THE SECOND FORM. 'bulk': how many values and letters a reading holds, each counted each time it is reached (what is shared counts as often as it is met; a slice's spare places count too). A statement '..UptoSaid' is the law's where the arguments, and the package variables that the reading takes, are together of bulk at most 1048576: NARROWER than '..Said'. Prove '..Said' where nothing that the law and all that it calls make is longer than what came in: it says more and counts as full. Else prove '..UptoSaid'. A law counts once. -/
mutual
def uptoBulk {H : Type} : DataW H → Nat
  | .lit (.string bytes) => bytes.length + 1
  | .lit _ => 1
  | .nil => 1
  | .ptr d => uptoBulk d + 1
  | .slice elems spare => uptoBulkAll elems + uptoBulkAll spare + 1
  | .agg parts => uptoBulkAll parts + 1
  | .iface _ d => uptoBulk d + 1
  | .map entries => uptoBulkEntries entries + 1
  | .held _ => 1
def uptoBulkAll {H : Type} : List (DataW H) → Nat
  | [] => 0
  | d :: r => uptoBulk d + uptoBulkAll r
def uptoBulkEntries {H : Type} : List (Lit × DataW H) → Nat
  | [] => 0
  | x :: r => uptoBulkEntry x + uptoBulkEntries r
def uptoBulkEntry {H : Type} : Lit × DataW H → Nat
  | (.string bytes, d) => bytes.length + uptoBulk d + 1
  | (_, d) => uptoBulk d + 1
 end
def uptoSmall : (H : Type) → List (DataW H) → Bool := fun _ ds => decide (uptoBulkAll ds ≤ 1048576)
def OpenSpec.upto (s : _root_.Go.ChangeSpec) : _root_.Go.OpenSpec := { _root_.Go.OpenSpec.ofChange s with cond := some uptoSmall }

/-- 'codewrightlaw42.OrderedCertain', WHERE WHAT IT READS IS OF BULK AT MOST 1048576: true; the input reads as it did. -/
def orderedCertainUptoRow : OpenClaim := { program := "ytoalphamojhpcaagreat", sum := "59dbcbd072af0ce35476abde409fbe13be7a20b24949523b58f538d23473952a", func := "codewright/codewrightlaw42.OrderedCertain", spec := "orderedCertain", unfollowed := true, recurses := true, apart := false, narrowed := true }
def OrderedCertainUptoSaid : Prop := orderedCertainUptoRow.holds Tryz.pinned (OpenSpec.upto orderedCertainSpec)

/-- 'codewrightlaw42.OrderedOptimal', WHERE WHAT IT READS IS OF BULK AT MOST 1048576: true; the input reads as it did. -/
def orderedOptimalUptoRow : OpenClaim := { program := "ytoalphamojhpcaagreat", sum := "59dbcbd072af0ce35476abde409fbe13be7a20b24949523b58f538d23473952a", func := "codewright/codewrightlaw42.OrderedOptimal", spec := "orderedOptimal", unfollowed := true, recurses := true, apart := false, narrowed := true }
def OrderedOptimalUptoSaid : Prop := orderedOptimalUptoRow.holds Tryz.pinned (OpenSpec.upto orderedOptimalSpec)

/-- 'codewrightlaw42.OrderedDecodes', WHERE WHAT IT READS IS OF BULK AT MOST 1048576: true; the input reads as it did. -/
def orderedDecodesUptoRow : OpenClaim := { program := "ytoalphamojhpcaagreat", sum := "59dbcbd072af0ce35476abde409fbe13be7a20b24949523b58f538d23473952a", func := "codewright/codewrightlaw42.OrderedDecodes", spec := "orderedDecodes", unfollowed := true, recurses := true, named := ["math/bits.divideError", "math/bits.overflowError"], apart := false, narrowed := true }
def OrderedDecodesUptoSaid : Prop := orderedDecodesUptoRow.holds Tryz.pinned (OpenSpec.upto orderedDecodesSpec)

/-- 'codewrightlaw42.OrderedBest', WHERE WHAT IT READS IS OF BULK AT MOST 1048576: true; the input reads as it did. -/
def orderedBestUptoRow : OpenClaim := { program := "ytoalphamojhpcaagreat", sum := "59dbcbd072af0ce35476abde409fbe13be7a20b24949523b58f538d23473952a", func := "codewright/codewrightlaw42.OrderedBest", spec := "orderedBest", unfollowed := true, recurses := true, named := ["math/bits.divideError", "math/bits.overflowError"], apart := false, narrowed := true }
def OrderedBestUptoSaid : Prop := orderedBestUptoRow.holds Tryz.pinned (OpenSpec.upto orderedBestSpec)

/-- 'codewrightlaw42.OrderedNearest', WHERE WHAT IT READS IS OF BULK AT MOST 1048576: true; the input reads as it did. -/
def orderedNearestUptoRow : OpenClaim := { program := "ytoalphamojhpcaagreat", sum := "59dbcbd072af0ce35476abde409fbe13be7a20b24949523b58f538d23473952a", func := "codewright/codewrightlaw42.OrderedNearest", spec := "orderedNearest", unfollowed := true, recurses := true, named := ["math/bits.divideError", "math/bits.overflowError"], apart := false, narrowed := true }
def OrderedNearestUptoSaid : Prop := orderedNearestUptoRow.holds Tryz.pinned (OpenSpec.upto orderedNearestSpec)

/-- 'codewrightlaw42.OrderedWithin', WHERE WHAT IT READS IS OF BULK AT MOST 1048576: true; the input reads as it did. -/
def orderedWithinUptoRow : OpenClaim := { program := "ytoalphamojhpcaagreat", sum := "59dbcbd072af0ce35476abde409fbe13be7a20b24949523b58f538d23473952a", func := "codewright/codewrightlaw42.OrderedWithin", spec := "orderedWithin", unfollowed := true, recurses := true, named := ["math/bits.divideError", "math/bits.overflowError"], apart := false, narrowed := true }
def OrderedWithinUptoSaid : Prop := orderedWithinUptoRow.holds Tryz.pinned (OpenSpec.upto orderedWithinSpec)

end Rows
end Go.Proofs.YtoalphamojhpcaaGreat

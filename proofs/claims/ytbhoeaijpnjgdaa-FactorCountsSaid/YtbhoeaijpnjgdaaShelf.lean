/-
  DERIVED: THE SHELF's CONTRACTS AT THIS DUMP, IN PLAIN WORDS (tools/lay-plain.mjs out of 'TryShelf.lean', which tools/lay-shelf.mjs wrote): THE SAME DECLARATIONS UNDER THE SAME NAMES: 'import', 'namespace', 'open', 'def', 'theorem' AND NOTHING ELSE: no command of the shelf's: FOR A HAND-IN. Each laying: the table of numbers ('.._ren') and one theorem, a field a fact of the dump's own or the kernel's comparison; each contract: ONE APPLICATION.
-/
import Derived.Shelf.Sort.Plain
import Derived.Shelf.Slices.In.SortNone
import Derived.Test.YtbhoeaijpnjgdaaProg
namespace Go.Proofs
open Go.Shelf
def Try.lays189_ren : Go.Shelf.Ren := ⟨fun | 189 => 125 | 125 => 138 | 257 => 154 | 128 => 155 | 129 => 167 | 294 => 172 | 295 => 173 | 296 => 174 | 297 => 175 | 298 => 176 | 299 => 177 | 216 => 178 | 300 => 179 | 301 => 180 | 328 => 186 | 329 => 182 | 330 => 183 | 331 => 187 | 332 => 188 | 215 => 189 | 343 => 191 | n => n, fun | 28 => 22 | 3 => 3 | 46 => 136 | 0 => 0 | 51 => 105 | 53 => 59 | 4 => 4 | 183 => 158 | 182 => 157 | 131 => 70 | 5 => 5 | 9 => 9 | 218 => 173 | 222 => 177 | 228 => 181 | 229 => 182 | n => n, fun | n => n⟩
theorem Try.lays189 : Go.Proofs.Lays.n189 Try.prog Try.lays189_ren := {
  mixed := by kernel_rfl
  f125 := Try.func138.trans (congrArg some (by kernel_rfl))
  f128 := Try.func155.trans (congrArg some (by kernel_rfl))
  f129 := Try.func167.trans (congrArg some (by kernel_rfl))
  f189 := Try.func125.trans (congrArg some (by kernel_rfl))
  f215 := Try.func189.trans (congrArg some (by kernel_rfl))
  f216 := Try.func178.trans (congrArg some (by kernel_rfl))
  f257 := Try.func154.trans (congrArg some (by kernel_rfl))
  f294 := Try.func172.trans (congrArg some (by kernel_rfl))
  f295 := Try.func173.trans (congrArg some (by kernel_rfl))
  f296 := Try.func174.trans (congrArg some (by kernel_rfl))
  f297 := Try.func175.trans (congrArg some (by kernel_rfl))
  f298 := Try.func176.trans (congrArg some (by kernel_rfl))
  f299 := Try.func177.trans (congrArg some (by kernel_rfl))
  f300 := Try.func179.trans (congrArg some (by kernel_rfl))
  f301 := Try.func180.trans (congrArg some (by kernel_rfl))
  f328 := Try.func186.trans (congrArg some (by kernel_rfl))
  f329 := Try.func182.trans (congrArg some (by kernel_rfl))
  f330 := Try.func183.trans (congrArg some (by kernel_rfl))
  f331 := Try.func187.trans (congrArg some (by kernel_rfl))
  f332 := Try.func188.trans (congrArg some (by kernel_rfl))
  f343 := Try.func191.trans (congrArg some (by kernel_rfl))
  t0 := Try.underlying0
  a0 := Try.isAgg0
  z0 := Try.sizeOf0
  v0 := Try.zeroValue0
  t3 := Try.underlying3
  a3 := Try.isAgg3
  z3 := Try.sizeOf3
  v3 := Try.zeroValue3
  t4 := Try.underlying4
  a4 := Try.isAgg4
  z4 := Try.sizeOf4
  v4 := Try.zeroValue4
  t5 := Try.underlying5
  a5 := Try.isAgg5
  z5 := Try.sizeOf5
  v5 := Try.zeroValue5
  t9 := Try.underlying9
  a9 := Try.isAgg9
  z9 := Try.sizeOf9
  v9 := Try.zeroValue9
  t28 := Try.underlying22
  a28 := Try.isAgg22
  z28 := Try.sizeOf22
  v28 := Try.zeroValue22
  t46 := Try.underlying136
  a46 := Try.isAgg136
  z46 := Try.sizeOf136
  v46 := Try.zeroValue136
  t51 := Try.underlying105
  a51 := Try.isAgg105
  z51 := Try.sizeOf105
  v51 := Try.zeroValue105
  t53 := Try.underlying59
  a53 := Try.isAgg59
  z53 := Try.sizeOf59
  v53 := Try.zeroValue59
  t131 := Try.underlying70
  a131 := Try.isAgg70
  z131 := Try.sizeOf70
  v131 := Try.zeroValue70
  t182 := Try.underlying157
  a182 := Try.isAgg157
  z182 := Try.sizeOf157
  v182 := Try.zeroValue157
  t183 := Try.underlying158
  a183 := Try.isAgg158
  z183 := Try.sizeOf158
  v183 := Try.zeroValue158
  t218 := Try.underlying173
  a218 := Try.isAgg173
  z218 := Try.sizeOf173
  v218 := Try.zeroValue173
  t222 := Try.underlying177
  a222 := Try.isAgg177
  z222 := Try.sizeOf177
  v222 := Try.zeroValue177
  t228 := Try.underlying181
  a228 := Try.isAgg181
  z228 := Try.sizeOf181
  v228 := Try.zeroValue181
  t229 := Try.underlying182
  a229 := Try.isAgg182
  z229 := Try.sizeOf182
  v229 := Try.zeroValue182 }
open Go.Sort Go.RowKit in
theorem Try.slices_Sort_int (blk off cap : Nat) (zs : List Int) (w : World) (hH : Holds (Value.int .i64) w blk off zs.toArray) (hblk : blk < w.heap.size) (hsz : zs.length < 4611686018427387904) :
    Calls Try.prog 125 #[.slice (some ⟨blk, off, none⟩) zs.length cap] w fun e w' =>
      e = .returned (.tuple #[]) ∧ ∃ n os, w' = grow (putRow (Value.int .i64) (Sort.ahead w n) blk off (zs.mergeSort fun x y => decide (x ≤ y)).toArray) os := Any.slices_Sort_int Try.lays189 blk off cap zs w hH hblk hsz
open Go.RowKit Go.Sort in
/-- .. and plain. (LAID: no walk: one application.) -/
theorem Try.slices_Sort_int_none (p : Option Addr) (cap : Nat) (w : World) :
    Calls Try.prog 125 #[.slice p 0 cap] w fun e w' => e = .returned (.tuple #[]) ∧ w' = w := Any.slices_Sort_int_none Try.lays189 p cap w
end Go.Proofs

/-
  DERIVED: THE SHELF's CONTRACTS AT THIS DUMP, IN PLAIN WORDS (tools/lay-plain.mjs out of 'TryzSortL.lean', which tools/lay-shelf.mjs wrote): THE SAME DECLARATIONS UNDER THE SAME NAMES: 'import', 'namespace', 'open', 'def', 'theorem' AND NOTHING ELSE: no command of the shelf's: FOR A HAND-IN. Each laying: the table of numbers ('.._ren') and one theorem, a field a fact of the dump's own or the kernel's comparison; each contract: ONE APPLICATION.
-/
import Derived.Shelf.SlSortCmp.WholeK
import Derived.Shelf.SlSortCmp.NoneTotal
import Derived.Ground.SlsfProg
import Derived.Test.YtbhoeaijpnjgdaaGreatProg
namespace Go.Proofs
open Go.Shelf
def Tryz.sortFac_ren : Go.Shelf.Ren := ⟨fun | 6 => 37 | 15 => 87 | 14 => 86 | 28 => 142 | 29 => 143 | 20 => 134 | 21 => 135 | 22 => 136 | 23 => 137 | 24 => 138 | 25 => 139 | 26 => 140 | 27 => 141 | 46 => 175 | 47 => 176 | 48 => 177 | 49 => 178 | 50 => 179 | 57 => 194 | n => n, fun | 22 => 30 | 24 => 43 | 25 => 73 | 3 => 3 | 39 => 117 | 0 => 0 | 53 => 157 | 55 => 159 | 4 => 4 | 46 => 150 | 45 => 149 | 50 => 154 | 5 => 5 | 9 => 9 | 66 => 181 | 70 => 185 | 76 => 198 | 77 => 199 | n => n, fun | n => n⟩
theorem Tryz.sortFac : Go.Proofs.SlLaysF0.n6 Tryz.prog Tryz.sortFac_ren := {
  mixed := by kernel_rfl
  f6 := ⟨Tryz.f37.name, by decide, Tryz.func37.trans (congrArg some (by kernel_rfl))⟩
  f14 := ⟨Tryz.f86.name, by decide, Tryz.func86.trans (congrArg some (by kernel_rfl))⟩
  f15 := Tryz.func87.trans (congrArg some (by kernel_rfl))
  f20 := ⟨Tryz.f134.name, by decide, Tryz.func134.trans (congrArg some (by kernel_rfl))⟩
  f21 := ⟨Tryz.f135.name, by decide, Tryz.func135.trans (congrArg some (by kernel_rfl))⟩
  f22 := ⟨Tryz.f136.name, by decide, Tryz.func136.trans (congrArg some (by kernel_rfl))⟩
  f23 := ⟨Tryz.f137.name, by decide, Tryz.func137.trans (congrArg some (by kernel_rfl))⟩
  f24 := ⟨Tryz.f138.name, by decide, Tryz.func138.trans (congrArg some (by kernel_rfl))⟩
  f25 := ⟨Tryz.f139.name, by decide, Tryz.func139.trans (congrArg some (by kernel_rfl))⟩
  f26 := ⟨Tryz.f140.name, by decide, Tryz.func140.trans (congrArg some (by kernel_rfl))⟩
  f27 := ⟨Tryz.f141.name, by decide, Tryz.func141.trans (congrArg some (by kernel_rfl))⟩
  f28 := Tryz.func142.trans (congrArg some (by kernel_rfl))
  f29 := Tryz.func143.trans (congrArg some (by kernel_rfl))
  f46 := ⟨Tryz.f175.name, by decide, Tryz.func175.trans (congrArg some (by kernel_rfl))⟩
  f47 := Tryz.func176.trans (congrArg some (by kernel_rfl))
  f48 := Tryz.func177.trans (congrArg some (by kernel_rfl))
  f49 := ⟨Tryz.f178.name, by decide, Tryz.func178.trans (congrArg some (by kernel_rfl))⟩
  f50 := ⟨Tryz.f179.name, by decide, Tryz.func179.trans (congrArg some (by kernel_rfl))⟩
  f57 := ⟨Tryz.f194.name, by decide, Tryz.func194.trans (congrArg some (by kernel_rfl))⟩
  t0 := Tryz.underlying0
  a0 := Tryz.isAgg0
  z0 := Tryz.sizeOf0
  v0 := Tryz.zeroValue0
  t3 := Tryz.underlying3
  a3 := Tryz.isAgg3
  z3 := Tryz.sizeOf3
  v3 := Tryz.zeroValue3
  t4 := Tryz.underlying4
  a4 := Tryz.isAgg4
  z4 := Tryz.sizeOf4
  v4 := Tryz.zeroValue4
  t5 := Tryz.underlying5
  a5 := Tryz.isAgg5
  z5 := Tryz.sizeOf5
  v5 := Tryz.zeroValue5
  t9 := Tryz.underlying9
  a9 := Tryz.isAgg9
  z9 := Tryz.sizeOf9
  v9 := Tryz.zeroValue9
  t22 := Tryz.underlying30
  a22 := Tryz.isAgg30
  z22 := Tryz.sizeOf30
  v22 := Tryz.zeroValue30
  t25 := Tryz.underlying73
  a25 := Tryz.isAgg73
  z25 := Tryz.sizeOf73
  v25 := Tryz.zeroValue73
  t39 := Tryz.underlying117
  a39 := Tryz.isAgg117
  z39 := Tryz.sizeOf117
  v39 := Tryz.zeroValue117
  t45 := Tryz.underlying149
  a45 := Tryz.isAgg149
  z45 := Tryz.sizeOf149
  v45 := Tryz.zeroValue149
  t46 := Tryz.underlying150
  a46 := Tryz.isAgg150
  z46 := Tryz.sizeOf150
  v46 := Tryz.zeroValue150
  t50 := Tryz.underlying154
  a50 := Tryz.isAgg154
  z50 := Tryz.sizeOf154
  v50 := Tryz.zeroValue154
  t53 := Tryz.underlying157
  a53 := Tryz.isAgg157
  z53 := Tryz.sizeOf157
  v53 := Tryz.zeroValue157
  t55 := Tryz.underlying159
  a55 := Tryz.isAgg159
  z55 := Tryz.sizeOf159
  v55 := Tryz.zeroValue159
  t66 := Tryz.underlying181
  a66 := Tryz.isAgg181
  z66 := Tryz.sizeOf181
  v66 := Tryz.zeroValue181
  t70 := Tryz.underlying185
  a70 := Tryz.isAgg185
  z70 := Tryz.sizeOf185
  v70 := Tryz.zeroValue185
  t76 := Tryz.underlying198
  a76 := Tryz.isAgg198
  z76 := Tryz.sizeOf198
  v76 := Tryz.zeroValue198
  t77 := Tryz.underlying199
  a77 := Tryz.isAgg199
  z77 := Tryz.sizeOf199
  v77 := Tryz.zeroValue199 }
end Go.Proofs

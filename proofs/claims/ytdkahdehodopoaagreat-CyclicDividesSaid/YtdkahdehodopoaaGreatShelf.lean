/-
  DERIVED: THE SHELF's CONTRACTS AT THIS DUMP, IN PLAIN WORDS (tools/lay-plain.mjs out of 'TryzShelf.lean', which tools/lay-shelf.mjs wrote): THE SAME DECLARATIONS UNDER THE SAME NAMES: 'import', 'namespace', 'open', 'def', 'theorem' AND NOTHING ELSE: no command of the shelf's: FOR A HAND-IN. Each laying: the table of numbers ('.._ren') and one theorem, a field a fact of the dump's own or the kernel's comparison; each contract: ONE APPLICATION.
-/
import Derived.Ground.Names2Prog
import Derived.Shelf.Slices.Clone
import Derived.Ground.SlgnProg
import Derived.Shelf.SlicesE.Clone
import Derived.Ground.SlsfProg
import Derived.Shelf.SlSortCmp.Insertion
import Derived.Shelf.SlSortCmp.SiftDown1
import Derived.Shelf.SlSortCmp.HeapSort1
import Derived.Shelf.SlSortCmp.Insertion1
import Derived.Shelf.SlSortCmp.Median1
import Derived.Shelf.SlSortCmp.Pivot1
import Derived.Shelf.SlSortCmp.ReverseRange1
import Derived.Shelf.SlSortCmp.PartialInsertion1
import Derived.Shelf.SlSortCmp.Partition1
import Derived.Shelf.SlSortCmp.Pdq1
import Derived.Shelf.SlSortCmp.Whole1
import Derived.Shelf.SlSortCmp.NoneTotal
import Derived.Test.YtdkahdehodopoaaGreatProg
namespace Go.Proofs
open Go.Shelf
def Tryz.laysSlF6_f22_ren : Go.Shelf.Ren := ⟨fun | 6 => 22 | 15 => 56 | 14 => 55 | 28 => 94 | 29 => 95 | 20 => 86 | 21 => 87 | 22 => 88 | 23 => 89 | 24 => 90 | 25 => 91 | 26 => 92 | 27 => 93 | 46 => 129 | 47 => 130 | 48 => 131 | 49 => 132 | 50 => 133 | 57 => 149 | n => n, fun | 22 => 25 | 24 => 22 | 25 => 59 | 3 => 3 | 39 => 89 | 0 => 0 | 53 => 123 | 55 => 125 | 4 => 4 | 46 => 116 | 45 => 115 | 50 => 120 | 5 => 5 | 9 => 9 | 66 => 150 | 70 => 154 | 76 => 165 | 77 => 166 | n => n, fun | n => n⟩
theorem Tryz.laysSlF6_f22 : Go.Proofs.SlLaysF.n6 Tryz.prog Tryz.laysSlF6_f22_ren := {
  mixed := by kernel_rfl
  f6 := ⟨Tryz.f22.name, by decide, Tryz.func22.trans (congrArg some (by kernel_rfl))⟩
  f14 := ⟨Tryz.f55.name, by decide, Tryz.func55.trans (congrArg some (by kernel_rfl))⟩
  f15 := Tryz.func56.trans (congrArg some (by kernel_rfl))
  f20 := ⟨Tryz.f86.name, by decide, Tryz.func86.trans (congrArg some (by kernel_rfl))⟩
  f21 := ⟨Tryz.f87.name, by decide, Tryz.func87.trans (congrArg some (by kernel_rfl))⟩
  f22 := ⟨Tryz.f88.name, by decide, Tryz.func88.trans (congrArg some (by kernel_rfl))⟩
  f23 := ⟨Tryz.f89.name, by decide, Tryz.func89.trans (congrArg some (by kernel_rfl))⟩
  f24 := ⟨Tryz.f90.name, by decide, Tryz.func90.trans (congrArg some (by kernel_rfl))⟩
  f25 := ⟨Tryz.f91.name, by decide, Tryz.func91.trans (congrArg some (by kernel_rfl))⟩
  f26 := ⟨Tryz.f92.name, by decide, Tryz.func92.trans (congrArg some (by kernel_rfl))⟩
  f27 := ⟨Tryz.f93.name, by decide, Tryz.func93.trans (congrArg some (by kernel_rfl))⟩
  f28 := Tryz.func94.trans (congrArg some (by kernel_rfl))
  f29 := Tryz.func95.trans (congrArg some (by kernel_rfl))
  f46 := ⟨Tryz.f129.name, by decide, Tryz.func129.trans (congrArg some (by kernel_rfl))⟩
  f47 := Tryz.func130.trans (congrArg some (by kernel_rfl))
  f48 := Tryz.func131.trans (congrArg some (by kernel_rfl))
  f49 := ⟨Tryz.f132.name, by decide, Tryz.func132.trans (congrArg some (by kernel_rfl))⟩
  f50 := ⟨Tryz.f133.name, by decide, Tryz.func133.trans (congrArg some (by kernel_rfl))⟩
  f57 := ⟨Tryz.f149.name, by decide, Tryz.func149.trans (congrArg some (by kernel_rfl))⟩
  t0 := Tryz.underlying0
  a0 := Tryz.isAgg0
  z0 := Tryz.sizeOf0
  v0 := Tryz.zeroValue0
  t3 := Tryz.underlying3
  a3 := Tryz.isAgg3
  z3 := Tryz.sizeOf3
  v3 := Tryz.zeroValue3
  t4 := Tryz.underlying4
  a4 := Tryz.isAgg4
  z4 := Tryz.sizeOf4
  v4 := Tryz.zeroValue4
  t5 := Tryz.underlying5
  a5 := Tryz.isAgg5
  z5 := Tryz.sizeOf5
  v5 := Tryz.zeroValue5
  t9 := Tryz.underlying9
  a9 := Tryz.isAgg9
  z9 := Tryz.sizeOf9
  v9 := Tryz.zeroValue9
  t22 := Tryz.underlying25
  a22 := Tryz.isAgg25
  z22 := Tryz.sizeOf25
  v22 := Tryz.zeroValue25
  a24 := Tryz.isAgg22
  z24 := Tryz.sizeOf22
  t25 := Tryz.underlying59
  a25 := Tryz.isAgg59
  z25 := Tryz.sizeOf59
  v25 := Tryz.zeroValue59
  t39 := Tryz.underlying89
  a39 := Tryz.isAgg89
  z39 := Tryz.sizeOf89
  v39 := Tryz.zeroValue89
  t45 := Tryz.underlying115
  a45 := Tryz.isAgg115
  z45 := Tryz.sizeOf115
  v45 := Tryz.zeroValue115
  t46 := Tryz.underlying116
  a46 := Tryz.isAgg116
  z46 := Tryz.sizeOf116
  v46 := Tryz.zeroValue116
  t50 := Tryz.underlying120
  a50 := Tryz.isAgg120
  z50 := Tryz.sizeOf120
  v50 := Tryz.zeroValue120
  t53 := Tryz.underlying123
  a53 := Tryz.isAgg123
  z53 := Tryz.sizeOf123
  v53 := Tryz.zeroValue123
  t55 := Tryz.underlying125
  a55 := Tryz.isAgg125
  z55 := Tryz.sizeOf125
  v55 := Tryz.zeroValue125
  t66 := Tryz.underlying150
  a66 := Tryz.isAgg150
  z66 := Tryz.sizeOf150
  v66 := Tryz.zeroValue150
  t70 := Tryz.underlying154
  a70 := Tryz.isAgg154
  z70 := Tryz.sizeOf154
  v70 := Tryz.zeroValue154
  t76 := Tryz.underlying165
  a76 := Tryz.isAgg165
  z76 := Tryz.sizeOf165
  v76 := Tryz.zeroValue165
  t77 := Tryz.underlying166
  a77 := Tryz.isAgg166
  z77 := Tryz.sizeOf166
  v77 := Tryz.zeroValue166 }
open Go.RowKit Go.Lib Go.Sort in
theorem Tryz.slices_SortFunc {α : Type} [Inhabited α] (enc : α → Value) (h1 : OneCell enc) (cf : α → α → Int) (hO : SWO (ltOf cf)) (g : Nat) (cb : Array Value) (blk off cap : Nat) (d : Array α) (w : World) (eg : ∀ args w, (callFunc g args).run Tryz.prog w = .ok (.enter g args) w) (hcmp : CmpLays1 Tryz.prog g cb enc cf blk off d.size w) (hH : Holds enc w blk off d) (hblk : blk < w.heap.size) (hsz : d.size < 4611686018427387904) :
    Calls Tryz.prog 22 #[.slice (some ⟨blk, off, none⟩) d.size cap, .func (.func g) #[] cb] w fun e w' =>
      e = .returned (.tuple #[]) ∧ ∃ d' n os, PermIn 0 d.size d d' ∧ SortedIn (ltOf cf) 0 d.size d' ∧ w' = sortWorld enc w blk off n d' os := Any.slices_SortFunc Tryz.laysSlF6_f22 enc h1 cf hO g cb blk off cap d w eg hcmp hH hblk hsz
end Go.Proofs

/-
  THE TYPES OF THIS SEAT. One sentence: closed facts of this translation's table of types, and that each call of a named function enters its body.
  Conditions: none.
-/
import Derived.Test.YtjmojhflnjbgaaaRows
import Derived.Test.YtjmojhflnjbgaaaSymK
namespace Go.Proofs.Ytjmojhflnjbgaaa

theorem mixed : Try.prog.follows .mixedOrders = true := by kernel_rfl
instance tySlI : SlTy Try.prog 22 3 (.int .i64 0) 8 := ⟨by kernel_rfl, by kernel_rfl, rfl⟩
instance tySlB : SlTy Try.prog 86 4 (.bool false) 1 := ⟨by kernel_rfl, by kernel_rfl, rfl⟩
instance tySlSS : SlTy Try.prog 41 22 (.slice none 0 0) 24 := ⟨by kernel_rfl, by kernel_rfl, rfl⟩
instance tySS : ScTy Try.prog 41 := scTy_of (by kernel_rfl)
instance zrSS : ZrTy Try.prog 41 [.slice none 0 0] := ⟨.slice none 0 0, by kernel_rfl, rfl⟩
instance tyI : ScTy Try.prog 3 := scTy_of (by kernel_rfl)
instance tyB : ScTy Try.prog 4 := scTy_of (by kernel_rfl)
instance tySI : ScTy Try.prog 22 := scTy_of (by kernel_rfl)
instance tyE : ScTy Try.prog 25 := scTy_of (by kernel_rfl)
instance tyRun : AgTy Try.prog 24 5 := agTy_of (by kernel_rfl)
instance tyRun0 : FdTy Try.prog 24 0 0 := ⟨by kernel_rfl⟩
instance tyRun1 : FdTy Try.prog 24 1 1 := ⟨by kernel_rfl⟩
instance tyRun2 : FdTy Try.prog 24 2 2 := ⟨by kernel_rfl⟩
instance tyRun3 : FdTy Try.prog 24 3 3 := ⟨by kernel_rfl⟩
instance tyRun4 : FdTy Try.prog 24 4 4 := ⟨by kernel_rfl⟩
instance bdRun : BdTy Try.prog 24 [.int .i64 0, .int .i64 0, .int .i64 0, .int .i64 0, .int .i64 0] [(0, 1), (1, 1), (2, 1), (3, 1), (4, 1)] := bdTy_of (z := .agg #[.int .i64 0, .int .i64 0, .int .i64 0, .int .i64 0, .int .i64 0]) (by kernel_rfl) (by kernel_rfl) (by kernel_rfl) rfl
instance zrRun : ZrTy Try.prog 24 [.int .i64 0, .int .i64 0, .int .i64 0, .int .i64 0, .int .i64 0] := ⟨.agg #[.int .i64 0, .int .i64 0, .int .i64 0, .int .i64 0, .int .i64 0], by kernel_rfl, rfl⟩
instance eqRun : EqTy Try.prog 24 5 := ⟨by kernel_rfl, by kernel_rfl, by kernel_rfl, by kernel_rfl, by kernel_rfl⟩
theorem undU8 : Try.prog.underlying 5 = some (.int .u8) := by kernel_rfl
theorem undI : Try.prog.underlying 3 = some (.int .i64) := by kernel_rfl
instance tyF : AgTy Try.prog 36 3 := agTy_of (by kernel_rfl)
instance tyF0 : FdTy Try.prog 36 0 0 := ⟨by kernel_rfl⟩
instance tyF1 : FdTy Try.prog 36 1 1 := ⟨by kernel_rfl⟩
instance tyF2 : FdTy Try.prog 36 2 2 := ⟨by kernel_rfl⟩
instance bdF : BdTy Try.prog 36 [.int .i64 0, .int .i64 0, .slice none 0 0] [(0, 1), (1, 1), (2, 1)] := bdTy_of (z := .agg #[.int .i64 0, .int .i64 0, .slice none 0 0]) (by kernel_rfl) (by kernel_rfl) (by kernel_rfl) rfl
instance zrF : ZrTy Try.prog 36 [.int .i64 0, .int .i64 0, .slice none 0 0] := ⟨.agg #[.int .i64 0, .int .i64 0, .slice none 0 0], by kernel_rfl, rfl⟩
instance bdG : BdTy Try.prog 136 [.int .i64 0, .int .i64 0, .slice none 0 0, .int .i64 0, .slice none 0 0, .slice none 0 0] [(0, 3), (3, 1), (4, 1), (5, 1)] := bdTy_of (z := .agg #[.int .i64 0, .int .i64 0, .slice none 0 0, .int .i64 0, .slice none 0 0, .slice none 0 0]) (by kernel_rfl) (by kernel_rfl) (by kernel_rfl) rfl
instance tyG0 : FdTy Try.prog 136 0 0 := ⟨by kernel_rfl⟩
instance tyG1 : FdTy Try.prog 136 1 3 := ⟨by kernel_rfl⟩
instance tyG2 : FdTy Try.prog 136 2 4 := ⟨by kernel_rfl⟩
instance tyG3 : FdTy Try.prog 136 3 5 := ⟨by kernel_rfl⟩
instance zrSB : ZrTy Try.prog 86 [.slice none 0 0] := ⟨.slice none 0 0, by kernel_rfl, rfl⟩
instance tySB : ScTy Try.prog 86 := scTy_of (by kernel_rfl)
instance zrI : ZrTy Try.prog 3 [.int .i64 0] := ⟨.int .i64 0, by kernel_rfl, rfl⟩
instance zrE : ZrTy Try.prog 25 [.int .i64 0] := ⟨.int .i64 0, by kernel_rfl, rfl⟩
instance zrSI : ZrTy Try.prog 22 [.slice none 0 0] := ⟨.slice none 0 0, by kernel_rfl, rfl⟩
instance zrB : ZrTy Try.prog 4 [.bool false] := ⟨.bool false, by kernel_rfl, rfl⟩
instance zrPG : ZrTy Try.prog 93 [.pointer none] := ⟨.pointer none, by kernel_rfl, rfl⟩
instance tyPG : ScTy Try.prog 93 := scTy_of (by kernel_rfl)
instance ptG : PtTy Try.prog 93 := ⟨by kernel_rfl⟩
abbrev gfN (g : GfM) : Chunk := gfO 136 3 g
end Go.Proofs.Ytjmojhflnjbgaaa

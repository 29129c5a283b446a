/-
  THE ELEMENTS ONE BY ONE. One sentence: the iterator over a field's elements calls yield for 0, 1, .., q - 1, until it says no more.
  Conditions: each theorem's own, written out in it.
-/
import Derived.RangeFuncNested
import Derived.RangeFuncBound
import Derived.RangeFuncCalls
import Derived.RangeFuncLeaves
import Derived.Shelf.Abstract
import Derived.Shelf.RegionOpen
import Derived.WalkKit
import Derived.OwnWalkIn
import Derived.TacticsInMore
import Derived.LoopNIn
import Derived.LoopIn
import Derived.Test.YtancpcmiimcdhaaSymM
import Derived.Test.YtancpcmiimcdhaaTypes
set_option linter.unusedSimpArgs false
set_option linter.unusedVariables false
namespace Go.Proofs.Ytancpcmiimcdhaa
open Go.RowKit Go.Shelf
attribute [local go_sem] Oper.semAt_some

set_option maxRecDepth 100000 in
set_option maxHeartbeats 2000000 in
theorem elems_in (F : Fence) (n : Nat) (hF : F.fn 50) (hro : F.round = none) (hn : 1 ≤ n) (l Bs b q : Nat) (hq : q ≤ 256) (J Jx : List Int → World → Prop)
    (hY : ∀ pre x W, J pre W → pre.length < q → YieldAt F (n - 1) Try.prog l #[.int .i64 x] W fun e W' =>
      (e = .returned (.bool true) ∧ J (pre ++ [x]) W' ∧ True) ∨ (e = .returned (.bool false) ∧ Jx (pre ++ [x]) W'))
    (W : World) (hBs : W.cell? ⟨Bs, 0, none⟩ = some (.pointer (some ⟨b, 0, none⟩))) (hc : W.cell? ⟨b, 3, none⟩ = some (.int .i64 q)) (h0 : J [] W) :
    CallsIn F n Try.prog 50 #[.func (.yield l) #[] #[], .pointer (some ⟨Bs, 0, none⟩)] W fun e W' => (∃ v, e = .returned v) ∧
      ((∃ ys, ys = upI q ∧ J ys W') ∨ (∃ pre, (∃ k, k ≤ q ∧ pre = upI k) ∧ Jx pre W')) := by
  refine callsIn_of_wp Try.func50 rfl hF ?_ hro
  simp only [Try.ntmps50, List.size_toArray, List.length_cons, List.length_nil, Nat.reduceAdd, Nat.reduceSub, Array.replicate_succ, Array.replicate_zero, List.push_toArray, List.append_toArray, List.nil_append, List.cons_append]
  gi_wp2
  gi_loopw [8] (fun i wr => ∃ k : Nat, k ≤ q ∧ i = .int .i64 k ∧ J (upI k) wr)
    (fun i _ => q - (intOf i).toNat)
  case atStart => exact ⟨0, Nat.zero_le _, rfl, h0⟩
  case round =>
    obtain ⟨k, hk, rfl, hJs⟩ := hrel
    by_cases hlt : k < q
    · obtain ⟨fn, tmps, assign, body, hy, hR⟩ := hY _ (k : Int) wr hJs (by rw [upI_length]; exact hlt)
      gi_wp2
      refine hR.mono ?_
      rintro e W3 (⟨rfl, hJ3, _⟩ | ⟨rfl, hJx3⟩)
      · gi_wp2
        go_roundw
        case rel => exact ⟨k + 1, by omega, by simp, by rw [upI_succ]; exact hJ3⟩
        case measure => simp [intOf]; omega
      · gi_wp2
        refine bodyPost_ret (results_none rfl _ _ _) rfl ?_
        exact ⟨⟨_, rfl⟩, .inr ⟨_, ⟨k + 1, by omega, (upI_succ _).symm⟩, hJx3⟩⟩
    · obtain rfl : k = q := by omega
      gi_wp2
      go_end0
      exact ⟨⟨_, rfl⟩, .inl ⟨_, rfl, hJs⟩⟩
/-- A pointer's box and the field that it leads to. -/
theorem elems_gives {Bs : Addr} {g : GfM} {e : TypeId} {F F' : List Chunk} (hq0 : 0 ≤ g.q) (hq : g.q ≤ 256) [hB : PkBlk F Bs e [.pointer (some g.p)] F'] [hG : HasGF F g] :
    Gives Try.prog F 50 #[.pointer (some Bs)] g.q.toNat := ⟨fun M w0 w hm => by
  have h1 := (hm.perm hB.perm).sat _ (List.mem_cons_self ..)
  have h2 := (hG.has M w0 w hm).1
  have hb := h1.1
  have hp := h2.1
  obtain ⟨ad, e1, hc⟩ := blk_reads h1 0 (by simp)
  simp only [Option.some.injEq] at e1
  subst e1
  obtain ⟨ad, e2, hc2⟩ := h2.2 3 (by simp [GfM.cells])
  simp only [Option.some.injEq] at e2
  subst e2
  simp only [GfM.cells, List.getElem_cons_zero, List.getElem_cons_succ] at hc hc2
  rw [hb, add_new] at hc
  rw [hp, add_new] at hc2
  intro l J Jx W hW _ _ hY h0
  have k1 : W.cell? ⟨Bs.block, 0, none⟩ = some (.pointer (some ⟨g.p.block, 0, none⟩)) := by
    rw [hW.cell (p := ⟨Bs.block, 0, none⟩) (World.block_lt_of_cell? _ _ hc), hc, ← hp]
  have k2 : W.cell? ⟨g.p.block, 3, none⟩ = some (.int .i64 g.q.toNat) := by
    rw [hW.cell (p := ⟨g.p.block, 3, none⟩) (World.block_lt_of_cell? _ _ hc2), hc2, Int.toNat_of_nonneg hq0]
  have := elems_in (WR none) 1 trivial rfl (Nat.le_refl _) l Bs.block g.p.block g.q.toNat (by omega) J Jx hY W k1 k2 h0
  rw [hb]
  exact this⟩
end Go.Proofs.Ytancpcmiimcdhaa

/-
  THE ROOT OF AN ORDER. One sentence: what bch.Root returns.
  Conditions: each theorem's own, written out in it.
-/
import Derived.Test.YtancpcmiimcdhaaRmul
import Derived.Test.YtancpcmiimcdhaaIter
set_option linter.unusedSimpArgs false
set_option linter.unusedVariables false
namespace Go.Proofs.Ytancpcmiimcdhaa
open Go.RowKit

theorem gf_Elements1_ent : Enters Try.prog 50 := enters_of Try.func50 (by kernel_rfl) (by kernel_rfl)

theorem gf_Elements_ent : Enters Try.prog 35 := enters_of Try.func35 (by kernel_rfl) (by kernel_rfl)
theorem gf_Elements (g : GfM) :
    Pure Try.prog 35 #[.pointer (some g.p)] [gfR g] (one (fun v ch => ∃ Bs : Addr, v = .func (.func 50) #[] #[.pointer (some Bs)] ∧ ch = blk Bs 37 [.pointer (some g.p)])) := by
  refine pure_of (args := [.pointer (some g.p)]) 4 Try.func35 rfl rfl rfl gf_Elements_ent ⟨id, trivial⟩ (fun w0 => ?_)
  refine tr_seq ?_
  refine tr_region fun _ _ _ => ?_
  refine ef rfl rfl (eBox rfl rfl rfl rfl rfl (fun p0 => ?_)) 
  refine pu rfl rfl rfl rfl rfl ?_
  refine tr_seq ?_
  refine tr_region fun _ _ _ => ?_
  refine st rfl rfl rfl rfl (rFun rfl rfl rfl) ?_
  refine pu rfl rfl rfl rfl rfl ?_
  exact tr_ret ⟨trivial, _, _, rfl, ⟨_, rfl, p0, rfl, rfl⟩, cs _ _, trivial, trivial⟩

theorem gf_MulOrder2 (g : GfM) (p m : Int) (mod : List Int) (hg : GOk g p m mod) (y : Int) : Pure Try.prog 36 #[.pointer (some g.p), .int .i64 y] [gfR g] (isV (.tuple #[.int .i64 (if inI g.q y = 0 then 0 else mord p m mod (inI g.q y) : Nat), .int .i64 (if inI g.q y = 0 then 7 else 0)])) :=
  (gf_MulOrder g p m mod hg y).mono fun v Fo hr => ⟨hr.1.trans (by split <;> simp [*]), hr.2⟩

theorem bch_Root_no_ent : Enters Try.prog 18 := enters_of Try.func18 (by kernel_rfl) (by kernel_rfl)
theorem bch_Root_no (p m : Int) (A : Option Addr) (c : Nat) (mod : List Int) (hl9 : mod.length ≤ 17592186044415) (n : Int) (hF : ¬ FldR p m mod) :
    Pure Try.prog 18 #[.agg #[.int .i64 p, .int .i64 m, .slice A mod.length c], .int .i64 n] [ro A (ints mod)] (isV (.tuple #[.int .i64 0, .int .i64 1])) := by
  refine pure_ofC (args := [.agg #[.int .i64 p, .int .i64 m, .slice A mod.length c], .int .i64 n]) 42 Try.func18 rfl rfl rfl bch_Root_no_ent ⟨id, trivial⟩ (fun w0 => ?_)
  refine tr_seq ?_
  refine tr_region fun _ _ _ => ?_
  refine ef rfl rfl (eBox rfl rfl rfl rfl rfl (fun p0 => ?_)) 
  refine ef rfl rfl (eBox rfl rfl rfl rfl rfl (fun p0a => ?_)) 
  refine ef rfl rfl (eAlloc rfl rfl rfl (fun p0b => ?_)) 
  refine ef rfl rfl (eAlloc rfl rfl rfl (fun p0c => ?_)) 
  refine tr_seq ?_
  refine tr_region fun _ _ _ => ?_
  refine st rfl rfl rfl rfl (rLdS rfl rfl rfl) ?_
  refine ef rfl rfl (eCallV rfl rfl rfl (fld_New_no _ _ _ _ _ (by omega) hF) ⟨rfl, trivial⟩ ?_) 
  iterate 3 refine pu rfl rfl rfl rfl rfl ?_
  refine ef rfl rfl (eAlloc rfl rfl rfl (fun p1a => ?_)) 
  refine ef rfl rfl (eSt0 rfl rfl rfl rfl rfl rfl ?_) 
  refine pu rfl rfl rfl rfl rfl ?_
  refine tr_seq ?_
  refine tr_seq ?_
  refine tr_region fun _ _ _ => ?_
  iterate 2 refine pu rfl rfl rfl rfl rfl ?_
  refine tr_cond_bool rfl (fun h2 => ?_) (fun h2 => ?_)
  · try simp only [zb1, zb2, zb3, zb4, zb5, zb6, zb7, zb8, zb9, zb10] at h2
    refine tr_seq ?_
    refine tr_region fun _ _ _ => ?_
    refine pu rfl rfl rfl rfl rfl ?_
    refine ef rfl rfl (eSt0 rfl rfl rfl rfl rfl rfl ?_) 
    refine ef rfl rfl (eSt0 rfl rfl rfl rfl rfl rfl ?_) 
    exact tr_ret ⟨trivial, _, _, (.cell rfl cell1 (.cell rfl cell1 .nil)), ⟨rfl, rfl⟩, CSub.nil _, trivial⟩
  · try simp only [zb1, zb2, zb3, zb4, zb5, zb6, zb7, zb8, zb9, zb10] at h2
    simp at h2 --done

theorem bch_Root_ok_ent : Enters Try.prog 18 := enters_of Try.func18 (by kernel_rfl) (by kernel_rfl)
theorem bch_Root_ok (p m : Int) (A : Option Addr) (c : Nat) (mod : List Int) (hl9 : mod.length ≤ 17592186044415) (n : Int) (hF : FldR p m mod) :
    Pure Try.prog 18 #[.agg #[.int .i64 p, .int .i64 m, .slice A mod.length c], .int .i64 n] [ro A (ints mod)] (isV (.tuple #[.int .i64 (if rootArgs p m mod n = 0 then rootI p m mod n else 0), .int .i64 (rootArgs p m mod n)])) := by
  have hch := chkF_ok hF
  refine pure_ofC (args := [.agg #[.int .i64 p, .int .i64 m, .slice A mod.length c], .int .i64 n]) 42 Try.func18 rfl rfl rfl bch_Root_ok_ent ⟨id, trivial⟩ (fun w0 => ?_)
  refine tr_seq ?_
  refine tr_region fun _ _ _ => ?_
  refine ef rfl rfl (eBox rfl rfl rfl rfl rfl (fun p0 => ?_)) 
  refine ef rfl rfl (eBox rfl rfl rfl rfl rfl (fun p0a => ?_)) 
  refine ef rfl rfl (eAlloc rfl rfl rfl (fun p0b => ?_)) 
  refine ef rfl rfl (eAlloc rfl rfl rfl (fun p0c => ?_)) 
  refine tr_seq ?_
  refine tr_region fun _ _ _ => ?_
  refine st rfl rfl rfl rfl (rLdS rfl rfl rfl) ?_
  refine ef rfl rfl (eCall1 rfl rfl rfl (fld_New_ok _ _ _ _ _ (by omega) hF) ⟨rfl, trivial⟩ ?_) 
  rintro _ _ ⟨g, rfl, rfl, hg⟩
  iterate 3 refine pu rfl rfl rfl rfl rfl ?_
  refine ef rfl rfl (eAlloc rfl rfl rfl (fun p1a => ?_)) 
  refine ef rfl rfl (eSt0 rfl rfl rfl rfl rfl rfl ?_) 
  refine pu rfl rfl rfl rfl rfl ?_
  refine tr_seq ?_
  refine tr_seq ?_
  refine tr_region fun _ _ _ => ?_
  iterate 2 refine pu rfl rfl rfl rfl rfl ?_
  refine tr_cond_bool rfl (fun h2 => ?_) (fun h2 => ?_)
  · try simp only [zb1, zb2, zb3, zb4, zb5, zb6, zb7, zb8, zb9, zb10] at h2
    simp at h2 --done
  · try simp only [zb1, zb2, zb3, zb4, zb5, zb6, zb7, zb8, zb9, zb10] at h2
    refine tr_skip ?_
    refine tr_seq ?_
    refine tr_seq ?_
    refine tr_region fun _ _ _ => ?_
    refine st rfl rfl rfl rfl (rLd0 rfl rfl) ?_
    iterate 2 refine pu rfl rfl rfl rfl rfl ?_
    refine stg rfl rfl rfl rfl rfl (fun hb => by (have hq := hb; try simp only [zb1, zb2, zb3, zb4, zb5, zb6, zb7, zb8, zb9, zb10] at hq); exact rLd0 rfl rfl) ?_
    refine stg rfl rfl rfl rfl rfl (fun hb => by (have hq := hb; try simp only [zb1, zb2, zb3, zb4, zb5, zb6, zb7, zb8, zb9, zb10] at hq); exact rGtr rfl (evg rfl hb) rfl) ?_
    refine st rfl rfl rfl rfl (rOrB rfl rfl rfl rfl) ?_
    refine tr_cond_bool rfl (fun h4 => ?_) (fun h4 => ?_)
    · try simp only [zb1, zb2, zb3, zb4, zb5, zb6, zb7, zb8, zb9, zb10] at h4
      refine tr_seq ?_
      refine tr_region fun _ _ _ => ?_
      refine ef rfl rfl (eSt0 rfl rfl rfl rfl rfl rfl ?_) 
      refine ef rfl rfl (eSt0 rfl rfl rfl rfl rfl rfl ?_) 
      have hra : rootArgs p m mod n = 4 := by unfold rootArgs; rw [if_neg (by omega), if_pos (by omega)]
      exact tr_ret ⟨trivial, _, _, (.cell rfl cell1 (.cell rfl cell1 .nil)), ⟨by rw [hra]; rfl, rfl⟩, CSub.nil _, trivial⟩
    · try simp only [zb1, zb2, zb3, zb4, zb5, zb6, zb7, zb8, zb9, zb10] at h4
      refine tr_skip ?_
      refine tr_seq ?_
      refine tr_seq ?_
      have hq2 := hg.q2
      have hqe := hg.eq
      refine tr_region fun _ _ _ => ?_
      refine st rfl rfl rfl rfl (rLd0 rfl rfl) ?_
      refine ef rfl rfl (eCall1 rfl rfl rfl (gf_Elements _) ⟨rfl, trivial⟩ ?_) 
      rintro _ _ ⟨B6, rfl, rfl⟩
      refine tr_block ?_
      refine tr_range (hseq := elems_gives (by omega) (by omega)) rfl gf_Elements1_ent rfl rfl rfl rfl rfl (fun (q : Unit) => [blk B6 37 [.pointer (some g.p)], blk p1a 37 [.pointer (some g.p)], gfN g, blk p0 36 [.int .i64 p, .int .i64 m, .slice A mod.length c], blk p0a 3 [.int .i64 n], blk p0b 3 [.int .i64 0], blk p0c 25 [.int .i64 0]]) (fun (pre : List Int) (q : Unit) => ∀ z ∈ pre, (mord p m mod (inI g.q z) : Int) ≠ n ∨ inI g.q z = 0) () (by first | exact cs _ _ | exact CSub.refl _) (fun z hz => by simp at hz) ?_ ?_
      · rintro pre x q l M0 W0 hlen hI
        refine tr_block ?_
        refine tr_seq ?_
        refine tr_region fun _ _ _ => ?_
        refine st rfl rfl rfl rfl (rLd0 rfl rfl) ?_
        refine pu rfl rfl rfl rfl rfl ?_
        refine ef rfl rfl (eCallV rfl rfl rfl (gf_MulOrder2 g p m mod hg _) ⟨rfl, rfl, trivial⟩ ?_) 
        iterate 5 refine pu rfl rfl rfl rfl rfl ?_
        refine tr_seq ?_
        generalize hz : inI g.q x = z
        refine tr_region fun _ _ _ => ?_
        iterate 3 refine pu rfl rfl rfl rfl rfl ?_
        refine stg rfl rfl rfl rfl rfl (fun hb => by (have hq := hb; try simp only [zb1, zb2, zb3, zb4, zb5, zb6, zb7, zb8, zb9, zb10] at hq); exact rMove rfl rfl) ?_
        refine stg rfl rfl rfl rfl rfl (fun hb => by (have hq := hb; try simp only [zb1, zb2, zb3, zb4, zb5, zb6, zb7, zb8, zb9, zb10] at hq); exact rLd0 rfl rfl) ?_
        refine stg rfl rfl rfl rfl rfl (fun hb => by (have hq := hb; try simp only [zb1, zb2, zb3, zb4, zb5, zb6, zb7, zb8, zb9, zb10] at hq); exact rEql rfl (evg rfl hb) (evg rfl hb)) ?_
        refine st rfl rfl rfl rfl (rAndB rfl rfl rfl rfl) ?_
        refine tr_cond_bool rfl (fun h9 => ?_) (fun h9 => ?_)
        · try simp only [zb1, zb2, zb3, zb4, zb5, zb6, zb7, zb8, zb9, zb10] at h9
          refine tr_seq ?_
          refine tr_region fun _ _ _ => ?_
          refine pu rfl rfl rfl rfl rfl ?_
          refine ef rfl rfl (eSt0 rfl rfl rfl rfl rfl rfl ?_) 
          refine ef rfl rfl (eSt0 rfl rfl rfl rfl rfl rfl ?_) 
          refine tr_ret fun hpre => ?_
          obtain ⟨k, hk, hk2⟩ := hpre
          have hpk : pre = upI pre.length ∧ x = pre.length ∧ (pre.length : Int) < g.q := by
            have h1 := congrArg List.length hk2
            rw [upI_length, List.length_append, List.length_singleton] at h1
            rw [← h1, upI_succ] at hk2
            have h2 := List.append_inj' hk2 rfl
            exact ⟨h2.1, by simpa using h2.2, by omega⟩
          obtain ⟨hp1, hp2, hp3⟩ := hpk
          have hzx : z = x := by rw [← hz, inI_in (by omega) (by omega)]
          have hz0 : z ≠ 0 := fun e => by rw [e] at h9; simp at h9
          rw [if_neg hz0, if_neg hz0] at h9
          have hr : RootI p m mod n x := .inr ⟨by omega, by omega, by rw [← hzx]; exact h9.2, fun y h1 h2 => by
            have h3 := hI y (by rw [hp1]; exact List.mem_map.2 ⟨y.toNat, List.mem_range.2 (by omega), by omega⟩)
            rw [inI_in (by omega) (by omega)] at h3
            rcases h3 with h3 | h3
            · exact h3
            · omega⟩
          have hra : rootArgs p m mod n = 0 := by unfold rootArgs; rw [if_neg (by omega), if_neg (by omega), if_neg (by rw [hr.eq]; omega)]
          exact ⟨trivial, _, _, (.cell rfl cell1 (.cell rfl cell1 .nil)), ⟨by rw [hra, if_pos rfl, hr.eq]; rfl, rfl⟩, CSub.nil _, trivial⟩
        · try simp only [zb1, zb2, zb3, zb4, zb5, zb6, zb7, zb8, zb9, zb10] at h9
          refine tr_skip ?_
          refine ⟨(), by first | exact cs _ _ | exact CSub.refl _, ?_⟩
          intro y hy
          rcases List.mem_append.1 hy with hy | hy
          · exact hI y hy
          · simp only [List.mem_singleton] at hy
            subst hy
            rw [hz]
            by_cases hz0 : z = 0
            · exact .inr hz0
            · left
              rw [if_neg hz0, if_neg hz0] at h9
              intro he
              rcases h9 with h9 | h9
              · exact h9 rfl
              · exact h9 (by exact_mod_cast he)
      · rintro q hI
        have hr : RootI p m mod n 0 := .inl ⟨rfl, fun y h1 h2 => by
          have h3 := hI y (List.mem_map.2 ⟨y.toNat, List.mem_range.2 (by omega), by omega⟩)
          rw [inI_in (by omega) (by omega)] at h3
          rcases h3 with h3 | h3
          · exact h3
          · omega⟩
        have hra : rootArgs p m mod n = 11 := by unfold rootArgs; rw [if_neg (by omega), if_neg (by omega), if_pos hr.eq]
        refine tr_seq ?_
        refine tr_region fun _ _ _ => ?_
        refine ef rfl rfl (eSt0 rfl rfl rfl rfl rfl rfl ?_) 
        refine ef rfl rfl (eSt0 rfl rfl rfl rfl rfl rfl ?_) 
        exact tr_ret ⟨trivial, _, _, (.cell rfl cell1 (.cell rfl cell1 .nil)), ⟨by rw [hra]; rfl, rfl⟩, CSub.nil _, trivial⟩

end Go.Proofs.Ytancpcmiimcdhaa

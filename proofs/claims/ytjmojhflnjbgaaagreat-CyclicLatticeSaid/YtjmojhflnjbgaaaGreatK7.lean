/-
  CYCLICLATTICE, PART 7 OF 10. One sentence: the texts behind the law CyclicLattice, put together.
  Conditions: each theorem's own, written out in it.
-/
import Derived.Test.YtjmojhflnjbgaaaGreatK6
set_option linter.unusedSimpArgs false
set_option linter.unusedVariables false
set_option linter.unusedSectionVars false
set_option linter.unusedSimpArgs false
set_option linter.unusedVariables false
set_option maxRecDepth 100000
namespace Go.Proofs.YtjmojhflnjbgaaaGreat
open Go.RowKit

theorem ref_PAt_ent : Enters Tryz.prog 207 := enters_of Tryz.func207 (by kernel_rfl) (by kernel_rfl)
theorem ref_PAt (p m : Int) (A : Option Addr) (c : Nat) (mod : List Int) [hF : IsF p m mod] (Xa : Option Addr) (na ca : Nat) (a : List Int) (hna : na = a.length) (ha9 : a.length ≤ 1000000000) (i : Int) (hi : 0 ≤ i) :
    Pure Tryz.prog 207 #[.agg #[.int .i64 p, .int .i64 m, .slice A mod.length c], .slice Xa na ca, .int .i64 i] [ro A (ints mod), ro Xa (ints a)] (isV (.int .i64 (el (a.getD i.toNat 0) : El p m mod).1)) := by
  refine pure_of (args := [.agg #[.int .i64 p, .int .i64 m, .slice A mod.length c], .slice Xa na ca, .int .i64 i]) 21 Tryz.func207 rfl rfl rfl ref_PAt_ent ⟨id, id, trivial⟩ (fun w0 => ?_)
  refine tr_seq ?_
  refine tr_region fun _ _ _ => ?_
  refine ef rfl rfl (eBox rfl rfl rfl rfl rfl (fun p0 => ?_)) 
  refine pu rfl rfl rfl rfl rfl ?_
  refine tr_seq ?_
  refine tr_seq ?_
  refine tr_region fun _ _ _ => ?_
  iterate 3 refine pu rfl rfl rfl rfl rfl ?_
  refine stg rfl rfl rfl rfl rfl (fun hb => by (have hq := hb; try simp only [zb1, zb2, zb3, zb4, zb5, zb6, zb7, zb8, zb9, zb10] at hq); exact rMove rfl rfl) ?_
  refine stg rfl rfl rfl rfl rfl (fun hb => by (have hq := hb; try simp only [zb1, zb2, zb3, zb4, zb5, zb6, zb7, zb8, zb9, zb10] at hq); exact rMove rfl rfl) ?_
  refine stg rfl rfl rfl rfl rfl (fun hb => by (have hq := hb; try simp only [zb1, zb2, zb3, zb4, zb5, zb6, zb7, zb8, zb9, zb10] at hq); exact rLen rfl (evg rfl hb)) ?_
  refine stg rfl rfl rfl rfl rfl (fun hb => by (have hq := hb; try simp only [zb1, zb2, zb3, zb4, zb5, zb6, zb7, zb8, zb9, zb10] at hq); exact rGeq rfl (evg rfl hb) (evg rfl hb)) ?_
  refine st rfl rfl rfl rfl (rOrB rfl rfl rfl rfl) ?_
  refine tr_cond_bool rfl (fun h1 => ?_) (fun h1 => ?_)
  · try simp only [zb1, zb2, zb3, zb4, zb5, zb6, zb7, zb8, zb9, zb10] at h1
    refine tr_seq ?_
    refine tr_region fun _ _ _ => ?_
    refine pu rfl rfl rfl rfl rfl ?_
    exact tr_ret ⟨trivial, _, _, rfl, ⟨by rw [getD_out (by omega), el_zero]; rfl, rfl⟩, CSub.nil _, trivial⟩
  · try simp only [zb1, zb2, zb3, zb4, zb5, zb6, zb7, zb8, zb9, zb10] at h1
    refine tr_skip ?_
    refine tr_seq ?_
    refine tr_draw [0, 1, 2, 3, 4, 5, 6] [] mixed (by kernel_rfl) fun _ _ _ => ?_
    refine st rfl rfl rfl rfl (rLdS rfl rfl rfl) ?_
    iterate 2 refine pu rfl rfl rfl rfl rfl ?_
    refine st rfl rfl rfl rfl (rIdxI rfl rfl rfl (by omega) (by omega) (by omega)) ?_
    refine st rfl rfl rfl rfl (rLdI rfl rfl (by omega)) ?_
    refine ef rfl rfl (eCallV rfl rfl rfl (ref_In _ _ _ _ _ _) ⟨rfl, rfl, trivial⟩ ?_) 
    refine pu rfl rfl rfl rfl rfl ?_
    exact tr_ret ⟨trivial, _, _, rfl, ⟨by rw [hF.ord]; rfl, rfl⟩, CSub.nil _, trivial⟩

section
variable {p m : Int} {mod : List Int} [hF : IsF p m mod]
theorem pol_at {l : List Int} {f : Po (El p m mod)} (h : ∀ j, (el (l.getD j 0) : El p m mod) = Po.cf f j) : (pol l : Po (El p m mod)) = f := Po.ext h
end

theorem ref_PAdd_ent : Enters Tryz.prog 162 := enters_of Tryz.func162 (by kernel_rfl) (by kernel_rfl)
theorem ref_PAdd (p m : Int) (A : Option Addr) (c : Nat) (mod : List Int) [hF : IsF p m mod] (Xa : Option Addr) (na ca : Nat) (a : List Int) (hna : na = a.length) (ha9 : a.length ≤ 1000000) (Xb : Option Addr) (nb cb : Nat) (b : List Int) (hnb : nb = b.length) (hb9 : b.length ≤ 1000000) :
    Pure Tryz.prog 162 #[.agg #[.int .i64 p, .int .i64 m, .slice A mod.length c], .slice Xa na ca, .slice Xb nb cb] [ro A (ints mod), ro Xa (ints a), ro Xb (ints b)] (one (fun v ch => ∃ B cap, v = .slice B (il ((pol a : Po (El p m mod)) + (pol b : Po (El p m mod)))).length cap ∧ ch = ow B 3 cap (ints (il ((pol a : Po (El p m mod)) + (pol b : Po (El p m mod))))))) := by
  refine pure_of (args := [.agg #[.int .i64 p, .int .i64 m, .slice A mod.length c], .slice Xa na ca, .slice Xb nb cb]) 37 Tryz.func162 rfl rfl rfl ref_PAdd_ent ⟨id, id, id, trivial⟩ (fun w0 => ?_)
  refine tr_seq ?_
  refine tr_region fun _ _ _ => ?_
  refine ef rfl rfl (eBox rfl rfl rfl rfl rfl (fun p0 => ?_)) 
  refine pu rfl rfl rfl rfl rfl ?_
  refine tr_seq ?_
  refine tr_region fun _ _ _ => ?_
  refine pu rfl rfl rfl rfl rfl ?_
  refine st rfl rfl rfl rfl (rLen rfl rfl) ?_
  refine pu rfl rfl rfl rfl rfl ?_
  refine st rfl rfl rfl rfl (rLen rfl rfl) ?_
  refine st rfl rfl rfl rfl (rMax rfl rfl rfl) ?_
  refine ef rfl rfl (eMakeI rfl rfl rfl rfl rfl (by omega) (by omega) (by omega) (fun A1 => ?_)) 
  refine pu rfl rfl rfl rfl rfl ?_
  have hmx : (max (na : Int) (nb : Int)).toNat = max na nb := by omega
  simp only [hmx]
  refine tr_seq ?_
  refine tr_seq ?_
  refine tr_region fun _ _ _ => ?_
  refine pu rfl rfl rfl rfl rfl ?_
  refine tr_block ?_
  refine tr_loop2 (fun (k : Int) (o : List Int) => [(7, .slice A1 (max na nb) (max na nb)), (8, .int .i64 k), (1, .slice Xa na ca), (2, .slice Xb nb cb), (3, .pointer (some p0)), (6, .slice none 0 0)]) (fun (k : Int) (o : List Int) => [ow A1 3 (max na nb) (ints o), blk p0 24 [.int .i64 p, .int .i64 m, .slice A mod.length c], ro A (ints mod), ro Xa (ints a), ro Xb (ints b)]) (fun (k : Int) (o : List Int) => (0 ≤ k ∧ k ≤ (max na nb : Nat)) ∧ o.length = max na nb ∧ ∀ j : Nat, (j : Int) < k → o.getD j 0 = (el (a.getD j 0) + el (b.getD j 0) : El p m mod).1) (fun (k : Int) (o : List Int) => ((max na nb : Nat) - k).toNat) (0) (List.replicate (max na nb) 0) ⟨rfl, rfl, rfl, rfl, rfl, rfl, trivial⟩ (by first | exact cs _ _ | exact CSub.refl _) (⟨⟨by omega, by omega⟩, by simp, fun j hj => by omega⟩) (fun k o hI => ?_)
  obtain ⟨⟨hk0, hk1⟩, hol, ho⟩ := hI
  refine tr_seq ?_
  refine tr_seq ?_
  refine tr_region fun _ _ _ => ?_
  iterate 2 refine pu rfl rfl rfl rfl rfl ?_
  refine st rfl rfl rfl rfl (rLen rfl rfl) ?_
  refine pu rfl rfl rfl rfl rfl ?_
  refine tr_cond_bool rfl (fun h3 => ?_) (fun h3 => ?_)
  · try simp only [zb1, zb2, zb3, zb4, zb5, zb6, zb7, zb8, zb9, zb10] at h3
    refine tr_skip ?_
    refine tr_seq ?_
    refine tr_block ?_
    refine tr_draw [0, 1, 2, 3, 4, 5, 7, 8, 9, 6, 10, 11, 12] [13] mixed (by kernel_rfl) fun _ _ _ => ?_
    iterate 2 refine pu rfl rfl rfl rfl rfl ?_
    refine st rfl rfl rfl rfl (rLdS rfl rfl rfl) ?_
    refine st rfl rfl rfl rfl (rLdS rfl rfl rfl) ?_
    iterate 2 refine pu rfl rfl rfl rfl rfl ?_
    refine st rfl rfl rfl rfl (rLdS rfl rfl rfl) ?_
    iterate 2 refine pu rfl rfl rfl rfl rfl ?_
    refine ef rfl rfl (eCallV rfl rfl rfl (ref_PAt _ _ _ _ _ _ _ _ _ (by first | rfl | omega | simp) (by omega) _ (by omega)) ⟨rfl, rfl, rfl, trivial⟩ ?_) 
    refine ef rfl rfl (eCallV rfl rfl rfl (ref_PAt _ _ _ _ _ _ _ _ _ (by first | rfl | omega | simp) (by omega) _ (by omega)) ⟨rfl, rfl, rfl, trivial⟩ ?_) 
    refine ef rfl rfl (eCallV rfl rfl rfl (ref_AddE _ _ _ _ _ _ _) ⟨rfl, rfl, rfl, trivial⟩ ?_) 
    refine st rfl rfl rfl rfl (rIdxI rfl rfl rfl (by omega) (by omega) (by omega)) ?_
    refine ef rfl rfl (eStI rfl rfl rfl rfl (by omega) ?_) 
    refine tr_region fun _ _ _ => ?_
    refine pu rfl rfl rfl rfl rfl ?_
    refine st rfl rfl rfl rfl (rAdd rfl rfl rfl (by omega) (by omega)) ?_
    refine pu rfl rfl rfl rfl rfl ?_
    refine ⟨k + 1, o.set k.toNat (el (el (a.getD k.toNat 0) : El p m mod).1 + el (el (b.getD k.toNat 0) : El p m mod).1 : El p m mod).1, ⟨rfl, rfl, rfl, rfl, rfl, rfl, trivial⟩, by first | exact cs _ _ | exact CSub.refl _, ?_⟩
    refine ⟨⟨⟨by omega, by omega⟩, by simpa using hol, fun j hj => ?_⟩, by omega⟩
    rw [getD_set]
    by_cases he : k.toNat = j
    · subst he; rw [if_pos ⟨rfl, by omega⟩, el_of, el_of]
    · rw [if_neg (fun e => he e.1)]; exact ho j (by omega)
  · try simp only [zb1, zb2, zb3, zb4, zb5, zb6, zb7, zb8, zb9, zb10] at h3
    refine tr_exit ?_
    refine tr_seq ?_
    refine tr_region fun _ _ _ => ?_
    refine st rfl rfl rfl rfl (rLdS rfl rfl rfl) ?_
    refine pu rfl rfl rfl rfl rfl ?_
    refine ef rfl rfl (eCall1 rfl rfl rfl (ref_CanonE _ _ _ _ _ _ _ _ o (by omega) (by omega)) ⟨rfl, rfl, trivial⟩ ?_) 
    rintro _ _ ⟨B6, c6, rfl, rfl⟩
    refine pu rfl rfl rfl rfl rfl ?_
    have hp : (pol o : Po (El p m mod)) = pol a + pol b := pol_at fun j => by
      rw [Po.cf_add, cf_pol, cf_pol]
      by_cases hj : (j : Int) < k
      · rw [ho j hj, el_of]
      · rw [getD_out (by omega), getD_out (l := a) (by omega), getD_out (l := b) (by omega), el_zero]; grind
    rw [← hp]
    exact tr_ret ⟨trivial, _, _, rfl, ⟨_, rfl, B6, c6, rfl, rfl⟩, cs _ _, trivial, trivial⟩

theorem ref_PScale_ent : Enters Tryz.prog 94 := enters_of Tryz.func94 (by kernel_rfl) (by kernel_rfl)
theorem ref_PScale (p m : Int) (A : Option Addr) (c : Nat) (mod : List Int) [hF : IsF p m mod] (x : Int) (Xa : Option Addr) (na ca : Nat) (a : List Int) (hna : na = a.length) (ha9 : a.length ≤ 1000000) :
    Pure Tryz.prog 94 #[.agg #[.int .i64 p, .int .i64 m, .slice A mod.length c], .int .i64 x, .slice Xa na ca] [ro A (ints mod), ro Xa (ints a)] (one (fun v ch => ∃ B cap, v = .slice B (il (Po.C (el x) * (pol a : Po (El p m mod)))).length cap ∧ ch = ow B 3 cap (ints (il (Po.C (el x) * (pol a : Po (El p m mod))))))) := by
  refine pure_of (args := [.agg #[.int .i64 p, .int .i64 m, .slice A mod.length c], .int .i64 x, .slice Xa na ca]) 31 Tryz.func94 rfl rfl rfl ref_PScale_ent ⟨id, id, trivial⟩ (fun w0 => ?_)
  refine tr_seq ?_
  refine tr_region fun _ _ _ => ?_
  refine ef rfl rfl (eBox rfl rfl rfl rfl rfl (fun p0 => ?_)) 
  refine pu rfl rfl rfl rfl rfl ?_
  refine tr_seq ?_
  refine tr_region fun _ _ _ => ?_
  refine pu rfl rfl rfl rfl rfl ?_
  refine st rfl rfl rfl rfl (rLen rfl rfl) ?_
  refine ef rfl rfl (eMakeI rfl rfl rfl rfl rfl (by omega) (by omega) (by omega) (fun A1 => ?_)) 
  refine pu rfl rfl rfl rfl rfl ?_
  simp only [Int.toNat_natCast]
  refine tr_seq ?_
  refine tr_seq ?_
  refine tr_region fun _ _ _ => ?_
  refine pu rfl rfl rfl rfl rfl ?_
  refine tr_block ?_
  refine tr_loop2 (fun (k : Int) (o : List Int) => [(7, .slice A1 na na), (8, .int .i64 k), (1, .int .i64 x), (2, .slice Xa na ca), (3, .pointer (some p0)), (6, .slice none 0 0)]) (fun (k : Int) (o : List Int) => [ow A1 3 na (ints o), blk p0 24 [.int .i64 p, .int .i64 m, .slice A mod.length c], ro A (ints mod), ro Xa (ints a)]) (fun (k : Int) (o : List Int) => (0 ≤ k ∧ k ≤ na) ∧ o.length = na ∧ ∀ j : Nat, (j : Int) < k → o.getD j 0 = (el x * el (a.getD j 0) : El p m mod).1) (fun (k : Int) (o : List Int) => (na - k).toNat) (0) (List.replicate na 0) ⟨rfl, rfl, rfl, rfl, rfl, rfl, trivial⟩ (by first | exact cs _ _ | exact CSub.refl _) (⟨⟨by omega, by omega⟩, by simp, fun j hj => by omega⟩) (fun k o hI => ?_)
  obtain ⟨⟨hk0, hk1⟩, hol, ho⟩ := hI
  refine tr_seq ?_
  refine tr_seq ?_
  refine tr_region fun _ _ _ => ?_
  iterate 2 refine pu rfl rfl rfl rfl rfl ?_
  refine st rfl rfl rfl rfl (rLen rfl rfl) ?_
  refine pu rfl rfl rfl rfl rfl ?_
  refine tr_cond_bool rfl (fun h3 => ?_) (fun h3 => ?_)
  · try simp only [zb1, zb2, zb3, zb4, zb5, zb6, zb7, zb8, zb9, zb10] at h3
    refine tr_skip ?_
    refine tr_seq ?_
    refine tr_block ?_
    refine tr_draw [0, 1, 2, 3, 4, 5, 6, 7, 8, 9] [10] mixed (by kernel_rfl) fun _ _ _ => ?_
    iterate 2 refine pu rfl rfl rfl rfl rfl ?_
    refine st rfl rfl rfl rfl (rLdS rfl rfl rfl) ?_
    iterate 3 refine pu rfl rfl rfl rfl rfl ?_
    refine st rfl rfl rfl rfl (rIdxI rfl rfl rfl (by omega) (by omega) (by omega)) ?_
    refine st rfl rfl rfl rfl (rLdI rfl rfl (by omega)) ?_
    refine ef rfl rfl (eCallV rfl rfl rfl (ref_MulE _ _ _ _ _ _ _) ⟨rfl, rfl, rfl, trivial⟩ ?_) 
    refine st rfl rfl rfl rfl (rIdxI rfl rfl rfl (by omega) (by omega) (by omega)) ?_
    refine ef rfl rfl (eStI rfl rfl rfl rfl (by omega) ?_) 
    refine tr_region fun _ _ _ => ?_
    refine pu rfl rfl rfl rfl rfl ?_
    refine st rfl rfl rfl rfl (rAdd rfl rfl rfl (by omega) (by omega)) ?_
    refine pu rfl rfl rfl rfl rfl ?_
    refine ⟨k + 1, o.set k.toNat (el x * el (a.getD k.toNat 0) : El p m mod).1, ⟨rfl, rfl, rfl, rfl, rfl, rfl, trivial⟩, by first | exact cs _ _ | exact CSub.refl _, ?_⟩
    refine ⟨⟨⟨by omega, by omega⟩, by simpa using hol, fun j hj => ?_⟩, by omega⟩
    rw [getD_set]
    by_cases he : k.toNat = j
    · subst he; rw [if_pos ⟨rfl, by omega⟩]
    · rw [if_neg (fun e => he e.1)]; exact ho j (by omega)
  · try simp only [zb1, zb2, zb3, zb4, zb5, zb6, zb7, zb8, zb9, zb10] at h3
    refine tr_exit ?_
    refine tr_seq ?_
    refine tr_region fun _ _ _ => ?_
    refine st rfl rfl rfl rfl (rLdS rfl rfl rfl) ?_
    refine pu rfl rfl rfl rfl rfl ?_
    refine ef rfl rfl (eCall1 rfl rfl rfl (ref_CanonE _ _ _ _ _ _ _ _ o (by omega) (by omega)) ⟨rfl, rfl, trivial⟩ ?_) 
    rintro _ _ ⟨B6, c6, rfl, rfl⟩
    refine pu rfl rfl rfl rfl rfl ?_
    have hp : (pol o : Po (El p m mod)) = Po.C (el x) * pol a := pol_at fun j => by
      rw [Po.cf_C_mul, cf_pol]
      by_cases hj : (j : Int) < k
      · rw [ho j hj, el_of]
      · rw [getD_out (by omega), getD_out (l := a) (by omega), el_zero]; grind
    rw [← hp]
    exact tr_ret ⟨trivial, _, _, rfl, ⟨_, rfl, B6, c6, rfl, rfl⟩, cs _ _, trivial, trivial⟩

section
variable {p m : Int} {mod : List Int} [hF : IsF p m mod]
theorem il_C_le (x : Int) (a : List Int) : (il (Po.C (el x) * (pol a : Po (El p m mod)))).length ≤ a.length := by
  rw [il_length]; exact Po.len_le fun j hj => by rw [Po.cf_C_mul, pol_sh a j hj, Fd.mul_zero]
theorem C_neg_one (f : Po (El p m mod)) : Po.C (el (-(el 1 : El p m mod)).1 : El p m mod) * f = -f := Po.ext fun j => by rw [Po.cf_C_mul, el_of, el_one, Po.cf_neg]; grind
end

theorem ref_PSub_ent : Enters Tryz.prog 93 := enters_of Tryz.func93 (by kernel_rfl) (by kernel_rfl)
theorem ref_PSub (p m : Int) (A : Option Addr) (c : Nat) (mod : List Int) [hF : IsF p m mod] (Xa : Option Addr) (na ca : Nat) (a : List Int) (hna : na = a.length) (ha9 : a.length ≤ 1000000) (Xb : Option Addr) (nb cb : Nat) (b : List Int) (hnb : nb = b.length) (hb9 : b.length ≤ 1000000) :
    Pure Tryz.prog 93 #[.agg #[.int .i64 p, .int .i64 m, .slice A mod.length c], .slice Xa na ca, .slice Xb nb cb] [ro A (ints mod), ro Xa (ints a), ro Xb (ints b)] (one (fun v ch => ∃ B cap, v = .slice B (il ((pol a : Po (El p m mod)) - (pol b : Po (El p m mod)))).length cap ∧ ch = ow B 3 cap (ints (il ((pol a : Po (El p m mod)) - (pol b : Po (El p m mod))))))) := by
  refine pure_of (args := [.agg #[.int .i64 p, .int .i64 m, .slice A mod.length c], .slice Xa na ca, .slice Xb nb cb]) 15 Tryz.func93 rfl rfl rfl ref_PSub_ent ⟨id, id, id, trivial⟩ (fun w0 => ?_)
  refine tr_seq ?_
  refine tr_region fun _ _ _ => ?_
  refine ef rfl rfl (eBox rfl rfl rfl rfl rfl (fun p0 => ?_)) 
  refine pu rfl rfl rfl rfl rfl ?_
  refine tr_seq ?_
  refine tr_draw [0, 1, 2, 3, 5, 4, 6, 7, 8] [] mixed (by kernel_rfl) fun _ _ _ => ?_
  refine st rfl rfl rfl rfl (rLdS rfl rfl rfl) ?_
  refine pu rfl rfl rfl rfl rfl ?_
  refine st rfl rfl rfl rfl (rLdS rfl rfl rfl) ?_
  refine st rfl rfl rfl rfl (rLdS rfl rfl rfl) ?_
  refine pu rfl rfl rfl rfl rfl ?_
  refine ef rfl rfl (eCallV rfl rfl rfl (ref_NegE _ _ _ _ _ _) ⟨rfl, rfl, trivial⟩ ?_) 
  refine ef rfl rfl (eCall1 rfl rfl rfl (ref_PScale _ _ _ _ _ _ Xb _ _ b hnb hb9) ⟨rfl, rfl, rfl, trivial⟩ ?_) 
  rintro _ _ ⟨Bs, cs_, rfl, rfl⟩
  refine ef rfl rfl (eCall1 rfl rfl rfl (ref_PAdd _ _ _ _ _ Xa _ _ a hna ha9 Bs _ _ _ rfl (by have := il_C_le (p := p) (m := m) (mod := mod) (-(el 1 : El p m mod)).1 b; omega)) ⟨rfl, rfl, rfl, trivial⟩ ?_) 
  rintro _ _ ⟨Br, cr, rfl, rfl⟩
  refine pu rfl rfl rfl rfl rfl ?_
  have hp : ((pol a : Po (El p m mod)) + (pol (il (Po.C (el (-(el 1 : El p m mod)).1 : El p m mod) * (pol b : Po (El p m mod)))) : Po (El p m mod))) = (pol a : Po (El p m mod)) - (pol b : Po (El p m mod)) := by rw [pol_il, C_neg_one]; rfl
  rw [hp]
  exact tr_ret ⟨trivial, _, _, rfl, ⟨_, rfl, Br, cr, rfl, rfl⟩, cs _ _, trivial, trivial⟩


theorem ref_PMonic_ent : Enters Tryz.prog 81 := enters_of Tryz.func81 (by kernel_rfl) (by kernel_rfl)
theorem ref_PMonic (p m : Int) (A : Option Addr) (c : Nat) (mod : List Int) [hF : IsF p m mod] (Xa : Option Addr) (na ca : Nat) (a : List Int) (hna : na = a.length) (ha9 : a.length ≤ 1000000) :
    Pure Tryz.prog 81 #[.agg #[.int .i64 p, .int .i64 m, .slice A mod.length c], .slice Xa na ca] [ro A (ints mod), ro Xa (ints a)] (one (fun v ch => ∃ B cap, v = .slice B (il (Po.mon (pol a : Po (El p m mod)))).length cap ∧ ch = ow B 3 cap (ints (il (Po.mon (pol a : Po (El p m mod))))))) := by
  have hil := il_le (p := p) (m := m) (mod := mod) a
  refine pure_of (args := [.agg #[.int .i64 p, .int .i64 m, .slice A mod.length c], .slice Xa na ca]) 23 Tryz.func81 rfl rfl rfl ref_PMonic_ent ⟨id, id, trivial⟩ (fun w0 => ?_)
  refine tr_seq ?_
  refine tr_region fun _ _ _ => ?_
  refine ef rfl rfl (eBox rfl rfl rfl rfl rfl (fun p0 => ?_)) 
  refine pu rfl rfl rfl rfl rfl ?_
  refine tr_seq ?_
  refine tr_region fun _ _ _ => ?_
  refine st rfl rfl rfl rfl (rLdS rfl rfl rfl) ?_
  refine pu rfl rfl rfl rfl rfl ?_
  refine ef rfl rfl (eCall1 rfl rfl rfl (ref_CanonE _ _ _ _ _ _ _ _ a hna (by omega)) ⟨rfl, rfl, trivial⟩ ?_) 
  rintro _ _ ⟨B1, c1, rfl, rfl⟩
  refine pu rfl rfl rfl rfl rfl ?_
  refine tr_seq ?_
  refine tr_seq ?_
  refine tr_region fun _ _ _ => ?_
  refine pu rfl rfl rfl rfl rfl ?_
  refine st rfl rfl rfl rfl (rLen rfl rfl) ?_
  refine pu rfl rfl rfl rfl rfl ?_
  refine tr_cond_bool rfl (fun h2 => ?_) (fun h2 => ?_)
  · try simp only [zb1, zb2, zb3, zb4, zb5, zb6, zb7, zb8, zb9, zb10] at h2
    refine tr_seq ?_
    refine tr_region fun _ _ _ => ?_
    iterate 2 refine pu rfl rfl rfl rfl rfl ?_
    have h0 : (pol a : Po (El p m mod)) = 0 := Po.eq_zero_of_len (by rw [← il_length]; omega)
    rw [show Po.mon (pol a : Po (El p m mod)) = pol a by rw [h0, Po.mon_zero]]
    exact tr_ret ⟨trivial, _, _, rfl, ⟨_, rfl, B1, c1, rfl, rfl⟩, cs _ _, trivial, trivial⟩
  · try simp only [zb1, zb2, zb3, zb4, zb5, zb6, zb7, zb8, zb9, zb10] at h2
    refine tr_skip ?_
    refine tr_seq ?_
    refine tr_draw [0, 1, 2, 3, 4, 5, 6, 7, 9, 8, 10, 11] [] mixed (by kernel_rfl) fun _ _ _ => ?_
    refine st rfl rfl rfl rfl (rLdS rfl rfl rfl) ?_
    refine st rfl rfl rfl rfl (rLdS rfl rfl rfl) ?_
    iterate 2 refine pu rfl rfl rfl rfl rfl ?_
    refine st rfl rfl rfl rfl (rLen rfl rfl) ?_
    refine st rfl rfl rfl rfl (rSub rfl rfl rfl (by omega) (by omega)) ?_
    refine st rfl rfl rfl rfl (rIdxI rfl rfl rfl (by omega) (by omega) (by omega)) ?_
    refine st rfl rfl rfl rfl (rLdI rfl rfl (by omega)) ?_
    refine pu rfl rfl rfl rfl rfl ?_
    refine ef rfl rfl (eCallV rfl rfl rfl (ref_InvE _ _ _ _ _ _) ⟨rfl, rfl, trivial⟩ ?_) 
    refine ef rfl rfl (eCall1 rfl rfl rfl (ref_PScale _ _ _ _ _ _ B1 _ _ (il (pol a : Po (El p m mod))) rfl (by omega)) ⟨rfl, rfl, rfl, trivial⟩ ?_) 
    rintro _ _ ⟨Br, cr, rfl, rfl⟩
    refine pu rfl rfl rfl rfl rfl ?_
    have hp : Po.C (el (Fd.inv (el ((il (pol a : Po (El p m mod))).getD ((il (pol a : Po (El p m mod))).length - 1 : Int).toNat 0)) : El p m mod).1) * (pol (il (pol a : Po (El p m mod))) : Po (El p m mod)) = Po.mon (pol a) := by
      rw [el_of, pol_il, il_getD, el_of]
      unfold Po.mon Po.lead
      rw [il_length, show ((Po.len (pol a : Po (El p m mod)) : Int) - 1).toNat = Po.len (pol a : Po (El p m mod)) - 1 by omega]
    rw [hp]
    exact tr_ret ⟨trivial, _, _, rfl, ⟨_, rfl, Br, cr, rfl, rfl⟩, cs _ _, trivial, trivial⟩


theorem ref_PDivMod_ent : Enters Tryz.prog 36 := enters_of Tryz.func36 (by kernel_rfl) (by kernel_rfl)
theorem ref_PDivMod (p m : Int) (A : Option Addr) (c : Nat) (mod : List Int) [hF : IsF p m mod] (Xa : Option Addr) (na ca : Nat) (a : List Int) (hna : na = a.length) (ha9 : a.length ≤ 1000000) (Xb : Option Addr) (nb cb : Nat) (b : List Int) (hnb : nb = b.length) (hb9 : b.length ≤ 1000000) (h0 : (pol b : Po (El p m mod)) ≠ 0) :
    Pure Tryz.prog 36 #[.agg #[.int .i64 p, .int .i64 m, .slice A mod.length c], .slice Xa na ca, .slice Xb nb cb] [ro A (ints mod), ro Xa (ints a), ro Xb (ints b)] (two (fun v ch c2 => ∃ B cap B2 cap2, v = .tuple #[.slice B (il (Po.quo (pol a : Po (El p m mod)) (pol b : Po (El p m mod)))).length cap, .slice B2 (il (Po.rem (pol a : Po (El p m mod)) (pol b : Po (El p m mod)))).length cap2] ∧ ch = ow B 3 cap (ints (il (Po.quo (pol a : Po (El p m mod)) (pol b : Po (El p m mod))))) ∧ c2 = ow B2 3 cap2 (ints (il (Po.rem (pol a : Po (El p m mod)) (pol b : Po (El p m mod))))))) := by
  have hila := il_le (p := p) (m := m) (mod := mod) a
  have hilb := il_le (p := p) (m := m) (mod := mod) b
  have hlb := Po.len_pos h0
  rw [← il_length] at hlb
  refine pure_of (args := [.agg #[.int .i64 p, .int .i64 m, .slice A mod.length c], .slice Xa na ca, .slice Xb nb cb]) 72 Tryz.func36 rfl rfl rfl ref_PDivMod_ent ⟨id, id, id, trivial⟩ (fun w0 => ?_)
  refine tr_seq ?_
  refine tr_region fun _ _ _ => ?_
  refine ef rfl rfl (eBox rfl rfl rfl rfl rfl (fun p0 => ?_)) 
  iterate 2 refine pu rfl rfl rfl rfl rfl ?_
  refine tr_seq ?_
  refine tr_region fun _ _ _ => ?_
  refine st rfl rfl rfl rfl (rLdS rfl rfl rfl) ?_
  refine pu rfl rfl rfl rfl rfl ?_
  refine ef rfl rfl (eCall1 rfl rfl rfl (ref_CanonE _ _ _ _ _ _ _ _ b hnb (by omega)) ⟨rfl, rfl, trivial⟩ ?_) 
  rintro _ _ ⟨B1, c1, rfl, rfl⟩
  refine pu rfl rfl rfl rfl rfl ?_
  refine tr_seq ?_
  refine tr_region fun _ _ _ => ?_
  refine st rfl rfl rfl rfl (rLdS rfl rfl rfl) ?_
  refine pu rfl rfl rfl rfl rfl ?_
  refine ef rfl rfl (eCall1 rfl rfl rfl (ref_CanonE _ _ _ _ _ _ _ _ a hna (by omega)) ⟨rfl, rfl, trivial⟩ ?_) 
  rintro _ _ ⟨B2, c2, rfl, rfl⟩
  refine pu rfl rfl rfl rfl rfl ?_
  refine tr_seq ?_
  refine tr_region fun _ _ _ => ?_
  refine pu rfl rfl rfl rfl rfl ?_
  refine st rfl rfl rfl rfl (rLen rfl rfl) ?_
  refine st rfl rfl rfl rfl (rSub rfl rfl rfl (by omega) (by omega)) ?_
  refine pu rfl rfl rfl rfl rfl ?_
  refine tr_seq ?_
  refine tr_draw [0, 1, 2, 3, 4, 5, 6] [] mixed (by kernel_rfl) fun _ _ _ => ?_
  refine st rfl rfl rfl rfl (rLdS rfl rfl rfl) ?_
  iterate 2 refine pu rfl rfl rfl rfl rfl ?_
  refine st rfl rfl rfl rfl (rIdxI rfl rfl rfl (by omega) (by omega) (by omega)) ?_
  refine st rfl rfl rfl rfl (rLdI rfl rfl (by omega)) ?_
  refine ef rfl rfl (eCallV rfl rfl rfl (ref_InvE _ _ _ _ _ _) ⟨rfl, rfl, trivial⟩ ?_) 
  refine pu rfl rfl rfl rfl rfl ?_
  generalize hiv : (Fd.inv (el ((il (pol b : Po (El p m mod))).getD ((il (pol b : Po (El p m mod))).length - 1 : Int).toNat 0) : El p m mod)).1 = iv
  have hiv2 : (el iv : El p m mod) = Fd.inv (Po.lead (pol b : Po (El p m mod))) := by
    rw [← hiv, el_of, il_getD, el_of]
    unfold Po.lead
    rw [il_length, show ((Po.len (pol b : Po (El p m mod)) : Int) - 1).toNat = Po.len (pol b : Po (El p m mod)) - 1 by omega]
  refine tr_seq ?_
  refine tr_region fun _ _ _ => ?_
  refine pu rfl rfl rfl rfl rfl ?_
  refine st rfl rfl rfl rfl (rLen rfl rfl) ?_
  refine pu rfl rfl rfl rfl rfl ?_
  refine st rfl rfl rfl rfl (rSub rfl rfl rfl (by omega) (by omega)) ?_
  refine st rfl rfl rfl rfl (rMax rfl rfl rfl) ?_
  refine ef rfl rfl (eMakeI rfl rfl rfl rfl rfl (by omega) (by omega) (by omega) (fun A5 => ?_)) 
  refine pu rfl rfl rfl rfl rfl ?_
  generalize hQ : (max ((il (pol a : Po (El p m mod))).length - ((il (pol b : Po (El p m mod))).length - 1) : Int) 0).toNat = Q
  have hQ2 : (Q : Int) = max ((il (pol a : Po (El p m mod))).length - ((il (pol b : Po (El p m mod))).length - 1) : Int) 0 := by omega
  refine tr_seq ?_
  refine tr_block ?_
  refine tr_loop4 (fun (r : Po (El p m mod)) (Br : Option Addr) (cr : Nat) (qo : List Int) => [(2, .slice B1 (il (pol b : Po (El p m mod))).length c1), (8, .slice Br (il r).length cr), (9, .int .i64 ((il (pol b : Po (El p m mod))).length - 1)), (10, .int .i64 iv), (11, .slice A5 Q Q), (3, .pointer (some p0)), (6, .slice none 0 0), (7, .slice none 0 0)]) (fun (r : Po (El p m mod)) (Br : Option Addr) (cr : Nat) (qo : List Int) => [ow A5 3 Q (ints qo), ow Br 3 cr (ints (il r)), ow B1 3 c1 (ints (il (pol b : Po (El p m mod)))), blk p0 24 [.int .i64 p, .int .i64 m, .slice A mod.length c], ro A (ints mod), ro Xa (ints a), ro Xb (ints b)]) (fun (r : Po (El p m mod)) (Br : Option Addr) (cr : Nat) (qo : List Int) => (qo.length = Q ∧ (il r).length ≤ (il (pol a : Po (El p m mod))).length) ∧ (pol a : Po (El p m mod)) = pol qo * (pol b : Po (El p m mod)) + r ∧ ∀ j : Nat, j + (il (pol b : Po (El p m mod))).length ≤ (il r).length → qo.getD j 0 = 0) (fun (r : Po (El p m mod)) (Br : Option Addr) (cr : Nat) (qo : List Int) => (il r).length) ((pol a : Po (El p m mod))) (B2) (c2) (List.replicate Q 0) ⟨rfl, rfl, rfl, rfl, rfl, rfl, rfl, rfl, trivial⟩ (by first | exact cs _ _ | exact CSub.refl _) (⟨⟨by simp, Nat.le_refl _⟩, by rw [pol_rep]; grind, fun j _ => rep_get _ _⟩) (fun r Br cr qo hI => ?_)
  obtain ⟨⟨hql, hrl⟩, heq, hz⟩ := hI
  refine tr_seq ?_
  refine tr_seq ?_
  refine tr_region fun _ _ _ => ?_
  refine pu rfl rfl rfl rfl rfl ?_
  refine st rfl rfl rfl rfl (rLen rfl rfl) ?_
  iterate 2 refine pu rfl rfl rfl rfl rfl ?_
  refine tr_cond_bool rfl (fun h6 => ?_) (fun h6 => ?_)
  · try simp only [zb1, zb2, zb3, zb4, zb5, zb6, zb7, zb8, zb9, zb10] at h6
    refine tr_skip ?_
    refine tr_block ?_
    refine tr_seq ?_
    refine tr_region fun _ _ _ => ?_
    refine pu rfl rfl rfl rfl rfl ?_
    refine st rfl rfl rfl rfl (rLen rfl rfl) ?_
    refine st rfl rfl rfl rfl (rSub rfl rfl rfl (by omega) (by omega)) ?_
    refine pu rfl rfl rfl rfl rfl ?_
    refine st rfl rfl rfl rfl (rSub rfl rfl rfl (by omega) (by omega)) ?_
    refine pu rfl rfl rfl rfl rfl ?_
    refine tr_seq ?_
    refine tr_draw [0, 1, 2, 3, 4, 5, 6, 7, 8, 9] [] mixed (by kernel_rfl) fun _ _ _ => ?_
    refine st rfl rfl rfl rfl (rLdS rfl rfl rfl) ?_
    iterate 2 refine pu rfl rfl rfl rfl rfl ?_
    refine st rfl rfl rfl rfl (rLen rfl rfl) ?_
    refine st rfl rfl rfl rfl (rSub rfl rfl rfl (by omega) (by omega)) ?_
    refine st rfl rfl rfl rfl (rIdxI rfl rfl rfl (by omega) (by omega) (by omega)) ?_
    refine st rfl rfl rfl rfl (rLdI rfl rfl (by omega)) ?_
    refine pu rfl rfl rfl rfl rfl ?_
    refine ef rfl rfl (eCallV rfl rfl rfl (ref_MulE _ _ _ _ _ _ _) ⟨rfl, rfl, rfl, trivial⟩ ?_) 
    refine pu rfl rfl rfl rfl rfl ?_
    refine tr_seq ?_
    refine tr_region fun _ _ _ => ?_
    iterate 3 refine pu rfl rfl rfl rfl rfl ?_
    refine st rfl rfl rfl rfl (rIdxI rfl rfl rfl (by omega) (by omega) (by omega)) ?_
    refine ef rfl rfl (eStI rfl rfl rfl rfl (by omega) ?_) 
    have hls : (il (Po.C (el (el ((il r).getD ((il r).length - 1 : Int).toNat 0) * el iv : El p m mod).1) * (pol (il (pol b : Po (El p m mod))) : Po (El p m mod)))).length ≤ 1000000000 := by
      have := il_C_le (p := p) (m := m) (mod := mod) (el ((il r).getD ((il r).length - 1 : Int).toNat 0) * el iv : El p m mod).1 (il (pol b : Po (El p m mod)))
      omega
    have hlm : (il ((pol (il (Po.C (el (el ((il r).getD ((il r).length - 1 : Int).toNat 0) * el iv : El p m mod).1) * (pol (il (pol b : Po (El p m mod))) : Po (El p m mod)))) : Po (El p m mod)) * pol (powL ((il r).length - 1 - ((il (pol b : Po (El p m mod))).length - 1) : Int).toNat))).length ≤ 1000000 := by
      rw [pol_il, pol_powL, pol_il, il_length]
      refine Po.len_le (fun j hj => ?_)
      rw [Rg.mul_comm, Po.cf_mn_mul]
      split
      · rfl
      · rw [Rg.one_mul, Po.cf_C_mul, Po.cf_ge (by rw [← il_length]; omega), Fd.mul_zero]
    refine tr_draw [0, 1, 2, 3, 4, 5, 7, 6, 8, 9, 10, 11] [] mixed (by kernel_rfl) fun _ _ _ => ?_
    refine st rfl rfl rfl rfl (rLdS rfl rfl rfl) ?_
    refine pu rfl rfl rfl rfl rfl ?_
    refine st rfl rfl rfl rfl (rLdS rfl rfl rfl) ?_
    refine st rfl rfl rfl rfl (rLdS rfl rfl rfl) ?_
    iterate 3 refine pu rfl rfl rfl rfl rfl ?_
    refine ef rfl rfl (eCall1 rfl rfl rfl (ref_PScale _ _ _ _ _ _ B1 _ _ (il (pol b : Po (El p m mod))) rfl (by omega)) ⟨rfl, rfl, rfl, trivial⟩ ?_) 
    rintro _ _ ⟨Bs, cs_, rfl, rfl⟩
    refine ef rfl rfl (eCall1 rfl rfl rfl (ref_Power _ (by omega) (by omega)) ⟨rfl, trivial⟩ ?_) 
    rintro _ _ ⟨Bw, rfl, rfl⟩
    refine ef rfl rfl (eCall1 rfl rfl rfl (ref_PMul _ _ _ _ _ Bs _ _ _ rfl hls Bw _ _ _ rfl (by rw [powL_length]; omega)) ⟨rfl, rfl, rfl, trivial⟩ ?_) 
    rintro _ _ ⟨Bm, cm, rfl, rfl⟩
    refine ef rfl rfl (eCall1 rfl rfl rfl (ref_PSub _ _ _ _ _ Br _ _ _ rfl (by omega) Bm _ _ _ rfl hlm) ⟨rfl, rfl, rfl, trivial⟩ ?_) 
    rintro _ _ ⟨Bn, cn, rfl, rfl⟩
    refine pu rfl rfl rfl rfl rfl ?_
    have hr' : (pol (il r) : Po (El p m mod)) - pol (il ((pol (il (Po.C (el (el ((il r).getD ((il r).length - 1 : Int).toNat 0) * el iv : El p m mod).1) * (pol (il (pol b : Po (El p m mod))) : Po (El p m mod)))) : Po (El p m mod)) * pol (powL ((il r).length - 1 - ((il (pol b : Po (El p m mod))).length - 1) : Int).toNat))) = r - Po.mn (Po.cf r (Po.len r - 1) * Fd.inv (Po.lead (pol b : Po (El p m mod)))) (Po.len r - Po.len (pol b : Po (El p m mod))) * pol b := by
      rw [pol_il, pol_il, pol_il, pol_il, pol_powL, el_of, hiv2, il_getD, el_of]
      rw [show ((il r).length - 1 : Int).toNat = Po.len r - 1 by rw [il_length]; omega, show ((il r).length - 1 - ((il (pol b : Po (El p m mod))).length - 1) : Int).toNat = Po.len r - Po.len (pol b : Po (El p m mod)) by rw [il_length, il_length]; omega]
      have e := Po.mn_mul (Po.cf r (Po.len r - 1) * Fd.inv (Po.lead (pol b : Po (El p m mod)))) 1 0 (Po.len r - Po.len (pol b : Po (El p m mod)))
      rw [Rg.mul_one, Nat.zero_add] at e
      rw [← e]
      show r - Po.C _ * _ * _ = r - Po.C _ * _ * _
      grind
    rw [hr']
    refine ⟨r - Po.mn (Po.cf r (Po.len r - 1) * Fd.inv (Po.lead (pol b : Po (El p m mod)))) (Po.len r - Po.len (pol b : Po (El p m mod))) * pol b, Bn, cn, qo.set ((il r).length - 1 - ((il (pol b : Po (El p m mod))).length - 1) : Int).toNat (el ((il r).getD ((il r).length - 1 : Int).toNat 0) * el iv : El p m mod).1, ⟨rfl, rfl, rfl, rfl, rfl, rfl, rfl, rfl, trivial⟩, by first | exact cs _ _ | exact CSub.refl _, ?_⟩
    have hnn : ((il r).length - 1 - ((il (pol b : Po (El p m mod))).length - 1) : Int).toNat = Po.len r - Po.len (pol b : Po (El p m mod)) := by rw [il_length, il_length]; omega
    have hlr : (il r).length = Po.len r := il_length r
    have hlB : (il (pol b : Po (El p m mod))).length = Po.len (pol b : Po (El p m mod)) := il_length _
    have hsh := Po.div_step (f := r) h0 (n := Po.len r - Po.len (pol b : Po (El p m mod))) ((Po.len_sh r).mono (by omega))
    rw [show Po.len (pol b : Po (El p m mod)) + (Po.len r - Po.len (pol b : Po (El p m mod))) - 1 = Po.len r - 1 by omega] at hsh
    have hl2 := Po.len_le hsh
    have hl3 : (il (r - Po.mn (Po.cf r (Po.len r - 1) * Fd.inv (Po.lead (pol b : Po (El p m mod)))) (Po.len r - Po.len (pol b : Po (El p m mod))) * pol b)).length ≤ Po.len r - 1 := by rw [il_length]; exact hl2
    refine ⟨⟨⟨by simpa using hql, by omega⟩, ?_, fun j hj => ?_⟩, by omega⟩
    · rw [pol_set_add (d := Po.cf r (Po.len r - 1) * Fd.inv (Po.lead (pol b : Po (El p m mod)))) qo (by omega) (by
        rw [hz _ (by omega), el_zero, el_of, hiv2, il_getD, el_of, show ((il r).length - 1 : Int).toNat = Po.len r - 1 by omega]; grind), hnn]
      exact div_acc heq
    · rw [getD_set, if_neg (by omega)]; exact hz j (by omega)
  · try simp only [zb1, zb2, zb3, zb4, zb5, zb6, zb7, zb8, zb9, zb10] at h6
    refine tr_exit ?_
    refine tr_seq ?_
    refine tr_region fun _ _ _ => ?_
    refine st rfl rfl rfl rfl (rLdS rfl rfl rfl) ?_
    refine pu rfl rfl rfl rfl rfl ?_
    refine ef rfl rfl (eCall1 rfl rfl rfl (ref_CanonE _ _ _ _ _ _ _ _ qo (by omega) (by omega)) ⟨rfl, rfl, trivial⟩ ?_) 
    rintro _ _ ⟨B11, c11, rfl, rfl⟩
    iterate 3 refine pu rfl rfl rfl rfl rfl ?_
    have hd := Po.div_of heq (by rw [← il_length, ← il_length]; omega)
    rw [hd.1, hd.2]
    exact tr_ret ⟨trivial, _, _, rfl, ⟨_, _, rfl, B11, c11, Br, cr, rfl, rfl, rfl⟩, cs _ _, trivial, trivial, trivial⟩

theorem ref_PGcd_ent : Enters Tryz.prog 35 := enters_of Tryz.func35 (by kernel_rfl) (by kernel_rfl)
theorem ref_PGcd (p m : Int) (A : Option Addr) (c : Nat) (mod : List Int) [hF : IsF p m mod] (Xa : Option Addr) (na ca : Nat) (a : List Int) (hna : na = a.length) (ha9 : a.length ≤ 1000000) (Xb : Option Addr) (nb cb : Nat) (b : List Int) (hnb : nb = b.length) (hb9 : b.length ≤ 1000000) :
    Pure Tryz.prog 35 #[.agg #[.int .i64 p, .int .i64 m, .slice A mod.length c], .slice Xa na ca, .slice Xb nb cb] [ro A (ints mod), ro Xa (ints a), ro Xb (ints b)] (one (fun v ch => ∃ B cap, v = .slice B (il (Po.gcd (pol a : Po (El p m mod)) (pol b : Po (El p m mod)))).length cap ∧ ch = ow B 3 cap (ints (il (Po.gcd (pol a : Po (El p m mod)) (pol b : Po (El p m mod))))))) := by
  have hila := il_le (p := p) (m := m) (mod := mod) a
  have hilb := il_le (p := p) (m := m) (mod := mod) b
  refine pure_of (args := [.agg #[.int .i64 p, .int .i64 m, .slice A mod.length c], .slice Xa na ca, .slice Xb nb cb]) 30 Tryz.func35 rfl rfl rfl ref_PGcd_ent ⟨id, id, id, trivial⟩ (fun w0 => ?_)
  refine tr_seq ?_
  refine tr_region fun _ _ _ => ?_
  refine ef rfl rfl (eBox rfl rfl rfl rfl rfl (fun p0 => ?_)) 
  refine pu rfl rfl rfl rfl rfl ?_
  refine tr_seq ?_
  refine tr_region fun _ _ _ => ?_
  refine st rfl rfl rfl rfl (rLdS rfl rfl rfl) ?_
  refine pu rfl rfl rfl rfl rfl ?_
  refine ef rfl rfl (eCall1 rfl rfl rfl (ref_CanonE _ _ _ _ _ _ _ _ a hna (by omega)) ⟨rfl, rfl, trivial⟩ ?_) 
  rintro _ _ ⟨B1, c1, rfl, rfl⟩
  refine pu rfl rfl rfl rfl rfl ?_
  refine tr_seq ?_
  refine tr_region fun _ _ _ => ?_
  refine st rfl rfl rfl rfl (rLdS rfl rfl rfl) ?_
  refine pu rfl rfl rfl rfl rfl ?_
  refine ef rfl rfl (eCall1 rfl rfl rfl (ref_CanonE _ _ _ _ _ _ _ _ b hnb (by omega)) ⟨rfl, rfl, trivial⟩ ?_) 
  rintro _ _ ⟨B2, c2, rfl, rfl⟩
  refine pu rfl rfl rfl rfl rfl ?_
  refine tr_seq ?_
  refine tr_block ?_
  refine tr_loop6 (fun (f : Po (El p m mod)) (g : Po (El p m mod)) (Bf : Option Addr) (cf : Nat) (Bg : Option Addr) (cg : Nat) => [(1, .slice Bf (il f).length cf), (2, .slice Bg (il g).length cg), (3, .pointer (some p0)), (6, .slice none 0 0)]) (fun (f : Po (El p m mod)) (g : Po (El p m mod)) (Bf : Option Addr) (cf : Nat) (Bg : Option Addr) (cg : Nat) => [ow Bf 3 cf (ints (il f)), ow Bg 3 cg (ints (il g)), blk p0 24 [.int .i64 p, .int .i64 m, .slice A mod.length c], ro A (ints mod), ro Xa (ints a), ro Xb (ints b)]) (fun (f : Po (El p m mod)) (g : Po (El p m mod)) (Bf : Option Addr) (cf : Nat) (Bg : Option Addr) (cg : Nat) => Po.gcd f g = Po.gcd (pol a : Po (El p m mod)) (pol b : Po (El p m mod)) ∧ (il f).length ≤ 1000000 ∧ (il g).length ≤ 1000000) (fun (f : Po (El p m mod)) (g : Po (El p m mod)) (Bf : Option Addr) (cf : Nat) (Bg : Option Addr) (cg : Nat) => (il g).length) ((pol a : Po (El p m mod))) ((pol b : Po (El p m mod))) (B1) (c1) (B2) (c2) ⟨rfl, rfl, rfl, rfl, trivial⟩ (by first | exact cs _ _ | exact CSub.refl _) (⟨rfl, by omega, by omega⟩) (fun f g Bf cf Bg cg hI => ?_)
  obtain ⟨hgg, hfl, hgl⟩ := hI
  refine tr_seq ?_
  refine tr_seq ?_
  refine tr_region fun _ _ _ => ?_
  refine pu rfl rfl rfl rfl rfl ?_
  refine st rfl rfl rfl rfl (rLen rfl rfl) ?_
  refine pu rfl rfl rfl rfl rfl ?_
  refine tr_cond_bool rfl (fun h3 => ?_) (fun h3 => ?_)
  · try simp only [zb1, zb2, zb3, zb4, zb5, zb6, zb7, zb8, zb9, zb10] at h3
    refine tr_skip ?_
    refine tr_block ?_
    refine tr_seq ?_
    have hg0 : g ≠ 0 := Po.len_pos_iff.1 (by rw [← il_length]; omega)
    refine tr_region fun _ _ _ => ?_
    refine st rfl rfl rfl rfl (rLdS rfl rfl rfl) ?_
    iterate 2 refine pu rfl rfl rfl rfl rfl ?_
    refine ef rfl rfl (eCall2 rfl rfl rfl (ref_PDivMod _ _ _ _ _ Bf _ _ (il f) rfl hfl Bg _ _ (il g) rfl hgl (by rw [pol_il]; exact hg0)) ⟨rfl, rfl, rfl, trivial⟩ ?_) 
    rintro _ _ _ ⟨Bq, cq, Bn, cn, rfl, rfl, rfl⟩
    iterate 5 refine pu rfl rfl rfl rfl rfl ?_
    simp only [pol_il]
    refine tr_seq ?_
    refine tr_region fun _ _ _ => ?_
    iterate 2 refine pu rfl rfl rfl rfl rfl ?_
    refine tr_region fun _ _ _ => ?_
    iterate 2 refine pu rfl rfl rfl rfl rfl ?_
    refine ⟨g, Po.rem f g, Bg, cg, Bn, cn, ⟨rfl, rfl, rfl, rfl, trivial⟩, by first | exact cs _ _ | exact CSub.refl _, ?_⟩
    have hrl := Po.rem_len f hg0
    rw [← il_length, ← il_length] at hrl
    exact ⟨⟨by rw [← Po.gcd_step f hg0]; exact hgg, by omega, by omega⟩, by omega⟩
  · try simp only [zb1, zb2, zb3, zb4, zb5, zb6, zb7, zb8, zb9, zb10] at h3
    refine tr_exit ?_
    refine tr_seq ?_
    refine tr_region fun _ _ _ => ?_
    refine st rfl rfl rfl rfl (rLdS rfl rfl rfl) ?_
    refine pu rfl rfl rfl rfl rfl ?_
    refine ef rfl rfl (eCall1 rfl rfl rfl (ref_PMonic _ _ _ _ _ Bf _ _ (il f) rfl hfl) ⟨rfl, rfl, trivial⟩ ?_) 
    rintro _ _ ⟨Br, cr, rfl, rfl⟩
    refine pu rfl rfl rfl rfl rfl ?_
    simp only [pol_il]
    have hg0 : g = 0 := Po.eq_zero_of_len (by rw [← il_length]; omega)
    rw [hg0, Po.gcd_zero] at hgg
    rw [← hgg]
    exact tr_ret ⟨trivial, _, _, rfl, ⟨_, rfl, Br, cr, rfl, rfl⟩, cs _ _, trivial, trivial⟩

end Go.Proofs.YtjmojhflnjbgaaaGreat

set_option linter.unusedSimpArgs false
set_option linter.unusedVariables false
set_option maxRecDepth 100000
namespace Go.Proofs.YtjmojhflnjbgaaaGreat
open Go.RowKit









theorem cyc_shift_ent : Enters Tryz.prog 144 := enters_of Tryz.func144 (by kernel_rfl) (by kernel_rfl)
theorem cyc_shift (m : Int) (hm : 1 ≤ m) (hm9 : m ≤ 100000) (X : Option Addr) (nx cx : Nat) (l : List Int) (hnx : nx = l.length) (hl9 : l.length ≤ 100000) (hd : m.toNat ∣ l.length) :
    Pure Tryz.prog 144 #[.slice X nx cx, .int .i64 m] [ro X (ints l)] (one (fun v ch => ∃ B, v = .slice B l.length l.length ∧ ch = ow B 3 l.length (ints (shF m.toNat l)))) := by
  refine pure_of (args := [.slice X nx cx, .int .i64 m]) 37 Tryz.func144 rfl rfl rfl cyc_shift_ent ⟨id, trivial⟩ (fun w0 => ?_)
  refine tr_seq ?_
  refine tr_region fun _ _ _ => ?_
  refine pu rfl rfl rfl rfl rfl ?_
  refine tr_seq ?_
  subst hnx
  refine tr_region fun _ _ _ => ?_
  refine pu rfl rfl rfl rfl rfl ?_
  refine st rfl rfl rfl rfl (rLen rfl rfl) ?_
  refine ef rfl rfl (eMakeI rfl rfl rfl rfl rfl (by omega) (by omega) (by omega) (fun A1 => ?_)) 
  refine pu rfl rfl rfl rfl rfl ?_
  simp only [Int.toNat_natCast]
  refine tr_seq ?_
  refine tr_seq ?_
  refine tr_region fun _ _ _ => ?_
  refine pu rfl rfl rfl rfl rfl ?_
  refine st rfl rfl rfl rfl (rLen rfl rfl) ?_
  refine pu rfl rfl rfl rfl rfl ?_
  refine tr_block ?_
  refine tr_loop2 (fun (k : Int) (o : List Int) => [(5, .slice A1 l.length l.length), (12, .int .i64 l.length), (13, .int .i64 k), (0, .slice X l.length cx), (1, .int .i64 m), (4, .slice none 0 0)]) (fun (k : Int) (o : List Int) => [ow A1 3 l.length (ints o), ro X (ints l)]) (fun (k : Int) (o : List Int) => (0 ≤ k ∧ k ≤ l.length) ∧ o.length = l.length ∧ ∀ i : Nat, (i : Int) < k → o.getD (nxI m.toNat i) 0 = l.getD i 0) (fun (k : Int) (o : List Int) => (l.length - k).toNat) (0) (List.replicate l.length 0) ⟨rfl, rfl, rfl, rfl, rfl, rfl, trivial⟩ (by first | exact cs _ _ | exact CSub.refl _) (⟨⟨by omega, by omega⟩, by simp, fun j hj => by omega⟩) (fun k o hI => ?_)
  obtain ⟨⟨hk0, hk1⟩, hol, ho⟩ := hI
  refine tr_seq ?_
  refine tr_region fun _ _ _ => ?_
  refine pu rfl rfl rfl rfl rfl ?_
  refine tr_seq ?_
  refine tr_cond_bool rfl (fun h3 => ?_) (fun h3 => ?_)
  · try simp only [zb1, zb2, zb3, zb4, zb5, zb6, zb7, zb8, zb9, zb10] at h3
    refine tr_skip ?_
    refine tr_seq ?_
    refine tr_block ?_
    refine tr_seq ?_
    refine tr_region fun _ _ _ => ?_
    iterate 2 refine pu rfl rfl rfl rfl rfl ?_
    refine tr_seq ?_
    have hb0 : 0 ≤ k / m * m := Int.mul_nonneg (Int.ediv_nonneg hk0 (by omega)) (by omega)
    have hb1 : k / m * m ≤ k := Int.ediv_mul_le k (by omega)
    have hb2 := Int.emod_nonneg (k - k / m * m + 1) (show m ≠ 0 by omega)
    have hb3 := Int.emod_lt_of_pos (k - k / m * m + 1) (show 0 < m by omega)
    have hnx := nx_int hm hk0
    have hnl := nx_lt (m := m.toNat) (n := l.length) (i := k.toNat) (by omega) hd (by omega)
    refine tr_region fun _ _ _ => ?_
    iterate 2 refine pu rfl rfl rfl rfl rfl ?_
    refine st rfl rfl rfl rfl (rQuo rfl rfl rfl (by omega) (by omega)) ?_
    refine pu rfl rfl rfl rfl rfl ?_
    refine st rfl rfl rfl rfl (rMul rfl rfl rfl (by omega) (by omega)) ?_
    refine pu rfl rfl rfl rfl rfl ?_
    refine tr_draw [0, 1, 2, 3, 4, 5, 6, 7, 8, 9, 10, 11, 12, 13] [14] mixed (by kernel_rfl) fun _ _ _ => ?_
    iterate 4 refine pu rfl rfl rfl rfl rfl ?_
    refine st rfl rfl rfl rfl (rSub rfl rfl rfl (by omega) (by omega)) ?_
    refine st rfl rfl rfl rfl (rAdd rfl rfl rfl (by omega) (by omega)) ?_
    refine pu rfl rfl rfl rfl rfl ?_
    refine st rfl rfl rfl rfl (rRem rfl rfl rfl (by omega) (by omega)) ?_
    refine st rfl rfl rfl rfl (rAdd rfl rfl rfl (by omega) (by omega)) ?_
    iterate 2 refine pu rfl rfl rfl rfl rfl ?_
    refine st rfl rfl rfl rfl (rIdxI rfl rfl rfl (by omega) (by omega) (by omega)) ?_
    refine st rfl rfl rfl rfl (rLdI rfl rfl (by omega)) ?_
    refine st rfl rfl rfl rfl (rIdxI rfl rfl rfl (by omega) (by omega) (by omega)) ?_
    refine ef rfl rfl (eStI rfl rfl rfl rfl (by omega) ?_) 
    rw [hnx, Int.toNat_natCast]
    refine tr_region fun _ _ _ => ?_
    refine st rfl rfl rfl rfl (rAdd rfl rfl rfl (by omega) (by omega)) ?_
    refine pu rfl rfl rfl rfl rfl ?_
    refine ⟨k + 1, o.set (nxI m.toNat k.toNat) (l.getD k.toNat 0), ⟨rfl, rfl, rfl, rfl, rfl, rfl, trivial⟩, by first | exact cs _ _ | exact CSub.refl _, ?_⟩
    refine ⟨⟨⟨by omega, by omega⟩, by simpa using hol, fun i hi => ?_⟩, by omega⟩
    exact shF_step (m := m.toNat) (by omega) (hd) hol (by omega) (fun i hi => ho i (by omega)) (by omega)
  · try simp only [zb1, zb2, zb3, zb4, zb5, zb6, zb7, zb8, zb9, zb10] at h3
    refine tr_exit ?_
    refine tr_seq ?_
    refine tr_region fun _ _ _ => ?_
    iterate 2 refine pu rfl rfl rfl rfl rfl ?_
    have hfin : o = shF m.toNat l := shF_done (by omega) (hd) hol fun i hi => ho i (by omega)
    rw [← hfin]
    exact tr_ret ⟨trivial, _, _, rfl, ⟨_, rfl, A1, rfl, rfl⟩, cs _ _, trivial, trivial⟩



theorem cyc_closed_ent : Enters Tryz.prog 67 := enters_of Tryz.func67 (by kernel_rfl) (by kernel_rfl)
theorem cyc_closed (p m : Int) (A : Option Addr) (c : Nat) (mod : List Int) [hF : IsF p m mod] (w : Int) (Aa : Option Addr) (n ca : Nat) (rs : List RowM) (hn : n = rs.length) (h9 : rs.length ≤ 256) (hc : CodeOk p m mod w rs) (k : Int) (hk1 : 1 ≤ k) (hk9 : k ≤ 64) (hkd : k.toNat ∣ w.toNat) :
    Pure Tryz.prog 67 #[.agg #[.int .i64 p, .int .i64 m, .slice A mod.length c, .int .i64 w, .slice Aa n ca], .int .i64 k] [ro A (ints mod), ro Aa (hdrs rs), rowsR rs] (isV (.bool (closB p m mod k.toNat rs))) := by
  have hl9 := hF.short
  have hn1 := hc.n1
  have hn64 := hc.n64
  have hlen := hc.len
  have hgd := hc.good
  have h8 := hgd.h8 (N := 17592186044415) (by omega)
  have hck := hc.zero
  refine pure_of (args := [.agg #[.int .i64 p, .int .i64 m, .slice A mod.length c, .int .i64 w, .slice Aa n ca], .int .i64 k]) 27 Tryz.func67 rfl rfl rfl cyc_closed_ent ⟨id, id, id, trivial⟩ (fun w0 => ?_)
  refine tr_seq ?_
  refine tr_region fun _ _ _ => ?_
  refine ef rfl rfl (eBox rfl rfl rfl rfl rfl (fun p0 => ?_)) 
  refine pu rfl rfl rfl rfl rfl ?_
  refine tr_seq ?_
  refine tr_seq ?_
  refine tr_region fun _ _ _ => ?_
  refine st rfl rfl rfl rfl (rFld rfl rfl) ?_
  refine st rfl rfl rfl rfl (rLdF rfl rfl rfl) ?_
  refine st rfl rfl rfl rfl (rLen rfl rfl) ?_
  refine pu rfl rfl rfl rfl rfl ?_
  refine tr_block ?_
  refine tr_loop1 (fun (j : Int) => [(12, .int .i64 j), (1, .int .i64 k), (2, .pointer (some p0)), (10, .slice Aa n ca), (11, .int .i64 n)]) (fun (j : Int) => [blk p0 27 [.int .i64 p, .int .i64 m, .slice A mod.length c, .int .i64 w, .slice Aa n ca], ro A (ints mod), ro Aa (hdrs rs), rowsR rs]) (fun (j : Int) => (0 ≤ j ∧ j ≤ n) ∧ ∀ i : Nat, (i : Int) < j → memB p m mod rs (shF k.toNat (rs.getD i rowD).xs) = true) (fun (j : Int) => (n - j).toNat) (0) ⟨rfl, rfl, rfl, rfl, rfl, trivial⟩ (by first | exact cs _ _ | exact CSub.refl _) (⟨⟨by omega, by omega⟩, fun i hi => by omega⟩) (fun j hI => ?_)
  obtain ⟨⟨hj0, hj1⟩, hall⟩ := hI
  refine tr_seq ?_
  refine tr_region fun _ _ _ => ?_
  refine pu rfl rfl rfl rfl rfl ?_
  refine tr_seq ?_
  refine tr_cond_bool rfl (fun h2 => ?_) (fun h2 => ?_)
  · try simp only [zb1, zb2, zb3, zb4, zb5, zb6, zb7, zb8, zb9, zb10] at h2
    refine tr_skip ?_
    refine tr_seq ?_
    refine tr_block ?_
    refine tr_seq ?_
    have hgj := hgd.get (show j.toNat < rs.length by omega)
    haveI : InB j.toNat rs.length := ⟨by omega⟩
    have hgj1 := hgj.1
    have hgj2 := hgj.2
    refine tr_region fun _ _ _ => ?_
    refine st rfl rfl rfl rfl (rIdxR rfl rfl rfl (by omega) (by omega) (by omega)) ?_
    refine st rfl rfl rfl rfl (rLdR rfl rfl (by omega)) ?_
    refine pu rfl rfl rfl rfl rfl ?_
    refine tr_seq ?_
    refine tr_draw [0, 1, 2, 3, 4, 5, 6, 7, 8, 9] [] mixed (by kernel_rfl) fun _ _ _ => ?_
    refine st rfl rfl rfl rfl (rLdS rfl rfl rfl) ?_
    iterate 2 refine pu rfl rfl rfl rfl rfl ?_
    refine ef rfl rfl (eCall1 rfl rfl rfl (cyc_shift k hk1 (by omega) _ _ _ (rs.getD j.toNat rowD).xs rfl (by omega) (by rw [hgj1]; exact hkd)) ⟨rfl, rfl, trivial⟩ ?_) 
    rintro _ _ ⟨B4, rfl, rfl⟩
    refine ef rfl rfl (eCallV rfl rfl rfl (code_Has _ _ _ _ _ w Aa n ca rs hn h9 hc B4 _ _ (shF k.toNat (rs.getD j.toNat rowD).xs) (shF_length _ _).symm (by rw [shF_length]; omega) (shF_in (by have := hF.q2; omega) hgj2)) ⟨rfl, rfl, trivial⟩ ?_) 
    iterate 5 refine pu rfl rfl rfl rfl rfl ?_
    refine tr_seq ?_
    refine tr_region fun _ _ _ => ?_
    refine pu rfl rfl rfl rfl rfl ?_
    refine st rfl rfl rfl rfl (rNotB rfl rfl) ?_
    refine tr_cond_bool rfl (fun h5 => ?_) (fun h5 => ?_)
    · try simp only [zb1, zb2, zb3, zb4, zb5, zb6, zb7, zb8, zb9, zb10] at h5
      refine tr_seq ?_
      refine tr_region fun _ _ _ => ?_
      refine pu rfl rfl rfl rfl rfl ?_
      have hno := closB_no (p := p) (m := m) (mod := mod) (k := k.toNat) (show j.toNat < rs.length by omega) (by simpa using h5)
      exact tr_ret ⟨trivial, _, _, rfl, ⟨by rw [hno], rfl⟩, CSub.nil _, trivial⟩
    · try simp only [zb1, zb2, zb3, zb4, zb5, zb6, zb7, zb8, zb9, zb10] at h5
      refine tr_skip ?_
      refine tr_region fun _ _ _ => ?_
      refine st rfl rfl rfl rfl (rAdd rfl rfl rfl (by omega) (by omega)) ?_
      refine pu rfl rfl rfl rfl rfl ?_
      refine ⟨j + 1, ⟨rfl, rfl, rfl, rfl, rfl, trivial⟩, by first | exact cs _ _ | exact CSub.refl _, ?_⟩
      refine ⟨⟨⟨by omega, by omega⟩, fun i hi => ?_⟩, by omega⟩
      by_cases he : (i : Int) = j
      · have : i = j.toNat := by omega
        subst this; simpa using h5
      · exact hall i (by omega)
  · try simp only [zb1, zb2, zb3, zb4, zb5, zb6, zb7, zb8, zb9, zb10] at h2
    refine tr_exit ?_
    refine tr_seq ?_
    refine tr_region fun _ _ _ => ?_
    refine pu rfl rfl rfl rfl rfl ?_
    have hyes := closB_all (p := p) (m := m) (mod := mod) (k := k.toNat) (rs := rs) (fun i hi => hall i (by omega))
    exact tr_ret ⟨trivial, _, _, rfl, ⟨by rw [hyes], rfl⟩, CSub.nil _, trivial⟩


theorem cyc_IsE_ent : Enters Tryz.prog 18 := enters_of Tryz.func18 (by kernel_rfl) (by kernel_rfl)
theorem cyc_IsE (p m : Int) (A : Option Addr) (c : Nat) (mod : List Int) (hl9 : mod.length ≤ 17592186044415) (w : Int) (Aa : Option Addr) (n ca : Nat) (rs : List RowM) (hn : n = rs.length) (h9 : rs.length ≤ 17592186044415) (h8 : ∀ r ∈ rs, r.xs.length ≤ 17592186044415) (he : codC p m mod w rs ≠ 0) :
    Pure Tryz.prog 18 #[.agg #[.int .i64 p, .int .i64 m, .slice A mod.length c, .int .i64 w, .slice Aa n ca]] [ro A (ints mod), ro Aa (hdrs rs), rowsR rs] (isV (.tuple #[.bool false, .int .i64 (codC p m mod w rs)])) := by
  refine pure_of (args := [.agg #[.int .i64 p, .int .i64 m, .slice A mod.length c, .int .i64 w, .slice Aa n ca]]) 14 Tryz.func18 rfl rfl rfl cyc_IsE_ent ⟨id, id, id, trivial⟩ (fun w0 => ?_)
  refine tr_seq ?_
  refine tr_region fun _ _ _ => ?_
  refine ef rfl rfl (eBox rfl rfl rfl rfl rfl (fun p0 => ?_)) 
  iterate 2 refine pu rfl rfl rfl rfl rfl ?_
  refine tr_seq ?_
  refine tr_seq ?_
  refine tr_region fun _ _ _ => ?_
  refine st rfl rfl rfl rfl (rLdS rfl rfl rfl) ?_
  refine ef rfl rfl (eCallV rfl rfl rfl (code_Check _ _ _ _ _ hl9 w Aa _ ca rs hn h9 h8) ⟨rfl, trivial⟩ ?_) 
  refine pu rfl rfl rfl rfl rfl ?_
  refine tr_seq ?_
  refine tr_region fun _ _ _ => ?_
  iterate 2 refine pu rfl rfl rfl rfl rfl ?_
  refine tr_cond_bool rfl (fun h2 => ?_) (fun h2 => ?_)
  · try simp only [zb1, zb2, zb3, zb4, zb5, zb6, zb7, zb8, zb9, zb10] at h2
    refine tr_seq ?_
    refine tr_region fun _ _ _ => ?_
    iterate 3 refine pu rfl rfl rfl rfl rfl ?_
    exact tr_ret ⟨trivial, _, _, rfl, ⟨rfl, rfl⟩, CSub.nil _, trivial⟩
  · try simp only [zb1, zb2, zb3, zb4, zb5, zb6, zb7, zb8, zb9, zb10] at h2
    omega --done

theorem cyc_Is_ent : Enters Tryz.prog 18 := enters_of Tryz.func18 (by kernel_rfl) (by kernel_rfl)
theorem cyc_Is (p m : Int) (A : Option Addr) (c : Nat) (mod : List Int) [hF : IsF p m mod] (w : Int) (Aa : Option Addr) (n ca : Nat) (rs : List RowM) (hn : n = rs.length) (h9 : rs.length ≤ 256) (hc : CodeOk p m mod w rs) :
    Pure Tryz.prog 18 #[.agg #[.int .i64 p, .int .i64 m, .slice A mod.length c, .int .i64 w, .slice Aa n ca]] [ro A (ints mod), ro Aa (hdrs rs), rowsR rs] (isV (.tuple #[.bool (closB p m mod w.toNat rs), .int .i64 0])) := by
  have hl9 := hF.short
  have hn1 := hc.n1
  have hn64 := hc.n64
  have hlen := hc.len
  have hgd := hc.good
  have h8 := hgd.h8 (N := 17592186044415) (by omega)
  have hck := hc.zero
  refine pure_of (args := [.agg #[.int .i64 p, .int .i64 m, .slice A mod.length c, .int .i64 w, .slice Aa n ca]]) 14 Tryz.func18 rfl rfl rfl cyc_Is_ent ⟨id, id, id, trivial⟩ (fun w0 => ?_)
  refine tr_seq ?_
  refine tr_region fun _ _ _ => ?_
  refine ef rfl rfl (eBox rfl rfl rfl rfl rfl (fun p0 => ?_)) 
  iterate 2 refine pu rfl rfl rfl rfl rfl ?_
  refine tr_seq ?_
  refine tr_seq ?_
  refine tr_region fun _ _ _ => ?_
  refine st rfl rfl rfl rfl (rLdS rfl rfl rfl) ?_
  refine ef rfl rfl (eCallV rfl rfl rfl (code_Check _ _ _ _ _ (by omega) w Aa _ ca rs hn (by omega) h8) ⟨rfl, trivial⟩ ?_) 
  refine pu rfl rfl rfl rfl rfl ?_
  refine tr_seq ?_
  refine tr_region fun _ _ _ => ?_
  iterate 2 refine pu rfl rfl rfl rfl rfl ?_
  refine tr_cond_bool rfl (fun h2 => ?_) (fun h2 => ?_)
  · try simp only [zb1, zb2, zb3, zb4, zb5, zb6, zb7, zb8, zb9, zb10] at h2
    omega --done
  · try simp only [zb1, zb2, zb3, zb4, zb5, zb6, zb7, zb8, zb9, zb10] at h2
    refine tr_skip ?_
    refine tr_seq ?_
    refine tr_region fun _ _ _ => ?_
    refine st rfl rfl rfl rfl (rLdS rfl rfl rfl) ?_
    refine st rfl rfl rfl rfl (rFld rfl rfl) ?_
    refine st rfl rfl rfl rfl (rLdF rfl rfl rfl) ?_
    refine ef rfl rfl (eCallV rfl rfl rfl (cyc_closed _ _ _ _ _ w Aa n ca rs hn h9 hc w hn1 hn64 (Nat.dvd_refl _)) ⟨rfl, rfl, trivial⟩ ?_) 
    iterate 2 refine pu rfl rfl rfl rfl rfl ?_
    exact tr_ret ⟨trivial, _, _, rfl, ⟨rfl, rfl⟩, CSub.nil _, trivial⟩

end Go.Proofs.YtjmojhflnjbgaaaGreat

set_option linter.unusedSimpArgs false
set_option linter.unusedVariables false
set_option maxRecDepth 100000
namespace Go.Proofs.YtjmojhflnjbgaaaGreat
open Go.RowKit

theorem cyc_partsE_ent : Enters Tryz.prog 68 := enters_of Tryz.func68 (by kernel_rfl) (by kernel_rfl)
theorem cyc_partsE (p m : Int) (A : Option Addr) (c : Nat) (mod : List Int) (hl9 : mod.length ≤ 17592186044415) (w : Int) (Aa : Option Addr) (n ca : Nat) (rs : List RowM) (hn : n = rs.length) (h9 : rs.length ≤ 17592186044415) (h8 : ∀ r ∈ rs, r.xs.length ≤ 17592186044415) (he : codC p m mod w rs ≠ 0) :
    Pure Tryz.prog 68 #[.agg #[.int .i64 p, .int .i64 m, .slice A mod.length c, .int .i64 w, .slice Aa n ca]] [ro A (ints mod), ro Aa (hdrs rs), rowsR rs] (isV (.tuple #[.pointer none, .slice none 0 0, .slice none 0 0, .int .i64 (codC p m mod w rs)])) := by
  refine pure_of (args := [.agg #[.int .i64 p, .int .i64 m, .slice A mod.length c, .int .i64 w, .slice Aa n ca]]) 61 Tryz.func68 rfl rfl rfl cyc_partsE_ent ⟨id, id, id, trivial⟩ (fun w0 => ?_)
  refine tr_seq ?_
  refine tr_region fun _ _ _ => ?_
  refine ef rfl rfl (eBox rfl rfl rfl rfl rfl (fun p0 => ?_)) 
  iterate 4 refine pu rfl rfl rfl rfl rfl ?_
  refine tr_seq ?_
  refine tr_region fun _ _ _ => ?_
  refine st rfl rfl rfl rfl (rLdS rfl rfl rfl) ?_
  refine ef rfl rfl (eCallV rfl rfl rfl (cyc_IsE p m A c mod hl9 w Aa n ca rs hn h9 h8 he) ⟨rfl, trivial⟩ ?_) 
  iterate 5 refine pu rfl rfl rfl rfl rfl ?_
  refine tr_seq ?_
  refine tr_seq ?_
  refine tr_region fun _ _ _ => ?_
  iterate 2 refine pu rfl rfl rfl rfl rfl ?_
  refine tr_cond_bool rfl (fun h2 => ?_) (fun h2 => ?_)
  · try simp only [zb1, zb2, zb3, zb4, zb5, zb6, zb7, zb8, zb9, zb10] at h2
    refine tr_seq ?_
    refine tr_region fun _ _ _ => ?_
    iterate 5 refine pu rfl rfl rfl rfl rfl ?_
    exact tr_ret ⟨trivial, _, _, rfl, ⟨rfl, rfl⟩, CSub.nil _, trivial⟩
  · try simp only [zb1, zb2, zb3, zb4, zb5, zb6, zb7, zb8, zb9, zb10] at h2
    omega --done

theorem cyc_partsN_ent : Enters Tryz.prog 68 := enters_of Tryz.func68 (by kernel_rfl) (by kernel_rfl)
theorem cyc_partsN (p m : Int) (A : Option Addr) (c : Nat) (mod : List Int) [hF : IsF p m mod] (w : Int) (Aa : Option Addr) (n ca : Nat) (rs : List RowM) (hn : n = rs.length) (h9 : rs.length ≤ 256) (hc : CodeOk p m mod w rs) (hcl : closB p m mod w.toNat rs = false) :
    Pure Tryz.prog 68 #[.agg #[.int .i64 p, .int .i64 m, .slice A mod.length c, .int .i64 w, .slice Aa n ca]] [ro A (ints mod), ro Aa (hdrs rs), rowsR rs] (isV (.tuple #[.pointer none, .slice none 0 0, .slice none 0 0, .int .i64 5])) := by
  have hl9 := hF.short
  have hn1 := hc.n1
  have hn64 := hc.n64
  have hlen := hc.len
  have hgd := hc.good
  have h8 := hgd.h8 (N := 17592186044415) (by omega)
  have hck := hc.zero
  refine pure_of (args := [.agg #[.int .i64 p, .int .i64 m, .slice A mod.length c, .int .i64 w, .slice Aa n ca]]) 61 Tryz.func68 rfl rfl rfl cyc_partsN_ent ⟨id, id, id, trivial⟩ (fun w0 => ?_)
  refine tr_seq ?_
  refine tr_region fun _ _ _ => ?_
  refine ef rfl rfl (eBox rfl rfl rfl rfl rfl (fun p0 => ?_)) 
  iterate 4 refine pu rfl rfl rfl rfl rfl ?_
  refine tr_seq ?_
  refine tr_region fun _ _ _ => ?_
  refine st rfl rfl rfl rfl (rLdS rfl rfl rfl) ?_
  refine ef rfl rfl (eCallV rfl rfl rfl (cyc_Is _ _ _ _ _ w Aa n ca rs hn h9 hc) ⟨rfl, trivial⟩ ?_) 
  iterate 5 refine pu rfl rfl rfl rfl rfl ?_
  refine tr_seq ?_
  refine tr_seq ?_
  refine tr_region fun _ _ _ => ?_
  iterate 2 refine pu rfl rfl rfl rfl rfl ?_
  refine tr_cond_bool rfl (fun h2 => ?_) (fun h2 => ?_)
  · try simp only [zb1, zb2, zb3, zb4, zb5, zb6, zb7, zb8, zb9, zb10] at h2
    first | exact absurd trivial h2 | exact absurd rfl h2 | omega | (exact absurd h2 (by simp)) --done
  · try simp only [zb1, zb2, zb3, zb4, zb5, zb6, zb7, zb8, zb9, zb10] at h2
    refine tr_skip ?_
    refine tr_seq ?_
    refine tr_seq ?_
    refine tr_region fun _ _ _ => ?_
    refine pu rfl rfl rfl rfl rfl ?_
    refine st rfl rfl rfl rfl (rNotB rfl rfl) ?_
    refine tr_cond_bool rfl (fun h4 => ?_) (fun h4 => ?_)
    · try simp only [zb1, zb2, zb3, zb4, zb5, zb6, zb7, zb8, zb9, zb10] at h4
      refine tr_seq ?_
      refine tr_region fun _ _ _ => ?_
      iterate 4 refine pu rfl rfl rfl rfl rfl ?_
      exact tr_ret ⟨trivial, _, _, rfl, ⟨rfl, rfl⟩, CSub.nil _, trivial⟩
    · try simp only [zb1, zb2, zb3, zb4, zb5, zb6, zb7, zb8, zb9, zb10] at h4
      rw [hcl] at h4; simp at h4 --done

theorem cyc_parts_ent : Enters Tryz.prog 68 := enters_of Tryz.func68 (by kernel_rfl) (by kernel_rfl)
theorem cyc_parts (p m : Int) (A : Option Addr) (c : Nat) (mod : List Int) [hF : IsF p m mod] (w : Int) (Aa : Option Addr) (n ca : Nat) (rs : List RowM) (hn : n = rs.length) (h9 : rs.length ≤ 256) (hc : CodeOk p m mod w rs) (hcl : closB p m mod w.toNat rs = true) :
    Pure Tryz.prog 68 #[.agg #[.int .i64 p, .int .i64 m, .slice A mod.length c, .int .i64 w, .slice Aa n ca]] [ro A (ints mod), ro Aa (hdrs rs), rowsR rs] (three (fun v c1 c2 c3 => ∃ (g : GfM) (Bg : Option Addr) (cg : Nat) (Bq : Option Addr) (cq : Nat), v = .tuple #[.pointer (some g.p), .slice Bg (il (genP p m mod w.toNat (xss rs))).length cg, .slice Bq (il (Po.quo (xn1 w.toNat : Po (El p m mod)) (genP p m mod w.toNat (xss rs)))).length cq, .int .i64 0] ∧ c1 = gfN g ∧ c2 = rx Bg (ints (il (genP p m mod w.toNat (xss rs)))) ∧ c3 = ow Bq 3 cq (ints (il (Po.quo (xn1 w.toNat : Po (El p m mod)) (genP p m mod w.toNat (xss rs))))) ∧ GOk g p m mod)) := by
  have hl9 := hF.short
  have hn1 := hc.n1
  have hn64 := hc.n64
  have hlen := hc.len
  have hgd := hc.good
  have h8 := hgd.h8 (N := 17592186044415) (by omega)
  have hck := hc.zero
  refine pure_of (args := [.agg #[.int .i64 p, .int .i64 m, .slice A mod.length c, .int .i64 w, .slice Aa n ca]]) 61 Tryz.func68 rfl rfl rfl cyc_parts_ent ⟨id, id, id, trivial⟩ (fun w0 => ?_)
  refine tr_seq ?_
  refine tr_region fun _ _ _ => ?_
  refine ef rfl rfl (eBox rfl rfl rfl rfl rfl (fun p0 => ?_)) 
  iterate 4 refine pu rfl rfl rfl rfl rfl ?_
  refine tr_seq ?_
  refine tr_region fun _ _ _ => ?_
  refine st rfl rfl rfl rfl (rLdS rfl rfl rfl) ?_
  refine ef rfl rfl (eCallV rfl rfl rfl (cyc_Is _ _ _ _ _ w Aa n ca rs hn h9 hc) ⟨rfl, trivial⟩ ?_) 
  iterate 5 refine pu rfl rfl rfl rfl rfl ?_
  refine tr_seq ?_
  refine tr_seq ?_
  refine tr_region fun _ _ _ => ?_
  iterate 2 refine pu rfl rfl rfl rfl rfl ?_
  refine tr_cond_bool rfl (fun h2 => ?_) (fun h2 => ?_)
  · try simp only [zb1, zb2, zb3, zb4, zb5, zb6, zb7, zb8, zb9, zb10] at h2
    first | exact absurd trivial h2 | exact absurd rfl h2 | omega | (exact absurd h2 (by simp)) --done
  · try simp only [zb1, zb2, zb3, zb4, zb5, zb6, zb7, zb8, zb9, zb10] at h2
    refine tr_skip ?_
    refine tr_seq ?_
    refine tr_seq ?_
    refine tr_region fun _ _ _ => ?_
    refine pu rfl rfl rfl rfl rfl ?_
    refine st rfl rfl rfl rfl (rNotB rfl rfl) ?_
    refine tr_cond_bool rfl (fun h4 => ?_) (fun h4 => ?_)
    · try simp only [zb1, zb2, zb3, zb4, zb5, zb6, zb7, zb8, zb9, zb10] at h4
      rw [hcl] at h4; simp at h4 --done
    · try simp only [zb1, zb2, zb3, zb4, zb5, zb6, zb7, zb8, zb9, zb10] at h4
      refine tr_skip ?_
      refine tr_seq ?_
      refine tr_region fun _ _ _ => ?_
      refine st rfl rfl rfl rfl (rFld rfl rfl) ?_
      refine st rfl rfl rfl rfl (rLdSF rfl rfl) ?_
      refine ef rfl rfl (eCall1 rfl rfl rfl (fld_New_ok _ _ _ _ _ (by omega) hF.out) ⟨rfl, trivial⟩ ?_) 
      rintro _ _ ⟨g, rfl, rfl, hg⟩
      iterate 5 refine pu rfl rfl rfl rfl rfl ?_
      refine tr_seq ?_
      refine tr_region fun _ _ _ => ?_
      refine pu rfl rfl rfl rfl rfl ?_
      refine st rfl rfl rfl rfl (rFld rfl rfl) ?_
      refine st rfl rfl rfl rfl (rLdF rfl rfl rfl) ?_
      refine ef rfl rfl (eCall1 rfl rfl rfl (cyc_around g hg w hn1 (by omega)) ⟨rfl, rfl, trivial⟩ ?_) 
      rintro _ _ ⟨B7, rfl, rfl⟩
      refine pu rfl rfl rfl rfl rfl ?_
      rw [around_il (show 1 ≤ w.toNat by omega)]
      have hxl : (il (xn1 w.toNat : Po (El p m mod))).length ≤ 17592186044415 := by rw [il_length, xn1_len (by omega)]; omega
      refine tr_seq ?_
      refine tr_region fun _ _ _ => ?_
      iterate 2 refine pu rfl rfl rfl rfl rfl ?_
      refine tr_seq ?_
      refine tr_seq ?_
      refine tr_region fun _ _ _ => ?_
      refine st rfl rfl rfl rfl (rFld rfl rfl) ?_
      refine st rfl rfl rfl rfl (rLdF rfl rfl rfl) ?_
      refine st rfl rfl rfl rfl (rLen rfl rfl) ?_
      refine pu rfl rfl rfl rfl rfl ?_
      refine tr_block ?_
      refine tr_loop3 (fun (j : Int) (Bg : Option Addr) (cg : Nat) => [(11, .slice Bg (il (genP p m mod w.toNat ((xss rs).take j.toNat))).length cg), (10, .slice B7 (il (xn1 w.toNat : Po (El p m mod))).length (il (xn1 w.toNat : Po (El p m mod))).length), (39, .slice Aa n ca), (40, .int .i64 n), (41, .int .i64 j), (2, .pointer none), (3, .slice none 0 0), (4, .slice none 0 0), (5, .int .i64 0), (8, .pointer (some g.p))]) (fun (j : Int) (Bg : Option Addr) (cg : Nat) => [rr Bg (ints (il (genP p m mod w.toNat ((xss rs).take j.toNat)))) B7 (ints (il (xn1 w.toNat : Po (El p m mod)))), gfN g, blk p0 27 [.int .i64 p, .int .i64 m, .slice A mod.length c, .int .i64 w, .slice Aa n ca], ro A (ints mod), ro Aa (hdrs rs), rowsR rs]) (fun (j : Int) (Bg : Option Addr) (cg : Nat) => 0 ≤ j ∧ j ≤ n) (fun (j : Int) (Bg : Option Addr) (cg : Nat) => (n - j).toNat) (0) (B7) ((il (xn1 w.toNat : Po (El p m mod))).length) ⟨rfl, rfl, rfl, rfl, rfl, rfl, rfl, rfl, rfl, rfl, trivial⟩ (by rw [Int.toNat_zero, List.take_zero, genP_nil]; exact (rr_of _).trans (cs _ _)) (by omega) (fun j Bg cg hI => ?_)
      obtain ⟨hj0, hj1⟩ := hI
      have hfl := genP_len (p := p) (m := m) (mod := mod) (n := w.toNat) (by omega) ((xss rs).take j.toNat)
      rw [← il_length] at hfl
      have hfn := genP_ne (p := p) (m := m) (mod := mod) (n := w.toNat) (by omega) ((xss rs).take j.toNat)
      refine tr_seq ?_
      refine tr_region fun _ _ _ => ?_
      refine pu rfl rfl rfl rfl rfl ?_
      refine tr_seq ?_
      refine tr_cond_bool rfl (fun h10 => ?_) (fun h10 => ?_)
      · try simp only [zb1, zb2, zb3, zb4, zb5, zb6, zb7, zb8, zb9, zb10] at h10
        refine tr_skip ?_
        refine tr_seq ?_
        refine tr_block ?_
        refine tr_seq ?_
        have hgj := hgd.get (show j.toNat < rs.length by omega)
        haveI : InB j.toNat rs.length := ⟨by omega⟩
        have hgj1 := hgj.1
        have hgj2 := hgj.2
        refine tr_region fun _ _ _ => ?_
        refine st rfl rfl rfl rfl (rIdxR rfl rfl rfl (by omega) (by omega) (by omega)) ?_
        refine st rfl rfl rfl rfl (rLdR rfl rfl (by omega)) ?_
        refine pu rfl rfl rfl rfl rfl ?_
        refine tr_region fun _ _ _ => ?_
        iterate 3 refine pu rfl rfl rfl rfl rfl ?_
        refine ef rfl rfl (eCall1 rfl rfl rfl (poly_Gcd g hg Bg _ _ (il (genP p m mod w.toNat ((xss rs).take j.toNat))) rfl (by omega) _ _ _ (rs.getD j.toNat rowD).xs rfl (by omega) (.inl (by rw [pol_il]; exact hfn))) ⟨rfl, rfl, rfl, trivial⟩ ?_) 
        rintro _ _ ⟨Bn, cn, rfl, rfl⟩
        refine pu rfl rfl rfl rfl rfl ?_
        have htk : (xss rs).take (j + 1).toNat = (xss rs).take j.toNat ++ [(rs.getD j.toNat rowD).xs] := by
          rw [show (j + 1).toNat = j.toNat + 1 by omega, List.take_add_one, List.getElem?_eq_getElem (show j.toNat < (xss rs).length by rw [xss_length]; omega)]
          have := xss_getD rs j.toNat
          rw [List.getD_eq_getElem?_getD, List.getElem?_eq_getElem (show j.toNat < (xss rs).length by rw [xss_length]; omega)] at this
          rw [← this]; rfl
        rw [pol_il, ← genP_snoc, ← htk]
        refine tr_region fun _ _ _ => ?_
        refine st rfl rfl rfl rfl (rAdd rfl rfl rfl (by omega) (by omega)) ?_
        refine pu rfl rfl rfl rfl rfl ?_
        refine ⟨j + 1, Bn, cn, ⟨rfl, rfl, rfl, rfl, rfl, rfl, rfl, rfl, rfl, rfl, trivial⟩, by exact rr_step _, ?_⟩
        exact ⟨⟨by omega, by omega⟩, by omega⟩
      · try simp only [zb1, zb2, zb3, zb4, zb5, zb6, zb7, zb8, zb9, zb10] at h10
        refine tr_exit ?_
        refine tr_seq ?_
        have hjn : (xss rs).take j.toNat = xss rs := List.take_of_length_le (by rw [xss_length]; omega)
        rw [hjn] at hfl hfn ⊢
        refine tr_region fun _ _ _ => ?_
        iterate 3 refine pu rfl rfl rfl rfl rfl ?_
        refine ef rfl rfl (eCall2 rfl rfl rfl (poly_DivMod g hg B7 _ _ (il (xn1 w.toNat : Po (El p m mod))) rfl hxl Bg _ _ (il (genP p m mod w.toNat (xss rs))) rfl (by omega) (by rw [pol_il]; exact hfn)) ⟨rfl, rfl, rfl, trivial⟩ ?_) 
        rintro _ _ _ ⟨Bq, cq, Br, cr, rfl, rfl, rfl⟩
        iterate 7 refine pu rfl rfl rfl rfl rfl ?_
        simp only [pol_il]
        refine tr_seq ?_
        refine tr_region fun _ _ _ => ?_
        iterate 7 refine pu rfl rfl rfl rfl rfl ?_
        exact tr_ret ⟨trivial, _, _, rfl, ⟨_, _, _, rfl, g, Bg, cg, Bq, cq, rfl, rfl, rfl, rfl, hg⟩, (cs _ [rr Bg (ints (il (genP p m mod w.toNat (xss rs)))) B7 (ints (il (xn1 w.toNat : Po (El p m mod)))), gfN g, ow Bq 3 cq (ints (il (Po.quo (xn1 w.toNat : Po (El p m mod)) (genP p m mod w.toNat (xss rs)))))]).trans ((rr_fst _).trans (cs _ _)), gfO_excl _ _ _, trivial, trivial, trivial⟩

theorem cyc_GenE_ent : Enters Tryz.prog 19 := enters_of Tryz.func19 (by kernel_rfl) (by kernel_rfl)
theorem cyc_GenE (p m : Int) (A : Option Addr) (c : Nat) (mod : List Int) (hl9 : mod.length ≤ 17592186044415) (w : Int) (Aa : Option Addr) (n ca : Nat) (rs : List RowM) (hn : n = rs.length) (h9 : rs.length ≤ 17592186044415) (h8 : ∀ r ∈ rs, r.xs.length ≤ 17592186044415) (he : codC p m mod w rs ≠ 0) :
    Pure Tryz.prog 19 #[.agg #[.int .i64 p, .int .i64 m, .slice A mod.length c, .int .i64 w, .slice Aa n ca]] [ro A (ints mod), ro Aa (hdrs rs), rowsR rs] (isV (.tuple #[.slice none 0 0, .int .i64 (codC p m mod w rs)])) := by
  refine pure_of (args := [.agg #[.int .i64 p, .int .i64 m, .slice A mod.length c, .int .i64 w, .slice Aa n ca]]) 17 Tryz.func19 rfl rfl rfl cyc_GenE_ent ⟨id, id, id, trivial⟩ (fun w0 => ?_)
  refine tr_seq ?_
  refine tr_region fun _ _ _ => ?_
  refine ef rfl rfl (eBox rfl rfl rfl rfl rfl (fun p0 => ?_)) 
  iterate 2 refine pu rfl rfl rfl rfl rfl ?_
  refine tr_seq ?_
  refine tr_region fun _ _ _ => ?_
  refine st rfl rfl rfl rfl (rLdS rfl rfl rfl) ?_
  refine ef rfl rfl (eCallV rfl rfl rfl (cyc_partsE p m A c mod hl9 w Aa n ca rs hn h9 h8 he) ⟨rfl, trivial⟩ ?_) 
  iterate 9 refine pu rfl rfl rfl rfl rfl ?_
  refine tr_seq ?_
  refine tr_region fun _ _ _ => ?_
  iterate 4 refine pu rfl rfl rfl rfl rfl ?_
  exact tr_ret ⟨trivial, _, _, rfl, ⟨rfl, rfl⟩, CSub.nil _, trivial⟩

theorem cyc_GenN_ent : Enters Tryz.prog 19 := enters_of Tryz.func19 (by kernel_rfl) (by kernel_rfl)
theorem cyc_GenN (p m : Int) (A : Option Addr) (c : Nat) (mod : List Int) [hF : IsF p m mod] (w : Int) (Aa : Option Addr) (n ca : Nat) (rs : List RowM) (hn : n = rs.length) (h9 : rs.length ≤ 256) (hc : CodeOk p m mod w rs) (hcl : closB p m mod w.toNat rs = false) :
    Pure Tryz.prog 19 #[.agg #[.int .i64 p, .int .i64 m, .slice A mod.length c, .int .i64 w, .slice Aa n ca]] [ro A (ints mod), ro Aa (hdrs rs), rowsR rs] (isV (.tuple #[.slice none 0 0, .int .i64 5])) := by
  refine pure_of (args := [.agg #[.int .i64 p, .int .i64 m, .slice A mod.length c, .int .i64 w, .slice Aa n ca]]) 17 Tryz.func19 rfl rfl rfl cyc_GenN_ent ⟨id, id, id, trivial⟩ (fun w0 => ?_)
  refine tr_seq ?_
  refine tr_region fun _ _ _ => ?_
  refine ef rfl rfl (eBox rfl rfl rfl rfl rfl (fun p0 => ?_)) 
  iterate 2 refine pu rfl rfl rfl rfl rfl ?_
  refine tr_seq ?_
  refine tr_region fun _ _ _ => ?_
  refine st rfl rfl rfl rfl (rLdS rfl rfl rfl) ?_
  refine ef rfl rfl (eCallV rfl rfl rfl (cyc_partsN _ _ _ _ _ w Aa n ca rs hn h9 hc hcl) ⟨rfl, trivial⟩ ?_) 
  iterate 9 refine pu rfl rfl rfl rfl rfl ?_
  refine tr_seq ?_
  refine tr_region fun _ _ _ => ?_
  iterate 4 refine pu rfl rfl rfl rfl rfl ?_
  exact tr_ret ⟨trivial, _, _, rfl, ⟨rfl, rfl⟩, CSub.nil _, trivial⟩



theorem cyc_Gen_ent : Enters Tryz.prog 19 := enters_of Tryz.func19 (by kernel_rfl) (by kernel_rfl)
theorem cyc_Gen (p m : Int) (A : Option Addr) (c : Nat) (mod : List Int) [hF : IsF p m mod] (w : Int) (Aa : Option Addr) (n ca : Nat) (rs : List RowM) (hn : n = rs.length) (h9 : rs.length ≤ 256) (hc : CodeOk p m mod w rs) (hcl : closB p m mod w.toNat rs = true) :
    Pure Tryz.prog 19 #[.agg #[.int .i64 p, .int .i64 m, .slice A mod.length c, .int .i64 w, .slice Aa n ca]] [ro A (ints mod), ro Aa (hdrs rs), rowsR rs] (one (fun v ch => ∃ B cb, v = .tuple #[.slice B (il (genP p m mod w.toNat (xss rs))).length cb, .int .i64 0] ∧ ch = rx B (ints (il (genP p m mod w.toNat (xss rs)))))) := by
  refine pure_of (args := [.agg #[.int .i64 p, .int .i64 m, .slice A mod.length c, .int .i64 w, .slice Aa n ca]]) 17 Tryz.func19 rfl rfl rfl cyc_Gen_ent ⟨id, id, id, trivial⟩ (fun w0 => ?_)
  refine tr_seq ?_
  refine tr_region fun _ _ _ => ?_
  refine ef rfl rfl (eBox rfl rfl rfl rfl rfl (fun p0 => ?_)) 
  iterate 2 refine pu rfl rfl rfl rfl rfl ?_
  refine tr_seq ?_
  refine tr_region fun _ _ _ => ?_
  refine st rfl rfl rfl rfl (rLdS rfl rfl rfl) ?_
  refine ef rfl rfl (eCall3 rfl rfl rfl (cyc_parts _ _ _ _ _ w Aa n ca rs hn h9 hc hcl) ⟨rfl, trivial⟩ ?_) 
  rintro _ _ _ _ ⟨g, Bg, cg, Bq, cq, rfl, rfl, rfl, rfl, hg⟩
  iterate 9 refine pu rfl rfl rfl rfl rfl ?_
  refine tr_seq ?_
  refine tr_region fun _ _ _ => ?_
  iterate 4 refine pu rfl rfl rfl rfl rfl ?_
  exact tr_ret ⟨trivial, _, _, rfl, ⟨_, rfl, Bg, cg, rfl, rfl⟩, cs _ _, trivial, trivial⟩




end Go.Proofs.YtjmojhflnjbgaaaGreat

set_option linter.unusedSimpArgs false
set_option linter.unusedVariables false
set_option maxRecDepth 100000
namespace Go.Proofs.YtjmojhflnjbgaaaGreat
open Go.RowKit

theorem rev_get (l : List Int) {k : Nat} (h : k < l.length) : l.reverse.getD k 0 = l.getD (l.length - 1 - k) 0 := by
  rw [List.getD_eq_getElem?_getD, List.getElem?_reverse h, ← List.getD_eq_getElem?_getD]
theorem rev_done {l o : List Int} (hl : o.length = l.length) (h : ∀ k : Nat, k < l.length → o.getD k 0 = l.getD (l.length - 1 - k) 0) : o = l.reverse := ext_getD (by rw [List.length_reverse, hl]) fun k => by
  by_cases hk : k < l.length
  · rw [rev_get l hk, h k hk]
  · rw [getD_out (by omega), getD_out (by rw [List.length_reverse]; omega)]
theorem allIn_rev {q : Int} {l : List Int} (h : AllIn q l) : AllIn q l.reverse := fun z hz => h z (List.mem_reverse.1 hz)
theorem gd_rev {q : Int} {w : Nat} {rs qs : List RowM} (h : Gd q w rs) (hq : xss qs = (xss rs).map List.reverse) : Gd q w qs := fun s hs => by
  have h1 : s.xs ∈ xss qs := xss_mem hs
  rw [hq] at h1
  obtain ⟨l, hl, he⟩ := List.mem_map.1 h1
  rw [xss] at hl
  obtain ⟨r, hr, rfl⟩ := List.mem_map.1 hl
  rw [← he]
  exact ⟨by rw [List.length_reverse]; exact (h r hr).1, allIn_rev (h r hr).2⟩
theorem take_xss {rs : List RowM} {j : Nat} (h : j < rs.length) : (xss rs).take (j + 1) = (xss rs).take j ++ [(rs.getD j rowD).xs] := by
  rw [List.take_add_one, List.getElem?_eq_getElem (show j < (xss rs).length by rw [xss_length]; exact h)]
  have := xss_getD rs j
  rw [List.getD_eq_getElem?_getD, List.getElem?_eq_getElem (show j < (xss rs).length by rw [xss_length]; exact h)] at this
  rw [← this]; rfl
theorem rev_step {rs qs : List RowM} {j : Nat} {A : Option Addr} {c : Nat} (h : j < rs.length) (hq : xss qs = ((xss rs).take j).map List.reverse) : xss (qs ++ [⟨A, c, (rs.getD j rowD).xs.reverse⟩]) = ((xss rs).take (j + 1)).map List.reverse := by
  rw [xss_snoc, hq, take_xss h, List.map_append]; rfl






section
variable {p m : Int} {mod : List Int} [hF : IsF p m mod]
theorem il_le2 (a : List Int) : (il (pol a : Po (El p m mod))).length ≤ a.length := by rw [il_length]; exact Po.len_le (pol_sh a)
theorem rec_rev (a : List Int) : Po.mon (pol (il (pol a : Po (El p m mod))).reverse : Po (El p m mod)) = recP (pol a) := by
  unfold recP
  rcases Nat.eq_zero_or_pos (Po.len (pol a : Po (El p m mod))) with h | h
  · have h0 := Po.eq_zero_of_len h
    rw [h0, il_zero, List.reverse_nil, pol_nil, rvP_zero]
  · rw [pol_rev (e := Po.len (pol a : Po (El p m mod)) - 1) (by rw [il_length]; omega), pol_il]
end


end Go.Proofs.YtjmojhflnjbgaaaGreat

set_option linter.unusedSimpArgs false
set_option linter.unusedVariables false
set_option maxRecDepth 100000
namespace Go.Proofs.YtjmojhflnjbgaaaGreat
open Go.RowKit

/-- The list of leading places, while it is filled. -/
def leadS (w : Nat) (qs : List Nat) : Nat → List Int
  | 0 => List.replicate w (-1)
  | k + 1 => (leadS w qs k).set (qs.getD k 0) (k : Int)
theorem leadS_length (w : Nat) (qs : List Nat) : ∀ k, (leadS w qs k).length = w
  | 0 => List.length_replicate
  | k + 1 => by rw [leadS, List.length_set, leadS_length w qs k]
theorem take_snocN {qs : List Nat} {k : Nat} (h : k < qs.length) : qs.take (k + 1) = qs.take k ++ [qs.getD k 0] := by
  rw [List.take_add_one, List.getElem?_eq_getElem h, List.getD_eq_getElem?_getD, List.getElem?_eq_getElem h]; rfl
theorem leadS_get {w : Nat} {qs : List Nat} {j : Nat} (hj : j < w) : ∀ k, k ≤ qs.length → ((leadS w qs k).getD j 0 ≥ 0 ↔ j ∈ qs.take k)
  | 0, _ => by
    rw [leadS, List.getD_eq_getElem?_getD, List.getElem?_replicate, if_pos hj, List.take_zero]
    constructor
    · intro h; exact absurd h (by decide)
    · intro h; simp at h
  | k + 1, hk => by
    have ih := leadS_get (w := w) (qs := qs) hj k (by omega)
    rw [leadS, getD_set, take_snocN (by omega), List.mem_append, List.mem_singleton]
    by_cases he : qs.getD k 0 = j
    · rw [if_pos ⟨he, by rw [leadS_length]; exact hj⟩]
      exact ⟨fun _ => .inr he.symm, fun _ => by omega⟩
    · rw [if_neg (fun h => he h.1), ih]
      exact ⟨.inl, fun h => h.resolve_right (fun e => he e.symm)⟩
theorem freeN_succ (j : Nat) (qs : List Nat) : freeN (j + 1) qs = freeN j qs ++ if j ∈ qs then [] else [j] := by
  unfold freeN
  rw [List.range_succ, List.filter_append]
  congr 1
  by_cases h : j ∈ qs <;> simp [h]
section
variable {p m : Int} {mod : List Int} [hF : IsF p m mod]
/-- The word of a free place, while it is filled. -/
noncomputable def nuS (p m : Int) (mod : List Int) [hF : IsF p m mod] (r3 : List RowM) (qs : List Nat) (w c : Nat) : Nat → List Int
  | 0 => (List.replicate w 0).set c 1
  | k + 1 => (nuS p m mod r3 qs w c k).set (qs.getD k 0) (-(el ((r3.getD k rowD).xs.getD c 0)) : El p m mod).1
theorem nuS_length (r3 : List RowM) (qs : List Nat) (w c : Nat) : ∀ k, (nuS p m mod r3 qs w c k).length = w
  | 0 => by rw [nuS, List.length_set, List.length_replicate]
  | k + 1 => by rw [nuS, List.length_set, nuS_length r3 qs w c k]
theorem nuS_in (r3 : List RowM) (qs : List Nat) (w c : Nat) : ∀ k, AllIn (pw p m) (nuS p m mod r3 qs w c k)
  | 0 => (allIn_rep (by have := hF.q2; omega) _).set (by have := hF.q2; omega) _
  | k + 1 => (nuS_in r3 qs w c k).set (El.bd _) _
theorem nuS_get {r3 : List RowM} {qs : List Nat} {w c : Nat} (hr : Vc.Rr w (vsR r3 : List (Vc (El p m mod))) qs) (hc : c ∉ qs) {j : Nat} (hj : j < w) : ∀ k, k ≤ qs.length → (nuS p m mod r3 qs w c k).getD j 0 = if j = c then 1 else if j ∈ qs.take k then (-(el ((r3.getD (qs.idxOf j) rowD).xs.getD c 0)) : El p m mod).1 else 0
  | 0, _ => by
    rw [nuS, getD_set, List.take_zero]
    by_cases h : j = c
    · rw [if_pos ⟨h.symm, by rw [List.length_replicate]; exact hj⟩, if_pos h]
    · rw [if_neg (fun e => h e.1.symm), if_neg h, if_neg (by simp), rep_get]
  | k + 1, hk => by
    have hm : qs.getD k 0 ∈ qs := Vc.getD_eq_mem (by omega) 0
    rw [nuS, getD_set, nuS_get hr hc hj k (by omega), take_snocN (by omega)]
    by_cases he : qs.getD k 0 = j
    · have h1 : ¬ j = c := fun e => hc (by rw [← e, ← he]; exact hm)
      rw [if_pos ⟨he, by rw [nuS_length]; exact hj⟩, if_neg h1, if_pos (by rw [he]; simp), ← he, idx_piv hr.rise (by omega)]
    · rw [if_neg (fun h => he h.1)]
      have h2 : j ∈ qs.take k ++ [qs.getD k 0] ↔ j ∈ qs.take k := by
        rw [List.mem_append, List.mem_singleton]
        exact ⟨fun h => h.resolve_right (fun e => he e.symm), .inl⟩
      by_cases h3 : j ∈ qs.take k
      · rw [if_pos h3, if_pos (h2.2 h3)]
      · rw [if_neg h3, if_neg (fun h => h3 (h2.1 h))]
theorem piv_lt {R : List (Vc (El p m mod))} {qs : List Nat} {w : Nat} (hr : Vc.Rr w R qs) {j : Nat} (hj : j ∈ qs) : j < w := by
  obtain ⟨i, hi, hji⟩ := List.getElem_of_mem hj
  have h1 := hr.lt i hi
  have h2 : qs.getD i 0 = j := by rw [List.getD_eq_getElem?_getD, List.getElem?_eq_getElem hi]; exact hji
  omega
theorem nuS_vec {r3 : List RowM} {qs : List Nat} {w c : Nat} (hr : Vc.Rr w (vsR r3 : List (Vc (El p m mod))) qs) (hc : c ∉ qs) (hcw : c < w) : (rw' (nuS p m mod r3 qs w c qs.length) : Vc (El p m mod)) = nuV w (vsR r3) qs c := Vc.ext fun j => by
  rw [rw_at]
  by_cases hj : j < w
  · rw [nuS_get hr hc hj qs.length (Nat.le_refl _), List.take_length]
    unfold nuV
    by_cases h1 : j = c
    · rw [if_pos h1, if_pos h1, el_one]
    · rw [if_neg h1, if_neg h1]
      by_cases h2 : j ∈ qs
      · rw [if_pos h2, if_pos h2, el_of, vsR_at]
      · rw [if_neg h2, if_neg h2, el_zero]
  · rw [getD_out (by rw [nuS_length]; omega), el_zero, nuV_free (fun h => hj (piv_lt hr h)), if_neg (by omega)]
theorem nuS_gd {os r3 : List RowM} {qs js : List Nat} {w : Nat} (h : xss os = js.map fun c => nuS p m mod r3 qs w c qs.length) : Gd (pw p m) w os := fun r hr => by
  have h1 : r.xs ∈ xss os := xss_mem hr
  rw [h] at h1
  obtain ⟨c, _, hc⟩ := List.mem_map.1 h1
  rw [← hc]
  exact ⟨nuS_length _ _ _ _ _, nuS_in _ _ _ _ _⟩
theorem free_le {os r3 : List RowM} {qs ls : List Nat} {w j : Nat} (h : xss os = (freeN j ls).map fun c => nuS p m mod r3 qs w c qs.length) (hj : j ≤ 1000) : os.length ≤ 1000 := by
  have h1 := congrArg List.length h
  rw [xss_length, List.length_map] at h1
  have h2 : (freeN j ls).length ≤ j := by unfold freeN; exact Nat.le_trans (List.length_filter_le _ _) (by simp)
  omega
theorem nuS_span {os rs r3 : List RowM} {qs : List Nat} {w : Nat} (hr : Vc.Rr w (vsR r3 : List (Vc (El p m mod))) qs) (h : xss os = (freeN w qs).map fun c => nuS p m mod r3 qs w c qs.length) (hs : ∀ u, Vc.SpL (vsR r3 : List (Vc (El p m mod))) u ↔ Vc.SpL (vsR rs) u) (u : Vc (El p m mod)) :
    Vc.SpL (vsR os : List (Vc (El p m mod))) u ↔ Pp w (vsR rs) u := by
  have hv : (vsR os : List (Vc (El p m mod))) = nulV w (vsR r3) qs := by
    rw [vsR_xss, h, List.map_map]
    refine List.map_congr_left fun c hc => ?_
    have := mem_free.1 hc
    exact nuS_vec hr this.2 this.1
  rw [hv, nul_span hr, Pp.span hs]
end

theorem ref_Null_ent : Enters Tryz.prog 89 := enters_of Tryz.func89 (by kernel_rfl) (by kernel_rfl)
theorem ref_Null (p m : Int) (A : Option Addr) (c : Nat) (mod : List Int) [hF : IsF p m mod] (w : Int) (hw0 : 0 ≤ w) (hw9 : w ≤ 1000) (Aa : Option Addr) (n ca : Nat) (rs : List RowM) (hn : n = rs.length) (hr9 : rs.length ≤ 1000000) (hgd0 : Gd (pw p m) w.toNat rs) :
    Pure Tryz.prog 89 #[.agg #[.int .i64 p, .int .i64 m, .slice A mod.length c], .slice Aa n ca, .int .i64 w] [ro A (ints mod), ro Aa (hdrs rs), rowsR rs] (two (fun v ca cb => ∃ B cg r4, v = .slice B r4.length cg ∧ ca = ow B 22 cg (hdrs r4) ∧ cb = rowsCh 3 r4 ∧ CdOf p m mod w.toNat r4 (Pp w.toNat (vsR rs : List (Vc (El p m mod)))))) := by
  have hq2 := hF.q2
  refine pure_of (args := [.agg #[.int .i64 p, .int .i64 m, .slice A mod.length c], .slice Aa n ca, .int .i64 w]) 94 Tryz.func89 rfl rfl rfl ref_Null_ent ⟨id, id, id, trivial⟩ (fun w0 => ?_)
  refine tr_seq ?_
  refine tr_region fun _ _ _ => ?_
  refine ef rfl rfl (eBox rfl rfl rfl rfl rfl (fun p0 => ?_)) 
  refine pu rfl rfl rfl rfl rfl ?_
  refine tr_seq ?_
  refine tr_region fun _ _ _ => ?_
  refine st rfl rfl rfl rfl (rLdS rfl rfl rfl) ?_
  iterate 2 refine pu rfl rfl rfl rfl rfl ?_
  refine ef rfl rfl (eCall3 rfl rfl rfl (ref_RCanon _ _ _ _ _ w hw0 (by omega) Aa n ca rs hn hr9 hgd0) ⟨rfl, rfl, rfl, trivial⟩ ?_) 
  rintro _ _ _ _ ⟨r3, B1, cb1, Bp, cp, ps, rfl, rfl, rfl, rfl, hR, hk⟩
  iterate 5 refine pu rfl rfl rfl rfl rfl ?_
  refine tr_seq ?_
  obtain ⟨qs, hps, hRr⟩ := hR.form
  have hpl : ps.length = qs.length := by rw [hps, List.length_map]
  have hpk : ∀ k, ps.getD k 0 = (qs.getD k 0 : Int) := fun k => by rw [hps]; exact ofNat_getD qs k
  have hpr : ps.length = r3.length := hR.len
  have hgd3 := hR.good
  refine tr_region fun _ _ _ => ?_
  refine pu rfl rfl rfl rfl rfl ?_
  refine ef rfl rfl (eMakeI rfl rfl rfl rfl rfl (by omega) (by omega) (by omega) (fun A2 => ?_)) 
  refine pu rfl rfl rfl rfl rfl ?_
  refine tr_seq ?_
  refine tr_seq ?_
  refine tr_region fun _ _ _ => ?_
  refine pu rfl rfl rfl rfl rfl ?_
  refine tr_block ?_
  refine tr_loop2 (fun (k : Int) (L : List Int) => [(9, .slice A2 w.toNat w.toNat), (10, .int .i64 k), (2, .int .i64 w), (3, .pointer (some p0)), (6, .slice none 0 0), (7, .slice B1 r3.length cb1), (8, .slice Bp ps.length cp)]) (fun (k : Int) (L : List Int) => [ow A2 3 w.toNat (ints L), ow B1 22 cb1 (hdrs r3), rowsCh 3 r3, ow Bp 3 cp (ints ps), blk p0 24 [.int .i64 p, .int .i64 m, .slice A mod.length c], ro A (ints mod), ro Aa (hdrs rs), rowsR rs]) (fun (k : Int) (L : List Int) => (0 ≤ k ∧ k ≤ w) ∧ L.length = w.toNat ∧ ∀ i : Nat, (i : Int) < k → L.getD i 0 = -1) (fun (k : Int) (L : List Int) => (w - k).toNat) (0) (List.replicate w.toNat 0) ⟨rfl, rfl, rfl, rfl, rfl, rfl, rfl, trivial⟩ (by first | exact cs _ _ | exact CSub.refl _) (⟨⟨by omega, by omega⟩, by simp, fun i hi => by omega⟩) (fun k L hI => ?_)
  obtain ⟨⟨hk0, hk1⟩, hLl, hL⟩ := hI
  refine tr_seq ?_
  refine tr_seq ?_
  refine tr_region fun _ _ _ => ?_
  iterate 3 refine pu rfl rfl rfl rfl rfl ?_
  refine tr_cond_bool rfl (fun h4 => ?_) (fun h4 => ?_)
  · try simp only [zb1, zb2, zb3, zb4, zb5, zb6, zb7, zb8, zb9, zb10] at h4
    refine tr_skip ?_
    refine tr_seq ?_
    refine tr_block ?_
    refine tr_region fun _ _ _ => ?_
    iterate 2 refine pu rfl rfl rfl rfl rfl ?_
    refine st rfl rfl rfl rfl (rIdxI rfl rfl rfl (by omega) (by omega) (by omega)) ?_
    refine ef rfl rfl (eStI rfl rfl rfl rfl (by omega) ?_) 
    refine tr_region fun _ _ _ => ?_
    refine pu rfl rfl rfl rfl rfl ?_
    refine st rfl rfl rfl rfl (rAdd rfl rfl rfl (by omega) (by omega)) ?_
    refine pu rfl rfl rfl rfl rfl ?_
    refine ⟨k + 1, L.set k.toNat (-1), ⟨rfl, rfl, rfl, rfl, rfl, rfl, rfl, trivial⟩, by first | exact cs _ _ | exact CSub.refl _, ?_⟩
    refine ⟨⟨⟨by omega, by omega⟩, by simpa using hLl, fun i hi => ?_⟩, by omega⟩
    rw [getD_set]
    by_cases he : k.toNat = i
    · rw [if_pos ⟨he, by omega⟩]
    · rw [if_neg (fun h => he h.1)]; exact hL i (by omega)
  · try simp only [zb1, zb2, zb3, zb4, zb5, zb6, zb7, zb8, zb9, zb10] at h4
    refine tr_exit ?_
    refine tr_seq ?_
    refine tr_seq ?_
    have hLr : L = leadS w.toNat qs 0 := by
      refine ext_getD (by rw [leadS_length]; exact hLl) fun j => ?_
      by_cases hj : j < w.toNat
      · rw [hL j (by omega), leadS, List.getD_eq_getElem?_getD, List.getElem?_replicate, if_pos hj]; rfl
      · rw [getD_out (by omega), getD_out (by rw [leadS_length]; omega)]
    subst hLr
    refine tr_region fun _ _ _ => ?_
    refine pu rfl rfl rfl rfl rfl ?_
    refine tr_block ?_
    refine tr_loop2 (fun (k : Int) (L : List Int) => [(9, .slice A2 w.toNat w.toNat), (11, .int .i64 k), (2, .int .i64 w), (3, .pointer (some p0)), (6, .slice none 0 0), (7, .slice B1 r3.length cb1), (8, .slice Bp ps.length cp)]) (fun (k : Int) (L : List Int) => [ow A2 3 w.toNat (ints L), ow B1 22 cb1 (hdrs r3), rowsCh 3 r3, ow Bp 3 cp (ints ps), blk p0 24 [.int .i64 p, .int .i64 m, .slice A mod.length c], ro A (ints mod), ro Aa (hdrs rs), rowsR rs]) (fun (k : Int) (L : List Int) => (0 ≤ k ∧ k ≤ ps.length) ∧ L.length = w.toNat ∧ L = leadS w.toNat qs k.toNat) (fun (k : Int) (L : List Int) => (ps.length - k).toNat) (0) (leadS w.toNat qs 0) ⟨rfl, rfl, rfl, rfl, rfl, rfl, rfl, trivial⟩ (by first | exact cs _ _ | exact CSub.refl _) (⟨⟨by omega, by omega⟩, leadS_length _ _ _, rfl⟩) (fun k L hI => ?_)
    obtain ⟨⟨hk0, hk1⟩, hLl, hL⟩ := hI
    refine tr_seq ?_
    refine tr_seq ?_
    refine tr_region fun _ _ _ => ?_
    iterate 2 refine pu rfl rfl rfl rfl rfl ?_
    refine st rfl rfl rfl rfl (rLen rfl rfl) ?_
    refine pu rfl rfl rfl rfl rfl ?_
    refine tr_cond_bool rfl (fun h8 => ?_) (fun h8 => ?_)
    · try simp only [zb1, zb2, zb3, zb4, zb5, zb6, zb7, zb8, zb9, zb10] at h8
      refine tr_skip ?_
      refine tr_seq ?_
      refine tr_block ?_
      have hpk1 := hpk k.toNat
      have hpk2 := hRr.lt k.toNat (by omega)
      refine tr_region fun _ _ _ => ?_
      iterate 3 refine pu rfl rfl rfl rfl rfl ?_
      refine st rfl rfl rfl rfl (rIdxI rfl rfl rfl (by omega) (by omega) (by omega)) ?_
      refine st rfl rfl rfl rfl (rLdI rfl rfl (by omega)) ?_
      refine pu rfl rfl rfl rfl rfl ?_
      refine st rfl rfl rfl rfl (rIdxI rfl rfl rfl (by omega) (by omega) (by omega)) ?_
      refine ef rfl rfl (eStI rfl rfl rfl rfl (by omega) ?_) 
      skip
      refine tr_region fun _ _ _ => ?_
      refine pu rfl rfl rfl rfl rfl ?_
      refine st rfl rfl rfl rfl (rAdd rfl rfl rfl (by omega) (by omega)) ?_
      refine pu rfl rfl rfl rfl rfl ?_
      refine ⟨k + 1, L.set (ps.getD k.toNat 0).toNat k, ⟨rfl, rfl, rfl, rfl, rfl, rfl, rfl, trivial⟩, by first | exact cs _ _ | exact CSub.refl _, ?_⟩
      refine ⟨⟨⟨by omega, by omega⟩, by simpa using hLl, ?_⟩, by omega⟩
      rw [show (k + 1).toNat = k.toNat + 1 by omega, leadS, hL, hpk k.toNat, Int.toNat_natCast, Int.toNat_of_nonneg hk0]
    · try simp only [zb1, zb2, zb3, zb4, zb5, zb6, zb7, zb8, zb9, zb10] at h8
      refine tr_exit ?_
      refine tr_seq ?_
      refine tr_region fun _ _ _ => ?_
      refine pu rfl rfl rfl rfl rfl ?_
      refine tr_seq ?_
      refine tr_seq ?_
      have hkq : k.toNat = qs.length := by omega
      rw [hkq] at hL
      subst hL
      have hLl := leadS_length w.toNat qs qs.length
      refine tr_region fun _ _ _ => ?_
      refine pu rfl rfl rfl rfl rfl ?_
      refine tr_block ?_
      refine tr_nilR 22 3 ?_
      refine tr_loop4 (fun (j : Int) (AQ : Option Addr) (cq : Nat) (os : List RowM) => [(12, .slice AQ os.length cq), (13, .int .i64 j), (9, .slice A2 w.toNat w.toNat), (2, .int .i64 w), (3, .pointer (some p0)), (6, .slice none 0 0), (7, .slice B1 r3.length cb1), (8, .slice Bp ps.length cp)]) (fun (j : Int) (AQ : Option Addr) (cq : Nat) (os : List RowM) => [ow AQ 22 cq (hdrs os), rowsCh 3 os, ow A2 3 w.toNat (ints (leadS w.toNat qs qs.length)), ow B1 22 cb1 (hdrs r3), rowsCh 3 r3, ow Bp 3 cp (ints ps), blk p0 24 [.int .i64 p, .int .i64 m, .slice A mod.length c], ro A (ints mod), ro Aa (hdrs rs), rowsR rs]) (fun (j : Int) (AQ : Option Addr) (cq : Nat) (os : List RowM) => (0 ≤ j ∧ j ≤ w) ∧ xss os = (freeN j.toNat qs).map fun c => nuS p m mod r3 qs w.toNat c qs.length) (fun (j : Int) (AQ : Option Addr) (cq : Nat) (os : List RowM) => (w - j).toNat) (0) (none) (0) ([]) ⟨rfl, rfl, rfl, rfl, rfl, rfl, rfl, rfl, trivial⟩ (by first | exact cs _ _ | exact CSub.refl _) (⟨⟨by omega, by omega⟩, rfl⟩) (fun j AQ cq os hI => ?_)
      obtain ⟨⟨hj0, hj1⟩, hos⟩ := hI
      refine tr_seq ?_
      refine tr_seq ?_
      refine tr_region fun _ _ _ => ?_
      iterate 3 refine pu rfl rfl rfl rfl rfl ?_
      refine tr_cond_bool rfl (fun h13 => ?_) (fun h13 => ?_)
      · try simp only [zb1, zb2, zb3, zb4, zb5, zb6, zb7, zb8, zb9, zb10] at h13
        refine tr_skip ?_
        refine tr_seq ?_
        refine tr_block ?_
        refine tr_seq ?_
        refine tr_seq ?_
        have hlg := leadS_get (w := w.toNat) (qs := qs) (j := j.toNat) (by omega) qs.length (Nat.le_refl _)
        rw [List.take_length] at hlg
        refine tr_region fun _ _ _ => ?_
        iterate 2 refine pu rfl rfl rfl rfl rfl ?_
        refine st rfl rfl rfl rfl (rIdxI rfl rfl rfl (by omega) (by omega) (by omega)) ?_
        refine st rfl rfl rfl rfl (rLdI rfl rfl (by omega)) ?_
        refine pu rfl rfl rfl rfl rfl ?_
        refine tr_cond_bool rfl (fun h15 => ?_) (fun h15 => ?_)
        · try simp only [zb1, zb2, zb3, zb4, zb5, zb6, zb7, zb8, zb9, zb10] at h15
          refine tr_exit ?_
          refine tr_region fun _ _ _ => ?_
          refine pu rfl rfl rfl rfl rfl ?_
          refine st rfl rfl rfl rfl (rAdd rfl rfl rfl (by omega) (by omega)) ?_
          refine pu rfl rfl rfl rfl rfl ?_
          refine ⟨j + 1, AQ, cq, os, ⟨rfl, rfl, rfl, rfl, rfl, rfl, rfl, rfl, trivial⟩, by first | exact cs _ _ | exact CSub.refl _, ?_⟩
          refine ⟨⟨⟨by omega, by omega⟩, ?_⟩, by omega⟩
          rw [show (j + 1).toNat = j.toNat + 1 by omega, freeN_succ, if_pos (hlg.1 (by first | omega | assumption)), List.append_nil]; exact hos
        · try simp only [zb1, zb2, zb3, zb4, zb5, zb6, zb7, zb8, zb9, zb10] at h15
          refine tr_skip ?_
          refine tr_seq ?_
          refine tr_region fun _ _ _ => ?_
          refine pu rfl rfl rfl rfl rfl ?_
          refine ef rfl rfl (eMakeI rfl rfl rfl rfl rfl (by omega) (by omega) (by omega) (fun A16 => ?_)) 
          refine pu rfl rfl rfl rfl rfl ?_
          refine tr_seq ?_
          have hrl : (List.replicate w.toNat (0 : Int)).length = w.toNat := by simp
          refine tr_region fun _ _ _ => ?_
          iterate 2 refine pu rfl rfl rfl rfl rfl ?_
          refine st rfl rfl rfl rfl (rIdxI rfl rfl rfl (by omega) (by omega) (by omega)) ?_
          refine ef rfl rfl (eStI rfl rfl rfl rfl (by omega) ?_) 
          refine tr_seq ?_
          refine tr_seq ?_
          refine tr_region fun _ _ _ => ?_
          refine pu rfl rfl rfl rfl rfl ?_
          refine tr_block ?_
          refine tr_loop2 (fun (k : Int) (x : List Int) => [(14, .slice A16 w.toNat w.toNat), (15, .int .i64 k), (2, .int .i64 w), (3, .pointer (some p0)), (6, .slice none 0 0), (7, .slice B1 r3.length cb1), (8, .slice Bp ps.length cp), (9, .slice A2 w.toNat w.toNat), (12, .slice AQ os.length cq), (13, .int .i64 j), (46, .int .i64 j), (47, .int .i64 w), (51, .slice A2 w.toNat w.toNat), (52, .int .i64 j), (56, .int .i64 w), (59, .int .i64 j)]) (fun (k : Int) (x : List Int) => [ow A16 3 w.toNat (ints x), ow AQ 22 cq (hdrs os), rowsCh 3 os, ow A2 3 w.toNat (ints (leadS w.toNat qs qs.length)), ow B1 22 cb1 (hdrs r3), rowsCh 3 r3, ow Bp 3 cp (ints ps), blk p0 24 [.int .i64 p, .int .i64 m, .slice A mod.length c], ro A (ints mod), ro Aa (hdrs rs), rowsR rs]) (fun (k : Int) (x : List Int) => (0 ≤ k ∧ k ≤ ps.length) ∧ x.length = w.toNat ∧ x = nuS p m mod r3 qs w.toNat j.toNat k.toNat) (fun (k : Int) (x : List Int) => (ps.length - k).toNat) (0) ((List.replicate w.toNat 0).set j.toNat 1) ⟨rfl, rfl, rfl, rfl, rfl, rfl, rfl, rfl, rfl, rfl, rfl, rfl, rfl, rfl, rfl, rfl, trivial⟩ (by first | exact cs _ _ | exact CSub.refl _) (⟨⟨by omega, by omega⟩, by simp, rfl⟩) (fun k x hI => ?_)
          obtain ⟨⟨hk0, hk1⟩, hxl0, hx⟩ := hI
          refine tr_seq ?_
          refine tr_seq ?_
          refine tr_region fun _ _ _ => ?_
          iterate 2 refine pu rfl rfl rfl rfl rfl ?_
          refine st rfl rfl rfl rfl (rLen rfl rfl) ?_
          refine pu rfl rfl rfl rfl rfl ?_
          refine tr_cond_bool rfl (fun h19 => ?_) (fun h19 => ?_)
          · try simp only [zb1, zb2, zb3, zb4, zb5, zb6, zb7, zb8, zb9, zb10] at h19
            refine tr_skip ?_
            refine tr_seq ?_
            refine tr_block ?_
            have hpk1 := hpk k.toNat
            have hpk2 := hRr.lt k.toNat (by omega)
            haveI : InB k.toNat r3.length := ⟨by omega⟩
            have hgk := hgd3.get (show k.toNat < r3.length by omega)
            have hgk1 := hgk.1
            refine tr_draw [0, 1, 2, 3, 4, 5, 6, 7, 8, 9, 10, 11, 12, 13, 14] [15] mixed (by kernel_rfl) fun _ _ _ => ?_
            iterate 3 refine pu rfl rfl rfl rfl rfl ?_
            refine st rfl rfl rfl rfl (rIdxI rfl rfl rfl (by omega) (by omega) (by omega)) ?_
            refine st rfl rfl rfl rfl (rLdI rfl rfl (by omega)) ?_
            refine st rfl rfl rfl rfl (rLdS rfl rfl rfl) ?_
            iterate 2 refine pu rfl rfl rfl rfl rfl ?_
            refine st rfl rfl rfl rfl (rIdxR rfl rfl rfl (by omega) (by omega) (by omega)) ?_
            refine st rfl rfl rfl rfl (rLdR rfl rfl (by omega)) ?_
            refine pu rfl rfl rfl rfl rfl ?_
            refine st rfl rfl rfl rfl (rIdxI rfl rfl rfl (by omega) (by omega) (by omega)) ?_
            refine st rfl rfl rfl rfl (rLdI rfl rfl (by omega)) ?_
            refine ef rfl rfl (eCallV rfl rfl rfl (ref_NegE _ _ _ _ _ _) ⟨rfl, rfl, trivial⟩ ?_) 
            refine st rfl rfl rfl rfl (rIdxI rfl rfl rfl (by omega) (by omega) (by omega)) ?_
            refine ef rfl rfl (eStI rfl rfl rfl rfl (by omega) ?_) 
            refine tr_region fun _ _ _ => ?_
            refine pu rfl rfl rfl rfl rfl ?_
            refine st rfl rfl rfl rfl (rAdd rfl rfl rfl (by omega) (by omega)) ?_
            refine pu rfl rfl rfl rfl rfl ?_
            refine ⟨k + 1, x.set (ps.getD k.toNat 0).toNat (-(el ((r3.getD k.toNat rowD).xs.getD j.toNat 0)) : El p m mod).1, ⟨rfl, rfl, rfl, rfl, rfl, rfl, rfl, rfl, rfl, rfl, rfl, rfl, rfl, rfl, rfl, rfl, trivial⟩, by first | exact cs _ _ | exact CSub.refl _, ?_⟩
            refine ⟨⟨⟨by omega, by omega⟩, by simpa using hxl0, ?_⟩, by omega⟩
            rw [show (k + 1).toNat = k.toNat + 1 by omega, nuS, hx, hpk k.toNat, Int.toNat_natCast]
          · try simp only [zb1, zb2, zb3, zb4, zb5, zb6, zb7, zb8, zb9, zb10] at h19
            refine tr_exit ?_
            have hol := free_le hos (by omega)
            have hkq : k.toNat = qs.length := by omega
            rw [hkq] at hx
            have hxl := nuS_length (p := p) (m := m) (mod := mod) r3 qs w.toNat j.toNat qs.length
            rw [← hx] at hxl
            refine tr_region fun _ _ _ => ?_
            iterate 2 refine pu rfl rfl rfl rfl rfl ?_
            refine ef rfl rfl (eLit1 rfl rfl rfl rfl rfl (fun A22 => ?_)) 
            refine ef rfl rfl (eAppRn x hxl.symm rfl rfl rfl rfl rfl (by first | rfl | simp) (by omega) (fun A22a c22a => ?_)) 
            refine pu rfl rfl rfl rfl rfl ?_
            refine tr_region fun _ _ _ => ?_
            refine pu rfl rfl rfl rfl rfl ?_
            refine st rfl rfl rfl rfl (rAdd rfl rfl rfl (by omega) (by omega)) ?_
            refine pu rfl rfl rfl rfl rfl ?_
            refine ⟨j + 1, A22a, c22a, os ++ [⟨A16, w.toNat, x⟩], ⟨rfl, rfl, rfl, rfl, rfl, rfl, rfl, rfl, trivial⟩, by exact rows_app, ?_⟩
            refine ⟨⟨⟨by omega, by omega⟩, ?_⟩, by omega⟩
            rw [show (j + 1).toNat = j.toNat + 1 by omega, freeN_succ, if_neg (fun h => by have := hlg.2 h; omega), xss_snoc, hos, List.map_append, hx]
            rfl
      · try simp only [zb1, zb2, zb3, zb4, zb5, zb6, zb7, zb8, zb9, zb10] at h13
        refine tr_exit ?_
        refine tr_seq ?_
        have hjw : j.toNat = w.toNat := by omega
        rw [hjw] at hos
        have hgo := nuS_gd hos
        have hol := free_le hos (by omega)
        refine tr_region fun _ _ _ => ?_
        refine st rfl rfl rfl rfl (rLdS rfl rfl rfl) ?_
        iterate 2 refine pu rfl rfl rfl rfl rfl ?_
        refine ef rfl rfl (eCall3 rfl rfl rfl (ref_RCanon _ _ _ _ _ w hw0 (by omega) AQ _ cq os rfl (by omega) hgo) ⟨rfl, rfl, rfl, trivial⟩ ?_) 
        rintro _ _ _ _ ⟨r4, B4, cg4, Bp4, cp4, ps4, rfl, rfl, rfl, rfl, hR4, hk4⟩
        iterate 4 refine pu rfl rfl rfl rfl rfl ?_
        refine tr_seq ?_
        refine tr_region fun _ _ _ => ?_
        iterate 2 refine pu rfl rfl rfl rfl rfl ?_
        exact tr_ret ⟨trivial, _, _, rfl, ⟨_, _, rfl, B4, cg4, r4, rfl, rfl, rfl, hR4.cd fun u => nuS_span hRr hos hR.span u⟩, cs _ _, trivial, trivial, trivial⟩

theorem ref_Parity_ent : Enters Tryz.prog 90 := enters_of Tryz.func90 (by kernel_rfl) (by kernel_rfl)
theorem ref_Parity (p m : Int) (A : Option Addr) (c : Nat) (mod : List Int) [hF : IsF p m mod] (w : Int) (Aa : Option Addr) (n ca : Nat) (rs : List RowM) (hn : n = rs.length) (h9 : rs.length ≤ 256) (hc : CodeOk p m mod w rs) :
    Pure Tryz.prog 90 #[.agg #[.int .i64 p, .int .i64 m, .slice A mod.length c, .int .i64 w, .slice Aa n ca]] [ro A (ints mod), ro Aa (hdrs rs), rowsR rs] (two (fun v ca cb => ∃ B cg r4, v = .slice B r4.length cg ∧ ca = ow B 22 cg (hdrs r4) ∧ cb = rowsCh 3 r4 ∧ CdOf p m mod w.toNat r4 (Pp w.toNat (vsR rs : List (Vc (El p m mod)))))) := by
  have hl9 := hF.short
  have hn1 := hc.n1
  have hn64 := hc.n64
  have hlen := hc.len
  have hgd := hc.good
  have h8 := hgd.h8 (N := 17592186044415) (by omega)
  have hck := hc.zero
  refine pure_of (args := [.agg #[.int .i64 p, .int .i64 m, .slice A mod.length c, .int .i64 w, .slice Aa n ca]]) 10 Tryz.func90 rfl rfl rfl ref_Parity_ent ⟨id, id, id, trivial⟩ (fun w0 => ?_)
  refine tr_seq ?_
  refine tr_region fun _ _ _ => ?_
  refine ef rfl rfl (eBox rfl rfl rfl rfl rfl (fun p0 => ?_)) 
  refine pu rfl rfl rfl rfl rfl ?_
  refine tr_seq ?_
  refine tr_region fun _ _ _ => ?_
  refine st rfl rfl rfl rfl (rFld rfl rfl) ?_
  refine st rfl rfl rfl rfl (rLdSF rfl rfl) ?_
  refine st rfl rfl rfl rfl (rFld rfl rfl) ?_
  refine st rfl rfl rfl rfl (rLdF rfl rfl rfl) ?_
  refine st rfl rfl rfl rfl (rFld rfl rfl) ?_
  refine st rfl rfl rfl rfl (rLdF rfl rfl rfl) ?_
  refine ef rfl rfl (eCall2 rfl rfl rfl (ref_Null _ _ _ _ _ w (by omega) (by omega) Aa n ca rs hn (by omega) hgd) ⟨rfl, rfl, rfl, trivial⟩ ?_) 
  rintro _ _ _ ⟨B4, cg4, r4, rfl, rfl, rfl, hC4⟩
  refine pu rfl rfl rfl rfl rfl ?_
  exact tr_ret ⟨trivial, _, _, rfl, ⟨_, _, rfl, B4, cg4, r4, rfl, rfl, rfl, hC4⟩, cs _ _, trivial, trivial, trivial⟩


end Go.Proofs.YtjmojhflnjbgaaaGreat

set_option linter.unusedSimpArgs false
set_option linter.unusedVariables false
set_option maxRecDepth 100000
namespace Go.Proofs.YtjmojhflnjbgaaaGreat
open Go.RowKit

theorem ref_CFit_ent : Enters Tryz.prog 87 := enters_of Tryz.func87 (by kernel_rfl) (by kernel_rfl)
theorem ref_CFit (p m : Int) (A : Option Addr) (c : Nat) (mod : List Int) [hF : IsF p m mod] (w : Int) (Aa : Option Addr) (n ca : Nat) (rs : List RowM) (hn : n = rs.length) (h9 : rs.length ≤ 256) (hc : CodeOk p m mod w rs) (A2 : Option Addr) (c2 : Nat) (Bb : Option Addr) (n2 cb2 : Nat) (qs : List RowM) (hn2 : n2 = qs.length) (h92 : qs.length ≤ 256) (hc2 : CodeOk p m mod w qs) :
    Pure Tryz.prog 87 #[.agg #[.int .i64 p, .int .i64 m, .slice A mod.length c, .int .i64 w, .slice Aa n ca], .agg #[.int .i64 p, .int .i64 m, .slice A2 mod.length c2, .int .i64 w, .slice Bb n2 cb2]] [ro A (ints mod), ro Aa (hdrs rs), rowsR rs, ro A2 (ints mod), ro Bb (hdrs qs), rowsR qs] (isV (.int .i64 0)) := by
  have hl9 := hF.short
  have hn1 := hc.n1
  have hn64 := hc.n64
  have hlen := hc.len
  have hgd := hc.good
  have h8 := hgd.h8 (N := 17592186044415) (by omega)
  have hck := hc.zero
  have hgd2 := hc2.good
  have h82 := hgd2.h8 (N := 17592186044415) (by omega)
  have hck2 := hc2.zero
  have hlen2 := hc2.len
  refine pure_of (args := [.agg #[.int .i64 p, .int .i64 m, .slice A mod.length c, .int .i64 w, .slice Aa n ca], .agg #[.int .i64 p, .int .i64 m, .slice A2 mod.length c2, .int .i64 w, .slice Bb n2 cb2]]) 30 Tryz.func87 rfl rfl rfl ref_CFit_ent ⟨id, id, id, id, id, id, trivial⟩ (fun w0 => ?_)
  refine tr_seq ?_
  refine tr_region fun _ _ _ => ?_
  refine ef rfl rfl (eBox rfl rfl rfl rfl rfl (fun p0 => ?_)) 
  refine ef rfl rfl (eBox rfl rfl rfl rfl rfl (fun p0a => ?_)) 
  refine pu rfl rfl rfl rfl rfl ?_
  refine tr_seq ?_
  refine tr_region fun _ _ _ => ?_
  refine st rfl rfl rfl rfl (rLdS rfl rfl rfl) ?_
  refine ef rfl rfl (eCallV rfl rfl rfl (ref_CCheck _ _ _ _ _ (by omega) w Aa n ca rs hn (by omega) h8) ⟨rfl, trivial⟩ ?_) 
  refine pu rfl rfl rfl rfl rfl ?_
  refine tr_seq ?_
  refine tr_seq ?_
  refine tr_region fun _ _ _ => ?_
  iterate 2 refine pu rfl rfl rfl rfl rfl ?_
  refine tr_cond_bool rfl (fun h2 => ?_) (fun h2 => ?_)
  · try simp only [zb1, zb2, zb3, zb4, zb5, zb6, zb7, zb8, zb9, zb10] at h2
    refine tr_region fun _ _ _ => ?_
    refine st rfl rfl rfl rfl (rLdS rfl rfl rfl) ?_
    refine ef rfl rfl (eCallV rfl rfl rfl (ref_CCheck p m A2 c2 mod (by omega) w Bb n2 cb2 qs hn2 (by omega) h82) ⟨rfl, trivial⟩ ?_) 
    refine pu rfl rfl rfl rfl rfl ?_
    refine tr_seq ?_
    refine tr_seq ?_
    refine tr_region fun _ _ _ => ?_
    iterate 3 refine pu rfl rfl rfl rfl rfl ?_
    refine stT rfl rfl rfl (by simp [hck2]) rfl rfl (rFld rfl rfl) ?_
    refine stT rfl rfl rfl (by simp [hck2]) rfl rfl (rLdSF rfl rfl) ?_
    refine stT rfl rfl rfl (by simp [hck2]) rfl rfl (rFld rfl rfl) ?_
    refine stT rfl rfl rfl (by simp [hck2]) rfl rfl (rLdSF rfl rfl) ?_
    refine efT rfl rfl rfl (by simp [hck2]) (eCallV rfl rfl rfl (ref_FSame p m A c mod p m A2 c2 mod (by omega)) ⟨rfl, rfl, trivial⟩ ?_) 
    refine stT rfl rfl rfl (by simp [hck2]) rfl rfl (rNotB rfl rfl) ?_
    refine stT rfl rfl rfl (by simp [hck2]) rfl rfl (rMove rfl rfl) ?_
    refine stg rfl rfl rfl rfl rfl (fun hb => by (have hq := hb; try simp only [zb1, zb2, zb3, zb4, zb5, zb6, zb7, zb8, zb9, zb10] at hq); exact rFld rfl rfl) ?_
    refine stg rfl rfl rfl rfl rfl (fun hb => by (have hq := hb; try simp only [zb1, zb2, zb3, zb4, zb5, zb6, zb7, zb8, zb9, zb10] at hq); exact rLdF rfl (evg rfl hb) rfl) ?_
    refine stg rfl rfl rfl rfl rfl (fun hb => by (have hq := hb; try simp only [zb1, zb2, zb3, zb4, zb5, zb6, zb7, zb8, zb9, zb10] at hq); exact rFld rfl rfl) ?_
    refine stg rfl rfl rfl rfl rfl (fun hb => by (have hq := hb; try simp only [zb1, zb2, zb3, zb4, zb5, zb6, zb7, zb8, zb9, zb10] at hq); exact rLdF rfl (evg rfl hb) rfl) ?_
    refine stg rfl rfl rfl rfl rfl (fun hb => by (have hq := hb; try simp only [zb1, zb2, zb3, zb4, zb5, zb6, zb7, zb8, zb9, zb10] at hq); exact rNeq rfl (evg rfl hb) (evg rfl hb)) ?_
    refine stT rfl rfl rfl (by simp [hck2]) rfl rfl (rOrB rfl rfl rfl rfl) ?_
    refine st rfl rfl rfl rfl (rPick1 rfl rfl (by simp [hck2]) rfl) ?_
    refine tr_cond_bool rfl (fun h4 => ?_) (fun h4 => ?_)
    · try simp only [zb1, zb2, zb3, zb4, zb5, zb6, zb7, zb8, zb9, zb10] at h4
      simp at h4 --done
    · try simp only [zb1, zb2, zb3, zb4, zb5, zb6, zb7, zb8, zb9, zb10] at h4
      refine tr_skip ?_
      refine tr_seq ?_
      refine tr_region fun _ _ _ => ?_
      iterate 2 refine pu rfl rfl rfl rfl rfl ?_
      exact tr_ret ⟨trivial, _, _, rfl, ⟨by rw [hck2], rfl⟩, CSub.nil _, trivial⟩
  · try simp only [zb1, zb2, zb3, zb4, zb5, zb6, zb7, zb8, zb9, zb10] at h2
    omega --done

theorem ref_CSum_ent : Enters Tryz.prog 33 := enters_of Tryz.func33 (by kernel_rfl) (by kernel_rfl)
theorem ref_CSum (p m : Int) (A : Option Addr) (c : Nat) (mod : List Int) [hF : IsF p m mod] (w : Int) (Aa : Option Addr) (n ca : Nat) (rs : List RowM) (hn : n = rs.length) (h9 : rs.length ≤ 256) (hc : CodeOk p m mod w rs) (A2 : Option Addr) (c2 : Nat) (Bb : Option Addr) (n2 cb2 : Nat) (qs : List RowM) (hn2 : n2 = qs.length) (h92 : qs.length ≤ 256) (hc2 : CodeOk p m mod w qs) :
    Pure Tryz.prog 33 #[.agg #[.int .i64 p, .int .i64 m, .slice A mod.length c, .int .i64 w, .slice Aa n ca], .agg #[.int .i64 p, .int .i64 m, .slice A2 mod.length c2, .int .i64 w, .slice Bb n2 cb2]] [ro A (ints mod), ro Aa (hdrs rs), rowsR rs, ro A2 (ints mod), ro Bb (hdrs qs), rowsR qs] (three (fun v ca cb cc => ∃ Bm cm B cg r3, v = .tuple #[.agg #[.int .i64 p, .int .i64 m, .slice Bm mod.length cm, .int .i64 w, .slice B r3.length cg], .int .i64 0] ∧ ca = ow Bm 3 cm (ints mod) ∧ cb = ow B 22 cg (hdrs r3) ∧ cc = rowsCh 3 r3 ∧ CdOf p m mod w.toNat r3 (Vc.SpL (vsR rs ++ vsR qs : List (Vc (El p m mod)))))) := by
  have hl9 := hF.short
  have hn1 := hc.n1
  have hn64 := hc.n64
  have hlen := hc.len
  have hgd := hc.good
  have h8 := hgd.h8 (N := 17592186044415) (by omega)
  have hck := hc.zero
  have hgd2 := hc2.good
  have h82 := hgd2.h8 (N := 17592186044415) (by omega)
  have hck2 := hc2.zero
  have hlen2 := hc2.len
  refine pure_ofC (args := [.agg #[.int .i64 p, .int .i64 m, .slice A mod.length c, .int .i64 w, .slice Aa n ca], .agg #[.int .i64 p, .int .i64 m, .slice A2 mod.length c2, .int .i64 w, .slice Bb n2 cb2]]) 25 Tryz.func33 rfl rfl rfl ref_CSum_ent ⟨id, id, id, id, id, id, trivial⟩ (fun w0 => ?_)
  refine tr_seq ?_
  refine tr_region fun _ _ _ => ?_
  refine ef rfl rfl (eBox rfl rfl rfl rfl rfl (fun p0 => ?_)) 
  refine ef rfl rfl (eBox rfl rfl rfl rfl rfl (fun p0a => ?_)) 
  refine ef rfl rfl (eAlloc rfl rfl rfl (fun p0b => ?_)) 
  refine pu rfl rfl rfl rfl rfl ?_
  refine tr_seq ?_
  refine tr_region fun _ _ _ => ?_
  refine st rfl rfl rfl rfl (rLdS rfl rfl rfl) ?_
  refine st rfl rfl rfl rfl (rLdS rfl rfl rfl) ?_
  refine ef rfl rfl (eCallV rfl rfl rfl (ref_CFit _ _ _ _ _ w Aa n ca rs hn h9 hc A2 c2 Bb n2 cb2 qs hn2 h92 hc2) ⟨rfl, rfl, trivial⟩ ?_) 
  refine pu rfl rfl rfl rfl rfl ?_
  refine tr_seq ?_
  refine tr_seq ?_
  refine tr_region fun _ _ _ => ?_
  iterate 2 refine pu rfl rfl rfl rfl rfl ?_
  refine tr_cond_bool rfl (fun h2 => ?_) (fun h2 => ?_)
  · try simp only [zb1, zb2, zb3, zb4, zb5, zb6, zb7, zb8, zb9, zb10] at h2
    first | exact absurd trivial h2 | exact absurd rfl h2 | omega | (exact absurd h2 (by simp)) --done
  · try simp only [zb1, zb2, zb3, zb4, zb5, zb6, zb7, zb8, zb9, zb10] at h2
    refine tr_skip ?_
    refine tr_seq ?_
    refine tr_plan [blk p0 27 [.int .i64 p, .int .i64 m, .slice A mod.length c, .int .i64 w, .slice Aa n ca], blk p0a 27 [.int .i64 p, .int .i64 m, .slice A2 mod.length c2, .int .i64 w, .slice Bb n2 cb2]] [(2, 0), (2, 1), (0, 2), (0, 3), (0, 5), (0, 6), (2, 8), (2, 9), (0, 4), (1, 7), (0, 10), (1, 11), (0, 12)] mixed (by kernel_rfl) fun _ _ _ => ?_
    refine stF rfl rfl rfl rfl (cs _ _) (rFld rfl rfl) ?_
    refine stF rfl rfl rfl rfl (cs _ _) (rLdSF rfl rfl) ?_
    refine st rfl rfl rfl rfl (rFld rfl rfl) ?_
    refine st rfl rfl rfl rfl (rLdF rfl rfl rfl) ?_
    refine st rfl rfl rfl rfl (rFld rfl rfl) ?_
    refine st rfl rfl rfl rfl (rLdF rfl rfl rfl) ?_
    refine stF rfl rfl rfl rfl (cs _ _) (rFld rfl rfl) ?_
    refine stF rfl rfl rfl rfl (cs _ _) (rLdF rfl rfl rfl) ?_
    refine ef rfl rfl (eCall2 rfl rfl rfl (ref_Copy _ _ _ rs hn (by omega) (hgd.h8 (by omega))) ⟨rfl, trivial⟩ ?_) 
    rintro _ _ _ ⟨B5, c5, q5, rfl, rfl, rfl, hq5⟩
    refine ef rfl rfl (eAppRR qs rfl rfl rfl rfl rfl rfl hn2 (by have := congrArg List.length hq5; simp at this; omega) (fun A8 c8 => ?_)) 
    refine ⟨cs _ _, ?_⟩
    refine ef rfl rfl (eCall3 rfl rfl rfl (ref_Make _ _ _ _ _ w A8 _ c8 (q5 ++ qs) rfl (by rw [List.length_append]; have := congrArg List.length hq5; simp at this; omega) hn1 hn64 ((Gd.of hq5 hgd).app hgd2)) ⟨rfl, rfl, rfl, trivial⟩ ?_) 
    rintro _ _ _ _ ⟨Bm, cm, B, cg, r3, rfl, rfl, rfl, rfl, hC⟩
    refine ef rfl rfl (eStS rfl rfl rfl rfl rfl rfl ?_) 
    refine ⟨cs _ _, ?_⟩
    refine pu rfl rfl rfl rfl rfl ?_
    have hW : ∀ u, Vc.SpL (vsR (q5 ++ qs) : List (Vc (El p m mod))) u ↔ Vc.SpL (vsR rs ++ vsR qs : List (Vc (El p m mod))) u := fun u => by rw [vsR_app, vsR_of hq5]
    exact tr_ret ⟨trivial, _, _, (.cell rfl (cellS rfl) (.tmp rfl .nil)), ⟨_, _, _, rfl, Bm, cm, B, cg, r3, rfl, rfl, rfl, rfl, hC.iff hW⟩, cs _ _, trivial, trivial, trivial, trivial⟩

theorem ref_CMeet_ent : Enters Tryz.prog 34 := enters_of Tryz.func34 (by kernel_rfl) (by kernel_rfl)
theorem ref_CMeet (p m : Int) (A : Option Addr) (c : Nat) (mod : List Int) [hF : IsF p m mod] (w : Int) (Aa : Option Addr) (n ca : Nat) (rs : List RowM) (hn : n = rs.length) (h9 : rs.length ≤ 256) (hc : CodeOk p m mod w rs) (A2 : Option Addr) (c2 : Nat) (Bb : Option Addr) (n2 cb2 : Nat) (qs : List RowM) (hn2 : n2 = qs.length) (h92 : qs.length ≤ 256) (hc2 : CodeOk p m mod w qs) :
    Pure Tryz.prog 34 #[.agg #[.int .i64 p, .int .i64 m, .slice A mod.length c, .int .i64 w, .slice Aa n ca], .agg #[.int .i64 p, .int .i64 m, .slice A2 mod.length c2, .int .i64 w, .slice Bb n2 cb2]] [ro A (ints mod), ro Aa (hdrs rs), rowsR rs, ro A2 (ints mod), ro Bb (hdrs qs), rowsR qs] (three (fun v ca cb cc => ∃ Bm cm B cg r3, v = .tuple #[.agg #[.int .i64 p, .int .i64 m, .slice Bm mod.length cm, .int .i64 w, .slice B r3.length cg], .int .i64 0] ∧ ca = ow Bm 3 cm (ints mod) ∧ cb = ow B 22 cg (hdrs r3) ∧ cc = rowsCh 3 r3 ∧ CdOf p m mod w.toNat r3 (fun u => Vc.SpL (vsR rs : List (Vc (El p m mod))) u ∧ Vc.SpL (vsR qs : List (Vc (El p m mod))) u))) := by
  have hl9 := hF.short
  have hn1 := hc.n1
  have hn64 := hc.n64
  have hlen := hc.len
  have hgd := hc.good
  have h8 := hgd.h8 (N := 17592186044415) (by omega)
  have hck := hc.zero
  have hgd2 := hc2.good
  have h82 := hgd2.h8 (N := 17592186044415) (by omega)
  have hck2 := hc2.zero
  have hlen2 := hc2.len
  refine pure_ofC (args := [.agg #[.int .i64 p, .int .i64 m, .slice A mod.length c, .int .i64 w, .slice Aa n ca], .agg #[.int .i64 p, .int .i64 m, .slice A2 mod.length c2, .int .i64 w, .slice Bb n2 cb2]]) 29 Tryz.func34 rfl rfl rfl ref_CMeet_ent ⟨id, id, id, id, id, id, trivial⟩ (fun w0 => ?_)
  refine tr_seq ?_
  refine tr_region fun _ _ _ => ?_
  refine ef rfl rfl (eBox rfl rfl rfl rfl rfl (fun p0 => ?_)) 
  refine ef rfl rfl (eBox rfl rfl rfl rfl rfl (fun p0a => ?_)) 
  refine ef rfl rfl (eAlloc rfl rfl rfl (fun p0b => ?_)) 
  refine pu rfl rfl rfl rfl rfl ?_
  refine tr_seq ?_
  refine tr_region fun _ _ _ => ?_
  refine st rfl rfl rfl rfl (rLdS rfl rfl rfl) ?_
  refine st rfl rfl rfl rfl (rLdS rfl rfl rfl) ?_
  refine ef rfl rfl (eCallV rfl rfl rfl (ref_CFit _ _ _ _ _ w Aa n ca rs hn h9 hc A2 c2 Bb n2 cb2 qs hn2 h92 hc2) ⟨rfl, rfl, trivial⟩ ?_) 
  refine pu rfl rfl rfl rfl rfl ?_
  refine tr_seq ?_
  refine tr_seq ?_
  refine tr_region fun _ _ _ => ?_
  iterate 2 refine pu rfl rfl rfl rfl rfl ?_
  refine tr_cond_bool rfl (fun h2 => ?_) (fun h2 => ?_)
  · try simp only [zb1, zb2, zb3, zb4, zb5, zb6, zb7, zb8, zb9, zb10] at h2
    first | exact absurd trivial h2 | exact absurd rfl h2 | omega | (exact absurd h2 (by simp)) --done
  · try simp only [zb1, zb2, zb3, zb4, zb5, zb6, zb7, zb8, zb9, zb10] at h2
    refine tr_skip ?_
    refine tr_seq ?_
    refine tr_plan [blk p0 27 [.int .i64 p, .int .i64 m, .slice A mod.length c, .int .i64 w, .slice Aa n ca], blk p0a 27 [.int .i64 p, .int .i64 m, .slice A2 mod.length c2, .int .i64 w, .slice Bb n2 cb2]] [(2, 0), (2, 1), (2, 2), (2, 3), (0, 4), (0, 6), (2, 9), (2, 10), (2, 12), (2, 13), (0, 5), (0, 7), (1, 8), (0, 11), (0, 14), (1, 15), (0, 16)] mixed (by kernel_rfl) fun _ _ _ => ?_
    refine stF rfl rfl rfl rfl (cs _ _) (rFld rfl rfl) ?_
    refine stF rfl rfl rfl rfl (cs _ _) (rLdSF rfl rfl) ?_
    refine stF rfl rfl rfl rfl (cs _ _) (rFld rfl rfl) ?_
    refine stF rfl rfl rfl rfl (cs _ _) (rLdSF rfl rfl) ?_
    refine st rfl rfl rfl rfl (rLdS rfl rfl rfl) ?_
    refine st rfl rfl rfl rfl (rLdS rfl rfl rfl) ?_
    refine stF rfl rfl rfl rfl (cs _ _) (rFld rfl rfl) ?_
    refine stF rfl rfl rfl rfl (cs _ _) (rLdF rfl rfl rfl) ?_
    refine stF rfl rfl rfl rfl (cs _ _) (rFld rfl rfl) ?_
    refine stF rfl rfl rfl rfl (cs _ _) (rLdF rfl rfl rfl) ?_
    refine ef rfl rfl (eCall2 rfl rfl rfl (ref_Parity _ _ _ _ _ w Aa n ca rs hn h9 hc) ⟨rfl, trivial⟩ ?_) 
    rintro _ _ _ ⟨B5, c5, r5, rfl, rfl, rfl, hC5⟩
    refine ef rfl rfl (eCall2 rfl rfl rfl (ref_Parity p m A2 c2 mod w Bb n2 cb2 qs hn2 h92 hc2) ⟨rfl, trivial⟩ ?_) 
    rintro _ _ _ ⟨B7, c7, r7, rfl, rfl, rfl, hC7⟩
    refine ef rfl rfl (eAppRR r7 rfl rfl rfl rfl rfl rfl rfl (by have := hC5.le; have := hC7.le; omega) (fun A8 c8 => ?_)) 
    refine ⟨cs _ _, ?_⟩
    refine ef rfl rfl (eCall2 rfl rfl rfl (ref_Null _ _ _ _ _ w (by omega) (by omega) A8 _ c8 (r5 ++ r7) rfl (by rw [List.length_append]; have := hC5.le; have := hC7.le; omega) (hC5.good.app hC7.good)) ⟨rfl, rfl, rfl, trivial⟩ ?_) 
    rintro _ _ _ ⟨B9, c9, r9, rfl, rfl, rfl, hC9⟩
    refine ef rfl rfl (eCall3 rfl rfl rfl (ref_Make _ _ _ _ _ w B9 _ c9 r9 rfl (by have := hC9.le; omega) hn1 hn64 hC9.good) ⟨rfl, rfl, rfl, trivial⟩ ?_) 
    rintro _ _ _ _ ⟨Bm, cm, B, cg, r3, rfl, rfl, rfl, rfl, hC⟩
    refine ef rfl rfl (eStS rfl rfl rfl rfl rfl rfl ?_) 
    refine ⟨cs _ _, ?_⟩
    refine pu rfl rfl rfl rfl rfl ?_
    have hW : ∀ u, Vc.SpL (vsR r9 : List (Vc (El p m mod))) u ↔ Vc.SpL (vsR rs : List (Vc (El p m mod))) u ∧ Vc.SpL (vsR qs : List (Vc (El p m mod))) u := fun u => by
      obtain ⟨ps1, hp1⟩ := hc.form
      obtain ⟨ps2, hp2⟩ := hc2.form
      rw [hC9.span, vsR_app, Pp.app, perp2 hp1 hC5.span, perp2 hp2 hC7.span]
    exact tr_ret ⟨trivial, _, _, (.cell rfl (cellS rfl) (.tmp rfl .nil)), ⟨_, _, _, rfl, Bm, cm, B, cg, r3, rfl, rfl, rfl, rfl, hC.iff hW⟩, cs _ _, trivial, trivial, trivial, trivial⟩

end Go.Proofs.YtjmojhflnjbgaaaGreat

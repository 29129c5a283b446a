/-
  CYCLICDUALS, PART 9 OF 10. One sentence: the texts behind the law CyclicDuals, put together.
  Conditions: each theorem's own, written out in it.
-/
import Derived.Test.YtjmojhflnjbgaaaGreatK8
set_option linter.unusedSimpArgs false
set_option linter.unusedVariables false
set_option linter.unusedSectionVars false
set_option linter.unusedSimpArgs false
set_option linter.unusedVariables false
set_option maxRecDepth 100000
namespace Go.Proofs.YtjmojhflnjbgaaaGreat
open Go.RowKit

theorem law_CyclicDuals_ent : Enters Tryz.prog 6 := enters_of Tryz.func6 (by kernel_rfl) (by kernel_rfl)
theorem law_CyclicDuals (p m : Int) (A : Option Addr) (c : Nat) (mod : List Int) (hl9 : mod.length ≤ 17592186044415) (n : Int) (Al : Option Addr) (nl cl : Nat) (l : List Int) (hnl : nl = l.length) (hl : l.length ≤ 17592186044415) :
    Pure Tryz.prog 6 #[.agg #[.int .i64 p, .int .i64 m, .slice A mod.length c], .int .i64 n, .slice Al nl cl] [ro A (ints mod), ro Al (ints l)] (isV (.bool true)) := by
  refine pure_of (args := [.agg #[.int .i64 p, .int .i64 m, .slice A mod.length c], .int .i64 n, .slice Al nl cl]) 78 Tryz.func6 rfl rfl rfl law_CyclicDuals_ent ⟨id, id, trivial⟩ (fun w0 => ?_)
  refine tr_seq ?_
  refine tr_region fun _ _ _ => ?_
  refine ef rfl rfl (eBox rfl rfl rfl rfl rfl (fun p0 => ?_)) 
  refine pu rfl rfl rfl rfl rfl ?_
  refine tr_seq ?_
  refine tr_seq ?_
  refine tr_region fun _ _ _ => ?_
  refine st rfl rfl rfl rfl (rLdS rfl rfl rfl) ?_
  refine pu rfl rfl rfl rfl rfl ?_
  refine ef rfl rfl (eCallV rfl rfl rfl (ref_Args _ _ _ _ _ hl9 n) ⟨rfl, rfl, trivial⟩ ?_) 
  iterate 2 refine pu rfl rfl rfl rfl rfl ?_
  refine stg rfl rfl rfl rfl rfl (fun hb => by (have hq := hb; try simp only [zb1, zb2, zb3, zb4, zb5, zb6, zb7, zb8, zb9, zb10] at hq); exact rMove rfl rfl) ?_
  refine stg rfl rfl rfl rfl rfl (fun hb => by (have hq := hb; try simp only [zb1, zb2, zb3, zb4, zb5, zb6, zb7, zb8, zb9, zb10] at hq); exact rLen rfl (evg rfl hb)) ?_
  refine stg rfl rfl rfl rfl rfl (fun hb => by (have hq := hb; try simp only [zb1, zb2, zb3, zb4, zb5, zb6, zb7, zb8, zb9, zb10] at hq); exact rGtr rfl (evg rfl hb) rfl) ?_
  refine st rfl rfl rfl rfl (rOrB rfl rfl rfl rfl) ?_
  refine pu rfl rfl rfl rfl rfl ?_
  refine stg rfl rfl rfl rfl rfl (fun hb => by (have hq := hb; try simp only [zb1, zb2, zb3, zb4, zb5, zb6, zb7, zb8, zb9, zb10] at hq); exact rLdS rfl rfl rfl) ?_
  refine stg rfl rfl rfl rfl rfl (fun hb => by (have hq := hb; try simp only [zb1, zb2, zb3, zb4, zb5, zb6, zb7, zb8, zb9, zb10] at hq); exact rMove rfl rfl) ?_
  refine efg rfl rfl rfl rfl rfl (fun hb => by (have hq := hb; try simp only [zb1, zb2, zb3, zb4, zb5, zb6, zb7, zb8, zb9, zb10] at hq); exact eCallV rfl rfl rfl (ref_Entries _ _ _ _ _ _ _ _ l hnl hl) ⟨(evg rfl hb), (evg rfl hb), trivial⟩ ⟨rfl, rfl⟩) ?_
  refine stg rfl rfl rfl rfl rfl (fun hb => by (have hq := hb; try simp only [zb1, zb2, zb3, zb4, zb5, zb6, zb7, zb8, zb9, zb10] at hq); exact rNeq rfl (evg rfl hb) rfl) ?_
  refine st rfl rfl rfl rfl (rOrB rfl rfl rfl rfl) ?_
  refine tr_cond_bool rfl (fun h1 => ?_) (fun h1 => ?_)
  · try simp only [zb1, zb2, zb3, zb4, zb5, zb6, zb7, zb8, zb9, zb10] at h1
    refine tr_seq ?_
    refine tr_region fun _ _ _ => ?_
    refine pu rfl rfl rfl rfl rfl ?_
    exact tr_ret ⟨trivial, _, _, rfl, ⟨rfl, rfl⟩, CSub.nil _, trivial⟩
  · try simp only [zb1, zb2, zb3, zb4, zb5, zb6, zb7, zb8, zb9, zb10] at h1
    obtain ⟨⟨hA, hl8⟩, hEn⟩ := h1
    obtain ⟨hF0, hn1, hn9⟩ := argsC_zero (p := p) (m := m) (mod := mod) (n := n) (by simpa using hA)
    haveI hF : IsF p m mod := ⟨hF0⟩
    have hin : AllIn (pw p m) l := by
      rw [← hF.ord]
      rcases entC_cases (ordI p m) l with h | h
      · exact h.1
      · exact absurd h.2 (by omega)
    have hw1 : 1 ≤ n.toNat := by omega
    have hGd := (Po.gcd_is (pol l : Po (El p m mod)) (xn1 n.toNat)).right
    have hGl := Po.gcd_monic (f := (pol l : Po (El p m mod))) (.inr (xn1_ne (p := p) (m := m) (mod := mod) hw1))
    refine tr_skip ?_
    refine tr_seq ?_
    refine tr_region fun _ _ _ => ?_
    refine st rfl rfl rfl rfl (rLdS rfl rfl rfl) ?_
    iterate 2 refine pu rfl rfl rfl rfl rfl ?_
    refine ef rfl rfl (eCall3 rfl rfl rfl (cyc_New _ _ _ _ _ _ hn1 hn9 _ _ _ l hnl (by omega) hin) ⟨rfl, rfl, rfl, trivial⟩ ?_) 
    rintro _ _ _ _ ⟨Bm, cm, B, r3, rfl, rfl, rfl, rfl, hC⟩
    iterate 3 refine pu rfl rfl rfl rfl rfl ?_
    refine ef rfl rfl (eAlloc rfl rfl rfl (fun p3a => ?_)) 
    refine ef rfl rfl (eStS rfl rfl rfl rfl rfl rfl ?_) 
    refine pu rfl rfl rfl rfl rfl ?_
    refine tr_seq ?_
    have hC3 : CodeOk p m mod n r3 := hC.ok hn1 hn9
    have hl3 := hC3.len
    have hcl3 := clos_of hw1 hC.good hGd hC.span
    refine tr_region fun _ _ _ => ?_
    refine st rfl rfl rfl rfl (rLdS rfl rfl rfl) ?_
    refine ef rfl rfl (eCall3 rfl rfl rfl (ref_CDual _ _ _ _ _ n B _ _ r3 rfl (by omega) hC3) ⟨rfl, trivial⟩ ?_) 
    rintro _ _ _ _ ⟨Bm2, cm2, B2, cg2, r4, rfl, rfl, rfl, rfl, hC4⟩
    iterate 3 refine pu rfl rfl rfl rfl rfl ?_
    refine ef rfl rfl (eAlloc rfl rfl rfl (fun p4a => ?_)) 
    refine ef rfl rfl (eStS rfl rfl rfl rfl rfl rfl ?_) 
    refine pu rfl rfl rfl rfl rfl ?_
    refine tr_seq ?_
    have hC4o : CodeOk p m mod n r4 := hC4.ok hn1 hn9
    have hl4 := hC4o.len
    obtain ⟨hcl4, hg4⟩ := dual_gen hC3 hcl3 hC4
    have hgl4 := genP_len (p := p) (m := m) (mod := mod) (n := n.toNat) (by omega) (xss r4)
    rw [← il_length] at hgl4
    have hqd := Po.quo_mul (genP_ne (p := p) (m := m) (mod := mod) (n := n.toNat) (by omega) (xss r3)) (genP_dvd (p := p) (m := m) (mod := mod) n.toNat (xss r3))
    have hqx : (Po.quo (xn1 n.toNat : Po (El p m mod)) (genP p m mod n.toNat (xss r3))) ∣ xn1 n.toNat := ⟨_, hqd.symm⟩
    have hqn : 0 < (il (Po.quo (xn1 n.toNat : Po (El p m mod)) (genP p m mod n.toNat (xss r3)))).length := by rw [il_length]; exact xn1_dne hw1 hqx
    have hql : (il (Po.quo (xn1 n.toNat : Po (El p m mod)) (genP p m mod n.toNat (xss r3)))).length ≤ 100 := by
      have := Po.dvd_len hqx (xn1_ne (by omega))
      rw [xn1_len (by omega)] at this
      rw [il_length]; omega
    refine tr_region fun _ _ _ => ?_
    refine st rfl rfl rfl rfl (rLdS rfl rfl rfl) ?_
    refine ef rfl rfl (eCall1 rfl rfl rfl (cyc_Ctl _ _ _ _ _ n B _ _ r3 rfl (by omega) hC3 hcl3) ⟨rfl, trivial⟩ ?_) 
    rintro _ _ ⟨Bq, cq, rfl, rfl⟩
    iterate 5 refine pu rfl rfl rfl rfl rfl ?_
    refine tr_seq ?_
    refine tr_region fun _ _ _ => ?_
    refine st rfl rfl rfl rfl (rLdS rfl rfl rfl) ?_
    refine ef rfl rfl (eCall1 rfl rfl rfl (cyc_Gen _ _ _ _ _ n B2 _ cg2 r4 rfl (by omega) hC4o hcl4) ⟨rfl, trivial⟩ ?_) 
    rintro _ _ ⟨Bg, cg, rfl, rfl⟩
    iterate 5 refine pu rfl rfl rfl rfl rfl ?_
    refine tr_seq ?_
    refine tr_region fun _ _ _ => ?_
    iterate 3 refine pu rfl rfl rfl rfl rfl ?_
    refine stg rfl rfl rfl rfl rfl (fun hb => by (have hq := hb; try simp only [zb1, zb2, zb3, zb4, zb5, zb6, zb7, zb8, zb9, zb10] at hq); exact rMove rfl rfl) ?_
    refine stg rfl rfl rfl rfl rfl (fun hb => by (have hq := hb; try simp only [zb1, zb2, zb3, zb4, zb5, zb6, zb7, zb8, zb9, zb10] at hq); exact rEql rfl (evg rfl hb) rfl) ?_
    refine st rfl rfl rfl rfl (rAndB rfl rfl rfl rfl) ?_
    refine pu rfl rfl rfl rfl rfl ?_
    refine stg rfl rfl rfl rfl rfl (fun hb => by (have hq := hb; try simp only [zb1, zb2, zb3, zb4, zb5, zb6, zb7, zb8, zb9, zb10] at hq); exact rMove rfl rfl) ?_
    refine stg rfl rfl rfl rfl rfl (fun hb => by (have hq := hb; try simp only [zb1, zb2, zb3, zb4, zb5, zb6, zb7, zb8, zb9, zb10] at hq); exact rEql rfl (evg rfl hb) rfl) ?_
    refine st rfl rfl rfl rfl (rAndB rfl rfl rfl rfl) ?_
    refine pu rfl rfl rfl rfl rfl ?_
    refine stg rfl rfl rfl rfl rfl (fun hb => by (have hq := hb; try simp only [zb1, zb2, zb3, zb4, zb5, zb6, zb7, zb8, zb9, zb10] at hq); exact rMove rfl rfl) ?_
    refine stg rfl rfl rfl rfl rfl (fun hb => by (have hq := hb; try simp only [zb1, zb2, zb3, zb4, zb5, zb6, zb7, zb8, zb9, zb10] at hq); exact rEql rfl (evg rfl hb) rfl) ?_
    refine st rfl rfl rfl rfl (rAndB rfl rfl rfl rfl) ?_
    refine pu rfl rfl rfl rfl rfl ?_
    refine stg rfl rfl rfl rfl rfl (fun hb => by (have hq := hb; try simp only [zb1, zb2, zb3, zb4, zb5, zb6, zb7, zb8, zb9, zb10] at hq); exact rMove rfl rfl) ?_
    refine stg rfl rfl rfl rfl rfl (fun hb => by (have hq := hb; try simp only [zb1, zb2, zb3, zb4, zb5, zb6, zb7, zb8, zb9, zb10] at hq); exact rLen rfl (evg rfl hb)) ?_
    refine stg rfl rfl rfl rfl rfl (fun hb => by (have hq := hb; try simp only [zb1, zb2, zb3, zb4, zb5, zb6, zb7, zb8, zb9, zb10] at hq); exact rGtr rfl (evg rfl hb) rfl) ?_
    refine st rfl rfl rfl rfl (rAndB rfl rfl rfl rfl) ?_
    refine pu rfl rfl rfl rfl rfl ?_
    refine stT rfl rfl rfl (by simp [hqn]) rfl rfl (rMove rfl rfl) ?_
    refine stT rfl rfl rfl (by simp [hqn]) rfl rfl (rLdS rfl rfl rfl) ?_
    refine stT rfl rfl rfl (by simp [hqn]) rfl rfl (rMove rfl rfl) ?_
    refine efT rfl rfl rfl (by simp [hqn]) (eCall1 rfl rfl rfl (ref_Recip _ _ _ _ _ Bq _ _ (il (Po.quo (xn1 n.toNat : Po (El p m mod)) (genP p m mod n.toNat (xss r3)))) rfl (by omega)) ⟨rfl, rfl, trivial⟩ ?_) 
    rintro _ _ ⟨B7, c7, rfl, rfl⟩
    refine efT rfl rfl rfl (by simp [hqn]) (eCallV rfl rfl rfl (ref_SameInts _ _ _ (il (genP p m mod n.toNat (xss r4))) rfl _ _ _ (il (recP (pol (il (Po.quo (xn1 n.toNat : Po (El p m mod)) (genP p m mod n.toNat (xss r3))))))) rfl (by omega)) ⟨rfl, rfl, trivial⟩ ?_) 
    refine st rfl rfl rfl rfl (rPick1 rfl rfl (by simp [hqn]) rfl) ?_
    refine pu rfl rfl rfl rfl rfl ?_
    exact tr_ret ⟨trivial, _, _, rfl, ⟨by simp [pol_il, hg4, hqn], rfl⟩, CSub.nil _, trivial⟩

end Go.Proofs.YtjmojhflnjbgaaaGreat

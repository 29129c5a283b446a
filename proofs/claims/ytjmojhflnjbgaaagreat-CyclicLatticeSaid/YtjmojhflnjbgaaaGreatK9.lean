/-
  CYCLICLATTICE, PART 9 OF 10. One sentence: the texts behind the law CyclicLattice, put together.
  Conditions: each theorem's own, written out in it.
-/
import Derived.Test.YtjmojhflnjbgaaaGreatK8
set_option linter.unusedSimpArgs false
set_option linter.unusedVariables false
set_option linter.unusedSectionVars false
set_option linter.unusedSimpArgs false
set_option linter.unusedVariables false
set_option maxRecDepth 100000
namespace Go.Proofs.YtjmojhflnjbgaaaGreat
open Go.RowKit

theorem law_CyclicLattice_ent : Enters Tryz.prog 5 := enters_of Tryz.func5 (by kernel_rfl) (by kernel_rfl)
theorem law_CyclicLattice (p m : Int) (A : Option Addr) (c : Nat) (mod : List Int) (hl9 : mod.length ≤ 17592186044415) (n : Int) (Al : Option Addr) (nl cl : Nat) (l : List Int) (hnl : nl = l.length) (hl : l.length ≤ 17592186044415) (Ah : Option Addr) (nh ch : Nat) (l2 : List Int) (hnh : nh = l2.length) (hl2 : l2.length ≤ 17592186044415) :
    Pure Tryz.prog 5 #[.agg #[.int .i64 p, .int .i64 m, .slice A mod.length c], .int .i64 n, .slice Al nl cl, .slice Ah nh ch] [ro A (ints mod), ro Al (ints l), ro Ah (ints l2)] (isV (.bool true)) := by
  refine pure_of (args := [.agg #[.int .i64 p, .int .i64 m, .slice A mod.length c], .int .i64 n, .slice Al nl cl, .slice Ah nh ch]) 162 Tryz.func5 rfl rfl rfl law_CyclicLattice_ent ⟨id, id, id, trivial⟩ (fun w0 => ?_)
  refine tr_seq ?_
  refine tr_region fun _ _ _ => ?_
  refine ef rfl rfl (eBox rfl rfl rfl rfl rfl (fun p0 => ?_)) 
  refine pu rfl rfl rfl rfl rfl ?_
  refine tr_seq ?_
  refine tr_seq ?_
  refine tr_region fun _ _ _ => ?_
  refine st rfl rfl rfl rfl (rLdS rfl rfl rfl) ?_
  refine pu rfl rfl rfl rfl rfl ?_
  refine ef rfl rfl (eCallV rfl rfl rfl (ref_Args _ _ _ _ _ hl9 n) ⟨rfl, rfl, trivial⟩ ?_) 
  iterate 2 refine pu rfl rfl rfl rfl rfl ?_
  refine stg rfl rfl rfl rfl rfl (fun hb => by (have hq := hb; try simp only [zb1, zb2, zb3, zb4, zb5, zb6, zb7, zb8, zb9, zb10] at hq); exact rMove rfl rfl) ?_
  refine stg rfl rfl rfl rfl rfl (fun hb => by (have hq := hb; try simp only [zb1, zb2, zb3, zb4, zb5, zb6, zb7, zb8, zb9, zb10] at hq); exact rLen rfl (evg rfl hb)) ?_
  refine stg rfl rfl rfl rfl rfl (fun hb => by (have hq := hb; try simp only [zb1, zb2, zb3, zb4, zb5, zb6, zb7, zb8, zb9, zb10] at hq); exact rGtr rfl (evg rfl hb) rfl) ?_
  refine st rfl rfl rfl rfl (rOrB rfl rfl rfl rfl) ?_
  refine pu rfl rfl rfl rfl rfl ?_
  refine stg rfl rfl rfl rfl rfl (fun hb => by (have hq := hb; try simp only [zb1, zb2, zb3, zb4, zb5, zb6, zb7, zb8, zb9, zb10] at hq); exact rMove rfl rfl) ?_
  refine stg rfl rfl rfl rfl rfl (fun hb => by (have hq := hb; try simp only [zb1, zb2, zb3, zb4, zb5, zb6, zb7, zb8, zb9, zb10] at hq); exact rLen rfl (evg rfl hb)) ?_
  refine stg rfl rfl rfl rfl rfl (fun hb => by (have hq := hb; try simp only [zb1, zb2, zb3, zb4, zb5, zb6, zb7, zb8, zb9, zb10] at hq); exact rGtr rfl (evg rfl hb) rfl) ?_
  refine st rfl rfl rfl rfl (rOrB rfl rfl rfl rfl) ?_
  refine pu rfl rfl rfl rfl rfl ?_
  refine stg rfl rfl rfl rfl rfl (fun hb => by (have hq := hb; try simp only [zb1, zb2, zb3, zb4, zb5, zb6, zb7, zb8, zb9, zb10] at hq); exact rLdS rfl rfl rfl) ?_
  refine stg rfl rfl rfl rfl rfl (fun hb => by (have hq := hb; try simp only [zb1, zb2, zb3, zb4, zb5, zb6, zb7, zb8, zb9, zb10] at hq); exact rMove rfl rfl) ?_
  refine efg rfl rfl rfl rfl rfl (fun hb => by (have hq := hb; try simp only [zb1, zb2, zb3, zb4, zb5, zb6, zb7, zb8, zb9, zb10] at hq); exact eCallV rfl rfl rfl (ref_Entries _ _ _ _ _ _ _ _ l hnl hl) ⟨(evg rfl hb), (evg rfl hb), trivial⟩ ⟨rfl, rfl⟩) ?_
  refine stg rfl rfl rfl rfl rfl (fun hb => by (have hq := hb; try simp only [zb1, zb2, zb3, zb4, zb5, zb6, zb7, zb8, zb9, zb10] at hq); exact rNeq rfl (evg rfl hb) rfl) ?_
  refine st rfl rfl rfl rfl (rOrB rfl rfl rfl rfl) ?_
  refine pu rfl rfl rfl rfl rfl ?_
  refine stg rfl rfl rfl rfl rfl (fun hb => by (have hq := hb; try simp only [zb1, zb2, zb3, zb4, zb5, zb6, zb7, zb8, zb9, zb10] at hq); exact rLdS rfl rfl rfl) ?_
  refine stg rfl rfl rfl rfl rfl (fun hb => by (have hq := hb; try simp only [zb1, zb2, zb3, zb4, zb5, zb6, zb7, zb8, zb9, zb10] at hq); exact rMove rfl rfl) ?_
  refine efg rfl rfl rfl rfl rfl (fun hb => by (have hq := hb; try simp only [zb1, zb2, zb3, zb4, zb5, zb6, zb7, zb8, zb9, zb10] at hq); exact eCallV rfl rfl rfl (ref_Entries _ _ _ _ _ _ _ _ l2 hnh hl2) ⟨(evg rfl hb), (evg rfl hb), trivial⟩ ⟨rfl, rfl⟩) ?_
  refine stg rfl rfl rfl rfl rfl (fun hb => by (have hq := hb; try simp only [zb1, zb2, zb3, zb4, zb5, zb6, zb7, zb8, zb9, zb10] at hq); exact rNeq rfl (evg rfl hb) rfl) ?_
  refine st rfl rfl rfl rfl (rOrB rfl rfl rfl rfl) ?_
  refine tr_cond_bool rfl (fun h1 => ?_) (fun h1 => ?_)
  · try simp only [zb1, zb2, zb3, zb4, zb5, zb6, zb7, zb8, zb9, zb10] at h1
    refine tr_seq ?_
    refine tr_region fun _ _ _ => ?_
    refine pu rfl rfl rfl rfl rfl ?_
    exact tr_ret ⟨trivial, _, _, rfl, ⟨rfl, rfl⟩, CSub.nil _, trivial⟩
  · try simp only [zb1, zb2, zb3, zb4, zb5, zb6, zb7, zb8, zb9, zb10] at h1
    obtain ⟨⟨⟨⟨hA, hl8⟩, hl82⟩, hEn⟩, hEn2⟩ := h1
    obtain ⟨hF0, hn1, hn9⟩ := argsC_zero (p := p) (m := m) (mod := mod) (n := n) (by simpa using hA)
    haveI hF : IsF p m mod := ⟨hF0⟩
    have hin : AllIn (pw p m) l := by
      rw [← hF.ord]
      rcases entC_cases (ordI p m) l with h | h
      · exact h.1
      · exact absurd h.2 (by omega)
    have hin2 : AllIn (pw p m) l2 := by
      rw [← hF.ord]
      rcases entC_cases (ordI p m) l2 with h | h
      · exact h.1
      · exact absurd h.2 (by omega)
    have hw1 : 1 ≤ n.toNat := by omega
    have hGd := (Po.gcd_is (pol l : Po (El p m mod)) (xn1 n.toNat)).right
    have hGd2 := (Po.gcd_is (pol l2 : Po (El p m mod)) (xn1 n.toNat)).right
    refine tr_skip ?_
    refine tr_seq ?_
    refine tr_region fun _ _ _ => ?_
    refine st rfl rfl rfl rfl (rLdS rfl rfl rfl) ?_
    iterate 2 refine pu rfl rfl rfl rfl rfl ?_
    refine ef rfl rfl (eCall3 rfl rfl rfl (cyc_New _ _ _ _ _ _ hn1 hn9 _ _ _ l hnl (by omega) hin) ⟨rfl, rfl, rfl, trivial⟩ ?_) 
    rintro _ _ _ _ ⟨Bm, cm, B, r3, rfl, rfl, rfl, rfl, hC3⟩
    iterate 3 refine pu rfl rfl rfl rfl rfl ?_
    refine ef rfl rfl (eAlloc rfl rfl rfl (fun p3a => ?_)) 
    refine ef rfl rfl (eStS rfl rfl rfl rfl rfl rfl ?_) 
    refine pu rfl rfl rfl rfl rfl ?_
    refine tr_seq ?_
    have hc3 : CodeOk p m mod n r3 := hC3.ok hn1 hn9
    have hl3 := hc3.len
    have hcl3 := clos_of hw1 hC3.good hGd hC3.span
    have hgl3 := genP_len (p := p) (m := m) (mod := mod) (n := n.toNat) (by omega) (xss r3)
    rw [← il_length] at hgl3
    refine tr_region fun _ _ _ => ?_
    refine st rfl rfl rfl rfl (rLdS rfl rfl rfl) ?_
    iterate 2 refine pu rfl rfl rfl rfl rfl ?_
    refine ef rfl rfl (eCall3 rfl rfl rfl (cyc_New _ _ _ _ _ _ hn1 hn9 _ _ _ l2 hnh (by omega) hin2) ⟨rfl, rfl, rfl, trivial⟩ ?_) 
    rintro _ _ _ _ ⟨Bm4, cm4, B4, r4, rfl, rfl, rfl, rfl, hC4⟩
    iterate 3 refine pu rfl rfl rfl rfl rfl ?_
    refine ef rfl rfl (eAlloc rfl rfl rfl (fun p4a => ?_)) 
    refine ef rfl rfl (eStS rfl rfl rfl rfl rfl rfl ?_) 
    refine pu rfl rfl rfl rfl rfl ?_
    refine tr_seq ?_
    have hc4 : CodeOk p m mod n r4 := hC4.ok hn1 hn9
    have hl4 := hc4.len
    have hcl4 := clos_of hw1 hC4.good hGd2 hC4.span
    have hgl4 := genP_len (p := p) (m := m) (mod := mod) (n := n.toNat) (by omega) (xss r4)
    rw [← il_length] at hgl4
    have hx0 : 0 < (il (genP p m mod n.toNat (xss r3))).length := by rw [il_length]; exact Po.len_pos (genP_ne hw1 _)
    have hy0 : 0 < (il (genP p m mod n.toNat (xss r4))).length := by rw [il_length]; exact Po.len_pos (genP_ne hw1 _)
    have hg0 : Po.gcd (genP p m mod n.toNat (xss r3)) (genP p m mod n.toNat (xss r4)) ≠ 0 := Po.gcd_ne (.inl (genP_ne hw1 _))
    refine tr_region fun _ _ _ => ?_
    refine st rfl rfl rfl rfl (rLdS rfl rfl rfl) ?_
    refine ef rfl rfl (eCall1 rfl rfl rfl (cyc_Gen _ _ _ _ _ n B _ _ r3 rfl (by omega) hc3 hcl3) ⟨rfl, trivial⟩ ?_) 
    rintro _ _ ⟨Bx, cx, rfl, rfl⟩
    iterate 5 refine pu rfl rfl rfl rfl rfl ?_
    refine tr_seq ?_
    refine tr_region fun _ _ _ => ?_
    refine st rfl rfl rfl rfl (rLdS rfl rfl rfl) ?_
    refine ef rfl rfl (eCall1 rfl rfl rfl (cyc_Gen _ _ _ _ _ n B4 _ _ r4 rfl (by omega) hc4 hcl4) ⟨rfl, trivial⟩ ?_) 
    rintro _ _ ⟨By, cy, rfl, rfl⟩
    iterate 5 refine pu rfl rfl rfl rfl rfl ?_
    refine tr_seq ?_
    refine tr_seq ?_
    refine tr_region fun _ _ _ => ?_
    iterate 3 refine pu rfl rfl rfl rfl rfl ?_
    refine stg rfl rfl rfl rfl rfl (fun hb => by (have hq := hb; try simp only [zb1, zb2, zb3, zb4, zb5, zb6, zb7, zb8, zb9, zb10] at hq); exact rMove rfl rfl) ?_
    refine stg rfl rfl rfl rfl rfl (fun hb => by (have hq := hb; try simp only [zb1, zb2, zb3, zb4, zb5, zb6, zb7, zb8, zb9, zb10] at hq); exact rNeq rfl (evg rfl hb) rfl) ?_
    refine st rfl rfl rfl rfl (rOrB rfl rfl rfl rfl) ?_
    refine pu rfl rfl rfl rfl rfl ?_
    refine stg rfl rfl rfl rfl rfl (fun hb => by (have hq := hb; try simp only [zb1, zb2, zb3, zb4, zb5, zb6, zb7, zb8, zb9, zb10] at hq); exact rMove rfl rfl) ?_
    refine stg rfl rfl rfl rfl rfl (fun hb => by (have hq := hb; try simp only [zb1, zb2, zb3, zb4, zb5, zb6, zb7, zb8, zb9, zb10] at hq); exact rNeq rfl (evg rfl hb) rfl) ?_
    refine st rfl rfl rfl rfl (rOrB rfl rfl rfl rfl) ?_
    refine pu rfl rfl rfl rfl rfl ?_
    refine stg rfl rfl rfl rfl rfl (fun hb => by (have hq := hb; try simp only [zb1, zb2, zb3, zb4, zb5, zb6, zb7, zb8, zb9, zb10] at hq); exact rMove rfl rfl) ?_
    refine stg rfl rfl rfl rfl rfl (fun hb => by (have hq := hb; try simp only [zb1, zb2, zb3, zb4, zb5, zb6, zb7, zb8, zb9, zb10] at hq); exact rNeq rfl (evg rfl hb) rfl) ?_
    refine st rfl rfl rfl rfl (rOrB rfl rfl rfl rfl) ?_
    refine pu rfl rfl rfl rfl rfl ?_
    refine stg rfl rfl rfl rfl rfl (fun hb => by (have hq := hb; try simp only [zb1, zb2, zb3, zb4, zb5, zb6, zb7, zb8, zb9, zb10] at hq); exact rMove rfl rfl) ?_
    refine stg rfl rfl rfl rfl rfl (fun hb => by (have hq := hb; try simp only [zb1, zb2, zb3, zb4, zb5, zb6, zb7, zb8, zb9, zb10] at hq); exact rLen rfl (evg rfl hb)) ?_
    refine stg rfl rfl rfl rfl rfl (fun hb => by (have hq := hb; try simp only [zb1, zb2, zb3, zb4, zb5, zb6, zb7, zb8, zb9, zb10] at hq); exact rEql rfl (evg rfl hb) rfl) ?_
    refine st rfl rfl rfl rfl (rOrB rfl rfl rfl rfl) ?_
    refine pu rfl rfl rfl rfl rfl ?_
    refine stg rfl rfl rfl rfl rfl (fun hb => by (have hq := hb; try simp only [zb1, zb2, zb3, zb4, zb5, zb6, zb7, zb8, zb9, zb10] at hq); exact rMove rfl rfl) ?_
    refine stg rfl rfl rfl rfl rfl (fun hb => by (have hq := hb; try simp only [zb1, zb2, zb3, zb4, zb5, zb6, zb7, zb8, zb9, zb10] at hq); exact rLen rfl (evg rfl hb)) ?_
    refine stg rfl rfl rfl rfl rfl (fun hb => by (have hq := hb; try simp only [zb1, zb2, zb3, zb4, zb5, zb6, zb7, zb8, zb9, zb10] at hq); exact rEql rfl (evg rfl hb) rfl) ?_
    refine st rfl rfl rfl rfl (rOrB rfl rfl rfl rfl) ?_
    refine tr_cond_bool rfl (fun h7 => ?_) (fun h7 => ?_)
    · try simp only [zb1, zb2, zb3, zb4, zb5, zb6, zb7, zb8, zb9, zb10] at h7
      have e1 : ¬ il (genP p m mod n.toNat (xss r3)) = [] := fun h => by rw [h] at hx0; simp at hx0
      have e2 : ¬ il (genP p m mod n.toNat (xss r4)) = [] := fun h => by rw [h] at hy0; simp at hy0
      simp [e1, e2] at h7 --done
    · try simp only [zb1, zb2, zb3, zb4, zb5, zb6, zb7, zb8, zb9, zb10] at h7
      refine tr_skip ?_
      refine tr_seq ?_
      refine tr_region fun _ _ _ => ?_
      refine st rfl rfl rfl rfl (rLdS rfl rfl rfl) ?_
      refine st rfl rfl rfl rfl (rLdS rfl rfl rfl) ?_
      refine ef rfl rfl (eCall3 rfl rfl rfl (ref_CSum _ _ _ _ _ n B _ _ r3 rfl (by omega) hc3 Bm4 cm4 B4 _ _ r4 rfl (by omega) hc4) ⟨rfl, rfl, trivial⟩ ?_) 
      rintro _ _ _ _ ⟨Bm5, cm5, B5, cg5, r5, rfl, rfl, rfl, rfl, hC5⟩
      iterate 3 refine pu rfl rfl rfl rfl rfl ?_
      refine ef rfl rfl (eAlloc rfl rfl rfl (fun p9a => ?_)) 
      refine ef rfl rfl (eStS rfl rfl rfl rfl rfl rfl ?_) 
      refine pu rfl rfl rfl rfl rfl ?_
      refine tr_seq ?_
      refine tr_region fun _ _ _ => ?_
      refine st rfl rfl rfl rfl (rLdS rfl rfl rfl) ?_
      refine st rfl rfl rfl rfl (rLdS rfl rfl rfl) ?_
      refine ef rfl rfl (eCall3 rfl rfl rfl (ref_CMeet _ _ _ _ _ n B _ _ r3 rfl (by omega) hc3 Bm4 cm4 B4 _ _ r4 rfl (by omega) hc4) ⟨rfl, rfl, trivial⟩ ?_) 
      rintro _ _ _ _ ⟨Bm6, cm6, B6, cg6, r6, rfl, rfl, rfl, rfl, hC6⟩
      iterate 3 refine pu rfl rfl rfl rfl rfl ?_
      refine ef rfl rfl (eAlloc rfl rfl rfl (fun p10a => ?_)) 
      refine ef rfl rfl (eStS rfl rfl rfl rfl rfl rfl ?_) 
      refine pu rfl rfl rfl rfl rfl ?_
      refine tr_seq ?_
      have hc5 : CodeOk p m mod n r5 := hC5.ok hn1 hn9
      have hl5 := hc5.len
      have hc6 : CodeOk p m mod n r6 := hC6.ok hn1 hn9
      have hl6 := hc6.len
      obtain ⟨⟨hcl5, hg5⟩, hcl6, hg6⟩ := lat_gen hc3 hc4 hcl3 hcl4 hC5 hC6
      have hgl5 := genP_len (p := p) (m := m) (mod := mod) (n := n.toNat) (by omega) (xss r5)
      rw [← il_length] at hgl5
      have hgl6 := genP_len (p := p) (m := m) (mod := mod) (n := n.toNat) (by omega) (xss r6)
      rw [← il_length] at hgl6
      have hml := il_mul_le (p := p) (m := m) (mod := mod) (il (genP p m mod n.toNat (xss r3))) (il (genP p m mod n.toNat (xss r4)))
      have hgg : (il (Po.gcd (pol (il (genP p m mod n.toNat (xss r3))) : Po (El p m mod)) (pol (il (genP p m mod n.toNat (xss r4))) : Po (El p m mod)))).length ≤ n.toNat + 1 := by
        rw [pol_il, pol_il, ← hg5]; exact hgl5
      refine tr_region fun _ _ _ => ?_
      refine st rfl rfl rfl rfl (rLdS rfl rfl rfl) ?_
      iterate 2 refine pu rfl rfl rfl rfl rfl ?_
      refine ef rfl rfl (eCall1 rfl rfl rfl (ref_PGcd _ _ _ _ _ Bx _ _ (il (genP p m mod n.toNat (xss r3))) rfl (by omega) By _ _ (il (genP p m mod n.toNat (xss r4))) rfl (by omega)) ⟨rfl, rfl, rfl, trivial⟩ ?_) 
      rintro _ _ ⟨Bl, cl_, rfl, rfl⟩
      refine pu rfl rfl rfl rfl rfl ?_
      refine tr_seq ?_
      refine tr_draw [0, 1, 2, 3, 5, 4, 6, 7, 8, 9, 10, 11] [] mixed (by kernel_rfl) fun _ _ _ => ?_
      refine st rfl rfl rfl rfl (rLdS rfl rfl rfl) ?_
      refine st rfl rfl rfl rfl (rLdS rfl rfl rfl) ?_
      iterate 3 refine pu rfl rfl rfl rfl rfl ?_
      refine ef rfl rfl (eCall1 rfl rfl rfl (ref_PMul _ _ _ _ _ Bx _ _ (il (genP p m mod n.toNat (xss r3))) rfl (by omega) By _ _ (il (genP p m mod n.toNat (xss r4))) rfl (by omega)) ⟨rfl, rfl, rfl, trivial⟩ ?_) 
      rintro _ _ ⟨Bp, cp, rfl, rfl⟩
      refine ef rfl rfl (eCall2 rfl rfl rfl (ref_PDivMod _ _ _ _ _ Bp _ _ (il ((pol (il (genP p m mod n.toNat (xss r3))) : Po (El p m mod)) * (pol (il (genP p m mod n.toNat (xss r4))) : Po (El p m mod)))) rfl (by omega) Bl _ _ (il (Po.gcd (pol (il (genP p m mod n.toNat (xss r3))) : Po (El p m mod)) (pol (il (genP p m mod n.toNat (xss r4))) : Po (El p m mod)))) rfl (by omega) (by rw [pol_il, pol_il, pol_il]; exact hg0)) ⟨rfl, rfl, rfl, trivial⟩ ?_) 
      rintro _ _ _ ⟨Bq, cq, Br, cr, rfl, rfl, rfl⟩
      iterate 5 refine pu rfl rfl rfl rfl rfl ?_
      refine tr_seq ?_
      refine tr_region fun _ _ _ => ?_
      refine st rfl rfl rfl rfl (rLdS rfl rfl rfl) ?_
      refine ef rfl rfl (eCall1 rfl rfl rfl (cyc_Gen _ _ _ _ _ n B5 _ cg5 r5 rfl (by omega) hc5 hcl5) ⟨rfl, trivial⟩ ?_) 
      rintro _ _ ⟨Bv, cv, rfl, rfl⟩
      iterate 5 refine pu rfl rfl rfl rfl rfl ?_
      refine tr_seq ?_
      refine tr_region fun _ _ _ => ?_
      refine st rfl rfl rfl rfl (rLdS rfl rfl rfl) ?_
      refine ef rfl rfl (eCall1 rfl rfl rfl (cyc_Gen _ _ _ _ _ n B6 _ cg6 r6 rfl (by omega) hc6 hcl6) ⟨rfl, trivial⟩ ?_) 
      rintro _ _ ⟨Bw, cw, rfl, rfl⟩
      iterate 5 refine pu rfl rfl rfl rfl rfl ?_
      refine tr_seq ?_
      refine tr_region fun _ _ _ => ?_
      iterate 3 refine pu rfl rfl rfl rfl rfl ?_
      refine stg rfl rfl rfl rfl rfl (fun hb => by (have hq := hb; try simp only [zb1, zb2, zb3, zb4, zb5, zb6, zb7, zb8, zb9, zb10] at hq); exact rMove rfl rfl) ?_
      refine stg rfl rfl rfl rfl rfl (fun hb => by (have hq := hb; try simp only [zb1, zb2, zb3, zb4, zb5, zb6, zb7, zb8, zb9, zb10] at hq); exact rEql rfl (evg rfl hb) rfl) ?_
      refine st rfl rfl rfl rfl (rAndB rfl rfl rfl rfl) ?_
      refine pu rfl rfl rfl rfl rfl ?_
      refine stg rfl rfl rfl rfl rfl (fun hb => by (have hq := hb; try simp only [zb1, zb2, zb3, zb4, zb5, zb6, zb7, zb8, zb9, zb10] at hq); exact rMove rfl rfl) ?_
      refine stg rfl rfl rfl rfl rfl (fun hb => by (have hq := hb; try simp only [zb1, zb2, zb3, zb4, zb5, zb6, zb7, zb8, zb9, zb10] at hq); exact rEql rfl (evg rfl hb) rfl) ?_
      refine st rfl rfl rfl rfl (rAndB rfl rfl rfl rfl) ?_
      refine pu rfl rfl rfl rfl rfl ?_
      refine stg rfl rfl rfl rfl rfl (fun hb => by (have hq := hb; try simp only [zb1, zb2, zb3, zb4, zb5, zb6, zb7, zb8, zb9, zb10] at hq); exact rMove rfl rfl) ?_
      refine stg rfl rfl rfl rfl rfl (fun hb => by (have hq := hb; try simp only [zb1, zb2, zb3, zb4, zb5, zb6, zb7, zb8, zb9, zb10] at hq); exact rEql rfl (evg rfl hb) rfl) ?_
      refine st rfl rfl rfl rfl (rAndB rfl rfl rfl rfl) ?_
      refine pu rfl rfl rfl rfl rfl ?_
      refine stg rfl rfl rfl rfl rfl (fun hb => by (have hq := hb; try simp only [zb1, zb2, zb3, zb4, zb5, zb6, zb7, zb8, zb9, zb10] at hq); exact rMove rfl rfl) ?_
      refine stg rfl rfl rfl rfl rfl (fun hb => by (have hq := hb; try simp only [zb1, zb2, zb3, zb4, zb5, zb6, zb7, zb8, zb9, zb10] at hq); exact rMove rfl rfl) ?_
      refine efg rfl rfl rfl rfl rfl (fun hb => by (have hq := hb; try simp only [zb1, zb2, zb3, zb4, zb5, zb6, zb7, zb8, zb9, zb10] at hq); exact eCallV rfl rfl rfl (ref_SameInts _ _ _ (il (genP p m mod n.toNat (xss r5))) rfl _ _ _ (il (Po.gcd (pol (il (genP p m mod n.toNat (xss r3))) : Po (El p m mod)) (pol (il (genP p m mod n.toNat (xss r4))) : Po (El p m mod)))) rfl (by omega)) ⟨(evg rfl hb), (evg rfl hb), trivial⟩ ⟨rfl, rfl⟩) ?_
      refine st rfl rfl rfl rfl (rAndB rfl rfl rfl rfl) ?_
      refine pu rfl rfl rfl rfl rfl ?_
      refine stT rfl rfl rfl (by simp [pol_il, hg5]) rfl rfl (rMove rfl rfl) ?_
      refine stT rfl rfl rfl (by simp [pol_il, hg5]) rfl rfl (rMove rfl rfl) ?_
      refine efT rfl rfl rfl (by simp [pol_il, hg5]) (eCallV rfl rfl rfl (ref_SameInts _ _ _ (il (genP p m mod n.toNat (xss r6))) rfl _ _ _ (il (Po.quo (pol (il ((pol (il (genP p m mod n.toNat (xss r3))) : Po (El p m mod)) * (pol (il (genP p m mod n.toNat (xss r4))) : Po (El p m mod)))) : Po (El p m mod)) (pol (il (Po.gcd (pol (il (genP p m mod n.toNat (xss r3))) : Po (El p m mod)) (pol (il (genP p m mod n.toNat (xss r4))) : Po (El p m mod))))))) rfl (by omega)) ⟨rfl, rfl, trivial⟩ ?_) 
      refine st rfl rfl rfl rfl (rPick1 rfl rfl (by simp [pol_il, hg5]) rfl) ?_
      refine pu rfl rfl rfl rfl rfl ?_
      exact tr_ret ⟨trivial, _, _, rfl, ⟨by simp [pol_il, hg5, hg6, lcm], rfl⟩, CSub.nil _, trivial⟩

end Go.Proofs.YtjmojhflnjbgaaaGreat

/-
  CYCLICIS, PART 7 OF 10. One sentence: the texts behind the law CyclicIs, put together.
  Conditions: each theorem's own, written out in it.
-/
import Derived.Test.YtjmojhflnjbgaaaGreatK6
set_option linter.unusedSimpArgs false
set_option linter.unusedVariables false
set_option linter.unusedSectionVars false
set_option linter.unusedSimpArgs false
set_option linter.unusedVariables false
set_option maxRecDepth 100000
namespace Go.Proofs.YtjmojhflnjbgaaaGreat
open Go.RowKit

theorem cyc_partsE_ent : Enters Tryz.prog 68 := enters_of Tryz.func68 (by kernel_rfl) (by kernel_rfl)
theorem cyc_partsE (p m : Int) (A : Option Addr) (c : Nat) (mod : List Int) (hl9 : mod.length ≤ 17592186044415) (w : Int) (Aa : Option Addr) (n ca : Nat) (rs : List RowM) (hn : n = rs.length) (h9 : rs.length ≤ 17592186044415) (h8 : ∀ r ∈ rs, r.xs.length ≤ 17592186044415) (he : codC p m mod w rs ≠ 0) :
    Pure Tryz.prog 68 #[.agg #[.int .i64 p, .int .i64 m, .slice A mod.length c, .int .i64 w, .slice Aa n ca]] [ro A (ints mod), ro Aa (hdrs rs), rowsR rs] (isV (.tuple #[.pointer none, .slice none 0 0, .slice none 0 0, .int .i64 (codC p m mod w rs)])) := by
  refine pure_of (args := [.agg #[.int .i64 p, .int .i64 m, .slice A mod.length c, .int .i64 w, .slice Aa n ca]]) 61 Tryz.func68 rfl rfl rfl cyc_partsE_ent ⟨id, id, id, trivial⟩ (fun w0 => ?_)
  refine tr_seq ?_
  refine tr_region fun _ _ _ => ?_
  refine ef rfl rfl (eBox rfl rfl rfl rfl rfl (fun p0 => ?_)) 
  iterate 4 refine pu rfl rfl rfl rfl rfl ?_
  refine tr_seq ?_
  refine tr_region fun _ _ _ => ?_
  refine st rfl rfl rfl rfl (rLdS rfl rfl rfl) ?_
  refine ef rfl rfl (eCallV rfl rfl rfl (cyc_IsE p m A c mod hl9 w Aa n ca rs hn h9 h8 he) ⟨rfl, trivial⟩ ?_) 
  iterate 5 refine pu rfl rfl rfl rfl rfl ?_
  refine tr_seq ?_
  refine tr_seq ?_
  refine tr_region fun _ _ _ => ?_
  iterate 2 refine pu rfl rfl rfl rfl rfl ?_
  refine tr_cond_bool rfl (fun h2 => ?_) (fun h2 => ?_)
  · try simp only [zb1, zb2, zb3, zb4, zb5, zb6, zb7, zb8, zb9, zb10] at h2
    refine tr_seq ?_
    refine tr_region fun _ _ _ => ?_
    iterate 5 refine pu rfl rfl rfl rfl rfl ?_
    exact tr_ret ⟨trivial, _, _, rfl, ⟨rfl, rfl⟩, CSub.nil _, trivial⟩
  · try simp only [zb1, zb2, zb3, zb4, zb5, zb6, zb7, zb8, zb9, zb10] at h2
    omega --done

theorem cyc_partsN_ent : Enters Tryz.prog 68 := enters_of Tryz.func68 (by kernel_rfl) (by kernel_rfl)
theorem cyc_partsN (p m : Int) (A : Option Addr) (c : Nat) (mod : List Int) [hF : IsF p m mod] (w : Int) (Aa : Option Addr) (n ca : Nat) (rs : List RowM) (hn : n = rs.length) (h9 : rs.length ≤ 256) (hc : CodeOk p m mod w rs) (hcl : closB p m mod w.toNat rs = false) :
    Pure Tryz.prog 68 #[.agg #[.int .i64 p, .int .i64 m, .slice A mod.length c, .int .i64 w, .slice Aa n ca]] [ro A (ints mod), ro Aa (hdrs rs), rowsR rs] (isV (.tuple #[.pointer none, .slice none 0 0, .slice none 0 0, .int .i64 5])) := by
  have hl9 := hF.short
  have hn1 := hc.n1
  have hn64 := hc.n64
  have hlen := hc.len
  have hgd := hc.good
  have h8 := hgd.h8 (N := 17592186044415) (by omega)
  have hck := hc.zero
  refine pure_of (args := [.agg #[.int .i64 p, .int .i64 m, .slice A mod.length c, .int .i64 w, .slice Aa n ca]]) 61 Tryz.func68 rfl rfl rfl cyc_partsN_ent ⟨id, id, id, trivial⟩ (fun w0 => ?_)
  refine tr_seq ?_
  refine tr_region fun _ _ _ => ?_
  refine ef rfl rfl (eBox rfl rfl rfl rfl rfl (fun p0 => ?_)) 
  iterate 4 refine pu rfl rfl rfl rfl rfl ?_
  refine tr_seq ?_
  refine tr_region fun _ _ _ => ?_
  refine st rfl rfl rfl rfl (rLdS rfl rfl rfl) ?_
  refine ef rfl rfl (eCallV rfl rfl rfl (cyc_Is _ _ _ _ _ w Aa n ca rs hn h9 hc) ⟨rfl, trivial⟩ ?_) 
  iterate 5 refine pu rfl rfl rfl rfl rfl ?_
  refine tr_seq ?_
  refine tr_seq ?_
  refine tr_region fun _ _ _ => ?_
  iterate 2 refine pu rfl rfl rfl rfl rfl ?_
  refine tr_cond_bool rfl (fun h2 => ?_) (fun h2 => ?_)
  · try simp only [zb1, zb2, zb3, zb4, zb5, zb6, zb7, zb8, zb9, zb10] at h2
    first | exact absurd trivial h2 | exact absurd rfl h2 | omega | (exact absurd h2 (by simp)) --done
  · try simp only [zb1, zb2, zb3, zb4, zb5, zb6, zb7, zb8, zb9, zb10] at h2
    refine tr_skip ?_
    refine tr_seq ?_
    refine tr_seq ?_
    refine tr_region fun _ _ _ => ?_
    refine pu rfl rfl rfl rfl rfl ?_
    refine st rfl rfl rfl rfl (rNotB rfl rfl) ?_
    refine tr_cond_bool rfl (fun h4 => ?_) (fun h4 => ?_)
    · try simp only [zb1, zb2, zb3, zb4, zb5, zb6, zb7, zb8, zb9, zb10] at h4
      refine tr_seq ?_
      refine tr_region fun _ _ _ => ?_
      iterate 4 refine pu rfl rfl rfl rfl rfl ?_
      exact tr_ret ⟨trivial, _, _, rfl, ⟨rfl, rfl⟩, CSub.nil _, trivial⟩
    · try simp only [zb1, zb2, zb3, zb4, zb5, zb6, zb7, zb8, zb9, zb10] at h4
      rw [hcl] at h4; simp at h4 --done

theorem cyc_parts_ent : Enters Tryz.prog 68 := enters_of Tryz.func68 (by kernel_rfl) (by kernel_rfl)
theorem cyc_parts (p m : Int) (A : Option Addr) (c : Nat) (mod : List Int) [hF : IsF p m mod] (w : Int) (Aa : Option Addr) (n ca : Nat) (rs : List RowM) (hn : n = rs.length) (h9 : rs.length ≤ 256) (hc : CodeOk p m mod w rs) (hcl : closB p m mod w.toNat rs = true) :
    Pure Tryz.prog 68 #[.agg #[.int .i64 p, .int .i64 m, .slice A mod.length c, .int .i64 w, .slice Aa n ca]] [ro A (ints mod), ro Aa (hdrs rs), rowsR rs] (three (fun v c1 c2 c3 => ∃ (g : GfM) (Bg : Option Addr) (cg : Nat) (Bq : Option Addr) (cq : Nat), v = .tuple #[.pointer (some g.p), .slice Bg (il (genP p m mod w.toNat (xss rs))).length cg, .slice Bq (il (Po.quo (xn1 w.toNat : Po (El p m mod)) (genP p m mod w.toNat (xss rs)))).length cq, .int .i64 0] ∧ c1 = gfN g ∧ c2 = rx Bg (ints (il (genP p m mod w.toNat (xss rs)))) ∧ c3 = ow Bq 3 cq (ints (il (Po.quo (xn1 w.toNat : Po (El p m mod)) (genP p m mod w.toNat (xss rs))))) ∧ GOk g p m mod)) := by
  have hl9 := hF.short
  have hn1 := hc.n1
  have hn64 := hc.n64
  have hlen := hc.len
  have hgd := hc.good
  have h8 := hgd.h8 (N := 17592186044415) (by omega)
  have hck := hc.zero
  refine pure_of (args := [.agg #[.int .i64 p, .int .i64 m, .slice A mod.length c, .int .i64 w, .slice Aa n ca]]) 61 Tryz.func68 rfl rfl rfl cyc_parts_ent ⟨id, id, id, trivial⟩ (fun w0 => ?_)
  refine tr_seq ?_
  refine tr_region fun _ _ _ => ?_
  refine ef rfl rfl (eBox rfl rfl rfl rfl rfl (fun p0 => ?_)) 
  iterate 4 refine pu rfl rfl rfl rfl rfl ?_
  refine tr_seq ?_
  refine tr_region fun _ _ _ => ?_
  refine st rfl rfl rfl rfl (rLdS rfl rfl rfl) ?_
  refine ef rfl rfl (eCallV rfl rfl rfl (cyc_Is _ _ _ _ _ w Aa n ca rs hn h9 hc) ⟨rfl, trivial⟩ ?_) 
  iterate 5 refine pu rfl rfl rfl rfl rfl ?_
  refine tr_seq ?_
  refine tr_seq ?_
  refine tr_region fun _ _ _ => ?_
  iterate 2 refine pu rfl rfl rfl rfl rfl ?_
  refine tr_cond_bool rfl (fun h2 => ?_) (fun h2 => ?_)
  · try simp only [zb1, zb2, zb3, zb4, zb5, zb6, zb7, zb8, zb9, zb10] at h2
    first | exact absurd trivial h2 | exact absurd rfl h2 | omega | (exact absurd h2 (by simp)) --done
  · try simp only [zb1, zb2, zb3, zb4, zb5, zb6, zb7, zb8, zb9, zb10] at h2
    refine tr_skip ?_
    refine tr_seq ?_
    refine tr_seq ?_
    refine tr_region fun _ _ _ => ?_
    refine pu rfl rfl rfl rfl rfl ?_
    refine st rfl rfl rfl rfl (rNotB rfl rfl) ?_
    refine tr_cond_bool rfl (fun h4 => ?_) (fun h4 => ?_)
    · try simp only [zb1, zb2, zb3, zb4, zb5, zb6, zb7, zb8, zb9, zb10] at h4
      rw [hcl] at h4; simp at h4 --done
    · try simp only [zb1, zb2, zb3, zb4, zb5, zb6, zb7, zb8, zb9, zb10] at h4
      refine tr_skip ?_
      refine tr_seq ?_
      refine tr_region fun _ _ _ => ?_
      refine st rfl rfl rfl rfl (rFld rfl rfl) ?_
      refine st rfl rfl rfl rfl (rLdSF rfl rfl) ?_
      refine ef rfl rfl (eCall1 rfl rfl rfl (fld_New_ok _ _ _ _ _ (by omega) hF.out) ⟨rfl, trivial⟩ ?_) 
      rintro _ _ ⟨g, rfl, rfl, hg⟩
      iterate 5 refine pu rfl rfl rfl rfl rfl ?_
      refine tr_seq ?_
      refine tr_region fun _ _ _ => ?_
      refine pu rfl rfl rfl rfl rfl ?_
      refine st rfl rfl rfl rfl (rFld rfl rfl) ?_
      refine st rfl rfl rfl rfl (rLdF rfl rfl rfl) ?_
      refine ef rfl rfl (eCall1 rfl rfl rfl (cyc_around g hg w hn1 (by omega)) ⟨rfl, rfl, trivial⟩ ?_) 
      rintro _ _ ⟨B7, rfl, rfl⟩
      refine pu rfl rfl rfl rfl rfl ?_
      rw [around_il (show 1 ≤ w.toNat by omega)]
      have hxl : (il (xn1 w.toNat : Po (El p m mod))).length ≤ 17592186044415 := by rw [il_length, xn1_len (by omega)]; omega
      refine tr_seq ?_
      refine tr_region fun _ _ _ => ?_
      iterate 2 refine pu rfl rfl rfl rfl rfl ?_
      refine tr_seq ?_
      refine tr_seq ?_
      refine tr_region fun _ _ _ => ?_
      refine st rfl rfl rfl rfl (rFld rfl rfl) ?_
      refine st rfl rfl rfl rfl (rLdF rfl rfl rfl) ?_
      refine st rfl rfl rfl rfl (rLen rfl rfl) ?_
      refine pu rfl rfl rfl rfl rfl ?_
      refine tr_block ?_
      refine tr_loop3 (fun (j : Int) (Bg : Option Addr) (cg : Nat) => [(11, .slice Bg (il (genP p m mod w.toNat ((xss rs).take j.toNat))).length cg), (10, .slice B7 (il (xn1 w.toNat : Po (El p m mod))).length (il (xn1 w.toNat : Po (El p m mod))).length), (39, .slice Aa n ca), (40, .int .i64 n), (41, .int .i64 j), (2, .pointer none), (3, .slice none 0 0), (4, .slice none 0 0), (5, .int .i64 0), (8, .pointer (some g.p))]) (fun (j : Int) (Bg : Option Addr) (cg : Nat) => [rr Bg (ints (il (genP p m mod w.toNat ((xss rs).take j.toNat)))) B7 (ints (il (xn1 w.toNat : Po (El p m mod)))), gfN g, blk p0 27 [.int .i64 p, .int .i64 m, .slice A mod.length c, .int .i64 w, .slice Aa n ca], ro A (ints mod), ro Aa (hdrs rs), rowsR rs]) (fun (j : Int) (Bg : Option Addr) (cg : Nat) => 0 ≤ j ∧ j ≤ n) (fun (j : Int) (Bg : Option Addr) (cg : Nat) => (n - j).toNat) (0) (B7) ((il (xn1 w.toNat : Po (El p m mod))).length) ⟨rfl, rfl, rfl, rfl, rfl, rfl, rfl, rfl, rfl, rfl, trivial⟩ (by rw [Int.toNat_zero, List.take_zero, genP_nil]; exact (rr_of _).trans (cs _ _)) (by omega) (fun j Bg cg hI => ?_)
      obtain ⟨hj0, hj1⟩ := hI
      have hfl := genP_len (p := p) (m := m) (mod := mod) (n := w.toNat) (by omega) ((xss rs).take j.toNat)
      rw [← il_length] at hfl
      have hfn := genP_ne (p := p) (m := m) (mod := mod) (n := w.toNat) (by omega) ((xss rs).take j.toNat)
      refine tr_seq ?_
      refine tr_region fun _ _ _ => ?_
      refine pu rfl rfl rfl rfl rfl ?_
      refine tr_seq ?_
      refine tr_cond_bool rfl (fun h10 => ?_) (fun h10 => ?_)
      · try simp only [zb1, zb2, zb3, zb4, zb5, zb6, zb7, zb8, zb9, zb10] at h10
        refine tr_skip ?_
        refine tr_seq ?_
        refine tr_block ?_
        refine tr_seq ?_
        have hgj := hgd.get (show j.toNat < rs.length by omega)
        haveI : InB j.toNat rs.length := ⟨by omega⟩
        have hgj1 := hgj.1
        have hgj2 := hgj.2
        refine tr_region fun _ _ _ => ?_
        refine st rfl rfl rfl rfl (rIdxR rfl rfl rfl (by omega) (by omega) (by omega)) ?_
        refine st rfl rfl rfl rfl (rLdR rfl rfl (by omega)) ?_
        refine pu rfl rfl rfl rfl rfl ?_
        refine tr_region fun _ _ _ => ?_
        iterate 3 refine pu rfl rfl rfl rfl rfl ?_
        refine ef rfl rfl (eCall1 rfl rfl rfl (poly_Gcd g hg Bg _ _ (il (genP p m mod w.toNat ((xss rs).take j.toNat))) rfl (by omega) _ _ _ (rs.getD j.toNat rowD).xs rfl (by omega) (.inl (by rw [pol_il]; exact hfn))) ⟨rfl, rfl, rfl, trivial⟩ ?_) 
        rintro _ _ ⟨Bn, cn, rfl, rfl⟩
        refine pu rfl rfl rfl rfl rfl ?_
        have htk : (xss rs).take (j + 1).toNat = (xss rs).take j.toNat ++ [(rs.getD j.toNat rowD).xs] := by
          rw [show (j + 1).toNat = j.toNat + 1 by omega, List.take_add_one, List.getElem?_eq_getElem (show j.toNat < (xss rs).length by rw [xss_length]; omega)]
          have := xss_getD rs j.toNat
          rw [List.getD_eq_getElem?_getD, List.getElem?_eq_getElem (show j.toNat < (xss rs).length by rw [xss_length]; omega)] at this
          rw [← this]; rfl
        rw [pol_il, ← genP_snoc, ← htk]
        refine tr_region fun _ _ _ => ?_
        refine st rfl rfl rfl rfl (rAdd rfl rfl rfl (by omega) (by omega)) ?_
        refine pu rfl rfl rfl rfl rfl ?_
        refine ⟨j + 1, Bn, cn, ⟨rfl, rfl, rfl, rfl, rfl, rfl, rfl, rfl, rfl, rfl, trivial⟩, by exact rr_step _, ?_⟩
        exact ⟨⟨by omega, by omega⟩, by omega⟩
      · try simp only [zb1, zb2, zb3, zb4, zb5, zb6, zb7, zb8, zb9, zb10] at h10
        refine tr_exit ?_
        refine tr_seq ?_
        have hjn : (xss rs).take j.toNat = xss rs := List.take_of_length_le (by rw [xss_length]; omega)
        rw [hjn] at hfl hfn ⊢
        refine tr_region fun _ _ _ => ?_
        iterate 3 refine pu rfl rfl rfl rfl rfl ?_
        refine ef rfl rfl (eCall2 rfl rfl rfl (poly_DivMod g hg B7 _ _ (il (xn1 w.toNat : Po (El p m mod))) rfl hxl Bg _ _ (il (genP p m mod w.toNat (xss rs))) rfl (by omega) (by rw [pol_il]; exact hfn)) ⟨rfl, rfl, rfl, trivial⟩ ?_) 
        rintro _ _ _ ⟨Bq, cq, Br, cr, rfl, rfl, rfl⟩
        iterate 7 refine pu rfl rfl rfl rfl rfl ?_
        simp only [pol_il]
        refine tr_seq ?_
        refine tr_region fun _ _ _ => ?_
        iterate 7 refine pu rfl rfl rfl rfl rfl ?_
        exact tr_ret ⟨trivial, _, _, rfl, ⟨_, _, _, rfl, g, Bg, cg, Bq, cq, rfl, rfl, rfl, rfl, hg⟩, (cs _ [rr Bg (ints (il (genP p m mod w.toNat (xss rs)))) B7 (ints (il (xn1 w.toNat : Po (El p m mod)))), gfN g, ow Bq 3 cq (ints (il (Po.quo (xn1 w.toNat : Po (El p m mod)) (genP p m mod w.toNat (xss rs)))))]).trans ((rr_fst _).trans (cs _ _)), gfO_excl _ _ _, trivial, trivial, trivial⟩

theorem cyc_GenE_ent : Enters Tryz.prog 19 := enters_of Tryz.func19 (by kernel_rfl) (by kernel_rfl)
theorem cyc_GenE (p m : Int) (A : Option Addr) (c : Nat) (mod : List Int) (hl9 : mod.length ≤ 17592186044415) (w : Int) (Aa : Option Addr) (n ca : Nat) (rs : List RowM) (hn : n = rs.length) (h9 : rs.length ≤ 17592186044415) (h8 : ∀ r ∈ rs, r.xs.length ≤ 17592186044415) (he : codC p m mod w rs ≠ 0) :
    Pure Tryz.prog 19 #[.agg #[.int .i64 p, .int .i64 m, .slice A mod.length c, .int .i64 w, .slice Aa n ca]] [ro A (ints mod), ro Aa (hdrs rs), rowsR rs] (isV (.tuple #[.slice none 0 0, .int .i64 (codC p m mod w rs)])) := by
  refine pure_of (args := [.agg #[.int .i64 p, .int .i64 m, .slice A mod.length c, .int .i64 w, .slice Aa n ca]]) 17 Tryz.func19 rfl rfl rfl cyc_GenE_ent ⟨id, id, id, trivial⟩ (fun w0 => ?_)
  refine tr_seq ?_
  refine tr_region fun _ _ _ => ?_
  refine ef rfl rfl (eBox rfl rfl rfl rfl rfl (fun p0 => ?_)) 
  iterate 2 refine pu rfl rfl rfl rfl rfl ?_
  refine tr_seq ?_
  refine tr_region fun _ _ _ => ?_
  refine st rfl rfl rfl rfl (rLdS rfl rfl rfl) ?_
  refine ef rfl rfl (eCallV rfl rfl rfl (cyc_partsE p m A c mod hl9 w Aa n ca rs hn h9 h8 he) ⟨rfl, trivial⟩ ?_) 
  iterate 9 refine pu rfl rfl rfl rfl rfl ?_
  refine tr_seq ?_
  refine tr_region fun _ _ _ => ?_
  iterate 4 refine pu rfl rfl rfl rfl rfl ?_
  exact tr_ret ⟨trivial, _, _, rfl, ⟨rfl, rfl⟩, CSub.nil _, trivial⟩

theorem cyc_GenN_ent : Enters Tryz.prog 19 := enters_of Tryz.func19 (by kernel_rfl) (by kernel_rfl)
theorem cyc_GenN (p m : Int) (A : Option Addr) (c : Nat) (mod : List Int) [hF : IsF p m mod] (w : Int) (Aa : Option Addr) (n ca : Nat) (rs : List RowM) (hn : n = rs.length) (h9 : rs.length ≤ 256) (hc : CodeOk p m mod w rs) (hcl : closB p m mod w.toNat rs = false) :
    Pure Tryz.prog 19 #[.agg #[.int .i64 p, .int .i64 m, .slice A mod.length c, .int .i64 w, .slice Aa n ca]] [ro A (ints mod), ro Aa (hdrs rs), rowsR rs] (isV (.tuple #[.slice none 0 0, .int .i64 5])) := by
  refine pure_of (args := [.agg #[.int .i64 p, .int .i64 m, .slice A mod.length c, .int .i64 w, .slice Aa n ca]]) 17 Tryz.func19 rfl rfl rfl cyc_GenN_ent ⟨id, id, id, trivial⟩ (fun w0 => ?_)
  refine tr_seq ?_
  refine tr_region fun _ _ _ => ?_
  refine ef rfl rfl (eBox rfl rfl rfl rfl rfl (fun p0 => ?_)) 
  iterate 2 refine pu rfl rfl rfl rfl rfl ?_
  refine tr_seq ?_
  refine tr_region fun _ _ _ => ?_
  refine st rfl rfl rfl rfl (rLdS rfl rfl rfl) ?_
  refine ef rfl rfl (eCallV rfl rfl rfl (cyc_partsN _ _ _ _ _ w Aa n ca rs hn h9 hc hcl) ⟨rfl, trivial⟩ ?_) 
  iterate 9 refine pu rfl rfl rfl rfl rfl ?_
  refine tr_seq ?_
  refine tr_region fun _ _ _ => ?_
  iterate 4 refine pu rfl rfl rfl rfl rfl ?_
  exact tr_ret ⟨trivial, _, _, rfl, ⟨rfl, rfl⟩, CSub.nil _, trivial⟩

theorem cyc_CtlE_ent : Enters Tryz.prog 20 := enters_of Tryz.func20 (by kernel_rfl) (by kernel_rfl)
theorem cyc_CtlE (p m : Int) (A : Option Addr) (c : Nat) (mod : List Int) (hl9 : mod.length ≤ 17592186044415) (w : Int) (Aa : Option Addr) (n ca : Nat) (rs : List RowM) (hn : n = rs.length) (h9 : rs.length ≤ 17592186044415) (h8 : ∀ r ∈ rs, r.xs.length ≤ 17592186044415) (he : codC p m mod w rs ≠ 0) :
    Pure Tryz.prog 20 #[.agg #[.int .i64 p, .int .i64 m, .slice A mod.length c, .int .i64 w, .slice Aa n ca]] [ro A (ints mod), ro Aa (hdrs rs), rowsR rs] (isV (.tuple #[.slice none 0 0, .int .i64 (codC p m mod w rs)])) := by
  refine pure_of (args := [.agg #[.int .i64 p, .int .i64 m, .slice A mod.length c, .int .i64 w, .slice Aa n ca]]) 17 Tryz.func20 rfl rfl rfl cyc_CtlE_ent ⟨id, id, id, trivial⟩ (fun w0 => ?_)
  refine tr_seq ?_
  refine tr_region fun _ _ _ => ?_
  refine ef rfl rfl (eBox rfl rfl rfl rfl rfl (fun p0 => ?_)) 
  iterate 2 refine pu rfl rfl rfl rfl rfl ?_
  refine tr_seq ?_
  refine tr_region fun _ _ _ => ?_
  refine st rfl rfl rfl rfl (rLdS rfl rfl rfl) ?_
  refine ef rfl rfl (eCallV rfl rfl rfl (cyc_partsE p m A c mod hl9 w Aa n ca rs hn h9 h8 he) ⟨rfl, trivial⟩ ?_) 
  iterate 9 refine pu rfl rfl rfl rfl rfl ?_
  refine tr_seq ?_
  refine tr_region fun _ _ _ => ?_
  iterate 4 refine pu rfl rfl rfl rfl rfl ?_
  exact tr_ret ⟨trivial, _, _, rfl, ⟨rfl, rfl⟩, CSub.nil _, trivial⟩

theorem cyc_CtlN_ent : Enters Tryz.prog 20 := enters_of Tryz.func20 (by kernel_rfl) (by kernel_rfl)
theorem cyc_CtlN (p m : Int) (A : Option Addr) (c : Nat) (mod : List Int) [hF : IsF p m mod] (w : Int) (Aa : Option Addr) (n ca : Nat) (rs : List RowM) (hn : n = rs.length) (h9 : rs.length ≤ 256) (hc : CodeOk p m mod w rs) (hcl : closB p m mod w.toNat rs = false) :
    Pure Tryz.prog 20 #[.agg #[.int .i64 p, .int .i64 m, .slice A mod.length c, .int .i64 w, .slice Aa n ca]] [ro A (ints mod), ro Aa (hdrs rs), rowsR rs] (isV (.tuple #[.slice none 0 0, .int .i64 5])) := by
  refine pure_of (args := [.agg #[.int .i64 p, .int .i64 m, .slice A mod.length c, .int .i64 w, .slice Aa n ca]]) 17 Tryz.func20 rfl rfl rfl cyc_CtlN_ent ⟨id, id, id, trivial⟩ (fun w0 => ?_)
  refine tr_seq ?_
  refine tr_region fun _ _ _ => ?_
  refine ef rfl rfl (eBox rfl rfl rfl rfl rfl (fun p0 => ?_)) 
  iterate 2 refine pu rfl rfl rfl rfl rfl ?_
  refine tr_seq ?_
  refine tr_region fun _ _ _ => ?_
  refine st rfl rfl rfl rfl (rLdS rfl rfl rfl) ?_
  refine ef rfl rfl (eCallV rfl rfl rfl (cyc_partsN _ _ _ _ _ w Aa n ca rs hn h9 hc hcl) ⟨rfl, trivial⟩ ?_) 
  iterate 9 refine pu rfl rfl rfl rfl rfl ?_
  refine tr_seq ?_
  refine tr_region fun _ _ _ => ?_
  iterate 4 refine pu rfl rfl rfl rfl rfl ?_
  exact tr_ret ⟨trivial, _, _, rfl, ⟨rfl, rfl⟩, CSub.nil _, trivial⟩

theorem cyc_Gen_ent : Enters Tryz.prog 19 := enters_of Tryz.func19 (by kernel_rfl) (by kernel_rfl)
theorem cyc_Gen (p m : Int) (A : Option Addr) (c : Nat) (mod : List Int) [hF : IsF p m mod] (w : Int) (Aa : Option Addr) (n ca : Nat) (rs : List RowM) (hn : n = rs.length) (h9 : rs.length ≤ 256) (hc : CodeOk p m mod w rs) (hcl : closB p m mod w.toNat rs = true) :
    Pure Tryz.prog 19 #[.agg #[.int .i64 p, .int .i64 m, .slice A mod.length c, .int .i64 w, .slice Aa n ca]] [ro A (ints mod), ro Aa (hdrs rs), rowsR rs] (one (fun v ch => ∃ B cb, v = .tuple #[.slice B (il (genP p m mod w.toNat (xss rs))).length cb, .int .i64 0] ∧ ch = rx B (ints (il (genP p m mod w.toNat (xss rs)))))) := by
  refine pure_of (args := [.agg #[.int .i64 p, .int .i64 m, .slice A mod.length c, .int .i64 w, .slice Aa n ca]]) 17 Tryz.func19 rfl rfl rfl cyc_Gen_ent ⟨id, id, id, trivial⟩ (fun w0 => ?_)
  refine tr_seq ?_
  refine tr_region fun _ _ _ => ?_
  refine ef rfl rfl (eBox rfl rfl rfl rfl rfl (fun p0 => ?_)) 
  iterate 2 refine pu rfl rfl rfl rfl rfl ?_
  refine tr_seq ?_
  refine tr_region fun _ _ _ => ?_
  refine st rfl rfl rfl rfl (rLdS rfl rfl rfl) ?_
  refine ef rfl rfl (eCall3 rfl rfl rfl (cyc_parts _ _ _ _ _ w Aa n ca rs hn h9 hc hcl) ⟨rfl, trivial⟩ ?_) 
  rintro _ _ _ _ ⟨g, Bg, cg, Bq, cq, rfl, rfl, rfl, rfl, hg⟩
  iterate 9 refine pu rfl rfl rfl rfl rfl ?_
  refine tr_seq ?_
  refine tr_region fun _ _ _ => ?_
  iterate 4 refine pu rfl rfl rfl rfl rfl ?_
  exact tr_ret ⟨trivial, _, _, rfl, ⟨_, rfl, Bg, cg, rfl, rfl⟩, cs _ _, trivial, trivial⟩

theorem cyc_Ctl_ent : Enters Tryz.prog 20 := enters_of Tryz.func20 (by kernel_rfl) (by kernel_rfl)
theorem cyc_Ctl (p m : Int) (A : Option Addr) (c : Nat) (mod : List Int) [hF : IsF p m mod] (w : Int) (Aa : Option Addr) (n ca : Nat) (rs : List RowM) (hn : n = rs.length) (h9 : rs.length ≤ 256) (hc : CodeOk p m mod w rs) (hcl : closB p m mod w.toNat rs = true) :
    Pure Tryz.prog 20 #[.agg #[.int .i64 p, .int .i64 m, .slice A mod.length c, .int .i64 w, .slice Aa n ca]] [ro A (ints mod), ro Aa (hdrs rs), rowsR rs] (one (fun v ch => ∃ B cb, v = .tuple #[.slice B (il (Po.quo (xn1 w.toNat : Po (El p m mod)) (genP p m mod w.toNat (xss rs)))).length cb, .int .i64 0] ∧ ch = ow B 3 cb (ints (il (Po.quo (xn1 w.toNat : Po (El p m mod)) (genP p m mod w.toNat (xss rs))))))) := by
  refine pure_of (args := [.agg #[.int .i64 p, .int .i64 m, .slice A mod.length c, .int .i64 w, .slice Aa n ca]]) 17 Tryz.func20 rfl rfl rfl cyc_Ctl_ent ⟨id, id, id, trivial⟩ (fun w0 => ?_)
  refine tr_seq ?_
  refine tr_region fun _ _ _ => ?_
  refine ef rfl rfl (eBox rfl rfl rfl rfl rfl (fun p0 => ?_)) 
  iterate 2 refine pu rfl rfl rfl rfl rfl ?_
  refine tr_seq ?_
  refine tr_region fun _ _ _ => ?_
  refine st rfl rfl rfl rfl (rLdS rfl rfl rfl) ?_
  refine ef rfl rfl (eCall3 rfl rfl rfl (cyc_parts _ _ _ _ _ w Aa n ca rs hn h9 hc hcl) ⟨rfl, trivial⟩ ?_) 
  rintro _ _ _ _ ⟨g, Bg, cg, Bq, cq, rfl, rfl, rfl, rfl, hg⟩
  iterate 9 refine pu rfl rfl rfl rfl rfl ?_
  refine tr_seq ?_
  refine tr_region fun _ _ _ => ?_
  iterate 4 refine pu rfl rfl rfl rfl rfl ?_
  exact tr_ret ⟨trivial, _, _, rfl, ⟨_, rfl, Bq, cq, rfl, rfl⟩, cs _ _, trivial, trivial⟩

theorem ref_Gen_ent : Enters Tryz.prog 24 := enters_of Tryz.func24 (by kernel_rfl) (by kernel_rfl)
theorem ref_Gen (p m : Int) (A : Option Addr) (c : Nat) (mod : List Int) [hF : IsF p m mod] (w : Int) (Aa : Option Addr) (n ca : Nat) (rs : List RowM) (hn : n = rs.length) (h9 : rs.length ≤ 256) (hc : CodeOk p m mod w rs) :
    Pure Tryz.prog 24 #[.agg #[.int .i64 p, .int .i64 m, .slice A mod.length c, .int .i64 w, .slice Aa n ca]] [ro A (ints mod), ro Aa (hdrs rs), rowsR rs] (one (fun v ch => ∃ B cb, v = .slice B (il (genP p m mod w.toNat (xss rs))).length cb ∧ ch = ow B 3 cb (ints (il (genP p m mod w.toNat (xss rs)))))) := by
  have hl9 := hF.short
  have hn1 := hc.n1
  have hn64 := hc.n64
  have hlen := hc.len
  have hgd := hc.good
  have h8 := hgd.h8 (N := 17592186044415) (by omega)
  have hck := hc.zero
  refine pure_of (args := [.agg #[.int .i64 p, .int .i64 m, .slice A mod.length c, .int .i64 w, .slice Aa n ca]]) 27 Tryz.func24 rfl rfl rfl ref_Gen_ent ⟨id, id, id, trivial⟩ (fun w0 => ?_)
  refine tr_seq ?_
  refine tr_region fun _ _ _ => ?_
  refine ef rfl rfl (eBox rfl rfl rfl rfl rfl (fun p0 => ?_)) 
  refine pu rfl rfl rfl rfl rfl ?_
  refine tr_seq ?_
  refine tr_region fun _ _ _ => ?_
  refine st rfl rfl rfl rfl (rFld rfl rfl) ?_
  refine st rfl rfl rfl rfl (rLdSF rfl rfl) ?_
  refine st rfl rfl rfl rfl (rFld rfl rfl) ?_
  refine st rfl rfl rfl rfl (rLdF rfl rfl rfl) ?_
  refine ef rfl rfl (eCall1 rfl rfl rfl (ref_Modulus _ _ _ _ _ w hn1 (by omega)) ⟨rfl, rfl, trivial⟩ ?_) 
  rintro _ _ ⟨Bx, cx, rfl, rfl⟩
  refine pu rfl rfl rfl rfl rfl ?_
  refine tr_seq ?_
  refine tr_seq ?_
  refine tr_region fun _ _ _ => ?_
  refine pu rfl rfl rfl rfl rfl ?_
  refine tr_block ?_
  refine tr_loop3 (fun (j : Int) (Bg : Option Addr) (cg : Nat) => [(3, .slice Bg (il (genP p m mod w.toNat ((xss rs).take j.toNat))).length cg), (4, .int .i64 j), (1, .pointer (some p0)), (2, .slice none 0 0)]) (fun (j : Int) (Bg : Option Addr) (cg : Nat) => [ow Bg 3 cg (ints (il (genP p m mod w.toNat ((xss rs).take j.toNat)))), blk p0 27 [.int .i64 p, .int .i64 m, .slice A mod.length c, .int .i64 w, .slice Aa n ca], ro A (ints mod), ro Aa (hdrs rs), rowsR rs]) (fun (j : Int) (Bg : Option Addr) (cg : Nat) => 0 ≤ j ∧ j ≤ n) (fun (j : Int) (Bg : Option Addr) (cg : Nat) => (n - j).toNat) (0) (Bx) (cx) ⟨rfl, rfl, rfl, rfl, trivial⟩ (by rw [Int.toNat_zero, List.take_zero, genP_nil]; exact cs _ _) (by omega) (fun j Bg cg hI => ?_)
  obtain ⟨hj0, hj1⟩ := hI
  have hfl := genP_len (p := p) (m := m) (mod := mod) (n := w.toNat) (by omega) ((xss rs).take j.toNat)
  rw [← il_length] at hfl
  have hfn := genP_ne (p := p) (m := m) (mod := mod) (n := w.toNat) (by omega) ((xss rs).take j.toNat)
  refine tr_seq ?_
  refine tr_seq ?_
  refine tr_region fun _ _ _ => ?_
  refine pu rfl rfl rfl rfl rfl ?_
  refine st rfl rfl rfl rfl (rFld rfl rfl) ?_
  refine st rfl rfl rfl rfl (rLdF rfl rfl rfl) ?_
  refine st rfl rfl rfl rfl (rLen rfl rfl) ?_
  refine pu rfl rfl rfl rfl rfl ?_
  refine tr_cond_bool rfl (fun h3 => ?_) (fun h3 => ?_)
  · try simp only [zb1, zb2, zb3, zb4, zb5, zb6, zb7, zb8, zb9, zb10] at h3
    refine tr_skip ?_
    refine tr_seq ?_
    refine tr_block ?_
    have hgj := hgd.get (show j.toNat < rs.length by omega)
    haveI : InB j.toNat rs.length := ⟨by omega⟩
    have hgj1 := hgj.1
    have hgj2 := hgj.2
    refine tr_draw [0, 1, 2, 3, 4, 5, 6, 7, 8, 9] [] mixed (by kernel_rfl) fun _ _ _ => ?_
    refine st rfl rfl rfl rfl (rFld rfl rfl) ?_
    refine st rfl rfl rfl rfl (rLdSF rfl rfl) ?_
    refine pu rfl rfl rfl rfl rfl ?_
    refine st rfl rfl rfl rfl (rFld rfl rfl) ?_
    refine st rfl rfl rfl rfl (rLdF rfl rfl rfl) ?_
    refine pu rfl rfl rfl rfl rfl ?_
    refine st rfl rfl rfl rfl (rIdxR rfl rfl rfl (by omega) (by omega) (by omega)) ?_
    refine st rfl rfl rfl rfl (rLdR rfl rfl (by omega)) ?_
    refine ef rfl rfl (eCall1 rfl rfl rfl (ref_PGcd _ _ _ _ _ Bg _ _ (il (genP p m mod w.toNat ((xss rs).take j.toNat))) rfl (by omega) _ _ _ (rs.getD j.toNat rowD).xs rfl (by omega)) ⟨rfl, rfl, rfl, trivial⟩ ?_) 
    rintro _ _ ⟨Bn, cn, rfl, rfl⟩
    refine pu rfl rfl rfl rfl rfl ?_
    have htk : (xss rs).take (j + 1).toNat = (xss rs).take j.toNat ++ [(rs.getD j.toNat rowD).xs] := by
      rw [show (j + 1).toNat = j.toNat + 1 by omega, List.take_add_one, List.getElem?_eq_getElem (show j.toNat < (xss rs).length by rw [xss_length]; omega)]
      have := xss_getD rs j.toNat
      rw [List.getD_eq_getElem?_getD, List.getElem?_eq_getElem (show j.toNat < (xss rs).length by rw [xss_length]; omega)] at this
      rw [← this]; rfl
    rw [pol_il, ← genP_snoc, ← htk]
    refine tr_region fun _ _ _ => ?_
    refine pu rfl rfl rfl rfl rfl ?_
    refine st rfl rfl rfl rfl (rAdd rfl rfl rfl (by omega) (by omega)) ?_
    refine pu rfl rfl rfl rfl rfl ?_
    refine ⟨j + 1, Bn, cn, ⟨rfl, rfl, rfl, rfl, trivial⟩, by first | exact cs _ _ | exact CSub.refl _, ?_⟩
    exact ⟨⟨by omega, by omega⟩, by omega⟩
  · try simp only [zb1, zb2, zb3, zb4, zb5, zb6, zb7, zb8, zb9, zb10] at h3
    refine tr_exit ?_
    refine tr_seq ?_
    refine tr_region fun _ _ _ => ?_
    iterate 2 refine pu rfl rfl rfl rfl rfl ?_
    have hjn : (xss rs).take j.toNat = xss rs := List.take_of_length_le (by rw [xss_length]; omega)
    rw [hjn]
    exact tr_ret ⟨trivial, _, _, rfl, ⟨_, rfl, Bg, cg, rfl, rfl⟩, cs _ _, trivial, trivial⟩

theorem ref_Ctl_ent : Enters Tryz.prog 25 := enters_of Tryz.func25 (by kernel_rfl) (by kernel_rfl)
theorem ref_Ctl (p m : Int) (A : Option Addr) (c : Nat) (mod : List Int) [hF : IsF p m mod] (w : Int) (Aa : Option Addr) (n ca : Nat) (rs : List RowM) (hn : n = rs.length) (h9 : rs.length ≤ 256) (hc : CodeOk p m mod w rs) :
    Pure Tryz.prog 25 #[.agg #[.int .i64 p, .int .i64 m, .slice A mod.length c, .int .i64 w, .slice Aa n ca]] [ro A (ints mod), ro Aa (hdrs rs), rowsR rs] (one (fun v ch => ∃ B cb, v = .slice B (il (Po.quo (xn1 w.toNat : Po (El p m mod)) (genP p m mod w.toNat (xss rs)))).length cb ∧ ch = ow B 3 cb (ints (il (Po.quo (xn1 w.toNat : Po (El p m mod)) (genP p m mod w.toNat (xss rs))))))) := by
  have hl9 := hF.short
  have hn1 := hc.n1
  have hn64 := hc.n64
  have hlen := hc.len
  have hgd := hc.good
  have h8 := hgd.h8 (N := 17592186044415) (by omega)
  have hck := hc.zero
  have hxl : (il (xn1 w.toNat : Po (El p m mod))).length ≤ 1000000 := by rw [il_length, xn1_len (by omega)]; omega
  have hgl := genP_len (p := p) (m := m) (mod := mod) (n := w.toNat) (by omega) (xss rs)
  rw [← il_length] at hgl
  have hgn := genP_ne (p := p) (m := m) (mod := mod) (n := w.toNat) (by omega) (xss rs)
  refine pure_of (args := [.agg #[.int .i64 p, .int .i64 m, .slice A mod.length c, .int .i64 w, .slice Aa n ca]]) 19 Tryz.func25 rfl rfl rfl ref_Ctl_ent ⟨id, id, id, trivial⟩ (fun w0 => ?_)
  refine tr_seq ?_
  refine tr_region fun _ _ _ => ?_
  refine ef rfl rfl (eBox rfl rfl rfl rfl rfl (fun p0 => ?_)) 
  refine pu rfl rfl rfl rfl rfl ?_
  refine tr_seq ?_
  refine tr_draw [0, 1, 2, 3, 4, 5, 7, 6, 8, 9, 10, 11, 12, 13, 14] [] mixed (by kernel_rfl) fun _ _ _ => ?_
  refine st rfl rfl rfl rfl (rFld rfl rfl) ?_
  refine st rfl rfl rfl rfl (rLdSF rfl rfl) ?_
  refine st rfl rfl rfl rfl (rFld rfl rfl) ?_
  refine st rfl rfl rfl rfl (rLdSF rfl rfl) ?_
  refine st rfl rfl rfl rfl (rFld rfl rfl) ?_
  refine st rfl rfl rfl rfl (rLdF rfl rfl rfl) ?_
  refine st rfl rfl rfl rfl (rLdS rfl rfl rfl) ?_
  refine ef rfl rfl (eCall1 rfl rfl rfl (ref_Modulus _ _ _ _ _ w hn1 (by omega)) ⟨rfl, rfl, trivial⟩ ?_) 
  rintro _ _ ⟨Bx, cx, rfl, rfl⟩
  refine ef rfl rfl (eCall1 rfl rfl rfl (ref_Gen _ _ _ _ _ w Aa n ca rs hn h9 hc) ⟨rfl, trivial⟩ ?_) 
  rintro _ _ ⟨Bg, cg, rfl, rfl⟩
  refine ef rfl rfl (eCall2 rfl rfl rfl (ref_PDivMod _ _ _ _ _ Bx _ _ (il (xn1 w.toNat : Po (El p m mod))) rfl hxl Bg _ _ (il (genP p m mod w.toNat (xss rs))) rfl (by omega) (by rw [pol_il]; exact hgn)) ⟨rfl, rfl, rfl, trivial⟩ ?_) 
  rintro _ _ _ ⟨Bq, cq, Br, cr, rfl, rfl, rfl⟩
  iterate 5 refine pu rfl rfl rfl rfl rfl ?_
  simp only [pol_il]
  refine tr_seq ?_
  refine tr_region fun _ _ _ => ?_
  iterate 2 refine pu rfl rfl rfl rfl rfl ?_
  exact tr_ret ⟨trivial, _, _, rfl, ⟨_, rfl, Bq, cq, rfl, rfl⟩, cs _ _, trivial, trivial⟩

end Go.Proofs.YtjmojhflnjbgaaaGreat

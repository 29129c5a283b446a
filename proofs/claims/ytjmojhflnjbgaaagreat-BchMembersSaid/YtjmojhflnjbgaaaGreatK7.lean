/-
  BCHMEMBERS, PART 7 OF 10. One sentence: the texts behind the law BchMembers, put together.
  Conditions: each theorem's own, written out in it.
-/
import Derived.Test.YtjmojhflnjbgaaaGreatK6
set_option linter.unusedSimpArgs false
set_option linter.unusedVariables false
set_option linter.unusedSectionVars false
set_option linter.unusedSimpArgs false
set_option linter.unusedVariables false
set_option maxRecDepth 100000
namespace Go.Proofs.YtjmojhflnjbgaaaGreat
open Go.RowKit
section
variable {p m : Int} {mod : List Int} [hF : IsF p m mod]
theorem pol_lin (r : Int) : (pol [(-(el r : El p m mod)).1, 1] : Po (El p m mod)) = Po.lin (el r) := Po.ext fun j => by
  rw [cf_pol, Po.cf_lin]
  match j with
  | 0 => exact el_of _
  | 1 => exact el_one
  | j + 2 => rw [if_neg (by omega), if_neg (by omega)]; exact el_zero
noncomputable def rtL (p m : Int) (mod : List Int) [hF : IsF p m mod] (rs : List Int) : Po (El p m mod) := rootP (rs.map el)
theorem rtL_succ (rs : List Int) {k : Nat} (hk : k < rs.length) : rtL p m mod (rs.take (k + 1)) = rtL p m mod (rs.take k) * Po.lin (el (rs.getD k 0)) := by
  unfold rtL
  rw [List.take_add_one, List.getElem?_eq_getElem hk, List.getD_eq_getElem?_getD, List.getElem?_eq_getElem hk, List.map_append]
  exact rootP_snoc _ _
theorem rtL_len (rs : List Int) : Po.len (rtL p m mod rs) = rs.length + 1 := by unfold rtL; rw [rootP_len, List.length_map]
end
theorem poly_FromRoots_ent : Enters Tryz.prog 121 := enters_of Tryz.func121 (by kernel_rfl) (by kernel_rfl)
theorem poly_FromRoots (g : GfM) {p m : Int} {mod : List Int} [hF : IsF p m mod] (hg : GOk g p m mod) (R : Option Addr) (nr cr : Nat) (rs : List Int) (hnr : nr = rs.length) (h9 : rs.length ≤ 1000) :
    Pure Tryz.prog 121 #[.pointer (some g.p), .slice R nr cr] [gfR g, ro R (ints rs)] (one (fun v ch => ∃ B cap, v = .slice B (il (rtL p m mod rs)).length cap ∧ ch = ow B 3 cap (ints (il (rtL p m mod rs))))) := by
  refine pure_of (args := [.pointer (some g.p), .slice R nr cr]) 24 Tryz.func121 rfl rfl rfl poly_FromRoots_ent ⟨id, id, trivial⟩ (fun w0 => ?_)
  refine tr_seq ?_
  refine tr_region fun _ _ _ => ?_
  refine pu rfl rfl rfl rfl rfl ?_
  refine tr_seq ?_
  refine tr_region fun _ _ _ => ?_
  refine ef rfl rfl (eLit1I rfl rfl rfl rfl (fun A1 => ?_)) 
  refine pu rfl rfl rfl rfl rfl ?_
  refine tr_seq ?_
  refine tr_seq ?_
  refine tr_region fun _ _ _ => ?_
  refine pu rfl rfl rfl rfl rfl ?_
  refine st rfl rfl rfl rfl (rLen rfl rfl) ?_
  refine pu rfl rfl rfl rfl rfl ?_
  refine tr_block ?_
  refine tr_loop5 (fun (k : Int) (D : Option Addr) (cd : Nat) (nd : Nat) (ls : List Int) => [(5, .slice D nd cd), (9, .slice R nr cr), (10, .int .i64 nr), (11, .int .i64 k), (0, .pointer (some g.p)), (4, .slice none 0 0)]) (fun (k : Int) (D : Option Addr) (cd : Nat) (nd : Nat) (ls : List Int) => [ow D 3 cd (ints ls), gfR g, ro R (ints rs)]) (fun (k : Int) (D : Option Addr) (cd : Nat) (nd : Nat) (ls : List Int) => (0 ≤ k ∧ k ≤ nr) ∧ nd = ls.length ∧ ls = il (rtL p m mod (rs.take k.toNat))) (fun (k : Int) (D : Option Addr) (cd : Nat) (nd : Nat) (ls : List Int) => (nr - k).toNat) (0) (A1) (1) (1) ([1]) ⟨rfl, rfl, rfl, rfl, rfl, rfl, trivial⟩ (by first | exact cs _ _ | exact CSub.refl _) (⟨⟨by omega, by omega⟩, rfl, by rw [Int.toNat_zero, List.take_zero]; exact (il_one (p := p) (m := m) (mod := mod)).symm⟩) (fun k D cd nd ls hI => ?_)
  obtain ⟨⟨hk0, hk1⟩, hnd, hls⟩ := hI
  have hlsl : ls.length ≤ 1001 := by rw [hls, il_length, rtL_len, List.length_take]; omega
  refine tr_seq ?_
  refine tr_region fun _ _ _ => ?_
  refine pu rfl rfl rfl rfl rfl ?_
  refine tr_seq ?_
  refine tr_cond_bool rfl (fun h3 => ?_) (fun h3 => ?_)
  · try simp only [zbA] at h3
    refine tr_skip ?_
    refine tr_seq ?_
    refine tr_block ?_
    refine tr_seq ?_
    refine tr_region fun _ _ _ => ?_
    refine st rfl rfl rfl rfl (rIdxI rfl rfl rfl (by omega) (by omega) (by omega)) ?_
    refine st rfl rfl rfl rfl (rLdI rfl rfl (by omega)) ?_
    refine pu rfl rfl rfl rfl rfl ?_
    refine tr_region fun _ _ _ => ?_
    iterate 4 refine pu rfl rfl rfl rfl rfl ?_
    refine ef rfl rfl (eCallV rfl rfl rfl (gf_NegE g hg _) ⟨rfl, rfl, trivial⟩ ?_) 
    refine ef rfl rfl (eLit2I rfl rfl rfl rfl rfl (fun A5a => ?_)) 
    refine ef rfl rfl (eCall1 rfl rfl rfl (poly_product g hg D nd cd ls hnd (by omega) A5a _ _ [(-(el (rs.getD k.toNat 0) : El p m mod)).1, 1] rfl (by simp)) ⟨rfl, rfl, rfl, trivial⟩ ?_) 
    rintro _ _ ⟨B5, c5, rfl, rfl⟩
    refine pu rfl rfl rfl rfl rfl ?_
    refine tr_region fun _ _ _ => ?_
    refine st rfl rfl rfl rfl (rAdd rfl rfl rfl (by omega) (by omega)) ?_
    refine pu rfl rfl rfl rfl rfl ?_
    refine ⟨k + 1, B5, c5, (il ((pol ls : Po (El p m mod)) * pol [(-(el (rs.getD k.toNat 0) : El p m mod)).1, 1])).length, il ((pol ls : Po (El p m mod)) * pol [(-(el (rs.getD k.toNat 0) : El p m mod)).1, 1]), ⟨rfl, rfl, rfl, rfl, rfl, rfl, trivial⟩, by first | exact cs _ _ | exact CSub.refl _, ?_⟩
    refine ⟨⟨⟨by omega, by omega⟩, rfl, ?_⟩, by omega⟩
    rw [show (k + 1).toNat = k.toNat + 1 by omega, rtL_succ rs (by omega), hls, pol_il, pol_lin]
  · try simp only [zbA] at h3
    refine tr_exit ?_
    refine tr_seq ?_
    refine tr_region fun _ _ _ => ?_
    iterate 2 refine pu rfl rfl rfl rfl rfl ?_
    have hkn : rs.take k.toNat = rs := List.take_of_length_le (by omega)
    rw [hkn] at hls
    rw [hnd, hls]
    exact tr_ret ⟨trivial, _, _, rfl, ⟨_, rfl, D, cd, rfl, rfl⟩, cs _ _, trivial, trivial⟩
theorem slc_Index_ent : Enters Tryz.prog 122 := enters_of Tryz.func122 (by kernel_rfl) (by kernel_rfl)
theorem slc_Index (A : Option Addr) (n c : Nat) (l : List Int) (hn : n = l.length) (h9 : l.length ≤ 1000000) (x : Int) :
    Pure Tryz.prog 122 #[.slice A n c, .int .i64 x] [ro A (ints l)] (isV (.int .i64 (idxI l x))) := by
  refine pure_of (args := [.slice A n c, .int .i64 x]) 19 Tryz.func122 rfl rfl rfl slc_Index_ent ⟨id, trivial⟩ (fun w0 => ?_)
  refine tr_seq ?_
  refine tr_region fun _ _ _ => ?_
  refine pu rfl rfl rfl rfl rfl ?_
  refine tr_seq ?_
  refine tr_seq ?_
  refine tr_region fun _ _ _ => ?_
  refine pu rfl rfl rfl rfl rfl ?_
  refine st rfl rfl rfl rfl (rLen rfl rfl) ?_
  refine pu rfl rfl rfl rfl rfl ?_
  refine tr_block ?_
  refine tr_loop1 (fun (i : Int) => [(7, .int .i64 n), (8, .int .i64 i), (0, .slice A n c), (1, .int .i64 x)]) (fun (i : Int) => [ro A (ints l)]) (fun (i : Int) => (0 ≤ i ∧ i ≤ n) ∧ ∀ j : Nat, (j : Int) < i → l.getD j 0 ≠ x) (fun (i : Int) => (n - i).toNat) (0) ⟨rfl, rfl, rfl, rfl, trivial⟩ (by first | exact cs _ _ | exact CSub.refl _) (⟨⟨by omega, by omega⟩, fun j hj => by omega⟩) (fun i hI => ?_)
  obtain ⟨⟨hi0, hi1⟩, hno⟩ := hI
  refine tr_seq ?_
  refine tr_region fun _ _ _ => ?_
  refine pu rfl rfl rfl rfl rfl ?_
  refine tr_seq ?_
  refine tr_cond_bool rfl (fun h2 => ?_) (fun h2 => ?_)
  · try simp only [zbA] at h2
    refine tr_skip ?_
    refine tr_seq ?_
    refine tr_block ?_
    refine tr_seq ?_
    refine tr_region fun _ _ _ => ?_
    iterate 2 refine pu rfl rfl rfl rfl rfl ?_
    refine tr_seq ?_
    refine tr_region fun _ _ _ => ?_
    iterate 3 refine pu rfl rfl rfl rfl rfl ?_
    refine st rfl rfl rfl rfl (rIdxI rfl rfl rfl (by omega) (by omega) (by omega)) ?_
    refine st rfl rfl rfl rfl (rLdI rfl rfl (by omega)) ?_
    refine pu rfl rfl rfl rfl rfl ?_
    refine tr_cond_bool rfl (fun h4 => ?_) (fun h4 => ?_)
    · try simp only [zbA] at h4
      refine tr_seq ?_
      refine tr_region fun _ _ _ => ?_
      iterate 2 refine pu rfl rfl rfl rfl rfl ?_
      have hix := idxI_of (l := l) (x := x) (k := i.toNat) (by omega) h4.symm (fun j hj => hno j (by omega))
      exact tr_ret ⟨trivial, _, _, rfl, ⟨by rw [hix, Int.toNat_of_nonneg hi0], rfl⟩, CSub.nil _, trivial⟩
    · try simp only [zbA] at h4
      refine tr_skip ?_
      refine tr_region fun _ _ _ => ?_
      refine st rfl rfl rfl rfl (rAdd rfl rfl rfl (by omega) (by omega)) ?_
      refine pu rfl rfl rfl rfl rfl ?_
      refine ⟨i + 1, ⟨rfl, rfl, rfl, rfl, trivial⟩, by first | exact cs _ _ | exact CSub.refl _, ?_⟩
      refine ⟨⟨⟨by omega, by omega⟩, fun j hj => ?_⟩, by omega⟩
      by_cases he : (j : Int) = i
      · have : j = i.toNat := by omega
        subst this; exact fun e => h4 e.symm
      · exact hno j (by omega)
  · try simp only [zbA] at h2
    refine tr_exit ?_
    refine tr_seq ?_
    refine tr_region fun _ _ _ => ?_
    refine pu rfl rfl rfl rfl rfl ?_
    have hix : idxI l x = -1 := by
      unfold idxI
      rw [if_neg fun hm => ?_]
      obtain ⟨j, hj, he⟩ := List.getElem_of_mem hm
      exact hno j (by omega) (by rw [List.getD_eq_getElem?_getD, List.getElem?_eq_getElem hj]; exact he)
    exact tr_ret ⟨trivial, _, _, rfl, ⟨by rw [hix], rfl⟩, CSub.nil _, trivial⟩
theorem bch_FromZeros_ent : Enters Tryz.prog 50 := enters_of Tryz.func50 (by kernel_rfl) (by kernel_rfl)
theorem bch_FromZeros (p m : Int) (A : Option Addr) (c : Nat) (mod : List Int) [hF : IsF p m mod] (m2 : Int) (Ae : Option Addr) (ce : Nat) (mod2 : List Int) [hE : IsF p m2 mod2] (hd : m2 % m = 0) (n : Int) (hn1 : 1 ≤ n) (hn64 : n ≤ 64) (hr : rootI p m2 mod2 n ≠ 0) (Z : Option Addr) (cz : Nat) (zs : List Int) (hz : zs.length ≤ 1000000) :
    Pure Tryz.prog 50 #[.agg #[.int .i64 p, .int .i64 m, .slice A mod.length c], .agg #[.int .i64 p, .int .i64 m2, .slice Ae mod2.length ce], .int .i64 n, .slice Z zs.length cz] [ro A (ints mod), ro Ae (ints mod2), ro Z (ints zs)] (three (fun v ca cb cc => ∃ Bm cm B r3, v = .tuple #[.agg #[.int .i64 p, .int .i64 m, .slice Bm mod.length cm, .int .i64 n, .slice B r3.length r3.length], .int .i64 0] ∧ ca = ow Bm 3 cm (ints mod) ∧ cb = rx B (hdrs r3) ∧ cc = rowsCh 3 r3 ∧ ∃ gK : Po (El p m mod), mapP (phi p m mod m2 mod2) (phi_hm hd) gK = (rootP (clsR (el (rootI p m2 mod2 n) : El p m2 mod2) (clsL (pw p m) n zs))) ∧ gK ∣ xn1 n.toNat ∧ Po.lead gK = 1 ∧ CdOf p m mod n.toNat r3 (CyW n.toNat gK))) := by
  have hl8 := hF.short
  have hl82 := hE.short
  have hq2 := hF.q2
  have hq9 := hF.out.1.1.q
  have hra : rootArgs p m2 mod2 n = 0 := by rw [rootArgs_is hE.out hn1 hn64, if_neg hr]
  have hao := root_ord (p := p) (m2 := m2) (mod2 := mod2) hn1 hr
  have hgc := ord_gcd hF hao hd
  have hcl := clsL_length (pw p m) n zs
  have himl := imL_length (p := p) (m2 := m2) (mod2 := mod2) m (embR p m2 mod2 m mod)
  have himq : (((imL p m2 mod2 m (embR p m2 mod2 m mod)).length : Nat) : Int) = pw p m := by rw [himl]; omega
  have hcb : ∀ k : Nat, k < (clsL (pw p m) n zs).length → 0 ≤ (clsL (pw p m) n zs).getD k 0 ∧ (clsL (pw p m) n zs).getD k 0 < n := fun k hk => ((mem_clsL hn1).1 (getD_mem hk 0)).1
  obtain ⟨gK, hgK, hgx, hgl, hgd_⟩ := frz_gen (p := p) (m := m) (mod := mod) (m2 := m2) (mod2 := mod2) hd hao zs
  have hg0 : gK ≠ 0 := fun e => by rw [e] at hgx; exact xn1_ne (p := p) (m := m) (mod := mod) (show 1 ≤ n.toNat by omega) (Po.zero_dvd hgx)
  have hGl : Po.len (rootP (clsR (el (rootI p m2 mod2 n) : El p m2 mod2) (clsL (pw p m) n zs))) = (clsL (pw p m) n zs).length + 1 := by rw [rootP_len]; unfold clsR; rw [List.length_map]
  have hGil : (il (rootP (clsR (el (rootI p m2 mod2 n) : El p m2 mod2) (clsL (pw p m) n zs)))).length ≤ 65 := by rw [il_length]; omega
  refine pure_ofC (args := [.agg #[.int .i64 p, .int .i64 m, .slice A mod.length c], .agg #[.int .i64 p, .int .i64 m2, .slice Ae mod2.length ce], .int .i64 n, .slice Z zs.length cz]) 94 Tryz.func50 rfl rfl rfl bch_FromZeros_ent ⟨id, id, id, trivial⟩ (fun w0 => ?_)
  refine tr_seq ?_
  refine tr_region fun _ _ _ => ?_
  refine ef rfl rfl (eBox rfl rfl rfl rfl rfl (fun p0 => ?_)) 
  refine ef rfl rfl (eBox rfl rfl rfl rfl rfl (fun p0a => ?_)) 
  refine ef rfl rfl (eAlloc rfl rfl rfl (fun p0b => ?_)) 
  refine pu rfl rfl rfl rfl rfl ?_
  refine tr_seq ?_
  refine tr_seq ?_
  refine tr_region fun _ _ _ => ?_
  refine st rfl rfl rfl rfl (rLdS rfl rfl rfl) ?_
  refine ef rfl rfl (eCallV rfl rfl rfl (fld_Check _ _ _ _ _ (by omega)) ⟨rfl, trivial⟩ ?_) 
  refine pu rfl rfl rfl rfl rfl ?_
  refine tr_seq ?_
  refine tr_region fun _ _ _ => ?_
  iterate 2 refine pu rfl rfl rfl rfl rfl ?_
  refine tr_cond_bool rfl (fun h2 => ?_) (fun h2 => ?_)
  · try simp only [zbA] at h2
    exact absurd (chkF_zero hF.out) (by omega) --done
  · try simp only [zbA] at h2
    refine tr_skip ?_
    refine tr_seq ?_
    refine tr_region fun _ _ _ => ?_
    refine st rfl rfl rfl rfl (rLdS rfl rfl rfl) ?_
    refine st rfl rfl rfl rfl (rLdS rfl rfl rfl) ?_
    refine pu rfl rfl rfl rfl rfl ?_
    refine ef rfl rfl (eCall2 rfl rfl rfl (bch_ext p m A c mod m2 Ae ce mod2 hd n hn1 hn64) ⟨rfl, rfl, rfl, trivial⟩ ?_) 
    rintro _ _ _ ⟨g, B6, rfl, rfl, rfl, hg⟩
    iterate 9 refine pu rfl rfl rfl rfl rfl ?_
    rw [if_pos hra]
    refine tr_seq ?_
    refine tr_seq ?_
    refine tr_region fun _ _ _ => ?_
    iterate 2 refine pu rfl rfl rfl rfl rfl ?_
    refine tr_cond_bool rfl (fun h5 => ?_) (fun h5 => ?_)
    · try simp only [zbA] at h5
      omega --done
    · try simp only [zbA] at h5
      refine tr_skip ?_
      refine tr_seq ?_
      refine tr_region fun _ _ _ => ?_
      refine pu rfl rfl rfl rfl rfl ?_
      refine st rfl rfl rfl rfl (rLen rfl rfl) ?_
      iterate 2 refine pu rfl rfl rfl rfl rfl ?_
      refine ef rfl rfl (eCall1 rfl rfl rfl (bch_Closure _ n Z cz zs hz (by omega) (by omega) hn1 hn64 (by rw [himq]; exact hgc)) ⟨rfl, rfl, rfl, trivial⟩ ?_) 
      rintro _ _ ⟨B7, c7, rfl, rfl⟩
      iterate 5 refine pu rfl rfl rfl rfl rfl ?_
      rw [himq]
      refine tr_seq ?_
      refine tr_seq ?_
      refine tr_region fun _ _ _ => ?_
      iterate 2 refine pu rfl rfl rfl rfl rfl ?_
      refine tr_cond_bool rfl (fun h8 => ?_) (fun h8 => ?_)
      · try simp only [zbA] at h8
        first | exact absurd trivial h8 | exact absurd rfl h8 | omega | (exact absurd h8 (by simp)) --done
      · try simp only [zbA] at h8
        refine tr_skip ?_
        refine tr_seq ?_
        refine tr_region fun _ _ _ => ?_
        refine pu rfl rfl rfl rfl rfl ?_
        refine tr_seq ?_
        refine tr_seq ?_
        refine tr_region fun _ _ _ => ?_
        refine pu rfl rfl rfl rfl rfl ?_
        refine st rfl rfl rfl rfl (rLen rfl rfl) ?_
        refine pu rfl rfl rfl rfl rfl ?_
        refine tr_block ?_
        refine tr_nilI 3 ?_
        refine tr_loop4 (fun (k : Int) (D : Option Addr) (cd : Nat) (rts : List Int) => [(16, .slice D rts.length cd), (55, .slice B7 (clsL (pw p m) n zs).length c7), (56, .int .i64 (clsL (pw p m) n zs).length), (57, .int .i64 k), (13, .int .i64 (rootI p m2 mod2 n)), (2, .int .i64 n), (4, .pointer (some p0)), (8, .pointer (some p0b)), (9, .int .i64 0), (11, .pointer (some g.p)), (12, .slice B6 (imL p m2 mod2 m (embR p m2 mod2 m mod)).length (imL p m2 mod2 m (embR p m2 mod2 m mod)).length)]) (fun (k : Int) (D : Option Addr) (cd : Nat) (rts : List Int) => [ow D 3 cd (ints rts), ow B7 3 c7 (ints (clsL (pw p m) n zs)), gfN g, ow B6 3 (imL p m2 mod2 m (embR p m2 mod2 m mod)).length (ints (imL p m2 mod2 m (embR p m2 mod2 m mod))), blk p0 24 [.int .i64 p, .int .i64 m, .slice A mod.length c], blk p0a 24 [.int .i64 p, .int .i64 m2, .slice Ae mod2.length ce], blk p0b 27 [.int .i64 0, .int .i64 0, .slice none 0 0, .int .i64 0, .slice none 0 0], ro A (ints mod), ro Ae (ints mod2), ro Z (ints zs)]) (fun (k : Int) (D : Option Addr) (cd : Nat) (rts : List Int) => (0 ≤ k ∧ k ≤ (clsL (pw p m) n zs).length) ∧ rts = (((clsL (pw p m) n zs).take k.toNat).map fun i : Int => (Rg.pow (el (rootI p m2 mod2 n) : El p m2 mod2) i.toNat).1)) (fun (k : Int) (D : Option Addr) (cd : Nat) (rts : List Int) => ((clsL (pw p m) n zs).length - k).toNat) (0) (none) (0) ([]) ⟨rfl, rfl, rfl, rfl, rfl, rfl, rfl, rfl, rfl, rfl, rfl, trivial⟩ (by first | exact cs _ _ | exact CSub.refl _) (⟨⟨by omega, by omega⟩, rfl⟩) (fun k D cd rts hI => ?_)
        obtain ⟨⟨hk0, hk1⟩, hrs⟩ := hI
        have hrl : rts.length ≤ 64 := by rw [hrs, List.length_map, List.length_take]; omega
        refine tr_seq ?_
        refine tr_region fun _ _ _ => ?_
        refine pu rfl rfl rfl rfl rfl ?_
        refine tr_seq ?_
        refine tr_cond_bool rfl (fun h12 => ?_) (fun h12 => ?_)
        · try simp only [zbA] at h12
          refine tr_skip ?_
          refine tr_seq ?_
          refine tr_block ?_
          refine tr_seq ?_
          refine tr_region fun _ _ _ => ?_
          refine st rfl rfl rfl rfl (rIdxI rfl rfl rfl (by omega) (by omega) (by omega)) ?_
          refine st rfl rfl rfl rfl (rLdI rfl rfl (by omega)) ?_
          refine pu rfl rfl rfl rfl rfl ?_
          refine tr_seq ?_
          have hckb := hcb k.toNat (by omega)
          refine tr_region fun _ _ _ => ?_
          iterate 3 refine pu rfl rfl rfl rfl rfl ?_
          refine ef rfl rfl (eCallV rfl rfl rfl (gf_PowE g hg (rootI p m2 mod2 n) ((clsL (pw p m) n zs).getD k.toNat 0) (by omega) (by omega)) ⟨rfl, rfl, rfl, trivial⟩ ?_) 
          iterate 5 refine pu rfl rfl rfl rfl rfl ?_
          refine tr_region fun _ _ _ => ?_
          iterate 2 refine pu rfl rfl rfl rfl rfl ?_
          refine ef rfl rfl (eLit1I rfl rfl rfl rfl (fun A15 => ?_)) 
          refine ef rfl rfl (eAppI rfl rfl rfl rfl rfl (by first | rfl | simp | omega) (by first | rfl | simp | omega) (by first | omega | (simp; omega)) (fun A15a c15a => ?_)) 
          refine pu rfl rfl rfl rfl rfl ?_
          refine tr_region fun _ _ _ => ?_
          refine st rfl rfl rfl rfl (rAdd rfl rfl rfl (by omega) (by omega)) ?_
          refine pu rfl rfl rfl rfl rfl ?_
          refine ⟨k + 1, A15a, c15a, rts ++ [(Rg.pow (el (rootI p m2 mod2 n) : El p m2 mod2) ((clsL (pw p m) n zs).getD k.toNat 0).toNat).1], ⟨rfl, rfl, rfl, rfl, rfl, rfl, rfl, rfl, rfl, rfl, rfl, trivial⟩, by first | exact cs _ _ | exact CSub.refl _, ?_⟩
          refine ⟨⟨⟨by omega, by omega⟩, ?_⟩, by omega⟩
          rw [show (k + 1).toNat = k.toNat + 1 by omega, List.take_add_one, List.getElem?_eq_getElem (show k.toNat < (clsL (pw p m) n zs).length by omega), List.map_append, hrs]
          have hck : (clsL (pw p m) n zs).getD k.toNat 0 = (clsL (pw p m) n zs)[k.toNat] := by rw [List.getD_eq_getElem?_getD, List.getElem?_eq_getElem (show k.toNat < (clsL (pw p m) n zs).length by omega)]; rfl
          rw [hck]; rfl
        · try simp only [zbA] at h12
          refine tr_exit ?_
          refine tr_seq ?_
          refine tr_region fun _ _ _ => ?_
          refine pu rfl rfl rfl rfl rfl ?_
          refine tr_seq ?_
          refine tr_seq ?_
          have hkc : (clsL (pw p m) n zs).take k.toNat = (clsL (pw p m) n zs) := List.take_of_length_le (by omega)
          rw [hkc] at hrs
          refine tr_region fun _ _ _ => ?_
          iterate 2 refine pu rfl rfl rfl rfl rfl ?_
          refine ef rfl rfl (eCall1 rfl rfl rfl (poly_FromRoots g hg D _ cd rts rfl (by omega)) ⟨rfl, rfl, trivial⟩ ?_) 
          rintro _ _ ⟨Bf, cf, rfl, rfl⟩
          refine st rfl rfl rfl rfl (rLen rfl rfl) ?_
          refine pu rfl rfl rfl rfl rfl ?_
          have hrts : rtL p m2 mod2 ((clsL (pw p m) n zs).map fun i : Int => (Rg.pow (el (rootI p m2 mod2 n) : El p m2 mod2) i.toNat).1) = (rootP (clsR (el (rootI p m2 mod2 n) : El p m2 mod2) (clsL (pw p m) n zs))) := by
            unfold rtL clsR
            rw [List.map_map]
            congr 1
            exact List.map_congr_left fun i _ => el_of _
          rw [hrs, hrts]
          refine tr_block ?_
          refine tr_nilI 3 ?_
          refine tr_loop4 (fun (k : Int) (D2 : Option Addr) (cd2 : Nat) (os : List Int) => [(21, .slice D2 os.length cd2), (75, .slice Bf (il (rootP (clsR (el (rootI p m2 mod2 n) : El p m2 mod2) (clsL (pw p m) n zs)))).length cf), (76, .int .i64 (il (rootP (clsR (el (rootI p m2 mod2 n) : El p m2 mod2) (clsL (pw p m) n zs)))).length), (77, .int .i64 k), (2, .int .i64 n), (4, .pointer (some p0)), (8, .pointer (some p0b)), (9, .int .i64 0), (12, .slice B6 (imL p m2 mod2 m (embR p m2 mod2 m mod)).length (imL p m2 mod2 m (embR p m2 mod2 m mod)).length)]) (fun (k : Int) (D2 : Option Addr) (cd2 : Nat) (os : List Int) => [ow D2 3 cd2 (ints os), ow Bf 3 cf (ints (il (rootP (clsR (el (rootI p m2 mod2 n) : El p m2 mod2) (clsL (pw p m) n zs))))), gfN g, ow B6 3 (imL p m2 mod2 m (embR p m2 mod2 m mod)).length (ints (imL p m2 mod2 m (embR p m2 mod2 m mod))), blk p0 24 [.int .i64 p, .int .i64 m, .slice A mod.length c], blk p0a 24 [.int .i64 p, .int .i64 m2, .slice Ae mod2.length ce], blk p0b 27 [.int .i64 0, .int .i64 0, .slice none 0 0, .int .i64 0, .slice none 0 0], ro A (ints mod), ro Ae (ints mod2), ro Z (ints zs)]) (fun (k : Int) (D2 : Option Addr) (cd2 : Nat) (os : List Int) => (0 ≤ k ∧ k ≤ (il (rootP (clsR (el (rootI p m2 mod2 n) : El p m2 mod2) (clsL (pw p m) n zs)))).length) ∧ os = ((il (rootP (clsR (el (rootI p m2 mod2 n) : El p m2 mod2) (clsL (pw p m) n zs)))).take k.toNat).map (idxI (imL p m2 mod2 m (embR p m2 mod2 m mod)))) (fun (k : Int) (D2 : Option Addr) (cd2 : Nat) (os : List Int) => ((il (rootP (clsR (el (rootI p m2 mod2 n) : El p m2 mod2) (clsL (pw p m) n zs)))).length - k).toNat) (0) (none) (0) ([]) ⟨rfl, rfl, rfl, rfl, rfl, rfl, rfl, rfl, rfl, trivial⟩ (by first | exact cs _ _ | exact CSub.refl _) (⟨⟨by omega, by omega⟩, rfl⟩) (fun k D2 cd2 os hI => ?_)
          obtain ⟨⟨hk0, hk1⟩, hos⟩ := hI
          have hol : os.length ≤ 65 := by rw [hos, List.length_map, List.length_take]; omega
          refine tr_seq ?_
          refine tr_region fun _ _ _ => ?_
          refine pu rfl rfl rfl rfl rfl ?_
          refine tr_seq ?_
          refine tr_cond_bool rfl (fun h19 => ?_) (fun h19 => ?_)
          · try simp only [zbA] at h19
            refine tr_skip ?_
            refine tr_seq ?_
            refine tr_block ?_
            refine tr_seq ?_
            refine tr_region fun _ _ _ => ?_
            refine st rfl rfl rfl rfl (rIdxI rfl rfl rfl (by omega) (by omega) (by omega)) ?_
            refine st rfl rfl rfl rfl (rLdI rfl rfl (by omega)) ?_
            refine pu rfl rfl rfl rfl rfl ?_
            refine tr_region fun _ _ _ => ?_
            iterate 3 refine pu rfl rfl rfl rfl rfl ?_
            refine ef rfl rfl (eCallV rfl rfl rfl (slc_Index B6 _ _ (imL p m2 mod2 m (embR p m2 mod2 m mod)) rfl (by omega) ((il (rootP (clsR (el (rootI p m2 mod2 n) : El p m2 mod2) (clsL (pw p m) n zs)))).getD k.toNat 0)) ⟨rfl, rfl, trivial⟩ ?_) 
            refine ef rfl rfl (eLit1I rfl rfl rfl rfl (fun A21a => ?_)) 
            refine ef rfl rfl (eAppI rfl rfl rfl rfl rfl (by first | rfl | simp | omega) (by first | rfl | simp | omega) (by first | omega | (simp; omega)) (fun A21b c21b => ?_)) 
            refine pu rfl rfl rfl rfl rfl ?_
            refine tr_region fun _ _ _ => ?_
            refine st rfl rfl rfl rfl (rAdd rfl rfl rfl (by omega) (by omega)) ?_
            refine pu rfl rfl rfl rfl rfl ?_
            refine ⟨k + 1, A21b, c21b, os ++ [idxI (imL p m2 mod2 m (embR p m2 mod2 m mod)) ((il (rootP (clsR (el (rootI p m2 mod2 n) : El p m2 mod2) (clsL (pw p m) n zs)))).getD k.toNat 0)], ⟨rfl, rfl, rfl, rfl, rfl, rfl, rfl, rfl, rfl, trivial⟩, by first | exact cs _ _ | exact CSub.refl _, ?_⟩
            refine ⟨⟨⟨by omega, by omega⟩, ?_⟩, by omega⟩
            rw [show (k + 1).toNat = k.toNat + 1 by omega, List.take_add_one, List.getElem?_eq_getElem (show k.toNat < (il (rootP (clsR (el (rootI p m2 mod2 n) : El p m2 mod2) (clsL (pw p m) n zs)))).length by omega), List.map_append, hos]
            have hck : (il (rootP (clsR (el (rootI p m2 mod2 n) : El p m2 mod2) (clsL (pw p m) n zs)))).getD k.toNat 0 = (il (rootP (clsR (el (rootI p m2 mod2 n) : El p m2 mod2) (clsL (pw p m) n zs))))[k.toNat] := by rw [List.getD_eq_getElem?_getD, List.getElem?_eq_getElem (show k.toNat < (il (rootP (clsR (el (rootI p m2 mod2 n) : El p m2 mod2) (clsL (pw p m) n zs)))).length by omega)]; rfl
            rw [hck]; rfl
          · try simp only [zbA] at h19
            refine tr_exit ?_
            refine tr_seq ?_
            have hkg : (il (rootP (clsR (el (rootI p m2 mod2 n) : El p m2 mod2) (clsL (pw p m) n zs)))).take k.toNat = il (rootP (clsR (el (rootI p m2 mod2 n) : El p m2 mod2) (clsL (pw p m) n zs))) := List.take_of_length_le (by omega)
            rw [hkg, hgd_] at hos
            refine tr_region fun _ _ _ => ?_
            refine st rfl rfl rfl rfl (rLdS rfl rfl rfl) ?_
            iterate 2 refine pu rfl rfl rfl rfl rfl ?_
            refine ef rfl rfl (eCall3 rfl rfl rfl (cyc_New _ _ _ _ _ n hn1 hn64 D2 _ cd2 os rfl (by omega) (by rw [hos]; exact il_in _)) ⟨rfl, rfl, rfl, trivial⟩ ?_) 
            rintro _ _ _ _ ⟨Bm, cm, B, r3, rfl, rfl, rfl, rfl, hC⟩
            iterate 2 refine pu rfl rfl rfl rfl rfl ?_
            refine ef rfl rfl (eStS rfl rfl rfl rfl rfl rfl ?_) 
            refine pu rfl rfl rfl rfl rfl ?_
            rw [hos, pol_il, gcd_self_dvd hgx hgl hg0] at hC
            exact tr_ret ⟨trivial, _, _, (.cell rfl (cellS rfl) (.tmp rfl .nil)), ⟨_, _, _, rfl, Bm, cm, B, r3, rfl, rfl, rfl, rfl, gK, hgK, hgx, hgl, hC⟩, cs _ _, trivial, trivial, trivial, trivial⟩
theorem ref_FArgs1_ent : Enters Tryz.prog 49 := enters_of Tryz.func49 (by kernel_rfl) (by kernel_rfl)
theorem ref_FArgs1 (p m : Int) (A : Option Addr) (c : Nat) (mod : List Int) (p2 m2 : Int) (Ae : Option Addr) (ce : Nat) (mod2 : List Int) (hl9 : mod.length ≤ 17592186044415) (hl92 : mod2.length ≤ 17592186044415) (n : Int) (h : chkF p m mod ≠ 0 ∨ chkF p2 m2 mod2 ≠ 0) :
    Pure Tryz.prog 49 #[.agg #[.int .i64 p, .int .i64 m, .slice A mod.length c], .agg #[.int .i64 p2, .int .i64 m2, .slice Ae mod2.length ce], .int .i64 n] [ro A (ints mod), ro Ae (ints mod2)] (isV (.int .i64 1)) := by
  refine pure_of (args := [.agg #[.int .i64 p, .int .i64 m, .slice A mod.length c], .agg #[.int .i64 p2, .int .i64 m2, .slice Ae mod2.length ce], .int .i64 n]) 29 Tryz.func49 rfl rfl rfl ref_FArgs1_ent ⟨id, id, trivial⟩ (fun w0 => ?_)
  refine tr_seq ?_
  refine tr_region fun _ _ _ => ?_
  refine ef rfl rfl (eBox rfl rfl rfl rfl rfl (fun p0 => ?_)) 
  refine ef rfl rfl (eBox rfl rfl rfl rfl rfl (fun p0a => ?_)) 
  refine pu rfl rfl rfl rfl rfl ?_
  refine tr_seq ?_
  refine tr_seq ?_
  refine tr_region fun _ _ _ => ?_
  refine st rfl rfl rfl rfl (rLdS rfl rfl rfl) ?_
  refine ef rfl rfl (eCallV rfl rfl rfl (ref_fldCheck p m A c mod (by omega)) ⟨rfl, trivial⟩ ?_) 
  iterate 2 refine pu rfl rfl rfl rfl rfl ?_
  refine stg rfl rfl rfl rfl rfl (fun hb => by (have hq := hb; try simp only [zbA] at hq); exact rLdS rfl rfl rfl) ?_
  refine efg rfl rfl rfl rfl rfl (fun hb => by (have hq := hb; try simp only [zbA] at hq); exact eCallV rfl rfl rfl (ref_fldCheck p2 m2 Ae ce mod2 (by omega)) ⟨(evg rfl hb), trivial⟩ ⟨rfl, rfl⟩) ?_
  refine stg rfl rfl rfl rfl rfl (fun hb => by (have hq := hb; try simp only [zbA] at hq); exact rNeq rfl (evg rfl hb) rfl) ?_
  refine st rfl rfl rfl rfl (rOrB rfl rfl rfl rfl) ?_
  refine tr_cond_bool rfl (fun h1 => ?_) (fun h1 => ?_)
  · try simp only [zbA] at h1
    refine tr_seq ?_
    refine tr_region fun _ _ _ => ?_
    refine pu rfl rfl rfl rfl rfl ?_
    exact tr_ret ⟨trivial, _, _, rfl, ⟨rfl, rfl⟩, CSub.nil _, trivial⟩
  · try simp only [zbA] at h1
    exact absurd h (by simpa using h1) --done
theorem ref_FArgs4_ent : Enters Tryz.prog 49 := enters_of Tryz.func49 (by kernel_rfl) (by kernel_rfl)
theorem ref_FArgs4 (p m : Int) (A : Option Addr) (c : Nat) (mod : List Int) [hF : IsF p m mod] (p2 m2 : Int) (Ae : Option Addr) (ce : Nat) (mod2 : List Int) [hE : IsF p2 m2 mod2] (n : Int) (hb : n < 1 ∨ n > 64) :
    Pure Tryz.prog 49 #[.agg #[.int .i64 p, .int .i64 m, .slice A mod.length c], .agg #[.int .i64 p2, .int .i64 m2, .slice Ae mod2.length ce], .int .i64 n] [ro A (ints mod), ro Ae (ints mod2)] (isV (.int .i64 4)) := by
  have hl8 := hF.short
  have hl82 := hE.short
  have hc1 := chkF_zero hF.out
  have hc2 := chkF_zero hE.out
  have hm1 := hF.m1
  refine pure_of (args := [.agg #[.int .i64 p, .int .i64 m, .slice A mod.length c], .agg #[.int .i64 p2, .int .i64 m2, .slice Ae mod2.length ce], .int .i64 n]) 29 Tryz.func49 rfl rfl rfl ref_FArgs4_ent ⟨id, id, trivial⟩ (fun w0 => ?_)
  refine tr_seq ?_
  refine tr_region fun _ _ _ => ?_
  refine ef rfl rfl (eBox rfl rfl rfl rfl rfl (fun p0 => ?_)) 
  refine ef rfl rfl (eBox rfl rfl rfl rfl rfl (fun p0a => ?_)) 
  refine pu rfl rfl rfl rfl rfl ?_
  refine tr_seq ?_
  refine tr_seq ?_
  refine tr_region fun _ _ _ => ?_
  refine st rfl rfl rfl rfl (rLdS rfl rfl rfl) ?_
  refine ef rfl rfl (eCallV rfl rfl rfl (ref_fldCheck p m A c mod (by omega)) ⟨rfl, trivial⟩ ?_) 
  iterate 2 refine pu rfl rfl rfl rfl rfl ?_
  refine stg rfl rfl rfl rfl rfl (fun hb => by (have hq := hb; try simp only [zbA] at hq); exact rLdS rfl rfl rfl) ?_
  refine efg rfl rfl rfl rfl rfl (fun hb => by (have hq := hb; try simp only [zbA] at hq); exact eCallV rfl rfl rfl (ref_fldCheck p2 m2 Ae ce mod2 (by omega)) ⟨(evg rfl hb), trivial⟩ ⟨rfl, rfl⟩) ?_
  refine stg rfl rfl rfl rfl rfl (fun hb => by (have hq := hb; try simp only [zbA] at hq); exact rNeq rfl (evg rfl hb) rfl) ?_
  refine st rfl rfl rfl rfl (rOrB rfl rfl rfl rfl) ?_
  refine tr_cond_bool rfl (fun h1 => ?_) (fun h1 => ?_)
  · try simp only [zbA] at h1
    exact absurd h1 (by simp [hc1, hc2]) --done
  · try simp only [zbA] at h1
    refine tr_skip ?_
    refine tr_seq ?_
    refine tr_seq ?_
    refine tr_region fun _ _ _ => ?_
    iterate 3 refine pu rfl rfl rfl rfl rfl ?_
    refine stg rfl rfl rfl rfl rfl (fun hb => by (have hq := hb; try simp only [zbA] at hq); exact rMove rfl rfl) ?_
    refine stg rfl rfl rfl rfl rfl (fun hb => by (have hq := hb; try simp only [zbA] at hq); exact rGtr rfl (evg rfl hb) rfl) ?_
    refine st rfl rfl rfl rfl (rOrB rfl rfl rfl rfl) ?_
    refine tr_cond_bool rfl (fun h3 => ?_) (fun h3 => ?_)
    · try simp only [zbA] at h3
      refine tr_seq ?_
      refine tr_region fun _ _ _ => ?_
      refine pu rfl rfl rfl rfl rfl ?_
      exact tr_ret ⟨trivial, _, _, rfl, ⟨rfl, rfl⟩, CSub.nil _, trivial⟩
    · try simp only [zbA] at h3
      omega --done
theorem ref_FArgs10_ent : Enters Tryz.prog 49 := enters_of Tryz.func49 (by kernel_rfl) (by kernel_rfl)
theorem ref_FArgs10 (p m : Int) (A : Option Addr) (c : Nat) (mod : List Int) [hF : IsF p m mod] (p2 m2 : Int) (Ae : Option Addr) (ce : Nat) (mod2 : List Int) [hE : IsF p2 m2 mod2] (n : Int) (hn1 : 1 ≤ n) (hn64 : n ≤ 64) (hne : ¬ (p = p2 ∧ m2 % m = 0)) :
    Pure Tryz.prog 49 #[.agg #[.int .i64 p, .int .i64 m, .slice A mod.length c], .agg #[.int .i64 p2, .int .i64 m2, .slice Ae mod2.length ce], .int .i64 n] [ro A (ints mod), ro Ae (ints mod2)] (isV (.int .i64 10)) := by
  have hl8 := hF.short
  have hl82 := hE.short
  have hc1 := chkF_zero hF.out
  have hc2 := chkF_zero hE.out
  have hm1 := hF.m1
  refine pure_of (args := [.agg #[.int .i64 p, .int .i64 m, .slice A mod.length c], .agg #[.int .i64 p2, .int .i64 m2, .slice Ae mod2.length ce], .int .i64 n]) 29 Tryz.func49 rfl rfl rfl ref_FArgs10_ent ⟨id, id, trivial⟩ (fun w0 => ?_)
  refine tr_seq ?_
  refine tr_region fun _ _ _ => ?_
  refine ef rfl rfl (eBox rfl rfl rfl rfl rfl (fun p0 => ?_)) 
  refine ef rfl rfl (eBox rfl rfl rfl rfl rfl (fun p0a => ?_)) 
  refine pu rfl rfl rfl rfl rfl ?_
  refine tr_seq ?_
  refine tr_seq ?_
  refine tr_region fun _ _ _ => ?_
  refine st rfl rfl rfl rfl (rLdS rfl rfl rfl) ?_
  refine ef rfl rfl (eCallV rfl rfl rfl (ref_fldCheck p m A c mod (by omega)) ⟨rfl, trivial⟩ ?_) 
  iterate 2 refine pu rfl rfl rfl rfl rfl ?_
  refine stg rfl rfl rfl rfl rfl (fun hb => by (have hq := hb; try simp only [zbA] at hq); exact rLdS rfl rfl rfl) ?_
  refine efg rfl rfl rfl rfl rfl (fun hb => by (have hq := hb; try simp only [zbA] at hq); exact eCallV rfl rfl rfl (ref_fldCheck p2 m2 Ae ce mod2 (by omega)) ⟨(evg rfl hb), trivial⟩ ⟨rfl, rfl⟩) ?_
  refine stg rfl rfl rfl rfl rfl (fun hb => by (have hq := hb; try simp only [zbA] at hq); exact rNeq rfl (evg rfl hb) rfl) ?_
  refine st rfl rfl rfl rfl (rOrB rfl rfl rfl rfl) ?_
  refine tr_cond_bool rfl (fun h1 => ?_) (fun h1 => ?_)
  · try simp only [zbA] at h1
    exact absurd h1 (by simp [hc1, hc2]) --done
  · try simp only [zbA] at h1
    refine tr_skip ?_
    refine tr_seq ?_
    refine tr_seq ?_
    refine tr_region fun _ _ _ => ?_
    iterate 3 refine pu rfl rfl rfl rfl rfl ?_
    refine stg rfl rfl rfl rfl rfl (fun hb => by (have hq := hb; try simp only [zbA] at hq); exact rMove rfl rfl) ?_
    refine stg rfl rfl rfl rfl rfl (fun hb => by (have hq := hb; try simp only [zbA] at hq); exact rGtr rfl (evg rfl hb) rfl) ?_
    refine st rfl rfl rfl rfl (rOrB rfl rfl rfl rfl) ?_
    refine tr_cond_bool rfl (fun h3 => ?_) (fun h3 => ?_)
    · try simp only [zbA] at h3
      omega --done
    · try simp only [zbA] at h3
      refine tr_skip ?_
      refine tr_seq ?_
      refine tr_seq ?_
      refine tr_region fun _ _ _ => ?_
      refine st rfl rfl rfl rfl (rLdS rfl rfl rfl) ?_
      refine st rfl rfl rfl rfl (rLdS rfl rfl rfl) ?_
      refine ef rfl rfl (eCallV rfl rfl rfl (ref_Over p m A c mod hm1 p2 m2 Ae ce mod2 hE.m1) ⟨rfl, rfl, trivial⟩ ?_) 
      refine st rfl rfl rfl rfl (rNotB rfl rfl) ?_
      refine tr_cond_bool rfl (fun h5 => ?_) (fun h5 => ?_)
      · try simp only [zbA] at h5
        refine tr_seq ?_
        refine tr_region fun _ _ _ => ?_
        refine pu rfl rfl rfl rfl rfl ?_
        exact tr_ret ⟨trivial, _, _, rfl, ⟨rfl, rfl⟩, CSub.nil _, trivial⟩
      · try simp only [zbA] at h5
        exact absurd (by simpa using h5) hne --done
theorem ref_FArgsG_ent : Enters Tryz.prog 49 := enters_of Tryz.func49 (by kernel_rfl) (by kernel_rfl)
theorem ref_FArgsG (p m : Int) (A : Option Addr) (c : Nat) (mod : List Int) [hF : IsF p m mod] (m2 : Int) (Ae : Option Addr) (ce : Nat) (mod2 : List Int) [hE : IsF p m2 mod2] (hd : m2 % m = 0) (n : Int) (hn1 : 1 ≤ n) (hn64 : n ≤ 64) :
    Pure Tryz.prog 49 #[.agg #[.int .i64 p, .int .i64 m, .slice A mod.length c], .agg #[.int .i64 p, .int .i64 m2, .slice Ae mod2.length ce], .int .i64 n] [ro A (ints mod), ro Ae (ints mod2)] (isV (.int .i64 (if rootI p m2 mod2 n = 0 then 11 else 0))) := by
  have hl8 := hF.short
  have hl82 := hE.short
  have hc1 := chkF_zero hF.out
  have hc2 := chkF_zero hE.out
  have hm1 := hF.m1
  refine pure_of (args := [.agg #[.int .i64 p, .int .i64 m, .slice A mod.length c], .agg #[.int .i64 p, .int .i64 m2, .slice Ae mod2.length ce], .int .i64 n]) 29 Tryz.func49 rfl rfl rfl ref_FArgsG_ent ⟨id, id, trivial⟩ (fun w0 => ?_)
  refine tr_seq ?_
  refine tr_region fun _ _ _ => ?_
  refine ef rfl rfl (eBox rfl rfl rfl rfl rfl (fun p0 => ?_)) 
  refine ef rfl rfl (eBox rfl rfl rfl rfl rfl (fun p0a => ?_)) 
  refine pu rfl rfl rfl rfl rfl ?_
  refine tr_seq ?_
  refine tr_seq ?_
  refine tr_region fun _ _ _ => ?_
  refine st rfl rfl rfl rfl (rLdS rfl rfl rfl) ?_
  refine ef rfl rfl (eCallV rfl rfl rfl (ref_fldCheck p m A c mod (by omega)) ⟨rfl, trivial⟩ ?_) 
  iterate 2 refine pu rfl rfl rfl rfl rfl ?_
  refine stg rfl rfl rfl rfl rfl (fun hb => by (have hq := hb; try simp only [zbA] at hq); exact rLdS rfl rfl rfl) ?_
  refine efg rfl rfl rfl rfl rfl (fun hb => by (have hq := hb; try simp only [zbA] at hq); exact eCallV rfl rfl rfl (ref_fldCheck p m2 Ae ce mod2 (by omega)) ⟨(evg rfl hb), trivial⟩ ⟨rfl, rfl⟩) ?_
  refine stg rfl rfl rfl rfl rfl (fun hb => by (have hq := hb; try simp only [zbA] at hq); exact rNeq rfl (evg rfl hb) rfl) ?_
  refine st rfl rfl rfl rfl (rOrB rfl rfl rfl rfl) ?_
  refine tr_cond_bool rfl (fun h1 => ?_) (fun h1 => ?_)
  · try simp only [zbA] at h1
    exact absurd h1 (by simp [hc1, hc2]) --done
  · try simp only [zbA] at h1
    refine tr_skip ?_
    refine tr_seq ?_
    refine tr_seq ?_
    refine tr_region fun _ _ _ => ?_
    iterate 3 refine pu rfl rfl rfl rfl rfl ?_
    refine stg rfl rfl rfl rfl rfl (fun hb => by (have hq := hb; try simp only [zbA] at hq); exact rMove rfl rfl) ?_
    refine stg rfl rfl rfl rfl rfl (fun hb => by (have hq := hb; try simp only [zbA] at hq); exact rGtr rfl (evg rfl hb) rfl) ?_
    refine st rfl rfl rfl rfl (rOrB rfl rfl rfl rfl) ?_
    refine tr_cond_bool rfl (fun h3 => ?_) (fun h3 => ?_)
    · try simp only [zbA] at h3
      omega --done
    · try simp only [zbA] at h3
      refine tr_skip ?_
      refine tr_seq ?_
      refine tr_seq ?_
      refine tr_region fun _ _ _ => ?_
      refine st rfl rfl rfl rfl (rLdS rfl rfl rfl) ?_
      refine st rfl rfl rfl rfl (rLdS rfl rfl rfl) ?_
      refine ef rfl rfl (eCallV rfl rfl rfl (ref_Over p m A c mod hm1 p m2 Ae ce mod2 hE.m1) ⟨rfl, rfl, trivial⟩ ?_) 
      refine st rfl rfl rfl rfl (rNotB rfl rfl) ?_
      refine tr_cond_bool rfl (fun h5 => ?_) (fun h5 => ?_)
      · try simp only [zbA] at h5
        exact absurd h5 (by simp [hd]) --done
      · try simp only [zbA] at h5
        refine tr_skip ?_
        refine tr_seq ?_
        refine tr_seq ?_
        refine tr_region fun _ _ _ => ?_
        refine st rfl rfl rfl rfl (rLdS rfl rfl rfl) ?_
        refine pu rfl rfl rfl rfl rfl ?_
        refine ef rfl rfl (eCallV rfl rfl rfl (ref_Root p m2 Ae ce mod2 hE.out n) ⟨rfl, rfl, trivial⟩ ?_) 
        refine pu rfl rfl rfl rfl rfl ?_
        refine tr_cond_bool rfl (fun h7 => ?_) (fun h7 => ?_)
        · try simp only [zbA] at h7
          refine tr_seq ?_
          refine tr_region fun _ _ _ => ?_
          refine pu rfl rfl rfl rfl rfl ?_
          exact tr_ret ⟨trivial, _, _, rfl, ⟨by rw [if_pos (by omega)], rfl⟩, CSub.nil _, trivial⟩
        · try simp only [zbA] at h7
          refine tr_skip ?_
          refine tr_seq ?_
          refine tr_region fun _ _ _ => ?_
          refine pu rfl rfl rfl rfl rfl ?_
          exact tr_ret ⟨trivial, _, _, rfl, ⟨by rw [if_neg (by omega)], rfl⟩, CSub.nil _, trivial⟩
end Go.Proofs.YtjmojhflnjbgaaaGreat

set_option linter.unusedSimpArgs false
set_option linter.unusedVariables false
set_option maxRecDepth 100000
namespace Go.Proofs.YtjmojhflnjbgaaaGreat
open Go.RowKit
theorem ref_valueG_ent : Enters Tryz.prog 113 := enters_of Tryz.func113 (by kernel_rfl) (by kernel_rfl)
theorem ref_valueG (p m : Int) (A : Option Addr) (c : Nat) (mod : List Int) [hF : IsF p m mod] (Y : Option Addr) (ny cy : Nat) (im : List Int) (hny : ny = im.length) (a n : Int) (X : Option Addr) (nx cx : Nat) (ws : List Int) (hnx : nx = ws.length) (hn : n = ws.length) (hn1 : 1 ≤ n) (h9 : ws.length ≤ 1000) (hws : ∀ y ∈ ws, 0 ≤ y ∧ y < im.length) (i : Int) :
    Pure Tryz.prog 113 #[.agg #[.int .i64 p, .int .i64 m, .slice A mod.length c], .slice Y ny cy, .int .i64 a, .int .i64 n, .slice X nx cx, .int .i64 i] [ro A (ints mod), ro Y (ints im), ro X (ints ws)] (isV (.int .i64 (Po.val (pol (ws.map (fun y : Int => im.getD y.toNat 0)) : Po (El p m mod)) (Rg.pow (el a : El p m mod) (i % n).toNat)).1)) := by
  have hin := Int.emod_nonneg i (show n ≠ 0 by omega)
  have hin2 := Int.emod_lt_of_pos i (show 0 < n by omega)
  refine pure_of (args := [.agg #[.int .i64 p, .int .i64 m, .slice A mod.length c], .slice Y ny cy, .int .i64 a, .int .i64 n, .slice X nx cx, .int .i64 i]) 50 Tryz.func113 rfl rfl rfl ref_valueG_ent ⟨id, id, id, trivial⟩ (fun w0 => ?_)
  refine tr_seq ?_
  refine tr_region fun _ _ _ => ?_
  refine ef rfl rfl (eBox rfl rfl rfl rfl rfl (fun p0 => ?_)) 
  refine pu rfl rfl rfl rfl rfl ?_
  refine tr_seq ?_
  refine tr_draw [0, 1, 2, 3, 4, 5, 6, 7, 8, 9, 10] [] mixed (by kernel_rfl) fun _ _ _ => ?_
  refine st rfl rfl rfl rfl (rLdS rfl rfl rfl) ?_
  iterate 3 refine pu rfl rfl rfl rfl rfl ?_
  refine ef rfl rfl (eCallV rfl rfl rfl (ref_mod i n (by omega) (by omega)) ⟨rfl, rfl, trivial⟩ ?_) 
  refine ef rfl rfl (eCallV rfl rfl rfl (ref_PowE p m A c mod a (i % n) (by omega) (by omega)) ⟨rfl, rfl, rfl, trivial⟩ ?_) 
  iterate 5 refine pu rfl rfl rfl rfl rfl ?_
  refine tr_seq ?_
  refine tr_region fun _ _ _ => ?_
  refine pu rfl rfl rfl rfl rfl ?_
  refine tr_seq ?_
  refine tr_region fun _ _ _ => ?_
  refine pu rfl rfl rfl rfl rfl ?_
  refine tr_seq ?_
  refine tr_seq ?_
  refine tr_region fun _ _ _ => ?_
  refine pu rfl rfl rfl rfl rfl ?_
  refine tr_block ?_
  refine tr_loop3 (fun (k : Int) (y : Int) (z : Int) => [(15, .int .i64 z), (16, .int .i64 y), (17, .int .i64 k), (13, .int .i64 (Rg.pow (el a : El p m mod) (i % n).toNat).1), (1, .slice Y ny cy), (4, .slice X nx cx), (3, .int .i64 n), (6, .pointer (some p0)), (12, .int .i64 0)]) (fun (k : Int) (y : Int) (z : Int) => [blk p0 24 [.int .i64 p, .int .i64 m, .slice A mod.length c], ro A (ints mod), ro Y (ints im), ro X (ints ws)]) (fun (k : Int) (y : Int) (z : Int) => (0 ≤ k ∧ k ≤ n) ∧ y = (Rg.sm k.toNat fun j => (el (im.getD (ws.getD j 0).toNat 0) * Rg.pow (Rg.pow (el a : El p m mod) (i % n).toNat) j : El p m mod)).1 ∧ z = (Rg.pow (Rg.pow (el a : El p m mod) (i % n).toNat) k.toNat : El p m mod).1) (fun (k : Int) (y : Int) (z : Int) => (n - k).toNat) (0) (0) (1) ⟨rfl, rfl, rfl, rfl, rfl, rfl, rfl, rfl, rfl, trivial⟩ (by first | exact cs _ _ | exact CSub.refl _) (⟨⟨by omega, by omega⟩, rfl, rfl⟩) (fun k y z hI => ?_)
  obtain ⟨⟨hk0, hk1⟩, hy, hz⟩ := hI
  refine tr_seq ?_
  refine tr_seq ?_
  refine tr_region fun _ _ _ => ?_
  iterate 3 refine pu rfl rfl rfl rfl rfl ?_
  refine tr_cond_bool rfl (fun h5 => ?_) (fun h5 => ?_)
  · try simp only [zbA] at h5
    refine tr_skip ?_
    refine tr_seq ?_
    refine tr_block ?_
    refine tr_seq ?_
    have hwk := hws _ (getD_mem (show k.toNat < ws.length by omega) 0)
    refine tr_draw [0, 1, 2, 3, 4, 5, 6, 7, 8, 9, 10, 11, 12, 13] [] mixed (by kernel_rfl) fun _ _ _ => ?_
    refine st rfl rfl rfl rfl (rLdS rfl rfl rfl) ?_
    refine pu rfl rfl rfl rfl rfl ?_
    refine st rfl rfl rfl rfl (rLdS rfl rfl rfl) ?_
    iterate 3 refine pu rfl rfl rfl rfl rfl ?_
    refine st rfl rfl rfl rfl (rIdxI rfl rfl rfl (by omega) (by omega) (by omega)) ?_
    refine st rfl rfl rfl rfl (rLdI rfl rfl (by omega)) ?_
    refine st rfl rfl rfl rfl (rIdxI rfl rfl rfl (by omega) (by omega) (by omega)) ?_
    refine st rfl rfl rfl rfl (rLdI rfl rfl (by omega)) ?_
    refine pu rfl rfl rfl rfl rfl ?_
    refine ef rfl rfl (eCallV rfl rfl rfl (ref_MulE _ _ _ _ _ _ _) ⟨rfl, rfl, rfl, trivial⟩ ?_) 
    refine ef rfl rfl (eCallV rfl rfl rfl (ref_AddE _ _ _ _ _ _ _) ⟨rfl, rfl, rfl, trivial⟩ ?_) 
    refine pu rfl rfl rfl rfl rfl ?_
    refine tr_region fun _ _ _ => ?_
    refine st rfl rfl rfl rfl (rLdS rfl rfl rfl) ?_
    iterate 2 refine pu rfl rfl rfl rfl rfl ?_
    refine ef rfl rfl (eCallV rfl rfl rfl (ref_MulE _ _ _ _ _ _ _) ⟨rfl, rfl, rfl, trivial⟩ ?_) 
    refine pu rfl rfl rfl rfl rfl ?_
    refine tr_region fun _ _ _ => ?_
    refine pu rfl rfl rfl rfl rfl ?_
    refine st rfl rfl rfl rfl (rAdd rfl rfl rfl (by omega) (by omega)) ?_
    refine pu rfl rfl rfl rfl rfl ?_
    refine ⟨k + 1, (el y + el (el (im.getD (ws.getD k.toNat 0).toNat 0) * el z : El p m mod).1 : El p m mod).1, (el z * el (Rg.pow (el a : El p m mod) (i % n).toNat).1 : El p m mod).1, ⟨rfl, rfl, rfl, rfl, rfl, rfl, rfl, rfl, rfl, trivial⟩, by first | exact cs _ _ | exact CSub.refl _, ?_⟩
    have hk2 : (k + 1).toNat = k.toNat + 1 := by omega
    refine ⟨⟨⟨by omega, by omega⟩, ?_, ?_⟩, by omega⟩
    · rw [hk2, Rg.sm_succ, hy, hz, el_of, el_of, el_of]
    · rw [hk2, Rg.pow_succ, hz, el_of, el_of]
  · try simp only [zbA] at h5
    refine tr_exit ?_
    refine tr_seq ?_
    refine tr_region fun _ _ _ => ?_
    iterate 2 refine pu rfl rfl rfl rfl rfl ?_
    have hkn : k.toNat = (ws.map (fun y : Int => im.getD y.toNat 0)).length := by rw [List.length_map]; omega
    have hfin : y = (Po.val (pol (ws.map (fun y : Int => im.getD y.toNat 0)) : Po (El p m mod)) (Rg.pow (el a : El p m mod) (i % n).toNat)).1 := by
      rw [hy, val_sum, hkn]
      refine congrArg (fun z : El p m mod => z.1) (Rg.sm_congr fun j hj => ?_)
      rw [map_im im ws (by rw [List.length_map] at hj; exact hj)]
    exact tr_ret ⟨trivial, _, _, rfl, ⟨by rw [hfin], rfl⟩, CSub.nil _, trivial⟩
theorem ref_CValue_ent : Enters Tryz.prog 55 := enters_of Tryz.func55 (by kernel_rfl) (by kernel_rfl)
theorem ref_CValue (p m : Int) (A : Option Addr) (c : Nat) (mod : List Int) [hF : IsF p m mod] (m2 : Int) (Ae : Option Addr) (ce : Nat) (mod2 : List Int) [hE : IsF p m2 mod2] (hd : m2 % m = 0) (n : Int) (X : Option Addr) (nx cx : Nat) (ws : List Int) (hnx : nx = ws.length) (hn : n = ws.length) (hn1 : 1 ≤ n) (h9 : ws.length ≤ 1000) (hin : AllIn (pw p m) ws) (i : Int) :
    Pure Tryz.prog 55 #[.agg #[.int .i64 p, .int .i64 m, .slice A mod.length c], .agg #[.int .i64 p, .int .i64 m2, .slice Ae mod2.length ce], .int .i64 n, .slice X nx cx, .int .i64 i] [ro A (ints mod), ro Ae (ints mod2), ro X (ints ws)] (isV (.int .i64 (Po.val (pol (ws.map (fun y : Int => (imL p m2 mod2 m (embR p m2 mod2 m mod)).getD y.toNat 0)) : Po (El p m2 mod2)) (Rg.pow (el (rootI p m2 mod2 n) : El p m2 mod2) (i % n).toNat)).1)) := by
  have hl82 := hE.short
  have himl := imL_length (p := p) (m2 := m2) (mod2 := mod2) m (embR p m2 mod2 m mod)
  have hq2 := hF.q2
  have hws : ∀ y ∈ ws, 0 ≤ y ∧ y < (imL p m2 mod2 m (embR p m2 mod2 m mod)).length := fun y hy => by
    have := hin y hy
    rw [himl]; omega
  refine pure_of (args := [.agg #[.int .i64 p, .int .i64 m, .slice A mod.length c], .agg #[.int .i64 p, .int .i64 m2, .slice Ae mod2.length ce], .int .i64 n, .slice X nx cx, .int .i64 i]) 22 Tryz.func55 rfl rfl rfl ref_CValue_ent ⟨id, id, id, trivial⟩ (fun w0 => ?_)
  refine tr_seq ?_
  refine tr_region fun _ _ _ => ?_
  refine ef rfl rfl (eBox rfl rfl rfl rfl rfl (fun p0 => ?_)) 
  refine ef rfl rfl (eBox rfl rfl rfl rfl rfl (fun p0a => ?_)) 
  refine pu rfl rfl rfl rfl rfl ?_
  refine tr_seq ?_
  refine tr_draw [0, 1, 2, 4, 5, 7, 8, 9, 3, 6, 10, 11] [] mixed (by kernel_rfl) fun _ _ _ => ?_
  refine st rfl rfl rfl rfl (rLdS rfl rfl rfl) ?_
  refine st rfl rfl rfl rfl (rLdS rfl rfl rfl) ?_
  refine st rfl rfl rfl rfl (rLdS rfl rfl rfl) ?_
  refine st rfl rfl rfl rfl (rLdS rfl rfl rfl) ?_
  iterate 4 refine pu rfl rfl rfl rfl rfl ?_
  refine ef rfl rfl (eCall1 rfl rfl rfl (ref_Emb p m A c mod m2 Ae ce mod2 hd) ⟨rfl, rfl, trivial⟩ ?_) 
  rintro _ _ ⟨B1, rfl, rfl⟩
  refine ef rfl rfl (eCallV rfl rfl rfl (ref_Root p m2 Ae ce mod2 hE.out n) ⟨rfl, rfl, trivial⟩ ?_) 
  refine ef rfl rfl (eCallV rfl rfl rfl (ref_valueG p m2 Ae ce mod2 B1 _ _ (imL p m2 mod2 m (embR p m2 mod2 m mod)) rfl (rootI p m2 mod2 n) n X nx cx ws hnx hn hn1 h9 hws i) ⟨rfl, rfl, rfl, rfl, rfl, rfl, trivial⟩ ?_) 
  refine pu rfl rfl rfl rfl rfl ?_
  exact tr_ret ⟨trivial, _, _, rfl, ⟨rfl, rfl⟩, CSub.nil _, trivial⟩
end Go.Proofs.YtjmojhflnjbgaaaGreat

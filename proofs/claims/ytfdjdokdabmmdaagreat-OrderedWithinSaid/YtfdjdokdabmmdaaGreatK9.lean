/-
  ORDEREDWITHIN, PART 9 OF 10. One sentence: the texts behind the law OrderedWithin, put together.
  Conditions: each theorem's own, written out in it.
-/
import Derived.Test.YtfdjdokdabmmdaaGreatK8
set_option linter.unusedSimpArgs false
set_option linter.unusedVariables false
set_option linter.unusedSectionVars false
set_option maxRecDepth 100000
namespace Go.Proofs.YtfdjdokdabmmdaaGreat
open Go.RowKit
theorem wordC_okW {q w : Int} {l : List Int} (h1 : (l.length : Int) = w) (h2 : AllIn q l) : wordC q w l = 0 := by rw [wordC_ent h1]; exact entC_ok h2
theorem cntC_powW {q : Int} (hq : 2 ≤ q) {k : Nat} {most : Int} (h : 0 < cntC q k most) : q.toNat ^ k ≤ 65536 := by
 unfold cntC at h
 split at h
 · rename_i h1
   have h2 : ((q.toNat ^ k : Nat) : Int) = q ^ k := by rw [Int.natCast_pow, Int.toNat_of_nonneg (by omega)]
   omega
 · omega
section
variable {p m : Int} {mod : List Int} [hF : IsF p m mod]
theorem bas_one {rs ts : List RowM} {bs b6 o6 : List Int} (hO6 : OrdS (rlF ts) ts.length o6) (hB6 : BasOf p m mod rs o6 b6) (hl6 : b6.length = rs.length) (hl : bs.length = rs.length) (h : 1 ≤ rs.length → ∃ ob, OrdS (rlF ts) ts.length ob ∧ BasOf p m mod rs ob bs) : bs = b6 := by
 by_cases hk : 1 ≤ rs.length
 · obtain ⟨ob, h1, h2⟩ := h hk
   have := hO6.one h1
   subst this
   exact h2.one hB6
 · rw [List.length_eq_zero_iff.1 (show bs.length = 0 by omega), List.length_eq_zero_iff.1 (show b6.length = 0 by omega)]
end
section
variable {p m : Int} {mod : List Int} [hF : IsF p m mod]
theorem bas_in {rs : List RowM} {r : Int → Int} {N : Nat} {o bs : List Int} (hO : OrdS r N o) (hB : BasOf p m mod rs o bs) {w : Int} (hw : (N : Int) = w) : ∀ b ∈ bs, 0 ≤ b ∧ b < w := fun b hb => by
 obtain ⟨E, qs, h1, h2, rfl⟩ := hB
 obtain ⟨q, hq, rfl⟩ := List.mem_map.1 hb
 obtain ⟨z, hz, rfl⟩ := List.getElem_of_mem hq
 have h4 := h1.lt z hz
 rw [List.getD_eq_getElem?_getD, List.getElem?_eq_getElem hz] at h4
 have h5 := hO.bd _ (getD_mem (show qs[z] < o.length from h4) 0)
 omega
theorem bas_le {rs : List RowM} {r : Int → Int} {N : Nat} {o bs : List Int} (hO : OrdS r N o) (hB : BasOf p m mod rs o bs) (hw : N ≤ 256) : bs.length ≤ 256 := by
 have := hB.le; have := hO.len; omega
end
theorem ref_Differ_ent : Enters Tryz.prog 19 := enters_of Tryz.func19 (by kernel_rfl) (by kernel_rfl)
theorem ref_Differ (X : Option Addr) (nx cx : Nat) (l : List Int) (hnx : nx = l.length) (Y : Option Addr) (ny cy : Nat) (y : List Int) (hny : ny = y.length) (Z : Option Addr) (nz cz : Nat) (z : List Int) (hnz : nz = z.length) (hz : ∀ b ∈ z, 0 ≤ b ∧ b < l.length ∧ b < y.length) (h9 : l.length ≤ 1000000) (h9z : z.length ≤ 1000000) :
   Pure Tryz.prog 19 #[.slice X nx cx, .slice Y ny cy, .slice Z nz cz] [ro X (ints l), ro Y (ints y), ro Z (ints z)] (isV (.int .i64 (difT z l y z.length))) := by
 refine pure_of (args := [.slice X nx cx, .slice Y ny cy, .slice Z nz cz]) 33 Tryz.func19 rfl rfl rfl ref_Differ_ent ⟨id, id, id, trivial⟩ (fun w0 => ?_)
 refine tr_seq ?_
 refine tr_region fun _ _ _ => ?_
 refine pu rfl rfl rfl rfl rfl ?_
 refine tr_seq ?_
 refine tr_region fun _ _ _ => ?_
 refine pu rfl rfl rfl rfl rfl ?_
 refine tr_seq ?_
 refine tr_seq ?_
 refine tr_region fun _ _ _ => ?_
 refine pu rfl rfl rfl rfl rfl ?_
 refine tr_block ?_
 refine tr_loop2 (fun (k : Int) (a : Int) => [(8, .int .i64 k), (7, .int .i64 a), (0, .slice X nx cx), (1, .slice Y ny cy), (2, .slice Z nz cz), (6, .int .i64 0)]) (fun (k : Int) (a : Int) => [ro X (ints l), ro Y (ints y), ro Z (ints z)]) (fun (k : Int) (a : Int) => (0 ≤ k ∧ k ≤ nz) ∧ a = (difT z l y k.toNat : Int)) (fun (k : Int) (a : Int) => (nz - k).toNat) (0) (0) ⟨rfl, rfl, rfl, rfl, rfl, rfl, trivial⟩ (by first | exact cs _ _ | exact CSub.refl _) (⟨⟨by omega, by omega⟩, rfl⟩) (fun k a hI => ?_)
 obtain ⟨⟨hk0, hk1⟩, ha⟩ := hI
 refine tr_seq ?_
 refine tr_seq ?_
 refine tr_region fun _ _ _ => ?_
 iterate 2 refine pu rfl rfl rfl rfl rfl ?_
 refine st rfl rfl rfl rfl (rLen rfl rfl) ?_
 refine pu rfl rfl rfl rfl rfl ?_
 refine tr_cond_bool rfl (fun h3 => ?_) (fun h3 => ?_)
 · try simp only [zbA] at h3
   refine tr_skip ?_
   refine tr_seq ?_
   refine tr_block ?_
   refine tr_seq ?_
   have hzk := hz _ (getD_mem (show k.toNat < z.length by omega) 0)
   have hdk := difT_le z l y k.toNat
   refine tr_draw [0, 1, 2, 3, 4, 5, 6, 7, 8, 9, 10, 11, 12, 13, 14] [] mixed (by kernel_rfl) fun _ _ _ => ?_
   iterate 3 refine pu rfl rfl rfl rfl rfl ?_
   refine st rfl rfl rfl rfl (rIdxI rfl rfl rfl (by omega) (by omega) (by omega)) ?_
   refine st rfl rfl rfl rfl (rLdI rfl rfl (by omega)) ?_
   refine st rfl rfl rfl rfl (rIdxI rfl rfl rfl (by omega) (by omega) (by omega)) ?_
   refine st rfl rfl rfl rfl (rLdI rfl rfl (by omega)) ?_
   iterate 3 refine pu rfl rfl rfl rfl rfl ?_
   refine st rfl rfl rfl rfl (rIdxI rfl rfl rfl (by omega) (by omega) (by omega)) ?_
   refine st rfl rfl rfl rfl (rLdI rfl rfl (by omega)) ?_
   refine st rfl rfl rfl rfl (rIdxI rfl rfl rfl (by omega) (by omega) (by omega)) ?_
   refine st rfl rfl rfl rfl (rLdI rfl rfl (by omega)) ?_
   refine pu rfl rfl rfl rfl rfl ?_
   refine tr_cond_bool rfl (fun h5 => ?_) (fun h5 => ?_)
   · try simp only [zbA] at h5
     refine tr_region fun _ _ _ => ?_
     refine pu rfl rfl rfl rfl rfl ?_
     refine st rfl rfl rfl rfl (rAdd rfl rfl rfl (by omega) (by omega)) ?_
     refine pu rfl rfl rfl rfl rfl ?_
     refine tr_region fun _ _ _ => ?_
     refine pu rfl rfl rfl rfl rfl ?_
     refine st rfl rfl rfl rfl (rAdd rfl rfl rfl (by omega) (by omega)) ?_
     refine pu rfl rfl rfl rfl rfl ?_
     refine ⟨k + 1, a + 1, ⟨rfl, rfl, rfl, rfl, rfl, rfl, trivial⟩, by first | exact cs _ _ | exact CSub.refl _, ?_⟩
     refine ⟨⟨⟨by omega, by omega⟩, ?_⟩, by omega⟩
     rw [show (k + 1).toNat = k.toNat + 1 by omega, difT, if_pos (by omega)]; omega
   · try simp only [zbA] at h5
     refine tr_skip ?_
     refine tr_region fun _ _ _ => ?_
     refine pu rfl rfl rfl rfl rfl ?_
     refine st rfl rfl rfl rfl (rAdd rfl rfl rfl (by omega) (by omega)) ?_
     refine pu rfl rfl rfl rfl rfl ?_
     refine ⟨k + 1, a, ⟨rfl, rfl, rfl, rfl, rfl, rfl, trivial⟩, by first | exact cs _ _ | exact CSub.refl _, ?_⟩
     refine ⟨⟨⟨by omega, by omega⟩, ?_⟩, by omega⟩
     rw [show (k + 1).toNat = k.toNat + 1 by omega, difT, if_neg (by omega)]; omega
 · try simp only [zbA] at h3
   refine tr_exit ?_
   refine tr_seq ?_
   refine tr_region fun _ _ _ => ?_
   iterate 2 refine pu rfl rfl rfl rfl rfl ?_
   have hkn : k.toNat = z.length := by omega
   exact tr_ret ⟨trivial, _, _, rfl, ⟨by rw [ha, hkn], rfl⟩, CSub.nil _, trivial⟩
theorem law_OrderedWithin_E_ent : Enters Tryz.prog 4 := enters_of Tryz.func4 (by kernel_rfl) (by kernel_rfl)
theorem law_OrderedWithin_E (p m : Int) (A : Option Addr) (c : Nat) (mod : List Int) (hl9 : mod.length ≤ 17592186044415) (w : Int) (Aa : Option Addr) (n ca : Nat) (rs : List RowM) (hn : n = rs.length) (h9 : rs.length ≤ 17592186044415) (h8 : ∀ r ∈ rs, r.xs.length ≤ 17592186044415) (T : Option Addr) (nt ct : Nat) (ts : List RowM) (hnt : nt = ts.length) (t9 : ts.length ≤ 17592186044415) (t8 : ∀ r ∈ ts, r.xs.length ≤ 17592186044415) (r : Int) (X : Option Addr) (nx cx : Nat) (l : List Int) (hnx : nx = l.length) (hl : l.length ≤ 17592186044415) (he : codC p m mod w rs ≠ 0) :
   Pure Tryz.prog 4 #[.agg #[.int .i64 p, .int .i64 m, .slice A mod.length c, .int .i64 w, .slice Aa n ca], .slice T nt ct, .int .i64 r, .slice X nx cx] [ro A (ints mod), ro Aa (hdrs rs), rowsR rs, ro T (hdrs ts), rowsR ts, ro X (ints l)] (isV (.bool true)) := by
 refine pure_of (args := [.agg #[.int .i64 p, .int .i64 m, .slice A mod.length c, .int .i64 w, .slice Aa n ca], .slice T nt ct, .int .i64 r, .slice X nx cx]) 152 Tryz.func4 rfl rfl rfl law_OrderedWithin_E_ent ⟨id, id, id, id, id, id, trivial⟩ (fun w0 => ?_)
 refine tr_seq ?_
 refine tr_region fun _ _ _ => ?_
 refine ef rfl rfl (eBox rfl rfl rfl rfl rfl (fun p0 => ?_)) 
 refine pu rfl rfl rfl rfl rfl ?_
 refine tr_seq ?_
 refine tr_seq ?_
 refine tr_region fun _ _ _ => ?_
 refine st rfl rfl rfl rfl (rLdS rfl rfl rfl) ?_
 refine pu rfl rfl rfl rfl rfl ?_
 refine ef rfl rfl (eCallV rfl rfl rfl (law42_readyE p m A c mod hl9 w Aa n ca rs hn h9 h8 T nt ct ts hnt t9 t8 4096 he) ⟨rfl, rfl, rfl, trivial⟩ ?_) 
 refine st rfl rfl rfl rfl (rNotB rfl rfl) ?_
 refine pu rfl rfl rfl rfl rfl ?_
 refine stg rfl rfl rfl rfl rfl (fun hb => by (have hq := hb; try simp only [zbA] at hq); exact rMove rfl rfl) ?_
 refine stg rfl rfl rfl rfl rfl (fun hb => by (have hq := hb; try simp only [zbA] at hq); exact rLss rfl (evg rfl hb) rfl) ?_
 refine st rfl rfl rfl rfl (rOrB rfl rfl rfl rfl) ?_
 refine pu rfl rfl rfl rfl rfl ?_
 refine stg rfl rfl rfl rfl rfl (fun hb => by (have hq := hb; try simp only [zbA] at hq); exact rMove rfl rfl) ?_
 refine stg rfl rfl rfl rfl rfl (fun hb => by (have hq := hb; try simp only [zbA] at hq); exact rFld rfl rfl) ?_
 refine stg rfl rfl rfl rfl rfl (fun hb => by (have hq := hb; try simp only [zbA] at hq); exact rLdF rfl (evg rfl hb) rfl) ?_
 refine stg rfl rfl rfl rfl rfl (fun hb => by (have hq := hb; try simp only [zbA] at hq); exact rLen rfl (evg rfl hb)) ?_
 refine stg rfl rfl rfl rfl rfl (fun hb => by (have hq := hb; try simp only [zbA] at hq); exact rGtr rfl (evg rfl hb) (evg rfl hb)) ?_
 refine st rfl rfl rfl rfl (rOrB rfl rfl rfl rfl) ?_
 refine tr_cond_bool rfl (fun h1 => ?_) (fun h1 => ?_)
 · try simp only [zbA] at h1
   refine tr_seq ?_
   refine tr_region fun _ _ _ => ?_
   refine pu rfl rfl rfl rfl rfl ?_
   exact tr_ret ⟨trivial, _, _, rfl, ⟨rfl, rfl⟩, CSub.nil _, trivial⟩
 · try simp only [zbA] at h1
   simp at h1 --done
theorem law_OrderedWithin_R_ent : Enters Tryz.prog 4 := enters_of Tryz.func4 (by kernel_rfl) (by kernel_rfl)
theorem law_OrderedWithin_R (p m : Int) (A : Option Addr) (c : Nat) (mod : List Int) [hF : IsF p m mod] (w : Int) (Aa : Option Addr) (n ca : Nat) (rs : List RowM) (hn : n = rs.length) (h9 : rs.length ≤ 256) (hc : CodeOk p m mod w rs) (hl9 : mod.length ≤ 17592186044415) (h9b : rs.length ≤ 17592186044415) (h8 : ∀ r ∈ rs, r.xs.length ≤ 17592186044415) (T : Option Addr) (nt ct : Nat) (ts : List RowM) (hnt : nt = ts.length) (t9 : ts.length ≤ 17592186044415) (t8 : ∀ r ∈ ts, r.xs.length ≤ 17592186044415) (r : Int) (ho : ordC (pw p m) w (xss ts) ≠ 0) (X : Option Addr) (nx cx : Nat) (l : List Int) (hnx : nx = l.length) (hl : l.length ≤ 17592186044415) :
   Pure Tryz.prog 4 #[.agg #[.int .i64 p, .int .i64 m, .slice A mod.length c, .int .i64 w, .slice Aa n ca], .slice T nt ct, .int .i64 r, .slice X nx cx] [ro A (ints mod), ro Aa (hdrs rs), rowsR rs, ro T (hdrs ts), rowsR ts, ro X (ints l)] (isV (.bool true)) := by
 have h9c := h9
 refine pure_of (args := [.agg #[.int .i64 p, .int .i64 m, .slice A mod.length c, .int .i64 w, .slice Aa n ca], .slice T nt ct, .int .i64 r, .slice X nx cx]) 152 Tryz.func4 rfl rfl rfl law_OrderedWithin_R_ent ⟨id, id, id, id, id, id, trivial⟩ (fun w0 => ?_)
 refine tr_seq ?_
 refine tr_region fun _ _ _ => ?_
 refine ef rfl rfl (eBox rfl rfl rfl rfl rfl (fun p0 => ?_)) 
 refine pu rfl rfl rfl rfl rfl ?_
 refine tr_seq ?_
 refine tr_seq ?_
 refine tr_region fun _ _ _ => ?_
 refine st rfl rfl rfl rfl (rLdS rfl rfl rfl) ?_
 refine pu rfl rfl rfl rfl rfl ?_
 refine ef rfl rfl (eCallV rfl rfl rfl (law42_readyR p m A c mod w Aa n ca rs hn h9c hc hl9 h9b h8 T nt ct ts hnt t9 t8 4096 ho) ⟨rfl, rfl, rfl, trivial⟩ ?_) 
 refine st rfl rfl rfl rfl (rNotB rfl rfl) ?_
 refine pu rfl rfl rfl rfl rfl ?_
 refine stg rfl rfl rfl rfl rfl (fun hb => by (have hq := hb; try simp only [zbA] at hq); exact rMove rfl rfl) ?_
 refine stg rfl rfl rfl rfl rfl (fun hb => by (have hq := hb; try simp only [zbA] at hq); exact rLss rfl (evg rfl hb) rfl) ?_
 refine st rfl rfl rfl rfl (rOrB rfl rfl rfl rfl) ?_
 refine pu rfl rfl rfl rfl rfl ?_
 refine stg rfl rfl rfl rfl rfl (fun hb => by (have hq := hb; try simp only [zbA] at hq); exact rMove rfl rfl) ?_
 refine stg rfl rfl rfl rfl rfl (fun hb => by (have hq := hb; try simp only [zbA] at hq); exact rFld rfl rfl) ?_
 refine stg rfl rfl rfl rfl rfl (fun hb => by (have hq := hb; try simp only [zbA] at hq); exact rLdF rfl (evg rfl hb) rfl) ?_
 refine stg rfl rfl rfl rfl rfl (fun hb => by (have hq := hb; try simp only [zbA] at hq); exact rLen rfl (evg rfl hb)) ?_
 refine stg rfl rfl rfl rfl rfl (fun hb => by (have hq := hb; try simp only [zbA] at hq); exact rGtr rfl (evg rfl hb) (evg rfl hb)) ?_
 refine st rfl rfl rfl rfl (rOrB rfl rfl rfl rfl) ?_
 refine tr_cond_bool rfl (fun h1 => ?_) (fun h1 => ?_)
 · try simp only [zbA] at h1
   refine tr_seq ?_
   refine tr_region fun _ _ _ => ?_
   refine pu rfl rfl rfl rfl rfl ?_
   exact tr_ret ⟨trivial, _, _, rfl, ⟨rfl, rfl⟩, CSub.nil _, trivial⟩
 · try simp only [zbA] at h1
   simp at h1 --done
theorem law_OrderedWithin_O_ent : Enters Tryz.prog 4 := enters_of Tryz.func4 (by kernel_rfl) (by kernel_rfl)
theorem law_OrderedWithin_O (p m : Int) (A : Option Addr) (c : Nat) (mod : List Int) [hF : IsF p m mod] (w : Int) (Aa : Option Addr) (n ca : Nat) (rs : List RowM) (hn : n = rs.length) (h9 : rs.length ≤ 256) (hc : CodeOk p m mod w rs) (hl9 : mod.length ≤ 17592186044415) (h9b : rs.length ≤ 17592186044415) (h8 : ∀ r ∈ rs, r.xs.length ≤ 17592186044415) (T : Option Addr) (nt ct : Nat) (ts : List RowM) (hnt : nt = ts.length) (t9 : ts.length ≤ 17592186044415) (t8 : ∀ r ∈ ts, r.xs.length ≤ 17592186044415) (r : Int) (ho : ordC (pw p m) w (xss ts) = 0) (hro : r < 0 ∨ r > n) (X : Option Addr) (nx cx : Nat) (l : List Int) (hnx : nx = l.length) (hl : l.length ≤ 17592186044415) :
   Pure Tryz.prog 4 #[.agg #[.int .i64 p, .int .i64 m, .slice A mod.length c, .int .i64 w, .slice Aa n ca], .slice T nt ct, .int .i64 r, .slice X nx cx] [ro A (ints mod), ro Aa (hdrs rs), rowsR rs, ro T (hdrs ts), rowsR ts, ro X (ints l)] (isV (.bool true)) := by
 have h9c := h9
 refine pure_of (args := [.agg #[.int .i64 p, .int .i64 m, .slice A mod.length c, .int .i64 w, .slice Aa n ca], .slice T nt ct, .int .i64 r, .slice X nx cx]) 152 Tryz.func4 rfl rfl rfl law_OrderedWithin_O_ent ⟨id, id, id, id, id, id, trivial⟩ (fun w0 => ?_)
 refine tr_seq ?_
 refine tr_region fun _ _ _ => ?_
 refine ef rfl rfl (eBox rfl rfl rfl rfl rfl (fun p0 => ?_)) 
 refine pu rfl rfl rfl rfl rfl ?_
 refine tr_seq ?_
 refine tr_seq ?_
 refine tr_region fun _ _ _ => ?_
 refine st rfl rfl rfl rfl (rLdS rfl rfl rfl) ?_
 refine pu rfl rfl rfl rfl rfl ?_
 refine ef rfl rfl (eCall0 rfl rfl rfl (law42_readyG p m A c mod w Aa n ca rs hn h9c hc hl9 h9b h8 T nt ct ts hnt t9 t8 4096 ho) ⟨rfl, rfl, rfl, trivial⟩ ?_) 
 rintro _ ⟨b, rfl, hb⟩
 refine st rfl rfl rfl rfl (rNotB rfl rfl) ?_
 refine pu rfl rfl rfl rfl rfl ?_
 refine stg rfl rfl rfl rfl rfl (fun hb => by (have hq := hb; try simp only [zbA] at hq); exact rMove rfl rfl) ?_
 refine stg rfl rfl rfl rfl rfl (fun hb => by (have hq := hb; try simp only [zbA] at hq); exact rLss rfl (evg rfl hb) rfl) ?_
 refine st rfl rfl rfl rfl (rOrB rfl rfl rfl rfl) ?_
 refine pu rfl rfl rfl rfl rfl ?_
 refine stg rfl rfl rfl rfl rfl (fun hb => by (have hq := hb; try simp only [zbA] at hq); exact rMove rfl rfl) ?_
 refine stg rfl rfl rfl rfl rfl (fun hb => by (have hq := hb; try simp only [zbA] at hq); exact rFld rfl rfl) ?_
 refine stg rfl rfl rfl rfl rfl (fun hb => by (have hq := hb; try simp only [zbA] at hq); exact rLdF rfl (evg rfl hb) rfl) ?_
 refine stg rfl rfl rfl rfl rfl (fun hb => by (have hq := hb; try simp only [zbA] at hq); exact rLen rfl (evg rfl hb)) ?_
 refine stg rfl rfl rfl rfl rfl (fun hb => by (have hq := hb; try simp only [zbA] at hq); exact rGtr rfl (evg rfl hb) (evg rfl hb)) ?_
 refine st rfl rfl rfl rfl (rOrB rfl rfl rfl rfl) ?_
 refine tr_cond_bool rfl (fun h1 => ?_) (fun h1 => ?_)
 · try simp only [zbA] at h1
   refine tr_seq ?_
   refine tr_region fun _ _ _ => ?_
   refine pu rfl rfl rfl rfl rfl ?_
   exact tr_ret ⟨trivial, _, _, rfl, ⟨rfl, rfl⟩, CSub.nil _, trivial⟩
 · try simp only [zbA] at h1
   simp at h1
   omega --done
theorem law_OrderedWithin_G_ent : Enters Tryz.prog 4 := enters_of Tryz.func4 (by kernel_rfl) (by kernel_rfl)
theorem law_OrderedWithin_G (p m : Int) (A : Option Addr) (c : Nat) (mod : List Int) [hF : IsF p m mod] (w : Int) (Aa : Option Addr) (n ca : Nat) (rs : List RowM) (hn : n = rs.length) (h9 : rs.length ≤ 256) (hc : CodeOk p m mod w rs) (hl9 : mod.length ≤ 17592186044415) (h9b : rs.length ≤ 17592186044415) (h8 : ∀ r ∈ rs, r.xs.length ≤ 17592186044415) (T : Option Addr) (nt ct : Nat) (ts : List RowM) (hnt : nt = ts.length) (t9 : ts.length ≤ 17592186044415) (t8 : ∀ r ∈ ts, r.xs.length ≤ 17592186044415) (r : Nat) (hr : r ≤ n) (ho : ordC (pw p m) w (xss ts) = 0) (X : Option Addr) (nx cx : Nat) (l : List Int) (hnx : nx = l.length) (hl : l.length ≤ 17592186044415) :
   Pure Tryz.prog 4 #[.agg #[.int .i64 p, .int .i64 m, .slice A mod.length c, .int .i64 w, .slice Aa n ca], .slice T nt ct, .int .i64 r, .slice X nx cx] [ro A (ints mod), ro Aa (hdrs rs), rowsR rs, ro T (hdrs ts), rowsR ts, ro X (ints l)] (isV (.bool true)) := by
 have h9c := h9
 have hq2 := hF.q2
 have htab := ordC_zero ho
 have htl := htab.len
 have hq256 := hF.out.1.1.q
 have hn64 := hc.n64
 have hn1 := hc.n1
 have hgd := hc.good
 have hhi := hardL_in hq2 htab.row
 have hhl := hardL_length ts
 refine pure_of (args := [.agg #[.int .i64 p, .int .i64 m, .slice A mod.length c, .int .i64 w, .slice Aa n ca], .slice T nt ct, .int .i64 r, .slice X nx cx]) 152 Tryz.func4 rfl rfl rfl law_OrderedWithin_G_ent ⟨id, id, id, id, id, id, trivial⟩ (fun w0 => ?_)
 refine tr_seq ?_
 refine tr_region fun _ _ _ => ?_
 refine ef rfl rfl (eBox rfl rfl rfl rfl rfl (fun p0 => ?_)) 
 refine pu rfl rfl rfl rfl rfl ?_
 refine tr_seq ?_
 refine tr_seq ?_
 refine tr_region fun _ _ _ => ?_
 refine st rfl rfl rfl rfl (rLdS rfl rfl rfl) ?_
 refine pu rfl rfl rfl rfl rfl ?_
 refine ef rfl rfl (eCall0 rfl rfl rfl (law42_readyG p m A c mod w Aa n ca rs hn h9c hc hl9 h9b h8 T nt ct ts hnt t9 t8 4096 ho) ⟨rfl, rfl, rfl, trivial⟩ ?_) 
 rintro _ ⟨b, rfl, hb⟩
 refine st rfl rfl rfl rfl (rNotB rfl rfl) ?_
 refine pu rfl rfl rfl rfl rfl ?_
 refine stg rfl rfl rfl rfl rfl (fun hb => by (have hq := hb; try simp only [zbA] at hq); exact rMove rfl rfl) ?_
 refine stg rfl rfl rfl rfl rfl (fun hb => by (have hq := hb; try simp only [zbA] at hq); exact rLss rfl (evg rfl hb) rfl) ?_
 refine st rfl rfl rfl rfl (rOrB rfl rfl rfl rfl) ?_
 refine pu rfl rfl rfl rfl rfl ?_
 refine stg rfl rfl rfl rfl rfl (fun hb => by (have hq := hb; try simp only [zbA] at hq); exact rMove rfl rfl) ?_
 refine stg rfl rfl rfl rfl rfl (fun hb => by (have hq := hb; try simp only [zbA] at hq); exact rFld rfl rfl) ?_
 refine stg rfl rfl rfl rfl rfl (fun hb => by (have hq := hb; try simp only [zbA] at hq); exact rLdF rfl (evg rfl hb) rfl) ?_
 refine stg rfl rfl rfl rfl rfl (fun hb => by (have hq := hb; try simp only [zbA] at hq); exact rLen rfl (evg rfl hb)) ?_
 refine stg rfl rfl rfl rfl rfl (fun hb => by (have hq := hb; try simp only [zbA] at hq); exact rGtr rfl (evg rfl hb) (evg rfl hb)) ?_
 refine st rfl rfl rfl rfl (rOrB rfl rfl rfl rfl) ?_
 refine tr_cond_bool rfl (fun h1 => ?_) (fun h1 => ?_)
 · try simp only [zbA] at h1
   refine tr_seq ?_
   refine tr_region fun _ _ _ => ?_
   refine pu rfl rfl rfl rfl rfl ?_
   exact tr_ret ⟨trivial, _, _, rfl, ⟨rfl, rfl⟩, CSub.nil _, trivial⟩
 · try simp only [zbA] at h1
   refine tr_skip ?_
   refine tr_seq ?_
   have hcn := hb (by simp at h1; first | exact h1.1 | exact h1.1.1)
   refine tr_region fun _ _ _ => ?_
   refine st rfl rfl rfl rfl (rLdS rfl rfl rfl) ?_
   iterate 2 refine pu rfl rfl rfl rfl rfl ?_
   refine ef rfl rfl (eCall1 rfl rfl rfl (ord_Decode p m A c mod w Aa n ca rs hn h9c hc T nt ct ts hnt t9 t8 ho r hr (cntC_powW hq2 hcn)) ⟨rfl, rfl, rfl, trivial⟩ ?_) 
   rintro _ _ ⟨B3, c3, o, bs, rfl, rfl, hbl, hbas, hol, hbst⟩
   iterate 5 refine pu rfl rfl rfl rfl rfl ?_
   refine tr_seq ?_
   refine tr_seq ?_
   have hlw : (o.length : Int) = w := by omega
   have hoi := hbst.1.2.1
   have hwo := wordC_okW hlw hoi
   refine tr_region fun _ _ _ => ?_
   iterate 3 refine pu rfl rfl rfl rfl rfl ?_
   refine stg rfl rfl rfl rfl rfl (fun hb => by (have hq := hb; try simp only [zbA] at hq); exact rMove rfl rfl) ?_
   refine stg rfl rfl rfl rfl rfl (fun hb => by (have hq := hb; try simp only [zbA] at hq); exact rLen rfl (evg rfl hb)) ?_
   refine stg rfl rfl rfl rfl rfl (fun hb => by (have hq := hb; try simp only [zbA] at hq); exact rFld rfl rfl) ?_
   refine stg rfl rfl rfl rfl rfl (fun hb => by (have hq := hb; try simp only [zbA] at hq); exact rLdF rfl (evg rfl hb) rfl) ?_
   refine stg rfl rfl rfl rfl rfl (fun hb => by (have hq := hb; try simp only [zbA] at hq); exact rNeq rfl (evg rfl hb) (evg rfl hb)) ?_
   refine st rfl rfl rfl rfl (rOrB rfl rfl rfl rfl) ?_
   refine pu rfl rfl rfl rfl rfl ?_
   refine stg rfl rfl rfl rfl rfl (fun hb => by (have hq := hb; try simp only [zbA] at hq); exact rLdS rfl rfl rfl) ?_
   refine stg rfl rfl rfl rfl rfl (fun hb => by (have hq := hb; try simp only [zbA] at hq); exact rMove rfl rfl) ?_
   refine efg rfl rfl rfl rfl rfl (fun hb => by (have hq := hb; try simp only [zbA] at hq); exact eCallV rfl rfl rfl (ref_CWordC p m A c mod w Aa n ca rs hn h9c hc B3 _ c3 o rfl (by omega)) ⟨(evg rfl hb), (evg rfl hb), trivial⟩ ⟨rfl, rfl⟩) ?_
   refine stg rfl rfl rfl rfl rfl (fun hb => by (have hq := hb; try simp only [zbA] at hq); exact rNeq rfl (evg rfl hb) rfl) ?_
   refine st rfl rfl rfl rfl (rOrB rfl rfl rfl rfl) ?_
   refine tr_cond_bool rfl (fun h4 => ?_) (fun h4 => ?_)
   · try simp only [zbA] at h4
     simp [hwo, hlw] at h4 --done
   · try simp only [zbA] at h4
     refine tr_skip ?_
     refine tr_seq ?_
     refine tr_region fun _ _ _ => ?_
     refine st rfl rfl rfl rfl (rLdS rfl rfl rfl) ?_
     refine pu rfl rfl rfl rfl rfl ?_
     refine ef rfl rfl (eCall1 rfl rfl rfl (ord_BasisG p m A c mod w Aa n ca rs hn h9c hc T nt ct ts hnt t9 t8 ho) ⟨rfl, rfl, trivial⟩ ?_) 
     rintro _ _ ⟨B6, c6, b6, o6, rfl, rfl, hO6, hB6⟩
     iterate 5 refine pu rfl rfl rfl rfl rfl ?_
     refine tr_seq ?_
     refine tr_region fun _ _ _ => ?_
     refine st rfl rfl rfl rfl (rLdS rfl rfl rfl) ?_
     refine pu rfl rfl rfl rfl rfl ?_
     refine ef rfl rfl (eCall1 rfl rfl rfl (ord_HardG p m A c mod w Aa n ca rs hn h9c hc T nt ct ts hnt t9 t8 ho) ⟨rfl, rfl, trivial⟩ ?_) 
     rintro _ _ ⟨B7, c7, rfl, rfl⟩
     iterate 5 refine pu rfl rfl rfl rfl rfl ?_
     refine tr_seq ?_
     refine tr_seq ?_
     have hl6 : b6.length = rs.length := hB6.dim hO6 (show formP p m mod ts.length rs by rw [show ts.length = w.toNat by omega]; exact hc.form)
     have hbe := bas_one hO6 hB6 hl6 hbl hbas
     subst hbe
     refine tr_draw [0, 1, 2, 3, 4, 5, 6, 7, 8, 9, 10, 11, 12, 13, 14, 15, 16, 17, 18, 19, 20, 21, 22, 23, 24, 25, 26, 27, 28] [] mixed (by kernel_rfl) fun _ _ _ => ?_
     iterate 3 refine pu rfl rfl rfl rfl rfl ?_
     refine stT rfl rfl rfl (by simp) rfl rfl (rMove rfl rfl) ?_
     refine stT rfl rfl rfl (by simp) rfl rfl (rNeq rfl rfl rfl) ?_
     refine st rfl rfl rfl rfl (rPick0 rfl rfl (by simp) rfl) ?_
     refine pu rfl rfl rfl rfl rfl ?_
     refine stT rfl rfl rfl (by simp) rfl rfl (rMove rfl rfl) ?_
     refine stT rfl rfl rfl (by simp) rfl rfl (rLen rfl rfl) ?_
     refine stT rfl rfl rfl (by simp) rfl rfl (rFld rfl rfl) ?_
     refine stT rfl rfl rfl (by simp) rfl rfl (rLdF rfl rfl rfl) ?_
     refine stT rfl rfl rfl (by simp) rfl rfl (rNeq rfl rfl rfl) ?_
     refine st rfl rfl rfl rfl (rPick0 rfl rfl (by simp) rfl) ?_
     refine pu rfl rfl rfl rfl rfl ?_
     refine stT rfl rfl rfl (by simp [hhl, htl]) rfl rfl (rLdS rfl rfl rfl) ?_
     refine stT rfl rfl rfl (by simp [hhl, htl]) rfl rfl (rLdS rfl rfl rfl) ?_
     refine stT rfl rfl rfl (by simp [hhl, htl]) rfl rfl (rMove rfl rfl) ?_
     refine efT rfl rfl rfl (by simp [hhl, htl]) (eCall1 rfl rfl rfl (ref_OBasis p m A c mod w Aa n ca rs hn h9c hc T nt ct ts hnt htab) ⟨rfl, rfl, trivial⟩ ?_) 
     rintro _ _ ⟨B8, c8, b8, o8, rfl, rfl, hO8, hB8⟩
     have hi8 := hB8.ind
     refine efT rfl rfl rfl (by simp [hhl, htl]) (eCallV rfl rfl rfl (ref_Indep p m A c mod w Aa n ca rs hn h9c hc B8 _ c8 b8 rfl (Nat.le_trans (bas_le hO8 hB8 (by omega)) (by omega)) (bas_in hO8 hB8 (by omega))) ⟨rfl, rfl, trivial⟩ ?_) 
     refine stT rfl rfl rfl (by simp [hhl, htl]) rfl rfl (rNotB rfl rfl) ?_
     refine st rfl rfl rfl rfl (rPick0 rfl rfl (by simp [hhl, htl]) rfl) ?_
     refine pu rfl rfl rfl rfl rfl ?_
     refine stT rfl rfl rfl (by simp [hi8, hhl, htl]) rfl rfl (rMove rfl rfl) ?_
     refine stT rfl rfl rfl (by simp [hi8, hhl, htl]) rfl rfl (rLdS rfl rfl rfl) ?_
     refine stT rfl rfl rfl (by simp [hi8, hhl, htl]) rfl rfl (rMove rfl rfl) ?_
     refine efT rfl rfl rfl (by simp [hi8, hhl, htl]) (eCall1 rfl rfl rfl (ref_OBasis p m A c mod w Aa n ca rs hn h9c hc T nt ct ts hnt htab) ⟨rfl, rfl, trivial⟩ ?_) 
     rintro _ _ ⟨B9, c9, b9, o9, rfl, rfl, hO9, hB9⟩
     have he9 : bs = b9 := by
       have := hO6.one hO9
       subst this
       exact hB6.one hB9
     refine efT rfl rfl rfl (by simp [hi8, hhl, htl]) (eCallV rfl rfl rfl (ref_SameInts _ _ _ bs rfl _ _ _ b9 rfl (by omega)) ⟨rfl, rfl, trivial⟩ ?_) 
     refine stT rfl rfl rfl (by simp [hi8, hhl, htl]) rfl rfl (rNotB rfl rfl) ?_
     refine st rfl rfl rfl rfl (rPick0 rfl rfl (by simp [hi8, hhl, htl]) rfl) ?_
     refine tr_cond_bool rfl (fun h8 => ?_) (fun h8 => ?_)
     · try simp only [zbA] at h8
       simp [hi8, he9, hhl, htl] at h8 --done
     · try simp only [zbA] at h8
       refine tr_skip ?_
       refine tr_seq ?_
       refine tr_region fun _ _ _ => ?_
       refine st rfl rfl rfl rfl (rLdS rfl rfl rfl) ?_
       refine pu rfl rfl rfl rfl rfl ?_
       refine ef rfl rfl (eCall1 rfl rfl rfl (ref_Of p m A c mod w Aa n ca rs hn h9c hc X nx cx l hnx hl) ⟨rfl, rfl, trivial⟩ ?_) 
       rintro _ _ ⟨B10, c10, o2, rfl, rfl, hol2, hoi2, hos2⟩
       refine pu rfl rfl rfl rfl rfl ?_
       refine tr_seq ?_
       refine tr_seq ?_
       have hbin := bas_in hO6 hB6 (show (ts.length : Int) = w by omega)
       have hb6 : ∀ b ∈ bs, 0 ≤ b ∧ b < o.length ∧ b < (hardL ts).length := fun b hb => by have := hbin b hb; omega
       have hb62 : ∀ b ∈ bs, 0 ≤ b ∧ b < o2.length ∧ b < (hardL ts).length := fun b hb => by have := hbin b hb; omega
       have hdo := hbst.1.2.2.2
       have hc2 : difT bs o2 (hardL ts) bs.length ≤ r → cstL (xss ts) o ≤ cstL (xss ts) o2 := fun h => hbst.le ⟨by omega, hoi2, hos2, h⟩
       refine tr_region fun _ _ _ => ?_
       iterate 3 refine pu rfl rfl rfl rfl rfl ?_
       refine ef rfl rfl (eCallV rfl rfl rfl (ref_Differ B3 _ c3 o rfl B7 _ c7 (hardL ts) rfl B6 _ c6 bs rfl hb6 (by omega) (by omega)) ⟨rfl, rfl, rfl, trivial⟩ ?_) 
       iterate 3 refine pu rfl rfl rfl rfl rfl ?_
       refine stT rfl rfl rfl (by simp; omega) rfl rfl (rMove rfl rfl) ?_
       refine stT rfl rfl rfl (by simp; omega) rfl rfl (rMove rfl rfl) ?_
       refine stT rfl rfl rfl (by simp; omega) rfl rfl (rMove rfl rfl) ?_
       refine efT rfl rfl rfl (by simp; omega) (eCallV rfl rfl rfl (ref_Differ B10 _ c10 o2 rfl B7 _ c7 (hardL ts) rfl B6 _ c6 bs rfl hb62 (by omega) (by omega)) ⟨rfl, rfl, rfl, trivial⟩ ?_) 
       refine stT rfl rfl rfl (by simp; omega) rfl rfl (rMove rfl rfl) ?_
       refine stT rfl rfl rfl (by simp; omega) rfl rfl (rLeq rfl rfl rfl) ?_
       refine stT rfl rfl rfl (by simp; omega) rfl rfl (rMove rfl rfl) ?_
       refine stg rfl rfl rfl rfl rfl (fun hb => by (have hq := hb; try simp only [zbA] at hq); exact rMove rfl rfl) ?_
       refine stg rfl rfl rfl rfl rfl (fun hb => by (have hq := hb; try simp only [zbA] at hq); exact rMove rfl rfl) ?_
       refine efg rfl rfl rfl rfl rfl (fun hb => by (have hq := hb; try simp only [zbA] at hq); exact eCallV rfl rfl rfl (ref_OCost T nt ct ts hnt (pw p m) hq2 hq256 (by omega) htab.row B3 _ c3 o rfl (by omega) hoi) ⟨(evg rfl hb), (evg rfl hb), trivial⟩ ⟨rfl, rfl⟩) ?_
       refine stg rfl rfl rfl rfl rfl (fun hb => by (have hq := hb; try simp only [zbA] at hq); exact rMove rfl rfl) ?_
       refine stg rfl rfl rfl rfl rfl (fun hb => by (have hq := hb; try simp only [zbA] at hq); exact rMove rfl rfl) ?_
       refine efg rfl rfl rfl rfl rfl (fun hb => by (have hq := hb; try simp only [zbA] at hq); exact eCallV rfl rfl rfl (ref_OCost T nt ct ts hnt (pw p m) hq2 hq256 (by omega) htab.row B10 _ c10 o2 rfl (by omega) hoi2) ⟨(evg rfl hb), (evg rfl hb), trivial⟩ ⟨rfl, rfl⟩) ?_
       refine stg rfl rfl rfl rfl rfl (fun hb => by (have hq := hb; try simp only [zbA] at hq); exact rGtr rfl (evg rfl hb) (evg rfl hb)) ?_
       refine stT rfl rfl rfl (by simp; omega) rfl rfl (rAndB rfl rfl rfl rfl) ?_
       refine st rfl rfl rfl rfl (rPick0 rfl rfl (by simp; omega) rfl) ?_
       refine tr_cond_bool rfl (fun h11 => ?_) (fun h11 => ?_)
       · try simp only [zbA] at h11
         simp at h11
         omega --done
       · try simp only [zbA] at h11
         refine tr_skip ?_
         refine tr_seq ?_
         refine tr_seq ?_
         refine tr_region fun _ _ _ => ?_
         refine pu rfl rfl rfl rfl rfl ?_
         refine st rfl rfl rfl rfl (rFld rfl rfl) ?_
         refine st rfl rfl rfl rfl (rLdF rfl rfl rfl) ?_
         refine st rfl rfl rfl rfl (rLen rfl rfl) ?_
         refine pu rfl rfl rfl rfl rfl ?_
         refine tr_cond_bool rfl (fun h13 => ?_) (fun h13 => ?_)
         · try simp only [zbA] at h13
           refine tr_seq ?_
           refine tr_region fun _ _ _ => ?_
           refine pu rfl rfl rfl rfl rfl ?_
           exact tr_ret ⟨trivial, _, _, rfl, ⟨rfl, rfl⟩, CSub.nil _, trivial⟩
         · try simp only [zbA] at h13
           refine tr_skip ?_
           refine tr_seq ?_
           refine tr_region fun _ _ _ => ?_
           refine st rfl rfl rfl rfl (rLdS rfl rfl rfl) ?_
           iterate 2 refine pu rfl rfl rfl rfl rfl ?_
           refine st rfl rfl rfl rfl (rAdd rfl rfl rfl (by omega) (by omega)) ?_
           rw [show ((r : Nat) : Int) + 1 = ((r + 1 : Nat) : Int) from rfl]
           refine ef rfl rfl (eCall1 rfl rfl rfl (ord_Decode p m A c mod w Aa n ca rs hn h9c hc T nt ct ts hnt t9 t8 ho (r + 1) (by omega) (cntC_powW hq2 hcn)) ⟨rfl, rfl, rfl, trivial⟩ ?_) 
           rintro _ _ ⟨B15, c15, o5, bs5, rfl, rfl, hbl5, hbas5, hol5, hbst5⟩
           iterate 5 refine pu rfl rfl rfl rfl rfl ?_
           refine tr_seq ?_
           have hlw5 : (o5.length : Int) = w := by omega
           have hwo5 := wordC_okW hlw5 hbst5.1.2.1
           have hbe5 := bas_one hO6 hB6 hbl hbl5 hbas5
           subst hbe5
           have hle := hbst5.le (show Cand p m mod rs ts.length bs5 (hardL ts) (r + 1) o from ⟨hbst.1.1, hoi, hbst.1.2.2.1, by omega⟩)
           refine tr_region fun _ _ _ => ?_
           iterate 3 refine pu rfl rfl rfl rfl rfl ?_
           refine stT rfl rfl rfl (by simp) rfl rfl (rLdS rfl rfl rfl) ?_
           refine stT rfl rfl rfl (by simp) rfl rfl (rMove rfl rfl) ?_
           refine efT rfl rfl rfl (by simp) (eCallV rfl rfl rfl (ref_CWordC p m A c mod w Aa n ca rs hn h9c hc B15 _ c15 o5 rfl (by omega)) ⟨rfl, rfl, trivial⟩ ?_) 
           refine stT rfl rfl rfl (by simp) rfl rfl (rEql rfl rfl rfl) ?_
           refine st rfl rfl rfl rfl (rPick1 rfl rfl (by simp) rfl) ?_
           refine pu rfl rfl rfl rfl rfl ?_
           refine stT rfl rfl rfl (by simp [hwo5]) rfl rfl (rMove rfl rfl) ?_
           refine stT rfl rfl rfl (by simp [hwo5]) rfl rfl (rMove rfl rfl) ?_
           refine efT rfl rfl rfl (by simp [hwo5]) (eCallV rfl rfl rfl (ref_OCost T nt ct ts hnt (pw p m) hq2 hq256 (by omega) htab.row B15 _ c15 o5 rfl (by omega) hbst5.1.2.1) ⟨rfl, rfl, trivial⟩ ?_) 
           refine stT rfl rfl rfl (by simp [hwo5]) rfl rfl (rMove rfl rfl) ?_
           refine stT rfl rfl rfl (by simp [hwo5]) rfl rfl (rMove rfl rfl) ?_
           refine efT rfl rfl rfl (by simp [hwo5]) (eCallV rfl rfl rfl (ref_OCost T nt ct ts hnt (pw p m) hq2 hq256 (by omega) htab.row B3 _ c3 o rfl (by omega) hoi) ⟨rfl, rfl, trivial⟩ ?_) 
           refine stT rfl rfl rfl (by simp [hwo5]) rfl rfl (rLeq rfl rfl rfl) ?_
           refine st rfl rfl rfl rfl (rPick1 rfl rfl (by simp [hwo5]) rfl) ?_
           refine pu rfl rfl rfl rfl rfl ?_
           exact tr_ret ⟨trivial, _, _, rfl, ⟨by simp [hwo5, hle], rfl⟩, CSub.nil _, trivial⟩
theorem law_OrderedWithin (p m : Int) (A : Option Addr) (c : Nat) (mod : List Int) (hl9 : mod.length ≤ 17592186044415) (w : Int) (Aa : Option Addr) (n ca : Nat) (rs : List RowM) (hn : n = rs.length) (h9 : rs.length ≤ 17592186044415) (h8 : ∀ r ∈ rs, r.xs.length ≤ 17592186044415) (T : Option Addr) (nt ct : Nat) (ts : List RowM) (hnt : nt = ts.length) (t9 : ts.length ≤ 17592186044415) (t8 : ∀ r ∈ ts, r.xs.length ≤ 17592186044415) (r : Int) (X : Option Addr) (nx cx : Nat) (l : List Int) (hnx : nx = l.length) (hl : l.length ≤ 17592186044415) : Pure Tryz.prog 4 #[.agg #[.int .i64 p, .int .i64 m, .slice A mod.length c, .int .i64 w, .slice Aa n ca], .slice T nt ct, .int .i64 r, .slice X nx cx] [ro A (ints mod), ro Aa (hdrs rs), rowsR rs, ro T (hdrs ts), rowsR ts, ro X (ints l)] (isV (.bool true)) := by
 by_cases he : codC p m mod w rs = 0
 · obtain ⟨hF0, hc⟩ := codC_zero he
   haveI hF : IsF p m mod := ⟨hF0⟩
   have hlen := hc.len
   by_cases ho : ordC (pw p m) w (xss ts) = 0
   · by_cases hro : r < 0 ∨ r > n
     · exact law_OrderedWithin_O p m A c mod w Aa n ca rs hn (by omega) hc hl9 h9 h8 T nt ct ts hnt t9 t8 r ho hro X nx cx l hnx hl
     · obtain ⟨k, rfl⟩ : ∃ k : Nat, r = (k : Int) := ⟨r.toNat, by omega⟩
       exact law_OrderedWithin_G p m A c mod w Aa n ca rs hn (by omega) hc hl9 h9 h8 T nt ct ts hnt t9 t8 k (by omega) ho X nx cx l hnx hl
   · exact law_OrderedWithin_R p m A c mod w Aa n ca rs hn (by omega) hc hl9 h9 h8 T nt ct ts hnt t9 t8 r ho X nx cx l hnx hl
 · exact law_OrderedWithin_E p m A c mod hl9 w Aa n ca rs hn h9 h8 T nt ct ts hnt t9 t8 r X nx cx l hnx hl he
end Go.Proofs.YtfdjdokdabmmdaaGreat

/-
  ORDEREDNEAREST, PART 9 OF 10. One sentence: the texts behind the law OrderedNearest, put together.
  Conditions: each theorem's own, written out in it.
-/
import Derived.Test.YtoalphamojhpcaaGreatK8
set_option linter.unusedSimpArgs false
set_option linter.unusedVariables false
set_option linter.unusedSectionVars false
set_option linter.unusedSimpArgs false
set_option linter.unusedVariables false
set_option maxRecDepth 100000
namespace Go.Proofs.YtoalphamojhpcaaGreat
open Go.RowKit
theorem dfT_le0 (l y : List Int) : ∀ k, dfT l y k ≤ k
  | 0 => Nat.le_refl _
  | k + 1 => by
    have := dfT_le0 l y k
    rw [dfT]; split <;> omega
theorem wordC_okN {q w : Int} {l : List Int} (h1 : (l.length : Int) = w) (h2 : AllIn q l) : wordC q w l = 0 := by rw [wordC_ent h1]; exact entC_ok h2
theorem cntC_nn {q : Int} (hq : 1 ≤ q) (k : Nat) (most : Int) : 0 ≤ cntC q k most := by
  unfold cntC
  split
  · exact Int.le_of_lt (Int.pow_pos (by omega))
  · exact Int.le_refl _
theorem cntC_powN {q : Int} (hq : 2 ≤ q) {k : Nat} {most : Int} (h : 0 < cntC q k most) : q.toNat ^ k ≤ 65536 := by
  unfold cntC at h
  split at h
  · rename_i h1
    have h2 : ((q.toNat ^ k : Nat) : Int) = q ^ k := by rw [Int.natCast_pow, Int.toNat_of_nonneg (by omega)]
    omega
  · omega
theorem dfT_symm (a b : List Int) : ∀ k, dfT a b k = dfT b a k
  | 0 => rfl
  | k + 1 => by
    rw [dfT, dfT, dfT_symm a b k]
    by_cases h : a.getD k 0 = b.getD k 0
    · rw [if_neg (fun e => e h), if_neg (fun e => e h.symm)]
    · rw [if_pos h, if_pos (fun e => h e.symm)]
theorem ref_CSizeE_ent : Enters Tryz.prog 62 := enters_of Tryz.func62 (by kernel_rfl) (by kernel_rfl)
theorem ref_CSizeE (p m : Int) (A : Option Addr) (c : Nat) (mod : List Int) (hl9 : mod.length ≤ 17592186044415) (w : Int) (Aa : Option Addr) (n ca : Nat) (rs : List RowM) (hn : n = rs.length) (h9 : rs.length ≤ 17592186044415) (h8 : ∀ r ∈ rs, r.xs.length ≤ 17592186044415) (he : codC p m mod w rs ≠ 0) :
    Pure Tryz.prog 62 #[.agg #[.int .i64 p, .int .i64 m, .slice A mod.length c, .int .i64 w, .slice Aa n ca]] [ro A (ints mod), ro Aa (hdrs rs), rowsR rs] (isV (.tuple #[.int .i64 0, .int .i64 (codC p m mod w rs)])) := by
  refine pure_of (args := [.agg #[.int .i64 p, .int .i64 m, .slice A mod.length c, .int .i64 w, .slice Aa n ca]]) 19 Tryz.func62 rfl rfl rfl ref_CSizeE_ent ⟨id, id, id, trivial⟩ (fun w0 => ?_)
  refine tr_seq ?_
  refine tr_region fun _ _ _ => ?_
  refine ef rfl rfl (eBox rfl rfl rfl rfl rfl (fun p0 => ?_)) 
  iterate 2 refine pu rfl rfl rfl rfl rfl ?_
  refine tr_seq ?_
  refine tr_region fun _ _ _ => ?_
  refine st rfl rfl rfl rfl (rLdS rfl rfl rfl) ?_
  refine ef rfl rfl (eCallV rfl rfl rfl (ref_CCheck p m A c mod hl9 w Aa n ca rs hn h9 h8) ⟨rfl, trivial⟩ ?_) 
  refine pu rfl rfl rfl rfl rfl ?_
  refine tr_seq ?_
  refine tr_seq ?_
  refine tr_region fun _ _ _ => ?_
  iterate 2 refine pu rfl rfl rfl rfl rfl ?_
  refine tr_cond_bool rfl (fun h2 => ?_) (fun h2 => ?_)
  · try simp only [zbA] at h2
    refine tr_seq ?_
    refine tr_region fun _ _ _ => ?_
    iterate 3 refine pu rfl rfl rfl rfl rfl ?_
    exact tr_ret ⟨trivial, _, _, rfl, ⟨rfl, rfl⟩, CSub.nil _, trivial⟩
  · try simp only [zbA] at h2
    omega --done
theorem ref_CCountE_ent : Enters Tryz.prog 22 := enters_of Tryz.func22 (by kernel_rfl) (by kernel_rfl)
theorem ref_CCountE (p m : Int) (A : Option Addr) (c : Nat) (mod : List Int) (hl9 : mod.length ≤ 17592186044415) (w : Int) (Aa : Option Addr) (n ca : Nat) (rs : List RowM) (hn : n = rs.length) (h9 : rs.length ≤ 17592186044415) (h8 : ∀ r ∈ rs, r.xs.length ≤ 17592186044415) (most : Int) (he : codC p m mod w rs ≠ 0) :
    Pure Tryz.prog 22 #[.agg #[.int .i64 p, .int .i64 m, .slice A mod.length c, .int .i64 w, .slice Aa n ca], .int .i64 most] [ro A (ints mod), ro Aa (hdrs rs), rowsR rs] (isV (.int .i64 0)) := by
  refine pure_of (args := [.agg #[.int .i64 p, .int .i64 m, .slice A mod.length c, .int .i64 w, .slice Aa n ca], .int .i64 most]) 20 Tryz.func22 rfl rfl rfl ref_CCountE_ent ⟨id, id, id, trivial⟩ (fun w0 => ?_)
  refine tr_seq ?_
  refine tr_region fun _ _ _ => ?_
  refine ef rfl rfl (eBox rfl rfl rfl rfl rfl (fun p0 => ?_)) 
  refine pu rfl rfl rfl rfl rfl ?_
  refine tr_seq ?_
  refine tr_region fun _ _ _ => ?_
  refine st rfl rfl rfl rfl (rLdS rfl rfl rfl) ?_
  refine ef rfl rfl (eCallV rfl rfl rfl (ref_CSizeE p m A c mod hl9 w Aa n ca rs hn h9 h8 he) ⟨rfl, trivial⟩ ?_) 
  iterate 5 refine pu rfl rfl rfl rfl rfl ?_
  refine tr_seq ?_
  refine tr_seq ?_
  refine tr_region fun _ _ _ => ?_
  iterate 3 refine pu rfl rfl rfl rfl rfl ?_
  refine stg rfl rfl rfl rfl rfl (fun hb => by (have hq := hb; try simp only [zbA] at hq); exact rMove rfl rfl) ?_
  refine stg rfl rfl rfl rfl rfl (fun hb => by (have hq := hb; try simp only [zbA] at hq); exact rMove rfl rfl) ?_
  refine stg rfl rfl rfl rfl rfl (fun hb => by (have hq := hb; try simp only [zbA] at hq); exact rGtr rfl (evg rfl hb) (evg rfl hb)) ?_
  refine st rfl rfl rfl rfl (rOrB rfl rfl rfl rfl) ?_
  refine tr_cond_bool rfl (fun h2 => ?_) (fun h2 => ?_)
  · try simp only [zbA] at h2
    refine tr_seq ?_
    refine tr_region fun _ _ _ => ?_
    refine pu rfl rfl rfl rfl rfl ?_
    exact tr_ret ⟨trivial, _, _, rfl, ⟨rfl, rfl⟩, CSub.nil _, trivial⟩
  · try simp only [zbA] at h2
    simp [he] at h2 --done
theorem law_OrderedNearest_E_ent : Enters Tryz.prog 7 := enters_of Tryz.func7 (by kernel_rfl) (by kernel_rfl)
theorem law_OrderedNearest_E (p m : Int) (A : Option Addr) (c : Nat) (mod : List Int) (hl9 : mod.length ≤ 17592186044415) (w : Int) (Aa : Option Addr) (n ca : Nat) (rs : List RowM) (hn : n = rs.length) (h9 : rs.length ≤ 17592186044415) (h8 : ∀ r ∈ rs, r.xs.length ≤ 17592186044415) (X : Option Addr) (nx cx : Nat) (l : List Int) (hnx : nx = l.length) (hl : l.length ≤ 17592186044415) (Y : Option Addr) (ny cy : Nat) (y : List Int) (hny : ny = y.length) (hy : y.length ≤ 17592186044415) (he : codC p m mod w rs ≠ 0) :
    Pure Tryz.prog 7 #[.agg #[.int .i64 p, .int .i64 m, .slice A mod.length c, .int .i64 w, .slice Aa n ca], .slice X nx cx, .slice Y ny cy] [ro A (ints mod), ro Aa (hdrs rs), rowsR rs, ro X (ints l), ro Y (ints y)] (isV (.bool true)) := by
  refine pure_of (args := [.agg #[.int .i64 p, .int .i64 m, .slice A mod.length c, .int .i64 w, .slice Aa n ca], .slice X nx cx, .slice Y ny cy]) 98 Tryz.func7 rfl rfl rfl law_OrderedNearest_E_ent ⟨id, id, id, id, id, trivial⟩ (fun w0 => ?_)
  refine tr_seq ?_
  refine tr_region fun _ _ _ => ?_
  refine ef rfl rfl (eBox rfl rfl rfl rfl rfl (fun p0 => ?_)) 
  refine pu rfl rfl rfl rfl rfl ?_
  refine tr_seq ?_
  refine tr_seq ?_
  refine tr_region fun _ _ _ => ?_
  refine st rfl rfl rfl rfl (rLdS rfl rfl rfl) ?_
  refine ef rfl rfl (eCall0 rfl rfl rfl (law42_fewC p m A c mod hl9 w Aa n ca rs hn h9 h8) ⟨rfl, trivial⟩ ?_) 
  rintro _ ⟨b, rfl, hb⟩
  refine st rfl rfl rfl rfl (rNotB rfl rfl) ?_
  refine pu rfl rfl rfl rfl rfl ?_
  refine stg rfl rfl rfl rfl rfl (fun hb => by (have hq := hb; try simp only [zbA] at hq); exact rLdS rfl rfl rfl) ?_
  refine efg rfl rfl rfl rfl rfl (fun hb => by (have hq := hb; try simp only [zbA] at hq); exact eCallV rfl rfl rfl (ref_CCountE p m A c mod hl9 w Aa n ca rs hn h9 h8 4096 he) ⟨(evg rfl hb), rfl, trivial⟩ ⟨rfl, rfl⟩) ?_
  refine stg rfl rfl rfl rfl rfl (fun hb => by (have hq := hb; try simp only [zbA] at hq); exact rEql rfl (evg rfl hb) rfl) ?_
  refine st rfl rfl rfl rfl (rOrB rfl rfl rfl rfl) ?_
  refine pu rfl rfl rfl rfl rfl ?_
  refine skF rfl rfl (by simp) rfl rfl ?_
  refine skF rfl rfl (by simp) rfl rfl ?_
  refine skF rfl rfl (by simp) rfl rfl ?_
  refine skF rfl rfl (by simp) rfl rfl ?_
  refine st rfl rfl rfl rfl (rPick1 rfl rfl (by simp) rfl) ?_
  refine tr_cond_bool rfl (fun h1 => ?_) (fun h1 => ?_)
  · try simp only [zbA] at h1
    refine tr_seq ?_
    refine tr_region fun _ _ _ => ?_
    refine pu rfl rfl rfl rfl rfl ?_
    exact tr_ret ⟨trivial, _, _, rfl, ⟨rfl, rfl⟩, CSub.nil _, trivial⟩
  · try simp only [zbA] at h1
    simp at h1 --done
theorem law_OrderedNearest_G_ent : Enters Tryz.prog 7 := enters_of Tryz.func7 (by kernel_rfl) (by kernel_rfl)
theorem law_OrderedNearest_G (p m : Int) (A : Option Addr) (c : Nat) (mod : List Int) [hF : IsF p m mod] (w : Int) (Aa : Option Addr) (n ca : Nat) (rs : List RowM) (hn : n = rs.length) (h9 : rs.length ≤ 256) (hc : CodeOk p m mod w rs) (hl9 : mod.length ≤ 17592186044415) (h9b : rs.length ≤ 17592186044415) (h8 : ∀ r ∈ rs, r.xs.length ≤ 17592186044415) (X : Option Addr) (nx cx : Nat) (l : List Int) (hnx : nx = l.length) (hl : l.length ≤ 17592186044415) (Y : Option Addr) (ny cy : Nat) (y : List Int) (hny : ny = y.length) (hy : y.length ≤ 17592186044415) :
    Pure Tryz.prog 7 #[.agg #[.int .i64 p, .int .i64 m, .slice A mod.length c, .int .i64 w, .slice Aa n ca], .slice X nx cx, .slice Y ny cy] [ro A (ints mod), ro Aa (hdrs rs), rowsR rs, ro X (ints l), ro Y (ints y)] (isV (.bool true)) := by
  have h9c := h9
  have hq2 := hF.q2
  have hq256 := hF.out.1.1.q
  have hn64 := hc.n64
  have hn1 := hc.n1
  have hgd := hc.good
  have hcnn := cntC_nn (q := pw p m) (by omega) rs.length 4096
  refine pure_of (args := [.agg #[.int .i64 p, .int .i64 m, .slice A mod.length c, .int .i64 w, .slice Aa n ca], .slice X nx cx, .slice Y ny cy]) 98 Tryz.func7 rfl rfl rfl law_OrderedNearest_G_ent ⟨id, id, id, id, id, trivial⟩ (fun w0 => ?_)
  refine tr_seq ?_
  refine tr_region fun _ _ _ => ?_
  refine ef rfl rfl (eBox rfl rfl rfl rfl rfl (fun p0 => ?_)) 
  refine pu rfl rfl rfl rfl rfl ?_
  refine tr_seq ?_
  refine tr_seq ?_
  refine tr_region fun _ _ _ => ?_
  refine st rfl rfl rfl rfl (rLdS rfl rfl rfl) ?_
  refine ef rfl rfl (eCall0 rfl rfl rfl (law42_fewC p m A c mod hl9 w Aa n ca rs hn h9b h8) ⟨rfl, trivial⟩ ?_) 
  rintro _ ⟨b, rfl, hb⟩
  refine st rfl rfl rfl rfl (rNotB rfl rfl) ?_
  refine pu rfl rfl rfl rfl rfl ?_
  refine stg rfl rfl rfl rfl rfl (fun hb => by (have hq := hb; try simp only [zbA] at hq); exact rLdS rfl rfl rfl) ?_
  refine efg rfl rfl rfl rfl rfl (fun hb => by (have hq := hb; try simp only [zbA] at hq); exact eCallV rfl rfl rfl (ref_CCount p m A c mod w Aa n ca rs hn h9c hc 4096) ⟨(evg rfl hb), rfl, trivial⟩ ⟨rfl, rfl⟩) ?_
  refine stg rfl rfl rfl rfl rfl (fun hb => by (have hq := hb; try simp only [zbA] at hq); exact rEql rfl (evg rfl hb) rfl) ?_
  refine st rfl rfl rfl rfl (rOrB rfl rfl rfl rfl) ?_
  refine pu rfl rfl rfl rfl rfl ?_
  refine stg rfl rfl rfl rfl rfl (fun hb => by (have hq := hb; try simp only [zbA] at hq); exact rLdS rfl rfl rfl) ?_
  refine stg rfl rfl rfl rfl rfl (fun hb => by (have hq := hb; try simp only [zbA] at hq); exact rMove rfl rfl) ?_
  refine efg rfl rfl rfl rfl rfl (fun hb => by (have hq := hb; try simp only [zbA] at hq); exact eCallV rfl rfl rfl (ref_CWordC p m A c mod w Aa n ca rs hn h9c hc X nx cx l hnx hl) ⟨(evg rfl hb), (evg rfl hb), trivial⟩ ⟨rfl, rfl⟩) ?_
  refine stg rfl rfl rfl rfl rfl (fun hb => by (have hq := hb; try simp only [zbA] at hq); exact rNeq rfl (evg rfl hb) rfl) ?_
  refine st rfl rfl rfl rfl (rOrB rfl rfl rfl rfl) ?_
  refine tr_cond_bool rfl (fun h1 => ?_) (fun h1 => ?_)
  · try simp only [zbA] at h1
    refine tr_seq ?_
    refine tr_region fun _ _ _ => ?_
    refine pu rfl rfl rfl rfl rfl ?_
    exact tr_ret ⟨trivial, _, _, rfl, ⟨rfl, rfl⟩, CSub.nil _, trivial⟩
  · try simp only [zbA] at h1
    refine tr_skip ?_
    refine tr_seq ?_
    have hwz : wordC (pw p m) w l = 0 := by first | omega | (simp at h1; omega)
    have hcn : 0 < cntC (pw p m) rs.length 4096 := by first | omega | (simp at h1; omega)
    obtain ⟨hlw, hin⟩ := wordC_zero hwz
    refine tr_draw [0, 1, 2, 4, 5, 6, 3, 7, 8, 9, 10, 11, 12] [] mixed (by kernel_rfl) fun _ _ _ => ?_
    refine st rfl rfl rfl rfl (rLdS rfl rfl rfl) ?_
    refine st rfl rfl rfl rfl (rLdS rfl rfl rfl) ?_
    refine pu rfl rfl rfl rfl rfl ?_
    refine st rfl rfl rfl rfl (rFld rfl rfl) ?_
    refine st rfl rfl rfl rfl (rLdF rfl rfl rfl) ?_
    refine st rfl rfl rfl rfl (rLen rfl rfl) ?_
    refine ef rfl rfl (eCall2 rfl rfl rfl (law42_ham p m A c mod w Aa n ca rs hn h9c hc X nx cx l hnx hlw hin) ⟨rfl, rfl, trivial⟩ ?_) 
    rintro _ _ _ ⟨Bh, ch, hs, rfl, rfl, rfl, hhs⟩
    have hht := hhs.tab (by omega) (by omega)
    have hhl := hhs.length
    have hh8 : ∀ r ∈ hs, r.xs.length ≤ 17592186044415 := fun r hr => by have := (hht.row r hr).1; omega
    refine ef rfl rfl (eCall1 rfl rfl rfl (ord_Decode p m A c mod w Aa n ca rs hn h9c hc Bh _ ch hs rfl (by omega) hh8 hht.zero n (Nat.le_refl _) (cntC_powN hq2 hcn)) ⟨rfl, rfl, rfl, trivial⟩ ?_) 
    rintro _ _ ⟨B3, c3, o, bs, rfl, rfl, hbl, hbas, hol, hbst⟩
    iterate 5 refine pu rfl rfl rfl rfl rfl ?_
    refine tr_seq ?_
    refine tr_seq ?_
    have hlo : (o.length : Int) = w := by omega
    have hoi := hbst.1.2.1
    have hmo : memB p m mod rs o = true := memB_iff.2 hbst.1.2.2.1
    have hwo := wordC_okN hlo hoi
    refine tr_region fun _ _ _ => ?_
    iterate 3 refine pu rfl rfl rfl rfl rfl ?_
    refine stg rfl rfl rfl rfl rfl (fun hb => by (have hq := hb; try simp only [zbA] at hq); exact rMove rfl rfl) ?_
    refine stg rfl rfl rfl rfl rfl (fun hb => by (have hq := hb; try simp only [zbA] at hq); exact rLen rfl (evg rfl hb)) ?_
    refine stg rfl rfl rfl rfl rfl (fun hb => by (have hq := hb; try simp only [zbA] at hq); exact rFld rfl rfl) ?_
    refine stg rfl rfl rfl rfl rfl (fun hb => by (have hq := hb; try simp only [zbA] at hq); exact rLdF rfl (evg rfl hb) rfl) ?_
    refine stg rfl rfl rfl rfl rfl (fun hb => by (have hq := hb; try simp only [zbA] at hq); exact rNeq rfl (evg rfl hb) (evg rfl hb)) ?_
    refine st rfl rfl rfl rfl (rOrB rfl rfl rfl rfl) ?_
    refine pu rfl rfl rfl rfl rfl ?_
    refine stg rfl rfl rfl rfl rfl (fun hb => by (have hq := hb; try simp only [zbA] at hq); exact rLdS rfl rfl rfl) ?_
    refine stg rfl rfl rfl rfl rfl (fun hb => by (have hq := hb; try simp only [zbA] at hq); exact rMove rfl rfl) ?_
    refine efg rfl rfl rfl rfl rfl (fun hb => by (have hq := hb; try simp only [zbA] at hq); exact eCallV rfl rfl rfl (ref_CWordC p m A c mod w Aa n ca rs hn h9c hc B3 _ c3 o rfl (by omega)) ⟨(evg rfl hb), (evg rfl hb), trivial⟩ ⟨rfl, rfl⟩) ?_
    refine stg rfl rfl rfl rfl rfl (fun hb => by (have hq := hb; try simp only [zbA] at hq); exact rNeq rfl (evg rfl hb) rfl) ?_
    refine st rfl rfl rfl rfl (rOrB rfl rfl rfl rfl) ?_
    refine tr_cond_bool rfl (fun h4 => ?_) (fun h4 => ?_)
    · try simp only [zbA] at h4
      simp [hwo, hlo] at h4 --done
    · try simp only [zbA] at h4
      refine tr_skip ?_
      refine tr_seq ?_
      refine tr_region fun _ _ _ => ?_
      refine st rfl rfl rfl rfl (rLdS rfl rfl rfl) ?_
      refine pu rfl rfl rfl rfl rfl ?_
      refine ef rfl rfl (eCall1 rfl rfl rfl (ref_Of p m A c mod w Aa n ca rs hn h9c hc Y ny cy y hny hy) ⟨rfl, rfl, trivial⟩ ?_) 
      rintro _ _ ⟨B6, c6, o2, rfl, rfl, hol2, hoi2, hos2⟩
      refine pu rfl rfl rfl rfl rfl ?_
      refine tr_seq ?_
      refine tr_region fun _ _ _ => ?_
      iterate 2 refine pu rfl rfl rfl rfl rfl ?_
      refine tr_seq ?_
      refine tr_seq ?_
      refine tr_region fun _ _ _ => ?_
      refine pu rfl rfl rfl rfl rfl ?_
      refine tr_block ?_
      refine tr_loop3 (fun (k : Int) (a : Int) (b : Int) => [(12, .int .i64 k), (10, .int .i64 a), (11, .int .i64 b), (1, .slice X nx cx), (3, .pointer (some p0)), (6, .bool false), (7, .slice B3 o.length c3), (9, .slice B6 o2.length c6)]) (fun (k : Int) (a : Int) (b : Int) => [ow B6 3 c6 (ints o2), ow B3 3 c3 (ints o), blk p0 27 [.int .i64 p, .int .i64 m, .slice A mod.length c, .int .i64 w, .slice Aa n ca], ro A (ints mod), ro Aa (hdrs rs), rowsR rs, ro X (ints l), ro Y (ints y)]) (fun (k : Int) (a : Int) (b : Int) => (0 ≤ k ∧ k ≤ w) ∧ a = (dfT o l k.toNat : Int) ∧ b = (dfT o2 l k.toNat : Int)) (fun (k : Int) (a : Int) (b : Int) => (w - k).toNat) (0) (0) (0) ⟨rfl, rfl, rfl, rfl, rfl, rfl, rfl, rfl, trivial⟩ (by first | exact cs _ _ | exact CSub.refl _) (⟨⟨by omega, by omega⟩, rfl, rfl⟩) (fun k a b hI => ?_)
      obtain ⟨⟨hk0, hk1⟩, ha, hbb⟩ := hI
      have hda := dfT_le0 o l k.toNat
      have hdb := dfT_le0 o2 l k.toNat
      refine tr_seq ?_
      refine tr_seq ?_
      refine tr_region fun _ _ _ => ?_
      refine pu rfl rfl rfl rfl rfl ?_
      refine st rfl rfl rfl rfl (rFld rfl rfl) ?_
      refine st rfl rfl rfl rfl (rLdF rfl rfl rfl) ?_
      refine pu rfl rfl rfl rfl rfl ?_
      refine tr_cond_bool rfl (fun h9 => ?_) (fun h9 => ?_)
      · try simp only [zbA] at h9
        refine tr_skip ?_
        refine tr_seq ?_
        refine tr_block ?_
        refine tr_seq ?_
        refine tr_seq ?_
        refine tr_draw [0, 1, 2, 3, 4, 5, 6, 7, 8] [] mixed (by kernel_rfl) fun _ _ _ => ?_
        iterate 2 refine pu rfl rfl rfl rfl rfl ?_
        refine st rfl rfl rfl rfl (rIdxI rfl rfl rfl (by omega) (by omega) (by omega)) ?_
        refine st rfl rfl rfl rfl (rLdI rfl rfl (by omega)) ?_
        iterate 2 refine pu rfl rfl rfl rfl rfl ?_
        refine st rfl rfl rfl rfl (rIdxI rfl rfl rfl (by omega) (by omega) (by omega)) ?_
        refine st rfl rfl rfl rfl (rLdI rfl rfl (by omega)) ?_
        refine pu rfl rfl rfl rfl rfl ?_
        refine tr_cond_bool rfl (fun h11 => ?_) (fun h11 => ?_)
        · try simp only [zbA] at h11
          refine tr_region fun _ _ _ => ?_
          refine pu rfl rfl rfl rfl rfl ?_
          refine st rfl rfl rfl rfl (rAdd rfl rfl rfl (by omega) (by omega)) ?_
          refine pu rfl rfl rfl rfl rfl ?_
          refine tr_seq ?_
          refine tr_draw [0, 1, 2, 3, 4, 5, 6, 7, 8] [] mixed (by kernel_rfl) fun _ _ _ => ?_
          iterate 2 refine pu rfl rfl rfl rfl rfl ?_
          refine st rfl rfl rfl rfl (rIdxI rfl rfl rfl (by omega) (by omega) (by omega)) ?_
          refine st rfl rfl rfl rfl (rLdI rfl rfl (by omega)) ?_
          iterate 2 refine pu rfl rfl rfl rfl rfl ?_
          refine st rfl rfl rfl rfl (rIdxI rfl rfl rfl (by omega) (by omega) (by omega)) ?_
          refine st rfl rfl rfl rfl (rLdI rfl rfl (by omega)) ?_
          refine pu rfl rfl rfl rfl rfl ?_
          refine tr_cond_bool rfl (fun h13 => ?_) (fun h13 => ?_)
          · try simp only [zbA] at h13
            refine tr_region fun _ _ _ => ?_
            refine pu rfl rfl rfl rfl rfl ?_
            refine st rfl rfl rfl rfl (rAdd rfl rfl rfl (by omega) (by omega)) ?_
            refine pu rfl rfl rfl rfl rfl ?_
            refine tr_region fun _ _ _ => ?_
            refine pu rfl rfl rfl rfl rfl ?_
            refine st rfl rfl rfl rfl (rAdd rfl rfl rfl (by omega) (by omega)) ?_
            refine pu rfl rfl rfl rfl rfl ?_
            refine ⟨k + 1, a + 1, b + 1, ⟨rfl, rfl, rfl, rfl, rfl, rfl, rfl, rfl, trivial⟩, by first | exact cs _ _ | exact CSub.refl _, ?_⟩
            refine ⟨⟨⟨by omega, by omega⟩, ?_, ?_⟩, by omega⟩
            · rw [show (k + 1).toNat = k.toNat + 1 by omega, dfT, if_pos (by omega)]; omega
            · rw [show (k + 1).toNat = k.toNat + 1 by omega, dfT, if_pos (by omega)]; omega
          · try simp only [zbA] at h13
            refine tr_skip ?_
            refine tr_region fun _ _ _ => ?_
            refine pu rfl rfl rfl rfl rfl ?_
            refine st rfl rfl rfl rfl (rAdd rfl rfl rfl (by omega) (by omega)) ?_
            refine pu rfl rfl rfl rfl rfl ?_
            refine ⟨k + 1, a + 1, b, ⟨rfl, rfl, rfl, rfl, rfl, rfl, rfl, rfl, trivial⟩, by first | exact cs _ _ | exact CSub.refl _, ?_⟩
            refine ⟨⟨⟨by omega, by omega⟩, ?_, ?_⟩, by omega⟩
            · rw [show (k + 1).toNat = k.toNat + 1 by omega, dfT, if_pos (by omega)]; omega
            · rw [show (k + 1).toNat = k.toNat + 1 by omega, dfT, if_neg (by omega)]; omega
        · try simp only [zbA] at h11
          refine tr_skip ?_
          refine tr_seq ?_
          refine tr_draw [0, 1, 2, 3, 4, 5, 6, 7, 8] [] mixed (by kernel_rfl) fun _ _ _ => ?_
          iterate 2 refine pu rfl rfl rfl rfl rfl ?_
          refine st rfl rfl rfl rfl (rIdxI rfl rfl rfl (by omega) (by omega) (by omega)) ?_
          refine st rfl rfl rfl rfl (rLdI rfl rfl (by omega)) ?_
          iterate 2 refine pu rfl rfl rfl rfl rfl ?_
          refine st rfl rfl rfl rfl (rIdxI rfl rfl rfl (by omega) (by omega) (by omega)) ?_
          refine st rfl rfl rfl rfl (rLdI rfl rfl (by omega)) ?_
          refine pu rfl rfl rfl rfl rfl ?_
          refine tr_cond_bool rfl (fun h13 => ?_) (fun h13 => ?_)
          · try simp only [zbA] at h13
            refine tr_region fun _ _ _ => ?_
            refine pu rfl rfl rfl rfl rfl ?_
            refine st rfl rfl rfl rfl (rAdd rfl rfl rfl (by omega) (by omega)) ?_
            refine pu rfl rfl rfl rfl rfl ?_
            refine tr_region fun _ _ _ => ?_
            refine pu rfl rfl rfl rfl rfl ?_
            refine st rfl rfl rfl rfl (rAdd rfl rfl rfl (by omega) (by omega)) ?_
            refine pu rfl rfl rfl rfl rfl ?_
            refine ⟨k + 1, a, b + 1, ⟨rfl, rfl, rfl, rfl, rfl, rfl, rfl, rfl, trivial⟩, by first | exact cs _ _ | exact CSub.refl _, ?_⟩
            refine ⟨⟨⟨by omega, by omega⟩, ?_, ?_⟩, by omega⟩
            · rw [show (k + 1).toNat = k.toNat + 1 by omega, dfT, if_neg (by omega)]; omega
            · rw [show (k + 1).toNat = k.toNat + 1 by omega, dfT, if_pos (by omega)]; omega
          · try simp only [zbA] at h13
            refine tr_skip ?_
            refine tr_region fun _ _ _ => ?_
            refine pu rfl rfl rfl rfl rfl ?_
            refine st rfl rfl rfl rfl (rAdd rfl rfl rfl (by omega) (by omega)) ?_
            refine pu rfl rfl rfl rfl rfl ?_
            refine ⟨k + 1, a, b, ⟨rfl, rfl, rfl, rfl, rfl, rfl, rfl, rfl, trivial⟩, by first | exact cs _ _ | exact CSub.refl _, ?_⟩
            refine ⟨⟨⟨by omega, by omega⟩, ?_, ?_⟩, by omega⟩
            · rw [show (k + 1).toNat = k.toNat + 1 by omega, dfT, if_neg (by omega)]; omega
            · rw [show (k + 1).toNat = k.toNat + 1 by omega, dfT, if_neg (by omega)]; omega
      · try simp only [zbA] at h9
        refine tr_exit ?_
        refine tr_seq ?_
        refine tr_region fun _ _ _ => ?_
        refine st rfl rfl rfl rfl (rLdS rfl rfl rfl) ?_
        refine pu rfl rfl rfl rfl rfl ?_
        refine ef rfl rfl (eCallV rfl rfl rfl (ref_CHas p m A c mod w Aa n ca rs hn h9c hc B3 _ c3 o rfl hlo hoi) ⟨rfl, rfl, trivial⟩ ?_) 
        iterate 5 refine pu rfl rfl rfl rfl rfl ?_
        refine tr_seq ?_
        refine tr_region fun _ _ _ => ?_
        iterate 2 refine pu rfl rfl rfl rfl rfl ?_
        refine stT rfl rfl rfl (by simp [hmo]) rfl rfl (rMove rfl rfl) ?_
        refine stT rfl rfl rfl (by simp [hmo]) rfl rfl (rMove rfl rfl) ?_
        refine stT rfl rfl rfl (by simp [hmo]) rfl rfl (rLeq rfl rfl rfl) ?_
        refine st rfl rfl rfl rfl (rPick1 rfl rfl (by simp [hmo]) rfl) ?_
        refine pu rfl rfl rfl rfl rfl ?_
        have hkw : k.toNat = w.toNat := by omega
        have hle := hbst.le (show Cand p m mod rs hs.length bs (hardL hs) n o2 from ⟨by omega, hoi2, hos2, by have := difT_le bs o2 (hardL hs) bs.length; omega⟩)
        have e1 : cstL (xss hs) o = (dfT l o w.toNat : Int) := by
          show cstT (xss hs) o o.length = _
          rw [show o.length = w.toNat by omega]; exact ham_cost hhs hoi (by omega) _ (Nat.le_refl _)
        have e2 : cstL (xss hs) o2 = (dfT l o2 w.toNat : Int) := by
          show cstT (xss hs) o2 o2.length = _
          rw [show o2.length = w.toNat by omega]; exact ham_cost hhs hoi2 (by omega) _ (Nat.le_refl _)
        rw [e1, e2, dfT_symm l o, dfT_symm l o2, ← hkw, ← ha, ← hbb] at hle
        exact tr_ret ⟨trivial, _, _, rfl, ⟨by simp [hmo, hle], rfl⟩, CSub.nil _, trivial⟩
theorem law_OrderedNearest (p m : Int) (A : Option Addr) (c : Nat) (mod : List Int) (hl9 : mod.length ≤ 17592186044415) (w : Int) (Aa : Option Addr) (n ca : Nat) (rs : List RowM) (hn : n = rs.length) (h9 : rs.length ≤ 17592186044415) (h8 : ∀ r ∈ rs, r.xs.length ≤ 17592186044415) (X : Option Addr) (nx cx : Nat) (l : List Int) (hnx : nx = l.length) (hl : l.length ≤ 17592186044415) (Y : Option Addr) (ny cy : Nat) (y : List Int) (hny : ny = y.length) (hy : y.length ≤ 17592186044415) : Pure Tryz.prog 7 #[.agg #[.int .i64 p, .int .i64 m, .slice A mod.length c, .int .i64 w, .slice Aa n ca], .slice X nx cx, .slice Y ny cy] [ro A (ints mod), ro Aa (hdrs rs), rowsR rs, ro X (ints l), ro Y (ints y)] (isV (.bool true)) := by
  by_cases he : codC p m mod w rs = 0
  · obtain ⟨hF0, hc⟩ := codC_zero he
    haveI hF : IsF p m mod := ⟨hF0⟩
    have hlen := hc.len
    exact law_OrderedNearest_G p m A c mod w Aa n ca rs hn (by omega) hc hl9 h9 h8 X nx cx l hnx hl Y ny cy y hny hy
  · exact law_OrderedNearest_E p m A c mod hl9 w Aa n ca rs hn h9 h8 X nx cx l hnx hl Y ny cy y hny hy he
end Go.Proofs.YtoalphamojhpcaaGreat

/-
  ORDEREDCOSTS, PART 7 OF 8. One sentence: the texts behind the law OrderedCosts, put together.
  Conditions: each theorem's own, written out in it.
-/
import Derived.Test.YtoalphamojhpcaaK6
set_option linter.unusedSimpArgs false
set_option linter.unusedVariables false
set_option linter.unusedSectionVars false
set_option linter.unusedSimpArgs false
set_option linter.unusedVariables false
set_option maxRecDepth 100000
namespace Go.Proofs.Ytoalphamojhpcaa
open Go.RowKit
theorem law_OrderedCosts_E_ent : Enters Try.prog 3 := enters_of Try.func3 (by kernel_rfl) (by kernel_rfl)
theorem law_OrderedCosts_E (p m : Int) (A : Option Addr) (c : Nat) (mod : List Int) (hl9 : mod.length ≤ 17592186044415) (w : Int) (Aa : Option Addr) (n ca : Nat) (rs : List RowM) (hn : n = rs.length) (h9 : rs.length ≤ 17592186044415) (h8 : ∀ r ∈ rs, r.xs.length ≤ 17592186044415) (T : Option Addr) (nt ct : Nat) (ts : List RowM) (hnt : nt = ts.length) (t9 : ts.length ≤ 17592186044415) (t8 : ∀ r ∈ ts, r.xs.length ≤ 17592186044415) (X : Option Addr) (nx cx : Nat) (l : List Int) (hnx : nx = l.length) (hl : l.length ≤ 17592186044415) (he : codC p m mod w rs ≠ 0) :
    Pure Try.prog 3 #[.agg #[.int .i64 p, .int .i64 m, .slice A mod.length c, .int .i64 w, .slice Aa n ca], .slice T nt ct, .slice X nx cx] [ro A (ints mod), ro Aa (hdrs rs), rowsR rs, ro T (hdrs ts), rowsR ts, ro X (ints l)] (isV (.bool true)) := by
  refine pure_of (args := [.agg #[.int .i64 p, .int .i64 m, .slice A mod.length c, .int .i64 w, .slice Aa n ca], .slice T nt ct, .slice X nx cx]) 107 Try.func3 rfl rfl rfl law_OrderedCosts_E_ent ⟨id, id, id, id, id, id, trivial⟩ (fun w0 => ?_)
  refine tr_seq ?_
  refine tr_region fun _ _ _ => ?_
  refine ef rfl rfl (eBox rfl rfl rfl rfl rfl (fun p0 => ?_)) 
  refine pu rfl rfl rfl rfl rfl ?_
  refine tr_seq ?_
  refine tr_seq ?_
  refine tr_region fun _ _ _ => ?_
  refine st rfl rfl rfl rfl (rLdS rfl rfl rfl) ?_
  refine ef rfl rfl (eCall0 rfl rfl rfl (law42_fewC p m A c mod hl9 w Aa n ca rs hn h9 h8) ⟨rfl, trivial⟩ ?_) 
  rintro _ ⟨b, rfl, hb⟩
  refine st rfl rfl rfl rfl (rNotB rfl rfl) ?_
  refine tr_cond_bool rfl (fun h1 => ?_) (fun h1 => ?_)
  · try simp only [zbA] at h1
    refine tr_seq ?_
    refine tr_region fun _ _ _ => ?_
    refine pu rfl rfl rfl rfl rfl ?_
    exact tr_ret ⟨trivial, _, _, rfl, ⟨rfl, rfl⟩, CSub.nil _, trivial⟩
  · try simp only [zbA] at h1
    refine tr_skip ?_
    refine tr_seq ?_
    refine tr_region fun _ _ _ => ?_
    refine st rfl rfl rfl rfl (rLdS rfl rfl rfl) ?_
    iterate 2 refine pu rfl rfl rfl rfl rfl ?_
    refine ef rfl rfl (eCallV rfl rfl rfl (ord_CostE p m A c mod hl9 w Aa n ca rs hn h9 h8 he T nt ct ts hnt t9 t8 X nx cx l hnx hl) ⟨rfl, rfl, rfl, trivial⟩ ?_) 
    iterate 5 refine pu rfl rfl rfl rfl rfl ?_
    refine tr_seq ?_
    refine tr_region fun _ _ _ => ?_
    refine st rfl rfl rfl rfl (rLdS rfl rfl rfl) ?_
    refine pu rfl rfl rfl rfl rfl ?_
    refine ef rfl rfl (eCallV rfl rfl rfl (ord_HardE p m A c mod hl9 w Aa n ca rs hn h9 h8 he T nt ct ts hnt t9 t8) ⟨rfl, rfl, trivial⟩ ?_) 
    iterate 5 refine pu rfl rfl rfl rfl rfl ?_
    refine tr_seq ?_
    refine tr_region fun _ _ _ => ?_
    refine st rfl rfl rfl rfl (rLdS rfl rfl rfl) ?_
    refine pu rfl rfl rfl rfl rfl ?_
    refine ef rfl rfl (eCallV rfl rfl rfl (ord_RelE p m A c mod hl9 w Aa n ca rs hn h9 h8 he T nt ct ts hnt t9 t8) ⟨rfl, rfl, trivial⟩ ?_) 
    iterate 5 refine pu rfl rfl rfl rfl rfl ?_
    refine tr_seq ?_
    refine tr_region fun _ _ _ => ?_
    refine st rfl rfl rfl rfl (rLdS rfl rfl rfl) ?_
    refine pu rfl rfl rfl rfl rfl ?_
    refine ef rfl rfl (eCallV rfl rfl rfl (ref_OCheckE p m A c mod hl9 w Aa n ca rs hn h9 h8 he T nt ct ts hnt t9 t8) ⟨rfl, rfl, trivial⟩ ?_) 
    refine pu rfl rfl rfl rfl rfl ?_
    refine tr_seq ?_
    refine tr_seq ?_
    refine tr_region fun _ _ _ => ?_
    iterate 2 refine pu rfl rfl rfl rfl rfl ?_
    refine tr_cond_bool rfl (fun h7 => ?_) (fun h7 => ?_)
    · try simp only [zbA] at h7
      refine tr_seq ?_
      refine tr_region fun _ _ _ => ?_
      iterate 4 refine pu rfl rfl rfl rfl rfl ?_
      refine stg rfl rfl rfl rfl rfl (fun hb => by (have hq := hb; try simp only [zbA] at hq); exact rMove rfl rfl) ?_
      refine stg rfl rfl rfl rfl rfl (fun hb => by (have hq := hb; try simp only [zbA] at hq); exact rMove rfl rfl) ?_
      refine stg rfl rfl rfl rfl rfl (fun hb => by (have hq := hb; try simp only [zbA] at hq); exact rEql rfl (evg rfl hb) (evg rfl hb)) ?_
      refine st rfl rfl rfl rfl (rAndB rfl rfl rfl rfl) ?_
      refine pu rfl rfl rfl rfl rfl ?_
      refine stg rfl rfl rfl rfl rfl (fun hb => by (have hq := hb; try simp only [zbA] at hq); exact rMove rfl rfl) ?_
      refine stg rfl rfl rfl rfl rfl (fun hb => by (have hq := hb; try simp only [zbA] at hq); exact rMove rfl rfl) ?_
      refine stg rfl rfl rfl rfl rfl (fun hb => by (have hq := hb; try simp only [zbA] at hq); exact rEql rfl (evg rfl hb) (evg rfl hb)) ?_
      refine st rfl rfl rfl rfl (rAndB rfl rfl rfl rfl) ?_
      refine pu rfl rfl rfl rfl rfl ?_
      refine stg rfl rfl rfl rfl rfl (fun hb => by (have hq := hb; try simp only [zbA] at hq); exact rMove rfl rfl) ?_
      refine stg rfl rfl rfl rfl rfl (fun hb => by (have hq := hb; try simp only [zbA] at hq); exact rEql rfl (evg rfl hb) rfl) ?_
      refine st rfl rfl rfl rfl (rAndB rfl rfl rfl rfl) ?_
      refine pu rfl rfl rfl rfl rfl ?_
      refine stg rfl rfl rfl rfl rfl (fun hb => by (have hq := hb; try simp only [zbA] at hq); exact rMove rfl rfl) ?_
      refine stg rfl rfl rfl rfl rfl (fun hb => by (have hq := hb; try simp only [zbA] at hq); exact rLen rfl (evg rfl hb)) ?_
      refine stg rfl rfl rfl rfl rfl (fun hb => by (have hq := hb; try simp only [zbA] at hq); exact rMove rfl rfl) ?_
      refine stg rfl rfl rfl rfl rfl (fun hb => by (have hq := hb; try simp only [zbA] at hq); exact rLen rfl (evg rfl hb)) ?_
      refine stg rfl rfl rfl rfl rfl (fun hb => by (have hq := hb; try simp only [zbA] at hq); exact rAdd rfl (evg rfl hb) (evg rfl hb) (by omega) (by omega)) ?_
      refine stg rfl rfl rfl rfl rfl (fun hb => by (have hq := hb; try simp only [zbA] at hq); exact rEql rfl (evg rfl hb) rfl) ?_
      refine st rfl rfl rfl rfl (rAndB rfl rfl rfl rfl) ?_
      refine pu rfl rfl rfl rfl rfl ?_
      exact tr_ret ⟨trivial, _, _, rfl, ⟨by simp, rfl⟩, CSub.nil _, trivial⟩
    · try simp only [zbA] at h7
      omega --done
theorem law_OrderedCosts_R_ent : Enters Try.prog 3 := enters_of Try.func3 (by kernel_rfl) (by kernel_rfl)
theorem law_OrderedCosts_R (p m : Int) (A : Option Addr) (c : Nat) (mod : List Int) [hF : IsF p m mod] (w : Int) (Aa : Option Addr) (n ca : Nat) (rs : List RowM) (hn : n = rs.length) (h9 : rs.length ≤ 256) (hc : CodeOk p m mod w rs) (hl9 : mod.length ≤ 17592186044415) (h9b : rs.length ≤ 17592186044415) (h8 : ∀ r ∈ rs, r.xs.length ≤ 17592186044415) (T : Option Addr) (nt ct : Nat) (ts : List RowM) (hnt : nt = ts.length) (t9 : ts.length ≤ 17592186044415) (t8 : ∀ r ∈ ts, r.xs.length ≤ 17592186044415) (ho : ordC (pw p m) w (xss ts) ≠ 0) (X : Option Addr) (nx cx : Nat) (l : List Int) (hnx : nx = l.length) (hl : l.length ≤ 17592186044415) :
    Pure Try.prog 3 #[.agg #[.int .i64 p, .int .i64 m, .slice A mod.length c, .int .i64 w, .slice Aa n ca], .slice T nt ct, .slice X nx cx] [ro A (ints mod), ro Aa (hdrs rs), rowsR rs, ro T (hdrs ts), rowsR ts, ro X (ints l)] (isV (.bool true)) := by
  have h9c := h9
  refine pure_of (args := [.agg #[.int .i64 p, .int .i64 m, .slice A mod.length c, .int .i64 w, .slice Aa n ca], .slice T nt ct, .slice X nx cx]) 107 Try.func3 rfl rfl rfl law_OrderedCosts_R_ent ⟨id, id, id, id, id, id, trivial⟩ (fun w0 => ?_)
  refine tr_seq ?_
  refine tr_region fun _ _ _ => ?_
  refine ef rfl rfl (eBox rfl rfl rfl rfl rfl (fun p0 => ?_)) 
  refine pu rfl rfl rfl rfl rfl ?_
  refine tr_seq ?_
  refine tr_seq ?_
  refine tr_region fun _ _ _ => ?_
  refine st rfl rfl rfl rfl (rLdS rfl rfl rfl) ?_
  refine ef rfl rfl (eCall0 rfl rfl rfl (law42_fewC p m A c mod hl9 w Aa n ca rs hn h9b h8) ⟨rfl, trivial⟩ ?_) 
  rintro _ ⟨b, rfl, hb⟩
  refine st rfl rfl rfl rfl (rNotB rfl rfl) ?_
  refine tr_cond_bool rfl (fun h1 => ?_) (fun h1 => ?_)
  · try simp only [zbA] at h1
    refine tr_seq ?_
    refine tr_region fun _ _ _ => ?_
    refine pu rfl rfl rfl rfl rfl ?_
    exact tr_ret ⟨trivial, _, _, rfl, ⟨rfl, rfl⟩, CSub.nil _, trivial⟩
  · try simp only [zbA] at h1
    refine tr_skip ?_
    refine tr_seq ?_
    refine tr_region fun _ _ _ => ?_
    refine st rfl rfl rfl rfl (rLdS rfl rfl rfl) ?_
    iterate 2 refine pu rfl rfl rfl rfl rfl ?_
    refine ef rfl rfl (eCallV rfl rfl rfl (ord_CostR p m A c mod w Aa n ca rs hn h9c hc T nt ct ts hnt t9 t8 ho X nx cx l hnx hl) ⟨rfl, rfl, rfl, trivial⟩ ?_) 
    iterate 5 refine pu rfl rfl rfl rfl rfl ?_
    refine tr_seq ?_
    refine tr_region fun _ _ _ => ?_
    refine st rfl rfl rfl rfl (rLdS rfl rfl rfl) ?_
    refine pu rfl rfl rfl rfl rfl ?_
    refine ef rfl rfl (eCallV rfl rfl rfl (ord_HardR p m A c mod w Aa n ca rs hn h9c hc T nt ct ts hnt t9 t8 ho) ⟨rfl, rfl, trivial⟩ ?_) 
    iterate 5 refine pu rfl rfl rfl rfl rfl ?_
    refine tr_seq ?_
    refine tr_region fun _ _ _ => ?_
    refine st rfl rfl rfl rfl (rLdS rfl rfl rfl) ?_
    refine pu rfl rfl rfl rfl rfl ?_
    refine ef rfl rfl (eCallV rfl rfl rfl (ord_RelR p m A c mod w Aa n ca rs hn h9c hc T nt ct ts hnt t9 t8 ho) ⟨rfl, rfl, trivial⟩ ?_) 
    iterate 5 refine pu rfl rfl rfl rfl rfl ?_
    refine tr_seq ?_
    refine tr_region fun _ _ _ => ?_
    refine st rfl rfl rfl rfl (rLdS rfl rfl rfl) ?_
    refine pu rfl rfl rfl rfl rfl ?_
    refine ef rfl rfl (eCallV rfl rfl rfl (ref_OCheck p m A c mod w Aa n ca rs hn h9c hc T nt ct ts hnt t9 t8) ⟨rfl, rfl, trivial⟩ ?_) 
    refine pu rfl rfl rfl rfl rfl ?_
    refine tr_seq ?_
    refine tr_seq ?_
    refine tr_region fun _ _ _ => ?_
    iterate 2 refine pu rfl rfl rfl rfl rfl ?_
    refine tr_cond_bool rfl (fun h7 => ?_) (fun h7 => ?_)
    · try simp only [zbA] at h7
      refine tr_seq ?_
      refine tr_region fun _ _ _ => ?_
      iterate 4 refine pu rfl rfl rfl rfl rfl ?_
      refine stg rfl rfl rfl rfl rfl (fun hb => by (have hq := hb; try simp only [zbA] at hq); exact rMove rfl rfl) ?_
      refine stg rfl rfl rfl rfl rfl (fun hb => by (have hq := hb; try simp only [zbA] at hq); exact rMove rfl rfl) ?_
      refine stg rfl rfl rfl rfl rfl (fun hb => by (have hq := hb; try simp only [zbA] at hq); exact rEql rfl (evg rfl hb) (evg rfl hb)) ?_
      refine st rfl rfl rfl rfl (rAndB rfl rfl rfl rfl) ?_
      refine pu rfl rfl rfl rfl rfl ?_
      refine stg rfl rfl rfl rfl rfl (fun hb => by (have hq := hb; try simp only [zbA] at hq); exact rMove rfl rfl) ?_
      refine stg rfl rfl rfl rfl rfl (fun hb => by (have hq := hb; try simp only [zbA] at hq); exact rMove rfl rfl) ?_
      refine stg rfl rfl rfl rfl rfl (fun hb => by (have hq := hb; try simp only [zbA] at hq); exact rEql rfl (evg rfl hb) (evg rfl hb)) ?_
      refine st rfl rfl rfl rfl (rAndB rfl rfl rfl rfl) ?_
      refine pu rfl rfl rfl rfl rfl ?_
      refine stg rfl rfl rfl rfl rfl (fun hb => by (have hq := hb; try simp only [zbA] at hq); exact rMove rfl rfl) ?_
      refine stg rfl rfl rfl rfl rfl (fun hb => by (have hq := hb; try simp only [zbA] at hq); exact rEql rfl (evg rfl hb) rfl) ?_
      refine st rfl rfl rfl rfl (rAndB rfl rfl rfl rfl) ?_
      refine pu rfl rfl rfl rfl rfl ?_
      refine stg rfl rfl rfl rfl rfl (fun hb => by (have hq := hb; try simp only [zbA] at hq); exact rMove rfl rfl) ?_
      refine stg rfl rfl rfl rfl rfl (fun hb => by (have hq := hb; try simp only [zbA] at hq); exact rLen rfl (evg rfl hb)) ?_
      refine stg rfl rfl rfl rfl rfl (fun hb => by (have hq := hb; try simp only [zbA] at hq); exact rMove rfl rfl) ?_
      refine stg rfl rfl rfl rfl rfl (fun hb => by (have hq := hb; try simp only [zbA] at hq); exact rLen rfl (evg rfl hb)) ?_
      refine stg rfl rfl rfl rfl rfl (fun hb => by (have hq := hb; try simp only [zbA] at hq); exact rAdd rfl (evg rfl hb) (evg rfl hb) (by omega) (by omega)) ?_
      refine stg rfl rfl rfl rfl rfl (fun hb => by (have hq := hb; try simp only [zbA] at hq); exact rEql rfl (evg rfl hb) rfl) ?_
      refine st rfl rfl rfl rfl (rAndB rfl rfl rfl rfl) ?_
      refine pu rfl rfl rfl rfl rfl ?_
      exact tr_ret ⟨trivial, _, _, rfl, ⟨by simp, rfl⟩, CSub.nil _, trivial⟩
    · try simp only [zbA] at h7
      omega --done
theorem law_OrderedCosts_W_ent : Enters Try.prog 3 := enters_of Try.func3 (by kernel_rfl) (by kernel_rfl)
theorem law_OrderedCosts_W (p m : Int) (A : Option Addr) (c : Nat) (mod : List Int) [hF : IsF p m mod] (w : Int) (Aa : Option Addr) (n ca : Nat) (rs : List RowM) (hn : n = rs.length) (h9 : rs.length ≤ 256) (hc : CodeOk p m mod w rs) (hl9 : mod.length ≤ 17592186044415) (h9b : rs.length ≤ 17592186044415) (h8 : ∀ r ∈ rs, r.xs.length ≤ 17592186044415) (T : Option Addr) (nt ct : Nat) (ts : List RowM) (hnt : nt = ts.length) (t9 : ts.length ≤ 17592186044415) (t8 : ∀ r ∈ ts, r.xs.length ≤ 17592186044415) (ho : ordC (pw p m) w (xss ts) = 0) (X : Option Addr) (nx cx : Nat) (l : List Int) (hnx : nx = l.length) (hl : l.length ≤ 17592186044415) (hw : wordC (pw p m) w l ≠ 0) :
    Pure Try.prog 3 #[.agg #[.int .i64 p, .int .i64 m, .slice A mod.length c, .int .i64 w, .slice Aa n ca], .slice T nt ct, .slice X nx cx] [ro A (ints mod), ro Aa (hdrs rs), rowsR rs, ro T (hdrs ts), rowsR ts, ro X (ints l)] (isV (.bool true)) := by
  have h9c := h9
  have hq2 := hF.q2
  have htab := ordC_zero ho
  have htl := htab.len
  have hq256 := hF.out.1.1.q
  have hn64 := hc.n64
  refine pure_of (args := [.agg #[.int .i64 p, .int .i64 m, .slice A mod.length c, .int .i64 w, .slice Aa n ca], .slice T nt ct, .slice X nx cx]) 107 Try.func3 rfl rfl rfl law_OrderedCosts_W_ent ⟨id, id, id, id, id, id, trivial⟩ (fun w0 => ?_)
  refine tr_seq ?_
  refine tr_region fun _ _ _ => ?_
  refine ef rfl rfl (eBox rfl rfl rfl rfl rfl (fun p0 => ?_)) 
  refine pu rfl rfl rfl rfl rfl ?_
  refine tr_seq ?_
  refine tr_seq ?_
  refine tr_region fun _ _ _ => ?_
  refine st rfl rfl rfl rfl (rLdS rfl rfl rfl) ?_
  refine ef rfl rfl (eCall0 rfl rfl rfl (law42_fewC p m A c mod hl9 w Aa n ca rs hn h9b h8) ⟨rfl, trivial⟩ ?_) 
  rintro _ ⟨b, rfl, hb⟩
  refine st rfl rfl rfl rfl (rNotB rfl rfl) ?_
  refine tr_cond_bool rfl (fun h1 => ?_) (fun h1 => ?_)
  · try simp only [zbA] at h1
    refine tr_seq ?_
    refine tr_region fun _ _ _ => ?_
    refine pu rfl rfl rfl rfl rfl ?_
    exact tr_ret ⟨trivial, _, _, rfl, ⟨rfl, rfl⟩, CSub.nil _, trivial⟩
  · try simp only [zbA] at h1
    refine tr_skip ?_
    refine tr_seq ?_
    refine tr_region fun _ _ _ => ?_
    refine st rfl rfl rfl rfl (rLdS rfl rfl rfl) ?_
    iterate 2 refine pu rfl rfl rfl rfl rfl ?_
    refine ef rfl rfl (eCallV rfl rfl rfl (ord_CostW p m A c mod w Aa n ca rs hn h9c hc T nt ct ts hnt t9 t8 ho X nx cx l hnx hl hw) ⟨rfl, rfl, rfl, trivial⟩ ?_) 
    iterate 5 refine pu rfl rfl rfl rfl rfl ?_
    refine tr_seq ?_
    refine tr_region fun _ _ _ => ?_
    refine st rfl rfl rfl rfl (rLdS rfl rfl rfl) ?_
    refine pu rfl rfl rfl rfl rfl ?_
    refine ef rfl rfl (eCall1 rfl rfl rfl (ord_HardG p m A c mod w Aa n ca rs hn h9c hc T nt ct ts hnt t9 t8 ho) ⟨rfl, rfl, trivial⟩ ?_) 
    rintro _ _ ⟨B4, c4, rfl, rfl⟩
    iterate 5 refine pu rfl rfl rfl rfl rfl ?_
    refine tr_seq ?_
    refine tr_region fun _ _ _ => ?_
    refine st rfl rfl rfl rfl (rLdS rfl rfl rfl) ?_
    refine pu rfl rfl rfl rfl rfl ?_
    refine ef rfl rfl (eCall1 rfl rfl rfl (ord_RelG p m A c mod w Aa n ca rs hn h9c hc T nt ct ts hnt t9 t8 ho) ⟨rfl, rfl, trivial⟩ ?_) 
    rintro _ _ ⟨B5, c5, rfl, rfl⟩
    iterate 5 refine pu rfl rfl rfl rfl rfl ?_
    refine tr_seq ?_
    refine tr_region fun _ _ _ => ?_
    refine st rfl rfl rfl rfl (rLdS rfl rfl rfl) ?_
    refine pu rfl rfl rfl rfl rfl ?_
    refine ef rfl rfl (eCallV rfl rfl rfl (ref_OCheck p m A c mod w Aa n ca rs hn h9c hc T nt ct ts hnt t9 t8) ⟨rfl, rfl, trivial⟩ ?_) 
    refine pu rfl rfl rfl rfl rfl ?_
    refine tr_seq ?_
    refine tr_seq ?_
    refine tr_region fun _ _ _ => ?_
    iterate 2 refine pu rfl rfl rfl rfl rfl ?_
    refine tr_cond_bool rfl (fun h7 => ?_) (fun h7 => ?_)
    · try simp only [zbA] at h7
      omega --done
    · try simp only [zbA] at h7
      refine tr_skip ?_
      refine tr_seq ?_
      refine tr_seq ?_
      refine tr_region fun _ _ _ => ?_
      iterate 3 refine pu rfl rfl rfl rfl rfl ?_
      refine stT rfl rfl rfl (by simp) rfl rfl (rMove rfl rfl) ?_
      refine stT rfl rfl rfl (by simp) rfl rfl (rNeq rfl rfl rfl) ?_
      refine st rfl rfl rfl rfl (rPick0 rfl rfl (by simp) rfl) ?_
      refine pu rfl rfl rfl rfl rfl ?_
      refine stT rfl rfl rfl (by simp) rfl rfl (rMove rfl rfl) ?_
      refine stT rfl rfl rfl (by simp) rfl rfl (rMove rfl rfl) ?_
      refine efT rfl rfl rfl (by simp) (eCall1 rfl rfl rfl (ref_OHard T nt ct ts hnt (pw p m) hq2 hq256 (by omega) htab.row) ⟨rfl, trivial⟩ ?_) 
      rintro _ _ ⟨B9, c9, rfl, rfl⟩
      refine efT rfl rfl rfl (by simp) (eCallV rfl rfl rfl (ref_SameInts _ _ _ (hardL ts) rfl _ _ _ (hardL ts) rfl (by rw [hardL_length]; omega)) ⟨rfl, rfl, trivial⟩ ?_) 
      refine stT rfl rfl rfl (by simp) rfl rfl (rNotB rfl rfl) ?_
      refine st rfl rfl rfl rfl (rPick0 rfl rfl (by simp) rfl) ?_
      refine pu rfl rfl rfl rfl rfl ?_
      refine stT rfl rfl rfl (by simp) rfl rfl (rMove rfl rfl) ?_
      refine stT rfl rfl rfl (by simp) rfl rfl (rMove rfl rfl) ?_
      refine efT rfl rfl rfl (by simp) (eCall1 rfl rfl rfl (ref_ORel T nt ct ts hnt (pw p m) hq2 hq256 (by omega) htab.row) ⟨rfl, trivial⟩ ?_) 
      rintro _ _ ⟨Ba, ca9, rfl, rfl⟩
      refine efT rfl rfl rfl (by simp) (eCallV rfl rfl rfl (ref_SameInts _ _ _ (relL ts) rfl _ _ _ (relL ts) rfl (by rw [relL_length]; omega)) ⟨rfl, rfl, trivial⟩ ?_) 
      refine stT rfl rfl rfl (by simp) rfl rfl (rNotB rfl rfl) ?_
      refine st rfl rfl rfl rfl (rPick0 rfl rfl (by simp) rfl) ?_
      refine tr_cond_bool rfl (fun h9 => ?_) (fun h9 => ?_)
      · try simp only [zbA] at h9
        simp at h9 --done
      · try simp only [zbA] at h9
        refine tr_skip ?_
        refine tr_seq ?_
        refine tr_region fun _ _ _ => ?_
        refine st rfl rfl rfl rfl (rLdS rfl rfl rfl) ?_
        refine pu rfl rfl rfl rfl rfl ?_
        refine ef rfl rfl (eCallV rfl rfl rfl (ref_CWordC p m A c mod w Aa n ca rs hn h9c hc X nx cx l hnx hl) ⟨rfl, rfl, trivial⟩ ?_) 
        refine pu rfl rfl rfl rfl rfl ?_
        refine tr_seq ?_
        refine tr_seq ?_
        refine tr_region fun _ _ _ => ?_
        iterate 2 refine pu rfl rfl rfl rfl rfl ?_
        refine tr_cond_bool rfl (fun h12 => ?_) (fun h12 => ?_)
        · try simp only [zbA] at h12
          refine tr_seq ?_
          refine tr_region fun _ _ _ => ?_
          iterate 4 refine pu rfl rfl rfl rfl rfl ?_
          refine stg rfl rfl rfl rfl rfl (fun hb => by (have hq := hb; try simp only [zbA] at hq); exact rMove rfl rfl) ?_
          refine stg rfl rfl rfl rfl rfl (fun hb => by (have hq := hb; try simp only [zbA] at hq); exact rEql rfl (evg rfl hb) rfl) ?_
          refine st rfl rfl rfl rfl (rAndB rfl rfl rfl rfl) ?_
          refine pu rfl rfl rfl rfl rfl ?_
          exact tr_ret ⟨trivial, _, _, rfl, ⟨by simp, rfl⟩, CSub.nil _, trivial⟩
        · try simp only [zbA] at h12
          omega --done
theorem law_OrderedCosts_G_ent : Enters Try.prog 3 := enters_of Try.func3 (by kernel_rfl) (by kernel_rfl)
theorem law_OrderedCosts_G (p m : Int) (A : Option Addr) (c : Nat) (mod : List Int) [hF : IsF p m mod] (w : Int) (Aa : Option Addr) (n ca : Nat) (rs : List RowM) (hn : n = rs.length) (h9 : rs.length ≤ 256) (hc : CodeOk p m mod w rs) (hl9 : mod.length ≤ 17592186044415) (h9b : rs.length ≤ 17592186044415) (h8 : ∀ r ∈ rs, r.xs.length ≤ 17592186044415) (T : Option Addr) (nt ct : Nat) (ts : List RowM) (hnt : nt = ts.length) (t9 : ts.length ≤ 17592186044415) (t8 : ∀ r ∈ ts, r.xs.length ≤ 17592186044415) (ho : ordC (pw p m) w (xss ts) = 0) (X : Option Addr) (nx cx : Nat) (l : List Int) (hnx : nx = l.length) (hl : l.length ≤ 17592186044415) (hw : wordC (pw p m) w l = 0) :
    Pure Try.prog 3 #[.agg #[.int .i64 p, .int .i64 m, .slice A mod.length c, .int .i64 w, .slice Aa n ca], .slice T nt ct, .slice X nx cx] [ro A (ints mod), ro Aa (hdrs rs), rowsR rs, ro T (hdrs ts), rowsR ts, ro X (ints l)] (isV (.bool true)) := by
  have h9c := h9
  have hq2 := hF.q2
  have htab := ordC_zero ho
  have htl := htab.len
  have hq256 := hF.out.1.1.q
  have hn64 := hc.n64
  obtain ⟨hlw, hin⟩ := wordC_zero hw
  refine pure_of (args := [.agg #[.int .i64 p, .int .i64 m, .slice A mod.length c, .int .i64 w, .slice Aa n ca], .slice T nt ct, .slice X nx cx]) 107 Try.func3 rfl rfl rfl law_OrderedCosts_G_ent ⟨id, id, id, id, id, id, trivial⟩ (fun w0 => ?_)
  refine tr_seq ?_
  refine tr_region fun _ _ _ => ?_
  refine ef rfl rfl (eBox rfl rfl rfl rfl rfl (fun p0 => ?_)) 
  refine pu rfl rfl rfl rfl rfl ?_
  refine tr_seq ?_
  refine tr_seq ?_
  refine tr_region fun _ _ _ => ?_
  refine st rfl rfl rfl rfl (rLdS rfl rfl rfl) ?_
  refine ef rfl rfl (eCall0 rfl rfl rfl (law42_fewC p m A c mod hl9 w Aa n ca rs hn h9b h8) ⟨rfl, trivial⟩ ?_) 
  rintro _ ⟨b, rfl, hb⟩
  refine st rfl rfl rfl rfl (rNotB rfl rfl) ?_
  refine tr_cond_bool rfl (fun h1 => ?_) (fun h1 => ?_)
  · try simp only [zbA] at h1
    refine tr_seq ?_
    refine tr_region fun _ _ _ => ?_
    refine pu rfl rfl rfl rfl rfl ?_
    exact tr_ret ⟨trivial, _, _, rfl, ⟨rfl, rfl⟩, CSub.nil _, trivial⟩
  · try simp only [zbA] at h1
    refine tr_skip ?_
    refine tr_seq ?_
    refine tr_region fun _ _ _ => ?_
    refine st rfl rfl rfl rfl (rLdS rfl rfl rfl) ?_
    iterate 2 refine pu rfl rfl rfl rfl rfl ?_
    refine ef rfl rfl (eCallV rfl rfl rfl (ord_CostG p m A c mod w Aa n ca rs hn h9c hc T nt ct ts hnt t9 t8 ho X nx cx l hnx hl hw) ⟨rfl, rfl, rfl, trivial⟩ ?_) 
    iterate 5 refine pu rfl rfl rfl rfl rfl ?_
    refine tr_seq ?_
    refine tr_region fun _ _ _ => ?_
    refine st rfl rfl rfl rfl (rLdS rfl rfl rfl) ?_
    refine pu rfl rfl rfl rfl rfl ?_
    refine ef rfl rfl (eCall1 rfl rfl rfl (ord_HardG p m A c mod w Aa n ca rs hn h9c hc T nt ct ts hnt t9 t8 ho) ⟨rfl, rfl, trivial⟩ ?_) 
    rintro _ _ ⟨B4, c4, rfl, rfl⟩
    iterate 5 refine pu rfl rfl rfl rfl rfl ?_
    refine tr_seq ?_
    refine tr_region fun _ _ _ => ?_
    refine st rfl rfl rfl rfl (rLdS rfl rfl rfl) ?_
    refine pu rfl rfl rfl rfl rfl ?_
    refine ef rfl rfl (eCall1 rfl rfl rfl (ord_RelG p m A c mod w Aa n ca rs hn h9c hc T nt ct ts hnt t9 t8 ho) ⟨rfl, rfl, trivial⟩ ?_) 
    rintro _ _ ⟨B5, c5, rfl, rfl⟩
    iterate 5 refine pu rfl rfl rfl rfl rfl ?_
    refine tr_seq ?_
    refine tr_region fun _ _ _ => ?_
    refine st rfl rfl rfl rfl (rLdS rfl rfl rfl) ?_
    refine pu rfl rfl rfl rfl rfl ?_
    refine ef rfl rfl (eCallV rfl rfl rfl (ref_OCheck p m A c mod w Aa n ca rs hn h9c hc T nt ct ts hnt t9 t8) ⟨rfl, rfl, trivial⟩ ?_) 
    refine pu rfl rfl rfl rfl rfl ?_
    refine tr_seq ?_
    refine tr_seq ?_
    refine tr_region fun _ _ _ => ?_
    iterate 2 refine pu rfl rfl rfl rfl rfl ?_
    refine tr_cond_bool rfl (fun h7 => ?_) (fun h7 => ?_)
    · try simp only [zbA] at h7
      omega --done
    · try simp only [zbA] at h7
      refine tr_skip ?_
      refine tr_seq ?_
      refine tr_seq ?_
      refine tr_region fun _ _ _ => ?_
      iterate 3 refine pu rfl rfl rfl rfl rfl ?_
      refine stT rfl rfl rfl (by simp) rfl rfl (rMove rfl rfl) ?_
      refine stT rfl rfl rfl (by simp) rfl rfl (rNeq rfl rfl rfl) ?_
      refine st rfl rfl rfl rfl (rPick0 rfl rfl (by simp) rfl) ?_
      refine pu rfl rfl rfl rfl rfl ?_
      refine stT rfl rfl rfl (by simp) rfl rfl (rMove rfl rfl) ?_
      refine stT rfl rfl rfl (by simp) rfl rfl (rMove rfl rfl) ?_
      refine efT rfl rfl rfl (by simp) (eCall1 rfl rfl rfl (ref_OHard T nt ct ts hnt (pw p m) hq2 hq256 (by omega) htab.row) ⟨rfl, trivial⟩ ?_) 
      rintro _ _ ⟨B9, c9, rfl, rfl⟩
      refine efT rfl rfl rfl (by simp) (eCallV rfl rfl rfl (ref_SameInts _ _ _ (hardL ts) rfl _ _ _ (hardL ts) rfl (by rw [hardL_length]; omega)) ⟨rfl, rfl, trivial⟩ ?_) 
      refine stT rfl rfl rfl (by simp) rfl rfl (rNotB rfl rfl) ?_
      refine st rfl rfl rfl rfl (rPick0 rfl rfl (by simp) rfl) ?_
      refine pu rfl rfl rfl rfl rfl ?_
      refine stT rfl rfl rfl (by simp) rfl rfl (rMove rfl rfl) ?_
      refine stT rfl rfl rfl (by simp) rfl rfl (rMove rfl rfl) ?_
      refine efT rfl rfl rfl (by simp) (eCall1 rfl rfl rfl (ref_ORel T nt ct ts hnt (pw p m) hq2 hq256 (by omega) htab.row) ⟨rfl, trivial⟩ ?_) 
      rintro _ _ ⟨Ba, ca9, rfl, rfl⟩
      refine efT rfl rfl rfl (by simp) (eCallV rfl rfl rfl (ref_SameInts _ _ _ (relL ts) rfl _ _ _ (relL ts) rfl (by rw [relL_length]; omega)) ⟨rfl, rfl, trivial⟩ ?_) 
      refine stT rfl rfl rfl (by simp) rfl rfl (rNotB rfl rfl) ?_
      refine st rfl rfl rfl rfl (rPick0 rfl rfl (by simp) rfl) ?_
      refine tr_cond_bool rfl (fun h9 => ?_) (fun h9 => ?_)
      · try simp only [zbA] at h9
        simp at h9 --done
      · try simp only [zbA] at h9
        refine tr_skip ?_
        refine tr_seq ?_
        refine tr_region fun _ _ _ => ?_
        refine st rfl rfl rfl rfl (rLdS rfl rfl rfl) ?_
        refine pu rfl rfl rfl rfl rfl ?_
        refine ef rfl rfl (eCallV rfl rfl rfl (ref_CWordC p m A c mod w Aa n ca rs hn h9c hc X nx cx l hnx hl) ⟨rfl, rfl, trivial⟩ ?_) 
        refine pu rfl rfl rfl rfl rfl ?_
        refine tr_seq ?_
        refine tr_seq ?_
        refine tr_region fun _ _ _ => ?_
        iterate 2 refine pu rfl rfl rfl rfl rfl ?_
        refine tr_cond_bool rfl (fun h12 => ?_) (fun h12 => ?_)
        · try simp only [zbA] at h12
          omega --done
        · try simp only [zbA] at h12
          refine tr_skip ?_
          refine tr_seq ?_
          refine tr_region fun _ _ _ => ?_
          iterate 3 refine pu rfl rfl rfl rfl rfl ?_
          refine stT rfl rfl rfl (by simp) rfl rfl (rMove rfl rfl) ?_
          refine stT rfl rfl rfl (by simp) rfl rfl (rMove rfl rfl) ?_
          refine stT rfl rfl rfl (by simp) rfl rfl (rMove rfl rfl) ?_
          refine efT rfl rfl rfl (by simp) (eCallV rfl rfl rfl (ref_OCost T nt ct ts hnt (pw p m) hq2 hq256 (by omega) htab.row X nx cx l hnx (by omega) hin) ⟨rfl, rfl, trivial⟩ ?_) 
          refine stT rfl rfl rfl (by simp) rfl rfl (rEql rfl rfl rfl) ?_
          refine st rfl rfl rfl rfl (rPick1 rfl rfl (by simp) rfl) ?_
          refine pu rfl rfl rfl rfl rfl ?_
          exact tr_ret ⟨trivial, _, _, rfl, ⟨by simp, rfl⟩, CSub.nil _, trivial⟩
theorem law_OrderedCosts (p m : Int) (A : Option Addr) (c : Nat) (mod : List Int) (hl9 : mod.length ≤ 17592186044415) (w : Int) (Aa : Option Addr) (n ca : Nat) (rs : List RowM) (hn : n = rs.length) (h9 : rs.length ≤ 17592186044415) (h8 : ∀ r ∈ rs, r.xs.length ≤ 17592186044415) (T : Option Addr) (nt ct : Nat) (ts : List RowM) (hnt : nt = ts.length) (t9 : ts.length ≤ 17592186044415) (t8 : ∀ r ∈ ts, r.xs.length ≤ 17592186044415) (X : Option Addr) (nx cx : Nat) (l : List Int) (hnx : nx = l.length) (hl : l.length ≤ 17592186044415) : Pure Try.prog 3 #[.agg #[.int .i64 p, .int .i64 m, .slice A mod.length c, .int .i64 w, .slice Aa n ca], .slice T nt ct, .slice X nx cx] [ro A (ints mod), ro Aa (hdrs rs), rowsR rs, ro T (hdrs ts), rowsR ts, ro X (ints l)] (isV (.bool true)) := by
  by_cases he : codC p m mod w rs = 0
  · obtain ⟨hF0, hc⟩ := codC_zero he
    haveI hF : IsF p m mod := ⟨hF0⟩
    have hlen := hc.len
    by_cases ho : ordC (pw p m) w (xss ts) = 0
    · by_cases hw : wordC (pw p m) w l = 0
      · exact law_OrderedCosts_G p m A c mod w Aa n ca rs hn (by omega) hc hl9 h9 h8 T nt ct ts hnt t9 t8 ho X nx cx l hnx hl hw
      · exact law_OrderedCosts_W p m A c mod w Aa n ca rs hn (by omega) hc hl9 h9 h8 T nt ct ts hnt t9 t8 ho X nx cx l hnx hl hw
    · exact law_OrderedCosts_R p m A c mod w Aa n ca rs hn (by omega) hc hl9 h9 h8 T nt ct ts hnt t9 t8 ho X nx cx l hnx hl
  · exact law_OrderedCosts_E p m A c mod hl9 w Aa n ca rs hn h9 h8 T nt ct ts hnt t9 t8 X nx cx l hnx hl he
end Go.Proofs.Ytoalphamojhpcaa

/-
  ORDEREDCERTAIN, PART 8 OF 9. One sentence: the texts behind the law OrderedCertain, put together.
  Conditions: each theorem's own, written out in it.
-/
import Derived.Test.YtoalphamojhpcaaGreatK7
set_option linter.unusedSimpArgs false
set_option linter.unusedVariables false
set_option linter.unusedSectionVars false
set_option linter.unusedSimpArgs false
set_option linter.unusedVariables false
set_option maxRecDepth 100000
namespace Go.Proofs.YtoalphamojhpcaaGreat
open Go.RowKit
theorem law_OrderedCertain_E_ent : Enters Tryz.prog 3 := enters_of Tryz.func3 (by kernel_rfl) (by kernel_rfl)
theorem law_OrderedCertain_E (p m : Int) (A : Option Addr) (c : Nat) (mod : List Int) (hl9 : mod.length ≤ 17592186044415) (w : Int) (Aa : Option Addr) (n ca : Nat) (rs : List RowM) (hn : n = rs.length) (h9 : rs.length ≤ 17592186044415) (h8 : ∀ r ∈ rs, r.xs.length ≤ 17592186044415) (T : Option Addr) (nt ct : Nat) (ts : List RowM) (hnt : nt = ts.length) (t9 : ts.length ≤ 17592186044415) (t8 : ∀ r ∈ ts, r.xs.length ≤ 17592186044415) (X : Option Addr) (nx cx : Nat) (l : List Int) (hnx : nx = l.length) (hl : l.length ≤ 17592186044415) (d : Int) (he : codC p m mod w rs ≠ 0) :
    Pure Tryz.prog 3 #[.agg #[.int .i64 p, .int .i64 m, .slice A mod.length c, .int .i64 w, .slice Aa n ca], .slice T nt ct, .slice X nx cx, .int .i64 d] [ro A (ints mod), ro Aa (hdrs rs), rowsR rs, ro T (hdrs ts), rowsR ts, ro X (ints l)] (isV (.bool true)) := by
  refine pure_of (args := [.agg #[.int .i64 p, .int .i64 m, .slice A mod.length c, .int .i64 w, .slice Aa n ca], .slice T nt ct, .slice X nx cx, .int .i64 d]) 74 Tryz.func3 rfl rfl rfl law_OrderedCertain_E_ent ⟨id, id, id, id, id, id, trivial⟩ (fun w0 => ?_)
  refine tr_seq ?_
  refine tr_region fun _ _ _ => ?_
  refine ef rfl rfl (eBox rfl rfl rfl rfl rfl (fun p0 => ?_)) 
  refine pu rfl rfl rfl rfl rfl ?_
  refine tr_seq ?_
  refine tr_seq ?_
  refine tr_region fun _ _ _ => ?_
  refine st rfl rfl rfl rfl (rLdS rfl rfl rfl) ?_
  refine ef rfl rfl (eCall0 rfl rfl rfl (law42_fewC p m A c mod hl9 w Aa n ca rs hn h9 h8) ⟨rfl, trivial⟩ ?_) 
  rintro _ ⟨b, rfl, hb⟩
  refine st rfl rfl rfl rfl (rNotB rfl rfl) ?_
  refine tr_cond_bool rfl (fun h1 => ?_) (fun h1 => ?_)
  · try simp only [zbA] at h1
    refine tr_seq ?_
    refine tr_region fun _ _ _ => ?_
    refine pu rfl rfl rfl rfl rfl ?_
    exact tr_ret ⟨trivial, _, _, rfl, ⟨rfl, rfl⟩, CSub.nil _, trivial⟩
  · try simp only [zbA] at h1
    refine tr_skip ?_
    refine tr_seq ?_
    refine tr_region fun _ _ _ => ?_
    refine st rfl rfl rfl rfl (rLdS rfl rfl rfl) ?_
    iterate 3 refine pu rfl rfl rfl rfl rfl ?_
    refine ef rfl rfl (eCallV rfl rfl rfl (ord_CertE p m A c mod hl9 w Aa n ca rs hn h9 h8 he T nt ct ts hnt t9 t8 X nx cx l hnx hl d) ⟨rfl, rfl, rfl, rfl, trivial⟩ ?_) 
    iterate 5 refine pu rfl rfl rfl rfl rfl ?_
    refine tr_seq ?_
    refine tr_region fun _ _ _ => ?_
    refine st rfl rfl rfl rfl (rLdS rfl rfl rfl) ?_
    refine pu rfl rfl rfl rfl rfl ?_
    refine ef rfl rfl (eCallV rfl rfl rfl (ref_OCheckE p m A c mod hl9 w Aa n ca rs hn h9 h8 he T nt ct ts hnt t9 t8) ⟨rfl, rfl, trivial⟩ ?_) 
    refine pu rfl rfl rfl rfl rfl ?_
    refine tr_seq ?_
    refine tr_seq ?_
    refine tr_region fun _ _ _ => ?_
    iterate 2 refine pu rfl rfl rfl rfl rfl ?_
    refine tr_cond_bool rfl (fun h5 => ?_) (fun h5 => ?_)
    · try simp only [zbA] at h5
      first | omega | (exact absurd h5.1 (by omega)) | (simp at h5; omega) | (simp at h5) --done
    · try simp only [zbA] at h5
      refine tr_skip ?_
      refine tr_seq ?_
      refine tr_seq ?_
      refine tr_region fun _ _ _ => ?_
      iterate 2 refine pu rfl rfl rfl rfl rfl ?_
      refine tr_cond_bool rfl (fun h7 => ?_) (fun h7 => ?_)
      · try simp only [zbA] at h7
        first | omega | (exact absurd h7.1 (by omega)) | (simp at h7; omega) | (simp at h7) --done
      · try simp only [zbA] at h7
        refine tr_skip ?_
        refine tr_seq ?_
        refine tr_seq ?_
        refine tr_region fun _ _ _ => ?_
        iterate 3 refine pu rfl rfl rfl rfl rfl ?_
        refine stg rfl rfl rfl rfl rfl (fun hb => by (have hq := hb; try simp only [zbA] at hq); exact rMove rfl rfl) ?_
        refine stg rfl rfl rfl rfl rfl (fun hb => by (have hq := hb; try simp only [zbA] at hq); exact rLss rfl (evg rfl hb) rfl) ?_
        refine stg rfl rfl rfl rfl rfl (fun hb => by (have hq := hb; try simp only [zbA] at hq); exact rMove rfl (evg rfl hb)) ?_
        refine stg2 rfl rfl rfl rfl rfl (fun hb => by (have hq := hb; try simp only [zbA] at hq); exact rMove rfl rfl) ?_
        refine stg2 rfl rfl rfl rfl rfl (fun hb => by (have hq := hb; try simp only [zbA] at hq); exact rFld rfl rfl) ?_
        refine stg2 rfl rfl rfl rfl rfl (fun hb => by (have hq := hb; try simp only [zbA] at hq); exact rLdF rfl (evg rfl hb) rfl) ?_
        refine stg2 rfl rfl rfl rfl rfl (fun hb => by (have hq := hb; try simp only [zbA] at hq); exact rGtr rfl (evg rfl hb) (evg rfl hb)) ?_
        refine stg rfl rfl rfl rfl rfl (fun hb => by (have hq := hb; try simp only [zbA] at hq); exact rOrB rfl (evg rfl hb) rfl (evgp rfl hb)) ?_
        refine st rfl rfl rfl rfl (rAndB rfl rfl rfl rfl) ?_
        refine tr_cond_bool rfl (fun h11 => ?_) (fun h11 => ?_)
        · try simp only [zbA] at h11
          first | omega | (exact absurd h11.1 (by omega)) | (simp at h11; omega) | (simp at h11) --done
        · try simp only [zbA] at h11
          refine tr_skip ?_
          refine tr_seq ?_
          refine tr_seq ?_
          refine tr_region fun _ _ _ => ?_
          iterate 2 refine pu rfl rfl rfl rfl rfl ?_
          refine tr_cond_bool rfl (fun h13 => ?_) (fun h13 => ?_)
          · try simp only [zbA] at h13
            refine tr_seq ?_
            refine tr_region fun _ _ _ => ?_
            iterate 4 refine pu rfl rfl rfl rfl rfl ?_
            refine stg rfl rfl rfl rfl rfl (fun hb => by (have hq := hb; try simp only [zbA] at hq); exact rMove rfl rfl) ?_
            refine stg rfl rfl rfl rfl rfl (fun hb => by (have hq := hb; try simp only [zbA] at hq); exact rNotB rfl (evg rfl hb)) ?_
            refine st rfl rfl rfl rfl (rAndB rfl rfl rfl rfl) ?_
            refine pu rfl rfl rfl rfl rfl ?_
            exact tr_ret ⟨trivial, _, _, rfl, ⟨by simp, rfl⟩, CSub.nil _, trivial⟩
          · try simp only [zbA] at h13
            first | omega | (simp at h13; omega) | (simp at h13) --done
theorem law_OrderedCertain_R_ent : Enters Tryz.prog 3 := enters_of Tryz.func3 (by kernel_rfl) (by kernel_rfl)
theorem law_OrderedCertain_R (p m : Int) (A : Option Addr) (c : Nat) (mod : List Int) [hF : IsF p m mod] (w : Int) (Aa : Option Addr) (n ca : Nat) (rs : List RowM) (hn : n = rs.length) (h9 : rs.length ≤ 256) (hc : CodeOk p m mod w rs) (hl9 : mod.length ≤ 17592186044415) (h9b : rs.length ≤ 17592186044415) (h8 : ∀ r ∈ rs, r.xs.length ≤ 17592186044415) (T : Option Addr) (nt ct : Nat) (ts : List RowM) (hnt : nt = ts.length) (t9 : ts.length ≤ 17592186044415) (t8 : ∀ r ∈ ts, r.xs.length ≤ 17592186044415) (ho : ordC (pw p m) w (xss ts) ≠ 0) (X : Option Addr) (nx cx : Nat) (l : List Int) (hnx : nx = l.length) (hl : l.length ≤ 17592186044415) (d : Int) :
    Pure Tryz.prog 3 #[.agg #[.int .i64 p, .int .i64 m, .slice A mod.length c, .int .i64 w, .slice Aa n ca], .slice T nt ct, .slice X nx cx, .int .i64 d] [ro A (ints mod), ro Aa (hdrs rs), rowsR rs, ro T (hdrs ts), rowsR ts, ro X (ints l)] (isV (.bool true)) := by
  have h9c := h9
  refine pure_of (args := [.agg #[.int .i64 p, .int .i64 m, .slice A mod.length c, .int .i64 w, .slice Aa n ca], .slice T nt ct, .slice X nx cx, .int .i64 d]) 74 Tryz.func3 rfl rfl rfl law_OrderedCertain_R_ent ⟨id, id, id, id, id, id, trivial⟩ (fun w0 => ?_)
  refine tr_seq ?_
  refine tr_region fun _ _ _ => ?_
  refine ef rfl rfl (eBox rfl rfl rfl rfl rfl (fun p0 => ?_)) 
  refine pu rfl rfl rfl rfl rfl ?_
  refine tr_seq ?_
  refine tr_seq ?_
  refine tr_region fun _ _ _ => ?_
  refine st rfl rfl rfl rfl (rLdS rfl rfl rfl) ?_
  refine ef rfl rfl (eCall0 rfl rfl rfl (law42_fewC p m A c mod hl9 w Aa n ca rs hn h9b h8) ⟨rfl, trivial⟩ ?_) 
  rintro _ ⟨b, rfl, hb⟩
  refine st rfl rfl rfl rfl (rNotB rfl rfl) ?_
  refine tr_cond_bool rfl (fun h1 => ?_) (fun h1 => ?_)
  · try simp only [zbA] at h1
    refine tr_seq ?_
    refine tr_region fun _ _ _ => ?_
    refine pu rfl rfl rfl rfl rfl ?_
    exact tr_ret ⟨trivial, _, _, rfl, ⟨rfl, rfl⟩, CSub.nil _, trivial⟩
  · try simp only [zbA] at h1
    refine tr_skip ?_
    refine tr_seq ?_
    refine tr_region fun _ _ _ => ?_
    refine st rfl rfl rfl rfl (rLdS rfl rfl rfl) ?_
    iterate 3 refine pu rfl rfl rfl rfl rfl ?_
    refine ef rfl rfl (eCallV rfl rfl rfl (ord_CertR p m A c mod w Aa n ca rs hn h9c hc T nt ct ts hnt t9 t8 ho X nx cx l hnx hl d) ⟨rfl, rfl, rfl, rfl, trivial⟩ ?_) 
    iterate 5 refine pu rfl rfl rfl rfl rfl ?_
    refine tr_seq ?_
    refine tr_region fun _ _ _ => ?_
    refine st rfl rfl rfl rfl (rLdS rfl rfl rfl) ?_
    refine pu rfl rfl rfl rfl rfl ?_
    refine ef rfl rfl (eCallV rfl rfl rfl (ref_OCheck p m A c mod w Aa n ca rs hn h9c hc T nt ct ts hnt t9 t8) ⟨rfl, rfl, trivial⟩ ?_) 
    refine pu rfl rfl rfl rfl rfl ?_
    refine tr_seq ?_
    refine tr_seq ?_
    refine tr_region fun _ _ _ => ?_
    iterate 2 refine pu rfl rfl rfl rfl rfl ?_
    refine tr_cond_bool rfl (fun h5 => ?_) (fun h5 => ?_)
    · try simp only [zbA] at h5
      first | omega | (exact absurd h5.1 (by omega)) | (simp at h5; omega) | (simp at h5) --done
    · try simp only [zbA] at h5
      refine tr_skip ?_
      refine tr_seq ?_
      refine tr_seq ?_
      refine tr_region fun _ _ _ => ?_
      iterate 2 refine pu rfl rfl rfl rfl rfl ?_
      refine tr_cond_bool rfl (fun h7 => ?_) (fun h7 => ?_)
      · try simp only [zbA] at h7
        first | omega | (exact absurd h7.1 (by omega)) | (simp at h7; omega) | (simp at h7) --done
      · try simp only [zbA] at h7
        refine tr_skip ?_
        refine tr_seq ?_
        refine tr_seq ?_
        refine tr_region fun _ _ _ => ?_
        iterate 3 refine pu rfl rfl rfl rfl rfl ?_
        refine stg rfl rfl rfl rfl rfl (fun hb => by (have hq := hb; try simp only [zbA] at hq); exact rMove rfl rfl) ?_
        refine stg rfl rfl rfl rfl rfl (fun hb => by (have hq := hb; try simp only [zbA] at hq); exact rLss rfl (evg rfl hb) rfl) ?_
        refine stg rfl rfl rfl rfl rfl (fun hb => by (have hq := hb; try simp only [zbA] at hq); exact rMove rfl (evg rfl hb)) ?_
        refine stg2 rfl rfl rfl rfl rfl (fun hb => by (have hq := hb; try simp only [zbA] at hq); exact rMove rfl rfl) ?_
        refine stg2 rfl rfl rfl rfl rfl (fun hb => by (have hq := hb; try simp only [zbA] at hq); exact rFld rfl rfl) ?_
        refine stg2 rfl rfl rfl rfl rfl (fun hb => by (have hq := hb; try simp only [zbA] at hq); exact rLdF rfl (evg rfl hb) rfl) ?_
        refine stg2 rfl rfl rfl rfl rfl (fun hb => by (have hq := hb; try simp only [zbA] at hq); exact rGtr rfl (evg rfl hb) (evg rfl hb)) ?_
        refine stg rfl rfl rfl rfl rfl (fun hb => by (have hq := hb; try simp only [zbA] at hq); exact rOrB rfl (evg rfl hb) rfl (evgp rfl hb)) ?_
        refine st rfl rfl rfl rfl (rAndB rfl rfl rfl rfl) ?_
        refine tr_cond_bool rfl (fun h11 => ?_) (fun h11 => ?_)
        · try simp only [zbA] at h11
          first | omega | (exact absurd h11.1 (by omega)) | (simp at h11; omega) | (simp at h11) --done
        · try simp only [zbA] at h11
          refine tr_skip ?_
          refine tr_seq ?_
          refine tr_seq ?_
          refine tr_region fun _ _ _ => ?_
          iterate 2 refine pu rfl rfl rfl rfl rfl ?_
          refine tr_cond_bool rfl (fun h13 => ?_) (fun h13 => ?_)
          · try simp only [zbA] at h13
            refine tr_seq ?_
            refine tr_region fun _ _ _ => ?_
            iterate 4 refine pu rfl rfl rfl rfl rfl ?_
            refine stg rfl rfl rfl rfl rfl (fun hb => by (have hq := hb; try simp only [zbA] at hq); exact rMove rfl rfl) ?_
            refine stg rfl rfl rfl rfl rfl (fun hb => by (have hq := hb; try simp only [zbA] at hq); exact rNotB rfl (evg rfl hb)) ?_
            refine st rfl rfl rfl rfl (rAndB rfl rfl rfl rfl) ?_
            refine pu rfl rfl rfl rfl rfl ?_
            exact tr_ret ⟨trivial, _, _, rfl, ⟨by simp, rfl⟩, CSub.nil _, trivial⟩
          · try simp only [zbA] at h13
            first | omega | (simp at h13; omega) | (simp at h13) --done
theorem law_OrderedCertain_W_ent : Enters Tryz.prog 3 := enters_of Tryz.func3 (by kernel_rfl) (by kernel_rfl)
theorem law_OrderedCertain_W (p m : Int) (A : Option Addr) (c : Nat) (mod : List Int) [hF : IsF p m mod] (w : Int) (Aa : Option Addr) (n ca : Nat) (rs : List RowM) (hn : n = rs.length) (h9 : rs.length ≤ 256) (hc : CodeOk p m mod w rs) (hl9 : mod.length ≤ 17592186044415) (h9b : rs.length ≤ 17592186044415) (h8 : ∀ r ∈ rs, r.xs.length ≤ 17592186044415) (T : Option Addr) (nt ct : Nat) (ts : List RowM) (hnt : nt = ts.length) (t9 : ts.length ≤ 17592186044415) (t8 : ∀ r ∈ ts, r.xs.length ≤ 17592186044415) (ho : ordC (pw p m) w (xss ts) = 0) (X : Option Addr) (nx cx : Nat) (l : List Int) (hnx : nx = l.length) (hl : l.length ≤ 17592186044415) (d : Int) (hw : wordC (pw p m) w l ≠ 0) :
    Pure Tryz.prog 3 #[.agg #[.int .i64 p, .int .i64 m, .slice A mod.length c, .int .i64 w, .slice Aa n ca], .slice T nt ct, .slice X nx cx, .int .i64 d] [ro A (ints mod), ro Aa (hdrs rs), rowsR rs, ro T (hdrs ts), rowsR ts, ro X (ints l)] (isV (.bool true)) := by
  have h9c := h9
  have hq2 := hF.q2
  have htab := ordC_zero ho
  have htl := htab.len
  have hq256 := hF.out.1.1.q
  have hn64 := hc.n64
  refine pure_of (args := [.agg #[.int .i64 p, .int .i64 m, .slice A mod.length c, .int .i64 w, .slice Aa n ca], .slice T nt ct, .slice X nx cx, .int .i64 d]) 74 Tryz.func3 rfl rfl rfl law_OrderedCertain_W_ent ⟨id, id, id, id, id, id, trivial⟩ (fun w0 => ?_)
  refine tr_seq ?_
  refine tr_region fun _ _ _ => ?_
  refine ef rfl rfl (eBox rfl rfl rfl rfl rfl (fun p0 => ?_)) 
  refine pu rfl rfl rfl rfl rfl ?_
  refine tr_seq ?_
  refine tr_seq ?_
  refine tr_region fun _ _ _ => ?_
  refine st rfl rfl rfl rfl (rLdS rfl rfl rfl) ?_
  refine ef rfl rfl (eCall0 rfl rfl rfl (law42_fewC p m A c mod hl9 w Aa n ca rs hn h9b h8) ⟨rfl, trivial⟩ ?_) 
  rintro _ ⟨b, rfl, hb⟩
  refine st rfl rfl rfl rfl (rNotB rfl rfl) ?_
  refine tr_cond_bool rfl (fun h1 => ?_) (fun h1 => ?_)
  · try simp only [zbA] at h1
    refine tr_seq ?_
    refine tr_region fun _ _ _ => ?_
    refine pu rfl rfl rfl rfl rfl ?_
    exact tr_ret ⟨trivial, _, _, rfl, ⟨rfl, rfl⟩, CSub.nil _, trivial⟩
  · try simp only [zbA] at h1
    refine tr_skip ?_
    refine tr_seq ?_
    refine tr_region fun _ _ _ => ?_
    refine st rfl rfl rfl rfl (rLdS rfl rfl rfl) ?_
    iterate 3 refine pu rfl rfl rfl rfl rfl ?_
    refine ef rfl rfl (eCallV rfl rfl rfl (ord_CertW p m A c mod w Aa n ca rs hn h9c hc T nt ct ts hnt t9 t8 ho X nx cx l hnx hl d hw) ⟨rfl, rfl, rfl, rfl, trivial⟩ ?_) 
    iterate 5 refine pu rfl rfl rfl rfl rfl ?_
    refine tr_seq ?_
    refine tr_region fun _ _ _ => ?_
    refine st rfl rfl rfl rfl (rLdS rfl rfl rfl) ?_
    refine pu rfl rfl rfl rfl rfl ?_
    refine ef rfl rfl (eCallV rfl rfl rfl (ref_OCheck p m A c mod w Aa n ca rs hn h9c hc T nt ct ts hnt t9 t8) ⟨rfl, rfl, trivial⟩ ?_) 
    refine pu rfl rfl rfl rfl rfl ?_
    refine tr_seq ?_
    refine tr_seq ?_
    refine tr_region fun _ _ _ => ?_
    iterate 2 refine pu rfl rfl rfl rfl rfl ?_
    refine tr_cond_bool rfl (fun h5 => ?_) (fun h5 => ?_)
    · try simp only [zbA] at h5
      refine tr_region fun _ _ _ => ?_
      refine st rfl rfl rfl rfl (rLdS rfl rfl rfl) ?_
      refine pu rfl rfl rfl rfl rfl ?_
      refine ef rfl rfl (eCallV rfl rfl rfl (ref_CWordC p m A c mod w Aa n ca rs hn h9c hc X nx cx l hnx hl) ⟨rfl, rfl, trivial⟩ ?_) 
      refine pu rfl rfl rfl rfl rfl ?_
      refine tr_seq ?_
      refine tr_seq ?_
      refine tr_region fun _ _ _ => ?_
      iterate 2 refine pu rfl rfl rfl rfl rfl ?_
      refine tr_cond_bool rfl (fun h7 => ?_) (fun h7 => ?_)
      · try simp only [zbA] at h7
        first | omega | (exact absurd h7.1 (by omega)) | (simp at h7; omega) | (simp at h7) --done
      · try simp only [zbA] at h7
        refine tr_skip ?_
        refine tr_seq ?_
        refine tr_seq ?_
        refine tr_region fun _ _ _ => ?_
        iterate 3 refine pu rfl rfl rfl rfl rfl ?_
        refine stg rfl rfl rfl rfl rfl (fun hb => by (have hq := hb; try simp only [zbA] at hq); exact rMove rfl rfl) ?_
        refine stg rfl rfl rfl rfl rfl (fun hb => by (have hq := hb; try simp only [zbA] at hq); exact rLss rfl (evg rfl hb) rfl) ?_
        refine stg rfl rfl rfl rfl rfl (fun hb => by (have hq := hb; try simp only [zbA] at hq); exact rMove rfl (evg rfl hb)) ?_
        refine stg2 rfl rfl rfl rfl rfl (fun hb => by (have hq := hb; try simp only [zbA] at hq); exact rMove rfl rfl) ?_
        refine stg2 rfl rfl rfl rfl rfl (fun hb => by (have hq := hb; try simp only [zbA] at hq); exact rFld rfl rfl) ?_
        refine stg2 rfl rfl rfl rfl rfl (fun hb => by (have hq := hb; try simp only [zbA] at hq); exact rLdF rfl (evg rfl hb) rfl) ?_
        refine stg2 rfl rfl rfl rfl rfl (fun hb => by (have hq := hb; try simp only [zbA] at hq); exact rGtr rfl (evg rfl hb) (evg rfl hb)) ?_
        refine stg rfl rfl rfl rfl rfl (fun hb => by (have hq := hb; try simp only [zbA] at hq); exact rOrB rfl (evg rfl hb) rfl (evgp rfl hb)) ?_
        refine st rfl rfl rfl rfl (rAndB rfl rfl rfl rfl) ?_
        refine tr_cond_bool rfl (fun h11 => ?_) (fun h11 => ?_)
        · try simp only [zbA] at h11
          first | omega | (exact absurd h11.1 (by omega)) | (simp at h11; omega) | (simp at h11) --done
        · try simp only [zbA] at h11
          refine tr_skip ?_
          refine tr_seq ?_
          refine tr_seq ?_
          refine tr_region fun _ _ _ => ?_
          iterate 2 refine pu rfl rfl rfl rfl rfl ?_
          refine tr_cond_bool rfl (fun h13 => ?_) (fun h13 => ?_)
          · try simp only [zbA] at h13
            refine tr_seq ?_
            refine tr_region fun _ _ _ => ?_
            iterate 4 refine pu rfl rfl rfl rfl rfl ?_
            refine stg rfl rfl rfl rfl rfl (fun hb => by (have hq := hb; try simp only [zbA] at hq); exact rMove rfl rfl) ?_
            refine stg rfl rfl rfl rfl rfl (fun hb => by (have hq := hb; try simp only [zbA] at hq); exact rNotB rfl (evg rfl hb)) ?_
            refine st rfl rfl rfl rfl (rAndB rfl rfl rfl rfl) ?_
            refine pu rfl rfl rfl rfl rfl ?_
            exact tr_ret ⟨trivial, _, _, rfl, ⟨by simp, rfl⟩, CSub.nil _, trivial⟩
          · try simp only [zbA] at h13
            first | omega | (simp at h13; omega) | (simp at h13) --done
    · try simp only [zbA] at h5
      first | omega | (simp at h5; omega) | (simp at h5) --done
theorem law_OrderedCertain_N_ent : Enters Tryz.prog 3 := enters_of Tryz.func3 (by kernel_rfl) (by kernel_rfl)
theorem law_OrderedCertain_N (p m : Int) (A : Option Addr) (c : Nat) (mod : List Int) [hF : IsF p m mod] (w : Int) (Aa : Option Addr) (n ca : Nat) (rs : List RowM) (hn : n = rs.length) (h9 : rs.length ≤ 256) (hc : CodeOk p m mod w rs) (hl9 : mod.length ≤ 17592186044415) (h9b : rs.length ≤ 17592186044415) (h8 : ∀ r ∈ rs, r.xs.length ≤ 17592186044415) (T : Option Addr) (nt ct : Nat) (ts : List RowM) (hnt : nt = ts.length) (t9 : ts.length ≤ 17592186044415) (t8 : ∀ r ∈ ts, r.xs.length ≤ 17592186044415) (ho : ordC (pw p m) w (xss ts) = 0) (X : Option Addr) (nx cx : Nat) (l : List Int) (hnx : nx = l.length) (hl : l.length ≤ 17592186044415) (d : Int) (hw : wordC (pw p m) w l = 0) (hm : memB p m mod rs l = false) :
    Pure Tryz.prog 3 #[.agg #[.int .i64 p, .int .i64 m, .slice A mod.length c, .int .i64 w, .slice Aa n ca], .slice T nt ct, .slice X nx cx, .int .i64 d] [ro A (ints mod), ro Aa (hdrs rs), rowsR rs, ro T (hdrs ts), rowsR ts, ro X (ints l)] (isV (.bool true)) := by
  have h9c := h9
  have hq2 := hF.q2
  have htab := ordC_zero ho
  have htl := htab.len
  have hq256 := hF.out.1.1.q
  have hn64 := hc.n64
  obtain ⟨hlw, hin⟩ := wordC_zero hw
  refine pure_of (args := [.agg #[.int .i64 p, .int .i64 m, .slice A mod.length c, .int .i64 w, .slice Aa n ca], .slice T nt ct, .slice X nx cx, .int .i64 d]) 74 Tryz.func3 rfl rfl rfl law_OrderedCertain_N_ent ⟨id, id, id, id, id, id, trivial⟩ (fun w0 => ?_)
  refine tr_seq ?_
  refine tr_region fun _ _ _ => ?_
  refine ef rfl rfl (eBox rfl rfl rfl rfl rfl (fun p0 => ?_)) 
  refine pu rfl rfl rfl rfl rfl ?_
  refine tr_seq ?_
  refine tr_seq ?_
  refine tr_region fun _ _ _ => ?_
  refine st rfl rfl rfl rfl (rLdS rfl rfl rfl) ?_
  refine ef rfl rfl (eCall0 rfl rfl rfl (law42_fewC p m A c mod hl9 w Aa n ca rs hn h9b h8) ⟨rfl, trivial⟩ ?_) 
  rintro _ ⟨b, rfl, hb⟩
  refine st rfl rfl rfl rfl (rNotB rfl rfl) ?_
  refine tr_cond_bool rfl (fun h1 => ?_) (fun h1 => ?_)
  · try simp only [zbA] at h1
    refine tr_seq ?_
    refine tr_region fun _ _ _ => ?_
    refine pu rfl rfl rfl rfl rfl ?_
    exact tr_ret ⟨trivial, _, _, rfl, ⟨rfl, rfl⟩, CSub.nil _, trivial⟩
  · try simp only [zbA] at h1
    refine tr_skip ?_
    refine tr_seq ?_
    refine tr_region fun _ _ _ => ?_
    refine st rfl rfl rfl rfl (rLdS rfl rfl rfl) ?_
    iterate 3 refine pu rfl rfl rfl rfl rfl ?_
    refine ef rfl rfl (eCallV rfl rfl rfl (ord_CertN p m A c mod w Aa n ca rs hn h9c hc T nt ct ts hnt t9 t8 ho X nx cx l hnx hl d hw hm) ⟨rfl, rfl, rfl, rfl, trivial⟩ ?_) 
    iterate 5 refine pu rfl rfl rfl rfl rfl ?_
    refine tr_seq ?_
    refine tr_region fun _ _ _ => ?_
    refine st rfl rfl rfl rfl (rLdS rfl rfl rfl) ?_
    refine pu rfl rfl rfl rfl rfl ?_
    refine ef rfl rfl (eCallV rfl rfl rfl (ref_OCheck p m A c mod w Aa n ca rs hn h9c hc T nt ct ts hnt t9 t8) ⟨rfl, rfl, trivial⟩ ?_) 
    refine pu rfl rfl rfl rfl rfl ?_
    refine tr_seq ?_
    refine tr_seq ?_
    refine tr_region fun _ _ _ => ?_
    iterate 2 refine pu rfl rfl rfl rfl rfl ?_
    refine tr_cond_bool rfl (fun h5 => ?_) (fun h5 => ?_)
    · try simp only [zbA] at h5
      refine tr_region fun _ _ _ => ?_
      refine st rfl rfl rfl rfl (rLdS rfl rfl rfl) ?_
      refine pu rfl rfl rfl rfl rfl ?_
      refine ef rfl rfl (eCallV rfl rfl rfl (ref_CWordC p m A c mod w Aa n ca rs hn h9c hc X nx cx l hnx hl) ⟨rfl, rfl, trivial⟩ ?_) 
      refine pu rfl rfl rfl rfl rfl ?_
      refine tr_seq ?_
      refine tr_seq ?_
      refine tr_region fun _ _ _ => ?_
      iterate 2 refine pu rfl rfl rfl rfl rfl ?_
      refine tr_cond_bool rfl (fun h7 => ?_) (fun h7 => ?_)
      · try simp only [zbA] at h7
        refine tr_seq ?_
        refine tr_region fun _ _ _ => ?_
        refine st rfl rfl rfl rfl (rLdS rfl rfl rfl) ?_
        refine pu rfl rfl rfl rfl rfl ?_
        refine ef rfl rfl (eCallV rfl rfl rfl (ref_CHas p m A c mod w Aa n ca rs hn h9c hc X nx cx l hnx hlw hin) ⟨rfl, rfl, trivial⟩ ?_) 
        iterate 5 refine pu rfl rfl rfl rfl rfl ?_
        refine tr_seq ?_
        refine tr_region fun _ _ _ => ?_
        refine pu rfl rfl rfl rfl rfl ?_
        refine st rfl rfl rfl rfl (rNotB rfl rfl) ?_
        refine tr_cond_bool rfl (fun h9 => ?_) (fun h9 => ?_)
        · try simp only [zbA] at h9
          refine tr_region fun _ _ _ => ?_
          refine pu rfl rfl rfl rfl rfl ?_
          refine tr_seq ?_
          refine tr_seq ?_
          refine tr_region fun _ _ _ => ?_
          iterate 3 refine pu rfl rfl rfl rfl rfl ?_
          refine stg rfl rfl rfl rfl rfl (fun hb => by (have hq := hb; try simp only [zbA] at hq); exact rMove rfl rfl) ?_
          refine stg rfl rfl rfl rfl rfl (fun hb => by (have hq := hb; try simp only [zbA] at hq); exact rLss rfl (evg rfl hb) rfl) ?_
          refine stg rfl rfl rfl rfl rfl (fun hb => by (have hq := hb; try simp only [zbA] at hq); exact rMove rfl (evg rfl hb)) ?_
          refine stg2 rfl rfl rfl rfl rfl (fun hb => by (have hq := hb; try simp only [zbA] at hq); exact rMove rfl rfl) ?_
          refine stg2 rfl rfl rfl rfl rfl (fun hb => by (have hq := hb; try simp only [zbA] at hq); exact rFld rfl rfl) ?_
          refine stg2 rfl rfl rfl rfl rfl (fun hb => by (have hq := hb; try simp only [zbA] at hq); exact rLdF rfl (evg rfl hb) rfl) ?_
          refine stg2 rfl rfl rfl rfl rfl (fun hb => by (have hq := hb; try simp only [zbA] at hq); exact rGtr rfl (evg rfl hb) (evg rfl hb)) ?_
          refine stg rfl rfl rfl rfl rfl (fun hb => by (have hq := hb; try simp only [zbA] at hq); exact rOrB rfl (evg rfl hb) rfl (evgp rfl hb)) ?_
          refine st rfl rfl rfl rfl (rAndB rfl rfl rfl rfl) ?_
          refine tr_cond_bool rfl (fun h11 => ?_) (fun h11 => ?_)
          · try simp only [zbA] at h11
            first | omega | (exact absurd h11.1 (by omega)) | (simp at h11; omega) | (simp at h11) --done
          · try simp only [zbA] at h11
            refine tr_skip ?_
            refine tr_seq ?_
            refine tr_seq ?_
            refine tr_region fun _ _ _ => ?_
            iterate 2 refine pu rfl rfl rfl rfl rfl ?_
            refine tr_cond_bool rfl (fun h13 => ?_) (fun h13 => ?_)
            · try simp only [zbA] at h13
              refine tr_seq ?_
              refine tr_region fun _ _ _ => ?_
              iterate 4 refine pu rfl rfl rfl rfl rfl ?_
              refine stg rfl rfl rfl rfl rfl (fun hb => by (have hq := hb; try simp only [zbA] at hq); exact rMove rfl rfl) ?_
              refine stg rfl rfl rfl rfl rfl (fun hb => by (have hq := hb; try simp only [zbA] at hq); exact rNotB rfl (evg rfl hb)) ?_
              refine st rfl rfl rfl rfl (rAndB rfl rfl rfl rfl) ?_
              refine pu rfl rfl rfl rfl rfl ?_
              exact tr_ret ⟨trivial, _, _, rfl, ⟨by simp, rfl⟩, CSub.nil _, trivial⟩
            · try simp only [zbA] at h13
              first | omega | (simp at h13; omega) | (simp at h13) --done
        · try simp only [zbA] at h9
          rw [hm] at h9; simp at h9 --done
      · try simp only [zbA] at h7
        first | omega | (simp at h7; omega) | (simp at h7) --done
    · try simp only [zbA] at h5
      first | omega | (simp at h5; omega) | (simp at h5) --done
theorem law_OrderedCertain_D_ent : Enters Tryz.prog 3 := enters_of Tryz.func3 (by kernel_rfl) (by kernel_rfl)
theorem law_OrderedCertain_D (p m : Int) (A : Option Addr) (c : Nat) (mod : List Int) [hF : IsF p m mod] (w : Int) (Aa : Option Addr) (n ca : Nat) (rs : List RowM) (hn : n = rs.length) (h9 : rs.length ≤ 256) (hc : CodeOk p m mod w rs) (hl9 : mod.length ≤ 17592186044415) (h9b : rs.length ≤ 17592186044415) (h8 : ∀ r ∈ rs, r.xs.length ≤ 17592186044415) (T : Option Addr) (nt ct : Nat) (ts : List RowM) (hnt : nt = ts.length) (t9 : ts.length ≤ 17592186044415) (t8 : ∀ r ∈ ts, r.xs.length ≤ 17592186044415) (ho : ordC (pw p m) w (xss ts) = 0) (X : Option Addr) (nx cx : Nat) (l : List Int) (hnx : nx = l.length) (hl : l.length ≤ 17592186044415) (d : Int) (hw : wordC (pw p m) w l = 0) (hm : memB p m mod rs l = true) (hd : d < 1 ∨ d > w) :
    Pure Tryz.prog 3 #[.agg #[.int .i64 p, .int .i64 m, .slice A mod.length c, .int .i64 w, .slice Aa n ca], .slice T nt ct, .slice X nx cx, .int .i64 d] [ro A (ints mod), ro Aa (hdrs rs), rowsR rs, ro T (hdrs ts), rowsR ts, ro X (ints l)] (isV (.bool true)) := by
  have h9c := h9
  have hq2 := hF.q2
  have htab := ordC_zero ho
  have htl := htab.len
  have hq256 := hF.out.1.1.q
  have hn64 := hc.n64
  obtain ⟨hlw, hin⟩ := wordC_zero hw
  refine pure_of (args := [.agg #[.int .i64 p, .int .i64 m, .slice A mod.length c, .int .i64 w, .slice Aa n ca], .slice T nt ct, .slice X nx cx, .int .i64 d]) 74 Tryz.func3 rfl rfl rfl law_OrderedCertain_D_ent ⟨id, id, id, id, id, id, trivial⟩ (fun w0 => ?_)
  refine tr_seq ?_
  refine tr_region fun _ _ _ => ?_
  refine ef rfl rfl (eBox rfl rfl rfl rfl rfl (fun p0 => ?_)) 
  refine pu rfl rfl rfl rfl rfl ?_
  refine tr_seq ?_
  refine tr_seq ?_
  refine tr_region fun _ _ _ => ?_
  refine st rfl rfl rfl rfl (rLdS rfl rfl rfl) ?_
  refine ef rfl rfl (eCall0 rfl rfl rfl (law42_fewC p m A c mod hl9 w Aa n ca rs hn h9b h8) ⟨rfl, trivial⟩ ?_) 
  rintro _ ⟨b, rfl, hb⟩
  refine st rfl rfl rfl rfl (rNotB rfl rfl) ?_
  refine tr_cond_bool rfl (fun h1 => ?_) (fun h1 => ?_)
  · try simp only [zbA] at h1
    refine tr_seq ?_
    refine tr_region fun _ _ _ => ?_
    refine pu rfl rfl rfl rfl rfl ?_
    exact tr_ret ⟨trivial, _, _, rfl, ⟨rfl, rfl⟩, CSub.nil _, trivial⟩
  · try simp only [zbA] at h1
    refine tr_skip ?_
    refine tr_seq ?_
    refine tr_region fun _ _ _ => ?_
    refine st rfl rfl rfl rfl (rLdS rfl rfl rfl) ?_
    iterate 3 refine pu rfl rfl rfl rfl rfl ?_
    refine ef rfl rfl (eCallV rfl rfl rfl (ord_CertD p m A c mod w Aa n ca rs hn h9c hc T nt ct ts hnt t9 t8 ho X nx cx l hnx hl d hw hm hd) ⟨rfl, rfl, rfl, rfl, trivial⟩ ?_) 
    iterate 5 refine pu rfl rfl rfl rfl rfl ?_
    refine tr_seq ?_
    refine tr_region fun _ _ _ => ?_
    refine st rfl rfl rfl rfl (rLdS rfl rfl rfl) ?_
    refine pu rfl rfl rfl rfl rfl ?_
    refine ef rfl rfl (eCallV rfl rfl rfl (ref_OCheck p m A c mod w Aa n ca rs hn h9c hc T nt ct ts hnt t9 t8) ⟨rfl, rfl, trivial⟩ ?_) 
    refine pu rfl rfl rfl rfl rfl ?_
    refine tr_seq ?_
    refine tr_seq ?_
    refine tr_region fun _ _ _ => ?_
    iterate 2 refine pu rfl rfl rfl rfl rfl ?_
    refine tr_cond_bool rfl (fun h5 => ?_) (fun h5 => ?_)
    · try simp only [zbA] at h5
      refine tr_region fun _ _ _ => ?_
      refine st rfl rfl rfl rfl (rLdS rfl rfl rfl) ?_
      refine pu rfl rfl rfl rfl rfl ?_
      refine ef rfl rfl (eCallV rfl rfl rfl (ref_CWordC p m A c mod w Aa n ca rs hn h9c hc X nx cx l hnx hl) ⟨rfl, rfl, trivial⟩ ?_) 
      refine pu rfl rfl rfl rfl rfl ?_
      refine tr_seq ?_
      refine tr_seq ?_
      refine tr_region fun _ _ _ => ?_
      iterate 2 refine pu rfl rfl rfl rfl rfl ?_
      refine tr_cond_bool rfl (fun h7 => ?_) (fun h7 => ?_)
      · try simp only [zbA] at h7
        refine tr_seq ?_
        refine tr_region fun _ _ _ => ?_
        refine st rfl rfl rfl rfl (rLdS rfl rfl rfl) ?_
        refine pu rfl rfl rfl rfl rfl ?_
        refine ef rfl rfl (eCallV rfl rfl rfl (ref_CHas p m A c mod w Aa n ca rs hn h9c hc X nx cx l hnx hlw hin) ⟨rfl, rfl, trivial⟩ ?_) 
        iterate 5 refine pu rfl rfl rfl rfl rfl ?_
        refine tr_seq ?_
        refine tr_region fun _ _ _ => ?_
        refine pu rfl rfl rfl rfl rfl ?_
        refine st rfl rfl rfl rfl (rNotB rfl rfl) ?_
        refine tr_cond_bool rfl (fun h9 => ?_) (fun h9 => ?_)
        · try simp only [zbA] at h9
          rw [hm] at h9; simp at h9 --done
        · try simp only [zbA] at h9
          refine tr_skip ?_
          refine tr_seq ?_
          refine tr_seq ?_
          refine tr_region fun _ _ _ => ?_
          iterate 3 refine pu rfl rfl rfl rfl rfl ?_
          refine stg rfl rfl rfl rfl rfl (fun hb => by (have hq := hb; try simp only [zbA] at hq); exact rMove rfl rfl) ?_
          refine stg rfl rfl rfl rfl rfl (fun hb => by (have hq := hb; try simp only [zbA] at hq); exact rLss rfl (evg rfl hb) rfl) ?_
          refine stg rfl rfl rfl rfl rfl (fun hb => by (have hq := hb; try simp only [zbA] at hq); exact rMove rfl (evg rfl hb)) ?_
          refine stg2 rfl rfl rfl rfl rfl (fun hb => by (have hq := hb; try simp only [zbA] at hq); exact rMove rfl rfl) ?_
          refine stg2 rfl rfl rfl rfl rfl (fun hb => by (have hq := hb; try simp only [zbA] at hq); exact rFld rfl rfl) ?_
          refine stg2 rfl rfl rfl rfl rfl (fun hb => by (have hq := hb; try simp only [zbA] at hq); exact rLdF rfl (evg rfl hb) rfl) ?_
          refine stg2 rfl rfl rfl rfl rfl (fun hb => by (have hq := hb; try simp only [zbA] at hq); exact rGtr rfl (evg rfl hb) (evg rfl hb)) ?_
          refine stg rfl rfl rfl rfl rfl (fun hb => by (have hq := hb; try simp only [zbA] at hq); exact rOrB rfl (evg rfl hb) rfl (evgp rfl hb)) ?_
          refine st rfl rfl rfl rfl (rAndB rfl rfl rfl rfl) ?_
          refine tr_cond_bool rfl (fun h11 => ?_) (fun h11 => ?_)
          · try simp only [zbA] at h11
            refine tr_region fun _ _ _ => ?_
            refine pu rfl rfl rfl rfl rfl ?_
            refine tr_seq ?_
            refine tr_seq ?_
            refine tr_region fun _ _ _ => ?_
            iterate 2 refine pu rfl rfl rfl rfl rfl ?_
            refine tr_cond_bool rfl (fun h13 => ?_) (fun h13 => ?_)
            · try simp only [zbA] at h13
              refine tr_seq ?_
              refine tr_region fun _ _ _ => ?_
              iterate 4 refine pu rfl rfl rfl rfl rfl ?_
              refine stg rfl rfl rfl rfl rfl (fun hb => by (have hq := hb; try simp only [zbA] at hq); exact rMove rfl rfl) ?_
              refine stg rfl rfl rfl rfl rfl (fun hb => by (have hq := hb; try simp only [zbA] at hq); exact rNotB rfl (evg rfl hb)) ?_
              refine st rfl rfl rfl rfl (rAndB rfl rfl rfl rfl) ?_
              refine pu rfl rfl rfl rfl rfl ?_
              exact tr_ret ⟨trivial, _, _, rfl, ⟨by simp, rfl⟩, CSub.nil _, trivial⟩
            · try simp only [zbA] at h13
              first | omega | (simp at h13; omega) | (simp at h13) --done
          · try simp only [zbA] at h11
            first | omega | (simp at h11; omega) | (simp at h11) --done
      · try simp only [zbA] at h7
        first | omega | (simp at h7; omega) | (simp at h7) --done
    · try simp only [zbA] at h5
      first | omega | (simp at h5; omega) | (simp at h5) --done
theorem law_OrderedCertain_G_ent : Enters Tryz.prog 3 := enters_of Tryz.func3 (by kernel_rfl) (by kernel_rfl)
theorem law_OrderedCertain_G (p m : Int) (A : Option Addr) (c : Nat) (mod : List Int) [hF : IsF p m mod] (w : Int) (Aa : Option Addr) (n ca : Nat) (rs : List RowM) (hn : n = rs.length) (h9 : rs.length ≤ 256) (hc : CodeOk p m mod w rs) (hl9 : mod.length ≤ 17592186044415) (h9b : rs.length ≤ 17592186044415) (h8 : ∀ r ∈ rs, r.xs.length ≤ 17592186044415) (T : Option Addr) (nt ct : Nat) (ts : List RowM) (hnt : nt = ts.length) (t9 : ts.length ≤ 17592186044415) (t8 : ∀ r ∈ ts, r.xs.length ≤ 17592186044415) (ho : ordC (pw p m) w (xss ts) = 0) (X : Option Addr) (nx cx : Nat) (l : List Int) (hnx : nx = l.length) (hl : l.length ≤ 17592186044415) (d : Int) (hw : wordC (pw p m) w l = 0) (hm : memB p m mod rs l = true) (hd1 : 1 ≤ d) (hd2 : d ≤ w) :
    Pure Tryz.prog 3 #[.agg #[.int .i64 p, .int .i64 m, .slice A mod.length c, .int .i64 w, .slice Aa n ca], .slice T nt ct, .slice X nx cx, .int .i64 d] [ro A (ints mod), ro Aa (hdrs rs), rowsR rs, ro T (hdrs ts), rowsR ts, ro X (ints l)] (isV (.bool true)) := by
  have h9c := h9
  have hq2 := hF.q2
  have htab := ordC_zero ho
  have htl := htab.len
  have hq256 := hF.out.1.1.q
  have hn64 := hc.n64
  obtain ⟨hlw, hin⟩ := wordC_zero hw
  refine pure_of (args := [.agg #[.int .i64 p, .int .i64 m, .slice A mod.length c, .int .i64 w, .slice Aa n ca], .slice T nt ct, .slice X nx cx, .int .i64 d]) 74 Tryz.func3 rfl rfl rfl law_OrderedCertain_G_ent ⟨id, id, id, id, id, id, trivial⟩ (fun w0 => ?_)
  refine tr_seq ?_
  refine tr_region fun _ _ _ => ?_
  refine ef rfl rfl (eBox rfl rfl rfl rfl rfl (fun p0 => ?_)) 
  refine pu rfl rfl rfl rfl rfl ?_
  refine tr_seq ?_
  refine tr_seq ?_
  refine tr_region fun _ _ _ => ?_
  refine st rfl rfl rfl rfl (rLdS rfl rfl rfl) ?_
  refine ef rfl rfl (eCall0 rfl rfl rfl (law42_fewC p m A c mod hl9 w Aa n ca rs hn h9b h8) ⟨rfl, trivial⟩ ?_) 
  rintro _ ⟨b, rfl, hb⟩
  refine st rfl rfl rfl rfl (rNotB rfl rfl) ?_
  refine tr_cond_bool rfl (fun h1 => ?_) (fun h1 => ?_)
  · try simp only [zbA] at h1
    refine tr_seq ?_
    refine tr_region fun _ _ _ => ?_
    refine pu rfl rfl rfl rfl rfl ?_
    exact tr_ret ⟨trivial, _, _, rfl, ⟨rfl, rfl⟩, CSub.nil _, trivial⟩
  · try simp only [zbA] at h1
    refine tr_skip ?_
    refine tr_seq ?_
    refine tr_region fun _ _ _ => ?_
    refine st rfl rfl rfl rfl (rLdS rfl rfl rfl) ?_
    iterate 3 refine pu rfl rfl rfl rfl rfl ?_
    refine ef rfl rfl (eCallV rfl rfl rfl (ord_CertG p m A c mod w Aa n ca rs hn h9c hc T nt ct ts hnt t9 t8 ho X nx cx l hnx hl d hw hm hd1 hd2) ⟨rfl, rfl, rfl, rfl, trivial⟩ ?_) 
    iterate 5 refine pu rfl rfl rfl rfl rfl ?_
    refine tr_seq ?_
    refine tr_region fun _ _ _ => ?_
    refine st rfl rfl rfl rfl (rLdS rfl rfl rfl) ?_
    refine pu rfl rfl rfl rfl rfl ?_
    refine ef rfl rfl (eCallV rfl rfl rfl (ref_OCheck p m A c mod w Aa n ca rs hn h9c hc T nt ct ts hnt t9 t8) ⟨rfl, rfl, trivial⟩ ?_) 
    refine pu rfl rfl rfl rfl rfl ?_
    refine tr_seq ?_
    refine tr_seq ?_
    refine tr_region fun _ _ _ => ?_
    iterate 2 refine pu rfl rfl rfl rfl rfl ?_
    refine tr_cond_bool rfl (fun h5 => ?_) (fun h5 => ?_)
    · try simp only [zbA] at h5
      refine tr_region fun _ _ _ => ?_
      refine st rfl rfl rfl rfl (rLdS rfl rfl rfl) ?_
      refine pu rfl rfl rfl rfl rfl ?_
      refine ef rfl rfl (eCallV rfl rfl rfl (ref_CWordC p m A c mod w Aa n ca rs hn h9c hc X nx cx l hnx hl) ⟨rfl, rfl, trivial⟩ ?_) 
      refine pu rfl rfl rfl rfl rfl ?_
      refine tr_seq ?_
      refine tr_seq ?_
      refine tr_region fun _ _ _ => ?_
      iterate 2 refine pu rfl rfl rfl rfl rfl ?_
      refine tr_cond_bool rfl (fun h7 => ?_) (fun h7 => ?_)
      · try simp only [zbA] at h7
        refine tr_seq ?_
        refine tr_region fun _ _ _ => ?_
        refine st rfl rfl rfl rfl (rLdS rfl rfl rfl) ?_
        refine pu rfl rfl rfl rfl rfl ?_
        refine ef rfl rfl (eCallV rfl rfl rfl (ref_CHas p m A c mod w Aa n ca rs hn h9c hc X nx cx l hnx hlw hin) ⟨rfl, rfl, trivial⟩ ?_) 
        iterate 5 refine pu rfl rfl rfl rfl rfl ?_
        refine tr_seq ?_
        refine tr_region fun _ _ _ => ?_
        refine pu rfl rfl rfl rfl rfl ?_
        refine st rfl rfl rfl rfl (rNotB rfl rfl) ?_
        refine tr_cond_bool rfl (fun h9 => ?_) (fun h9 => ?_)
        · try simp only [zbA] at h9
          rw [hm] at h9; simp at h9 --done
        · try simp only [zbA] at h9
          refine tr_skip ?_
          refine tr_seq ?_
          refine tr_seq ?_
          refine tr_region fun _ _ _ => ?_
          iterate 3 refine pu rfl rfl rfl rfl rfl ?_
          refine stg rfl rfl rfl rfl rfl (fun hb => by (have hq := hb; try simp only [zbA] at hq); exact rMove rfl rfl) ?_
          refine stg rfl rfl rfl rfl rfl (fun hb => by (have hq := hb; try simp only [zbA] at hq); exact rLss rfl (evg rfl hb) rfl) ?_
          refine stg rfl rfl rfl rfl rfl (fun hb => by (have hq := hb; try simp only [zbA] at hq); exact rMove rfl (evg rfl hb)) ?_
          refine stg2 rfl rfl rfl rfl rfl (fun hb => by (have hq := hb; try simp only [zbA] at hq); exact rMove rfl rfl) ?_
          refine stg2 rfl rfl rfl rfl rfl (fun hb => by (have hq := hb; try simp only [zbA] at hq); exact rFld rfl rfl) ?_
          refine stg2 rfl rfl rfl rfl rfl (fun hb => by (have hq := hb; try simp only [zbA] at hq); exact rLdF rfl (evg rfl hb) rfl) ?_
          refine stg2 rfl rfl rfl rfl rfl (fun hb => by (have hq := hb; try simp only [zbA] at hq); exact rGtr rfl (evg rfl hb) (evg rfl hb)) ?_
          refine stg rfl rfl rfl rfl rfl (fun hb => by (have hq := hb; try simp only [zbA] at hq); exact rOrB rfl (evg rfl hb) rfl (evgp rfl hb)) ?_
          refine st rfl rfl rfl rfl (rAndB rfl rfl rfl rfl) ?_
          refine tr_cond_bool rfl (fun h11 => ?_) (fun h11 => ?_)
          · try simp only [zbA] at h11
            first | omega | (exact absurd h11.1 (by omega)) | (simp at h11; omega) | (simp at h11) --done
          · try simp only [zbA] at h11
            refine tr_skip ?_
            refine tr_seq ?_
            refine tr_seq ?_
            refine tr_region fun _ _ _ => ?_
            iterate 2 refine pu rfl rfl rfl rfl rfl ?_
            refine tr_cond_bool rfl (fun h13 => ?_) (fun h13 => ?_)
            · try simp only [zbA] at h13
              first | omega | (exact absurd h13.1 (by omega)) | (simp at h13; omega) | (simp at h13) --done
            · try simp only [zbA] at h13
              refine tr_skip ?_
              refine tr_seq ?_
              refine tr_region fun _ _ _ => ?_
              iterate 3 refine pu rfl rfl rfl rfl rfl ?_
              refine stT rfl rfl rfl (by simp) rfl rfl (rMove rfl rfl) ?_
              refine stT rfl rfl rfl (by simp) rfl rfl (rMove rfl rfl) ?_
              refine stT rfl rfl rfl (by simp) rfl rfl (rMove rfl rfl) ?_
              refine stT rfl rfl rfl (by simp) rfl rfl (rMove rfl rfl) ?_
              refine efT rfl rfl rfl (by simp) (eCallV rfl rfl rfl (ref_OCert T nt ct ts hnt (pw p m) hq2 hq256 (by omega) htab.row X nx cx l hnx (by omega) hin d hd1 (by omega)) ⟨rfl, rfl, rfl, trivial⟩ ?_) 
              refine stT rfl rfl rfl (by simp) rfl rfl (rBEql rfl rfl rfl) ?_
              refine st rfl rfl rfl rfl (rPick1 rfl rfl (by simp) rfl) ?_
              refine pu rfl rfl rfl rfl rfl ?_
              exact tr_ret ⟨trivial, _, _, rfl, ⟨by simp, rfl⟩, CSub.nil _, trivial⟩
      · try simp only [zbA] at h7
        first | omega | (simp at h7; omega) | (simp at h7) --done
    · try simp only [zbA] at h5
      first | omega | (simp at h5; omega) | (simp at h5) --done
theorem law_OrderedCertain (p m : Int) (A : Option Addr) (c : Nat) (mod : List Int) (hl9 : mod.length ≤ 17592186044415) (w : Int) (Aa : Option Addr) (n ca : Nat) (rs : List RowM) (hn : n = rs.length) (h9 : rs.length ≤ 17592186044415) (h8 : ∀ r ∈ rs, r.xs.length ≤ 17592186044415) (T : Option Addr) (nt ct : Nat) (ts : List RowM) (hnt : nt = ts.length) (t9 : ts.length ≤ 17592186044415) (t8 : ∀ r ∈ ts, r.xs.length ≤ 17592186044415) (X : Option Addr) (nx cx : Nat) (l : List Int) (hnx : nx = l.length) (hl : l.length ≤ 17592186044415) (d : Int) : Pure Tryz.prog 3 #[.agg #[.int .i64 p, .int .i64 m, .slice A mod.length c, .int .i64 w, .slice Aa n ca], .slice T nt ct, .slice X nx cx, .int .i64 d] [ro A (ints mod), ro Aa (hdrs rs), rowsR rs, ro T (hdrs ts), rowsR ts, ro X (ints l)] (isV (.bool true)) := by
  by_cases he : codC p m mod w rs = 0
  · obtain ⟨hF0, hc⟩ := codC_zero he
    haveI hF : IsF p m mod := ⟨hF0⟩
    have hlen := hc.len
    by_cases ho : ordC (pw p m) w (xss ts) = 0
    · by_cases hw : wordC (pw p m) w l = 0
      · cases hm : memB p m mod rs l with
        | false => exact law_OrderedCertain_N p m A c mod w Aa n ca rs hn (by omega) hc hl9 h9 h8 T nt ct ts hnt t9 t8 ho X nx cx l hnx hl d hw hm
        | true =>
          by_cases hd : d < 1 ∨ d > w
          · exact law_OrderedCertain_D p m A c mod w Aa n ca rs hn (by omega) hc hl9 h9 h8 T nt ct ts hnt t9 t8 ho X nx cx l hnx hl d hw hm hd
          · exact law_OrderedCertain_G p m A c mod w Aa n ca rs hn (by omega) hc hl9 h9 h8 T nt ct ts hnt t9 t8 ho X nx cx l hnx hl d hw hm (by omega) (by omega)
      · exact law_OrderedCertain_W p m A c mod w Aa n ca rs hn (by omega) hc hl9 h9 h8 T nt ct ts hnt t9 t8 ho X nx cx l hnx hl d hw
    · exact law_OrderedCertain_R p m A c mod w Aa n ca rs hn (by omega) hc hl9 h9 h8 T nt ct ts hnt t9 t8 ho X nx cx l hnx hl d
  · exact law_OrderedCertain_E p m A c mod hl9 w Aa n ca rs hn h9 h8 T nt ct ts hnt t9 t8 X nx cx l hnx hl d he
end Go.Proofs.YtoalphamojhpcaaGreat

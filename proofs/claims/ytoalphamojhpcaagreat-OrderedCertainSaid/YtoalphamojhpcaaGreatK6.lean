/-
  ORDEREDCERTAIN, PART 6 OF 9. One sentence: the texts behind the law OrderedCertain, put together.
  Conditions: each theorem's own, written out in it.
-/
import Derived.Test.YtoalphamojhpcaaGreatK5
set_option linter.unusedSimpArgs false
set_option linter.unusedVariables false
set_option linter.unusedSectionVars false
set_option linter.unusedSimpArgs false
set_option linter.unusedVariables false
set_option maxRecDepth 100000
namespace Go.Proofs.YtoalphamojhpcaaGreat
open Go.RowKit
def RowOk (q : Int) (r : List Int) : Prop := (r.length : Int) = q ∧ ∀ x ∈ r, 0 ≤ x ∧ x ≤ 2147483648
theorem ordR_ok {q : Int} : ∀ {tb : List (List Int)}, (∀ r ∈ tb, RowOk q r) → ordR q tb = 0
  | [], _ => rfl
  | r :: tb, h => by
    have h1 := h r (List.mem_cons_self ..)
    rw [ordR, if_neg (fun k => k h1.1), if_neg (fun ⟨x, hx, hb⟩ => by have := h1.2 x hx; omega)]
    exact ordR_ok fun s hs => h s (List.mem_cons_of_mem _ hs)
theorem ordR_bad {q : Int} : ∀ {tb : List (List Int)} {k : Nat}, k < tb.length → (∀ j, j < k → RowOk q (tb.getD j [])) → ¬ RowOk q (tb.getD k []) → ordR q tb = if ((tb.getD k []).length : Int) ≠ q then 3 else 6
  | r :: tb, 0, _, _, h => by
    rw [List.getD_cons_zero] at h ⊢
    rw [ordR]
    by_cases h1 : (r.length : Int) = q
    · have hn : ¬ ((r.length : Int) ≠ q) := fun k => k h1
      rw [if_neg hn, if_neg hn, if_pos]
      refine Classical.byContradiction fun hno => h ⟨h1, fun x hx => ?_⟩
      have : ¬ (x < 0 ∨ x > 2147483648) := fun hb => hno ⟨x, hx, hb⟩
      omega
    · rw [if_pos h1, if_pos h1]
  | r :: tb, k + 1, hk, hall, h => by
    have h1 := hall 0 (by omega)
    rw [List.getD_cons_zero] at h1
    rw [List.getD_cons_succ] at h ⊢
    rw [ordR, if_neg (fun k => k h1.1), if_neg (fun ⟨x, hx, hb⟩ => by have := h1.2 x hx; omega)]
    exact ordR_bad (by simpa using hk) (fun j hj => by
      have := hall (j + 1) (by omega)
      rwa [List.getD_cons_succ] at this) h
def ordC (q w : Int) (tb : List (List Int)) : Int := if (tb.length : Int) ≠ w then 3 else ordR q tb
theorem ordC_len {q w : Int} {tb : List (List Int)} (h : (tb.length : Int) ≠ w) : ordC q w tb = 3 := if_pos h
theorem ordC_ok {q w : Int} {ts : List RowM} (h : (ts.length : Int) = w) (h1 : ∀ j : Nat, j < ts.length → RowOk q (ts.getD j rowD).xs) : ordC q w (xss ts) = 0 := by
  unfold ordC
  rw [xss_length, if_neg (fun k => k h)]
  exact ordR_ok (xss_get fun j hj => h1 j hj)
theorem ordC_bad {q w : Int} {ts : List RowM} (h : (ts.length : Int) = w) {k : Nat} (hk : k < ts.length) (hall : ∀ j : Nat, j < k → RowOk q (ts.getD j rowD).xs) (hb : ¬ RowOk q (ts.getD k rowD).xs) : ordC q w (xss ts) = if ((ts.getD k rowD).xs.length : Int) ≠ q then 3 else 6 := by
  unfold ordC
  rw [xss_length, if_neg (fun k => k h), ordR_bad (k := k) (by rw [xss_length]; exact hk) (fun j hj => by rw [xss_getD]; exact hall j hj) (by rw [xss_getD]; exact hb), xss_getD]
structure TabOk (q w : Int) (ts : List RowM) : Prop where
  len : (ts.length : Int) = w
  row : ∀ r ∈ ts, RowOk q r.xs
theorem ordC_zero {q w : Int} {ts : List RowM} (h : ordC q w (xss ts) = 0) : TabOk q w ts := by
  unfold ordC at h
  split at h
  · cases h
  · rename_i h1
    have h2 := ordR_zero h
    exact ⟨by rw [xss_length] at h1; omega, xss_all.1 fun r hr => h2 r hr⟩
theorem TabOk.zero {q w : Int} {ts : List RowM} (h : TabOk q w ts) : ordC q w (xss ts) = 0 := ordC_ok h.len fun j hj => h.row _ (getD_mem hj _)
theorem TabOk.get {q w : Int} {ts : List RowM} (h : TabOk q w ts) {j : Nat} (hj : j < ts.length) : RowOk q (ts.getD j rowD).xs := h.row _ (getD_mem hj _)
theorem RowOk.at {q : Int} {r : List Int} (h : RowOk q r) (j : Nat) : 0 ≤ r.getD j 0 ∧ r.getD j 0 ≤ 2147483648 := by
  by_cases hj : j < r.length
  · exact h.2 _ (getD_mem hj _)
  · rw [getD_out (by omega)]; omega
theorem ord_checkedE_ent : Enters Tryz.prog 31 := enters_of Tryz.func31 (by kernel_rfl) (by kernel_rfl)
theorem ord_checkedE (p m : Int) (A : Option Addr) (c : Nat) (mod : List Int) (hl9 : mod.length ≤ 17592186044415) (w : Int) (Aa : Option Addr) (n ca : Nat) (rs : List RowM) (hn : n = rs.length) (h9 : rs.length ≤ 17592186044415) (h8 : ∀ r ∈ rs, r.xs.length ≤ 17592186044415) (he : codC p m mod w rs ≠ 0) (T : Option Addr) (nt ct : Nat) (ts : List RowM) (hnt : nt = ts.length) (t9 : ts.length ≤ 17592186044415) (t8 : ∀ r ∈ ts, r.xs.length ≤ 17592186044415) :
    Pure Tryz.prog 31 #[.agg #[.int .i64 p, .int .i64 m, .slice A mod.length c, .int .i64 w, .slice Aa n ca], .slice T nt ct] [ro A (ints mod), ro Aa (hdrs rs), rowsR rs, ro T (hdrs ts), rowsR ts] (isV (.tuple #[.pointer none, .int .i64 (codC p m mod w rs)])) := by
  refine pure_of (args := [.agg #[.int .i64 p, .int .i64 m, .slice A mod.length c, .int .i64 w, .slice Aa n ca], .slice T nt ct]) 55 Tryz.func31 rfl rfl rfl ord_checkedE_ent ⟨id, id, id, id, id, trivial⟩ (fun w0 => ?_)
  refine tr_seq ?_
  refine tr_region fun _ _ _ => ?_
  refine ef rfl rfl (eBox rfl rfl rfl rfl rfl (fun p0 => ?_)) 
  iterate 2 refine pu rfl rfl rfl rfl rfl ?_
  refine tr_seq ?_
  refine tr_seq ?_
  refine tr_region fun _ _ _ => ?_
  refine st rfl rfl rfl rfl (rLdS rfl rfl rfl) ?_
  refine ef rfl rfl (eCallV rfl rfl rfl (code_Check p m A c mod hl9 w Aa n ca rs hn h9 h8) ⟨rfl, trivial⟩ ?_) 
  refine pu rfl rfl rfl rfl rfl ?_
  refine tr_seq ?_
  refine tr_region fun _ _ _ => ?_
  iterate 2 refine pu rfl rfl rfl rfl rfl ?_
  refine tr_cond_bool rfl (fun h2 => ?_) (fun h2 => ?_)
  · try simp only [zbA] at h2
    refine tr_seq ?_
    refine tr_region fun _ _ _ => ?_
    iterate 3 refine pu rfl rfl rfl rfl rfl ?_
    exact tr_ret ⟨trivial, _, _, rfl, ⟨rfl, rfl⟩, CSub.nil _, trivial⟩
  · try simp only [zbA] at h2
    omega --done
theorem ord_checkedR_ent : Enters Tryz.prog 31 := enters_of Tryz.func31 (by kernel_rfl) (by kernel_rfl)
theorem ord_checkedR (p m : Int) (A : Option Addr) (c : Nat) (mod : List Int) [hF : IsF p m mod] (w : Int) (Aa : Option Addr) (n ca : Nat) (rs : List RowM) (hn : n = rs.length) (h9 : rs.length ≤ 256) (hc : CodeOk p m mod w rs) (T : Option Addr) (nt ct : Nat) (ts : List RowM) (hnt : nt = ts.length) (t9 : ts.length ≤ 17592186044415) (t8 : ∀ r ∈ ts, r.xs.length ≤ 17592186044415) (ho : ordC (pw p m) w (xss ts) ≠ 0) :
    Pure Tryz.prog 31 #[.agg #[.int .i64 p, .int .i64 m, .slice A mod.length c, .int .i64 w, .slice Aa n ca], .slice T nt ct] [ro A (ints mod), ro Aa (hdrs rs), rowsR rs, ro T (hdrs ts), rowsR ts] (isV (.tuple #[.pointer none, .int .i64 (ordC (pw p m) w (xss ts))])) := by
  have hl9 := hF.short
  have hn1 := hc.n1
  have hn64 := hc.n64
  have hlen := hc.len
  have hgd := hc.good
  have h8 := hgd.h8 (N := 17592186044415) (by omega)
  have hck := hc.zero
  have hq2 := hF.q2
  refine pure_of (args := [.agg #[.int .i64 p, .int .i64 m, .slice A mod.length c, .int .i64 w, .slice Aa n ca], .slice T nt ct]) 55 Tryz.func31 rfl rfl rfl ord_checkedR_ent ⟨id, id, id, id, id, trivial⟩ (fun w0 => ?_)
  refine tr_seq ?_
  refine tr_region fun _ _ _ => ?_
  refine ef rfl rfl (eBox rfl rfl rfl rfl rfl (fun p0 => ?_)) 
  iterate 2 refine pu rfl rfl rfl rfl rfl ?_
  refine tr_seq ?_
  refine tr_seq ?_
  refine tr_region fun _ _ _ => ?_
  refine st rfl rfl rfl rfl (rLdS rfl rfl rfl) ?_
  refine ef rfl rfl (eCallV rfl rfl rfl (code_Check _ _ _ _ _ (by omega) w Aa _ ca rs hn (by omega) h8) ⟨rfl, trivial⟩ ?_) 
  refine pu rfl rfl rfl rfl rfl ?_
  refine tr_seq ?_
  refine tr_region fun _ _ _ => ?_
  iterate 2 refine pu rfl rfl rfl rfl rfl ?_
  refine tr_cond_bool rfl (fun h2 => ?_) (fun h2 => ?_)
  · try simp only [zbA] at h2
    omega --done
  · try simp only [zbA] at h2
    refine tr_skip ?_
    refine tr_seq ?_
    refine tr_region fun _ _ _ => ?_
    refine st rfl rfl rfl rfl (rFld rfl rfl) ?_
    refine st rfl rfl rfl rfl (rLdSF rfl rfl) ?_
    refine ef rfl rfl (eCall1 rfl rfl rfl (fld_New_ok _ _ _ _ _ (by omega) hF.out) ⟨rfl, trivial⟩ ?_) 
    rintro _ _ ⟨g, rfl, rfl, hg⟩
    iterate 5 refine pu rfl rfl rfl rfl rfl ?_
    refine tr_seq ?_
    refine tr_seq ?_
    refine tr_region fun _ _ _ => ?_
    refine pu rfl rfl rfl rfl rfl ?_
    refine st rfl rfl rfl rfl (rLen rfl rfl) ?_
    refine st rfl rfl rfl rfl (rFld rfl rfl) ?_
    refine st rfl rfl rfl rfl (rLdF rfl rfl rfl) ?_
    refine pu rfl rfl rfl rfl rfl ?_
    refine tr_cond_bool rfl (fun h5 => ?_) (fun h5 => ?_)
    · try simp only [zbA] at h5
      refine tr_seq ?_
      refine tr_region fun _ _ _ => ?_
      iterate 2 refine pu rfl rfl rfl rfl rfl ?_
      exact tr_ret ⟨trivial, _, _, rfl, ⟨by rw [ordC_len (by rw [xss_length]; omega)], rfl⟩, CSub.nil _, trivial⟩
    · try simp only [zbA] at h5
      refine tr_skip ?_
      refine tr_seq ?_
      refine tr_seq ?_
      have hgq := hg.eq
      refine tr_region fun _ _ _ => ?_
      refine pu rfl rfl rfl rfl rfl ?_
      refine st rfl rfl rfl rfl (rLen rfl rfl) ?_
      refine pu rfl rfl rfl rfl rfl ?_
      refine tr_block ?_
      refine tr_loop1 (fun (k : Int) => [(31, .int .i64 k), (7, .pointer (some g.p)), (29, .slice T nt ct), (30, .int .i64 nt)]) (fun (k : Int) => [gfN g, blk p0 27 [.int .i64 p, .int .i64 m, .slice A mod.length c, .int .i64 w, .slice Aa n ca], ro A (ints mod), ro Aa (hdrs rs), rowsR rs, ro T (hdrs ts), rowsR ts]) (fun (k : Int) => (0 ≤ k ∧ k ≤ nt) ∧ ∀ j : Nat, (j : Int) < k → RowOk (pw p m) (ts.getD j rowD).xs) (fun (k : Int) => (nt - k).toNat) (0) ⟨rfl, rfl, rfl, rfl, trivial⟩ (by first | exact cs _ _ | exact CSub.refl _) (⟨⟨by omega, by omega⟩, fun j hj => by omega⟩) (fun k hI => ?_)
      obtain ⟨⟨hk0, hk1⟩, hall⟩ := hI
      refine tr_seq ?_
      refine tr_region fun _ _ _ => ?_
      refine pu rfl rfl rfl rfl rfl ?_
      refine tr_seq ?_
      refine tr_cond_bool rfl (fun h8 => ?_) (fun h8 => ?_)
      · try simp only [zbA] at h8
        refine tr_skip ?_
        refine tr_seq ?_
        refine tr_block ?_
        refine tr_seq ?_
        haveI : InB (k : Int).toNat ts.length := ⟨by omega⟩
        have htk := t8 _ (getD_mem (show (k : Int).toNat < ts.length by omega) rowD)
        refine tr_region fun _ _ _ => ?_
        refine st rfl rfl rfl rfl (rIdxR rfl rfl rfl (by omega) (by omega) (by omega)) ?_
        refine st rfl rfl rfl rfl (rLdR rfl rfl (by omega)) ?_
        refine pu rfl rfl rfl rfl rfl ?_
        refine tr_seq ?_
        refine tr_seq ?_
        refine tr_region fun _ _ _ => ?_
        refine pu rfl rfl rfl rfl rfl ?_
        refine st rfl rfl rfl rfl (rLen rfl rfl) ?_
        refine pu rfl rfl rfl rfl rfl ?_
        refine ef rfl rfl (eCallV rfl rfl rfl (gf_Order _) ⟨rfl, trivial⟩ ?_) 
        refine pu rfl rfl rfl rfl rfl ?_
        refine tr_cond_bool rfl (fun h10 => ?_) (fun h10 => ?_)
        · try simp only [zbA] at h10
          refine tr_seq ?_
          refine tr_region fun _ _ _ => ?_
          iterate 2 refine pu rfl rfl rfl rfl rfl ?_
          have hallN : ∀ j : Nat, j < k.toNat → RowOk (pw p m) (ts.getD j rowD).xs := fun j hj => hall j (by omega)
          have hbd := ordC_bad (w := w) (by omega) (show k.toNat < ts.length by omega) hallN (fun h => by have := h.1; omega)
          rw [if_pos (by omega)] at hbd
          exact tr_ret ⟨trivial, _, _, rfl, ⟨by rw [hbd], rfl⟩, CSub.nil _, trivial⟩
        · try simp only [zbA] at h10
          refine tr_skip ?_
          refine tr_seq ?_
          refine tr_region fun _ _ _ => ?_
          refine pu rfl rfl rfl rfl rfl ?_
          refine st rfl rfl rfl rfl (rLen rfl rfl) ?_
          refine pu rfl rfl rfl rfl rfl ?_
          refine tr_block ?_
          refine tr_loop1 (fun (j : Int) => [(42, .int .i64 j), (40, .slice (ts.getD k.toNat rowD).A (ts.getD k.toNat rowD).xs.length (ts.getD k.toNat rowD).cap), (41, .int .i64 (ts.getD k.toNat rowD).xs.length), (7, .pointer (some g.p)), (29, .slice T nt ct), (30, .int .i64 nt), (31, .int .i64 k), (37, .pointer (some g.p))]) (fun (j : Int) => [gfN g, blk p0 27 [.int .i64 p, .int .i64 m, .slice A mod.length c, .int .i64 w, .slice Aa n ca], ro A (ints mod), ro Aa (hdrs rs), rowsR rs, ro T (hdrs ts), rowsR ts]) (fun (j : Int) => (0 ≤ j ∧ j ≤ (ts.getD k.toNat rowD).xs.length) ∧ ∀ i : Nat, (i : Int) < j → 0 ≤ (ts.getD k.toNat rowD).xs.getD i 0 ∧ (ts.getD k.toNat rowD).xs.getD i 0 ≤ 2147483648) (fun (j : Int) => ((ts.getD k.toNat rowD).xs.length - j).toNat) (0) ⟨rfl, rfl, rfl, rfl, rfl, rfl, rfl, rfl, trivial⟩ (by first | exact cs _ _ | exact CSub.refl _) (⟨⟨by omega, by omega⟩, fun i hi => by omega⟩) (fun j hI => ?_)
          obtain ⟨⟨hj0, hj1⟩, hall2⟩ := hI
          refine tr_seq ?_
          refine tr_region fun _ _ _ => ?_
          refine pu rfl rfl rfl rfl rfl ?_
          refine tr_seq ?_
          refine tr_cond_bool rfl (fun h13 => ?_) (fun h13 => ?_)
          · try simp only [zbA] at h13
            refine tr_skip ?_
            refine tr_seq ?_
            refine tr_block ?_
            refine tr_seq ?_
            refine tr_region fun _ _ _ => ?_
            refine st rfl rfl rfl rfl (rIdxI rfl rfl rfl (by omega) (by omega) (by omega)) ?_
            refine st rfl rfl rfl rfl (rLdI rfl rfl (by omega)) ?_
            refine pu rfl rfl rfl rfl rfl ?_
            refine tr_seq ?_
            refine tr_region fun _ _ _ => ?_
            iterate 3 refine pu rfl rfl rfl rfl rfl ?_
            refine stg rfl rfl rfl rfl rfl (fun hb => by (have hq := hb; try simp only [zbA] at hq); exact rMove rfl rfl) ?_
            refine stg rfl rfl rfl rfl rfl (fun hb => by (have hq := hb; try simp only [zbA] at hq); exact rGtr rfl (evg rfl hb) rfl) ?_
            refine st rfl rfl rfl rfl (rOrB rfl rfl rfl rfl) ?_
            refine tr_cond_bool rfl (fun h15 => ?_) (fun h15 => ?_)
            · try simp only [zbA] at h15
              refine tr_seq ?_
              refine tr_region fun _ _ _ => ?_
              iterate 2 refine pu rfl rfl rfl rfl rfl ?_
              have hallN : ∀ j : Nat, j < k.toNat → RowOk (pw p m) (ts.getD j rowD).xs := fun j hj => hall j (by omega)
              have hbd := ordC_bad (w := w) (by omega) (show k.toNat < ts.length by omega) hallN (fun h => by have := h.at j.toNat; omega)
              rw [if_neg (by omega)] at hbd
              exact tr_ret ⟨trivial, _, _, rfl, ⟨by rw [hbd], rfl⟩, CSub.nil _, trivial⟩
            · try simp only [zbA] at h15
              refine tr_skip ?_
              refine tr_region fun _ _ _ => ?_
              refine st rfl rfl rfl rfl (rAdd rfl rfl rfl (by omega) (by omega)) ?_
              refine pu rfl rfl rfl rfl rfl ?_
              refine ⟨j + 1, ⟨rfl, rfl, rfl, rfl, rfl, rfl, rfl, rfl, trivial⟩, by first | exact cs _ _ | exact CSub.refl _, ?_⟩
              refine ⟨⟨⟨by omega, by omega⟩, fun i hi => ?_⟩, by omega⟩
              by_cases he : (i : Int) = j
              · have : i = j.toNat := by omega
                subst this; omega
              · exact hall2 i (by omega)
          · try simp only [zbA] at h13
            refine tr_exit ?_
            refine tr_region fun _ _ _ => ?_
            refine st rfl rfl rfl rfl (rAdd rfl rfl rfl (by omega) (by omega)) ?_
            refine pu rfl rfl rfl rfl rfl ?_
            refine ⟨k + 1, ⟨rfl, rfl, rfl, rfl, trivial⟩, by first | exact cs _ _ | exact CSub.refl _, ?_⟩
            refine ⟨⟨⟨by omega, by omega⟩, fun j hj => ?_⟩, by omega⟩
            by_cases he : (j : Int) = k
            · have : j = k.toNat := by omega
              subst this
              exact ⟨by omega, fun x hx => by
                obtain ⟨i, hi, rfl⟩ := List.getElem_of_mem hx
                have := hall2 i (by omega)
                rwa [List.getD_eq_getElem?_getD, List.getElem?_eq_getElem hi] at this⟩
            · exact hall j (by omega)
      · try simp only [zbA] at h8
        refine tr_exit ?_
        refine tr_seq ?_
        refine tr_region fun _ _ _ => ?_
        iterate 3 refine pu rfl rfl rfl rfl rfl ?_
        exact absurd (ordC_ok (by omega) fun j hj => hall j (by omega)) ho
theorem ord_checkedG_ent : Enters Tryz.prog 31 := enters_of Tryz.func31 (by kernel_rfl) (by kernel_rfl)
theorem ord_checkedG (p m : Int) (A : Option Addr) (c : Nat) (mod : List Int) [hF : IsF p m mod] (w : Int) (Aa : Option Addr) (n ca : Nat) (rs : List RowM) (hn : n = rs.length) (h9 : rs.length ≤ 256) (hc : CodeOk p m mod w rs) (T : Option Addr) (nt ct : Nat) (ts : List RowM) (hnt : nt = ts.length) (t9 : ts.length ≤ 17592186044415) (t8 : ∀ r ∈ ts, r.xs.length ≤ 17592186044415) (ho : ordC (pw p m) w (xss ts) = 0) :
    Pure Tryz.prog 31 #[.agg #[.int .i64 p, .int .i64 m, .slice A mod.length c, .int .i64 w, .slice Aa n ca], .slice T nt ct] [ro A (ints mod), ro Aa (hdrs rs), rowsR rs, ro T (hdrs ts), rowsR ts] (one (fun v ch => ∃ g : GfM, v = .tuple #[.pointer (some g.p), .int .i64 0] ∧ ch = gfN g ∧ GOk g p m mod)) := by
  have hl9 := hF.short
  have hn1 := hc.n1
  have hn64 := hc.n64
  have hlen := hc.len
  have hgd := hc.good
  have h8 := hgd.h8 (N := 17592186044415) (by omega)
  have hck := hc.zero
  have hq2 := hF.q2
  have htl := (ordC_zero ho).len
  refine pure_of (args := [.agg #[.int .i64 p, .int .i64 m, .slice A mod.length c, .int .i64 w, .slice Aa n ca], .slice T nt ct]) 55 Tryz.func31 rfl rfl rfl ord_checkedG_ent ⟨id, id, id, id, id, trivial⟩ (fun w0 => ?_)
  refine tr_seq ?_
  refine tr_region fun _ _ _ => ?_
  refine ef rfl rfl (eBox rfl rfl rfl rfl rfl (fun p0 => ?_)) 
  iterate 2 refine pu rfl rfl rfl rfl rfl ?_
  refine tr_seq ?_
  refine tr_seq ?_
  refine tr_region fun _ _ _ => ?_
  refine st rfl rfl rfl rfl (rLdS rfl rfl rfl) ?_
  refine ef rfl rfl (eCallV rfl rfl rfl (code_Check _ _ _ _ _ (by omega) w Aa _ ca rs hn (by omega) h8) ⟨rfl, trivial⟩ ?_) 
  refine pu rfl rfl rfl rfl rfl ?_
  refine tr_seq ?_
  refine tr_region fun _ _ _ => ?_
  iterate 2 refine pu rfl rfl rfl rfl rfl ?_
  refine tr_cond_bool rfl (fun h2 => ?_) (fun h2 => ?_)
  · try simp only [zbA] at h2
    omega --done
  · try simp only [zbA] at h2
    refine tr_skip ?_
    refine tr_seq ?_
    refine tr_region fun _ _ _ => ?_
    refine st rfl rfl rfl rfl (rFld rfl rfl) ?_
    refine st rfl rfl rfl rfl (rLdSF rfl rfl) ?_
    refine ef rfl rfl (eCall1 rfl rfl rfl (fld_New_ok _ _ _ _ _ (by omega) hF.out) ⟨rfl, trivial⟩ ?_) 
    rintro _ _ ⟨g, rfl, rfl, hg⟩
    iterate 5 refine pu rfl rfl rfl rfl rfl ?_
    refine tr_seq ?_
    refine tr_seq ?_
    refine tr_region fun _ _ _ => ?_
    refine pu rfl rfl rfl rfl rfl ?_
    refine st rfl rfl rfl rfl (rLen rfl rfl) ?_
    refine st rfl rfl rfl rfl (rFld rfl rfl) ?_
    refine st rfl rfl rfl rfl (rLdF rfl rfl rfl) ?_
    refine pu rfl rfl rfl rfl rfl ?_
    refine tr_cond_bool rfl (fun h5 => ?_) (fun h5 => ?_)
    · try simp only [zbA] at h5
      omega --done
    · try simp only [zbA] at h5
      refine tr_skip ?_
      refine tr_seq ?_
      refine tr_seq ?_
      have hgq := hg.eq
      refine tr_region fun _ _ _ => ?_
      refine pu rfl rfl rfl rfl rfl ?_
      refine st rfl rfl rfl rfl (rLen rfl rfl) ?_
      refine pu rfl rfl rfl rfl rfl ?_
      refine tr_block ?_
      refine tr_loop1 (fun (k : Int) => [(31, .int .i64 k), (7, .pointer (some g.p)), (29, .slice T nt ct), (30, .int .i64 nt)]) (fun (k : Int) => [gfN g, blk p0 27 [.int .i64 p, .int .i64 m, .slice A mod.length c, .int .i64 w, .slice Aa n ca], ro A (ints mod), ro Aa (hdrs rs), rowsR rs, ro T (hdrs ts), rowsR ts]) (fun (k : Int) => (0 ≤ k ∧ k ≤ nt) ∧ ∀ j : Nat, (j : Int) < k → RowOk (pw p m) (ts.getD j rowD).xs) (fun (k : Int) => (nt - k).toNat) (0) ⟨rfl, rfl, rfl, rfl, trivial⟩ (by first | exact cs _ _ | exact CSub.refl _) (⟨⟨by omega, by omega⟩, fun j hj => by omega⟩) (fun k hI => ?_)
      obtain ⟨⟨hk0, hk1⟩, hall⟩ := hI
      refine tr_seq ?_
      refine tr_region fun _ _ _ => ?_
      refine pu rfl rfl rfl rfl rfl ?_
      refine tr_seq ?_
      refine tr_cond_bool rfl (fun h8 => ?_) (fun h8 => ?_)
      · try simp only [zbA] at h8
        refine tr_skip ?_
        refine tr_seq ?_
        refine tr_block ?_
        refine tr_seq ?_
        haveI : InB (k : Int).toNat ts.length := ⟨by omega⟩
        have htk := t8 _ (getD_mem (show (k : Int).toNat < ts.length by omega) rowD)
        refine tr_region fun _ _ _ => ?_
        refine st rfl rfl rfl rfl (rIdxR rfl rfl rfl (by omega) (by omega) (by omega)) ?_
        refine st rfl rfl rfl rfl (rLdR rfl rfl (by omega)) ?_
        refine pu rfl rfl rfl rfl rfl ?_
        refine tr_seq ?_
        refine tr_seq ?_
        refine tr_region fun _ _ _ => ?_
        refine pu rfl rfl rfl rfl rfl ?_
        refine st rfl rfl rfl rfl (rLen rfl rfl) ?_
        refine pu rfl rfl rfl rfl rfl ?_
        refine ef rfl rfl (eCallV rfl rfl rfl (gf_Order _) ⟨rfl, trivial⟩ ?_) 
        refine pu rfl rfl rfl rfl rfl ?_
        refine tr_cond_bool rfl (fun h10 => ?_) (fun h10 => ?_)
        · try simp only [zbA] at h10
          have hallN : ∀ j : Nat, j < k.toNat → RowOk (pw p m) (ts.getD j rowD).xs := fun j hj => hall j (by omega)
          have hbd := ordC_bad (w := w) (by omega) (show k.toNat < ts.length by omega) hallN (fun h => by have := h.1; omega)
          rw [if_pos (by omega)] at hbd
          omega --done
        · try simp only [zbA] at h10
          refine tr_skip ?_
          refine tr_seq ?_
          refine tr_region fun _ _ _ => ?_
          refine pu rfl rfl rfl rfl rfl ?_
          refine st rfl rfl rfl rfl (rLen rfl rfl) ?_
          refine pu rfl rfl rfl rfl rfl ?_
          refine tr_block ?_
          refine tr_loop1 (fun (j : Int) => [(42, .int .i64 j), (40, .slice (ts.getD k.toNat rowD).A (ts.getD k.toNat rowD).xs.length (ts.getD k.toNat rowD).cap), (41, .int .i64 (ts.getD k.toNat rowD).xs.length), (7, .pointer (some g.p)), (29, .slice T nt ct), (30, .int .i64 nt), (31, .int .i64 k), (37, .pointer (some g.p))]) (fun (j : Int) => [gfN g, blk p0 27 [.int .i64 p, .int .i64 m, .slice A mod.length c, .int .i64 w, .slice Aa n ca], ro A (ints mod), ro Aa (hdrs rs), rowsR rs, ro T (hdrs ts), rowsR ts]) (fun (j : Int) => (0 ≤ j ∧ j ≤ (ts.getD k.toNat rowD).xs.length) ∧ ∀ i : Nat, (i : Int) < j → 0 ≤ (ts.getD k.toNat rowD).xs.getD i 0 ∧ (ts.getD k.toNat rowD).xs.getD i 0 ≤ 2147483648) (fun (j : Int) => ((ts.getD k.toNat rowD).xs.length - j).toNat) (0) ⟨rfl, rfl, rfl, rfl, rfl, rfl, rfl, rfl, trivial⟩ (by first | exact cs _ _ | exact CSub.refl _) (⟨⟨by omega, by omega⟩, fun i hi => by omega⟩) (fun j hI => ?_)
          obtain ⟨⟨hj0, hj1⟩, hall2⟩ := hI
          refine tr_seq ?_
          refine tr_region fun _ _ _ => ?_
          refine pu rfl rfl rfl rfl rfl ?_
          refine tr_seq ?_
          refine tr_cond_bool rfl (fun h13 => ?_) (fun h13 => ?_)
          · try simp only [zbA] at h13
            refine tr_skip ?_
            refine tr_seq ?_
            refine tr_block ?_
            refine tr_seq ?_
            refine tr_region fun _ _ _ => ?_
            refine st rfl rfl rfl rfl (rIdxI rfl rfl rfl (by omega) (by omega) (by omega)) ?_
            refine st rfl rfl rfl rfl (rLdI rfl rfl (by omega)) ?_
            refine pu rfl rfl rfl rfl rfl ?_
            refine tr_seq ?_
            refine tr_region fun _ _ _ => ?_
            iterate 3 refine pu rfl rfl rfl rfl rfl ?_
            refine stg rfl rfl rfl rfl rfl (fun hb => by (have hq := hb; try simp only [zbA] at hq); exact rMove rfl rfl) ?_
            refine stg rfl rfl rfl rfl rfl (fun hb => by (have hq := hb; try simp only [zbA] at hq); exact rGtr rfl (evg rfl hb) rfl) ?_
            refine st rfl rfl rfl rfl (rOrB rfl rfl rfl rfl) ?_
            refine tr_cond_bool rfl (fun h15 => ?_) (fun h15 => ?_)
            · try simp only [zbA] at h15
              have hallN : ∀ j : Nat, j < k.toNat → RowOk (pw p m) (ts.getD j rowD).xs := fun j hj => hall j (by omega)
              have hbd := ordC_bad (w := w) (by omega) (show k.toNat < ts.length by omega) hallN (fun h => by have := h.at j.toNat; omega)
              rw [if_neg (by omega)] at hbd
              omega --done
            · try simp only [zbA] at h15
              refine tr_skip ?_
              refine tr_region fun _ _ _ => ?_
              refine st rfl rfl rfl rfl (rAdd rfl rfl rfl (by omega) (by omega)) ?_
              refine pu rfl rfl rfl rfl rfl ?_
              refine ⟨j + 1, ⟨rfl, rfl, rfl, rfl, rfl, rfl, rfl, rfl, trivial⟩, by first | exact cs _ _ | exact CSub.refl _, ?_⟩
              refine ⟨⟨⟨by omega, by omega⟩, fun i hi => ?_⟩, by omega⟩
              by_cases he : (i : Int) = j
              · have : i = j.toNat := by omega
                subst this; omega
              · exact hall2 i (by omega)
          · try simp only [zbA] at h13
            refine tr_exit ?_
            refine tr_region fun _ _ _ => ?_
            refine st rfl rfl rfl rfl (rAdd rfl rfl rfl (by omega) (by omega)) ?_
            refine pu rfl rfl rfl rfl rfl ?_
            refine ⟨k + 1, ⟨rfl, rfl, rfl, rfl, trivial⟩, by first | exact cs _ _ | exact CSub.refl _, ?_⟩
            refine ⟨⟨⟨by omega, by omega⟩, fun j hj => ?_⟩, by omega⟩
            by_cases he : (j : Int) = k
            · have : j = k.toNat := by omega
              subst this
              exact ⟨by omega, fun x hx => by
                obtain ⟨i, hi, rfl⟩ := List.getElem_of_mem hx
                have := hall2 i (by omega)
                rwa [List.getD_eq_getElem?_getD, List.getElem?_eq_getElem hi] at this⟩
            · exact hall j (by omega)
      · try simp only [zbA] at h8
        refine tr_exit ?_
        refine tr_seq ?_
        refine tr_region fun _ _ _ => ?_
        iterate 3 refine pu rfl rfl rfl rfl rfl ?_
        exact tr_ret ⟨trivial, _, _, rfl, ⟨_, rfl, g, rfl, rfl, hg⟩, cs _ _, ⟨trivial, trivial, trivial, trivial⟩, trivial⟩
theorem ref_OCheckE_ent : Enters Tryz.prog 11 := enters_of Tryz.func11 (by kernel_rfl) (by kernel_rfl)
theorem ref_OCheckE (p m : Int) (A : Option Addr) (c : Nat) (mod : List Int) (hl9 : mod.length ≤ 17592186044415) (w : Int) (Aa : Option Addr) (n ca : Nat) (rs : List RowM) (hn : n = rs.length) (h9 : rs.length ≤ 17592186044415) (h8 : ∀ r ∈ rs, r.xs.length ≤ 17592186044415) (he : codC p m mod w rs ≠ 0) (T : Option Addr) (nt ct : Nat) (ts : List RowM) (hnt : nt = ts.length) (t9 : ts.length ≤ 17592186044415) (t8 : ∀ r ∈ ts, r.xs.length ≤ 17592186044415) :
    Pure Tryz.prog 11 #[.agg #[.int .i64 p, .int .i64 m, .slice A mod.length c, .int .i64 w, .slice Aa n ca], .slice T nt ct] [ro A (ints mod), ro Aa (hdrs rs), rowsR rs, ro T (hdrs ts), rowsR ts] (isV (.int .i64 (codC p m mod w rs))) := by
  refine pure_of (args := [.agg #[.int .i64 p, .int .i64 m, .slice A mod.length c, .int .i64 w, .slice Aa n ca], .slice T nt ct]) 60 Tryz.func11 rfl rfl rfl ref_OCheckE_ent ⟨id, id, id, id, id, trivial⟩ (fun w0 => ?_)
  refine tr_seq ?_
  refine tr_region fun _ _ _ => ?_
  refine ef rfl rfl (eBox rfl rfl rfl rfl rfl (fun p0 => ?_)) 
  refine pu rfl rfl rfl rfl rfl ?_
  refine tr_seq ?_
  refine tr_region fun _ _ _ => ?_
  refine st rfl rfl rfl rfl (rLdS rfl rfl rfl) ?_
  refine ef rfl rfl (eCallV rfl rfl rfl (ref_CCheck p m A c mod hl9 w Aa n ca rs hn h9 h8) ⟨rfl, trivial⟩ ?_) 
  refine pu rfl rfl rfl rfl rfl ?_
  refine tr_seq ?_
  refine tr_seq ?_
  refine tr_region fun _ _ _ => ?_
  iterate 2 refine pu rfl rfl rfl rfl rfl ?_
  refine tr_cond_bool rfl (fun h2 => ?_) (fun h2 => ?_)
  · try simp only [zbA] at h2
    refine tr_seq ?_
    refine tr_region fun _ _ _ => ?_
    iterate 2 refine pu rfl rfl rfl rfl rfl ?_
    exact tr_ret ⟨trivial, _, _, rfl, ⟨rfl, rfl⟩, CSub.nil _, trivial⟩
  · try simp only [zbA] at h2
    omega --done
theorem ref_OCheck_ent : Enters Tryz.prog 11 := enters_of Tryz.func11 (by kernel_rfl) (by kernel_rfl)
theorem ref_OCheck (p m : Int) (A : Option Addr) (c : Nat) (mod : List Int) [hF : IsF p m mod] (w : Int) (Aa : Option Addr) (n ca : Nat) (rs : List RowM) (hn : n = rs.length) (h9 : rs.length ≤ 256) (hc : CodeOk p m mod w rs) (T : Option Addr) (nt ct : Nat) (ts : List RowM) (hnt : nt = ts.length) (t9 : ts.length ≤ 17592186044415) (t8 : ∀ r ∈ ts, r.xs.length ≤ 17592186044415) :
    Pure Tryz.prog 11 #[.agg #[.int .i64 p, .int .i64 m, .slice A mod.length c, .int .i64 w, .slice Aa n ca], .slice T nt ct] [ro A (ints mod), ro Aa (hdrs rs), rowsR rs, ro T (hdrs ts), rowsR ts] (isV (.int .i64 (ordC (pw p m) w (xss ts)))) := by
  have hl9 := hF.short
  have hn1 := hc.n1
  have hn64 := hc.n64
  have hlen := hc.len
  have hgd := hc.good
  have h8 := hgd.h8 (N := 17592186044415) (by omega)
  have hck := hc.zero
  have hq2 := hF.q2
  have hgq := hF.ord
  refine pure_of (args := [.agg #[.int .i64 p, .int .i64 m, .slice A mod.length c, .int .i64 w, .slice Aa n ca], .slice T nt ct]) 60 Tryz.func11 rfl rfl rfl ref_OCheck_ent ⟨id, id, id, id, id, trivial⟩ (fun w0 => ?_)
  refine tr_seq ?_
  refine tr_region fun _ _ _ => ?_
  refine ef rfl rfl (eBox rfl rfl rfl rfl rfl (fun p0 => ?_)) 
  refine pu rfl rfl rfl rfl rfl ?_
  refine tr_seq ?_
  refine tr_region fun _ _ _ => ?_
  refine st rfl rfl rfl rfl (rLdS rfl rfl rfl) ?_
  refine ef rfl rfl (eCallV rfl rfl rfl (ref_CCheck _ _ _ _ _ (by omega) w Aa _ ca rs hn (by omega) h8) ⟨rfl, trivial⟩ ?_) 
  refine pu rfl rfl rfl rfl rfl ?_
  refine tr_seq ?_
  refine tr_seq ?_
  refine tr_region fun _ _ _ => ?_
  iterate 2 refine pu rfl rfl rfl rfl rfl ?_
  refine tr_cond_bool rfl (fun h2 => ?_) (fun h2 => ?_)
  · try simp only [zbA] at h2
    omega --done
  · try simp only [zbA] at h2
    refine tr_skip ?_
    refine tr_seq ?_
    refine tr_seq ?_
    refine tr_region fun _ _ _ => ?_
    refine pu rfl rfl rfl rfl rfl ?_
    refine st rfl rfl rfl rfl (rLen rfl rfl) ?_
    refine st rfl rfl rfl rfl (rFld rfl rfl) ?_
    refine st rfl rfl rfl rfl (rLdF rfl rfl rfl) ?_
    refine pu rfl rfl rfl rfl rfl ?_
    refine tr_cond_bool rfl (fun h4 => ?_) (fun h4 => ?_)
    · try simp only [zbA] at h4
      refine tr_seq ?_
      refine tr_region fun _ _ _ => ?_
      refine pu rfl rfl rfl rfl rfl ?_
      exact tr_ret ⟨trivial, _, _, rfl, ⟨by rw [ordC_len (by rw [xss_length]; omega)], rfl⟩, CSub.nil _, trivial⟩
    · try simp only [zbA] at h4
      refine tr_skip ?_
      refine tr_seq ?_
      refine tr_seq ?_
      refine tr_region fun _ _ _ => ?_
      refine pu rfl rfl rfl rfl rfl ?_
      refine tr_block ?_
      refine tr_loop1 (fun (k : Int) => [(6, .int .i64 k), (1, .slice T nt ct), (2, .pointer (some p0))]) (fun (k : Int) => [blk p0 27 [.int .i64 p, .int .i64 m, .slice A mod.length c, .int .i64 w, .slice Aa n ca], ro A (ints mod), ro Aa (hdrs rs), rowsR rs, ro T (hdrs ts), rowsR ts]) (fun (k : Int) => (0 ≤ k ∧ k ≤ nt) ∧ ∀ j : Nat, (j : Int) < k → RowOk (pw p m) (ts.getD j rowD).xs) (fun (k : Int) => (nt - k).toNat) (0) ⟨rfl, rfl, rfl, trivial⟩ (by first | exact cs _ _ | exact CSub.refl _) (⟨⟨by omega, by omega⟩, fun j hj => by omega⟩) (fun k hI => ?_)
      obtain ⟨⟨hk0, hk1⟩, hall⟩ := hI
      refine tr_seq ?_
      refine tr_seq ?_
      refine tr_region fun _ _ _ => ?_
      iterate 2 refine pu rfl rfl rfl rfl rfl ?_
      refine st rfl rfl rfl rfl (rLen rfl rfl) ?_
      refine pu rfl rfl rfl rfl rfl ?_
      refine tr_cond_bool rfl (fun h7 => ?_) (fun h7 => ?_)
      · try simp only [zbA] at h7
        refine tr_skip ?_
        refine tr_seq ?_
        refine tr_block ?_
        refine tr_seq ?_
        refine tr_seq ?_
        haveI : InB (k : Int).toNat ts.length := ⟨by omega⟩
        have htk := t8 _ (getD_mem (show (k : Int).toNat < ts.length by omega) rowD)
        refine tr_draw [0, 1, 2, 3, 4, 5, 6, 7, 8] [] mixed (by kernel_rfl) fun _ _ _ => ?_
        iterate 2 refine pu rfl rfl rfl rfl rfl ?_
        refine st rfl rfl rfl rfl (rIdxR rfl rfl rfl (by omega) (by omega) (by omega)) ?_
        refine st rfl rfl rfl rfl (rLdR rfl rfl (by omega)) ?_
        refine st rfl rfl rfl rfl (rLen rfl rfl) ?_
        refine st rfl rfl rfl rfl (rFld rfl rfl) ?_
        refine st rfl rfl rfl rfl (rLdSF rfl rfl) ?_
        refine ef rfl rfl (eCallV rfl rfl rfl (ref_order p m A c mod) ⟨rfl, trivial⟩ ?_) 
        refine pu rfl rfl rfl rfl rfl ?_
        refine tr_cond_bool rfl (fun h9 => ?_) (fun h9 => ?_)
        · try simp only [zbA] at h9
          refine tr_seq ?_
          refine tr_region fun _ _ _ => ?_
          refine pu rfl rfl rfl rfl rfl ?_
          have hallN : ∀ j : Nat, j < k.toNat → RowOk (pw p m) (ts.getD j rowD).xs := fun j hj => hall j (by omega)
          have hbd := ordC_bad (w := w) (by omega) (show k.toNat < ts.length by omega) hallN (fun h => by have := h.1; omega)
          rw [if_pos (by omega)] at hbd
          exact tr_ret ⟨trivial, _, _, rfl, ⟨by rw [hbd], rfl⟩, CSub.nil _, trivial⟩
        · try simp only [zbA] at h9
          refine tr_skip ?_
          refine tr_seq ?_
          refine tr_region fun _ _ _ => ?_
          refine pu rfl rfl rfl rfl rfl ?_
          refine tr_block ?_
          refine tr_loop1 (fun (j : Int) => [(7, .int .i64 j), (1, .slice T nt ct), (2, .pointer (some p0)), (6, .int .i64 k), (18, .int .i64 k), (19, .slice T nt ct), (20, .int .i64 nt), (24, .slice T nt ct), (25, .int .i64 k), (30, .agg #[.int .i64 p, .int .i64 m, .slice A mod.length c])]) (fun (j : Int) => [blk p0 27 [.int .i64 p, .int .i64 m, .slice A mod.length c, .int .i64 w, .slice Aa n ca], ro A (ints mod), ro Aa (hdrs rs), rowsR rs, ro T (hdrs ts), rowsR ts]) (fun (j : Int) => (0 ≤ j ∧ j ≤ (ts.getD k.toNat rowD).xs.length) ∧ ∀ i : Nat, (i : Int) < j → 0 ≤ (ts.getD k.toNat rowD).xs.getD i 0 ∧ (ts.getD k.toNat rowD).xs.getD i 0 ≤ 2147483648) (fun (j : Int) => ((ts.getD k.toNat rowD).xs.length - j).toNat) (0) ⟨rfl, rfl, rfl, rfl, rfl, rfl, rfl, rfl, rfl, rfl, trivial⟩ (by first | exact cs _ _ | exact CSub.refl _) (⟨⟨by omega, by omega⟩, fun i hi => by omega⟩) (fun j hI => ?_)
          obtain ⟨⟨hj0, hj1⟩, hall2⟩ := hI
          refine tr_seq ?_
          refine tr_seq ?_
          haveI : InB (k : Int).toNat ts.length := ⟨by omega⟩
          have htk := t8 _ (getD_mem (show (k : Int).toNat < ts.length by omega) rowD)
          refine tr_region fun _ _ _ => ?_
          iterate 3 refine pu rfl rfl rfl rfl rfl ?_
          refine st rfl rfl rfl rfl (rIdxR rfl rfl rfl (by omega) (by omega) (by omega)) ?_
          refine st rfl rfl rfl rfl (rLdR rfl rfl (by omega)) ?_
          refine st rfl rfl rfl rfl (rLen rfl rfl) ?_
          refine pu rfl rfl rfl rfl rfl ?_
          refine tr_cond_bool rfl (fun h12 => ?_) (fun h12 => ?_)
          · try simp only [zbA] at h12
            refine tr_skip ?_
            refine tr_seq ?_
            refine tr_block ?_
            refine tr_seq ?_
            haveI : InB (k : Int).toNat ts.length := ⟨by omega⟩
            have htk := t8 _ (getD_mem (show (k : Int).toNat < ts.length by omega) rowD)
            refine tr_region fun _ _ _ => ?_
            iterate 2 refine pu rfl rfl rfl rfl rfl ?_
            refine st rfl rfl rfl rfl (rIdxR rfl rfl rfl (by omega) (by omega) (by omega)) ?_
            refine st rfl rfl rfl rfl (rLdR rfl rfl (by omega)) ?_
            refine pu rfl rfl rfl rfl rfl ?_
            refine st rfl rfl rfl rfl (rIdxI rfl rfl rfl (by omega) (by omega) (by omega)) ?_
            refine st rfl rfl rfl rfl (rLdI rfl rfl (by omega)) ?_
            iterate 2 refine pu rfl rfl rfl rfl rfl ?_
            refine stg rfl rfl rfl rfl rfl (fun hb => by (have hq := hb; try simp only [zbA] at hq); exact rMove rfl rfl) ?_
            refine stg rfl rfl rfl rfl rfl (fun hb => by (have hq := hb; try simp only [zbA] at hq); exact rMove rfl rfl) ?_
            refine stg rfl rfl rfl rfl rfl (fun hb => by (have hq := hb; try simp only [zbA] at hq); exact rIdxR rfl (evg rfl hb) (evg rfl hb) (by omega) (by omega) (by omega)) ?_
            refine stg rfl rfl rfl rfl rfl (fun hb => by (have hq := hb; try simp only [zbA] at hq); exact rLdR rfl (evg rfl hb) (by omega)) ?_
            refine stg rfl rfl rfl rfl rfl (fun hb => by (have hq := hb; try simp only [zbA] at hq); exact rMove rfl rfl) ?_
            refine stg rfl rfl rfl rfl rfl (fun hb => by (have hq := hb; try simp only [zbA] at hq); exact rIdxI rfl (evg rfl hb) (evg rfl hb) (by omega) (by omega) (by omega)) ?_
            refine stg rfl rfl rfl rfl rfl (fun hb => by (have hq := hb; try simp only [zbA] at hq); exact rLdI rfl (evg rfl hb) (by omega)) ?_
            refine stg rfl rfl rfl rfl rfl (fun hb => by (have hq := hb; try simp only [zbA] at hq); exact rGtr rfl (evg rfl hb) rfl) ?_
            refine st rfl rfl rfl rfl (rOrB rfl rfl rfl rfl) ?_
            refine tr_cond_bool rfl (fun h14 => ?_) (fun h14 => ?_)
            · try simp only [zbA] at h14
              refine tr_seq ?_
              refine tr_region fun _ _ _ => ?_
              refine pu rfl rfl rfl rfl rfl ?_
              have hallN : ∀ j : Nat, j < k.toNat → RowOk (pw p m) (ts.getD j rowD).xs := fun j hj => hall j (by omega)
              have hbd := ordC_bad (w := w) (by omega) (show k.toNat < ts.length by omega) hallN (fun h => by have := h.at j.toNat; omega)
              rw [if_neg (by omega)] at hbd
              exact tr_ret ⟨trivial, _, _, rfl, ⟨by rw [hbd], rfl⟩, CSub.nil _, trivial⟩
            · try simp only [zbA] at h14
              refine tr_skip ?_
              refine tr_region fun _ _ _ => ?_
              refine pu rfl rfl rfl rfl rfl ?_
              refine st rfl rfl rfl rfl (rAdd rfl rfl rfl (by omega) (by omega)) ?_
              refine pu rfl rfl rfl rfl rfl ?_
              refine ⟨j + 1, ⟨rfl, rfl, rfl, rfl, rfl, rfl, rfl, rfl, rfl, rfl, trivial⟩, by first | exact cs _ _ | exact CSub.refl _, ?_⟩
              refine ⟨⟨⟨by omega, by omega⟩, fun i hi => ?_⟩, by omega⟩
              by_cases he : (i : Int) = j
              · have : i = j.toNat := by omega
                subst this; omega
              · exact hall2 i (by omega)
          · try simp only [zbA] at h12
            refine tr_exit ?_
            refine tr_region fun _ _ _ => ?_
            refine pu rfl rfl rfl rfl rfl ?_
            refine st rfl rfl rfl rfl (rAdd rfl rfl rfl (by omega) (by omega)) ?_
            refine pu rfl rfl rfl rfl rfl ?_
            refine ⟨k + 1, ⟨rfl, rfl, rfl, trivial⟩, by first | exact cs _ _ | exact CSub.refl _, ?_⟩
            refine ⟨⟨⟨by omega, by omega⟩, fun j hj => ?_⟩, by omega⟩
            by_cases he : (j : Int) = k
            · have : j = k.toNat := by omega
              subst this
              exact ⟨by omega, fun x hx => by
                obtain ⟨i, hi, rfl⟩ := List.getElem_of_mem hx
                have := hall2 i (by omega)
                rwa [List.getD_eq_getElem?_getD, List.getElem?_eq_getElem hi] at this⟩
            · exact hall j (by omega)
      · try simp only [zbA] at h7
        refine tr_exit ?_
        refine tr_seq ?_
        refine tr_region fun _ _ _ => ?_
        refine pu rfl rfl rfl rfl rfl ?_
        have hok := ordC_ok (q := pw p m) (w := w) (ts := ts) (by omega) fun j hj => hall j (by omega)
        exact tr_ret ⟨trivial, _, _, rfl, ⟨by rw [hok], rfl⟩, CSub.nil _, trivial⟩
theorem law42_few_ent : Enters Tryz.prog 9 := enters_of Tryz.func9 (by kernel_rfl) (by kernel_rfl)
theorem law42_few (p m : Int) (A : Option Addr) (c : Nat) (mod : List Int) (hl9 : mod.length ≤ 17592186044415) (w : Int) (Aa : Option Addr) (n ca : Nat) (rs : List RowM) (hn : n = rs.length) (h9 : rs.length ≤ 17592186044415) (h8 : ∀ r ∈ rs, r.xs.length ≤ 17592186044415) (hl : rs.length ≤ 64) :
    Pure Tryz.prog 9 #[.agg #[.int .i64 p, .int .i64 m, .slice A mod.length c, .int .i64 w, .slice Aa n ca]] [ro Aa (hdrs rs), rowsR rs] (val (fun v => ∃ b : Bool, v = .bool b ∧ (b = true → rs.length ≤ 64 ∧ ∀ r ∈ rs, r.xs.length ≤ 4200))) := by
  refine pure_of (args := [.agg #[.int .i64 p, .int .i64 m, .slice A mod.length c, .int .i64 w, .slice Aa n ca]]) 11 Tryz.func9 rfl rfl rfl law42_few_ent ⟨id, id, trivial⟩ (fun w0 => ?_)
  refine tr_seq ?_
  refine tr_region fun _ _ _ => ?_
  refine ef rfl rfl (eBox rfl rfl rfl rfl rfl (fun p0 => ?_)) 
  refine pu rfl rfl rfl rfl rfl ?_
  refine tr_seq ?_
  refine tr_region fun _ _ _ => ?_
  refine st rfl rfl rfl rfl (rFld rfl rfl) ?_
  refine st rfl rfl rfl rfl (rLdF rfl rfl rfl) ?_
  refine st rfl rfl rfl rfl (rLen rfl rfl) ?_
  iterate 2 refine pu rfl rfl rfl rfl rfl ?_
  refine stT rfl rfl rfl (by simp; omega) rfl rfl (rLdS rfl rfl rfl) ?_
  refine efT rfl rfl rfl (by simp; omega) (eCall0 rfl rfl rfl (ref_CFew p m A c mod hl9 w Aa n ca rs hn h9 h8) ⟨rfl, rfl, trivial⟩ ?_) 
  rintro _ ⟨b, rfl, hb⟩
  refine st rfl rfl rfl rfl (rPick1 rfl rfl (by simp; omega) rfl) ?_
  refine pu rfl rfl rfl rfl rfl ?_
  exact tr_ret ⟨trivial, _, _, rfl, ⟨rfl, b, by simp, fun h => ⟨hl, hb h⟩⟩, CSub.nil _, trivial⟩
theorem law42_few0_ent : Enters Tryz.prog 9 := enters_of Tryz.func9 (by kernel_rfl) (by kernel_rfl)
theorem law42_few0 (p m : Int) (A : Option Addr) (c : Nat) (mod : List Int) (hl9 : mod.length ≤ 17592186044415) (w : Int) (Aa : Option Addr) (n ca : Nat) (rs : List RowM) (hn : n = rs.length) (h9 : rs.length ≤ 17592186044415) (h8 : ∀ r ∈ rs, r.xs.length ≤ 17592186044415) (hl : ¬ rs.length ≤ 64) :
    Pure Tryz.prog 9 #[.agg #[.int .i64 p, .int .i64 m, .slice A mod.length c, .int .i64 w, .slice Aa n ca]] [ro Aa (hdrs rs), rowsR rs] (val (fun v => ∃ b : Bool, v = .bool b ∧ (b = true → rs.length ≤ 64 ∧ ∀ r ∈ rs, r.xs.length ≤ 4200))) := by
  refine pure_of (args := [.agg #[.int .i64 p, .int .i64 m, .slice A mod.length c, .int .i64 w, .slice Aa n ca]]) 11 Tryz.func9 rfl rfl rfl law42_few0_ent ⟨id, id, trivial⟩ (fun w0 => ?_)
  refine tr_seq ?_
  refine tr_region fun _ _ _ => ?_
  refine ef rfl rfl (eBox rfl rfl rfl rfl rfl (fun p0 => ?_)) 
  refine pu rfl rfl rfl rfl rfl ?_
  refine tr_seq ?_
  refine tr_region fun _ _ _ => ?_
  refine st rfl rfl rfl rfl (rFld rfl rfl) ?_
  refine st rfl rfl rfl rfl (rLdF rfl rfl rfl) ?_
  refine st rfl rfl rfl rfl (rLen rfl rfl) ?_
  iterate 2 refine pu rfl rfl rfl rfl rfl ?_
  refine skF rfl rfl (by simp; omega) rfl rfl ?_
  refine skF rfl rfl (by simp; omega) rfl rfl ?_
  refine st rfl rfl rfl rfl (rPick0 rfl rfl (by simp; omega) rfl) ?_
  refine pu rfl rfl rfl rfl rfl ?_
  exact tr_ret ⟨trivial, _, _, rfl, ⟨rfl, false, by simp, fun h => by cases h⟩, CSub.nil _, trivial⟩
theorem law42_fewC (p m : Int) (A : Option Addr) (c : Nat) (mod : List Int) (hl9 : mod.length ≤ 17592186044415) (w : Int) (Aa : Option Addr) (n ca : Nat) (rs : List RowM) (hn : n = rs.length) (h9 : rs.length ≤ 17592186044415) (h8 : ∀ r ∈ rs, r.xs.length ≤ 17592186044415) : Pure Tryz.prog 9 #[.agg #[.int .i64 p, .int .i64 m, .slice A mod.length c, .int .i64 w, .slice Aa n ca]] [ro Aa (hdrs rs), rowsR rs] (val (fun v => ∃ b : Bool, v = .bool b ∧ (b = true → rs.length ≤ 64 ∧ ∀ r ∈ rs, r.xs.length ≤ 4200))) := by
  by_cases hl : rs.length ≤ 64
  · exact law42_few p m A c mod hl9 w Aa n ca rs hn h9 h8 hl
  · exact law42_few0 p m A c mod hl9 w Aa n ca rs hn h9 h8 hl
def hardL (ts : List RowM) : List Int := (xss ts).map fun r => (hardI r : Int)
def relL (ts : List RowM) : List Int := (xss ts).map relI
@[simp] theorem hardL_length (ts : List RowM) : (hardL ts).length = ts.length := by simp [hardL]
@[simp] theorem relL_length (ts : List RowM) : (relL ts).length = ts.length := by simp [relL]
theorem map_take1 {α : Type} (f : List Int → α) (ts : List RowM) {k : Nat} (hk : k < ts.length) : ((xss ts).map f).take (k + 1) = ((xss ts).map f).take k ++ [f (ts.getD k rowD).xs] := by
  rw [List.take_add_one, List.getElem?_map]
  have : (xss ts)[k]? = some (ts.getD k rowD).xs := by
    rw [xss, List.getElem?_map, List.getElem?_eq_getElem hk, List.getD_eq_getElem?_getD, List.getElem?_eq_getElem hk]; rfl
  rw [this]; rfl
theorem hardL_take (ts : List RowM) {k : Nat} (hk : k < ts.length) : (hardL ts).take (k + 1) = (hardL ts).take k ++ [(hardI (ts.getD k rowD).xs : Int)] := map_take1 _ ts hk
theorem relL_take (ts : List RowM) {k : Nat} (hk : k < ts.length) : (relL ts).take (k + 1) = (relL ts).take k ++ [relI (ts.getD k rowD).xs] := map_take1 _ ts hk
theorem hardL_getD (ts : List RowM) {k : Nat} (hk : k < ts.length) : (hardL ts).getD k 0 = (hardI (ts.getD k rowD).xs : Int) := by
  rw [hardL, List.getD_eq_getElem?_getD, List.getElem?_map, xss, List.getElem?_map, List.getElem?_eq_getElem hk, List.getD_eq_getElem?_getD, List.getElem?_eq_getElem hk]; rfl
theorem relL_getD (ts : List RowM) {k : Nat} (hk : k < ts.length) : (relL ts).getD k 0 = relI (ts.getD k rowD).xs := by
  rw [relL, List.getD_eq_getElem?_getD, List.getElem?_map, xss, List.getElem?_map, List.getElem?_eq_getElem hk, List.getD_eq_getElem?_getD, List.getElem?_eq_getElem hk]; rfl
theorem amin_yes {r : List Int} {k : Nat} (h : r.getD k 0 < r.getD (amin r k) 0) : amin r (k + 1) = k := by rw [amin, if_pos h]
theorem amin_no {r : List Int} {k : Nat} (h : ¬ r.getD k 0 < r.getD (amin r k) 0) : amin r (k + 1) = amin r k := by rw [amin, if_neg h]
theorem sec_yes {r : List Int} {b k : Nat} (h : k ≠ b ∧ (sec r b k < 0 ∨ r.getD k 0 < sec r b k)) : sec r b (k + 1) = r.getD k 0 := by rw [sec, if_pos h]
theorem sec_no {r : List Int} {b k : Nat} (h : ¬ (k ≠ b ∧ (sec r b k < 0 ∨ r.getD k 0 < sec r b k))) : sec r b (k + 1) = sec r b k := by rw [sec, if_neg h]
theorem ord_hard_ent : Enters Tryz.prog 34 := enters_of Tryz.func34 (by kernel_rfl) (by kernel_rfl)
theorem ord_hard (T : Option Addr) (nt ct : Nat) (ts : List RowM) (hnt : nt = ts.length) (q : Int) (hq2 : 2 ≤ q) (hq9 : q ≤ 256) (t64 : ts.length ≤ 64) (htr : ∀ r ∈ ts, RowOk q r.xs) :
    Pure Tryz.prog 34 #[.slice T nt ct] [ro T (hdrs ts), rowsR ts] (two (fun v c1 c2 => ∃ B cb D cd, v = .tuple #[.slice B (hardL ts).length cb, .slice D (relL ts).length cd] ∧ c1 = ow B 3 cb (ints (hardL ts)) ∧ c2 = ow D 3 cd (ints (relL ts)))) := by
  refine pure_of (args := [.slice T nt ct]) 70 Tryz.func34 rfl rfl rfl ord_hard_ent ⟨id, id, trivial⟩ (fun w0 => ?_)
  refine tr_seq ?_
  refine tr_region fun _ _ _ => ?_
  iterate 2 refine pu rfl rfl rfl rfl rfl ?_
  refine tr_seq ?_
  refine tr_seq ?_
  refine tr_region fun _ _ _ => ?_
  refine pu rfl rfl rfl rfl rfl ?_
  refine st rfl rfl rfl rfl (rLen rfl rfl) ?_
  refine pu rfl rfl rfl rfl rfl ?_
  refine tr_block ?_
  refine tr_nilI 3 ?_
  refine tr_nilI 3 ?_
  refine tr_loop7 (fun (k : Int) (B : Option Addr) (cb : Nat) (o : List Int) (D : Option Addr) (cd : Nat) (u : List Int) => [(2, .slice B o.length cb), (3, .slice D u.length cd), (14, .int .i64 k), (12, .slice T nt ct), (13, .int .i64 nt)]) (fun (k : Int) (B : Option Addr) (cb : Nat) (o : List Int) (D : Option Addr) (cd : Nat) (u : List Int) => [ow B 3 cb (ints o), ow D 3 cd (ints u), ro T (hdrs ts), rowsR ts]) (fun (k : Int) (B : Option Addr) (cb : Nat) (o : List Int) (D : Option Addr) (cd : Nat) (u : List Int) => (0 ≤ k ∧ k ≤ nt) ∧ o = (hardL ts).take k.toNat ∧ u = (relL ts).take k.toNat) (fun (k : Int) (B : Option Addr) (cb : Nat) (o : List Int) (D : Option Addr) (cd : Nat) (u : List Int) => (nt - k).toNat) (0) (none) (0) ([]) (none) (0) ([]) ⟨rfl, rfl, rfl, rfl, rfl, trivial⟩ (by first | exact cs _ _ | exact CSub.refl _) (⟨⟨by omega, by omega⟩, rfl, rfl⟩) (fun k B cb o D cd u hI => ?_)
  obtain ⟨⟨hk0, hk1⟩, ho, hu⟩ := hI
  have hol : o.length = k.toNat := by rw [ho, List.length_take, hardL_length]; omega
  have hul : u.length = k.toNat := by rw [hu, List.length_take, relL_length]; omega
  refine tr_seq ?_
  refine tr_region fun _ _ _ => ?_
  refine pu rfl rfl rfl rfl rfl ?_
  refine tr_seq ?_
  refine tr_cond_bool rfl (fun h2 => ?_) (fun h2 => ?_)
  · try simp only [zbA] at h2
    refine tr_skip ?_
    refine tr_seq ?_
    refine tr_block ?_
    refine tr_seq ?_
    haveI : InB k.toNat ts.length := ⟨by omega⟩
    have htk := htr _ (getD_mem (show k.toNat < ts.length by omega) rowD)
    have htl := htk.1
    have hpos : 0 < (ts.getD k.toNat rowD).xs.length := by omega
    refine tr_region fun _ _ _ => ?_
    refine st rfl rfl rfl rfl (rIdxR rfl rfl rfl (by omega) (by omega) (by omega)) ?_
    refine st rfl rfl rfl rfl (rLdR rfl rfl (by omega)) ?_
    refine pu rfl rfl rfl rfl rfl ?_
    refine tr_seq ?_
    refine tr_region fun _ _ _ => ?_
    refine pu rfl rfl rfl rfl rfl ?_
    refine tr_seq ?_
    refine tr_seq ?_
    refine tr_region fun _ _ _ => ?_
    refine pu rfl rfl rfl rfl rfl ?_
    refine st rfl rfl rfl rfl (rLen rfl rfl) ?_
    refine pu rfl rfl rfl rfl rfl ?_
    refine tr_block ?_
    refine tr_loop2 (fun (j : Int) (b : Int) => [(20, .int .i64 j), (6, .int .i64 b), (5, .slice (ts.getD k.toNat rowD).A (ts.getD k.toNat rowD).xs.length (ts.getD k.toNat rowD).cap), (18, .slice (ts.getD k.toNat rowD).A (ts.getD k.toNat rowD).xs.length (ts.getD k.toNat rowD).cap), (19, .int .i64 (ts.getD k.toNat rowD).xs.length), (2, .slice B o.length cb), (3, .slice D u.length cd), (12, .slice T nt ct), (13, .int .i64 nt), (14, .int .i64 k)]) (fun (j : Int) (b : Int) => [ow B 3 cb (ints o), ow D 3 cd (ints u), ro T (hdrs ts), rowsR ts]) (fun (j : Int) (b : Int) => (0 ≤ j ∧ j ≤ (ts.getD k.toNat rowD).xs.length) ∧ b = (amin (ts.getD k.toNat rowD).xs j.toNat : Int)) (fun (j : Int) (b : Int) => ((ts.getD k.toNat rowD).xs.length - j).toNat) (0) (0) ⟨rfl, rfl, rfl, rfl, rfl, rfl, rfl, rfl, rfl, rfl, trivial⟩ (by first | exact cs _ _ | exact CSub.refl _) (⟨⟨by omega, by omega⟩, rfl⟩) (fun j b hI => ?_)
    obtain ⟨⟨hj0, hj1⟩, hb⟩ := hI
    have hbl := amin_lt hpos j.toNat (by omega)
    refine tr_seq ?_
    refine tr_region fun _ _ _ => ?_
    refine pu rfl rfl rfl rfl rfl ?_
    refine tr_seq ?_
    refine tr_cond_bool rfl (fun h6 => ?_) (fun h6 => ?_)
    · try simp only [zbA] at h6
      refine tr_skip ?_
      refine tr_seq ?_
      refine tr_block ?_
      refine tr_seq ?_
      refine tr_region fun _ _ _ => ?_
      refine pu rfl rfl rfl rfl rfl ?_
      refine st rfl rfl rfl rfl (rIdxI rfl rfl rfl (by omega) (by omega) (by omega)) ?_
      refine st rfl rfl rfl rfl (rLdI rfl rfl (by omega)) ?_
      iterate 2 refine pu rfl rfl rfl rfl rfl ?_
      refine tr_seq ?_
      refine tr_region fun _ _ _ => ?_
      iterate 3 refine pu rfl rfl rfl rfl rfl ?_
      refine st rfl rfl rfl rfl (rIdxI rfl rfl rfl (by omega) (by omega) (by omega)) ?_
      refine st rfl rfl rfl rfl (rLdI rfl rfl (by omega)) ?_
      refine pu rfl rfl rfl rfl rfl ?_
      refine tr_cond_bool rfl (fun h8 => ?_) (fun h8 => ?_)
      · try simp only [zbA] at h8
        refine tr_region fun _ _ _ => ?_
        iterate 2 refine pu rfl rfl rfl rfl rfl ?_
        refine tr_region fun _ _ _ => ?_
        refine st rfl rfl rfl rfl (rAdd rfl rfl rfl (by omega) (by omega)) ?_
        refine pu rfl rfl rfl rfl rfl ?_
        refine ⟨j + 1, j, ⟨rfl, rfl, rfl, rfl, rfl, rfl, rfl, rfl, rfl, rfl, trivial⟩, by first | exact cs _ _ | exact CSub.refl _, ?_⟩
        exact ⟨⟨⟨by omega, by omega⟩, by rw [show (j + 1).toNat = j.toNat + 1 by omega, amin_yes (by rw [hb] at h8; simpa using h8)]; omega⟩, by omega⟩
      · try simp only [zbA] at h8
        refine tr_skip ?_
        refine tr_region fun _ _ _ => ?_
        refine st rfl rfl rfl rfl (rAdd rfl rfl rfl (by omega) (by omega)) ?_
        refine pu rfl rfl rfl rfl rfl ?_
        refine ⟨j + 1, b, ⟨rfl, rfl, rfl, rfl, rfl, rfl, rfl, rfl, rfl, rfl, trivial⟩, by first | exact cs _ _ | exact CSub.refl _, ?_⟩
        exact ⟨⟨⟨by omega, by omega⟩, by rw [show (j + 1).toNat = j.toNat + 1 by omega, amin_no (by rw [hb] at h8; simpa using h8)]; exact hb⟩, by omega⟩
    · try simp only [zbA] at h6
      refine tr_exit ?_
      refine tr_seq ?_
      refine tr_region fun _ _ _ => ?_
      refine pu rfl rfl rfl rfl rfl ?_
      refine tr_seq ?_
      refine tr_seq ?_
      refine tr_region fun _ _ _ => ?_
      refine pu rfl rfl rfl rfl rfl ?_
      refine st rfl rfl rfl rfl (rLen rfl rfl) ?_
      refine pu rfl rfl rfl rfl rfl ?_
      refine tr_block ?_
      refine tr_loop2 (fun (i : Int) (s : Int) => [(35, .int .i64 i), (9, .int .i64 s), (6, .int .i64 b), (5, .slice (ts.getD k.toNat rowD).A (ts.getD k.toNat rowD).xs.length (ts.getD k.toNat rowD).cap), (33, .slice (ts.getD k.toNat rowD).A (ts.getD k.toNat rowD).xs.length (ts.getD k.toNat rowD).cap), (34, .int .i64 (ts.getD k.toNat rowD).xs.length), (2, .slice B o.length cb), (3, .slice D u.length cd), (12, .slice T nt ct), (13, .int .i64 nt), (14, .int .i64 k), (18, .slice (ts.getD k.toNat rowD).A (ts.getD k.toNat rowD).xs.length (ts.getD k.toNat rowD).cap), (19, .int .i64 (ts.getD k.toNat rowD).xs.length), (20, .int .i64 j)]) (fun (i : Int) (s : Int) => [ow B 3 cb (ints o), ow D 3 cd (ints u), ro T (hdrs ts), rowsR ts]) (fun (i : Int) (s : Int) => (0 ≤ i ∧ i ≤ (ts.getD k.toNat rowD).xs.length) ∧ s = sec (ts.getD k.toNat rowD).xs b.toNat i.toNat) (fun (i : Int) (s : Int) => ((ts.getD k.toNat rowD).xs.length - i).toNat) (0) (-1) ⟨rfl, rfl, rfl, rfl, rfl, rfl, rfl, rfl, rfl, rfl, rfl, rfl, rfl, rfl, trivial⟩ (by first | exact cs _ _ | exact CSub.refl _) (⟨⟨by omega, by omega⟩, rfl⟩) (fun i s hI => ?_)
      obtain ⟨⟨hi0, hi1⟩, hs⟩ := hI
      have hsb := sec_bd (b := b.toNat) htk.2 (by omega) i.toNat (by omega)
      refine tr_seq ?_
      refine tr_region fun _ _ _ => ?_
      refine pu rfl rfl rfl rfl rfl ?_
      refine tr_seq ?_
      refine tr_cond_bool rfl (fun h13 => ?_) (fun h13 => ?_)
      · try simp only [zbA] at h13
        refine tr_skip ?_
        refine tr_seq ?_
        refine tr_block ?_
        refine tr_seq ?_
        refine tr_region fun _ _ _ => ?_
        refine pu rfl rfl rfl rfl rfl ?_
        refine st rfl rfl rfl rfl (rIdxI rfl rfl rfl (by omega) (by omega) (by omega)) ?_
        refine st rfl rfl rfl rfl (rLdI rfl rfl (by omega)) ?_
        iterate 2 refine pu rfl rfl rfl rfl rfl ?_
        refine tr_seq ?_
        refine tr_region fun _ _ _ => ?_
        iterate 4 refine pu rfl rfl rfl rfl rfl ?_
        refine stg rfl rfl rfl rfl rfl (fun hb => by (have hq := hb; try simp only [zbA] at hq); exact rMove rfl rfl) ?_
        refine stg rfl rfl rfl rfl rfl (fun hb => by (have hq := hb; try simp only [zbA] at hq); exact rLss rfl (evg rfl hb) rfl) ?_
        refine stg rfl rfl rfl rfl rfl (fun hb => by (have hq := hb; try simp only [zbA] at hq); exact rMove rfl (evg rfl hb)) ?_
        refine stg2 rfl rfl rfl rfl rfl (fun hb => by (have hq := hb; try simp only [zbA] at hq); exact rMove rfl rfl) ?_
        refine stg2 rfl rfl rfl rfl rfl (fun hb => by (have hq := hb; try simp only [zbA] at hq); exact rMove rfl rfl) ?_
        refine stg2 rfl rfl rfl rfl rfl (fun hb => by (have hq := hb; try simp only [zbA] at hq); exact rLss rfl (evg rfl hb) (evg rfl hb)) ?_
        refine stg rfl rfl rfl rfl rfl (fun hb => by (have hq := hb; try simp only [zbA] at hq); exact rOrB rfl (evg rfl hb) rfl (evgp rfl hb)) ?_
        refine st rfl rfl rfl rfl (rAndB rfl rfl rfl rfl) ?_
        refine tr_cond_bool rfl (fun h15 => ?_) (fun h15 => ?_)
        · try simp only [zbA] at h15
          refine tr_region fun _ _ _ => ?_
          iterate 2 refine pu rfl rfl rfl rfl rfl ?_
          refine tr_region fun _ _ _ => ?_
          refine st rfl rfl rfl rfl (rAdd rfl rfl rfl (by omega) (by omega)) ?_
          refine pu rfl rfl rfl rfl rfl ?_
          refine ⟨i + 1, (ts.getD k.toNat rowD).xs.getD i.toNat 0, ⟨rfl, rfl, rfl, rfl, rfl, rfl, rfl, rfl, rfl, rfl, rfl, rfl, rfl, rfl, trivial⟩, by first | exact cs _ _ | exact CSub.refl _, ?_⟩
          exact ⟨⟨⟨by omega, by omega⟩, by rw [show (i + 1).toNat = i.toNat + 1 by omega, sec_yes (by rw [← hs]; omega)]⟩, by omega⟩
        · try simp only [zbA] at h15
          refine tr_skip ?_
          refine tr_region fun _ _ _ => ?_
          refine st rfl rfl rfl rfl (rAdd rfl rfl rfl (by omega) (by omega)) ?_
          refine pu rfl rfl rfl rfl rfl ?_
          refine ⟨i + 1, s, ⟨rfl, rfl, rfl, rfl, rfl, rfl, rfl, rfl, rfl, rfl, rfl, rfl, rfl, rfl, trivial⟩, by first | exact cs _ _ | exact CSub.refl _, ?_⟩
          exact ⟨⟨⟨by omega, by omega⟩, by rw [show (i + 1).toNat = i.toNat + 1 by omega, sec_no (by rw [← hs]; omega)]; exact hs⟩, by omega⟩
      · try simp only [zbA] at h13
        refine tr_exit ?_
        refine tr_seq ?_
        refine tr_region fun _ _ _ => ?_
        iterate 2 refine pu rfl rfl rfl rfl rfl ?_
        refine ef rfl rfl (eLit1I rfl rfl rfl rfl (fun A18 => ?_)) 
        refine ef rfl rfl (eAppI rfl rfl rfl rfl rfl (by first | rfl | simp | omega) (by first | rfl | simp | omega) (by first | omega | (simp; omega)) (fun A18a c18a => ?_)) 
        refine pu rfl rfl rfl rfl rfl ?_
        have hrb := htk.at b.toNat
        have hsb := sec_bd (b := b.toNat) htk.2 (by omega) i.toNat (by omega)
        refine tr_region fun _ _ _ => ?_
        iterate 4 refine pu rfl rfl rfl rfl rfl ?_
        refine st rfl rfl rfl rfl (rIdxI rfl rfl rfl (by omega) (by omega) (by omega)) ?_
        refine st rfl rfl rfl rfl (rLdI rfl rfl (by omega)) ?_
        refine st rfl rfl rfl rfl (rSub rfl rfl rfl (by omega) (by omega)) ?_
        refine ef rfl rfl (eLit1I rfl rfl rfl rfl (fun A19 => ?_)) 
        refine ef rfl rfl (eAppI rfl rfl rfl rfl rfl (by first | rfl | simp | omega) (by first | rfl | simp | omega) (by first | omega | (simp; omega)) (fun A19a c19a => ?_)) 
        refine pu rfl rfl rfl rfl rfl ?_
        refine tr_region fun _ _ _ => ?_
        refine st rfl rfl rfl rfl (rAdd rfl rfl rfl (by omega) (by omega)) ?_
        refine pu rfl rfl rfl rfl rfl ?_
        refine ⟨k + 1, A18a, c18a, o ++ [b], A19a, c19a, u ++ [s - (ts.getD k.toNat rowD).xs.getD b.toNat 0], ⟨rfl, rfl, rfl, rfl, rfl, trivial⟩, by first | exact cs _ _ | exact CSub.refl _, ?_⟩
        have hkk : (k + 1).toNat = k.toNat + 1 := by omega
        have hbh : b = (hardI (ts.getD k.toNat rowD).xs : Int) := by rw [hb, show j.toNat = (ts.getD k.toNat rowD).xs.length by omega]; rfl
        have hsh : s - (ts.getD k.toNat rowD).xs.getD b.toNat 0 = relI (ts.getD k.toNat rowD).xs := by rw [hs, hbh, show i.toNat = (ts.getD k.toNat rowD).xs.length by omega]; rfl
        exact ⟨⟨⟨by omega, by omega⟩, by rw [hkk, hardL_take ts (by omega), ← ho, hbh], by rw [hkk, relL_take ts (by omega), ← hu, hsh]⟩, by omega⟩
  · try simp only [zbA] at h2
    refine tr_exit ?_
    refine tr_seq ?_
    refine tr_region fun _ _ _ => ?_
    iterate 4 refine pu rfl rfl rfl rfl rfl ?_
    have hkt : k.toNat = ts.length := by omega
    have ho2 : o = hardL ts := by rw [ho, hkt, ← hardL_length, List.take_length]
    have hu2 : u = relL ts := by rw [hu, hkt, ← relL_length, List.take_length]
    subst ho2 hu2
    exact tr_ret ⟨trivial, _, _, rfl, ⟨_, _, rfl, B, cb, D, cd, rfl, rfl, rfl⟩, cs _ _, trivial, trivial, trivial⟩
end Go.Proofs.YtoalphamojhpcaaGreat

set_option linter.unusedSimpArgs false
set_option linter.unusedVariables false
set_option maxRecDepth 100000
namespace Go.Proofs.YtoalphamojhpcaaGreat
open Go.RowKit
noncomputable def wordC (q w : Int) (l : List Int) : Int := if (l.length : Int) ≠ w then 4 else entC q l
theorem wordC_len {q w : Int} {l : List Int} (h : (l.length : Int) ≠ w) : wordC q w l = 4 := if_pos h
theorem wordC_ent {q w : Int} {l : List Int} (h : (l.length : Int) = w) : wordC q w l = entC q l := by unfold wordC; rw [if_neg (by omega)]
theorem wordC_zero {q w : Int} {l : List Int} (h : wordC q w l = 0) : (l.length : Int) = w ∧ AllIn q l := by
  unfold wordC at h
  split at h
  · cases h
  · rename_i h1
    rcases entC_cases q l with h2 | h2
    · exact ⟨by omega, h2.1⟩
    · omega
def cstT (tb : List (List Int)) (l : List Int) : Nat → Int
  | 0 => 0
  | k + 1 => cstT tb l k + (tb.getD k []).getD (l.getD k 0).toNat 0
def cstL (tb : List (List Int)) (l : List Int) : Int := cstT tb l l.length
theorem cstT_bd {q : Int} {ts : List RowM} (htr : ∀ r ∈ ts, RowOk q r.xs) (l : List Int) : ∀ k, k ≤ ts.length → 0 ≤ cstT (xss ts) l k ∧ cstT (xss ts) l k ≤ k * 2147483648
  | 0, _ => by simp [cstT]
  | k + 1, hk => by
    have ih := cstT_bd htr l k (by omega)
    have h := (htr _ (getD_mem (show k < ts.length by omega) rowD)).at (l.getD k 0).toNat
    rw [cstT, xss_getD]
    omega
theorem cstT_succ (ts : List RowM) (l : List Int) (k : Nat) : cstT (xss ts) l (k + 1) = cstT (xss ts) l k + (ts.getD k rowD).xs.getD (l.getD k 0).toNat 0 := by rw [cstT, xss_getD]
theorem ord_word_ent : Enters Tryz.prog 32 := enters_of Tryz.func32 (by kernel_rfl) (by kernel_rfl)
theorem ord_word (g : GfM) (q : Int) (hq : g.q = q) (w : Int) (X : Option Addr) (nx cx : Nat) (l : List Int) (hnx : nx = l.length) (hl : l.length ≤ 17592186044415) :
    Pure Tryz.prog 32 #[.pointer (some g.p), .int .i64 w, .slice X nx cx] [gfR g, ro X (ints l)] (isV (.int .i64 (wordC q w l))) := by
  refine pure_of (args := [.pointer (some g.p), .int .i64 w, .slice X nx cx]) 24 Tryz.func32 rfl rfl rfl ord_word_ent ⟨id, id, trivial⟩ (fun w0 => ?_)
  refine tr_seq ?_
  refine tr_region fun _ _ _ => ?_
  refine pu rfl rfl rfl rfl rfl ?_
  refine tr_seq ?_
  refine tr_seq ?_
  refine tr_region fun _ _ _ => ?_
  refine pu rfl rfl rfl rfl rfl ?_
  refine st rfl rfl rfl rfl (rLen rfl rfl) ?_
  iterate 2 refine pu rfl rfl rfl rfl rfl ?_
  refine tr_cond_bool rfl (fun h1 => ?_) (fun h1 => ?_)
  · try simp only [zbA] at h1
    refine tr_seq ?_
    refine tr_region fun _ _ _ => ?_
    refine pu rfl rfl rfl rfl rfl ?_
    exact tr_ret ⟨trivial, _, _, rfl, ⟨by rw [wordC_len (by omega)], rfl⟩, CSub.nil _, trivial⟩
  · try simp only [zbA] at h1
    refine tr_skip ?_
    refine tr_seq ?_
    refine tr_seq ?_
    refine tr_region fun _ _ _ => ?_
    refine pu rfl rfl rfl rfl rfl ?_
    refine st rfl rfl rfl rfl (rLen rfl rfl) ?_
    refine pu rfl rfl rfl rfl rfl ?_
    refine tr_block ?_
    refine tr_loop1 (fun (k : Int) => [(15, .int .i64 k), (0, .pointer (some g.p)), (13, .slice X nx cx), (14, .int .i64 nx)]) (fun (k : Int) => [gfR g, ro X (ints l)]) (fun (k : Int) => (0 ≤ k ∧ k ≤ nx) ∧ ∀ j : Nat, (j : Int) < k → 0 ≤ l.getD j 0 ∧ l.getD j 0 < q) (fun (k : Int) => (nx - k).toNat) (0) ⟨rfl, rfl, rfl, rfl, trivial⟩ (by first | exact cs _ _ | exact CSub.refl _) (⟨⟨by omega, by omega⟩, fun j hj => by omega⟩) (fun k hI => ?_)
    obtain ⟨⟨hk0, hk1⟩, hall⟩ := hI
    refine tr_seq ?_
    refine tr_region fun _ _ _ => ?_
    refine pu rfl rfl rfl rfl rfl ?_
    refine tr_seq ?_
    refine tr_cond_bool rfl (fun h4 => ?_) (fun h4 => ?_)
    · try simp only [zbA] at h4
      refine tr_skip ?_
      refine tr_seq ?_
      refine tr_block ?_
      refine tr_seq ?_
      refine tr_region fun _ _ _ => ?_
      refine st rfl rfl rfl rfl (rIdxI rfl rfl rfl (by omega) (by omega) (by omega)) ?_
      refine st rfl rfl rfl rfl (rLdI rfl rfl (by omega)) ?_
      refine pu rfl rfl rfl rfl rfl ?_
      refine tr_seq ?_
      refine tr_region fun _ _ _ => ?_
      iterate 2 refine pu rfl rfl rfl rfl rfl ?_
      refine ef rfl rfl (eCallV rfl rfl rfl (gf_Is g (l.getD k.toNat 0)) ⟨rfl, rfl, trivial⟩ ?_) 
      refine st rfl rfl rfl rfl (rNotB rfl rfl) ?_
      refine tr_cond_bool rfl (fun h6 => ?_) (fun h6 => ?_)
      · try simp only [zbA] at h6
        refine tr_seq ?_
        refine tr_region fun _ _ _ => ?_
        refine pu rfl rfl rfl rfl rfl ?_
        have hno : ¬ AllIn q l := fun h => by
          have hb := h (l.getD k.toNat 0) (getD_mem (by omega) _)
          omega
        exact tr_ret ⟨trivial, _, _, rfl, ⟨by rw [wordC_ent (by omega), entC_no hno], rfl⟩, CSub.nil _, trivial⟩
      · try simp only [zbA] at h6
        refine tr_skip ?_
        refine tr_region fun _ _ _ => ?_
        refine st rfl rfl rfl rfl (rAdd rfl rfl rfl (by omega) (by omega)) ?_
        refine pu rfl rfl rfl rfl rfl ?_
        refine ⟨k + 1, ⟨rfl, rfl, rfl, rfl, trivial⟩, by first | exact cs _ _ | exact CSub.refl _, ?_⟩
        refine ⟨⟨⟨by omega, by omega⟩, fun j hj => ?_⟩, by omega⟩
        by_cases he : (j : Int) = k
        · have : j = k.toNat := by omega
          subst this; omega
        · exact hall j (by omega)
    · try simp only [zbA] at h4
      refine tr_exit ?_
      refine tr_seq ?_
      refine tr_region fun _ _ _ => ?_
      refine pu rfl rfl rfl rfl rfl ?_
      have hok : AllIn q l := allIn_of_get fun j hj => hall j (by omega)
      exact tr_ret ⟨trivial, _, _, rfl, ⟨by rw [wordC_ent (by omega), entC_ok hok], rfl⟩, CSub.nil _, trivial⟩
theorem ord_total_ent : Enters Tryz.prog 36 := enters_of Tryz.func36 (by kernel_rfl) (by kernel_rfl)
theorem ord_total (T : Option Addr) (nt ct : Nat) (ts : List RowM) (hnt : nt = ts.length) (q : Int) (hq2 : 2 ≤ q) (hq9 : q ≤ 256) (t64 : ts.length ≤ 64) (htr : ∀ r ∈ ts, RowOk q r.xs) (X : Option Addr) (nx cx : Nat) (l : List Int) (hnx : nx = l.length) (hlt : l.length = ts.length) (hin : AllIn q l) :
    Pure Tryz.prog 36 #[.slice T nt ct, .slice X nx cx] [ro T (hdrs ts), rowsR ts, ro X (ints l)] (isV (.int .i64 (cstL (xss ts) l))) := by
  refine pure_of (args := [.slice T nt ct, .slice X nx cx]) 26 Tryz.func36 rfl rfl rfl ord_total_ent ⟨id, id, id, trivial⟩ (fun w0 => ?_)
  refine tr_seq ?_
  refine tr_region fun _ _ _ => ?_
  refine pu rfl rfl rfl rfl rfl ?_
  refine tr_seq ?_
  refine tr_region fun _ _ _ => ?_
  refine pu rfl rfl rfl rfl rfl ?_
  refine tr_seq ?_
  refine tr_seq ?_
  refine tr_region fun _ _ _ => ?_
  refine pu rfl rfl rfl rfl rfl ?_
  refine st rfl rfl rfl rfl (rLen rfl rfl) ?_
  refine pu rfl rfl rfl rfl rfl ?_
  refine tr_block ?_
  refine tr_loop2 (fun (k : Int) (s : Int) => [(10, .int .i64 k), (5, .int .i64 s), (0, .slice T nt ct), (4, .int .i64 0), (8, .slice X nx cx), (9, .int .i64 nx)]) (fun (k : Int) (s : Int) => [ro T (hdrs ts), rowsR ts, ro X (ints l)]) (fun (k : Int) (s : Int) => (0 ≤ k ∧ k ≤ nx) ∧ s = cstT (xss ts) l k.toNat) (fun (k : Int) (s : Int) => (nx - k).toNat) (0) (0) ⟨rfl, rfl, rfl, rfl, rfl, rfl, trivial⟩ (by first | exact cs _ _ | exact CSub.refl _) (⟨⟨by omega, by omega⟩, rfl⟩) (fun k s hI => ?_)
  obtain ⟨⟨hk0, hk1⟩, hs⟩ := hI
  have hcb := cstT_bd htr l k.toNat (by omega)
  refine tr_seq ?_
  refine tr_region fun _ _ _ => ?_
  refine pu rfl rfl rfl rfl rfl ?_
  refine tr_seq ?_
  refine tr_cond_bool rfl (fun h3 => ?_) (fun h3 => ?_)
  · try simp only [zbA] at h3
    refine tr_skip ?_
    refine tr_seq ?_
    refine tr_block ?_
    refine tr_seq ?_
    refine tr_region fun _ _ _ => ?_
    refine pu rfl rfl rfl rfl rfl ?_
    refine st rfl rfl rfl rfl (rIdxI rfl rfl rfl (by omega) (by omega) (by omega)) ?_
    refine st rfl rfl rfl rfl (rLdI rfl rfl (by omega)) ?_
    iterate 2 refine pu rfl rfl rfl rfl rfl ?_
    haveI : InB k.toNat ts.length := ⟨by omega⟩
    have htk := htr _ (getD_mem (show k.toNat < ts.length by omega) rowD)
    have htl := htk.1
    have hpos : 0 < (ts.getD k.toNat rowD).xs.length := by omega
    have hrb := htk.at (l.getD k.toNat 0).toNat
    have hlk := hin.get (by omega) k.toNat
    refine tr_region fun _ _ _ => ?_
    iterate 3 refine pu rfl rfl rfl rfl rfl ?_
    refine st rfl rfl rfl rfl (rIdxR rfl rfl rfl (by omega) (by omega) (by omega)) ?_
    refine st rfl rfl rfl rfl (rLdR rfl rfl (by omega)) ?_
    refine pu rfl rfl rfl rfl rfl ?_
    refine st rfl rfl rfl rfl (rIdxI rfl rfl rfl (by omega) (by omega) (by omega)) ?_
    refine st rfl rfl rfl rfl (rLdI rfl rfl (by omega)) ?_
    refine st rfl rfl rfl rfl (rAdd rfl rfl rfl (by omega) (by omega)) ?_
    refine pu rfl rfl rfl rfl rfl ?_
    refine tr_region fun _ _ _ => ?_
    refine st rfl rfl rfl rfl (rAdd rfl rfl rfl (by omega) (by omega)) ?_
    refine pu rfl rfl rfl rfl rfl ?_
    refine ⟨k + 1, s + (ts.getD k.toNat rowD).xs.getD (l.getD k.toNat 0).toNat 0, ⟨rfl, rfl, rfl, rfl, rfl, rfl, trivial⟩, by first | exact cs _ _ | exact CSub.refl _, ?_⟩
    exact ⟨⟨⟨by omega, by omega⟩, by rw [show (k + 1).toNat = k.toNat + 1 by omega, cstT_succ, hs]⟩, by omega⟩
  · try simp only [zbA] at h3
    refine tr_exit ?_
    refine tr_seq ?_
    refine tr_region fun _ _ _ => ?_
    iterate 2 refine pu rfl rfl rfl rfl rfl ?_
    have hkx : k.toNat = l.length := by omega
    exact tr_ret ⟨trivial, _, _, rfl, ⟨by rw [hs, hkx]; rfl, rfl⟩, CSub.nil _, trivial⟩
theorem ref_OCost_ent : Enters Tryz.prog 18 := enters_of Tryz.func18 (by kernel_rfl) (by kernel_rfl)
theorem ref_OCost (T : Option Addr) (nt ct : Nat) (ts : List RowM) (hnt : nt = ts.length) (q : Int) (hq2 : 2 ≤ q) (hq9 : q ≤ 256) (t64 : ts.length ≤ 64) (htr : ∀ r ∈ ts, RowOk q r.xs) (X : Option Addr) (nx cx : Nat) (l : List Int) (hnx : nx = l.length) (hlt : l.length = ts.length) (hin : AllIn q l) :
    Pure Tryz.prog 18 #[.slice T nt ct, .slice X nx cx] [ro T (hdrs ts), rowsR ts, ro X (ints l)] (isV (.int .i64 (cstL (xss ts) l))) := by
  refine pure_of (args := [.slice T nt ct, .slice X nx cx]) 26 Tryz.func18 rfl rfl rfl ref_OCost_ent ⟨id, id, id, trivial⟩ (fun w0 => ?_)
  refine tr_seq ?_
  refine tr_region fun _ _ _ => ?_
  refine pu rfl rfl rfl rfl rfl ?_
  refine tr_seq ?_
  refine tr_region fun _ _ _ => ?_
  refine pu rfl rfl rfl rfl rfl ?_
  refine tr_seq ?_
  refine tr_seq ?_
  refine tr_region fun _ _ _ => ?_
  refine pu rfl rfl rfl rfl rfl ?_
  refine tr_block ?_
  refine tr_loop2 (fun (k : Int) (s : Int) => [(6, .int .i64 k), (5, .int .i64 s), (0, .slice T nt ct), (1, .slice X nx cx), (4, .int .i64 0)]) (fun (k : Int) (s : Int) => [ro T (hdrs ts), rowsR ts, ro X (ints l)]) (fun (k : Int) (s : Int) => (0 ≤ k ∧ k ≤ nx) ∧ s = cstT (xss ts) l k.toNat) (fun (k : Int) (s : Int) => (nx - k).toNat) (0) (0) ⟨rfl, rfl, rfl, rfl, rfl, trivial⟩ (by first | exact cs _ _ | exact CSub.refl _) (⟨⟨by omega, by omega⟩, rfl⟩) (fun k s hI => ?_)
  obtain ⟨⟨hk0, hk1⟩, hs⟩ := hI
  have hcb := cstT_bd htr l k.toNat (by omega)
  refine tr_seq ?_
  refine tr_seq ?_
  refine tr_region fun _ _ _ => ?_
  iterate 2 refine pu rfl rfl rfl rfl rfl ?_
  refine st rfl rfl rfl rfl (rLen rfl rfl) ?_
  refine pu rfl rfl rfl rfl rfl ?_
  refine tr_cond_bool rfl (fun h3 => ?_) (fun h3 => ?_)
  · try simp only [zbA] at h3
    refine tr_skip ?_
    refine tr_seq ?_
    refine tr_block ?_
    haveI : InB k.toNat ts.length := ⟨by omega⟩
    have htk := htr _ (getD_mem (show k.toNat < ts.length by omega) rowD)
    have htl := htk.1
    have hpos : 0 < (ts.getD k.toNat rowD).xs.length := by omega
    have hrb := htk.at (l.getD k.toNat 0).toNat
    have hlk := hin.get (by omega) k.toNat
    refine tr_draw [0, 1, 2, 3, 4, 5, 6, 7, 8, 9, 10, 11, 12] [] mixed (by kernel_rfl) fun _ _ _ => ?_
    iterate 3 refine pu rfl rfl rfl rfl rfl ?_
    refine st rfl rfl rfl rfl (rIdxR rfl rfl rfl (by omega) (by omega) (by omega)) ?_
    refine st rfl rfl rfl rfl (rLdR rfl rfl (by omega)) ?_
    iterate 2 refine pu rfl rfl rfl rfl rfl ?_
    refine st rfl rfl rfl rfl (rIdxI rfl rfl rfl (by omega) (by omega) (by omega)) ?_
    refine st rfl rfl rfl rfl (rLdI rfl rfl (by omega)) ?_
    refine st rfl rfl rfl rfl (rIdxI rfl rfl rfl (by omega) (by omega) (by omega)) ?_
    refine st rfl rfl rfl rfl (rLdI rfl rfl (by omega)) ?_
    refine st rfl rfl rfl rfl (rAdd rfl rfl rfl (by omega) (by omega)) ?_
    refine pu rfl rfl rfl rfl rfl ?_
    refine tr_region fun _ _ _ => ?_
    refine pu rfl rfl rfl rfl rfl ?_
    refine st rfl rfl rfl rfl (rAdd rfl rfl rfl (by omega) (by omega)) ?_
    refine pu rfl rfl rfl rfl rfl ?_
    refine ⟨k + 1, s + (ts.getD k.toNat rowD).xs.getD (l.getD k.toNat 0).toNat 0, ⟨rfl, rfl, rfl, rfl, rfl, trivial⟩, by first | exact cs _ _ | exact CSub.refl _, ?_⟩
    exact ⟨⟨⟨by omega, by omega⟩, by rw [show (k + 1).toNat = k.toNat + 1 by omega, cstT_succ, hs]⟩, by omega⟩
  · try simp only [zbA] at h3
    refine tr_exit ?_
    refine tr_seq ?_
    refine tr_region fun _ _ _ => ?_
    iterate 2 refine pu rfl rfl rfl rfl rfl ?_
    have hkx : k.toNat = l.length := by omega
    exact tr_ret ⟨trivial, _, _, rfl, ⟨by rw [hs, hkx]; rfl, rfl⟩, CSub.nil _, trivial⟩
theorem ref_OHard_ent : Enters Tryz.prog 41 := enters_of Tryz.func41 (by kernel_rfl) (by kernel_rfl)
theorem ref_OHard (T : Option Addr) (nt ct : Nat) (ts : List RowM) (hnt : nt = ts.length) (q : Int) (hq2 : 2 ≤ q) (hq9 : q ≤ 256) (t64 : ts.length ≤ 64) (htr : ∀ r ∈ ts, RowOk q r.xs) :
    Pure Tryz.prog 41 #[.slice T nt ct] [ro T (hdrs ts), rowsR ts] (one (fun v ch => ∃ B cb, v = .slice B (hardL ts).length cb ∧ ch = ow B 3 cb (ints (hardL ts)))) := by
  refine pure_of (args := [.slice T nt ct]) 43 Tryz.func41 rfl rfl rfl ref_OHard_ent ⟨id, id, trivial⟩ (fun w0 => ?_)
  refine tr_seq ?_
  refine tr_region fun _ _ _ => ?_
  refine pu rfl rfl rfl rfl rfl ?_
  refine tr_seq ?_
  refine tr_region fun _ _ _ => ?_
  refine pu rfl rfl rfl rfl rfl ?_
  refine tr_seq ?_
  refine tr_seq ?_
  refine tr_region fun _ _ _ => ?_
  refine pu rfl rfl rfl rfl rfl ?_
  refine tr_block ?_
  refine tr_nilI 3 ?_
  refine tr_loop4 (fun (k : Int) (B : Option Addr) (cb : Nat) (o : List Int) => [(3, .slice B o.length cb), (4, .int .i64 k), (0, .slice T nt ct), (2, .slice none 0 0)]) (fun (k : Int) (B : Option Addr) (cb : Nat) (o : List Int) => [ow B 3 cb (ints o), ro T (hdrs ts), rowsR ts]) (fun (k : Int) (B : Option Addr) (cb : Nat) (o : List Int) => (0 ≤ k ∧ k ≤ nt) ∧ o = (hardL ts).take k.toNat) (fun (k : Int) (B : Option Addr) (cb : Nat) (o : List Int) => (nt - k).toNat) (0) (none) (0) ([]) ⟨rfl, rfl, rfl, rfl, trivial⟩ (by first | exact cs _ _ | exact CSub.refl _) (⟨⟨by omega, by omega⟩, rfl⟩) (fun k B cb o hI => ?_)
  obtain ⟨⟨hk0, hk1⟩, ho⟩ := hI
  have hol : o.length = k.toNat := by rw [ho, List.length_take, hardL_length]; omega
  refine tr_seq ?_
  refine tr_seq ?_
  refine tr_region fun _ _ _ => ?_
  iterate 2 refine pu rfl rfl rfl rfl rfl ?_
  refine st rfl rfl rfl rfl (rLen rfl rfl) ?_
  refine pu rfl rfl rfl rfl rfl ?_
  refine tr_cond_bool rfl (fun h3 => ?_) (fun h3 => ?_)
  · try simp only [zbA] at h3
    refine tr_skip ?_
    refine tr_seq ?_
    refine tr_block ?_
    refine tr_seq ?_
    refine tr_region fun _ _ _ => ?_
    refine pu rfl rfl rfl rfl rfl ?_
    refine tr_seq ?_
    refine tr_seq ?_
    refine tr_region fun _ _ _ => ?_
    refine pu rfl rfl rfl rfl rfl ?_
    refine tr_block ?_
    refine tr_loop2 (fun (j : Int) (b : Int) => [(6, .int .i64 j), (5, .int .i64 b), (0, .slice T nt ct), (2, .slice none 0 0), (3, .slice B o.length cb), (4, .int .i64 k), (7, .int .i64 k), (8, .slice T nt ct), (9, .int .i64 nt)]) (fun (j : Int) (b : Int) => [ow B 3 cb (ints o), ro T (hdrs ts), rowsR ts]) (fun (j : Int) (b : Int) => (0 ≤ j ∧ j ≤ (ts.getD k.toNat rowD).xs.length) ∧ b = (amin (ts.getD k.toNat rowD).xs j.toNat : Int)) (fun (j : Int) (b : Int) => ((ts.getD k.toNat rowD).xs.length - j).toNat) (0) (0) ⟨rfl, rfl, rfl, rfl, rfl, rfl, rfl, rfl, rfl, trivial⟩ (by first | exact cs _ _ | exact CSub.refl _) (⟨⟨by omega, by omega⟩, rfl⟩) (fun j b hI => ?_)
    haveI : InB k.toNat ts.length := ⟨by omega⟩
    have htk := htr _ (getD_mem (show k.toNat < ts.length by omega) rowD)
    have htl := htk.1
    have hpos : 0 < (ts.getD k.toNat rowD).xs.length := by omega
    obtain ⟨⟨hj0, hj1⟩, hb⟩ := hI
    have hbl := amin_lt hpos j.toNat (by omega)
    refine tr_seq ?_
    refine tr_seq ?_
    haveI : InB k.toNat ts.length := ⟨by omega⟩
    have htk := htr _ (getD_mem (show k.toNat < ts.length by omega) rowD)
    have htl := htk.1
    have hpos : 0 < (ts.getD k.toNat rowD).xs.length := by omega
    refine tr_region fun _ _ _ => ?_
    iterate 3 refine pu rfl rfl rfl rfl rfl ?_
    refine st rfl rfl rfl rfl (rIdxR rfl rfl rfl (by omega) (by omega) (by omega)) ?_
    refine st rfl rfl rfl rfl (rLdR rfl rfl (by omega)) ?_
    refine st rfl rfl rfl rfl (rLen rfl rfl) ?_
    refine pu rfl rfl rfl rfl rfl ?_
    refine tr_cond_bool rfl (fun h7 => ?_) (fun h7 => ?_)
    · try simp only [zbA] at h7
      refine tr_skip ?_
      refine tr_seq ?_
      refine tr_block ?_
      refine tr_seq ?_
      haveI : InB k.toNat ts.length := ⟨by omega⟩
      have htk := htr _ (getD_mem (show k.toNat < ts.length by omega) rowD)
      have htl := htk.1
      have hpos : 0 < (ts.getD k.toNat rowD).xs.length := by omega
      refine tr_draw [0, 1, 2, 3, 4, 5, 6, 7, 8, 9, 10, 11, 12, 13, 14] [] mixed (by kernel_rfl) fun _ _ _ => ?_
      iterate 2 refine pu rfl rfl rfl rfl rfl ?_
      refine st rfl rfl rfl rfl (rIdxR rfl rfl rfl (by omega) (by omega) (by omega)) ?_
      refine st rfl rfl rfl rfl (rLdR rfl rfl (by omega)) ?_
      refine pu rfl rfl rfl rfl rfl ?_
      refine st rfl rfl rfl rfl (rIdxI rfl rfl rfl (by omega) (by omega) (by omega)) ?_
      refine st rfl rfl rfl rfl (rLdI rfl rfl (by omega)) ?_
      iterate 2 refine pu rfl rfl rfl rfl rfl ?_
      refine st rfl rfl rfl rfl (rIdxR rfl rfl rfl (by omega) (by omega) (by omega)) ?_
      refine st rfl rfl rfl rfl (rLdR rfl rfl (by omega)) ?_
      refine pu rfl rfl rfl rfl rfl ?_
      refine st rfl rfl rfl rfl (rIdxI rfl rfl rfl (by omega) (by omega) (by omega)) ?_
      refine st rfl rfl rfl rfl (rLdI rfl rfl (by omega)) ?_
      refine pu rfl rfl rfl rfl rfl ?_
      refine tr_cond_bool rfl (fun h9 => ?_) (fun h9 => ?_)
      · try simp only [zbA] at h9
        refine tr_region fun _ _ _ => ?_
        iterate 2 refine pu rfl rfl rfl rfl rfl ?_
        refine tr_region fun _ _ _ => ?_
        refine pu rfl rfl rfl rfl rfl ?_
        refine st rfl rfl rfl rfl (rAdd rfl rfl rfl (by omega) (by omega)) ?_
        refine pu rfl rfl rfl rfl rfl ?_
        refine ⟨j + 1, j, ⟨rfl, rfl, rfl, rfl, rfl, rfl, rfl, rfl, rfl, trivial⟩, by first | exact cs _ _ | exact CSub.refl _, ?_⟩
        exact ⟨⟨⟨by omega, by omega⟩, by rw [show (j + 1).toNat = j.toNat + 1 by omega, amin_yes (by rw [hb] at h9; simpa using h9)]; omega⟩, by omega⟩
      · try simp only [zbA] at h9
        refine tr_skip ?_
        refine tr_region fun _ _ _ => ?_
        refine pu rfl rfl rfl rfl rfl ?_
        refine st rfl rfl rfl rfl (rAdd rfl rfl rfl (by omega) (by omega)) ?_
        refine pu rfl rfl rfl rfl rfl ?_
        refine ⟨j + 1, b, ⟨rfl, rfl, rfl, rfl, rfl, rfl, rfl, rfl, rfl, trivial⟩, by first | exact cs _ _ | exact CSub.refl _, ?_⟩
        exact ⟨⟨⟨by omega, by omega⟩, by rw [show (j + 1).toNat = j.toNat + 1 by omega, amin_no (by rw [hb] at h9; simpa using h9)]; exact hb⟩, by omega⟩
    · try simp only [zbA] at h7
      refine tr_exit ?_
      refine tr_region fun _ _ _ => ?_
      iterate 2 refine pu rfl rfl rfl rfl rfl ?_
      refine ef rfl rfl (eLit1I rfl rfl rfl rfl (fun A11 => ?_)) 
      refine ef rfl rfl (eAppI rfl rfl rfl rfl rfl (by first | rfl | simp | omega) (by first | rfl | simp | omega) (by first | omega | (simp; omega)) (fun A11a c11a => ?_)) 
      refine pu rfl rfl rfl rfl rfl ?_
      refine tr_region fun _ _ _ => ?_
      refine pu rfl rfl rfl rfl rfl ?_
      refine st rfl rfl rfl rfl (rAdd rfl rfl rfl (by omega) (by omega)) ?_
      refine pu rfl rfl rfl rfl rfl ?_
      refine ⟨k + 1, A11a, c11a, o ++ [b], ⟨rfl, rfl, rfl, rfl, trivial⟩, by first | exact cs _ _ | exact CSub.refl _, ?_⟩
      have hkk : (k + 1).toNat = k.toNat + 1 := by omega
      have hbh : b = (hardI (ts.getD k.toNat rowD).xs : Int) := by rw [hb, show j.toNat = (ts.getD k.toNat rowD).xs.length by omega]; rfl
      exact ⟨⟨⟨by omega, by omega⟩, by rw [hkk, hardL_take ts (by omega), ← ho, hbh]⟩, by omega⟩
  · try simp only [zbA] at h3
    refine tr_exit ?_
    refine tr_seq ?_
    refine tr_region fun _ _ _ => ?_
    iterate 2 refine pu rfl rfl rfl rfl rfl ?_
    have hkt : k.toNat = ts.length := by omega
    have ho2 : o = hardL ts := by rw [ho, hkt, ← hardL_length, List.take_length]
    subst ho2
    exact tr_ret ⟨trivial, _, _, rfl, ⟨_, rfl, B, cb, rfl, rfl⟩, cs _ _, trivial, trivial⟩
theorem ref_ORel_ent : Enters Tryz.prog 42 := enters_of Tryz.func42 (by kernel_rfl) (by kernel_rfl)
theorem ref_ORel (T : Option Addr) (nt ct : Nat) (ts : List RowM) (hnt : nt = ts.length) (q : Int) (hq2 : 2 ≤ q) (hq9 : q ≤ 256) (t64 : ts.length ≤ 64) (htr : ∀ r ∈ ts, RowOk q r.xs) :
    Pure Tryz.prog 42 #[.slice T nt ct] [ro T (hdrs ts), rowsR ts] (one (fun v ch => ∃ B cb, v = .slice B (relL ts).length cb ∧ ch = ow B 3 cb (ints (relL ts)))) := by
  refine pure_of (args := [.slice T nt ct]) 69 Tryz.func42 rfl rfl rfl ref_ORel_ent ⟨id, id, trivial⟩ (fun w0 => ?_)
  refine tr_seq ?_
  refine tr_region fun _ _ _ => ?_
  refine pu rfl rfl rfl rfl rfl ?_
  refine tr_seq ?_
  refine tr_region fun _ _ _ => ?_
  refine pu rfl rfl rfl rfl rfl ?_
  refine ef rfl rfl (eCall1 rfl rfl rfl (ref_OHard T nt ct ts hnt q hq2 hq9 t64 htr) ⟨rfl, trivial⟩ ?_) 
  rintro _ _ ⟨A1, c1, rfl, rfl⟩
  refine pu rfl rfl rfl rfl rfl ?_
  refine tr_seq ?_
  refine tr_region fun _ _ _ => ?_
  refine pu rfl rfl rfl rfl rfl ?_
  refine tr_seq ?_
  refine tr_seq ?_
  refine tr_region fun _ _ _ => ?_
  refine pu rfl rfl rfl rfl rfl ?_
  refine tr_block ?_
  refine tr_nilI 3 ?_
  refine tr_loop4 (fun (k : Int) (B : Option Addr) (cb : Nat) (o : List Int) => [(4, .slice B o.length cb), (5, .int .i64 k), (0, .slice T nt ct), (2, .slice none 0 0), (3, .slice A1 (hardL ts).length c1)]) (fun (k : Int) (B : Option Addr) (cb : Nat) (o : List Int) => [ow B 3 cb (ints o), ow A1 3 c1 (ints (hardL ts)), ro T (hdrs ts), rowsR ts]) (fun (k : Int) (B : Option Addr) (cb : Nat) (o : List Int) => (0 ≤ k ∧ k ≤ nt) ∧ o = (relL ts).take k.toNat) (fun (k : Int) (B : Option Addr) (cb : Nat) (o : List Int) => (nt - k).toNat) (0) (none) (0) ([]) ⟨rfl, rfl, rfl, rfl, rfl, trivial⟩ (by first | exact cs _ _ | exact CSub.refl _) (⟨⟨by omega, by omega⟩, rfl⟩) (fun k B cb o hI => ?_)
  obtain ⟨⟨hk0, hk1⟩, ho⟩ := hI
  have hol : o.length = k.toNat := by rw [ho, List.length_take, relL_length]; omega
  refine tr_seq ?_
  refine tr_seq ?_
  refine tr_region fun _ _ _ => ?_
  iterate 2 refine pu rfl rfl rfl rfl rfl ?_
  refine st rfl rfl rfl rfl (rLen rfl rfl) ?_
  refine pu rfl rfl rfl rfl rfl ?_
  refine tr_cond_bool rfl (fun h4 => ?_) (fun h4 => ?_)
  · try simp only [zbA] at h4
    refine tr_skip ?_
    refine tr_seq ?_
    refine tr_block ?_
    refine tr_seq ?_
    refine tr_region fun _ _ _ => ?_
    refine pu rfl rfl rfl rfl rfl ?_
    refine tr_seq ?_
    refine tr_seq ?_
    refine tr_region fun _ _ _ => ?_
    refine pu rfl rfl rfl rfl rfl ?_
    refine tr_block ?_
    refine tr_loop2 (fun (i : Int) (s : Int) => [(7, .int .i64 i), (6, .int .i64 s), (0, .slice T nt ct), (2, .slice none 0 0), (3, .slice A1 (hardL ts).length c1), (4, .slice B o.length cb), (5, .int .i64 k), (10, .int .i64 k), (11, .slice T nt ct), (12, .int .i64 nt)]) (fun (i : Int) (s : Int) => [ow B 3 cb (ints o), ow A1 3 c1 (ints (hardL ts)), ro T (hdrs ts), rowsR ts]) (fun (i : Int) (s : Int) => (0 ≤ i ∧ i ≤ (ts.getD k.toNat rowD).xs.length) ∧ s = sec (ts.getD k.toNat rowD).xs (hardI (ts.getD k.toNat rowD).xs) i.toNat) (fun (i : Int) (s : Int) => ((ts.getD k.toNat rowD).xs.length - i).toNat) (0) (-1) ⟨rfl, rfl, rfl, rfl, rfl, rfl, rfl, rfl, rfl, rfl, trivial⟩ (by first | exact cs _ _ | exact CSub.refl _) (⟨⟨by omega, by omega⟩, rfl⟩) (fun i s hI => ?_)
    haveI : InB k.toNat ts.length := ⟨by omega⟩
    have htk := htr _ (getD_mem (show k.toNat < ts.length by omega) rowD)
    have htl := htk.1
    have hpos : 0 < (ts.getD k.toNat rowD).xs.length := by omega
    obtain ⟨⟨hi0, hi1⟩, hs⟩ := hI
    have hsb := sec_bd (b := hardI (ts.getD k.toNat rowD).xs) htk.2 (by omega) i.toNat (by omega)
    have hhk := hardL_getD ts (show k.toNat < ts.length by omega)
    have hhl := hardI_lt hpos
    refine tr_seq ?_
    refine tr_seq ?_
    haveI : InB k.toNat ts.length := ⟨by omega⟩
    have htk := htr _ (getD_mem (show k.toNat < ts.length by omega) rowD)
    have htl := htk.1
    have hpos : 0 < (ts.getD k.toNat rowD).xs.length := by omega
    refine tr_region fun _ _ _ => ?_
    iterate 3 refine pu rfl rfl rfl rfl rfl ?_
    refine st rfl rfl rfl rfl (rIdxR rfl rfl rfl (by omega) (by omega) (by omega)) ?_
    refine st rfl rfl rfl rfl (rLdR rfl rfl (by omega)) ?_
    refine st rfl rfl rfl rfl (rLen rfl rfl) ?_
    refine pu rfl rfl rfl rfl rfl ?_
    refine tr_cond_bool rfl (fun h8 => ?_) (fun h8 => ?_)
    · try simp only [zbA] at h8
      refine tr_skip ?_
      refine tr_seq ?_
      refine tr_block ?_
      refine tr_seq ?_
      haveI : InB k.toNat ts.length := ⟨by omega⟩
      have htk := htr _ (getD_mem (show k.toNat < ts.length by omega) rowD)
      have htl := htk.1
      have hpos : 0 < (ts.getD k.toNat rowD).xs.length := by omega
      have hhk := hardL_getD ts (show k.toNat < ts.length by omega)
      have hhl := hardI_lt hpos
      have hhln := hardL_length ts
      refine tr_region fun _ _ _ => ?_
      iterate 3 refine pu rfl rfl rfl rfl rfl ?_
      refine st rfl rfl rfl rfl (rIdxI rfl rfl rfl (by omega) (by omega) (by omega)) ?_
      refine st rfl rfl rfl rfl (rLdI rfl rfl (by omega)) ?_
      iterate 2 refine pu rfl rfl rfl rfl rfl ?_
      refine stg rfl rfl rfl rfl rfl (fun hb => by (have hq := hb; try simp only [zbA] at hq); exact rMove rfl rfl) ?_
      refine stg rfl rfl rfl rfl rfl (fun hb => by (have hq := hb; try simp only [zbA] at hq); exact rLss rfl (evg rfl hb) rfl) ?_
      refine stg rfl rfl rfl rfl rfl (fun hb => by (have hq := hb; try simp only [zbA] at hq); exact rMove rfl (evg rfl hb)) ?_
      refine stg2 rfl rfl rfl rfl rfl (fun hb => by (have hq := hb; try simp only [zbA] at hq); exact rMove rfl rfl) ?_
      refine stg2 rfl rfl rfl rfl rfl (fun hb => by (have hq := hb; try simp only [zbA] at hq); exact rMove rfl rfl) ?_
      refine stg2 rfl rfl rfl rfl rfl (fun hb => by (have hq := hb; try simp only [zbA] at hq); exact rIdxR rfl (evg rfl hb) (evg rfl hb) (by omega) (by omega) (by omega)) ?_
      refine stg2 rfl rfl rfl rfl rfl (fun hb => by (have hq := hb; try simp only [zbA] at hq); exact rLdR rfl (evg rfl hb) (by omega)) ?_
      refine stg2 rfl rfl rfl rfl rfl (fun hb => by (have hq := hb; try simp only [zbA] at hq); exact rMove rfl rfl) ?_
      refine stg2 rfl rfl rfl rfl rfl (fun hb => by (have hq := hb; try simp only [zbA] at hq); exact rIdxI rfl (evg rfl hb) (evg rfl hb) (by omega) (by omega) (by omega)) ?_
      refine stg2 rfl rfl rfl rfl rfl (fun hb => by (have hq := hb; try simp only [zbA] at hq); exact rLdI rfl (evg rfl hb) (by omega)) ?_
      refine stg2 rfl rfl rfl rfl rfl (fun hb => by (have hq := hb; try simp only [zbA] at hq); exact rMove rfl rfl) ?_
      refine stg2 rfl rfl rfl rfl rfl (fun hb => by (have hq := hb; try simp only [zbA] at hq); exact rLss rfl (evg rfl hb) (evg rfl hb)) ?_
      refine stg rfl rfl rfl rfl rfl (fun hb => by (have hq := hb; try simp only [zbA] at hq); exact rOrB rfl (evg rfl hb) rfl (evgp rfl hb)) ?_
      refine st rfl rfl rfl rfl (rAndB rfl rfl rfl rfl) ?_
      refine tr_cond_bool rfl (fun h10 => ?_) (fun h10 => ?_)
      · try simp only [zbA] at h10
        haveI : InB k.toNat ts.length := ⟨by omega⟩
        have htk := htr _ (getD_mem (show k.toNat < ts.length by omega) rowD)
        have htl := htk.1
        have hpos : 0 < (ts.getD k.toNat rowD).xs.length := by omega
        refine tr_region fun _ _ _ => ?_
        iterate 2 refine pu rfl rfl rfl rfl rfl ?_
        refine st rfl rfl rfl rfl (rIdxR rfl rfl rfl (by omega) (by omega) (by omega)) ?_
        refine st rfl rfl rfl rfl (rLdR rfl rfl (by omega)) ?_
        refine pu rfl rfl rfl rfl rfl ?_
        refine st rfl rfl rfl rfl (rIdxI rfl rfl rfl (by omega) (by omega) (by omega)) ?_
        refine st rfl rfl rfl rfl (rLdI rfl rfl (by omega)) ?_
        refine pu rfl rfl rfl rfl rfl ?_
        refine tr_region fun _ _ _ => ?_
        refine pu rfl rfl rfl rfl rfl ?_
        refine st rfl rfl rfl rfl (rAdd rfl rfl rfl (by omega) (by omega)) ?_
        refine pu rfl rfl rfl rfl rfl ?_
        refine ⟨i + 1, (ts.getD k.toNat rowD).xs.getD i.toNat 0, ⟨rfl, rfl, rfl, rfl, rfl, rfl, rfl, rfl, rfl, rfl, trivial⟩, by first | exact cs _ _ | exact CSub.refl _, ?_⟩
        exact ⟨⟨⟨by omega, by omega⟩, by rw [show (i + 1).toNat = i.toNat + 1 by omega, sec_yes (by rw [← hs]; omega)]⟩, by omega⟩
      · try simp only [zbA] at h10
        refine tr_skip ?_
        refine tr_region fun _ _ _ => ?_
        refine pu rfl rfl rfl rfl rfl ?_
        refine st rfl rfl rfl rfl (rAdd rfl rfl rfl (by omega) (by omega)) ?_
        refine pu rfl rfl rfl rfl rfl ?_
        refine ⟨i + 1, s, ⟨rfl, rfl, rfl, rfl, rfl, rfl, rfl, rfl, rfl, rfl, trivial⟩, by first | exact cs _ _ | exact CSub.refl _, ?_⟩
        exact ⟨⟨⟨by omega, by omega⟩, by rw [show (i + 1).toNat = i.toNat + 1 by omega, sec_no (by rw [← hs]; omega)]; exact hs⟩, by omega⟩
    · try simp only [zbA] at h8
      refine tr_exit ?_
      haveI : InB k.toNat ts.length := ⟨by omega⟩
      have htk := htr _ (getD_mem (show k.toNat < ts.length by omega) rowD)
      have htl := htk.1
      have hpos : 0 < (ts.getD k.toNat rowD).xs.length := by omega
      have hhk := hardL_getD ts (show k.toNat < ts.length by omega)
      have hhl := hardI_lt hpos
      have hhln := hardL_length ts
      have hsb := sec_bd (b := hardI (ts.getD k.toNat rowD).xs) htk.2 (by omega) i.toNat (by omega)
      have hrb := htk.at (hardI (ts.getD k.toNat rowD).xs)
      refine tr_plan [ow A1 3 c1 (ints (hardL ts)), ro T (hdrs ts), rowsR ts] [(0, 0), (0, 1), (2, 2), (2, 3), (0, 4), (0, 5), (2, 6), (2, 7), (0, 8), (0, 9), (0, 10), (0, 11), (0, 12), (0, 13), (1, 14), (0, 15)] mixed (by kernel_rfl) fun _ _ _ => ?_
      iterate 2 refine pu rfl rfl rfl rfl rfl ?_
      refine stF rfl rfl rfl rfl (cs _ _) (rMove rfl rfl) ?_
      refine stF rfl rfl rfl rfl (cs _ _) (rMove rfl rfl) ?_
      refine st rfl rfl rfl rfl (rIdxR rfl rfl rfl (by omega) (by omega) (by omega)) ?_
      refine st rfl rfl rfl rfl (rLdR rfl rfl (by omega)) ?_
      refine stF rfl rfl rfl rfl (cs _ _) (rMove rfl rfl) ?_
      refine stF rfl rfl rfl rfl (cs _ _) (rMove rfl rfl) ?_
      refine st rfl rfl rfl rfl (rIdxI rfl rfl rfl (by omega) (by omega) (by omega)) ?_
      refine st rfl rfl rfl rfl (rLdI rfl rfl (by omega)) ?_
      simp only [hhk, Int.toNat_natCast]
      refine st rfl rfl rfl rfl (rIdxI rfl rfl rfl (by omega) (by omega) (by omega)) ?_
      refine st rfl rfl rfl rfl (rLdI rfl rfl (by omega)) ?_
      simp only [Int.toNat_natCast]
      refine st rfl rfl rfl rfl (rSub rfl rfl rfl (by omega) (by omega)) ?_
      refine ef rfl rfl (eLit1I rfl rfl rfl rfl (fun A12 => ?_)) 
      refine ef rfl rfl (eAppI rfl rfl rfl rfl rfl (by first | rfl | simp | omega) (by first | rfl | simp | omega) (by first | omega | (simp; omega)) (fun A12a c12a => ?_)) 
      refine ⟨cs _ _, ?_⟩
      refine pu rfl rfl rfl rfl rfl ?_
      refine tr_region fun _ _ _ => ?_
      refine pu rfl rfl rfl rfl rfl ?_
      refine st rfl rfl rfl rfl (rAdd rfl rfl rfl (by omega) (by omega)) ?_
      refine pu rfl rfl rfl rfl rfl ?_
      refine ⟨k + 1, A12a, c12a, o ++ [s - (ts.getD k.toNat rowD).xs.getD (hardI (ts.getD k.toNat rowD).xs) 0], ⟨rfl, rfl, rfl, rfl, rfl, trivial⟩, by first | exact cs _ _ | exact CSub.refl _, ?_⟩
      have hkk : (k + 1).toNat = k.toNat + 1 := by omega
      have hsh : s - (ts.getD k.toNat rowD).xs.getD (hardI (ts.getD k.toNat rowD).xs) 0 = relI (ts.getD k.toNat rowD).xs := by rw [hs, show i.toNat = (ts.getD k.toNat rowD).xs.length by omega]; rfl
      exact ⟨⟨⟨by omega, by omega⟩, by rw [hkk, relL_take ts (by omega), ← ho, hsh]⟩, by omega⟩
  · try simp only [zbA] at h4
    refine tr_exit ?_
    refine tr_seq ?_
    refine tr_region fun _ _ _ => ?_
    iterate 2 refine pu rfl rfl rfl rfl rfl ?_
    have hkt : k.toNat = ts.length := by omega
    have ho2 : o = relL ts := by rw [ho, hkt, ← relL_length, List.take_length]
    subst ho2
    exact tr_ret ⟨trivial, _, _, rfl, ⟨_, rfl, B, cb, rfl, rfl⟩, cs _ _, trivial, trivial⟩
theorem ref_CListC_ent : Enters Tryz.prog 39 := enters_of Tryz.func39 (by kernel_rfl) (by kernel_rfl)
theorem ref_CListC (p m : Int) (A : Option Addr) (c : Nat) (mod : List Int) [hF : IsF p m mod] (w : Int) (X : Option Addr) (nx cx : Nat) (l : List Int) (hnx : nx = l.length) (hl : l.length ≤ 17592186044415) :
    Pure Tryz.prog 39 #[.agg #[.int .i64 p, .int .i64 m, .slice A mod.length c], .slice X nx cx, .int .i64 w] [ro A (ints mod), ro X (ints l)] (isV (.int .i64 (wordC (pw p m) w l))) := by
  have hl9 := hF.short
  have hgq := hF.ord
  refine pure_of (args := [.agg #[.int .i64 p, .int .i64 m, .slice A mod.length c], .slice X nx cx, .int .i64 w]) 14 Tryz.func39 rfl rfl rfl ref_CListC_ent ⟨id, id, trivial⟩ (fun w0 => ?_)
  refine tr_seq ?_
  refine tr_region fun _ _ _ => ?_
  refine ef rfl rfl (eBox rfl rfl rfl rfl rfl (fun p0 => ?_)) 
  refine pu rfl rfl rfl rfl rfl ?_
  refine tr_seq ?_
  refine tr_seq ?_
  refine tr_region fun _ _ _ => ?_
  refine pu rfl rfl rfl rfl rfl ?_
  refine st rfl rfl rfl rfl (rLen rfl rfl) ?_
  iterate 2 refine pu rfl rfl rfl rfl rfl ?_
  refine tr_cond_bool rfl (fun h1 => ?_) (fun h1 => ?_)
  · try simp only [zbA] at h1
    refine tr_seq ?_
    refine tr_region fun _ _ _ => ?_
    refine pu rfl rfl rfl rfl rfl ?_
    exact tr_ret ⟨trivial, _, _, rfl, ⟨by rw [wordC_len (by omega)], rfl⟩, CSub.nil _, trivial⟩
  · try simp only [zbA] at h1
    refine tr_skip ?_
    refine tr_seq ?_
    refine tr_region fun _ _ _ => ?_
    refine st rfl rfl rfl rfl (rLdS rfl rfl rfl) ?_
    refine pu rfl rfl rfl rfl rfl ?_
    refine ef rfl rfl (eCallV rfl rfl rfl (ref_Entries p m A c mod X nx cx l hnx (by omega)) ⟨rfl, rfl, trivial⟩ ?_) 
    refine pu rfl rfl rfl rfl rfl ?_
    exact tr_ret ⟨trivial, _, _, rfl, ⟨by rw [wordC_ent (by omega), hgq], rfl⟩, CSub.nil _, trivial⟩
theorem ref_CWordC_ent : Enters Tryz.prog 12 := enters_of Tryz.func12 (by kernel_rfl) (by kernel_rfl)
theorem ref_CWordC (p m : Int) (A : Option Addr) (c : Nat) (mod : List Int) [hF : IsF p m mod] (w : Int) (Aa : Option Addr) (n ca : Nat) (rs : List RowM) (hn : n = rs.length) (h9 : rs.length ≤ 256) (hc : CodeOk p m mod w rs) (X : Option Addr) (nx cx : Nat) (l : List Int) (hnx : nx = l.length) (hl : l.length ≤ 17592186044415) :
    Pure Tryz.prog 12 #[.agg #[.int .i64 p, .int .i64 m, .slice A mod.length c, .int .i64 w, .slice Aa n ca], .slice X nx cx] [ro A (ints mod), ro Aa (hdrs rs), rowsR rs, ro X (ints l)] (isV (.int .i64 (wordC (pw p m) w l))) := by
  have hl9 := hF.short
  have hn1 := hc.n1
  have hn64 := hc.n64
  have hlen := hc.len
  have hgd := hc.good
  have h8 := hgd.h8 (N := 17592186044415) (by omega)
  have hck := hc.zero
  refine pure_of (args := [.agg #[.int .i64 p, .int .i64 m, .slice A mod.length c, .int .i64 w, .slice Aa n ca], .slice X nx cx]) 17 Tryz.func12 rfl rfl rfl ref_CWordC_ent ⟨id, id, id, id, trivial⟩ (fun w0 => ?_)
  refine tr_seq ?_
  refine tr_region fun _ _ _ => ?_
  refine ef rfl rfl (eBox rfl rfl rfl rfl rfl (fun p0 => ?_)) 
  refine pu rfl rfl rfl rfl rfl ?_
  refine tr_seq ?_
  refine tr_region fun _ _ _ => ?_
  refine st rfl rfl rfl rfl (rLdS rfl rfl rfl) ?_
  refine ef rfl rfl (eCallV rfl rfl rfl (ref_CCheck _ _ _ _ _ (by omega) w Aa _ ca rs hn (by omega) h8) ⟨rfl, trivial⟩ ?_) 
  refine pu rfl rfl rfl rfl rfl ?_
  refine tr_seq ?_
  refine tr_seq ?_
  refine tr_region fun _ _ _ => ?_
  iterate 2 refine pu rfl rfl rfl rfl rfl ?_
  refine tr_cond_bool rfl (fun h2 => ?_) (fun h2 => ?_)
  · try simp only [zbA] at h2
    refine tr_region fun _ _ _ => ?_
    refine st rfl rfl rfl rfl (rFld rfl rfl) ?_
    refine st rfl rfl rfl rfl (rLdSF rfl rfl) ?_
    refine pu rfl rfl rfl rfl rfl ?_
    refine st rfl rfl rfl rfl (rFld rfl rfl) ?_
    refine st rfl rfl rfl rfl (rLdF rfl rfl rfl) ?_
    refine ef rfl rfl (eCallV rfl rfl rfl (ref_CListC p m A c mod w X nx cx l hnx hl) ⟨rfl, rfl, rfl, trivial⟩ ?_) 
    refine pu rfl rfl rfl rfl rfl ?_
    refine tr_seq ?_
    refine tr_region fun _ _ _ => ?_
    iterate 2 refine pu rfl rfl rfl rfl rfl ?_
    exact tr_ret ⟨trivial, _, _, rfl, ⟨rfl, rfl⟩, CSub.nil _, trivial⟩
  · try simp only [zbA] at h2
    omega --done
end Go.Proofs.YtoalphamojhpcaaGreat

set_option linter.unusedSimpArgs false
set_option linter.unusedVariables false
namespace Go.Proofs.YtoalphamojhpcaaGreat
open Go.RowKit
theorem ro_cut {A : Option Addr} {l : List Int} (i c : Nat) (hc : l.length ≤ c) (F : List Chunk) : CSub (ro A (ints l) :: F) (ro (cutA A i c) (ints (l.drop i)) :: ro A (ints l) :: F) := by
  by_cases h : i < c
  · have := ro_partI (A := A) (l := l) i l.length c h F
    rwa [List.take_of_length_le (by simp)] at this
  · have h0 : l.drop i = [] := List.drop_eq_nil_of_le (by omega)
    rw [h0]
    exact CSub.dup (c := ro A (ints l)) (d := ro (cutA A i c) (ints [])) ⟨fun w h j hj => by simp [ints] at hj, fun b hb => absurd rfl hb.1, fun h => h⟩ (fun h => h) F
theorem ro_pre {A : Option Addr} {l : List Int} (i : Nat) (F : List Chunk) : CSub (ro A (ints l) :: F) (ro A (ints (l.take i)) :: ro A (ints l) :: F) :=
  CSub.dup (c := ro A (ints l)) (d := ro A (ints (l.take i))) ⟨fun w h j hj => by
    have e : ints (l.take i) = (ints l).take i := by simp [ints, List.map_take]
    have hj' : j < ((ints l).take i).length := by rw [← e]; exact hj
    rw [List.length_take] at hj'
    obtain ⟨ad, h1, h2⟩ := h j (by omega)
    refine ⟨ad, h1, ?_⟩
    rw [h2]
    congr 1
    simp only [e, List.getElem_take], fun b hb => ⟨fun e => hb.1 (by
      have e2 : ints (l.take i) = (ints l).take i := by simp [ints, List.map_take]
      rw [e2, e, List.take_nil]), hb.2⟩, fun h => h⟩ (fun h => h) F
theorem ow_split2 {e : TypeId} {A : Option Addr} {cap : Nat} {l : List Int} (i j : Nat) (hc : l.length ≤ cap) (F : List Chunk) : CSub (ow A e cap (ints l) :: F) (ro A (ints (l.take i)) :: ro (cutA A j cap) (ints (l.drop j)) :: F) :=
  (ow_ro F).trans ((ro_pre i F).trans (CSub.cons _ ((ro_cut j cap hc F).trans (CSub.cons _ (CSub.drop _ _)))))
end Go.Proofs.YtoalphamojhpcaaGreat

set_option linter.unusedSimpArgs false
set_option linter.unusedVariables false
set_option maxRecDepth 100000
namespace Go.Proofs.YtoalphamojhpcaaGreat
open Go.RowKit
def othT (ts : List RowM) (l : List Int) : Nat → List Int
  | 0 => []
  | k + 1 => othT ts l k ++ if l.getD k 0 = (hardL ts).getD k 0 then [(relL ts).getD k 0] else []
theorem othT_yes {ts : List RowM} {l : List Int} {k : Nat} (h : l.getD k 0 = (hardL ts).getD k 0) : othT ts l (k + 1) = othT ts l k ++ [(relL ts).getD k 0] := by rw [othT, if_pos h]
theorem othT_no {ts : List RowM} {l : List Int} {k : Nat} (h : ¬ l.getD k 0 = (hardL ts).getD k 0) : othT ts l (k + 1) = othT ts l k := by rw [othT, if_neg h, List.append_nil]
theorem othT_le (ts : List RowM) (l : List Int) : ∀ k, (othT ts l k).length ≤ k
  | 0 => Nat.le_refl _
  | k + 1 => by
    have := othT_le ts l k
    by_cases h : l.getD k 0 = (hardL ts).getD k 0
    · rw [othT_yes h, List.length_append]; simp; omega
    · rw [othT_no h]; omega
theorem relL_bd {ts : List RowM} {q : Int} (htr : ∀ r ∈ ts, RowOk q r.xs) (h2 : 2 ≤ q) (k : Nat) : 0 ≤ (relL ts).getD k 0 ∧ (relL ts).getD k 0 ≤ 2147483648 := by
  by_cases h : k < ts.length
  · rw [relL_getD ts h]
    have hr := htr _ (getD_mem h rowD)
    have hl := hr.1
    have h0 : 0 < (ts.getD k rowD).xs.length := by omega
    have hh := hardI_lt h0
    have hb := sec_bd (b := hardI (ts.getD k rowD).xs) hr.2 (by omega) (ts.getD k rowD).xs.length (Nat.le_refl _)
    have ha := hr.at (hardI (ts.getD k rowD).xs)
    have hn : ∃ j, j < (ts.getD k rowD).xs.length ∧ j ≠ hardI (ts.getD k rowD).xs := by
      by_cases e : hardI (ts.getD k rowD).xs = 0
      · exact ⟨1, by omega, by omega⟩
      · exact ⟨0, h0, fun e' => e e'.symm⟩
    have hnn := sec_nn (b := hardI (ts.getD k rowD).xs) (fun x hx => (hr.2 x hx).1) (ts.getD k rowD).xs.length (Nat.le_refl _) hn
    have key : ∀ k', k' ≤ (ts.getD k rowD).xs.length → 0 ≤ sec (ts.getD k rowD).xs (hardI (ts.getD k rowD).xs) k' → (ts.getD k rowD).xs.getD (hardI (ts.getD k rowD).xs) 0 ≤ sec (ts.getD k rowD).xs (hardI (ts.getD k rowD).xs) k' := fun k' => by
      induction k' with
      | zero => intro _ h; rw [sec] at h; omega
      | succ k' ih =>
        intro hk
        rw [sec]
        split
        · intro _; exact hardI_min (by omega)
        · exact ih (by omega)
    have := key _ (Nat.le_refl _) hnn
    unfold relI
    omega
  · rw [getD_out (by rw [relL_length]; omega)]; omega
theorem othT_bd {ts : List RowM} {q : Int} (htr : ∀ r ∈ ts, RowOk q r.xs) (h2 : 2 ≤ q) (l : List Int) : ∀ k, ∀ x ∈ othT ts l k, 0 ≤ x ∧ x ≤ 2147483648
  | 0, x, h => by simp [othT] at h
  | k + 1, x, h => by
    by_cases he : l.getD k 0 = (hardL ts).getD k 0
    · rw [othT_yes he] at h
      rcases List.mem_append.1 h with h | h
      · exact othT_bd htr h2 l k x h
      · rw [List.mem_singleton.1 h]; exact relL_bd htr h2 k
    · rw [othT_no he] at h; exact othT_bd htr h2 l k x h
theorem sum_bd : ∀ {l : List Int}, (∀ x ∈ l, 0 ≤ x ∧ x ≤ 2147483648) → 0 ≤ l.sum ∧ l.sum ≤ l.length * 2147483648
  | [], _ => by simp
  | x :: l, h => by
    have h1 := h x (List.mem_cons_self ..)
    have h2 := sum_bd fun y hy => h y (List.mem_cons_of_mem _ hy)
    rw [List.sum_cons, List.length_cons]
    omega
theorem sum_take (l : List Int) {k : Nat} (h : k < l.length) : (l.take (k + 1)).sum = (l.take k).sum + l.getD k 0 := by
  rw [List.take_add_one, List.getElem?_eq_getElem h, List.sum_append, List.getD_eq_getElem?_getD, List.getElem?_eq_getElem h]
  simp
def cerK (ts : List RowM) (l : List Int) (d : Int) : Nat := (min (max (d - ((ts.length : Int) - (othT ts l ts.length).length)) 0) ((othT ts l ts.length).length : Int)).toNat
def cerS (ts : List RowM) (l : List Int) (d : Int) : Int := ((sortI (othT ts l ts.length)).take (cerK ts l d)).sum
def cerB (ts : List RowM) (l : List Int) (d : Int) : Bool := decide (cstL (xss ts) l - cstL (xss ts) (hardL ts) ≤ cerS ts l d)
theorem cerK_le (ts : List RowM) (l : List Int) (d : Int) : cerK ts l d ≤ (othT ts l ts.length).length := by unfold cerK; omega
theorem hardL_in {q : Int} {ts : List RowM} (hq : 2 ≤ q) (htr : ∀ r ∈ ts, RowOk q r.xs) : AllIn q (hardL ts) := fun x hx => by
  obtain ⟨r, hr, rfl⟩ := List.mem_map.1 hx
  obtain ⟨r', hr', rfl⟩ := List.mem_map.1 hr
  have h := (htr r' hr').1
  have := hardI_lt (r := r'.xs) (by omega)
  omega
theorem erase_take (l : List Int) (i : Nat) : l.take i ++ l.drop (i + 1) = l.eraseIdx i := (List.eraseIdx_eq_take_drop_succ ..).symm
theorem ord_CertE_ent : Enters Tryz.prog 10 := enters_of Tryz.func10 (by kernel_rfl) (by kernel_rfl)
theorem ord_CertE (p m : Int) (A : Option Addr) (c : Nat) (mod : List Int) (hl9 : mod.length ≤ 17592186044415) (w : Int) (Aa : Option Addr) (n ca : Nat) (rs : List RowM) (hn : n = rs.length) (h9 : rs.length ≤ 17592186044415) (h8 : ∀ r ∈ rs, r.xs.length ≤ 17592186044415) (he : codC p m mod w rs ≠ 0) (T : Option Addr) (nt ct : Nat) (ts : List RowM) (hnt : nt = ts.length) (t9 : ts.length ≤ 17592186044415) (t8 : ∀ r ∈ ts, r.xs.length ≤ 17592186044415) (X : Option Addr) (nx cx : Nat) (l : List Int) (hnx : nx = l.length) (hl : l.length ≤ 17592186044415) (d : Int) :
    Pure Tryz.prog 10 #[.agg #[.int .i64 p, .int .i64 m, .slice A mod.length c, .int .i64 w, .slice Aa n ca], .slice T nt ct, .slice X nx cx, .int .i64 d] [ro A (ints mod), ro Aa (hdrs rs), rowsR rs, ro T (hdrs ts), rowsR ts, ro X (ints l)] (isV (.tuple #[.bool false, .int .i64 (codC p m mod w rs)])) := by
  refine pure_of (args := [.agg #[.int .i64 p, .int .i64 m, .slice A mod.length c, .int .i64 w, .slice Aa n ca], .slice T nt ct, .slice X nx cx, .int .i64 d]) 113 Tryz.func10 rfl rfl rfl ord_CertE_ent ⟨id, id, id, id, id, id, trivial⟩ (fun w0 => ?_)
  refine tr_seq ?_
  refine tr_region fun _ _ _ => ?_
  refine ef rfl rfl (eBox rfl rfl rfl rfl rfl (fun p0 => ?_)) 
  iterate 2 refine pu rfl rfl rfl rfl rfl ?_
  refine tr_seq ?_
  refine tr_region fun _ _ _ => ?_
  refine st rfl rfl rfl rfl (rLdS rfl rfl rfl) ?_
  refine pu rfl rfl rfl rfl rfl ?_
  refine ef rfl rfl (eCallV rfl rfl rfl (ord_checkedE p m A c mod hl9 w Aa n ca rs hn h9 h8 he T nt ct ts hnt t9 t8) ⟨rfl, rfl, trivial⟩ ?_) 
  iterate 5 refine pu rfl rfl rfl rfl rfl ?_
  refine tr_seq ?_
  refine tr_seq ?_
  refine tr_region fun _ _ _ => ?_
  iterate 2 refine pu rfl rfl rfl rfl rfl ?_
  refine tr_cond_bool rfl (fun h2 => ?_) (fun h2 => ?_)
  · try simp only [zbA] at h2
    refine tr_seq ?_
    refine tr_region fun _ _ _ => ?_
    iterate 3 refine pu rfl rfl rfl rfl rfl ?_
    exact tr_ret ⟨trivial, _, _, rfl, ⟨rfl, rfl⟩, CSub.nil _, trivial⟩
  · try simp only [zbA] at h2
    omega --done
theorem ord_CertR_ent : Enters Tryz.prog 10 := enters_of Tryz.func10 (by kernel_rfl) (by kernel_rfl)
theorem ord_CertR (p m : Int) (A : Option Addr) (c : Nat) (mod : List Int) [hF : IsF p m mod] (w : Int) (Aa : Option Addr) (n ca : Nat) (rs : List RowM) (hn : n = rs.length) (h9 : rs.length ≤ 256) (hc : CodeOk p m mod w rs) (T : Option Addr) (nt ct : Nat) (ts : List RowM) (hnt : nt = ts.length) (t9 : ts.length ≤ 17592186044415) (t8 : ∀ r ∈ ts, r.xs.length ≤ 17592186044415) (ho : ordC (pw p m) w (xss ts) ≠ 0) (X : Option Addr) (nx cx : Nat) (l : List Int) (hnx : nx = l.length) (hl : l.length ≤ 17592186044415) (d : Int) :
    Pure Tryz.prog 10 #[.agg #[.int .i64 p, .int .i64 m, .slice A mod.length c, .int .i64 w, .slice Aa n ca], .slice T nt ct, .slice X nx cx, .int .i64 d] [ro A (ints mod), ro Aa (hdrs rs), rowsR rs, ro T (hdrs ts), rowsR ts, ro X (ints l)] (isV (.tuple #[.bool false, .int .i64 (ordC (pw p m) w (xss ts))])) := by
  refine pure_of (args := [.agg #[.int .i64 p, .int .i64 m, .slice A mod.length c, .int .i64 w, .slice Aa n ca], .slice T nt ct, .slice X nx cx, .int .i64 d]) 113 Tryz.func10 rfl rfl rfl ord_CertR_ent ⟨id, id, id, id, id, id, trivial⟩ (fun w0 => ?_)
  refine tr_seq ?_
  refine tr_region fun _ _ _ => ?_
  refine ef rfl rfl (eBox rfl rfl rfl rfl rfl (fun p0 => ?_)) 
  iterate 2 refine pu rfl rfl rfl rfl rfl ?_
  refine tr_seq ?_
  refine tr_region fun _ _ _ => ?_
  refine st rfl rfl rfl rfl (rLdS rfl rfl rfl) ?_
  refine pu rfl rfl rfl rfl rfl ?_
  refine ef rfl rfl (eCallV rfl rfl rfl (ord_checkedR p m A c mod w Aa n ca rs hn h9 hc T nt ct ts hnt t9 t8 ho) ⟨rfl, rfl, trivial⟩ ?_) 
  iterate 5 refine pu rfl rfl rfl rfl rfl ?_
  refine tr_seq ?_
  refine tr_seq ?_
  refine tr_region fun _ _ _ => ?_
  iterate 2 refine pu rfl rfl rfl rfl rfl ?_
  refine tr_cond_bool rfl (fun h2 => ?_) (fun h2 => ?_)
  · try simp only [zbA] at h2
    refine tr_seq ?_
    refine tr_region fun _ _ _ => ?_
    iterate 3 refine pu rfl rfl rfl rfl rfl ?_
    exact tr_ret ⟨trivial, _, _, rfl, ⟨rfl, rfl⟩, CSub.nil _, trivial⟩
  · try simp only [zbA] at h2
    omega --done
theorem ord_CertW_ent : Enters Tryz.prog 10 := enters_of Tryz.func10 (by kernel_rfl) (by kernel_rfl)
theorem ord_CertW (p m : Int) (A : Option Addr) (c : Nat) (mod : List Int) [hF : IsF p m mod] (w : Int) (Aa : Option Addr) (n ca : Nat) (rs : List RowM) (hn : n = rs.length) (h9 : rs.length ≤ 256) (hc : CodeOk p m mod w rs) (T : Option Addr) (nt ct : Nat) (ts : List RowM) (hnt : nt = ts.length) (t9 : ts.length ≤ 17592186044415) (t8 : ∀ r ∈ ts, r.xs.length ≤ 17592186044415) (ho : ordC (pw p m) w (xss ts) = 0) (X : Option Addr) (nx cx : Nat) (l : List Int) (hnx : nx = l.length) (hl : l.length ≤ 17592186044415) (d : Int) (hw : wordC (pw p m) w l ≠ 0) :
    Pure Tryz.prog 10 #[.agg #[.int .i64 p, .int .i64 m, .slice A mod.length c, .int .i64 w, .slice Aa n ca], .slice T nt ct, .slice X nx cx, .int .i64 d] [ro A (ints mod), ro Aa (hdrs rs), rowsR rs, ro T (hdrs ts), rowsR ts, ro X (ints l)] (isV (.tuple #[.bool false, .int .i64 (wordC (pw p m) w l)])) := by
  have hl9 := hF.short
  have hn1 := hc.n1
  have hn64 := hc.n64
  have hlen := hc.len
  have hgd := hc.good
  have h8 := hgd.h8 (N := 17592186044415) (by omega)
  have hck := hc.zero
  have hq2 := hF.q2
  have htab := ordC_zero ho
  have htl := htab.len
  have hq256 := hF.out.1.1.q
  refine pure_of (args := [.agg #[.int .i64 p, .int .i64 m, .slice A mod.length c, .int .i64 w, .slice Aa n ca], .slice T nt ct, .slice X nx cx, .int .i64 d]) 113 Tryz.func10 rfl rfl rfl ord_CertW_ent ⟨id, id, id, id, id, id, trivial⟩ (fun w0 => ?_)
  refine tr_seq ?_
  refine tr_region fun _ _ _ => ?_
  refine ef rfl rfl (eBox rfl rfl rfl rfl rfl (fun p0 => ?_)) 
  iterate 2 refine pu rfl rfl rfl rfl rfl ?_
  refine tr_seq ?_
  refine tr_region fun _ _ _ => ?_
  refine st rfl rfl rfl rfl (rLdS rfl rfl rfl) ?_
  refine pu rfl rfl rfl rfl rfl ?_
  refine ef rfl rfl (eCall1 rfl rfl rfl (ord_checkedG p m A c mod w Aa n ca rs hn h9 hc T nt ct ts hnt t9 t8 ho) ⟨rfl, rfl, trivial⟩ ?_) 
  rintro _ _ ⟨g, rfl, rfl, hg⟩
  iterate 5 refine pu rfl rfl rfl rfl rfl ?_
  refine tr_seq ?_
  refine tr_seq ?_
  refine tr_region fun _ _ _ => ?_
  iterate 2 refine pu rfl rfl rfl rfl rfl ?_
  refine tr_cond_bool rfl (fun h2 => ?_) (fun h2 => ?_)
  · try simp only [zbA] at h2
    first | exact absurd trivial h2 | exact absurd rfl h2 | omega | (exact absurd h2 (by simp)) --done
  · try simp only [zbA] at h2
    refine tr_skip ?_
    refine tr_seq ?_
    refine tr_seq ?_
    refine tr_region fun _ _ _ => ?_
    refine pu rfl rfl rfl rfl rfl ?_
    refine st rfl rfl rfl rfl (rFld rfl rfl) ?_
    refine st rfl rfl rfl rfl (rLdF rfl rfl rfl) ?_
    refine pu rfl rfl rfl rfl rfl ?_
    refine ef rfl rfl (eCallV rfl rfl rfl (ord_word g (pw p m) hg.eq w X nx cx l hnx hl) ⟨rfl, rfl, rfl, trivial⟩ ?_) 
    refine pu rfl rfl rfl rfl rfl ?_
    refine tr_seq ?_
    refine tr_region fun _ _ _ => ?_
    iterate 2 refine pu rfl rfl rfl rfl rfl ?_
    refine tr_cond_bool rfl (fun h5 => ?_) (fun h5 => ?_)
    · try simp only [zbA] at h5
      refine tr_seq ?_
      refine tr_region fun _ _ _ => ?_
      iterate 3 refine pu rfl rfl rfl rfl rfl ?_
      exact tr_ret ⟨trivial, _, _, rfl, ⟨rfl, rfl⟩, CSub.nil _, trivial⟩
    · try simp only [zbA] at h5
      omega --done
theorem ord_CertN_ent : Enters Tryz.prog 10 := enters_of Tryz.func10 (by kernel_rfl) (by kernel_rfl)
theorem ord_CertN (p m : Int) (A : Option Addr) (c : Nat) (mod : List Int) [hF : IsF p m mod] (w : Int) (Aa : Option Addr) (n ca : Nat) (rs : List RowM) (hn : n = rs.length) (h9 : rs.length ≤ 256) (hc : CodeOk p m mod w rs) (T : Option Addr) (nt ct : Nat) (ts : List RowM) (hnt : nt = ts.length) (t9 : ts.length ≤ 17592186044415) (t8 : ∀ r ∈ ts, r.xs.length ≤ 17592186044415) (ho : ordC (pw p m) w (xss ts) = 0) (X : Option Addr) (nx cx : Nat) (l : List Int) (hnx : nx = l.length) (hl : l.length ≤ 17592186044415) (d : Int) (hw : wordC (pw p m) w l = 0) (hm : memB p m mod rs l = false) :
    Pure Tryz.prog 10 #[.agg #[.int .i64 p, .int .i64 m, .slice A mod.length c, .int .i64 w, .slice Aa n ca], .slice T nt ct, .slice X nx cx, .int .i64 d] [ro A (ints mod), ro Aa (hdrs rs), rowsR rs, ro T (hdrs ts), rowsR ts, ro X (ints l)] (isV (.tuple #[.bool false, .int .i64 11])) := by
  have hl9 := hF.short
  have hn1 := hc.n1
  have hn64 := hc.n64
  have hlen := hc.len
  have hgd := hc.good
  have h8 := hgd.h8 (N := 17592186044415) (by omega)
  have hck := hc.zero
  have hq2 := hF.q2
  have htab := ordC_zero ho
  have htl := htab.len
  have hq256 := hF.out.1.1.q
  obtain ⟨hlw, hin⟩ := wordC_zero hw
  refine pure_of (args := [.agg #[.int .i64 p, .int .i64 m, .slice A mod.length c, .int .i64 w, .slice Aa n ca], .slice T nt ct, .slice X nx cx, .int .i64 d]) 113 Tryz.func10 rfl rfl rfl ord_CertN_ent ⟨id, id, id, id, id, id, trivial⟩ (fun w0 => ?_)
  refine tr_seq ?_
  refine tr_region fun _ _ _ => ?_
  refine ef rfl rfl (eBox rfl rfl rfl rfl rfl (fun p0 => ?_)) 
  iterate 2 refine pu rfl rfl rfl rfl rfl ?_
  refine tr_seq ?_
  refine tr_region fun _ _ _ => ?_
  refine st rfl rfl rfl rfl (rLdS rfl rfl rfl) ?_
  refine pu rfl rfl rfl rfl rfl ?_
  refine ef rfl rfl (eCall1 rfl rfl rfl (ord_checkedG p m A c mod w Aa n ca rs hn h9 hc T nt ct ts hnt t9 t8 ho) ⟨rfl, rfl, trivial⟩ ?_) 
  rintro _ _ ⟨g, rfl, rfl, hg⟩
  iterate 5 refine pu rfl rfl rfl rfl rfl ?_
  refine tr_seq ?_
  refine tr_seq ?_
  refine tr_region fun _ _ _ => ?_
  iterate 2 refine pu rfl rfl rfl rfl rfl ?_
  refine tr_cond_bool rfl (fun h2 => ?_) (fun h2 => ?_)
  · try simp only [zbA] at h2
    first | exact absurd trivial h2 | exact absurd rfl h2 | omega | (exact absurd h2 (by simp)) --done
  · try simp only [zbA] at h2
    refine tr_skip ?_
    refine tr_seq ?_
    refine tr_seq ?_
    refine tr_region fun _ _ _ => ?_
    refine pu rfl rfl rfl rfl rfl ?_
    refine st rfl rfl rfl rfl (rFld rfl rfl) ?_
    refine st rfl rfl rfl rfl (rLdF rfl rfl rfl) ?_
    refine pu rfl rfl rfl rfl rfl ?_
    refine ef rfl rfl (eCallV rfl rfl rfl (ord_word g (pw p m) hg.eq w X nx cx l hnx hl) ⟨rfl, rfl, rfl, trivial⟩ ?_) 
    refine pu rfl rfl rfl rfl rfl ?_
    refine tr_seq ?_
    refine tr_region fun _ _ _ => ?_
    iterate 2 refine pu rfl rfl rfl rfl rfl ?_
    refine tr_cond_bool rfl (fun h5 => ?_) (fun h5 => ?_)
    · try simp only [zbA] at h5
      omega --done
    · try simp only [zbA] at h5
      refine tr_skip ?_
      refine tr_seq ?_
      refine tr_seq ?_
      refine tr_region fun _ _ _ => ?_
      refine st rfl rfl rfl rfl (rLdS rfl rfl rfl) ?_
      refine pu rfl rfl rfl rfl rfl ?_
      refine ef rfl rfl (eCallV rfl rfl rfl (code_Has p m A c mod w Aa n ca rs hn h9 hc X nx cx l hnx hlw hin) ⟨rfl, rfl, trivial⟩ ?_) 
      iterate 5 refine pu rfl rfl rfl rfl rfl ?_
      refine tr_seq ?_
      refine tr_region fun _ _ _ => ?_
      refine pu rfl rfl rfl rfl rfl ?_
      refine st rfl rfl rfl rfl (rNotB rfl rfl) ?_
      refine tr_cond_bool rfl (fun h8 => ?_) (fun h8 => ?_)
      · try simp only [zbA] at h8
        refine tr_seq ?_
        refine tr_region fun _ _ _ => ?_
        iterate 2 refine pu rfl rfl rfl rfl rfl ?_
        exact tr_ret ⟨trivial, _, _, rfl, ⟨rfl, rfl⟩, CSub.nil _, trivial⟩
      · try simp only [zbA] at h8
        rw [hm] at h8; simp at h8 --done
theorem ord_CertD_ent : Enters Tryz.prog 10 := enters_of Tryz.func10 (by kernel_rfl) (by kernel_rfl)
theorem ord_CertD (p m : Int) (A : Option Addr) (c : Nat) (mod : List Int) [hF : IsF p m mod] (w : Int) (Aa : Option Addr) (n ca : Nat) (rs : List RowM) (hn : n = rs.length) (h9 : rs.length ≤ 256) (hc : CodeOk p m mod w rs) (T : Option Addr) (nt ct : Nat) (ts : List RowM) (hnt : nt = ts.length) (t9 : ts.length ≤ 17592186044415) (t8 : ∀ r ∈ ts, r.xs.length ≤ 17592186044415) (ho : ordC (pw p m) w (xss ts) = 0) (X : Option Addr) (nx cx : Nat) (l : List Int) (hnx : nx = l.length) (hl : l.length ≤ 17592186044415) (d : Int) (hw : wordC (pw p m) w l = 0) (hm : memB p m mod rs l = true) (hd : d < 1 ∨ d > w) :
    Pure Tryz.prog 10 #[.agg #[.int .i64 p, .int .i64 m, .slice A mod.length c, .int .i64 w, .slice Aa n ca], .slice T nt ct, .slice X nx cx, .int .i64 d] [ro A (ints mod), ro Aa (hdrs rs), rowsR rs, ro T (hdrs ts), rowsR ts, ro X (ints l)] (isV (.tuple #[.bool false, .int .i64 6])) := by
  have hl9 := hF.short
  have hn1 := hc.n1
  have hn64 := hc.n64
  have hlen := hc.len
  have hgd := hc.good
  have h8 := hgd.h8 (N := 17592186044415) (by omega)
  have hck := hc.zero
  have hq2 := hF.q2
  have htab := ordC_zero ho
  have htl := htab.len
  have hq256 := hF.out.1.1.q
  obtain ⟨hlw, hin⟩ := wordC_zero hw
  refine pure_of (args := [.agg #[.int .i64 p, .int .i64 m, .slice A mod.length c, .int .i64 w, .slice Aa n ca], .slice T nt ct, .slice X nx cx, .int .i64 d]) 113 Tryz.func10 rfl rfl rfl ord_CertD_ent ⟨id, id, id, id, id, id, trivial⟩ (fun w0 => ?_)
  refine tr_seq ?_
  refine tr_region fun _ _ _ => ?_
  refine ef rfl rfl (eBox rfl rfl rfl rfl rfl (fun p0 => ?_)) 
  iterate 2 refine pu rfl rfl rfl rfl rfl ?_
  refine tr_seq ?_
  refine tr_region fun _ _ _ => ?_
  refine st rfl rfl rfl rfl (rLdS rfl rfl rfl) ?_
  refine pu rfl rfl rfl rfl rfl ?_
  refine ef rfl rfl (eCall1 rfl rfl rfl (ord_checkedG p m A c mod w Aa n ca rs hn h9 hc T nt ct ts hnt t9 t8 ho) ⟨rfl, rfl, trivial⟩ ?_) 
  rintro _ _ ⟨g, rfl, rfl, hg⟩
  iterate 5 refine pu rfl rfl rfl rfl rfl ?_
  refine tr_seq ?_
  refine tr_seq ?_
  refine tr_region fun _ _ _ => ?_
  iterate 2 refine pu rfl rfl rfl rfl rfl ?_
  refine tr_cond_bool rfl (fun h2 => ?_) (fun h2 => ?_)
  · try simp only [zbA] at h2
    first | exact absurd trivial h2 | exact absurd rfl h2 | omega | (exact absurd h2 (by simp)) --done
  · try simp only [zbA] at h2
    refine tr_skip ?_
    refine tr_seq ?_
    refine tr_seq ?_
    refine tr_region fun _ _ _ => ?_
    refine pu rfl rfl rfl rfl rfl ?_
    refine st rfl rfl rfl rfl (rFld rfl rfl) ?_
    refine st rfl rfl rfl rfl (rLdF rfl rfl rfl) ?_
    refine pu rfl rfl rfl rfl rfl ?_
    refine ef rfl rfl (eCallV rfl rfl rfl (ord_word g (pw p m) hg.eq w X nx cx l hnx hl) ⟨rfl, rfl, rfl, trivial⟩ ?_) 
    refine pu rfl rfl rfl rfl rfl ?_
    refine tr_seq ?_
    refine tr_region fun _ _ _ => ?_
    iterate 2 refine pu rfl rfl rfl rfl rfl ?_
    refine tr_cond_bool rfl (fun h5 => ?_) (fun h5 => ?_)
    · try simp only [zbA] at h5
      omega --done
    · try simp only [zbA] at h5
      refine tr_skip ?_
      refine tr_seq ?_
      refine tr_seq ?_
      refine tr_region fun _ _ _ => ?_
      refine st rfl rfl rfl rfl (rLdS rfl rfl rfl) ?_
      refine pu rfl rfl rfl rfl rfl ?_
      refine ef rfl rfl (eCallV rfl rfl rfl (code_Has p m A c mod w Aa n ca rs hn h9 hc X nx cx l hnx hlw hin) ⟨rfl, rfl, trivial⟩ ?_) 
      iterate 5 refine pu rfl rfl rfl rfl rfl ?_
      refine tr_seq ?_
      refine tr_region fun _ _ _ => ?_
      refine pu rfl rfl rfl rfl rfl ?_
      refine st rfl rfl rfl rfl (rNotB rfl rfl) ?_
      refine tr_cond_bool rfl (fun h8 => ?_) (fun h8 => ?_)
      · try simp only [zbA] at h8
        rw [hm] at h8; simp at h8 --done
      · try simp only [zbA] at h8
        refine tr_skip ?_
        refine tr_seq ?_
        refine tr_seq ?_
        refine tr_region fun _ _ _ => ?_
        iterate 3 refine pu rfl rfl rfl rfl rfl ?_
        refine stg rfl rfl rfl rfl rfl (fun hb => by (have hq := hb; try simp only [zbA] at hq); exact rMove rfl rfl) ?_
        refine stg rfl rfl rfl rfl rfl (fun hb => by (have hq := hb; try simp only [zbA] at hq); exact rFld rfl rfl) ?_
        refine stg rfl rfl rfl rfl rfl (fun hb => by (have hq := hb; try simp only [zbA] at hq); exact rLdF rfl (evg rfl hb) rfl) ?_
        refine stg rfl rfl rfl rfl rfl (fun hb => by (have hq := hb; try simp only [zbA] at hq); exact rGtr rfl (evg rfl hb) (evg rfl hb)) ?_
        refine st rfl rfl rfl rfl (rOrB rfl rfl rfl rfl) ?_
        refine tr_cond_bool rfl (fun h10 => ?_) (fun h10 => ?_)
        · try simp only [zbA] at h10
          refine tr_seq ?_
          refine tr_region fun _ _ _ => ?_
          iterate 2 refine pu rfl rfl rfl rfl rfl ?_
          exact tr_ret ⟨trivial, _, _, rfl, ⟨rfl, rfl⟩, CSub.nil _, trivial⟩
        · try simp only [zbA] at h10
          omega --done
theorem ord_CertG_ent : Enters Tryz.prog 10 := enters_of Tryz.func10 (by kernel_rfl) (by kernel_rfl)
theorem ord_CertG (p m : Int) (A : Option Addr) (c : Nat) (mod : List Int) [hF : IsF p m mod] (w : Int) (Aa : Option Addr) (n ca : Nat) (rs : List RowM) (hn : n = rs.length) (h9 : rs.length ≤ 256) (hc : CodeOk p m mod w rs) (T : Option Addr) (nt ct : Nat) (ts : List RowM) (hnt : nt = ts.length) (t9 : ts.length ≤ 17592186044415) (t8 : ∀ r ∈ ts, r.xs.length ≤ 17592186044415) (ho : ordC (pw p m) w (xss ts) = 0) (X : Option Addr) (nx cx : Nat) (l : List Int) (hnx : nx = l.length) (hl : l.length ≤ 17592186044415) (d : Int) (hw : wordC (pw p m) w l = 0) (hm : memB p m mod rs l = true) (hd1 : 1 ≤ d) (hd2 : d ≤ w) :
    Pure Tryz.prog 10 #[.agg #[.int .i64 p, .int .i64 m, .slice A mod.length c, .int .i64 w, .slice Aa n ca], .slice T nt ct, .slice X nx cx, .int .i64 d] [ro A (ints mod), ro Aa (hdrs rs), rowsR rs, ro T (hdrs ts), rowsR ts, ro X (ints l)] (isV (.tuple #[.bool (cerB ts l d), .int .i64 0])) := by
  have hl9 := hF.short
  have hn1 := hc.n1
  have hn64 := hc.n64
  have hlen := hc.len
  have hgd := hc.good
  have h8 := hgd.h8 (N := 17592186044415) (by omega)
  have hck := hc.zero
  have hq2 := hF.q2
  have htab := ordC_zero ho
  have htl := htab.len
  have hq256 := hF.out.1.1.q
  obtain ⟨hlw, hin⟩ := wordC_zero hw
  have hhl := hardL_length ts
  have hrl := relL_length ts
  have hlt : l.length = ts.length := by omega
  have hhin := hardL_in hq2 htab.row
  refine pure_of (args := [.agg #[.int .i64 p, .int .i64 m, .slice A mod.length c, .int .i64 w, .slice Aa n ca], .slice T nt ct, .slice X nx cx, .int .i64 d]) 113 Tryz.func10 rfl rfl rfl ord_CertG_ent ⟨id, id, id, id, id, id, trivial⟩ (fun w0 => ?_)
  refine tr_seq ?_
  refine tr_region fun _ _ _ => ?_
  refine ef rfl rfl (eBox rfl rfl rfl rfl rfl (fun p0 => ?_)) 
  iterate 2 refine pu rfl rfl rfl rfl rfl ?_
  refine tr_seq ?_
  refine tr_region fun _ _ _ => ?_
  refine st rfl rfl rfl rfl (rLdS rfl rfl rfl) ?_
  refine pu rfl rfl rfl rfl rfl ?_
  refine ef rfl rfl (eCall1 rfl rfl rfl (ord_checkedG p m A c mod w Aa n ca rs hn h9 hc T nt ct ts hnt t9 t8 ho) ⟨rfl, rfl, trivial⟩ ?_) 
  rintro _ _ ⟨g, rfl, rfl, hg⟩
  iterate 5 refine pu rfl rfl rfl rfl rfl ?_
  refine tr_seq ?_
  refine tr_seq ?_
  refine tr_region fun _ _ _ => ?_
  iterate 2 refine pu rfl rfl rfl rfl rfl ?_
  refine tr_cond_bool rfl (fun h2 => ?_) (fun h2 => ?_)
  · try simp only [zbA] at h2
    first | exact absurd trivial h2 | exact absurd rfl h2 | omega | (exact absurd h2 (by simp)) --done
  · try simp only [zbA] at h2
    refine tr_skip ?_
    refine tr_seq ?_
    refine tr_seq ?_
    refine tr_region fun _ _ _ => ?_
    refine pu rfl rfl rfl rfl rfl ?_
    refine st rfl rfl rfl rfl (rFld rfl rfl) ?_
    refine st rfl rfl rfl rfl (rLdF rfl rfl rfl) ?_
    refine pu rfl rfl rfl rfl rfl ?_
    refine ef rfl rfl (eCallV rfl rfl rfl (ord_word g (pw p m) hg.eq w X nx cx l hnx hl) ⟨rfl, rfl, rfl, trivial⟩ ?_) 
    refine pu rfl rfl rfl rfl rfl ?_
    refine tr_seq ?_
    refine tr_region fun _ _ _ => ?_
    iterate 2 refine pu rfl rfl rfl rfl rfl ?_
    refine tr_cond_bool rfl (fun h5 => ?_) (fun h5 => ?_)
    · try simp only [zbA] at h5
      omega --done
    · try simp only [zbA] at h5
      refine tr_skip ?_
      refine tr_seq ?_
      refine tr_seq ?_
      refine tr_region fun _ _ _ => ?_
      refine st rfl rfl rfl rfl (rLdS rfl rfl rfl) ?_
      refine pu rfl rfl rfl rfl rfl ?_
      refine ef rfl rfl (eCallV rfl rfl rfl (code_Has p m A c mod w Aa n ca rs hn h9 hc X nx cx l hnx hlw hin) ⟨rfl, rfl, trivial⟩ ?_) 
      iterate 5 refine pu rfl rfl rfl rfl rfl ?_
      refine tr_seq ?_
      refine tr_region fun _ _ _ => ?_
      refine pu rfl rfl rfl rfl rfl ?_
      refine st rfl rfl rfl rfl (rNotB rfl rfl) ?_
      refine tr_cond_bool rfl (fun h8 => ?_) (fun h8 => ?_)
      · try simp only [zbA] at h8
        rw [hm] at h8; simp at h8 --done
      · try simp only [zbA] at h8
        refine tr_skip ?_
        refine tr_seq ?_
        refine tr_seq ?_
        refine tr_region fun _ _ _ => ?_
        iterate 3 refine pu rfl rfl rfl rfl rfl ?_
        refine stg rfl rfl rfl rfl rfl (fun hb => by (have hq := hb; try simp only [zbA] at hq); exact rMove rfl rfl) ?_
        refine stg rfl rfl rfl rfl rfl (fun hb => by (have hq := hb; try simp only [zbA] at hq); exact rFld rfl rfl) ?_
        refine stg rfl rfl rfl rfl rfl (fun hb => by (have hq := hb; try simp only [zbA] at hq); exact rLdF rfl (evg rfl hb) rfl) ?_
        refine stg rfl rfl rfl rfl rfl (fun hb => by (have hq := hb; try simp only [zbA] at hq); exact rGtr rfl (evg rfl hb) (evg rfl hb)) ?_
        refine st rfl rfl rfl rfl (rOrB rfl rfl rfl rfl) ?_
        refine tr_cond_bool rfl (fun h10 => ?_) (fun h10 => ?_)
        · try simp only [zbA] at h10
          omega --done
        · try simp only [zbA] at h10
          refine tr_skip ?_
          refine tr_seq ?_
          refine tr_region fun _ _ _ => ?_
          refine pu rfl rfl rfl rfl rfl ?_
          refine ef rfl rfl (eCall2 rfl rfl rfl (ord_hard T nt ct ts hnt (pw p m) hq2 hq256 (by omega) htab.row) ⟨rfl, trivial⟩ ?_) 
          rintro _ _ _ ⟨B12, c12, D12, d12, rfl, rfl, rfl⟩
          iterate 5 refine pu rfl rfl rfl rfl rfl ?_
          refine tr_seq ?_
          refine tr_region fun _ _ _ => ?_
          refine pu rfl rfl rfl rfl rfl ?_
          refine tr_seq ?_
          refine tr_seq ?_
          refine tr_region fun _ _ _ => ?_
          refine pu rfl rfl rfl rfl rfl ?_
          refine st rfl rfl rfl rfl (rLen rfl rfl) ?_
          refine pu rfl rfl rfl rfl rfl ?_
          refine tr_block ?_
          refine tr_nilI 3 ?_
          refine tr_loop4 (fun (k : Int) (B : Option Addr) (cb : Nat) (o : List Int) => [(17, .slice B o.length cb), (62, .int .i64 k), (1, .slice T nt ct), (2, .slice X nx cx), (3, .int .i64 d), (4, .pointer (some p0)), (8, .bool false), (9, .int .i64 0), (15, .slice B12 (hardL ts).length c12), (16, .slice D12 (relL ts).length d12), (60, .slice X nx cx), (61, .int .i64 nx)]) (fun (k : Int) (B : Option Addr) (cb : Nat) (o : List Int) => [ow B 3 cb (ints o), ow B12 3 c12 (ints (hardL ts)), ow D12 3 d12 (ints (relL ts)), gfN g, blk p0 27 [.int .i64 p, .int .i64 m, .slice A mod.length c, .int .i64 w, .slice Aa n ca], ro A (ints mod), ro Aa (hdrs rs), rowsR rs, ro T (hdrs ts), rowsR ts, ro X (ints l)]) (fun (k : Int) (B : Option Addr) (cb : Nat) (o : List Int) => (0 ≤ k ∧ k ≤ nx) ∧ o = othT ts l k.toNat) (fun (k : Int) (B : Option Addr) (cb : Nat) (o : List Int) => (nx - k).toNat) (0) (none) (0) ([]) ⟨rfl, rfl, rfl, rfl, rfl, rfl, rfl, rfl, rfl, rfl, rfl, rfl, trivial⟩ (by first | exact cs _ _ | exact CSub.refl _) (⟨⟨by omega, by omega⟩, rfl⟩) (fun k B cb o hI => ?_)
          obtain ⟨⟨hk0, hk1⟩, ho⟩ := hI
          have hol0 : o.length ≤ k.toNat := by rw [ho]; exact othT_le _ _ _
          refine tr_seq ?_
          refine tr_region fun _ _ _ => ?_
          refine pu rfl rfl rfl rfl rfl ?_
          refine tr_seq ?_
          refine tr_cond_bool rfl (fun h15 => ?_) (fun h15 => ?_)
          · try simp only [zbA] at h15
            refine tr_skip ?_
            refine tr_seq ?_
            refine tr_block ?_
            refine tr_seq ?_
            refine tr_region fun _ _ _ => ?_
            refine pu rfl rfl rfl rfl rfl ?_
            refine st rfl rfl rfl rfl (rIdxI rfl rfl rfl (by omega) (by omega) (by omega)) ?_
            refine st rfl rfl rfl rfl (rLdI rfl rfl (by omega)) ?_
            iterate 2 refine pu rfl rfl rfl rfl rfl ?_
            refine tr_seq ?_
            refine tr_region fun _ _ _ => ?_
            iterate 3 refine pu rfl rfl rfl rfl rfl ?_
            refine st rfl rfl rfl rfl (rIdxI rfl rfl rfl (by omega) (by omega) (by omega)) ?_
            refine st rfl rfl rfl rfl (rLdI rfl rfl (by omega)) ?_
            refine pu rfl rfl rfl rfl rfl ?_
            refine tr_cond_bool rfl (fun h17 => ?_) (fun h17 => ?_)
            · try simp only [zbA] at h17
              refine tr_region fun _ _ _ => ?_
              iterate 3 refine pu rfl rfl rfl rfl rfl ?_
              refine st rfl rfl rfl rfl (rIdxI rfl rfl rfl (by omega) (by omega) (by omega)) ?_
              refine st rfl rfl rfl rfl (rLdI rfl rfl (by omega)) ?_
              refine ef rfl rfl (eLit1I rfl rfl rfl rfl (fun A18 => ?_)) 
              refine ef rfl rfl (eAppI rfl rfl rfl rfl rfl (by first | rfl | simp | omega) (by first | rfl | simp | omega) (by first | omega | (simp; omega)) (fun A18a c18a => ?_)) 
              refine pu rfl rfl rfl rfl rfl ?_
              refine tr_region fun _ _ _ => ?_
              refine st rfl rfl rfl rfl (rAdd rfl rfl rfl (by omega) (by omega)) ?_
              refine pu rfl rfl rfl rfl rfl ?_
              refine ⟨k + 1, A18a, c18a, o ++ [(relL ts).getD k.toNat 0], ⟨rfl, rfl, rfl, rfl, rfl, rfl, rfl, rfl, rfl, rfl, rfl, rfl, trivial⟩, by first | exact cs _ _ | exact CSub.refl _, ?_⟩
              exact ⟨⟨⟨by omega, by omega⟩, by rw [show (k + 1).toNat = k.toNat + 1 by omega, othT_yes h17, ← ho]⟩, by omega⟩
            · try simp only [zbA] at h17
              refine tr_skip ?_
              refine tr_region fun _ _ _ => ?_
              refine st rfl rfl rfl rfl (rAdd rfl rfl rfl (by omega) (by omega)) ?_
              refine pu rfl rfl rfl rfl rfl ?_
              refine ⟨k + 1, B, cb, o, ⟨rfl, rfl, rfl, rfl, rfl, rfl, rfl, rfl, rfl, rfl, rfl, rfl, trivial⟩, by first | exact cs _ _ | exact CSub.refl _, ?_⟩
              exact ⟨⟨⟨by omega, by omega⟩, by rw [show (k + 1).toNat = k.toNat + 1 by omega, othT_no h17]; exact ho⟩, by omega⟩
          · try simp only [zbA] at h15
            refine tr_exit ?_
            refine tr_seq ?_
            have hkn : k.toNat = ts.length := by omega
            rw [hkn] at ho
            subst ho
            have hol := othT_le ts l ts.length
            have hsl := sortI_length (othT ts l ts.length)
            have hsb : ∀ x ∈ sortI (othT ts l ts.length), 0 ≤ x ∧ x ≤ 2147483648 := fun x hx => othT_bd htab.row hq2 l _ x ((sortI_perm _).mem_iff.1 hx)
            refine tr_region fun _ _ _ => ?_
            refine pu rfl rfl rfl rfl rfl ?_
            refine ef rfl rfl (eCallM1 rfl rfl rfl (slc_Sort B _ cb (othT ts l ts.length) rfl (by omega)) ⟨rfl, trivial⟩ ?_) 
            rintro _ _ ⟨rfl, rfl⟩
            refine tr_seq ?_
            refine tr_region fun _ _ _ => ?_
            refine pu rfl rfl rfl rfl rfl ?_
            refine tr_seq ?_
            refine tr_seq ?_
            refine tr_region fun _ _ _ => ?_
            refine pu rfl rfl rfl rfl rfl ?_
            refine st rfl rfl rfl rfl (rFld rfl rfl) ?_
            refine st rfl rfl rfl rfl (rLdF rfl rfl rfl) ?_
            refine pu rfl rfl rfl rfl rfl ?_
            refine st rfl rfl rfl rfl (rLen rfl rfl) ?_
            refine st rfl rfl rfl rfl (rSub rfl rfl rfl (by omega) (by omega)) ?_
            refine st rfl rfl rfl rfl (rSub rfl rfl rfl (by omega) (by omega)) ?_
            refine st rfl rfl rfl rfl (rMax rfl rfl rfl) ?_
            refine pu rfl rfl rfl rfl rfl ?_
            refine st rfl rfl rfl rfl (rLen rfl rfl) ?_
            refine st rfl rfl rfl rfl (rMin rfl rfl rfl) ?_
            refine pu rfl rfl rfl rfl rfl ?_
            refine tr_block ?_
            refine tr_loop2 (fun (z : Int) (s : Int) => [(94, .int .i64 z), (20, .int .i64 s), (93, .int .i64 (min (max (d - (w - ((othT ts l ts.length).length : Int))) 0) ((othT ts l ts.length).length : Int))), (17, .slice B (othT ts l ts.length).length cb), (1, .slice T nt ct), (2, .slice X nx cx), (8, .bool false), (9, .int .i64 0), (15, .slice B12 (hardL ts).length c12)]) (fun (z : Int) (s : Int) => [ow B 3 cb (ints (sortI (othT ts l ts.length))), ow B12 3 c12 (ints (hardL ts)), ow D12 3 d12 (ints (relL ts)), gfN g, blk p0 27 [.int .i64 p, .int .i64 m, .slice A mod.length c, .int .i64 w, .slice Aa n ca], ro A (ints mod), ro Aa (hdrs rs), rowsR rs, ro T (hdrs ts), rowsR ts, ro X (ints l)]) (fun (z : Int) (s : Int) => (0 ≤ z ∧ z ≤ cerK ts l d) ∧ s = ((sortI (othT ts l ts.length)).take z.toNat).sum) (fun (z : Int) (s : Int) => ((cerK ts l d : Int) - z).toNat) (0) (0) ⟨rfl, rfl, rfl, rfl, rfl, rfl, rfl, rfl, rfl, trivial⟩ (by first | exact cs _ _ | exact CSub.refl _) (⟨⟨by omega, by omega⟩, by simp⟩) (fun z s hI => ?_)
            obtain ⟨⟨hz0, hz1⟩, hs⟩ := hI
            have hck := cerK_le ts l d
            have hck2 : (cerK ts l d : Int) = min (max (d - (w - ((othT ts l ts.length).length : Int))) 0) ((othT ts l ts.length).length : Int) := by unfold cerK; omega
            have hsm := sum_bd (l := (sortI (othT ts l ts.length)).take z.toNat) fun x hx => hsb x (List.mem_of_mem_take hx)
            have hsml : ((sortI (othT ts l ts.length)).take z.toNat).length ≤ 64 := by rw [List.length_take]; omega
            refine tr_seq ?_
            refine tr_region fun _ _ _ => ?_
            refine pu rfl rfl rfl rfl rfl ?_
            refine tr_seq ?_
            refine tr_cond_bool rfl (fun h23 => ?_) (fun h23 => ?_)
            · try simp only [zbA] at h23
              refine tr_skip ?_
              refine tr_seq ?_
              refine tr_block ?_
              refine tr_seq ?_
              refine tr_region fun _ _ _ => ?_
              iterate 2 refine pu rfl rfl rfl rfl rfl ?_
              have hxb : 0 ≤ (sortI (othT ts l ts.length)).getD z.toNat 0 ∧ (sortI (othT ts l ts.length)).getD z.toNat 0 ≤ 2147483648 := hsb _ (getD_mem (by omega) 0)
              refine tr_region fun _ _ _ => ?_
              iterate 3 refine pu rfl rfl rfl rfl rfl ?_
              refine st rfl rfl rfl rfl (rIdxI rfl rfl rfl (by omega) (by omega) (by omega)) ?_
              refine st rfl rfl rfl rfl (rLdI rfl rfl (by omega)) ?_
              refine st rfl rfl rfl rfl (rAdd rfl rfl rfl (by omega) (by omega)) ?_
              refine pu rfl rfl rfl rfl rfl ?_
              refine tr_region fun _ _ _ => ?_
              refine st rfl rfl rfl rfl (rAdd rfl rfl rfl (by omega) (by omega)) ?_
              refine pu rfl rfl rfl rfl rfl ?_
              refine ⟨z + 1, s + (sortI (othT ts l ts.length)).getD z.toNat 0, ⟨rfl, rfl, rfl, rfl, rfl, rfl, rfl, rfl, rfl, trivial⟩, by first | exact cs _ _ | exact CSub.refl _, ?_⟩
              exact ⟨⟨⟨by omega, by omega⟩, by rw [show (z + 1).toNat = z.toNat + 1 by omega, sum_take _ (by omega), ← hs]⟩, by omega⟩
            · try simp only [zbA] at h23
              refine tr_exit ?_
              refine tr_seq ?_
              have hc1 := cstT_bd htab.row l l.length (by omega)
              have hc2 := cstT_bd htab.row (hardL ts) (hardL ts).length (by omega)
              have hc3 : cstL (xss ts) l = cstT (xss ts) l l.length := rfl
              have hc4 : cstL (xss ts) (hardL ts) = cstT (xss ts) (hardL ts) (hardL ts).length := rfl
              refine tr_region fun _ _ _ => ?_
              iterate 2 refine pu rfl rfl rfl rfl rfl ?_
              refine ef rfl rfl (eCallV rfl rfl rfl (ord_total T nt ct ts hnt (pw p m) hq2 hq256 (by omega) htab.row X nx cx l hnx hlt hin) ⟨rfl, rfl, trivial⟩ ?_) 
              iterate 2 refine pu rfl rfl rfl rfl rfl ?_
              refine ef rfl rfl (eCallV rfl rfl rfl (ord_total T nt ct ts hnt (pw p m) hq2 hq256 (by omega) htab.row B12 _ c12 (hardL ts) rfl hhl hhin) ⟨rfl, rfl, trivial⟩ ?_) 
              refine st rfl rfl rfl rfl (rSub rfl rfl rfl (by omega) (by omega)) ?_
              iterate 4 refine pu rfl rfl rfl rfl rfl ?_
              have hzk : z.toNat = cerK ts l d := by omega
              have hsS : s = cerS ts l d := by rw [hs, hzk]; rfl
              exact tr_ret ⟨trivial, _, _, rfl, ⟨by rw [hsS]; rfl, rfl⟩, CSub.nil _, trivial⟩
end Go.Proofs.YtoalphamojhpcaaGreat

set_option linter.unusedSimpArgs false
set_option linter.unusedVariables false
set_option maxRecDepth 100000
namespace Go.Proofs.YtoalphamojhpcaaGreat
open Go.RowKit
theorem ref_OCert_ent : Enters Tryz.prog 14 := enters_of Tryz.func14 (by kernel_rfl) (by kernel_rfl)
theorem ref_OCert (T : Option Addr) (nt ct : Nat) (ts : List RowM) (hnt : nt = ts.length) (q : Int) (hq2 : 2 ≤ q) (hq9 : q ≤ 256) (t64 : ts.length ≤ 64) (htr : ∀ r ∈ ts, RowOk q r.xs) (X : Option Addr) (nx cx : Nat) (l : List Int) (hnx : nx = l.length) (hlt : l.length = ts.length) (hin : AllIn q l) (d : Int) (hd1 : 1 ≤ d) (hd2 : d ≤ 1000) :
    Pure Tryz.prog 14 #[.slice T nt ct, .slice X nx cx, .int .i64 d] [ro T (hdrs ts), rowsR ts, ro X (ints l)] (isV (.bool (cerB ts l d))) := by
  have hhl := hardL_length ts
  have hrl := relL_length ts
  have hhin := hardL_in hq2 htr
  have hol := othT_le ts l ts.length
  refine pure_of (args := [.slice T nt ct, .slice X nx cx, .int .i64 d]) 92 Tryz.func14 rfl rfl rfl ref_OCert_ent ⟨id, id, id, trivial⟩ (fun w0 => ?_)
  refine tr_seq ?_
  refine tr_region fun _ _ _ => ?_
  refine pu rfl rfl rfl rfl rfl ?_
  refine tr_seq ?_
  refine tr_region fun _ _ _ => ?_
  refine pu rfl rfl rfl rfl rfl ?_
  refine ef rfl rfl (eCall1 rfl rfl rfl (ref_OHard T nt ct ts hnt q hq2 hq9 t64 htr) ⟨rfl, trivial⟩ ?_) 
  rintro _ _ ⟨A1, c1, rfl, rfl⟩
  refine pu rfl rfl rfl rfl rfl ?_
  refine tr_seq ?_
  refine tr_region fun _ _ _ => ?_
  refine pu rfl rfl rfl rfl rfl ?_
  refine ef rfl rfl (eCall1 rfl rfl rfl (ref_ORel T nt ct ts hnt q hq2 hq9 t64 htr) ⟨rfl, trivial⟩ ?_) 
  rintro _ _ ⟨A2, c2, rfl, rfl⟩
  refine pu rfl rfl rfl rfl rfl ?_
  refine tr_seq ?_
  refine tr_region fun _ _ _ => ?_
  refine pu rfl rfl rfl rfl rfl ?_
  refine tr_seq ?_
  refine tr_seq ?_
  refine tr_region fun _ _ _ => ?_
  refine pu rfl rfl rfl rfl rfl ?_
  refine tr_block ?_
  refine tr_nilI 3 ?_
  refine tr_loop5 (fun (k : Int) (dd : Int) (B : Option Addr) (cb : Nat) (o : List Int) => [(2, .int .i64 dd), (9, .slice B o.length cb), (10, .int .i64 k), (0, .slice T nt ct), (1, .slice X nx cx), (6, .bool false), (7, .slice A1 (hardL ts).length c1), (8, .slice A2 (relL ts).length c2)]) (fun (k : Int) (dd : Int) (B : Option Addr) (cb : Nat) (o : List Int) => [ow B 3 cb (ints o), ow A1 3 c1 (ints (hardL ts)), ow A2 3 c2 (ints (relL ts)), ro T (hdrs ts), rowsR ts, ro X (ints l)]) (fun (k : Int) (dd : Int) (B : Option Addr) (cb : Nat) (o : List Int) => (0 ≤ k ∧ k ≤ nx) ∧ o = othT ts l k.toNat ∧ dd = d - (k - o.length)) (fun (k : Int) (dd : Int) (B : Option Addr) (cb : Nat) (o : List Int) => (nx - k).toNat) (0) (d) (none) (0) ([]) ⟨rfl, rfl, rfl, rfl, rfl, rfl, rfl, rfl, trivial⟩ (by first | exact cs _ _ | exact CSub.refl _) (⟨⟨by omega, by omega⟩, rfl, by simp⟩) (fun k dd B cb o hI => ?_)
  obtain ⟨⟨hk0, hk1⟩, ho, hdd⟩ := hI
  have hol0 : o.length ≤ k.toNat := by rw [ho]; exact othT_le _ _ _
  refine tr_seq ?_
  refine tr_seq ?_
  refine tr_region fun _ _ _ => ?_
  iterate 2 refine pu rfl rfl rfl rfl rfl ?_
  refine st rfl rfl rfl rfl (rLen rfl rfl) ?_
  refine pu rfl rfl rfl rfl rfl ?_
  refine tr_cond_bool rfl (fun h5 => ?_) (fun h5 => ?_)
  · try simp only [zbA] at h5
    refine tr_skip ?_
    refine tr_seq ?_
    refine tr_block ?_
    refine tr_seq ?_
    refine tr_draw [0, 1, 2, 3, 4, 5, 6, 7, 8] [] mixed (by kernel_rfl) fun _ _ _ => ?_
    iterate 2 refine pu rfl rfl rfl rfl rfl ?_
    refine st rfl rfl rfl rfl (rIdxI rfl rfl rfl (by omega) (by omega) (by omega)) ?_
    refine st rfl rfl rfl rfl (rLdI rfl rfl (by omega)) ?_
    iterate 2 refine pu rfl rfl rfl rfl rfl ?_
    refine st rfl rfl rfl rfl (rIdxI rfl rfl rfl (by omega) (by omega) (by omega)) ?_
    refine st rfl rfl rfl rfl (rLdI rfl rfl (by omega)) ?_
    refine pu rfl rfl rfl rfl rfl ?_
    refine tr_cond_bool rfl (fun h7 => ?_) (fun h7 => ?_)
    · try simp only [zbA] at h7
      refine tr_region fun _ _ _ => ?_
      iterate 3 refine pu rfl rfl rfl rfl rfl ?_
      refine st rfl rfl rfl rfl (rIdxI rfl rfl rfl (by omega) (by omega) (by omega)) ?_
      refine st rfl rfl rfl rfl (rLdI rfl rfl (by omega)) ?_
      refine ef rfl rfl (eLit1I rfl rfl rfl rfl (fun A8 => ?_)) 
      refine ef rfl rfl (eAppI rfl rfl rfl rfl rfl (by first | rfl | simp | omega) (by first | rfl | simp | omega) (by first | omega | (simp; omega)) (fun A8a c8a => ?_)) 
      refine pu rfl rfl rfl rfl rfl ?_
      refine tr_region fun _ _ _ => ?_
      refine pu rfl rfl rfl rfl rfl ?_
      refine st rfl rfl rfl rfl (rAdd rfl rfl rfl (by omega) (by omega)) ?_
      refine pu rfl rfl rfl rfl rfl ?_
      refine ⟨k + 1, dd, A8a, c8a, o ++ [(relL ts).getD k.toNat 0], ⟨rfl, rfl, rfl, rfl, rfl, rfl, rfl, rfl, trivial⟩, by first | exact cs _ _ | exact CSub.refl _, ?_⟩
      exact ⟨⟨⟨by omega, by omega⟩, by rw [show (k + 1).toNat = k.toNat + 1 by omega, othT_yes h7, ← ho], by rw [List.length_append]; simp; omega⟩, by omega⟩
    · try simp only [zbA] at h7
      refine tr_region fun _ _ _ => ?_
      refine pu rfl rfl rfl rfl rfl ?_
      refine st rfl rfl rfl rfl (rSub rfl rfl rfl (by omega) (by omega)) ?_
      refine pu rfl rfl rfl rfl rfl ?_
      refine tr_region fun _ _ _ => ?_
      refine pu rfl rfl rfl rfl rfl ?_
      refine st rfl rfl rfl rfl (rAdd rfl rfl rfl (by omega) (by omega)) ?_
      refine pu rfl rfl rfl rfl rfl ?_
      refine ⟨k + 1, dd - 1, B, cb, o, ⟨rfl, rfl, rfl, rfl, rfl, rfl, rfl, rfl, trivial⟩, by first | exact cs _ _ | exact CSub.refl _, ?_⟩
      exact ⟨⟨⟨by omega, by omega⟩, by rw [show (k + 1).toNat = k.toNat + 1 by omega, othT_no h7]; exact ho, by omega⟩, by omega⟩
  · try simp only [zbA] at h5
    refine tr_exit ?_
    refine tr_seq ?_
    have hkn : k.toNat = ts.length := by omega
    rw [hkn] at ho
    subst ho
    refine tr_region fun _ _ _ => ?_
    refine pu rfl rfl rfl rfl rfl ?_
    refine tr_seq ?_
    refine tr_block ?_
    refine tr_loop5 (fun (s : Int) (d2 : Int) (B2 : Option Addr) (cb2 : Nat) (o2 : List Int) => [(7, .slice A1 (hardL ts).length c1), (8, .slice A2 (relL ts).length c2), (11, .int .i64 s), (2, .int .i64 d2), (9, .slice B2 o2.length cb2), (0, .slice T nt ct), (1, .slice X nx cx), (6, .bool false)]) (fun (s : Int) (d2 : Int) (B2 : Option Addr) (cb2 : Nat) (o2 : List Int) => [ow B2 3 cb2 (ints o2), ow A1 3 c1 (ints (hardL ts)), ow A2 3 c2 (ints (relL ts)), ro T (hdrs ts), rowsR ts, ro X (ints l)]) (fun (s : Int) (d2 : Int) (B2 : Option Addr) (cb2 : Nat) (o2 : List Int) => ∃ j : Nat, (j ≤ (othT ts l ts.length).length ∧ (j : Int) ≤ max (d - ((ts.length : Int) - ((othT ts l ts.length).length : Int))) 0) ∧ o2 = remN j (othT ts l ts.length) ∧ s = selA j (othT ts l ts.length) ∧ d2 = (d - ((ts.length : Int) - ((othT ts l ts.length).length : Int))) - j) (fun (s : Int) (d2 : Int) (B2 : Option Addr) (cb2 : Nat) (o2 : List Int) => o2.length) (0) (dd) (B) (cb) ((othT ts l ts.length)) ⟨rfl, rfl, rfl, rfl, rfl, rfl, rfl, rfl, trivial⟩ (by first | exact cs _ _ | exact CSub.refl _) (⟨0, ⟨by omega, by omega⟩, rfl, rfl, by omega⟩) (fun s d2 B2 cb2 o2 hI => ?_)
    obtain ⟨j, ⟨hj0, hj1⟩, ho2, hs, hd2'⟩ := hI
    have ho2l : o2.length = (othT ts l ts.length).length - j := by rw [ho2]; exact remN_length _ _ hj0
    have ho2b : ∀ x ∈ o2, 0 ≤ x ∧ x ≤ 2147483648 := fun x hx => by
      rw [ho2] at hx
      exact othT_bd htr hq2 l _ x (remN_mem _ _ hx)
    have hsb : 0 ≤ s ∧ s ≤ 64 * 2147483648 := by
      rw [hs, selA_sort _ _ hj0]
      have := sum_bd (l := (sortI (othT ts l ts.length)).take j) fun x hx => othT_bd htr hq2 l _ x ((sortI_perm _).mem_iff.1 (List.mem_of_mem_take hx))
      have hl2 : ((sortI (othT ts l ts.length)).take j).length ≤ 64 := by rw [List.length_take]; omega
      omega
    refine tr_seq ?_
    refine tr_seq ?_
    refine tr_region fun _ _ _ => ?_
    iterate 3 refine pu rfl rfl rfl rfl rfl ?_
    refine stg rfl rfl rfl rfl rfl (fun hb => by (have hq := hb; try simp only [zbA] at hq); exact rMove rfl rfl) ?_
    refine stg rfl rfl rfl rfl rfl (fun hb => by (have hq := hb; try simp only [zbA] at hq); exact rLen rfl (evg rfl hb)) ?_
    refine stg rfl rfl rfl rfl rfl (fun hb => by (have hq := hb; try simp only [zbA] at hq); exact rGtr rfl (evg rfl hb) rfl) ?_
    refine st rfl rfl rfl rfl (rAndB rfl rfl rfl rfl) ?_
    refine tr_cond_bool rfl (fun h11 => ?_) (fun h11 => ?_)
    · try simp only [zbA] at h11
      refine tr_skip ?_
      refine tr_block ?_
      refine tr_seq ?_
      refine tr_region fun _ _ _ => ?_
      refine pu rfl rfl rfl rfl rfl ?_
      refine tr_seq ?_
      refine tr_seq ?_
      refine tr_region fun _ _ _ => ?_
      refine pu rfl rfl rfl rfl rfl ?_
      refine tr_block ?_
      refine tr_loop2 (fun (i : Int) (z : Int) => [(7, .slice A1 (hardL ts).length c1), (8, .slice A2 (relL ts).length c2), (13, .int .i64 i), (12, .int .i64 z), (0, .slice T nt ct), (1, .slice X nx cx), (2, .int .i64 d2), (6, .bool false), (9, .slice B2 o2.length cb2), (11, .int .i64 s), (42, .int .i64 d2)]) (fun (i : Int) (z : Int) => [ow B2 3 cb2 (ints o2), ow A1 3 c1 (ints (hardL ts)), ow A2 3 c2 (ints (relL ts)), ro T (hdrs ts), rowsR ts, ro X (ints l)]) (fun (i : Int) (z : Int) => (0 ≤ i ∧ i ≤ o2.length) ∧ z = (amin o2 i.toNat : Int)) (fun (i : Int) (z : Int) => (o2.length - i).toNat) (0) (0) ⟨rfl, rfl, rfl, rfl, rfl, rfl, rfl, rfl, rfl, rfl, rfl, trivial⟩ (by first | exact cs _ _ | exact CSub.refl _) (⟨⟨by omega, by omega⟩, rfl⟩) (fun i z hI => ?_)
      obtain ⟨⟨hi0, hi1⟩, hm⟩ := hI
      have hml0 := amin_lt (show 0 < o2.length by omega) i.toNat (by omega)
      refine tr_seq ?_
      refine tr_seq ?_
      refine tr_region fun _ _ _ => ?_
      iterate 2 refine pu rfl rfl rfl rfl rfl ?_
      refine st rfl rfl rfl rfl (rLen rfl rfl) ?_
      refine pu rfl rfl rfl rfl rfl ?_
      refine tr_cond_bool rfl (fun h14 => ?_) (fun h14 => ?_)
      · try simp only [zbA] at h14
        refine tr_skip ?_
        refine tr_seq ?_
        refine tr_block ?_
        refine tr_seq ?_
        refine tr_draw [0, 1, 2, 3, 4, 5, 6, 7, 8] [] mixed (by kernel_rfl) fun _ _ _ => ?_
        iterate 2 refine pu rfl rfl rfl rfl rfl ?_
        refine st rfl rfl rfl rfl (rIdxI rfl rfl rfl (by omega) (by omega) (by omega)) ?_
        refine st rfl rfl rfl rfl (rLdI rfl rfl (by omega)) ?_
        iterate 2 refine pu rfl rfl rfl rfl rfl ?_
        refine st rfl rfl rfl rfl (rIdxI rfl rfl rfl (by omega) (by omega) (by omega)) ?_
        refine st rfl rfl rfl rfl (rLdI rfl rfl (by omega)) ?_
        refine pu rfl rfl rfl rfl rfl ?_
        refine tr_cond_bool rfl (fun h16 => ?_) (fun h16 => ?_)
        · try simp only [zbA] at h16
          refine tr_region fun _ _ _ => ?_
          iterate 2 refine pu rfl rfl rfl rfl rfl ?_
          refine tr_region fun _ _ _ => ?_
          refine pu rfl rfl rfl rfl rfl ?_
          refine st rfl rfl rfl rfl (rAdd rfl rfl rfl (by omega) (by omega)) ?_
          refine pu rfl rfl rfl rfl rfl ?_
          refine ⟨i + 1, i, ⟨rfl, rfl, rfl, rfl, rfl, rfl, rfl, rfl, rfl, rfl, rfl, trivial⟩, by first | exact cs _ _ | exact CSub.refl _, ?_⟩
          exact ⟨⟨⟨by omega, by omega⟩, by rw [show (i + 1).toNat = i.toNat + 1 by omega, amin_yes (by rw [hm] at h16; simpa using h16)]; omega⟩, by omega⟩
        · try simp only [zbA] at h16
          refine tr_skip ?_
          refine tr_region fun _ _ _ => ?_
          refine pu rfl rfl rfl rfl rfl ?_
          refine st rfl rfl rfl rfl (rAdd rfl rfl rfl (by omega) (by omega)) ?_
          refine pu rfl rfl rfl rfl rfl ?_
          refine ⟨i + 1, z, ⟨rfl, rfl, rfl, rfl, rfl, rfl, rfl, rfl, rfl, rfl, rfl, trivial⟩, by first | exact cs _ _ | exact CSub.refl _, ?_⟩
          exact ⟨⟨⟨by omega, by omega⟩, by rw [show (i + 1).toNat = i.toNat + 1 by omega, amin_no (by rw [hm] at h16; simpa using h16)]; exact hm⟩, by omega⟩
      · try simp only [zbA] at h14
        refine tr_exit ?_
        refine tr_seq ?_
        have hil : i.toNat = o2.length := by omega
        have hml := amin_lt (show 0 < o2.length by omega) o2.length (Nat.le_refl _)
        rw [hil] at hm
        have hx2 : 0 ≤ o2.getD z.toNat 0 ∧ o2.getD z.toNat 0 ≤ 2147483648 := ho2b _ (getD_mem (show z.toNat < o2.length by omega) 0)
        refine tr_region fun _ _ _ => ?_
        iterate 3 refine pu rfl rfl rfl rfl rfl ?_
        refine st rfl rfl rfl rfl (rIdxI rfl rfl rfl (by omega) (by omega) (by omega)) ?_
        refine st rfl rfl rfl rfl (rLdI rfl rfl (by omega)) ?_
        refine st rfl rfl rfl rfl (rAdd rfl rfl rfl (by omega) (by omega)) ?_
        refine pu rfl rfl rfl rfl rfl ?_
        refine tr_cap B2 3 cb2 (ints o2) fun hcap => ?_
        rw [ints_length] at hcap
        refine tr_chunks _ (ow_split2 z.toNat (z + 1).toNat hcap [ow A1 3 c1 (ints (hardL ts)), ow A2 3 c2 (ints (relL ts)), ro T (hdrs ts), rowsR ts, ro X (ints l)]) ?_
        refine tr_mid (fun (q : (Option Addr) × Nat) => match q with | (Bm, cm) => [(7, .slice A1 (hardL ts).length c1), (8, .slice A2 (relL ts).length c2), (0, .slice T nt ct), (1, .slice X nx cx), (2, .int .i64 d2), (6, .bool false), (9, .slice Bm (o2.take z.toNat ++ o2.drop (z + 1).toNat).length cm), (11, .int .i64 (s + o2.getD z.toNat 0))]) (fun (q : (Option Addr) × Nat) => match q with | (Bm, cm) => [ow Bm 3 cm (ints (o2.take z.toNat ++ o2.drop (z + 1).toNat)), ow A1 3 c1 (ints (hardL ts)), ow A2 3 c2 (ints (relL ts)), ro T (hdrs ts), rowsR ts, ro X (ints l)]) ?_ ?_
        · refine tr_planT [] (.one 0 1 (.one 0 2 (.one 0 3 (.one 0 5 (.one 0 6 (.one 0 7 (.one 0 8 (.one 0 0 (.one 0 4 (.one 1 9 (.one 0 10 .nil))))))))))) mixed (by kernel_rfl) fun _ _ _ => ?_
          iterate 2 refine pu rfl rfl rfl rfl rfl ?_
          refine st rfl rfl rfl rfl (rCutHi rfl rfl rfl (by omega) (by omega)) ?_
          iterate 2 refine pu rfl rfl rfl rfl rfl ?_
          refine st rfl rfl rfl rfl (rAdd rfl rfl rfl (by omega) (by omega)) ?_
          refine st rfl rfl rfl rfl (rCut rfl rfl rfl (by omega) (by omega) (by omega)) ?_
          refine ef rfl rfl (eLit0I rfl rfl rfl  (fun A19 => ?_)) 
          refine ef rfl rfl (eAppXI rfl rfl rfl rfl rfl (by first | rfl | simp) (by rw [List.length_take]; omega) (by first | rfl | simp) (by first | omega | (simp; omega)) (fun A19a c19a => ?_)) 
          refine ef rfl rfl (eAppI rfl rfl rfl rfl rfl (by first | rfl | simp | omega) (by first | rfl | simp | omega) (by first | omega | (simp; omega)) (fun A19b c19b => ?_)) 
          refine ⟨cs _ _, ?_⟩
          refine pu rfl rfl rfl rfl rfl ?_
          rw [List.nil_append]
          exact ⟨rfl, (A19b, c19b), ⟨rfl, rfl, rfl, rfl, rfl, rfl, rfl, rfl, trivial⟩, by first | exact cs _ _ | exact CSub.refl _⟩
        · rintro ⟨Bm, cm⟩
          refine tr_region fun _ _ _ => ?_
          refine pu rfl rfl rfl rfl rfl ?_
          refine st rfl rfl rfl rfl (rSub rfl rfl rfl (by omega) (by omega)) ?_
          refine pu rfl rfl rfl rfl rfl ?_
          refine ⟨s + o2.getD z.toNat 0, d2 - 1, Bm, cm, o2.take z.toNat ++ o2.drop (z + 1).toNat, ⟨rfl, rfl, rfl, rfl, rfl, rfl, rfl, rfl, trivial⟩, by first | exact cs _ _ | exact CSub.refl _, ?_⟩
          have hzz : z.toNat = amin o2 o2.length := by omega
          have hrm : o2.take z.toNat ++ o2.drop (z + 1).toNat = rm1 o2 := by
            rw [show (z + 1).toNat = z.toNat + 1 by omega, erase_take, hzz]; rfl
          refine ⟨⟨j + 1, ⟨by omega, by omega⟩, by rw [hrm, remN, ← ho2], by rw [selA, ← hs, ← ho2, hzz], by omega⟩, ?_⟩
          rw [hrm, rm1_length (by omega)]; omega
    · try simp only [zbA] at h11
      refine tr_exit ?_
      refine tr_seq ?_
      have hc1 := cstT_bd htr l l.length (by omega)
      have hc2 := cstT_bd htr (hardL ts) (hardL ts).length (by omega)
      have hc3 : cstL (xss ts) l = cstT (xss ts) l l.length := rfl
      have hc4 : cstL (xss ts) (hardL ts) = cstT (xss ts) (hardL ts) (hardL ts).length := rfl
      refine tr_region fun _ _ _ => ?_
      iterate 2 refine pu rfl rfl rfl rfl rfl ?_
      refine ef rfl rfl (eCallV rfl rfl rfl (ref_OCost T nt ct ts hnt q hq2 hq9 t64 htr X nx cx l hnx hlt hin) ⟨rfl, rfl, trivial⟩ ?_) 
      iterate 2 refine pu rfl rfl rfl rfl rfl ?_
      refine ef rfl rfl (eCallV rfl rfl rfl (ref_OCost T nt ct ts hnt q hq2 hq9 t64 htr A1 _ c1 (hardL ts) rfl hhl hhin) ⟨rfl, rfl, trivial⟩ ?_) 
      refine st rfl rfl rfl rfl (rSub rfl rfl rfl (by omega) (by omega)) ?_
      iterate 3 refine pu rfl rfl rfl rfl rfl ?_
      have hjk : j = cerK ts l d := by unfold cerK; omega
      have hsS : s = cerS ts l d := by rw [hs, selA_sort _ _ hj0, hjk]; rfl
      exact tr_ret ⟨trivial, _, _, rfl, ⟨by rw [hsS]; rfl, rfl⟩, CSub.nil _, trivial⟩
end Go.Proofs.YtoalphamojhpcaaGreat

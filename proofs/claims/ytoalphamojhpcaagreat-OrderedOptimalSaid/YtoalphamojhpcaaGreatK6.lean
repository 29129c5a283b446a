/-
  ORDEREDOPTIMAL, PART 6 OF 9. One sentence: the texts behind the law OrderedOptimal, put together.
  Conditions: each theorem's own, written out in it.
-/
import Derived.Test.YtoalphamojhpcaaGreatK5
set_option linter.unusedSimpArgs false
set_option linter.unusedVariables false
set_option linter.unusedSectionVars false
set_option linter.unusedSimpArgs false
set_option linter.unusedVariables false
set_option maxRecDepth 100000
namespace Go.Proofs.YtoalphamojhpcaaGreat
open Go.RowKit
def RowOk (q : Int) (r : List Int) : Prop := (r.length : Int) = q ∧ ∀ x ∈ r, 0 ≤ x ∧ x ≤ 2147483648
theorem ordR_ok {q : Int} : ∀ {tb : List (List Int)}, (∀ r ∈ tb, RowOk q r) → ordR q tb = 0
  | [], _ => rfl
  | r :: tb, h => by
    have h1 := h r (List.mem_cons_self ..)
    rw [ordR, if_neg (fun k => k h1.1), if_neg (fun ⟨x, hx, hb⟩ => by have := h1.2 x hx; omega)]
    exact ordR_ok fun s hs => h s (List.mem_cons_of_mem _ hs)
theorem ordR_bad {q : Int} : ∀ {tb : List (List Int)} {k : Nat}, k < tb.length → (∀ j, j < k → RowOk q (tb.getD j [])) → ¬ RowOk q (tb.getD k []) → ordR q tb = if ((tb.getD k []).length : Int) ≠ q then 3 else 6
  | r :: tb, 0, _, _, h => by
    rw [List.getD_cons_zero] at h ⊢
    rw [ordR]
    by_cases h1 : (r.length : Int) = q
    · have hn : ¬ ((r.length : Int) ≠ q) := fun k => k h1
      rw [if_neg hn, if_neg hn, if_pos]
      refine Classical.byContradiction fun hno => h ⟨h1, fun x hx => ?_⟩
      have : ¬ (x < 0 ∨ x > 2147483648) := fun hb => hno ⟨x, hx, hb⟩
      omega
    · rw [if_pos h1, if_pos h1]
  | r :: tb, k + 1, hk, hall, h => by
    have h1 := hall 0 (by omega)
    rw [List.getD_cons_zero] at h1
    rw [List.getD_cons_succ] at h ⊢
    rw [ordR, if_neg (fun k => k h1.1), if_neg (fun ⟨x, hx, hb⟩ => by have := h1.2 x hx; omega)]
    exact ordR_bad (by simpa using hk) (fun j hj => by
      have := hall (j + 1) (by omega)
      rwa [List.getD_cons_succ] at this) h
def ordC (q w : Int) (tb : List (List Int)) : Int := if (tb.length : Int) ≠ w then 3 else ordR q tb
theorem ordC_len {q w : Int} {tb : List (List Int)} (h : (tb.length : Int) ≠ w) : ordC q w tb = 3 := if_pos h
theorem ordC_ok {q w : Int} {ts : List RowM} (h : (ts.length : Int) = w) (h1 : ∀ j : Nat, j < ts.length → RowOk q (ts.getD j rowD).xs) : ordC q w (xss ts) = 0 := by
  unfold ordC
  rw [xss_length, if_neg (fun k => k h)]
  exact ordR_ok (xss_get fun j hj => h1 j hj)
theorem ordC_bad {q w : Int} {ts : List RowM} (h : (ts.length : Int) = w) {k : Nat} (hk : k < ts.length) (hall : ∀ j : Nat, j < k → RowOk q (ts.getD j rowD).xs) (hb : ¬ RowOk q (ts.getD k rowD).xs) : ordC q w (xss ts) = if ((ts.getD k rowD).xs.length : Int) ≠ q then 3 else 6 := by
  unfold ordC
  rw [xss_length, if_neg (fun k => k h), ordR_bad (k := k) (by rw [xss_length]; exact hk) (fun j hj => by rw [xss_getD]; exact hall j hj) (by rw [xss_getD]; exact hb), xss_getD]
structure TabOk (q w : Int) (ts : List RowM) : Prop where
  len : (ts.length : Int) = w
  row : ∀ r ∈ ts, RowOk q r.xs
theorem ordC_zero {q w : Int} {ts : List RowM} (h : ordC q w (xss ts) = 0) : TabOk q w ts := by
  unfold ordC at h
  split at h
  · cases h
  · rename_i h1
    have h2 := ordR_zero h
    exact ⟨by rw [xss_length] at h1; omega, xss_all.1 fun r hr => h2 r hr⟩
theorem TabOk.zero {q w : Int} {ts : List RowM} (h : TabOk q w ts) : ordC q w (xss ts) = 0 := ordC_ok h.len fun j hj => h.row _ (getD_mem hj _)
theorem TabOk.get {q w : Int} {ts : List RowM} (h : TabOk q w ts) {j : Nat} (hj : j < ts.length) : RowOk q (ts.getD j rowD).xs := h.row _ (getD_mem hj _)
theorem RowOk.at {q : Int} {r : List Int} (h : RowOk q r) (j : Nat) : 0 ≤ r.getD j 0 ∧ r.getD j 0 ≤ 2147483648 := by
  by_cases hj : j < r.length
  · exact h.2 _ (getD_mem hj _)
  · rw [getD_out (by omega)]; omega
theorem ord_checkedG_ent : Enters Tryz.prog 31 := enters_of Tryz.func31 (by kernel_rfl) (by kernel_rfl)
theorem ord_checkedG (p m : Int) (A : Option Addr) (c : Nat) (mod : List Int) [hF : IsF p m mod] (w : Int) (Aa : Option Addr) (n ca : Nat) (rs : List RowM) (hn : n = rs.length) (h9 : rs.length ≤ 256) (hc : CodeOk p m mod w rs) (T : Option Addr) (nt ct : Nat) (ts : List RowM) (hnt : nt = ts.length) (t9 : ts.length ≤ 17592186044415) (t8 : ∀ r ∈ ts, r.xs.length ≤ 17592186044415) (ho : ordC (pw p m) w (xss ts) = 0) :
    Pure Tryz.prog 31 #[.agg #[.int .i64 p, .int .i64 m, .slice A mod.length c, .int .i64 w, .slice Aa n ca], .slice T nt ct] [ro A (ints mod), ro Aa (hdrs rs), rowsR rs, ro T (hdrs ts), rowsR ts] (one (fun v ch => ∃ g : GfM, v = .tuple #[.pointer (some g.p), .int .i64 0] ∧ ch = gfN g ∧ GOk g p m mod)) := by
  have hl9 := hF.short
  have hn1 := hc.n1
  have hn64 := hc.n64
  have hlen := hc.len
  have hgd := hc.good
  have h8 := hgd.h8 (N := 17592186044415) (by omega)
  have hck := hc.zero
  have hq2 := hF.q2
  have htl := (ordC_zero ho).len
  refine pure_of (args := [.agg #[.int .i64 p, .int .i64 m, .slice A mod.length c, .int .i64 w, .slice Aa n ca], .slice T nt ct]) 55 Tryz.func31 rfl rfl rfl ord_checkedG_ent ⟨id, id, id, id, id, trivial⟩ (fun w0 => ?_)
  refine tr_seq ?_
  refine tr_region fun _ _ _ => ?_
  refine ef rfl rfl (eBox rfl rfl rfl rfl rfl (fun p0 => ?_)) 
  iterate 2 refine pu rfl rfl rfl rfl rfl ?_
  refine tr_seq ?_
  refine tr_seq ?_
  refine tr_region fun _ _ _ => ?_
  refine st rfl rfl rfl rfl (rLdS rfl rfl rfl) ?_
  refine ef rfl rfl (eCallV rfl rfl rfl (code_Check _ _ _ _ _ (by omega) w Aa _ ca rs hn (by omega) h8) ⟨rfl, trivial⟩ ?_) 
  refine pu rfl rfl rfl rfl rfl ?_
  refine tr_seq ?_
  refine tr_region fun _ _ _ => ?_
  iterate 2 refine pu rfl rfl rfl rfl rfl ?_
  refine tr_cond_bool rfl (fun h2 => ?_) (fun h2 => ?_)
  · try simp only [zbA] at h2
    omega --done
  · try simp only [zbA] at h2
    refine tr_skip ?_
    refine tr_seq ?_
    refine tr_region fun _ _ _ => ?_
    refine st rfl rfl rfl rfl (rFld rfl rfl) ?_
    refine st rfl rfl rfl rfl (rLdSF rfl rfl) ?_
    refine ef rfl rfl (eCall1 rfl rfl rfl (fld_New_ok _ _ _ _ _ (by omega) hF.out) ⟨rfl, trivial⟩ ?_) 
    rintro _ _ ⟨g, rfl, rfl, hg⟩
    iterate 5 refine pu rfl rfl rfl rfl rfl ?_
    refine tr_seq ?_
    refine tr_seq ?_
    refine tr_region fun _ _ _ => ?_
    refine pu rfl rfl rfl rfl rfl ?_
    refine st rfl rfl rfl rfl (rLen rfl rfl) ?_
    refine st rfl rfl rfl rfl (rFld rfl rfl) ?_
    refine st rfl rfl rfl rfl (rLdF rfl rfl rfl) ?_
    refine pu rfl rfl rfl rfl rfl ?_
    refine tr_cond_bool rfl (fun h5 => ?_) (fun h5 => ?_)
    · try simp only [zbA] at h5
      omega --done
    · try simp only [zbA] at h5
      refine tr_skip ?_
      refine tr_seq ?_
      refine tr_seq ?_
      have hgq := hg.eq
      refine tr_region fun _ _ _ => ?_
      refine pu rfl rfl rfl rfl rfl ?_
      refine st rfl rfl rfl rfl (rLen rfl rfl) ?_
      refine pu rfl rfl rfl rfl rfl ?_
      refine tr_block ?_
      refine tr_loop1 (fun (k : Int) => [(31, .int .i64 k), (7, .pointer (some g.p)), (29, .slice T nt ct), (30, .int .i64 nt)]) (fun (k : Int) => [gfN g, blk p0 27 [.int .i64 p, .int .i64 m, .slice A mod.length c, .int .i64 w, .slice Aa n ca], ro A (ints mod), ro Aa (hdrs rs), rowsR rs, ro T (hdrs ts), rowsR ts]) (fun (k : Int) => (0 ≤ k ∧ k ≤ nt) ∧ ∀ j : Nat, (j : Int) < k → RowOk (pw p m) (ts.getD j rowD).xs) (fun (k : Int) => (nt - k).toNat) (0) ⟨rfl, rfl, rfl, rfl, trivial⟩ (by first | exact cs _ _ | exact CSub.refl _) (⟨⟨by omega, by omega⟩, fun j hj => by omega⟩) (fun k hI => ?_)
      obtain ⟨⟨hk0, hk1⟩, hall⟩ := hI
      refine tr_seq ?_
      refine tr_region fun _ _ _ => ?_
      refine pu rfl rfl rfl rfl rfl ?_
      refine tr_seq ?_
      refine tr_cond_bool rfl (fun h8 => ?_) (fun h8 => ?_)
      · try simp only [zbA] at h8
        refine tr_skip ?_
        refine tr_seq ?_
        refine tr_block ?_
        refine tr_seq ?_
        haveI : InB (k : Int).toNat ts.length := ⟨by omega⟩
        have htk := t8 _ (getD_mem (show (k : Int).toNat < ts.length by omega) rowD)
        refine tr_region fun _ _ _ => ?_
        refine st rfl rfl rfl rfl (rIdxR rfl rfl rfl (by omega) (by omega) (by omega)) ?_
        refine st rfl rfl rfl rfl (rLdR rfl rfl (by omega)) ?_
        refine pu rfl rfl rfl rfl rfl ?_
        refine tr_seq ?_
        refine tr_seq ?_
        refine tr_region fun _ _ _ => ?_
        refine pu rfl rfl rfl rfl rfl ?_
        refine st rfl rfl rfl rfl (rLen rfl rfl) ?_
        refine pu rfl rfl rfl rfl rfl ?_
        refine ef rfl rfl (eCallV rfl rfl rfl (gf_Order _) ⟨rfl, trivial⟩ ?_) 
        refine pu rfl rfl rfl rfl rfl ?_
        refine tr_cond_bool rfl (fun h10 => ?_) (fun h10 => ?_)
        · try simp only [zbA] at h10
          have hallN : ∀ j : Nat, j < k.toNat → RowOk (pw p m) (ts.getD j rowD).xs := fun j hj => hall j (by omega)
          have hbd := ordC_bad (w := w) (by omega) (show k.toNat < ts.length by omega) hallN (fun h => by have := h.1; omega)
          rw [if_pos (by omega)] at hbd
          omega --done
        · try simp only [zbA] at h10
          refine tr_skip ?_
          refine tr_seq ?_
          refine tr_region fun _ _ _ => ?_
          refine pu rfl rfl rfl rfl rfl ?_
          refine st rfl rfl rfl rfl (rLen rfl rfl) ?_
          refine pu rfl rfl rfl rfl rfl ?_
          refine tr_block ?_
          refine tr_loop1 (fun (j : Int) => [(42, .int .i64 j), (40, .slice (ts.getD k.toNat rowD).A (ts.getD k.toNat rowD).xs.length (ts.getD k.toNat rowD).cap), (41, .int .i64 (ts.getD k.toNat rowD).xs.length), (7, .pointer (some g.p)), (29, .slice T nt ct), (30, .int .i64 nt), (31, .int .i64 k), (37, .pointer (some g.p))]) (fun (j : Int) => [gfN g, blk p0 27 [.int .i64 p, .int .i64 m, .slice A mod.length c, .int .i64 w, .slice Aa n ca], ro A (ints mod), ro Aa (hdrs rs), rowsR rs, ro T (hdrs ts), rowsR ts]) (fun (j : Int) => (0 ≤ j ∧ j ≤ (ts.getD k.toNat rowD).xs.length) ∧ ∀ i : Nat, (i : Int) < j → 0 ≤ (ts.getD k.toNat rowD).xs.getD i 0 ∧ (ts.getD k.toNat rowD).xs.getD i 0 ≤ 2147483648) (fun (j : Int) => ((ts.getD k.toNat rowD).xs.length - j).toNat) (0) ⟨rfl, rfl, rfl, rfl, rfl, rfl, rfl, rfl, trivial⟩ (by first | exact cs _ _ | exact CSub.refl _) (⟨⟨by omega, by omega⟩, fun i hi => by omega⟩) (fun j hI => ?_)
          obtain ⟨⟨hj0, hj1⟩, hall2⟩ := hI
          refine tr_seq ?_
          refine tr_region fun _ _ _ => ?_
          refine pu rfl rfl rfl rfl rfl ?_
          refine tr_seq ?_
          refine tr_cond_bool rfl (fun h13 => ?_) (fun h13 => ?_)
          · try simp only [zbA] at h13
            refine tr_skip ?_
            refine tr_seq ?_
            refine tr_block ?_
            refine tr_seq ?_
            refine tr_region fun _ _ _ => ?_
            refine st rfl rfl rfl rfl (rIdxI rfl rfl rfl (by omega) (by omega) (by omega)) ?_
            refine st rfl rfl rfl rfl (rLdI rfl rfl (by omega)) ?_
            refine pu rfl rfl rfl rfl rfl ?_
            refine tr_seq ?_
            refine tr_region fun _ _ _ => ?_
            iterate 3 refine pu rfl rfl rfl rfl rfl ?_
            refine stg rfl rfl rfl rfl rfl (fun hb => by (have hq := hb; try simp only [zbA] at hq); exact rMove rfl rfl) ?_
            refine stg rfl rfl rfl rfl rfl (fun hb => by (have hq := hb; try simp only [zbA] at hq); exact rGtr rfl (evg rfl hb) rfl) ?_
            refine st rfl rfl rfl rfl (rOrB rfl rfl rfl rfl) ?_
            refine tr_cond_bool rfl (fun h15 => ?_) (fun h15 => ?_)
            · try simp only [zbA] at h15
              have hallN : ∀ j : Nat, j < k.toNat → RowOk (pw p m) (ts.getD j rowD).xs := fun j hj => hall j (by omega)
              have hbd := ordC_bad (w := w) (by omega) (show k.toNat < ts.length by omega) hallN (fun h => by have := h.at j.toNat; omega)
              rw [if_neg (by omega)] at hbd
              omega --done
            · try simp only [zbA] at h15
              refine tr_skip ?_
              refine tr_region fun _ _ _ => ?_
              refine st rfl rfl rfl rfl (rAdd rfl rfl rfl (by omega) (by omega)) ?_
              refine pu rfl rfl rfl rfl rfl ?_
              refine ⟨j + 1, ⟨rfl, rfl, rfl, rfl, rfl, rfl, rfl, rfl, trivial⟩, by first | exact cs _ _ | exact CSub.refl _, ?_⟩
              refine ⟨⟨⟨by omega, by omega⟩, fun i hi => ?_⟩, by omega⟩
              by_cases he : (i : Int) = j
              · have : i = j.toNat := by omega
                subst this; omega
              · exact hall2 i (by omega)
          · try simp only [zbA] at h13
            refine tr_exit ?_
            refine tr_region fun _ _ _ => ?_
            refine st rfl rfl rfl rfl (rAdd rfl rfl rfl (by omega) (by omega)) ?_
            refine pu rfl rfl rfl rfl rfl ?_
            refine ⟨k + 1, ⟨rfl, rfl, rfl, rfl, trivial⟩, by first | exact cs _ _ | exact CSub.refl _, ?_⟩
            refine ⟨⟨⟨by omega, by omega⟩, fun j hj => ?_⟩, by omega⟩
            by_cases he : (j : Int) = k
            · have : j = k.toNat := by omega
              subst this
              exact ⟨by omega, fun x hx => by
                obtain ⟨i, hi, rfl⟩ := List.getElem_of_mem hx
                have := hall2 i (by omega)
                rwa [List.getD_eq_getElem?_getD, List.getElem?_eq_getElem hi] at this⟩
            · exact hall j (by omega)
      · try simp only [zbA] at h8
        refine tr_exit ?_
        refine tr_seq ?_
        refine tr_region fun _ _ _ => ?_
        iterate 3 refine pu rfl rfl rfl rfl rfl ?_
        exact tr_ret ⟨trivial, _, _, rfl, ⟨_, rfl, g, rfl, rfl, hg⟩, cs _ _, ⟨trivial, trivial, trivial, trivial⟩, trivial⟩
theorem ref_OCheckE_ent : Enters Tryz.prog 11 := enters_of Tryz.func11 (by kernel_rfl) (by kernel_rfl)
theorem ref_OCheckE (p m : Int) (A : Option Addr) (c : Nat) (mod : List Int) (hl9 : mod.length ≤ 17592186044415) (w : Int) (Aa : Option Addr) (n ca : Nat) (rs : List RowM) (hn : n = rs.length) (h9 : rs.length ≤ 17592186044415) (h8 : ∀ r ∈ rs, r.xs.length ≤ 17592186044415) (he : codC p m mod w rs ≠ 0) (T : Option Addr) (nt ct : Nat) (ts : List RowM) (hnt : nt = ts.length) (t9 : ts.length ≤ 17592186044415) (t8 : ∀ r ∈ ts, r.xs.length ≤ 17592186044415) :
    Pure Tryz.prog 11 #[.agg #[.int .i64 p, .int .i64 m, .slice A mod.length c, .int .i64 w, .slice Aa n ca], .slice T nt ct] [ro A (ints mod), ro Aa (hdrs rs), rowsR rs, ro T (hdrs ts), rowsR ts] (isV (.int .i64 (codC p m mod w rs))) := by
  refine pure_of (args := [.agg #[.int .i64 p, .int .i64 m, .slice A mod.length c, .int .i64 w, .slice Aa n ca], .slice T nt ct]) 60 Tryz.func11 rfl rfl rfl ref_OCheckE_ent ⟨id, id, id, id, id, trivial⟩ (fun w0 => ?_)
  refine tr_seq ?_
  refine tr_region fun _ _ _ => ?_
  refine ef rfl rfl (eBox rfl rfl rfl rfl rfl (fun p0 => ?_)) 
  refine pu rfl rfl rfl rfl rfl ?_
  refine tr_seq ?_
  refine tr_region fun _ _ _ => ?_
  refine st rfl rfl rfl rfl (rLdS rfl rfl rfl) ?_
  refine ef rfl rfl (eCallV rfl rfl rfl (ref_CCheck p m A c mod hl9 w Aa n ca rs hn h9 h8) ⟨rfl, trivial⟩ ?_) 
  refine pu rfl rfl rfl rfl rfl ?_
  refine tr_seq ?_
  refine tr_seq ?_
  refine tr_region fun _ _ _ => ?_
  iterate 2 refine pu rfl rfl rfl rfl rfl ?_
  refine tr_cond_bool rfl (fun h2 => ?_) (fun h2 => ?_)
  · try simp only [zbA] at h2
    refine tr_seq ?_
    refine tr_region fun _ _ _ => ?_
    iterate 2 refine pu rfl rfl rfl rfl rfl ?_
    exact tr_ret ⟨trivial, _, _, rfl, ⟨rfl, rfl⟩, CSub.nil _, trivial⟩
  · try simp only [zbA] at h2
    omega --done
theorem ref_OCheck_ent : Enters Tryz.prog 11 := enters_of Tryz.func11 (by kernel_rfl) (by kernel_rfl)
theorem ref_OCheck (p m : Int) (A : Option Addr) (c : Nat) (mod : List Int) [hF : IsF p m mod] (w : Int) (Aa : Option Addr) (n ca : Nat) (rs : List RowM) (hn : n = rs.length) (h9 : rs.length ≤ 256) (hc : CodeOk p m mod w rs) (T : Option Addr) (nt ct : Nat) (ts : List RowM) (hnt : nt = ts.length) (t9 : ts.length ≤ 17592186044415) (t8 : ∀ r ∈ ts, r.xs.length ≤ 17592186044415) :
    Pure Tryz.prog 11 #[.agg #[.int .i64 p, .int .i64 m, .slice A mod.length c, .int .i64 w, .slice Aa n ca], .slice T nt ct] [ro A (ints mod), ro Aa (hdrs rs), rowsR rs, ro T (hdrs ts), rowsR ts] (isV (.int .i64 (ordC (pw p m) w (xss ts)))) := by
  have hl9 := hF.short
  have hn1 := hc.n1
  have hn64 := hc.n64
  have hlen := hc.len
  have hgd := hc.good
  have h8 := hgd.h8 (N := 17592186044415) (by omega)
  have hck := hc.zero
  have hq2 := hF.q2
  have hgq := hF.ord
  refine pure_of (args := [.agg #[.int .i64 p, .int .i64 m, .slice A mod.length c, .int .i64 w, .slice Aa n ca], .slice T nt ct]) 60 Tryz.func11 rfl rfl rfl ref_OCheck_ent ⟨id, id, id, id, id, trivial⟩ (fun w0 => ?_)
  refine tr_seq ?_
  refine tr_region fun _ _ _ => ?_
  refine ef rfl rfl (eBox rfl rfl rfl rfl rfl (fun p0 => ?_)) 
  refine pu rfl rfl rfl rfl rfl ?_
  refine tr_seq ?_
  refine tr_region fun _ _ _ => ?_
  refine st rfl rfl rfl rfl (rLdS rfl rfl rfl) ?_
  refine ef rfl rfl (eCallV rfl rfl rfl (ref_CCheck _ _ _ _ _ (by omega) w Aa _ ca rs hn (by omega) h8) ⟨rfl, trivial⟩ ?_) 
  refine pu rfl rfl rfl rfl rfl ?_
  refine tr_seq ?_
  refine tr_seq ?_
  refine tr_region fun _ _ _ => ?_
  iterate 2 refine pu rfl rfl rfl rfl rfl ?_
  refine tr_cond_bool rfl (fun h2 => ?_) (fun h2 => ?_)
  · try simp only [zbA] at h2
    omega --done
  · try simp only [zbA] at h2
    refine tr_skip ?_
    refine tr_seq ?_
    refine tr_seq ?_
    refine tr_region fun _ _ _ => ?_
    refine pu rfl rfl rfl rfl rfl ?_
    refine st rfl rfl rfl rfl (rLen rfl rfl) ?_
    refine st rfl rfl rfl rfl (rFld rfl rfl) ?_
    refine st rfl rfl rfl rfl (rLdF rfl rfl rfl) ?_
    refine pu rfl rfl rfl rfl rfl ?_
    refine tr_cond_bool rfl (fun h4 => ?_) (fun h4 => ?_)
    · try simp only [zbA] at h4
      refine tr_seq ?_
      refine tr_region fun _ _ _ => ?_
      refine pu rfl rfl rfl rfl rfl ?_
      exact tr_ret ⟨trivial, _, _, rfl, ⟨by rw [ordC_len (by rw [xss_length]; omega)], rfl⟩, CSub.nil _, trivial⟩
    · try simp only [zbA] at h4
      refine tr_skip ?_
      refine tr_seq ?_
      refine tr_seq ?_
      refine tr_region fun _ _ _ => ?_
      refine pu rfl rfl rfl rfl rfl ?_
      refine tr_block ?_
      refine tr_loop1 (fun (k : Int) => [(6, .int .i64 k), (1, .slice T nt ct), (2, .pointer (some p0))]) (fun (k : Int) => [blk p0 27 [.int .i64 p, .int .i64 m, .slice A mod.length c, .int .i64 w, .slice Aa n ca], ro A (ints mod), ro Aa (hdrs rs), rowsR rs, ro T (hdrs ts), rowsR ts]) (fun (k : Int) => (0 ≤ k ∧ k ≤ nt) ∧ ∀ j : Nat, (j : Int) < k → RowOk (pw p m) (ts.getD j rowD).xs) (fun (k : Int) => (nt - k).toNat) (0) ⟨rfl, rfl, rfl, trivial⟩ (by first | exact cs _ _ | exact CSub.refl _) (⟨⟨by omega, by omega⟩, fun j hj => by omega⟩) (fun k hI => ?_)
      obtain ⟨⟨hk0, hk1⟩, hall⟩ := hI
      refine tr_seq ?_
      refine tr_seq ?_
      refine tr_region fun _ _ _ => ?_
      iterate 2 refine pu rfl rfl rfl rfl rfl ?_
      refine st rfl rfl rfl rfl (rLen rfl rfl) ?_
      refine pu rfl rfl rfl rfl rfl ?_
      refine tr_cond_bool rfl (fun h7 => ?_) (fun h7 => ?_)
      · try simp only [zbA] at h7
        refine tr_skip ?_
        refine tr_seq ?_
        refine tr_block ?_
        refine tr_seq ?_
        refine tr_seq ?_
        haveI : InB (k : Int).toNat ts.length := ⟨by omega⟩
        have htk := t8 _ (getD_mem (show (k : Int).toNat < ts.length by omega) rowD)
        refine tr_draw [0, 1, 2, 3, 4, 5, 6, 7, 8] [] mixed (by kernel_rfl) fun _ _ _ => ?_
        iterate 2 refine pu rfl rfl rfl rfl rfl ?_
        refine st rfl rfl rfl rfl (rIdxR rfl rfl rfl (by omega) (by omega) (by omega)) ?_
        refine st rfl rfl rfl rfl (rLdR rfl rfl (by omega)) ?_
        refine st rfl rfl rfl rfl (rLen rfl rfl) ?_
        refine st rfl rfl rfl rfl (rFld rfl rfl) ?_
        refine st rfl rfl rfl rfl (rLdSF rfl rfl) ?_
        refine ef rfl rfl (eCallV rfl rfl rfl (ref_order p m A c mod) ⟨rfl, trivial⟩ ?_) 
        refine pu rfl rfl rfl rfl rfl ?_
        refine tr_cond_bool rfl (fun h9 => ?_) (fun h9 => ?_)
        · try simp only [zbA] at h9
          refine tr_seq ?_
          refine tr_region fun _ _ _ => ?_
          refine pu rfl rfl rfl rfl rfl ?_
          have hallN : ∀ j : Nat, j < k.toNat → RowOk (pw p m) (ts.getD j rowD).xs := fun j hj => hall j (by omega)
          have hbd := ordC_bad (w := w) (by omega) (show k.toNat < ts.length by omega) hallN (fun h => by have := h.1; omega)
          rw [if_pos (by omega)] at hbd
          exact tr_ret ⟨trivial, _, _, rfl, ⟨by rw [hbd], rfl⟩, CSub.nil _, trivial⟩
        · try simp only [zbA] at h9
          refine tr_skip ?_
          refine tr_seq ?_
          refine tr_region fun _ _ _ => ?_
          refine pu rfl rfl rfl rfl rfl ?_
          refine tr_block ?_
          refine tr_loop1 (fun (j : Int) => [(7, .int .i64 j), (1, .slice T nt ct), (2, .pointer (some p0)), (6, .int .i64 k), (18, .int .i64 k), (19, .slice T nt ct), (20, .int .i64 nt), (24, .slice T nt ct), (25, .int .i64 k), (30, .agg #[.int .i64 p, .int .i64 m, .slice A mod.length c])]) (fun (j : Int) => [blk p0 27 [.int .i64 p, .int .i64 m, .slice A mod.length c, .int .i64 w, .slice Aa n ca], ro A (ints mod), ro Aa (hdrs rs), rowsR rs, ro T (hdrs ts), rowsR ts]) (fun (j : Int) => (0 ≤ j ∧ j ≤ (ts.getD k.toNat rowD).xs.length) ∧ ∀ i : Nat, (i : Int) < j → 0 ≤ (ts.getD k.toNat rowD).xs.getD i 0 ∧ (ts.getD k.toNat rowD).xs.getD i 0 ≤ 2147483648) (fun (j : Int) => ((ts.getD k.toNat rowD).xs.length - j).toNat) (0) ⟨rfl, rfl, rfl, rfl, rfl, rfl, rfl, rfl, rfl, rfl, trivial⟩ (by first | exact cs _ _ | exact CSub.refl _) (⟨⟨by omega, by omega⟩, fun i hi => by omega⟩) (fun j hI => ?_)
          obtain ⟨⟨hj0, hj1⟩, hall2⟩ := hI
          refine tr_seq ?_
          refine tr_seq ?_
          haveI : InB (k : Int).toNat ts.length := ⟨by omega⟩
          have htk := t8 _ (getD_mem (show (k : Int).toNat < ts.length by omega) rowD)
          refine tr_region fun _ _ _ => ?_
          iterate 3 refine pu rfl rfl rfl rfl rfl ?_
          refine st rfl rfl rfl rfl (rIdxR rfl rfl rfl (by omega) (by omega) (by omega)) ?_
          refine st rfl rfl rfl rfl (rLdR rfl rfl (by omega)) ?_
          refine st rfl rfl rfl rfl (rLen rfl rfl) ?_
          refine pu rfl rfl rfl rfl rfl ?_
          refine tr_cond_bool rfl (fun h12 => ?_) (fun h12 => ?_)
          · try simp only [zbA] at h12
            refine tr_skip ?_
            refine tr_seq ?_
            refine tr_block ?_
            refine tr_seq ?_
            haveI : InB (k : Int).toNat ts.length := ⟨by omega⟩
            have htk := t8 _ (getD_mem (show (k : Int).toNat < ts.length by omega) rowD)
            refine tr_region fun _ _ _ => ?_
            iterate 2 refine pu rfl rfl rfl rfl rfl ?_
            refine st rfl rfl rfl rfl (rIdxR rfl rfl rfl (by omega) (by omega) (by omega)) ?_
            refine st rfl rfl rfl rfl (rLdR rfl rfl (by omega)) ?_
            refine pu rfl rfl rfl rfl rfl ?_
            refine st rfl rfl rfl rfl (rIdxI rfl rfl rfl (by omega) (by omega) (by omega)) ?_
            refine st rfl rfl rfl rfl (rLdI rfl rfl (by omega)) ?_
            iterate 2 refine pu rfl rfl rfl rfl rfl ?_
            refine stg rfl rfl rfl rfl rfl (fun hb => by (have hq := hb; try simp only [zbA] at hq); exact rMove rfl rfl) ?_
            refine stg rfl rfl rfl rfl rfl (fun hb => by (have hq := hb; try simp only [zbA] at hq); exact rMove rfl rfl) ?_
            refine stg rfl rfl rfl rfl rfl (fun hb => by (have hq := hb; try simp only [zbA] at hq); exact rIdxR rfl (evg rfl hb) (evg rfl hb) (by omega) (by omega) (by omega)) ?_
            refine stg rfl rfl rfl rfl rfl (fun hb => by (have hq := hb; try simp only [zbA] at hq); exact rLdR rfl (evg rfl hb) (by omega)) ?_
            refine stg rfl rfl rfl rfl rfl (fun hb => by (have hq := hb; try simp only [zbA] at hq); exact rMove rfl rfl) ?_
            refine stg rfl rfl rfl rfl rfl (fun hb => by (have hq := hb; try simp only [zbA] at hq); exact rIdxI rfl (evg rfl hb) (evg rfl hb) (by omega) (by omega) (by omega)) ?_
            refine stg rfl rfl rfl rfl rfl (fun hb => by (have hq := hb; try simp only [zbA] at hq); exact rLdI rfl (evg rfl hb) (by omega)) ?_
            refine stg rfl rfl rfl rfl rfl (fun hb => by (have hq := hb; try simp only [zbA] at hq); exact rGtr rfl (evg rfl hb) rfl) ?_
            refine st rfl rfl rfl rfl (rOrB rfl rfl rfl rfl) ?_
            refine tr_cond_bool rfl (fun h14 => ?_) (fun h14 => ?_)
            · try simp only [zbA] at h14
              refine tr_seq ?_
              refine tr_region fun _ _ _ => ?_
              refine pu rfl rfl rfl rfl rfl ?_
              have hallN : ∀ j : Nat, j < k.toNat → RowOk (pw p m) (ts.getD j rowD).xs := fun j hj => hall j (by omega)
              have hbd := ordC_bad (w := w) (by omega) (show k.toNat < ts.length by omega) hallN (fun h => by have := h.at j.toNat; omega)
              rw [if_neg (by omega)] at hbd
              exact tr_ret ⟨trivial, _, _, rfl, ⟨by rw [hbd], rfl⟩, CSub.nil _, trivial⟩
            · try simp only [zbA] at h14
              refine tr_skip ?_
              refine tr_region fun _ _ _ => ?_
              refine pu rfl rfl rfl rfl rfl ?_
              refine st rfl rfl rfl rfl (rAdd rfl rfl rfl (by omega) (by omega)) ?_
              refine pu rfl rfl rfl rfl rfl ?_
              refine ⟨j + 1, ⟨rfl, rfl, rfl, rfl, rfl, rfl, rfl, rfl, rfl, rfl, trivial⟩, by first | exact cs _ _ | exact CSub.refl _, ?_⟩
              refine ⟨⟨⟨by omega, by omega⟩, fun i hi => ?_⟩, by omega⟩
              by_cases he : (i : Int) = j
              · have : i = j.toNat := by omega
                subst this; omega
              · exact hall2 i (by omega)
          · try simp only [zbA] at h12
            refine tr_exit ?_
            refine tr_region fun _ _ _ => ?_
            refine pu rfl rfl rfl rfl rfl ?_
            refine st rfl rfl rfl rfl (rAdd rfl rfl rfl (by omega) (by omega)) ?_
            refine pu rfl rfl rfl rfl rfl ?_
            refine ⟨k + 1, ⟨rfl, rfl, rfl, trivial⟩, by first | exact cs _ _ | exact CSub.refl _, ?_⟩
            refine ⟨⟨⟨by omega, by omega⟩, fun j hj => ?_⟩, by omega⟩
            by_cases he : (j : Int) = k
            · have : j = k.toNat := by omega
              subst this
              exact ⟨by omega, fun x hx => by
                obtain ⟨i, hi, rfl⟩ := List.getElem_of_mem hx
                have := hall2 i (by omega)
                rwa [List.getD_eq_getElem?_getD, List.getElem?_eq_getElem hi] at this⟩
            · exact hall j (by omega)
      · try simp only [zbA] at h7
        refine tr_exit ?_
        refine tr_seq ?_
        refine tr_region fun _ _ _ => ?_
        refine pu rfl rfl rfl rfl rfl ?_
        have hok := ordC_ok (q := pw p m) (w := w) (ts := ts) (by omega) fun j hj => hall j (by omega)
        exact tr_ret ⟨trivial, _, _, rfl, ⟨by rw [hok], rfl⟩, CSub.nil _, trivial⟩
theorem law42_few_ent : Enters Tryz.prog 9 := enters_of Tryz.func9 (by kernel_rfl) (by kernel_rfl)
theorem law42_few (p m : Int) (A : Option Addr) (c : Nat) (mod : List Int) (hl9 : mod.length ≤ 17592186044415) (w : Int) (Aa : Option Addr) (n ca : Nat) (rs : List RowM) (hn : n = rs.length) (h9 : rs.length ≤ 17592186044415) (h8 : ∀ r ∈ rs, r.xs.length ≤ 17592186044415) (hl : rs.length ≤ 64) :
    Pure Tryz.prog 9 #[.agg #[.int .i64 p, .int .i64 m, .slice A mod.length c, .int .i64 w, .slice Aa n ca]] [ro Aa (hdrs rs), rowsR rs] (val (fun v => ∃ b : Bool, v = .bool b ∧ (b = true → rs.length ≤ 64 ∧ ∀ r ∈ rs, r.xs.length ≤ 4200))) := by
  refine pure_of (args := [.agg #[.int .i64 p, .int .i64 m, .slice A mod.length c, .int .i64 w, .slice Aa n ca]]) 11 Tryz.func9 rfl rfl rfl law42_few_ent ⟨id, id, trivial⟩ (fun w0 => ?_)
  refine tr_seq ?_
  refine tr_region fun _ _ _ => ?_
  refine ef rfl rfl (eBox rfl rfl rfl rfl rfl (fun p0 => ?_)) 
  refine pu rfl rfl rfl rfl rfl ?_
  refine tr_seq ?_
  refine tr_region fun _ _ _ => ?_
  refine st rfl rfl rfl rfl (rFld rfl rfl) ?_
  refine st rfl rfl rfl rfl (rLdF rfl rfl rfl) ?_
  refine st rfl rfl rfl rfl (rLen rfl rfl) ?_
  iterate 2 refine pu rfl rfl rfl rfl rfl ?_
  refine stT rfl rfl rfl (by simp; omega) rfl rfl (rLdS rfl rfl rfl) ?_
  refine efT rfl rfl rfl (by simp; omega) (eCall0 rfl rfl rfl (ref_CFew p m A c mod hl9 w Aa n ca rs hn h9 h8) ⟨rfl, rfl, trivial⟩ ?_) 
  rintro _ ⟨b, rfl, hb⟩
  refine st rfl rfl rfl rfl (rPick1 rfl rfl (by simp; omega) rfl) ?_
  refine pu rfl rfl rfl rfl rfl ?_
  exact tr_ret ⟨trivial, _, _, rfl, ⟨rfl, b, by simp, fun h => ⟨hl, hb h⟩⟩, CSub.nil _, trivial⟩
theorem law42_few0_ent : Enters Tryz.prog 9 := enters_of Tryz.func9 (by kernel_rfl) (by kernel_rfl)
theorem law42_few0 (p m : Int) (A : Option Addr) (c : Nat) (mod : List Int) (hl9 : mod.length ≤ 17592186044415) (w : Int) (Aa : Option Addr) (n ca : Nat) (rs : List RowM) (hn : n = rs.length) (h9 : rs.length ≤ 17592186044415) (h8 : ∀ r ∈ rs, r.xs.length ≤ 17592186044415) (hl : ¬ rs.length ≤ 64) :
    Pure Tryz.prog 9 #[.agg #[.int .i64 p, .int .i64 m, .slice A mod.length c, .int .i64 w, .slice Aa n ca]] [ro Aa (hdrs rs), rowsR rs] (val (fun v => ∃ b : Bool, v = .bool b ∧ (b = true → rs.length ≤ 64 ∧ ∀ r ∈ rs, r.xs.length ≤ 4200))) := by
  refine pure_of (args := [.agg #[.int .i64 p, .int .i64 m, .slice A mod.length c, .int .i64 w, .slice Aa n ca]]) 11 Tryz.func9 rfl rfl rfl law42_few0_ent ⟨id, id, trivial⟩ (fun w0 => ?_)
  refine tr_seq ?_
  refine tr_region fun _ _ _ => ?_
  refine ef rfl rfl (eBox rfl rfl rfl rfl rfl (fun p0 => ?_)) 
  refine pu rfl rfl rfl rfl rfl ?_
  refine tr_seq ?_
  refine tr_region fun _ _ _ => ?_
  refine st rfl rfl rfl rfl (rFld rfl rfl) ?_
  refine st rfl rfl rfl rfl (rLdF rfl rfl rfl) ?_
  refine st rfl rfl rfl rfl (rLen rfl rfl) ?_
  iterate 2 refine pu rfl rfl rfl rfl rfl ?_
  refine skF rfl rfl (by simp; omega) rfl rfl ?_
  refine skF rfl rfl (by simp; omega) rfl rfl ?_
  refine st rfl rfl rfl rfl (rPick0 rfl rfl (by simp; omega) rfl) ?_
  refine pu rfl rfl rfl rfl rfl ?_
  exact tr_ret ⟨trivial, _, _, rfl, ⟨rfl, false, by simp, fun h => by cases h⟩, CSub.nil _, trivial⟩
theorem law42_fewC (p m : Int) (A : Option Addr) (c : Nat) (mod : List Int) (hl9 : mod.length ≤ 17592186044415) (w : Int) (Aa : Option Addr) (n ca : Nat) (rs : List RowM) (hn : n = rs.length) (h9 : rs.length ≤ 17592186044415) (h8 : ∀ r ∈ rs, r.xs.length ≤ 17592186044415) : Pure Tryz.prog 9 #[.agg #[.int .i64 p, .int .i64 m, .slice A mod.length c, .int .i64 w, .slice Aa n ca]] [ro Aa (hdrs rs), rowsR rs] (val (fun v => ∃ b : Bool, v = .bool b ∧ (b = true → rs.length ≤ 64 ∧ ∀ r ∈ rs, r.xs.length ≤ 4200))) := by
  by_cases hl : rs.length ≤ 64
  · exact law42_few p m A c mod hl9 w Aa n ca rs hn h9 h8 hl
  · exact law42_few0 p m A c mod hl9 w Aa n ca rs hn h9 h8 hl
def hardL (ts : List RowM) : List Int := (xss ts).map fun r => (hardI r : Int)
def relL (ts : List RowM) : List Int := (xss ts).map relI
@[simp] theorem hardL_length (ts : List RowM) : (hardL ts).length = ts.length := by simp [hardL]
@[simp] theorem relL_length (ts : List RowM) : (relL ts).length = ts.length := by simp [relL]
theorem map_take1 {α : Type} (f : List Int → α) (ts : List RowM) {k : Nat} (hk : k < ts.length) : ((xss ts).map f).take (k + 1) = ((xss ts).map f).take k ++ [f (ts.getD k rowD).xs] := by
  rw [List.take_add_one, List.getElem?_map]
  have : (xss ts)[k]? = some (ts.getD k rowD).xs := by
    rw [xss, List.getElem?_map, List.getElem?_eq_getElem hk, List.getD_eq_getElem?_getD, List.getElem?_eq_getElem hk]; rfl
  rw [this]; rfl
theorem hardL_take (ts : List RowM) {k : Nat} (hk : k < ts.length) : (hardL ts).take (k + 1) = (hardL ts).take k ++ [(hardI (ts.getD k rowD).xs : Int)] := map_take1 _ ts hk
theorem relL_take (ts : List RowM) {k : Nat} (hk : k < ts.length) : (relL ts).take (k + 1) = (relL ts).take k ++ [relI (ts.getD k rowD).xs] := map_take1 _ ts hk
theorem hardL_getD (ts : List RowM) {k : Nat} (hk : k < ts.length) : (hardL ts).getD k 0 = (hardI (ts.getD k rowD).xs : Int) := by
  rw [hardL, List.getD_eq_getElem?_getD, List.getElem?_map, xss, List.getElem?_map, List.getElem?_eq_getElem hk, List.getD_eq_getElem?_getD, List.getElem?_eq_getElem hk]; rfl
theorem relL_getD (ts : List RowM) {k : Nat} (hk : k < ts.length) : (relL ts).getD k 0 = relI (ts.getD k rowD).xs := by
  rw [relL, List.getD_eq_getElem?_getD, List.getElem?_map, xss, List.getElem?_map, List.getElem?_eq_getElem hk, List.getD_eq_getElem?_getD, List.getElem?_eq_getElem hk]; rfl
theorem amin_yes {r : List Int} {k : Nat} (h : r.getD k 0 < r.getD (amin r k) 0) : amin r (k + 1) = k := by rw [amin, if_pos h]
theorem amin_no {r : List Int} {k : Nat} (h : ¬ r.getD k 0 < r.getD (amin r k) 0) : amin r (k + 1) = amin r k := by rw [amin, if_neg h]
theorem sec_yes {r : List Int} {b k : Nat} (h : k ≠ b ∧ (sec r b k < 0 ∨ r.getD k 0 < sec r b k)) : sec r b (k + 1) = r.getD k 0 := by rw [sec, if_pos h]
theorem sec_no {r : List Int} {b k : Nat} (h : ¬ (k ≠ b ∧ (sec r b k < 0 ∨ r.getD k 0 < sec r b k))) : sec r b (k + 1) = sec r b k := by rw [sec, if_neg h]
theorem ord_hard_ent : Enters Tryz.prog 34 := enters_of Tryz.func34 (by kernel_rfl) (by kernel_rfl)
theorem ord_hard (T : Option Addr) (nt ct : Nat) (ts : List RowM) (hnt : nt = ts.length) (q : Int) (hq2 : 2 ≤ q) (hq9 : q ≤ 256) (t64 : ts.length ≤ 64) (htr : ∀ r ∈ ts, RowOk q r.xs) :
    Pure Tryz.prog 34 #[.slice T nt ct] [ro T (hdrs ts), rowsR ts] (two (fun v c1 c2 => ∃ B cb D cd, v = .tuple #[.slice B (hardL ts).length cb, .slice D (relL ts).length cd] ∧ c1 = ow B 3 cb (ints (hardL ts)) ∧ c2 = ow D 3 cd (ints (relL ts)))) := by
  refine pure_of (args := [.slice T nt ct]) 70 Tryz.func34 rfl rfl rfl ord_hard_ent ⟨id, id, trivial⟩ (fun w0 => ?_)
  refine tr_seq ?_
  refine tr_region fun _ _ _ => ?_
  iterate 2 refine pu rfl rfl rfl rfl rfl ?_
  refine tr_seq ?_
  refine tr_seq ?_
  refine tr_region fun _ _ _ => ?_
  refine pu rfl rfl rfl rfl rfl ?_
  refine st rfl rfl rfl rfl (rLen rfl rfl) ?_
  refine pu rfl rfl rfl rfl rfl ?_
  refine tr_block ?_
  refine tr_nilI 3 ?_
  refine tr_nilI 3 ?_
  refine tr_loop7 (fun (k : Int) (B : Option Addr) (cb : Nat) (o : List Int) (D : Option Addr) (cd : Nat) (u : List Int) => [(2, .slice B o.length cb), (3, .slice D u.length cd), (14, .int .i64 k), (12, .slice T nt ct), (13, .int .i64 nt)]) (fun (k : Int) (B : Option Addr) (cb : Nat) (o : List Int) (D : Option Addr) (cd : Nat) (u : List Int) => [ow B 3 cb (ints o), ow D 3 cd (ints u), ro T (hdrs ts), rowsR ts]) (fun (k : Int) (B : Option Addr) (cb : Nat) (o : List Int) (D : Option Addr) (cd : Nat) (u : List Int) => (0 ≤ k ∧ k ≤ nt) ∧ o = (hardL ts).take k.toNat ∧ u = (relL ts).take k.toNat) (fun (k : Int) (B : Option Addr) (cb : Nat) (o : List Int) (D : Option Addr) (cd : Nat) (u : List Int) => (nt - k).toNat) (0) (none) (0) ([]) (none) (0) ([]) ⟨rfl, rfl, rfl, rfl, rfl, trivial⟩ (by first | exact cs _ _ | exact CSub.refl _) (⟨⟨by omega, by omega⟩, rfl, rfl⟩) (fun k B cb o D cd u hI => ?_)
  obtain ⟨⟨hk0, hk1⟩, ho, hu⟩ := hI
  have hol : o.length = k.toNat := by rw [ho, List.length_take, hardL_length]; omega
  have hul : u.length = k.toNat := by rw [hu, List.length_take, relL_length]; omega
  refine tr_seq ?_
  refine tr_region fun _ _ _ => ?_
  refine pu rfl rfl rfl rfl rfl ?_
  refine tr_seq ?_
  refine tr_cond_bool rfl (fun h2 => ?_) (fun h2 => ?_)
  · try simp only [zbA] at h2
    refine tr_skip ?_
    refine tr_seq ?_
    refine tr_block ?_
    refine tr_seq ?_
    haveI : InB k.toNat ts.length := ⟨by omega⟩
    have htk := htr _ (getD_mem (show k.toNat < ts.length by omega) rowD)
    have htl := htk.1
    have hpos : 0 < (ts.getD k.toNat rowD).xs.length := by omega
    refine tr_region fun _ _ _ => ?_
    refine st rfl rfl rfl rfl (rIdxR rfl rfl rfl (by omega) (by omega) (by omega)) ?_
    refine st rfl rfl rfl rfl (rLdR rfl rfl (by omega)) ?_
    refine pu rfl rfl rfl rfl rfl ?_
    refine tr_seq ?_
    refine tr_region fun _ _ _ => ?_
    refine pu rfl rfl rfl rfl rfl ?_
    refine tr_seq ?_
    refine tr_seq ?_
    refine tr_region fun _ _ _ => ?_
    refine pu rfl rfl rfl rfl rfl ?_
    refine st rfl rfl rfl rfl (rLen rfl rfl) ?_
    refine pu rfl rfl rfl rfl rfl ?_
    refine tr_block ?_
    refine tr_loop2 (fun (j : Int) (b : Int) => [(20, .int .i64 j), (6, .int .i64 b), (5, .slice (ts.getD k.toNat rowD).A (ts.getD k.toNat rowD).xs.length (ts.getD k.toNat rowD).cap), (18, .slice (ts.getD k.toNat rowD).A (ts.getD k.toNat rowD).xs.length (ts.getD k.toNat rowD).cap), (19, .int .i64 (ts.getD k.toNat rowD).xs.length), (2, .slice B o.length cb), (3, .slice D u.length cd), (12, .slice T nt ct), (13, .int .i64 nt), (14, .int .i64 k)]) (fun (j : Int) (b : Int) => [ow B 3 cb (ints o), ow D 3 cd (ints u), ro T (hdrs ts), rowsR ts]) (fun (j : Int) (b : Int) => (0 ≤ j ∧ j ≤ (ts.getD k.toNat rowD).xs.length) ∧ b = (amin (ts.getD k.toNat rowD).xs j.toNat : Int)) (fun (j : Int) (b : Int) => ((ts.getD k.toNat rowD).xs.length - j).toNat) (0) (0) ⟨rfl, rfl, rfl, rfl, rfl, rfl, rfl, rfl, rfl, rfl, trivial⟩ (by first | exact cs _ _ | exact CSub.refl _) (⟨⟨by omega, by omega⟩, rfl⟩) (fun j b hI => ?_)
    obtain ⟨⟨hj0, hj1⟩, hb⟩ := hI
    have hbl := amin_lt hpos j.toNat (by omega)
    refine tr_seq ?_
    refine tr_region fun _ _ _ => ?_
    refine pu rfl rfl rfl rfl rfl ?_
    refine tr_seq ?_
    refine tr_cond_bool rfl (fun h6 => ?_) (fun h6 => ?_)
    · try simp only [zbA] at h6
      refine tr_skip ?_
      refine tr_seq ?_
      refine tr_block ?_
      refine tr_seq ?_
      refine tr_region fun _ _ _ => ?_
      refine pu rfl rfl rfl rfl rfl ?_
      refine st rfl rfl rfl rfl (rIdxI rfl rfl rfl (by omega) (by omega) (by omega)) ?_
      refine st rfl rfl rfl rfl (rLdI rfl rfl (by omega)) ?_
      iterate 2 refine pu rfl rfl rfl rfl rfl ?_
      refine tr_seq ?_
      refine tr_region fun _ _ _ => ?_
      iterate 3 refine pu rfl rfl rfl rfl rfl ?_
      refine st rfl rfl rfl rfl (rIdxI rfl rfl rfl (by omega) (by omega) (by omega)) ?_
      refine st rfl rfl rfl rfl (rLdI rfl rfl (by omega)) ?_
      refine pu rfl rfl rfl rfl rfl ?_
      refine tr_cond_bool rfl (fun h8 => ?_) (fun h8 => ?_)
      · try simp only [zbA] at h8
        refine tr_region fun _ _ _ => ?_
        iterate 2 refine pu rfl rfl rfl rfl rfl ?_
        refine tr_region fun _ _ _ => ?_
        refine st rfl rfl rfl rfl (rAdd rfl rfl rfl (by omega) (by omega)) ?_
        refine pu rfl rfl rfl rfl rfl ?_
        refine ⟨j + 1, j, ⟨rfl, rfl, rfl, rfl, rfl, rfl, rfl, rfl, rfl, rfl, trivial⟩, by first | exact cs _ _ | exact CSub.refl _, ?_⟩
        exact ⟨⟨⟨by omega, by omega⟩, by rw [show (j + 1).toNat = j.toNat + 1 by omega, amin_yes (by rw [hb] at h8; simpa using h8)]; omega⟩, by omega⟩
      · try simp only [zbA] at h8
        refine tr_skip ?_
        refine tr_region fun _ _ _ => ?_
        refine st rfl rfl rfl rfl (rAdd rfl rfl rfl (by omega) (by omega)) ?_
        refine pu rfl rfl rfl rfl rfl ?_
        refine ⟨j + 1, b, ⟨rfl, rfl, rfl, rfl, rfl, rfl, rfl, rfl, rfl, rfl, trivial⟩, by first | exact cs _ _ | exact CSub.refl _, ?_⟩
        exact ⟨⟨⟨by omega, by omega⟩, by rw [show (j + 1).toNat = j.toNat + 1 by omega, amin_no (by rw [hb] at h8; simpa using h8)]; exact hb⟩, by omega⟩
    · try simp only [zbA] at h6
      refine tr_exit ?_
      refine tr_seq ?_
      refine tr_region fun _ _ _ => ?_
      refine pu rfl rfl rfl rfl rfl ?_
      refine tr_seq ?_
      refine tr_seq ?_
      refine tr_region fun _ _ _ => ?_
      refine pu rfl rfl rfl rfl rfl ?_
      refine st rfl rfl rfl rfl (rLen rfl rfl) ?_
      refine pu rfl rfl rfl rfl rfl ?_
      refine tr_block ?_
      refine tr_loop2 (fun (i : Int) (s : Int) => [(35, .int .i64 i), (9, .int .i64 s), (6, .int .i64 b), (5, .slice (ts.getD k.toNat rowD).A (ts.getD k.toNat rowD).xs.length (ts.getD k.toNat rowD).cap), (33, .slice (ts.getD k.toNat rowD).A (ts.getD k.toNat rowD).xs.length (ts.getD k.toNat rowD).cap), (34, .int .i64 (ts.getD k.toNat rowD).xs.length), (2, .slice B o.length cb), (3, .slice D u.length cd), (12, .slice T nt ct), (13, .int .i64 nt), (14, .int .i64 k), (18, .slice (ts.getD k.toNat rowD).A (ts.getD k.toNat rowD).xs.length (ts.getD k.toNat rowD).cap), (19, .int .i64 (ts.getD k.toNat rowD).xs.length), (20, .int .i64 j)]) (fun (i : Int) (s : Int) => [ow B 3 cb (ints o), ow D 3 cd (ints u), ro T (hdrs ts), rowsR ts]) (fun (i : Int) (s : Int) => (0 ≤ i ∧ i ≤ (ts.getD k.toNat rowD).xs.length) ∧ s = sec (ts.getD k.toNat rowD).xs b.toNat i.toNat) (fun (i : Int) (s : Int) => ((ts.getD k.toNat rowD).xs.length - i).toNat) (0) (-1) ⟨rfl, rfl, rfl, rfl, rfl, rfl, rfl, rfl, rfl, rfl, rfl, rfl, rfl, rfl, trivial⟩ (by first | exact cs _ _ | exact CSub.refl _) (⟨⟨by omega, by omega⟩, rfl⟩) (fun i s hI => ?_)
      obtain ⟨⟨hi0, hi1⟩, hs⟩ := hI
      have hsb := sec_bd (b := b.toNat) htk.2 (by omega) i.toNat (by omega)
      refine tr_seq ?_
      refine tr_region fun _ _ _ => ?_
      refine pu rfl rfl rfl rfl rfl ?_
      refine tr_seq ?_
      refine tr_cond_bool rfl (fun h13 => ?_) (fun h13 => ?_)
      · try simp only [zbA] at h13
        refine tr_skip ?_
        refine tr_seq ?_
        refine tr_block ?_
        refine tr_seq ?_
        refine tr_region fun _ _ _ => ?_
        refine pu rfl rfl rfl rfl rfl ?_
        refine st rfl rfl rfl rfl (rIdxI rfl rfl rfl (by omega) (by omega) (by omega)) ?_
        refine st rfl rfl rfl rfl (rLdI rfl rfl (by omega)) ?_
        iterate 2 refine pu rfl rfl rfl rfl rfl ?_
        refine tr_seq ?_
        refine tr_region fun _ _ _ => ?_
        iterate 4 refine pu rfl rfl rfl rfl rfl ?_
        refine stg rfl rfl rfl rfl rfl (fun hb => by (have hq := hb; try simp only [zbA] at hq); exact rMove rfl rfl) ?_
        refine stg rfl rfl rfl rfl rfl (fun hb => by (have hq := hb; try simp only [zbA] at hq); exact rLss rfl (evg rfl hb) rfl) ?_
        refine stg rfl rfl rfl rfl rfl (fun hb => by (have hq := hb; try simp only [zbA] at hq); exact rMove rfl (evg rfl hb)) ?_
        refine stg2 rfl rfl rfl rfl rfl (fun hb => by (have hq := hb; try simp only [zbA] at hq); exact rMove rfl rfl) ?_
        refine stg2 rfl rfl rfl rfl rfl (fun hb => by (have hq := hb; try simp only [zbA] at hq); exact rMove rfl rfl) ?_
        refine stg2 rfl rfl rfl rfl rfl (fun hb => by (have hq := hb; try simp only [zbA] at hq); exact rLss rfl (evg rfl hb) (evg rfl hb)) ?_
        refine stg rfl rfl rfl rfl rfl (fun hb => by (have hq := hb; try simp only [zbA] at hq); exact rOrB rfl (evg rfl hb) rfl (evgp rfl hb)) ?_
        refine st rfl rfl rfl rfl (rAndB rfl rfl rfl rfl) ?_
        refine tr_cond_bool rfl (fun h15 => ?_) (fun h15 => ?_)
        · try simp only [zbA] at h15
          refine tr_region fun _ _ _ => ?_
          iterate 2 refine pu rfl rfl rfl rfl rfl ?_
          refine tr_region fun _ _ _ => ?_
          refine st rfl rfl rfl rfl (rAdd rfl rfl rfl (by omega) (by omega)) ?_
          refine pu rfl rfl rfl rfl rfl ?_
          refine ⟨i + 1, (ts.getD k.toNat rowD).xs.getD i.toNat 0, ⟨rfl, rfl, rfl, rfl, rfl, rfl, rfl, rfl, rfl, rfl, rfl, rfl, rfl, rfl, trivial⟩, by first | exact cs _ _ | exact CSub.refl _, ?_⟩
          exact ⟨⟨⟨by omega, by omega⟩, by rw [show (i + 1).toNat = i.toNat + 1 by omega, sec_yes (by rw [← hs]; omega)]⟩, by omega⟩
        · try simp only [zbA] at h15
          refine tr_skip ?_
          refine tr_region fun _ _ _ => ?_
          refine st rfl rfl rfl rfl (rAdd rfl rfl rfl (by omega) (by omega)) ?_
          refine pu rfl rfl rfl rfl rfl ?_
          refine ⟨i + 1, s, ⟨rfl, rfl, rfl, rfl, rfl, rfl, rfl, rfl, rfl, rfl, rfl, rfl, rfl, rfl, trivial⟩, by first | exact cs _ _ | exact CSub.refl _, ?_⟩
          exact ⟨⟨⟨by omega, by omega⟩, by rw [show (i + 1).toNat = i.toNat + 1 by omega, sec_no (by rw [← hs]; omega)]; exact hs⟩, by omega⟩
      · try simp only [zbA] at h13
        refine tr_exit ?_
        refine tr_seq ?_
        refine tr_region fun _ _ _ => ?_
        iterate 2 refine pu rfl rfl rfl rfl rfl ?_
        refine ef rfl rfl (eLit1I rfl rfl rfl rfl (fun A18 => ?_)) 
        refine ef rfl rfl (eAppI rfl rfl rfl rfl rfl (by first | rfl | simp | omega) (by first | rfl | simp | omega) (by first | omega | (simp; omega)) (fun A18a c18a => ?_)) 
        refine pu rfl rfl rfl rfl rfl ?_
        have hrb := htk.at b.toNat
        have hsb := sec_bd (b := b.toNat) htk.2 (by omega) i.toNat (by omega)
        refine tr_region fun _ _ _ => ?_
        iterate 4 refine pu rfl rfl rfl rfl rfl ?_
        refine st rfl rfl rfl rfl (rIdxI rfl rfl rfl (by omega) (by omega) (by omega)) ?_
        refine st rfl rfl rfl rfl (rLdI rfl rfl (by omega)) ?_
        refine st rfl rfl rfl rfl (rSub rfl rfl rfl (by omega) (by omega)) ?_
        refine ef rfl rfl (eLit1I rfl rfl rfl rfl (fun A19 => ?_)) 
        refine ef rfl rfl (eAppI rfl rfl rfl rfl rfl (by first | rfl | simp | omega) (by first | rfl | simp | omega) (by first | omega | (simp; omega)) (fun A19a c19a => ?_)) 
        refine pu rfl rfl rfl rfl rfl ?_
        refine tr_region fun _ _ _ => ?_
        refine st rfl rfl rfl rfl (rAdd rfl rfl rfl (by omega) (by omega)) ?_
        refine pu rfl rfl rfl rfl rfl ?_
        refine ⟨k + 1, A18a, c18a, o ++ [b], A19a, c19a, u ++ [s - (ts.getD k.toNat rowD).xs.getD b.toNat 0], ⟨rfl, rfl, rfl, rfl, rfl, trivial⟩, by first | exact cs _ _ | exact CSub.refl _, ?_⟩
        have hkk : (k + 1).toNat = k.toNat + 1 := by omega
        have hbh : b = (hardI (ts.getD k.toNat rowD).xs : Int) := by rw [hb, show j.toNat = (ts.getD k.toNat rowD).xs.length by omega]; rfl
        have hsh : s - (ts.getD k.toNat rowD).xs.getD b.toNat 0 = relI (ts.getD k.toNat rowD).xs := by rw [hs, hbh, show i.toNat = (ts.getD k.toNat rowD).xs.length by omega]; rfl
        exact ⟨⟨⟨by omega, by omega⟩, by rw [hkk, hardL_take ts (by omega), ← ho, hbh], by rw [hkk, relL_take ts (by omega), ← hu, hsh]⟩, by omega⟩
  · try simp only [zbA] at h2
    refine tr_exit ?_
    refine tr_seq ?_
    refine tr_region fun _ _ _ => ?_
    iterate 4 refine pu rfl rfl rfl rfl rfl ?_
    have hkt : k.toNat = ts.length := by omega
    have ho2 : o = hardL ts := by rw [ho, hkt, ← hardL_length, List.take_length]
    have hu2 : u = relL ts := by rw [hu, hkt, ← relL_length, List.take_length]
    subst ho2 hu2
    exact tr_ret ⟨trivial, _, _, rfl, ⟨_, _, rfl, B, cb, D, cd, rfl, rfl, rfl⟩, cs _ _, trivial, trivial, trivial⟩
end Go.Proofs.YtoalphamojhpcaaGreat

set_option linter.unusedSimpArgs false
set_option linter.unusedVariables false
set_option maxRecDepth 100000
namespace Go.Proofs.YtoalphamojhpcaaGreat
open Go.RowKit
noncomputable def wordC (q w : Int) (l : List Int) : Int := if (l.length : Int) ≠ w then 4 else entC q l
theorem wordC_len {q w : Int} {l : List Int} (h : (l.length : Int) ≠ w) : wordC q w l = 4 := if_pos h
theorem wordC_ent {q w : Int} {l : List Int} (h : (l.length : Int) = w) : wordC q w l = entC q l := by unfold wordC; rw [if_neg (by omega)]
theorem wordC_zero {q w : Int} {l : List Int} (h : wordC q w l = 0) : (l.length : Int) = w ∧ AllIn q l := by
  unfold wordC at h
  split at h
  · cases h
  · rename_i h1
    rcases entC_cases q l with h2 | h2
    · exact ⟨by omega, h2.1⟩
    · omega
def cstT (tb : List (List Int)) (l : List Int) : Nat → Int
  | 0 => 0
  | k + 1 => cstT tb l k + (tb.getD k []).getD (l.getD k 0).toNat 0
def cstL (tb : List (List Int)) (l : List Int) : Int := cstT tb l l.length
theorem cstT_bd {q : Int} {ts : List RowM} (htr : ∀ r ∈ ts, RowOk q r.xs) (l : List Int) : ∀ k, k ≤ ts.length → 0 ≤ cstT (xss ts) l k ∧ cstT (xss ts) l k ≤ k * 2147483648
  | 0, _ => by simp [cstT]
  | k + 1, hk => by
    have ih := cstT_bd htr l k (by omega)
    have h := (htr _ (getD_mem (show k < ts.length by omega) rowD)).at (l.getD k 0).toNat
    rw [cstT, xss_getD]
    omega
theorem cstT_succ (ts : List RowM) (l : List Int) (k : Nat) : cstT (xss ts) l (k + 1) = cstT (xss ts) l k + (ts.getD k rowD).xs.getD (l.getD k 0).toNat 0 := by rw [cstT, xss_getD]
theorem ord_word_ent : Enters Tryz.prog 32 := enters_of Tryz.func32 (by kernel_rfl) (by kernel_rfl)
theorem ord_word (g : GfM) (q : Int) (hq : g.q = q) (w : Int) (X : Option Addr) (nx cx : Nat) (l : List Int) (hnx : nx = l.length) (hl : l.length ≤ 17592186044415) :
    Pure Tryz.prog 32 #[.pointer (some g.p), .int .i64 w, .slice X nx cx] [gfR g, ro X (ints l)] (isV (.int .i64 (wordC q w l))) := by
  refine pure_of (args := [.pointer (some g.p), .int .i64 w, .slice X nx cx]) 24 Tryz.func32 rfl rfl rfl ord_word_ent ⟨id, id, trivial⟩ (fun w0 => ?_)
  refine tr_seq ?_
  refine tr_region fun _ _ _ => ?_
  refine pu rfl rfl rfl rfl rfl ?_
  refine tr_seq ?_
  refine tr_seq ?_
  refine tr_region fun _ _ _ => ?_
  refine pu rfl rfl rfl rfl rfl ?_
  refine st rfl rfl rfl rfl (rLen rfl rfl) ?_
  iterate 2 refine pu rfl rfl rfl rfl rfl ?_
  refine tr_cond_bool rfl (fun h1 => ?_) (fun h1 => ?_)
  · try simp only [zbA] at h1
    refine tr_seq ?_
    refine tr_region fun _ _ _ => ?_
    refine pu rfl rfl rfl rfl rfl ?_
    exact tr_ret ⟨trivial, _, _, rfl, ⟨by rw [wordC_len (by omega)], rfl⟩, CSub.nil _, trivial⟩
  · try simp only [zbA] at h1
    refine tr_skip ?_
    refine tr_seq ?_
    refine tr_seq ?_
    refine tr_region fun _ _ _ => ?_
    refine pu rfl rfl rfl rfl rfl ?_
    refine st rfl rfl rfl rfl (rLen rfl rfl) ?_
    refine pu rfl rfl rfl rfl rfl ?_
    refine tr_block ?_
    refine tr_loop1 (fun (k : Int) => [(15, .int .i64 k), (0, .pointer (some g.p)), (13, .slice X nx cx), (14, .int .i64 nx)]) (fun (k : Int) => [gfR g, ro X (ints l)]) (fun (k : Int) => (0 ≤ k ∧ k ≤ nx) ∧ ∀ j : Nat, (j : Int) < k → 0 ≤ l.getD j 0 ∧ l.getD j 0 < q) (fun (k : Int) => (nx - k).toNat) (0) ⟨rfl, rfl, rfl, rfl, trivial⟩ (by first | exact cs _ _ | exact CSub.refl _) (⟨⟨by omega, by omega⟩, fun j hj => by omega⟩) (fun k hI => ?_)
    obtain ⟨⟨hk0, hk1⟩, hall⟩ := hI
    refine tr_seq ?_
    refine tr_region fun _ _ _ => ?_
    refine pu rfl rfl rfl rfl rfl ?_
    refine tr_seq ?_
    refine tr_cond_bool rfl (fun h4 => ?_) (fun h4 => ?_)
    · try simp only [zbA] at h4
      refine tr_skip ?_
      refine tr_seq ?_
      refine tr_block ?_
      refine tr_seq ?_
      refine tr_region fun _ _ _ => ?_
      refine st rfl rfl rfl rfl (rIdxI rfl rfl rfl (by omega) (by omega) (by omega)) ?_
      refine st rfl rfl rfl rfl (rLdI rfl rfl (by omega)) ?_
      refine pu rfl rfl rfl rfl rfl ?_
      refine tr_seq ?_
      refine tr_region fun _ _ _ => ?_
      iterate 2 refine pu rfl rfl rfl rfl rfl ?_
      refine ef rfl rfl (eCallV rfl rfl rfl (gf_Is g (l.getD k.toNat 0)) ⟨rfl, rfl, trivial⟩ ?_) 
      refine st rfl rfl rfl rfl (rNotB rfl rfl) ?_
      refine tr_cond_bool rfl (fun h6 => ?_) (fun h6 => ?_)
      · try simp only [zbA] at h6
        refine tr_seq ?_
        refine tr_region fun _ _ _ => ?_
        refine pu rfl rfl rfl rfl rfl ?_
        have hno : ¬ AllIn q l := fun h => by
          have hb := h (l.getD k.toNat 0) (getD_mem (by omega) _)
          omega
        exact tr_ret ⟨trivial, _, _, rfl, ⟨by rw [wordC_ent (by omega), entC_no hno], rfl⟩, CSub.nil _, trivial⟩
      · try simp only [zbA] at h6
        refine tr_skip ?_
        refine tr_region fun _ _ _ => ?_
        refine st rfl rfl rfl rfl (rAdd rfl rfl rfl (by omega) (by omega)) ?_
        refine pu rfl rfl rfl rfl rfl ?_
        refine ⟨k + 1, ⟨rfl, rfl, rfl, rfl, trivial⟩, by first | exact cs _ _ | exact CSub.refl _, ?_⟩
        refine ⟨⟨⟨by omega, by omega⟩, fun j hj => ?_⟩, by omega⟩
        by_cases he : (j : Int) = k
        · have : j = k.toNat := by omega
          subst this; omega
        · exact hall j (by omega)
    · try simp only [zbA] at h4
      refine tr_exit ?_
      refine tr_seq ?_
      refine tr_region fun _ _ _ => ?_
      refine pu rfl rfl rfl rfl rfl ?_
      have hok : AllIn q l := allIn_of_get fun j hj => hall j (by omega)
      exact tr_ret ⟨trivial, _, _, rfl, ⟨by rw [wordC_ent (by omega), entC_ok hok], rfl⟩, CSub.nil _, trivial⟩
theorem ord_total_ent : Enters Tryz.prog 36 := enters_of Tryz.func36 (by kernel_rfl) (by kernel_rfl)
theorem ord_total (T : Option Addr) (nt ct : Nat) (ts : List RowM) (hnt : nt = ts.length) (q : Int) (hq2 : 2 ≤ q) (hq9 : q ≤ 256) (t64 : ts.length ≤ 64) (htr : ∀ r ∈ ts, RowOk q r.xs) (X : Option Addr) (nx cx : Nat) (l : List Int) (hnx : nx = l.length) (hlt : l.length = ts.length) (hin : AllIn q l) :
    Pure Tryz.prog 36 #[.slice T nt ct, .slice X nx cx] [ro T (hdrs ts), rowsR ts, ro X (ints l)] (isV (.int .i64 (cstL (xss ts) l))) := by
  refine pure_of (args := [.slice T nt ct, .slice X nx cx]) 26 Tryz.func36 rfl rfl rfl ord_total_ent ⟨id, id, id, trivial⟩ (fun w0 => ?_)
  refine tr_seq ?_
  refine tr_region fun _ _ _ => ?_
  refine pu rfl rfl rfl rfl rfl ?_
  refine tr_seq ?_
  refine tr_region fun _ _ _ => ?_
  refine pu rfl rfl rfl rfl rfl ?_
  refine tr_seq ?_
  refine tr_seq ?_
  refine tr_region fun _ _ _ => ?_
  refine pu rfl rfl rfl rfl rfl ?_
  refine st rfl rfl rfl rfl (rLen rfl rfl) ?_
  refine pu rfl rfl rfl rfl rfl ?_
  refine tr_block ?_
  refine tr_loop2 (fun (k : Int) (s : Int) => [(10, .int .i64 k), (5, .int .i64 s), (0, .slice T nt ct), (4, .int .i64 0), (8, .slice X nx cx), (9, .int .i64 nx)]) (fun (k : Int) (s : Int) => [ro T (hdrs ts), rowsR ts, ro X (ints l)]) (fun (k : Int) (s : Int) => (0 ≤ k ∧ k ≤ nx) ∧ s = cstT (xss ts) l k.toNat) (fun (k : Int) (s : Int) => (nx - k).toNat) (0) (0) ⟨rfl, rfl, rfl, rfl, rfl, rfl, trivial⟩ (by first | exact cs _ _ | exact CSub.refl _) (⟨⟨by omega, by omega⟩, rfl⟩) (fun k s hI => ?_)
  obtain ⟨⟨hk0, hk1⟩, hs⟩ := hI
  have hcb := cstT_bd htr l k.toNat (by omega)
  refine tr_seq ?_
  refine tr_region fun _ _ _ => ?_
  refine pu rfl rfl rfl rfl rfl ?_
  refine tr_seq ?_
  refine tr_cond_bool rfl (fun h3 => ?_) (fun h3 => ?_)
  · try simp only [zbA] at h3
    refine tr_skip ?_
    refine tr_seq ?_
    refine tr_block ?_
    refine tr_seq ?_
    refine tr_region fun _ _ _ => ?_
    refine pu rfl rfl rfl rfl rfl ?_
    refine st rfl rfl rfl rfl (rIdxI rfl rfl rfl (by omega) (by omega) (by omega)) ?_
    refine st rfl rfl rfl rfl (rLdI rfl rfl (by omega)) ?_
    iterate 2 refine pu rfl rfl rfl rfl rfl ?_
    haveI : InB k.toNat ts.length := ⟨by omega⟩
    have htk := htr _ (getD_mem (show k.toNat < ts.length by omega) rowD)
    have htl := htk.1
    have hpos : 0 < (ts.getD k.toNat rowD).xs.length := by omega
    have hrb := htk.at (l.getD k.toNat 0).toNat
    have hlk := hin.get (by omega) k.toNat
    refine tr_region fun _ _ _ => ?_
    iterate 3 refine pu rfl rfl rfl rfl rfl ?_
    refine st rfl rfl rfl rfl (rIdxR rfl rfl rfl (by omega) (by omega) (by omega)) ?_
    refine st rfl rfl rfl rfl (rLdR rfl rfl (by omega)) ?_
    refine pu rfl rfl rfl rfl rfl ?_
    refine st rfl rfl rfl rfl (rIdxI rfl rfl rfl (by omega) (by omega) (by omega)) ?_
    refine st rfl rfl rfl rfl (rLdI rfl rfl (by omega)) ?_
    refine st rfl rfl rfl rfl (rAdd rfl rfl rfl (by omega) (by omega)) ?_
    refine pu rfl rfl rfl rfl rfl ?_
    refine tr_region fun _ _ _ => ?_
    refine st rfl rfl rfl rfl (rAdd rfl rfl rfl (by omega) (by omega)) ?_
    refine pu rfl rfl rfl rfl rfl ?_
    refine ⟨k + 1, s + (ts.getD k.toNat rowD).xs.getD (l.getD k.toNat 0).toNat 0, ⟨rfl, rfl, rfl, rfl, rfl, rfl, trivial⟩, by first | exact cs _ _ | exact CSub.refl _, ?_⟩
    exact ⟨⟨⟨by omega, by omega⟩, by rw [show (k + 1).toNat = k.toNat + 1 by omega, cstT_succ, hs]⟩, by omega⟩
  · try simp only [zbA] at h3
    refine tr_exit ?_
    refine tr_seq ?_
    refine tr_region fun _ _ _ => ?_
    iterate 2 refine pu rfl rfl rfl rfl rfl ?_
    have hkx : k.toNat = l.length := by omega
    exact tr_ret ⟨trivial, _, _, rfl, ⟨by rw [hs, hkx]; rfl, rfl⟩, CSub.nil _, trivial⟩
theorem ref_OCost_ent : Enters Tryz.prog 18 := enters_of Tryz.func18 (by kernel_rfl) (by kernel_rfl)
theorem ref_OCost (T : Option Addr) (nt ct : Nat) (ts : List RowM) (hnt : nt = ts.length) (q : Int) (hq2 : 2 ≤ q) (hq9 : q ≤ 256) (t64 : ts.length ≤ 64) (htr : ∀ r ∈ ts, RowOk q r.xs) (X : Option Addr) (nx cx : Nat) (l : List Int) (hnx : nx = l.length) (hlt : l.length = ts.length) (hin : AllIn q l) :
    Pure Tryz.prog 18 #[.slice T nt ct, .slice X nx cx] [ro T (hdrs ts), rowsR ts, ro X (ints l)] (isV (.int .i64 (cstL (xss ts) l))) := by
  refine pure_of (args := [.slice T nt ct, .slice X nx cx]) 26 Tryz.func18 rfl rfl rfl ref_OCost_ent ⟨id, id, id, trivial⟩ (fun w0 => ?_)
  refine tr_seq ?_
  refine tr_region fun _ _ _ => ?_
  refine pu rfl rfl rfl rfl rfl ?_
  refine tr_seq ?_
  refine tr_region fun _ _ _ => ?_
  refine pu rfl rfl rfl rfl rfl ?_
  refine tr_seq ?_
  refine tr_seq ?_
  refine tr_region fun _ _ _ => ?_
  refine pu rfl rfl rfl rfl rfl ?_
  refine tr_block ?_
  refine tr_loop2 (fun (k : Int) (s : Int) => [(6, .int .i64 k), (5, .int .i64 s), (0, .slice T nt ct), (1, .slice X nx cx), (4, .int .i64 0)]) (fun (k : Int) (s : Int) => [ro T (hdrs ts), rowsR ts, ro X (ints l)]) (fun (k : Int) (s : Int) => (0 ≤ k ∧ k ≤ nx) ∧ s = cstT (xss ts) l k.toNat) (fun (k : Int) (s : Int) => (nx - k).toNat) (0) (0) ⟨rfl, rfl, rfl, rfl, rfl, trivial⟩ (by first | exact cs _ _ | exact CSub.refl _) (⟨⟨by omega, by omega⟩, rfl⟩) (fun k s hI => ?_)
  obtain ⟨⟨hk0, hk1⟩, hs⟩ := hI
  have hcb := cstT_bd htr l k.toNat (by omega)
  refine tr_seq ?_
  refine tr_seq ?_
  refine tr_region fun _ _ _ => ?_
  iterate 2 refine pu rfl rfl rfl rfl rfl ?_
  refine st rfl rfl rfl rfl (rLen rfl rfl) ?_
  refine pu rfl rfl rfl rfl rfl ?_
  refine tr_cond_bool rfl (fun h3 => ?_) (fun h3 => ?_)
  · try simp only [zbA] at h3
    refine tr_skip ?_
    refine tr_seq ?_
    refine tr_block ?_
    haveI : InB k.toNat ts.length := ⟨by omega⟩
    have htk := htr _ (getD_mem (show k.toNat < ts.length by omega) rowD)
    have htl := htk.1
    have hpos : 0 < (ts.getD k.toNat rowD).xs.length := by omega
    have hrb := htk.at (l.getD k.toNat 0).toNat
    have hlk := hin.get (by omega) k.toNat
    refine tr_draw [0, 1, 2, 3, 4, 5, 6, 7, 8, 9, 10, 11, 12] [] mixed (by kernel_rfl) fun _ _ _ => ?_
    iterate 3 refine pu rfl rfl rfl rfl rfl ?_
    refine st rfl rfl rfl rfl (rIdxR rfl rfl rfl (by omega) (by omega) (by omega)) ?_
    refine st rfl rfl rfl rfl (rLdR rfl rfl (by omega)) ?_
    iterate 2 refine pu rfl rfl rfl rfl rfl ?_
    refine st rfl rfl rfl rfl (rIdxI rfl rfl rfl (by omega) (by omega) (by omega)) ?_
    refine st rfl rfl rfl rfl (rLdI rfl rfl (by omega)) ?_
    refine st rfl rfl rfl rfl (rIdxI rfl rfl rfl (by omega) (by omega) (by omega)) ?_
    refine st rfl rfl rfl rfl (rLdI rfl rfl (by omega)) ?_
    refine st rfl rfl rfl rfl (rAdd rfl rfl rfl (by omega) (by omega)) ?_
    refine pu rfl rfl rfl rfl rfl ?_
    refine tr_region fun _ _ _ => ?_
    refine pu rfl rfl rfl rfl rfl ?_
    refine st rfl rfl rfl rfl (rAdd rfl rfl rfl (by omega) (by omega)) ?_
    refine pu rfl rfl rfl rfl rfl ?_
    refine ⟨k + 1, s + (ts.getD k.toNat rowD).xs.getD (l.getD k.toNat 0).toNat 0, ⟨rfl, rfl, rfl, rfl, rfl, trivial⟩, by first | exact cs _ _ | exact CSub.refl _, ?_⟩
    exact ⟨⟨⟨by omega, by omega⟩, by rw [show (k + 1).toNat = k.toNat + 1 by omega, cstT_succ, hs]⟩, by omega⟩
  · try simp only [zbA] at h3
    refine tr_exit ?_
    refine tr_seq ?_
    refine tr_region fun _ _ _ => ?_
    iterate 2 refine pu rfl rfl rfl rfl rfl ?_
    have hkx : k.toNat = l.length := by omega
    exact tr_ret ⟨trivial, _, _, rfl, ⟨by rw [hs, hkx]; rfl, rfl⟩, CSub.nil _, trivial⟩
theorem ref_CListC_ent : Enters Tryz.prog 39 := enters_of Tryz.func39 (by kernel_rfl) (by kernel_rfl)
theorem ref_CListC (p m : Int) (A : Option Addr) (c : Nat) (mod : List Int) [hF : IsF p m mod] (w : Int) (X : Option Addr) (nx cx : Nat) (l : List Int) (hnx : nx = l.length) (hl : l.length ≤ 17592186044415) :
    Pure Tryz.prog 39 #[.agg #[.int .i64 p, .int .i64 m, .slice A mod.length c], .slice X nx cx, .int .i64 w] [ro A (ints mod), ro X (ints l)] (isV (.int .i64 (wordC (pw p m) w l))) := by
  have hl9 := hF.short
  have hgq := hF.ord
  refine pure_of (args := [.agg #[.int .i64 p, .int .i64 m, .slice A mod.length c], .slice X nx cx, .int .i64 w]) 14 Tryz.func39 rfl rfl rfl ref_CListC_ent ⟨id, id, trivial⟩ (fun w0 => ?_)
  refine tr_seq ?_
  refine tr_region fun _ _ _ => ?_
  refine ef rfl rfl (eBox rfl rfl rfl rfl rfl (fun p0 => ?_)) 
  refine pu rfl rfl rfl rfl rfl ?_
  refine tr_seq ?_
  refine tr_seq ?_
  refine tr_region fun _ _ _ => ?_
  refine pu rfl rfl rfl rfl rfl ?_
  refine st rfl rfl rfl rfl (rLen rfl rfl) ?_
  iterate 2 refine pu rfl rfl rfl rfl rfl ?_
  refine tr_cond_bool rfl (fun h1 => ?_) (fun h1 => ?_)
  · try simp only [zbA] at h1
    refine tr_seq ?_
    refine tr_region fun _ _ _ => ?_
    refine pu rfl rfl rfl rfl rfl ?_
    exact tr_ret ⟨trivial, _, _, rfl, ⟨by rw [wordC_len (by omega)], rfl⟩, CSub.nil _, trivial⟩
  · try simp only [zbA] at h1
    refine tr_skip ?_
    refine tr_seq ?_
    refine tr_region fun _ _ _ => ?_
    refine st rfl rfl rfl rfl (rLdS rfl rfl rfl) ?_
    refine pu rfl rfl rfl rfl rfl ?_
    refine ef rfl rfl (eCallV rfl rfl rfl (ref_Entries p m A c mod X nx cx l hnx (by omega)) ⟨rfl, rfl, trivial⟩ ?_) 
    refine pu rfl rfl rfl rfl rfl ?_
    exact tr_ret ⟨trivial, _, _, rfl, ⟨by rw [wordC_ent (by omega), hgq], rfl⟩, CSub.nil _, trivial⟩
theorem ref_CWordC_ent : Enters Tryz.prog 12 := enters_of Tryz.func12 (by kernel_rfl) (by kernel_rfl)
theorem ref_CWordC (p m : Int) (A : Option Addr) (c : Nat) (mod : List Int) [hF : IsF p m mod] (w : Int) (Aa : Option Addr) (n ca : Nat) (rs : List RowM) (hn : n = rs.length) (h9 : rs.length ≤ 256) (hc : CodeOk p m mod w rs) (X : Option Addr) (nx cx : Nat) (l : List Int) (hnx : nx = l.length) (hl : l.length ≤ 17592186044415) :
    Pure Tryz.prog 12 #[.agg #[.int .i64 p, .int .i64 m, .slice A mod.length c, .int .i64 w, .slice Aa n ca], .slice X nx cx] [ro A (ints mod), ro Aa (hdrs rs), rowsR rs, ro X (ints l)] (isV (.int .i64 (wordC (pw p m) w l))) := by
  have hl9 := hF.short
  have hn1 := hc.n1
  have hn64 := hc.n64
  have hlen := hc.len
  have hgd := hc.good
  have h8 := hgd.h8 (N := 17592186044415) (by omega)
  have hck := hc.zero
  refine pure_of (args := [.agg #[.int .i64 p, .int .i64 m, .slice A mod.length c, .int .i64 w, .slice Aa n ca], .slice X nx cx]) 17 Tryz.func12 rfl rfl rfl ref_CWordC_ent ⟨id, id, id, id, trivial⟩ (fun w0 => ?_)
  refine tr_seq ?_
  refine tr_region fun _ _ _ => ?_
  refine ef rfl rfl (eBox rfl rfl rfl rfl rfl (fun p0 => ?_)) 
  refine pu rfl rfl rfl rfl rfl ?_
  refine tr_seq ?_
  refine tr_region fun _ _ _ => ?_
  refine st rfl rfl rfl rfl (rLdS rfl rfl rfl) ?_
  refine ef rfl rfl (eCallV rfl rfl rfl (ref_CCheck _ _ _ _ _ (by omega) w Aa _ ca rs hn (by omega) h8) ⟨rfl, trivial⟩ ?_) 
  refine pu rfl rfl rfl rfl rfl ?_
  refine tr_seq ?_
  refine tr_seq ?_
  refine tr_region fun _ _ _ => ?_
  iterate 2 refine pu rfl rfl rfl rfl rfl ?_
  refine tr_cond_bool rfl (fun h2 => ?_) (fun h2 => ?_)
  · try simp only [zbA] at h2
    refine tr_region fun _ _ _ => ?_
    refine st rfl rfl rfl rfl (rFld rfl rfl) ?_
    refine st rfl rfl rfl rfl (rLdSF rfl rfl) ?_
    refine pu rfl rfl rfl rfl rfl ?_
    refine st rfl rfl rfl rfl (rFld rfl rfl) ?_
    refine st rfl rfl rfl rfl (rLdF rfl rfl rfl) ?_
    refine ef rfl rfl (eCallV rfl rfl rfl (ref_CListC p m A c mod w X nx cx l hnx hl) ⟨rfl, rfl, rfl, trivial⟩ ?_) 
    refine pu rfl rfl rfl rfl rfl ?_
    refine tr_seq ?_
    refine tr_region fun _ _ _ => ?_
    iterate 2 refine pu rfl rfl rfl rfl rfl ?_
    exact tr_ret ⟨trivial, _, _, rfl, ⟨rfl, rfl⟩, CSub.nil _, trivial⟩
  · try simp only [zbA] at h2
    omega --done
end Go.Proofs.YtoalphamojhpcaaGreat

set_option linter.unusedSimpArgs false
set_option linter.unusedVariables false
namespace Go.Proofs.YtoalphamojhpcaaGreat
open Go.RowKit
end Go.Proofs.YtoalphamojhpcaaGreat

set_option linter.unusedSimpArgs false
set_option linter.unusedVariables false
set_option maxRecDepth 100000
namespace Go.Proofs.YtoalphamojhpcaaGreat
open Go.RowKit
def othT (ts : List RowM) (l : List Int) : Nat → List Int
  | 0 => []
  | k + 1 => othT ts l k ++ if l.getD k 0 = (hardL ts).getD k 0 then [(relL ts).getD k 0] else []
theorem othT_yes {ts : List RowM} {l : List Int} {k : Nat} (h : l.getD k 0 = (hardL ts).getD k 0) : othT ts l (k + 1) = othT ts l k ++ [(relL ts).getD k 0] := by rw [othT, if_pos h]
theorem othT_no {ts : List RowM} {l : List Int} {k : Nat} (h : ¬ l.getD k 0 = (hardL ts).getD k 0) : othT ts l (k + 1) = othT ts l k := by rw [othT, if_neg h, List.append_nil]
theorem othT_le (ts : List RowM) (l : List Int) : ∀ k, (othT ts l k).length ≤ k
  | 0 => Nat.le_refl _
  | k + 1 => by
    have := othT_le ts l k
    by_cases h : l.getD k 0 = (hardL ts).getD k 0
    · rw [othT_yes h, List.length_append]; simp; omega
    · rw [othT_no h]; omega
theorem relL_bd {ts : List RowM} {q : Int} (htr : ∀ r ∈ ts, RowOk q r.xs) (h2 : 2 ≤ q) (k : Nat) : 0 ≤ (relL ts).getD k 0 ∧ (relL ts).getD k 0 ≤ 2147483648 := by
  by_cases h : k < ts.length
  · rw [relL_getD ts h]
    have hr := htr _ (getD_mem h rowD)
    have hl := hr.1
    have h0 : 0 < (ts.getD k rowD).xs.length := by omega
    have hh := hardI_lt h0
    have hb := sec_bd (b := hardI (ts.getD k rowD).xs) hr.2 (by omega) (ts.getD k rowD).xs.length (Nat.le_refl _)
    have ha := hr.at (hardI (ts.getD k rowD).xs)
    have hn : ∃ j, j < (ts.getD k rowD).xs.length ∧ j ≠ hardI (ts.getD k rowD).xs := by
      by_cases e : hardI (ts.getD k rowD).xs = 0
      · exact ⟨1, by omega, by omega⟩
      · exact ⟨0, h0, fun e' => e e'.symm⟩
    have hnn := sec_nn (b := hardI (ts.getD k rowD).xs) (fun x hx => (hr.2 x hx).1) (ts.getD k rowD).xs.length (Nat.le_refl _) hn
    have key : ∀ k', k' ≤ (ts.getD k rowD).xs.length → 0 ≤ sec (ts.getD k rowD).xs (hardI (ts.getD k rowD).xs) k' → (ts.getD k rowD).xs.getD (hardI (ts.getD k rowD).xs) 0 ≤ sec (ts.getD k rowD).xs (hardI (ts.getD k rowD).xs) k' := fun k' => by
      induction k' with
      | zero => intro _ h; rw [sec] at h; omega
      | succ k' ih =>
        intro hk
        rw [sec]
        split
        · intro _; exact hardI_min (by omega)
        · exact ih (by omega)
    have := key _ (Nat.le_refl _) hnn
    unfold relI
    omega
  · rw [getD_out (by rw [relL_length]; omega)]; omega
theorem othT_bd {ts : List RowM} {q : Int} (htr : ∀ r ∈ ts, RowOk q r.xs) (h2 : 2 ≤ q) (l : List Int) : ∀ k, ∀ x ∈ othT ts l k, 0 ≤ x ∧ x ≤ 2147483648
  | 0, x, h => by simp [othT] at h
  | k + 1, x, h => by
    by_cases he : l.getD k 0 = (hardL ts).getD k 0
    · rw [othT_yes he] at h
      rcases List.mem_append.1 h with h | h
      · exact othT_bd htr h2 l k x h
      · rw [List.mem_singleton.1 h]; exact relL_bd htr h2 k
    · rw [othT_no he] at h; exact othT_bd htr h2 l k x h
theorem sum_bd : ∀ {l : List Int}, (∀ x ∈ l, 0 ≤ x ∧ x ≤ 2147483648) → 0 ≤ l.sum ∧ l.sum ≤ l.length * 2147483648
  | [], _ => by simp
  | x :: l, h => by
    have h1 := h x (List.mem_cons_self ..)
    have h2 := sum_bd fun y hy => h y (List.mem_cons_of_mem _ hy)
    rw [List.sum_cons, List.length_cons]
    omega
theorem sum_take (l : List Int) {k : Nat} (h : k < l.length) : (l.take (k + 1)).sum = (l.take k).sum + l.getD k 0 := by
  rw [List.take_add_one, List.getElem?_eq_getElem h, List.sum_append, List.getD_eq_getElem?_getD, List.getElem?_eq_getElem h]
  simp
def cerK (ts : List RowM) (l : List Int) (d : Int) : Nat := (min (max (d - ((ts.length : Int) - (othT ts l ts.length).length)) 0) ((othT ts l ts.length).length : Int)).toNat
def cerS (ts : List RowM) (l : List Int) (d : Int) : Int := ((sortI (othT ts l ts.length)).take (cerK ts l d)).sum
def cerB (ts : List RowM) (l : List Int) (d : Int) : Bool := decide (cstL (xss ts) l - cstL (xss ts) (hardL ts) ≤ cerS ts l d)
theorem cerK_le (ts : List RowM) (l : List Int) (d : Int) : cerK ts l d ≤ (othT ts l ts.length).length := by unfold cerK; omega
theorem hardL_in {q : Int} {ts : List RowM} (hq : 2 ≤ q) (htr : ∀ r ∈ ts, RowOk q r.xs) : AllIn q (hardL ts) := fun x hx => by
  obtain ⟨r, hr, rfl⟩ := List.mem_map.1 hx
  obtain ⟨r', hr', rfl⟩ := List.mem_map.1 hr
  have h := (htr r' hr').1
  have := hardI_lt (r := r'.xs) (by omega)
  omega
theorem ord_CertN_ent : Enters Tryz.prog 10 := enters_of Tryz.func10 (by kernel_rfl) (by kernel_rfl)
theorem ord_CertN (p m : Int) (A : Option Addr) (c : Nat) (mod : List Int) [hF : IsF p m mod] (w : Int) (Aa : Option Addr) (n ca : Nat) (rs : List RowM) (hn : n = rs.length) (h9 : rs.length ≤ 256) (hc : CodeOk p m mod w rs) (T : Option Addr) (nt ct : Nat) (ts : List RowM) (hnt : nt = ts.length) (t9 : ts.length ≤ 17592186044415) (t8 : ∀ r ∈ ts, r.xs.length ≤ 17592186044415) (ho : ordC (pw p m) w (xss ts) = 0) (X : Option Addr) (nx cx : Nat) (l : List Int) (hnx : nx = l.length) (hl : l.length ≤ 17592186044415) (d : Int) (hw : wordC (pw p m) w l = 0) (hm : memB p m mod rs l = false) :
    Pure Tryz.prog 10 #[.agg #[.int .i64 p, .int .i64 m, .slice A mod.length c, .int .i64 w, .slice Aa n ca], .slice T nt ct, .slice X nx cx, .int .i64 d] [ro A (ints mod), ro Aa (hdrs rs), rowsR rs, ro T (hdrs ts), rowsR ts, ro X (ints l)] (isV (.tuple #[.bool false, .int .i64 11])) := by
  have hl9 := hF.short
  have hn1 := hc.n1
  have hn64 := hc.n64
  have hlen := hc.len
  have hgd := hc.good
  have h8 := hgd.h8 (N := 17592186044415) (by omega)
  have hck := hc.zero
  have hq2 := hF.q2
  have htab := ordC_zero ho
  have htl := htab.len
  have hq256 := hF.out.1.1.q
  obtain ⟨hlw, hin⟩ := wordC_zero hw
  refine pure_of (args := [.agg #[.int .i64 p, .int .i64 m, .slice A mod.length c, .int .i64 w, .slice Aa n ca], .slice T nt ct, .slice X nx cx, .int .i64 d]) 113 Tryz.func10 rfl rfl rfl ord_CertN_ent ⟨id, id, id, id, id, id, trivial⟩ (fun w0 => ?_)
  refine tr_seq ?_
  refine tr_region fun _ _ _ => ?_
  refine ef rfl rfl (eBox rfl rfl rfl rfl rfl (fun p0 => ?_)) 
  iterate 2 refine pu rfl rfl rfl rfl rfl ?_
  refine tr_seq ?_
  refine tr_region fun _ _ _ => ?_
  refine st rfl rfl rfl rfl (rLdS rfl rfl rfl) ?_
  refine pu rfl rfl rfl rfl rfl ?_
  refine ef rfl rfl (eCall1 rfl rfl rfl (ord_checkedG p m A c mod w Aa n ca rs hn h9 hc T nt ct ts hnt t9 t8 ho) ⟨rfl, rfl, trivial⟩ ?_) 
  rintro _ _ ⟨g, rfl, rfl, hg⟩
  iterate 5 refine pu rfl rfl rfl rfl rfl ?_
  refine tr_seq ?_
  refine tr_seq ?_
  refine tr_region fun _ _ _ => ?_
  iterate 2 refine pu rfl rfl rfl rfl rfl ?_
  refine tr_cond_bool rfl (fun h2 => ?_) (fun h2 => ?_)
  · try simp only [zbA] at h2
    first | exact absurd trivial h2 | exact absurd rfl h2 | omega | (exact absurd h2 (by simp)) --done
  · try simp only [zbA] at h2
    refine tr_skip ?_
    refine tr_seq ?_
    refine tr_seq ?_
    refine tr_region fun _ _ _ => ?_
    refine pu rfl rfl rfl rfl rfl ?_
    refine st rfl rfl rfl rfl (rFld rfl rfl) ?_
    refine st rfl rfl rfl rfl (rLdF rfl rfl rfl) ?_
    refine pu rfl rfl rfl rfl rfl ?_
    refine ef rfl rfl (eCallV rfl rfl rfl (ord_word g (pw p m) hg.eq w X nx cx l hnx hl) ⟨rfl, rfl, rfl, trivial⟩ ?_) 
    refine pu rfl rfl rfl rfl rfl ?_
    refine tr_seq ?_
    refine tr_region fun _ _ _ => ?_
    iterate 2 refine pu rfl rfl rfl rfl rfl ?_
    refine tr_cond_bool rfl (fun h5 => ?_) (fun h5 => ?_)
    · try simp only [zbA] at h5
      omega --done
    · try simp only [zbA] at h5
      refine tr_skip ?_
      refine tr_seq ?_
      refine tr_seq ?_
      refine tr_region fun _ _ _ => ?_
      refine st rfl rfl rfl rfl (rLdS rfl rfl rfl) ?_
      refine pu rfl rfl rfl rfl rfl ?_
      refine ef rfl rfl (eCallV rfl rfl rfl (code_Has p m A c mod w Aa n ca rs hn h9 hc X nx cx l hnx hlw hin) ⟨rfl, rfl, trivial⟩ ?_) 
      iterate 5 refine pu rfl rfl rfl rfl rfl ?_
      refine tr_seq ?_
      refine tr_region fun _ _ _ => ?_
      refine pu rfl rfl rfl rfl rfl ?_
      refine st rfl rfl rfl rfl (rNotB rfl rfl) ?_
      refine tr_cond_bool rfl (fun h8 => ?_) (fun h8 => ?_)
      · try simp only [zbA] at h8
        refine tr_seq ?_
        refine tr_region fun _ _ _ => ?_
        iterate 2 refine pu rfl rfl rfl rfl rfl ?_
        exact tr_ret ⟨trivial, _, _, rfl, ⟨rfl, rfl⟩, CSub.nil _, trivial⟩
      · try simp only [zbA] at h8
        rw [hm] at h8; simp at h8 --done
theorem ord_CertG_ent : Enters Tryz.prog 10 := enters_of Tryz.func10 (by kernel_rfl) (by kernel_rfl)
theorem ord_CertG (p m : Int) (A : Option Addr) (c : Nat) (mod : List Int) [hF : IsF p m mod] (w : Int) (Aa : Option Addr) (n ca : Nat) (rs : List RowM) (hn : n = rs.length) (h9 : rs.length ≤ 256) (hc : CodeOk p m mod w rs) (T : Option Addr) (nt ct : Nat) (ts : List RowM) (hnt : nt = ts.length) (t9 : ts.length ≤ 17592186044415) (t8 : ∀ r ∈ ts, r.xs.length ≤ 17592186044415) (ho : ordC (pw p m) w (xss ts) = 0) (X : Option Addr) (nx cx : Nat) (l : List Int) (hnx : nx = l.length) (hl : l.length ≤ 17592186044415) (d : Int) (hw : wordC (pw p m) w l = 0) (hm : memB p m mod rs l = true) (hd1 : 1 ≤ d) (hd2 : d ≤ w) :
    Pure Tryz.prog 10 #[.agg #[.int .i64 p, .int .i64 m, .slice A mod.length c, .int .i64 w, .slice Aa n ca], .slice T nt ct, .slice X nx cx, .int .i64 d] [ro A (ints mod), ro Aa (hdrs rs), rowsR rs, ro T (hdrs ts), rowsR ts, ro X (ints l)] (isV (.tuple #[.bool (cerB ts l d), .int .i64 0])) := by
  have hl9 := hF.short
  have hn1 := hc.n1
  have hn64 := hc.n64
  have hlen := hc.len
  have hgd := hc.good
  have h8 := hgd.h8 (N := 17592186044415) (by omega)
  have hck := hc.zero
  have hq2 := hF.q2
  have htab := ordC_zero ho
  have htl := htab.len
  have hq256 := hF.out.1.1.q
  obtain ⟨hlw, hin⟩ := wordC_zero hw
  have hhl := hardL_length ts
  have hrl := relL_length ts
  have hlt : l.length = ts.length := by omega
  have hhin := hardL_in hq2 htab.row
  refine pure_of (args := [.agg #[.int .i64 p, .int .i64 m, .slice A mod.length c, .int .i64 w, .slice Aa n ca], .slice T nt ct, .slice X nx cx, .int .i64 d]) 113 Tryz.func10 rfl rfl rfl ord_CertG_ent ⟨id, id, id, id, id, id, trivial⟩ (fun w0 => ?_)
  refine tr_seq ?_
  refine tr_region fun _ _ _ => ?_
  refine ef rfl rfl (eBox rfl rfl rfl rfl rfl (fun p0 => ?_)) 
  iterate 2 refine pu rfl rfl rfl rfl rfl ?_
  refine tr_seq ?_
  refine tr_region fun _ _ _ => ?_
  refine st rfl rfl rfl rfl (rLdS rfl rfl rfl) ?_
  refine pu rfl rfl rfl rfl rfl ?_
  refine ef rfl rfl (eCall1 rfl rfl rfl (ord_checkedG p m A c mod w Aa n ca rs hn h9 hc T nt ct ts hnt t9 t8 ho) ⟨rfl, rfl, trivial⟩ ?_) 
  rintro _ _ ⟨g, rfl, rfl, hg⟩
  iterate 5 refine pu rfl rfl rfl rfl rfl ?_
  refine tr_seq ?_
  refine tr_seq ?_
  refine tr_region fun _ _ _ => ?_
  iterate 2 refine pu rfl rfl rfl rfl rfl ?_
  refine tr_cond_bool rfl (fun h2 => ?_) (fun h2 => ?_)
  · try simp only [zbA] at h2
    first | exact absurd trivial h2 | exact absurd rfl h2 | omega | (exact absurd h2 (by simp)) --done
  · try simp only [zbA] at h2
    refine tr_skip ?_
    refine tr_seq ?_
    refine tr_seq ?_
    refine tr_region fun _ _ _ => ?_
    refine pu rfl rfl rfl rfl rfl ?_
    refine st rfl rfl rfl rfl (rFld rfl rfl) ?_
    refine st rfl rfl rfl rfl (rLdF rfl rfl rfl) ?_
    refine pu rfl rfl rfl rfl rfl ?_
    refine ef rfl rfl (eCallV rfl rfl rfl (ord_word g (pw p m) hg.eq w X nx cx l hnx hl) ⟨rfl, rfl, rfl, trivial⟩ ?_) 
    refine pu rfl rfl rfl rfl rfl ?_
    refine tr_seq ?_
    refine tr_region fun _ _ _ => ?_
    iterate 2 refine pu rfl rfl rfl rfl rfl ?_
    refine tr_cond_bool rfl (fun h5 => ?_) (fun h5 => ?_)
    · try simp only [zbA] at h5
      omega --done
    · try simp only [zbA] at h5
      refine tr_skip ?_
      refine tr_seq ?_
      refine tr_seq ?_
      refine tr_region fun _ _ _ => ?_
      refine st rfl rfl rfl rfl (rLdS rfl rfl rfl) ?_
      refine pu rfl rfl rfl rfl rfl ?_
      refine ef rfl rfl (eCallV rfl rfl rfl (code_Has p m A c mod w Aa n ca rs hn h9 hc X nx cx l hnx hlw hin) ⟨rfl, rfl, trivial⟩ ?_) 
      iterate 5 refine pu rfl rfl rfl rfl rfl ?_
      refine tr_seq ?_
      refine tr_region fun _ _ _ => ?_
      refine pu rfl rfl rfl rfl rfl ?_
      refine st rfl rfl rfl rfl (rNotB rfl rfl) ?_
      refine tr_cond_bool rfl (fun h8 => ?_) (fun h8 => ?_)
      · try simp only [zbA] at h8
        rw [hm] at h8; simp at h8 --done
      · try simp only [zbA] at h8
        refine tr_skip ?_
        refine tr_seq ?_
        refine tr_seq ?_
        refine tr_region fun _ _ _ => ?_
        iterate 3 refine pu rfl rfl rfl rfl rfl ?_
        refine stg rfl rfl rfl rfl rfl (fun hb => by (have hq := hb; try simp only [zbA] at hq); exact rMove rfl rfl) ?_
        refine stg rfl rfl rfl rfl rfl (fun hb => by (have hq := hb; try simp only [zbA] at hq); exact rFld rfl rfl) ?_
        refine stg rfl rfl rfl rfl rfl (fun hb => by (have hq := hb; try simp only [zbA] at hq); exact rLdF rfl (evg rfl hb) rfl) ?_
        refine stg rfl rfl rfl rfl rfl (fun hb => by (have hq := hb; try simp only [zbA] at hq); exact rGtr rfl (evg rfl hb) (evg rfl hb)) ?_
        refine st rfl rfl rfl rfl (rOrB rfl rfl rfl rfl) ?_
        refine tr_cond_bool rfl (fun h10 => ?_) (fun h10 => ?_)
        · try simp only [zbA] at h10
          omega --done
        · try simp only [zbA] at h10
          refine tr_skip ?_
          refine tr_seq ?_
          refine tr_region fun _ _ _ => ?_
          refine pu rfl rfl rfl rfl rfl ?_
          refine ef rfl rfl (eCall2 rfl rfl rfl (ord_hard T nt ct ts hnt (pw p m) hq2 hq256 (by omega) htab.row) ⟨rfl, trivial⟩ ?_) 
          rintro _ _ _ ⟨B12, c12, D12, d12, rfl, rfl, rfl⟩
          iterate 5 refine pu rfl rfl rfl rfl rfl ?_
          refine tr_seq ?_
          refine tr_region fun _ _ _ => ?_
          refine pu rfl rfl rfl rfl rfl ?_
          refine tr_seq ?_
          refine tr_seq ?_
          refine tr_region fun _ _ _ => ?_
          refine pu rfl rfl rfl rfl rfl ?_
          refine st rfl rfl rfl rfl (rLen rfl rfl) ?_
          refine pu rfl rfl rfl rfl rfl ?_
          refine tr_block ?_
          refine tr_nilI 3 ?_
          refine tr_loop4 (fun (k : Int) (B : Option Addr) (cb : Nat) (o : List Int) => [(17, .slice B o.length cb), (62, .int .i64 k), (1, .slice T nt ct), (2, .slice X nx cx), (3, .int .i64 d), (4, .pointer (some p0)), (8, .bool false), (9, .int .i64 0), (15, .slice B12 (hardL ts).length c12), (16, .slice D12 (relL ts).length d12), (60, .slice X nx cx), (61, .int .i64 nx)]) (fun (k : Int) (B : Option Addr) (cb : Nat) (o : List Int) => [ow B 3 cb (ints o), ow B12 3 c12 (ints (hardL ts)), ow D12 3 d12 (ints (relL ts)), gfN g, blk p0 27 [.int .i64 p, .int .i64 m, .slice A mod.length c, .int .i64 w, .slice Aa n ca], ro A (ints mod), ro Aa (hdrs rs), rowsR rs, ro T (hdrs ts), rowsR ts, ro X (ints l)]) (fun (k : Int) (B : Option Addr) (cb : Nat) (o : List Int) => (0 ≤ k ∧ k ≤ nx) ∧ o = othT ts l k.toNat) (fun (k : Int) (B : Option Addr) (cb : Nat) (o : List Int) => (nx - k).toNat) (0) (none) (0) ([]) ⟨rfl, rfl, rfl, rfl, rfl, rfl, rfl, rfl, rfl, rfl, rfl, rfl, trivial⟩ (by first | exact cs _ _ | exact CSub.refl _) (⟨⟨by omega, by omega⟩, rfl⟩) (fun k B cb o hI => ?_)
          obtain ⟨⟨hk0, hk1⟩, ho⟩ := hI
          have hol0 : o.length ≤ k.toNat := by rw [ho]; exact othT_le _ _ _
          refine tr_seq ?_
          refine tr_region fun _ _ _ => ?_
          refine pu rfl rfl rfl rfl rfl ?_
          refine tr_seq ?_
          refine tr_cond_bool rfl (fun h15 => ?_) (fun h15 => ?_)
          · try simp only [zbA] at h15
            refine tr_skip ?_
            refine tr_seq ?_
            refine tr_block ?_
            refine tr_seq ?_
            refine tr_region fun _ _ _ => ?_
            refine pu rfl rfl rfl rfl rfl ?_
            refine st rfl rfl rfl rfl (rIdxI rfl rfl rfl (by omega) (by omega) (by omega)) ?_
            refine st rfl rfl rfl rfl (rLdI rfl rfl (by omega)) ?_
            iterate 2 refine pu rfl rfl rfl rfl rfl ?_
            refine tr_seq ?_
            refine tr_region fun _ _ _ => ?_
            iterate 3 refine pu rfl rfl rfl rfl rfl ?_
            refine st rfl rfl rfl rfl (rIdxI rfl rfl rfl (by omega) (by omega) (by omega)) ?_
            refine st rfl rfl rfl rfl (rLdI rfl rfl (by omega)) ?_
            refine pu rfl rfl rfl rfl rfl ?_
            refine tr_cond_bool rfl (fun h17 => ?_) (fun h17 => ?_)
            · try simp only [zbA] at h17
              refine tr_region fun _ _ _ => ?_
              iterate 3 refine pu rfl rfl rfl rfl rfl ?_
              refine st rfl rfl rfl rfl (rIdxI rfl rfl rfl (by omega) (by omega) (by omega)) ?_
              refine st rfl rfl rfl rfl (rLdI rfl rfl (by omega)) ?_
              refine ef rfl rfl (eLit1I rfl rfl rfl rfl (fun A18 => ?_)) 
              refine ef rfl rfl (eAppI rfl rfl rfl rfl rfl (by first | rfl | simp | omega) (by first | rfl | simp | omega) (by first | omega | (simp; omega)) (fun A18a c18a => ?_)) 
              refine pu rfl rfl rfl rfl rfl ?_
              refine tr_region fun _ _ _ => ?_
              refine st rfl rfl rfl rfl (rAdd rfl rfl rfl (by omega) (by omega)) ?_
              refine pu rfl rfl rfl rfl rfl ?_
              refine ⟨k + 1, A18a, c18a, o ++ [(relL ts).getD k.toNat 0], ⟨rfl, rfl, rfl, rfl, rfl, rfl, rfl, rfl, rfl, rfl, rfl, rfl, trivial⟩, by first | exact cs _ _ | exact CSub.refl _, ?_⟩
              exact ⟨⟨⟨by omega, by omega⟩, by rw [show (k + 1).toNat = k.toNat + 1 by omega, othT_yes h17, ← ho]⟩, by omega⟩
            · try simp only [zbA] at h17
              refine tr_skip ?_
              refine tr_region fun _ _ _ => ?_
              refine st rfl rfl rfl rfl (rAdd rfl rfl rfl (by omega) (by omega)) ?_
              refine pu rfl rfl rfl rfl rfl ?_
              refine ⟨k + 1, B, cb, o, ⟨rfl, rfl, rfl, rfl, rfl, rfl, rfl, rfl, rfl, rfl, rfl, rfl, trivial⟩, by first | exact cs _ _ | exact CSub.refl _, ?_⟩
              exact ⟨⟨⟨by omega, by omega⟩, by rw [show (k + 1).toNat = k.toNat + 1 by omega, othT_no h17]; exact ho⟩, by omega⟩
          · try simp only [zbA] at h15
            refine tr_exit ?_
            refine tr_seq ?_
            have hkn : k.toNat = ts.length := by omega
            rw [hkn] at ho
            subst ho
            have hol := othT_le ts l ts.length
            have hsl := sortI_length (othT ts l ts.length)
            have hsb : ∀ x ∈ sortI (othT ts l ts.length), 0 ≤ x ∧ x ≤ 2147483648 := fun x hx => othT_bd htab.row hq2 l _ x ((sortI_perm _).mem_iff.1 hx)
            refine tr_region fun _ _ _ => ?_
            refine pu rfl rfl rfl rfl rfl ?_
            refine ef rfl rfl (eCallM1 rfl rfl rfl (slc_Sort B _ cb (othT ts l ts.length) rfl (by omega)) ⟨rfl, trivial⟩ ?_) 
            rintro _ _ ⟨rfl, rfl⟩
            refine tr_seq ?_
            refine tr_region fun _ _ _ => ?_
            refine pu rfl rfl rfl rfl rfl ?_
            refine tr_seq ?_
            refine tr_seq ?_
            refine tr_region fun _ _ _ => ?_
            refine pu rfl rfl rfl rfl rfl ?_
            refine st rfl rfl rfl rfl (rFld rfl rfl) ?_
            refine st rfl rfl rfl rfl (rLdF rfl rfl rfl) ?_
            refine pu rfl rfl rfl rfl rfl ?_
            refine st rfl rfl rfl rfl (rLen rfl rfl) ?_
            refine st rfl rfl rfl rfl (rSub rfl rfl rfl (by omega) (by omega)) ?_
            refine st rfl rfl rfl rfl (rSub rfl rfl rfl (by omega) (by omega)) ?_
            refine st rfl rfl rfl rfl (rMax rfl rfl rfl) ?_
            refine pu rfl rfl rfl rfl rfl ?_
            refine st rfl rfl rfl rfl (rLen rfl rfl) ?_
            refine st rfl rfl rfl rfl (rMin rfl rfl rfl) ?_
            refine pu rfl rfl rfl rfl rfl ?_
            refine tr_block ?_
            refine tr_loop2 (fun (z : Int) (s : Int) => [(94, .int .i64 z), (20, .int .i64 s), (93, .int .i64 (min (max (d - (w - ((othT ts l ts.length).length : Int))) 0) ((othT ts l ts.length).length : Int))), (17, .slice B (othT ts l ts.length).length cb), (1, .slice T nt ct), (2, .slice X nx cx), (8, .bool false), (9, .int .i64 0), (15, .slice B12 (hardL ts).length c12)]) (fun (z : Int) (s : Int) => [ow B 3 cb (ints (sortI (othT ts l ts.length))), ow B12 3 c12 (ints (hardL ts)), ow D12 3 d12 (ints (relL ts)), gfN g, blk p0 27 [.int .i64 p, .int .i64 m, .slice A mod.length c, .int .i64 w, .slice Aa n ca], ro A (ints mod), ro Aa (hdrs rs), rowsR rs, ro T (hdrs ts), rowsR ts, ro X (ints l)]) (fun (z : Int) (s : Int) => (0 ≤ z ∧ z ≤ cerK ts l d) ∧ s = ((sortI (othT ts l ts.length)).take z.toNat).sum) (fun (z : Int) (s : Int) => ((cerK ts l d : Int) - z).toNat) (0) (0) ⟨rfl, rfl, rfl, rfl, rfl, rfl, rfl, rfl, rfl, trivial⟩ (by first | exact cs _ _ | exact CSub.refl _) (⟨⟨by omega, by omega⟩, by simp⟩) (fun z s hI => ?_)
            obtain ⟨⟨hz0, hz1⟩, hs⟩ := hI
            have hck := cerK_le ts l d
            have hck2 : (cerK ts l d : Int) = min (max (d - (w - ((othT ts l ts.length).length : Int))) 0) ((othT ts l ts.length).length : Int) := by unfold cerK; omega
            have hsm := sum_bd (l := (sortI (othT ts l ts.length)).take z.toNat) fun x hx => hsb x (List.mem_of_mem_take hx)
            have hsml : ((sortI (othT ts l ts.length)).take z.toNat).length ≤ 64 := by rw [List.length_take]; omega
            refine tr_seq ?_
            refine tr_region fun _ _ _ => ?_
            refine pu rfl rfl rfl rfl rfl ?_
            refine tr_seq ?_
            refine tr_cond_bool rfl (fun h23 => ?_) (fun h23 => ?_)
            · try simp only [zbA] at h23
              refine tr_skip ?_
              refine tr_seq ?_
              refine tr_block ?_
              refine tr_seq ?_
              refine tr_region fun _ _ _ => ?_
              iterate 2 refine pu rfl rfl rfl rfl rfl ?_
              have hxb : 0 ≤ (sortI (othT ts l ts.length)).getD z.toNat 0 ∧ (sortI (othT ts l ts.length)).getD z.toNat 0 ≤ 2147483648 := hsb _ (getD_mem (by omega) 0)
              refine tr_region fun _ _ _ => ?_
              iterate 3 refine pu rfl rfl rfl rfl rfl ?_
              refine st rfl rfl rfl rfl (rIdxI rfl rfl rfl (by omega) (by omega) (by omega)) ?_
              refine st rfl rfl rfl rfl (rLdI rfl rfl (by omega)) ?_
              refine st rfl rfl rfl rfl (rAdd rfl rfl rfl (by omega) (by omega)) ?_
              refine pu rfl rfl rfl rfl rfl ?_
              refine tr_region fun _ _ _ => ?_
              refine st rfl rfl rfl rfl (rAdd rfl rfl rfl (by omega) (by omega)) ?_
              refine pu rfl rfl rfl rfl rfl ?_
              refine ⟨z + 1, s + (sortI (othT ts l ts.length)).getD z.toNat 0, ⟨rfl, rfl, rfl, rfl, rfl, rfl, rfl, rfl, rfl, trivial⟩, by first | exact cs _ _ | exact CSub.refl _, ?_⟩
              exact ⟨⟨⟨by omega, by omega⟩, by rw [show (z + 1).toNat = z.toNat + 1 by omega, sum_take _ (by omega), ← hs]⟩, by omega⟩
            · try simp only [zbA] at h23
              refine tr_exit ?_
              refine tr_seq ?_
              have hc1 := cstT_bd htab.row l l.length (by omega)
              have hc2 := cstT_bd htab.row (hardL ts) (hardL ts).length (by omega)
              have hc3 : cstL (xss ts) l = cstT (xss ts) l l.length := rfl
              have hc4 : cstL (xss ts) (hardL ts) = cstT (xss ts) (hardL ts) (hardL ts).length := rfl
              refine tr_region fun _ _ _ => ?_
              iterate 2 refine pu rfl rfl rfl rfl rfl ?_
              refine ef rfl rfl (eCallV rfl rfl rfl (ord_total T nt ct ts hnt (pw p m) hq2 hq256 (by omega) htab.row X nx cx l hnx hlt hin) ⟨rfl, rfl, trivial⟩ ?_) 
              iterate 2 refine pu rfl rfl rfl rfl rfl ?_
              refine ef rfl rfl (eCallV rfl rfl rfl (ord_total T nt ct ts hnt (pw p m) hq2 hq256 (by omega) htab.row B12 _ c12 (hardL ts) rfl hhl hhin) ⟨rfl, rfl, trivial⟩ ?_) 
              refine st rfl rfl rfl rfl (rSub rfl rfl rfl (by omega) (by omega)) ?_
              iterate 4 refine pu rfl rfl rfl rfl rfl ?_
              have hzk : z.toNat = cerK ts l d := by omega
              have hsS : s = cerS ts l d := by rw [hs, hzk]; rfl
              exact tr_ret ⟨trivial, _, _, rfl, ⟨by rw [hsS]; rfl, rfl⟩, CSub.nil _, trivial⟩
end Go.Proofs.YtoalphamojhpcaaGreat

set_option linter.unusedSimpArgs false
set_option linter.unusedVariables false
set_option maxRecDepth 100000
namespace Go.Proofs.YtoalphamojhpcaaGreat
open Go.RowKit
end Go.Proofs.YtoalphamojhpcaaGreat

set_option linter.unusedSimpArgs false
set_option linter.unusedVariables false
namespace Go.Proofs.YtoalphamojhpcaaGreat
open Go.RowKit
theorem perm_sub {l l' : List Int} (p : l.Perm l') {a : List Int} (h : a.Sublist l) : ∃ b : List Int, b.Perm a ∧ b.Sublist l' := List.exists_perm_sublist h p
theorem sum_perm {a b : List Int} (h : a.Perm b) : a.sum = b.sum := by
  induction h with
  | nil => rfl
  | cons x _ ih => rw [List.sum_cons, List.sum_cons, ih]
  | swap x y l => simp only [List.sum_cons]; omega
  | trans _ _ ih1 ih2 => exact ih1.trans ih2
theorem sub_sum : ∀ {s : List Int}, s.Pairwise (· ≤ ·) → (∀ x ∈ s, 0 ≤ x) → ∀ {b : List Int} {K : Nat}, b.Sublist s → K ≤ b.length → (s.take K).sum ≤ b.sum
  | [], _, _, b, K, h, hK => by
    have : b = [] := List.sublist_nil.1 h
    subst this
    simp at hK; subst hK; simp
  | x :: s, hs, h0, b, 0, h, _ => by
    rw [List.take_zero]
    have : ∀ {b : List Int}, (∀ x ∈ b, 0 ≤ x) → 0 ≤ b.sum := fun {b} hb => by
      induction b with
      | nil => simp
      | cons y b ih =>
        rw [List.sum_cons]
        have := hb y (List.mem_cons_self ..)
        have := ih fun z hz => hb z (List.mem_cons_of_mem _ hz)
        omega
    exact this fun y hy => h0 y (h.subset hy)
  | x :: s, hs, h0, b, K + 1, h, hK => by
    obtain ⟨h1, h2⟩ := List.pairwise_cons.1 hs
    have h0' : ∀ y ∈ s, 0 ≤ y := fun y hy => h0 y (List.mem_cons_of_mem _ hy)
    rw [List.take_succ_cons, List.sum_cons]
    cases h with
    | cons _ h =>
      have ih := sub_sum h2 h0' h hK
      have hl := h.length_le
      rw [sum_take s (show K < s.length by omega)] at ih
      have := h1 (s.getD K 0) (getD_mem (by omega) 0)
      omega
    | cons_cons _ h =>
      rw [List.sum_cons]
      have ih := sub_sum h2 h0' h (K := K) (by simpa using hK)
      omega
def aT (ts : List RowM) (l y : List Int) : Nat → List Int
  | 0 => []
  | k + 1 => aT ts l y k ++ if l.getD k 0 = (hardL ts).getD k 0 ∧ l.getD k 0 ≠ y.getD k 0 then [(relL ts).getD k 0] else []
def dfT (l y : List Int) : Nat → Nat
  | 0 => 0
  | k + 1 => dfT l y k + if l.getD k 0 ≠ y.getD k 0 then 1 else 0
theorem aT_sub (ts : List RowM) (l y : List Int) : ∀ k, (aT ts l y k).Sublist (othT ts l k)
  | 0 => List.Sublist.refl _
  | k + 1 => by
    rw [aT, othT]
    refine (aT_sub ts l y k).append ?_
    by_cases h : l.getD k 0 = (hardL ts).getD k 0
    · by_cases h2 : l.getD k 0 ≠ y.getD k 0
      · rw [if_pos ⟨h, h2⟩, if_pos h]; exact List.Sublist.refl _
      · rw [if_neg (fun e => h2 e.2)]; exact List.nil_sublist _
    · rw [if_neg (fun e => h e.1), if_neg h]; exact List.Sublist.refl _
theorem dfT_le (ts : List RowM) (l y : List Int) : ∀ k, dfT l y k + (othT ts l k).length ≤ (aT ts l y k).length + k
  | 0 => Nat.le_refl _
  | k + 1 => by
    have ih := dfT_le ts l y k
    rw [dfT, othT, aT, List.length_append, List.length_append]
    by_cases h : l.getD k 0 = (hardL ts).getD k 0
    · by_cases h2 : l.getD k 0 ≠ y.getD k 0
      · rw [if_pos h2, if_pos h, if_pos ⟨h, h2⟩]; simp; omega
      · rw [if_neg h2, if_pos h, if_neg (fun e => h2 e.2)]; simp; omega
    · have e1 : ¬ (l.getD k 0 = (hardL ts).getD k 0 ∧ l.getD k 0 ≠ y.getD k 0) := fun e => h e.1
      rw [if_neg e1, if_neg h]
      by_cases h2 : l.getD k 0 ≠ y.getD k 0
      · rw [if_pos h2]; simp; omega
      · rw [if_neg h2]; simp; omega
theorem cost_ge {ts : List RowM} {q : Int} (htr : ∀ r ∈ ts, RowOk q r.xs) (h2 : 2 ≤ q) {l y : List Int} (hy : AllIn q y) : ∀ k, k ≤ ts.length → (aT ts l y k).sum ≤ cstT (xss ts) y k - cstT (xss ts) (hardL ts) k
  | 0, _ => by simp [aT, cstT]
  | k + 1, hk => by
    have ih := cost_ge htr h2 (l := l) hy k (by omega)
    have hr := htr _ (getD_mem (show k < ts.length by omega) rowD)
    have hl := hr.1
    have hyk := hy.get (by omega) k
    have hh := hardI_lt (r := (ts.getD k rowD).xs) (by omega)
    rw [cstT_succ, cstT_succ, aT, List.sum_append, hardL_getD ts (show k < ts.length by omega), Int.toNat_natCast]
    have hmin := hardI_min (r := (ts.getD k rowD).xs) (j := (y.getD k 0).toNat) (by omega)
    split
    · rename_i h
      have hne : (y.getD k 0).toNat ≠ hardI (ts.getD k rowD).xs := fun e => by
        have h1 := h.1
        exact h.2 (by omega)
      have hs := sec_le (b := hardI (ts.getD k rowD).xs) (fun x hx => (hr.2 x hx).1) (ts.getD k rowD).xs.length (Nat.le_refl _) (y.getD k 0).toNat (by omega) hne
      have hrel : (relL ts).getD k 0 = sec (ts.getD k rowD).xs (hardI (ts.getD k rowD).xs) (ts.getD k rowD).xs.length - (ts.getD k rowD).xs.getD (hardI (ts.getD k rowD).xs) 0 := by rw [relL_getD ts (show k < ts.length by omega)]; rfl
      simp only [List.sum_cons, List.sum_nil]
      omega
    · simp only [List.sum_nil]
      omega
theorem cert_best {ts : List RowM} {q : Int} (htr : ∀ r ∈ ts, RowOk q r.xs) (h2 : 2 ≤ q) {l y : List Int} (hll : l.length = ts.length) (hyl : y.length = ts.length) (hy : AllIn q y) {d : Int} (hc : cerB ts l d = true) (hd : d ≤ dfT l y ts.length) : cstL (xss ts) l ≤ cstL (xss ts) y := by
  have hcb : cstL (xss ts) l - cstL (xss ts) (hardL ts) ≤ cerS ts l d := of_decide_eq_true hc
  have hge := cost_ge htr h2 (l := l) hy ts.length (Nat.le_refl _)
  have hdf := dfT_le ts l y ts.length
  have hsub := aT_sub ts l y ts.length
  have hsl := hsub.length_le
  obtain ⟨b, hb1, hb2⟩ := perm_sub (sortI_perm (othT ts l ts.length)).symm hsub
  have hK : cerK ts l d ≤ b.length := by rw [hb1.length_eq]; unfold cerK; omega
  have hs := sub_sum (sortI_le _) (fun x hx => (othT_bd htr h2 l _ x ((sortI_perm _).mem_iff.1 hx)).1) hb2 hK
  rw [sum_perm hb1] at hs
  have e1 : cerS ts l d = ((sortI (othT ts l ts.length)).take (cerK ts l d)).sum := rfl
  have e2 : cstL (xss ts) y = cstT (xss ts) y ts.length := by rw [← hyl]; rfl
  have e3 : cstL (xss ts) (hardL ts) = cstT (xss ts) (hardL ts) ts.length := by rw [← hardL_length ts]; rfl
  omega
theorem dfT_wt (l y o : List Int) (h : ∀ j, o.getD j 0 ≠ 0 ↔ l.getD j 0 ≠ y.getD j 0) : ∀ k, dfT l y k = wtT o k
  | 0 => rfl
  | k + 1 => by
    rw [dfT, dfT_wt l y o h k]
    by_cases h2 : l.getD k 0 ≠ y.getD k 0
    · rw [if_pos h2, wtT_yes ((h k).2 h2)]
    · rw [if_neg h2, wtT_no (Classical.byContradiction fun e => h2 ((h k).1 e))]; rfl
end Go.Proofs.YtoalphamojhpcaaGreat

set_option linter.unusedSimpArgs false
set_option linter.unusedVariables false
set_option maxRecDepth 100000
namespace Go.Proofs.YtoalphamojhpcaaGreat
open Go.RowKit
def cntC (q : Int) (k : Nat) (most : Int) : Int := if q ^ k ≤ 65536 ∧ q ^ k ≤ most then q ^ k else 0
theorem pow_le_of {q : Int} (hq : 1 ≤ q) {i k : Nat} (h : i ≤ k) : q ^ i ≤ q ^ k := by
  obtain ⟨d, rfl⟩ := Nat.le.dest h
  rw [Int.pow_add]
  have h1 : 0 < q ^ i := Int.pow_pos (by omega)
  have h2 : 0 < q ^ d := Int.pow_pos (by omega)
  have := Int.mul_le_mul_of_nonneg_left (show 1 ≤ q ^ d by omega) (Int.le_of_lt h1)
  omega
theorem pow_big {q B : Int} (hq : 1 ≤ q) {i k : Nat} (h : i < k) (hb : q ^ i > B / q) : B < q ^ k := by
  have h1 : B < q ^ i * q := by
    have h2 := Int.lt_mul_of_ediv_lt (by omega : 0 < q) hb
    exact h2
  have := pow_le_of hq (show i + 1 ≤ k from h)
  rw [Int.pow_succ] at this
  omega
theorem digM_getD (q i : Int) : ∀ (k j : Nat), j < k → (digM q k i).getD j 0 = i / q ^ (k - 1 - j) % q
  | k + 1, 0, _ => by rw [digM, List.getD_cons_zero]; rfl
  | k + 1, j + 1, h => by rw [digM, List.getD_cons_succ, digM_getD q i k j (by omega), show k + 1 - 1 - (j + 1) = k - 1 - j by omega]
section
variable {p m : Int} {mod : List Int} [hF : IsF p m mod]
noncomputable def wordZ (p m : Int) (mod : List Int) [hF : IsF p m mod] (w : Nat) (rs : List RowM) (z : Int) : List Int := (List.range w).map fun j => (Vc.cmb (fun i => el ((digM (pw p m) rs.length z).getD i 0)) (vsR rs : List (Vc (El p m mod))) j).1
theorem wordZ_length (w : Nat) (rs : List RowM) (z : Int) : (wordZ p m mod w rs z).length = w := by simp [wordZ]
theorem wordZ_in (w : Nat) (rs : List RowM) (z : Int) : AllIn (pw p m) (wordZ p m mod w rs z) := fun x hx => by
  obtain ⟨j, _, rfl⟩ := List.mem_map.1 hx
  exact El.bd _
theorem cmb_out {w : Nat} {rs : List RowM} (hg : Gd (pw p m) w rs) (c : Nat → El p m mod) {j : Nat} (hj : w ≤ j) : Vc.cmb c (vsR rs) j = 0 := by
  rw [Vc.cmb_at _ 0]
  refine Rg.sm_none fun i hi => ?_
  rw [vsR_length] at hi
  rw [vsR_at, getD_out (by have := (hg.get hi).1; omega), el_zero, Rg.mul_zero]
theorem wordZ_vec {w : Nat} {rs : List RowM} (hg : Gd (pw p m) w rs) (z : Int) : (rw' (wordZ p m mod w rs z) : Vc (El p m mod)) = Vc.cmb (fun i => el ((digM (pw p m) rs.length z).getD i 0)) (vsR rs) := Vc.ext fun j => by
  rw [rw_at]
  by_cases hj : j < w
  · have : (wordZ p m mod w rs z).getD j 0 = (Vc.cmb (fun i => el ((digM (pw p m) rs.length z).getD i 0)) (vsR rs : List (Vc (El p m mod))) j).1 := by
      unfold wordZ
      rw [List.getD_eq_getElem?_getD, List.getElem?_map, List.getElem?_range hj]; rfl
    rw [this, el_of]
  · rw [getD_out (by rw [wordZ_length]; omega), el_zero, cmb_out hg _ (by omega)]
theorem wordZ_eq {w : Nat} {rs : List RowM} (hg : Gd (pw p m) w rs) {z : Int} {o : List Int} (hl : o.length = w) (hi : AllIn (pw p m) o) (he : (rw' o : Vc (El p m mod)) = Vc.cmb (fun i => el ((digM (pw p m) rs.length z).getD i 0)) (vsR rs)) : o = wordZ p m mod w rs z :=
  rw_inj hi (wordZ_in w rs z) (by rw [hl, wordZ_length]) (he.trans (wordZ_vec hg z).symm)
theorem cw_index {w : Nat} {rs : List RowM} (hg : Gd (pw p m) w rs) {o : List Int} (hl : o.length = w) (hi : AllIn (pw p m) o) (h : Vc.SpL (vsR rs : List (Vc (El p m mod))) (rw' o)) : ∃ z, 0 ≤ z ∧ z < pw p m ^ rs.length ∧ o = wordZ p m mod w rs z := by
  obtain ⟨c, hc⟩ := Vc.sp_cmb h
  have hx : AllIn (pw p m) ((List.range rs.length).map fun i => (c i).1) := fun x hx => by
    obtain ⟨j, _, rfl⟩ := List.mem_map.1 hx
    exact El.bd _
  obtain ⟨z, z0, z1, z2⟩ := digM_surj hF.q2 _ hx
  rw [List.length_map, List.length_range] at z1 z2
  refine ⟨z, z0, z1, wordZ_eq hg hl hi ?_⟩
  rw [hc, z2]
  refine Vc.ext fun j => ?_
  rw [Vc.cmb_at _ 0, Vc.cmb_at _ 0]
  refine Rg.sm_congr fun i hi => ?_
  rw [vsR_length] at hi
  have e : ((List.range rs.length).map fun i => (c i).1).getD i 0 = (c i).1 := by
    rw [List.getD_eq_getElem?_getD, List.getElem?_map, List.getElem?_range hi]; rfl
  show _ = el (((List.range rs.length).map fun i => (c i).1).getD i 0) * _
  rw [e, el_of]
theorem digM_zero (q : Int) : ∀ k j, (digM q k 0).getD j 0 = 0
  | 0, j => by simp [digM]
  | k + 1, 0 => by rw [digM, List.getD_cons_zero, Int.zero_ediv, Int.zero_emod]
  | k + 1, j + 1 => by rw [digM, List.getD_cons_succ]; exact digM_zero q k j
theorem wordZ_nz {w : Nat} {rs : List RowM} (hg : Gd (pw p m) w rs) (hf : formP p m mod w rs) {z : Int} (h0 : 1 ≤ z) (h1 : z < pw p m ^ rs.length) : ∃ j, (wordZ p m mod w rs z).getD j 0 ≠ 0 := Classical.byContradiction fun hno => by
  obtain ⟨qs, hR⟩ := hf
  have hz : (rw' (wordZ p m mod w rs z) : Vc (El p m mod)) = 0 := Vc.ext fun j => by
    have : (wordZ p m mod w rs z).getD j 0 = 0 := Classical.byContradiction fun h => hno ⟨j, h⟩
    rw [rw_at, this, el_zero]; rfl
  rw [wordZ_vec hg] at hz
  obtain ⟨k, _, hk⟩ := digM_lex hF.q2 rs.length 0 z (by omega) (by omega) h1
  rw [digM_zero] at hk
  have hkl : k < rs.length := Nat.lt_of_not_le fun hle => by rw [getD_out (by rw [digM_length]; omega)] at hk; omega
  refine hR.indep ⟨_, ⟨k, by rw [vsR_length]; exact hkl, fun e => ?_⟩, hz⟩
  have hb := (digM_in (q := pw p m) (by have := hF.q2; omega) z rs.length).get (by have := hF.q2; omega) k
  rw [el_eq_zero hb] at e
  omega
theorem wordZ_zero {w : Nat} {rs : List RowM} (hg : Gd (pw p m) w rs) (j : Nat) : (wordZ p m mod w rs 0).getD j 0 = 0 := by
  have h := congrFun (wordZ_vec (mod := mod) hg 0) j
  have e : Vc.cmb (fun i => (el ((digM (pw p m) rs.length 0).getD i 0) : El p m mod)) (vsR rs) j = 0 := by
    rw [Vc.cmb_at _ 0]
    exact Rg.sm_none fun i _ => by rw [digM_zero, el_zero, Rg.zero_mul]
  rw [e, rw_at] at h
  exact (el_eq_zero ((wordZ_in w rs 0).get (by have := hF.q2; omega) j)).1 h
end
theorem wtL_pos {o : List Int} (h : ∃ j, o.getD j 0 ≠ 0) : 1 ≤ wtL o := by
  obtain ⟨j, hj⟩ := h
  have hl : j < o.length := Nat.lt_of_not_le fun hle => hj (getD_out hle)
  unfold wtL
  exact List.length_pos_of_mem (List.mem_filter.2 ⟨List.mem_range.2 hl, decide_eq_true hj⟩)
theorem wtL_le' (o : List Int) : wtL o ≤ o.length := wtT_le o o.length
noncomputable def disT (p m : Int) (mod : List Int) [hF : IsF p m mod] (w : Nat) (rs : List RowM) : Nat → Int
  | 0 => 0
  | j + 1 => if disT p m mod w rs j = 0 ∨ (wtL (wordZ p m mod w rs ((j : Int) + 1)) : Int) < disT p m mod w rs j then (wtL (wordZ p m mod w rs ((j : Int) + 1)) : Int) else disT p m mod w rs j
noncomputable def disI (p m : Int) (mod : List Int) [hF : IsF p m mod] (w : Nat) (rs : List RowM) (most : Int) : Int := if cntC (pw p m) rs.length most = 0 then -1 else disT p m mod w rs (cntC (pw p m) rs.length most - 1).toNat
section
variable {p m : Int} {mod : List Int} [hF : IsF p m mod]
theorem disT_bd (w : Nat) (rs : List RowM) : ∀ j, 0 ≤ disT p m mod w rs j ∧ disT p m mod w rs j ≤ w
  | 0 => by rw [disT]; omega
  | j + 1 => by
    have ih := disT_bd w rs j
    have h := wtL_le' (wordZ p m mod w rs ((j : Int) + 1))
    rw [wordZ_length] at h
    rw [disT]
    split <;> omega
theorem disT_le {w : Nat} {rs : List RowM} (hg : Gd (pw p m) w rs) (hf : formP p m mod w rs) : ∀ j : Nat, (j : Int) < pw p m ^ rs.length → (disT p m mod w rs j = 0 → j = 0) ∧ ∀ z : Nat, 1 ≤ z → z ≤ j → disT p m mod w rs j ≤ (wtL (wordZ p m mod w rs z) : Int)
  | 0, _ => ⟨fun _ => rfl, fun z h1 h2 => by omega⟩
  | j + 1, hj => by
    obtain ⟨ih1, ih2⟩ := disT_le hg hf j (by omega)
    have hp := wtL_pos (wordZ_nz hg hf (z := (j : Int) + 1) (by omega) (by omega))
    have hb := disT_bd (p := p) (m := m) (mod := mod) w rs j
    rw [disT]
    constructor
    · intro h
      split at h <;> omega
    · intro z h1 h2
      by_cases e : z = j + 1
      · subst e
        split
        · exact Int.le_refl _
        · rename_i hn
          have e2 : (((j + 1 : Nat) : Int)) = (j : Int) + 1 := by omega
          rw [e2]; omega
      · have := ih2 z h1 (by omega)
        split
        · rename_i hc
          rcases hc with hc | hc
          · have := ih1 hc; omega
          · omega
        · exact this
theorem disI_le {w : Nat} {rs : List RowM} (hg : Gd (pw p m) w rs) (hf : formP p m mod w rs) {most : Int} (hd : 1 ≤ disI p m mod w rs most) : disI p m mod w rs most ≤ w ∧ ∀ o : List Int, o.length = w → AllIn (pw p m) o → Vc.SpL (vsR rs : List (Vc (El p m mod))) (rw' o) → (∃ j, o.getD j 0 ≠ 0) → disI p m mod w rs most ≤ (wtL o : Int) := by
  unfold disI at hd ⊢
  split
  · rename_i h; rw [if_pos h] at hd; omega
  · rename_i h
    have hc : cntC (pw p m) rs.length most = pw p m ^ rs.length := by
      unfold cntC at h ⊢
      split
      · rfl
      · rename_i h2; rw [if_neg h2] at h; exact absurd rfl h
    have hpos : 0 < pw p m ^ rs.length := Int.pow_pos (by have := hF.q2; omega)
    rw [hc]
    refine ⟨(disT_bd (p := p) (m := m) (mod := mod) w rs _).2, fun o ho hi hs hne => ?_⟩
    obtain ⟨z, z0, z1, rfl⟩ := cw_index hg ho hi hs
    have hz : 1 ≤ z := by
      rcases Int.lt_or_le z 1 with h1 | h1
      · have : z = 0 := by omega
        subst this
        obtain ⟨j, hj⟩ := hne
        exact absurd (wordZ_zero hg j) hj
      · exact h1
    have := (disT_le hg hf (pw p m ^ rs.length - 1).toNat (by omega)).2 z.toNat (by omega) (by omega)
    rwa [Int.toNat_of_nonneg z0] at this
end
theorem digM_fill {q i : Int} {k : Nat} {x : List Int} (hl : x.length = k) (h : ∀ j : Nat, j < k → x.getD j 0 = i / q ^ (k - 1 - j) % q) : x = digM q k i := ext_getD (by rw [hl, digM_length]) fun j => by
  by_cases hj : j < k
  · rw [h j hj, digM_getD q i k j hj]
  · rw [getD_out (by omega), getD_out (by rw [digM_length]; omega)]
theorem ref_Exp_ent : Enters Tryz.prog 101 := enters_of Tryz.func101 (by kernel_rfl) (by kernel_rfl)
theorem ref_Exp (q k : Int) (hq2 : 2 ≤ q) (hq9 : q ≤ 256) (hk0 : 0 ≤ k) (hk9 : k ≤ 1000) :
    Pure Tryz.prog 101 #[.int .i64 q, .int .i64 k, .int .i64 65536] [] (isV (.tuple #[.int .i64 (if q ^ k.toNat ≤ 65536 then q ^ k.toNat else 0), .int .i64 (if q ^ k.toNat ≤ 65536 then 0 else 8)])) := by
  refine pure_of (args := [.int .i64 q, .int .i64 k, .int .i64 65536]) 47 Tryz.func101 rfl rfl rfl ref_Exp_ent trivial (fun w0 => ?_)
  refine tr_seq ?_
  refine tr_region fun _ _ _ => ?_
  iterate 2 refine pu rfl rfl rfl rfl rfl ?_
  refine tr_seq ?_
  refine tr_seq ?_
  refine tr_region fun _ _ _ => ?_
  iterate 3 refine pu rfl rfl rfl rfl rfl ?_
  refine stg rfl rfl rfl rfl rfl (fun hb => by (have hq := hb; try simp only [zbA] at hq); exact rMove rfl rfl) ?_
  refine stg rfl rfl rfl rfl rfl (fun hb => by (have hq := hb; try simp only [zbA] at hq); exact rLss rfl (evg rfl hb) rfl) ?_
  refine st rfl rfl rfl rfl (rOrB rfl rfl rfl rfl) ?_
  refine pu rfl rfl rfl rfl rfl ?_
  refine stg rfl rfl rfl rfl rfl (fun hb => by (have hq := hb; try simp only [zbA] at hq); exact rMove rfl rfl) ?_
  refine stg rfl rfl rfl rfl rfl (fun hb => by (have hq := hb; try simp only [zbA] at hq); exact rLss rfl (evg rfl hb) rfl) ?_
  refine st rfl rfl rfl rfl (rOrB rfl rfl rfl rfl) ?_
  refine tr_cond_bool rfl (fun h1 => ?_) (fun h1 => ?_)
  · try simp only [zbA] at h1
    omega --done
  · try simp only [zbA] at h1
    refine tr_skip ?_
    refine tr_seq ?_
    refine tr_seq ?_
    refine tr_region fun _ _ _ => ?_
    iterate 3 refine pu rfl rfl rfl rfl rfl ?_
    refine stg rfl rfl rfl rfl rfl (fun hb => by (have hq := hb; try simp only [zbA] at hq); exact rMove rfl rfl) ?_
    refine stg rfl rfl rfl rfl rfl (fun hb => by (have hq := hb; try simp only [zbA] at hq); exact rGtr rfl (evg rfl hb) rfl) ?_
    refine st rfl rfl rfl rfl (rAndB rfl rfl rfl rfl) ?_
    refine tr_cond_bool rfl (fun h3 => ?_) (fun h3 => ?_)
    · try simp only [zbA] at h3
      omega --done
    · try simp only [zbA] at h3
      refine tr_skip ?_
      refine tr_seq ?_
      refine tr_region fun _ _ _ => ?_
      refine pu rfl rfl rfl rfl rfl ?_
      refine tr_seq ?_
      refine tr_seq ?_
      refine tr_region fun _ _ _ => ?_
      refine pu rfl rfl rfl rfl rfl ?_
      refine tr_block ?_
      refine tr_loop2 (fun (i : Int) (o : Int) => [(9, .int .i64 i), (8, .int .i64 o), (0, .int .i64 q), (1, .int .i64 k), (2, .int .i64 65536)]) (fun (i : Int) (o : Int) => []) (fun (i : Int) (o : Int) => (0 ≤ i ∧ i ≤ k) ∧ (1 ≤ o ∧ o ≤ 65536) ∧ o = q ^ i.toNat) (fun (i : Int) (o : Int) => (k - i).toNat) (0) (1) ⟨rfl, rfl, rfl, rfl, rfl, trivial⟩ (by first | exact cs _ _ | exact CSub.refl _) (⟨⟨by omega, by omega⟩, ⟨by omega, by omega⟩, by simp⟩) (fun i o hI => ?_)
      obtain ⟨⟨hi0, hi1⟩, ⟨ho0, ho1⟩, ho⟩ := hI
      refine tr_seq ?_
      refine tr_seq ?_
      refine tr_region fun _ _ _ => ?_
      iterate 4 refine pu rfl rfl rfl rfl rfl ?_
      refine stg rfl rfl rfl rfl rfl (fun hb => by (have hq := hb; try simp only [zbA] at hq); exact rMove rfl rfl) ?_
      refine stg rfl rfl rfl rfl rfl (fun hb => by (have hq := hb; try simp only [zbA] at hq); exact rGtr rfl (evg rfl hb) rfl) ?_
      refine st rfl rfl rfl rfl (rAndB rfl rfl rfl rfl) ?_
      refine tr_cond_bool rfl (fun h7 => ?_) (fun h7 => ?_)
      · try simp only [zbA] at h7
        refine tr_skip ?_
        refine tr_seq ?_
        refine tr_block ?_
        refine tr_seq ?_
        refine tr_seq ?_
        refine tr_region fun _ _ _ => ?_
        iterate 3 refine pu rfl rfl rfl rfl rfl ?_
        refine st rfl rfl rfl rfl (rQuo rfl rfl rfl (by omega) (by omega)) ?_
        refine pu rfl rfl rfl rfl rfl ?_
        refine tr_cond_bool rfl (fun h9 => ?_) (fun h9 => ?_)
        · try simp only [zbA] at h9
          refine tr_seq ?_
          refine tr_region fun _ _ _ => ?_
          iterate 2 refine pu rfl rfl rfl rfl rfl ?_
          have hbg := pow_big (q := q) (B := 65536) (by omega) (show i.toNat < k.toNat by omega) (by rw [← ho]; omega)
          exact tr_ret ⟨trivial, _, _, rfl, ⟨by rw [if_neg (by omega), if_neg (by omega)], rfl⟩, CSub.nil _, trivial⟩
        · try simp only [zbA] at h9
          refine tr_skip ?_
          have hmq : o * q ≤ 65536 := by
            have := Int.mul_le_of_le_ediv (by omega : 0 < q) (by omega : o ≤ 65536 / q)
            exact this
          have hmq0 : 0 < o * q := Int.mul_pos (by omega) (by omega)
          refine tr_region fun _ _ _ => ?_
          iterate 2 refine pu rfl rfl rfl rfl rfl ?_
          refine st rfl rfl rfl rfl (rMul rfl rfl rfl (by omega) (by omega)) ?_
          refine pu rfl rfl rfl rfl rfl ?_
          refine tr_region fun _ _ _ => ?_
          refine pu rfl rfl rfl rfl rfl ?_
          refine st rfl rfl rfl rfl (rAdd rfl rfl rfl (by omega) (by omega)) ?_
          refine pu rfl rfl rfl rfl rfl ?_
          refine ⟨i + 1, o * q, ⟨rfl, rfl, rfl, rfl, rfl, trivial⟩, by first | exact cs _ _ | exact CSub.refl _, ?_⟩
          exact ⟨⟨⟨by omega, by omega⟩, ⟨by omega, by omega⟩, by rw [show (i + 1).toNat = i.toNat + 1 by omega, Int.pow_succ, ho]⟩, by omega⟩
      · try simp only [zbA] at h7
        refine tr_exit ?_
        refine tr_seq ?_
        refine tr_seq ?_
        refine tr_region fun _ _ _ => ?_
        iterate 3 refine pu rfl rfl rfl rfl rfl ?_
        refine tr_cond_bool rfl (fun h12 => ?_) (fun h12 => ?_)
        · try simp only [zbA] at h12
          omega --done
        · try simp only [zbA] at h12
          refine tr_skip ?_
          refine tr_seq ?_
          refine tr_region fun _ _ _ => ?_
          iterate 3 refine pu rfl rfl rfl rfl rfl ?_
          have hik : i = k := by omega
          subst hik
          exact tr_ret ⟨trivial, _, _, rfl, ⟨by rw [← ho, if_pos ho1, if_pos ho1], rfl⟩, CSub.nil _, trivial⟩
theorem ref_CSize_ent : Enters Tryz.prog 62 := enters_of Tryz.func62 (by kernel_rfl) (by kernel_rfl)
theorem ref_CSize (p m : Int) (A : Option Addr) (c : Nat) (mod : List Int) [hF : IsF p m mod] (w : Int) (Aa : Option Addr) (n ca : Nat) (rs : List RowM) (hn : n = rs.length) (h9 : rs.length ≤ 256) (hc : CodeOk p m mod w rs) :
    Pure Tryz.prog 62 #[.agg #[.int .i64 p, .int .i64 m, .slice A mod.length c, .int .i64 w, .slice Aa n ca]] [ro A (ints mod), ro Aa (hdrs rs), rowsR rs] (isV (.tuple #[.int .i64 (if pw p m ^ rs.length ≤ 65536 then pw p m ^ rs.length else 0), .int .i64 (if pw p m ^ rs.length ≤ 65536 then 0 else 8)])) := by
  have hl9 := hF.short
  have hn1 := hc.n1
  have hn64 := hc.n64
  have hlen := hc.len
  have hgd := hc.good
  have h8 := hgd.h8 (N := 17592186044415) (by omega)
  have hck := hc.zero
  have hq2 := hF.q2
  have hq256 := hF.out.1.1.q
  have hord := hF.ord
  refine pure_of (args := [.agg #[.int .i64 p, .int .i64 m, .slice A mod.length c, .int .i64 w, .slice Aa n ca]]) 19 Tryz.func62 rfl rfl rfl ref_CSize_ent ⟨id, id, id, trivial⟩ (fun w0 => ?_)
  refine tr_seq ?_
  refine tr_region fun _ _ _ => ?_
  refine ef rfl rfl (eBox rfl rfl rfl rfl rfl (fun p0 => ?_)) 
  iterate 2 refine pu rfl rfl rfl rfl rfl ?_
  refine tr_seq ?_
  refine tr_region fun _ _ _ => ?_
  refine st rfl rfl rfl rfl (rLdS rfl rfl rfl) ?_
  refine ef rfl rfl (eCallV rfl rfl rfl (ref_CCheck _ _ _ _ _ (by omega) w Aa _ ca rs hn (by omega) h8) ⟨rfl, trivial⟩ ?_) 
  refine pu rfl rfl rfl rfl rfl ?_
  refine tr_seq ?_
  refine tr_seq ?_
  refine tr_region fun _ _ _ => ?_
  iterate 2 refine pu rfl rfl rfl rfl rfl ?_
  refine tr_cond_bool rfl (fun h2 => ?_) (fun h2 => ?_)
  · try simp only [zbA] at h2
    omega --done
  · try simp only [zbA] at h2
    refine tr_skip ?_
    refine tr_seq ?_
    refine tr_draw [0, 1, 3, 4, 5, 2, 6, 7, 8, 9, 10] [] mixed (by kernel_rfl) fun _ _ _ => ?_
    refine st rfl rfl rfl rfl (rFld rfl rfl) ?_
    refine st rfl rfl rfl rfl (rLdSF rfl rfl) ?_
    refine st rfl rfl rfl rfl (rFld rfl rfl) ?_
    refine st rfl rfl rfl rfl (rLdF rfl rfl rfl) ?_
    refine st rfl rfl rfl rfl (rLen rfl rfl) ?_
    refine ef rfl rfl (eCallV rfl rfl rfl (ref_order p m A c mod) ⟨rfl, trivial⟩ ?_) 
    rw [hord]
    refine ef rfl rfl (eCallV rfl rfl rfl (ref_Exp (pw p m) n hq2 (by omega) (by omega) (by omega)) ⟨rfl, rfl, rfl, trivial⟩ ?_) 
    iterate 4 refine pu rfl rfl rfl rfl rfl ?_
    exact tr_ret ⟨trivial, _, _, rfl, ⟨by rw [hn]; rfl, rfl⟩, CSub.nil _, trivial⟩
theorem ref_CCount_ent : Enters Tryz.prog 22 := enters_of Tryz.func22 (by kernel_rfl) (by kernel_rfl)
theorem ref_CCount (p m : Int) (A : Option Addr) (c : Nat) (mod : List Int) [hF : IsF p m mod] (w : Int) (Aa : Option Addr) (n ca : Nat) (rs : List RowM) (hn : n = rs.length) (h9 : rs.length ≤ 256) (hc : CodeOk p m mod w rs) (most : Int) :
    Pure Tryz.prog 22 #[.agg #[.int .i64 p, .int .i64 m, .slice A mod.length c, .int .i64 w, .slice Aa n ca], .int .i64 most] [ro A (ints mod), ro Aa (hdrs rs), rowsR rs] (isV (.int .i64 (cntC (pw p m) rs.length most))) := by
  have hl9 := hF.short
  have hn1 := hc.n1
  have hn64 := hc.n64
  have hlen := hc.len
  have hgd := hc.good
  have h8 := hgd.h8 (N := 17592186044415) (by omega)
  have hck := hc.zero
  have hq2 := hF.q2
  refine pure_of (args := [.agg #[.int .i64 p, .int .i64 m, .slice A mod.length c, .int .i64 w, .slice Aa n ca], .int .i64 most]) 20 Tryz.func22 rfl rfl rfl ref_CCount_ent ⟨id, id, id, trivial⟩ (fun w0 => ?_)
  refine tr_seq ?_
  refine tr_region fun _ _ _ => ?_
  refine ef rfl rfl (eBox rfl rfl rfl rfl rfl (fun p0 => ?_)) 
  refine pu rfl rfl rfl rfl rfl ?_
  refine tr_seq ?_
  refine tr_region fun _ _ _ => ?_
  refine st rfl rfl rfl rfl (rLdS rfl rfl rfl) ?_
  refine ef rfl rfl (eCallV rfl rfl rfl (ref_CSize p m A c mod w Aa n ca rs hn h9 hc) ⟨rfl, trivial⟩ ?_) 
  iterate 5 refine pu rfl rfl rfl rfl rfl ?_
  refine tr_seq ?_
  refine tr_seq ?_
  refine tr_region fun _ _ _ => ?_
  iterate 3 refine pu rfl rfl rfl rfl rfl ?_
  refine stg rfl rfl rfl rfl rfl (fun hb => by (have hq := hb; try simp only [zbA] at hq); exact rMove rfl rfl) ?_
  refine stg rfl rfl rfl rfl rfl (fun hb => by (have hq := hb; try simp only [zbA] at hq); exact rMove rfl rfl) ?_
  refine stg rfl rfl rfl rfl rfl (fun hb => by (have hq := hb; try simp only [zbA] at hq); exact rGtr rfl (evg rfl hb) (evg rfl hb)) ?_
  refine st rfl rfl rfl rfl (rOrB rfl rfl rfl rfl) ?_
  refine tr_cond_bool rfl (fun h2 => ?_) (fun h2 => ?_)
  · try simp only [zbA] at h2
    have hz : cntC (pw p m) rs.length most = 0 := by
      unfold cntC
      split
      · rename_i hcc
        rw [if_pos hcc.1, if_pos hcc.1] at h2
        omega
      · rfl
    refine tr_seq ?_
    refine tr_region fun _ _ _ => ?_
    refine pu rfl rfl rfl rfl rfl ?_
    exact tr_ret ⟨trivial, _, _, rfl, ⟨by rw [hz], rfl⟩, CSub.nil _, trivial⟩
  · try simp only [zbA] at h2
    have hz : (if pw p m ^ rs.length ≤ 65536 then pw p m ^ rs.length else 0) = cntC (pw p m) rs.length most := by
      unfold cntC
      by_cases hcc : pw p m ^ rs.length ≤ 65536
      · rw [if_pos hcc, if_pos hcc] at h2
        rw [if_pos hcc, if_pos ⟨hcc, by omega⟩]
      · rw [if_neg hcc, if_neg hcc] at h2
        omega
    refine tr_skip ?_
    refine tr_seq ?_
    refine tr_region fun _ _ _ => ?_
    iterate 2 refine pu rfl rfl rfl rfl rfl ?_
    exact tr_ret ⟨trivial, _, _, rfl, ⟨by rw [hz], rfl⟩, CSub.nil _, trivial⟩
theorem ref_CAt_ent : Enters Tryz.prog 44 := enters_of Tryz.func44 (by kernel_rfl) (by kernel_rfl)
theorem ref_CAt (p m : Int) (A : Option Addr) (c : Nat) (mod : List Int) [hF : IsF p m mod] (w : Int) (Aa : Option Addr) (n ca : Nat) (rs : List RowM) (hn : n = rs.length) (h9 : rs.length ≤ 256) (hc : CodeOk p m mod w rs) (z : Int) (hz0 : 0 ≤ z) (hz9 : z ≤ 1000000000) :
    Pure Tryz.prog 44 #[.agg #[.int .i64 p, .int .i64 m, .slice A mod.length c, .int .i64 w, .slice Aa n ca], .int .i64 z] [ro A (ints mod), ro Aa (hdrs rs), rowsR rs] (one (fun v ch => ∃ B cb, v = .slice B (wordZ p m mod w.toNat rs z).length cb ∧ ch = ow B 3 cb (ints (wordZ p m mod w.toNat rs z)))) := by
  have hl9 := hF.short
  have hn1 := hc.n1
  have hn64 := hc.n64
  have hlen := hc.len
  have hgd := hc.good
  have h8 := hgd.h8 (N := 17592186044415) (by omega)
  have hck := hc.zero
  have hq2 := hF.q2
  have hq256 := hF.out.1.1.q
  have hord := hF.ord
  refine pure_of (args := [.agg #[.int .i64 p, .int .i64 m, .slice A mod.length c, .int .i64 w, .slice Aa n ca], .int .i64 z]) 39 Tryz.func44 rfl rfl rfl ref_CAt_ent ⟨id, id, id, trivial⟩ (fun w0 => ?_)
  refine tr_seq ?_
  refine tr_region fun _ _ _ => ?_
  refine ef rfl rfl (eBox rfl rfl rfl rfl rfl (fun p0 => ?_)) 
  refine pu rfl rfl rfl rfl rfl ?_
  refine tr_seq ?_
  refine tr_region fun _ _ _ => ?_
  refine st rfl rfl rfl rfl (rFld rfl rfl) ?_
  refine st rfl rfl rfl rfl (rLdSF rfl rfl) ?_
  refine ef rfl rfl (eCallV rfl rfl rfl (ref_order p m A c mod) ⟨rfl, trivial⟩ ?_) 
  refine pu rfl rfl rfl rfl rfl ?_
  rw [hord]
  refine tr_seq ?_
  refine tr_region fun _ _ _ => ?_
  refine st rfl rfl rfl rfl (rFld rfl rfl) ?_
  refine st rfl rfl rfl rfl (rLdF rfl rfl rfl) ?_
  refine st rfl rfl rfl rfl (rLen rfl rfl) ?_
  refine ef rfl rfl (eMakeI rfl rfl rfl rfl rfl (by omega) (by omega) (by omega) (fun A2 => ?_)) 
  refine pu rfl rfl rfl rfl rfl ?_
  simp only [Int.toNat_natCast]
  refine tr_seq ?_
  refine tr_seq ?_
  refine tr_region fun _ _ _ => ?_
  refine pu rfl rfl rfl rfl rfl ?_
  refine st rfl rfl rfl rfl (rLen rfl rfl) ?_
  refine st rfl rfl rfl rfl (rSub rfl rfl rfl (by omega) (by omega)) ?_
  refine pu rfl rfl rfl rfl rfl ?_
  refine tr_block ?_
  refine tr_loop3 (fun (i : Int) (x : List Int) (y : Int) => [(1, .int .i64 y), (5, .int .i64 (pw p m)), (6, .slice A2 n n), (7, .int .i64 i), (2, .pointer (some p0)), (4, .slice none 0 0)]) (fun (i : Int) (x : List Int) (y : Int) => [ow A2 3 n (ints x), blk p0 27 [.int .i64 p, .int .i64 m, .slice A mod.length c, .int .i64 w, .slice Aa n ca], ro A (ints mod), ro Aa (hdrs rs), rowsR rs]) (fun (i : Int) (x : List Int) (y : Int) => (-1 ≤ i ∧ i < n) ∧ x.length = rs.length ∧ (∀ j : Nat, i < j → j < rs.length → x.getD j 0 = z / pw p m ^ (rs.length - 1 - j) % pw p m) ∧ y = z / pw p m ^ (rs.length - 1 - i).toNat) (fun (i : Int) (x : List Int) (y : Int) => (i + 1).toNat) ((n : Int) - 1) (List.replicate n 0) (z) ⟨rfl, rfl, rfl, rfl, rfl, rfl, trivial⟩ (by first | exact cs _ _ | exact CSub.refl _) (⟨⟨by omega, by omega⟩, by simp; omega, fun j h1 h2 => by omega, by rw [show ((rs.length : Int) - 1 - ((n : Int) - 1)).toNat = 0 by omega, Int.pow_zero, Int.ediv_one]⟩) (fun i x y hI => ?_)
  obtain ⟨⟨hi0, hi1⟩, hxl, hx, hy⟩ := hI
  refine tr_seq ?_
  refine tr_seq ?_
  refine tr_region fun _ _ _ => ?_
  iterate 2 refine pu rfl rfl rfl rfl rfl ?_
  refine tr_cond_bool rfl (fun h4 => ?_) (fun h4 => ?_)
  · try simp only [zbA] at h4
    refine tr_skip ?_
    refine tr_seq ?_
    refine tr_block ?_
    refine tr_seq ?_
    have hzz : 0 ≤ y := by rw [hy]; exact Int.ediv_nonneg hz0 (Int.le_of_lt (Int.pow_pos (by omega)))
    have hzl : y ≤ z := by rw [hy]; exact Int.ediv_le_self _ hz0
    refine tr_region fun _ _ _ => ?_
    iterate 4 refine pu rfl rfl rfl rfl rfl ?_
    refine st rfl rfl rfl rfl (rRem rfl rfl rfl (by omega) (by omega)) ?_
    refine st rfl rfl rfl rfl (rIdxI rfl rfl rfl (by omega) (by omega) (by omega)) ?_
    refine ef rfl rfl (eStI rfl rfl rfl rfl (by omega) ?_) 
    refine tr_region fun _ _ _ => ?_
    iterate 2 refine pu rfl rfl rfl rfl rfl ?_
    refine st rfl rfl rfl rfl (rQuo rfl rfl rfl (by omega) (by omega)) ?_
    refine pu rfl rfl rfl rfl rfl ?_
    refine tr_region fun _ _ _ => ?_
    refine pu rfl rfl rfl rfl rfl ?_
    refine st rfl rfl rfl rfl (rSub rfl rfl rfl (by omega) (by omega)) ?_
    refine pu rfl rfl rfl rfl rfl ?_
    refine ⟨i - 1, x.set i.toNat (y % pw p m), y / pw p m, ⟨rfl, rfl, rfl, rfl, rfl, rfl, trivial⟩, by first | exact cs _ _ | exact CSub.refl _, ?_⟩
    refine ⟨⟨⟨by omega, by omega⟩, by simpa using hxl, fun j h1 h2 => ?_, ?_⟩, by omega⟩
    · rw [getD_set]
      by_cases he : i.toNat = j
      · rw [if_pos ⟨he, by omega⟩, hy, show ((rs.length : Int) - 1 - i).toNat = rs.length - 1 - j by omega]
      · rw [if_neg (fun h => he h.1)]; exact hx j (by omega) h2
    · rw [show ((rs.length : Int) - 1 - (i - 1)).toNat = ((rs.length : Int) - 1 - i).toNat + 1 by omega, Int.pow_succ, hy]
      exact Int.ediv_ediv_of_nonneg (Int.le_of_lt (Int.pow_pos (by omega)))
  · try simp only [zbA] at h4
    refine tr_exit ?_
    refine tr_seq ?_
    have hxd := digM_fill (q := pw p m) (i := z) hxl fun j hj => hx j (by omega) hj
    refine tr_region fun _ _ _ => ?_
    refine st rfl rfl rfl rfl (rFld rfl rfl) ?_
    refine st rfl rfl rfl rfl (rLdSF rfl rfl) ?_
    refine pu rfl rfl rfl rfl rfl ?_
    refine st rfl rfl rfl rfl (rFld rfl rfl) ?_
    refine st rfl rfl rfl rfl (rLdF rfl rfl rfl) ?_
    refine st rfl rfl rfl rfl (rFld rfl rfl) ?_
    refine st rfl rfl rfl rfl (rLdF rfl rfl rfl) ?_
    refine ef rfl rfl (eCall1 rfl rfl rfl (ref_Combine p m A c mod A2 _ _ x (by omega) w (by omega) (by omega) Aa n ca rs hn hxl (by omega) hgd) ⟨rfl, rfl, rfl, rfl, trivial⟩ ?_) 
    rintro _ _ ⟨Bo, cb, o, rfl, rfl, hol, hoi, hoe⟩
    refine pu rfl rfl rfl rfl rfl ?_
    rw [hxd] at hoe
    have how := wordZ_eq hgd (by omega) hoi hoe
    subst how
    exact tr_ret ⟨trivial, _, _, rfl, ⟨_, rfl, Bo, cb, rfl, rfl⟩, cs _ _, trivial, trivial⟩
theorem ref_Dist_ent : Enters Tryz.prog 16 := enters_of Tryz.func16 (by kernel_rfl) (by kernel_rfl)
theorem ref_Dist (p m : Int) (A : Option Addr) (c : Nat) (mod : List Int) [hF : IsF p m mod] (w : Int) (Aa : Option Addr) (n ca : Nat) (rs : List RowM) (hn : n = rs.length) (h9 : rs.length ≤ 256) (hc : CodeOk p m mod w rs) :
    Pure Tryz.prog 16 #[.agg #[.int .i64 p, .int .i64 m, .slice A mod.length c, .int .i64 w, .slice Aa n ca], .int .i64 1024] [ro A (ints mod), ro Aa (hdrs rs), rowsR rs] (isV (.int .i64 (disI p m mod w.toNat rs 1024))) := by
  have hl9 := hF.short
  have hn1 := hc.n1
  have hn64 := hc.n64
  have hlen := hc.len
  have hgd := hc.good
  have h8 := hgd.h8 (N := 17592186044415) (by omega)
  have hck := hc.zero
  have hq2 := hF.q2
  have hcnt : cntC (pw p m) rs.length 1024 = 0 ∨ (cntC (pw p m) rs.length 1024 = pw p m ^ rs.length ∧ 1 ≤ cntC (pw p m) rs.length 1024 ∧ cntC (pw p m) rs.length 1024 ≤ 1024) := by
    have hpos : 0 < pw p m ^ rs.length := Int.pow_pos (by omega)
    unfold cntC
    split
    · rename_i h; exact .inr ⟨rfl, by omega, by omega⟩
    · exact .inl rfl
  refine pure_of (args := [.agg #[.int .i64 p, .int .i64 m, .slice A mod.length c, .int .i64 w, .slice Aa n ca], .int .i64 1024]) 32 Tryz.func16 rfl rfl rfl ref_Dist_ent ⟨id, id, id, trivial⟩ (fun w0 => ?_)
  refine tr_seq ?_
  refine tr_region fun _ _ _ => ?_
  refine ef rfl rfl (eBox rfl rfl rfl rfl rfl (fun p0 => ?_)) 
  refine pu rfl rfl rfl rfl rfl ?_
  refine tr_seq ?_
  refine tr_region fun _ _ _ => ?_
  refine st rfl rfl rfl rfl (rLdS rfl rfl rfl) ?_
  refine pu rfl rfl rfl rfl rfl ?_
  refine ef rfl rfl (eCallV rfl rfl rfl (ref_CCount p m A c mod w Aa n ca rs hn h9 hc 1024) ⟨rfl, rfl, trivial⟩ ?_) 
  refine pu rfl rfl rfl rfl rfl ?_
  refine tr_seq ?_
  refine tr_seq ?_
  refine tr_region fun _ _ _ => ?_
  iterate 2 refine pu rfl rfl rfl rfl rfl ?_
  refine tr_cond_bool rfl (fun h2 => ?_) (fun h2 => ?_)
  · try simp only [zbA] at h2
    refine tr_seq ?_
    refine tr_region fun _ _ _ => ?_
    refine pu rfl rfl rfl rfl rfl ?_
    exact tr_ret ⟨trivial, _, _, rfl, ⟨by unfold disI; rw [if_pos h2], rfl⟩, CSub.nil _, trivial⟩
  · try simp only [zbA] at h2
    refine tr_skip ?_
    refine tr_seq ?_
    refine tr_region fun _ _ _ => ?_
    refine pu rfl rfl rfl rfl rfl ?_
    refine tr_seq ?_
    refine tr_seq ?_
    refine tr_region fun _ _ _ => ?_
    refine pu rfl rfl rfl rfl rfl ?_
    refine tr_block ?_
    refine tr_loop2 (fun (z : Int) (o : Int) => [(7, .int .i64 z), (6, .int .i64 o), (5, .int .i64 (cntC (pw p m) rs.length 1024)), (2, .pointer (some p0)), (4, .int .i64 0)]) (fun (z : Int) (o : Int) => [blk p0 27 [.int .i64 p, .int .i64 m, .slice A mod.length c, .int .i64 w, .slice Aa n ca], ro A (ints mod), ro Aa (hdrs rs), rowsR rs]) (fun (z : Int) (o : Int) => (1 ≤ z ∧ z ≤ cntC (pw p m) rs.length 1024) ∧ o = disT p m mod w.toNat rs (z - 1).toNat) (fun (z : Int) (o : Int) => (cntC (pw p m) rs.length 1024 - z).toNat) (1) (0) ⟨rfl, rfl, rfl, rfl, rfl, trivial⟩ (by first | exact cs _ _ | exact CSub.refl _) (⟨⟨by omega, by omega⟩, rfl⟩) (fun z o hI => ?_)
    obtain ⟨⟨hz0, hz1⟩, ho⟩ := hI
    have hzs : disT p m mod w.toNat rs z.toNat = if disT p m mod w.toNat rs (z - 1).toNat = 0 ∨ (wtL (wordZ p m mod w.toNat rs z) : Int) < disT p m mod w.toNat rs (z - 1).toNat then (wtL (wordZ p m mod w.toNat rs z) : Int) else disT p m mod w.toNat rs (z - 1).toNat := by
      obtain ⟨k, rfl⟩ : ∃ k : Nat, z = (k : Int) + 1 := ⟨(z - 1).toNat, by omega⟩
      rw [show ((k : Int) + 1).toNat = k + 1 by omega, show ((k : Int) + 1 - 1).toNat = k by omega]; rfl
    rw [← ho] at hzs
    refine tr_seq ?_
    refine tr_seq ?_
    refine tr_region fun _ _ _ => ?_
    iterate 3 refine pu rfl rfl rfl rfl rfl ?_
    refine tr_cond_bool rfl (fun h6 => ?_) (fun h6 => ?_)
    · try simp only [zbA] at h6
      refine tr_skip ?_
      refine tr_seq ?_
      refine tr_block ?_
      refine tr_seq ?_
      refine tr_region fun _ _ _ => ?_
      refine st rfl rfl rfl rfl (rLdS rfl rfl rfl) ?_
      refine pu rfl rfl rfl rfl rfl ?_
      refine ef rfl rfl (eCall1 rfl rfl rfl (ref_CAt p m A c mod w Aa n ca rs hn h9 hc z (by omega) (by omega)) ⟨rfl, rfl, trivial⟩ ?_) 
      rintro _ _ ⟨B8, cb8, rfl, rfl⟩
      refine ef rfl rfl (eCallV rfl rfl rfl (ref_Weight B8 _ cb8 (wordZ p m mod w.toNat rs z) rfl (by rw [wordZ_length]; omega)) ⟨rfl, trivial⟩ ?_) 
      refine pu rfl rfl rfl rfl rfl ?_
      refine tr_seq ?_
      refine tr_region fun _ _ _ => ?_
      iterate 3 refine pu rfl rfl rfl rfl rfl ?_
      refine stg rfl rfl rfl rfl rfl (fun hb => by (have hq := hb; try simp only [zbA] at hq); exact rMove rfl rfl) ?_
      refine stg rfl rfl rfl rfl rfl (fun hb => by (have hq := hb; try simp only [zbA] at hq); exact rMove rfl rfl) ?_
      refine stg rfl rfl rfl rfl rfl (fun hb => by (have hq := hb; try simp only [zbA] at hq); exact rLss rfl (evg rfl hb) (evg rfl hb)) ?_
      refine st rfl rfl rfl rfl (rOrB rfl rfl rfl rfl) ?_
      refine tr_cond_bool rfl (fun h9 => ?_) (fun h9 => ?_)
      · try simp only [zbA] at h9
        refine tr_region fun _ _ _ => ?_
        iterate 2 refine pu rfl rfl rfl rfl rfl ?_
        refine tr_region fun _ _ _ => ?_
        refine pu rfl rfl rfl rfl rfl ?_
        refine st rfl rfl rfl rfl (rAdd rfl rfl rfl (by omega) (by omega)) ?_
        refine pu rfl rfl rfl rfl rfl ?_
        refine ⟨z + 1, (wtL (wordZ p m mod w.toNat rs z) : Int), ⟨rfl, rfl, rfl, rfl, rfl, trivial⟩, by first | exact cs _ _ | exact CSub.refl _, ?_⟩
        exact ⟨⟨⟨by omega, by omega⟩, by rw [show (z + 1 - 1).toNat = z.toNat by omega, hzs, if_pos h9]⟩, by omega⟩
      · try simp only [zbA] at h9
        refine tr_skip ?_
        refine tr_region fun _ _ _ => ?_
        refine pu rfl rfl rfl rfl rfl ?_
        refine st rfl rfl rfl rfl (rAdd rfl rfl rfl (by omega) (by omega)) ?_
        refine pu rfl rfl rfl rfl rfl ?_
        refine ⟨z + 1, o, ⟨rfl, rfl, rfl, rfl, rfl, trivial⟩, by first | exact cs _ _ | exact CSub.refl _, ?_⟩
        exact ⟨⟨⟨by omega, by omega⟩, by rw [show (z + 1 - 1).toNat = z.toNat by omega, hzs, if_neg (by omega)]⟩, by omega⟩
    · try simp only [zbA] at h6
      refine tr_exit ?_
      refine tr_seq ?_
      refine tr_region fun _ _ _ => ?_
      iterate 2 refine pu rfl rfl rfl rfl rfl ?_
      have hzc : z = cntC (pw p m) rs.length 1024 := by omega
      have hfin : o = disI p m mod w.toNat rs 1024 := by unfold disI; rw [if_neg (by omega), ho, hzc]
      exact tr_ret ⟨trivial, _, _, rfl, ⟨by rw [hfin], rfl⟩, CSub.nil _, trivial⟩
theorem law42_readyE_ent : Enters Tryz.prog 15 := enters_of Tryz.func15 (by kernel_rfl) (by kernel_rfl)
theorem law42_readyE (p m : Int) (A : Option Addr) (c : Nat) (mod : List Int) (hl9 : mod.length ≤ 17592186044415) (w : Int) (Aa : Option Addr) (n ca : Nat) (rs : List RowM) (hn : n = rs.length) (h9 : rs.length ≤ 17592186044415) (h8 : ∀ r ∈ rs, r.xs.length ≤ 17592186044415) (T : Option Addr) (nt ct : Nat) (ts : List RowM) (hnt : nt = ts.length) (t9 : ts.length ≤ 17592186044415) (t8 : ∀ r ∈ ts, r.xs.length ≤ 17592186044415) (most : Int) (he : codC p m mod w rs ≠ 0) :
    Pure Tryz.prog 15 #[.agg #[.int .i64 p, .int .i64 m, .slice A mod.length c, .int .i64 w, .slice Aa n ca], .slice T nt ct, .int .i64 most] [ro A (ints mod), ro Aa (hdrs rs), rowsR rs, ro T (hdrs ts), rowsR ts] (isV (.bool false)) := by
  refine pure_of (args := [.agg #[.int .i64 p, .int .i64 m, .slice A mod.length c, .int .i64 w, .slice Aa n ca], .slice T nt ct, .int .i64 most]) 21 Tryz.func15 rfl rfl rfl law42_readyE_ent ⟨id, id, id, id, id, trivial⟩ (fun w0 => ?_)
  refine tr_seq ?_
  refine tr_region fun _ _ _ => ?_
  refine ef rfl rfl (eBox rfl rfl rfl rfl rfl (fun p0 => ?_)) 
  refine pu rfl rfl rfl rfl rfl ?_
  refine tr_seq ?_
  refine tr_region fun _ _ _ => ?_
  refine st rfl rfl rfl rfl (rLdS rfl rfl rfl) ?_
  refine ef rfl rfl (eCall0 rfl rfl rfl (law42_fewC p m A c mod hl9 w Aa n ca rs hn h9 h8) ⟨rfl, trivial⟩ ?_) 
  rintro _ ⟨b, rfl, hb⟩
  refine pu rfl rfl rfl rfl rfl ?_
  refine stg rfl rfl rfl rfl rfl (fun hb => by (have hq := hb; try simp only [zbA] at hq); exact rLdS rfl rfl rfl) ?_
  refine stg rfl rfl rfl rfl rfl (fun hb => by (have hq := hb; try simp only [zbA] at hq); exact rMove rfl rfl) ?_
  refine efg rfl rfl rfl rfl rfl (fun hb => by (have hq := hb; try simp only [zbA] at hq); exact eCallV rfl rfl rfl (ref_OCheckE p m A c mod hl9 w Aa n ca rs hn h9 h8 he T nt ct ts hnt t9 t8) ⟨(evg rfl hb), (evg rfl hb), trivial⟩ ⟨rfl, rfl⟩) ?_
  refine stg rfl rfl rfl rfl rfl (fun hb => by (have hq := hb; try simp only [zbA] at hq); exact rEql rfl (evg rfl hb) rfl) ?_
  refine st rfl rfl rfl rfl (rAndB rfl rfl rfl rfl) ?_
  refine pu rfl rfl rfl rfl rfl ?_
  refine skF rfl rfl (by simp [he]) rfl rfl ?_
  refine skF rfl rfl (by simp [he]) rfl rfl ?_
  refine skF rfl rfl (by simp [he]) rfl rfl ?_
  refine skF rfl rfl (by simp [he]) rfl rfl ?_
  refine st rfl rfl rfl rfl (rPick0 rfl rfl (by simp [he]) rfl) ?_
  refine pu rfl rfl rfl rfl rfl ?_
  exact tr_ret ⟨trivial, _, _, rfl, ⟨by simp [he], rfl⟩, CSub.nil _, trivial⟩
theorem law42_readyR_ent : Enters Tryz.prog 15 := enters_of Tryz.func15 (by kernel_rfl) (by kernel_rfl)
theorem law42_readyR (p m : Int) (A : Option Addr) (c : Nat) (mod : List Int) [hF : IsF p m mod] (w : Int) (Aa : Option Addr) (n ca : Nat) (rs : List RowM) (hn : n = rs.length) (h9 : rs.length ≤ 256) (hc : CodeOk p m mod w rs) (hl9 : mod.length ≤ 17592186044415) (h9b : rs.length ≤ 17592186044415) (h8 : ∀ r ∈ rs, r.xs.length ≤ 17592186044415) (T : Option Addr) (nt ct : Nat) (ts : List RowM) (hnt : nt = ts.length) (t9 : ts.length ≤ 17592186044415) (t8 : ∀ r ∈ ts, r.xs.length ≤ 17592186044415) (most : Int) (ho : ordC (pw p m) w (xss ts) ≠ 0) :
    Pure Tryz.prog 15 #[.agg #[.int .i64 p, .int .i64 m, .slice A mod.length c, .int .i64 w, .slice Aa n ca], .slice T nt ct, .int .i64 most] [ro A (ints mod), ro Aa (hdrs rs), rowsR rs, ro T (hdrs ts), rowsR ts] (isV (.bool false)) := by
  have h9c := h9
  refine pure_of (args := [.agg #[.int .i64 p, .int .i64 m, .slice A mod.length c, .int .i64 w, .slice Aa n ca], .slice T nt ct, .int .i64 most]) 21 Tryz.func15 rfl rfl rfl law42_readyR_ent ⟨id, id, id, id, id, trivial⟩ (fun w0 => ?_)
  refine tr_seq ?_
  refine tr_region fun _ _ _ => ?_
  refine ef rfl rfl (eBox rfl rfl rfl rfl rfl (fun p0 => ?_)) 
  refine pu rfl rfl rfl rfl rfl ?_
  refine tr_seq ?_
  refine tr_region fun _ _ _ => ?_
  refine st rfl rfl rfl rfl (rLdS rfl rfl rfl) ?_
  refine ef rfl rfl (eCall0 rfl rfl rfl (law42_fewC p m A c mod hl9 w Aa n ca rs hn h9b h8) ⟨rfl, trivial⟩ ?_) 
  rintro _ ⟨b, rfl, hb⟩
  refine pu rfl rfl rfl rfl rfl ?_
  refine stg rfl rfl rfl rfl rfl (fun hb => by (have hq := hb; try simp only [zbA] at hq); exact rLdS rfl rfl rfl) ?_
  refine stg rfl rfl rfl rfl rfl (fun hb => by (have hq := hb; try simp only [zbA] at hq); exact rMove rfl rfl) ?_
  refine efg rfl rfl rfl rfl rfl (fun hb => by (have hq := hb; try simp only [zbA] at hq); exact eCallV rfl rfl rfl (ref_OCheck p m A c mod w Aa n ca rs hn h9c hc T nt ct ts hnt t9 t8) ⟨(evg rfl hb), (evg rfl hb), trivial⟩ ⟨rfl, rfl⟩) ?_
  refine stg rfl rfl rfl rfl rfl (fun hb => by (have hq := hb; try simp only [zbA] at hq); exact rEql rfl (evg rfl hb) rfl) ?_
  refine st rfl rfl rfl rfl (rAndB rfl rfl rfl rfl) ?_
  refine pu rfl rfl rfl rfl rfl ?_
  refine skF rfl rfl (by simp [ho]) rfl rfl ?_
  refine skF rfl rfl (by simp [ho]) rfl rfl ?_
  refine skF rfl rfl (by simp [ho]) rfl rfl ?_
  refine skF rfl rfl (by simp [ho]) rfl rfl ?_
  refine st rfl rfl rfl rfl (rPick0 rfl rfl (by simp [ho]) rfl) ?_
  refine pu rfl rfl rfl rfl rfl ?_
  exact tr_ret ⟨trivial, _, _, rfl, ⟨by simp [ho], rfl⟩, CSub.nil _, trivial⟩
theorem law42_readyG_ent : Enters Tryz.prog 15 := enters_of Tryz.func15 (by kernel_rfl) (by kernel_rfl)
theorem law42_readyG (p m : Int) (A : Option Addr) (c : Nat) (mod : List Int) [hF : IsF p m mod] (w : Int) (Aa : Option Addr) (n ca : Nat) (rs : List RowM) (hn : n = rs.length) (h9 : rs.length ≤ 256) (hc : CodeOk p m mod w rs) (hl9 : mod.length ≤ 17592186044415) (h9b : rs.length ≤ 17592186044415) (h8 : ∀ r ∈ rs, r.xs.length ≤ 17592186044415) (T : Option Addr) (nt ct : Nat) (ts : List RowM) (hnt : nt = ts.length) (t9 : ts.length ≤ 17592186044415) (t8 : ∀ r ∈ ts, r.xs.length ≤ 17592186044415) (most : Int) (ho : ordC (pw p m) w (xss ts) = 0) :
    Pure Tryz.prog 15 #[.agg #[.int .i64 p, .int .i64 m, .slice A mod.length c, .int .i64 w, .slice Aa n ca], .slice T nt ct, .int .i64 most] [ro A (ints mod), ro Aa (hdrs rs), rowsR rs, ro T (hdrs ts), rowsR ts] (val (fun v => ∃ b : Bool, v = .bool b ∧ (b = true → 0 < cntC (pw p m) rs.length most))) := by
  have h9c := h9
  refine pure_of (args := [.agg #[.int .i64 p, .int .i64 m, .slice A mod.length c, .int .i64 w, .slice Aa n ca], .slice T nt ct, .int .i64 most]) 21 Tryz.func15 rfl rfl rfl law42_readyG_ent ⟨id, id, id, id, id, trivial⟩ (fun w0 => ?_)
  refine tr_seq ?_
  refine tr_region fun _ _ _ => ?_
  refine ef rfl rfl (eBox rfl rfl rfl rfl rfl (fun p0 => ?_)) 
  refine pu rfl rfl rfl rfl rfl ?_
  refine tr_seq ?_
  refine tr_region fun _ _ _ => ?_
  refine st rfl rfl rfl rfl (rLdS rfl rfl rfl) ?_
  refine ef rfl rfl (eCall0 rfl rfl rfl (law42_fewC p m A c mod hl9 w Aa n ca rs hn h9b h8) ⟨rfl, trivial⟩ ?_) 
  rintro _ ⟨b, rfl, hb⟩
  refine pu rfl rfl rfl rfl rfl ?_
  refine stg rfl rfl rfl rfl rfl (fun hb => by (have hq := hb; try simp only [zbA] at hq); exact rLdS rfl rfl rfl) ?_
  refine stg rfl rfl rfl rfl rfl (fun hb => by (have hq := hb; try simp only [zbA] at hq); exact rMove rfl rfl) ?_
  refine efg rfl rfl rfl rfl rfl (fun hb => by (have hq := hb; try simp only [zbA] at hq); exact eCallV rfl rfl rfl (ref_OCheck p m A c mod w Aa n ca rs hn h9c hc T nt ct ts hnt t9 t8) ⟨(evg rfl hb), (evg rfl hb), trivial⟩ ⟨rfl, rfl⟩) ?_
  refine stg rfl rfl rfl rfl rfl (fun hb => by (have hq := hb; try simp only [zbA] at hq); exact rEql rfl (evg rfl hb) rfl) ?_
  refine st rfl rfl rfl rfl (rAndB rfl rfl rfl rfl) ?_
  refine pu rfl rfl rfl rfl rfl ?_
  refine stg rfl rfl rfl rfl rfl (fun hb => by (have hq := hb; try simp only [zbA] at hq); exact rLdS rfl rfl rfl) ?_
  refine stg rfl rfl rfl rfl rfl (fun hb => by (have hq := hb; try simp only [zbA] at hq); exact rMove rfl rfl) ?_
  refine efg rfl rfl rfl rfl rfl (fun hb => by (have hq := hb; try simp only [zbA] at hq); exact eCallV rfl rfl rfl (ref_CCount p m A c mod w Aa n ca rs hn h9c hc most) ⟨(evg rfl hb), (evg rfl hb), trivial⟩ ⟨rfl, rfl⟩) ?_
  refine stg rfl rfl rfl rfl rfl (fun hb => by (have hq := hb; try simp only [zbA] at hq); exact rGtr rfl (evg rfl hb) rfl) ?_
  refine st rfl rfl rfl rfl (rAndB rfl rfl rfl rfl) ?_
  refine pu rfl rfl rfl rfl rfl ?_
  exact tr_ret ⟨trivial, _, _, rfl, ⟨rfl, _, rfl, fun h => by simp at h; exact h.2⟩, CSub.nil _, trivial⟩
end Go.Proofs.YtoalphamojhpcaaGreat

set_option linter.unusedSimpArgs false
set_option linter.unusedVariables false
set_option maxRecDepth 100000
namespace Go.Proofs.YtoalphamojhpcaaGreat
open Go.RowKit
def hamR (q a : Int) : List Int := (List.range q.toNat).map fun (j : Nat) => if (j : Int) = a then 0 else 1
theorem hamR_length (q a : Int) : (hamR q a).length = q.toNat := by simp [hamR]
theorem hamR_getD {q a : Int} {j : Nat} (h : j < q.toNat) : (hamR q a).getD j 0 = if (j : Int) = a then 0 else 1 := by
  unfold hamR
  rw [List.getD_eq_getElem?_getD, List.getElem?_map, List.getElem?_range h]; rfl
theorem hamR_ok {q a : Int} (hq : 0 ≤ q) : RowOk q (hamR q a) := ⟨by rw [hamR_length]; omega, fun x hx => by
  obtain ⟨j, _, rfl⟩ := List.mem_map.1 hx
  split <;> omega⟩
def HamOf (q w : Int) (l : List Int) (hs : List RowM) : Prop := xss hs = (List.range w.toNat).map fun j => hamR q (l.getD j 0)
theorem HamOf.length {q w : Int} {l : List Int} {hs : List RowM} (h : HamOf q w l hs) : hs.length = w.toNat := by
  have := congrArg List.length h
  simpa using this
theorem HamOf.row {q w : Int} {l : List Int} {hs : List RowM} (h : HamOf q w l hs) {j : Nat} (hj : j < w.toNat) : (hs.getD j rowD).xs = hamR q (l.getD j 0) := by
  rw [← xss_getD, h, List.getD_eq_getElem?_getD, List.getElem?_map, List.getElem?_range hj]; rfl
theorem HamOf.tab {q w : Int} (hq : 0 ≤ q) (hw : 0 ≤ w) {l : List Int} {hs : List RowM} (h : HamOf q w l hs) : TabOk q w hs := ⟨by have := h.length; omega, fun r hr => by
  obtain ⟨j, hj, rfl⟩ := List.getElem_of_mem hr
  have h1 := h.row (j := j) (by have := h.length; omega)
  rw [List.getD_eq_getElem?_getD, List.getElem?_eq_getElem hj] at h1
  have h2 : hs[j].xs = hamR q (l.getD j 0) := h1
  rw [h2]; exact hamR_ok hq⟩
theorem ham_cost {q w : Int} {l : List Int} {hs : List RowM} (h : HamOf q w l hs) {y : List Int} (hy : AllIn q y) (hq : 1 ≤ q) : ∀ k : Nat, k ≤ w.toNat → cstT (xss hs) y k = (dfT l y k : Int)
  | 0, _ => rfl
  | k + 1, hk => by
    have ih := ham_cost h hy hq k (by omega)
    have hyk := hy.get hq k
    rw [cstT_succ, ih, h.row (show k < w.toNat by omega), hamR_getD (by omega), dfT]
    by_cases e : l.getD k 0 = y.getD k 0
    · rw [if_pos (by omega), if_neg (fun h => h e)]; simp
    · rw [if_neg (by omega), if_pos e]; simp
theorem dfT_self (l : List Int) : ∀ k, dfT l l k = 0
  | 0 => rfl
  | k + 1 => by rw [dfT, dfT_self l k, if_neg (fun h => h rfl)]
theorem ham_cert {q w : Int} (hq : 2 ≤ q) (hw : 0 ≤ w) {l : List Int} {hs : List RowM} (h : HamOf q w l hs) (hl : l.length = w.toNat) (hin : AllIn q l) (d : Int) : cerB hs l d = true := by
  have ht := h.tab (by omega) hw
  have hlen := h.length
  have h1 : cstL (xss hs) l = 0 := by
    show cstT (xss hs) l l.length = 0
    rw [hl, ham_cost h hin (by omega) _ (Nat.le_refl _), dfT_self]; rfl
  have h2 := (cstT_bd ht.row (hardL hs) (hardL hs).length (by rw [hardL_length]; exact Nat.le_refl _)).1
  have h3 := (sum_bd (l := (sortI (othT hs l hs.length)).take (cerK hs l d)) fun x hx => othT_bd ht.row hq l _ x ((sortI_perm _).mem_iff.1 (List.mem_of_mem_take hx))).1
  refine decide_eq_true ?_
  have e : cstL (xss hs) (hardL hs) = cstT (xss hs) (hardL hs) (hardL hs).length := rfl
  have e2 : cerS hs l d = ((sortI (othT hs l hs.length)).take (cerK hs l d)).sum := rfl
  omega
theorem law42_ham_ent : Enters Tryz.prog 17 := enters_of Tryz.func17 (by kernel_rfl) (by kernel_rfl)
theorem law42_ham (p m : Int) (A : Option Addr) (c : Nat) (mod : List Int) [hF : IsF p m mod] (w : Int) (Aa : Option Addr) (n ca : Nat) (rs : List RowM) (hn : n = rs.length) (h9 : rs.length ≤ 256) (hc : CodeOk p m mod w rs) (X : Option Addr) (nx cx : Nat) (l : List Int) (hnx : nx = l.length) (hlw : (l.length : Int) = w) (hin : AllIn (pw p m) l) :
    Pure Tryz.prog 17 #[.agg #[.int .i64 p, .int .i64 m, .slice A mod.length c, .int .i64 w, .slice Aa n ca], .slice X nx cx] [ro A (ints mod), ro Aa (hdrs rs), rowsR rs, ro X (ints l)] (two (fun v ca cb => ∃ B cb2 hs, v = .slice B hs.length cb2 ∧ ca = ow B 22 cb2 (hdrs hs) ∧ cb = rowsCh 3 hs ∧ HamOf (pw p m) w l hs)) := by
  have hl9 := hF.short
  have hn1 := hc.n1
  have hn64 := hc.n64
  have hlen := hc.len
  have hgd := hc.good
  have h8 := hgd.h8 (N := 17592186044415) (by omega)
  have hck := hc.zero
  have hq2 := hF.q2
  have hord := hF.ord
  have hq256 := hF.out.1.1.q
  refine pure_of (args := [.agg #[.int .i64 p, .int .i64 m, .slice A mod.length c, .int .i64 w, .slice Aa n ca], .slice X nx cx]) 48 Tryz.func17 rfl rfl rfl law42_ham_ent ⟨id, id, id, id, trivial⟩ (fun w0 => ?_)
  refine tr_seq ?_
  refine tr_region fun _ _ _ => ?_
  refine ef rfl rfl (eBox rfl rfl rfl rfl rfl (fun p0 => ?_)) 
  refine pu rfl rfl rfl rfl rfl ?_
  refine tr_seq ?_
  refine tr_region fun _ _ _ => ?_
  refine pu rfl rfl rfl rfl rfl ?_
  refine tr_seq ?_
  refine tr_seq ?_
  refine tr_region fun _ _ _ => ?_
  refine pu rfl rfl rfl rfl rfl ?_
  refine tr_block ?_
  refine tr_nilR 22 3 ?_
  refine tr_loop4 (fun (i : Int) (AQ : Option Addr) (cq : Nat) (hs : List RowM) => [(5, .slice AQ hs.length cq), (6, .int .i64 i), (1, .slice X nx cx), (2, .pointer (some p0)), (4, .slice none 0 0)]) (fun (i : Int) (AQ : Option Addr) (cq : Nat) (hs : List RowM) => [ow AQ 22 cq (hdrs hs), rowsCh 3 hs, blk p0 27 [.int .i64 p, .int .i64 m, .slice A mod.length c, .int .i64 w, .slice Aa n ca], ro A (ints mod), ro Aa (hdrs rs), rowsR rs, ro X (ints l)]) (fun (i : Int) (AQ : Option Addr) (cq : Nat) (hs : List RowM) => (0 ≤ i ∧ i ≤ w) ∧ xss hs = (List.range i.toNat).map fun j => hamR (pw p m) (l.getD j 0)) (fun (i : Int) (AQ : Option Addr) (cq : Nat) (hs : List RowM) => (w - i).toNat) (0) (none) (0) ([]) ⟨rfl, rfl, rfl, rfl, rfl, trivial⟩ (by first | exact cs _ _ | exact CSub.refl _) (⟨⟨by omega, by omega⟩, rfl⟩) (fun i AQ cq hs hI => ?_)
  obtain ⟨⟨hi0, hi1⟩, hhs⟩ := hI
  have hhl : hs.length = i.toNat := by have := congrArg List.length hhs; simpa using this
  refine tr_seq ?_
  refine tr_seq ?_
  refine tr_region fun _ _ _ => ?_
  refine pu rfl rfl rfl rfl rfl ?_
  refine st rfl rfl rfl rfl (rFld rfl rfl) ?_
  refine st rfl rfl rfl rfl (rLdF rfl rfl rfl) ?_
  refine pu rfl rfl rfl rfl rfl ?_
  refine tr_cond_bool rfl (fun h3 => ?_) (fun h3 => ?_)
  · try simp only [zbA] at h3
    refine tr_skip ?_
    refine tr_seq ?_
    refine tr_block ?_
    refine tr_seq ?_
    refine tr_region fun _ _ _ => ?_
    refine st rfl rfl rfl rfl (rFld rfl rfl) ?_
    refine st rfl rfl rfl rfl (rLdSF rfl rfl) ?_
    refine ef rfl rfl (eCallV rfl rfl rfl (ref_order p m A c mod) ⟨rfl, trivial⟩ ?_) 
    rw [hord]
    refine ef rfl rfl (eMakeI rfl rfl rfl rfl rfl (by omega) (by omega) (by omega) (fun A5a => ?_)) 
    refine pu rfl rfl rfl rfl rfl ?_
    refine tr_seq ?_
    refine tr_seq ?_
    refine tr_region fun _ _ _ => ?_
    refine pu rfl rfl rfl rfl rfl ?_
    refine tr_block ?_
    refine tr_loop2 (fun (j : Int) (y : List Int) => [(7, .slice A5a (pw p m).toNat (pw p m).toNat), (8, .int .i64 j), (1, .slice X nx cx), (2, .pointer (some p0)), (4, .slice none 0 0), (5, .slice AQ hs.length cq), (6, .int .i64 i), (9, .int .i64 i), (11, .int .i64 w), (16, .agg #[.int .i64 p, .int .i64 m, .slice A mod.length c]), (18, .slice A5a (pw p m).toNat (pw p m).toNat)]) (fun (j : Int) (y : List Int) => [ow A5a 3 (pw p m).toNat (ints y), ow AQ 22 cq (hdrs hs), rowsCh 3 hs, blk p0 27 [.int .i64 p, .int .i64 m, .slice A mod.length c, .int .i64 w, .slice Aa n ca], ro A (ints mod), ro Aa (hdrs rs), rowsR rs, ro X (ints l)]) (fun (j : Int) (y : List Int) => (0 ≤ j ∧ j ≤ pw p m) ∧ y.length = (pw p m).toNat ∧ (∀ z : Nat, (z : Int) < j → y.getD z 0 = if (z : Int) = l.getD i.toNat 0 then 0 else 1) ∧ ∀ z : Nat, j ≤ z → y.getD z 0 = 0) (fun (j : Int) (y : List Int) => (pw p m - j).toNat) (0) (List.replicate (pw p m).toNat 0) ⟨rfl, rfl, rfl, rfl, rfl, rfl, rfl, rfl, rfl, rfl, rfl, trivial⟩ (by first | exact cs _ _ | exact CSub.refl _) (⟨⟨by omega, by omega⟩, by simp, fun z hz => by omega, fun z _ => by rw [List.getD_eq_getElem?_getD, List.getElem?_replicate]; split <;> rfl⟩) (fun j y hI => ?_)
    obtain ⟨⟨hj0, hj1⟩, hyl, hy1, hy2⟩ := hI
    refine tr_seq ?_
    refine tr_seq ?_
    refine tr_region fun _ _ _ => ?_
    iterate 2 refine pu rfl rfl rfl rfl rfl ?_
    refine st rfl rfl rfl rfl (rLen rfl rfl) ?_
    refine pu rfl rfl rfl rfl rfl ?_
    refine tr_cond_bool rfl (fun h7 => ?_) (fun h7 => ?_)
    · try simp only [zbA] at h7
      refine tr_skip ?_
      refine tr_seq ?_
      refine tr_block ?_
      refine tr_seq ?_
      have hli := hin.get (by omega) i.toNat
      refine tr_draw [0, 1, 2, 3, 4, 5, 6, 7, 8, 9, 10, 11, 12, 13, 14] [] mixed (by kernel_rfl) fun _ _ _ => ?_
      iterate 2 refine pu rfl rfl rfl rfl rfl ?_
      refine st rfl rfl rfl rfl (rLen rfl rfl) ?_
      iterate 2 refine pu rfl rfl rfl rfl rfl ?_
      refine stg rfl rfl rfl rfl rfl (fun hb => by (have hq := hb; try simp only [zbA] at hq); exact rMove rfl rfl) ?_
      refine stg rfl rfl rfl rfl rfl (fun hb => by (have hq := hb; try simp only [zbA] at hq); exact rFld rfl rfl) ?_
      refine stg rfl rfl rfl rfl rfl (fun hb => by (have hq := hb; try simp only [zbA] at hq); exact rLdSF rfl (evg rfl hb)) ?_
      refine stg rfl rfl rfl rfl rfl (fun hb => by (have hq := hb; try simp only [zbA] at hq); exact rMove rfl rfl) ?_
      refine stg rfl rfl rfl rfl rfl (fun hb => by (have hq := hb; try simp only [zbA] at hq); exact rMove rfl rfl) ?_
      refine stg rfl rfl rfl rfl rfl (fun hb => by (have hq := hb; try simp only [zbA] at hq); exact rIdxI rfl (evg rfl hb) (evg rfl hb) (by omega) (by omega) (by omega)) ?_
      refine stg rfl rfl rfl rfl rfl (fun hb => by (have hq := hb; try simp only [zbA] at hq); exact rLdI rfl (evg rfl hb) (by omega)) ?_
      refine efg rfl rfl rfl rfl rfl (fun hb => by (have hq := hb; try simp only [zbA] at hq); exact eCallV rfl rfl rfl (ref_In p m A c mod (l.getD i.toNat 0)) ⟨(evg rfl hb), (evg rfl hb), trivial⟩ ⟨rfl, rfl⟩) ?_
      refine stg rfl rfl rfl rfl rfl (fun hb => by (have hq := hb; try simp only [zbA] at hq); exact rNeq rfl (evg rfl hb) (evg rfl hb)) ?_
      refine st rfl rfl rfl rfl (rOrB rfl rfl rfl rfl) ?_
      refine tr_cond_bool rfl (fun h9 => ?_) (fun h9 => ?_)
      · try simp only [zbA] at h9
        refine tr_region fun _ _ _ => ?_
        iterate 2 refine pu rfl rfl rfl rfl rfl ?_
        refine st rfl rfl rfl rfl (rIdxI rfl rfl rfl (by omega) (by omega) (by omega)) ?_
        refine ef rfl rfl (eStI rfl rfl rfl rfl (by omega) ?_) 
        refine tr_region fun _ _ _ => ?_
        refine pu rfl rfl rfl rfl rfl ?_
        refine st rfl rfl rfl rfl (rAdd rfl rfl rfl (by omega) (by omega)) ?_
        refine pu rfl rfl rfl rfl rfl ?_
        refine ⟨j + 1, y.set j.toNat 1, ⟨rfl, rfl, rfl, rfl, rfl, rfl, rfl, rfl, rfl, rfl, rfl, trivial⟩, by first | exact cs _ _ | exact CSub.refl _, ?_⟩
        rw [hord, inI_in hli.1 hli.2] at h9
        refine ⟨⟨⟨by omega, by omega⟩, by simpa using hyl, fun z hz => ?_, fun z hz => ?_⟩, by omega⟩
        · rw [getD_set]
          by_cases he : j.toNat = z
          · rw [if_pos ⟨he, by omega⟩, if_neg (by omega)]
          · rw [if_neg (fun h => he h.1)]; exact hy1 z (by omega)
        · rw [getD_set, if_neg (by omega)]; exact hy2 z (by omega)
      · try simp only [zbA] at h9
        refine tr_skip ?_
        refine tr_region fun _ _ _ => ?_
        refine pu rfl rfl rfl rfl rfl ?_
        refine st rfl rfl rfl rfl (rAdd rfl rfl rfl (by omega) (by omega)) ?_
        refine pu rfl rfl rfl rfl rfl ?_
        refine ⟨j + 1, y, ⟨rfl, rfl, rfl, rfl, rfl, rfl, rfl, rfl, rfl, rfl, rfl, trivial⟩, by first | exact cs _ _ | exact CSub.refl _, ?_⟩
        rw [hord, inI_in hli.1 hli.2] at h9
        refine ⟨⟨⟨by omega, by omega⟩, hyl, fun z hz => ?_, fun z hz => hy2 z (by omega)⟩, by omega⟩
        by_cases he : j.toNat = z
        · rw [if_pos (by omega)]; exact hy2 z (by omega)
        · exact hy1 z (by omega)
    · try simp only [zbA] at h7
      refine tr_exit ?_
      have hxf : y = hamR (pw p m) (l.getD i.toNat 0) := ext_getD (by rw [hamR_length]; omega) fun z => by
        by_cases hz : z < (pw p m).toNat
        · rw [hamR_getD hz]; exact hy1 z (by omega)
        · rw [getD_out (by omega), getD_out (by rw [hamR_length]; omega)]
      subst hxf
      refine tr_region fun _ _ _ => ?_
      iterate 2 refine pu rfl rfl rfl rfl rfl ?_
      refine ef rfl rfl (eLit1 rfl rfl rfl rfl rfl (fun A11 => ?_)) 
      refine ef rfl rfl (eAppRn (hamR (pw p m) (l.getD i.toNat 0)) (by rw [hamR_length]) rfl rfl rfl rfl rfl (by first | rfl | simp) (by omega) (fun A11a c11a => ?_)) 
      refine pu rfl rfl rfl rfl rfl ?_
      refine tr_region fun _ _ _ => ?_
      refine pu rfl rfl rfl rfl rfl ?_
      refine st rfl rfl rfl rfl (rAdd rfl rfl rfl (by omega) (by omega)) ?_
      refine pu rfl rfl rfl rfl rfl ?_
      refine ⟨i + 1, A11a, c11a, hs ++ [⟨A5a, (pw p m).toNat, hamR (pw p m) (l.getD i.toNat 0)⟩], ⟨rfl, rfl, rfl, rfl, rfl, trivial⟩, by exact rows_app, ?_⟩
      refine ⟨⟨⟨by omega, by omega⟩, ?_⟩, by omega⟩
      rw [show (i + 1).toNat = i.toNat + 1 by omega, List.range_succ, List.map_append, xss_snoc, hhs]; rfl
  · try simp only [zbA] at h3
    refine tr_exit ?_
    refine tr_seq ?_
    refine tr_region fun _ _ _ => ?_
    iterate 2 refine pu rfl rfl rfl rfl rfl ?_
    have hiw : i.toNat = w.toNat := by omega
    rw [hiw] at hhs
    exact tr_ret ⟨trivial, _, _, rfl, ⟨_, _, rfl, AQ, cq, hs, rfl, rfl, rfl, hhs⟩, cs _ _, trivial, trivial, trivial⟩
end Go.Proofs.YtoalphamojhpcaaGreat

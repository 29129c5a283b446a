/-
  ORDEREDNEAREST, PART 6 OF 10. One sentence: the texts behind the law OrderedNearest, put together.
  Conditions: each theorem's own, written out in it.
-/
import Derived.Test.YtoalphamojhpcaaGreatK5
set_option linter.unusedSimpArgs false
set_option linter.unusedVariables false
set_option linter.unusedSectionVars false
set_option linter.unusedSimpArgs false
set_option linter.unusedVariables false
set_option maxRecDepth 100000
namespace Go.Proofs.YtoalphamojhpcaaGreat
open Go.RowKit
def RowOk (q : Int) (r : List Int) : Prop := (r.length : Int) = q ∧ ∀ x ∈ r, 0 ≤ x ∧ x ≤ 2147483648
theorem ordR_ok {q : Int} : ∀ {tb : List (List Int)}, (∀ r ∈ tb, RowOk q r) → ordR q tb = 0
  | [], _ => rfl
  | r :: tb, h => by
    have h1 := h r (List.mem_cons_self ..)
    rw [ordR, if_neg (fun k => k h1.1), if_neg (fun ⟨x, hx, hb⟩ => by have := h1.2 x hx; omega)]
    exact ordR_ok fun s hs => h s (List.mem_cons_of_mem _ hs)
theorem ordR_bad {q : Int} : ∀ {tb : List (List Int)} {k : Nat}, k < tb.length → (∀ j, j < k → RowOk q (tb.getD j [])) → ¬ RowOk q (tb.getD k []) → ordR q tb = if ((tb.getD k []).length : Int) ≠ q then 3 else 6
  | r :: tb, 0, _, _, h => by
    rw [List.getD_cons_zero] at h ⊢
    rw [ordR]
    by_cases h1 : (r.length : Int) = q
    · have hn : ¬ ((r.length : Int) ≠ q) := fun k => k h1
      rw [if_neg hn, if_neg hn, if_pos]
      refine Classical.byContradiction fun hno => h ⟨h1, fun x hx => ?_⟩
      have : ¬ (x < 0 ∨ x > 2147483648) := fun hb => hno ⟨x, hx, hb⟩
      omega
    · rw [if_pos h1, if_pos h1]
  | r :: tb, k + 1, hk, hall, h => by
    have h1 := hall 0 (by omega)
    rw [List.getD_cons_zero] at h1
    rw [List.getD_cons_succ] at h ⊢
    rw [ordR, if_neg (fun k => k h1.1), if_neg (fun ⟨x, hx, hb⟩ => by have := h1.2 x hx; omega)]
    exact ordR_bad (by simpa using hk) (fun j hj => by
      have := hall (j + 1) (by omega)
      rwa [List.getD_cons_succ] at this) h
def ordC (q w : Int) (tb : List (List Int)) : Int := if (tb.length : Int) ≠ w then 3 else ordR q tb
theorem ordC_ok {q w : Int} {ts : List RowM} (h : (ts.length : Int) = w) (h1 : ∀ j : Nat, j < ts.length → RowOk q (ts.getD j rowD).xs) : ordC q w (xss ts) = 0 := by
  unfold ordC
  rw [xss_length, if_neg (fun k => k h)]
  exact ordR_ok (xss_get fun j hj => h1 j hj)
theorem ordC_bad {q w : Int} {ts : List RowM} (h : (ts.length : Int) = w) {k : Nat} (hk : k < ts.length) (hall : ∀ j : Nat, j < k → RowOk q (ts.getD j rowD).xs) (hb : ¬ RowOk q (ts.getD k rowD).xs) : ordC q w (xss ts) = if ((ts.getD k rowD).xs.length : Int) ≠ q then 3 else 6 := by
  unfold ordC
  rw [xss_length, if_neg (fun k => k h), ordR_bad (k := k) (by rw [xss_length]; exact hk) (fun j hj => by rw [xss_getD]; exact hall j hj) (by rw [xss_getD]; exact hb), xss_getD]
structure TabOk (q w : Int) (ts : List RowM) : Prop where
  len : (ts.length : Int) = w
  row : ∀ r ∈ ts, RowOk q r.xs
theorem ordC_zero {q w : Int} {ts : List RowM} (h : ordC q w (xss ts) = 0) : TabOk q w ts := by
  unfold ordC at h
  split at h
  · cases h
  · rename_i h1
    have h2 := ordR_zero h
    exact ⟨by rw [xss_length] at h1; omega, xss_all.1 fun r hr => h2 r hr⟩
theorem TabOk.zero {q w : Int} {ts : List RowM} (h : TabOk q w ts) : ordC q w (xss ts) = 0 := ordC_ok h.len fun j hj => h.row _ (getD_mem hj _)
theorem TabOk.get {q w : Int} {ts : List RowM} (h : TabOk q w ts) {j : Nat} (hj : j < ts.length) : RowOk q (ts.getD j rowD).xs := h.row _ (getD_mem hj _)
theorem RowOk.at {q : Int} {r : List Int} (h : RowOk q r) (j : Nat) : 0 ≤ r.getD j 0 ∧ r.getD j 0 ≤ 2147483648 := by
  by_cases hj : j < r.length
  · exact h.2 _ (getD_mem hj _)
  · rw [getD_out (by omega)]; omega
theorem ord_checkedG_ent : Enters Tryz.prog 31 := enters_of Tryz.func31 (by kernel_rfl) (by kernel_rfl)
theorem ord_checkedG (p m : Int) (A : Option Addr) (c : Nat) (mod : List Int) [hF : IsF p m mod] (w : Int) (Aa : Option Addr) (n ca : Nat) (rs : List RowM) (hn : n = rs.length) (h9 : rs.length ≤ 256) (hc : CodeOk p m mod w rs) (T : Option Addr) (nt ct : Nat) (ts : List RowM) (hnt : nt = ts.length) (t9 : ts.length ≤ 17592186044415) (t8 : ∀ r ∈ ts, r.xs.length ≤ 17592186044415) (ho : ordC (pw p m) w (xss ts) = 0) :
    Pure Tryz.prog 31 #[.agg #[.int .i64 p, .int .i64 m, .slice A mod.length c, .int .i64 w, .slice Aa n ca], .slice T nt ct] [ro A (ints mod), ro Aa (hdrs rs), rowsR rs, ro T (hdrs ts), rowsR ts] (one (fun v ch => ∃ g : GfM, v = .tuple #[.pointer (some g.p), .int .i64 0] ∧ ch = gfN g ∧ GOk g p m mod)) := by
  have hl9 := hF.short
  have hn1 := hc.n1
  have hn64 := hc.n64
  have hlen := hc.len
  have hgd := hc.good
  have h8 := hgd.h8 (N := 17592186044415) (by omega)
  have hck := hc.zero
  have hq2 := hF.q2
  have htl := (ordC_zero ho).len
  refine pure_of (args := [.agg #[.int .i64 p, .int .i64 m, .slice A mod.length c, .int .i64 w, .slice Aa n ca], .slice T nt ct]) 55 Tryz.func31 rfl rfl rfl ord_checkedG_ent ⟨id, id, id, id, id, trivial⟩ (fun w0 => ?_)
  refine tr_seq ?_
  refine tr_region fun _ _ _ => ?_
  refine ef rfl rfl (eBox rfl rfl rfl rfl rfl (fun p0 => ?_)) 
  iterate 2 refine pu rfl rfl rfl rfl rfl ?_
  refine tr_seq ?_
  refine tr_seq ?_
  refine tr_region fun _ _ _ => ?_
  refine st rfl rfl rfl rfl (rLdS rfl rfl rfl) ?_
  refine ef rfl rfl (eCallV rfl rfl rfl (code_Check _ _ _ _ _ (by omega) w Aa _ ca rs hn (by omega) h8) ⟨rfl, trivial⟩ ?_) 
  refine pu rfl rfl rfl rfl rfl ?_
  refine tr_seq ?_
  refine tr_region fun _ _ _ => ?_
  iterate 2 refine pu rfl rfl rfl rfl rfl ?_
  refine tr_cond_bool rfl (fun h2 => ?_) (fun h2 => ?_)
  · try simp only [zbA] at h2
    omega --done
  · try simp only [zbA] at h2
    refine tr_skip ?_
    refine tr_seq ?_
    refine tr_region fun _ _ _ => ?_
    refine st rfl rfl rfl rfl (rFld rfl rfl) ?_
    refine st rfl rfl rfl rfl (rLdSF rfl rfl) ?_
    refine ef rfl rfl (eCall1 rfl rfl rfl (fld_New_ok _ _ _ _ _ (by omega) hF.out) ⟨rfl, trivial⟩ ?_) 
    rintro _ _ ⟨g, rfl, rfl, hg⟩
    iterate 5 refine pu rfl rfl rfl rfl rfl ?_
    refine tr_seq ?_
    refine tr_seq ?_
    refine tr_region fun _ _ _ => ?_
    refine pu rfl rfl rfl rfl rfl ?_
    refine st rfl rfl rfl rfl (rLen rfl rfl) ?_
    refine st rfl rfl rfl rfl (rFld rfl rfl) ?_
    refine st rfl rfl rfl rfl (rLdF rfl rfl rfl) ?_
    refine pu rfl rfl rfl rfl rfl ?_
    refine tr_cond_bool rfl (fun h5 => ?_) (fun h5 => ?_)
    · try simp only [zbA] at h5
      omega --done
    · try simp only [zbA] at h5
      refine tr_skip ?_
      refine tr_seq ?_
      refine tr_seq ?_
      have hgq := hg.eq
      refine tr_region fun _ _ _ => ?_
      refine pu rfl rfl rfl rfl rfl ?_
      refine st rfl rfl rfl rfl (rLen rfl rfl) ?_
      refine pu rfl rfl rfl rfl rfl ?_
      refine tr_block ?_
      refine tr_loop1 (fun (k : Int) => [(31, .int .i64 k), (7, .pointer (some g.p)), (29, .slice T nt ct), (30, .int .i64 nt)]) (fun (k : Int) => [gfN g, blk p0 27 [.int .i64 p, .int .i64 m, .slice A mod.length c, .int .i64 w, .slice Aa n ca], ro A (ints mod), ro Aa (hdrs rs), rowsR rs, ro T (hdrs ts), rowsR ts]) (fun (k : Int) => (0 ≤ k ∧ k ≤ nt) ∧ ∀ j : Nat, (j : Int) < k → RowOk (pw p m) (ts.getD j rowD).xs) (fun (k : Int) => (nt - k).toNat) (0) ⟨rfl, rfl, rfl, rfl, trivial⟩ (by first | exact cs _ _ | exact CSub.refl _) (⟨⟨by omega, by omega⟩, fun j hj => by omega⟩) (fun k hI => ?_)
      obtain ⟨⟨hk0, hk1⟩, hall⟩ := hI
      refine tr_seq ?_
      refine tr_region fun _ _ _ => ?_
      refine pu rfl rfl rfl rfl rfl ?_
      refine tr_seq ?_
      refine tr_cond_bool rfl (fun h8 => ?_) (fun h8 => ?_)
      · try simp only [zbA] at h8
        refine tr_skip ?_
        refine tr_seq ?_
        refine tr_block ?_
        refine tr_seq ?_
        haveI : InB (k : Int).toNat ts.length := ⟨by omega⟩
        have htk := t8 _ (getD_mem (show (k : Int).toNat < ts.length by omega) rowD)
        refine tr_region fun _ _ _ => ?_
        refine st rfl rfl rfl rfl (rIdxR rfl rfl rfl (by omega) (by omega) (by omega)) ?_
        refine st rfl rfl rfl rfl (rLdR rfl rfl (by omega)) ?_
        refine pu rfl rfl rfl rfl rfl ?_
        refine tr_seq ?_
        refine tr_seq ?_
        refine tr_region fun _ _ _ => ?_
        refine pu rfl rfl rfl rfl rfl ?_
        refine st rfl rfl rfl rfl (rLen rfl rfl) ?_
        refine pu rfl rfl rfl rfl rfl ?_
        refine ef rfl rfl (eCallV rfl rfl rfl (gf_Order _) ⟨rfl, trivial⟩ ?_) 
        refine pu rfl rfl rfl rfl rfl ?_
        refine tr_cond_bool rfl (fun h10 => ?_) (fun h10 => ?_)
        · try simp only [zbA] at h10
          have hallN : ∀ j : Nat, j < k.toNat → RowOk (pw p m) (ts.getD j rowD).xs := fun j hj => hall j (by omega)
          have hbd := ordC_bad (w := w) (by omega) (show k.toNat < ts.length by omega) hallN (fun h => by have := h.1; omega)
          rw [if_pos (by omega)] at hbd
          omega --done
        · try simp only [zbA] at h10
          refine tr_skip ?_
          refine tr_seq ?_
          refine tr_region fun _ _ _ => ?_
          refine pu rfl rfl rfl rfl rfl ?_
          refine st rfl rfl rfl rfl (rLen rfl rfl) ?_
          refine pu rfl rfl rfl rfl rfl ?_
          refine tr_block ?_
          refine tr_loop1 (fun (j : Int) => [(42, .int .i64 j), (40, .slice (ts.getD k.toNat rowD).A (ts.getD k.toNat rowD).xs.length (ts.getD k.toNat rowD).cap), (41, .int .i64 (ts.getD k.toNat rowD).xs.length), (7, .pointer (some g.p)), (29, .slice T nt ct), (30, .int .i64 nt), (31, .int .i64 k), (37, .pointer (some g.p))]) (fun (j : Int) => [gfN g, blk p0 27 [.int .i64 p, .int .i64 m, .slice A mod.length c, .int .i64 w, .slice Aa n ca], ro A (ints mod), ro Aa (hdrs rs), rowsR rs, ro T (hdrs ts), rowsR ts]) (fun (j : Int) => (0 ≤ j ∧ j ≤ (ts.getD k.toNat rowD).xs.length) ∧ ∀ i : Nat, (i : Int) < j → 0 ≤ (ts.getD k.toNat rowD).xs.getD i 0 ∧ (ts.getD k.toNat rowD).xs.getD i 0 ≤ 2147483648) (fun (j : Int) => ((ts.getD k.toNat rowD).xs.length - j).toNat) (0) ⟨rfl, rfl, rfl, rfl, rfl, rfl, rfl, rfl, trivial⟩ (by first | exact cs _ _ | exact CSub.refl _) (⟨⟨by omega, by omega⟩, fun i hi => by omega⟩) (fun j hI => ?_)
          obtain ⟨⟨hj0, hj1⟩, hall2⟩ := hI
          refine tr_seq ?_
          refine tr_region fun _ _ _ => ?_
          refine pu rfl rfl rfl rfl rfl ?_
          refine tr_seq ?_
          refine tr_cond_bool rfl (fun h13 => ?_) (fun h13 => ?_)
          · try simp only [zbA] at h13
            refine tr_skip ?_
            refine tr_seq ?_
            refine tr_block ?_
            refine tr_seq ?_
            refine tr_region fun _ _ _ => ?_
            refine st rfl rfl rfl rfl (rIdxI rfl rfl rfl (by omega) (by omega) (by omega)) ?_
            refine st rfl rfl rfl rfl (rLdI rfl rfl (by omega)) ?_
            refine pu rfl rfl rfl rfl rfl ?_
            refine tr_seq ?_
            refine tr_region fun _ _ _ => ?_
            iterate 3 refine pu rfl rfl rfl rfl rfl ?_
            refine stg rfl rfl rfl rfl rfl (fun hb => by (have hq := hb; try simp only [zbA] at hq); exact rMove rfl rfl) ?_
            refine stg rfl rfl rfl rfl rfl (fun hb => by (have hq := hb; try simp only [zbA] at hq); exact rGtr rfl (evg rfl hb) rfl) ?_
            refine st rfl rfl rfl rfl (rOrB rfl rfl rfl rfl) ?_
            refine tr_cond_bool rfl (fun h15 => ?_) (fun h15 => ?_)
            · try simp only [zbA] at h15
              have hallN : ∀ j : Nat, j < k.toNat → RowOk (pw p m) (ts.getD j rowD).xs := fun j hj => hall j (by omega)
              have hbd := ordC_bad (w := w) (by omega) (show k.toNat < ts.length by omega) hallN (fun h => by have := h.at j.toNat; omega)
              rw [if_neg (by omega)] at hbd
              omega --done
            · try simp only [zbA] at h15
              refine tr_skip ?_
              refine tr_region fun _ _ _ => ?_
              refine st rfl rfl rfl rfl (rAdd rfl rfl rfl (by omega) (by omega)) ?_
              refine pu rfl rfl rfl rfl rfl ?_
              refine ⟨j + 1, ⟨rfl, rfl, rfl, rfl, rfl, rfl, rfl, rfl, trivial⟩, by first | exact cs _ _ | exact CSub.refl _, ?_⟩
              refine ⟨⟨⟨by omega, by omega⟩, fun i hi => ?_⟩, by omega⟩
              by_cases he : (i : Int) = j
              · have : i = j.toNat := by omega
                subst this; omega
              · exact hall2 i (by omega)
          · try simp only [zbA] at h13
            refine tr_exit ?_
            refine tr_region fun _ _ _ => ?_
            refine st rfl rfl rfl rfl (rAdd rfl rfl rfl (by omega) (by omega)) ?_
            refine pu rfl rfl rfl rfl rfl ?_
            refine ⟨k + 1, ⟨rfl, rfl, rfl, rfl, trivial⟩, by first | exact cs _ _ | exact CSub.refl _, ?_⟩
            refine ⟨⟨⟨by omega, by omega⟩, fun j hj => ?_⟩, by omega⟩
            by_cases he : (j : Int) = k
            · have : j = k.toNat := by omega
              subst this
              exact ⟨by omega, fun x hx => by
                obtain ⟨i, hi, rfl⟩ := List.getElem_of_mem hx
                have := hall2 i (by omega)
                rwa [List.getD_eq_getElem?_getD, List.getElem?_eq_getElem hi] at this⟩
            · exact hall j (by omega)
      · try simp only [zbA] at h8
        refine tr_exit ?_
        refine tr_seq ?_
        refine tr_region fun _ _ _ => ?_
        iterate 3 refine pu rfl rfl rfl rfl rfl ?_
        exact tr_ret ⟨trivial, _, _, rfl, ⟨_, rfl, g, rfl, rfl, hg⟩, cs _ _, ⟨trivial, trivial, trivial, trivial⟩, trivial⟩
theorem law42_few_ent : Enters Tryz.prog 9 := enters_of Tryz.func9 (by kernel_rfl) (by kernel_rfl)
theorem law42_few (p m : Int) (A : Option Addr) (c : Nat) (mod : List Int) (hl9 : mod.length ≤ 17592186044415) (w : Int) (Aa : Option Addr) (n ca : Nat) (rs : List RowM) (hn : n = rs.length) (h9 : rs.length ≤ 17592186044415) (h8 : ∀ r ∈ rs, r.xs.length ≤ 17592186044415) (hl : rs.length ≤ 64) :
    Pure Tryz.prog 9 #[.agg #[.int .i64 p, .int .i64 m, .slice A mod.length c, .int .i64 w, .slice Aa n ca]] [ro Aa (hdrs rs), rowsR rs] (val (fun v => ∃ b : Bool, v = .bool b ∧ (b = true → rs.length ≤ 64 ∧ ∀ r ∈ rs, r.xs.length ≤ 4200))) := by
  refine pure_of (args := [.agg #[.int .i64 p, .int .i64 m, .slice A mod.length c, .int .i64 w, .slice Aa n ca]]) 11 Tryz.func9 rfl rfl rfl law42_few_ent ⟨id, id, trivial⟩ (fun w0 => ?_)
  refine tr_seq ?_
  refine tr_region fun _ _ _ => ?_
  refine ef rfl rfl (eBox rfl rfl rfl rfl rfl (fun p0 => ?_)) 
  refine pu rfl rfl rfl rfl rfl ?_
  refine tr_seq ?_
  refine tr_region fun _ _ _ => ?_
  refine st rfl rfl rfl rfl (rFld rfl rfl) ?_
  refine st rfl rfl rfl rfl (rLdF rfl rfl rfl) ?_
  refine st rfl rfl rfl rfl (rLen rfl rfl) ?_
  iterate 2 refine pu rfl rfl rfl rfl rfl ?_
  refine stT rfl rfl rfl (by simp; omega) rfl rfl (rLdS rfl rfl rfl) ?_
  refine efT rfl rfl rfl (by simp; omega) (eCall0 rfl rfl rfl (ref_CFew p m A c mod hl9 w Aa n ca rs hn h9 h8) ⟨rfl, rfl, trivial⟩ ?_) 
  rintro _ ⟨b, rfl, hb⟩
  refine st rfl rfl rfl rfl (rPick1 rfl rfl (by simp; omega) rfl) ?_
  refine pu rfl rfl rfl rfl rfl ?_
  exact tr_ret ⟨trivial, _, _, rfl, ⟨rfl, b, by simp, fun h => ⟨hl, hb h⟩⟩, CSub.nil _, trivial⟩
theorem law42_few0_ent : Enters Tryz.prog 9 := enters_of Tryz.func9 (by kernel_rfl) (by kernel_rfl)
theorem law42_few0 (p m : Int) (A : Option Addr) (c : Nat) (mod : List Int) (hl9 : mod.length ≤ 17592186044415) (w : Int) (Aa : Option Addr) (n ca : Nat) (rs : List RowM) (hn : n = rs.length) (h9 : rs.length ≤ 17592186044415) (h8 : ∀ r ∈ rs, r.xs.length ≤ 17592186044415) (hl : ¬ rs.length ≤ 64) :
    Pure Tryz.prog 9 #[.agg #[.int .i64 p, .int .i64 m, .slice A mod.length c, .int .i64 w, .slice Aa n ca]] [ro Aa (hdrs rs), rowsR rs] (val (fun v => ∃ b : Bool, v = .bool b ∧ (b = true → rs.length ≤ 64 ∧ ∀ r ∈ rs, r.xs.length ≤ 4200))) := by
  refine pure_of (args := [.agg #[.int .i64 p, .int .i64 m, .slice A mod.length c, .int .i64 w, .slice Aa n ca]]) 11 Tryz.func9 rfl rfl rfl law42_few0_ent ⟨id, id, trivial⟩ (fun w0 => ?_)
  refine tr_seq ?_
  refine tr_region fun _ _ _ => ?_
  refine ef rfl rfl (eBox rfl rfl rfl rfl rfl (fun p0 => ?_)) 
  refine pu rfl rfl rfl rfl rfl ?_
  refine tr_seq ?_
  refine tr_region fun _ _ _ => ?_
  refine st rfl rfl rfl rfl (rFld rfl rfl) ?_
  refine st rfl rfl rfl rfl (rLdF rfl rfl rfl) ?_
  refine st rfl rfl rfl rfl (rLen rfl rfl) ?_
  iterate 2 refine pu rfl rfl rfl rfl rfl ?_
  refine skF rfl rfl (by simp; omega) rfl rfl ?_
  refine skF rfl rfl (by simp; omega) rfl rfl ?_
  refine st rfl rfl rfl rfl (rPick0 rfl rfl (by simp; omega) rfl) ?_
  refine pu rfl rfl rfl rfl rfl ?_
  exact tr_ret ⟨trivial, _, _, rfl, ⟨rfl, false, by simp, fun h => by cases h⟩, CSub.nil _, trivial⟩
theorem law42_fewC (p m : Int) (A : Option Addr) (c : Nat) (mod : List Int) (hl9 : mod.length ≤ 17592186044415) (w : Int) (Aa : Option Addr) (n ca : Nat) (rs : List RowM) (hn : n = rs.length) (h9 : rs.length ≤ 17592186044415) (h8 : ∀ r ∈ rs, r.xs.length ≤ 17592186044415) : Pure Tryz.prog 9 #[.agg #[.int .i64 p, .int .i64 m, .slice A mod.length c, .int .i64 w, .slice Aa n ca]] [ro Aa (hdrs rs), rowsR rs] (val (fun v => ∃ b : Bool, v = .bool b ∧ (b = true → rs.length ≤ 64 ∧ ∀ r ∈ rs, r.xs.length ≤ 4200))) := by
  by_cases hl : rs.length ≤ 64
  · exact law42_few p m A c mod hl9 w Aa n ca rs hn h9 h8 hl
  · exact law42_few0 p m A c mod hl9 w Aa n ca rs hn h9 h8 hl
def hardL (ts : List RowM) : List Int := (xss ts).map fun r => (hardI r : Int)
def relL (ts : List RowM) : List Int := (xss ts).map relI
@[simp] theorem hardL_length (ts : List RowM) : (hardL ts).length = ts.length := by simp [hardL]
@[simp] theorem relL_length (ts : List RowM) : (relL ts).length = ts.length := by simp [relL]
theorem map_take1 {α : Type} (f : List Int → α) (ts : List RowM) {k : Nat} (hk : k < ts.length) : ((xss ts).map f).take (k + 1) = ((xss ts).map f).take k ++ [f (ts.getD k rowD).xs] := by
  rw [List.take_add_one, List.getElem?_map]
  have : (xss ts)[k]? = some (ts.getD k rowD).xs := by
    rw [xss, List.getElem?_map, List.getElem?_eq_getElem hk, List.getD_eq_getElem?_getD, List.getElem?_eq_getElem hk]; rfl
  rw [this]; rfl
theorem hardL_take (ts : List RowM) {k : Nat} (hk : k < ts.length) : (hardL ts).take (k + 1) = (hardL ts).take k ++ [(hardI (ts.getD k rowD).xs : Int)] := map_take1 _ ts hk
theorem relL_take (ts : List RowM) {k : Nat} (hk : k < ts.length) : (relL ts).take (k + 1) = (relL ts).take k ++ [relI (ts.getD k rowD).xs] := map_take1 _ ts hk
theorem relL_getD (ts : List RowM) {k : Nat} (hk : k < ts.length) : (relL ts).getD k 0 = relI (ts.getD k rowD).xs := by
  rw [relL, List.getD_eq_getElem?_getD, List.getElem?_map, xss, List.getElem?_map, List.getElem?_eq_getElem hk, List.getD_eq_getElem?_getD, List.getElem?_eq_getElem hk]; rfl
theorem amin_yes {r : List Int} {k : Nat} (h : r.getD k 0 < r.getD (amin r k) 0) : amin r (k + 1) = k := by rw [amin, if_pos h]
theorem amin_no {r : List Int} {k : Nat} (h : ¬ r.getD k 0 < r.getD (amin r k) 0) : amin r (k + 1) = amin r k := by rw [amin, if_neg h]
theorem sec_yes {r : List Int} {b k : Nat} (h : k ≠ b ∧ (sec r b k < 0 ∨ r.getD k 0 < sec r b k)) : sec r b (k + 1) = r.getD k 0 := by rw [sec, if_pos h]
theorem sec_no {r : List Int} {b k : Nat} (h : ¬ (k ≠ b ∧ (sec r b k < 0 ∨ r.getD k 0 < sec r b k))) : sec r b (k + 1) = sec r b k := by rw [sec, if_neg h]
theorem ord_hard_ent : Enters Tryz.prog 34 := enters_of Tryz.func34 (by kernel_rfl) (by kernel_rfl)
theorem ord_hard (T : Option Addr) (nt ct : Nat) (ts : List RowM) (hnt : nt = ts.length) (q : Int) (hq2 : 2 ≤ q) (hq9 : q ≤ 256) (t64 : ts.length ≤ 64) (htr : ∀ r ∈ ts, RowOk q r.xs) :
    Pure Tryz.prog 34 #[.slice T nt ct] [ro T (hdrs ts), rowsR ts] (two (fun v c1 c2 => ∃ B cb D cd, v = .tuple #[.slice B (hardL ts).length cb, .slice D (relL ts).length cd] ∧ c1 = ow B 3 cb (ints (hardL ts)) ∧ c2 = ow D 3 cd (ints (relL ts)))) := by
  refine pure_of (args := [.slice T nt ct]) 70 Tryz.func34 rfl rfl rfl ord_hard_ent ⟨id, id, trivial⟩ (fun w0 => ?_)
  refine tr_seq ?_
  refine tr_region fun _ _ _ => ?_
  iterate 2 refine pu rfl rfl rfl rfl rfl ?_
  refine tr_seq ?_
  refine tr_seq ?_
  refine tr_region fun _ _ _ => ?_
  refine pu rfl rfl rfl rfl rfl ?_
  refine st rfl rfl rfl rfl (rLen rfl rfl) ?_
  refine pu rfl rfl rfl rfl rfl ?_
  refine tr_block ?_
  refine tr_nilI 3 ?_
  refine tr_nilI 3 ?_
  refine tr_loop7 (fun (k : Int) (B : Option Addr) (cb : Nat) (o : List Int) (D : Option Addr) (cd : Nat) (u : List Int) => [(2, .slice B o.length cb), (3, .slice D u.length cd), (14, .int .i64 k), (12, .slice T nt ct), (13, .int .i64 nt)]) (fun (k : Int) (B : Option Addr) (cb : Nat) (o : List Int) (D : Option Addr) (cd : Nat) (u : List Int) => [ow B 3 cb (ints o), ow D 3 cd (ints u), ro T (hdrs ts), rowsR ts]) (fun (k : Int) (B : Option Addr) (cb : Nat) (o : List Int) (D : Option Addr) (cd : Nat) (u : List Int) => (0 ≤ k ∧ k ≤ nt) ∧ o = (hardL ts).take k.toNat ∧ u = (relL ts).take k.toNat) (fun (k : Int) (B : Option Addr) (cb : Nat) (o : List Int) (D : Option Addr) (cd : Nat) (u : List Int) => (nt - k).toNat) (0) (none) (0) ([]) (none) (0) ([]) ⟨rfl, rfl, rfl, rfl, rfl, trivial⟩ (by first | exact cs _ _ | exact CSub.refl _) (⟨⟨by omega, by omega⟩, rfl, rfl⟩) (fun k B cb o D cd u hI => ?_)
  obtain ⟨⟨hk0, hk1⟩, ho, hu⟩ := hI
  have hol : o.length = k.toNat := by rw [ho, List.length_take, hardL_length]; omega
  have hul : u.length = k.toNat := by rw [hu, List.length_take, relL_length]; omega
  refine tr_seq ?_
  refine tr_region fun _ _ _ => ?_
  refine pu rfl rfl rfl rfl rfl ?_
  refine tr_seq ?_
  refine tr_cond_bool rfl (fun h2 => ?_) (fun h2 => ?_)
  · try simp only [zbA] at h2
    refine tr_skip ?_
    refine tr_seq ?_
    refine tr_block ?_
    refine tr_seq ?_
    haveI : InB k.toNat ts.length := ⟨by omega⟩
    have htk := htr _ (getD_mem (show k.toNat < ts.length by omega) rowD)
    have htl := htk.1
    have hpos : 0 < (ts.getD k.toNat rowD).xs.length := by omega
    refine tr_region fun _ _ _ => ?_
    refine st rfl rfl rfl rfl (rIdxR rfl rfl rfl (by omega) (by omega) (by omega)) ?_
    refine st rfl rfl rfl rfl (rLdR rfl rfl (by omega)) ?_
    refine pu rfl rfl rfl rfl rfl ?_
    refine tr_seq ?_
    refine tr_region fun _ _ _ => ?_
    refine pu rfl rfl rfl rfl rfl ?_
    refine tr_seq ?_
    refine tr_seq ?_
    refine tr_region fun _ _ _ => ?_
    refine pu rfl rfl rfl rfl rfl ?_
    refine st rfl rfl rfl rfl (rLen rfl rfl) ?_
    refine pu rfl rfl rfl rfl rfl ?_
    refine tr_block ?_
    refine tr_loop2 (fun (j : Int) (b : Int) => [(20, .int .i64 j), (6, .int .i64 b), (5, .slice (ts.getD k.toNat rowD).A (ts.getD k.toNat rowD).xs.length (ts.getD k.toNat rowD).cap), (18, .slice (ts.getD k.toNat rowD).A (ts.getD k.toNat rowD).xs.length (ts.getD k.toNat rowD).cap), (19, .int .i64 (ts.getD k.toNat rowD).xs.length), (2, .slice B o.length cb), (3, .slice D u.length cd), (12, .slice T nt ct), (13, .int .i64 nt), (14, .int .i64 k)]) (fun (j : Int) (b : Int) => [ow B 3 cb (ints o), ow D 3 cd (ints u), ro T (hdrs ts), rowsR ts]) (fun (j : Int) (b : Int) => (0 ≤ j ∧ j ≤ (ts.getD k.toNat rowD).xs.length) ∧ b = (amin (ts.getD k.toNat rowD).xs j.toNat : Int)) (fun (j : Int) (b : Int) => ((ts.getD k.toNat rowD).xs.length - j).toNat) (0) (0) ⟨rfl, rfl, rfl, rfl, rfl, rfl, rfl, rfl, rfl, rfl, trivial⟩ (by first | exact cs _ _ | exact CSub.refl _) (⟨⟨by omega, by omega⟩, rfl⟩) (fun j b hI => ?_)
    obtain ⟨⟨hj0, hj1⟩, hb⟩ := hI
    have hbl := amin_lt hpos j.toNat (by omega)
    refine tr_seq ?_
    refine tr_region fun _ _ _ => ?_
    refine pu rfl rfl rfl rfl rfl ?_
    refine tr_seq ?_
    refine tr_cond_bool rfl (fun h6 => ?_) (fun h6 => ?_)
    · try simp only [zbA] at h6
      refine tr_skip ?_
      refine tr_seq ?_
      refine tr_block ?_
      refine tr_seq ?_
      refine tr_region fun _ _ _ => ?_
      refine pu rfl rfl rfl rfl rfl ?_
      refine st rfl rfl rfl rfl (rIdxI rfl rfl rfl (by omega) (by omega) (by omega)) ?_
      refine st rfl rfl rfl rfl (rLdI rfl rfl (by omega)) ?_
      iterate 2 refine pu rfl rfl rfl rfl rfl ?_
      refine tr_seq ?_
      refine tr_region fun _ _ _ => ?_
      iterate 3 refine pu rfl rfl rfl rfl rfl ?_
      refine st rfl rfl rfl rfl (rIdxI rfl rfl rfl (by omega) (by omega) (by omega)) ?_
      refine st rfl rfl rfl rfl (rLdI rfl rfl (by omega)) ?_
      refine pu rfl rfl rfl rfl rfl ?_
      refine tr_cond_bool rfl (fun h8 => ?_) (fun h8 => ?_)
      · try simp only [zbA] at h8
        refine tr_region fun _ _ _ => ?_
        iterate 2 refine pu rfl rfl rfl rfl rfl ?_
        refine tr_region fun _ _ _ => ?_
        refine st rfl rfl rfl rfl (rAdd rfl rfl rfl (by omega) (by omega)) ?_
        refine pu rfl rfl rfl rfl rfl ?_
        refine ⟨j + 1, j, ⟨rfl, rfl, rfl, rfl, rfl, rfl, rfl, rfl, rfl, rfl, trivial⟩, by first | exact cs _ _ | exact CSub.refl _, ?_⟩
        exact ⟨⟨⟨by omega, by omega⟩, by rw [show (j + 1).toNat = j.toNat + 1 by omega, amin_yes (by rw [hb] at h8; simpa using h8)]; omega⟩, by omega⟩
      · try simp only [zbA] at h8
        refine tr_skip ?_
        refine tr_region fun _ _ _ => ?_
        refine st rfl rfl rfl rfl (rAdd rfl rfl rfl (by omega) (by omega)) ?_
        refine pu rfl rfl rfl rfl rfl ?_
        refine ⟨j + 1, b, ⟨rfl, rfl, rfl, rfl, rfl, rfl, rfl, rfl, rfl, rfl, trivial⟩, by first | exact cs _ _ | exact CSub.refl _, ?_⟩
        exact ⟨⟨⟨by omega, by omega⟩, by rw [show (j + 1).toNat = j.toNat + 1 by omega, amin_no (by rw [hb] at h8; simpa using h8)]; exact hb⟩, by omega⟩
    · try simp only [zbA] at h6
      refine tr_exit ?_
      refine tr_seq ?_
      refine tr_region fun _ _ _ => ?_
      refine pu rfl rfl rfl rfl rfl ?_
      refine tr_seq ?_
      refine tr_seq ?_
      refine tr_region fun _ _ _ => ?_
      refine pu rfl rfl rfl rfl rfl ?_
      refine st rfl rfl rfl rfl (rLen rfl rfl) ?_
      refine pu rfl rfl rfl rfl rfl ?_
      refine tr_block ?_
      refine tr_loop2 (fun (i : Int) (s : Int) => [(35, .int .i64 i), (9, .int .i64 s), (6, .int .i64 b), (5, .slice (ts.getD k.toNat rowD).A (ts.getD k.toNat rowD).xs.length (ts.getD k.toNat rowD).cap), (33, .slice (ts.getD k.toNat rowD).A (ts.getD k.toNat rowD).xs.length (ts.getD k.toNat rowD).cap), (34, .int .i64 (ts.getD k.toNat rowD).xs.length), (2, .slice B o.length cb), (3, .slice D u.length cd), (12, .slice T nt ct), (13, .int .i64 nt), (14, .int .i64 k), (18, .slice (ts.getD k.toNat rowD).A (ts.getD k.toNat rowD).xs.length (ts.getD k.toNat rowD).cap), (19, .int .i64 (ts.getD k.toNat rowD).xs.length), (20, .int .i64 j)]) (fun (i : Int) (s : Int) => [ow B 3 cb (ints o), ow D 3 cd (ints u), ro T (hdrs ts), rowsR ts]) (fun (i : Int) (s : Int) => (0 ≤ i ∧ i ≤ (ts.getD k.toNat rowD).xs.length) ∧ s = sec (ts.getD k.toNat rowD).xs b.toNat i.toNat) (fun (i : Int) (s : Int) => ((ts.getD k.toNat rowD).xs.length - i).toNat) (0) (-1) ⟨rfl, rfl, rfl, rfl, rfl, rfl, rfl, rfl, rfl, rfl, rfl, rfl, rfl, rfl, trivial⟩ (by first | exact cs _ _ | exact CSub.refl _) (⟨⟨by omega, by omega⟩, rfl⟩) (fun i s hI => ?_)
      obtain ⟨⟨hi0, hi1⟩, hs⟩ := hI
      have hsb := sec_bd (b := b.toNat) htk.2 (by omega) i.toNat (by omega)
      refine tr_seq ?_
      refine tr_region fun _ _ _ => ?_
      refine pu rfl rfl rfl rfl rfl ?_
      refine tr_seq ?_
      refine tr_cond_bool rfl (fun h13 => ?_) (fun h13 => ?_)
      · try simp only [zbA] at h13
        refine tr_skip ?_
        refine tr_seq ?_
        refine tr_block ?_
        refine tr_seq ?_
        refine tr_region fun _ _ _ => ?_
        refine pu rfl rfl rfl rfl rfl ?_
        refine st rfl rfl rfl rfl (rIdxI rfl rfl rfl (by omega) (by omega) (by omega)) ?_
        refine st rfl rfl rfl rfl (rLdI rfl rfl (by omega)) ?_
        iterate 2 refine pu rfl rfl rfl rfl rfl ?_
        refine tr_seq ?_
        refine tr_region fun _ _ _ => ?_
        iterate 4 refine pu rfl rfl rfl rfl rfl ?_
        refine stg rfl rfl rfl rfl rfl (fun hb => by (have hq := hb; try simp only [zbA] at hq); exact rMove rfl rfl) ?_
        refine stg rfl rfl rfl rfl rfl (fun hb => by (have hq := hb; try simp only [zbA] at hq); exact rLss rfl (evg rfl hb) rfl) ?_
        refine stg rfl rfl rfl rfl rfl (fun hb => by (have hq := hb; try simp only [zbA] at hq); exact rMove rfl (evg rfl hb)) ?_
        refine stg2 rfl rfl rfl rfl rfl (fun hb => by (have hq := hb; try simp only [zbA] at hq); exact rMove rfl rfl) ?_
        refine stg2 rfl rfl rfl rfl rfl (fun hb => by (have hq := hb; try simp only [zbA] at hq); exact rMove rfl rfl) ?_
        refine stg2 rfl rfl rfl rfl rfl (fun hb => by (have hq := hb; try simp only [zbA] at hq); exact rLss rfl (evg rfl hb) (evg rfl hb)) ?_
        refine stg rfl rfl rfl rfl rfl (fun hb => by (have hq := hb; try simp only [zbA] at hq); exact rOrB rfl (evg rfl hb) rfl (evgp rfl hb)) ?_
        refine st rfl rfl rfl rfl (rAndB rfl rfl rfl rfl) ?_
        refine tr_cond_bool rfl (fun h15 => ?_) (fun h15 => ?_)
        · try simp only [zbA] at h15
          refine tr_region fun _ _ _ => ?_
          iterate 2 refine pu rfl rfl rfl rfl rfl ?_
          refine tr_region fun _ _ _ => ?_
          refine st rfl rfl rfl rfl (rAdd rfl rfl rfl (by omega) (by omega)) ?_
          refine pu rfl rfl rfl rfl rfl ?_
          refine ⟨i + 1, (ts.getD k.toNat rowD).xs.getD i.toNat 0, ⟨rfl, rfl, rfl, rfl, rfl, rfl, rfl, rfl, rfl, rfl, rfl, rfl, rfl, rfl, trivial⟩, by first | exact cs _ _ | exact CSub.refl _, ?_⟩
          exact ⟨⟨⟨by omega, by omega⟩, by rw [show (i + 1).toNat = i.toNat + 1 by omega, sec_yes (by rw [← hs]; omega)]⟩, by omega⟩
        · try simp only [zbA] at h15
          refine tr_skip ?_
          refine tr_region fun _ _ _ => ?_
          refine st rfl rfl rfl rfl (rAdd rfl rfl rfl (by omega) (by omega)) ?_
          refine pu rfl rfl rfl rfl rfl ?_
          refine ⟨i + 1, s, ⟨rfl, rfl, rfl, rfl, rfl, rfl, rfl, rfl, rfl, rfl, rfl, rfl, rfl, rfl, trivial⟩, by first | exact cs _ _ | exact CSub.refl _, ?_⟩
          exact ⟨⟨⟨by omega, by omega⟩, by rw [show (i + 1).toNat = i.toNat + 1 by omega, sec_no (by rw [← hs]; omega)]; exact hs⟩, by omega⟩
      · try simp only [zbA] at h13
        refine tr_exit ?_
        refine tr_seq ?_
        refine tr_region fun _ _ _ => ?_
        iterate 2 refine pu rfl rfl rfl rfl rfl ?_
        refine ef rfl rfl (eLit1I rfl rfl rfl rfl (fun A18 => ?_)) 
        refine ef rfl rfl (eAppI rfl rfl rfl rfl rfl (by first | rfl | simp | omega) (by first | rfl | simp | omega) (by first | omega | (simp; omega)) (fun A18a c18a => ?_)) 
        refine pu rfl rfl rfl rfl rfl ?_
        have hrb := htk.at b.toNat
        have hsb := sec_bd (b := b.toNat) htk.2 (by omega) i.toNat (by omega)
        refine tr_region fun _ _ _ => ?_
        iterate 4 refine pu rfl rfl rfl rfl rfl ?_
        refine st rfl rfl rfl rfl (rIdxI rfl rfl rfl (by omega) (by omega) (by omega)) ?_
        refine st rfl rfl rfl rfl (rLdI rfl rfl (by omega)) ?_
        refine st rfl rfl rfl rfl (rSub rfl rfl rfl (by omega) (by omega)) ?_
        refine ef rfl rfl (eLit1I rfl rfl rfl rfl (fun A19 => ?_)) 
        refine ef rfl rfl (eAppI rfl rfl rfl rfl rfl (by first | rfl | simp | omega) (by first | rfl | simp | omega) (by first | omega | (simp; omega)) (fun A19a c19a => ?_)) 
        refine pu rfl rfl rfl rfl rfl ?_
        refine tr_region fun _ _ _ => ?_
        refine st rfl rfl rfl rfl (rAdd rfl rfl rfl (by omega) (by omega)) ?_
        refine pu rfl rfl rfl rfl rfl ?_
        refine ⟨k + 1, A18a, c18a, o ++ [b], A19a, c19a, u ++ [s - (ts.getD k.toNat rowD).xs.getD b.toNat 0], ⟨rfl, rfl, rfl, rfl, rfl, trivial⟩, by first | exact cs _ _ | exact CSub.refl _, ?_⟩
        have hkk : (k + 1).toNat = k.toNat + 1 := by omega
        have hbh : b = (hardI (ts.getD k.toNat rowD).xs : Int) := by rw [hb, show j.toNat = (ts.getD k.toNat rowD).xs.length by omega]; rfl
        have hsh : s - (ts.getD k.toNat rowD).xs.getD b.toNat 0 = relI (ts.getD k.toNat rowD).xs := by rw [hs, hbh, show i.toNat = (ts.getD k.toNat rowD).xs.length by omega]; rfl
        exact ⟨⟨⟨by omega, by omega⟩, by rw [hkk, hardL_take ts (by omega), ← ho, hbh], by rw [hkk, relL_take ts (by omega), ← hu, hsh]⟩, by omega⟩
  · try simp only [zbA] at h2
    refine tr_exit ?_
    refine tr_seq ?_
    refine tr_region fun _ _ _ => ?_
    iterate 4 refine pu rfl rfl rfl rfl rfl ?_
    have hkt : k.toNat = ts.length := by omega
    have ho2 : o = hardL ts := by rw [ho, hkt, ← hardL_length, List.take_length]
    have hu2 : u = relL ts := by rw [hu, hkt, ← relL_length, List.take_length]
    subst ho2 hu2
    exact tr_ret ⟨trivial, _, _, rfl, ⟨_, _, rfl, B, cb, D, cd, rfl, rfl, rfl⟩, cs _ _, trivial, trivial, trivial⟩
end Go.Proofs.YtoalphamojhpcaaGreat

set_option linter.unusedSimpArgs false
set_option linter.unusedVariables false
set_option maxRecDepth 100000
namespace Go.Proofs.YtoalphamojhpcaaGreat
open Go.RowKit
noncomputable def wordC (q w : Int) (l : List Int) : Int := if (l.length : Int) ≠ w then 4 else entC q l
theorem wordC_len {q w : Int} {l : List Int} (h : (l.length : Int) ≠ w) : wordC q w l = 4 := if_pos h
theorem wordC_ent {q w : Int} {l : List Int} (h : (l.length : Int) = w) : wordC q w l = entC q l := by unfold wordC; rw [if_neg (by omega)]
theorem wordC_zero {q w : Int} {l : List Int} (h : wordC q w l = 0) : (l.length : Int) = w ∧ AllIn q l := by
  unfold wordC at h
  split at h
  · cases h
  · rename_i h1
    rcases entC_cases q l with h2 | h2
    · exact ⟨by omega, h2.1⟩
    · omega
def cstT (tb : List (List Int)) (l : List Int) : Nat → Int
  | 0 => 0
  | k + 1 => cstT tb l k + (tb.getD k []).getD (l.getD k 0).toNat 0
def cstL (tb : List (List Int)) (l : List Int) : Int := cstT tb l l.length
theorem cstT_bd {q : Int} {ts : List RowM} (htr : ∀ r ∈ ts, RowOk q r.xs) (l : List Int) : ∀ k, k ≤ ts.length → 0 ≤ cstT (xss ts) l k ∧ cstT (xss ts) l k ≤ k * 2147483648
  | 0, _ => by simp [cstT]
  | k + 1, hk => by
    have ih := cstT_bd htr l k (by omega)
    have h := (htr _ (getD_mem (show k < ts.length by omega) rowD)).at (l.getD k 0).toNat
    rw [cstT, xss_getD]
    omega
theorem cstT_succ (ts : List RowM) (l : List Int) (k : Nat) : cstT (xss ts) l (k + 1) = cstT (xss ts) l k + (ts.getD k rowD).xs.getD (l.getD k 0).toNat 0 := by rw [cstT, xss_getD]
theorem ord_total_ent : Enters Tryz.prog 36 := enters_of Tryz.func36 (by kernel_rfl) (by kernel_rfl)
theorem ord_total (T : Option Addr) (nt ct : Nat) (ts : List RowM) (hnt : nt = ts.length) (q : Int) (hq2 : 2 ≤ q) (hq9 : q ≤ 256) (t64 : ts.length ≤ 64) (htr : ∀ r ∈ ts, RowOk q r.xs) (X : Option Addr) (nx cx : Nat) (l : List Int) (hnx : nx = l.length) (hlt : l.length = ts.length) (hin : AllIn q l) :
    Pure Tryz.prog 36 #[.slice T nt ct, .slice X nx cx] [ro T (hdrs ts), rowsR ts, ro X (ints l)] (isV (.int .i64 (cstL (xss ts) l))) := by
  refine pure_of (args := [.slice T nt ct, .slice X nx cx]) 26 Tryz.func36 rfl rfl rfl ord_total_ent ⟨id, id, id, trivial⟩ (fun w0 => ?_)
  refine tr_seq ?_
  refine tr_region fun _ _ _ => ?_
  refine pu rfl rfl rfl rfl rfl ?_
  refine tr_seq ?_
  refine tr_region fun _ _ _ => ?_
  refine pu rfl rfl rfl rfl rfl ?_
  refine tr_seq ?_
  refine tr_seq ?_
  refine tr_region fun _ _ _ => ?_
  refine pu rfl rfl rfl rfl rfl ?_
  refine st rfl rfl rfl rfl (rLen rfl rfl) ?_
  refine pu rfl rfl rfl rfl rfl ?_
  refine tr_block ?_
  refine tr_loop2 (fun (k : Int) (s : Int) => [(10, .int .i64 k), (5, .int .i64 s), (0, .slice T nt ct), (4, .int .i64 0), (8, .slice X nx cx), (9, .int .i64 nx)]) (fun (k : Int) (s : Int) => [ro T (hdrs ts), rowsR ts, ro X (ints l)]) (fun (k : Int) (s : Int) => (0 ≤ k ∧ k ≤ nx) ∧ s = cstT (xss ts) l k.toNat) (fun (k : Int) (s : Int) => (nx - k).toNat) (0) (0) ⟨rfl, rfl, rfl, rfl, rfl, rfl, trivial⟩ (by first | exact cs _ _ | exact CSub.refl _) (⟨⟨by omega, by omega⟩, rfl⟩) (fun k s hI => ?_)
  obtain ⟨⟨hk0, hk1⟩, hs⟩ := hI
  have hcb := cstT_bd htr l k.toNat (by omega)
  refine tr_seq ?_
  refine tr_region fun _ _ _ => ?_
  refine pu rfl rfl rfl rfl rfl ?_
  refine tr_seq ?_
  refine tr_cond_bool rfl (fun h3 => ?_) (fun h3 => ?_)
  · try simp only [zbA] at h3
    refine tr_skip ?_
    refine tr_seq ?_
    refine tr_block ?_
    refine tr_seq ?_
    refine tr_region fun _ _ _ => ?_
    refine pu rfl rfl rfl rfl rfl ?_
    refine st rfl rfl rfl rfl (rIdxI rfl rfl rfl (by omega) (by omega) (by omega)) ?_
    refine st rfl rfl rfl rfl (rLdI rfl rfl (by omega)) ?_
    iterate 2 refine pu rfl rfl rfl rfl rfl ?_
    haveI : InB k.toNat ts.length := ⟨by omega⟩
    have htk := htr _ (getD_mem (show k.toNat < ts.length by omega) rowD)
    have htl := htk.1
    have hpos : 0 < (ts.getD k.toNat rowD).xs.length := by omega
    have hrb := htk.at (l.getD k.toNat 0).toNat
    have hlk := hin.get (by omega) k.toNat
    refine tr_region fun _ _ _ => ?_
    iterate 3 refine pu rfl rfl rfl rfl rfl ?_
    refine st rfl rfl rfl rfl (rIdxR rfl rfl rfl (by omega) (by omega) (by omega)) ?_
    refine st rfl rfl rfl rfl (rLdR rfl rfl (by omega)) ?_
    refine pu rfl rfl rfl rfl rfl ?_
    refine st rfl rfl rfl rfl (rIdxI rfl rfl rfl (by omega) (by omega) (by omega)) ?_
    refine st rfl rfl rfl rfl (rLdI rfl rfl (by omega)) ?_
    refine st rfl rfl rfl rfl (rAdd rfl rfl rfl (by omega) (by omega)) ?_
    refine pu rfl rfl rfl rfl rfl ?_
    refine tr_region fun _ _ _ => ?_
    refine st rfl rfl rfl rfl (rAdd rfl rfl rfl (by omega) (by omega)) ?_
    refine pu rfl rfl rfl rfl rfl ?_
    refine ⟨k + 1, s + (ts.getD k.toNat rowD).xs.getD (l.getD k.toNat 0).toNat 0, ⟨rfl, rfl, rfl, rfl, rfl, rfl, trivial⟩, by first | exact cs _ _ | exact CSub.refl _, ?_⟩
    exact ⟨⟨⟨by omega, by omega⟩, by rw [show (k + 1).toNat = k.toNat + 1 by omega, cstT_succ, hs]⟩, by omega⟩
  · try simp only [zbA] at h3
    refine tr_exit ?_
    refine tr_seq ?_
    refine tr_region fun _ _ _ => ?_
    iterate 2 refine pu rfl rfl rfl rfl rfl ?_
    have hkx : k.toNat = l.length := by omega
    exact tr_ret ⟨trivial, _, _, rfl, ⟨by rw [hs, hkx]; rfl, rfl⟩, CSub.nil _, trivial⟩
theorem ref_CListC_ent : Enters Tryz.prog 39 := enters_of Tryz.func39 (by kernel_rfl) (by kernel_rfl)
theorem ref_CListC (p m : Int) (A : Option Addr) (c : Nat) (mod : List Int) [hF : IsF p m mod] (w : Int) (X : Option Addr) (nx cx : Nat) (l : List Int) (hnx : nx = l.length) (hl : l.length ≤ 17592186044415) :
    Pure Tryz.prog 39 #[.agg #[.int .i64 p, .int .i64 m, .slice A mod.length c], .slice X nx cx, .int .i64 w] [ro A (ints mod), ro X (ints l)] (isV (.int .i64 (wordC (pw p m) w l))) := by
  have hl9 := hF.short
  have hgq := hF.ord
  refine pure_of (args := [.agg #[.int .i64 p, .int .i64 m, .slice A mod.length c], .slice X nx cx, .int .i64 w]) 14 Tryz.func39 rfl rfl rfl ref_CListC_ent ⟨id, id, trivial⟩ (fun w0 => ?_)
  refine tr_seq ?_
  refine tr_region fun _ _ _ => ?_
  refine ef rfl rfl (eBox rfl rfl rfl rfl rfl (fun p0 => ?_)) 
  refine pu rfl rfl rfl rfl rfl ?_
  refine tr_seq ?_
  refine tr_seq ?_
  refine tr_region fun _ _ _ => ?_
  refine pu rfl rfl rfl rfl rfl ?_
  refine st rfl rfl rfl rfl (rLen rfl rfl) ?_
  iterate 2 refine pu rfl rfl rfl rfl rfl ?_
  refine tr_cond_bool rfl (fun h1 => ?_) (fun h1 => ?_)
  · try simp only [zbA] at h1
    refine tr_seq ?_
    refine tr_region fun _ _ _ => ?_
    refine pu rfl rfl rfl rfl rfl ?_
    exact tr_ret ⟨trivial, _, _, rfl, ⟨by rw [wordC_len (by omega)], rfl⟩, CSub.nil _, trivial⟩
  · try simp only [zbA] at h1
    refine tr_skip ?_
    refine tr_seq ?_
    refine tr_region fun _ _ _ => ?_
    refine st rfl rfl rfl rfl (rLdS rfl rfl rfl) ?_
    refine pu rfl rfl rfl rfl rfl ?_
    refine ef rfl rfl (eCallV rfl rfl rfl (ref_Entries p m A c mod X nx cx l hnx (by omega)) ⟨rfl, rfl, trivial⟩ ?_) 
    refine pu rfl rfl rfl rfl rfl ?_
    exact tr_ret ⟨trivial, _, _, rfl, ⟨by rw [wordC_ent (by omega), hgq], rfl⟩, CSub.nil _, trivial⟩
theorem ref_CWordC_ent : Enters Tryz.prog 12 := enters_of Tryz.func12 (by kernel_rfl) (by kernel_rfl)
theorem ref_CWordC (p m : Int) (A : Option Addr) (c : Nat) (mod : List Int) [hF : IsF p m mod] (w : Int) (Aa : Option Addr) (n ca : Nat) (rs : List RowM) (hn : n = rs.length) (h9 : rs.length ≤ 256) (hc : CodeOk p m mod w rs) (X : Option Addr) (nx cx : Nat) (l : List Int) (hnx : nx = l.length) (hl : l.length ≤ 17592186044415) :
    Pure Tryz.prog 12 #[.agg #[.int .i64 p, .int .i64 m, .slice A mod.length c, .int .i64 w, .slice Aa n ca], .slice X nx cx] [ro A (ints mod), ro Aa (hdrs rs), rowsR rs, ro X (ints l)] (isV (.int .i64 (wordC (pw p m) w l))) := by
  have hl9 := hF.short
  have hn1 := hc.n1
  have hn64 := hc.n64
  have hlen := hc.len
  have hgd := hc.good
  have h8 := hgd.h8 (N := 17592186044415) (by omega)
  have hck := hc.zero
  refine pure_of (args := [.agg #[.int .i64 p, .int .i64 m, .slice A mod.length c, .int .i64 w, .slice Aa n ca], .slice X nx cx]) 17 Tryz.func12 rfl rfl rfl ref_CWordC_ent ⟨id, id, id, id, trivial⟩ (fun w0 => ?_)
  refine tr_seq ?_
  refine tr_region fun _ _ _ => ?_
  refine ef rfl rfl (eBox rfl rfl rfl rfl rfl (fun p0 => ?_)) 
  refine pu rfl rfl rfl rfl rfl ?_
  refine tr_seq ?_
  refine tr_region fun _ _ _ => ?_
  refine st rfl rfl rfl rfl (rLdS rfl rfl rfl) ?_
  refine ef rfl rfl (eCallV rfl rfl rfl (ref_CCheck _ _ _ _ _ (by omega) w Aa _ ca rs hn (by omega) h8) ⟨rfl, trivial⟩ ?_) 
  refine pu rfl rfl rfl rfl rfl ?_
  refine tr_seq ?_
  refine tr_seq ?_
  refine tr_region fun _ _ _ => ?_
  iterate 2 refine pu rfl rfl rfl rfl rfl ?_
  refine tr_cond_bool rfl (fun h2 => ?_) (fun h2 => ?_)
  · try simp only [zbA] at h2
    refine tr_region fun _ _ _ => ?_
    refine st rfl rfl rfl rfl (rFld rfl rfl) ?_
    refine st rfl rfl rfl rfl (rLdSF rfl rfl) ?_
    refine pu rfl rfl rfl rfl rfl ?_
    refine st rfl rfl rfl rfl (rFld rfl rfl) ?_
    refine st rfl rfl rfl rfl (rLdF rfl rfl rfl) ?_
    refine ef rfl rfl (eCallV rfl rfl rfl (ref_CListC p m A c mod w X nx cx l hnx hl) ⟨rfl, rfl, rfl, trivial⟩ ?_) 
    refine pu rfl rfl rfl rfl rfl ?_
    refine tr_seq ?_
    refine tr_region fun _ _ _ => ?_
    iterate 2 refine pu rfl rfl rfl rfl rfl ?_
    exact tr_ret ⟨trivial, _, _, rfl, ⟨rfl, rfl⟩, CSub.nil _, trivial⟩
  · try simp only [zbA] at h2
    omega --done
end Go.Proofs.YtoalphamojhpcaaGreat

set_option linter.unusedSimpArgs false
set_option linter.unusedVariables false
set_option linter.unusedSectionVars false
namespace Go.Proofs.YtoalphamojhpcaaGreat
open Go.RowKit
namespace Vc
section
variable {K : Type} [Fd K] {W : Vc K → Prop} {n c : Nat} {ps : List Nat}
end
end Vc
theorem xss_take1 {rs : List RowM} {j : Nat} (h : j < rs.length) : (xss rs).take (j + 1) = (xss rs).take j ++ [(rs.getD j rowD).xs] := by
  rw [List.take_add_one, List.getElem?_eq_getElem (show j < (xss rs).length by rw [xss_length]; exact h)]
  have := xss_getD rs j
  rw [List.getD_eq_getElem?_getD, List.getElem?_eq_getElem (show j < (xss rs).length by rw [xss_length]; exact h)] at this
  rw [← this]; rfl
def pkL (os xs : List Int) : List Int := os.map fun i => xs.getD i.toNat 0
theorem pkL_length (os xs : List Int) : (pkL os xs).length = os.length := by simp [pkL]
theorem pkL_getD {os xs : List Int} {j : Nat} (h : j < os.length) : (pkL os xs).getD j 0 = xs.getD (os.getD j 0).toNat 0 := by
  rw [pkL, List.getD_eq_getElem?_getD, List.getElem?_map, List.getElem?_eq_getElem h, List.getD_eq_getElem?_getD (l := os), List.getElem?_eq_getElem h]; rfl
theorem pkL_in {q : Int} (hq : 1 ≤ q) {os xs : List Int} (h : AllIn q xs) : AllIn q (pkL os xs) := fun y hy => by
  obtain ⟨i, _, rfl⟩ := List.mem_map.1 hy
  exact h.get hq _
theorem toN_getD (os : List Int) (j : Nat) : (os.map Int.toNat).getD j 0 = (os.getD j 0).toNat := by
  rw [List.getD_eq_getElem?_getD, List.getElem?_map, List.getD_eq_getElem?_getD]
  cases os[j]? <;> rfl
section
variable {p m : Int} {mod : List Int} [hF : IsF p m mod]
theorem rw_pk (os xs : List Int) : (rw' (pkL os xs) : Vc (El p m mod)) = Vc.pk (os.map Int.toNat) (rw' xs) := Vc.ext fun j => by
  unfold Vc.pk
  rw [List.length_map]
  by_cases h : j < os.length
  · rw [if_pos h, rw_at, pkL_getD h, rw_at, toN_getD]
  · rw [if_neg h, rw_at, getD_out (by rw [pkL_length]; omega), el_zero]
theorem vsR_pk {qs rs : List RowM} {os : List Int} (h : xss qs = (xss rs).map (pkL os)) : (vsR qs : List (Vc (El p m mod))) = (vsR rs).map (Vc.pk (os.map Int.toNat)) := by
  rw [vsR_xss, vsR_xss, h, List.map_map, List.map_map]
  exact List.map_congr_left fun xs _ => rw_pk os xs
theorem gd_pk {q : Int} (hq : 1 ≤ q) {w : Nat} {qs rs : List RowM} {os : List Int} (hg : Gd q w rs) (h : xss qs = (xss rs).map (pkL os)) : Gd q os.length qs := fun r hr => by
  have h1 : r.xs ∈ xss qs := List.mem_map.2 ⟨r, hr, rfl⟩
  rw [h] at h1
  obtain ⟨xs, hx, he⟩ := List.mem_map.1 h1
  obtain ⟨r', hr', rfl⟩ := List.mem_map.1 hx
  rw [← he]
  exact ⟨pkL_length _ _, pkL_in hq (hg r' hr').2⟩
noncomputable def indB (p m : Int) (mod : List Int) [hF : IsF p m mod] (rs : List RowM) (os : List Int) : Bool := @decide (Vc.Ind (vsR rs : List (Vc (El p m mod))) (os.map Int.toNat)) (Classical.propDecidable _)
theorem indB_iff {rs : List RowM} {os : List Int} : indB p m mod rs os = true ↔ Vc.Ind (vsR rs : List (Vc (El p m mod))) (os.map Int.toNat) := by unfold indB; exact @decide_eq_true_iff _ (Classical.propDecidable _)
def BasOf (p m : Int) (mod : List Int) [hF : IsF p m mod] (rs : List RowM) (o bs : List Int) : Prop := ∃ (E : List (Vc (El p m mod))) (qs : List Nat), Vc.Rr o.length E qs ∧ (∀ u, Vc.SpL E u ↔ Vc.SpL ((vsR rs).map (Vc.pk (o.map Int.toNat))) u) ∧ bs = qs.map fun q => o.getD q 0
theorem BasOf.one {rs : List RowM} {o a b : List Int} (h : BasOf p m mod rs o a) (k : BasOf p m mod rs o b) : a = b := by
  obtain ⟨E, qs, h1, h2, rfl⟩ := h
  obtain ⟨E', qs', k1, k2, rfl⟩ := k
  rw [(h1.uniq k1 fun u => (h2 u).trans (k2 u).symm).2]
end
end Go.Proofs.YtoalphamojhpcaaGreat

set_option linter.unusedSimpArgs false
set_option linter.unusedVariables false
set_option maxRecDepth 100000
namespace Go.Proofs.YtoalphamojhpcaaGreat
open Go.RowKit
theorem slc_insF_ent : Enters Tryz.prog 169 := enters_of Tryz.func169 (by kernel_rfl) (by kernel_rfl)
theorem slc_insF (A : Option Addr) (n c : Nat) (xs : List Int) (hn : n = xs.length) (h9 : xs.length ≤ 1000000) (a b : Int) (ha : 0 ≤ a) (hab : a ≤ b) (hb : b ≤ xs.length) (f : FuncId) (lb : List Value) (Gc : List Chunk) (r : Int → Int) (hr : ∀ x, 0 ≤ r x ∧ r x ≤ 4294967296) (hf : ∀ x ∈ xs, ∀ y ∈ xs, Pure Tryz.prog f ([Value.int .i64 x, Value.int .i64 y] ++ lb).toArray Gc (isV (.int .i64 (r y - r x)))) (ht : Tie r (gd xs) a.toNat b.toNat) :
    Mut Tryz.prog 169 #[.slice A n c, .int .i64 a, .int .i64 b, .func (.func f) #[] lb.toArray] [ow A 3 c (ints xs)] [bun Gc] (one (fun v ch => v = .tuple #[] ∧ ∃ ys : List Int, ch = ow A 3 c (ints ys) ∧ SrtTo r xs ys a.toNat b.toNat)) := by
  refine mut_of (args := [.slice A n c, .int .i64 a, .int .i64 b, .func (.func f) #[] lb.toArray]) 53 (F := [ow A 3 c (ints xs), bun Gc]) rfl Tryz.func169 rfl rfl rfl slc_insF_ent (fun w0 => ?_)
  refine tr_seq ?_
  refine tr_region fun _ _ _ => ?_
  refine pu rfl rfl rfl rfl rfl ?_
  refine st rfl rfl rfl rfl (rAdd rfl rfl rfl (by omega) (by omega)) ?_
  refine pu rfl rfl rfl rfl rfl ?_
  refine tr_block ?_
  refine tr_loop2 (fun (i : Int) (ys : List Int) => [(0, .slice A n c), (8, .int .i64 i), (1, .int .i64 a), (2, .int .i64 b), (3, .func (.func f) #[] lb.toArray)]) (fun (i : Int) (ys : List Int) => [ow A 3 c (ints ys), bun Gc]) (fun (i : Int) (ys : List Int) => (a + 1 ≤ i ∧ (i ≤ b ∨ i = a + 1)) ∧ ys.Perm xs ∧ Frm (gd xs) (gd ys) a.toNat b.toNat ∧ Srt r (gd ys) a.toNat i.toNat ∧ Tie r (gd ys) a.toNat b.toNat) (fun (i : Int) (ys : List Int) => (b - i).toNat) ((a + 1)) (xs) ⟨rfl, rfl, rfl, rfl, rfl, trivial⟩ (by first | exact cs _ _ | exact CSub.refl _) (⟨⟨by omega, .inr rfl⟩, List.Perm.refl _, Frm.refl _ _ _, fun u v h1 h2 h3 => by omega, ht⟩) (fun i ys hI => ?_)
  obtain ⟨⟨hi0, hi1⟩, hp0, hfr0, hs0, ht0⟩ := hI
  have hyl := hp0.length_eq
  refine tr_seq ?_
  refine tr_seq ?_
  refine tr_region fun _ _ _ => ?_
  iterate 3 refine pu rfl rfl rfl rfl rfl ?_
  refine tr_cond_bool rfl (fun h1 => ?_) (fun h1 => ?_)
  · try simp only [zbA] at h1
    refine tr_skip ?_
    refine tr_seq ?_
    refine tr_block ?_
    refine tr_seq ?_
    refine tr_region fun _ _ _ => ?_
    iterate 2 refine pu rfl rfl rfl rfl rfl ?_
    refine tr_block ?_
    refine tr_loop2 (fun (j : Int) (zs : List Int) => [(0, .slice A n c), (9, .int .i64 j), (1, .int .i64 a), (2, .int .i64 b), (3, .func (.func f) #[] lb.toArray), (8, .int .i64 i), (12, .int .i64 i), (13, .int .i64 b), (17, .int .i64 i)]) (fun (j : Int) (zs : List Int) => [ow A 3 c (ints zs), bun Gc]) (fun (j : Int) (zs : List Int) => (a ≤ j ∧ j ≤ i) ∧ zs.Perm xs ∧ Frm (gd xs) (gd zs) a.toNat b.toNat ∧ InsJ r (gd zs) a.toNat b.toNat i.toNat j.toNat) (fun (j : Int) (zs : List Int) => j.toNat) (i) (ys) ⟨rfl, rfl, rfl, rfl, rfl, rfl, rfl, rfl, rfl, trivial⟩ (by first | exact cs _ _ | exact CSub.refl _) (⟨⟨by omega, by omega⟩, hp0, hfr0, InsJ.start hs0 ht0 (by omega)⟩) (fun j zs hI => ?_)
    obtain ⟨⟨hj0, hj1⟩, hp, hfr, hJ⟩ := hI
    have hzl := hp.length_eq
    have hm1 : zs.getD j.toNat 0 ∈ xs := hp.mem_iff.1 (getD_mem (show (j.toNat) < zs.length by omega) 0)
    have hm2 : zs.getD (j - 1).toNat 0 ∈ xs := hp.mem_iff.1 (getD_mem (show ((j - 1).toNat) < zs.length by omega) 0)
    have hb1 := hr (zs.getD j.toNat 0)
    have hb2 := hr (zs.getD (j - 1).toNat 0)
    refine tr_seq ?_
    refine tr_seq ?_
    refine tr_draw [0, 1, 2, 3, 4, 5, 6, 7, 8, 9, 10, 11, 12, 13, 14, 15, 16] [] mixed (by kernel_rfl) fun _ _ _ => ?_
    iterate 4 refine pu rfl rfl rfl rfl rfl ?_
    refine stg rfl rfl rfl rfl rfl (fun hb => by (have hq := hb; try simp only [zbA] at hq); exact rMove rfl rfl) ?_
    refine stg rfl rfl rfl rfl rfl (fun hb => by (have hq := hb; try simp only [zbA] at hq); exact rMove rfl rfl) ?_
    refine stg rfl rfl rfl rfl rfl (fun hb => by (have hq := hb; try simp only [zbA] at hq); exact rMove rfl rfl) ?_
    refine stg rfl rfl rfl rfl rfl (fun hb => by (have hq := hb; try simp only [zbA] at hq); exact rIdxI rfl (evg rfl hb) (evg rfl hb) (by omega) (by omega) (by omega)) ?_
    refine stg rfl rfl rfl rfl rfl (fun hb => by (have hq := hb; try simp only [zbA] at hq); exact rLdI rfl (evg rfl hb) (by omega)) ?_
    refine stg rfl rfl rfl rfl rfl (fun hb => by (have hq := hb; try simp only [zbA] at hq); exact rMove rfl rfl) ?_
    refine stg rfl rfl rfl rfl rfl (fun hb => by (have hq := hb; try simp only [zbA] at hq); exact rMove rfl rfl) ?_
    refine stg rfl rfl rfl rfl rfl (fun hb => by (have hq := hb; try simp only [zbA] at hq); exact rSub rfl (evg rfl hb) rfl (by omega) (by omega)) ?_
    refine stg rfl rfl rfl rfl rfl (fun hb => by (have hq := hb; try simp only [zbA] at hq); exact rIdxI rfl (evg rfl hb) (evg rfl hb) (by omega) (by omega) (by omega)) ?_
    refine stg rfl rfl rfl rfl rfl (fun hb => by (have hq := hb; try simp only [zbA] at hq); exact rLdI rfl (evg rfl hb) (by omega)) ?_
    refine efg rfl rfl rfl rfl rfl (fun hb => by (have hq := hb; try simp only [zbA] at hq); exact eCallFV rfl rfl rfl (evg rfl hb) (hf _ hm1 _ hm2) ⟨(evg rfl hb), (evg rfl hb), trivial⟩ ent_bun ⟨rfl, rfl⟩) ?_
    refine stg rfl rfl rfl rfl rfl (fun hb => by (have hq := hb; try simp only [zbA] at hq); exact rLss rfl (evg rfl hb) rfl) ?_
    refine st rfl rfl rfl rfl (rAndB rfl rfl rfl rfl) ?_
    refine tr_cond_bool rfl (fun h4 => ?_) (fun h4 => ?_)
    · try simp only [zbA] at h4
      refine tr_skip ?_
      refine tr_seq ?_
      refine tr_block ?_
      refine tr_plan [] [(0, 0), (0, 1), (2, 2), (2, 3), (2, 4), (0, 5), (0, 6), (0, 7), (0, 8), (0, 9), (0, 10), (0, 11), (0, 12), (0, 13), (0, 14), (1, 15), (0, 16), (1, 17)] mixed (by kernel_rfl) fun _ _ _ => ?_
      iterate 2 refine pu rfl rfl rfl rfl rfl ?_
      refine stF rfl rfl rfl rfl (cs _ _) (rMove rfl rfl) ?_
      refine stF rfl rfl rfl rfl (cs _ _) (rMove rfl rfl) ?_
      refine stF rfl rfl rfl rfl (cs _ _) (rSub rfl rfl rfl (by omega) (by omega)) ?_
      iterate 2 refine pu rfl rfl rfl rfl rfl ?_
      refine st rfl rfl rfl rfl (rSub rfl rfl rfl (by omega) (by omega)) ?_
      refine st rfl rfl rfl rfl (rIdxI rfl rfl rfl (by omega) (by omega) (by omega)) ?_
      refine st rfl rfl rfl rfl (rLdI rfl rfl (by omega)) ?_
      iterate 2 refine pu rfl rfl rfl rfl rfl ?_
      refine st rfl rfl rfl rfl (rIdxI rfl rfl rfl (by omega) (by omega) (by omega)) ?_
      refine st rfl rfl rfl rfl (rLdI rfl rfl (by omega)) ?_
      refine st rfl rfl rfl rfl (rIdxI rfl rfl rfl (by omega) (by omega) (by omega)) ?_
      refine ef rfl rfl (eStI rfl rfl rfl rfl (by omega) ?_) 
      refine ⟨cs _ _, ?_⟩
      refine st rfl rfl rfl rfl (rIdxI rfl rfl rfl (by omega) (by omega) (by rw [List.length_set]; omega)) ?_
      refine ef rfl rfl (eStI rfl rfl rfl rfl (by rw [List.length_set]; omega) ?_) 
      refine ⟨cs _ _, ?_⟩
      refine tr_region fun _ _ _ => ?_
      refine pu rfl rfl rfl rfl rfl ?_
      refine st rfl rfl rfl rfl (rSub rfl rfl rfl (by omega) (by omega)) ?_
      refine pu rfl rfl rfl rfl rfl ?_
      refine ⟨j - 1, swL zs j.toNat (j - 1).toNat, ⟨rfl, rfl, rfl, rfl, rfl, rfl, rfl, rfl, rfl, trivial⟩, by first | exact cs _ _ | exact CSub.refl _, ?_⟩
      have e := gd_swL (xs := zs) (i := j.toNat) (j := (j - 1).toNat) (by omega) (by omega)
      refine ⟨⟨⟨by omega, by omega⟩, (swL_perm (by omega) (by omega)).trans hp, ?_, ?_⟩, by omega⟩
      · rw [e]; exact hfr.trans (swp_frm _ (by omega) (by omega) (by omega) (by omega))
      · rw [e, show (j - 1).toNat = j.toNat - 1 by omega]
        refine hJ.step (by omega) (by omega) (by omega) ?_
        have e2 : (gd zs) (j.toNat - 1) = zs.getD (j - 1).toNat 0 := by rw [show (j - 1).toNat = j.toNat - 1 by omega]; rfl
        rw [e2]
        show _ < r (zs.getD j.toNat 0)
        omega
    · try simp only [zbA] at h4
      refine tr_exit ?_
      refine tr_region fun _ _ _ => ?_
      refine pu rfl rfl rfl rfl rfl ?_
      refine st rfl rfl rfl rfl (rAdd rfl rfl rfl (by omega) (by omega)) ?_
      refine pu rfl rfl rfl rfl rfl ?_
      refine ⟨i + 1, zs, ⟨rfl, rfl, rfl, rfl, rfl, trivial⟩, by first | exact cs _ _ | exact CSub.refl _, ?_⟩
      have hst := hJ.stop (by omega) (by omega) (by omega) (by
        by_cases hja : j = a
        · exact .inl (by omega)
        · refine .inr ?_
          have e : (gd zs) (j.toNat - 1) = zs.getD (j - 1).toNat 0 := by rw [show (j - 1).toNat = j.toNat - 1 by omega]; rfl
          rw [e]
          show r (zs.getD j.toNat 0) ≤ _
          omega)
      exact ⟨⟨⟨by omega, .inl (by omega)⟩, hp, hfr, by rw [show (i + 1).toNat = i.toNat + 1 by omega]; exact hst.1, hst.2⟩, by omega⟩
  · try simp only [zbA] at h1
    refine tr_exit ?_
    have hsf : Srt r (gd ys) a.toNat b.toNat := hs0.sub (Nat.le_refl _) (by omega)
    exact ⟨trivial, _, _, .nil, ⟨_, rfl, rfl, ys, rfl, ⟨hp0, hfr0, hsf⟩⟩, cs _ _, trivial, trivial⟩
theorem slc_swr_ent : Enters Tryz.prog 178 := enters_of Tryz.func178 (by kernel_rfl) (by kernel_rfl)
theorem slc_swr (A : Option Addr) (n c : Nat) (xs : List Int) (hn : n = xs.length) (h9 : xs.length ≤ 1000000) (a b z : Int) (ha : 0 ≤ a) (hn0 : 0 ≤ z) (hab : a + z ≤ b) (hb : b + z ≤ xs.length) (fv : Value) :
    Mut Tryz.prog 178 #[.slice A n c, .int .i64 a, .int .i64 b, .int .i64 z, fv] [ow A 3 c (ints xs)] [] (one (fun v ch => v = .tuple #[] ∧ ∃ ys : List Int, ch = ow A 3 c (ints ys) ∧ ys.Perm xs ∧ gd ys = swr (gd xs) a.toNat b.toNat z.toNat)) := by
  refine mut_of (args := [.slice A n c, .int .i64 a, .int .i64 b, .int .i64 z, fv]) 38 (F := [ow A 3 c (ints xs)]) rfl Tryz.func178 rfl rfl rfl slc_swr_ent (fun w0 => ?_)
  refine tr_seq ?_
  refine tr_region fun _ _ _ => ?_
  refine pu rfl rfl rfl rfl rfl ?_
  refine tr_block ?_
  refine tr_loop2 (fun (i : Int) (zs : List Int) => [(0, .slice A n c), (10, .int .i64 i), (1, .int .i64 a), (2, .int .i64 b), (3, .int .i64 z)]) (fun (i : Int) (zs : List Int) => [ow A 3 c (ints zs)]) (fun (i : Int) (zs : List Int) => (0 ≤ i ∧ i ≤ z) ∧ zs.Perm xs ∧ gd zs = swr (gd xs) a.toNat b.toNat i.toNat) (fun (i : Int) (zs : List Int) => (z - i).toNat) (0) (xs) ⟨rfl, rfl, rfl, rfl, rfl, trivial⟩ (by first | exact cs _ _ | exact CSub.refl _) (⟨⟨by omega, by omega⟩, List.Perm.refl _, by rw [Int.toNat_zero, swr_zero]⟩) (fun i zs hI => ?_)
  obtain ⟨⟨hi0, hi1⟩, hp, hg⟩ := hI
  have hzl := hp.length_eq
  refine tr_seq ?_
  refine tr_seq ?_
  refine tr_region fun _ _ _ => ?_
  iterate 3 refine pu rfl rfl rfl rfl rfl ?_
  refine tr_cond_bool rfl (fun h1 => ?_) (fun h1 => ?_)
  · try simp only [zbA] at h1
    refine tr_skip ?_
    refine tr_seq ?_
    refine tr_block ?_
    refine tr_plan [] [(0, 0), (0, 1), (0, 2), (0, 3), (2, 4), (2, 5), (2, 6), (2, 7), (0, 8), (0, 9), (0, 10), (0, 11), (0, 12), (0, 13), (0, 14), (0, 15), (0, 16), (0, 17), (0, 18), (0, 19), (0, 20), (1, 21), (0, 22), (1, 23)] mixed (by kernel_rfl) fun _ _ _ => ?_
    iterate 3 refine pu rfl rfl rfl rfl rfl ?_
    refine st rfl rfl rfl rfl (rAdd rfl rfl rfl (by omega) (by omega)) ?_
    refine stF rfl rfl rfl rfl (cs _ _) (rMove rfl rfl) ?_
    refine stF rfl rfl rfl rfl (cs _ _) (rMove rfl rfl) ?_
    refine stF rfl rfl rfl rfl (cs _ _) (rMove rfl rfl) ?_
    refine stF rfl rfl rfl rfl (cs _ _) (rAdd rfl rfl rfl (by omega) (by omega)) ?_
    iterate 3 refine pu rfl rfl rfl rfl rfl ?_
    refine st rfl rfl rfl rfl (rAdd rfl rfl rfl (by omega) (by omega)) ?_
    refine st rfl rfl rfl rfl (rIdxI rfl rfl rfl (by omega) (by omega) (by omega)) ?_
    refine st rfl rfl rfl rfl (rLdI rfl rfl (by omega)) ?_
    iterate 3 refine pu rfl rfl rfl rfl rfl ?_
    refine st rfl rfl rfl rfl (rAdd rfl rfl rfl (by omega) (by omega)) ?_
    refine st rfl rfl rfl rfl (rIdxI rfl rfl rfl (by omega) (by omega) (by omega)) ?_
    refine st rfl rfl rfl rfl (rLdI rfl rfl (by omega)) ?_
    refine st rfl rfl rfl rfl (rIdxI rfl rfl rfl (by omega) (by omega) (by omega)) ?_
    refine ef rfl rfl (eStI rfl rfl rfl rfl (by omega) ?_) 
    refine ⟨cs _ _, ?_⟩
    refine st rfl rfl rfl rfl (rIdxI rfl rfl rfl (by omega) (by omega) (by rw [List.length_set]; omega)) ?_
    refine ef rfl rfl (eStI rfl rfl rfl rfl (by rw [List.length_set]; omega) ?_) 
    refine ⟨cs _ _, ?_⟩
    refine tr_region fun _ _ _ => ?_
    refine pu rfl rfl rfl rfl rfl ?_
    refine st rfl rfl rfl rfl (rAdd rfl rfl rfl (by omega) (by omega)) ?_
    refine pu rfl rfl rfl rfl rfl ?_
    refine ⟨i + 1, swL zs (a + i).toNat (b + i).toNat, ⟨rfl, rfl, rfl, rfl, rfl, trivial⟩, by first | exact cs _ _ | exact CSub.refl _, ?_⟩
    have e := gd_swL (xs := zs) (i := (a + i).toNat) (j := (b + i).toNat) (by omega) (by omega)
    refine ⟨⟨⟨by omega, by omega⟩, (swL_perm (by omega) (by omega)).trans hp, ?_⟩, by omega⟩
    rw [e, hg, show (a + i).toNat = a.toNat + i.toNat by omega, show (b + i).toNat = b.toNat + i.toNat by omega, show (i + 1).toNat = i.toNat + 1 by omega]
    exact swr_succ _ (by omega)
  · try simp only [zbA] at h1
    refine tr_exit ?_
    have hin : i = z := by omega
    rw [hin] at hg
    exact ⟨trivial, _, _, .nil, ⟨_, rfl, rfl, zs, rfl, ⟨hp, hg⟩⟩, cs _ _, trivial, trivial⟩
theorem slc_rot_ent : Enters Tryz.prog 177 := enters_of Tryz.func177 (by kernel_rfl) (by kernel_rfl)
theorem slc_rot (A : Option Addr) (n c : Nat) (xs : List Int) (hn : n = xs.length) (h9 : xs.length ≤ 1000000) (a m b : Int) (ha : 0 ≤ a) (ham : a < m) (hmb : m < b) (hb : b ≤ xs.length) (fv : Value) :
    Mut Tryz.prog 177 #[.slice A n c, .int .i64 a, .int .i64 m, .int .i64 b, fv] [ow A 3 c (ints xs)] [] (one (fun v ch => v = .tuple #[] ∧ ∃ ys : List Int, ch = ow A 3 c (ints ys) ∧ ys.Perm xs ∧ gd ys = rot (gd xs) a.toNat m.toNat b.toNat)) := by
  refine mut_of (args := [.slice A n c, .int .i64 a, .int .i64 m, .int .i64 b, fv]) 58 (F := [ow A 3 c (ints xs)]) rfl Tryz.func177 rfl rfl rfl slc_rot_ent (fun w0 => ?_)
  refine tr_seq ?_
  refine tr_region fun _ _ _ => ?_
  iterate 2 refine pu rfl rfl rfl rfl rfl ?_
  refine st rfl rfl rfl rfl (rSub rfl rfl rfl (by omega) (by omega)) ?_
  refine pu rfl rfl rfl rfl rfl ?_
  refine tr_seq ?_
  refine tr_region fun _ _ _ => ?_
  iterate 2 refine pu rfl rfl rfl rfl rfl ?_
  refine st rfl rfl rfl rfl (rSub rfl rfl rfl (by omega) (by omega)) ?_
  refine pu rfl rfl rfl rfl rfl ?_
  refine tr_seq ?_
  refine tr_block ?_
  refine tr_loop3 (fun (i : Int) (j : Int) (zs : List Int) => [(0, .slice A n c), (10, .int .i64 i), (11, .int .i64 j), (2, .int .i64 m), (4, fv)]) (fun (i : Int) (j : Int) (zs : List Int) => [ow A 3 c (ints zs)]) (fun (i : Int) (j : Int) (zs : List Int) => (1 ≤ i ∧ i ≤ m - a ∧ 1 ≤ j ∧ m + j ≤ b) ∧ zs.Perm xs ∧ rot (gd zs) (m.toNat - i.toNat) m.toNat (m.toNat + j.toNat) = rot (gd xs) a.toNat m.toNat b.toNat) (fun (i : Int) (j : Int) (zs : List Int) => (i + j).toNat) ((m - a)) ((b - m)) (xs) ⟨rfl, rfl, rfl, rfl, rfl, trivial⟩ (by first | exact cs _ _ | exact CSub.refl _) (⟨⟨by omega, by omega, by omega, by omega⟩, List.Perm.refl _, by rw [show m.toNat - (m - a).toNat = a.toNat by omega, show m.toNat + (b - m).toNat = b.toNat by omega]⟩) (fun i j zs hI => ?_)
  obtain ⟨⟨hi0, hi1, hj0, hj1⟩, hp, hg⟩ := hI
  have hzl := hp.length_eq
  refine tr_seq ?_
  refine tr_seq ?_
  refine tr_region fun _ _ _ => ?_
  iterate 3 refine pu rfl rfl rfl rfl rfl ?_
  refine tr_cond_bool rfl (fun h2 => ?_) (fun h2 => ?_)
  · try simp only [zbA] at h2
    refine tr_skip ?_
    refine tr_block ?_
    refine tr_seq ?_
    refine tr_region fun _ _ _ => ?_
    iterate 3 refine pu rfl rfl rfl rfl rfl ?_
    refine tr_cond_bool rfl (fun h3 => ?_) (fun h3 => ?_)
    · try simp only [zbA] at h3
      refine tr_seq ?_
      refine tr_region fun _ _ _ => ?_
      iterate 3 refine pu rfl rfl rfl rfl rfl ?_
      refine st rfl rfl rfl rfl (rSub rfl rfl rfl (by omega) (by omega)) ?_
      iterate 3 refine pu rfl rfl rfl rfl rfl ?_
      refine ef rfl rfl (eCallM1 rfl rfl rfl (slc_swr A n c zs (by omega) (by omega) (m - i) m j (by omega) (by omega) (by omega) (by omega) _) ⟨rfl, rfl, rfl, rfl, rfl, trivial⟩ ?_) 
      rintro _ _ ⟨rfl, us, rfl, hpu, hgu⟩
      refine tr_region fun _ _ _ => ?_
      iterate 2 refine pu rfl rfl rfl rfl rfl ?_
      refine st rfl rfl rfl rfl (rSub rfl rfl rfl (by omega) (by omega)) ?_
      refine pu rfl rfl rfl rfl rfl ?_
      refine ⟨i - j, j, us, ⟨rfl, rfl, rfl, rfl, rfl, trivial⟩, by first | exact cs _ _ | exact CSub.refl _, ?_⟩
      refine ⟨⟨⟨by omega, by omega, by omega, by omega⟩, hpu.trans hp, ?_⟩, by omega⟩
      rw [← hg, hgu, show (m - i).toNat = m.toNat - i.toNat by omega, show m.toNat - (i - j).toNat = m.toNat - i.toNat + j.toNat by omega]
      exact rot_gt _ (by omega) (by omega)
    · try simp only [zbA] at h3
      refine tr_seq ?_
      refine tr_region fun _ _ _ => ?_
      iterate 3 refine pu rfl rfl rfl rfl rfl ?_
      refine st rfl rfl rfl rfl (rSub rfl rfl rfl (by omega) (by omega)) ?_
      iterate 2 refine pu rfl rfl rfl rfl rfl ?_
      refine st rfl rfl rfl rfl (rAdd rfl rfl rfl (by omega) (by omega)) ?_
      refine pu rfl rfl rfl rfl rfl ?_
      refine st rfl rfl rfl rfl (rSub rfl rfl rfl (by omega) (by omega)) ?_
      iterate 2 refine pu rfl rfl rfl rfl rfl ?_
      refine ef rfl rfl (eCallM1 rfl rfl rfl (slc_swr A n c zs (by omega) (by omega) (m - i) (m + j - i) i (by omega) (by omega) (by omega) (by omega) _) ⟨rfl, rfl, rfl, rfl, rfl, trivial⟩ ?_) 
      rintro _ _ ⟨rfl, us, rfl, hpu, hgu⟩
      refine tr_region fun _ _ _ => ?_
      iterate 2 refine pu rfl rfl rfl rfl rfl ?_
      refine st rfl rfl rfl rfl (rSub rfl rfl rfl (by omega) (by omega)) ?_
      refine pu rfl rfl rfl rfl rfl ?_
      refine ⟨i, j - i, us, ⟨rfl, rfl, rfl, rfl, rfl, trivial⟩, by first | exact cs _ _ | exact CSub.refl _, ?_⟩
      refine ⟨⟨⟨by omega, by omega, by omega, by omega⟩, hpu.trans hp, ?_⟩, by omega⟩
      rw [← hg, hgu, show (m - i).toNat = m.toNat - i.toNat by omega, show (m + j - i).toNat = m.toNat + j.toNat - i.toNat by omega, show (j - i).toNat = j.toNat - i.toNat by omega]
      exact rot_lt _ (by omega) (by omega)
  · try simp only [zbA] at h2
    refine tr_exit ?_
    refine tr_region fun _ _ _ => ?_
    iterate 3 refine pu rfl rfl rfl rfl rfl ?_
    refine st rfl rfl rfl rfl (rSub rfl rfl rfl (by omega) (by omega)) ?_
    iterate 3 refine pu rfl rfl rfl rfl rfl ?_
    refine ef rfl rfl (eCallM1 rfl rfl rfl (slc_swr A n c zs (by omega) (by omega) (m - i) m i (by omega) (by omega) (by omega) (by omega) _) ⟨rfl, rfl, rfl, rfl, rfl, trivial⟩ ?_) 
    rintro _ _ ⟨rfl, us, rfl, hpu, hgu⟩
    have hij : i = j := by omega
    have hfin : gd us = rot (gd xs) a.toNat m.toNat b.toNat := by
      rw [← hg, hgu, ← hij, show (m - i).toNat = m.toNat - i.toNat by omega]
      exact rot_eq _ (by omega)
    exact ⟨trivial, _, _, .nil, ⟨_, rfl, rfl, us, rfl, ⟨hpu.trans hp, hfin⟩⟩, cs _ _, trivial, trivial⟩
theorem slc_symS_ent : Enters Tryz.prog 170 := enters_of Tryz.func170 (by kernel_rfl) (by kernel_rfl)
theorem slc_symS (A : Option Addr) (n c : Nat) (xs : List Int) (hn : n = xs.length) (h9 : xs.length ≤ 1000000) (a m b : Int) (ha : 0 ≤ a) (ham : a < m) (hmb : m < b) (hb : b ≤ xs.length) (f : FuncId) (lb : List Value) (Gc : List Chunk) (r : Int → Int) (hr : ∀ x, 0 ≤ r x ∧ r x ≤ 4294967296) (hf : ∀ x ∈ xs, ∀ y ∈ xs, Pure Tryz.prog f ([Value.int .i64 x, Value.int .i64 y] ++ lb).toArray Gc (isV (.int .i64 (r y - r x)))) (hA : Srt r (gd xs) a.toNat m.toNat) (hB : Srt r (gd xs) m.toNat b.toNat) (hc : Crs r (gd xs) a.toNat m.toNat b.toNat) (ih : ∀ (xs' : List Int) (a' m' b' : Int), xs'.length = xs.length → xs'.Perm xs → 0 ≤ a' → a' < m' → m' < b' → b' ≤ xs.length → b' - a' < b - a → Srt r (gd xs') a'.toNat m'.toNat → Srt r (gd xs') m'.toNat b'.toNat → Crs r (gd xs') a'.toNat m'.toNat b'.toNat → Mut Tryz.prog 170 #[.slice A n c, .int .i64 a', .int .i64 m', .int .i64 b', .func (.func f) #[] lb.toArray] [ow A 3 c (ints xs')] [bun Gc] (one (fun v ch => v = .tuple #[] ∧ ∃ ys : List Int, ch = ow A 3 c (ints ys) ∧ SrtTo r xs' ys a'.toNat b'.toNat))) :
    Mut Tryz.prog 170 #[.slice A n c, .int .i64 a, .int .i64 m, .int .i64 b, .func (.func f) #[] lb.toArray] [ow A 3 c (ints xs)] [bun Gc] (one (fun v ch => v = .tuple #[] ∧ ∃ ys : List Int, ch = ow A 3 c (ints ys) ∧ SrtTo r xs ys a.toNat b.toNat)) := by
  refine mut_of (args := [.slice A n c, .int .i64 a, .int .i64 m, .int .i64 b, .func (.func f) #[] lb.toArray]) 220 (F := [ow A 3 c (ints xs), bun Gc]) rfl Tryz.func170 rfl rfl rfl slc_symS_ent (fun w0 => ?_)
  refine tr_seq ?_
  refine tr_seq ?_
  refine tr_region fun _ _ _ => ?_
  iterate 2 refine pu rfl rfl rfl rfl rfl ?_
  refine st rfl rfl rfl rfl (rSub rfl rfl rfl (by omega) (by omega)) ?_
  refine pu rfl rfl rfl rfl rfl ?_
  refine tr_cond_bool rfl (fun h0 => ?_) (fun h0 => ?_)
  · try simp only [zbA] at h0
    refine tr_seq ?_
    refine tr_region fun _ _ _ => ?_
    iterate 2 refine pu rfl rfl rfl rfl rfl ?_
    refine tr_seq ?_
    refine tr_region fun _ _ _ => ?_
    iterate 2 refine pu rfl rfl rfl rfl rfl ?_
    refine tr_seq ?_
    refine tr_block ?_
    refine tr_loop2 (fun (i : Int) (j : Int) => [(0, .slice A n c), (1, .int .i64 a), (2, .int .i64 m), (3, .int .i64 b), (4, .func (.func f) #[] lb.toArray), (10, .int .i64 i), (11, .int .i64 j)]) (fun (i : Int) (j : Int) => [ow A 3 c (ints xs), bun Gc]) (fun (i : Int) (j : Int) => (m ≤ i ∧ i ≤ j ∧ j ≤ b) ∧ (∀ u : Nat, a.toNat + 1 ≤ u → u < i.toNat → r (gd xs a.toNat) < r (gd xs u)) ∧ ∀ u : Nat, j.toNat ≤ u → u < b.toNat → r (gd xs u) ≤ r (gd xs a.toNat)) (fun (i : Int) (j : Int) => (j - i).toNat) (m) (b) ⟨rfl, rfl, rfl, rfl, rfl, rfl, rfl, trivial⟩ (by first | exact cs _ _ | exact CSub.refl _) (⟨⟨by omega, by omega, by omega⟩, fun u h1 h2 => by omega, fun u h1 h2 => by omega⟩) (fun i j hI => ?_)
    obtain ⟨⟨hi0, hij, hj1⟩, hlo, hup⟩ := hI
    refine tr_seq ?_
    refine tr_seq ?_
    refine tr_region fun _ _ _ => ?_
    iterate 3 refine pu rfl rfl rfl rfl rfl ?_
    refine tr_cond_bool rfl (fun h3 => ?_) (fun h3 => ?_)
    · try simp only [zbA] at h3
      refine tr_skip ?_
      refine tr_block ?_
      refine tr_seq ?_
      refine tr_region fun _ _ _ => ?_
      iterate 2 refine pu rfl rfl rfl rfl rfl ?_
      refine st rfl rfl rfl rfl (rAdd rfl rfl rfl (by omega) (by omega)) ?_
      refine st rfl rfl rfl rfl (rConv rfl undI undUint rfl (IntWalk.u64_in _ ⟨by omega, by omega⟩)) ?_
      refine st rfl rfl rfl rfl (rShr1 rfl rfl rfl) ?_
      refine st rfl rfl rfl rfl (rConv rfl undUint undI rfl (IntWalk.i64_in _ ⟨by omega, by omega⟩)) ?_
      refine pu rfl rfl rfl rfl rfl ?_
      refine tr_seq ?_
      have hm1 : xs.getD ((i + j) / 2).toNat 0 ∈ xs := getD_mem (show (((i + j) / 2).toNat) < xs.length by omega) 0
      have hm2 : xs.getD a.toNat 0 ∈ xs := getD_mem (show (a.toNat) < xs.length by omega) 0
      have hb1 := hr (xs.getD ((i + j) / 2).toNat 0)
      have hb2 := hr (xs.getD a.toNat 0)
      refine tr_draw [0, 1, 2, 3, 4, 5, 6, 7, 8, 9, 10] [] mixed (by kernel_rfl) fun _ _ _ => ?_
      iterate 3 refine pu rfl rfl rfl rfl rfl ?_
      refine st rfl rfl rfl rfl (rIdxI rfl rfl rfl (by omega) (by omega) (by omega)) ?_
      refine st rfl rfl rfl rfl (rLdI rfl rfl (by omega)) ?_
      iterate 2 refine pu rfl rfl rfl rfl rfl ?_
      refine st rfl rfl rfl rfl (rIdxI rfl rfl rfl (by omega) (by omega) (by omega)) ?_
      refine st rfl rfl rfl rfl (rLdI rfl rfl (by omega)) ?_
      refine ef rfl rfl (eCallFV rfl rfl rfl rfl (hf _ hm1 _ hm2) ⟨rfl, rfl, trivial⟩ ent_bun ?_) 
      refine pu rfl rfl rfl rfl rfl ?_
      refine tr_cond_bool rfl (fun h5 => ?_) (fun h5 => ?_)
      · try simp only [zbA] at h5
        refine tr_region fun _ _ _ => ?_
        refine pu rfl rfl rfl rfl rfl ?_
        refine st rfl rfl rfl rfl (rAdd rfl rfl rfl (by omega) (by omega)) ?_
        refine pu rfl rfl rfl rfl rfl ?_
        refine ⟨(i + j) / 2 + 1, j, ⟨rfl, rfl, rfl, rfl, rfl, rfl, rfl, trivial⟩, by first | exact cs _ _ | exact CSub.refl _, ?_⟩
        refine ⟨⟨⟨by omega, by omega, by omega⟩, fun u h1 h2 => ?_, hup⟩, by omega⟩
        have h5' : r (gd xs a.toNat) < r (gd xs ((i + j) / 2).toNat) := by show r (xs.getD _ 0) < r (xs.getD _ 0); omega
        by_cases e : u = ((i + j) / 2).toNat
        · rw [e]; exact h5'
        · have := hB u ((i + j) / 2).toNat (by omega) (by omega) (by omega)
          unfold ltO at this; omega
      · try simp only [zbA] at h5
        refine tr_region fun _ _ _ => ?_
        iterate 2 refine pu rfl rfl rfl rfl rfl ?_
        refine ⟨i, (i + j) / 2, ⟨rfl, rfl, rfl, rfl, rfl, rfl, rfl, trivial⟩, by first | exact cs _ _ | exact CSub.refl _, ?_⟩
        refine ⟨⟨⟨by omega, by omega, by omega⟩, hlo, fun u h1 h2 => ?_⟩, by omega⟩
        have h5' : r (gd xs ((i + j) / 2).toNat) ≤ r (gd xs a.toNat) := by show r (xs.getD _ 0) ≤ r (xs.getD _ 0); omega
        by_cases e : u = ((i + j) / 2).toNat
        · rw [e]; exact h5'
        · have := hB ((i + j) / 2).toNat u (by omega) (by omega) (by omega)
          unfold ltO at this; omega
    · try simp only [zbA] at h3
      refine tr_exit ?_
      refine tr_seq ?_
      refine tr_seq ?_
      refine tr_region fun _ _ _ => ?_
      iterate 2 refine pu rfl rfl rfl rfl rfl ?_
      refine tr_block ?_
      refine tr_loop2 (fun (k : Int) (zs : List Int) => [(0, .slice A n c), (10, .int .i64 i), (13, .int .i64 k), (1, .int .i64 a), (2, .int .i64 m), (3, .int .i64 b), (4, .func (.func f) #[] lb.toArray)]) (fun (k : Int) (zs : List Int) => [ow A 3 c (ints zs), bun Gc]) (fun (k : Int) (zs : List Int) => (a ≤ k ∧ k ≤ i - 1) ∧ zs.Perm xs ∧ gd zs = rot (gd xs) a.toNat (a.toNat + 1) (k.toNat + 1)) (fun (k : Int) (zs : List Int) => (i - k).toNat) (a) (xs) ⟨rfl, rfl, rfl, rfl, rfl, rfl, rfl, trivial⟩ (by first | exact cs _ _ | exact CSub.refl _) (⟨⟨by omega, by omega⟩, List.Perm.refl _, (rot_id _ (.inr rfl) (by omega)).symm⟩) (fun k zs hI => ?_)
      obtain ⟨⟨hk0, hk1⟩, hp, hg⟩ := hI
      have hzl := hp.length_eq
      refine tr_seq ?_
      refine tr_seq ?_
      refine tr_region fun _ _ _ => ?_
      iterate 2 refine pu rfl rfl rfl rfl rfl ?_
      refine st rfl rfl rfl rfl (rSub rfl rfl rfl (by omega) (by omega)) ?_
      refine pu rfl rfl rfl rfl rfl ?_
      refine tr_cond_bool rfl (fun h9 => ?_) (fun h9 => ?_)
      · try simp only [zbA] at h9
        refine tr_skip ?_
        refine tr_seq ?_
        refine tr_block ?_
        refine tr_plan [] [(0, 0), (0, 1), (2, 2), (2, 3), (2, 4), (0, 5), (0, 6), (0, 7), (0, 8), (0, 9), (0, 10), (0, 11), (0, 12), (0, 13), (0, 14), (1, 15), (0, 16), (1, 17)] mixed (by kernel_rfl) fun _ _ _ => ?_
        iterate 2 refine pu rfl rfl rfl rfl rfl ?_
        refine stF rfl rfl rfl rfl (cs _ _) (rMove rfl rfl) ?_
        refine stF rfl rfl rfl rfl (cs _ _) (rMove rfl rfl) ?_
        refine stF rfl rfl rfl rfl (cs _ _) (rAdd rfl rfl rfl (by omega) (by omega)) ?_
        iterate 2 refine pu rfl rfl rfl rfl rfl ?_
        refine st rfl rfl rfl rfl (rAdd rfl rfl rfl (by omega) (by omega)) ?_
        refine st rfl rfl rfl rfl (rIdxI rfl rfl rfl (by omega) (by omega) (by omega)) ?_
        refine st rfl rfl rfl rfl (rLdI rfl rfl (by omega)) ?_
        iterate 2 refine pu rfl rfl rfl rfl rfl ?_
        refine st rfl rfl rfl rfl (rIdxI rfl rfl rfl (by omega) (by omega) (by omega)) ?_
        refine st rfl rfl rfl rfl (rLdI rfl rfl (by omega)) ?_
        refine st rfl rfl rfl rfl (rIdxI rfl rfl rfl (by omega) (by omega) (by omega)) ?_
        refine ef rfl rfl (eStI rfl rfl rfl rfl (by omega) ?_) 
        refine ⟨cs _ _, ?_⟩
        refine st rfl rfl rfl rfl (rIdxI rfl rfl rfl (by omega) (by omega) (by rw [List.length_set]; omega)) ?_
        refine ef rfl rfl (eStI rfl rfl rfl rfl (by rw [List.length_set]; omega) ?_) 
        refine ⟨cs _ _, ?_⟩
        refine tr_region fun _ _ _ => ?_
        refine pu rfl rfl rfl rfl rfl ?_
        refine st rfl rfl rfl rfl (rAdd rfl rfl rfl (by omega) (by omega)) ?_
        refine pu rfl rfl rfl rfl rfl ?_
        refine ⟨k + 1, swL zs k.toNat (k + 1).toNat, ⟨rfl, rfl, rfl, rfl, rfl, rfl, rfl, trivial⟩, by first | exact cs _ _ | exact CSub.refl _, ?_⟩
        have e := gd_swL (xs := zs) (i := k.toNat) (j := (k + 1).toNat) (by omega) (by omega)
        refine ⟨⟨⟨by omega, by omega⟩, (swL_perm (by omega) (by omega)).trans hp, ?_⟩, by omega⟩
        rw [e, hg, show (k + 1).toNat = k.toNat + 1 by omega]
        exact rot_first_succ _ (by omega)
      · try simp only [zbA] at h9
        refine tr_exit ?_
        have hki : k = i - 1 := by omega
        rw [show k.toNat + 1 = i.toNat by omega] at hg
        have hms : m.toNat = a.toNat + 1 := by omega
        have hS := mrg_first (i := i.toNat) (hms ▸ hB) (hms ▸ hc) (by omega) (by omega) hlo (fun u h1 h2 => hup u (by omega) h2)
        exact tr_ret ⟨trivial, _, _, .nil, ⟨_, rfl, rfl, zs, rfl, SrtTo.of_rot hp hg (by omega) (by omega) (Nat.le_refl _) (by omega) hS⟩, cs _ _, trivial, trivial⟩
  · try simp only [zbA] at h0
    refine tr_skip ?_
    refine tr_seq ?_
    refine tr_seq ?_
    refine tr_region fun _ _ _ => ?_
    iterate 2 refine pu rfl rfl rfl rfl rfl ?_
    refine st rfl rfl rfl rfl (rSub rfl rfl rfl (by omega) (by omega)) ?_
    refine pu rfl rfl rfl rfl rfl ?_
    refine tr_cond_bool rfl (fun h12 => ?_) (fun h12 => ?_)
    · try simp only [zbA] at h12
      refine tr_seq ?_
      refine tr_region fun _ _ _ => ?_
      iterate 2 refine pu rfl rfl rfl rfl rfl ?_
      refine tr_seq ?_
      refine tr_region fun _ _ _ => ?_
      iterate 2 refine pu rfl rfl rfl rfl rfl ?_
      refine tr_seq ?_
      refine tr_block ?_
      refine tr_loop2 (fun (i : Int) (j : Int) => [(0, .slice A n c), (1, .int .i64 a), (2, .int .i64 m), (3, .int .i64 b), (4, .func (.func f) #[] lb.toArray), (14, .int .i64 i), (15, .int .i64 j)]) (fun (i : Int) (j : Int) => [ow A 3 c (ints xs), bun Gc]) (fun (i : Int) (j : Int) => (a ≤ i ∧ i ≤ j ∧ j ≤ m) ∧ (∀ u : Nat, a.toNat ≤ u → u < i.toNat → r (gd xs m.toNat) ≤ r (gd xs u)) ∧ ∀ u : Nat, j.toNat ≤ u → u < m.toNat → r (gd xs u) < r (gd xs m.toNat)) (fun (i : Int) (j : Int) => (j - i).toNat) (a) (m) ⟨rfl, rfl, rfl, rfl, rfl, rfl, rfl, trivial⟩ (by first | exact cs _ _ | exact CSub.refl _) (⟨⟨by omega, by omega, by omega⟩, fun u h1 h2 => by omega, fun u h1 h2 => by omega⟩) (fun i j hI => ?_)
      obtain ⟨⟨hi0, hij, hj1⟩, hlo, hup⟩ := hI
      refine tr_seq ?_
      refine tr_seq ?_
      refine tr_region fun _ _ _ => ?_
      iterate 3 refine pu rfl rfl rfl rfl rfl ?_
      refine tr_cond_bool rfl (fun h15 => ?_) (fun h15 => ?_)
      · try simp only [zbA] at h15
        refine tr_skip ?_
        refine tr_block ?_
        refine tr_seq ?_
        refine tr_region fun _ _ _ => ?_
        iterate 2 refine pu rfl rfl rfl rfl rfl ?_
        refine st rfl rfl rfl rfl (rAdd rfl rfl rfl (by omega) (by omega)) ?_
        refine st rfl rfl rfl rfl (rConv rfl undI undUint rfl (IntWalk.u64_in _ ⟨by omega, by omega⟩)) ?_
        refine st rfl rfl rfl rfl (rShr1 rfl rfl rfl) ?_
        refine st rfl rfl rfl rfl (rConv rfl undUint undI rfl (IntWalk.i64_in _ ⟨by omega, by omega⟩)) ?_
        refine pu rfl rfl rfl rfl rfl ?_
        refine tr_seq ?_
        have hm1 : xs.getD m.toNat 0 ∈ xs := getD_mem (show (m.toNat) < xs.length by omega) 0
        have hm2 : xs.getD ((i + j) / 2).toNat 0 ∈ xs := getD_mem (show (((i + j) / 2).toNat) < xs.length by omega) 0
        have hb1 := hr (xs.getD m.toNat 0)
        have hb2 := hr (xs.getD ((i + j) / 2).toNat 0)
        refine tr_draw [0, 1, 2, 3, 4, 5, 6, 7, 8, 9, 10, 11] [] mixed (by kernel_rfl) fun _ _ _ => ?_
        iterate 3 refine pu rfl rfl rfl rfl rfl ?_
        refine st rfl rfl rfl rfl (rIdxI rfl rfl rfl (by omega) (by omega) (by omega)) ?_
        refine st rfl rfl rfl rfl (rLdI rfl rfl (by omega)) ?_
        iterate 2 refine pu rfl rfl rfl rfl rfl ?_
        refine st rfl rfl rfl rfl (rIdxI rfl rfl rfl (by omega) (by omega) (by omega)) ?_
        refine st rfl rfl rfl rfl (rLdI rfl rfl (by omega)) ?_
        refine ef rfl rfl (eCallFV rfl rfl rfl rfl (hf _ hm1 _ hm2) ⟨rfl, rfl, trivial⟩ ent_bun ?_) 
        refine pu rfl rfl rfl rfl rfl ?_
        refine st rfl rfl rfl rfl (rNotB rfl rfl) ?_
        refine tr_cond_bool rfl (fun h17 => ?_) (fun h17 => ?_)
        · try simp only [zbA] at h17
          refine tr_region fun _ _ _ => ?_
          refine pu rfl rfl rfl rfl rfl ?_
          refine st rfl rfl rfl rfl (rAdd rfl rfl rfl (by omega) (by omega)) ?_
          refine pu rfl rfl rfl rfl rfl ?_
          refine ⟨(i + j) / 2 + 1, j, ⟨rfl, rfl, rfl, rfl, rfl, rfl, rfl, trivial⟩, by first | exact cs _ _ | exact CSub.refl _, ?_⟩
          refine ⟨⟨⟨by omega, by omega, by omega⟩, fun u h1 h2 => ?_, hup⟩, by omega⟩
          have h5' : r (gd xs m.toNat) ≤ r (gd xs ((i + j) / 2).toNat) := by show r (xs.getD _ 0) ≤ r (xs.getD _ 0); omega
          by_cases e : u = ((i + j) / 2).toNat
          · rw [e]; exact h5'
          · have := hA u ((i + j) / 2).toNat (by omega) (by omega) (by omega)
            unfold ltO at this; omega
        · try simp only [zbA] at h17
          refine tr_region fun _ _ _ => ?_
          iterate 2 refine pu rfl rfl rfl rfl rfl ?_
          refine ⟨i, (i + j) / 2, ⟨rfl, rfl, rfl, rfl, rfl, rfl, rfl, trivial⟩, by first | exact cs _ _ | exact CSub.refl _, ?_⟩
          refine ⟨⟨⟨by omega, by omega, by omega⟩, hlo, fun u h1 h2 => ?_⟩, by omega⟩
          have h5' : r (gd xs ((i + j) / 2).toNat) < r (gd xs m.toNat) := by show r (xs.getD _ 0) < r (xs.getD _ 0); omega
          by_cases e : u = ((i + j) / 2).toNat
          · rw [e]; exact h5'
          · have := hA ((i + j) / 2).toNat u (by omega) (by omega) (by omega)
            unfold ltO at this; omega
      · try simp only [zbA] at h15
        refine tr_exit ?_
        refine tr_seq ?_
        refine tr_seq ?_
        refine tr_region fun _ _ _ => ?_
        iterate 2 refine pu rfl rfl rfl rfl rfl ?_
        refine tr_block ?_
        refine tr_loop2 (fun (k : Int) (zs : List Int) => [(0, .slice A n c), (14, .int .i64 i), (17, .int .i64 k), (1, .int .i64 a), (2, .int .i64 m), (3, .int .i64 b), (4, .func (.func f) #[] lb.toArray)]) (fun (k : Int) (zs : List Int) => [ow A 3 c (ints zs), bun Gc]) (fun (k : Int) (zs : List Int) => (i ≤ k ∧ k ≤ m) ∧ zs.Perm xs ∧ gd zs = rot (gd xs) k.toNat m.toNat (m.toNat + 1)) (fun (k : Int) (zs : List Int) => (k - i).toNat) (m) (xs) ⟨rfl, rfl, rfl, rfl, rfl, rfl, rfl, trivial⟩ (by first | exact cs _ _ | exact CSub.refl _) (⟨⟨by omega, by omega⟩, List.Perm.refl _, (rot_id _ (.inl rfl) (Nat.le_refl _)).symm⟩) (fun k zs hI => ?_)
        obtain ⟨⟨hk0, hk1⟩, hp, hg⟩ := hI
        have hzl := hp.length_eq
        refine tr_seq ?_
        refine tr_seq ?_
        refine tr_region fun _ _ _ => ?_
        iterate 3 refine pu rfl rfl rfl rfl rfl ?_
        refine tr_cond_bool rfl (fun h21 => ?_) (fun h21 => ?_)
        · try simp only [zbA] at h21
          refine tr_skip ?_
          refine tr_seq ?_
          refine tr_block ?_
          refine tr_plan [] [(0, 0), (0, 1), (2, 2), (2, 3), (2, 4), (0, 5), (0, 6), (0, 7), (0, 8), (0, 9), (0, 10), (0, 11), (0, 12), (0, 13), (0, 14), (1, 15), (0, 16), (1, 17)] mixed (by kernel_rfl) fun _ _ _ => ?_
          iterate 2 refine pu rfl rfl rfl rfl rfl ?_
          refine stF rfl rfl rfl rfl (cs _ _) (rMove rfl rfl) ?_
          refine stF rfl rfl rfl rfl (cs _ _) (rMove rfl rfl) ?_
          refine stF rfl rfl rfl rfl (cs _ _) (rSub rfl rfl rfl (by omega) (by omega)) ?_
          iterate 2 refine pu rfl rfl rfl rfl rfl ?_
          refine st rfl rfl rfl rfl (rSub rfl rfl rfl (by omega) (by omega)) ?_
          refine st rfl rfl rfl rfl (rIdxI rfl rfl rfl (by omega) (by omega) (by omega)) ?_
          refine st rfl rfl rfl rfl (rLdI rfl rfl (by omega)) ?_
          iterate 2 refine pu rfl rfl rfl rfl rfl ?_
          refine st rfl rfl rfl rfl (rIdxI rfl rfl rfl (by omega) (by omega) (by omega)) ?_
          refine st rfl rfl rfl rfl (rLdI rfl rfl (by omega)) ?_
          refine st rfl rfl rfl rfl (rIdxI rfl rfl rfl (by omega) (by omega) (by omega)) ?_
          refine ef rfl rfl (eStI rfl rfl rfl rfl (by omega) ?_) 
          refine ⟨cs _ _, ?_⟩
          refine st rfl rfl rfl rfl (rIdxI rfl rfl rfl (by omega) (by omega) (by rw [List.length_set]; omega)) ?_
          refine ef rfl rfl (eStI rfl rfl rfl rfl (by rw [List.length_set]; omega) ?_) 
          refine ⟨cs _ _, ?_⟩
          refine tr_region fun _ _ _ => ?_
          refine pu rfl rfl rfl rfl rfl ?_
          refine st rfl rfl rfl rfl (rSub rfl rfl rfl (by omega) (by omega)) ?_
          refine pu rfl rfl rfl rfl rfl ?_
          refine ⟨k - 1, swL zs k.toNat (k - 1).toNat, ⟨rfl, rfl, rfl, rfl, rfl, rfl, rfl, trivial⟩, by first | exact cs _ _ | exact CSub.refl _, ?_⟩
          have e := gd_swL (xs := zs) (i := k.toNat) (j := (k - 1).toNat) (by omega) (by omega)
          refine ⟨⟨⟨by omega, by omega⟩, (swL_perm (by omega) (by omega)).trans hp, ?_⟩, by omega⟩
          rw [e, hg, show (k - 1).toNat = k.toNat - 1 by omega]
          exact rot_last_succ _ (by omega) (by omega)
        · try simp only [zbA] at h21
          refine tr_exit ?_
          have hki : k = i := by omega
          have hbs : b.toNat = m.toNat + 1 := by omega
          rw [hki] at hg
          have hS := mrg_last (i := i.toNat) hA (hbs ▸ hc) (by omega) (by omega) hlo (fun u h1 h2 => hup u (by omega) h2)
          rw [← hbs] at hS hg
          exact tr_ret ⟨trivial, _, _, .nil, ⟨_, rfl, rfl, zs, rfl, SrtTo.of_rot hp hg (by omega) (by omega) (by omega) (Nat.le_refl _) hS⟩, cs _ _, trivial, trivial⟩
    · try simp only [zbA] at h12
      refine tr_skip ?_
      refine tr_seq ?_
      refine tr_region fun _ _ _ => ?_
      iterate 2 refine pu rfl rfl rfl rfl rfl ?_
      refine st rfl rfl rfl rfl (rAdd rfl rfl rfl (by omega) (by omega)) ?_
      refine st rfl rfl rfl rfl (rConv rfl undI undUint rfl (IntWalk.u64_in _ ⟨by omega, by omega⟩)) ?_
      refine st rfl rfl rfl rfl (rShr1 rfl rfl rfl) ?_
      refine st rfl rfl rfl rfl (rConv rfl undUint undI rfl (IntWalk.i64_in _ ⟨by omega, by omega⟩)) ?_
      refine pu rfl rfl rfl rfl rfl ?_
      refine tr_seq ?_
      refine tr_region fun _ _ _ => ?_
      iterate 2 refine pu rfl rfl rfl rfl rfl ?_
      refine st rfl rfl rfl rfl (rAdd rfl rfl rfl (by omega) (by omega)) ?_
      refine pu rfl rfl rfl rfl rfl ?_
      refine tr_seq ?_
      refine tr_region fun _ _ _ => ?_
      iterate 2 refine pu rfl rfl rfl rfl rfl ?_
      refine tr_join (fun (q : Int × Int) => match q with | (s, q) => [(0, .slice A n c), (1, .int .i64 a), (2, .int .i64 m), (3, .int .i64 b), (4, .func (.func f) #[] lb.toArray), (18, .int .i64 ((a + b) / 2)), (19, .int .i64 ((a + b) / 2 + m)), (20, .int .i64 s), (21, .int .i64 q)]) (fun (q : Int × Int) => match q with | (s, q) => [ow A 3 c (ints xs), bun Gc]) (fun (q : Int × Int) => match q with | (s, q) => (a ≤ s ∧ s ≤ q ∧ q ≤ m ∧ q ≤ ((a + b) / 2) ∧ ((a + b) / 2 + m) - b ≤ s) ∧ (s = a ∨ ((a + b) / 2 + m) - s = b) ∧ (q = m ∨ ((a + b) / 2 + m) - q = m)) ?_ ?_
      · refine tr_seq ?_
        refine tr_region fun _ _ _ => ?_
        iterate 3 refine pu rfl rfl rfl rfl rfl ?_
        refine tr_cond_bool rfl (fun h27 => ?_) (fun h27 => ?_)
        · try simp only [zbA] at h27
          refine tr_seq ?_
          refine tr_region fun _ _ _ => ?_
          iterate 2 refine pu rfl rfl rfl rfl rfl ?_
          refine st rfl rfl rfl rfl (rSub rfl rfl rfl (by omega) (by omega)) ?_
          refine pu rfl rfl rfl rfl rfl ?_
          refine tr_region fun _ _ _ => ?_
          iterate 2 refine pu rfl rfl rfl rfl rfl ?_
          refine ⟨((((a + b) / 2 + m) - b), ((a + b) / 2)), ⟨rfl, rfl, rfl, rfl, rfl, rfl, rfl, rfl, rfl, trivial⟩, by first | exact cs _ _ | exact CSub.refl _, ?_⟩
          exact ⟨⟨by omega, by omega, by omega, by omega, by omega⟩, .inr (by omega), .inr (by omega)⟩
        · try simp only [zbA] at h27
          refine tr_seq ?_
          refine tr_region fun _ _ _ => ?_
          iterate 2 refine pu rfl rfl rfl rfl rfl ?_
          refine tr_region fun _ _ _ => ?_
          iterate 2 refine pu rfl rfl rfl rfl rfl ?_
          refine ⟨(a, m), ⟨rfl, rfl, rfl, rfl, rfl, rfl, rfl, rfl, rfl, trivial⟩, by first | exact cs _ _ | exact CSub.refl _, ?_⟩
          exact ⟨⟨by omega, by omega, by omega, by omega, by omega⟩, .inl rfl, .inl rfl⟩
      · rintro ⟨s, q⟩ hI
        obtain ⟨⟨hs1, hs2, hs3, hs4, hs5⟩, hse, hqe⟩ := hI
        refine tr_seq ?_
        refine tr_region fun _ _ _ => ?_
        refine pu rfl rfl rfl rfl rfl ?_
        refine st rfl rfl rfl rfl (rSub rfl rfl rfl (by omega) (by omega)) ?_
        refine pu rfl rfl rfl rfl rfl ?_
        refine tr_seq ?_
        refine tr_block ?_
        refine tr_loop2 (fun (s2 : Int) (q2 : Int) => [(0, .slice A n c), (1, .int .i64 a), (2, .int .i64 m), (3, .int .i64 b), (4, .func (.func f) #[] lb.toArray), (20, .int .i64 s2), (21, .int .i64 q2), (22, .int .i64 (((a + b) / 2 + m) - 1)), (18, .int .i64 ((a + b) / 2)), (19, .int .i64 ((a + b) / 2 + m))]) (fun (s2 : Int) (q2 : Int) => [ow A 3 c (ints xs), bun Gc]) (fun (s2 : Int) (q2 : Int) => (s ≤ s2 ∧ s2 ≤ q2 ∧ q2 ≤ q) ∧ (s2 = s ∨ r (gd xs (((a + b) / 2 + m) - s2).toNat) ≤ r (gd xs (s2 - 1).toNat)) ∧ (q2 = q ∨ r (gd xs q2.toNat) < r (gd xs (((a + b) / 2 + m) - q2 - 1).toNat))) (fun (s2 : Int) (q2 : Int) => (q2 - s2).toNat) (s) (q) ⟨rfl, rfl, rfl, rfl, rfl, rfl, rfl, rfl, rfl, rfl, trivial⟩ (by first | exact cs _ _ | exact CSub.refl _) (⟨⟨by omega, by omega, by omega⟩, .inl rfl, .inl rfl⟩) (fun s2 q2 hI => ?_)
        obtain ⟨⟨hs0, hsq, hq1⟩, hlo, hup⟩ := hI
        refine tr_seq ?_
        refine tr_seq ?_
        refine tr_region fun _ _ _ => ?_
        iterate 3 refine pu rfl rfl rfl rfl rfl ?_
        refine tr_cond_bool rfl (fun h33 => ?_) (fun h33 => ?_)
        · try simp only [zbA] at h33
          refine tr_skip ?_
          refine tr_block ?_
          refine tr_seq ?_
          refine tr_region fun _ _ _ => ?_
          iterate 2 refine pu rfl rfl rfl rfl rfl ?_
          refine st rfl rfl rfl rfl (rAdd rfl rfl rfl (by omega) (by omega)) ?_
          refine st rfl rfl rfl rfl (rConv rfl undI undUint rfl (IntWalk.u64_in _ ⟨by omega, by omega⟩)) ?_
          refine st rfl rfl rfl rfl (rShr1 rfl rfl rfl) ?_
          refine st rfl rfl rfl rfl (rConv rfl undUint undI rfl (IntWalk.i64_in _ ⟨by omega, by omega⟩)) ?_
          refine pu rfl rfl rfl rfl rfl ?_
          refine tr_seq ?_
          have hm1 : xs.getD (((a + b) / 2 + m) - 1 - (s2 + q2) / 2).toNat 0 ∈ xs := getD_mem (show ((((a + b) / 2 + m) - 1 - (s2 + q2) / 2).toNat) < xs.length by omega) 0
          have hm2 : xs.getD ((s2 + q2) / 2).toNat 0 ∈ xs := getD_mem (show (((s2 + q2) / 2).toNat) < xs.length by omega) 0
          have hb1 := hr (xs.getD (((a + b) / 2 + m) - 1 - (s2 + q2) / 2).toNat 0)
          have hb2 := hr (xs.getD ((s2 + q2) / 2).toNat 0)
          refine tr_draw [0, 1, 2, 3, 4, 5, 6, 7, 8, 9, 10, 11, 12, 13] [] mixed (by kernel_rfl) fun _ _ _ => ?_
          iterate 4 refine pu rfl rfl rfl rfl rfl ?_
          refine st rfl rfl rfl rfl (rSub rfl rfl rfl (by omega) (by omega)) ?_
          refine st rfl rfl rfl rfl (rIdxI rfl rfl rfl (by omega) (by omega) (by omega)) ?_
          refine st rfl rfl rfl rfl (rLdI rfl rfl (by omega)) ?_
          iterate 2 refine pu rfl rfl rfl rfl rfl ?_
          refine st rfl rfl rfl rfl (rIdxI rfl rfl rfl (by omega) (by omega) (by omega)) ?_
          refine st rfl rfl rfl rfl (rLdI rfl rfl (by omega)) ?_
          refine ef rfl rfl (eCallFV rfl rfl rfl rfl (hf _ hm1 _ hm2) ⟨rfl, rfl, trivial⟩ ent_bun ?_) 
          refine pu rfl rfl rfl rfl rfl ?_
          refine st rfl rfl rfl rfl (rNotB rfl rfl) ?_
          refine tr_cond_bool rfl (fun h35 => ?_) (fun h35 => ?_)
          · try simp only [zbA] at h35
            refine tr_region fun _ _ _ => ?_
            refine pu rfl rfl rfl rfl rfl ?_
            refine st rfl rfl rfl rfl (rAdd rfl rfl rfl (by omega) (by omega)) ?_
            refine pu rfl rfl rfl rfl rfl ?_
            refine ⟨(s2 + q2) / 2 + 1, q2, ⟨rfl, rfl, rfl, rfl, rfl, rfl, rfl, rfl, rfl, rfl, trivial⟩, by first | exact cs _ _ | exact CSub.refl _, ?_⟩
            refine ⟨⟨⟨by omega, by omega, by omega⟩, .inr ?_, hup⟩, by omega⟩
            rw [show (((a + b) / 2 + m) - ((s2 + q2) / 2 + 1)).toNat = (((a + b) / 2 + m) - 1 - (s2 + q2) / 2).toNat by omega, show ((s2 + q2) / 2 + 1 - 1).toNat = ((s2 + q2) / 2).toNat by omega]
            show r (xs.getD _ 0) ≤ r (xs.getD _ 0)
            omega
          · try simp only [zbA] at h35
            refine tr_region fun _ _ _ => ?_
            iterate 2 refine pu rfl rfl rfl rfl rfl ?_
            refine ⟨s2, (s2 + q2) / 2, ⟨rfl, rfl, rfl, rfl, rfl, rfl, rfl, rfl, rfl, rfl, trivial⟩, by first | exact cs _ _ | exact CSub.refl _, ?_⟩
            refine ⟨⟨⟨by omega, by omega, by omega⟩, hlo, .inr ?_⟩, by omega⟩
            rw [show (((a + b) / 2 + m) - (s2 + q2) / 2 - 1).toNat = (((a + b) / 2 + m) - 1 - (s2 + q2) / 2).toNat by omega]
            show r (xs.getD _ 0) < r (xs.getD _ 0)
            omega
        · try simp only [zbA] at h33
          refine tr_exit ?_
          refine tr_seq ?_
          refine tr_region fun _ _ _ => ?_
          iterate 2 refine pu rfl rfl rfl rfl rfl ?_
          refine st rfl rfl rfl rfl (rSub rfl rfl rfl (by omega) (by omega)) ?_
          refine pu rfl rfl rfl rfl rfl ?_
          refine tr_join (fun (q : (List Int)) => match q with | zs => [(0, .slice A n c), (1, .int .i64 a), (2, .int .i64 m), (3, .int .i64 b), (4, .func (.func f) #[] lb.toArray), (18, .int .i64 ((a + b) / 2)), (20, .int .i64 s2), (24, .int .i64 (((a + b) / 2 + m) - s2))]) (fun (q : (List Int)) => match q with | zs => [ow A 3 c (ints zs), bun Gc]) (fun (q : (List Int)) => match q with | zs => zs.Perm xs ∧ gd zs = rot (gd xs) s2.toNat m.toNat (((a + b) / 2 + m) - s2).toNat) ?_ ?_
          · refine tr_seq ?_
            refine tr_region fun _ _ _ => ?_
            iterate 4 refine pu rfl rfl rfl rfl rfl ?_
            refine stg rfl rfl rfl rfl rfl (fun hb => by (have hq := hb; try simp only [zbA] at hq); exact rMove rfl rfl) ?_
            refine stg rfl rfl rfl rfl rfl (fun hb => by (have hq := hb; try simp only [zbA] at hq); exact rMove rfl rfl) ?_
            refine stg rfl rfl rfl rfl rfl (fun hb => by (have hq := hb; try simp only [zbA] at hq); exact rLss rfl (evg rfl hb) (evg rfl hb)) ?_
            refine st rfl rfl rfl rfl (rAndB rfl rfl rfl rfl) ?_
            refine tr_cond_bool rfl (fun h39 => ?_) (fun h39 => ?_)
            · try simp only [zbA] at h39
              refine tr_region fun _ _ _ => ?_
              iterate 5 refine pu rfl rfl rfl rfl rfl ?_
              refine ef rfl rfl (eCallM1 rfl rfl rfl (slc_rot A n c xs hn h9 s2 m (((a + b) / 2 + m) - s2) (by omega) (by omega) (by omega) (by omega) _) ⟨rfl, rfl, rfl, rfl, rfl, trivial⟩ ?_) 
              rintro _ _ ⟨rfl, zs, rfl, hpz, hgz⟩
              refine ⟨(zs), ⟨rfl, rfl, rfl, rfl, rfl, rfl, rfl, rfl, trivial⟩, by first | exact cs _ _ | exact CSub.refl _, ?_⟩
              exact ⟨hpz, hgz⟩
            · try simp only [zbA] at h39
              refine tr_skip ?_
              refine ⟨(xs), ⟨rfl, rfl, rfl, rfl, rfl, rfl, rfl, rfl, trivial⟩, by first | exact cs _ _ | exact CSub.refl _, ?_⟩
              exact ⟨List.Perm.refl _, (rot_id _ (by omega) (by omega)).symm⟩
          · rintro zs hI
            obtain ⟨hpz, hgz⟩ := hI
            have hzl := hpz.length_eq
            have hH := half_of (mid := (((a + b) / 2)).toNat) (s := s2.toNat) hA hB hc (by omega) (by omega) (by omega) (by omega) (by omega) (by omega) (by omega) (by omega) (by
              rcases hlo with h | h
              · rcases hse with h' | h'
                · exact .inl (by omega)
                · exact .inr (.inl (by omega))
              · refine .inr (.inr ?_)
                rw [show (((a + b) / 2)).toNat + m.toNat - s2.toNat = (((a + b) / 2 + m) - s2).toNat by omega, show s2.toNat - 1 = (s2 - 1).toNat by omega]; exact h) (by
              rcases hup with h | h
              · rcases hqe with h' | h'
                · exact .inl (by omega)
                · exact .inr (.inl (by omega))
              · refine .inr (.inr ?_)
                rw [show (((a + b) / 2)).toNat + m.toNat - s2.toNat - 1 = (((a + b) / 2 + m) - q2 - 1).toNat by omega, show s2.toNat = q2.toNat by omega]; exact h)
            rw [show (((a + b) / 2)).toNat + m.toNat - s2.toNat = (((a + b) / 2 + m) - s2).toNat by omega, ← hgz] at hH
            refine tr_join (fun (q : (List Int)) => match q with | us => [(0, .slice A n c), (1, .int .i64 a), (2, .int .i64 m), (3, .int .i64 b), (4, .func (.func f) #[] lb.toArray), (18, .int .i64 ((a + b) / 2)), (24, .int .i64 (((a + b) / 2 + m) - s2))]) (fun (q : (List Int)) => match q with | us => [ow A 3 c (ints us), bun Gc]) (fun (q : (List Int)) => match q with | us => us.Perm zs ∧ Frm (gd zs) (gd us) a.toNat (((a + b) / 2)).toNat ∧ Srt r (gd us) a.toNat (((a + b) / 2)).toNat) ?_ ?_
            · refine tr_seq ?_
              refine tr_region fun _ _ _ => ?_
              iterate 4 refine pu rfl rfl rfl rfl rfl ?_
              refine stg rfl rfl rfl rfl rfl (fun hb => by (have hq := hb; try simp only [zbA] at hq); exact rMove rfl rfl) ?_
              refine stg rfl rfl rfl rfl rfl (fun hb => by (have hq := hb; try simp only [zbA] at hq); exact rMove rfl rfl) ?_
              refine stg rfl rfl rfl rfl rfl (fun hb => by (have hq := hb; try simp only [zbA] at hq); exact rLss rfl (evg rfl hb) (evg rfl hb)) ?_
              refine st rfl rfl rfl rfl (rAndB rfl rfl rfl rfl) ?_
              refine tr_cond_bool rfl (fun h41 => ?_) (fun h41 => ?_)
              · try simp only [zbA] at h41
                refine tr_region fun _ _ _ => ?_
                iterate 5 refine pu rfl rfl rfl rfl rfl ?_
                refine ef rfl rfl (eCallM1 rfl rfl rfl (ih zs a s2 ((a + b) / 2) (by omega) hpz (by omega) (by omega) (by omega) (by omega) (by omega) hH.s1 hH.s2 hH.c1) ⟨rfl, rfl, rfl, rfl, rfl, trivial⟩ ?_) 
                rintro _ _ ⟨rfl, us, rfl, hsu⟩
                refine ⟨(us), ⟨rfl, rfl, rfl, rfl, rfl, rfl, rfl, trivial⟩, by first | exact cs _ _ | exact CSub.refl _, ?_⟩
                exact ⟨hsu.perm, hsu.frm, hsu.srt⟩
              · try simp only [zbA] at h41
                refine tr_skip ?_
                refine ⟨(zs), ⟨rfl, rfl, rfl, rfl, rfl, rfl, rfl, trivial⟩, by first | exact cs _ _ | exact CSub.refl _, ?_⟩
                exact ⟨List.Perm.refl _, Frm.refl _ _ _, hH.s1.two hH.s2 (by omega)⟩
            · rintro us hI
              obtain ⟨hpu, hfu, hsu⟩ := hI
              have hul := hpu.length_eq
              refine tr_seq ?_
              refine tr_region fun _ _ _ => ?_
              iterate 4 refine pu rfl rfl rfl rfl rfl ?_
              refine stg rfl rfl rfl rfl rfl (fun hb => by (have hq := hb; try simp only [zbA] at hq); exact rMove rfl rfl) ?_
              refine stg rfl rfl rfl rfl rfl (fun hb => by (have hq := hb; try simp only [zbA] at hq); exact rMove rfl rfl) ?_
              refine stg rfl rfl rfl rfl rfl (fun hb => by (have hq := hb; try simp only [zbA] at hq); exact rLss rfl (evg rfl hb) (evg rfl hb)) ?_
              refine st rfl rfl rfl rfl (rAndB rfl rfl rfl rfl) ?_
              refine tr_cond_bool rfl (fun h43 => ?_) (fun h43 => ?_)
              · try simp only [zbA] at h43
                refine tr_region fun _ _ _ => ?_
                iterate 5 refine pu rfl rfl rfl rfl rfl ?_
                refine ef rfl rfl (eCallM1 rfl rfl rfl (ih us ((a + b) / 2) (((a + b) / 2 + m) - s2) b (by omega) (hpu.trans hpz) (by omega) (by omega) (by omega) (by omega) (by omega) (hH.s3.frm hfu (.inr (by omega))) (hH.s4.frm hfu (.inr (by omega))) (fun u v h1 h2 h3 h4 e => by rw [hfu.1 u (by omega), hfu.1 v (by omega)] at e ⊢; exact hH.c2 u v h1 h2 h3 h4 e)) ⟨rfl, rfl, rfl, rfl, rfl, trivial⟩ ?_) 
                rintro _ _ ⟨rfl, ws, rfl, hsw⟩
                have hfz : Frm (gd xs) (gd zs) a.toNat b.toNat := by rw [hgz]; exact (rot_frm _ (by omega) (by omega)).mono (by omega) (by omega)
                exact ⟨trivial, _, _, .nil, ⟨_, rfl, rfl, ws, rfl, ⟨hsw.perm.trans (hpu.trans hpz), (hfz.trans (hfu.mono (by omega) (by omega))).trans (hsw.frm.mono (by omega) (by omega)), half_done hH.all hfu hsw.frm hsu hsw.srt⟩⟩, cs _ _, trivial, trivial⟩
              · try simp only [zbA] at h43
                refine tr_skip ?_
                have hfz : Frm (gd xs) (gd zs) a.toNat b.toNat := by rw [hgz]; exact (rot_frm _ (by omega) (by omega)).mono (by omega) (by omega)
                have hs2 : Srt r (gd us) ((a + b) / 2).toNat b.toNat := (hH.s3.frm hfu (.inr (by omega))).two (hH.s4.frm hfu (.inr (by omega))) (by omega)
                exact ⟨trivial, _, _, .nil, ⟨_, rfl, rfl, us, rfl, ⟨hpu.trans hpz, hfz.trans (hfu.mono (by omega) (by omega)), half_done hH.all hfu (Frm.refl _ _ _) hsu hs2⟩⟩, cs _ _, trivial, trivial⟩
theorem slc_sym (A : Option Addr) (n c : Nat) (f : FuncId) (lb : List Value) (Gc : List Chunk) (r : Int → Int) (hr : ∀ x, 0 ≤ r x ∧ r x ≤ 4294967296) : ∀ (N : Nat) (xs : List Int) (hn : n = xs.length) (h9 : xs.length ≤ 1000000) (a m b : Int) (ha : 0 ≤ a) (ham : a < m) (hmb : m < b) (hb : b ≤ xs.length) (hN : (b - a).toNat ≤ N) (hf : ∀ x ∈ xs, ∀ y ∈ xs, Pure Tryz.prog f ([Value.int .i64 x, Value.int .i64 y] ++ lb).toArray Gc (isV (.int .i64 (r y - r x)))) (hA : Srt r (gd xs) a.toNat m.toNat) (hB : Srt r (gd xs) m.toNat b.toNat) (hc : Crs r (gd xs) a.toNat m.toNat b.toNat),
    Mut Tryz.prog 170 #[.slice A n c, .int .i64 a, .int .i64 m, .int .i64 b, .func (.func f) #[] lb.toArray] [ow A 3 c (ints xs)] [bun Gc] (one (fun v ch => v = .tuple #[] ∧ ∃ ys : List Int, ch = ow A 3 c (ints ys) ∧ SrtTo r xs ys a.toNat b.toNat))
  | 0, xs, hn, h9, a, m, b, ha, ham, hmb, hb, hN, hf, hA, hB, hc => by omega
  | N + 1, xs, hn, h9, a, m, b, ha, ham, hmb, hb, hN, hf, hA, hB, hc => by
    refine slc_symS A n c xs hn h9 a m b ha ham hmb hb f lb Gc r hr hf hA hB hc fun xs' a' m' b' hl hp h0 h1 h2 h3 h4 hA' hB' hc' => ?_
    exact slc_sym A n c f lb Gc r hr N xs' (by omega) (by omega) a' m' b' h0 h1 h2 (by omega) (by omega) (fun x hx y hy => hf x (hp.mem_iff.1 hx) y (hp.mem_iff.1 hy)) hA' hB' hc'
end Go.Proofs.YtoalphamojhpcaaGreat

set_option linter.unusedSimpArgs false
set_option linter.unusedVariables false
set_option maxRecDepth 100000
namespace Go.Proofs.YtoalphamojhpcaaGreat
open Go.RowKit
theorem slc_stab_ent : Enters Tryz.prog 133 := enters_of Tryz.func133 (by kernel_rfl) (by kernel_rfl)
theorem slc_stab (A : Option Addr) (n c : Nat) (xs : List Int) (hn : n = xs.length) (h9 : xs.length ≤ 1000000) (f : FuncId) (lb : List Value) (Gc : List Chunk) (r : Int → Int) (hr : ∀ x, 0 ≤ r x ∧ r x ≤ 4294967296) (hf : ∀ x ∈ xs, ∀ y ∈ xs, Pure Tryz.prog f ([Value.int .i64 x, Value.int .i64 y] ++ lb).toArray Gc (isV (.int .i64 (r y - r x)))) (ht : Tie r (gd xs) 0 xs.length) :
    Mut Tryz.prog 133 #[.slice A n c, .int .i64 n, .func (.func f) #[] lb.toArray] [ow A 3 c (ints xs)] [bun Gc] (one (fun v ch => v = .tuple #[] ∧ ∃ ys : List Int, ch = ow A 3 c (ints ys) ∧ ys.Perm xs ∧ Srt r (gd ys) 0 xs.length)) := by
  refine mut_of (args := [.slice A n c, .int .i64 n, .func (.func f) #[] lb.toArray]) 63 (F := [ow A 3 c (ints xs), bun Gc]) rfl Tryz.func133 rfl rfl rfl slc_stab_ent (fun w0 => ?_)
  refine tr_seq ?_
  refine tr_region fun _ _ _ => ?_
  refine pu rfl rfl rfl rfl rfl ?_
  refine tr_seq ?_
  refine tr_region fun _ _ _ => ?_
  iterate 3 refine pu rfl rfl rfl rfl rfl ?_
  refine tr_seq ?_
  refine tr_block ?_
  refine tr_loop3 (fun (a : Int) (b : Int) (ys : List Int) => [(6, .int .i64 20), (7, .int .i64 a), (8, .int .i64 b), (0, .slice A n c), (1, .int .i64 n), (2, .func (.func f) #[] lb.toArray)]) (fun (a : Int) (b : Int) (ys : List Int) => [ow A 3 c (ints ys), bun Gc]) (fun (a : Int) (b : Int) (ys : List Int) => (0 ≤ a ∧ b = a + 20 ∧ a ≤ n) ∧ 20 ∣ a.toNat ∧ ys.Perm xs ∧ Tie r (gd ys) 0 xs.length ∧ Blk r (gd ys) 20 xs.length a.toNat) (fun (a : Int) (b : Int) (ys : List Int) => (n + 20 - a).toNat) (0) (20) (xs) ⟨rfl, rfl, rfl, rfl, rfl, rfl, trivial⟩ (by first | exact cs _ _ | exact CSub.refl _) (⟨⟨by omega, by omega, by omega⟩, by omega, List.Perm.refl _, ht, fun c _ h => by omega⟩) (fun a b ys hI => ?_)
  obtain ⟨⟨ha0, hb0, han⟩, hdv, hp1, ht1, hbl⟩ := hI
  have hyl := hp1.length_eq
  refine tr_seq ?_
  refine tr_seq ?_
  refine tr_region fun _ _ _ => ?_
  iterate 3 refine pu rfl rfl rfl rfl rfl ?_
  refine tr_cond_bool rfl (fun h2 => ?_) (fun h2 => ?_)
  · try simp only [zbA] at h2
    refine tr_skip ?_
    refine tr_block ?_
    refine tr_seq ?_
    refine tr_region fun _ _ _ => ?_
    iterate 4 refine pu rfl rfl rfl rfl rfl ?_
    refine ef rfl rfl (eCallM1 rfl rfl rfl (slc_insF A n c ys (by omega) (by omega) a b (by omega) (by omega) (by omega) f lb Gc r hr (fun x hx y hy => hf x (hp1.mem_iff.1 hx) y (hp1.mem_iff.1 hy)) (ht1.sub (by omega) (by omega))) ⟨rfl, rfl, rfl, rfl, trivial⟩ ?_) 
    rintro _ _ ⟨rfl, zs, rfl, hsz⟩
    refine tr_seq ?_
    refine tr_region fun _ _ _ => ?_
    iterate 2 refine pu rfl rfl rfl rfl rfl ?_
    refine tr_region fun _ _ _ => ?_
    iterate 2 refine pu rfl rfl rfl rfl rfl ?_
    refine st rfl rfl rfl rfl (rAdd rfl rfl rfl (by omega) (by omega)) ?_
    refine pu rfl rfl rfl rfl rfl ?_
    refine ⟨b, (b + 20), zs, ⟨rfl, rfl, rfl, rfl, rfl, rfl, trivial⟩, by first | exact cs _ _ | exact CSub.refl _, ?_⟩
    have hpz := hsz.perm.trans hp1
    have hzl := hpz.length_eq
    have ht2 : Tie r (gd zs) 0 xs.length := ht1.frm hsz.frm hsz.srt.tie (by omega) (by omega)
    refine ⟨⟨⟨by omega, by omega, by omega⟩, by omega, hpz, ht2, ?_⟩, by omega⟩
    rw [show b.toNat = a.toNat + 20 by omega]
    refine blk_push (blk_frm hbl hsz.frm hdv (Nat.le_refl _)) hdv ?_
    rw [show min (a.toNat + 20) xs.length = b.toNat by omega]
    exact hsz.srt
  · try simp only [zbA] at h2
    refine tr_exit ?_
    refine tr_seq ?_
    refine tr_region fun _ _ _ => ?_
    iterate 4 refine pu rfl rfl rfl rfl rfl ?_
    refine ef rfl rfl (eCallM1 rfl rfl rfl (slc_insF A n c ys (by omega) (by omega) a n (by omega) (by omega) (by omega) f lb Gc r hr (fun x hx y hy => hf x (hp1.mem_iff.1 hx) y (hp1.mem_iff.1 hy)) (ht1.sub (by omega) (by omega))) ⟨rfl, rfl, rfl, rfl, trivial⟩ ?_) 
    rintro _ _ ⟨rfl, zs, rfl, hsz⟩
    have hpz := hsz.perm.trans hp1
    have hzl := hpz.length_eq
    have ht2 : Tie r (gd zs) 0 xs.length := ht1.frm hsz.frm hsz.srt.tie (by omega) (by omega)
    have hbl2 : Blk r (gd zs) (20 : Int).toNat xs.length xs.length := by
      by_cases han2 : a = n
      · have h1 := blk_frm hbl hsz.frm hdv (Nat.le_refl _)
        exact fun e he hen hen2 => h1 e he (by omega) hen2
      · have h1 := blk_push (blk_frm hbl hsz.frm hdv (Nat.le_refl _)) hdv (by
          rw [show min (a.toNat + 20) xs.length = (n : Int).toNat by omega]
          exact hsz.srt)
        exact fun e he hen hen2 => h1 e he (by omega) hen2
    refine tr_block ?_
    refine tr_loop2 (fun (bs : Int) (ys2 : List Int) => [(6, .int .i64 bs), (0, .slice A n c), (1, .int .i64 n), (2, .func (.func f) #[] lb.toArray)]) (fun (bs : Int) (ys2 : List Int) => [ow A 3 c (ints ys2), bun Gc]) (fun (bs : Int) (ys2 : List Int) => (1 ≤ bs ∧ bs ≤ 2000020) ∧ ys2.Perm xs ∧ Tie r (gd ys2) 0 xs.length ∧ Blk r (gd ys2) bs.toNat xs.length xs.length) (fun (bs : Int) (ys2 : List Int) => (4000041 - bs).toNat) (20) (zs) ⟨rfl, rfl, rfl, rfl, trivial⟩ (by first | exact cs _ _ | exact CSub.refl _) (⟨⟨by omega, by omega⟩, hpz, ht2, hbl2⟩) (fun bs ys2 hI => ?_)
    obtain ⟨⟨hbs0, hbs1⟩, hp2, ht3, hbl3⟩ := hI
    have hyl2 := hp2.length_eq
    refine tr_seq ?_
    refine tr_seq ?_
    refine tr_region fun _ _ _ => ?_
    iterate 3 refine pu rfl rfl rfl rfl rfl ?_
    refine tr_cond_bool rfl (fun h7 => ?_) (fun h7 => ?_)
    · try simp only [zbA] at h7
      refine tr_skip ?_
      refine tr_block ?_
      refine tr_seq ?_
      refine tr_region fun _ _ _ => ?_
      refine pu rfl rfl rfl rfl rfl ?_
      refine st rfl rfl rfl rfl (rMul rfl rfl rfl (by omega) (by omega)) ?_
      iterate 2 refine pu rfl rfl rfl rfl rfl ?_
      refine tr_seq ?_
      refine tr_block ?_
      refine tr_loop3 (fun (a : Int) (b : Int) (zs2 : List Int) => [(6, .int .i64 bs), (7, .int .i64 a), (8, .int .i64 b), (0, .slice A n c), (1, .int .i64 n), (2, .func (.func f) #[] lb.toArray), (28, .int .i64 bs), (29, .int .i64 n), (31, .int .i64 bs)]) (fun (a : Int) (b : Int) (zs2 : List Int) => [ow A 3 c (ints zs2), bun Gc]) (fun (a : Int) (b : Int) (zs2 : List Int) => (0 ≤ a ∧ b = a + 2 * bs ∧ a ≤ n) ∧ (2 * bs).toNat ∣ a.toNat ∧ zs2.Perm xs ∧ Tie r (gd zs2) 0 xs.length ∧ Blk r (gd zs2) (2 * bs).toNat xs.length a.toNat ∧ ∀ e : Nat, bs.toNat ∣ e → a.toNat ≤ e → e < xs.length → Srt r (gd zs2) e (min (e + bs.toNat) xs.length)) (fun (a : Int) (b : Int) (zs2 : List Int) => (n + 1 - a).toNat) (0) ((2 * bs)) (ys2) ⟨rfl, rfl, rfl, rfl, rfl, rfl, rfl, rfl, rfl, trivial⟩ (by first | exact cs _ _ | exact CSub.refl _) (⟨⟨by omega, by omega, by omega⟩, Nat.dvd_zero _, hp2, ht3, fun c _ h => by omega, fun e he _ hen => hbl3 e he hen hen⟩) (fun a b zs2 hI => ?_)
      obtain ⟨⟨ha0, hb0, han⟩, hdv, hp1, ht1, hbl, hrest⟩ := hI
      have hzl2 := hp1.length_eq
      have hdb : bs.toNat ∣ a.toNat := Nat.dvd_trans ⟨2, by omega⟩ hdv
      refine tr_seq ?_
      refine tr_seq ?_
      refine tr_region fun _ _ _ => ?_
      iterate 3 refine pu rfl rfl rfl rfl rfl ?_
      refine tr_cond_bool rfl (fun h9 => ?_) (fun h9 => ?_)
      · try simp only [zbA] at h9
        refine tr_skip ?_
        refine tr_block ?_
        refine tr_seq ?_
        have hA := hrest a.toNat hdb (Nat.le_refl _) (by omega)
        rw [show min (a.toNat + bs.toNat) xs.length = (a + bs).toNat by omega] at hA
        have hB := hrest (a + bs).toNat (by rw [show (a + bs).toNat = a.toNat + bs.toNat by omega]; exact Nat.dvd_add hdb (Nat.dvd_refl _)) (by omega) (by omega)
        rw [show min ((a + bs).toNat + bs.toNat) xs.length = b.toNat by omega] at hB
        have hC : Crs r (gd zs2) a.toNat (a + bs).toNat b.toNat := (ht1.sub (by omega) (by omega) : Tie r (gd zs2) a.toNat b.toNat).crs _
        refine tr_region fun _ _ _ => ?_
        iterate 4 refine pu rfl rfl rfl rfl rfl ?_
        refine st rfl rfl rfl rfl (rAdd rfl rfl rfl (by omega) (by omega)) ?_
        iterate 2 refine pu rfl rfl rfl rfl rfl ?_
        refine ef rfl rfl (eCallM1 rfl rfl rfl (slc_sym A n c f lb Gc r hr _ zs2 (by omega) (by omega) a (a + bs) b (by omega) (by omega) (by omega) (by omega) (Nat.le_refl _) (fun x hx y hy => hf x (hp1.mem_iff.1 hx) y (hp1.mem_iff.1 hy)) hA hB hC) ⟨rfl, rfl, rfl, rfl, rfl, trivial⟩ ?_) 
        rintro _ _ ⟨rfl, us, rfl, hsu⟩
        refine tr_seq ?_
        refine tr_region fun _ _ _ => ?_
        iterate 2 refine pu rfl rfl rfl rfl rfl ?_
        refine tr_region fun _ _ _ => ?_
        iterate 2 refine pu rfl rfl rfl rfl rfl ?_
        refine st rfl rfl rfl rfl (rMul rfl rfl rfl (by omega) (by omega)) ?_
        refine st rfl rfl rfl rfl (rAdd rfl rfl rfl (by omega) (by omega)) ?_
        refine pu rfl rfl rfl rfl rfl ?_
        refine ⟨b, (b + 2 * bs), us, ⟨rfl, rfl, rfl, rfl, rfl, rfl, rfl, rfl, rfl, trivial⟩, by first | exact cs _ _ | exact CSub.refl _, ?_⟩
        have hpu := hsu.perm.trans hp1
        have hul := hpu.length_eq
        refine ⟨⟨⟨by omega, by omega, by omega⟩, ?_, hpu, ht1.frm hsu.frm hsu.srt.tie (by omega) (by omega), ?_, fun e he hae hen => ?_⟩, by omega⟩
        · rw [show b.toNat = a.toNat + (2 * bs).toNat by omega]; exact Nat.dvd_add hdv (Nat.dvd_refl _)
        · rw [show b.toNat = a.toNat + (2 * bs).toNat by omega]
          refine blk_push (blk_frm hbl hsu.frm hdv (Nat.le_refl _)) hdv ?_
          rw [show min (a.toNat + (2 * bs).toNat) xs.length = b.toNat by omega]
          exact hsu.srt
        · exact (hrest e he (by omega) hen).frm hsu.frm (.inr (by omega))
      · try simp only [zbA] at h9
        refine tr_exit ?_
        refine tr_seq ?_
        refine tr_seq ?_
        refine tr_region fun _ _ _ => ?_
        iterate 2 refine pu rfl rfl rfl rfl rfl ?_
        refine st rfl rfl rfl rfl (rAdd rfl rfl rfl (by omega) (by omega)) ?_
        refine pu rfl rfl rfl rfl rfl ?_
        refine tr_seq ?_
        refine tr_region fun _ _ _ => ?_
        iterate 3 refine pu rfl rfl rfl rfl rfl ?_
        refine tr_cond_bool rfl (fun h14 => ?_) (fun h14 => ?_)
        · try simp only [zbA] at h14
          have hA := hrest a.toNat hdb (Nat.le_refl _) (by omega)
          rw [show min (a.toNat + bs.toNat) xs.length = (a + bs).toNat by omega] at hA
          have hB := hrest (a + bs).toNat (by rw [show (a + bs).toNat = a.toNat + bs.toNat by omega]; exact Nat.dvd_add hdb (Nat.dvd_refl _)) (by omega) (by omega)
          rw [show min ((a + bs).toNat + bs.toNat) xs.length = (n : Int).toNat by omega] at hB
          have hC : Crs r (gd zs2) a.toNat (a + bs).toNat (n : Int).toNat := (ht1.sub (by omega) (by omega) : Tie r (gd zs2) a.toNat (n : Int).toNat).crs _
          refine tr_region fun _ _ _ => ?_
          iterate 5 refine pu rfl rfl rfl rfl rfl ?_
          refine ef rfl rfl (eCallM1 rfl rfl rfl (slc_sym A n c f lb Gc r hr _ zs2 (by omega) (by omega) a (a + bs) n (by omega) (by omega) (by omega) (by omega) (Nat.le_refl _) (fun x hx y hy => hf x (hp1.mem_iff.1 hx) y (hp1.mem_iff.1 hy)) hA hB hC) ⟨rfl, rfl, rfl, rfl, rfl, trivial⟩ ?_) 
          rintro _ _ ⟨rfl, us, rfl, hsu⟩
          refine tr_region fun _ _ _ => ?_
          refine pu rfl rfl rfl rfl rfl ?_
          refine st rfl rfl rfl rfl (rMul rfl rfl rfl (by omega) (by omega)) ?_
          refine pu rfl rfl rfl rfl rfl ?_
          refine ⟨bs * 2, us, ⟨rfl, rfl, rfl, rfl, trivial⟩, by first | exact cs _ _ | exact CSub.refl _, ?_⟩
          have hpu := hsu.perm.trans hp1
          have hdv2 : bs.toNat ∣ a.toNat := Nat.dvd_trans ⟨2, by omega⟩ hdv
          have ht4 : Tie r (gd us) 0 xs.length := ht1.frm hsu.frm hsu.srt.tie (by omega) (by omega)
          refine ⟨⟨⟨by omega, by omega⟩, hpu, ht4, ?_⟩, by omega⟩
          rw [show (bs * 2).toNat = (2 * bs).toNat by omega]
          have h1 := blk_push (blk_frm hbl hsu.frm hdv (Nat.le_refl _)) hdv (by
            rw [show min (a.toNat + (2 * bs).toNat) xs.length = (n : Int).toNat by omega]
            exact hsu.srt)
          exact fun c hc hcn hcn2 => h1 c hc (by omega) hcn2
        · try simp only [zbA] at h14
          refine tr_skip ?_
          refine tr_region fun _ _ _ => ?_
          refine pu rfl rfl rfl rfl rfl ?_
          refine st rfl rfl rfl rfl (rMul rfl rfl rfl (by omega) (by omega)) ?_
          refine pu rfl rfl rfl rfl rfl ?_
          refine ⟨bs * 2, zs2, ⟨rfl, rfl, rfl, rfl, trivial⟩, by first | exact cs _ _ | exact CSub.refl _, ?_⟩
          refine ⟨⟨⟨by omega, by omega⟩, hp1, ht1, ?_⟩, by omega⟩
          rw [show (bs * 2).toNat = (2 * bs).toNat by omega]
          by_cases han2 : a = n
          · exact fun c hc hcn hcn2 => hbl c hc (by omega) hcn2
          · have h1 := blk_push hbl hdv (by
              have := hrest a.toNat (Nat.dvd_trans ⟨2, by omega⟩ hdv) (Nat.le_refl _) (by omega)
              rw [show min (a.toNat + bs.toNat) xs.length = xs.length by omega] at this
              rw [show min (a.toNat + (2 * bs).toNat) xs.length = xs.length by omega]
              exact this)
            exact fun c hc hcn hcn2 => h1 c hc (by omega) hcn2
    · try simp only [zbA] at h7
      refine tr_exit ?_
      have hfin : Srt r (gd ys2) 0 xs.length := by
        by_cases h0 : xs.length = 0
        · exact fun u v h1 h2 h3 => by omega
        · have := hbl3 0 (Nat.dvd_zero _) (by omega) (by omega)
          rwa [show min (0 + bs.toNat) xs.length = xs.length by omega] at this
      exact ⟨trivial, _, _, .nil, ⟨_, rfl, rfl, ys2, rfl, ⟨hp2, hfin⟩⟩, cs _ _, trivial, trivial⟩
theorem slc_SortStab_ent : Enters Tryz.prog 88 := enters_of Tryz.func88 (by kernel_rfl) (by kernel_rfl)
theorem slc_SortStab (A : Option Addr) (n c : Nat) (xs : List Int) (hn : n = xs.length) (h9 : xs.length ≤ 1000000) (f : FuncId) (lb : List Value) (Gc : List Chunk) (r : Int → Int) (hr : ∀ x, 0 ≤ r x ∧ r x ≤ 4294967296) (hf : ∀ x ∈ xs, ∀ y ∈ xs, Pure Tryz.prog f ([Value.int .i64 x, Value.int .i64 y] ++ lb).toArray Gc (isV (.int .i64 (r y - r x)))) (ht : Tie r (gd xs) 0 xs.length) :
    Mut Tryz.prog 88 #[.slice A n c, .func (.func f) #[] lb.toArray] [ow A 3 c (ints xs)] [bun Gc] (one (fun v ch => v = .tuple #[] ∧ ∃ ys : List Int, ch = ow A 3 c (ints ys) ∧ ys.Perm xs ∧ Srt r (gd ys) 0 xs.length)) := by
  refine mut_of (args := [.slice A n c, .func (.func f) #[] lb.toArray]) 9 (F := [ow A 3 c (ints xs), bun Gc]) rfl Tryz.func88 rfl rfl rfl slc_SortStab_ent (fun w0 => ?_)
  refine tr_region fun _ _ _ => ?_
  iterate 2 refine pu rfl rfl rfl rfl rfl ?_
  refine st rfl rfl rfl rfl (rLen rfl rfl) ?_
  refine pu rfl rfl rfl rfl rfl ?_
  refine ef rfl rfl (eCallM1 rfl rfl rfl (slc_stab A n c xs hn h9 f lb Gc r hr hf ht) ⟨rfl, rfl, rfl, trivial⟩ ?_) 
  rintro _ _ ⟨rfl, ys, rfl, hpy, hsy⟩
  exact ⟨trivial, _, _, .nil, ⟨_, rfl, rfl, ys, rfl, ⟨hpy, hsy⟩⟩, cs _ _, trivial, trivial⟩
def rlF (ts : List RowM) : Int → Int := fun x => (relL ts).getD x.toNat 0
theorem sec_hi {r : List Int} {q : Int} (h : RowOk q r) (h2 : 2 ≤ q) : 0 ≤ relI r ∧ relI r ≤ 2147483648 := by
  have hl := h.1
  have h0 : 0 < r.length := by omega
  have hh := hardI_lt h0
  have hb := sec_bd (b := hardI r) h.2 (by omega) r.length (Nat.le_refl _)
  have ha := h.at (hardI r)
  have hn : ∃ j, j < r.length ∧ j ≠ hardI r := by
    by_cases e : hardI r = 0
    · exact ⟨1, by omega, by omega⟩
    · exact ⟨0, h0, fun e' => e e'.symm⟩
  have hnn := sec_nn (b := hardI r) (fun x hx => (h.2 x hx).1) r.length (Nat.le_refl _) hn
  have hge : r.getD (hardI r) 0 ≤ sec r (hardI r) r.length := by
    have key : ∀ k, k ≤ r.length → 0 ≤ sec r (hardI r) k → r.getD (hardI r) 0 ≤ sec r (hardI r) k := fun k => by
      induction k with
      | zero => intro _ h; rw [sec] at h; omega
      | succ k ih =>
        intro hk
        rw [sec]
        split
        · intro _; exact hardI_min (by omega)
        · exact ih (by omega)
    exact key _ (Nat.le_refl _) hnn
  unfold relI
  omega
theorem rlF_bd {ts : List RowM} {q : Int} (htr : ∀ r ∈ ts, RowOk q r.xs) (h2 : 2 ≤ q) (x : Int) : 0 ≤ rlF ts x ∧ rlF ts x ≤ 2147483648 := by
  unfold rlF
  by_cases h : x.toNat < ts.length
  · rw [relL_getD ts h]; exact sec_hi (htr _ (getD_mem h _)) h2
  · rw [getD_out (by rw [relL_length]; omega)]; omega
end Go.Proofs.YtoalphamojhpcaaGreat

set_option linter.unusedSimpArgs false
set_option linter.unusedVariables false
set_option maxRecDepth 100000
namespace Go.Proofs.YtoalphamojhpcaaGreat
open Go.RowKit
theorem mat_Columns_ent : Enters Tryz.prog 57 := enters_of Tryz.func57 (by kernel_rfl) (by kernel_rfl)
theorem mat_Columns (p m : Int) (A : Option Addr) (c : Nat) (mod : List Int) [hF : IsF p m mod] (w : Int) (Aa : Option Addr) (n ca : Nat) (rs : List RowM) (hn : n = rs.length) (h9 : rs.length ≤ 256) (hc : CodeOk p m mod w rs) (Q : Option Addr) (nq cq : Nat) (os : List Int) (hnq : nq = os.length) (hq9 : os.length ≤ 256) (hos : ∀ i ∈ os, 0 ≤ i ∧ i < w) :
    Pure Tryz.prog 57 #[.agg #[.int .i64 p, .int .i64 m, .slice A mod.length c], .agg #[.int .i64 w, .slice Aa n ca], .slice Q nq cq] [ro A (ints mod), ro Aa (hdrs rs), rowsR rs, ro Q (ints os)] (two (fun v ca cb => ∃ B cb2 r3, v = .tuple #[.agg #[.int .i64 nq, .slice B r3.length cb2], .int .i64 0] ∧ ca = ow B 22 cb2 (hdrs r3) ∧ cb = rowsCh 3 r3 ∧ xss r3 = (xss rs).map (pkL os))) := by
  have hl9 := hF.short
  have hn1 := hc.n1
  have hn64 := hc.n64
  have hlen := hc.len
  have hgd := hc.good
  have h8 := hgd.h8 (N := 17592186044415) (by omega)
  have hck := hc.zero
  have hq2 := hF.q2
  refine pure_ofC (args := [.agg #[.int .i64 p, .int .i64 m, .slice A mod.length c], .agg #[.int .i64 w, .slice Aa n ca], .slice Q nq cq]) 85 Tryz.func57 rfl rfl rfl mat_Columns_ent ⟨id, id, id, id, trivial⟩ (fun w0 => ?_)
  refine tr_seq ?_
  refine tr_region fun _ _ _ => ?_
  refine ef rfl rfl (eBox rfl rfl rfl rfl rfl (fun p0 => ?_)) 
  refine ef rfl rfl (eBox rfl rfl rfl rfl rfl (fun p0a => ?_)) 
  refine ef rfl rfl (eAlloc rfl rfl rfl (fun p0b => ?_)) 
  refine pu rfl rfl rfl rfl rfl ?_
  refine tr_seq ?_
  refine tr_seq ?_
  refine tr_region fun _ _ _ => ?_
  refine st rfl rfl rfl rfl (rLdS rfl rfl rfl) ?_
  refine st rfl rfl rfl rfl (rLdS rfl rfl rfl) ?_
  refine ef rfl rfl (eLitS rfl rfl rfl rfl (fun p1 => ?_)) 
  refine ef rfl rfl (eCall1 rfl rfl rfl (mat_openG _ _ _ _ _ (by omega) _ _ w Aa _ ca rs hn (by omega) h8 hc.row) ⟨rfl, rfl, trivial⟩ ?_) 
  rintro _ _ ⟨g, rfl, rfl, hg⟩
  iterate 5 refine pu rfl rfl rfl rfl rfl ?_
  refine tr_seq ?_
  refine tr_region fun _ _ _ => ?_
  iterate 2 refine pu rfl rfl rfl rfl rfl ?_
  refine tr_cond_bool rfl (fun h2 => ?_) (fun h2 => ?_)
  · try simp only [zbA] at h2
    first | exact absurd trivial h2 | exact absurd rfl h2 | omega | (exact absurd h2 (by simp)) --done
  · try simp only [zbA] at h2
    refine tr_skip ?_
    refine tr_seq ?_
    refine tr_seq ?_
    refine tr_region fun _ _ _ => ?_
    refine pu rfl rfl rfl rfl rfl ?_
    refine st rfl rfl rfl rfl (rLen rfl rfl) ?_
    refine pu rfl rfl rfl rfl rfl ?_
    refine tr_cond_bool rfl (fun h4 => ?_) (fun h4 => ?_)
    · try simp only [zbA] at h4
      omega --done
    · try simp only [zbA] at h4
      refine tr_skip ?_
      refine tr_seq ?_
      refine tr_seq ?_
      refine tr_region fun _ _ _ => ?_
      refine pu rfl rfl rfl rfl rfl ?_
      refine st rfl rfl rfl rfl (rLen rfl rfl) ?_
      refine pu rfl rfl rfl rfl rfl ?_
      refine tr_block ?_
      refine tr_loop1 (fun (k : Int) => [(35, .int .i64 k), (2, .slice Q nq cq), (4, .pointer (some p0a)), (6, .pointer (some p0b)), (33, .slice Q nq cq), (34, .int .i64 nq)]) (fun (k : Int) => [gfN g, blk p0b 87 [.int .i64 0, .slice none 0 0], blk p0 24 [.int .i64 p, .int .i64 m, .slice A mod.length c], blk p0a 87 [.int .i64 w, .slice Aa n ca], ro A (ints mod), ro Aa (hdrs rs), rowsR rs, ro Q (ints os)]) (fun (k : Int) => 0 ≤ k ∧ k ≤ nq) (fun (k : Int) => (nq - k).toNat) (0) ⟨rfl, rfl, rfl, rfl, rfl, rfl, trivial⟩ (by first | exact cs _ _ | exact CSub.refl _) (⟨by omega, by omega⟩) (fun k hI => ?_)
      refine tr_seq ?_
      refine tr_region fun _ _ _ => ?_
      refine pu rfl rfl rfl rfl rfl ?_
      refine tr_seq ?_
      refine tr_cond_bool rfl (fun h7 => ?_) (fun h7 => ?_)
      · try simp only [zbA] at h7
        refine tr_skip ?_
        refine tr_seq ?_
        refine tr_block ?_
        refine tr_seq ?_
        refine tr_region fun _ _ _ => ?_
        refine st rfl rfl rfl rfl (rIdxI rfl rfl rfl (by omega) (by omega) (by omega)) ?_
        refine st rfl rfl rfl rfl (rLdI rfl rfl (by omega)) ?_
        refine pu rfl rfl rfl rfl rfl ?_
        refine tr_seq ?_
        refine tr_region fun _ _ _ => ?_
        iterate 3 refine pu rfl rfl rfl rfl rfl ?_
        refine stg rfl rfl rfl rfl rfl (fun hb => by (have hq := hb; try simp only [zbA] at hq); exact rMove rfl rfl) ?_
        refine stg rfl rfl rfl rfl rfl (fun hb => by (have hq := hb; try simp only [zbA] at hq); exact rFld rfl rfl) ?_
        refine stg rfl rfl rfl rfl rfl (fun hb => by (have hq := hb; try simp only [zbA] at hq); exact rLdF rfl (evg rfl hb) rfl) ?_
        refine stg rfl rfl rfl rfl rfl (fun hb => by (have hq := hb; try simp only [zbA] at hq); exact rGeq rfl (evg rfl hb) (evg rfl hb)) ?_
        refine st rfl rfl rfl rfl (rOrB rfl rfl rfl rfl) ?_
        refine tr_cond_bool rfl (fun h9 => ?_) (fun h9 => ?_)
        · try simp only [zbA] at h9
          have hb := hos _ (getD_mem (show k.toNat < os.length by omega) 0)
          omega --done
        · try simp only [zbA] at h9
          refine tr_skip ?_
          refine tr_region fun _ _ _ => ?_
          refine st rfl rfl rfl rfl (rAdd rfl rfl rfl (by omega) (by omega)) ?_
          refine pu rfl rfl rfl rfl rfl ?_
          refine ⟨k + 1, ⟨rfl, rfl, rfl, rfl, rfl, rfl, trivial⟩, by first | exact cs _ _ | exact CSub.refl _, ?_⟩
          exact ⟨⟨by omega, by omega⟩, by omega⟩
      · try simp only [zbA] at h7
        refine tr_exit ?_
        refine tr_seq ?_
        refine tr_region fun _ _ _ => ?_
        refine pu rfl rfl rfl rfl rfl ?_
        refine st rfl rfl rfl rfl (rLen rfl rfl) ?_
        refine st rfl rfl rfl rfl (rBuild rfl rfl) ?_
        refine ef rfl rfl (eAlloc rfl rfl rfl (fun p12 => ?_)) 
        refine ef rfl rfl (eStS rfl rfl rfl rfl rfl rfl ?_) 
        refine tr_seq ?_
        refine tr_seq ?_
        refine tr_region fun _ _ _ => ?_
        refine st rfl rfl rfl rfl (rFld rfl rfl) ?_
        refine st rfl rfl rfl rfl (rLdF rfl rfl rfl) ?_
        refine st rfl rfl rfl rfl (rLen rfl rfl) ?_
        refine pu rfl rfl rfl rfl rfl ?_
        refine tr_block ?_
        refine tr_nilR 22 3 ?_
        refine tr_loop4 (fun (k : Int) (AQ : Option Addr) (c2 : Nat) (qs : List RowM) => [(12, .pointer (some p12)), (55, .int .i64 k), (53, .slice Aa n ca), (54, .int .i64 n), (2, .slice Q nq cq), (6, .pointer (some p0b))]) (fun (k : Int) (AQ : Option Addr) (c2 : Nat) (qs : List RowM) => [ow AQ 22 c2 (hdrs qs), rowsCh 3 qs, blk p12 87 [.int .i64 nq, .slice AQ qs.length c2], blk p0b 87 [.int .i64 0, .slice none 0 0], gfN g, blk p0 24 [.int .i64 p, .int .i64 m, .slice A mod.length c], blk p0a 87 [.int .i64 w, .slice Aa n ca], ro A (ints mod), ro Aa (hdrs rs), rowsR rs, ro Q (ints os)]) (fun (k : Int) (AQ : Option Addr) (c2 : Nat) (qs : List RowM) => (0 ≤ k ∧ k ≤ n) ∧ xss qs = ((xss rs).take k.toNat).map (pkL os)) (fun (k : Int) (AQ : Option Addr) (c2 : Nat) (qs : List RowM) => (n - k).toNat) (0) (none) (0) ([]) ⟨rfl, rfl, rfl, rfl, rfl, rfl, trivial⟩ (by first | exact cs _ _ | exact CSub.refl _) (⟨⟨by omega, by omega⟩, rfl⟩) (fun k AQ c2 qs hI => ?_)
        obtain ⟨⟨hk0, hk1⟩, hqs⟩ := hI
        have hql : qs.length = k.toNat := by have := congrArg List.length hqs; simp at this; omega
        refine tr_seq ?_
        refine tr_region fun _ _ _ => ?_
        refine pu rfl rfl rfl rfl rfl ?_
        refine tr_seq ?_
        refine tr_cond_bool rfl (fun h14 => ?_) (fun h14 => ?_)
        · try simp only [zbA] at h14
          refine tr_skip ?_
          refine tr_seq ?_
          refine tr_block ?_
          refine tr_seq ?_
          refine tr_region fun _ _ _ => ?_
          refine st rfl rfl rfl rfl (rIdxR rfl rfl rfl (by omega) (by omega) (by omega)) ?_
          refine st rfl rfl rfl rfl (rLdR rfl rfl (by omega)) ?_
          refine pu rfl rfl rfl rfl rfl ?_
          refine tr_seq ?_
          haveI : InB k.toNat rs.length := ⟨by omega⟩
          have hgk := hgd.get (show k.toNat < rs.length by omega)
          have hgk1 := hgk.1
          refine tr_region fun _ _ _ => ?_
          refine pu rfl rfl rfl rfl rfl ?_
          refine st rfl rfl rfl rfl (rLen rfl rfl) ?_
          refine ef rfl rfl (eMakeI rfl rfl rfl rfl rfl (by omega) (by omega) (by omega) (fun A16 => ?_)) 
          refine pu rfl rfl rfl rfl rfl ?_
          simp only [Int.toNat_natCast]
          refine tr_seq ?_
          refine tr_seq ?_
          refine tr_region fun _ _ _ => ?_
          refine pu rfl rfl rfl rfl rfl ?_
          refine st rfl rfl rfl rfl (rLen rfl rfl) ?_
          refine pu rfl rfl rfl rfl rfl ?_
          refine tr_block ?_
          refine tr_loop2 (fun (j : Int) (y : List Int) => [(64, .int .i64 j), (15, .slice A16 nq nq), (14, .slice (rs.getD k.toNat rowD).A (rs.getD k.toNat rowD).xs.length (rs.getD k.toNat rowD).cap), (2, .slice Q nq cq), (6, .pointer (some p0b)), (12, .pointer (some p12)), (53, .slice Aa n ca), (54, .int .i64 n), (55, .int .i64 k), (59, .slice Q nq cq), (60, .int .i64 nq), (61, .slice A16 nq nq), (62, .slice Q nq cq), (63, .int .i64 nq)]) (fun (j : Int) (y : List Int) => [ow A16 3 nq (ints y), ow AQ 22 c2 (hdrs qs), rowsCh 3 qs, blk p12 87 [.int .i64 nq, .slice AQ qs.length c2], blk p0b 87 [.int .i64 0, .slice none 0 0], gfN g, blk p0 24 [.int .i64 p, .int .i64 m, .slice A mod.length c], blk p0a 87 [.int .i64 w, .slice Aa n ca], ro A (ints mod), ro Aa (hdrs rs), rowsR rs, ro Q (ints os)]) (fun (j : Int) (y : List Int) => (0 ≤ j ∧ j ≤ nq) ∧ y.length = nq ∧ ∀ z : Nat, (z : Int) < j → y.getD z 0 = (rs.getD k.toNat rowD).xs.getD (os.getD z 0).toNat 0) (fun (j : Int) (y : List Int) => (nq - j).toNat) (0) (List.replicate nq 0) ⟨rfl, rfl, rfl, rfl, rfl, rfl, rfl, rfl, rfl, rfl, rfl, rfl, rfl, rfl, trivial⟩ (by first | exact cs _ _ | exact CSub.refl _) (⟨⟨by omega, by omega⟩, by simp, fun z hz => by omega⟩) (fun j y hI => ?_)
          obtain ⟨⟨hj0, hj1⟩, hyl, hy⟩ := hI
          refine tr_seq ?_
          refine tr_region fun _ _ _ => ?_
          refine pu rfl rfl rfl rfl rfl ?_
          refine tr_seq ?_
          refine tr_cond_bool rfl (fun h18 => ?_) (fun h18 => ?_)
          · try simp only [zbA] at h18
            refine tr_skip ?_
            refine tr_seq ?_
            refine tr_block ?_
            refine tr_seq ?_
            refine tr_region fun _ _ _ => ?_
            refine pu rfl rfl rfl rfl rfl ?_
            refine st rfl rfl rfl rfl (rIdxI rfl rfl rfl (by omega) (by omega) (by omega)) ?_
            refine st rfl rfl rfl rfl (rLdI rfl rfl (by omega)) ?_
            iterate 2 refine pu rfl rfl rfl rfl rfl ?_
            have hb := hos _ (getD_mem (show j.toNat < os.length by omega) 0)
            refine tr_region fun _ _ _ => ?_
            iterate 4 refine pu rfl rfl rfl rfl rfl ?_
            refine st rfl rfl rfl rfl (rIdxI rfl rfl rfl (by omega) (by omega) (by omega)) ?_
            refine st rfl rfl rfl rfl (rLdI rfl rfl (by omega)) ?_
            refine st rfl rfl rfl rfl (rIdxI rfl rfl rfl (by omega) (by omega) (by omega)) ?_
            refine ef rfl rfl (eStI rfl rfl rfl rfl (by omega) ?_) 
            refine tr_region fun _ _ _ => ?_
            refine st rfl rfl rfl rfl (rAdd rfl rfl rfl (by omega) (by omega)) ?_
            refine pu rfl rfl rfl rfl rfl ?_
            refine ⟨j + 1, y.set j.toNat ((rs.getD k.toNat rowD).xs.getD (os.getD j.toNat 0).toNat 0), ⟨rfl, rfl, rfl, rfl, rfl, rfl, rfl, rfl, rfl, rfl, rfl, rfl, rfl, rfl, trivial⟩, by first | exact cs _ _ | exact CSub.refl _, ?_⟩
            refine ⟨⟨⟨by omega, by omega⟩, by simpa using hyl, fun z hz => ?_⟩, by omega⟩
            rw [getD_set]
            by_cases he : j.toNat = z
            · subst he; rw [if_pos ⟨rfl, by omega⟩]
            · rw [if_neg (fun h => he h.1)]; exact hy z (by omega)
          · try simp only [zbA] at h18
            refine tr_exit ?_
            have hjq : j.toNat = os.length := by omega
            have hyf : y = pkL os (rs.getD k.toNat rowD).xs := ext_getD (by rw [pkL_length]; omega) fun z => by
              by_cases hz : z < os.length
              · rw [pkL_getD hz]; exact hy z (by omega)
              · rw [getD_out (by omega), getD_out (by rw [pkL_length]; omega)]
            subst hyf
            refine tr_region fun _ _ _ => ?_
            refine st rfl rfl rfl rfl (rFld rfl rfl) ?_
            refine st rfl rfl rfl rfl (rLdF rfl rfl rfl) ?_
            refine pu rfl rfl rfl rfl rfl ?_
            refine ef rfl rfl (eLit1 rfl rfl rfl rfl rfl (fun A22 => ?_)) 
            refine ef rfl rfl (eAppRn (pkL os (rs.getD k.toNat rowD).xs) (by rw [pkL_length]; omega) rfl rfl rfl rfl rfl (by first | rfl | simp) (by omega) (fun A22a c22a => ?_)) 
            refine st rfl rfl rfl rfl (rFld rfl rfl) ?_
            refine ef rfl rfl (eStF rfl rfl rfl rfl rfl (by simp) rfl rfl ?_) 
            simp only [List.set_cons_succ, List.set_cons_zero]
            refine tr_region fun _ _ _ => ?_
            refine st rfl rfl rfl rfl (rAdd rfl rfl rfl (by omega) (by omega)) ?_
            refine pu rfl rfl rfl rfl rfl ?_
            refine ⟨k + 1, A22a, c22a, qs ++ [⟨A16, nq, pkL os (rs.getD k.toNat rowD).xs⟩], ⟨rfl, rfl, rfl, rfl, rfl, rfl, trivial⟩, by exact rows_app, ?_⟩
            refine ⟨⟨⟨by omega, by omega⟩, ?_⟩, by omega⟩
            rw [show (k + 1).toNat = k.toNat + 1 by omega, xss_take1 (by omega), xss_snoc, hqs, List.map_append]; rfl
        · try simp only [zbA] at h14
          refine tr_exit ?_
          refine tr_seq ?_
          refine tr_region fun _ _ _ => ?_
          refine st rfl rfl rfl rfl (rLdS rfl rfl rfl) ?_
          refine ef rfl rfl (eStS rfl rfl rfl rfl rfl rfl ?_) 
          refine pu rfl rfl rfl rfl rfl ?_
          have hkr : (xss rs).take k.toNat = xss rs := List.take_of_length_le (by rw [xss_length]; omega)
          rw [hkr] at hqs
          exact tr_ret ⟨trivial, _, _, (.cell rfl (cellS rfl) (.tmp rfl .nil)), ⟨_, _, rfl, AQ, c2, qs, rfl, rfl, rfl, hqs⟩, cs _ _, trivial, trivial, trivial⟩
end Go.Proofs.YtoalphamojhpcaaGreat

set_option linter.unusedSimpArgs false
set_option linter.unusedVariables false
set_option maxRecDepth 100000
namespace Go.Proofs.YtoalphamojhpcaaGreat
open Go.RowKit
theorem qs_le {K : Type} [Fd K] {n : Nat} {R : List (Vc K)} {qs : List Nat} (h : Vc.Rr n R qs) : qs.length ≤ n := by
  rcases Nat.eq_zero_or_pos qs.length with h0 | h0
  · omega
  · have a := Vc.rise_ge h.rise (qs.length - 1) (by omega)
    have b := h.lt (qs.length - 1) (by omega)
    omega
section
variable {p m : Int} {mod : List Int} [hF : IsF p m mod]
theorem BasOf.le {rs : List RowM} {o bs : List Int} (h : BasOf p m mod rs o bs) : bs.length ≤ o.length := by
  obtain ⟨E, qs, h1, h2, rfl⟩ := h
  rw [List.length_map]; exact qs_le h1
theorem BasOf.of_rr {w : Nat} {rs rc r3 : List RowM} {o ps : List Int} (ho : o.length = w) (hc : xss rc = (xss rs).map (pkL o)) (h : RrOf p m mod w rc r3 ps) : BasOf p m mod rs o (ps.map fun q => o.getD q.toNat 0) := by
  obtain ⟨qs, hp, hr⟩ := h.form
  refine ⟨_, qs, by rw [ho]; exact hr, fun u => ?_, ?_⟩
  · rw [h.span u, vsR_pk hc]
  · rw [hp, List.map_map]; rfl
theorem BasOf.mem {rs : List RowM} {o bs : List Int} (h : BasOf p m mod rs o bs) {x : Int} (hx : x ∈ bs) : x ∈ o := by
  obtain ⟨E, qs, h1, h2, rfl⟩ := h
  obtain ⟨q, hq, rfl⟩ := List.mem_map.1 hx
  obtain ⟨j, hj, rfl⟩ := List.getElem_of_mem hq
  have := h1.lt j hj
  rw [List.getD_eq_getElem?_getD, List.getElem?_eq_getElem hj] at this
  exact getD_mem this 0
end
theorem take_mapQ {o ps : List Int} {k : Nat} (h : k < ps.length) : ((ps.take (k + 1)).map fun q => o.getD q.toNat 0) = ((ps.take k).map fun q => o.getD q.toNat 0) ++ [o.getD (ps.getD k 0).toNat 0] := by
  rw [List.take_add_one, List.getElem?_eq_getElem h, List.map_append, List.getD_eq_getElem?_getD (l := ps), List.getElem?_eq_getElem h]; rfl
theorem ord_basis1_ent : Enters Tryz.prog 89 := enters_of Tryz.func89 (by kernel_rfl) (by kernel_rfl)
theorem ord_basis1 (x y : Int) (pp : Addr) (D : Option Addr) (cd : Nat) (ts : List RowM) (q : Int) (hq2 : 2 ≤ q) (htr : ∀ r ∈ ts, RowOk q r.xs) (hx : 0 ≤ x ∧ x < ts.length) (hy : 0 ≤ y ∧ y < ts.length) :
    Pure Tryz.prog 89 #[.int .i64 x, .int .i64 y, .pointer (some pp)] [ro (some pp) [.slice D (relL ts).length cd], ro D (ints (relL ts))] (isV (.int .i64 (rlF ts y - rlF ts x))) := by
  have hl := relL_length ts
  have h1 := rlF_bd htr hq2 x
  have h2 := rlF_bd htr hq2 y
  unfold rlF at h1 h2
  refine pure_of (args := [.int .i64 x, .int .i64 y, .pointer (some pp)]) 15 Tryz.func89 rfl rfl rfl ord_basis1_ent ⟨id, id, trivial⟩ (fun w0 => ?_)
  refine tr_seq ?_
  refine tr_region fun _ _ _ => ?_
  refine pu rfl rfl rfl rfl rfl ?_
  refine tr_seq ?_
  refine tr_draw [0, 1, 2, 3, 4, 5, 6, 7, 8, 9] [] mixed (by kernel_rfl) fun _ _ _ => ?_
  refine st rfl rfl rfl rfl (rLd0 rfl rfl) ?_
  refine pu rfl rfl rfl rfl rfl ?_
  refine st rfl rfl rfl rfl (rIdxI rfl rfl rfl (by omega) (by omega) (by omega)) ?_
  refine st rfl rfl rfl rfl (rLdI rfl rfl (by omega)) ?_
  refine st rfl rfl rfl rfl (rLd0 rfl rfl) ?_
  refine pu rfl rfl rfl rfl rfl ?_
  refine st rfl rfl rfl rfl (rIdxI rfl rfl rfl (by omega) (by omega) (by omega)) ?_
  refine st rfl rfl rfl rfl (rLdI rfl rfl (by omega)) ?_
  refine st rfl rfl rfl rfl (rSub rfl rfl rfl (by omega) (by omega)) ?_
  refine pu rfl rfl rfl rfl rfl ?_
  exact tr_ret ⟨trivial, _, _, rfl, ⟨rfl, rfl⟩, CSub.nil _, trivial⟩
theorem ord_basis_ent : Enters Tryz.prog 56 := enters_of Tryz.func56 (by kernel_rfl) (by kernel_rfl)
theorem ord_basis (p m : Int) (A : Option Addr) (c : Nat) (mod : List Int) [hF : IsF p m mod] (w : Int) (Aa : Option Addr) (n ca : Nat) (rs : List RowM) (hn : n = rs.length) (h9 : rs.length ≤ 256) (hc : CodeOk p m mod w rs) (T : Option Addr) (nt ct : Nat) (ts : List RowM) (hnt : nt = ts.length) (htab : TabOk (pw p m) w ts) :
    Pure Tryz.prog 56 #[.agg #[.int .i64 p, .int .i64 m, .slice A mod.length c, .int .i64 w, .slice Aa n ca], .slice T nt ct] [ro A (ints mod), ro Aa (hdrs rs), rowsR rs, ro T (hdrs ts), rowsR ts] (one (fun v ch => ∃ B cb bs o, v = .slice B bs.length cb ∧ ch = ow B 3 cb (ints bs) ∧ OrdS (rlF ts) ts.length o ∧ BasOf p m mod rs o bs)) := by
  have hl9 := hF.short
  have hn1 := hc.n1
  have hn64 := hc.n64
  have hlen := hc.len
  have hgd := hc.good
  have h8 := hgd.h8 (N := 17592186044415) (by omega)
  have hck := hc.zero
  have hq2 := hF.q2
  have htl := htab.len
  have hq256 := hF.out.1.1.q
  have hrll := relL_length ts
  refine pure_of (args := [.agg #[.int .i64 p, .int .i64 m, .slice A mod.length c, .int .i64 w, .slice Aa n ca], .slice T nt ct]) 73 Tryz.func56 rfl rfl rfl ord_basis_ent ⟨id, id, id, id, id, trivial⟩ (fun w0 => ?_)
  refine tr_seq ?_
  refine tr_region fun _ _ _ => ?_
  refine ef rfl rfl (eBox rfl rfl rfl rfl rfl (fun p0 => ?_)) 
  refine pu rfl rfl rfl rfl rfl ?_
  refine tr_seq ?_
  refine tr_region fun _ _ _ => ?_
  refine pu rfl rfl rfl rfl rfl ?_
  refine ef rfl rfl (eCall2 rfl rfl rfl (ord_hard T nt ct ts hnt (pw p m) hq2 hq256 (by omega) htab.row) ⟨rfl, trivial⟩ ?_) 
  rintro _ _ _ ⟨B1, c1, D1, d1, rfl, rfl, rfl⟩
  iterate 3 refine pu rfl rfl rfl rfl rfl ?_
  refine ef rfl rfl (eAlloc rfl rfl rfl (fun p1a => ?_)) 
  refine pu rfl rfl rfl rfl rfl ?_
  refine ef rfl rfl (eSt0 rfl rfl rfl rfl rfl rfl ?_) 
  refine tr_seq ?_
  refine tr_region fun _ _ _ => ?_
  refine st rfl rfl rfl rfl (rFld rfl rfl) ?_
  refine st rfl rfl rfl rfl (rLdF rfl rfl rfl) ?_
  refine ef rfl rfl (eMakeI rfl rfl rfl rfl rfl (by omega) (by omega) (by omega) (fun A2 => ?_)) 
  refine pu rfl rfl rfl rfl rfl ?_
  refine tr_seq ?_
  refine tr_seq ?_
  refine tr_region fun _ _ _ => ?_
  refine pu rfl rfl rfl rfl rfl ?_
  refine st rfl rfl rfl rfl (rLen rfl rfl) ?_
  refine pu rfl rfl rfl rfl rfl ?_
  refine tr_block ?_
  refine tr_loop2 (fun (k : Int) (o : List Int) => [(7, .slice A2 w.toNat w.toNat), (6, .pointer (some p1a)), (27, .int .i64 k), (2, .pointer (some p0)), (4, .slice none 0 0), (26, .int .i64 w.toNat)]) (fun (k : Int) (o : List Int) => [ow A2 3 w.toNat (ints o), blk p1a 22 [.slice D1 (relL ts).length d1], ow D1 3 d1 (ints (relL ts)), blk p0 27 [.int .i64 p, .int .i64 m, .slice A mod.length c, .int .i64 w, .slice Aa n ca], ro A (ints mod), ro Aa (hdrs rs), rowsR rs, ro T (hdrs ts), rowsR ts]) (fun (k : Int) (o : List Int) => (0 ≤ k ∧ k ≤ w) ∧ o.length = w.toNat ∧ ∀ j : Nat, (j : Int) < k → o.getD j 0 = (j : Int)) (fun (k : Int) (o : List Int) => (w - k).toNat) (0) (List.replicate w.toNat 0) ⟨rfl, rfl, rfl, rfl, rfl, rfl, trivial⟩ (by first | exact cs _ _ | exact CSub.refl _) (⟨⟨by omega, by omega⟩, by simp, fun j hj => by omega⟩) (fun k o hI => ?_)
  obtain ⟨⟨hk0, hk1⟩, hol, ho⟩ := hI
  refine tr_seq ?_
  refine tr_region fun _ _ _ => ?_
  refine pu rfl rfl rfl rfl rfl ?_
  refine tr_seq ?_
  refine tr_cond_bool rfl (fun h4 => ?_) (fun h4 => ?_)
  · try simp only [zbA] at h4
    refine tr_skip ?_
    refine tr_seq ?_
    refine tr_block ?_
    refine tr_seq ?_
    refine tr_region fun _ _ _ => ?_
    iterate 2 refine pu rfl rfl rfl rfl rfl ?_
    refine tr_region fun _ _ _ => ?_
    iterate 3 refine pu rfl rfl rfl rfl rfl ?_
    refine st rfl rfl rfl rfl (rIdxI rfl rfl rfl (by omega) (by omega) (by omega)) ?_
    refine ef rfl rfl (eStI rfl rfl rfl rfl (by omega) ?_) 
    refine tr_region fun _ _ _ => ?_
    refine st rfl rfl rfl rfl (rAdd rfl rfl rfl (by omega) (by omega)) ?_
    refine pu rfl rfl rfl rfl rfl ?_
    refine ⟨k + 1, o.set k.toNat k, ⟨rfl, rfl, rfl, rfl, rfl, rfl, trivial⟩, by first | exact cs _ _ | exact CSub.refl _, ?_⟩
    refine ⟨⟨⟨by omega, by omega⟩, by simpa using hol, fun j hj => ?_⟩, by omega⟩
    rw [getD_set]
    by_cases he : k.toNat = j
    · rw [if_pos ⟨he, by omega⟩]; omega
    · rw [if_neg (fun h => he h.1)]; exact ho j (by omega)
  · try simp only [zbA] at h4
    refine tr_exit ?_
    refine tr_seq ?_
    have hkw : k = w := by omega
    have hob : ∀ x ∈ o, 0 ≤ x ∧ x < ts.length := fun x hx => by
      obtain ⟨j, hj, rfl⟩ := List.getElem_of_mem hx
      have := ho j (by omega)
      rw [List.getD_eq_getElem?_getD, List.getElem?_eq_getElem hj] at this
      have h2 : o[j] = (j : Int) := this
      omega
    have htie : Tie (rlF ts) (gd o) 0 o.length := fun u v h1 h2 h3 _ => by
      have a := ho u (by omega)
      have b := ho v (by omega)
      show o.getD u 0 < o.getD v 0
      omega
    refine tr_region fun _ _ _ => ?_
    refine pu rfl rfl rfl rfl rfl ?_
    refine st rfl rfl rfl rfl (rFun rfl rfl rfl) ?_
    refine ef rfl rfl (eCallM1 rfl rfl rfl (slc_SortStab A2 _ _ o (by omega) (by omega) _ [.pointer (some p1a)] [ro (some p1a) [.slice D1 (relL ts).length d1], ro D1 (ints (relL ts))] (rlF ts) (fun x => by have := rlF_bd htab.row hq2 x; omega) (fun x hx y hy => ord_basis1 x y p1a D1 d1 ts (pw p m) hq2 htab.row (hob x hx) (hob y hy)) htie) ⟨rfl, rfl, trivial⟩ ?_) 
    rintro _ _ ⟨rfl, o2, rfl, hpo, hso⟩
    refine tr_seq ?_
    have hol2 := hpo.length_eq
    have hob2 : ∀ i ∈ o2, 0 ≤ i ∧ i < w := fun i hi => by have := hob i (hpo.mem_iff.1 hi); omega
    have hO : OrdS (rlF ts) ts.length o2 := OrdS.of_sort (l := o) (by omega) (fun k hk => ho k (by omega)) hpo (by rw [show ts.length = o.length by omega]; exact hso)
    refine tr_region fun _ _ _ => ?_
    refine st rfl rfl rfl rfl (rFld rfl rfl) ?_
    refine st rfl rfl rfl rfl (rLdSF rfl rfl) ?_
    refine st rfl rfl rfl rfl (rFld rfl rfl) ?_
    refine st rfl rfl rfl rfl (rLdF rfl rfl rfl) ?_
    refine st rfl rfl rfl rfl (rFld rfl rfl) ?_
    refine st rfl rfl rfl rfl (rLdF rfl rfl rfl) ?_
    refine st rfl rfl rfl rfl (rBuild rfl rfl) ?_
    refine pu rfl rfl rfl rfl rfl ?_
    refine ef rfl rfl (eCall2 rfl rfl rfl (mat_Columns p m A c mod w Aa n ca rs hn h9 hc A2 _ _ o2 (by omega) (by omega) hob2) ⟨rfl, rfl, rfl, trivial⟩ ?_) 
    rintro _ _ _ ⟨Bc, cc, rc, rfl, rfl, rfl, hrc⟩
    iterate 3 refine pu rfl rfl rfl rfl rfl ?_
    refine ef rfl rfl (eAlloc rfl rfl rfl (fun p9a => ?_)) 
    refine ef rfl rfl (eStS rfl rfl rfl rfl rfl rfl ?_) 
    refine pu rfl rfl rfl rfl rfl ?_
    refine tr_seq ?_
    have hrcl : rc.length = rs.length := by have := congrArg List.length hrc; simpa using this
    have hgc := gd_pk (by omega) hgd hrc
    have hEc : rowsC (pw p m) (w.toNat : Int) (xss rc) = 0 := rowsC_gd (by omega) (by omega) (by omega) (by rw [Int.toNat_natCast, show w.toNat = o2.length by omega]; exact hgc)
    refine tr_region fun _ _ _ => ?_
    refine st rfl rfl rfl rfl (rFld rfl rfl) ?_
    refine st rfl rfl rfl rfl (rLdSF rfl rfl) ?_
    refine st rfl rfl rfl rfl (rLdS rfl rfl rfl) ?_
    refine ef rfl rfl (eCall3 rfl rfl rfl (mat_CanonicalG _ _ _ _ _ (by omega) (w.toNat : Int) Bc _ cc rc rfl (by omega) (hgc.h8 (by omega)) hEc) ⟨rfl, rfl, trivial⟩ ?_) 
    rintro _ _ _ _ ⟨Bk, r3, Bp, cp, ps, rfl, rfl, rfl, rfl, hR, hk⟩
    iterate 4 refine pu rfl rfl rfl rfl rfl ?_
    refine ef rfl rfl (eAlloc rfl rfl rfl (fun p10a => ?_)) 
    refine ef rfl rfl (eStS rfl rfl rfl rfl rfl rfl ?_) 
    iterate 2 refine pu rfl rfl rfl rfl rfl ?_
    refine tr_seq ?_
    refine tr_region fun _ _ _ => ?_
    refine pu rfl rfl rfl rfl rfl ?_
    refine tr_seq ?_
    refine tr_seq ?_
    rw [Int.toNat_natCast] at hR
    obtain ⟨qs, hpq, hrq⟩ := hR.form
    have hpl : ps.length = qs.length := by rw [hpq, List.length_map]
    have hql := qs_le hrq
    have hpk : ∀ j, j < ps.length → 0 ≤ ps.getD j 0 ∧ ps.getD j 0 < o2.length := fun j hj => by
      have := hrq.lt j (by omega)
      rw [hpq, ofNat_getD]; omega
    refine tr_region fun _ _ _ => ?_
    refine pu rfl rfl rfl rfl rfl ?_
    refine st rfl rfl rfl rfl (rLen rfl rfl) ?_
    refine pu rfl rfl rfl rfl rfl ?_
    refine tr_block ?_
    refine tr_nilI 3 ?_
    refine tr_loop4 (fun (k2 : Int) (B : Option Addr) (cb : Nat) (l : List Int) => [(7, .slice A2 w.toNat w.toNat), (14, .slice B l.length cb), (58, .slice Bp ps.length cp), (59, .int .i64 ps.length), (60, .int .i64 k2), (4, .slice none 0 0)]) (fun (k2 : Int) (B : Option Addr) (cb : Nat) (l : List Int) => [ow B 3 cb (ints l), ow Bp 3 cp (ints ps), ow A2 3 w.toNat (ints o2), blk p1a 22 [.slice D1 (relL ts).length d1], ow D1 3 d1 (ints (relL ts)), blk p0 27 [.int .i64 p, .int .i64 m, .slice A mod.length c, .int .i64 w, .slice Aa n ca], ro A (ints mod), ro Aa (hdrs rs), rowsR rs, ro T (hdrs ts), rowsR ts]) (fun (k2 : Int) (B : Option Addr) (cb : Nat) (l : List Int) => (0 ≤ k2 ∧ k2 ≤ ps.length) ∧ l = (ps.take k2.toNat).map fun q => o2.getD q.toNat 0) (fun (k2 : Int) (B : Option Addr) (cb : Nat) (l : List Int) => (ps.length - k2).toNat) (0) (none) (0) ([]) ⟨rfl, rfl, rfl, rfl, rfl, rfl, trivial⟩ (by first | exact cs _ _ | exact CSub.refl _) (⟨⟨by omega, by omega⟩, rfl⟩) (fun k2 B cb l hI => ?_)
    obtain ⟨⟨hk20, hk21⟩, hl⟩ := hI
    have hll : l.length = k2.toNat := by rw [hl, List.length_map, List.length_take]; omega
    refine tr_seq ?_
    refine tr_region fun _ _ _ => ?_
    refine pu rfl rfl rfl rfl rfl ?_
    refine tr_seq ?_
    refine tr_cond_bool rfl (fun h13 => ?_) (fun h13 => ?_)
    · try simp only [zbA] at h13
      refine tr_skip ?_
      refine tr_seq ?_
      refine tr_block ?_
      refine tr_seq ?_
      skip
      refine tr_region fun _ _ _ => ?_
      refine st rfl rfl rfl rfl (rIdxI rfl rfl rfl (by omega) (by omega) (by omega)) ?_
      refine st rfl rfl rfl rfl (rLdI rfl rfl (by omega)) ?_
      refine pu rfl rfl rfl rfl rfl ?_
      have hpb := hpk k2.toNat (by omega)
      refine tr_region fun _ _ _ => ?_
      iterate 3 refine pu rfl rfl rfl rfl rfl ?_
      refine st rfl rfl rfl rfl (rIdxI rfl rfl rfl (by omega) (by omega) (by omega)) ?_
      refine st rfl rfl rfl rfl (rLdI rfl rfl (by omega)) ?_
      refine ef rfl rfl (eLit1I rfl rfl rfl rfl (fun A15 => ?_)) 
      refine ef rfl rfl (eAppI rfl rfl rfl rfl rfl (by first | rfl | simp | omega) (by first | rfl | simp | omega) (by first | omega | (simp; omega)) (fun A15a c15a => ?_)) 
      refine pu rfl rfl rfl rfl rfl ?_
      refine tr_region fun _ _ _ => ?_
      refine st rfl rfl rfl rfl (rAdd rfl rfl rfl (by omega) (by omega)) ?_
      refine pu rfl rfl rfl rfl rfl ?_
      refine ⟨k2 + 1, A15a, c15a, l ++ [o2.getD (ps.getD k2.toNat 0).toNat 0], ⟨rfl, rfl, rfl, rfl, rfl, rfl, trivial⟩, by first | exact cs _ _ | exact CSub.refl _, ?_⟩
      exact ⟨⟨⟨by omega, by omega⟩, by rw [show (k2 + 1).toNat = k2.toNat + 1 by omega, take_mapQ (by omega), ← hl]⟩, by omega⟩
    · try simp only [zbA] at h13
      refine tr_exit ?_
      refine tr_seq ?_
      refine tr_region fun _ _ _ => ?_
      iterate 2 refine pu rfl rfl rfl rfl rfl ?_
      have hkp : ps.take k2.toNat = ps := List.take_of_length_le (by omega)
      rw [hkp] at hl
      have hBO := BasOf.of_rr (show o2.length = w.toNat by omega) hrc hR
      rw [← hl] at hBO
      exact tr_ret ⟨trivial, _, _, rfl, ⟨_, rfl, B, cb, l, o2, rfl, rfl, hO, hBO⟩, cs _ _, trivial, trivial⟩
end Go.Proofs.YtoalphamojhpcaaGreat

set_option linter.unusedSimpArgs false
set_option linter.unusedVariables false
namespace Go.Proofs.YtoalphamojhpcaaGreat
open Go.RowKit
end Go.Proofs.YtoalphamojhpcaaGreat

set_option linter.unusedSimpArgs false
set_option linter.unusedVariables false
set_option linter.unusedSectionVars false
namespace Go.Proofs.YtoalphamojhpcaaGreat
open Go.RowKit
structure InsAt (s : List Int) (x : Int) (k : Nat) : Prop where
  le : k ≤ s.length
  up : ∀ j, j < k → x ≤ s.getD j 0
section
variable {p m : Int} {mod : List Int} [hF : IsF p m mod]
theorem BasOf.dim {rs : List RowM} {r : Int → Int} {n : Nat} {o bs : List Int} (hO : OrdS r n o) (hf : formP p m mod n rs) (h : BasOf p m mod rs o bs) : bs.length = rs.length := by
  obtain ⟨E, qs, h1, h2, rfl⟩ := h
  obtain ⟨qq, hq⟩ := hf
  rw [List.length_map, Vc.pk_dim (o := o.map Int.toNat) hq (by rw [List.length_map]; exact h1) h2 (fun j hj => ?_), vsR_length]
  have hm := hO.perm.mem_iff.2 (mem_ixL.2 (show 0 ≤ (j : Int) ∧ (j : Int) < n by omega))
  obtain ⟨z, hz, he⟩ := List.getElem_of_mem hm
  refine ⟨z, by rw [List.length_map]; exact hz, ?_⟩
  rw [toN_getD, List.getD_eq_getElem?_getD, List.getElem?_eq_getElem hz]
  show (o[z]).toNat = j
  omega
theorem BasOf.ind {rs : List RowM} {o bs : List Int} (h : BasOf p m mod rs o bs) : indB p m mod rs bs = true := by
  obtain ⟨E, qs, h1, h2, rfl⟩ := h
  rw [indB_iff]
  have := Vc.ind_piv (R := (vsR rs : List (Vc (El p m mod)))) (o := o.map Int.toNat) (ps := qs) (by rw [List.length_map]; exact h1) h2
  rw [List.map_map]
  have e : (Int.toNat ∘ fun q => o.getD q 0) = fun q => (o.map Int.toNat).getD q 0 := funext fun q => (toN_getD o q).symm
  rw [e]; exact this
end
end Go.Proofs.YtoalphamojhpcaaGreat

set_option linter.unusedSimpArgs false
set_option linter.unusedVariables false
set_option maxRecDepth 100000
namespace Go.Proofs.YtoalphamojhpcaaGreat
open Go.RowKit
theorem hardL_in {q : Int} {ts : List RowM} (hq : 2 ≤ q) (htr : ∀ r ∈ ts, RowOk q r.xs) : AllIn q (hardL ts) := fun x hx => by
  obtain ⟨r, hr, rfl⟩ := List.mem_map.1 hx
  obtain ⟨r', hr', rfl⟩ := List.mem_map.1 hr
  have h := (htr r' hr').1
  have := hardI_lt (r := r'.xs) (by omega)
  omega
end Go.Proofs.YtoalphamojhpcaaGreat

set_option linter.unusedSimpArgs false
set_option linter.unusedVariables false
set_option maxRecDepth 100000
namespace Go.Proofs.YtoalphamojhpcaaGreat
open Go.RowKit
end Go.Proofs.YtoalphamojhpcaaGreat

set_option linter.unusedSimpArgs false
set_option linter.unusedVariables false
namespace Go.Proofs.YtoalphamojhpcaaGreat
open Go.RowKit
def dfT (l y : List Int) : Nat → Nat
  | 0 => 0
  | k + 1 => dfT l y k + if l.getD k 0 ≠ y.getD k 0 then 1 else 0
end Go.Proofs.YtoalphamojhpcaaGreat

set_option linter.unusedSimpArgs false
set_option linter.unusedVariables false
set_option maxRecDepth 100000
namespace Go.Proofs.YtoalphamojhpcaaGreat
open Go.RowKit
def cntC (q : Int) (k : Nat) (most : Int) : Int := if q ^ k ≤ 65536 ∧ q ^ k ≤ most then q ^ k else 0
theorem pow_le_of {q : Int} (hq : 1 ≤ q) {i k : Nat} (h : i ≤ k) : q ^ i ≤ q ^ k := by
  obtain ⟨d, rfl⟩ := Nat.le.dest h
  rw [Int.pow_add]
  have h1 : 0 < q ^ i := Int.pow_pos (by omega)
  have h2 : 0 < q ^ d := Int.pow_pos (by omega)
  have := Int.mul_le_mul_of_nonneg_left (show 1 ≤ q ^ d by omega) (Int.le_of_lt h1)
  omega
theorem pow_big {q B : Int} (hq : 1 ≤ q) {i k : Nat} (h : i < k) (hb : q ^ i > B / q) : B < q ^ k := by
  have h1 : B < q ^ i * q := by
    have h2 := Int.lt_mul_of_ediv_lt (by omega : 0 < q) hb
    exact h2
  have := pow_le_of hq (show i + 1 ≤ k from h)
  rw [Int.pow_succ] at this
  omega
section
variable {p m : Int} {mod : List Int} [hF : IsF p m mod]
end
section
variable {p m : Int} {mod : List Int} [hF : IsF p m mod]
end
theorem ref_Exp_ent : Enters Tryz.prog 101 := enters_of Tryz.func101 (by kernel_rfl) (by kernel_rfl)
theorem ref_Exp (q k : Int) (hq2 : 2 ≤ q) (hq9 : q ≤ 256) (hk0 : 0 ≤ k) (hk9 : k ≤ 1000) :
    Pure Tryz.prog 101 #[.int .i64 q, .int .i64 k, .int .i64 65536] [] (isV (.tuple #[.int .i64 (if q ^ k.toNat ≤ 65536 then q ^ k.toNat else 0), .int .i64 (if q ^ k.toNat ≤ 65536 then 0 else 8)])) := by
  refine pure_of (args := [.int .i64 q, .int .i64 k, .int .i64 65536]) 47 Tryz.func101 rfl rfl rfl ref_Exp_ent trivial (fun w0 => ?_)
  refine tr_seq ?_
  refine tr_region fun _ _ _ => ?_
  iterate 2 refine pu rfl rfl rfl rfl rfl ?_
  refine tr_seq ?_
  refine tr_seq ?_
  refine tr_region fun _ _ _ => ?_
  iterate 3 refine pu rfl rfl rfl rfl rfl ?_
  refine stg rfl rfl rfl rfl rfl (fun hb => by (have hq := hb; try simp only [zbA] at hq); exact rMove rfl rfl) ?_
  refine stg rfl rfl rfl rfl rfl (fun hb => by (have hq := hb; try simp only [zbA] at hq); exact rLss rfl (evg rfl hb) rfl) ?_
  refine st rfl rfl rfl rfl (rOrB rfl rfl rfl rfl) ?_
  refine pu rfl rfl rfl rfl rfl ?_
  refine stg rfl rfl rfl rfl rfl (fun hb => by (have hq := hb; try simp only [zbA] at hq); exact rMove rfl rfl) ?_
  refine stg rfl rfl rfl rfl rfl (fun hb => by (have hq := hb; try simp only [zbA] at hq); exact rLss rfl (evg rfl hb) rfl) ?_
  refine st rfl rfl rfl rfl (rOrB rfl rfl rfl rfl) ?_
  refine tr_cond_bool rfl (fun h1 => ?_) (fun h1 => ?_)
  · try simp only [zbA] at h1
    omega --done
  · try simp only [zbA] at h1
    refine tr_skip ?_
    refine tr_seq ?_
    refine tr_seq ?_
    refine tr_region fun _ _ _ => ?_
    iterate 3 refine pu rfl rfl rfl rfl rfl ?_
    refine stg rfl rfl rfl rfl rfl (fun hb => by (have hq := hb; try simp only [zbA] at hq); exact rMove rfl rfl) ?_
    refine stg rfl rfl rfl rfl rfl (fun hb => by (have hq := hb; try simp only [zbA] at hq); exact rGtr rfl (evg rfl hb) rfl) ?_
    refine st rfl rfl rfl rfl (rAndB rfl rfl rfl rfl) ?_
    refine tr_cond_bool rfl (fun h3 => ?_) (fun h3 => ?_)
    · try simp only [zbA] at h3
      omega --done
    · try simp only [zbA] at h3
      refine tr_skip ?_
      refine tr_seq ?_
      refine tr_region fun _ _ _ => ?_
      refine pu rfl rfl rfl rfl rfl ?_
      refine tr_seq ?_
      refine tr_seq ?_
      refine tr_region fun _ _ _ => ?_
      refine pu rfl rfl rfl rfl rfl ?_
      refine tr_block ?_
      refine tr_loop2 (fun (i : Int) (o : Int) => [(9, .int .i64 i), (8, .int .i64 o), (0, .int .i64 q), (1, .int .i64 k), (2, .int .i64 65536)]) (fun (i : Int) (o : Int) => []) (fun (i : Int) (o : Int) => (0 ≤ i ∧ i ≤ k) ∧ (1 ≤ o ∧ o ≤ 65536) ∧ o = q ^ i.toNat) (fun (i : Int) (o : Int) => (k - i).toNat) (0) (1) ⟨rfl, rfl, rfl, rfl, rfl, trivial⟩ (by first | exact cs _ _ | exact CSub.refl _) (⟨⟨by omega, by omega⟩, ⟨by omega, by omega⟩, by simp⟩) (fun i o hI => ?_)
      obtain ⟨⟨hi0, hi1⟩, ⟨ho0, ho1⟩, ho⟩ := hI
      refine tr_seq ?_
      refine tr_seq ?_
      refine tr_region fun _ _ _ => ?_
      iterate 4 refine pu rfl rfl rfl rfl rfl ?_
      refine stg rfl rfl rfl rfl rfl (fun hb => by (have hq := hb; try simp only [zbA] at hq); exact rMove rfl rfl) ?_
      refine stg rfl rfl rfl rfl rfl (fun hb => by (have hq := hb; try simp only [zbA] at hq); exact rGtr rfl (evg rfl hb) rfl) ?_
      refine st rfl rfl rfl rfl (rAndB rfl rfl rfl rfl) ?_
      refine tr_cond_bool rfl (fun h7 => ?_) (fun h7 => ?_)
      · try simp only [zbA] at h7
        refine tr_skip ?_
        refine tr_seq ?_
        refine tr_block ?_
        refine tr_seq ?_
        refine tr_seq ?_
        refine tr_region fun _ _ _ => ?_
        iterate 3 refine pu rfl rfl rfl rfl rfl ?_
        refine st rfl rfl rfl rfl (rQuo rfl rfl rfl (by omega) (by omega)) ?_
        refine pu rfl rfl rfl rfl rfl ?_
        refine tr_cond_bool rfl (fun h9 => ?_) (fun h9 => ?_)
        · try simp only [zbA] at h9
          refine tr_seq ?_
          refine tr_region fun _ _ _ => ?_
          iterate 2 refine pu rfl rfl rfl rfl rfl ?_
          have hbg := pow_big (q := q) (B := 65536) (by omega) (show i.toNat < k.toNat by omega) (by rw [← ho]; omega)
          exact tr_ret ⟨trivial, _, _, rfl, ⟨by rw [if_neg (by omega), if_neg (by omega)], rfl⟩, CSub.nil _, trivial⟩
        · try simp only [zbA] at h9
          refine tr_skip ?_
          have hmq : o * q ≤ 65536 := by
            have := Int.mul_le_of_le_ediv (by omega : 0 < q) (by omega : o ≤ 65536 / q)
            exact this
          have hmq0 : 0 < o * q := Int.mul_pos (by omega) (by omega)
          refine tr_region fun _ _ _ => ?_
          iterate 2 refine pu rfl rfl rfl rfl rfl ?_
          refine st rfl rfl rfl rfl (rMul rfl rfl rfl (by omega) (by omega)) ?_
          refine pu rfl rfl rfl rfl rfl ?_
          refine tr_region fun _ _ _ => ?_
          refine pu rfl rfl rfl rfl rfl ?_
          refine st rfl rfl rfl rfl (rAdd rfl rfl rfl (by omega) (by omega)) ?_
          refine pu rfl rfl rfl rfl rfl ?_
          refine ⟨i + 1, o * q, ⟨rfl, rfl, rfl, rfl, rfl, trivial⟩, by first | exact cs _ _ | exact CSub.refl _, ?_⟩
          exact ⟨⟨⟨by omega, by omega⟩, ⟨by omega, by omega⟩, by rw [show (i + 1).toNat = i.toNat + 1 by omega, Int.pow_succ, ho]⟩, by omega⟩
      · try simp only [zbA] at h7
        refine tr_exit ?_
        refine tr_seq ?_
        refine tr_seq ?_
        refine tr_region fun _ _ _ => ?_
        iterate 3 refine pu rfl rfl rfl rfl rfl ?_
        refine tr_cond_bool rfl (fun h12 => ?_) (fun h12 => ?_)
        · try simp only [zbA] at h12
          omega --done
        · try simp only [zbA] at h12
          refine tr_skip ?_
          refine tr_seq ?_
          refine tr_region fun _ _ _ => ?_
          iterate 3 refine pu rfl rfl rfl rfl rfl ?_
          have hik : i = k := by omega
          subst hik
          exact tr_ret ⟨trivial, _, _, rfl, ⟨by rw [← ho, if_pos ho1, if_pos ho1], rfl⟩, CSub.nil _, trivial⟩
theorem ref_CSize_ent : Enters Tryz.prog 62 := enters_of Tryz.func62 (by kernel_rfl) (by kernel_rfl)
theorem ref_CSize (p m : Int) (A : Option Addr) (c : Nat) (mod : List Int) [hF : IsF p m mod] (w : Int) (Aa : Option Addr) (n ca : Nat) (rs : List RowM) (hn : n = rs.length) (h9 : rs.length ≤ 256) (hc : CodeOk p m mod w rs) :
    Pure Tryz.prog 62 #[.agg #[.int .i64 p, .int .i64 m, .slice A mod.length c, .int .i64 w, .slice Aa n ca]] [ro A (ints mod), ro Aa (hdrs rs), rowsR rs] (isV (.tuple #[.int .i64 (if pw p m ^ rs.length ≤ 65536 then pw p m ^ rs.length else 0), .int .i64 (if pw p m ^ rs.length ≤ 65536 then 0 else 8)])) := by
  have hl9 := hF.short
  have hn1 := hc.n1
  have hn64 := hc.n64
  have hlen := hc.len
  have hgd := hc.good
  have h8 := hgd.h8 (N := 17592186044415) (by omega)
  have hck := hc.zero
  have hq2 := hF.q2
  have hq256 := hF.out.1.1.q
  have hord := hF.ord
  refine pure_of (args := [.agg #[.int .i64 p, .int .i64 m, .slice A mod.length c, .int .i64 w, .slice Aa n ca]]) 19 Tryz.func62 rfl rfl rfl ref_CSize_ent ⟨id, id, id, trivial⟩ (fun w0 => ?_)
  refine tr_seq ?_
  refine tr_region fun _ _ _ => ?_
  refine ef rfl rfl (eBox rfl rfl rfl rfl rfl (fun p0 => ?_)) 
  iterate 2 refine pu rfl rfl rfl rfl rfl ?_
  refine tr_seq ?_
  refine tr_region fun _ _ _ => ?_
  refine st rfl rfl rfl rfl (rLdS rfl rfl rfl) ?_
  refine ef rfl rfl (eCallV rfl rfl rfl (ref_CCheck _ _ _ _ _ (by omega) w Aa _ ca rs hn (by omega) h8) ⟨rfl, trivial⟩ ?_) 
  refine pu rfl rfl rfl rfl rfl ?_
  refine tr_seq ?_
  refine tr_seq ?_
  refine tr_region fun _ _ _ => ?_
  iterate 2 refine pu rfl rfl rfl rfl rfl ?_
  refine tr_cond_bool rfl (fun h2 => ?_) (fun h2 => ?_)
  · try simp only [zbA] at h2
    omega --done
  · try simp only [zbA] at h2
    refine tr_skip ?_
    refine tr_seq ?_
    refine tr_draw [0, 1, 3, 4, 5, 2, 6, 7, 8, 9, 10] [] mixed (by kernel_rfl) fun _ _ _ => ?_
    refine st rfl rfl rfl rfl (rFld rfl rfl) ?_
    refine st rfl rfl rfl rfl (rLdSF rfl rfl) ?_
    refine st rfl rfl rfl rfl (rFld rfl rfl) ?_
    refine st rfl rfl rfl rfl (rLdF rfl rfl rfl) ?_
    refine st rfl rfl rfl rfl (rLen rfl rfl) ?_
    refine ef rfl rfl (eCallV rfl rfl rfl (ref_order p m A c mod) ⟨rfl, trivial⟩ ?_) 
    rw [hord]
    refine ef rfl rfl (eCallV rfl rfl rfl (ref_Exp (pw p m) n hq2 (by omega) (by omega) (by omega)) ⟨rfl, rfl, rfl, trivial⟩ ?_) 
    iterate 4 refine pu rfl rfl rfl rfl rfl ?_
    exact tr_ret ⟨trivial, _, _, rfl, ⟨by rw [hn]; rfl, rfl⟩, CSub.nil _, trivial⟩
theorem ref_CCount_ent : Enters Tryz.prog 22 := enters_of Tryz.func22 (by kernel_rfl) (by kernel_rfl)
theorem ref_CCount (p m : Int) (A : Option Addr) (c : Nat) (mod : List Int) [hF : IsF p m mod] (w : Int) (Aa : Option Addr) (n ca : Nat) (rs : List RowM) (hn : n = rs.length) (h9 : rs.length ≤ 256) (hc : CodeOk p m mod w rs) (most : Int) :
    Pure Tryz.prog 22 #[.agg #[.int .i64 p, .int .i64 m, .slice A mod.length c, .int .i64 w, .slice Aa n ca], .int .i64 most] [ro A (ints mod), ro Aa (hdrs rs), rowsR rs] (isV (.int .i64 (cntC (pw p m) rs.length most))) := by
  have hl9 := hF.short
  have hn1 := hc.n1
  have hn64 := hc.n64
  have hlen := hc.len
  have hgd := hc.good
  have h8 := hgd.h8 (N := 17592186044415) (by omega)
  have hck := hc.zero
  have hq2 := hF.q2
  refine pure_of (args := [.agg #[.int .i64 p, .int .i64 m, .slice A mod.length c, .int .i64 w, .slice Aa n ca], .int .i64 most]) 20 Tryz.func22 rfl rfl rfl ref_CCount_ent ⟨id, id, id, trivial⟩ (fun w0 => ?_)
  refine tr_seq ?_
  refine tr_region fun _ _ _ => ?_
  refine ef rfl rfl (eBox rfl rfl rfl rfl rfl (fun p0 => ?_)) 
  refine pu rfl rfl rfl rfl rfl ?_
  refine tr_seq ?_
  refine tr_region fun _ _ _ => ?_
  refine st rfl rfl rfl rfl (rLdS rfl rfl rfl) ?_
  refine ef rfl rfl (eCallV rfl rfl rfl (ref_CSize p m A c mod w Aa n ca rs hn h9 hc) ⟨rfl, trivial⟩ ?_) 
  iterate 5 refine pu rfl rfl rfl rfl rfl ?_
  refine tr_seq ?_
  refine tr_seq ?_
  refine tr_region fun _ _ _ => ?_
  iterate 3 refine pu rfl rfl rfl rfl rfl ?_
  refine stg rfl rfl rfl rfl rfl (fun hb => by (have hq := hb; try simp only [zbA] at hq); exact rMove rfl rfl) ?_
  refine stg rfl rfl rfl rfl rfl (fun hb => by (have hq := hb; try simp only [zbA] at hq); exact rMove rfl rfl) ?_
  refine stg rfl rfl rfl rfl rfl (fun hb => by (have hq := hb; try simp only [zbA] at hq); exact rGtr rfl (evg rfl hb) (evg rfl hb)) ?_
  refine st rfl rfl rfl rfl (rOrB rfl rfl rfl rfl) ?_
  refine tr_cond_bool rfl (fun h2 => ?_) (fun h2 => ?_)
  · try simp only [zbA] at h2
    have hz : cntC (pw p m) rs.length most = 0 := by
      unfold cntC
      split
      · rename_i hcc
        rw [if_pos hcc.1, if_pos hcc.1] at h2
        omega
      · rfl
    refine tr_seq ?_
    refine tr_region fun _ _ _ => ?_
    refine pu rfl rfl rfl rfl rfl ?_
    exact tr_ret ⟨trivial, _, _, rfl, ⟨by rw [hz], rfl⟩, CSub.nil _, trivial⟩
  · try simp only [zbA] at h2
    have hz : (if pw p m ^ rs.length ≤ 65536 then pw p m ^ rs.length else 0) = cntC (pw p m) rs.length most := by
      unfold cntC
      by_cases hcc : pw p m ^ rs.length ≤ 65536
      · rw [if_pos hcc, if_pos hcc] at h2
        rw [if_pos hcc, if_pos ⟨hcc, by omega⟩]
      · rw [if_neg hcc, if_neg hcc] at h2
        omega
    refine tr_skip ?_
    refine tr_seq ?_
    refine tr_region fun _ _ _ => ?_
    iterate 2 refine pu rfl rfl rfl rfl rfl ?_
    exact tr_ret ⟨trivial, _, _, rfl, ⟨by rw [hz], rfl⟩, CSub.nil _, trivial⟩
end Go.Proofs.YtoalphamojhpcaaGreat

set_option linter.unusedSimpArgs false
set_option linter.unusedVariables false
set_option maxRecDepth 100000
namespace Go.Proofs.YtoalphamojhpcaaGreat
open Go.RowKit
def hamR (q a : Int) : List Int := (List.range q.toNat).map fun (j : Nat) => if (j : Int) = a then 0 else 1
theorem hamR_length (q a : Int) : (hamR q a).length = q.toNat := by simp [hamR]
theorem hamR_getD {q a : Int} {j : Nat} (h : j < q.toNat) : (hamR q a).getD j 0 = if (j : Int) = a then 0 else 1 := by
  unfold hamR
  rw [List.getD_eq_getElem?_getD, List.getElem?_map, List.getElem?_range h]; rfl
theorem hamR_ok {q a : Int} (hq : 0 ≤ q) : RowOk q (hamR q a) := ⟨by rw [hamR_length]; omega, fun x hx => by
  obtain ⟨j, _, rfl⟩ := List.mem_map.1 hx
  split <;> omega⟩
def HamOf (q w : Int) (l : List Int) (hs : List RowM) : Prop := xss hs = (List.range w.toNat).map fun j => hamR q (l.getD j 0)
theorem HamOf.length {q w : Int} {l : List Int} {hs : List RowM} (h : HamOf q w l hs) : hs.length = w.toNat := by
  have := congrArg List.length h
  simpa using this
theorem HamOf.row {q w : Int} {l : List Int} {hs : List RowM} (h : HamOf q w l hs) {j : Nat} (hj : j < w.toNat) : (hs.getD j rowD).xs = hamR q (l.getD j 0) := by
  rw [← xss_getD, h, List.getD_eq_getElem?_getD, List.getElem?_map, List.getElem?_range hj]; rfl
theorem HamOf.tab {q w : Int} (hq : 0 ≤ q) (hw : 0 ≤ w) {l : List Int} {hs : List RowM} (h : HamOf q w l hs) : TabOk q w hs := ⟨by have := h.length; omega, fun r hr => by
  obtain ⟨j, hj, rfl⟩ := List.getElem_of_mem hr
  have h1 := h.row (j := j) (by have := h.length; omega)
  rw [List.getD_eq_getElem?_getD, List.getElem?_eq_getElem hj] at h1
  have h2 : hs[j].xs = hamR q (l.getD j 0) := h1
  rw [h2]; exact hamR_ok hq⟩
theorem ham_cost {q w : Int} {l : List Int} {hs : List RowM} (h : HamOf q w l hs) {y : List Int} (hy : AllIn q y) (hq : 1 ≤ q) : ∀ k : Nat, k ≤ w.toNat → cstT (xss hs) y k = (dfT l y k : Int)
  | 0, _ => rfl
  | k + 1, hk => by
    have ih := ham_cost h hy hq k (by omega)
    have hyk := hy.get hq k
    rw [cstT_succ, ih, h.row (show k < w.toNat by omega), hamR_getD (by omega), dfT]
    by_cases e : l.getD k 0 = y.getD k 0
    · rw [if_pos (by omega), if_neg (fun h => h e)]; simp
    · rw [if_neg (by omega), if_pos e]; simp
theorem law42_ham_ent : Enters Tryz.prog 17 := enters_of Tryz.func17 (by kernel_rfl) (by kernel_rfl)
theorem law42_ham (p m : Int) (A : Option Addr) (c : Nat) (mod : List Int) [hF : IsF p m mod] (w : Int) (Aa : Option Addr) (n ca : Nat) (rs : List RowM) (hn : n = rs.length) (h9 : rs.length ≤ 256) (hc : CodeOk p m mod w rs) (X : Option Addr) (nx cx : Nat) (l : List Int) (hnx : nx = l.length) (hlw : (l.length : Int) = w) (hin : AllIn (pw p m) l) :
    Pure Tryz.prog 17 #[.agg #[.int .i64 p, .int .i64 m, .slice A mod.length c, .int .i64 w, .slice Aa n ca], .slice X nx cx] [ro A (ints mod), ro Aa (hdrs rs), rowsR rs, ro X (ints l)] (two (fun v ca cb => ∃ B cb2 hs, v = .slice B hs.length cb2 ∧ ca = ow B 22 cb2 (hdrs hs) ∧ cb = rowsCh 3 hs ∧ HamOf (pw p m) w l hs)) := by
  have hl9 := hF.short
  have hn1 := hc.n1
  have hn64 := hc.n64
  have hlen := hc.len
  have hgd := hc.good
  have h8 := hgd.h8 (N := 17592186044415) (by omega)
  have hck := hc.zero
  have hq2 := hF.q2
  have hord := hF.ord
  have hq256 := hF.out.1.1.q
  refine pure_of (args := [.agg #[.int .i64 p, .int .i64 m, .slice A mod.length c, .int .i64 w, .slice Aa n ca], .slice X nx cx]) 48 Tryz.func17 rfl rfl rfl law42_ham_ent ⟨id, id, id, id, trivial⟩ (fun w0 => ?_)
  refine tr_seq ?_
  refine tr_region fun _ _ _ => ?_
  refine ef rfl rfl (eBox rfl rfl rfl rfl rfl (fun p0 => ?_)) 
  refine pu rfl rfl rfl rfl rfl ?_
  refine tr_seq ?_
  refine tr_region fun _ _ _ => ?_
  refine pu rfl rfl rfl rfl rfl ?_
  refine tr_seq ?_
  refine tr_seq ?_
  refine tr_region fun _ _ _ => ?_
  refine pu rfl rfl rfl rfl rfl ?_
  refine tr_block ?_
  refine tr_nilR 22 3 ?_
  refine tr_loop4 (fun (i : Int) (AQ : Option Addr) (cq : Nat) (hs : List RowM) => [(5, .slice AQ hs.length cq), (6, .int .i64 i), (1, .slice X nx cx), (2, .pointer (some p0)), (4, .slice none 0 0)]) (fun (i : Int) (AQ : Option Addr) (cq : Nat) (hs : List RowM) => [ow AQ 22 cq (hdrs hs), rowsCh 3 hs, blk p0 27 [.int .i64 p, .int .i64 m, .slice A mod.length c, .int .i64 w, .slice Aa n ca], ro A (ints mod), ro Aa (hdrs rs), rowsR rs, ro X (ints l)]) (fun (i : Int) (AQ : Option Addr) (cq : Nat) (hs : List RowM) => (0 ≤ i ∧ i ≤ w) ∧ xss hs = (List.range i.toNat).map fun j => hamR (pw p m) (l.getD j 0)) (fun (i : Int) (AQ : Option Addr) (cq : Nat) (hs : List RowM) => (w - i).toNat) (0) (none) (0) ([]) ⟨rfl, rfl, rfl, rfl, rfl, trivial⟩ (by first | exact cs _ _ | exact CSub.refl _) (⟨⟨by omega, by omega⟩, rfl⟩) (fun i AQ cq hs hI => ?_)
  obtain ⟨⟨hi0, hi1⟩, hhs⟩ := hI
  have hhl : hs.length = i.toNat := by have := congrArg List.length hhs; simpa using this
  refine tr_seq ?_
  refine tr_seq ?_
  refine tr_region fun _ _ _ => ?_
  refine pu rfl rfl rfl rfl rfl ?_
  refine st rfl rfl rfl rfl (rFld rfl rfl) ?_
  refine st rfl rfl rfl rfl (rLdF rfl rfl rfl) ?_
  refine pu rfl rfl rfl rfl rfl ?_
  refine tr_cond_bool rfl (fun h3 => ?_) (fun h3 => ?_)
  · try simp only [zbA] at h3
    refine tr_skip ?_
    refine tr_seq ?_
    refine tr_block ?_
    refine tr_seq ?_
    refine tr_region fun _ _ _ => ?_
    refine st rfl rfl rfl rfl (rFld rfl rfl) ?_
    refine st rfl rfl rfl rfl (rLdSF rfl rfl) ?_
    refine ef rfl rfl (eCallV rfl rfl rfl (ref_order p m A c mod) ⟨rfl, trivial⟩ ?_) 
    rw [hord]
    refine ef rfl rfl (eMakeI rfl rfl rfl rfl rfl (by omega) (by omega) (by omega) (fun A5a => ?_)) 
    refine pu rfl rfl rfl rfl rfl ?_
    refine tr_seq ?_
    refine tr_seq ?_
    refine tr_region fun _ _ _ => ?_
    refine pu rfl rfl rfl rfl rfl ?_
    refine tr_block ?_
    refine tr_loop2 (fun (j : Int) (y : List Int) => [(7, .slice A5a (pw p m).toNat (pw p m).toNat), (8, .int .i64 j), (1, .slice X nx cx), (2, .pointer (some p0)), (4, .slice none 0 0), (5, .slice AQ hs.length cq), (6, .int .i64 i), (9, .int .i64 i), (11, .int .i64 w), (16, .agg #[.int .i64 p, .int .i64 m, .slice A mod.length c]), (18, .slice A5a (pw p m).toNat (pw p m).toNat)]) (fun (j : Int) (y : List Int) => [ow A5a 3 (pw p m).toNat (ints y), ow AQ 22 cq (hdrs hs), rowsCh 3 hs, blk p0 27 [.int .i64 p, .int .i64 m, .slice A mod.length c, .int .i64 w, .slice Aa n ca], ro A (ints mod), ro Aa (hdrs rs), rowsR rs, ro X (ints l)]) (fun (j : Int) (y : List Int) => (0 ≤ j ∧ j ≤ pw p m) ∧ y.length = (pw p m).toNat ∧ (∀ z : Nat, (z : Int) < j → y.getD z 0 = if (z : Int) = l.getD i.toNat 0 then 0 else 1) ∧ ∀ z : Nat, j ≤ z → y.getD z 0 = 0) (fun (j : Int) (y : List Int) => (pw p m - j).toNat) (0) (List.replicate (pw p m).toNat 0) ⟨rfl, rfl, rfl, rfl, rfl, rfl, rfl, rfl, rfl, rfl, rfl, trivial⟩ (by first | exact cs _ _ | exact CSub.refl _) (⟨⟨by omega, by omega⟩, by simp, fun z hz => by omega, fun z _ => by rw [List.getD_eq_getElem?_getD, List.getElem?_replicate]; split <;> rfl⟩) (fun j y hI => ?_)
    obtain ⟨⟨hj0, hj1⟩, hyl, hy1, hy2⟩ := hI
    refine tr_seq ?_
    refine tr_seq ?_
    refine tr_region fun _ _ _ => ?_
    iterate 2 refine pu rfl rfl rfl rfl rfl ?_
    refine st rfl rfl rfl rfl (rLen rfl rfl) ?_
    refine pu rfl rfl rfl rfl rfl ?_
    refine tr_cond_bool rfl (fun h7 => ?_) (fun h7 => ?_)
    · try simp only [zbA] at h7
      refine tr_skip ?_
      refine tr_seq ?_
      refine tr_block ?_
      refine tr_seq ?_
      have hli := hin.get (by omega) i.toNat
      refine tr_draw [0, 1, 2, 3, 4, 5, 6, 7, 8, 9, 10, 11, 12, 13, 14] [] mixed (by kernel_rfl) fun _ _ _ => ?_
      iterate 2 refine pu rfl rfl rfl rfl rfl ?_
      refine st rfl rfl rfl rfl (rLen rfl rfl) ?_
      iterate 2 refine pu rfl rfl rfl rfl rfl ?_
      refine stg rfl rfl rfl rfl rfl (fun hb => by (have hq := hb; try simp only [zbA] at hq); exact rMove rfl rfl) ?_
      refine stg rfl rfl rfl rfl rfl (fun hb => by (have hq := hb; try simp only [zbA] at hq); exact rFld rfl rfl) ?_
      refine stg rfl rfl rfl rfl rfl (fun hb => by (have hq := hb; try simp only [zbA] at hq); exact rLdSF rfl (evg rfl hb)) ?_
      refine stg rfl rfl rfl rfl rfl (fun hb => by (have hq := hb; try simp only [zbA] at hq); exact rMove rfl rfl) ?_
      refine stg rfl rfl rfl rfl rfl (fun hb => by (have hq := hb; try simp only [zbA] at hq); exact rMove rfl rfl) ?_
      refine stg rfl rfl rfl rfl rfl (fun hb => by (have hq := hb; try simp only [zbA] at hq); exact rIdxI rfl (evg rfl hb) (evg rfl hb) (by omega) (by omega) (by omega)) ?_
      refine stg rfl rfl rfl rfl rfl (fun hb => by (have hq := hb; try simp only [zbA] at hq); exact rLdI rfl (evg rfl hb) (by omega)) ?_
      refine efg rfl rfl rfl rfl rfl (fun hb => by (have hq := hb; try simp only [zbA] at hq); exact eCallV rfl rfl rfl (ref_In p m A c mod (l.getD i.toNat 0)) ⟨(evg rfl hb), (evg rfl hb), trivial⟩ ⟨rfl, rfl⟩) ?_
      refine stg rfl rfl rfl rfl rfl (fun hb => by (have hq := hb; try simp only [zbA] at hq); exact rNeq rfl (evg rfl hb) (evg rfl hb)) ?_
      refine st rfl rfl rfl rfl (rOrB rfl rfl rfl rfl) ?_
      refine tr_cond_bool rfl (fun h9 => ?_) (fun h9 => ?_)
      · try simp only [zbA] at h9
        refine tr_region fun _ _ _ => ?_
        iterate 2 refine pu rfl rfl rfl rfl rfl ?_
        refine st rfl rfl rfl rfl (rIdxI rfl rfl rfl (by omega) (by omega) (by omega)) ?_
        refine ef rfl rfl (eStI rfl rfl rfl rfl (by omega) ?_) 
        refine tr_region fun _ _ _ => ?_
        refine pu rfl rfl rfl rfl rfl ?_
        refine st rfl rfl rfl rfl (rAdd rfl rfl rfl (by omega) (by omega)) ?_
        refine pu rfl rfl rfl rfl rfl ?_
        refine ⟨j + 1, y.set j.toNat 1, ⟨rfl, rfl, rfl, rfl, rfl, rfl, rfl, rfl, rfl, rfl, rfl, trivial⟩, by first | exact cs _ _ | exact CSub.refl _, ?_⟩
        rw [hord, inI_in hli.1 hli.2] at h9
        refine ⟨⟨⟨by omega, by omega⟩, by simpa using hyl, fun z hz => ?_, fun z hz => ?_⟩, by omega⟩
        · rw [getD_set]
          by_cases he : j.toNat = z
          · rw [if_pos ⟨he, by omega⟩, if_neg (by omega)]
          · rw [if_neg (fun h => he h.1)]; exact hy1 z (by omega)
        · rw [getD_set, if_neg (by omega)]; exact hy2 z (by omega)
      · try simp only [zbA] at h9
        refine tr_skip ?_
        refine tr_region fun _ _ _ => ?_
        refine pu rfl rfl rfl rfl rfl ?_
        refine st rfl rfl rfl rfl (rAdd rfl rfl rfl (by omega) (by omega)) ?_
        refine pu rfl rfl rfl rfl rfl ?_
        refine ⟨j + 1, y, ⟨rfl, rfl, rfl, rfl, rfl, rfl, rfl, rfl, rfl, rfl, rfl, trivial⟩, by first | exact cs _ _ | exact CSub.refl _, ?_⟩
        rw [hord, inI_in hli.1 hli.2] at h9
        refine ⟨⟨⟨by omega, by omega⟩, hyl, fun z hz => ?_, fun z hz => hy2 z (by omega)⟩, by omega⟩
        by_cases he : j.toNat = z
        · rw [if_pos (by omega)]; exact hy2 z (by omega)
        · exact hy1 z (by omega)
    · try simp only [zbA] at h7
      refine tr_exit ?_
      have hxf : y = hamR (pw p m) (l.getD i.toNat 0) := ext_getD (by rw [hamR_length]; omega) fun z => by
        by_cases hz : z < (pw p m).toNat
        · rw [hamR_getD hz]; exact hy1 z (by omega)
        · rw [getD_out (by omega), getD_out (by rw [hamR_length]; omega)]
      subst hxf
      refine tr_region fun _ _ _ => ?_
      iterate 2 refine pu rfl rfl rfl rfl rfl ?_
      refine ef rfl rfl (eLit1 rfl rfl rfl rfl rfl (fun A11 => ?_)) 
      refine ef rfl rfl (eAppRn (hamR (pw p m) (l.getD i.toNat 0)) (by rw [hamR_length]) rfl rfl rfl rfl rfl (by first | rfl | simp) (by omega) (fun A11a c11a => ?_)) 
      refine pu rfl rfl rfl rfl rfl ?_
      refine tr_region fun _ _ _ => ?_
      refine pu rfl rfl rfl rfl rfl ?_
      refine st rfl rfl rfl rfl (rAdd rfl rfl rfl (by omega) (by omega)) ?_
      refine pu rfl rfl rfl rfl rfl ?_
      refine ⟨i + 1, A11a, c11a, hs ++ [⟨A5a, (pw p m).toNat, hamR (pw p m) (l.getD i.toNat 0)⟩], ⟨rfl, rfl, rfl, rfl, rfl, trivial⟩, by exact rows_app, ?_⟩
      refine ⟨⟨⟨by omega, by omega⟩, ?_⟩, by omega⟩
      rw [show (i + 1).toNat = i.toNat + 1 by omega, List.range_succ, List.map_append, xss_snoc, hhs]; rfl
  · try simp only [zbA] at h3
    refine tr_exit ?_
    refine tr_seq ?_
    refine tr_region fun _ _ _ => ?_
    iterate 2 refine pu rfl rfl rfl rfl rfl ?_
    have hiw : i.toNat = w.toNat := by omega
    rw [hiw] at hhs
    exact tr_ret ⟨trivial, _, _, rfl, ⟨_, _, rfl, AQ, cq, hs, rfl, rfl, rfl, hhs⟩, cs _ _, trivial, trivial, trivial⟩
end Go.Proofs.YtoalphamojhpcaaGreat

set_option linter.unusedSimpArgs false
set_option linter.unusedVariables false
namespace Go.Proofs.YtoalphamojhpcaaGreat
open Go.RowKit
section
variable {P : Program} {N : NB} {M : Nat → Prop} {w0 : World} {L : Fr} {F : List Chunk} {o : Oper} {v : Value} {x y : Operand} {t t' : TypeId}
theorem rAddU {m n : Int} (ho : o.op = .binOp .add t x y t') (hx : ev L x = some (.int .u64 m)) (hy : ev L y = some (.int .u64 n)) (h1 : 0 ≤ m + n) (h2 : m + n ≤ 18446744073709551615) : Stl P N M w0 o L F (.int .u64 (m + n)) :=
  stl_pure fun a hl => by simp [execOp, ho, hl.eval hx, hl.eval hy, eqGuard, binOp, Op.intArith, IntWalk.u64_in _ ⟨h1, h2⟩]
theorem rMulU {m n : Int} (ho : o.op = .binOp .mul t x y t') (hx : ev L x = some (.int .u64 m)) (hy : ev L y = some (.int .u64 n)) (h1 : 0 ≤ m * n) (h2 : m * n ≤ 18446744073709551615) : Stl P N M w0 o L F (.int .u64 (m * n)) :=
  stl_pure fun a hl => by simp [execOp, ho, hl.eval hx, hl.eval hy, eqGuard, binOp, Op.intArith, IntWalk.u64_in _ ⟨h1, h2⟩]
theorem rQuoU {m n : Int} (ho : o.op = .binOp .quo t x y t') (hx : ev L x = some (.int .u64 m)) (hy : ev L y = some (.int .u64 n)) (h1 : 0 ≤ m ∧ m ≤ 18446744073709551615) (h2 : 1 ≤ n) : Stl P N M w0 o L F (.int .u64 (m / n)) :=
  stl_pure fun a hl => by
    have hn : n ≠ 0 := by omega
    simp [execOp, ho, hl.eval hx, hl.eval hy, eqGuard, binOp, Op.intDiv, hn, IntWalk.u64_quo m n ⟨h1.1, h1.2, h2⟩]
theorem rRemU {m n : Int} (ho : o.op = .binOp .rem t x y t') (hx : ev L x = some (.int .u64 m)) (hy : ev L y = some (.int .u64 n)) (h1 : 0 ≤ m) (h2 : 1 ≤ n) : Stl P N M w0 o L F (.int .u64 (m % n)) :=
  stl_pure fun a hl => by
    have hn : n ≠ 0 := by omega
    simp [execOp, ho, hl.eval hx, hl.eval hy, eqGuard, binOp, Op.intDiv, hn, IntWalk.rem_in m n h1]
theorem rShrZ {k' : IntKind} {m : Int} (ho : o.op = .binOp .shr t x y t') (hx : ev L x = some (.int .u64 m)) (hy : ev L y = some (.int k' 32)) (h1 : 0 ≤ m) (h2 : m < 4294967296) : Stl P N M w0 o L F (.int .u64 0) :=
  stl_pure fun a hl => by
    have h3 : m.fdiv 4294967296 = 0 := by rw [Int.fdiv_eq_ediv_of_nonneg _ (by omega)]; omega
    have h4 : min (32 : Int).toNat IntKind.u64.bits = 32 := by rfl
    have h5 : (2 : Int) ^ 32 = 4294967296 := by rfl
    simp only [execOp, ho, hl.eval hx, hl.eval hy, eqGuard, binOp, Op.shift, h4, h5, h3]
    rfl
theorem rAndLow {m : Int} (ho : o.op = .binOp .and t x y t') (hx : ev L x = some (.int .u64 m)) (hy : ev L y = some (.int .u64 4294967295)) (h1 : 0 ≤ m) (h2 : m < 4294967296) : Stl P N M w0 o L F (.int .u64 m) :=
  stl_pure fun a hl => by
    have h3 : (BitVec.ofInt IntKind.u64.bits m &&& BitVec.ofInt IntKind.u64.bits 4294967295).toNat = m.toNat := by
      rw [BitVec.toNat_and, BitVec.toNat_ofInt, BitVec.toNat_ofInt]
      have e1 : (m % ((2 ^ IntKind.u64.bits : Nat) : Int)).toNat = m.toNat := by
        rw [Int.emod_eq_of_lt h1 (by simp [IntKind.bits]; omega)]
      have e2 : ((4294967295 : Int) % ((2 ^ IntKind.u64.bits : Nat) : Int)).toNat = 2 ^ 32 - 1 := by rfl
      rw [e1, e2, Nat.and_two_pow_sub_one_eq_mod, Nat.mod_eq_of_lt (by omega)]
    have h4 : ((m.toNat : Nat) : Int) = m := Int.toNat_of_nonneg h1
    simp only [execOp, ho, hl.eval hx, hl.eval hy, eqGuard, binOp, Op.intBits, h3, h4, IntWalk.u64_in m ⟨h1, by omega⟩]
    rfl
end
end Go.Proofs.YtoalphamojhpcaaGreat

set_option linter.unusedSimpArgs false
set_option linter.unusedVariables false
set_option maxRecDepth 100000
namespace Go.Proofs.YtoalphamojhpcaaGreat
open Go.RowKit
theorem undU64 : Tryz.prog.underlying 76 = some (.int .u64) := by kernel_rfl
theorem bits_Mul64_ent : Enters Tryz.prog 86 := enters_of Tryz.func86 (by kernel_rfl) (by kernel_rfl)
theorem bits_Mul64 (a b : Int) (ha : 0 ≤ a) (ha9 : a < 4294967296) (hb : 0 ≤ b) (hb9 : b < 4294967296) (hab0 : 0 ≤ a * b) (hab : a * b < 4294967296) :
    Pure Tryz.prog 86 #[.int .u64 a, .int .u64 b] [] (isV (.tuple #[.int .u64 0, .int .u64 (a * b)])) := by
  refine pure_of (args := [.int .u64 a, .int .u64 b]) 51 Tryz.func86 rfl rfl rfl bits_Mul64_ent trivial (fun w0 => ?_)
  refine tr_seq ?_
  refine tr_region fun _ _ _ => ?_
  iterate 2 refine pu rfl rfl rfl rfl rfl ?_
  refine tr_seq ?_
  refine tr_region fun _ _ _ => ?_
  refine pu rfl rfl rfl rfl rfl ?_
  refine st rfl rfl rfl rfl (rAndLow rfl rfl rfl (by omega) (by omega)) ?_
  refine pu rfl rfl rfl rfl rfl ?_
  refine tr_seq ?_
  refine tr_region fun _ _ _ => ?_
  refine pu rfl rfl rfl rfl rfl ?_
  refine st rfl rfl rfl rfl (rShrZ rfl rfl rfl (by omega) (by omega)) ?_
  refine pu rfl rfl rfl rfl rfl ?_
  refine tr_seq ?_
  refine tr_region fun _ _ _ => ?_
  refine pu rfl rfl rfl rfl rfl ?_
  refine st rfl rfl rfl rfl (rAndLow rfl rfl rfl (by omega) (by omega)) ?_
  refine pu rfl rfl rfl rfl rfl ?_
  refine tr_seq ?_
  refine tr_region fun _ _ _ => ?_
  refine pu rfl rfl rfl rfl rfl ?_
  refine st rfl rfl rfl rfl (rShrZ rfl rfl rfl (by omega) (by omega)) ?_
  refine pu rfl rfl rfl rfl rfl ?_
  refine tr_seq ?_
  refine tr_region fun _ _ _ => ?_
  iterate 2 refine pu rfl rfl rfl rfl rfl ?_
  refine st rfl rfl rfl rfl (rMulU rfl rfl rfl (by omega) (by omega)) ?_
  refine pu rfl rfl rfl rfl rfl ?_
  refine tr_seq ?_
  refine tr_region fun _ _ _ => ?_
  iterate 2 refine pu rfl rfl rfl rfl rfl ?_
  refine st rfl rfl rfl rfl (rMulU rfl rfl rfl (by omega) (by omega)) ?_
  refine pu rfl rfl rfl rfl rfl ?_
  refine st rfl rfl rfl rfl (rShrZ rfl rfl rfl (by omega) (by omega)) ?_
  refine st rfl rfl rfl rfl (rAddU rfl rfl rfl (by omega) (by omega)) ?_
  refine pu rfl rfl rfl rfl rfl ?_
  refine tr_seq ?_
  refine tr_region fun _ _ _ => ?_
  refine pu rfl rfl rfl rfl rfl ?_
  refine st rfl rfl rfl rfl (rAndLow rfl rfl rfl (by omega) (by omega)) ?_
  refine pu rfl rfl rfl rfl rfl ?_
  refine tr_seq ?_
  refine tr_region fun _ _ _ => ?_
  refine pu rfl rfl rfl rfl rfl ?_
  refine st rfl rfl rfl rfl (rShrZ rfl rfl rfl (by omega) (by omega)) ?_
  refine pu rfl rfl rfl rfl rfl ?_
  refine tr_seq ?_
  refine tr_region fun _ _ _ => ?_
  iterate 3 refine pu rfl rfl rfl rfl rfl ?_
  refine st rfl rfl rfl rfl (rMulU rfl rfl rfl (by omega) (by omega)) ?_
  refine st rfl rfl rfl rfl (rAddU rfl rfl rfl (by omega) (by omega)) ?_
  refine pu rfl rfl rfl rfl rfl ?_
  refine tr_seq ?_
  refine tr_region fun _ _ _ => ?_
  iterate 2 refine pu rfl rfl rfl rfl rfl ?_
  refine st rfl rfl rfl rfl (rMulU rfl rfl rfl (by omega) (by omega)) ?_
  refine pu rfl rfl rfl rfl rfl ?_
  refine st rfl rfl rfl rfl (rAddU rfl rfl rfl (by omega) (by omega)) ?_
  refine pu rfl rfl rfl rfl rfl ?_
  refine st rfl rfl rfl rfl (rShrZ rfl rfl rfl (by omega) (by omega)) ?_
  refine st rfl rfl rfl rfl (rAddU rfl rfl rfl (by omega) (by omega)) ?_
  refine pu rfl rfl rfl rfl rfl ?_
  refine tr_seq ?_
  refine tr_region fun _ _ _ => ?_
  iterate 2 refine pu rfl rfl rfl rfl rfl ?_
  refine st rfl rfl rfl rfl (rMulU rfl rfl rfl (by omega) (by omega)) ?_
  refine pu rfl rfl rfl rfl rfl ?_
  exact tr_ret ⟨trivial, _, _, rfl, ⟨by simp, rfl⟩, CSub.nil _, trivial⟩
theorem bits_Div64_ent : Enters Tryz.prog 87 := enters_of Tryz.func87 (by kernel_rfl) (by kernel_rfl)
theorem bits_Div64 (a b : Int) (ha : 0 ≤ a) (ha9 : a < 4294967296) (hb : 1 ≤ b) (hb9 : b < 4294967296) :
    Pure Tryz.prog 87 #[.int .u64 0, .int .u64 a, .int .u64 b] [] (isV (.tuple #[.int .u64 (a / b), .int .u64 (a % b)])) := by
  refine pure_of (args := [.int .u64 0, .int .u64 a, .int .u64 b]) 135 Tryz.func87 rfl rfl rfl bits_Div64_ent trivial (fun w0 => ?_)
  refine tr_seq ?_
  refine tr_region fun _ _ _ => ?_
  iterate 2 refine pu rfl rfl rfl rfl rfl ?_
  refine tr_seq ?_
  refine tr_seq ?_
  refine tr_region fun _ _ _ => ?_
  refine pu rfl rfl rfl rfl rfl ?_
  refine st rfl rfl rfl rfl (rEqlK rfl rfl rfl) ?_
  refine tr_cond_bool rfl (fun h1 => ?_) (fun h1 => ?_)
  · try simp only [zbA] at h1
    omega --done
  · try simp only [zbA] at h1
    refine tr_skip ?_
    refine tr_seq ?_
    refine tr_seq ?_
    refine tr_region fun _ _ _ => ?_
    iterate 2 refine pu rfl rfl rfl rfl rfl ?_
    refine st rfl rfl rfl rfl (rLeqK rfl rfl rfl) ?_
    refine tr_cond_bool rfl (fun h3 => ?_) (fun h3 => ?_)
    · try simp only [zbA] at h3
      omega --done
    · try simp only [zbA] at h3
      refine tr_skip ?_
      refine tr_seq ?_
      refine tr_seq ?_
      refine tr_region fun _ _ _ => ?_
      refine pu rfl rfl rfl rfl rfl ?_
      refine st rfl rfl rfl rfl (rEqlK rfl rfl rfl) ?_
      refine tr_cond_bool rfl (fun h5 => ?_) (fun h5 => ?_)
      · try simp only [zbA] at h5
        refine tr_seq ?_
        refine tr_draw [0, 1, 2, 3, 4, 5, 6, 7] [] mixed (by kernel_rfl) fun _ _ _ => ?_
        iterate 2 refine pu rfl rfl rfl rfl rfl ?_
        refine st rfl rfl rfl rfl (rQuoU rfl rfl rfl ⟨by omega, by omega⟩ (by omega)) ?_
        iterate 2 refine pu rfl rfl rfl rfl rfl ?_
        refine st rfl rfl rfl rfl (rRemU rfl rfl rfl (by omega) (by omega)) ?_
        iterate 2 refine pu rfl rfl rfl rfl rfl ?_
        exact tr_ret ⟨trivial, _, _, rfl, ⟨rfl, rfl⟩, CSub.nil _, trivial⟩
      · try simp only [zbA] at h5
        simp at h5 --done
theorem num_Choose_ent : Enters Tryz.prog 53 := enters_of Tryz.func53 (by kernel_rfl) (by kernel_rfl)
theorem num_Choose (n k : Int) (hk0 : 0 ≤ k) (hkn : k ≤ n) (hn9 : n ≤ 16) :
    Pure Tryz.prog 53 #[.int .i64 n, .int .i64 k, .int .i64 65536] [] (isV (.tuple #[.int .i64 (bin n.toNat k.toNat : Int), .int .i64 0])) := by
  refine pure_of (args := [.int .i64 n, .int .i64 k, .int .i64 65536]) 70 Tryz.func53 rfl rfl rfl num_Choose_ent trivial (fun w0 => ?_)
  refine tr_seq ?_
  refine tr_region fun _ _ _ => ?_
  iterate 2 refine pu rfl rfl rfl rfl rfl ?_
  refine tr_seq ?_
  refine tr_seq ?_
  refine tr_region fun _ _ _ => ?_
  iterate 3 refine pu rfl rfl rfl rfl rfl ?_
  refine stg rfl rfl rfl rfl rfl (fun hb => by (have hq := hb; try simp only [zbA] at hq); exact rMove rfl rfl) ?_
  refine stg rfl rfl rfl rfl rfl (fun hb => by (have hq := hb; try simp only [zbA] at hq); exact rLss rfl (evg rfl hb) rfl) ?_
  refine st rfl rfl rfl rfl (rOrB rfl rfl rfl rfl) ?_
  refine pu rfl rfl rfl rfl rfl ?_
  refine stg rfl rfl rfl rfl rfl (fun hb => by (have hq := hb; try simp only [zbA] at hq); exact rMove rfl rfl) ?_
  refine stg rfl rfl rfl rfl rfl (fun hb => by (have hq := hb; try simp only [zbA] at hq); exact rLss rfl (evg rfl hb) rfl) ?_
  refine st rfl rfl rfl rfl (rOrB rfl rfl rfl rfl) ?_
  refine tr_cond_bool rfl (fun h1 => ?_) (fun h1 => ?_)
  · try simp only [zbA] at h1
    omega --done
  · try simp only [zbA] at h1
    refine tr_skip ?_
    refine tr_seq ?_
    refine tr_seq ?_
    refine tr_region fun _ _ _ => ?_
    iterate 3 refine pu rfl rfl rfl rfl rfl ?_
    refine tr_cond_bool rfl (fun h3 => ?_) (fun h3 => ?_)
    · try simp only [zbA] at h3
      omega --done
    · try simp only [zbA] at h3
      refine tr_skip ?_
      refine tr_seq ?_
      refine tr_seq ?_
      refine tr_region fun _ _ _ => ?_
      iterate 2 refine pu rfl rfl rfl rfl rfl ?_
      refine tr_cond_bool rfl (fun h5 => ?_) (fun h5 => ?_)
      · try simp only [zbA] at h5
        omega --done
      · try simp only [zbA] at h5
        refine tr_skip ?_
        refine tr_seq ?_
        refine tr_region fun _ _ _ => ?_
        iterate 3 refine pu rfl rfl rfl rfl rfl ?_
        refine st rfl rfl rfl rfl (rSub rfl rfl rfl (by omega) (by omega)) ?_
        refine st rfl rfl rfl rfl (rMin rfl rfl rfl) ?_
        refine pu rfl rfl rfl rfl rfl ?_
        refine tr_seq ?_
        refine tr_region fun _ _ _ => ?_
        refine pu rfl rfl rfl rfl rfl ?_
        refine tr_seq ?_
        refine tr_seq ?_
        refine tr_region fun _ _ _ => ?_
        refine pu rfl rfl rfl rfl rfl ?_
        refine tr_block ?_
        refine tr_loop2 (fun (i : Int) (o : Int) => [(1, .int .i64 (min k (n - k))), (9, .int .i64 i), (8, .int .i64 o), (0, .int .i64 n), (2, .int .i64 65536)]) (fun (i : Int) (o : Int) => []) (fun (i : Int) (o : Int) => (1 ≤ i ∧ i ≤ min k (n - k) + 1) ∧ (0 ≤ o ∧ o ≤ 65536) ∧ o = (bin ((n - min k (n - k)).toNat + (i - 1).toNat) (i - 1).toNat : Int)) (fun (i : Int) (o : Int) => (min k (n - k) + 1 - i).toNat) (1) (1) ⟨rfl, rfl, rfl, rfl, rfl, trivial⟩ (by first | exact cs _ _ | exact CSub.refl _) (⟨⟨by omega, by omega⟩, ⟨by omega, by omega⟩, by rw [show ((1 : Int) - 1).toNat = 0 by rfl, bin_zero]; rfl⟩) (fun i o hI => ?_)
        obtain ⟨⟨hi0, hi1⟩, ⟨ho0, ho1⟩, ho⟩ := hI
        refine tr_seq ?_
        refine tr_seq ?_
        refine tr_region fun _ _ _ => ?_
        iterate 3 refine pu rfl rfl rfl rfl rfl ?_
        refine tr_cond_bool rfl (fun h10 => ?_) (fun h10 => ?_)
        · try simp only [zbA] at h10
          refine tr_skip ?_
          refine tr_seq ?_
          refine tr_block ?_
          refine tr_seq ?_
          have habs := bin_abs ((n - min k (n - k)).toNat + (i - 1).toNat) ((i - 1).toNat)
          have hbl := bin_le ((n - min k (n - k)).toNat + (i - 1).toNat + 1) ((i - 1).toNat + 1)
          have hpl : 2 ^ ((n - min k (n - k)).toNat + (i - 1).toNat + 1) ≤ 2 ^ 16 := Nat.pow_le_pow_right (by omega) (by omega)
          have hmul : o * (n - min k (n - k) + i) = (bin ((n - min k (n - k)).toNat + (i - 1).toNat + 1) ((i - 1).toNat + 1) : Int) * i := by
            have e1 : (((n - min k (n - k)).toNat + (i - 1).toNat + 1 : Nat) : Int) = n - min k (n - k) + i := by omega
            have e2 : (((i - 1).toNat + 1 : Nat) : Int) = i := by omega
            have e3 := congrArg (fun z : Nat => (z : Int)) habs
            simp only [Int.natCast_mul] at e3
            rw [e1, e2, ← ho] at e3
            rw [Int.mul_comm o, ← e3, Int.mul_comm]
          have hq : o * (n - min k (n - k) + i) / i = (bin ((n - min k (n - k)).toNat + (i - 1).toNat + 1) ((i - 1).toNat + 1) : Int) := by rw [hmul, Int.mul_ediv_cancel _ (by omega)]
          have hb16 : (bin ((n - min k (n - k)).toNat + (i - 1).toNat + 1) ((i - 1).toNat + 1) : Int) ≤ 65536 := by omega
          have hm0 : 0 ≤ o * (n - min k (n - k) + i) := Int.mul_nonneg (by omega) (by omega)
          have hm9 : o * (n - min k (n - k) + i) ≤ 65536 * 16 := by
            rw [hmul]; exact Int.mul_le_mul hb16 (by omega) (by omega) (by omega)
          refine tr_region fun _ _ _ => ?_
          refine pu rfl rfl rfl rfl rfl ?_
          refine st rfl rfl rfl rfl (rConv rfl undI undU64 rfl (IntWalk.u64_in _ ⟨by omega, by omega⟩)) ?_
          iterate 2 refine pu rfl rfl rfl rfl rfl ?_
          refine st rfl rfl rfl rfl (rSub rfl rfl rfl (by omega) (by omega)) ?_
          refine pu rfl rfl rfl rfl rfl ?_
          refine st rfl rfl rfl rfl (rAdd rfl rfl rfl (by omega) (by omega)) ?_
          refine st rfl rfl rfl rfl (rConv rfl undI undU64 rfl (IntWalk.u64_in _ ⟨by omega, by omega⟩)) ?_
          refine ef rfl rfl (eCallV rfl rfl rfl (bits_Mul64 o (n - min k (n - k) + i) (by omega) (by omega) (by omega) (by omega) (by omega) (by omega)) ⟨rfl, rfl, trivial⟩ ?_) 
          iterate 5 refine pu rfl rfl rfl rfl rfl ?_
          refine tr_seq ?_
          refine tr_seq ?_
          refine tr_region fun _ _ _ => ?_
          iterate 2 refine pu rfl rfl rfl rfl rfl ?_
          refine st rfl rfl rfl rfl (rConv rfl undI undU64 rfl (IntWalk.u64_in _ ⟨by omega, by omega⟩)) ?_
          refine st rfl rfl rfl rfl (rGeqK rfl rfl rfl) ?_
          refine tr_cond_bool rfl (fun h13 => ?_) (fun h13 => ?_)
          · try simp only [zbA] at h13
            omega --done
          · try simp only [zbA] at h13
            refine tr_skip ?_
            refine tr_seq ?_
            refine tr_region fun _ _ _ => ?_
            iterate 3 refine pu rfl rfl rfl rfl rfl ?_
            refine st rfl rfl rfl rfl (rConv rfl undI undU64 rfl (IntWalk.u64_in _ ⟨by omega, by omega⟩)) ?_
            refine ef rfl rfl (eCallV rfl rfl rfl (bits_Div64 (o * (n - min k (n - k) + i)) i (by omega) (by omega) (by omega) (by omega)) ⟨rfl, rfl, rfl, trivial⟩ ?_) 
            iterate 5 refine pu rfl rfl rfl rfl rfl ?_
            refine tr_seq ?_
            refine tr_seq ?_
            refine tr_region fun _ _ _ => ?_
            iterate 2 refine pu rfl rfl rfl rfl rfl ?_
            refine st rfl rfl rfl rfl (rConv rfl undI undU64 rfl (IntWalk.u64_in _ ⟨by omega, by omega⟩)) ?_
            refine st rfl rfl rfl rfl (rGtrK rfl rfl rfl) ?_
            refine tr_cond_bool rfl (fun h16 => ?_) (fun h16 => ?_)
            · try simp only [zbA] at h16
              omega --done
            · try simp only [zbA] at h16
              refine tr_skip ?_
              refine tr_region fun _ _ _ => ?_
              refine pu rfl rfl rfl rfl rfl ?_
              refine st rfl rfl rfl rfl (rConv rfl undU64 undI rfl (IntWalk.i64_in _ ⟨by omega, by omega⟩)) ?_
              refine pu rfl rfl rfl rfl rfl ?_
              refine tr_region fun _ _ _ => ?_
              refine pu rfl rfl rfl rfl rfl ?_
              refine st rfl rfl rfl rfl (rAdd rfl rfl rfl (by omega) (by omega)) ?_
              refine pu rfl rfl rfl rfl rfl ?_
              refine ⟨i + 1, o * (n - min k (n - k) + i) / i, ⟨rfl, rfl, rfl, rfl, rfl, trivial⟩, by first | exact cs _ _ | exact CSub.refl _, ?_⟩
              exact ⟨⟨⟨by omega, by omega⟩, ⟨by omega, by omega⟩, by rw [hq, show (i + 1 - 1).toNat = (i - 1).toNat + 1 by omega]; rfl⟩, by omega⟩
        · try simp only [zbA] at h10
          refine tr_exit ?_
          refine tr_seq ?_
          refine tr_region fun _ _ _ => ?_
          iterate 3 refine pu rfl rfl rfl rfl rfl ?_
          have hik : i = min k (n - k) + 1 := by omega
          have hfin : o = (bin n.toNat k.toNat : Int) := by
            rw [ho, hik, show (min k (n - k) + 1 - 1).toNat = (min k (n - k)).toNat by omega, show (n - min k (n - k)).toNat + (min k (n - k)).toNat = n.toNat by omega]
            rcases Int.le_total k (n - k) with h | h
            · rw [Int.min_eq_left h]
            · rw [Int.min_eq_right h, bin_sym n.toNat (n - k).toNat k.toNat (by omega)]
          exact tr_ret ⟨trivial, _, _, rfl, ⟨by rw [hfin], rfl⟩, CSub.nil _, trivial⟩
theorem num_Exp_ent : Enters Tryz.prog 54 := enters_of Tryz.func54 (by kernel_rfl) (by kernel_rfl)
theorem num_Exp (b e : Int) (hb1 : 1 ≤ b) (hb9 : b ≤ 65536) (he0 : 0 ≤ e) (he9 : e ≤ 1000) (hbe : b ^ e.toNat ≤ 65536) :
    Pure Tryz.prog 54 #[.int .i64 b, .int .i64 e, .int .i64 65536] [] (isV (.tuple #[.int .i64 (b ^ e.toNat), .int .i64 0])) := by
  refine pure_of (args := [.int .i64 b, .int .i64 e, .int .i64 65536]) 44 Tryz.func54 rfl rfl rfl num_Exp_ent trivial (fun w0 => ?_)
  refine tr_seq ?_
  refine tr_region fun _ _ _ => ?_
  iterate 2 refine pu rfl rfl rfl rfl rfl ?_
  refine tr_seq ?_
  refine tr_seq ?_
  refine tr_region fun _ _ _ => ?_
  iterate 3 refine pu rfl rfl rfl rfl rfl ?_
  refine stg rfl rfl rfl rfl rfl (fun hb => by (have hq := hb; try simp only [zbA] at hq); exact rMove rfl rfl) ?_
  refine stg rfl rfl rfl rfl rfl (fun hb => by (have hq := hb; try simp only [zbA] at hq); exact rLss rfl (evg rfl hb) rfl) ?_
  refine st rfl rfl rfl rfl (rOrB rfl rfl rfl rfl) ?_
  refine pu rfl rfl rfl rfl rfl ?_
  refine stg rfl rfl rfl rfl rfl (fun hb => by (have hq := hb; try simp only [zbA] at hq); exact rMove rfl rfl) ?_
  refine stg rfl rfl rfl rfl rfl (fun hb => by (have hq := hb; try simp only [zbA] at hq); exact rLss rfl (evg rfl hb) rfl) ?_
  refine st rfl rfl rfl rfl (rOrB rfl rfl rfl rfl) ?_
  refine tr_cond_bool rfl (fun h1 => ?_) (fun h1 => ?_)
  · try simp only [zbA] at h1
    omega --done
  · try simp only [zbA] at h1
    refine tr_skip ?_
    refine tr_seq ?_
    refine tr_seq ?_
    refine tr_region fun _ _ _ => ?_
    iterate 3 refine pu rfl rfl rfl rfl rfl ?_
    refine stg rfl rfl rfl rfl rfl (fun hb => by (have hq := hb; try simp only [zbA] at hq); exact rMove rfl rfl) ?_
    refine stg rfl rfl rfl rfl rfl (fun hb => by (have hq := hb; try simp only [zbA] at hq); exact rGtr rfl (evg rfl hb) rfl) ?_
    refine st rfl rfl rfl rfl (rAndB rfl rfl rfl rfl) ?_
    refine tr_cond_bool rfl (fun h3 => ?_) (fun h3 => ?_)
    · try simp only [zbA] at h3
      omega --done
    · try simp only [zbA] at h3
      refine tr_skip ?_
      refine tr_seq ?_
      refine tr_seq ?_
      refine tr_region fun _ _ _ => ?_
      iterate 2 refine pu rfl rfl rfl rfl rfl ?_
      refine tr_cond_bool rfl (fun h5 => ?_) (fun h5 => ?_)
      · try simp only [zbA] at h5
        omega --done
      · try simp only [zbA] at h5
        refine tr_skip ?_
        refine tr_seq ?_
        refine tr_region fun _ _ _ => ?_
        refine pu rfl rfl rfl rfl rfl ?_
        refine tr_seq ?_
        refine tr_block ?_
        refine tr_loop2 (fun (t : Int) (o : Int) => [(1, .int .i64 t), (8, .int .i64 o), (0, .int .i64 b), (2, .int .i64 65536)]) (fun (t : Int) (o : Int) => []) (fun (t : Int) (o : Int) => (0 ≤ t ∧ t ≤ e) ∧ (1 ≤ o ∧ o ≤ 65536) ∧ o = b ^ (e - t).toNat) (fun (t : Int) (o : Int) => t.toNat) (e) (1) ⟨rfl, rfl, rfl, rfl, trivial⟩ (by first | exact cs _ _ | exact CSub.refl _) (⟨⟨by omega, by omega⟩, ⟨by omega, by omega⟩, by rw [show (e - e).toNat = 0 by omega, Int.pow_zero]⟩) (fun t o hI => ?_)
        obtain ⟨⟨ht0, ht1⟩, ⟨ho0, ho1⟩, ho⟩ := hI
        refine tr_seq ?_
        refine tr_seq ?_
        refine tr_region fun _ _ _ => ?_
        iterate 3 refine pu rfl rfl rfl rfl rfl ?_
        refine stg rfl rfl rfl rfl rfl (fun hb => by (have hq := hb; try simp only [zbA] at hq); exact rMove rfl rfl) ?_
        refine stg rfl rfl rfl rfl rfl (fun hb => by (have hq := hb; try simp only [zbA] at hq); exact rGtr rfl (evg rfl hb) rfl) ?_
        refine st rfl rfl rfl rfl (rAndB rfl rfl rfl rfl) ?_
        refine tr_cond_bool rfl (fun h8 => ?_) (fun h8 => ?_)
        · try simp only [zbA] at h8
          refine tr_skip ?_
          refine tr_seq ?_
          refine tr_block ?_
          refine tr_seq ?_
          refine tr_seq ?_
          have hob : o * b ≤ 65536 := by
            have h1 := pow_le_of hb1 (show (e - t).toNat + 1 ≤ e.toNat by omega)
            rw [Int.pow_succ, ← ho] at h1
            omega
          have hob0 : 0 < o * b := Int.mul_pos (by omega) (by omega)
          have hdv : o ≤ 65536 / b := Int.le_ediv_of_mul_le (by omega) hob
          refine tr_region fun _ _ _ => ?_
          iterate 3 refine pu rfl rfl rfl rfl rfl ?_
          refine st rfl rfl rfl rfl (rQuo rfl rfl rfl (by omega) (by omega)) ?_
          refine pu rfl rfl rfl rfl rfl ?_
          refine tr_cond_bool rfl (fun h10 => ?_) (fun h10 => ?_)
          · try simp only [zbA] at h10
            omega --done
          · try simp only [zbA] at h10
            refine tr_skip ?_
            refine tr_region fun _ _ _ => ?_
            iterate 2 refine pu rfl rfl rfl rfl rfl ?_
            refine st rfl rfl rfl rfl (rMul rfl rfl rfl (by omega) (by omega)) ?_
            refine pu rfl rfl rfl rfl rfl ?_
            refine tr_region fun _ _ _ => ?_
            refine pu rfl rfl rfl rfl rfl ?_
            refine st rfl rfl rfl rfl (rSub rfl rfl rfl (by omega) (by omega)) ?_
            refine pu rfl rfl rfl rfl rfl ?_
            refine ⟨t - 1, o * b, ⟨rfl, rfl, rfl, rfl, trivial⟩, by first | exact cs _ _ | exact CSub.refl _, ?_⟩
            exact ⟨⟨⟨by omega, by omega⟩, ⟨by omega, by omega⟩, by rw [show (e - (t - 1)).toNat = (e - t).toNat + 1 by omega, Int.pow_succ, ho]⟩, by omega⟩
        · try simp only [zbA] at h8
          refine tr_exit ?_
          refine tr_seq ?_
          refine tr_region fun _ _ _ => ?_
          iterate 3 refine pu rfl rfl rfl rfl rfl ?_
          have hfin : o = b ^ e.toNat := by
            rw [ho]
            by_cases h1 : b = 1
            · rw [h1, Int.one_pow, Int.one_pow]
            · rw [show (e - t).toNat = e.toNat by omega]
          exact tr_ret ⟨trivial, _, _, rfl, ⟨by rw [hfin], rfl⟩, CSub.nil _, trivial⟩
end Go.Proofs.YtoalphamojhpcaaGreat

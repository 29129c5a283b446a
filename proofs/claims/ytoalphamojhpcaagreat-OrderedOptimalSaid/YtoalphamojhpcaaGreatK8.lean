/-
  ORDEREDOPTIMAL, PART 8 OF 9. One sentence: the texts behind the law OrderedOptimal, put together.
  Conditions: each theorem's own, written out in it.
-/
import Derived.Test.YtoalphamojhpcaaGreatK7
set_option linter.unusedSimpArgs false
set_option linter.unusedVariables false
set_option linter.unusedSectionVars false
set_option linter.unusedSimpArgs false
set_option linter.unusedVariables false
set_option maxRecDepth 100000
namespace Go.Proofs.YtoalphamojhpcaaGreat
open Go.RowKit
section
variable {p m : Int} {mod : List Int} [hF : IsF p m mod]
theorem word_diff {w : Nat} {rs : List RowM} (hg : Gd (pw p m) w rs) {l o : List Int} (hl : l.length = w) (ho : o.length = w) (hli : AllIn (pw p m) l) (hoi : AllIn (pw p m) o) (hls : Vc.SpL (vsR rs : List (Vc (El p m mod))) (rw' l)) (hos : Vc.SpL (vsR rs : List (Vc (El p m mod))) (rw' o)) (hne : l ≠ o) :
    ∃ v : List Int, v.length = w ∧ AllIn (pw p m) v ∧ Vc.SpL (vsR rs : List (Vc (El p m mod))) (rw' v) ∧ (∃ j, v.getD j 0 ≠ 0) ∧ ∀ j, v.getD j 0 ≠ 0 ↔ l.getD j 0 ≠ o.getD j 0 := by
  have hq := hF.q2
  let v : List Int := (List.range w).map fun j => ((el (l.getD j 0) : El p m mod) - el (o.getD j 0)).1
  have hvl : v.length = w := by simp [v]
  have hvi : AllIn (pw p m) v := fun x hx => by
    obtain ⟨j, _, rfl⟩ := List.mem_map.1 hx
    exact El.bd _
  have hvg : ∀ j, j < w → v.getD j 0 = ((el (l.getD j 0) : El p m mod) - el (o.getD j 0)).1 := fun j hj => by
    simp only [v]
    rw [List.getD_eq_getElem?_getD, List.getElem?_map, List.getElem?_range hj]; rfl
  have hvv : (rw' v : Vc (El p m mod)) = rw' l - rw' o := Vc.ext fun j => by
    rw [rw_at, Vc.sub_at, rw_at, rw_at]
    by_cases hj : j < w
    · rw [hvg j hj, el_of]
    · rw [getD_out (l := v) (by omega), getD_out (l := l) (by omega), getD_out (l := o) (by omega), el_zero, Rg.sub_self]
  have hiff : ∀ j, v.getD j 0 ≠ 0 ↔ l.getD j 0 ≠ o.getD j 0 := fun j => by
    by_cases hj : j < w
    · rw [hvg j hj]
      have e1 := el_in (p := p) (m := m) (mod := mod) (hli.get (by omega) j)
      have e2 := el_in (p := p) (m := m) (mod := mod) (hoi.get (by omega) j)
      constructor
      · intro h e
        apply h
        rw [e, Rg.sub_self]; rfl
      · intro h e
        apply h
        have h0 := (val_zero_iff _).1 e
        have h1 : (el (l.getD j 0) : El p m mod) = el (o.getD j 0) := Rg.eq_of_sub h0
        rw [← e1, ← e2, h1]
    · rw [getD_out (l := v) (by omega), getD_out (l := l) (by omega), getD_out (l := o) (by omega)]
  refine ⟨v, hvl, hvi, by rw [hvv]; exact Vc.Sp.minus hls hos, ?_, hiff⟩
  have : ∃ j, l.getD j 0 ≠ o.getD j 0 := Classical.byContradiction fun hno => hne (ext_getD (by omega) fun j => Classical.byContradiction fun h => hno ⟨j, h⟩)
  obtain ⟨j, hj⟩ := this
  exact ⟨j, (hiff j).2 hj⟩
end
theorem law_OrderedOptimal_E_ent : Enters Tryz.prog 4 := enters_of Tryz.func4 (by kernel_rfl) (by kernel_rfl)
theorem law_OrderedOptimal_E (p m : Int) (A : Option Addr) (c : Nat) (mod : List Int) (hl9 : mod.length ≤ 17592186044415) (w : Int) (Aa : Option Addr) (n ca : Nat) (rs : List RowM) (hn : n = rs.length) (h9 : rs.length ≤ 17592186044415) (h8 : ∀ r ∈ rs, r.xs.length ≤ 17592186044415) (T : Option Addr) (nt ct : Nat) (ts : List RowM) (hnt : nt = ts.length) (t9 : ts.length ≤ 17592186044415) (t8 : ∀ r ∈ ts, r.xs.length ≤ 17592186044415) (X : Option Addr) (nx cx : Nat) (l : List Int) (hnx : nx = l.length) (hl : l.length ≤ 17592186044415) (Y : Option Addr) (ny cy : Nat) (y : List Int) (hny : ny = y.length) (hy : y.length ≤ 17592186044415) (he : codC p m mod w rs ≠ 0) :
    Pure Tryz.prog 4 #[.agg #[.int .i64 p, .int .i64 m, .slice A mod.length c, .int .i64 w, .slice Aa n ca], .slice T nt ct, .slice X nx cx, .slice Y ny cy] [ro A (ints mod), ro Aa (hdrs rs), rowsR rs, ro T (hdrs ts), rowsR ts, ro X (ints l), ro Y (ints y)] (isV (.bool true)) := by
  refine pure_of (args := [.agg #[.int .i64 p, .int .i64 m, .slice A mod.length c, .int .i64 w, .slice Aa n ca], .slice T nt ct, .slice X nx cx, .slice Y ny cy]) 85 Tryz.func4 rfl rfl rfl law_OrderedOptimal_E_ent ⟨id, id, id, id, id, id, id, trivial⟩ (fun w0 => ?_)
  refine tr_seq ?_
  refine tr_region fun _ _ _ => ?_
  refine ef rfl rfl (eBox rfl rfl rfl rfl rfl (fun p0 => ?_)) 
  refine pu rfl rfl rfl rfl rfl ?_
  refine tr_seq ?_
  refine tr_seq ?_
  refine tr_region fun _ _ _ => ?_
  refine st rfl rfl rfl rfl (rLdS rfl rfl rfl) ?_
  refine pu rfl rfl rfl rfl rfl ?_
  refine ef rfl rfl (eCallV rfl rfl rfl (law42_readyE p m A c mod hl9 w Aa n ca rs hn h9 h8 T nt ct ts hnt t9 t8 1024 he) ⟨rfl, rfl, rfl, trivial⟩ ?_) 
  refine st rfl rfl rfl rfl (rNotB rfl rfl) ?_
  refine tr_cond_bool rfl (fun h1 => ?_) (fun h1 => ?_)
  · try simp only [zbA] at h1
    refine tr_seq ?_
    refine tr_region fun _ _ _ => ?_
    refine pu rfl rfl rfl rfl rfl ?_
    exact tr_ret ⟨trivial, _, _, rfl, ⟨rfl, rfl⟩, CSub.nil _, trivial⟩
  · try simp only [zbA] at h1
    simp at h1 --done
theorem law_OrderedOptimal_R_ent : Enters Tryz.prog 4 := enters_of Tryz.func4 (by kernel_rfl) (by kernel_rfl)
theorem law_OrderedOptimal_R (p m : Int) (A : Option Addr) (c : Nat) (mod : List Int) [hF : IsF p m mod] (w : Int) (Aa : Option Addr) (n ca : Nat) (rs : List RowM) (hn : n = rs.length) (h9 : rs.length ≤ 256) (hc : CodeOk p m mod w rs) (hl9 : mod.length ≤ 17592186044415) (h9b : rs.length ≤ 17592186044415) (h8 : ∀ r ∈ rs, r.xs.length ≤ 17592186044415) (T : Option Addr) (nt ct : Nat) (ts : List RowM) (hnt : nt = ts.length) (t9 : ts.length ≤ 17592186044415) (t8 : ∀ r ∈ ts, r.xs.length ≤ 17592186044415) (ho : ordC (pw p m) w (xss ts) ≠ 0) (X : Option Addr) (nx cx : Nat) (l : List Int) (hnx : nx = l.length) (hl : l.length ≤ 17592186044415) (Y : Option Addr) (ny cy : Nat) (y : List Int) (hny : ny = y.length) (hy : y.length ≤ 17592186044415) :
    Pure Tryz.prog 4 #[.agg #[.int .i64 p, .int .i64 m, .slice A mod.length c, .int .i64 w, .slice Aa n ca], .slice T nt ct, .slice X nx cx, .slice Y ny cy] [ro A (ints mod), ro Aa (hdrs rs), rowsR rs, ro T (hdrs ts), rowsR ts, ro X (ints l), ro Y (ints y)] (isV (.bool true)) := by
  have h9c := h9
  refine pure_of (args := [.agg #[.int .i64 p, .int .i64 m, .slice A mod.length c, .int .i64 w, .slice Aa n ca], .slice T nt ct, .slice X nx cx, .slice Y ny cy]) 85 Tryz.func4 rfl rfl rfl law_OrderedOptimal_R_ent ⟨id, id, id, id, id, id, id, trivial⟩ (fun w0 => ?_)
  refine tr_seq ?_
  refine tr_region fun _ _ _ => ?_
  refine ef rfl rfl (eBox rfl rfl rfl rfl rfl (fun p0 => ?_)) 
  refine pu rfl rfl rfl rfl rfl ?_
  refine tr_seq ?_
  refine tr_seq ?_
  refine tr_region fun _ _ _ => ?_
  refine st rfl rfl rfl rfl (rLdS rfl rfl rfl) ?_
  refine pu rfl rfl rfl rfl rfl ?_
  refine ef rfl rfl (eCallV rfl rfl rfl (law42_readyR p m A c mod w Aa n ca rs hn h9c hc hl9 h9b h8 T nt ct ts hnt t9 t8 1024 ho) ⟨rfl, rfl, rfl, trivial⟩ ?_) 
  refine st rfl rfl rfl rfl (rNotB rfl rfl) ?_
  refine tr_cond_bool rfl (fun h1 => ?_) (fun h1 => ?_)
  · try simp only [zbA] at h1
    refine tr_seq ?_
    refine tr_region fun _ _ _ => ?_
    refine pu rfl rfl rfl rfl rfl ?_
    exact tr_ret ⟨trivial, _, _, rfl, ⟨rfl, rfl⟩, CSub.nil _, trivial⟩
  · try simp only [zbA] at h1
    simp at h1 --done
theorem law_OrderedOptimal_N_ent : Enters Tryz.prog 4 := enters_of Tryz.func4 (by kernel_rfl) (by kernel_rfl)
theorem law_OrderedOptimal_N (p m : Int) (A : Option Addr) (c : Nat) (mod : List Int) [hF : IsF p m mod] (w : Int) (Aa : Option Addr) (n ca : Nat) (rs : List RowM) (hn : n = rs.length) (h9 : rs.length ≤ 256) (hc : CodeOk p m mod w rs) (hl9 : mod.length ≤ 17592186044415) (h9b : rs.length ≤ 17592186044415) (h8 : ∀ r ∈ rs, r.xs.length ≤ 17592186044415) (T : Option Addr) (nt ct : Nat) (ts : List RowM) (hnt : nt = ts.length) (t9 : ts.length ≤ 17592186044415) (t8 : ∀ r ∈ ts, r.xs.length ≤ 17592186044415) (ho : ordC (pw p m) w (xss ts) = 0) (X : Option Addr) (nx cx : Nat) (l : List Int) (hnx : nx = l.length) (hl : l.length ≤ 17592186044415) (Y : Option Addr) (ny cy : Nat) (y : List Int) (hny : ny = y.length) (hy : y.length ≤ 17592186044415) (hm : memB p m mod rs l = false) :
    Pure Tryz.prog 4 #[.agg #[.int .i64 p, .int .i64 m, .slice A mod.length c, .int .i64 w, .slice Aa n ca], .slice T nt ct, .slice X nx cx, .slice Y ny cy] [ro A (ints mod), ro Aa (hdrs rs), rowsR rs, ro T (hdrs ts), rowsR ts, ro X (ints l), ro Y (ints y)] (isV (.bool true)) := by
  have h9c := h9
  have hq2 := hF.q2
  have htab := ordC_zero ho
  have htl := htab.len
  have hq256 := hF.out.1.1.q
  have hn64 := hc.n64
  have hn1 := hc.n1
  have hgd := hc.good
  refine pure_of (args := [.agg #[.int .i64 p, .int .i64 m, .slice A mod.length c, .int .i64 w, .slice Aa n ca], .slice T nt ct, .slice X nx cx, .slice Y ny cy]) 85 Tryz.func4 rfl rfl rfl law_OrderedOptimal_N_ent ⟨id, id, id, id, id, id, id, trivial⟩ (fun w0 => ?_)
  refine tr_seq ?_
  refine tr_region fun _ _ _ => ?_
  refine ef rfl rfl (eBox rfl rfl rfl rfl rfl (fun p0 => ?_)) 
  refine pu rfl rfl rfl rfl rfl ?_
  refine tr_seq ?_
  refine tr_seq ?_
  refine tr_region fun _ _ _ => ?_
  refine st rfl rfl rfl rfl (rLdS rfl rfl rfl) ?_
  refine pu rfl rfl rfl rfl rfl ?_
  refine ef rfl rfl (eCall0 rfl rfl rfl (law42_readyG p m A c mod w Aa n ca rs hn h9c hc hl9 h9b h8 T nt ct ts hnt t9 t8 1024 ho) ⟨rfl, rfl, rfl, trivial⟩ ?_) 
  rintro _ ⟨b, rfl, hb⟩
  refine st rfl rfl rfl rfl (rNotB rfl rfl) ?_
  refine tr_cond_bool rfl (fun h1 => ?_) (fun h1 => ?_)
  · try simp only [zbA] at h1
    refine tr_seq ?_
    refine tr_region fun _ _ _ => ?_
    refine pu rfl rfl rfl rfl rfl ?_
    exact tr_ret ⟨trivial, _, _, rfl, ⟨rfl, rfl⟩, CSub.nil _, trivial⟩
  · try simp only [zbA] at h1
    refine tr_skip ?_
    refine tr_seq ?_
    refine tr_region fun _ _ _ => ?_
    refine st rfl rfl rfl rfl (rLdS rfl rfl rfl) ?_
    refine ef rfl rfl (eCallV rfl rfl rfl (ref_Dist p m A c mod w Aa n ca rs hn h9c hc) ⟨rfl, rfl, trivial⟩ ?_) 
    refine pu rfl rfl rfl rfl rfl ?_
    refine tr_seq ?_
    refine tr_seq ?_
    refine tr_region fun _ _ _ => ?_
    iterate 3 refine pu rfl rfl rfl rfl rfl ?_
    refine stg rfl rfl rfl rfl rfl (fun hb => by (have hq := hb; try simp only [zbA] at hq); exact rLdS rfl rfl rfl) ?_
    refine stg rfl rfl rfl rfl rfl (fun hb => by (have hq := hb; try simp only [zbA] at hq); exact rMove rfl rfl) ?_
    refine efg rfl rfl rfl rfl rfl (fun hb => by (have hq := hb; try simp only [zbA] at hq); exact eCallV rfl rfl rfl (ref_CWordC p m A c mod w Aa n ca rs hn h9c hc X nx cx l hnx hl) ⟨(evg rfl hb), (evg rfl hb), trivial⟩ ⟨rfl, rfl⟩) ?_
    refine stg rfl rfl rfl rfl rfl (fun hb => by (have hq := hb; try simp only [zbA] at hq); exact rNeq rfl (evg rfl hb) rfl) ?_
    refine st rfl rfl rfl rfl (rOrB rfl rfl rfl rfl) ?_
    refine tr_cond_bool rfl (fun h4 => ?_) (fun h4 => ?_)
    · try simp only [zbA] at h4
      refine tr_seq ?_
      refine tr_region fun _ _ _ => ?_
      refine pu rfl rfl rfl rfl rfl ?_
      exact tr_ret ⟨trivial, _, _, rfl, ⟨rfl, rfl⟩, CSub.nil _, trivial⟩
    · try simp only [zbA] at h4
      refine tr_skip ?_
      refine tr_seq ?_
      have hd1 : 1 ≤ disI p m mod w.toNat rs 1024 := by first | omega | (simp at h4; omega)
      have hwz : wordC (pw p m) w l = 0 := by first | omega | (simp at h4; omega)
      obtain ⟨hlw, hin⟩ := wordC_zero hwz
      have hdd := disI_le hgd hc.form hd1
      refine tr_region fun _ _ _ => ?_
      refine st rfl rfl rfl rfl (rLdS rfl rfl rfl) ?_
      refine pu rfl rfl rfl rfl rfl ?_
      refine ef rfl rfl (eCallV rfl rfl rfl (ref_CHas p m A c mod w Aa n ca rs hn h9c hc X nx cx l hnx hlw hin) ⟨rfl, rfl, trivial⟩ ?_) 
      iterate 5 refine pu rfl rfl rfl rfl rfl ?_
      refine tr_seq ?_
      refine tr_region fun _ _ _ => ?_
      refine st rfl rfl rfl rfl (rLdS rfl rfl rfl) ?_
      iterate 3 refine pu rfl rfl rfl rfl rfl ?_
      refine ef rfl rfl (eCallV rfl rfl rfl (ord_CertN p m A c mod w Aa n ca rs hn h9c hc T nt ct ts hnt t9 t8 ho X nx cx l hnx hl (disI p m mod w.toNat rs 1024) hwz hm) ⟨rfl, rfl, rfl, rfl, trivial⟩ ?_) 
      iterate 5 refine pu rfl rfl rfl rfl rfl ?_
      refine tr_seq ?_
      refine tr_seq ?_
      refine tr_region fun _ _ _ => ?_
      refine pu rfl rfl rfl rfl rfl ?_
      refine st rfl rfl rfl rfl (rNotB rfl rfl) ?_
      refine tr_cond_bool rfl (fun h8 => ?_) (fun h8 => ?_)
      · try simp only [zbA] at h8
        refine tr_seq ?_
        refine tr_region fun _ _ _ => ?_
        iterate 3 refine pu rfl rfl rfl rfl rfl ?_
        refine stg rfl rfl rfl rfl rfl (fun hb => by (have hq := hb; try simp only [zbA] at hq); exact rMove rfl rfl) ?_
        refine stg rfl rfl rfl rfl rfl (fun hb => by (have hq := hb; try simp only [zbA] at hq); exact rNotB rfl (evg rfl hb)) ?_
        refine st rfl rfl rfl rfl (rAndB rfl rfl rfl rfl) ?_
        refine pu rfl rfl rfl rfl rfl ?_
        exact tr_ret ⟨trivial, _, _, rfl, ⟨by simp, rfl⟩, CSub.nil _, trivial⟩
      · try simp only [zbA] at h8
        rw [hm] at h8; simp at h8 --done
theorem law_OrderedOptimal_T_ent : Enters Tryz.prog 4 := enters_of Tryz.func4 (by kernel_rfl) (by kernel_rfl)
theorem law_OrderedOptimal_T (p m : Int) (A : Option Addr) (c : Nat) (mod : List Int) [hF : IsF p m mod] (w : Int) (Aa : Option Addr) (n ca : Nat) (rs : List RowM) (hn : n = rs.length) (h9 : rs.length ≤ 256) (hc : CodeOk p m mod w rs) (hl9 : mod.length ≤ 17592186044415) (h9b : rs.length ≤ 17592186044415) (h8 : ∀ r ∈ rs, r.xs.length ≤ 17592186044415) (T : Option Addr) (nt ct : Nat) (ts : List RowM) (hnt : nt = ts.length) (t9 : ts.length ≤ 17592186044415) (t8 : ∀ r ∈ ts, r.xs.length ≤ 17592186044415) (ho : ordC (pw p m) w (xss ts) = 0) (X : Option Addr) (nx cx : Nat) (l : List Int) (hnx : nx = l.length) (hl : l.length ≤ 17592186044415) (Y : Option Addr) (ny cy : Nat) (y : List Int) (hny : ny = y.length) (hy : y.length ≤ 17592186044415) (hm : memB p m mod rs l = true) (hcer : cerB ts l (disI p m mod w.toNat rs 1024) = true) :
    Pure Tryz.prog 4 #[.agg #[.int .i64 p, .int .i64 m, .slice A mod.length c, .int .i64 w, .slice Aa n ca], .slice T nt ct, .slice X nx cx, .slice Y ny cy] [ro A (ints mod), ro Aa (hdrs rs), rowsR rs, ro T (hdrs ts), rowsR ts, ro X (ints l), ro Y (ints y)] (isV (.bool true)) := by
  have h9c := h9
  have hq2 := hF.q2
  have htab := ordC_zero ho
  have htl := htab.len
  have hq256 := hF.out.1.1.q
  have hn64 := hc.n64
  have hn1 := hc.n1
  have hgd := hc.good
  refine pure_of (args := [.agg #[.int .i64 p, .int .i64 m, .slice A mod.length c, .int .i64 w, .slice Aa n ca], .slice T nt ct, .slice X nx cx, .slice Y ny cy]) 85 Tryz.func4 rfl rfl rfl law_OrderedOptimal_T_ent ⟨id, id, id, id, id, id, id, trivial⟩ (fun w0 => ?_)
  refine tr_seq ?_
  refine tr_region fun _ _ _ => ?_
  refine ef rfl rfl (eBox rfl rfl rfl rfl rfl (fun p0 => ?_)) 
  refine pu rfl rfl rfl rfl rfl ?_
  refine tr_seq ?_
  refine tr_seq ?_
  refine tr_region fun _ _ _ => ?_
  refine st rfl rfl rfl rfl (rLdS rfl rfl rfl) ?_
  refine pu rfl rfl rfl rfl rfl ?_
  refine ef rfl rfl (eCall0 rfl rfl rfl (law42_readyG p m A c mod w Aa n ca rs hn h9c hc hl9 h9b h8 T nt ct ts hnt t9 t8 1024 ho) ⟨rfl, rfl, rfl, trivial⟩ ?_) 
  rintro _ ⟨b, rfl, hb⟩
  refine st rfl rfl rfl rfl (rNotB rfl rfl) ?_
  refine tr_cond_bool rfl (fun h1 => ?_) (fun h1 => ?_)
  · try simp only [zbA] at h1
    refine tr_seq ?_
    refine tr_region fun _ _ _ => ?_
    refine pu rfl rfl rfl rfl rfl ?_
    exact tr_ret ⟨trivial, _, _, rfl, ⟨rfl, rfl⟩, CSub.nil _, trivial⟩
  · try simp only [zbA] at h1
    refine tr_skip ?_
    refine tr_seq ?_
    refine tr_region fun _ _ _ => ?_
    refine st rfl rfl rfl rfl (rLdS rfl rfl rfl) ?_
    refine ef rfl rfl (eCallV rfl rfl rfl (ref_Dist p m A c mod w Aa n ca rs hn h9c hc) ⟨rfl, rfl, trivial⟩ ?_) 
    refine pu rfl rfl rfl rfl rfl ?_
    refine tr_seq ?_
    refine tr_seq ?_
    refine tr_region fun _ _ _ => ?_
    iterate 3 refine pu rfl rfl rfl rfl rfl ?_
    refine stg rfl rfl rfl rfl rfl (fun hb => by (have hq := hb; try simp only [zbA] at hq); exact rLdS rfl rfl rfl) ?_
    refine stg rfl rfl rfl rfl rfl (fun hb => by (have hq := hb; try simp only [zbA] at hq); exact rMove rfl rfl) ?_
    refine efg rfl rfl rfl rfl rfl (fun hb => by (have hq := hb; try simp only [zbA] at hq); exact eCallV rfl rfl rfl (ref_CWordC p m A c mod w Aa n ca rs hn h9c hc X nx cx l hnx hl) ⟨(evg rfl hb), (evg rfl hb), trivial⟩ ⟨rfl, rfl⟩) ?_
    refine stg rfl rfl rfl rfl rfl (fun hb => by (have hq := hb; try simp only [zbA] at hq); exact rNeq rfl (evg rfl hb) rfl) ?_
    refine st rfl rfl rfl rfl (rOrB rfl rfl rfl rfl) ?_
    refine tr_cond_bool rfl (fun h4 => ?_) (fun h4 => ?_)
    · try simp only [zbA] at h4
      refine tr_seq ?_
      refine tr_region fun _ _ _ => ?_
      refine pu rfl rfl rfl rfl rfl ?_
      exact tr_ret ⟨trivial, _, _, rfl, ⟨rfl, rfl⟩, CSub.nil _, trivial⟩
    · try simp only [zbA] at h4
      refine tr_skip ?_
      refine tr_seq ?_
      have hd1 : 1 ≤ disI p m mod w.toNat rs 1024 := by first | omega | (simp at h4; omega)
      have hwz : wordC (pw p m) w l = 0 := by first | omega | (simp at h4; omega)
      obtain ⟨hlw, hin⟩ := wordC_zero hwz
      have hdd := disI_le hgd hc.form hd1
      refine tr_region fun _ _ _ => ?_
      refine st rfl rfl rfl rfl (rLdS rfl rfl rfl) ?_
      refine pu rfl rfl rfl rfl rfl ?_
      refine ef rfl rfl (eCallV rfl rfl rfl (ref_CHas p m A c mod w Aa n ca rs hn h9c hc X nx cx l hnx hlw hin) ⟨rfl, rfl, trivial⟩ ?_) 
      iterate 5 refine pu rfl rfl rfl rfl rfl ?_
      refine tr_seq ?_
      refine tr_region fun _ _ _ => ?_
      refine st rfl rfl rfl rfl (rLdS rfl rfl rfl) ?_
      iterate 3 refine pu rfl rfl rfl rfl rfl ?_
      refine ef rfl rfl (eCallV rfl rfl rfl (ord_CertG p m A c mod w Aa n ca rs hn h9c hc T nt ct ts hnt t9 t8 ho X nx cx l hnx hl (disI p m mod w.toNat rs 1024) hwz hm hd1 (by omega)) ⟨rfl, rfl, rfl, rfl, trivial⟩ ?_) 
      iterate 5 refine pu rfl rfl rfl rfl rfl ?_
      refine tr_seq ?_
      refine tr_seq ?_
      refine tr_region fun _ _ _ => ?_
      refine pu rfl rfl rfl rfl rfl ?_
      refine st rfl rfl rfl rfl (rNotB rfl rfl) ?_
      refine tr_cond_bool rfl (fun h8 => ?_) (fun h8 => ?_)
      · try simp only [zbA] at h8
        rw [hm] at h8; simp at h8 --done
      · try simp only [zbA] at h8
        refine tr_skip ?_
        refine tr_seq ?_
        refine tr_draw [0, 1, 2, 4, 5, 3, 6, 7, 8, 9, 10, 11] [] mixed (by kernel_rfl) fun _ _ _ => ?_
        refine st rfl rfl rfl rfl (rLdS rfl rfl rfl) ?_
        refine st rfl rfl rfl rfl (rLdS rfl rfl rfl) ?_
        iterate 3 refine pu rfl rfl rfl rfl rfl ?_
        refine ef rfl rfl (eCall2 rfl rfl rfl (law42_ham p m A c mod w Aa n ca rs hn h9c hc X nx cx l hnx hlw hin) ⟨rfl, rfl, trivial⟩ ?_) 
        rintro _ _ _ ⟨Bh, ch, hs, rfl, rfl, rfl, hhs⟩
        have hht := hhs.tab (by omega) (by omega)
        have hh8 : ∀ r ∈ hs, r.xs.length ≤ 17592186044415 := fun r hr => by have := (hht.row r hr).1; omega
        refine ef rfl rfl (eCallV rfl rfl rfl (ord_CertG p m A c mod w Aa n ca rs hn h9c hc Bh _ ch hs rfl (by have := hhs.length; omega) hh8 (hhs.tab (by omega) (by omega)).zero X nx cx l hnx hl (disI p m mod w.toNat rs 1024) hwz hm hd1 (by omega)) ⟨rfl, rfl, rfl, rfl, trivial⟩ ?_) 
        iterate 5 refine pu rfl rfl rfl rfl rfl ?_
        refine tr_seq ?_
        refine tr_seq ?_
        have hcb := ham_cert hq2 (by omega) hhs (by omega) hin (disI p m mod w.toNat rs 1024)
        refine tr_region fun _ _ _ => ?_
        iterate 3 refine pu rfl rfl rfl rfl rfl ?_
        refine stg rfl rfl rfl rfl rfl (fun hb => by (have hq := hb; try simp only [zbA] at hq); exact rMove rfl rfl) ?_
        refine stg rfl rfl rfl rfl rfl (fun hb => by (have hq := hb; try simp only [zbA] at hq); exact rNeq rfl (evg rfl hb) rfl) ?_
        refine st rfl rfl rfl rfl (rOrB rfl rfl rfl rfl) ?_
        refine pu rfl rfl rfl rfl rfl ?_
        refine stg rfl rfl rfl rfl rfl (fun hb => by (have hq := hb; try simp only [zbA] at hq); exact rMove rfl rfl) ?_
        refine stg rfl rfl rfl rfl rfl (fun hb => by (have hq := hb; try simp only [zbA] at hq); exact rNotB rfl (evg rfl hb)) ?_
        refine st rfl rfl rfl rfl (rOrB rfl rfl rfl rfl) ?_
        refine tr_cond_bool rfl (fun h11 => ?_) (fun h11 => ?_)
        · try simp only [zbA] at h11
          simp [hcb] at h11 --done
        · try simp only [zbA] at h11
          refine tr_skip ?_
          refine tr_seq ?_
          refine tr_draw [0, 1, 2, 3, 4, 6, 7, 8, 5, 9, 10, 11, 12, 13] [] mixed (by kernel_rfl) fun _ _ _ => ?_
          refine pu rfl rfl rfl rfl rfl ?_
          refine st rfl rfl rfl rfl (rNotB rfl rfl) ?_
          refine pu rfl rfl rfl rfl rfl ?_
          refine stT rfl rfl rfl (by simp [hcer]) rfl rfl (rMove rfl rfl) ?_
          refine stT rfl rfl rfl (by simp [hcer]) rfl rfl (rMove rfl rfl) ?_
          refine stT rfl rfl rfl (by simp [hcer]) rfl rfl (rMove rfl rfl) ?_
          refine stT rfl rfl rfl (by simp [hcer]) rfl rfl (rLdS rfl rfl rfl) ?_
          refine stT rfl rfl rfl (by simp [hcer]) rfl rfl (rMove rfl rfl) ?_
          refine efT rfl rfl rfl (by simp [hcer]) (eCallV rfl rfl rfl (ref_OCost T nt ct ts hnt (pw p m) hq2 hq256 (by omega) htab.row X nx cx l hnx (by omega) hin) ⟨rfl, rfl, trivial⟩ ?_) 
          refine efT rfl rfl rfl (by simp [hcer]) (eCall1 rfl rfl rfl (ref_Of p m A c mod w Aa n ca rs hn h9c hc Y ny cy y hny hy) ⟨rfl, rfl, trivial⟩ ?_) 
          rintro _ _ ⟨B13, c13, o, rfl, rfl, hol, hoi, hos⟩
          refine efT rfl rfl rfl (by simp [hcer]) (eCallV rfl rfl rfl (ref_OCost T nt ct ts hnt (pw p m) hq2 hq256 (by omega) htab.row B13 _ c13 o rfl (by omega) hoi) ⟨rfl, rfl, trivial⟩ ?_) 
          refine stT rfl rfl rfl (by simp [hcer]) rfl rfl (rLeq rfl rfl rfl) ?_
          refine st rfl rfl rfl rfl (rPick0 rfl rfl (by simp [hcer]) rfl) ?_
          refine pu rfl rfl rfl rfl rfl ?_
          have hle : cstL (xss ts) l ≤ cstL (xss ts) o := by
            by_cases hlo : l = o
            · rw [hlo]; exact Int.le_refl _
            · refine cert_best htab.row hq2 (by omega) (by omega) hoi hcer ?_
              have hls := memB_iff.1 hm
              obtain ⟨v, hv1, hv2, hv3, hv4⟩ := word_diff hgd (by omega) (by omega) hin hoi hls hos hlo
              have h5 := hdd.2 v (by omega) hv2 hv3 hv4.1
              have h6 := dfT_wt l o v hv4.2 ts.length
              have h7 : wtL v = wtT v v.length := rfl
              rw [show v.length = ts.length by omega, ← h6] at h7
              omega
          exact tr_ret ⟨trivial, _, _, rfl, ⟨by simp [hcer, hle], rfl⟩, CSub.nil _, trivial⟩
theorem law_OrderedOptimal_F_ent : Enters Tryz.prog 4 := enters_of Tryz.func4 (by kernel_rfl) (by kernel_rfl)
theorem law_OrderedOptimal_F (p m : Int) (A : Option Addr) (c : Nat) (mod : List Int) [hF : IsF p m mod] (w : Int) (Aa : Option Addr) (n ca : Nat) (rs : List RowM) (hn : n = rs.length) (h9 : rs.length ≤ 256) (hc : CodeOk p m mod w rs) (hl9 : mod.length ≤ 17592186044415) (h9b : rs.length ≤ 17592186044415) (h8 : ∀ r ∈ rs, r.xs.length ≤ 17592186044415) (T : Option Addr) (nt ct : Nat) (ts : List RowM) (hnt : nt = ts.length) (t9 : ts.length ≤ 17592186044415) (t8 : ∀ r ∈ ts, r.xs.length ≤ 17592186044415) (ho : ordC (pw p m) w (xss ts) = 0) (X : Option Addr) (nx cx : Nat) (l : List Int) (hnx : nx = l.length) (hl : l.length ≤ 17592186044415) (Y : Option Addr) (ny cy : Nat) (y : List Int) (hny : ny = y.length) (hy : y.length ≤ 17592186044415) (hm : memB p m mod rs l = true) (hcer : cerB ts l (disI p m mod w.toNat rs 1024) = false) :
    Pure Tryz.prog 4 #[.agg #[.int .i64 p, .int .i64 m, .slice A mod.length c, .int .i64 w, .slice Aa n ca], .slice T nt ct, .slice X nx cx, .slice Y ny cy] [ro A (ints mod), ro Aa (hdrs rs), rowsR rs, ro T (hdrs ts), rowsR ts, ro X (ints l), ro Y (ints y)] (isV (.bool true)) := by
  have h9c := h9
  have hq2 := hF.q2
  have htab := ordC_zero ho
  have htl := htab.len
  have hq256 := hF.out.1.1.q
  have hn64 := hc.n64
  have hn1 := hc.n1
  have hgd := hc.good
  refine pure_of (args := [.agg #[.int .i64 p, .int .i64 m, .slice A mod.length c, .int .i64 w, .slice Aa n ca], .slice T nt ct, .slice X nx cx, .slice Y ny cy]) 85 Tryz.func4 rfl rfl rfl law_OrderedOptimal_F_ent ⟨id, id, id, id, id, id, id, trivial⟩ (fun w0 => ?_)
  refine tr_seq ?_
  refine tr_region fun _ _ _ => ?_
  refine ef rfl rfl (eBox rfl rfl rfl rfl rfl (fun p0 => ?_)) 
  refine pu rfl rfl rfl rfl rfl ?_
  refine tr_seq ?_
  refine tr_seq ?_
  refine tr_region fun _ _ _ => ?_
  refine st rfl rfl rfl rfl (rLdS rfl rfl rfl) ?_
  refine pu rfl rfl rfl rfl rfl ?_
  refine ef rfl rfl (eCall0 rfl rfl rfl (law42_readyG p m A c mod w Aa n ca rs hn h9c hc hl9 h9b h8 T nt ct ts hnt t9 t8 1024 ho) ⟨rfl, rfl, rfl, trivial⟩ ?_) 
  rintro _ ⟨b, rfl, hb⟩
  refine st rfl rfl rfl rfl (rNotB rfl rfl) ?_
  refine tr_cond_bool rfl (fun h1 => ?_) (fun h1 => ?_)
  · try simp only [zbA] at h1
    refine tr_seq ?_
    refine tr_region fun _ _ _ => ?_
    refine pu rfl rfl rfl rfl rfl ?_
    exact tr_ret ⟨trivial, _, _, rfl, ⟨rfl, rfl⟩, CSub.nil _, trivial⟩
  · try simp only [zbA] at h1
    refine tr_skip ?_
    refine tr_seq ?_
    refine tr_region fun _ _ _ => ?_
    refine st rfl rfl rfl rfl (rLdS rfl rfl rfl) ?_
    refine ef rfl rfl (eCallV rfl rfl rfl (ref_Dist p m A c mod w Aa n ca rs hn h9c hc) ⟨rfl, rfl, trivial⟩ ?_) 
    refine pu rfl rfl rfl rfl rfl ?_
    refine tr_seq ?_
    refine tr_seq ?_
    refine tr_region fun _ _ _ => ?_
    iterate 3 refine pu rfl rfl rfl rfl rfl ?_
    refine stg rfl rfl rfl rfl rfl (fun hb => by (have hq := hb; try simp only [zbA] at hq); exact rLdS rfl rfl rfl) ?_
    refine stg rfl rfl rfl rfl rfl (fun hb => by (have hq := hb; try simp only [zbA] at hq); exact rMove rfl rfl) ?_
    refine efg rfl rfl rfl rfl rfl (fun hb => by (have hq := hb; try simp only [zbA] at hq); exact eCallV rfl rfl rfl (ref_CWordC p m A c mod w Aa n ca rs hn h9c hc X nx cx l hnx hl) ⟨(evg rfl hb), (evg rfl hb), trivial⟩ ⟨rfl, rfl⟩) ?_
    refine stg rfl rfl rfl rfl rfl (fun hb => by (have hq := hb; try simp only [zbA] at hq); exact rNeq rfl (evg rfl hb) rfl) ?_
    refine st rfl rfl rfl rfl (rOrB rfl rfl rfl rfl) ?_
    refine tr_cond_bool rfl (fun h4 => ?_) (fun h4 => ?_)
    · try simp only [zbA] at h4
      refine tr_seq ?_
      refine tr_region fun _ _ _ => ?_
      refine pu rfl rfl rfl rfl rfl ?_
      exact tr_ret ⟨trivial, _, _, rfl, ⟨rfl, rfl⟩, CSub.nil _, trivial⟩
    · try simp only [zbA] at h4
      refine tr_skip ?_
      refine tr_seq ?_
      have hd1 : 1 ≤ disI p m mod w.toNat rs 1024 := by first | omega | (simp at h4; omega)
      have hwz : wordC (pw p m) w l = 0 := by first | omega | (simp at h4; omega)
      obtain ⟨hlw, hin⟩ := wordC_zero hwz
      have hdd := disI_le hgd hc.form hd1
      refine tr_region fun _ _ _ => ?_
      refine st rfl rfl rfl rfl (rLdS rfl rfl rfl) ?_
      refine pu rfl rfl rfl rfl rfl ?_
      refine ef rfl rfl (eCallV rfl rfl rfl (ref_CHas p m A c mod w Aa n ca rs hn h9c hc X nx cx l hnx hlw hin) ⟨rfl, rfl, trivial⟩ ?_) 
      iterate 5 refine pu rfl rfl rfl rfl rfl ?_
      refine tr_seq ?_
      refine tr_region fun _ _ _ => ?_
      refine st rfl rfl rfl rfl (rLdS rfl rfl rfl) ?_
      iterate 3 refine pu rfl rfl rfl rfl rfl ?_
      refine ef rfl rfl (eCallV rfl rfl rfl (ord_CertG p m A c mod w Aa n ca rs hn h9c hc T nt ct ts hnt t9 t8 ho X nx cx l hnx hl (disI p m mod w.toNat rs 1024) hwz hm hd1 (by omega)) ⟨rfl, rfl, rfl, rfl, trivial⟩ ?_) 
      iterate 5 refine pu rfl rfl rfl rfl rfl ?_
      refine tr_seq ?_
      refine tr_seq ?_
      refine tr_region fun _ _ _ => ?_
      refine pu rfl rfl rfl rfl rfl ?_
      refine st rfl rfl rfl rfl (rNotB rfl rfl) ?_
      refine tr_cond_bool rfl (fun h8 => ?_) (fun h8 => ?_)
      · try simp only [zbA] at h8
        rw [hm] at h8; simp at h8 --done
      · try simp only [zbA] at h8
        refine tr_skip ?_
        refine tr_seq ?_
        refine tr_draw [0, 1, 2, 4, 5, 3, 6, 7, 8, 9, 10, 11] [] mixed (by kernel_rfl) fun _ _ _ => ?_
        refine st rfl rfl rfl rfl (rLdS rfl rfl rfl) ?_
        refine st rfl rfl rfl rfl (rLdS rfl rfl rfl) ?_
        iterate 3 refine pu rfl rfl rfl rfl rfl ?_
        refine ef rfl rfl (eCall2 rfl rfl rfl (law42_ham p m A c mod w Aa n ca rs hn h9c hc X nx cx l hnx hlw hin) ⟨rfl, rfl, trivial⟩ ?_) 
        rintro _ _ _ ⟨Bh, ch, hs, rfl, rfl, rfl, hhs⟩
        have hht := hhs.tab (by omega) (by omega)
        have hh8 : ∀ r ∈ hs, r.xs.length ≤ 17592186044415 := fun r hr => by have := (hht.row r hr).1; omega
        refine ef rfl rfl (eCallV rfl rfl rfl (ord_CertG p m A c mod w Aa n ca rs hn h9c hc Bh _ ch hs rfl (by have := hhs.length; omega) hh8 (hhs.tab (by omega) (by omega)).zero X nx cx l hnx hl (disI p m mod w.toNat rs 1024) hwz hm hd1 (by omega)) ⟨rfl, rfl, rfl, rfl, trivial⟩ ?_) 
        iterate 5 refine pu rfl rfl rfl rfl rfl ?_
        refine tr_seq ?_
        refine tr_seq ?_
        have hcb := ham_cert hq2 (by omega) hhs (by omega) hin (disI p m mod w.toNat rs 1024)
        refine tr_region fun _ _ _ => ?_
        iterate 3 refine pu rfl rfl rfl rfl rfl ?_
        refine stg rfl rfl rfl rfl rfl (fun hb => by (have hq := hb; try simp only [zbA] at hq); exact rMove rfl rfl) ?_
        refine stg rfl rfl rfl rfl rfl (fun hb => by (have hq := hb; try simp only [zbA] at hq); exact rNeq rfl (evg rfl hb) rfl) ?_
        refine st rfl rfl rfl rfl (rOrB rfl rfl rfl rfl) ?_
        refine pu rfl rfl rfl rfl rfl ?_
        refine stg rfl rfl rfl rfl rfl (fun hb => by (have hq := hb; try simp only [zbA] at hq); exact rMove rfl rfl) ?_
        refine stg rfl rfl rfl rfl rfl (fun hb => by (have hq := hb; try simp only [zbA] at hq); exact rNotB rfl (evg rfl hb)) ?_
        refine st rfl rfl rfl rfl (rOrB rfl rfl rfl rfl) ?_
        refine tr_cond_bool rfl (fun h11 => ?_) (fun h11 => ?_)
        · try simp only [zbA] at h11
          simp [hcb] at h11 --done
        · try simp only [zbA] at h11
          refine tr_skip ?_
          refine tr_seq ?_
          refine tr_draw [0, 1, 2, 3, 4, 6, 7, 8, 5, 9, 10, 11, 12, 13] [] mixed (by kernel_rfl) fun _ _ _ => ?_
          refine pu rfl rfl rfl rfl rfl ?_
          refine st rfl rfl rfl rfl (rNotB rfl rfl) ?_
          refine pu rfl rfl rfl rfl rfl ?_
          refine skF rfl rfl (by simp [hcer]) rfl rfl ?_
          refine skF rfl rfl (by simp [hcer]) rfl rfl ?_
          refine skF rfl rfl (by simp [hcer]) rfl rfl ?_
          refine skF rfl rfl (by simp [hcer]) rfl rfl ?_
          refine skF rfl rfl (by simp [hcer]) rfl rfl ?_
          refine skF rfl rfl (by simp [hcer]) rfl rfl ?_
          refine skF rfl rfl (by simp [hcer]) rfl rfl ?_
          refine skF rfl rfl (by simp [hcer]) rfl rfl ?_
          refine skF rfl rfl (by simp [hcer]) rfl rfl ?_
          refine st rfl rfl rfl rfl (rPick1 rfl rfl (by simp [hcer]) rfl) ?_
          refine pu rfl rfl rfl rfl rfl ?_
          exact tr_ret ⟨trivial, _, _, rfl, ⟨by simp [hcer], rfl⟩, CSub.nil _, trivial⟩
theorem law_OrderedOptimal (p m : Int) (A : Option Addr) (c : Nat) (mod : List Int) (hl9 : mod.length ≤ 17592186044415) (w : Int) (Aa : Option Addr) (n ca : Nat) (rs : List RowM) (hn : n = rs.length) (h9 : rs.length ≤ 17592186044415) (h8 : ∀ r ∈ rs, r.xs.length ≤ 17592186044415) (T : Option Addr) (nt ct : Nat) (ts : List RowM) (hnt : nt = ts.length) (t9 : ts.length ≤ 17592186044415) (t8 : ∀ r ∈ ts, r.xs.length ≤ 17592186044415) (X : Option Addr) (nx cx : Nat) (l : List Int) (hnx : nx = l.length) (hl : l.length ≤ 17592186044415) (Y : Option Addr) (ny cy : Nat) (y : List Int) (hny : ny = y.length) (hy : y.length ≤ 17592186044415) : Pure Tryz.prog 4 #[.agg #[.int .i64 p, .int .i64 m, .slice A mod.length c, .int .i64 w, .slice Aa n ca], .slice T nt ct, .slice X nx cx, .slice Y ny cy] [ro A (ints mod), ro Aa (hdrs rs), rowsR rs, ro T (hdrs ts), rowsR ts, ro X (ints l), ro Y (ints y)] (isV (.bool true)) := by
  by_cases he : codC p m mod w rs = 0
  · obtain ⟨hF0, hc⟩ := codC_zero he
    haveI hF : IsF p m mod := ⟨hF0⟩
    have hlen := hc.len
    by_cases ho : ordC (pw p m) w (xss ts) = 0
    · cases hm : memB p m mod rs l with
      | false => exact law_OrderedOptimal_N p m A c mod w Aa n ca rs hn (by omega) hc hl9 h9 h8 T nt ct ts hnt t9 t8 ho X nx cx l hnx hl Y ny cy y hny hy hm
      | true =>
        cases hcer : cerB ts l (disI p m mod w.toNat rs 1024) with
        | true => exact law_OrderedOptimal_T p m A c mod w Aa n ca rs hn (by omega) hc hl9 h9 h8 T nt ct ts hnt t9 t8 ho X nx cx l hnx hl Y ny cy y hny hy hm hcer
        | false => exact law_OrderedOptimal_F p m A c mod w Aa n ca rs hn (by omega) hc hl9 h9 h8 T nt ct ts hnt t9 t8 ho X nx cx l hnx hl Y ny cy y hny hy hm hcer
    · exact law_OrderedOptimal_R p m A c mod w Aa n ca rs hn (by omega) hc hl9 h9 h8 T nt ct ts hnt t9 t8 ho X nx cx l hnx hl Y ny cy y hny hy
  · exact law_OrderedOptimal_E p m A c mod hl9 w Aa n ca rs hn h9 h8 T nt ct ts hnt t9 t8 X nx cx l hnx hl Y ny cy y hny hy he
end Go.Proofs.YtoalphamojhpcaaGreat

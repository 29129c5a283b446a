/-
  ORDEREDOPTIMAL, PART 5 OF 9. One sentence: the texts behind the law OrderedOptimal, put together.
  Conditions: each theorem's own, written out in it.
-/
import Derived.Test.YtoalphamojhpcaaGreatK4
set_option linter.unusedSimpArgs false
set_option linter.unusedVariables false
set_option linter.unusedSectionVars false
set_option linter.unusedSimpArgs false
set_option linter.unusedVariables false
set_option maxRecDepth 100000
namespace Go.Proofs.YtoalphamojhpcaaGreat
open Go.RowKit
theorem mat_openE_ent : Enters Tryz.prog 91 := enters_of Tryz.func91 (by kernel_rfl) (by kernel_rfl)
theorem mat_openE (p m : Int) (A : Option Addr) (c : Nat) (mod : List Int) (hl9 : mod.length ≤ 17592186044415) [hF : IsF p m mod] (pl : Addr) (cl : Nat) (w : Int) (Aa : Option Addr) (n ca : Nat) (rs : List RowM) (hn : n = rs.length) (h9 : rs.length ≤ 17592186044415) (h8 : ∀ r ∈ rs, r.xs.length ≤ 17592186044415) (hE : rowsC (pw p m) w (xss rs) ≠ 0) :
    Pure Tryz.prog 91 #[.agg #[.int .i64 p, .int .i64 m, .slice A mod.length c], .slice (some pl) 1 cl] [ro A (ints mod), ro (some pl) [.int .i64 w, .slice Aa n ca], ro Aa (hdrs rs), rowsR rs] (isV (.tuple #[.pointer none, .int .i64 (rowsC (pw p m) w (xss rs))])) := by
  refine pure_of (args := [.agg #[.int .i64 p, .int .i64 m, .slice A mod.length c], .slice (some pl) 1 cl]) 32 Tryz.func91 rfl rfl rfl mat_openE_ent ⟨id, id, id, id, trivial⟩ (fun w0 => ?_)
  refine tr_seq ?_
  refine tr_region fun _ _ _ => ?_
  refine ef rfl rfl (eBox rfl rfl rfl rfl rfl (fun p0 => ?_)) 
  iterate 2 refine pu rfl rfl rfl rfl rfl ?_
  refine tr_seq ?_
  refine tr_region fun _ _ _ => ?_
  refine st rfl rfl rfl rfl (rLdS rfl rfl rfl) ?_
  refine ef rfl rfl (eCall1 rfl rfl rfl (fld_New_ok _ _ _ _ _ hl9 hF.out) ⟨rfl, trivial⟩ ?_) 
  rintro _ _ ⟨g, rfl, rfl, hg⟩
  iterate 5 refine pu rfl rfl rfl rfl rfl ?_
  refine tr_seq ?_
  refine tr_seq ?_
  refine tr_region fun _ _ _ => ?_
  iterate 2 refine pu rfl rfl rfl rfl rfl ?_
  refine tr_cond_bool rfl (fun h2 => ?_) (fun h2 => ?_)
  · try simp only [zbA] at h2
    first | exact absurd trivial h2 | exact absurd rfl h2 | omega | (exact absurd h2 (by simp)) --done
  · try simp only [zbA] at h2
    refine tr_skip ?_
    refine tr_seq ?_
    refine tr_seq ?_
    refine tr_region fun _ _ _ => ?_
    refine pu rfl rfl rfl rfl rfl ?_
    refine st rfl rfl rfl rfl (rLenS rfl rfl) ?_
    refine pu rfl rfl rfl rfl rfl ?_
    refine tr_block ?_
    refine tr_loop1 (fun (k : Int) => [(20, .int .i64 k), (6, .pointer (some g.p)), (18, .slice (some pl) 1 cl), (19, .int .i64 1)]) (fun (k : Int) => [gfN g, blk p0 24 [.int .i64 p, .int .i64 m, .slice A mod.length c], ro A (ints mod), ro (some pl) [.int .i64 w, .slice Aa n ca], ro Aa (hdrs rs), rowsR rs]) (fun (k : Int) => k = 0) (fun (k : Int) => (1 - k).toNat) (0) ⟨rfl, rfl, rfl, rfl, trivial⟩ (by first | exact cs _ _ | exact CSub.refl _) (rfl) (fun k hI => ?_)
    refine tr_seq ?_
    refine tr_region fun _ _ _ => ?_
    refine pu rfl rfl rfl rfl rfl ?_
    refine tr_seq ?_
    refine tr_cond_bool rfl (fun h5 => ?_) (fun h5 => ?_)
    · try simp only [zbA] at h5
      refine tr_skip ?_
      refine tr_seq ?_
      refine tr_block ?_
      refine tr_seq ?_
      refine tr_region fun _ _ _ => ?_
      refine st rfl rfl rfl rfl (rIdxS0 rfl rfl rfl (by omega) (by omega)) ?_
      refine st rfl rfl rfl rfl (rLdS rfl rfl rfl) ?_
      refine ef rfl rfl (eAlloc rfl rfl rfl (fun p6 => ?_)) 
      refine ef rfl rfl (eStS rfl rfl rfl rfl rfl rfl ?_) 
      refine tr_seq ?_
      refine tr_region fun _ _ _ => ?_
      refine pu rfl rfl rfl rfl rfl ?_
      refine st rfl rfl rfl rfl (rLdS rfl rfl rfl) ?_
      refine ef rfl rfl (eCallV rfl rfl rfl (mat_checkC g (pw p m) hg.eq w _ _ _ rs hn h9 h8) ⟨rfl, rfl, trivial⟩ ?_) 
      refine pu rfl rfl rfl rfl rfl ?_
      refine tr_seq ?_
      refine tr_region fun _ _ _ => ?_
      iterate 2 refine pu rfl rfl rfl rfl rfl ?_
      refine tr_cond_bool rfl (fun h8 => ?_) (fun h8 => ?_)
      · try simp only [zbA] at h8
        refine tr_seq ?_
        refine tr_region fun _ _ _ => ?_
        iterate 3 refine pu rfl rfl rfl rfl rfl ?_
        exact tr_ret ⟨trivial, _, _, rfl, ⟨rfl, rfl⟩, CSub.nil _, trivial⟩
      · try simp only [zbA] at h8
        omega --done
    · try simp only [zbA] at h5
      omega --done
theorem mat_openG_ent : Enters Tryz.prog 91 := enters_of Tryz.func91 (by kernel_rfl) (by kernel_rfl)
theorem mat_openG (p m : Int) (A : Option Addr) (c : Nat) (mod : List Int) (hl9 : mod.length ≤ 17592186044415) [hF : IsF p m mod] (pl : Addr) (cl : Nat) (w : Int) (Aa : Option Addr) (n ca : Nat) (rs : List RowM) (hn : n = rs.length) (h9 : rs.length ≤ 17592186044415) (h8 : ∀ r ∈ rs, r.xs.length ≤ 17592186044415) (hE : rowsC (pw p m) w (xss rs) = 0) :
    Pure Tryz.prog 91 #[.agg #[.int .i64 p, .int .i64 m, .slice A mod.length c], .slice (some pl) 1 cl] [ro A (ints mod), ro (some pl) [.int .i64 w, .slice Aa n ca], ro Aa (hdrs rs), rowsR rs] (one (fun v ch => ∃ g : GfM, v = .tuple #[.pointer (some g.p), .int .i64 0] ∧ ch = gfN g ∧ GOk g p m mod)) := by
  refine pure_of (args := [.agg #[.int .i64 p, .int .i64 m, .slice A mod.length c], .slice (some pl) 1 cl]) 32 Tryz.func91 rfl rfl rfl mat_openG_ent ⟨id, id, id, id, trivial⟩ (fun w0 => ?_)
  refine tr_seq ?_
  refine tr_region fun _ _ _ => ?_
  refine ef rfl rfl (eBox rfl rfl rfl rfl rfl (fun p0 => ?_)) 
  iterate 2 refine pu rfl rfl rfl rfl rfl ?_
  refine tr_seq ?_
  refine tr_region fun _ _ _ => ?_
  refine st rfl rfl rfl rfl (rLdS rfl rfl rfl) ?_
  refine ef rfl rfl (eCall1 rfl rfl rfl (fld_New_ok _ _ _ _ _ hl9 hF.out) ⟨rfl, trivial⟩ ?_) 
  rintro _ _ ⟨g, rfl, rfl, hg⟩
  iterate 5 refine pu rfl rfl rfl rfl rfl ?_
  refine tr_seq ?_
  refine tr_seq ?_
  refine tr_region fun _ _ _ => ?_
  iterate 2 refine pu rfl rfl rfl rfl rfl ?_
  refine tr_cond_bool rfl (fun h2 => ?_) (fun h2 => ?_)
  · try simp only [zbA] at h2
    first | exact absurd trivial h2 | exact absurd rfl h2 | omega | (exact absurd h2 (by simp)) --done
  · try simp only [zbA] at h2
    refine tr_skip ?_
    refine tr_seq ?_
    refine tr_seq ?_
    refine tr_region fun _ _ _ => ?_
    refine pu rfl rfl rfl rfl rfl ?_
    refine st rfl rfl rfl rfl (rLenS rfl rfl) ?_
    refine pu rfl rfl rfl rfl rfl ?_
    refine tr_block ?_
    refine tr_loop1 (fun (k : Int) => [(20, .int .i64 k), (6, .pointer (some g.p)), (18, .slice (some pl) 1 cl), (19, .int .i64 1)]) (fun (k : Int) => [gfN g, blk p0 24 [.int .i64 p, .int .i64 m, .slice A mod.length c], ro A (ints mod), ro (some pl) [.int .i64 w, .slice Aa n ca], ro Aa (hdrs rs), rowsR rs]) (fun (k : Int) => 0 ≤ k ∧ k ≤ 1) (fun (k : Int) => (1 - k).toNat) (0) ⟨rfl, rfl, rfl, rfl, trivial⟩ (by first | exact cs _ _ | exact CSub.refl _) (by omega) (fun k hI => ?_)
    refine tr_seq ?_
    refine tr_region fun _ _ _ => ?_
    refine pu rfl rfl rfl rfl rfl ?_
    refine tr_seq ?_
    refine tr_cond_bool rfl (fun h5 => ?_) (fun h5 => ?_)
    · try simp only [zbA] at h5
      refine tr_skip ?_
      refine tr_seq ?_
      refine tr_block ?_
      refine tr_seq ?_
      refine tr_region fun _ _ _ => ?_
      refine st rfl rfl rfl rfl (rIdxS0 rfl rfl rfl (by omega) (by omega)) ?_
      refine st rfl rfl rfl rfl (rLdS rfl rfl rfl) ?_
      refine ef rfl rfl (eAlloc rfl rfl rfl (fun p6 => ?_)) 
      refine ef rfl rfl (eStS rfl rfl rfl rfl rfl rfl ?_) 
      refine tr_seq ?_
      refine tr_region fun _ _ _ => ?_
      refine pu rfl rfl rfl rfl rfl ?_
      refine st rfl rfl rfl rfl (rLdS rfl rfl rfl) ?_
      refine ef rfl rfl (eCallV rfl rfl rfl (mat_checkC g (pw p m) hg.eq w _ _ _ rs hn h9 h8) ⟨rfl, rfl, trivial⟩ ?_) 
      refine pu rfl rfl rfl rfl rfl ?_
      refine tr_seq ?_
      refine tr_region fun _ _ _ => ?_
      iterate 2 refine pu rfl rfl rfl rfl rfl ?_
      refine tr_cond_bool rfl (fun h8 => ?_) (fun h8 => ?_)
      · try simp only [zbA] at h8
        omega --done
      · try simp only [zbA] at h8
        refine tr_skip ?_
        refine tr_region fun _ _ _ => ?_
        refine st rfl rfl rfl rfl (rAdd rfl rfl rfl (by omega) (by omega)) ?_
        refine pu rfl rfl rfl rfl rfl ?_
        refine ⟨k + 1, ⟨rfl, rfl, rfl, rfl, trivial⟩, by first | exact cs _ _ | exact CSub.refl _, ?_⟩
        omega
    · try simp only [zbA] at h5
      refine tr_exit ?_
      refine tr_seq ?_
      refine tr_region fun _ _ _ => ?_
      iterate 3 refine pu rfl rfl rfl rfl rfl ?_
      exact tr_ret ⟨trivial, _, _, rfl, ⟨_, rfl, g, rfl, rfl, hg⟩, cs _ _, ⟨trivial, trivial, trivial, trivial⟩, trivial⟩
theorem mat_CanonicalE_ent : Enters Tryz.prog 90 := enters_of Tryz.func90 (by kernel_rfl) (by kernel_rfl)
theorem mat_CanonicalE (p m : Int) (A : Option Addr) (c : Nat) (mod : List Int) (hl9 : mod.length ≤ 17592186044415) [hF : IsF p m mod] (w : Int) (Aa : Option Addr) (n ca : Nat) (rs : List RowM) (hn : n = rs.length) (h9 : rs.length ≤ 17592186044415) (h8 : ∀ r ∈ rs, r.xs.length ≤ 17592186044415) (hE : rowsC (pw p m) w (xss rs) ≠ 0) :
    Pure Tryz.prog 90 #[.agg #[.int .i64 p, .int .i64 m, .slice A mod.length c], .agg #[.int .i64 w, .slice Aa n ca]] [ro A (ints mod), ro Aa (hdrs rs), rowsR rs] (isV (.tuple #[.agg #[.int .i64 0, .slice none 0 0], .slice none 0 0, .int .i64 (rowsC (pw p m) w (xss rs))])) := by
  refine pure_ofC (args := [.agg #[.int .i64 p, .int .i64 m, .slice A mod.length c], .agg #[.int .i64 w, .slice Aa n ca]]) 36 Tryz.func90 rfl rfl rfl mat_CanonicalE_ent ⟨id, id, id, trivial⟩ (fun w0 => ?_)
  refine tr_seq ?_
  refine tr_region fun _ _ _ => ?_
  refine ef rfl rfl (eBox rfl rfl rfl rfl rfl (fun p0 => ?_)) 
  refine ef rfl rfl (eBox rfl rfl rfl rfl rfl (fun p0a => ?_)) 
  refine ef rfl rfl (eAlloc rfl rfl rfl (fun p0b => ?_)) 
  iterate 2 refine pu rfl rfl rfl rfl rfl ?_
  refine tr_seq ?_
  refine tr_region fun _ _ _ => ?_
  refine st rfl rfl rfl rfl (rLdS rfl rfl rfl) ?_
  refine st rfl rfl rfl rfl (rLdS rfl rfl rfl) ?_
  refine ef rfl rfl (eLitS rfl rfl rfl rfl (fun p1 => ?_)) 
  refine ef rfl rfl (eCallV rfl rfl rfl (mat_openE _ _ _ _ _ hl9 _ _ w Aa _ ca rs hn h9 h8 hE) ⟨rfl, rfl, trivial⟩ ?_) 
  iterate 5 refine pu rfl rfl rfl rfl rfl ?_
  refine tr_seq ?_
  refine tr_seq ?_
  refine tr_region fun _ _ _ => ?_
  iterate 2 refine pu rfl rfl rfl rfl rfl ?_
  refine tr_cond_bool rfl (fun h2 => ?_) (fun h2 => ?_)
  · try simp only [zbA] at h2
    refine tr_seq ?_
    refine tr_region fun _ _ _ => ?_
    refine st rfl rfl rfl rfl (rBuild rfl rfl) ?_
    refine pu rfl rfl rfl rfl rfl ?_
    refine ef rfl rfl (eStS rfl rfl rfl rfl rfl rfl ?_) 
    iterate 2 refine pu rfl rfl rfl rfl rfl ?_
    exact tr_ret ⟨trivial, _, _, (.cell rfl (cellS rfl) (.tmp rfl (.tmp rfl .nil))), ⟨rfl, rfl⟩, CSub.nil _, trivial⟩
  · try simp only [zbA] at h2
    omega --done
theorem mat_CanonicalG_ent : Enters Tryz.prog 90 := enters_of Tryz.func90 (by kernel_rfl) (by kernel_rfl)
theorem mat_CanonicalG (p m : Int) (A : Option Addr) (c : Nat) (mod : List Int) (hl9 : mod.length ≤ 17592186044415) [hF : IsF p m mod] (w : Int) (Aa : Option Addr) (n ca : Nat) (rs : List RowM) (hn : n = rs.length) (h9 : rs.length ≤ 17592186044415) (h8 : ∀ r ∈ rs, r.xs.length ≤ 17592186044415) (hE : rowsC (pw p m) w (xss rs) = 0) :
    Pure Tryz.prog 90 #[.agg #[.int .i64 p, .int .i64 m, .slice A mod.length c], .agg #[.int .i64 w, .slice Aa n ca]] [ro A (ints mod), ro Aa (hdrs rs), rowsR rs] (three (fun v ca cb cc => ∃ B r3 Bp cp ps, v = .tuple #[.agg #[.int .i64 w, .slice B r3.length r3.length], .slice Bp ps.length cp, .int .i64 0] ∧ ca = rx B (hdrs r3) ∧ cb = rowsCh 3 r3 ∧ cc = ow Bp 3 cp (ints ps) ∧ RrOf p m mod w.toNat rs r3 ps ∧ r3.length ≤ rs.length)) := by
  obtain ⟨hb, hlen, hin⟩ := rowsC_zero hE
  rw [xss_length] at hb
  have hgd : Gd (pw p m) w.toNat rs := (Gd_iff hb.1).2 ⟨hlen, hin⟩
  refine pure_ofC (args := [.agg #[.int .i64 p, .int .i64 m, .slice A mod.length c], .agg #[.int .i64 w, .slice Aa n ca]]) 36 Tryz.func90 rfl rfl rfl mat_CanonicalG_ent ⟨id, id, id, trivial⟩ (fun w0 => ?_)
  refine tr_seq ?_
  refine tr_region fun _ _ _ => ?_
  refine ef rfl rfl (eBox rfl rfl rfl rfl rfl (fun p0 => ?_)) 
  refine ef rfl rfl (eBox rfl rfl rfl rfl rfl (fun p0a => ?_)) 
  refine ef rfl rfl (eAlloc rfl rfl rfl (fun p0b => ?_)) 
  iterate 2 refine pu rfl rfl rfl rfl rfl ?_
  refine tr_seq ?_
  refine tr_region fun _ _ _ => ?_
  refine st rfl rfl rfl rfl (rLdS rfl rfl rfl) ?_
  refine st rfl rfl rfl rfl (rLdS rfl rfl rfl) ?_
  refine ef rfl rfl (eLitS rfl rfl rfl rfl (fun p1 => ?_)) 
  refine ef rfl rfl (eCall1 rfl rfl rfl (mat_openG _ _ _ _ _ hl9 _ _ w Aa _ ca rs hn h9 h8 hE) ⟨rfl, rfl, trivial⟩ ?_) 
  rintro _ _ ⟨g, rfl, rfl, hg⟩
  iterate 5 refine pu rfl rfl rfl rfl rfl ?_
  refine tr_seq ?_
  refine tr_seq ?_
  refine tr_region fun _ _ _ => ?_
  iterate 2 refine pu rfl rfl rfl rfl rfl ?_
  refine tr_cond_bool rfl (fun h2 => ?_) (fun h2 => ?_)
  · try simp only [zbA] at h2
    first | exact absurd trivial h2 | exact absurd rfl h2 | omega | (exact absurd h2 (by simp)) --done
  · try simp only [zbA] at h2
    refine tr_skip ?_
    refine tr_seq ?_
    refine tr_region fun _ _ _ => ?_
    refine pu rfl rfl rfl rfl rfl ?_
    refine st rfl rfl rfl rfl (rFld rfl rfl) ?_
    refine st rfl rfl rfl rfl (rLdF rfl rfl rfl) ?_
    refine st rfl rfl rfl rfl (rFld rfl rfl) ?_
    refine st rfl rfl rfl rfl (rLdF rfl rfl rfl) ?_
    refine ef rfl rfl (eCall3 rfl rfl rfl (mat_canon g hg w (by omega) (by omega) _ _ _ rs hn (by omega) hgd) ⟨rfl, rfl, rfl, trivial⟩ ?_) 
    rintro _ _ _ _ ⟨B, r3, Bp, cp, ps, rfl, rfl, rfl, rfl, hR, hk⟩
    iterate 5 refine pu rfl rfl rfl rfl rfl ?_
    refine tr_seq ?_
    refine tr_region fun _ _ _ => ?_
    refine st rfl rfl rfl rfl (rFld rfl rfl) ?_
    refine st rfl rfl rfl rfl (rLdF rfl rfl rfl) ?_
    refine pu rfl rfl rfl rfl rfl ?_
    refine st rfl rfl rfl rfl (rBuild rfl rfl) ?_
    refine pu rfl rfl rfl rfl rfl ?_
    refine ef rfl rfl (eStS rfl rfl rfl rfl rfl rfl ?_) 
    iterate 2 refine pu rfl rfl rfl rfl rfl ?_
    exact tr_ret ⟨trivial, _, _, (.cell rfl (cellS rfl) (.tmp rfl (.tmp rfl .nil))), ⟨_, _, _, rfl, B, r3, Bp, cp, ps, rfl, rfl, rfl, rfl, hR, hk⟩, cs _ _, trivial, trivial, trivial, trivial⟩
theorem code_length_ent : Enters Tryz.prog 104 := enters_of Tryz.func104 (by kernel_rfl) (by kernel_rfl)
theorem code_length (n : Int) :
    Pure Tryz.prog 104 #[.int .i64 n] [] (isV (.int .i64 (if n < 1 ∨ n > 64 then 4 else 0))) := by
  refine pure_of (args := [.int .i64 n]) 9 Tryz.func104 rfl rfl rfl code_length_ent trivial (fun w0 => ?_)
  refine tr_seq ?_
  refine tr_region fun _ _ _ => ?_
  refine pu rfl rfl rfl rfl rfl ?_
  refine tr_seq ?_
  refine tr_seq ?_
  refine tr_region fun _ _ _ => ?_
  iterate 3 refine pu rfl rfl rfl rfl rfl ?_
  refine stg rfl rfl rfl rfl rfl (fun hb => by (have hq := hb; try simp only [zbA] at hq); exact rMove rfl rfl) ?_
  refine stg rfl rfl rfl rfl rfl (fun hb => by (have hq := hb; try simp only [zbA] at hq); exact rGtr rfl (evg rfl hb) rfl) ?_
  refine st rfl rfl rfl rfl (rOrB rfl rfl rfl rfl) ?_
  refine tr_cond_bool rfl (fun h1 => ?_) (fun h1 => ?_)
  · try simp only [zbA] at h1
    refine tr_seq ?_
    refine tr_region fun _ _ _ => ?_
    refine pu rfl rfl rfl rfl rfl ?_
    exact tr_ret ⟨trivial, _, _, rfl, ⟨by rw [if_pos (by omega)], rfl⟩, CSub.nil _, trivial⟩
  · try simp only [zbA] at h1
    refine tr_skip ?_
    refine tr_seq ?_
    refine tr_region fun _ _ _ => ?_
    refine pu rfl rfl rfl rfl rfl ?_
    exact tr_ret ⟨trivial, _, _, rfl, ⟨by rw [if_neg (by omega)], rfl⟩, CSub.nil _, trivial⟩
theorem code_lengthOk (n : Int) (h1 : 1 ≤ n) (h2 : n ≤ 64) : Pure Tryz.prog 104 #[.int .i64 n] [] (isV (.int .i64 0)) := by
  have := code_length n
  rwa [if_neg (by omega)] at this
theorem Gd.h8 {q : Int} {w N : Nat} {rs : List RowM} (h : Gd q w rs) (hw : w ≤ N) : ∀ r ∈ rs, r.xs.length ≤ N := fun r hr => by have := (h r hr).1; omega
theorem IsF.short {p m : Int} {mod : List Int} (hF : IsF p m mod) : mod.length ≤ 8 := by
  have h := hF.out.1.1
  have := h.m8
  rcases h.low with h1 | h1
  · rw [h1.2]; simp
  · have := h1.2; omega
end Go.Proofs.YtoalphamojhpcaaGreat

set_option linter.unusedSimpArgs false
set_option linter.unusedVariables false
set_option maxRecDepth 100000
namespace Go.Proofs.YtoalphamojhpcaaGreat
open Go.RowKit
theorem slc_Equal_ent : Enters Tryz.prog 155 := enters_of Tryz.func155 (by kernel_rfl) (by kernel_rfl)
theorem slc_Equal (A : Option Addr) (n c : Nat) (a : List Int) (hn : n = a.length) (B : Option Addr) (m d : Nat) (b : List Int) (hm : m = b.length) (h9 : a.length ≤ 17592186044415) :
    Pure Tryz.prog 155 #[.slice A n c, .slice B m d] [ro A (ints a), ro B (ints b)] (isV (.bool (decide (a = b)))) := by
  refine pure_of (args := [.slice A n c, .slice B m d]) 26 Tryz.func155 rfl rfl rfl slc_Equal_ent ⟨id, id, trivial⟩ (fun w0 => ?_)
  refine tr_seq ?_
  refine tr_region fun _ _ _ => ?_
  refine pu rfl rfl rfl rfl rfl ?_
  refine tr_seq ?_
  refine tr_seq ?_
  refine tr_region fun _ _ _ => ?_
  refine pu rfl rfl rfl rfl rfl ?_
  refine st rfl rfl rfl rfl (rLen rfl rfl) ?_
  refine pu rfl rfl rfl rfl rfl ?_
  refine st rfl rfl rfl rfl (rLen rfl rfl) ?_
  refine pu rfl rfl rfl rfl rfl ?_
  refine tr_cond_bool rfl (fun h1 => ?_) (fun h1 => ?_)
  · try simp only [zbA] at h1
    refine tr_seq ?_
    refine tr_region fun _ _ _ => ?_
    refine pu rfl rfl rfl rfl rfl ?_
    exact tr_ret ⟨trivial, _, _, rfl, ⟨by rw [decide_eq_false (fun h => by rw [h] at hn; omega)], rfl⟩, CSub.nil _, trivial⟩
  · try simp only [zbA] at h1
    refine tr_skip ?_
    refine tr_seq ?_
    refine tr_seq ?_
    refine tr_region fun _ _ _ => ?_
    refine pu rfl rfl rfl rfl rfl ?_
    refine st rfl rfl rfl rfl (rLen rfl rfl) ?_
    refine pu rfl rfl rfl rfl rfl ?_
    refine tr_block ?_
    refine tr_loop1 (fun (i : Nat) => [(13, .int .i64 i), (0, .slice A n c), (1, .slice B m d), (12, .int .i64 n)]) (fun (i : Nat) => [ro A (ints a), ro B (ints b)]) (fun (i : Nat) => i ≤ a.length ∧ a.take i = b.take i) (fun (i : Nat) => a.length - i) (0) ⟨rfl, rfl, rfl, rfl, trivial⟩ (by first | exact cs _ _ | exact CSub.refl _) (⟨by omega, rfl⟩) (fun i hI => ?_)
    obtain ⟨hi, ht⟩ := hI
    have hll : a.length = b.length := by omega
    refine tr_seq ?_
    refine tr_region fun _ _ _ => ?_
    refine pu rfl rfl rfl rfl rfl ?_
    refine tr_seq ?_
    refine tr_cond_bool rfl (fun h4 => ?_) (fun h4 => ?_)
    · try simp only [zbA] at h4
      refine tr_skip ?_
      refine tr_seq ?_
      refine tr_block ?_
      refine tr_seq ?_
      refine tr_region fun _ _ _ => ?_
      iterate 2 refine pu rfl rfl rfl rfl rfl ?_
      refine tr_seq ?_
      refine tr_draw [0, 1, 2, 3, 4, 5, 6, 7, 8] [] mixed (by kernel_rfl) fun _ _ _ => ?_
      iterate 2 refine pu rfl rfl rfl rfl rfl ?_
      refine st rfl rfl rfl rfl (rIdxI rfl rfl rfl (by omega) (by omega) (by omega)) ?_
      refine st rfl rfl rfl rfl (rLdI rfl rfl (by omega)) ?_
      iterate 2 refine pu rfl rfl rfl rfl rfl ?_
      refine st rfl rfl rfl rfl (rIdxI rfl rfl rfl (by omega) (by omega) (by omega)) ?_
      refine st rfl rfl rfl rfl (rLdI rfl rfl (by omega)) ?_
      refine pu rfl rfl rfl rfl rfl ?_
      refine tr_cond_bool rfl (fun h6 => ?_) (fun h6 => ?_)
      · try simp only [zbA] at h6
        refine tr_seq ?_
        refine tr_region fun _ _ _ => ?_
        refine pu rfl rfl rfl rfl rfl ?_
        exact tr_ret ⟨trivial, _, _, rfl, ⟨by rw [decide_eq_false (fun h => h6 (by rw [h]))], rfl⟩, CSub.nil _, trivial⟩
      · try simp only [zbA] at h6
        refine tr_skip ?_
        refine tr_region fun _ _ _ => ?_
        refine st rfl rfl rfl rfl (rAdd rfl rfl rfl (by omega) (by omega)) ?_
        refine pu rfl rfl rfl rfl rfl ?_
        refine ⟨i + 1, ⟨rfl, rfl, rfl, rfl, trivial⟩, by first | exact cs _ _ | exact CSub.refl _, ?_⟩
        exact ⟨⟨by omega, take_eq_next 0 a b hll (by omega) ht (by simpa using h6)⟩, by omega⟩
    · try simp only [zbA] at h4
      refine tr_exit ?_
      refine tr_seq ?_
      refine tr_region fun _ _ _ => ?_
      refine pu rfl rfl rfl rfl rfl ?_
      have hia : i = a.length := by omega
      rw [hia, List.take_length, hll, List.take_length] at ht
      exact tr_ret ⟨trivial, _, _, rfl, ⟨by rw [decide_eq_true ht], rfl⟩, CSub.nil _, trivial⟩
theorem slc_EqualF (r q : RowM) (h9 : r.xs.length ≤ 17592186044415) : Pure Tryz.prog 155 ([Value.slice r.A r.xs.length r.cap, Value.slice q.A q.xs.length q.cap] ++ []).toArray [ro r.A (ints r.xs), ro q.A (ints q.xs)] (isV (.bool (decide (r.xs = q.xs)))) :=
  slc_Equal _ _ _ r.xs rfl _ _ _ q.xs rfl h9
theorem slc_EqualFunc_ent : Enters Tryz.prog 154 := enters_of Tryz.func154 (by kernel_rfl) (by kernel_rfl)
theorem slc_EqualFunc (A : Option Addr) (n c : Nat) (rs : List RowM) (hn : n = rs.length) (B : Option Addr) (m d : Nat) (qs : List RowM) (hm : m = qs.length) (h9 : rs.length ≤ 17592186044415) (h8 : ∀ r ∈ rs, r.xs.length ≤ 17592186044415) :
    Pure Tryz.prog 154 #[.slice A n c, .slice B m d, .func (.func 155) #[] #[]] [ro A (hdrs rs), rowsR rs, ro B (hdrs qs), rowsR qs] (isV (.bool (decide (xss rs = xss qs)))) := by
  refine pure_of (args := [.slice A n c, .slice B m d, .func (.func 155) #[] #[]]) 32 Tryz.func154 rfl rfl rfl slc_EqualFunc_ent ⟨id, id, id, id, trivial⟩ (fun w0 => ?_)
  refine tr_seq ?_
  refine tr_region fun _ _ _ => ?_
  refine pu rfl rfl rfl rfl rfl ?_
  refine tr_seq ?_
  refine tr_seq ?_
  refine tr_region fun _ _ _ => ?_
  refine pu rfl rfl rfl rfl rfl ?_
  refine st rfl rfl rfl rfl (rLen rfl rfl) ?_
  refine pu rfl rfl rfl rfl rfl ?_
  refine st rfl rfl rfl rfl (rLen rfl rfl) ?_
  refine pu rfl rfl rfl rfl rfl ?_
  refine tr_cond_bool rfl (fun h1 => ?_) (fun h1 => ?_)
  · try simp only [zbA] at h1
    refine tr_seq ?_
    refine tr_region fun _ _ _ => ?_
    refine pu rfl rfl rfl rfl rfl ?_
    exact tr_ret ⟨trivial, _, _, rfl, ⟨by rw [decide_eq_false (fun h => by have := congrArg List.length h; simp at this; omega)], rfl⟩, CSub.nil _, trivial⟩
  · try simp only [zbA] at h1
    refine tr_skip ?_
    refine tr_seq ?_
    refine tr_seq ?_
    refine tr_region fun _ _ _ => ?_
    refine pu rfl rfl rfl rfl rfl ?_
    refine st rfl rfl rfl rfl (rLen rfl rfl) ?_
    refine pu rfl rfl rfl rfl rfl ?_
    refine tr_block ?_
    refine tr_loop1 (fun (i : Nat) => [(17, .int .i64 i), (1, .slice B m d), (2, .func (.func 155) #[] #[]), (15, .slice A n c), (16, .int .i64 n)]) (fun (i : Nat) => [ro A (hdrs rs), rowsR rs, ro B (hdrs qs), rowsR qs]) (fun (i : Nat) => i ≤ rs.length ∧ (xss rs).take i = (xss qs).take i) (fun (i : Nat) => rs.length - i) (0) ⟨rfl, rfl, rfl, rfl, rfl, trivial⟩ (by first | exact cs _ _ | exact CSub.refl _) (⟨by omega, rfl⟩) (fun i hI => ?_)
    obtain ⟨hi, ht⟩ := hI
    have hll : rs.length = qs.length := by omega
    refine tr_seq ?_
    refine tr_region fun _ _ _ => ?_
    refine pu rfl rfl rfl rfl rfl ?_
    refine tr_seq ?_
    refine tr_cond_bool rfl (fun h4 => ?_) (fun h4 => ?_)
    · try simp only [zbA] at h4
      refine tr_skip ?_
      refine tr_seq ?_
      refine tr_block ?_
      refine tr_seq ?_
      haveI : InB (i : Int).toNat rs.length := ⟨by omega⟩
      haveI : InB (i : Int).toNat qs.length := ⟨by omega⟩
      have hr8 := h8 _ (getD_mem (show (i : Int).toNat < rs.length by omega) rowD)
      refine tr_region fun _ _ _ => ?_
      refine pu rfl rfl rfl rfl rfl ?_
      refine st rfl rfl rfl rfl (rIdxR rfl rfl rfl (by omega) (by omega) (by omega)) ?_
      refine st rfl rfl rfl rfl (rLdR rfl rfl (by omega)) ?_
      iterate 2 refine pu rfl rfl rfl rfl rfl ?_
      refine tr_seq ?_
      refine tr_region fun _ _ _ => ?_
      iterate 2 refine pu rfl rfl rfl rfl rfl ?_
      refine st rfl rfl rfl rfl (rIdxR rfl rfl rfl (by omega) (by omega) (by omega)) ?_
      refine st rfl rfl rfl rfl (rLdR rfl rfl (by omega)) ?_
      refine pu rfl rfl rfl rfl rfl ?_
      refine tr_seq ?_
      refine tr_region fun _ _ _ => ?_
      iterate 3 refine pu rfl rfl rfl rfl rfl ?_
      refine ef rfl rfl (eCallFV rfl rfl rfl rfl (slc_EqualF (rs.getD (i : Int).toNat rowD) (qs.getD (i : Int).toNat rowD) hr8) ⟨rfl, rfl, trivial⟩ inferInstance ?_) 
      refine st rfl rfl rfl rfl (rNotB rfl rfl) ?_
      refine tr_cond_bool rfl (fun h7 => ?_) (fun h7 => ?_)
      · try simp only [zbA] at h7
        refine tr_seq ?_
        refine tr_region fun _ _ _ => ?_
        refine pu rfl rfl rfl rfl rfl ?_
        exact tr_ret ⟨trivial, _, _, rfl, ⟨by rw [decide_eq_false (fun h => by have := congrArg (fun l => l.getD i []) h; simp only [xss_getD] at this; simp only [Int.toNat_natCast] at h7; exact h7 this)], rfl⟩, CSub.nil _, trivial⟩
      · try simp only [zbA] at h7
        refine tr_skip ?_
        refine tr_region fun _ _ _ => ?_
        refine st rfl rfl rfl rfl (rAdd rfl rfl rfl (by omega) (by omega)) ?_
        refine pu rfl rfl rfl rfl rfl ?_
        refine ⟨i + 1, ⟨rfl, rfl, rfl, rfl, rfl, trivial⟩, by first | exact cs _ _ | exact CSub.refl _, ?_⟩
        exact ⟨⟨by omega, take_eq_next [] _ _ (by simpa using hll) (by rw [xss_length]; omega) ht (by rw [xss_getD, xss_getD]; simpa using h7)⟩, by omega⟩
    · try simp only [zbA] at h4
      refine tr_exit ?_
      refine tr_seq ?_
      refine tr_region fun _ _ _ => ?_
      refine pu rfl rfl rfl rfl rfl ?_
      have hia : i = rs.length := by omega
      rw [List.take_of_length_le (by rw [xss_length]; omega), List.take_of_length_le (by rw [xss_length]; omega)] at ht
      exact tr_ret ⟨trivial, _, _, rfl, ⟨by rw [decide_eq_true ht], rfl⟩, CSub.nil _, trivial⟩
theorem fld_CheckN_ent : Enters Tryz.prog 103 := enters_of Tryz.func103 (by kernel_rfl) (by kernel_rfl)
theorem fld_CheckN (p m : Int) (A : Option Addr) (c : Nat) (mod : List Int) (hl9 : mod.length ≤ 17592186044415) (hsh : bShp p m mod = false) :
    Pure Tryz.prog 103 #[.agg #[.int .i64 p, .int .i64 m, .slice A mod.length c]] [ro A (ints mod)] (isV (.int .i64 1)) := by
  refine pure_of (args := [.agg #[.int .i64 p, .int .i64 m, .slice A mod.length c]]) 16 Tryz.func103 rfl rfl rfl fld_CheckN_ent ⟨id, trivial⟩ (fun w0 => ?_)
  refine tr_seq ?_
  refine tr_region fun _ _ _ => ?_
  refine ef rfl rfl (eBox rfl rfl rfl rfl rfl (fun p0 => ?_)) 
  refine pu rfl rfl rfl rfl rfl ?_
  refine tr_seq ?_
  refine tr_seq ?_
  refine tr_draw [0, 1, 2, 3, 4, 5, 6, 7, 8, 9, 10, 11, 12] [] mixed (by kernel_rfl) fun _ _ _ => ?_
  refine st rfl rfl rfl rfl (rLdS rfl rfl rfl) ?_
  refine ef rfl rfl (eCallV rfl rfl rfl (fld_shape _ _ _ _ _ (by omega)) ⟨rfl, trivial⟩ ?_) 
  refine st rfl rfl rfl rfl (rNotB rfl rfl) ?_
  refine pu rfl rfl rfl rfl rfl ?_
  refine skF rfl rfl (by simp [hsh]) rfl rfl ?_
  refine skF rfl rfl (by simp [hsh]) rfl rfl ?_
  refine skF rfl rfl (by simp [hsh]) rfl rfl ?_
  refine skF rfl rfl (by simp [hsh]) rfl rfl ?_
  refine skF rfl rfl (by simp [hsh]) rfl rfl ?_
  refine skF rfl rfl (by simp [hsh]) rfl rfl ?_
  refine skF rfl rfl (by simp [hsh]) rfl rfl ?_
  refine skF rfl rfl (by simp [hsh]) rfl rfl ?_
  refine st rfl rfl rfl rfl (rPick1 rfl rfl (by simp [hsh]) rfl) ?_
  refine tr_cond_bool rfl (fun h1 => ?_) (fun h1 => ?_)
  · try simp only [zbA] at h1
    refine tr_seq ?_
    refine tr_region fun _ _ _ => ?_
    refine pu rfl rfl rfl rfl rfl ?_
    exact tr_ret ⟨trivial, _, _, rfl, ⟨rfl, rfl⟩, CSub.nil _, trivial⟩
  · try simp only [zbA] at h1
    first | exact absurd trivial h1 | exact absurd rfl h1 | omega | (exact absurd h1 (by simp)) --done
theorem fld_CheckS_ent : Enters Tryz.prog 103 := enters_of Tryz.func103 (by kernel_rfl) (by kernel_rfl)
theorem fld_CheckS (p m : Int) (A : Option Addr) (c : Nat) (mod : List Int) (hl9 : mod.length ≤ 17592186044415) (hsh : bShp p m mod = true) :
    Pure Tryz.prog 103 #[.agg #[.int .i64 p, .int .i64 m, .slice A mod.length c]] [ro A (ints mod)] (isV (.int .i64 (chkF p m mod))) := by
  have hs1 := ((bShp_iff p m mod).1 hsh).1
  have hs2 := (bShp_iff p m mod).1 hsh
  refine pure_of (args := [.agg #[.int .i64 p, .int .i64 m, .slice A mod.length c]]) 16 Tryz.func103 rfl rfl rfl fld_CheckS_ent ⟨id, trivial⟩ (fun w0 => ?_)
  refine tr_seq ?_
  refine tr_region fun _ _ _ => ?_
  refine ef rfl rfl (eBox rfl rfl rfl rfl rfl (fun p0 => ?_)) 
  refine pu rfl rfl rfl rfl rfl ?_
  refine tr_seq ?_
  refine tr_seq ?_
  refine tr_draw [0, 1, 2, 3, 4, 5, 6, 7, 8, 9, 10, 11, 12] [] mixed (by kernel_rfl) fun _ _ _ => ?_
  refine st rfl rfl rfl rfl (rLdS rfl rfl rfl) ?_
  refine ef rfl rfl (eCallV rfl rfl rfl (fld_shape _ _ _ _ _ (by omega)) ⟨rfl, trivial⟩ ?_) 
  refine st rfl rfl rfl rfl (rNotB rfl rfl) ?_
  refine pu rfl rfl rfl rfl rfl ?_
  refine stT rfl rfl rfl (by simp [hsh]) rfl rfl (rLdS rfl rfl rfl) ?_
  refine stT rfl rfl rfl (by simp [hsh]) rfl rfl (rFld rfl rfl) ?_
  refine stT rfl rfl rfl (by simp [hsh]) rfl rfl (rLdF rfl rfl rfl) ?_
  refine stT rfl rfl rfl (by simp [hsh]) rfl rfl (rFld rfl rfl) ?_
  refine stT rfl rfl rfl (by simp [hsh]) rfl rfl (rLdF rfl rfl rfl) ?_
  refine efT rfl rfl rfl (by simp [hsh]) (eCallV rfl rfl rfl (fld_order _ _) ⟨rfl, rfl, trivial⟩ ?_) 
  refine efT rfl rfl rfl (by simp [hsh]) (eCall1 rfl rfl rfl (fld_gen _ _ _ _ _ hs1 _ hs1.ord) ⟨rfl, rfl, trivial⟩ ?_) 
  rintro _ _ ⟨B, l, cb, rfl, hl, hn, rfl⟩
  refine stT rfl rfl rfl (by simp [hsh]) rfl rfl (rNilS rfl rfl rfl) ?_
  refine st rfl rfl rfl rfl (rPick0 rfl rfl (by simp [hsh]) rfl) ?_
  refine tr_cond_bool rfl (fun h1 => ?_) (fun h1 => ?_)
  · try simp only [zbA] at h1
    refine tr_emptyI (A := B) (xs := l) (fun hemp => ?_)
    have hl0 := hemp h1
    refine tr_seq ?_
    refine tr_region fun _ _ _ => ?_
    refine pu rfl rfl rfl rfl rfl ?_
    rw [hl0] at hl
    exact tr_ret ⟨trivial, _, _, rfl, ⟨by rw [chkF_no fun h => hl.nil (fldN_iff.2 h).2], rfl⟩, CSub.nil _, trivial⟩
  · try simp only [zbA] at h1
    refine tr_skip ?_
    refine tr_seq ?_
    refine tr_region fun _ _ _ => ?_
    refine pu rfl rfl rfl rfl rfl ?_
    have hgn : l ≠ [] := fun h => by
      rw [hn h] at h1
      simp at h1
    have hF : FldR p m mod := fldN_iff.1 ⟨hs2, by
      rcases hl with ⟨x, h⟩ | h
      · exact ⟨x, l, h⟩
      · exact absurd h.1 hgn⟩
    exact tr_ret ⟨trivial, _, _, rfl, ⟨by rw [chkF_ok hF], rfl⟩, CSub.nil _, trivial⟩
theorem fld_Check (p m : Int) (A : Option Addr) (c : Nat) (mod : List Int) (hl9 : mod.length ≤ 17592186044415) : Pure Tryz.prog 103 #[.agg #[.int .i64 p, .int .i64 m, .slice A mod.length c]] [ro A (ints mod)] (isV (.int .i64 (chkF p m mod))) := by
  cases hsh : bShp p m mod with
  | true => exact fld_CheckS p m A c mod hl9 hsh
  | false =>
    have h := fld_CheckN p m A c mod hl9 hsh
    rwa [← chkF_no (p := p) (m := m) (mod := mod) (fun h => by rw [bShp_true h.1] at hsh; cases hsh)] at h
theorem spc_openE_ent : Enters Tryz.prog 110 := enters_of Tryz.func110 (by kernel_rfl) (by kernel_rfl)
theorem spc_openE (p m : Int) (A : Option Addr) (c : Nat) (mod : List Int) (hl9 : mod.length ≤ 17592186044415) [hF : IsF p m mod] (w : Int) (Aa : Option Addr) (n ca : Nat) (rs : List RowM) (hn : n = rs.length) (h9 : rs.length ≤ 17592186044415) (h8 : ∀ r ∈ rs, r.xs.length ≤ 17592186044415) (hE : rowsC (pw p m) w (xss rs) ≠ 0) :
    Pure Tryz.prog 110 #[.agg #[.int .i64 p, .int .i64 m, .slice A mod.length c], .agg #[.int .i64 w, .slice Aa n ca]] [ro A (ints mod), ro Aa (hdrs rs), rowsR rs] (isV (.tuple #[.agg #[.pointer none, .int .i64 0, .slice none 0 0, .slice none 0 0], .int .i64 (rowsC (pw p m) w (xss rs))])) := by
  refine pure_ofC (args := [.agg #[.int .i64 p, .int .i64 m, .slice A mod.length c], .agg #[.int .i64 w, .slice Aa n ca]]) 38 Tryz.func110 rfl rfl rfl spc_openE_ent ⟨id, id, id, trivial⟩ (fun w0 => ?_)
  refine tr_seq ?_
  refine tr_region fun _ _ _ => ?_
  refine ef rfl rfl (eBox rfl rfl rfl rfl rfl (fun p0 => ?_)) 
  refine ef rfl rfl (eBox rfl rfl rfl rfl rfl (fun p0a => ?_)) 
  refine ef rfl rfl (eAlloc rfl rfl rfl (fun p0b => ?_)) 
  refine pu rfl rfl rfl rfl rfl ?_
  refine tr_seq ?_
  refine tr_region fun _ _ _ => ?_
  refine st rfl rfl rfl rfl (rLdS rfl rfl rfl) ?_
  refine st rfl rfl rfl rfl (rLdS rfl rfl rfl) ?_
  refine ef rfl rfl (eCallV rfl rfl rfl (mat_CanonicalE _ _ _ _ _ hl9 w Aa _ ca rs hn h9 h8 hE) ⟨rfl, rfl, trivial⟩ ?_) 
  iterate 4 refine pu rfl rfl rfl rfl rfl ?_
  refine ef rfl rfl (eAlloc rfl rfl rfl (fun p1a => ?_)) 
  refine ef rfl rfl (eStS rfl rfl rfl rfl rfl rfl ?_) 
  iterate 2 refine pu rfl rfl rfl rfl rfl ?_
  refine tr_seq ?_
  refine tr_seq ?_
  refine tr_region fun _ _ _ => ?_
  iterate 2 refine pu rfl rfl rfl rfl rfl ?_
  refine tr_cond_bool rfl (fun h2 => ?_) (fun h2 => ?_)
  · try simp only [zbA] at h2
    refine tr_seq ?_
    refine tr_region fun _ _ _ => ?_
    refine st rfl rfl rfl rfl (rBuild rfl rfl) ?_
    refine pu rfl rfl rfl rfl rfl ?_
    refine ef rfl rfl (eStS rfl rfl rfl rfl rfl rfl ?_) 
    refine pu rfl rfl rfl rfl rfl ?_
    exact tr_ret ⟨trivial, _, _, (.cell rfl (cellS rfl) (.tmp rfl .nil)), ⟨rfl, rfl⟩, CSub.nil _, trivial⟩
  · try simp only [zbA] at h2
    omega --done
theorem spc_openF_ent : Enters Tryz.prog 110 := enters_of Tryz.func110 (by kernel_rfl) (by kernel_rfl)
theorem spc_openF (p m : Int) (A : Option Addr) (c : Nat) (mod : List Int) (hl9 : mod.length ≤ 17592186044415) [hF : IsF p m mod] (w : Int) (Aa : Option Addr) (n ca : Nat) (rs : List RowM) (hn : n = rs.length) (h9 : rs.length ≤ 17592186044415) (h8 : ∀ r ∈ rs, r.xs.length ≤ 17592186044415) (hE : rowsC (pw p m) w (xss rs) = 0) (hf : ¬ formP p m mod w.toNat rs) :
    Pure Tryz.prog 110 #[.agg #[.int .i64 p, .int .i64 m, .slice A mod.length c], .agg #[.int .i64 w, .slice Aa n ca]] [ro A (ints mod), ro Aa (hdrs rs), rowsR rs] (isV (.tuple #[.agg #[.pointer none, .int .i64 0, .slice none 0 0, .slice none 0 0], .int .i64 5])) := by
  obtain ⟨hgd, hw0, hw9, hr9⟩ := rowsC_Gd (p := p) (m := m) hE
  refine pure_ofC (args := [.agg #[.int .i64 p, .int .i64 m, .slice A mod.length c], .agg #[.int .i64 w, .slice Aa n ca]]) 38 Tryz.func110 rfl rfl rfl spc_openF_ent ⟨id, id, id, trivial⟩ (fun w0 => ?_)
  refine tr_seq ?_
  refine tr_region fun _ _ _ => ?_
  refine ef rfl rfl (eBox rfl rfl rfl rfl rfl (fun p0 => ?_)) 
  refine ef rfl rfl (eBox rfl rfl rfl rfl rfl (fun p0a => ?_)) 
  refine ef rfl rfl (eAlloc rfl rfl rfl (fun p0b => ?_)) 
  refine pu rfl rfl rfl rfl rfl ?_
  refine tr_seq ?_
  refine tr_region fun _ _ _ => ?_
  refine st rfl rfl rfl rfl (rLdS rfl rfl rfl) ?_
  refine st rfl rfl rfl rfl (rLdS rfl rfl rfl) ?_
  refine ef rfl rfl (eCall3 rfl rfl rfl (mat_CanonicalG _ _ _ _ _ hl9 w Aa _ ca rs hn h9 h8 hE) ⟨rfl, rfl, trivial⟩ ?_) 
  rintro _ _ _ _ ⟨B, r3, Bp, cp, ps, rfl, rfl, rfl, rfl, hR, hk⟩
  iterate 4 refine pu rfl rfl rfl rfl rfl ?_
  refine ef rfl rfl (eAlloc rfl rfl rfl (fun p1a => ?_)) 
  refine ef rfl rfl (eStS rfl rfl rfl rfl rfl rfl ?_) 
  iterate 2 refine pu rfl rfl rfl rfl rfl ?_
  refine tr_seq ?_
  refine tr_seq ?_
  refine tr_region fun _ _ _ => ?_
  iterate 2 refine pu rfl rfl rfl rfl rfl ?_
  refine tr_cond_bool rfl (fun h2 => ?_) (fun h2 => ?_)
  · try simp only [zbA] at h2
    first | exact absurd trivial h2 | exact absurd rfl h2 | omega | (exact absurd h2 (by simp)) --done
  · try simp only [zbA] at h2
    refine tr_skip ?_
    refine tr_seq ?_
    refine tr_seq ?_
    refine tr_region fun _ _ _ => ?_
    refine st rfl rfl rfl rfl (rFld rfl rfl) ?_
    refine st rfl rfl rfl rfl (rLdF rfl rfl rfl) ?_
    refine st rfl rfl rfl rfl (rFld rfl rfl) ?_
    refine st rfl rfl rfl rfl (rLdF rfl rfl rfl) ?_
    refine ef rfl rfl (eCallV rfl rfl rfl (slc_EqualFunc _ _ _ r3 rfl _ _ _ rs hn (by omega) (hR.good.h8 (by omega))) ⟨rfl, rfl, rfl, trivial⟩ ?_) 
    refine st rfl rfl rfl rfl (rNotB rfl rfl) ?_
    refine tr_cond_bool rfl (fun h4 => ?_) (fun h4 => ?_)
    · try simp only [zbA] at h4
      refine tr_seq ?_
      refine tr_region fun _ _ _ => ?_
      refine st rfl rfl rfl rfl (rBuild rfl rfl) ?_
      refine ef rfl rfl (eStS rfl rfl rfl rfl rfl rfl ?_) 
      refine pu rfl rfl rfl rfl rfl ?_
      exact tr_ret ⟨trivial, _, _, (.cell rfl (cellS rfl) (.tmp rfl .nil)), ⟨rfl, rfl⟩, CSub.nil _, trivial⟩
    · try simp only [zbA] at h4
      exact absurd ((hR.form_iff hgd).1 (by simpa using h4)) hf --done
theorem spc_openG_ent : Enters Tryz.prog 110 := enters_of Tryz.func110 (by kernel_rfl) (by kernel_rfl)
theorem spc_openG (p m : Int) (A : Option Addr) (c : Nat) (mod : List Int) (hl9 : mod.length ≤ 17592186044415) [hF : IsF p m mod] (w : Int) (Aa : Option Addr) (n ca : Nat) (rs : List RowM) (hn : n = rs.length) (h9 : rs.length ≤ 17592186044415) (h8 : ∀ r ∈ rs, r.xs.length ≤ 17592186044415) (hE : rowsC (pw p m) w (xss rs) = 0) (hf : formP p m mod w.toNat rs) :
    Pure Tryz.prog 110 #[.agg #[.int .i64 p, .int .i64 m, .slice A mod.length c], .agg #[.int .i64 w, .slice Aa n ca]] [ro A (ints mod), ro Aa (hdrs rs), rowsR rs] (two (fun v c1 c2 => ∃ (g : GfM) (Bp : Option Addr) (cp : Nat) (ps : List Int), v = .tuple #[.agg #[.pointer (some g.p), .int .i64 w, .slice Aa n ca, .slice Bp ps.length cp], .int .i64 0] ∧ c1 = gfN g ∧ c2 = ow Bp 3 cp (ints ps) ∧ GOk g p m mod ∧ ∃ qs, ps = qs.map Int.ofNat ∧ Vc.Rr w.toNat (vsR rs : List (Vc (El p m mod))) qs)) := by
  obtain ⟨hgd, hw0, hw9, hr9⟩ := rowsC_Gd (p := p) (m := m) hE
  refine pure_ofC (args := [.agg #[.int .i64 p, .int .i64 m, .slice A mod.length c], .agg #[.int .i64 w, .slice Aa n ca]]) 38 Tryz.func110 rfl rfl rfl spc_openG_ent ⟨id, id, id, trivial⟩ (fun w0 => ?_)
  refine tr_seq ?_
  refine tr_region fun _ _ _ => ?_
  refine ef rfl rfl (eBox rfl rfl rfl rfl rfl (fun p0 => ?_)) 
  refine ef rfl rfl (eBox rfl rfl rfl rfl rfl (fun p0a => ?_)) 
  refine ef rfl rfl (eAlloc rfl rfl rfl (fun p0b => ?_)) 
  refine pu rfl rfl rfl rfl rfl ?_
  refine tr_seq ?_
  refine tr_region fun _ _ _ => ?_
  refine st rfl rfl rfl rfl (rLdS rfl rfl rfl) ?_
  refine st rfl rfl rfl rfl (rLdS rfl rfl rfl) ?_
  refine ef rfl rfl (eCall3 rfl rfl rfl (mat_CanonicalG _ _ _ _ _ hl9 w Aa _ ca rs hn h9 h8 hE) ⟨rfl, rfl, trivial⟩ ?_) 
  rintro _ _ _ _ ⟨B, r3, Bp, cp, ps, rfl, rfl, rfl, rfl, hR, hk⟩
  iterate 4 refine pu rfl rfl rfl rfl rfl ?_
  refine ef rfl rfl (eAlloc rfl rfl rfl (fun p1a => ?_)) 
  refine ef rfl rfl (eStS rfl rfl rfl rfl rfl rfl ?_) 
  iterate 2 refine pu rfl rfl rfl rfl rfl ?_
  refine tr_seq ?_
  refine tr_seq ?_
  refine tr_region fun _ _ _ => ?_
  iterate 2 refine pu rfl rfl rfl rfl rfl ?_
  refine tr_cond_bool rfl (fun h2 => ?_) (fun h2 => ?_)
  · try simp only [zbA] at h2
    first | exact absurd trivial h2 | exact absurd rfl h2 | omega | (exact absurd h2 (by simp)) --done
  · try simp only [zbA] at h2
    refine tr_skip ?_
    refine tr_seq ?_
    refine tr_seq ?_
    refine tr_region fun _ _ _ => ?_
    refine st rfl rfl rfl rfl (rFld rfl rfl) ?_
    refine st rfl rfl rfl rfl (rLdF rfl rfl rfl) ?_
    refine st rfl rfl rfl rfl (rFld rfl rfl) ?_
    refine st rfl rfl rfl rfl (rLdF rfl rfl rfl) ?_
    refine ef rfl rfl (eCallV rfl rfl rfl (slc_EqualFunc _ _ _ r3 rfl _ _ _ rs hn (by omega) (hR.good.h8 (by omega))) ⟨rfl, rfl, rfl, trivial⟩ ?_) 
    refine st rfl rfl rfl rfl (rNotB rfl rfl) ?_
    refine tr_cond_bool rfl (fun h4 => ?_) (fun h4 => ?_)
    · try simp only [zbA] at h4
      exact absurd ((hR.form_iff hgd).2 hf) (by simpa using h4) --done
    · try simp only [zbA] at h4
      refine tr_skip ?_
      refine tr_seq ?_
      refine tr_region fun _ _ _ => ?_
      refine st rfl rfl rfl rfl (rLdS rfl rfl rfl) ?_
      refine ef rfl rfl (eCall1 rfl rfl rfl (fld_New_ok _ _ _ _ _ hl9 hF.out) ⟨rfl, trivial⟩ ?_) 
      rintro _ _ ⟨g, rfl, rfl, hg⟩
      iterate 5 refine pu rfl rfl rfl rfl rfl ?_
      refine tr_seq ?_
      refine tr_region fun _ _ _ => ?_
      refine pu rfl rfl rfl rfl rfl ?_
      refine st rfl rfl rfl rfl (rLdS rfl rfl rfl) ?_
      refine pu rfl rfl rfl rfl rfl ?_
      refine st rfl rfl rfl rfl (rBuild rfl rfl) ?_
      refine pu rfl rfl rfl rfl rfl ?_
      refine ef rfl rfl (eStS rfl rfl rfl rfl rfl rfl ?_) 
      refine pu rfl rfl rfl rfl rfl ?_
      have he := (hR.form_iff hgd).2 hf
      exact tr_ret ⟨trivial, _, _, (.cell rfl (cellS rfl) (.tmp rfl .nil)), ⟨_, _, rfl, g, Bp, cp, ps, rfl, rfl, rfl, hg, hR.piv he⟩, cs _ _, gfO_excl _ _ _, trivial, trivial⟩
theorem spc_CheckE_ent : Enters Tryz.prog 105 := enters_of Tryz.func105 (by kernel_rfl) (by kernel_rfl)
theorem spc_CheckE (p m : Int) (A : Option Addr) (c : Nat) (mod : List Int) (hl9 : mod.length ≤ 17592186044415) [hF : IsF p m mod] (w : Int) (Aa : Option Addr) (n ca : Nat) (rs : List RowM) (hn : n = rs.length) (h9 : rs.length ≤ 17592186044415) (h8 : ∀ r ∈ rs, r.xs.length ≤ 17592186044415) (hE : rowsC (pw p m) w (xss rs) ≠ 0) :
    Pure Tryz.prog 105 #[.agg #[.int .i64 p, .int .i64 m, .slice A mod.length c], .agg #[.int .i64 w, .slice Aa n ca]] [ro A (ints mod), ro Aa (hdrs rs), rowsR rs] (isV (.int .i64 (rowsC (pw p m) w (xss rs)))) := by
  refine pure_of (args := [.agg #[.int .i64 p, .int .i64 m, .slice A mod.length c], .agg #[.int .i64 w, .slice Aa n ca]]) 14 Tryz.func105 rfl rfl rfl spc_CheckE_ent ⟨id, id, id, trivial⟩ (fun w0 => ?_)
  refine tr_seq ?_
  refine tr_region fun _ _ _ => ?_
  refine ef rfl rfl (eBox rfl rfl rfl rfl rfl (fun p0 => ?_)) 
  refine ef rfl rfl (eBox rfl rfl rfl rfl rfl (fun p0a => ?_)) 
  refine pu rfl rfl rfl rfl rfl ?_
  refine tr_seq ?_
  refine tr_region fun _ _ _ => ?_
  refine st rfl rfl rfl rfl (rLdS rfl rfl rfl) ?_
  refine st rfl rfl rfl rfl (rLdS rfl rfl rfl) ?_
  refine ef rfl rfl (eCallV rfl rfl rfl (spc_openE _ _ _ _ _ hl9 w Aa _ ca rs hn h9 h8 hE) ⟨rfl, rfl, trivial⟩ ?_) 
  iterate 3 refine pu rfl rfl rfl rfl rfl ?_
  refine ef rfl rfl (eAlloc rfl rfl rfl (fun p1a => ?_)) 
  refine ef rfl rfl (eStS rfl rfl rfl rfl rfl rfl ?_) 
  refine pu rfl rfl rfl rfl rfl ?_
  refine tr_seq ?_
  refine tr_region fun _ _ _ => ?_
  iterate 2 refine pu rfl rfl rfl rfl rfl ?_
  exact tr_ret ⟨trivial, _, _, rfl, ⟨rfl, rfl⟩, CSub.nil _, trivial⟩
theorem spc_CheckF_ent : Enters Tryz.prog 105 := enters_of Tryz.func105 (by kernel_rfl) (by kernel_rfl)
theorem spc_CheckF (p m : Int) (A : Option Addr) (c : Nat) (mod : List Int) (hl9 : mod.length ≤ 17592186044415) [hF : IsF p m mod] (w : Int) (Aa : Option Addr) (n ca : Nat) (rs : List RowM) (hn : n = rs.length) (h9 : rs.length ≤ 17592186044415) (h8 : ∀ r ∈ rs, r.xs.length ≤ 17592186044415) (hE : rowsC (pw p m) w (xss rs) = 0) (hf : ¬ formP p m mod w.toNat rs) :
    Pure Tryz.prog 105 #[.agg #[.int .i64 p, .int .i64 m, .slice A mod.length c], .agg #[.int .i64 w, .slice Aa n ca]] [ro A (ints mod), ro Aa (hdrs rs), rowsR rs] (isV (.int .i64 5)) := by
  refine pure_of (args := [.agg #[.int .i64 p, .int .i64 m, .slice A mod.length c], .agg #[.int .i64 w, .slice Aa n ca]]) 14 Tryz.func105 rfl rfl rfl spc_CheckF_ent ⟨id, id, id, trivial⟩ (fun w0 => ?_)
  refine tr_seq ?_
  refine tr_region fun _ _ _ => ?_
  refine ef rfl rfl (eBox rfl rfl rfl rfl rfl (fun p0 => ?_)) 
  refine ef rfl rfl (eBox rfl rfl rfl rfl rfl (fun p0a => ?_)) 
  refine pu rfl rfl rfl rfl rfl ?_
  refine tr_seq ?_
  refine tr_region fun _ _ _ => ?_
  refine st rfl rfl rfl rfl (rLdS rfl rfl rfl) ?_
  refine st rfl rfl rfl rfl (rLdS rfl rfl rfl) ?_
  refine ef rfl rfl (eCallV rfl rfl rfl (spc_openF _ _ _ _ _ hl9 w Aa _ ca rs hn h9 h8 hE hf) ⟨rfl, rfl, trivial⟩ ?_) 
  iterate 3 refine pu rfl rfl rfl rfl rfl ?_
  refine ef rfl rfl (eAlloc rfl rfl rfl (fun p1a => ?_)) 
  refine ef rfl rfl (eStS rfl rfl rfl rfl rfl rfl ?_) 
  refine pu rfl rfl rfl rfl rfl ?_
  refine tr_seq ?_
  refine tr_region fun _ _ _ => ?_
  iterate 2 refine pu rfl rfl rfl rfl rfl ?_
  exact tr_ret ⟨trivial, _, _, rfl, ⟨rfl, rfl⟩, CSub.nil _, trivial⟩
theorem spc_CheckG_ent : Enters Tryz.prog 105 := enters_of Tryz.func105 (by kernel_rfl) (by kernel_rfl)
theorem spc_CheckG (p m : Int) (A : Option Addr) (c : Nat) (mod : List Int) (hl9 : mod.length ≤ 17592186044415) [hF : IsF p m mod] (w : Int) (Aa : Option Addr) (n ca : Nat) (rs : List RowM) (hn : n = rs.length) (h9 : rs.length ≤ 17592186044415) (h8 : ∀ r ∈ rs, r.xs.length ≤ 17592186044415) (hE : rowsC (pw p m) w (xss rs) = 0) (hf : formP p m mod w.toNat rs) :
    Pure Tryz.prog 105 #[.agg #[.int .i64 p, .int .i64 m, .slice A mod.length c], .agg #[.int .i64 w, .slice Aa n ca]] [ro A (ints mod), ro Aa (hdrs rs), rowsR rs] (isV (.int .i64 0)) := by
  refine pure_of (args := [.agg #[.int .i64 p, .int .i64 m, .slice A mod.length c], .agg #[.int .i64 w, .slice Aa n ca]]) 14 Tryz.func105 rfl rfl rfl spc_CheckG_ent ⟨id, id, id, trivial⟩ (fun w0 => ?_)
  refine tr_seq ?_
  refine tr_region fun _ _ _ => ?_
  refine ef rfl rfl (eBox rfl rfl rfl rfl rfl (fun p0 => ?_)) 
  refine ef rfl rfl (eBox rfl rfl rfl rfl rfl (fun p0a => ?_)) 
  refine pu rfl rfl rfl rfl rfl ?_
  refine tr_seq ?_
  refine tr_region fun _ _ _ => ?_
  refine st rfl rfl rfl rfl (rLdS rfl rfl rfl) ?_
  refine st rfl rfl rfl rfl (rLdS rfl rfl rfl) ?_
  refine ef rfl rfl (eCall2 rfl rfl rfl (spc_openG _ _ _ _ _ hl9 w Aa _ ca rs hn h9 h8 hE hf) ⟨rfl, rfl, trivial⟩ ?_) 
  rintro _ _ _ ⟨g, Bp, cp, ps, rfl, rfl, rfl, hg, hq⟩
  iterate 3 refine pu rfl rfl rfl rfl rfl ?_
  refine ef rfl rfl (eAlloc rfl rfl rfl (fun p1a => ?_)) 
  refine ef rfl rfl (eStS rfl rfl rfl rfl rfl rfl ?_) 
  refine pu rfl rfl rfl rfl rfl ?_
  refine tr_seq ?_
  refine tr_region fun _ _ _ => ?_
  iterate 2 refine pu rfl rfl rfl rfl rfl ?_
  exact tr_ret ⟨trivial, _, _, rfl, ⟨rfl, rfl⟩, CSub.nil _, trivial⟩
theorem code_gen_ent : Enters Tryz.prog 72 := enters_of Tryz.func72 (by kernel_rfl) (by kernel_rfl)
theorem code_gen (p m : Int) (A : Option Addr) (k c : Nat) (w : Int) (Aa : Option Addr) (n ca : Nat) :
    Pure Tryz.prog 72 #[.agg #[.int .i64 p, .int .i64 m, .slice A k c, .int .i64 w, .slice Aa n ca]] [] (isV (.agg #[.int .i64 w, .slice Aa n ca])) := by
  refine pure_ofC (args := [.agg #[.int .i64 p, .int .i64 m, .slice A k c, .int .i64 w, .slice Aa n ca]]) 8 Tryz.func72 rfl rfl rfl code_gen_ent trivial (fun w0 => ?_)
  refine tr_seq ?_
  refine tr_region fun _ _ _ => ?_
  refine ef rfl rfl (eBox rfl rfl rfl rfl rfl (fun p0 => ?_)) 
  refine ef rfl rfl (eAlloc rfl rfl rfl (fun p0a => ?_)) 
  refine tr_seq ?_
  refine tr_region fun _ _ _ => ?_
  refine st rfl rfl rfl rfl (rFld rfl rfl) ?_
  refine st rfl rfl rfl rfl (rLdF rfl rfl rfl) ?_
  refine st rfl rfl rfl rfl (rFld rfl rfl) ?_
  refine st rfl rfl rfl rfl (rLdF rfl rfl rfl) ?_
  refine st rfl rfl rfl rfl (rBuild rfl rfl) ?_
  refine ef rfl rfl (eStS rfl rfl rfl rfl rfl rfl ?_) 
  exact tr_ret ⟨trivial, _, _, (.cell rfl (cellS rfl) .nil), ⟨rfl, rfl⟩, CSub.nil _, trivial⟩
theorem code_lengthNo (n : Int) (h : n < 1 ∨ n > 64) : Pure Tryz.prog 104 #[.int .i64 n] [] (isV (.int .i64 4)) := by
  have := code_length n
  rwa [if_pos h] at this
theorem code_CheckNo_ent : Enters Tryz.prog 67 := enters_of Tryz.func67 (by kernel_rfl) (by kernel_rfl)
theorem code_CheckNo (p m : Int) (A : Option Addr) (c : Nat) (mod : List Int) (hl9 : mod.length ≤ 17592186044415) (hF : ¬ FldR p m mod) (w : Int) (Aa : Option Addr) (n ca : Nat) (rs : List RowM) (hn : n = rs.length) (h9 : rs.length ≤ 17592186044415) (h8 : ∀ r ∈ rs, r.xs.length ≤ 17592186044415) :
    Pure Tryz.prog 67 #[.agg #[.int .i64 p, .int .i64 m, .slice A mod.length c, .int .i64 w, .slice Aa n ca]] [ro A (ints mod), ro Aa (hdrs rs), rowsR rs] (isV (.int .i64 1)) := by
  have hch := chkF_no hF
  refine pure_of (args := [.agg #[.int .i64 p, .int .i64 m, .slice A mod.length c, .int .i64 w, .slice Aa n ca]]) 19 Tryz.func67 rfl rfl rfl code_CheckNo_ent ⟨id, id, id, trivial⟩ (fun w0 => ?_)
  refine tr_seq ?_
  refine tr_region fun _ _ _ => ?_
  refine ef rfl rfl (eBox rfl rfl rfl rfl rfl (fun p0 => ?_)) 
  refine pu rfl rfl rfl rfl rfl ?_
  refine tr_seq ?_
  refine tr_seq ?_
  refine tr_region fun _ _ _ => ?_
  refine st rfl rfl rfl rfl (rFld rfl rfl) ?_
  refine st rfl rfl rfl rfl (rLdSF rfl rfl) ?_
  refine ef rfl rfl (eCallV rfl rfl rfl (fld_Check _ _ _ _ _ hl9) ⟨rfl, trivial⟩ ?_) 
  refine pu rfl rfl rfl rfl rfl ?_
  refine tr_cond_bool rfl (fun h1 => ?_) (fun h1 => ?_)
  · try simp only [zbA] at h1
    refine tr_seq ?_
    refine tr_region fun _ _ _ => ?_
    refine pu rfl rfl rfl rfl rfl ?_
    exact tr_ret ⟨trivial, _, _, rfl, ⟨rfl, rfl⟩, CSub.nil _, trivial⟩
  · try simp only [zbA] at h1
    omega --done
theorem code_CheckL_ent : Enters Tryz.prog 67 := enters_of Tryz.func67 (by kernel_rfl) (by kernel_rfl)
theorem code_CheckL (p m : Int) (A : Option Addr) (c : Nat) (mod : List Int) (hl9 : mod.length ≤ 17592186044415) [hF : IsF p m mod] (w : Int) (Aa : Option Addr) (n ca : Nat) (rs : List RowM) (hn : n = rs.length) (h9 : rs.length ≤ 17592186044415) (h8 : ∀ r ∈ rs, r.xs.length ≤ 17592186044415) (hb : w < 1 ∨ w > 64) :
    Pure Tryz.prog 67 #[.agg #[.int .i64 p, .int .i64 m, .slice A mod.length c, .int .i64 w, .slice Aa n ca]] [ro A (ints mod), ro Aa (hdrs rs), rowsR rs] (isV (.int .i64 4)) := by
  have hch := chkF_ok hF.out
  refine pure_of (args := [.agg #[.int .i64 p, .int .i64 m, .slice A mod.length c, .int .i64 w, .slice Aa n ca]]) 19 Tryz.func67 rfl rfl rfl code_CheckL_ent ⟨id, id, id, trivial⟩ (fun w0 => ?_)
  refine tr_seq ?_
  refine tr_region fun _ _ _ => ?_
  refine ef rfl rfl (eBox rfl rfl rfl rfl rfl (fun p0 => ?_)) 
  refine pu rfl rfl rfl rfl rfl ?_
  refine tr_seq ?_
  refine tr_seq ?_
  refine tr_region fun _ _ _ => ?_
  refine st rfl rfl rfl rfl (rFld rfl rfl) ?_
  refine st rfl rfl rfl rfl (rLdSF rfl rfl) ?_
  refine ef rfl rfl (eCallV rfl rfl rfl (fld_Check _ _ _ _ _ hl9) ⟨rfl, trivial⟩ ?_) 
  refine pu rfl rfl rfl rfl rfl ?_
  refine tr_cond_bool rfl (fun h1 => ?_) (fun h1 => ?_)
  · try simp only [zbA] at h1
    omega --done
  · try simp only [zbA] at h1
    refine tr_skip ?_
    refine tr_seq ?_
    refine tr_seq ?_
    refine tr_region fun _ _ _ => ?_
    refine st rfl rfl rfl rfl (rFld rfl rfl) ?_
    refine st rfl rfl rfl rfl (rLdF rfl rfl rfl) ?_
    refine ef rfl rfl (eCallV rfl rfl rfl (code_lengthNo w hb) ⟨rfl, trivial⟩ ?_) 
    refine pu rfl rfl rfl rfl rfl ?_
    refine tr_seq ?_
    refine tr_region fun _ _ _ => ?_
    iterate 2 refine pu rfl rfl rfl rfl rfl ?_
    refine tr_cond_bool rfl (fun h4 => ?_) (fun h4 => ?_)
    · try simp only [zbA] at h4
      refine tr_seq ?_
      refine tr_region fun _ _ _ => ?_
      iterate 2 refine pu rfl rfl rfl rfl rfl ?_
      exact tr_ret ⟨trivial, _, _, rfl, ⟨rfl, rfl⟩, CSub.nil _, trivial⟩
    · try simp only [zbA] at h4
      first | exact absurd trivial h4 | exact absurd rfl h4 | omega | (exact absurd h4 (by simp)) --done
theorem code_CheckE_ent : Enters Tryz.prog 67 := enters_of Tryz.func67 (by kernel_rfl) (by kernel_rfl)
theorem code_CheckE (p m : Int) (A : Option Addr) (c : Nat) (mod : List Int) (hl9 : mod.length ≤ 17592186044415) [hF : IsF p m mod] (w : Int) (Aa : Option Addr) (n ca : Nat) (rs : List RowM) (hn : n = rs.length) (h9 : rs.length ≤ 17592186044415) (h8 : ∀ r ∈ rs, r.xs.length ≤ 17592186044415) (hb : ¬ (w < 1 ∨ w > 64)) (hE : rowsC (pw p m) w (xss rs) ≠ 0) :
    Pure Tryz.prog 67 #[.agg #[.int .i64 p, .int .i64 m, .slice A mod.length c, .int .i64 w, .slice Aa n ca]] [ro A (ints mod), ro Aa (hdrs rs), rowsR rs] (isV (.int .i64 (rowsC (pw p m) w (xss rs)))) := by
  have hch := chkF_ok hF.out
  refine pure_of (args := [.agg #[.int .i64 p, .int .i64 m, .slice A mod.length c, .int .i64 w, .slice Aa n ca]]) 19 Tryz.func67 rfl rfl rfl code_CheckE_ent ⟨id, id, id, trivial⟩ (fun w0 => ?_)
  refine tr_seq ?_
  refine tr_region fun _ _ _ => ?_
  refine ef rfl rfl (eBox rfl rfl rfl rfl rfl (fun p0 => ?_)) 
  refine pu rfl rfl rfl rfl rfl ?_
  refine tr_seq ?_
  refine tr_seq ?_
  refine tr_region fun _ _ _ => ?_
  refine st rfl rfl rfl rfl (rFld rfl rfl) ?_
  refine st rfl rfl rfl rfl (rLdSF rfl rfl) ?_
  refine ef rfl rfl (eCallV rfl rfl rfl (fld_Check _ _ _ _ _ hl9) ⟨rfl, trivial⟩ ?_) 
  refine pu rfl rfl rfl rfl rfl ?_
  refine tr_cond_bool rfl (fun h1 => ?_) (fun h1 => ?_)
  · try simp only [zbA] at h1
    omega --done
  · try simp only [zbA] at h1
    refine tr_skip ?_
    refine tr_seq ?_
    refine tr_seq ?_
    refine tr_region fun _ _ _ => ?_
    refine st rfl rfl rfl rfl (rFld rfl rfl) ?_
    refine st rfl rfl rfl rfl (rLdF rfl rfl rfl) ?_
    refine ef rfl rfl (eCallV rfl rfl rfl (code_lengthOk w (by omega) (by omega)) ⟨rfl, trivial⟩ ?_) 
    refine pu rfl rfl rfl rfl rfl ?_
    refine tr_seq ?_
    refine tr_region fun _ _ _ => ?_
    iterate 2 refine pu rfl rfl rfl rfl rfl ?_
    refine tr_cond_bool rfl (fun h4 => ?_) (fun h4 => ?_)
    · try simp only [zbA] at h4
      first | exact absurd trivial h4 | exact absurd rfl h4 | omega | (exact absurd h4 (by simp)) --done
    · try simp only [zbA] at h4
      refine tr_skip ?_
      refine tr_seq ?_
      refine tr_draw [0, 1, 2, 3, 4, 5] [] mixed (by kernel_rfl) fun _ _ _ => ?_
      refine st rfl rfl rfl rfl (rFld rfl rfl) ?_
      refine st rfl rfl rfl rfl (rLdSF rfl rfl) ?_
      refine st rfl rfl rfl rfl (rLdS rfl rfl rfl) ?_
      refine ef rfl rfl (eCallV rfl rfl rfl (code_gen _ _ _ _ _ _ _ _ _) ⟨rfl, trivial⟩ ?_) 
      refine ef rfl rfl (eCallV rfl rfl rfl (spc_CheckE _ _ _ _ _ hl9 w Aa _ ca rs hn h9 h8 hE) ⟨rfl, rfl, trivial⟩ ?_) 
      refine pu rfl rfl rfl rfl rfl ?_
      exact tr_ret ⟨trivial, _, _, rfl, ⟨rfl, rfl⟩, CSub.nil _, trivial⟩
theorem code_CheckF_ent : Enters Tryz.prog 67 := enters_of Tryz.func67 (by kernel_rfl) (by kernel_rfl)
theorem code_CheckF (p m : Int) (A : Option Addr) (c : Nat) (mod : List Int) (hl9 : mod.length ≤ 17592186044415) [hF : IsF p m mod] (w : Int) (Aa : Option Addr) (n ca : Nat) (rs : List RowM) (hn : n = rs.length) (h9 : rs.length ≤ 17592186044415) (h8 : ∀ r ∈ rs, r.xs.length ≤ 17592186044415) (hb : ¬ (w < 1 ∨ w > 64)) (hE : rowsC (pw p m) w (xss rs) = 0) (hf : ¬ formP p m mod w.toNat rs) :
    Pure Tryz.prog 67 #[.agg #[.int .i64 p, .int .i64 m, .slice A mod.length c, .int .i64 w, .slice Aa n ca]] [ro A (ints mod), ro Aa (hdrs rs), rowsR rs] (isV (.int .i64 5)) := by
  have hch := chkF_ok hF.out
  refine pure_of (args := [.agg #[.int .i64 p, .int .i64 m, .slice A mod.length c, .int .i64 w, .slice Aa n ca]]) 19 Tryz.func67 rfl rfl rfl code_CheckF_ent ⟨id, id, id, trivial⟩ (fun w0 => ?_)
  refine tr_seq ?_
  refine tr_region fun _ _ _ => ?_
  refine ef rfl rfl (eBox rfl rfl rfl rfl rfl (fun p0 => ?_)) 
  refine pu rfl rfl rfl rfl rfl ?_
  refine tr_seq ?_
  refine tr_seq ?_
  refine tr_region fun _ _ _ => ?_
  refine st rfl rfl rfl rfl (rFld rfl rfl) ?_
  refine st rfl rfl rfl rfl (rLdSF rfl rfl) ?_
  refine ef rfl rfl (eCallV rfl rfl rfl (fld_Check _ _ _ _ _ hl9) ⟨rfl, trivial⟩ ?_) 
  refine pu rfl rfl rfl rfl rfl ?_
  refine tr_cond_bool rfl (fun h1 => ?_) (fun h1 => ?_)
  · try simp only [zbA] at h1
    omega --done
  · try simp only [zbA] at h1
    refine tr_skip ?_
    refine tr_seq ?_
    refine tr_seq ?_
    refine tr_region fun _ _ _ => ?_
    refine st rfl rfl rfl rfl (rFld rfl rfl) ?_
    refine st rfl rfl rfl rfl (rLdF rfl rfl rfl) ?_
    refine ef rfl rfl (eCallV rfl rfl rfl (code_lengthOk w (by omega) (by omega)) ⟨rfl, trivial⟩ ?_) 
    refine pu rfl rfl rfl rfl rfl ?_
    refine tr_seq ?_
    refine tr_region fun _ _ _ => ?_
    iterate 2 refine pu rfl rfl rfl rfl rfl ?_
    refine tr_cond_bool rfl (fun h4 => ?_) (fun h4 => ?_)
    · try simp only [zbA] at h4
      first | exact absurd trivial h4 | exact absurd rfl h4 | omega | (exact absurd h4 (by simp)) --done
    · try simp only [zbA] at h4
      refine tr_skip ?_
      refine tr_seq ?_
      refine tr_draw [0, 1, 2, 3, 4, 5] [] mixed (by kernel_rfl) fun _ _ _ => ?_
      refine st rfl rfl rfl rfl (rFld rfl rfl) ?_
      refine st rfl rfl rfl rfl (rLdSF rfl rfl) ?_
      refine st rfl rfl rfl rfl (rLdS rfl rfl rfl) ?_
      refine ef rfl rfl (eCallV rfl rfl rfl (code_gen _ _ _ _ _ _ _ _ _) ⟨rfl, trivial⟩ ?_) 
      refine ef rfl rfl (eCallV rfl rfl rfl (spc_CheckF _ _ _ _ _ hl9 w Aa _ ca rs hn h9 h8 hE hf) ⟨rfl, rfl, trivial⟩ ?_) 
      refine pu rfl rfl rfl rfl rfl ?_
      exact tr_ret ⟨trivial, _, _, rfl, ⟨rfl, rfl⟩, CSub.nil _, trivial⟩
theorem code_CheckG_ent : Enters Tryz.prog 67 := enters_of Tryz.func67 (by kernel_rfl) (by kernel_rfl)
theorem code_CheckG (p m : Int) (A : Option Addr) (c : Nat) (mod : List Int) (hl9 : mod.length ≤ 17592186044415) [hF : IsF p m mod] (w : Int) (Aa : Option Addr) (n ca : Nat) (rs : List RowM) (hn : n = rs.length) (h9 : rs.length ≤ 17592186044415) (h8 : ∀ r ∈ rs, r.xs.length ≤ 17592186044415) (hb : ¬ (w < 1 ∨ w > 64)) (hE : rowsC (pw p m) w (xss rs) = 0) (hf : formP p m mod w.toNat rs) :
    Pure Tryz.prog 67 #[.agg #[.int .i64 p, .int .i64 m, .slice A mod.length c, .int .i64 w, .slice Aa n ca]] [ro A (ints mod), ro Aa (hdrs rs), rowsR rs] (isV (.int .i64 0)) := by
  have hch := chkF_ok hF.out
  refine pure_of (args := [.agg #[.int .i64 p, .int .i64 m, .slice A mod.length c, .int .i64 w, .slice Aa n ca]]) 19 Tryz.func67 rfl rfl rfl code_CheckG_ent ⟨id, id, id, trivial⟩ (fun w0 => ?_)
  refine tr_seq ?_
  refine tr_region fun _ _ _ => ?_
  refine ef rfl rfl (eBox rfl rfl rfl rfl rfl (fun p0 => ?_)) 
  refine pu rfl rfl rfl rfl rfl ?_
  refine tr_seq ?_
  refine tr_seq ?_
  refine tr_region fun _ _ _ => ?_
  refine st rfl rfl rfl rfl (rFld rfl rfl) ?_
  refine st rfl rfl rfl rfl (rLdSF rfl rfl) ?_
  refine ef rfl rfl (eCallV rfl rfl rfl (fld_Check _ _ _ _ _ hl9) ⟨rfl, trivial⟩ ?_) 
  refine pu rfl rfl rfl rfl rfl ?_
  refine tr_cond_bool rfl (fun h1 => ?_) (fun h1 => ?_)
  · try simp only [zbA] at h1
    omega --done
  · try simp only [zbA] at h1
    refine tr_skip ?_
    refine tr_seq ?_
    refine tr_seq ?_
    refine tr_region fun _ _ _ => ?_
    refine st rfl rfl rfl rfl (rFld rfl rfl) ?_
    refine st rfl rfl rfl rfl (rLdF rfl rfl rfl) ?_
    refine ef rfl rfl (eCallV rfl rfl rfl (code_lengthOk w (by omega) (by omega)) ⟨rfl, trivial⟩ ?_) 
    refine pu rfl rfl rfl rfl rfl ?_
    refine tr_seq ?_
    refine tr_region fun _ _ _ => ?_
    iterate 2 refine pu rfl rfl rfl rfl rfl ?_
    refine tr_cond_bool rfl (fun h4 => ?_) (fun h4 => ?_)
    · try simp only [zbA] at h4
      first | exact absurd trivial h4 | exact absurd rfl h4 | omega | (exact absurd h4 (by simp)) --done
    · try simp only [zbA] at h4
      refine tr_skip ?_
      refine tr_seq ?_
      refine tr_draw [0, 1, 2, 3, 4, 5] [] mixed (by kernel_rfl) fun _ _ _ => ?_
      refine st rfl rfl rfl rfl (rFld rfl rfl) ?_
      refine st rfl rfl rfl rfl (rLdSF rfl rfl) ?_
      refine st rfl rfl rfl rfl (rLdS rfl rfl rfl) ?_
      refine ef rfl rfl (eCallV rfl rfl rfl (code_gen _ _ _ _ _ _ _ _ _) ⟨rfl, trivial⟩ ?_) 
      refine ef rfl rfl (eCallV rfl rfl rfl (spc_CheckG _ _ _ _ _ hl9 w Aa _ ca rs hn h9 h8 hE hf) ⟨rfl, rfl, trivial⟩ ?_) 
      refine pu rfl rfl rfl rfl rfl ?_
      exact tr_ret ⟨trivial, _, _, rfl, ⟨rfl, rfl⟩, CSub.nil _, trivial⟩
theorem code_Check (p m : Int) (A : Option Addr) (c : Nat) (mod : List Int) (hl9 : mod.length ≤ 17592186044415) (w : Int) (Aa : Option Addr) (n ca : Nat) (rs : List RowM) (hn : n = rs.length) (h9 : rs.length ≤ 17592186044415) (h8 : ∀ r ∈ rs, r.xs.length ≤ 17592186044415) : Pure Tryz.prog 67 #[.agg #[.int .i64 p, .int .i64 m, .slice A mod.length c, .int .i64 w, .slice Aa n ca]] [ro A (ints mod), ro Aa (hdrs rs), rowsR rs] (isV (.int .i64 (codC p m mod w rs))) := by
  by_cases hF : FldR p m mod
  · haveI : IsF p m mod := ⟨hF⟩
    by_cases hb : w < 1 ∨ w > 64
    · rw [codC_ln hb]; exact code_CheckL p m A c mod hl9 w Aa n ca rs hn h9 h8 hb
    · by_cases hE : rowsC (pw p m) w (xss rs) = 0
      · by_cases hf : formP p m mod w.toNat rs
        · rw [codC_ok hb hE hf]; exact code_CheckG p m A c mod hl9 w Aa n ca rs hn h9 h8 hb hE hf
        · rw [codC_fm hb hE hf]; exact code_CheckF p m A c mod hl9 w Aa n ca rs hn h9 h8 hb hE hf
      · rw [codC_rw hb hE]; exact code_CheckE p m A c mod hl9 w Aa n ca rs hn h9 h8 hb hE
  · rw [codC_no w rs hF]; exact code_CheckNo p m A c mod hl9 hF w Aa n ca rs hn h9 h8
theorem ref_SCheckE_ent : Enters Tryz.prog 76 := enters_of Tryz.func76 (by kernel_rfl) (by kernel_rfl)
theorem ref_SCheckE (p m : Int) (A : Option Addr) (c : Nat) (mod : List Int) (hl9 : mod.length ≤ 17592186044415) [hF : IsF p m mod] (w : Int) (Aa : Option Addr) (n ca : Nat) (rs : List RowM) (hn : n = rs.length) (h9 : rs.length ≤ 17592186044415) (h8 : ∀ r ∈ rs, r.xs.length ≤ 17592186044415) (hE : rowsC (pw p m) w (xss rs) ≠ 0) :
    Pure Tryz.prog 76 #[.agg #[.int .i64 p, .int .i64 m, .slice A mod.length c], .agg #[.int .i64 w, .slice Aa n ca]] [ro A (ints mod), ro Aa (hdrs rs), rowsR rs] (isV (.int .i64 (rowsC (pw p m) w (xss rs)))) := by
  refine pure_of (args := [.agg #[.int .i64 p, .int .i64 m, .slice A mod.length c], .agg #[.int .i64 w, .slice Aa n ca]]) 28 Tryz.func76 rfl rfl rfl ref_SCheckE_ent ⟨id, id, id, trivial⟩ (fun w0 => ?_)
  refine tr_seq ?_
  refine tr_region fun _ _ _ => ?_
  refine ef rfl rfl (eBox rfl rfl rfl rfl rfl (fun p0 => ?_)) 
  refine ef rfl rfl (eBox rfl rfl rfl rfl rfl (fun p0a => ?_)) 
  refine pu rfl rfl rfl rfl rfl ?_
  refine tr_seq ?_
  refine tr_region fun _ _ _ => ?_
  refine st rfl rfl rfl rfl (rLdS rfl rfl rfl) ?_
  refine st rfl rfl rfl rfl (rLdS rfl rfl rfl) ?_
  refine ef rfl rfl (eCallV rfl rfl rfl (ref_RCheckOk _ _ _ _ _ hl9 hF.out (pw p m) hF.ord w Aa _ ca rs hn h9 h8) ⟨rfl, rfl, trivial⟩ ?_) 
  refine pu rfl rfl rfl rfl rfl ?_
  refine tr_seq ?_
  refine tr_seq ?_
  refine tr_region fun _ _ _ => ?_
  iterate 2 refine pu rfl rfl rfl rfl rfl ?_
  refine tr_cond_bool rfl (fun h2 => ?_) (fun h2 => ?_)
  · try simp only [zbA] at h2
    refine tr_seq ?_
    refine tr_region fun _ _ _ => ?_
    iterate 2 refine pu rfl rfl rfl rfl rfl ?_
    exact tr_ret ⟨trivial, _, _, rfl, ⟨rfl, rfl⟩, CSub.nil _, trivial⟩
  · try simp only [zbA] at h2
    omega --done
theorem ref_SCheckF_ent : Enters Tryz.prog 76 := enters_of Tryz.func76 (by kernel_rfl) (by kernel_rfl)
theorem ref_SCheckF (p m : Int) (A : Option Addr) (c : Nat) (mod : List Int) (hl9 : mod.length ≤ 17592186044415) [hF : IsF p m mod] (w : Int) (Aa : Option Addr) (n ca : Nat) (rs : List RowM) (hn : n = rs.length) (h9 : rs.length ≤ 17592186044415) (h8 : ∀ r ∈ rs, r.xs.length ≤ 17592186044415) (hE : rowsC (pw p m) w (xss rs) = 0) (hf : ¬ formP p m mod w.toNat rs) :
    Pure Tryz.prog 76 #[.agg #[.int .i64 p, .int .i64 m, .slice A mod.length c], .agg #[.int .i64 w, .slice Aa n ca]] [ro A (ints mod), ro Aa (hdrs rs), rowsR rs] (isV (.int .i64 5)) := by
  obtain ⟨hgd, hw0, hw9, hr9⟩ := rowsC_Gd (p := p) (m := m) hE
  refine pure_of (args := [.agg #[.int .i64 p, .int .i64 m, .slice A mod.length c], .agg #[.int .i64 w, .slice Aa n ca]]) 28 Tryz.func76 rfl rfl rfl ref_SCheckF_ent ⟨id, id, id, trivial⟩ (fun w0 => ?_)
  refine tr_seq ?_
  refine tr_region fun _ _ _ => ?_
  refine ef rfl rfl (eBox rfl rfl rfl rfl rfl (fun p0 => ?_)) 
  refine ef rfl rfl (eBox rfl rfl rfl rfl rfl (fun p0a => ?_)) 
  refine pu rfl rfl rfl rfl rfl ?_
  refine tr_seq ?_
  refine tr_region fun _ _ _ => ?_
  refine st rfl rfl rfl rfl (rLdS rfl rfl rfl) ?_
  refine st rfl rfl rfl rfl (rLdS rfl rfl rfl) ?_
  refine ef rfl rfl (eCallV rfl rfl rfl (ref_RCheckOk _ _ _ _ _ hl9 hF.out (pw p m) hF.ord w Aa _ ca rs hn h9 h8) ⟨rfl, rfl, trivial⟩ ?_) 
  refine pu rfl rfl rfl rfl rfl ?_
  refine tr_seq ?_
  refine tr_seq ?_
  refine tr_region fun _ _ _ => ?_
  iterate 2 refine pu rfl rfl rfl rfl rfl ?_
  refine tr_cond_bool rfl (fun h2 => ?_) (fun h2 => ?_)
  · try simp only [zbA] at h2
    omega --done
  · try simp only [zbA] at h2
    refine tr_skip ?_
    refine tr_seq ?_
    refine tr_region fun _ _ _ => ?_
    refine st rfl rfl rfl rfl (rLdS rfl rfl rfl) ?_
    refine st rfl rfl rfl rfl (rFld rfl rfl) ?_
    refine st rfl rfl rfl rfl (rLdF rfl rfl rfl) ?_
    refine st rfl rfl rfl rfl (rFld rfl rfl) ?_
    refine st rfl rfl rfl rfl (rLdF rfl rfl rfl) ?_
    refine ef rfl rfl (eCall3 rfl rfl rfl (ref_RCanon _ _ _ _ _ w hw0 (by omega) Aa _ ca rs hn (by omega) hgd) ⟨rfl, rfl, rfl, trivial⟩ ?_) 
    rintro _ _ _ _ ⟨r3, B, cg, Bp, cp, ps, rfl, rfl, rfl, rfl, hR, hk⟩
    iterate 5 refine pu rfl rfl rfl rfl rfl ?_
    refine tr_seq ?_
    refine tr_seq ?_
    refine tr_region fun _ _ _ => ?_
    refine pu rfl rfl rfl rfl rfl ?_
    refine st rfl rfl rfl rfl (rFld rfl rfl) ?_
    refine st rfl rfl rfl rfl (rLdF rfl rfl rfl) ?_
    refine ef rfl rfl (eCallV rfl rfl rfl (ref_SameRows _ _ _ r3 rfl _ _ _ rs hn (by omega) (hR.good.h8 (by omega))) ⟨rfl, rfl, trivial⟩ ?_) 
    refine st rfl rfl rfl rfl (rNotB rfl rfl) ?_
    refine tr_cond_bool rfl (fun h5 => ?_) (fun h5 => ?_)
    · try simp only [zbA] at h5
      refine tr_seq ?_
      refine tr_region fun _ _ _ => ?_
      refine pu rfl rfl rfl rfl rfl ?_
      exact tr_ret ⟨trivial, _, _, rfl, ⟨rfl, rfl⟩, CSub.nil _, trivial⟩
    · try simp only [zbA] at h5
      exact absurd ((hR.form_iff hgd).1 (by simpa [xss] using h5)) hf --done
theorem ref_SCheckG_ent : Enters Tryz.prog 76 := enters_of Tryz.func76 (by kernel_rfl) (by kernel_rfl)
theorem ref_SCheckG (p m : Int) (A : Option Addr) (c : Nat) (mod : List Int) (hl9 : mod.length ≤ 17592186044415) [hF : IsF p m mod] (w : Int) (Aa : Option Addr) (n ca : Nat) (rs : List RowM) (hn : n = rs.length) (h9 : rs.length ≤ 17592186044415) (h8 : ∀ r ∈ rs, r.xs.length ≤ 17592186044415) (hE : rowsC (pw p m) w (xss rs) = 0) (hf : formP p m mod w.toNat rs) :
    Pure Tryz.prog 76 #[.agg #[.int .i64 p, .int .i64 m, .slice A mod.length c], .agg #[.int .i64 w, .slice Aa n ca]] [ro A (ints mod), ro Aa (hdrs rs), rowsR rs] (isV (.int .i64 0)) := by
  obtain ⟨hgd, hw0, hw9, hr9⟩ := rowsC_Gd (p := p) (m := m) hE
  refine pure_of (args := [.agg #[.int .i64 p, .int .i64 m, .slice A mod.length c], .agg #[.int .i64 w, .slice Aa n ca]]) 28 Tryz.func76 rfl rfl rfl ref_SCheckG_ent ⟨id, id, id, trivial⟩ (fun w0 => ?_)
  refine tr_seq ?_
  refine tr_region fun _ _ _ => ?_
  refine ef rfl rfl (eBox rfl rfl rfl rfl rfl (fun p0 => ?_)) 
  refine ef rfl rfl (eBox rfl rfl rfl rfl rfl (fun p0a => ?_)) 
  refine pu rfl rfl rfl rfl rfl ?_
  refine tr_seq ?_
  refine tr_region fun _ _ _ => ?_
  refine st rfl rfl rfl rfl (rLdS rfl rfl rfl) ?_
  refine st rfl rfl rfl rfl (rLdS rfl rfl rfl) ?_
  refine ef rfl rfl (eCallV rfl rfl rfl (ref_RCheckOk _ _ _ _ _ hl9 hF.out (pw p m) hF.ord w Aa _ ca rs hn h9 h8) ⟨rfl, rfl, trivial⟩ ?_) 
  refine pu rfl rfl rfl rfl rfl ?_
  refine tr_seq ?_
  refine tr_seq ?_
  refine tr_region fun _ _ _ => ?_
  iterate 2 refine pu rfl rfl rfl rfl rfl ?_
  refine tr_cond_bool rfl (fun h2 => ?_) (fun h2 => ?_)
  · try simp only [zbA] at h2
    omega --done
  · try simp only [zbA] at h2
    refine tr_skip ?_
    refine tr_seq ?_
    refine tr_region fun _ _ _ => ?_
    refine st rfl rfl rfl rfl (rLdS rfl rfl rfl) ?_
    refine st rfl rfl rfl rfl (rFld rfl rfl) ?_
    refine st rfl rfl rfl rfl (rLdF rfl rfl rfl) ?_
    refine st rfl rfl rfl rfl (rFld rfl rfl) ?_
    refine st rfl rfl rfl rfl (rLdF rfl rfl rfl) ?_
    refine ef rfl rfl (eCall3 rfl rfl rfl (ref_RCanon _ _ _ _ _ w hw0 (by omega) Aa _ ca rs hn (by omega) hgd) ⟨rfl, rfl, rfl, trivial⟩ ?_) 
    rintro _ _ _ _ ⟨r3, B, cg, Bp, cp, ps, rfl, rfl, rfl, rfl, hR, hk⟩
    iterate 5 refine pu rfl rfl rfl rfl rfl ?_
    refine tr_seq ?_
    refine tr_seq ?_
    refine tr_region fun _ _ _ => ?_
    refine pu rfl rfl rfl rfl rfl ?_
    refine st rfl rfl rfl rfl (rFld rfl rfl) ?_
    refine st rfl rfl rfl rfl (rLdF rfl rfl rfl) ?_
    refine ef rfl rfl (eCallV rfl rfl rfl (ref_SameRows _ _ _ r3 rfl _ _ _ rs hn (by omega) (hR.good.h8 (by omega))) ⟨rfl, rfl, trivial⟩ ?_) 
    refine st rfl rfl rfl rfl (rNotB rfl rfl) ?_
    refine tr_cond_bool rfl (fun h5 => ?_) (fun h5 => ?_)
    · try simp only [zbA] at h5
      exact absurd ((hR.form_iff hgd).2 hf) (by simpa [xss] using h5) --done
    · try simp only [zbA] at h5
      refine tr_skip ?_
      refine tr_seq ?_
      refine tr_region fun _ _ _ => ?_
      refine pu rfl rfl rfl rfl rfl ?_
      exact tr_ret ⟨trivial, _, _, rfl, ⟨rfl, rfl⟩, CSub.nil _, trivial⟩
theorem ref_CCheckNo_ent : Enters Tryz.prog 37 := enters_of Tryz.func37 (by kernel_rfl) (by kernel_rfl)
theorem ref_CCheckNo (p m : Int) (A : Option Addr) (c : Nat) (mod : List Int) (hl9 : mod.length ≤ 17592186044415) (hF : ¬ FldR p m mod) (w : Int) (Aa : Option Addr) (n ca : Nat) (rs : List RowM) (hn : n = rs.length) (h9 : rs.length ≤ 17592186044415) (h8 : ∀ r ∈ rs, r.xs.length ≤ 17592186044415) :
    Pure Tryz.prog 37 #[.agg #[.int .i64 p, .int .i64 m, .slice A mod.length c, .int .i64 w, .slice Aa n ca]] [ro A (ints mod), ro Aa (hdrs rs), rowsR rs] (isV (.int .i64 1)) := by
  have hch := chkF_no hF
  refine pure_of (args := [.agg #[.int .i64 p, .int .i64 m, .slice A mod.length c, .int .i64 w, .slice Aa n ca]]) 26 Tryz.func37 rfl rfl rfl ref_CCheckNo_ent ⟨id, id, id, trivial⟩ (fun w0 => ?_)
  refine tr_seq ?_
  refine tr_region fun _ _ _ => ?_
  refine ef rfl rfl (eBox rfl rfl rfl rfl rfl (fun p0 => ?_)) 
  refine pu rfl rfl rfl rfl rfl ?_
  refine tr_seq ?_
  refine tr_region fun _ _ _ => ?_
  refine st rfl rfl rfl rfl (rFld rfl rfl) ?_
  refine st rfl rfl rfl rfl (rLdSF rfl rfl) ?_
  refine ef rfl rfl (eCallV rfl rfl rfl (ref_fldCheck _ _ _ _ _ hl9) ⟨rfl, trivial⟩ ?_) 
  refine pu rfl rfl rfl rfl rfl ?_
  refine tr_seq ?_
  refine tr_seq ?_
  refine tr_region fun _ _ _ => ?_
  iterate 2 refine pu rfl rfl rfl rfl rfl ?_
  refine tr_cond_bool rfl (fun h2 => ?_) (fun h2 => ?_)
  · try simp only [zbA] at h2
    refine tr_seq ?_
    refine tr_region fun _ _ _ => ?_
    iterate 2 refine pu rfl rfl rfl rfl rfl ?_
    exact tr_ret ⟨trivial, _, _, rfl, ⟨by rw [hch], rfl⟩, CSub.nil _, trivial⟩
  · try simp only [zbA] at h2
    omega --done
theorem ref_CCheckL_ent : Enters Tryz.prog 37 := enters_of Tryz.func37 (by kernel_rfl) (by kernel_rfl)
theorem ref_CCheckL (p m : Int) (A : Option Addr) (c : Nat) (mod : List Int) (hl9 : mod.length ≤ 17592186044415) [hF : IsF p m mod] (w : Int) (Aa : Option Addr) (n ca : Nat) (rs : List RowM) (hn : n = rs.length) (h9 : rs.length ≤ 17592186044415) (h8 : ∀ r ∈ rs, r.xs.length ≤ 17592186044415) (hb : w < 1 ∨ w > 64) :
    Pure Tryz.prog 37 #[.agg #[.int .i64 p, .int .i64 m, .slice A mod.length c, .int .i64 w, .slice Aa n ca]] [ro A (ints mod), ro Aa (hdrs rs), rowsR rs] (isV (.int .i64 4)) := by
  have hch := chkF_ok hF.out
  refine pure_of (args := [.agg #[.int .i64 p, .int .i64 m, .slice A mod.length c, .int .i64 w, .slice Aa n ca]]) 26 Tryz.func37 rfl rfl rfl ref_CCheckL_ent ⟨id, id, id, trivial⟩ (fun w0 => ?_)
  refine tr_seq ?_
  refine tr_region fun _ _ _ => ?_
  refine ef rfl rfl (eBox rfl rfl rfl rfl rfl (fun p0 => ?_)) 
  refine pu rfl rfl rfl rfl rfl ?_
  refine tr_seq ?_
  refine tr_region fun _ _ _ => ?_
  refine st rfl rfl rfl rfl (rFld rfl rfl) ?_
  refine st rfl rfl rfl rfl (rLdSF rfl rfl) ?_
  refine ef rfl rfl (eCallV rfl rfl rfl (ref_fldCheck _ _ _ _ _ hl9) ⟨rfl, trivial⟩ ?_) 
  refine pu rfl rfl rfl rfl rfl ?_
  refine tr_seq ?_
  refine tr_seq ?_
  refine tr_region fun _ _ _ => ?_
  iterate 2 refine pu rfl rfl rfl rfl rfl ?_
  refine tr_cond_bool rfl (fun h2 => ?_) (fun h2 => ?_)
  · try simp only [zbA] at h2
    omega --done
  · try simp only [zbA] at h2
    refine tr_skip ?_
    refine tr_seq ?_
    refine tr_seq ?_
    refine tr_region fun _ _ _ => ?_
    refine st rfl rfl rfl rfl (rFld rfl rfl) ?_
    refine st rfl rfl rfl rfl (rLdF rfl rfl rfl) ?_
    iterate 2 refine pu rfl rfl rfl rfl rfl ?_
    refine stg rfl rfl rfl rfl rfl (fun hb => by (have hq := hb; try simp only [zbA] at hq); exact rFld rfl rfl) ?_
    refine stg rfl rfl rfl rfl rfl (fun hb => by (have hq := hb; try simp only [zbA] at hq); exact rLdF rfl (evg rfl hb) rfl) ?_
    refine stg rfl rfl rfl rfl rfl (fun hb => by (have hq := hb; try simp only [zbA] at hq); exact rGtr rfl (evg rfl hb) rfl) ?_
    refine st rfl rfl rfl rfl (rOrB rfl rfl rfl rfl) ?_
    refine tr_cond_bool rfl (fun h4 => ?_) (fun h4 => ?_)
    · try simp only [zbA] at h4
      refine tr_seq ?_
      refine tr_region fun _ _ _ => ?_
      refine pu rfl rfl rfl rfl rfl ?_
      exact tr_ret ⟨trivial, _, _, rfl, ⟨rfl, rfl⟩, CSub.nil _, trivial⟩
    · try simp only [zbA] at h4
      omega --done
theorem ref_CCheckE_ent : Enters Tryz.prog 37 := enters_of Tryz.func37 (by kernel_rfl) (by kernel_rfl)
theorem ref_CCheckE (p m : Int) (A : Option Addr) (c : Nat) (mod : List Int) (hl9 : mod.length ≤ 17592186044415) [hF : IsF p m mod] (w : Int) (Aa : Option Addr) (n ca : Nat) (rs : List RowM) (hn : n = rs.length) (h9 : rs.length ≤ 17592186044415) (h8 : ∀ r ∈ rs, r.xs.length ≤ 17592186044415) (hb : ¬ (w < 1 ∨ w > 64)) (hE : rowsC (pw p m) w (xss rs) ≠ 0) :
    Pure Tryz.prog 37 #[.agg #[.int .i64 p, .int .i64 m, .slice A mod.length c, .int .i64 w, .slice Aa n ca]] [ro A (ints mod), ro Aa (hdrs rs), rowsR rs] (isV (.int .i64 (rowsC (pw p m) w (xss rs)))) := by
  have hch := chkF_ok hF.out
  refine pure_of (args := [.agg #[.int .i64 p, .int .i64 m, .slice A mod.length c, .int .i64 w, .slice Aa n ca]]) 26 Tryz.func37 rfl rfl rfl ref_CCheckE_ent ⟨id, id, id, trivial⟩ (fun w0 => ?_)
  refine tr_seq ?_
  refine tr_region fun _ _ _ => ?_
  refine ef rfl rfl (eBox rfl rfl rfl rfl rfl (fun p0 => ?_)) 
  refine pu rfl rfl rfl rfl rfl ?_
  refine tr_seq ?_
  refine tr_region fun _ _ _ => ?_
  refine st rfl rfl rfl rfl (rFld rfl rfl) ?_
  refine st rfl rfl rfl rfl (rLdSF rfl rfl) ?_
  refine ef rfl rfl (eCallV rfl rfl rfl (ref_fldCheck _ _ _ _ _ hl9) ⟨rfl, trivial⟩ ?_) 
  refine pu rfl rfl rfl rfl rfl ?_
  refine tr_seq ?_
  refine tr_seq ?_
  refine tr_region fun _ _ _ => ?_
  iterate 2 refine pu rfl rfl rfl rfl rfl ?_
  refine tr_cond_bool rfl (fun h2 => ?_) (fun h2 => ?_)
  · try simp only [zbA] at h2
    omega --done
  · try simp only [zbA] at h2
    refine tr_skip ?_
    refine tr_seq ?_
    refine tr_seq ?_
    refine tr_region fun _ _ _ => ?_
    refine st rfl rfl rfl rfl (rFld rfl rfl) ?_
    refine st rfl rfl rfl rfl (rLdF rfl rfl rfl) ?_
    iterate 2 refine pu rfl rfl rfl rfl rfl ?_
    refine stg rfl rfl rfl rfl rfl (fun hb => by (have hq := hb; try simp only [zbA] at hq); exact rFld rfl rfl) ?_
    refine stg rfl rfl rfl rfl rfl (fun hb => by (have hq := hb; try simp only [zbA] at hq); exact rLdF rfl (evg rfl hb) rfl) ?_
    refine stg rfl rfl rfl rfl rfl (fun hb => by (have hq := hb; try simp only [zbA] at hq); exact rGtr rfl (evg rfl hb) rfl) ?_
    refine st rfl rfl rfl rfl (rOrB rfl rfl rfl rfl) ?_
    refine tr_cond_bool rfl (fun h4 => ?_) (fun h4 => ?_)
    · try simp only [zbA] at h4
      omega --done
    · try simp only [zbA] at h4
      refine tr_skip ?_
      refine tr_seq ?_
      refine tr_region fun _ _ _ => ?_
      refine st rfl rfl rfl rfl (rFld rfl rfl) ?_
      refine st rfl rfl rfl rfl (rLdSF rfl rfl) ?_
      refine st rfl rfl rfl rfl (rFld rfl rfl) ?_
      refine st rfl rfl rfl rfl (rLdF rfl rfl rfl) ?_
      refine st rfl rfl rfl rfl (rFld rfl rfl) ?_
      refine st rfl rfl rfl rfl (rLdF rfl rfl rfl) ?_
      refine st rfl rfl rfl rfl (rBuild rfl rfl) ?_
      refine ef rfl rfl (eCallV rfl rfl rfl (ref_SCheckE _ _ _ _ _ hl9 w Aa _ ca rs hn h9 h8 hE) ⟨rfl, rfl, trivial⟩ ?_) 
      refine pu rfl rfl rfl rfl rfl ?_
      exact tr_ret ⟨trivial, _, _, rfl, ⟨rfl, rfl⟩, CSub.nil _, trivial⟩
theorem ref_CCheckF_ent : Enters Tryz.prog 37 := enters_of Tryz.func37 (by kernel_rfl) (by kernel_rfl)
theorem ref_CCheckF (p m : Int) (A : Option Addr) (c : Nat) (mod : List Int) (hl9 : mod.length ≤ 17592186044415) [hF : IsF p m mod] (w : Int) (Aa : Option Addr) (n ca : Nat) (rs : List RowM) (hn : n = rs.length) (h9 : rs.length ≤ 17592186044415) (h8 : ∀ r ∈ rs, r.xs.length ≤ 17592186044415) (hb : ¬ (w < 1 ∨ w > 64)) (hE : rowsC (pw p m) w (xss rs) = 0) (hf : ¬ formP p m mod w.toNat rs) :
    Pure Tryz.prog 37 #[.agg #[.int .i64 p, .int .i64 m, .slice A mod.length c, .int .i64 w, .slice Aa n ca]] [ro A (ints mod), ro Aa (hdrs rs), rowsR rs] (isV (.int .i64 5)) := by
  have hch := chkF_ok hF.out
  refine pure_of (args := [.agg #[.int .i64 p, .int .i64 m, .slice A mod.length c, .int .i64 w, .slice Aa n ca]]) 26 Tryz.func37 rfl rfl rfl ref_CCheckF_ent ⟨id, id, id, trivial⟩ (fun w0 => ?_)
  refine tr_seq ?_
  refine tr_region fun _ _ _ => ?_
  refine ef rfl rfl (eBox rfl rfl rfl rfl rfl (fun p0 => ?_)) 
  refine pu rfl rfl rfl rfl rfl ?_
  refine tr_seq ?_
  refine tr_region fun _ _ _ => ?_
  refine st rfl rfl rfl rfl (rFld rfl rfl) ?_
  refine st rfl rfl rfl rfl (rLdSF rfl rfl) ?_
  refine ef rfl rfl (eCallV rfl rfl rfl (ref_fldCheck _ _ _ _ _ hl9) ⟨rfl, trivial⟩ ?_) 
  refine pu rfl rfl rfl rfl rfl ?_
  refine tr_seq ?_
  refine tr_seq ?_
  refine tr_region fun _ _ _ => ?_
  iterate 2 refine pu rfl rfl rfl rfl rfl ?_
  refine tr_cond_bool rfl (fun h2 => ?_) (fun h2 => ?_)
  · try simp only [zbA] at h2
    omega --done
  · try simp only [zbA] at h2
    refine tr_skip ?_
    refine tr_seq ?_
    refine tr_seq ?_
    refine tr_region fun _ _ _ => ?_
    refine st rfl rfl rfl rfl (rFld rfl rfl) ?_
    refine st rfl rfl rfl rfl (rLdF rfl rfl rfl) ?_
    iterate 2 refine pu rfl rfl rfl rfl rfl ?_
    refine stg rfl rfl rfl rfl rfl (fun hb => by (have hq := hb; try simp only [zbA] at hq); exact rFld rfl rfl) ?_
    refine stg rfl rfl rfl rfl rfl (fun hb => by (have hq := hb; try simp only [zbA] at hq); exact rLdF rfl (evg rfl hb) rfl) ?_
    refine stg rfl rfl rfl rfl rfl (fun hb => by (have hq := hb; try simp only [zbA] at hq); exact rGtr rfl (evg rfl hb) rfl) ?_
    refine st rfl rfl rfl rfl (rOrB rfl rfl rfl rfl) ?_
    refine tr_cond_bool rfl (fun h4 => ?_) (fun h4 => ?_)
    · try simp only [zbA] at h4
      omega --done
    · try simp only [zbA] at h4
      refine tr_skip ?_
      refine tr_seq ?_
      refine tr_region fun _ _ _ => ?_
      refine st rfl rfl rfl rfl (rFld rfl rfl) ?_
      refine st rfl rfl rfl rfl (rLdSF rfl rfl) ?_
      refine st rfl rfl rfl rfl (rFld rfl rfl) ?_
      refine st rfl rfl rfl rfl (rLdF rfl rfl rfl) ?_
      refine st rfl rfl rfl rfl (rFld rfl rfl) ?_
      refine st rfl rfl rfl rfl (rLdF rfl rfl rfl) ?_
      refine st rfl rfl rfl rfl (rBuild rfl rfl) ?_
      refine ef rfl rfl (eCallV rfl rfl rfl (ref_SCheckF _ _ _ _ _ hl9 w Aa _ ca rs hn h9 h8 hE hf) ⟨rfl, rfl, trivial⟩ ?_) 
      refine pu rfl rfl rfl rfl rfl ?_
      exact tr_ret ⟨trivial, _, _, rfl, ⟨rfl, rfl⟩, CSub.nil _, trivial⟩
theorem ref_CCheckG_ent : Enters Tryz.prog 37 := enters_of Tryz.func37 (by kernel_rfl) (by kernel_rfl)
theorem ref_CCheckG (p m : Int) (A : Option Addr) (c : Nat) (mod : List Int) (hl9 : mod.length ≤ 17592186044415) [hF : IsF p m mod] (w : Int) (Aa : Option Addr) (n ca : Nat) (rs : List RowM) (hn : n = rs.length) (h9 : rs.length ≤ 17592186044415) (h8 : ∀ r ∈ rs, r.xs.length ≤ 17592186044415) (hb : ¬ (w < 1 ∨ w > 64)) (hE : rowsC (pw p m) w (xss rs) = 0) (hf : formP p m mod w.toNat rs) :
    Pure Tryz.prog 37 #[.agg #[.int .i64 p, .int .i64 m, .slice A mod.length c, .int .i64 w, .slice Aa n ca]] [ro A (ints mod), ro Aa (hdrs rs), rowsR rs] (isV (.int .i64 0)) := by
  have hch := chkF_ok hF.out
  refine pure_of (args := [.agg #[.int .i64 p, .int .i64 m, .slice A mod.length c, .int .i64 w, .slice Aa n ca]]) 26 Tryz.func37 rfl rfl rfl ref_CCheckG_ent ⟨id, id, id, trivial⟩ (fun w0 => ?_)
  refine tr_seq ?_
  refine tr_region fun _ _ _ => ?_
  refine ef rfl rfl (eBox rfl rfl rfl rfl rfl (fun p0 => ?_)) 
  refine pu rfl rfl rfl rfl rfl ?_
  refine tr_seq ?_
  refine tr_region fun _ _ _ => ?_
  refine st rfl rfl rfl rfl (rFld rfl rfl) ?_
  refine st rfl rfl rfl rfl (rLdSF rfl rfl) ?_
  refine ef rfl rfl (eCallV rfl rfl rfl (ref_fldCheck _ _ _ _ _ hl9) ⟨rfl, trivial⟩ ?_) 
  refine pu rfl rfl rfl rfl rfl ?_
  refine tr_seq ?_
  refine tr_seq ?_
  refine tr_region fun _ _ _ => ?_
  iterate 2 refine pu rfl rfl rfl rfl rfl ?_
  refine tr_cond_bool rfl (fun h2 => ?_) (fun h2 => ?_)
  · try simp only [zbA] at h2
    omega --done
  · try simp only [zbA] at h2
    refine tr_skip ?_
    refine tr_seq ?_
    refine tr_seq ?_
    refine tr_region fun _ _ _ => ?_
    refine st rfl rfl rfl rfl (rFld rfl rfl) ?_
    refine st rfl rfl rfl rfl (rLdF rfl rfl rfl) ?_
    iterate 2 refine pu rfl rfl rfl rfl rfl ?_
    refine stg rfl rfl rfl rfl rfl (fun hb => by (have hq := hb; try simp only [zbA] at hq); exact rFld rfl rfl) ?_
    refine stg rfl rfl rfl rfl rfl (fun hb => by (have hq := hb; try simp only [zbA] at hq); exact rLdF rfl (evg rfl hb) rfl) ?_
    refine stg rfl rfl rfl rfl rfl (fun hb => by (have hq := hb; try simp only [zbA] at hq); exact rGtr rfl (evg rfl hb) rfl) ?_
    refine st rfl rfl rfl rfl (rOrB rfl rfl rfl rfl) ?_
    refine tr_cond_bool rfl (fun h4 => ?_) (fun h4 => ?_)
    · try simp only [zbA] at h4
      omega --done
    · try simp only [zbA] at h4
      refine tr_skip ?_
      refine tr_seq ?_
      refine tr_region fun _ _ _ => ?_
      refine st rfl rfl rfl rfl (rFld rfl rfl) ?_
      refine st rfl rfl rfl rfl (rLdSF rfl rfl) ?_
      refine st rfl rfl rfl rfl (rFld rfl rfl) ?_
      refine st rfl rfl rfl rfl (rLdF rfl rfl rfl) ?_
      refine st rfl rfl rfl rfl (rFld rfl rfl) ?_
      refine st rfl rfl rfl rfl (rLdF rfl rfl rfl) ?_
      refine st rfl rfl rfl rfl (rBuild rfl rfl) ?_
      refine ef rfl rfl (eCallV rfl rfl rfl (ref_SCheckG _ _ _ _ _ hl9 w Aa _ ca rs hn h9 h8 hE hf) ⟨rfl, rfl, trivial⟩ ?_) 
      refine pu rfl rfl rfl rfl rfl ?_
      exact tr_ret ⟨trivial, _, _, rfl, ⟨rfl, rfl⟩, CSub.nil _, trivial⟩
theorem ref_CCheck (p m : Int) (A : Option Addr) (c : Nat) (mod : List Int) (hl9 : mod.length ≤ 17592186044415) (w : Int) (Aa : Option Addr) (n ca : Nat) (rs : List RowM) (hn : n = rs.length) (h9 : rs.length ≤ 17592186044415) (h8 : ∀ r ∈ rs, r.xs.length ≤ 17592186044415) : Pure Tryz.prog 37 #[.agg #[.int .i64 p, .int .i64 m, .slice A mod.length c, .int .i64 w, .slice Aa n ca]] [ro A (ints mod), ro Aa (hdrs rs), rowsR rs] (isV (.int .i64 (codC p m mod w rs))) := by
  by_cases hF : FldR p m mod
  · haveI : IsF p m mod := ⟨hF⟩
    by_cases hb : w < 1 ∨ w > 64
    · rw [codC_ln hb]; exact ref_CCheckL p m A c mod hl9 w Aa n ca rs hn h9 h8 hb
    · by_cases hE : rowsC (pw p m) w (xss rs) = 0
      · by_cases hf : formP p m mod w.toNat rs
        · rw [codC_ok hb hE hf]; exact ref_CCheckG p m A c mod hl9 w Aa n ca rs hn h9 h8 hb hE hf
        · rw [codC_fm hb hE hf]; exact ref_CCheckF p m A c mod hl9 w Aa n ca rs hn h9 h8 hb hE hf
      · rw [codC_rw hb hE]; exact ref_CCheckE p m A c mod hl9 w Aa n ca rs hn h9 h8 hb hE
  · rw [codC_no w rs hF]; exact ref_CCheckNo p m A c mod hl9 hF w Aa n ca rs hn h9 h8
end Go.Proofs.YtoalphamojhpcaaGreat

set_option linter.unusedSimpArgs false
set_option linter.unusedVariables false
set_option maxRecDepth 100000
namespace Go.Proofs.YtoalphamojhpcaaGreat
open Go.RowKit
theorem code_list1_ent : Enters Tryz.prog 153 := enters_of Tryz.func153 (by kernel_rfl) (by kernel_rfl)
theorem code_list1 (g : GfM) (x : Int) (pp : Addr) :
    Pure Tryz.prog 153 #[.int .i64 x, .pointer (some pp)] [ro (some pp) [.pointer (some g.p)], gfR g] (isV (.bool (!(decide (x ≥ 0) && decide (x < g.q))))) := by
  refine pure_of (args := [.int .i64 x, .pointer (some pp)]) 8 Tryz.func153 rfl rfl rfl code_list1_ent ⟨id, id, trivial⟩ (fun w0 => ?_)
  refine tr_seq ?_
  refine tr_region fun _ _ _ => ?_
  refine pu rfl rfl rfl rfl rfl ?_
  refine tr_seq ?_
  refine tr_region fun _ _ _ => ?_
  refine st rfl rfl rfl rfl (rLd0 rfl rfl) ?_
  refine pu rfl rfl rfl rfl rfl ?_
  refine ef rfl rfl (eCallV rfl rfl rfl (gf_Is g x) ⟨rfl, rfl, trivial⟩ ?_) 
  refine st rfl rfl rfl rfl (rNotB rfl rfl) ?_
  refine pu rfl rfl rfl rfl rfl ?_
  exact tr_ret ⟨trivial, _, _, rfl, ⟨rfl, rfl⟩, CSub.nil _, trivial⟩
theorem code_list_ent : Enters Tryz.prog 109 := enters_of Tryz.func109 (by kernel_rfl) (by kernel_rfl)
theorem code_list (p m : Int) (A : Option Addr) (c : Nat) (mod : List Int) [hF : IsF p m mod] (w : Int) (hw9 : w ≤ 1000000) (X : Option Addr) (nx cx : Nat) (l : List Int) (hnx : nx = l.length) (hlw : (l.length : Int) = w) (hin : AllIn (pw p m) l) :
    Pure Tryz.prog 109 #[.agg #[.int .i64 p, .int .i64 m, .slice A mod.length c], .slice X nx cx, .int .i64 w] [ro A (ints mod), ro X (ints l)] (isV (.int .i64 0)) := by
  have hl9 := hF.short
  refine pure_of (args := [.agg #[.int .i64 p, .int .i64 m, .slice A mod.length c], .slice X nx cx, .int .i64 w]) 24 Tryz.func109 rfl rfl rfl code_list_ent ⟨id, id, trivial⟩ (fun w0 => ?_)
  refine tr_seq ?_
  refine tr_region fun _ _ _ => ?_
  refine ef rfl rfl (eBox rfl rfl rfl rfl rfl (fun p0 => ?_)) 
  refine pu rfl rfl rfl rfl rfl ?_
  refine tr_seq ?_
  refine tr_seq ?_
  refine tr_region fun _ _ _ => ?_
  refine pu rfl rfl rfl rfl rfl ?_
  refine st rfl rfl rfl rfl (rLen rfl rfl) ?_
  iterate 2 refine pu rfl rfl rfl rfl rfl ?_
  refine tr_cond_bool rfl (fun h1 => ?_) (fun h1 => ?_)
  · try simp only [zbA] at h1
    omega --done
  · try simp only [zbA] at h1
    refine tr_skip ?_
    refine tr_seq ?_
    refine tr_region fun _ _ _ => ?_
    refine st rfl rfl rfl rfl (rLdS rfl rfl rfl) ?_
    refine ef rfl rfl (eCall1 rfl rfl rfl (fld_New_ok _ _ _ _ _ (by omega) hF.out) ⟨rfl, trivial⟩ ?_) 
    rintro _ _ ⟨g, rfl, rfl, hg⟩
    iterate 3 refine pu rfl rfl rfl rfl rfl ?_
    refine ef rfl rfl (eAlloc rfl rfl rfl (fun p3a => ?_)) 
    refine ef rfl rfl (eSt0 rfl rfl rfl rfl rfl rfl ?_) 
    refine pu rfl rfl rfl rfl rfl ?_
    refine tr_seq ?_
    refine tr_seq ?_
    refine tr_region fun _ _ _ => ?_
    iterate 2 refine pu rfl rfl rfl rfl rfl ?_
    refine tr_cond_bool rfl (fun h4 => ?_) (fun h4 => ?_)
    · try simp only [zbA] at h4
      first | exact absurd trivial h4 | exact absurd rfl h4 | omega | (exact absurd h4 (by simp)) --done
    · try simp only [zbA] at h4
      refine tr_skip ?_
      refine tr_seq ?_
      refine tr_seq ?_
      have hno : l.any (fun x => !(decide (x ≥ 0) && decide (x < g.q))) = false := by
        rw [List.any_eq_false]
        intro x hx
        have hb := hin x hx
        have heq := hg.eq
        simp; omega
      refine tr_region fun _ _ _ => ?_
      refine pu rfl rfl rfl rfl rfl ?_
      refine st rfl rfl rfl rfl (rFun rfl rfl rfl) ?_
      refine ef rfl rfl (eCallV rfl rfl rfl (slc_ContainsFunc X _ _ l hnx (by omega) _ [.pointer (some p3a)] [ro (some p3a) [.pointer (some g.p)], gfR g] _ (fun x hx => code_list1 g x p3a)) ⟨rfl, rfl, trivial⟩ ?_) 
      refine tr_cond_bool rfl (fun h6 => ?_) (fun h6 => ?_)
      · try simp only [zbA] at h6
        rw [hno] at h6; cases h6 --done
      · try simp only [zbA] at h6
        refine tr_skip ?_
        refine tr_seq ?_
        refine tr_region fun _ _ _ => ?_
        refine pu rfl rfl rfl rfl rfl ?_
        exact tr_ret ⟨trivial, _, _, rfl, ⟨rfl, rfl⟩, CSub.nil _, trivial⟩
theorem code_word_ent : Enters Tryz.prog 70 := enters_of Tryz.func70 (by kernel_rfl) (by kernel_rfl)
theorem code_word (p m : Int) (A : Option Addr) (c : Nat) (mod : List Int) [hF : IsF p m mod] (w : Int) (Aa : Option Addr) (n ca : Nat) (rs : List RowM) (hn : n = rs.length) (h9 : rs.length ≤ 256) (hc : CodeOk p m mod w rs) (X : Option Addr) (nx cx : Nat) (l : List Int) (hnx : nx = l.length) (hlw : (l.length : Int) = w) (hin : AllIn (pw p m) l) :
    Pure Tryz.prog 70 #[.agg #[.int .i64 p, .int .i64 m, .slice A mod.length c, .int .i64 w, .slice Aa n ca], .slice X nx cx] [ro A (ints mod), ro Aa (hdrs rs), rowsR rs, ro X (ints l)] (isV (.int .i64 0)) := by
  have hl9 := hF.short
  have hn1 := hc.n1
  have hn64 := hc.n64
  have hlen := hc.len
  have hgd := hc.good
  have h8 := hgd.h8 (N := 17592186044415) (by omega)
  have hck := hc.zero
  refine pure_of (args := [.agg #[.int .i64 p, .int .i64 m, .slice A mod.length c, .int .i64 w, .slice Aa n ca], .slice X nx cx]) 17 Tryz.func70 rfl rfl rfl code_word_ent ⟨id, id, id, id, trivial⟩ (fun w0 => ?_)
  refine tr_seq ?_
  refine tr_region fun _ _ _ => ?_
  refine ef rfl rfl (eBox rfl rfl rfl rfl rfl (fun p0 => ?_)) 
  refine pu rfl rfl rfl rfl rfl ?_
  refine tr_seq ?_
  refine tr_seq ?_
  refine tr_region fun _ _ _ => ?_
  refine st rfl rfl rfl rfl (rLdS rfl rfl rfl) ?_
  refine ef rfl rfl (eCallV rfl rfl rfl (code_Check _ _ _ _ _ (by omega) w Aa _ ca rs hn (by omega) h8) ⟨rfl, trivial⟩ ?_) 
  refine pu rfl rfl rfl rfl rfl ?_
  refine tr_seq ?_
  refine tr_region fun _ _ _ => ?_
  iterate 2 refine pu rfl rfl rfl rfl rfl ?_
  refine tr_cond_bool rfl (fun h2 => ?_) (fun h2 => ?_)
  · try simp only [zbA] at h2
    omega --done
  · try simp only [zbA] at h2
    refine tr_skip ?_
    refine tr_seq ?_
    refine tr_region fun _ _ _ => ?_
    refine st rfl rfl rfl rfl (rFld rfl rfl) ?_
    refine st rfl rfl rfl rfl (rLdSF rfl rfl) ?_
    refine pu rfl rfl rfl rfl rfl ?_
    refine st rfl rfl rfl rfl (rFld rfl rfl) ?_
    refine st rfl rfl rfl rfl (rLdF rfl rfl rfl) ?_
    refine ef rfl rfl (eCallV rfl rfl rfl (code_list _ _ _ _ _ w (by omega) X _ _ l hnx hlw hin) ⟨rfl, rfl, rfl, trivial⟩ ?_) 
    refine pu rfl rfl rfl rfl rfl ?_
    exact tr_ret ⟨trivial, _, _, rfl, ⟨rfl, rfl⟩, CSub.nil _, trivial⟩
theorem vw_word1_ent : Enters Tryz.prog 156 := enters_of Tryz.func156 (by kernel_rfl) (by kernel_rfl)
theorem vw_word1 (g : GfM) (w : Int) (Aa : Option Addr) (n ca : Nat) (Bp : Option Addr) (np cp : Nat) (x : Int) (pp : Addr) :
    Pure Tryz.prog 156 #[.int .i64 x, .pointer (some pp)] [ro (some pp) [.pointer (some g.p), .int .i64 w, .slice Aa n ca, .slice Bp np cp], gfR g] (isV (.bool (!(decide (x ≥ 0) && decide (x < g.q))))) := by
  refine pure_of (args := [.int .i64 x, .pointer (some pp)]) 9 Tryz.func156 rfl rfl rfl vw_word1_ent ⟨id, id, trivial⟩ (fun w0 => ?_)
  refine tr_seq ?_
  refine tr_region fun _ _ _ => ?_
  refine pu rfl rfl rfl rfl rfl ?_
  refine tr_seq ?_
  refine tr_region fun _ _ _ => ?_
  refine st rfl rfl rfl rfl (rFld rfl rfl) ?_
  refine st rfl rfl rfl rfl (rLdF rfl rfl rfl) ?_
  refine pu rfl rfl rfl rfl rfl ?_
  refine ef rfl rfl (eCallV rfl rfl rfl (gf_Is g x) ⟨rfl, rfl, trivial⟩ ?_) 
  refine st rfl rfl rfl rfl (rNotB rfl rfl) ?_
  refine pu rfl rfl rfl rfl rfl ?_
  exact tr_ret ⟨trivial, _, _, rfl, ⟨rfl, rfl⟩, CSub.nil _, trivial⟩
theorem vw_word_ent : Enters Tryz.prog 111 := enters_of Tryz.func111 (by kernel_rfl) (by kernel_rfl)
theorem vw_word (g : GfM) {p m : Int} {mod : List Int} [hF : IsF p m mod] (hg : GOk g p m mod) (w : Int) (Aa : Option Addr) (n ca : Nat) (rs : List RowM) (hn : n = rs.length) (h9 : rs.length ≤ 256) (hc : CodeOk p m mod w rs) (Bp : Option Addr) (np cp : Nat) (X : Option Addr) (nx cx : Nat) (l : List Int) (hnx : nx = l.length) (hlw : (l.length : Int) = w) (hin : AllIn (pw p m) l) :
    Pure Tryz.prog 111 #[.agg #[.pointer (some g.p), .int .i64 w, .slice Aa n ca, .slice Bp np cp], .slice X nx cx] [gfR g, ro X (ints l)] (isV (.int .i64 0)) := by
  have hl9 := hF.short
  have hn1 := hc.n1
  have hn64 := hc.n64
  have hlen := hc.len
  have hgd := hc.good
  have h8 := hgd.h8 (N := 17592186044415) (by omega)
  refine pure_of (args := [.agg #[.pointer (some g.p), .int .i64 w, .slice Aa n ca, .slice Bp np cp], .slice X nx cx]) 14 Tryz.func111 rfl rfl rfl vw_word_ent ⟨id, id, trivial⟩ (fun w0 => ?_)
  refine tr_seq ?_
  refine tr_region fun _ _ _ => ?_
  refine ef rfl rfl (eBox rfl rfl rfl rfl rfl (fun p0 => ?_)) 
  refine pu rfl rfl rfl rfl rfl ?_
  refine tr_seq ?_
  refine tr_seq ?_
  refine tr_region fun _ _ _ => ?_
  refine pu rfl rfl rfl rfl rfl ?_
  refine st rfl rfl rfl rfl (rLen rfl rfl) ?_
  refine st rfl rfl rfl rfl (rFld rfl rfl) ?_
  refine st rfl rfl rfl rfl (rFldN rfl rfl) ?_
  refine st rfl rfl rfl rfl (rLdF rfl rfl rfl) ?_
  refine pu rfl rfl rfl rfl rfl ?_
  refine tr_cond_bool rfl (fun h1 => ?_) (fun h1 => ?_)
  · try simp only [zbA] at h1
    omega --done
  · try simp only [zbA] at h1
    refine tr_skip ?_
    refine tr_seq ?_
    refine tr_seq ?_
    have hno : l.any (fun x => !(decide (x ≥ 0) && decide (x < g.q))) = false := by
      rw [List.any_eq_false]
      intro x hx
      have hb := hin x hx
      have heq := hg.eq
      simp; omega
    refine tr_region fun _ _ _ => ?_
    refine pu rfl rfl rfl rfl rfl ?_
    refine st rfl rfl rfl rfl (rFun rfl rfl rfl) ?_
    refine ef rfl rfl (eCallV rfl rfl rfl (slc_ContainsFunc X _ _ l hnx (by omega) _ [.pointer (some p0)] [ro (some p0) [.pointer (some g.p), .int .i64 w, .slice Aa n ca, .slice Bp np cp], gfR g] _ (fun x hx => vw_word1 g w Aa n ca Bp np cp x p0)) ⟨rfl, rfl, trivial⟩ ?_) 
    refine tr_cond_bool rfl (fun h3 => ?_) (fun h3 => ?_)
    · try simp only [zbA] at h3
      rw [hno] at h3; cases h3 --done
    · try simp only [zbA] at h3
      refine tr_skip ?_
      refine tr_seq ?_
      refine tr_region fun _ _ _ => ?_
      refine pu rfl rfl rfl rfl rfl ?_
      exact tr_ret ⟨trivial, _, _, rfl, ⟨rfl, rfl⟩, CSub.nil _, trivial⟩
theorem vw_reduce_ent : Enters Tryz.prog 157 := enters_of Tryz.func157 (by kernel_rfl) (by kernel_rfl)
theorem vw_reduce (g : GfM) {p m : Int} {mod : List Int} [hF : IsF p m mod] (hg : GOk g p m mod) (w : Int) (Aa : Option Addr) (n ca : Nat) (rs : List RowM) (hn : n = rs.length) (h9 : rs.length ≤ 256) (hc : CodeOk p m mod w rs) (Bp : Option Addr) (np cp : Nat) (ps : List Int) (hnp : np = ps.length) (qs : List Nat) (hq : Vc.Rr w.toNat (vsR rs : List (Vc (El p m mod))) qs) (hps : ps = qs.map Int.ofNat) (X : Option Addr) (nx cx : Nat) (l : List Int) (hnx : nx = l.length) (hlw : (l.length : Int) = w) (hin : AllIn (pw p m) l) :
    Pure Tryz.prog 157 #[.agg #[.pointer (some g.p), .int .i64 w, .slice Aa n ca, .slice Bp np cp], .slice X nx cx] [gfR g, ro Aa (hdrs rs), rowsR rs, ro Bp (ints ps), ro X (ints l)] (two (fun v c1 c2 => ∃ B cb o D cd tk, v = .tuple #[.slice B o.length cb, .slice D tk.length cd] ∧ c1 = ow B 3 cb (ints o) ∧ c2 = ow D 3 cd (ints tk) ∧ o.length = l.length ∧ AllIn (pw p m) o ∧ (rw' o : Vc (El p m mod)) = rw' l - Vc.cmb (fun i => rw' l (qs.getD i 0)) (vsR rs) ∧ tk = qs.map (fun i => l.getD i 0))) := by
  have hl9 := hF.short
  have hn1 := hc.n1
  have hn64 := hc.n64
  have hlen := hc.len
  have hgd := hc.good
  have h8 := hgd.h8 (N := 17592186044415) (by omega)
  have hql := hq.len
  rw [vsR_length] at hql
  have hpl : ps.length = qs.length := by rw [hps, List.length_map]
  have hq2 := hF.q2
  refine pure_of (args := [.agg #[.pointer (some g.p), .int .i64 w, .slice Aa n ca, .slice Bp np cp], .slice X nx cx]) 62 Tryz.func157 rfl rfl rfl vw_reduce_ent ⟨id, id, id, id, id, trivial⟩ (fun w0 => ?_)
  refine tr_seq ?_
  refine tr_region fun _ _ _ => ?_
  refine ef rfl rfl (eBox rfl rfl rfl rfl rfl (fun p0 => ?_)) 
  iterate 2 refine pu rfl rfl rfl rfl rfl ?_
  refine tr_seq ?_
  subst hnx
  refine tr_region fun _ _ _ => ?_
  refine pu rfl rfl rfl rfl rfl ?_
  refine ef rfl rfl (eCall1 rfl rfl rfl (slc_Clone X cx l (by omega)) ⟨rfl, trivial⟩ ?_) 
  rintro _ _ ⟨B1, c1, rfl, rfl⟩
  refine pu rfl rfl rfl rfl rfl ?_
  refine tr_seq ?_
  refine tr_seq ?_
  refine tr_region fun _ _ _ => ?_
  refine st rfl rfl rfl rfl (rFld rfl rfl) ?_
  refine st rfl rfl rfl rfl (rLdF rfl rfl rfl) ?_
  refine st rfl rfl rfl rfl (rLen rfl rfl) ?_
  refine pu rfl rfl rfl rfl rfl ?_
  refine tr_block ?_
  refine tr_nilI 3 ?_
  refine tr_loop5 (fun (k : Int) (o : List Int) (D : Option Addr) (cd : Nat) (tk : List Int) => [(4, .slice B1 l.length c1), (5, .slice D tk.length cd), (14, .slice Bp np cp), (15, .int .i64 np), (16, .int .i64 k), (2, .pointer (some p0))]) (fun (k : Int) (o : List Int) (D : Option Addr) (cd : Nat) (tk : List Int) => [ow B1 3 c1 (ints o), ow D 3 cd (ints tk), blk p0 142 [.pointer (some g.p), .int .i64 w, .slice Aa n ca, .slice Bp np cp], gfR g, ro Aa (hdrs rs), rowsR rs, ro Bp (ints ps), ro X (ints l)]) (fun (k : Int) (o : List Int) (D : Option Addr) (cd : Nat) (tk : List Int) => (0 ≤ k ∧ k ≤ np) ∧ (o.length = l.length ∧ AllIn (pw p m) o) ∧ (rw' o : Vc (El p m mod)) = rw' l - Vc.cmb (Vc.upC (fun i => rw' l (qs.getD i 0)) k.toNat) (vsR rs) ∧ tk = (qs.take k.toNat).map (fun i => l.getD i 0)) (fun (k : Int) (o : List Int) (D : Option Addr) (cd : Nat) (tk : List Int) => (np - k).toNat) (0) (l) (none) (0) ([]) ⟨rfl, rfl, rfl, rfl, rfl, rfl, trivial⟩ (by first | exact cs _ _ | exact CSub.refl _) (⟨⟨by omega, by omega⟩, ⟨rfl, hin⟩, by rw [Int.toNat_zero, Vc.cmb_up_zero]; exact Vc.ext fun j => by rw [Vc.sub_at, Vc.zero_at]; grind, rfl⟩) (fun k o D cd tk hI => ?_)
  obtain ⟨⟨hk0, hk1⟩, ⟨hol, hoi⟩, hoe, htk⟩ := hI
  have htl : tk.length ≤ 64 := by rw [htk, List.length_map, List.length_take]; omega
  refine tr_seq ?_
  refine tr_region fun _ _ _ => ?_
  refine pu rfl rfl rfl rfl rfl ?_
  refine tr_seq ?_
  refine tr_cond_bool rfl (fun h3 => ?_) (fun h3 => ?_)
  · try simp only [zbA] at h3
    refine tr_skip ?_
    refine tr_seq ?_
    refine tr_block ?_
    refine tr_seq ?_
    refine tr_region fun _ _ _ => ?_
    refine pu rfl rfl rfl rfl rfl ?_
    refine st rfl rfl rfl rfl (rIdxI rfl rfl rfl (by omega) (by omega) (by omega)) ?_
    refine st rfl rfl rfl rfl (rLdI rfl rfl (by omega)) ?_
    iterate 2 refine pu rfl rfl rfl rfl rfl ?_
    refine tr_seq ?_
    have hpk : ps.getD k.toNat 0 = (qs.getD k.toNat 0 : Int) := by rw [hps, ofNat_getD]
    have hqk := hq.lt k.toNat (by omega)
    haveI : InB k.toNat rs.length := ⟨by omega⟩
    have hgk := hgd.get (show k.toNat < rs.length by omega)
    have hgk1 := hgk.1
    simp only [hpk]
    refine tr_region fun _ _ _ => ?_
    iterate 2 refine pu rfl rfl rfl rfl rfl ?_
    refine st rfl rfl rfl rfl (rIdxI rfl rfl rfl (by omega) (by omega) (by omega)) ?_
    refine st rfl rfl rfl rfl (rLdI rfl rfl (by omega)) ?_
    refine pu rfl rfl rfl rfl rfl ?_
    refine tr_seq ?_
    have hyk : o.getD (qs.getD k.toNat 0 : Int).toNat 0 = l.getD (qs.getD k.toNat 0) 0 := by
      have e : (el (o.getD (qs.getD k.toNat 0) 0) : El p m mod) = el (l.getD (qs.getD k.toNat 0) 0) := by
        have := congrFun hoe (qs.getD k.toNat 0)
        rw [Vc.sub_at, hq.up_at _ (by omega)] at this
        rw [rw_at, rw_at] at this
        rw [this]; grind
      rw [Int.toNat_natCast]
      exact el_inj (p := p) (m := m) (mod := mod) (hoi.get (by omega) _) (hin.get (by omega) _) e
    simp only [hyk]
    refine tr_region fun _ _ _ => ?_
    iterate 2 refine pu rfl rfl rfl rfl rfl ?_
    refine ef rfl rfl (eLit1I rfl rfl rfl rfl (fun A6 => ?_)) 
    refine ef rfl rfl (eAppI rfl rfl rfl rfl rfl (by first | rfl | simp | omega) (by first | rfl | simp | omega) (by first | omega | (simp; omega)) (fun A6a c6a => ?_)) 
    refine pu rfl rfl rfl rfl rfl ?_
    refine tr_seq ?_
    refine tr_region fun _ _ _ => ?_
    iterate 2 refine pu rfl rfl rfl rfl rfl ?_
    refine tr_cond_bool rfl (fun h7 => ?_) (fun h7 => ?_)
    · try simp only [zbA] at h7
      refine tr_seq ?_
      refine tr_region fun _ _ _ => ?_
      refine st rfl rfl rfl rfl (rFld rfl rfl) ?_
      refine st rfl rfl rfl rfl (rFldN rfl rfl) ?_
      refine st rfl rfl rfl rfl (rLdF rfl rfl rfl) ?_
      refine pu rfl rfl rfl rfl rfl ?_
      refine st rfl rfl rfl rfl (rIdxR rfl rfl rfl (by omega) (by omega) (by omega)) ?_
      refine st rfl rfl rfl rfl (rLdR rfl rfl (by omega)) ?_
      refine st rfl rfl rfl rfl (rLen rfl rfl) ?_
      refine pu rfl rfl rfl rfl rfl ?_
      refine tr_block ?_
      refine tr_loop2 (fun (j : Int) (o2 : List Int) => [(36, .slice (rs.getD k.toNat rowD).A (rs.getD k.toNat rowD).xs.length (rs.getD k.toNat rowD).cap), (37, .int .i64 (rs.getD k.toNat rowD).xs.length), (38, .int .i64 j), (8, .int .i64 (l.getD (qs.getD k.toNat 0) 0)), (5, .slice A6a (tk ++ [l.getD (qs.getD k.toNat 0) 0]).length c6a), (4, .slice B1 l.length c1), (2, .pointer (some p0)), (6, .int .i64 k), (14, .slice Bp np cp), (15, .int .i64 np), (16, .int .i64 k), (18, .int .i64 k), (21, .slice B1 l.length c1), (25, .slice D tk.length cd), (33, .slice Aa n ca), (34, .int .i64 k)]) (fun (j : Int) (o2 : List Int) => [ow B1 3 c1 (ints o2), ow A6a 3 c6a (ints (tk ++ [l.getD (qs.getD k.toNat 0) 0])), blk p0 142 [.pointer (some g.p), .int .i64 w, .slice Aa n ca, .slice Bp np cp], gfR g, ro Aa (hdrs rs), rowsR rs, ro Bp (ints ps), ro X (ints l)]) (fun (j : Int) (o2 : List Int) => (0 ≤ j ∧ j ≤ (rs.getD k.toNat rowD).xs.length) ∧ (o2.length = l.length ∧ AllIn (pw p m) o2) ∧ ∀ t : Nat, (el (o2.getD t 0) : El p m mod) = if (t : Int) < j then el (o.getD t 0) - el (l.getD (qs.getD k.toNat 0) 0) * el ((rs.getD k.toNat rowD).xs.getD t 0) else el (o.getD t 0)) (fun (j : Int) (o2 : List Int) => ((rs.getD k.toNat rowD).xs.length - j).toNat) (0) (o) ⟨rfl, rfl, rfl, rfl, rfl, rfl, rfl, rfl, rfl, rfl, rfl, rfl, rfl, rfl, rfl, rfl, trivial⟩ (by first | exact cs _ _ | exact CSub.refl _) (⟨⟨by omega, by omega⟩, ⟨hol, hoi⟩, fun t => by rw [if_neg (by omega)]⟩) (fun j o2 hI => ?_)
      obtain ⟨⟨hj0, hj1⟩, ⟨hol2, ho3⟩, hoj⟩ := hI
      refine tr_seq ?_
      refine tr_region fun _ _ _ => ?_
      refine pu rfl rfl rfl rfl rfl ?_
      refine tr_seq ?_
      refine tr_cond_bool rfl (fun h9 => ?_) (fun h9 => ?_)
      · try simp only [zbA] at h9
        refine tr_skip ?_
        refine tr_seq ?_
        refine tr_block ?_
        refine tr_seq ?_
        refine tr_region fun _ _ _ => ?_
        refine pu rfl rfl rfl rfl rfl ?_
        refine st rfl rfl rfl rfl (rIdxI rfl rfl rfl (by omega) (by omega) (by omega)) ?_
        refine st rfl rfl rfl rfl (rLdI rfl rfl (by omega)) ?_
        iterate 2 refine pu rfl rfl rfl rfl rfl ?_
        have hbo := ho3.get (by omega) j.toNat
        refine tr_draw [0, 1, 2, 3, 4, 5, 6, 7, 8, 9, 10, 11, 12, 13, 14] [15] mixed (by kernel_rfl) fun _ _ _ => ?_
        iterate 2 refine pu rfl rfl rfl rfl rfl ?_
        refine st rfl rfl rfl rfl (rFld rfl rfl) ?_
        refine st rfl rfl rfl rfl (rLdF rfl rfl rfl) ?_
        iterate 2 refine pu rfl rfl rfl rfl rfl ?_
        refine st rfl rfl rfl rfl (rIdxI rfl rfl rfl (by omega) (by omega) (by omega)) ?_
        refine st rfl rfl rfl rfl (rLdI rfl rfl (by omega)) ?_
        refine st rfl rfl rfl rfl (rFld rfl rfl) ?_
        refine st rfl rfl rfl rfl (rLdF rfl rfl rfl) ?_
        iterate 2 refine pu rfl rfl rfl rfl rfl ?_
        refine ef rfl rfl (eCallV rfl rfl rfl (gf_MulE g hg _ _) ⟨rfl, rfl, rfl, trivial⟩ ?_) 
        refine ef rfl rfl (eCallV rfl rfl rfl (gf_SubE g hg _ _) ⟨rfl, rfl, rfl, trivial⟩ ?_) 
        refine st rfl rfl rfl rfl (rIdxI rfl rfl rfl (by omega) (by omega) (by omega)) ?_
        refine ef rfl rfl (eStI rfl rfl rfl rfl (by omega) ?_) 
        refine tr_region fun _ _ _ => ?_
        refine st rfl rfl rfl rfl (rAdd rfl rfl rfl (by omega) (by omega)) ?_
        refine pu rfl rfl rfl rfl rfl ?_
        refine ⟨j + 1, o2.set j.toNat (el (o2.getD j.toNat 0) - el (el (l.getD (qs.getD k.toNat 0) 0) * el ((rs.getD k.toNat rowD).xs.getD j.toNat 0) : El p m mod).1 : El p m mod).1, ⟨rfl, rfl, rfl, rfl, rfl, rfl, rfl, rfl, rfl, rfl, rfl, rfl, rfl, rfl, rfl, rfl, trivial⟩, by first | exact cs _ _ | exact CSub.refl _, ?_⟩
        refine ⟨⟨⟨by omega, by omega⟩, ⟨by simpa using hol2, ho3.set (El.bd _) _⟩, fun t => ?_⟩, by omega⟩
        rw [getD_set]
        by_cases he : j.toNat = t
        · subst he
          rw [if_pos ⟨rfl, by omega⟩, if_pos (by omega), el_of, el_of]
          have := hoj j.toNat
          rw [if_neg (by omega)] at this
          rw [this]
        · rw [if_neg (fun e => he e.1), hoj t]
          by_cases h1 : (t : Int) < j
          · rw [if_pos h1, if_pos (by omega)]
          · rw [if_neg h1, if_neg (by omega)]
      · try simp only [zbA] at h9
        refine tr_exit ?_
        refine tr_region fun _ _ _ => ?_
        refine st rfl rfl rfl rfl (rAdd rfl rfl rfl (by omega) (by omega)) ?_
        refine pu rfl rfl rfl rfl rfl ?_
        refine ⟨k + 1, o2, A6a, c6a, tk ++ [l.getD (qs.getD k.toNat 0) 0], ⟨rfl, rfl, rfl, rfl, rfl, rfl, trivial⟩, by first | exact cs _ _ | exact CSub.refl _, ?_⟩
        have hjn : j.toNat = (rs.getD k.toNat rowD).xs.length := by omega
        refine ⟨⟨⟨by omega, by omega⟩, ⟨by omega, ho3⟩, ?_, ?_⟩, by omega⟩
        · rw [show (k + 1).toNat = k.toNat + 1 by omega, Vc.cmb_up_succ _ (by rw [vsR_length]; omega)]
          refine Vc.ext fun t => ?_
          have e1 := congrFun hoe t
          rw [Vc.sub_at, rw_at, rw_at] at e1
          rw [rw_at, Vc.sub_at, Vc.add_at, Vc.sc_at, vsR_at, hoj t, rw_at, rw_at]
          by_cases ht : (t : Int) < j
          · rw [if_pos ht, e1]; grind
          · rw [if_neg ht, e1, getD_out (l := (rs.getD k.toNat rowD).xs) (by omega), el_zero]; grind
        · rw [htk, show (k + 1).toNat = k.toNat + 1 by omega, take_map_succ _ _ (show k.toNat < qs.length by omega)]
    · try simp only [zbA] at h7
      refine tr_skip ?_
      refine tr_region fun _ _ _ => ?_
      refine st rfl rfl rfl rfl (rAdd rfl rfl rfl (by omega) (by omega)) ?_
      refine pu rfl rfl rfl rfl rfl ?_
      refine ⟨k + 1, o, A6a, c6a, tk ++ [l.getD (qs.getD k.toNat 0) 0], ⟨rfl, rfl, rfl, rfl, rfl, rfl, trivial⟩, by first | exact cs _ _ | exact CSub.refl _, ?_⟩
      have h7' : l.getD (qs.getD k.toNat 0) 0 = 0 := by omega
      refine ⟨⟨⟨by omega, by omega⟩, ⟨hol, hoi⟩, ?_, ?_⟩, by omega⟩
      · rw [show (k + 1).toNat = k.toNat + 1 by omega, Vc.cmb_up_succ _ (by rw [vsR_length]; omega), hoe]
        have hz : (rw' l : Vc (El p m mod)) (qs.getD k.toNat 0) = 0 := by rw [rw_at, h7', el_zero]
        refine Vc.ext fun t => ?_
        rw [Vc.sub_at, Vc.sub_at, Vc.add_at, Vc.sc_at]
        simp only [hz]
        grind
      · rw [htk, show (k + 1).toNat = k.toNat + 1 by omega, take_map_succ _ _ (show k.toNat < qs.length by omega)]
  · try simp only [zbA] at h3
    refine tr_exit ?_
    refine tr_seq ?_
    refine tr_region fun _ _ _ => ?_
    iterate 4 refine pu rfl rfl rfl rfl rfl ?_
    have hkn : k.toNat = qs.length := by omega
    rw [Vc.cmb_up_all _ (by rw [vsR_length]; omega)] at hoe
    rw [hkn, List.take_length] at htk
    rw [← hol]
    exact tr_ret ⟨trivial, _, _, rfl, ⟨_, _, rfl, B1, c1, o, D, cd, tk, rfl, rfl, rfl, (by omega), hoi, hoe, htk⟩, cs _ _, trivial, trivial, trivial⟩
theorem spc_zero1_ent : Enters Tryz.prog 175 := enters_of Tryz.func175 (by kernel_rfl) (by kernel_rfl)
theorem spc_zero1 (x : Int) :
    Pure Tryz.prog 175 #[.int .i64 x] [] (isV (.bool (decide (¬ x = 0)))) := by
  refine pure_of (args := [.int .i64 x]) 5 Tryz.func175 rfl rfl rfl spc_zero1_ent trivial (fun w0 => ?_)
  refine tr_seq ?_
  refine tr_region fun _ _ _ => ?_
  refine pu rfl rfl rfl rfl rfl ?_
  refine tr_seq ?_
  refine tr_region fun _ _ _ => ?_
  iterate 3 refine pu rfl rfl rfl rfl rfl ?_
  exact tr_ret ⟨trivial, _, _, rfl, ⟨rfl, rfl⟩, CSub.nil _, trivial⟩
theorem spc_zero1F (x : Int) : Pure Tryz.prog 175 ([Value.int .i64 x] ++ []).toArray [] (isV (.bool (decide (¬ x = 0)))) := spc_zero1 x
theorem any_nz (o : List Int) : (!o.any fun x => decide (¬ x = 0)) = decide (∀ z ∈ o, z = 0) := by
  by_cases h : ∀ z ∈ o, z = 0
  · rw [decide_eq_true h]
    simp; exact h
  · rw [decide_eq_false h]
    simp; simpa using h
theorem spc_zero_ent : Enters Tryz.prog 158 := enters_of Tryz.func158 (by kernel_rfl) (by kernel_rfl)
theorem spc_zero (X : Option Addr) (nx cx : Nat) (o : List Int) (hnx : nx = o.length) (h9 : o.length ≤ 1000000000000) :
    Pure Tryz.prog 158 #[.slice X nx cx] [ro X (ints o)] (isV (.bool (decide (∀ z ∈ o, z = 0)))) := by
  refine pure_of (args := [.slice X nx cx]) 6 Tryz.func158 rfl rfl rfl spc_zero_ent ⟨id, trivial⟩ (fun w0 => ?_)
  refine tr_seq ?_
  refine tr_region fun _ _ _ => ?_
  refine pu rfl rfl rfl rfl rfl ?_
  refine tr_seq ?_
  refine tr_region fun _ _ _ => ?_
  refine pu rfl rfl rfl rfl rfl ?_
  refine ef rfl rfl (eCallV rfl rfl rfl (slc_ContainsFunc X _ _ o hnx h9 _ [] [] (fun x => decide (¬ x = 0)) (fun x hx => spc_zero1F x)) ⟨rfl, rfl, trivial⟩ ?_) 
  refine st rfl rfl rfl rfl (rNotB rfl rfl) ?_
  refine pu rfl rfl rfl rfl rfl ?_
  exact tr_ret ⟨trivial, _, _, rfl, ⟨by rw [any_nz], rfl⟩, CSub.nil _, trivial⟩
theorem memB_dec {p m : Int} {mod : List Int} [hF : IsF p m mod] {n : Nat} {rs : List RowM} {qs : List Nat} (h : Vc.Rr n (vsR rs : List (Vc (El p m mod))) qs) {l o : List Int} (ho : AllIn (pw p m) o) (e : (rw' o : Vc (El p m mod)) = rw' l - Vc.cmb (fun i => rw' l (qs.getD i 0)) (vsR rs)) :
    decide (∀ z ∈ o, z = 0) = memB p m mod rs l := by
  have := memB_eq h ho e
  cases hb : memB p m mod rs l with
  | true => exact decide_eq_true (this.1 hb)
  | false => exact decide_eq_false fun hh => by rw [this.2 hh] at hb; cases hb
theorem vw_has_ent : Enters Tryz.prog 112 := enters_of Tryz.func112 (by kernel_rfl) (by kernel_rfl)
theorem vw_has (g : GfM) {p m : Int} {mod : List Int} [hF : IsF p m mod] (hg : GOk g p m mod) (w : Int) (Aa : Option Addr) (n ca : Nat) (rs : List RowM) (hn : n = rs.length) (h9 : rs.length ≤ 256) (hc : CodeOk p m mod w rs) (Bp : Option Addr) (np cp : Nat) (ps : List Int) (hnp : np = ps.length) (qs : List Nat) (hq : Vc.Rr w.toNat (vsR rs : List (Vc (El p m mod))) qs) (hps : ps = qs.map Int.ofNat) (X : Option Addr) (nx cx : Nat) (l : List Int) (hnx : nx = l.length) (hlw : (l.length : Int) = w) (hin : AllIn (pw p m) l) :
    Pure Tryz.prog 112 #[.agg #[.pointer (some g.p), .int .i64 w, .slice Aa n ca, .slice Bp np cp], .slice X nx cx] [gfR g, ro Aa (hdrs rs), rowsR rs, ro Bp (ints ps), ro X (ints l)] (isV (.bool (memB p m mod rs l))) := by
  have hl9 := hF.short
  have hn1 := hc.n1
  have hn64 := hc.n64
  have hlen := hc.len
  have hgd := hc.good
  have h8 := hgd.h8 (N := 17592186044415) (by omega)
  refine pure_of (args := [.agg #[.pointer (some g.p), .int .i64 w, .slice Aa n ca, .slice Bp np cp], .slice X nx cx]) 15 Tryz.func112 rfl rfl rfl vw_has_ent ⟨id, id, id, id, id, trivial⟩ (fun w0 => ?_)
  refine tr_seq ?_
  refine tr_region fun _ _ _ => ?_
  refine ef rfl rfl (eBox rfl rfl rfl rfl rfl (fun p0 => ?_)) 
  refine pu rfl rfl rfl rfl rfl ?_
  refine tr_seq ?_
  refine tr_region fun _ _ _ => ?_
  refine st rfl rfl rfl rfl (rLdS rfl rfl rfl) ?_
  refine pu rfl rfl rfl rfl rfl ?_
  refine ef rfl rfl (eCall2 rfl rfl rfl (vw_reduce g hg w Aa n ca rs hn h9 hc Bp np cp ps hnp qs hq hps X nx cx l hnx hlw hin) ⟨rfl, rfl, trivial⟩ ?_) 
  rintro _ _ _ ⟨B, cb, o, D, cd, tk, rfl, rfl, rfl, hol, hoi, hoe, htk⟩
  iterate 5 refine pu rfl rfl rfl rfl rfl ?_
  refine tr_seq ?_
  refine tr_region fun _ _ _ => ?_
  refine pu rfl rfl rfl rfl rfl ?_
  refine ef rfl rfl (eCallV rfl rfl rfl (spc_zero _ _ _ _ (by first | rfl | omega | simp) (by omega)) ⟨rfl, trivial⟩ ?_) 
  refine pu rfl rfl rfl rfl rfl ?_
  exact tr_ret ⟨trivial, _, _, rfl, ⟨by rw [memB_dec hq hoi hoe], rfl⟩, CSub.nil _, trivial⟩
theorem spc_Has_ent : Enters Tryz.prog 71 := enters_of Tryz.func71 (by kernel_rfl) (by kernel_rfl)
theorem spc_Has (p m : Int) (A : Option Addr) (c : Nat) (mod : List Int) [hF : IsF p m mod] (w : Int) (Aa : Option Addr) (n ca : Nat) (rs : List RowM) (hn : n = rs.length) (h9 : rs.length ≤ 256) (hc : CodeOk p m mod w rs) (X : Option Addr) (nx cx : Nat) (l : List Int) (hnx : nx = l.length) (hlw : (l.length : Int) = w) (hin : AllIn (pw p m) l) :
    Pure Tryz.prog 71 #[.agg #[.int .i64 p, .int .i64 m, .slice A mod.length c], .agg #[.int .i64 w, .slice Aa n ca], .slice X nx cx] [ro A (ints mod), ro Aa (hdrs rs), rowsR rs, ro X (ints l)] (isV (.tuple #[.bool (memB p m mod rs l), .int .i64 0])) := by
  have hl9 := hF.short
  have hn1 := hc.n1
  have hn64 := hc.n64
  have hlen := hc.len
  have hgd := hc.good
  have h8 := hgd.h8 (N := 17592186044415) (by omega)
  have hck := hc.zero
  refine pure_of (args := [.agg #[.int .i64 p, .int .i64 m, .slice A mod.length c], .agg #[.int .i64 w, .slice Aa n ca], .slice X nx cx]) 29 Tryz.func71 rfl rfl rfl spc_Has_ent ⟨id, id, id, id, trivial⟩ (fun w0 => ?_)
  refine tr_seq ?_
  refine tr_region fun _ _ _ => ?_
  refine ef rfl rfl (eBox rfl rfl rfl rfl rfl (fun p0 => ?_)) 
  refine ef rfl rfl (eBox rfl rfl rfl rfl rfl (fun p0a => ?_)) 
  iterate 2 refine pu rfl rfl rfl rfl rfl ?_
  refine tr_seq ?_
  refine tr_region fun _ _ _ => ?_
  refine st rfl rfl rfl rfl (rLdS rfl rfl rfl) ?_
  refine st rfl rfl rfl rfl (rLdS rfl rfl rfl) ?_
  refine ef rfl rfl (eCall2 rfl rfl rfl (spc_openG _ _ _ _ _ (by omega) w Aa _ ca rs hn (by omega) h8 hc.row hc.form) ⟨rfl, rfl, trivial⟩ ?_) 
  rintro _ _ _ ⟨g, Bp, cp, ps, rfl, rfl, rfl, hg, qs, hps, hq⟩
  iterate 3 refine pu rfl rfl rfl rfl rfl ?_
  refine ef rfl rfl (eAlloc rfl rfl rfl (fun p1a => ?_)) 
  refine ef rfl rfl (eStS rfl rfl rfl rfl rfl rfl ?_) 
  refine pu rfl rfl rfl rfl rfl ?_
  refine tr_seq ?_
  refine tr_seq ?_
  refine tr_region fun _ _ _ => ?_
  iterate 2 refine pu rfl rfl rfl rfl rfl ?_
  refine tr_cond_bool rfl (fun h2 => ?_) (fun h2 => ?_)
  · try simp only [zbA] at h2
    refine tr_region fun _ _ _ => ?_
    refine st rfl rfl rfl rfl (rLdS rfl rfl rfl) ?_
    refine pu rfl rfl rfl rfl rfl ?_
    refine ef rfl rfl (eCallV rfl rfl rfl (vw_word g hg w Aa n ca rs hn h9 hc Bp _ cp X nx cx l hnx hlw hin) ⟨rfl, rfl, trivial⟩ ?_) 
    refine pu rfl rfl rfl rfl rfl ?_
    refine tr_seq ?_
    refine tr_region fun _ _ _ => ?_
    iterate 3 refine pu rfl rfl rfl rfl rfl ?_
    refine stT rfl rfl rfl (by simp) rfl rfl (rLdS rfl rfl rfl) ?_
    refine stT rfl rfl rfl (by simp) rfl rfl (rMove rfl rfl) ?_
    refine efT rfl rfl rfl (by simp) (eCallV rfl rfl rfl (vw_has g hg w Aa n ca rs hn h9 hc Bp _ cp ps rfl qs hq hps X nx cx l hnx hlw hin) ⟨rfl, rfl, trivial⟩ ?_) 
    refine st rfl rfl rfl rfl (rPick1 rfl rfl (by simp) rfl) ?_
    iterate 3 refine pu rfl rfl rfl rfl rfl ?_
    exact tr_ret ⟨trivial, _, _, rfl, ⟨rfl, rfl⟩, CSub.nil _, trivial⟩
  · try simp only [zbA] at h2
    first | exact absurd trivial h2 | exact absurd rfl h2 | omega | (exact absurd h2 (by simp)) --done
theorem code_Has_ent : Enters Tryz.prog 33 := enters_of Tryz.func33 (by kernel_rfl) (by kernel_rfl)
theorem code_Has (p m : Int) (A : Option Addr) (c : Nat) (mod : List Int) [hF : IsF p m mod] (w : Int) (Aa : Option Addr) (n ca : Nat) (rs : List RowM) (hn : n = rs.length) (h9 : rs.length ≤ 256) (hc : CodeOk p m mod w rs) (X : Option Addr) (nx cx : Nat) (l : List Int) (hnx : nx = l.length) (hlw : (l.length : Int) = w) (hin : AllIn (pw p m) l) :
    Pure Tryz.prog 33 #[.agg #[.int .i64 p, .int .i64 m, .slice A mod.length c, .int .i64 w, .slice Aa n ca], .slice X nx cx] [ro A (ints mod), ro Aa (hdrs rs), rowsR rs, ro X (ints l)] (isV (.tuple #[.bool (memB p m mod rs l), .int .i64 0])) := by
  have hl9 := hF.short
  have hn1 := hc.n1
  have hn64 := hc.n64
  have hlen := hc.len
  have hgd := hc.good
  have h8 := hgd.h8 (N := 17592186044415) (by omega)
  have hck := hc.zero
  refine pure_of (args := [.agg #[.int .i64 p, .int .i64 m, .slice A mod.length c, .int .i64 w, .slice Aa n ca], .slice X nx cx]) 21 Tryz.func33 rfl rfl rfl code_Has_ent ⟨id, id, id, id, trivial⟩ (fun w0 => ?_)
  refine tr_seq ?_
  refine tr_region fun _ _ _ => ?_
  refine ef rfl rfl (eBox rfl rfl rfl rfl rfl (fun p0 => ?_)) 
  iterate 2 refine pu rfl rfl rfl rfl rfl ?_
  refine tr_seq ?_
  refine tr_seq ?_
  refine tr_region fun _ _ _ => ?_
  refine st rfl rfl rfl rfl (rLdS rfl rfl rfl) ?_
  refine pu rfl rfl rfl rfl rfl ?_
  refine ef rfl rfl (eCallV rfl rfl rfl (code_word _ _ _ _ _ w Aa n ca rs hn h9 hc X nx cx l hnx hlw hin) ⟨rfl, rfl, trivial⟩ ?_) 
  refine pu rfl rfl rfl rfl rfl ?_
  refine tr_seq ?_
  refine tr_region fun _ _ _ => ?_
  iterate 2 refine pu rfl rfl rfl rfl rfl ?_
  refine tr_cond_bool rfl (fun h2 => ?_) (fun h2 => ?_)
  · try simp only [zbA] at h2
    first | exact absurd trivial h2 | exact absurd rfl h2 | omega | (exact absurd h2 (by simp)) --done
  · try simp only [zbA] at h2
    refine tr_skip ?_
    refine tr_seq ?_
    refine tr_draw [0, 1, 2, 4, 3, 5, 6, 7, 8, 9] [] mixed (by kernel_rfl) fun _ _ _ => ?_
    refine st rfl rfl rfl rfl (rFld rfl rfl) ?_
    refine st rfl rfl rfl rfl (rLdSF rfl rfl) ?_
    refine st rfl rfl rfl rfl (rLdS rfl rfl rfl) ?_
    refine pu rfl rfl rfl rfl rfl ?_
    refine ef rfl rfl (eCallV rfl rfl rfl (code_gen _ _ _ _ _ _ _ _ _) ⟨rfl, trivial⟩ ?_) 
    refine ef rfl rfl (eCallV rfl rfl rfl (spc_Has _ _ _ _ _ w Aa n ca rs hn h9 hc X nx cx l hnx hlw hin) ⟨rfl, rfl, rfl, trivial⟩ ?_) 
    iterate 4 refine pu rfl rfl rfl rfl rfl ?_
    exact tr_ret ⟨trivial, _, _, rfl, ⟨rfl, rfl⟩, CSub.nil _, trivial⟩
theorem ref_Zero_ent : Enters Tryz.prog 78 := enters_of Tryz.func78 (by kernel_rfl) (by kernel_rfl)
theorem ref_Zero (X : Option Addr) (nx cx : Nat) (o : List Int) (hnx : nx = o.length) (h9 : o.length ≤ 1000000000000) :
    Pure Tryz.prog 78 #[.slice X nx cx] [ro X (ints o)] (isV (.bool (decide (∀ z ∈ o, z = 0)))) := by
  refine pure_of (args := [.slice X nx cx]) 15 Tryz.func78 rfl rfl rfl ref_Zero_ent ⟨id, trivial⟩ (fun w0 => ?_)
  refine tr_seq ?_
  refine tr_region fun _ _ _ => ?_
  refine pu rfl rfl rfl rfl rfl ?_
  refine tr_seq ?_
  refine tr_seq ?_
  refine tr_region fun _ _ _ => ?_
  refine pu rfl rfl rfl rfl rfl ?_
  refine tr_block ?_
  refine tr_loop1 (fun (k : Int) => [(3, .int .i64 k), (0, .slice X nx cx)]) (fun (k : Int) => [ro X (ints o)]) (fun (k : Int) => (0 ≤ k ∧ k ≤ nx) ∧ ∀ j : Nat, (j : Int) < k → o.getD j 0 = 0) (fun (k : Int) => (nx - k).toNat) (0) ⟨rfl, rfl, trivial⟩ (by first | exact cs _ _ | exact CSub.refl _) (⟨⟨by omega, by omega⟩, fun j hj => by omega⟩) (fun k hI => ?_)
  obtain ⟨⟨hk0, hk1⟩, hall⟩ := hI
  refine tr_seq ?_
  refine tr_seq ?_
  refine tr_region fun _ _ _ => ?_
  iterate 2 refine pu rfl rfl rfl rfl rfl ?_
  refine st rfl rfl rfl rfl (rLen rfl rfl) ?_
  refine pu rfl rfl rfl rfl rfl ?_
  refine tr_cond_bool rfl (fun h2 => ?_) (fun h2 => ?_)
  · try simp only [zbA] at h2
    refine tr_skip ?_
    refine tr_seq ?_
    refine tr_block ?_
    refine tr_seq ?_
    refine tr_region fun _ _ _ => ?_
    iterate 2 refine pu rfl rfl rfl rfl rfl ?_
    refine st rfl rfl rfl rfl (rIdxI rfl rfl rfl (by omega) (by omega) (by omega)) ?_
    refine st rfl rfl rfl rfl (rLdI rfl rfl (by omega)) ?_
    refine pu rfl rfl rfl rfl rfl ?_
    refine tr_cond_bool rfl (fun h4 => ?_) (fun h4 => ?_)
    · try simp only [zbA] at h4
      refine tr_seq ?_
      refine tr_region fun _ _ _ => ?_
      refine pu rfl rfl rfl rfl rfl ?_
      have hno : ¬ ∀ z ∈ o, z = 0 := fun h => absurd (h _ (getD_mem (show k.toNat < o.length by omega) 0)) (by omega)
      exact tr_ret ⟨trivial, _, _, rfl, ⟨by rw [decide_eq_false hno], rfl⟩, CSub.nil _, trivial⟩
    · try simp only [zbA] at h4
      refine tr_skip ?_
      refine tr_region fun _ _ _ => ?_
      refine pu rfl rfl rfl rfl rfl ?_
      refine st rfl rfl rfl rfl (rAdd rfl rfl rfl (by omega) (by omega)) ?_
      refine pu rfl rfl rfl rfl rfl ?_
      refine ⟨k + 1, ⟨rfl, rfl, trivial⟩, by first | exact cs _ _ | exact CSub.refl _, ?_⟩
      refine ⟨⟨⟨by omega, by omega⟩, fun j hj => ?_⟩, by omega⟩
      by_cases he : (j : Int) = k
      · have : j = k.toNat := by omega
        subst this; omega
      · exact hall j (by omega)
  · try simp only [zbA] at h2
    refine tr_exit ?_
    refine tr_seq ?_
    refine tr_region fun _ _ _ => ?_
    refine pu rfl rfl rfl rfl rfl ?_
    have hyes : ∀ z ∈ o, z = 0 := fun z hz => by
      obtain ⟨j, hj, rfl⟩ := List.getElem_of_mem hz
      have := hall j (by omega)
      rw [List.getD_eq_getElem?_getD, List.getElem?_eq_getElem hj] at this
      exact this
    exact tr_ret ⟨trivial, _, _, rfl, ⟨by rw [decide_eq_true hyes], rfl⟩, CSub.nil _, trivial⟩
theorem ref_Pivots_ent : Enters Tryz.prog 128 := enters_of Tryz.func128 (by kernel_rfl) (by kernel_rfl)
theorem ref_Pivots (p m : Int) (mod : List Int) [hF : IsF p m mod] (w : Int) (Aa : Option Addr) (n ca : Nat) (rs : List RowM) (hn : n = rs.length) (h9 : rs.length ≤ 256) (hw9 : w ≤ 1000000) (hgd : Gd (pw p m) w.toNat rs) (qs : List Nat) (hq : Vc.Rr w.toNat (vsR rs : List (Vc (El p m mod))) qs) :
    Pure Tryz.prog 128 #[.slice Aa n ca] [ro Aa (hdrs rs), rowsR rs] (one (fun v ch => ∃ B cb, v = .slice B (qs.map Int.ofNat).length cb ∧ ch = ow B 3 cb (ints (qs.map Int.ofNat)))) := by
  have hql := hq.len
  rw [vsR_length] at hql
  have hq2 := hF.q2
  refine pure_of (args := [.slice Aa n ca]) 36 Tryz.func128 rfl rfl rfl ref_Pivots_ent ⟨id, id, trivial⟩ (fun w0 => ?_)
  refine tr_seq ?_
  refine tr_region fun _ _ _ => ?_
  refine pu rfl rfl rfl rfl rfl ?_
  refine tr_seq ?_
  refine tr_region fun _ _ _ => ?_
  refine pu rfl rfl rfl rfl rfl ?_
  refine tr_seq ?_
  refine tr_seq ?_
  refine tr_region fun _ _ _ => ?_
  refine pu rfl rfl rfl rfl rfl ?_
  refine tr_block ?_
  refine tr_nilI 3 ?_
  refine tr_loop4 (fun (k : Int) (D : Option Addr) (cd : Nat) (tk : List Int) => [(3, .slice D tk.length cd), (4, .int .i64 k), (0, .slice Aa n ca), (2, .slice none 0 0)]) (fun (k : Int) (D : Option Addr) (cd : Nat) (tk : List Int) => [ow D 3 cd (ints tk), ro Aa (hdrs rs), rowsR rs]) (fun (k : Int) (D : Option Addr) (cd : Nat) (tk : List Int) => (0 ≤ k ∧ k ≤ n) ∧ tk = (qs.take k.toNat).map Int.ofNat) (fun (k : Int) (D : Option Addr) (cd : Nat) (tk : List Int) => (n - k).toNat) (0) (none) (0) ([]) ⟨rfl, rfl, rfl, rfl, trivial⟩ (by first | exact cs _ _ | exact CSub.refl _) (⟨⟨by omega, by omega⟩, rfl⟩) (fun k D cd tk hI => ?_)
  obtain ⟨⟨hk0, hk1⟩, htk⟩ := hI
  have htl : tk.length ≤ 256 := by rw [htk, List.length_map, List.length_take]; omega
  refine tr_seq ?_
  refine tr_seq ?_
  refine tr_region fun _ _ _ => ?_
  iterate 2 refine pu rfl rfl rfl rfl rfl ?_
  refine st rfl rfl rfl rfl (rLen rfl rfl) ?_
  refine pu rfl rfl rfl rfl rfl ?_
  refine tr_cond_bool rfl (fun h3 => ?_) (fun h3 => ?_)
  · try simp only [zbA] at h3
    refine tr_skip ?_
    refine tr_seq ?_
    refine tr_block ?_
    refine tr_seq ?_
    haveI : InB k.toNat rs.length := ⟨by omega⟩
    have hgk := hgd.get (show k.toNat < rs.length by omega)
    have hgk1 := hgk.1
    have hqk := hq.lt k.toNat (by omega)
    have hone := hq.one k.toNat (by omega)
    rw [vsR_at] at hone
    have hlow : ∀ j : Nat, j < qs.getD k.toNat 0 → (rs.getD k.toNat rowD).xs.getD j 0 = 0 := fun j hj => by
      have := hq.low k.toNat j (by omega) hj
      rw [vsR_at, el_eq_zero (hgk.2.get (by omega) j)] at this
      exact this
    have hnz : (rs.getD k.toNat rowD).xs.getD (qs.getD k.toNat 0) 0 ≠ 0 := fun h => by
      rw [h, el_zero] at hone
      exact Fd.one_ne hone.symm
    refine tr_region fun _ _ _ => ?_
    refine pu rfl rfl rfl rfl rfl ?_
    refine tr_seq ?_
    refine tr_block ?_
    refine tr_loop1 (fun (c : Int) => [(5, .int .i64 c), (3, .slice D tk.length cd), (0, .slice Aa n ca), (2, .slice none 0 0), (4, .int .i64 k), (6, .int .i64 k), (7, .slice Aa n ca), (8, .int .i64 n)]) (fun (c : Int) => [ow D 3 cd (ints tk), ro Aa (hdrs rs), rowsR rs]) (fun (c : Int) => 0 ≤ c ∧ c ≤ (qs.getD k.toNat 0 : Int)) (fun (c : Int) => ((qs.getD k.toNat 0 : Int) - c).toNat) (0) ⟨rfl, rfl, rfl, rfl, rfl, rfl, rfl, rfl, trivial⟩ (by first | exact cs _ _ | exact CSub.refl _) (by omega) (fun c hI => ?_)
    obtain ⟨hc0, hc1⟩ := hI
    refine tr_seq ?_
    refine tr_seq ?_
    refine tr_region fun _ _ _ => ?_
    iterate 3 refine pu rfl rfl rfl rfl rfl ?_
    refine st rfl rfl rfl rfl (rIdxR rfl rfl rfl (by omega) (by omega) (by omega)) ?_
    refine st rfl rfl rfl rfl (rLdR rfl rfl (by omega)) ?_
    refine st rfl rfl rfl rfl (rLen rfl rfl) ?_
    iterate 2 refine pu rfl rfl rfl rfl rfl ?_
    refine stg rfl rfl rfl rfl rfl (fun hb => by (have hq := hb; try simp only [zbA] at hq); exact rMove rfl rfl) ?_
    refine stg rfl rfl rfl rfl rfl (fun hb => by (have hq := hb; try simp only [zbA] at hq); exact rMove rfl rfl) ?_
    refine stg rfl rfl rfl rfl rfl (fun hb => by (have hq := hb; try simp only [zbA] at hq); exact rIdxR rfl (evg rfl hb) (evg rfl hb) (by omega) (by omega) (by omega)) ?_
    refine stg rfl rfl rfl rfl rfl (fun hb => by (have hq := hb; try simp only [zbA] at hq); exact rLdR rfl (evg rfl hb) (by omega)) ?_
    refine stg rfl rfl rfl rfl rfl (fun hb => by (have hq := hb; try simp only [zbA] at hq); exact rMove rfl rfl) ?_
    refine stg rfl rfl rfl rfl rfl (fun hb => by (have hq := hb; try simp only [zbA] at hq); exact rIdxI rfl (evg rfl hb) (evg rfl hb) (by omega) (by omega) (by omega)) ?_
    refine stg rfl rfl rfl rfl rfl (fun hb => by (have hq := hb; try simp only [zbA] at hq); exact rLdI rfl (evg rfl hb) (by omega)) ?_
    refine stg rfl rfl rfl rfl rfl (fun hb => by (have hq := hb; try simp only [zbA] at hq); exact rEql rfl (evg rfl hb) rfl) ?_
    refine st rfl rfl rfl rfl (rAndB rfl rfl rfl rfl) ?_
    refine tr_cond_bool rfl (fun h6 => ?_) (fun h6 => ?_)
    · try simp only [zbA] at h6
      refine tr_skip ?_
      refine tr_block ?_
      refine tr_region fun _ _ _ => ?_
      refine pu rfl rfl rfl rfl rfl ?_
      refine st rfl rfl rfl rfl (rAdd rfl rfl rfl (by omega) (by omega)) ?_
      refine pu rfl rfl rfl rfl rfl ?_
      refine ⟨c + 1, ⟨rfl, rfl, rfl, rfl, rfl, rfl, rfl, rfl, trivial⟩, by first | exact cs _ _ | exact CSub.refl _, ?_⟩
      have hne : c ≠ (qs.getD k.toNat 0 : Int) := fun e => by
        have : c.toNat = qs.getD k.toNat 0 := by omega
        rw [← this] at hnz
        omega
      refine ⟨⟨by omega, by omega⟩, by omega⟩
    · try simp only [zbA] at h6
      refine tr_exit ?_
      refine tr_region fun _ _ _ => ?_
      iterate 2 refine pu rfl rfl rfl rfl rfl ?_
      refine ef rfl rfl (eLit1I rfl rfl rfl rfl (fun A8 => ?_)) 
      refine ef rfl rfl (eAppI rfl rfl rfl rfl rfl (by first | rfl | simp | omega) (by first | rfl | simp | omega) (by first | omega | (simp; omega)) (fun A8a c8a => ?_)) 
      refine pu rfl rfl rfl rfl rfl ?_
      refine tr_region fun _ _ _ => ?_
      refine pu rfl rfl rfl rfl rfl ?_
      refine st rfl rfl rfl rfl (rAdd rfl rfl rfl (by omega) (by omega)) ?_
      refine pu rfl rfl rfl rfl rfl ?_
      refine ⟨k + 1, A8a, c8a, tk ++ [c], ⟨rfl, rfl, rfl, rfl, trivial⟩, by first | exact cs _ _ | exact CSub.refl _, ?_⟩
      refine ⟨⟨⟨by omega, by omega⟩, ?_⟩, by omega⟩
      rw [htk, show (k + 1).toNat = k.toNat + 1 by omega, take_map_succ _ _ (show k.toNat < qs.length by omega)]
      have : c = Int.ofNat (qs.getD k.toNat 0) := by
        have hc2 : ¬ c < (qs.getD k.toNat 0 : Int) := fun hlt => by
          have h1 := hlow c.toNat (by omega)
          omega
        show c = (qs.getD k.toNat 0 : Int)
        omega
      rw [this]
  · try simp only [zbA] at h3
    refine tr_exit ?_
    refine tr_seq ?_
    refine tr_region fun _ _ _ => ?_
    iterate 2 refine pu rfl rfl rfl rfl rfl ?_
    have hkn : k.toNat = qs.length := by omega
    rw [hkn, List.take_length] at htk
    subst htk
    exact tr_ret ⟨trivial, _, _, rfl, ⟨_, rfl, D, cd, rfl, rfl⟩, cs _ _, trivial, trivial⟩
theorem ref_Rest_ent : Enters Tryz.prog 79 := enters_of Tryz.func79 (by kernel_rfl) (by kernel_rfl)
theorem ref_Rest (p m : Int) (A : Option Addr) (c : Nat) (mod : List Int) [hF : IsF p m mod] (w : Int) (Aa : Option Addr) (n ca : Nat) (rs : List RowM) (hn : n = rs.length) (h9 : rs.length ≤ 256) (hw9 : w ≤ 1000000) (hgd : Gd (pw p m) w.toNat rs) (qs : List Nat) (hq : Vc.Rr w.toNat (vsR rs : List (Vc (El p m mod))) qs) (X : Option Addr) (nx cx : Nat) (l : List Int) (hnx : nx = l.length) (hlw : (l.length : Int) = w) (hin : AllIn (pw p m) l) :
    Pure Tryz.prog 79 #[.agg #[.int .i64 p, .int .i64 m, .slice A mod.length c], .slice Aa n ca, .slice X nx cx] [ro A (ints mod), ro Aa (hdrs rs), rowsR rs, ro X (ints l)] (one (fun v c1 => ∃ B cb o, v = .slice B o.length cb ∧ c1 = ow B 3 cb (ints o) ∧ o.length = l.length ∧ AllIn (pw p m) o ∧ (rw' o : Vc (El p m mod)) = rw' l - Vc.cmb (fun i => rw' l (qs.getD i 0)) (vsR rs))) := by
  have hql := hq.len
  rw [vsR_length] at hql
  have hq2 := hF.q2
  refine pure_of (args := [.agg #[.int .i64 p, .int .i64 m, .slice A mod.length c], .slice Aa n ca, .slice X nx cx]) 38 Tryz.func79 rfl rfl rfl ref_Rest_ent ⟨id, id, id, id, trivial⟩ (fun w0 => ?_)
  refine tr_seq ?_
  refine tr_region fun _ _ _ => ?_
  refine ef rfl rfl (eBox rfl rfl rfl rfl rfl (fun p0 => ?_)) 
  refine pu rfl rfl rfl rfl rfl ?_
  refine tr_seq ?_
  refine tr_region fun _ _ _ => ?_
  refine pu rfl rfl rfl rfl rfl ?_
  refine ef rfl rfl (eCall1 rfl rfl rfl (ref_Pivots p m mod w Aa n ca rs hn h9 hw9 hgd qs hq) ⟨rfl, trivial⟩ ?_) 
  rintro _ _ ⟨Bp, cp, rfl, rfl⟩
  refine pu rfl rfl rfl rfl rfl ?_
  refine tr_seq ?_
  refine tr_region fun _ _ _ => ?_
  refine ef rfl rfl (eLit0I rfl rfl rfl  (fun A2 => ?_)) 
  refine pu rfl rfl rfl rfl rfl ?_
  refine ef rfl rfl (eAppI rfl rfl rfl rfl rfl (by first | rfl | simp | omega) (by first | rfl | simp | omega) (by first | omega | (simp; omega)) (fun A2a c2a => ?_)) 
  refine pu rfl rfl rfl rfl rfl ?_
  simp only [List.nil_append]
  refine tr_seq ?_
  refine tr_seq ?_
  refine tr_region fun _ _ _ => ?_
  refine pu rfl rfl rfl rfl rfl ?_
  refine tr_block ?_
  refine tr_loop5 (fun (k : Int) (B : Option Addr) (cb : Nat) (no : Nat) (o : List Int) => [(7, .slice Bp (qs.map Int.ofNat).length cp), (8, .slice B no cb), (9, .int .i64 k), (1, .slice Aa n ca), (2, .slice X nx cx), (3, .pointer (some p0)), (6, .slice none 0 0)]) (fun (k : Int) (B : Option Addr) (cb : Nat) (no : Nat) (o : List Int) => [ow B 3 cb (ints o), ow Bp 3 cp (ints (qs.map Int.ofNat)), blk p0 24 [.int .i64 p, .int .i64 m, .slice A mod.length c], ro A (ints mod), ro Aa (hdrs rs), rowsR rs, ro X (ints l)]) (fun (k : Int) (B : Option Addr) (cb : Nat) (no : Nat) (o : List Int) => (0 ≤ k ∧ k ≤ n) ∧ no = o.length ∧ (o.length = l.length ∧ AllIn (pw p m) o) ∧ (rw' o : Vc (El p m mod)) = rw' l - Vc.cmb (Vc.upC (fun i => rw' l (qs.getD i 0)) k.toNat) (vsR rs)) (fun (k : Int) (B : Option Addr) (cb : Nat) (no : Nat) (o : List Int) => (n - k).toNat) (0) (A2a) (c2a) (l.length) (l) ⟨rfl, rfl, rfl, rfl, rfl, rfl, rfl, trivial⟩ (by first | exact cs _ _ | exact CSub.refl _) (⟨⟨by omega, by omega⟩, rfl, ⟨rfl, hin⟩, by rw [Int.toNat_zero, Vc.cmb_up_zero]; exact Vc.ext fun j => by rw [Vc.sub_at, Vc.zero_at]; grind⟩) (fun k B cb no o hI => ?_)
  obtain ⟨⟨hk0, hk1⟩, hno, ⟨hol, hoi⟩, hoe⟩ := hI
  refine tr_seq ?_
  refine tr_seq ?_
  refine tr_region fun _ _ _ => ?_
  iterate 2 refine pu rfl rfl rfl rfl rfl ?_
  refine st rfl rfl rfl rfl (rLen rfl rfl) ?_
  refine pu rfl rfl rfl rfl rfl ?_
  refine tr_cond_bool rfl (fun h4 => ?_) (fun h4 => ?_)
  · try simp only [zbA] at h4
    refine tr_skip ?_
    refine tr_seq ?_
    refine tr_block ?_
    haveI : InB k.toNat rs.length := ⟨by omega⟩
    have hgk := hgd.get (show k.toNat < rs.length by omega)
    have hgk1 := hgk.1
    have hqk := hq.lt k.toNat (by omega)
    have hpk : (qs.map Int.ofNat).getD k.toNat 0 = (qs.getD k.toNat 0 : Int) := ofNat_getD qs _
    have hpl : (qs.map Int.ofNat).length = qs.length := List.length_map _
    refine tr_draw [0, 1, 2, 3, 4, 5, 6, 7, 8, 9, 11, 12, 13, 14, 10, 15, 16] [] mixed (by kernel_rfl) fun _ _ _ => ?_
    refine st rfl rfl rfl rfl (rLdS rfl rfl rfl) ?_
    refine pu rfl rfl rfl rfl rfl ?_
    refine st rfl rfl rfl rfl (rLdS rfl rfl rfl) ?_
    iterate 3 refine pu rfl rfl rfl rfl rfl ?_
    refine st rfl rfl rfl rfl (rIdxI rfl rfl rfl (by omega) (by omega) (by omega)) ?_
    refine st rfl rfl rfl rfl (rLdI rfl rfl (by omega)) ?_
    refine st rfl rfl rfl rfl (rIdxI rfl rfl rfl (by omega) (by omega) (by omega)) ?_
    refine st rfl rfl rfl rfl (rLdI rfl rfl (by omega)) ?_
    iterate 2 refine pu rfl rfl rfl rfl rfl ?_
    refine st rfl rfl rfl rfl (rIdxR rfl rfl rfl (by omega) (by omega) (by omega)) ?_
    refine st rfl rfl rfl rfl (rLdR rfl rfl (by omega)) ?_
    refine ef rfl rfl (eCallV rfl rfl rfl (ref_NegE _ _ _ _ _ _) ⟨rfl, rfl, trivial⟩ ?_) 
    refine ef rfl rfl (eCall1 rfl rfl rfl (ref_AddTo _ _ _ _ _ B no cb o hno (by omega) _ _ _ _ (rs.getD k.toNat rowD).xs rfl (by omega) hoi) ⟨rfl, rfl, rfl, rfl, trivial⟩ ?_) 
    rintro _ _ ⟨B6, rfl, rfl⟩
    refine pu rfl rfl rfl rfl rfl ?_
    simp only [hpk, Int.toNat_natCast]
    refine tr_region fun _ _ _ => ?_
    refine pu rfl rfl rfl rfl rfl ?_
    refine st rfl rfl rfl rfl (rAdd rfl rfl rfl (by omega) (by omega)) ?_
    refine pu rfl rfl rfl rfl rfl ?_
    refine ⟨k + 1, B6, no, no, addR (el (-(el (l.getD (qs.getD k.toNat 0) 0)) : El p m mod).1 : El p m mod) o (rs.getD k.toNat rowD).xs, ⟨rfl, rfl, rfl, rfl, rfl, rfl, rfl, trivial⟩, by first | exact cs _ _ | exact CSub.refl _, ?_⟩
    refine ⟨⟨⟨by omega, by omega⟩, by simpa using hno, ⟨by simpa using hol, addR_in _ _ _⟩, ?_⟩, by omega⟩
    rw [show (k + 1).toNat = k.toNat + 1 by omega, Vc.cmb_up_succ _ (by rw [vsR_length]; omega), rw_addR _ _ _ (by omega), hoe, el_of]
    refine Vc.ext fun t => ?_
    rw [Vc.add_at, Vc.sub_at, Vc.sc_at, Vc.sub_at, Vc.add_at, Vc.sc_at, vsR_at, rw_at (l := (rs.getD k.toNat rowD).xs)]
    show _ = _ - (_ + el (l.getD (qs.getD k.toNat 0) 0) * _)
    grind
  · try simp only [zbA] at h4
    refine tr_exit ?_
    refine tr_seq ?_
    refine tr_region fun _ _ _ => ?_
    iterate 2 refine pu rfl rfl rfl rfl rfl ?_
    subst hno
    have hkn : k.toNat = qs.length := by omega
    rw [Vc.cmb_up_all _ (by rw [vsR_length]; omega)] at hoe
    exact tr_ret ⟨trivial, _, _, rfl, ⟨_, rfl, B, cb, o, rfl, rfl, hol, hoi, hoe⟩, cs _ _, trivial, trivial⟩
theorem ref_RIn_ent : Enters Tryz.prog 40 := enters_of Tryz.func40 (by kernel_rfl) (by kernel_rfl)
theorem ref_RIn (p m : Int) (A : Option Addr) (c : Nat) (mod : List Int) [hF : IsF p m mod] (w : Int) (Aa : Option Addr) (n ca : Nat) (rs : List RowM) (hn : n = rs.length) (h9 : rs.length ≤ 256) (hw9 : w ≤ 1000000) (hgd : Gd (pw p m) w.toNat rs) (qs : List Nat) (hq : Vc.Rr w.toNat (vsR rs : List (Vc (El p m mod))) qs) (X : Option Addr) (nx cx : Nat) (l : List Int) (hnx : nx = l.length) (hlw : (l.length : Int) = w) (hin : AllIn (pw p m) l) :
    Pure Tryz.prog 40 #[.agg #[.int .i64 p, .int .i64 m, .slice A mod.length c], .slice Aa n ca, .slice X nx cx] [ro A (ints mod), ro Aa (hdrs rs), rowsR rs, ro X (ints l)] (isV (.bool (memB p m mod rs l))) := by
  refine pure_of (args := [.agg #[.int .i64 p, .int .i64 m, .slice A mod.length c], .slice Aa n ca, .slice X nx cx]) 12 Tryz.func40 rfl rfl rfl ref_RIn_ent ⟨id, id, id, id, trivial⟩ (fun w0 => ?_)
  refine tr_seq ?_
  refine tr_region fun _ _ _ => ?_
  refine ef rfl rfl (eBox rfl rfl rfl rfl rfl (fun p0 => ?_)) 
  refine pu rfl rfl rfl rfl rfl ?_
  refine tr_seq ?_
  refine tr_region fun _ _ _ => ?_
  refine st rfl rfl rfl rfl (rLdS rfl rfl rfl) ?_
  iterate 2 refine pu rfl rfl rfl rfl rfl ?_
  refine ef rfl rfl (eCall1 rfl rfl rfl (ref_Rest _ _ _ _ _ w Aa n ca rs hn h9 hw9 hgd qs hq X nx cx l hnx hlw hin) ⟨rfl, rfl, rfl, trivial⟩ ?_) 
  rintro _ _ ⟨B, cb, o, rfl, rfl, hol, hoi, hoe⟩
  refine ef rfl rfl (eCallV rfl rfl rfl (ref_Zero _ _ _ _ (by first | rfl | omega | simp) (by omega)) ⟨rfl, trivial⟩ ?_) 
  refine pu rfl rfl rfl rfl rfl ?_
  exact tr_ret ⟨trivial, _, _, rfl, ⟨by rw [memB_dec hq hoi hoe], rfl⟩, CSub.nil _, trivial⟩
theorem ref_RIn' (p m : Int) (A : Option Addr) (c : Nat) (mod : List Int) [hF : IsF p m mod] (w : Int) (Aa : Option Addr) (n ca : Nat) (rs : List RowM) (hn : n = rs.length) (h9 : rs.length ≤ 256) (hc : CodeOk p m mod w rs) (X : Option Addr) (nx cx : Nat) (l : List Int) (hnx : nx = l.length) (hlw : (l.length : Int) = w) (hin : AllIn (pw p m) l) : Pure Tryz.prog 40 #[.agg #[.int .i64 p, .int .i64 m, .slice A mod.length c], .slice Aa n ca, .slice X nx cx] [ro A (ints mod), ro Aa (hdrs rs), rowsR rs, ro X (ints l)] (isV (.bool (memB p m mod rs l))) := by
  obtain ⟨qs, hq⟩ := hc.form
  exact ref_RIn p m A c mod w Aa n ca rs hn h9 (by have := hc.n64; omega) hc.good qs hq X nx cx l hnx hlw hin
theorem ref_CList_ent : Enters Tryz.prog 39 := enters_of Tryz.func39 (by kernel_rfl) (by kernel_rfl)
theorem ref_CList (p m : Int) (A : Option Addr) (c : Nat) (mod : List Int) [hF : IsF p m mod] (w : Int) (hw9 : w ≤ 1000000) (X : Option Addr) (nx cx : Nat) (l : List Int) (hnx : nx = l.length) (hlw : (l.length : Int) = w) (hin : AllIn (pw p m) l) :
    Pure Tryz.prog 39 #[.agg #[.int .i64 p, .int .i64 m, .slice A mod.length c], .slice X nx cx, .int .i64 w] [ro A (ints mod), ro X (ints l)] (isV (.int .i64 0)) := by
  have hEn : entC (ordI p m) l = 0 := entC_ok (by rw [hF.ord]; exact hin)
  refine pure_of (args := [.agg #[.int .i64 p, .int .i64 m, .slice A mod.length c], .slice X nx cx, .int .i64 w]) 14 Tryz.func39 rfl rfl rfl ref_CList_ent ⟨id, id, trivial⟩ (fun w0 => ?_)
  refine tr_seq ?_
  refine tr_region fun _ _ _ => ?_
  refine ef rfl rfl (eBox rfl rfl rfl rfl rfl (fun p0 => ?_)) 
  refine pu rfl rfl rfl rfl rfl ?_
  refine tr_seq ?_
  refine tr_seq ?_
  refine tr_region fun _ _ _ => ?_
  refine pu rfl rfl rfl rfl rfl ?_
  refine st rfl rfl rfl rfl (rLen rfl rfl) ?_
  iterate 2 refine pu rfl rfl rfl rfl rfl ?_
  refine tr_cond_bool rfl (fun h1 => ?_) (fun h1 => ?_)
  · try simp only [zbA] at h1
    omega --done
  · try simp only [zbA] at h1
    refine tr_skip ?_
    refine tr_seq ?_
    refine tr_region fun _ _ _ => ?_
    refine st rfl rfl rfl rfl (rLdS rfl rfl rfl) ?_
    refine pu rfl rfl rfl rfl rfl ?_
    refine ef rfl rfl (eCallV rfl rfl rfl (ref_Entries _ _ _ _ _ _ _ _ l hnx (by omega)) ⟨rfl, rfl, trivial⟩ ?_) 
    refine pu rfl rfl rfl rfl rfl ?_
    exact tr_ret ⟨trivial, _, _, rfl, ⟨by rw [hEn], rfl⟩, CSub.nil _, trivial⟩
theorem ref_CWord_ent : Enters Tryz.prog 12 := enters_of Tryz.func12 (by kernel_rfl) (by kernel_rfl)
theorem ref_CWord (p m : Int) (A : Option Addr) (c : Nat) (mod : List Int) [hF : IsF p m mod] (w : Int) (Aa : Option Addr) (n ca : Nat) (rs : List RowM) (hn : n = rs.length) (h9 : rs.length ≤ 256) (hc : CodeOk p m mod w rs) (X : Option Addr) (nx cx : Nat) (l : List Int) (hnx : nx = l.length) (hlw : (l.length : Int) = w) (hin : AllIn (pw p m) l) :
    Pure Tryz.prog 12 #[.agg #[.int .i64 p, .int .i64 m, .slice A mod.length c, .int .i64 w, .slice Aa n ca], .slice X nx cx] [ro A (ints mod), ro Aa (hdrs rs), rowsR rs, ro X (ints l)] (isV (.int .i64 0)) := by
  have hl9 := hF.short
  have hn1 := hc.n1
  have hn64 := hc.n64
  have hlen := hc.len
  have hgd := hc.good
  have h8 := hgd.h8 (N := 17592186044415) (by omega)
  have hck := hc.zero
  refine pure_of (args := [.agg #[.int .i64 p, .int .i64 m, .slice A mod.length c, .int .i64 w, .slice Aa n ca], .slice X nx cx]) 17 Tryz.func12 rfl rfl rfl ref_CWord_ent ⟨id, id, id, id, trivial⟩ (fun w0 => ?_)
  refine tr_seq ?_
  refine tr_region fun _ _ _ => ?_
  refine ef rfl rfl (eBox rfl rfl rfl rfl rfl (fun p0 => ?_)) 
  refine pu rfl rfl rfl rfl rfl ?_
  refine tr_seq ?_
  refine tr_region fun _ _ _ => ?_
  refine st rfl rfl rfl rfl (rLdS rfl rfl rfl) ?_
  refine ef rfl rfl (eCallV rfl rfl rfl (ref_CCheck _ _ _ _ _ (by omega) w Aa _ ca rs hn (by omega) h8) ⟨rfl, trivial⟩ ?_) 
  refine pu rfl rfl rfl rfl rfl ?_
  refine tr_seq ?_
  refine tr_seq ?_
  refine tr_region fun _ _ _ => ?_
  iterate 2 refine pu rfl rfl rfl rfl rfl ?_
  refine tr_cond_bool rfl (fun h2 => ?_) (fun h2 => ?_)
  · try simp only [zbA] at h2
    refine tr_region fun _ _ _ => ?_
    refine st rfl rfl rfl rfl (rFld rfl rfl) ?_
    refine st rfl rfl rfl rfl (rLdSF rfl rfl) ?_
    refine pu rfl rfl rfl rfl rfl ?_
    refine st rfl rfl rfl rfl (rFld rfl rfl) ?_
    refine st rfl rfl rfl rfl (rLdF rfl rfl rfl) ?_
    refine ef rfl rfl (eCallV rfl rfl rfl (ref_CList _ _ _ _ _ w (by omega) X _ _ l hnx hlw hin) ⟨rfl, rfl, rfl, trivial⟩ ?_) 
    refine pu rfl rfl rfl rfl rfl ?_
    refine tr_seq ?_
    refine tr_region fun _ _ _ => ?_
    iterate 2 refine pu rfl rfl rfl rfl rfl ?_
    exact tr_ret ⟨trivial, _, _, rfl, ⟨rfl, rfl⟩, CSub.nil _, trivial⟩
  · try simp only [zbA] at h2
    omega --done
theorem ref_CHas_ent : Enters Tryz.prog 13 := enters_of Tryz.func13 (by kernel_rfl) (by kernel_rfl)
theorem ref_CHas (p m : Int) (A : Option Addr) (c : Nat) (mod : List Int) [hF : IsF p m mod] (w : Int) (Aa : Option Addr) (n ca : Nat) (rs : List RowM) (hn : n = rs.length) (h9 : rs.length ≤ 256) (hc : CodeOk p m mod w rs) (X : Option Addr) (nx cx : Nat) (l : List Int) (hnx : nx = l.length) (hlw : (l.length : Int) = w) (hin : AllIn (pw p m) l) :
    Pure Tryz.prog 13 #[.agg #[.int .i64 p, .int .i64 m, .slice A mod.length c, .int .i64 w, .slice Aa n ca], .slice X nx cx] [ro A (ints mod), ro Aa (hdrs rs), rowsR rs, ro X (ints l)] (isV (.tuple #[.bool (memB p m mod rs l), .int .i64 0])) := by
  have hl9 := hF.short
  have hn1 := hc.n1
  have hn64 := hc.n64
  have hlen := hc.len
  have hgd := hc.good
  have h8 := hgd.h8 (N := 17592186044415) (by omega)
  have hck := hc.zero
  refine pure_of (args := [.agg #[.int .i64 p, .int .i64 m, .slice A mod.length c, .int .i64 w, .slice Aa n ca], .slice X nx cx]) 19 Tryz.func13 rfl rfl rfl ref_CHas_ent ⟨id, id, id, id, trivial⟩ (fun w0 => ?_)
  refine tr_seq ?_
  refine tr_region fun _ _ _ => ?_
  refine ef rfl rfl (eBox rfl rfl rfl rfl rfl (fun p0 => ?_)) 
  iterate 2 refine pu rfl rfl rfl rfl rfl ?_
  refine tr_seq ?_
  refine tr_region fun _ _ _ => ?_
  refine st rfl rfl rfl rfl (rLdS rfl rfl rfl) ?_
  refine pu rfl rfl rfl rfl rfl ?_
  refine ef rfl rfl (eCallV rfl rfl rfl (ref_CWord _ _ _ _ _ w Aa n ca rs hn h9 hc X nx cx l hnx hlw hin) ⟨rfl, rfl, trivial⟩ ?_) 
  refine pu rfl rfl rfl rfl rfl ?_
  refine tr_seq ?_
  refine tr_seq ?_
  refine tr_region fun _ _ _ => ?_
  iterate 2 refine pu rfl rfl rfl rfl rfl ?_
  refine tr_cond_bool rfl (fun h2 => ?_) (fun h2 => ?_)
  · try simp only [zbA] at h2
    first | exact absurd trivial h2 | exact absurd rfl h2 | omega | (exact absurd h2 (by simp)) --done
  · try simp only [zbA] at h2
    refine tr_skip ?_
    refine tr_seq ?_
    refine tr_region fun _ _ _ => ?_
    refine st rfl rfl rfl rfl (rFld rfl rfl) ?_
    refine st rfl rfl rfl rfl (rLdSF rfl rfl) ?_
    refine st rfl rfl rfl rfl (rFld rfl rfl) ?_
    refine st rfl rfl rfl rfl (rLdF rfl rfl rfl) ?_
    refine pu rfl rfl rfl rfl rfl ?_
    refine ef rfl rfl (eCallV rfl rfl rfl (ref_RIn' _ _ _ _ _ w Aa n ca rs hn h9 hc X nx cx l hnx hlw hin) ⟨rfl, rfl, rfl, trivial⟩ ?_) 
    iterate 2 refine pu rfl rfl rfl rfl rfl ?_
    exact tr_ret ⟨trivial, _, _, rfl, ⟨rfl, rfl⟩, CSub.nil _, trivial⟩
end Go.Proofs.YtoalphamojhpcaaGreat

set_option linter.unusedSimpArgs false
set_option linter.unusedVariables false
set_option maxRecDepth 100000
namespace Go.Proofs.YtoalphamojhpcaaGreat
open Go.RowKit
theorem ref_MFew_ent : Enters Tryz.prog 66 := enters_of Tryz.func66 (by kernel_rfl) (by kernel_rfl)
theorem ref_MFew (Aa : Option Addr) (n ca : Nat) (rs : List RowM) (hn : n = rs.length) (h9 : rs.length ≤ 17592186044415) (h8 : ∀ r ∈ rs, r.xs.length ≤ 17592186044415) :
    Pure Tryz.prog 66 #[.agg #[.int .i64 0, .slice Aa n ca], .int .i64 4200] [ro Aa (hdrs rs), rowsR rs] (val (fun v => ∃ b : Bool, v = .bool b ∧ (b = true → ∀ r ∈ rs, r.xs.length ≤ 4200))) := by
  refine pure_of (args := [.agg #[.int .i64 0, .slice Aa n ca], .int .i64 4200]) 45 Tryz.func66 rfl rfl rfl ref_MFew_ent ⟨id, id, trivial⟩ (fun w0 => ?_)
  refine tr_seq ?_
  refine tr_region fun _ _ _ => ?_
  refine ef rfl rfl (eBox rfl rfl rfl rfl rfl (fun p0 => ?_)) 
  refine pu rfl rfl rfl rfl rfl ?_
  refine tr_seq ?_
  refine tr_seq ?_
  refine tr_region fun _ _ _ => ?_
  refine st rfl rfl rfl rfl (rFld rfl rfl) ?_
  refine st rfl rfl rfl rfl (rLdF rfl rfl rfl) ?_
  iterate 2 refine pu rfl rfl rfl rfl rfl ?_
  refine stg rfl rfl rfl rfl rfl (fun hb => by (have hq := hb; try simp only [zbA] at hq); exact rFld rfl rfl) ?_
  refine stg rfl rfl rfl rfl rfl (fun hb => by (have hq := hb; try simp only [zbA] at hq); exact rLdF rfl (evg rfl hb) rfl) ?_
  refine stg rfl rfl rfl rfl rfl (fun hb => by (have hq := hb; try simp only [zbA] at hq); exact rLen rfl (evg rfl hb)) ?_
  refine stg rfl rfl rfl rfl rfl (fun hb => by (have hq := hb; try simp only [zbA] at hq); exact rMove rfl rfl) ?_
  refine stg rfl rfl rfl rfl rfl (fun hb => by (have hq := hb; try simp only [zbA] at hq); exact rGtr rfl (evg rfl hb) (evg rfl hb)) ?_
  refine st rfl rfl rfl rfl (rOrB rfl rfl rfl rfl) ?_
  refine tr_cond_bool rfl (fun h1 => ?_) (fun h1 => ?_)
  · try simp only [zbA] at h1
    skip
    refine tr_seq ?_
    refine tr_region fun _ _ _ => ?_
    refine pu rfl rfl rfl rfl rfl ?_
    exact tr_ret ⟨trivial, _, _, rfl, ⟨rfl, false, rfl, fun h => by cases h⟩, CSub.nil _, trivial⟩
  · try simp only [zbA] at h1
    refine tr_skip ?_
    refine tr_seq ?_
    refine tr_region fun _ _ _ => ?_
    refine pu rfl rfl rfl rfl rfl ?_
    refine st rfl rfl rfl rfl (rFld rfl rfl) ?_
    refine st rfl rfl rfl rfl (rLdF rfl rfl rfl) ?_
    refine st rfl rfl rfl rfl (rLen rfl rfl) ?_
    refine st rfl rfl rfl rfl (rSub rfl rfl rfl (by omega) (by omega)) ?_
    refine pu rfl rfl rfl rfl rfl ?_
    refine tr_seq ?_
    refine tr_seq ?_
    refine tr_region fun _ _ _ => ?_
    refine pu rfl rfl rfl rfl rfl ?_
    refine tr_block ?_
    refine tr_loop2 (fun (k : Int) (lf : Int) => [(5, .int .i64 lf), (6, .int .i64 k), (2, .pointer (some p0))]) (fun (k : Int) (lf : Int) => [blk p0 87 [.int .i64 0, .slice Aa n ca], ro Aa (hdrs rs), rowsR rs]) (fun (k : Int) (lf : Int) => (0 ≤ k ∧ k ≤ n) ∧ (0 ≤ lf ∧ lf ≤ 4200) ∧ ∀ j : Nat, (j : Int) < k → (rs.getD j rowD).xs.length ≤ 4200) (fun (k : Int) (lf : Int) => (n - k).toNat) (0) (4200 - n) ⟨rfl, rfl, rfl, trivial⟩ (by first | exact cs _ _ | exact CSub.refl _) (⟨⟨by omega, by omega⟩, ⟨by omega, by omega⟩, fun j hj => by omega⟩) (fun k lf hI => ?_)
    obtain ⟨⟨hk0, hk1⟩, ⟨hf0, hf1⟩, hall⟩ := hI
    refine tr_seq ?_
    refine tr_seq ?_
    refine tr_region fun _ _ _ => ?_
    refine pu rfl rfl rfl rfl rfl ?_
    refine st rfl rfl rfl rfl (rFld rfl rfl) ?_
    refine st rfl rfl rfl rfl (rLdF rfl rfl rfl) ?_
    refine st rfl rfl rfl rfl (rLen rfl rfl) ?_
    refine pu rfl rfl rfl rfl rfl ?_
    refine tr_cond_bool rfl (fun h5 => ?_) (fun h5 => ?_)
    · try simp only [zbA] at h5
      refine tr_skip ?_
      refine tr_seq ?_
      refine tr_block ?_
      refine tr_seq ?_
      refine tr_seq ?_
      haveI : InB k.toNat rs.length := ⟨by omega⟩
      have hk8 := h8 _ (getD_mem (show k.toNat < rs.length by omega) rowD)
      refine tr_region fun _ _ _ => ?_
      refine st rfl rfl rfl rfl (rFld rfl rfl) ?_
      refine st rfl rfl rfl rfl (rLdF rfl rfl rfl) ?_
      refine pu rfl rfl rfl rfl rfl ?_
      refine st rfl rfl rfl rfl (rIdxR rfl rfl rfl (by omega) (by omega) (by omega)) ?_
      refine st rfl rfl rfl rfl (rLdR rfl rfl (by omega)) ?_
      refine st rfl rfl rfl rfl (rLen rfl rfl) ?_
      iterate 2 refine pu rfl rfl rfl rfl rfl ?_
      refine tr_cond_bool rfl (fun h7 => ?_) (fun h7 => ?_)
      · try simp only [zbA] at h7
        refine tr_seq ?_
        refine tr_region fun _ _ _ => ?_
        refine pu rfl rfl rfl rfl rfl ?_
        exact tr_ret ⟨trivial, _, _, rfl, ⟨rfl, false, rfl, fun h => by cases h⟩, CSub.nil _, trivial⟩
      · try simp only [zbA] at h7
        refine tr_skip ?_
        refine tr_region fun _ _ _ => ?_
        refine pu rfl rfl rfl rfl rfl ?_
        refine st rfl rfl rfl rfl (rFld rfl rfl) ?_
        refine st rfl rfl rfl rfl (rLdF rfl rfl rfl) ?_
        refine pu rfl rfl rfl rfl rfl ?_
        refine st rfl rfl rfl rfl (rIdxR rfl rfl rfl (by omega) (by omega) (by omega)) ?_
        refine st rfl rfl rfl rfl (rLdR rfl rfl (by omega)) ?_
        refine st rfl rfl rfl rfl (rLen rfl rfl) ?_
        refine st rfl rfl rfl rfl (rSub rfl rfl rfl (by omega) (by omega)) ?_
        refine pu rfl rfl rfl rfl rfl ?_
        refine tr_region fun _ _ _ => ?_
        refine pu rfl rfl rfl rfl rfl ?_
        refine st rfl rfl rfl rfl (rAdd rfl rfl rfl (by omega) (by omega)) ?_
        refine pu rfl rfl rfl rfl rfl ?_
        refine ⟨k + 1, lf - (rs.getD k.toNat rowD).xs.length, ⟨rfl, rfl, rfl, trivial⟩, by first | exact cs _ _ | exact CSub.refl _, ?_⟩
        refine ⟨⟨⟨by omega, by omega⟩, ⟨by omega, by omega⟩, fun j hj => ?_⟩, by omega⟩
        by_cases he : (j : Int) = k
        · have : j = k.toNat := by omega
          subst this; omega
        · exact hall j (by omega)
    · try simp only [zbA] at h5
      refine tr_exit ?_
      refine tr_seq ?_
      refine tr_region fun _ _ _ => ?_
      refine pu rfl rfl rfl rfl rfl ?_
      exact tr_ret ⟨trivial, _, _, rfl, ⟨rfl, true, rfl, fun _ => xss_all.1 (xss_get (φ := fun r => r.length ≤ 4200) fun j hj => hall j (by omega))⟩, CSub.nil _, trivial⟩
theorem ref_CFew_ent : Enters Tryz.prog 30 := enters_of Tryz.func30 (by kernel_rfl) (by kernel_rfl)
theorem ref_CFew (p m : Int) (A : Option Addr) (c : Nat) (mod : List Int) (hl9 : mod.length ≤ 17592186044415) (w : Int) (Aa : Option Addr) (n ca : Nat) (rs : List RowM) (hn : n = rs.length) (h9 : rs.length ≤ 17592186044415) (h8 : ∀ r ∈ rs, r.xs.length ≤ 17592186044415) :
    Pure Tryz.prog 30 #[.agg #[.int .i64 p, .int .i64 m, .slice A mod.length c, .int .i64 w, .slice Aa n ca], .int .i64 4200] [ro Aa (hdrs rs), rowsR rs] (val (fun v => ∃ b : Bool, v = .bool b ∧ (b = true → ∀ r ∈ rs, r.xs.length ≤ 4200))) := by
  refine pure_of (args := [.agg #[.int .i64 p, .int .i64 m, .slice A mod.length c, .int .i64 w, .slice Aa n ca], .int .i64 4200]) 10 Tryz.func30 rfl rfl rfl ref_CFew_ent ⟨id, id, trivial⟩ (fun w0 => ?_)
  refine tr_seq ?_
  refine tr_region fun _ _ _ => ?_
  refine ef rfl rfl (eBox rfl rfl rfl rfl rfl (fun p0 => ?_)) 
  refine pu rfl rfl rfl rfl rfl ?_
  refine tr_seq ?_
  refine tr_region fun _ _ _ => ?_
  refine st rfl rfl rfl rfl (rFld rfl rfl) ?_
  refine st rfl rfl rfl rfl (rLdF rfl rfl rfl) ?_
  refine st rfl rfl rfl rfl (rBuild rfl rfl) ?_
  refine pu rfl rfl rfl rfl rfl ?_
  refine ef rfl rfl (eCall0 rfl rfl rfl (ref_MFew Aa n ca rs hn h9 h8) ⟨rfl, rfl, trivial⟩ ?_) 
  rintro _ ⟨b, rfl, hb⟩
  refine pu rfl rfl rfl rfl rfl ?_
  exact tr_ret ⟨trivial, _, _, rfl, ⟨rfl, b, rfl, hb⟩, CSub.nil _, trivial⟩
end Go.Proofs.YtoalphamojhpcaaGreat

set_option linter.unusedSimpArgs false
set_option linter.unusedVariables false
set_option maxRecDepth 100000
namespace Go.Proofs.YtoalphamojhpcaaGreat
open Go.RowKit
theorem ref_Combine_ent : Enters Tryz.prog 46 := enters_of Tryz.func46 (by kernel_rfl) (by kernel_rfl)
theorem ref_Combine (p m : Int) (A : Option Addr) (c : Nat) (mod : List Int) [hF : IsF p m mod] (X : Option Addr) (nx cx : Nat) (x : List Int) (hnx : nx = x.length) (w : Int) (hw0 : 0 ≤ w) (hw9 : w ≤ 1000) (Aa : Option Addr) (n ca : Nat) (rs : List RowM) (hn : n = rs.length) (hx : x.length = rs.length) (h9 : rs.length ≤ 1000000) (hgd : Gd (pw p m) w.toNat rs) :
    Pure Tryz.prog 46 #[.agg #[.int .i64 p, .int .i64 m, .slice A mod.length c], .slice X nx cx, .slice Aa n ca, .int .i64 w] [ro A (ints mod), ro X (ints x), ro Aa (hdrs rs), rowsR rs] (one (fun v ch => ∃ B cb o, v = .slice B o.length cb ∧ ch = ow B 3 cb (ints o) ∧ (o.length : Int) = w ∧ AllIn (pw p m) o ∧ (rw' o : Vc (El p m mod)) = Vc.cmb (fun i => el (x.getD i 0)) (vsR rs))) := by
  have hq2 := hF.q2
  refine pure_of (args := [.agg #[.int .i64 p, .int .i64 m, .slice A mod.length c], .slice X nx cx, .slice Aa n ca, .int .i64 w]) 42 Tryz.func46 rfl rfl rfl ref_Combine_ent ⟨id, id, id, id, trivial⟩ (fun w0 => ?_)
  refine tr_seq ?_
  refine tr_region fun _ _ _ => ?_
  refine ef rfl rfl (eBox rfl rfl rfl rfl rfl (fun p0 => ?_)) 
  refine pu rfl rfl rfl rfl rfl ?_
  refine tr_seq ?_
  refine tr_region fun _ _ _ => ?_
  refine pu rfl rfl rfl rfl rfl ?_
  refine ef rfl rfl (eMakeI rfl rfl rfl rfl rfl (by omega) (by omega) (by omega) (fun A1 => ?_)) 
  refine pu rfl rfl rfl rfl rfl ?_
  refine tr_seq ?_
  refine tr_seq ?_
  refine tr_region fun _ _ _ => ?_
  refine pu rfl rfl rfl rfl rfl ?_
  refine tr_block ?_
  refine tr_loop5 (fun (k : Int) (B : Option Addr) (cb : Nat) (no : Nat) (o : List Int) => [(9, .slice B no cb), (10, .int .i64 k), (1, .slice X nx cx), (2, .slice Aa n ca), (4, .pointer (some p0)), (8, .slice none 0 0)]) (fun (k : Int) (B : Option Addr) (cb : Nat) (no : Nat) (o : List Int) => [ow B 3 cb (ints o), blk p0 24 [.int .i64 p, .int .i64 m, .slice A mod.length c], ro A (ints mod), ro X (ints x), ro Aa (hdrs rs), rowsR rs]) (fun (k : Int) (B : Option Addr) (cb : Nat) (no : Nat) (o : List Int) => (0 ≤ k ∧ k ≤ n) ∧ no = o.length ∧ ((o.length : Int) = w ∧ AllIn (pw p m) o) ∧ (rw' o : Vc (El p m mod)) = Vc.cmb (Vc.upC (fun i => (el (x.getD i 0) : El p m mod)) k.toNat) (vsR rs)) (fun (k : Int) (B : Option Addr) (cb : Nat) (no : Nat) (o : List Int) => (n - k).toNat) (0) (A1) (w.toNat) (w.toNat) (List.replicate w.toNat 0) ⟨rfl, rfl, rfl, rfl, rfl, rfl, trivial⟩ (by first | exact cs _ _ | exact CSub.refl _) (⟨⟨by omega, by omega⟩, by simp, ⟨by simp; omega, allIn_rep (by omega) _⟩, by rw [Int.toNat_zero, Vc.cmb_up_zero]; exact Vc.ext fun j => by rw [rw_at, rep_get, el_zero]; rfl⟩) (fun k B cb no o hI => ?_)
  obtain ⟨⟨hk0, hk1⟩, hno, ⟨hol, hoi⟩, hoe⟩ := hI
  refine tr_seq ?_
  refine tr_seq ?_
  refine tr_region fun _ _ _ => ?_
  iterate 2 refine pu rfl rfl rfl rfl rfl ?_
  refine st rfl rfl rfl rfl (rLen rfl rfl) ?_
  iterate 2 refine pu rfl rfl rfl rfl rfl ?_
  refine stg rfl rfl rfl rfl rfl (fun hb => by (have hq := hb; try simp only [zbA] at hq); exact rMove rfl rfl) ?_
  refine stg rfl rfl rfl rfl rfl (fun hb => by (have hq := hb; try simp only [zbA] at hq); exact rMove rfl rfl) ?_
  refine stg rfl rfl rfl rfl rfl (fun hb => by (have hq := hb; try simp only [zbA] at hq); exact rLen rfl (evg rfl hb)) ?_
  refine stg rfl rfl rfl rfl rfl (fun hb => by (have hq := hb; try simp only [zbA] at hq); exact rLss rfl (evg rfl hb) (evg rfl hb)) ?_
  refine st rfl rfl rfl rfl (rAndB rfl rfl rfl rfl) ?_
  refine tr_cond_bool rfl (fun h3 => ?_) (fun h3 => ?_)
  · try simp only [zbA] at h3
    refine tr_skip ?_
    refine tr_seq ?_
    refine tr_block ?_
    refine tr_seq ?_
    haveI : InB k.toNat rs.length := ⟨by omega⟩
    have hgk := hgd.get (show k.toNat < rs.length by omega)
    have hgk1 := hgk.1
    refine tr_region fun _ _ _ => ?_
    iterate 2 refine pu rfl rfl rfl rfl rfl ?_
    refine st rfl rfl rfl rfl (rIdxI rfl rfl rfl (by omega) (by omega) (by omega)) ?_
    refine st rfl rfl rfl rfl (rLdI rfl rfl (by omega)) ?_
    refine pu rfl rfl rfl rfl rfl ?_
    refine tr_cond_bool rfl (fun h5 => ?_) (fun h5 => ?_)
    · try simp only [zbA] at h5
      refine tr_draw [0, 1, 2, 3, 4, 5, 6, 7, 8, 9, 10, 11] [] mixed (by kernel_rfl) fun _ _ _ => ?_
      refine st rfl rfl rfl rfl (rLdS rfl rfl rfl) ?_
      iterate 3 refine pu rfl rfl rfl rfl rfl ?_
      refine st rfl rfl rfl rfl (rIdxI rfl rfl rfl (by omega) (by omega) (by omega)) ?_
      refine st rfl rfl rfl rfl (rLdI rfl rfl (by omega)) ?_
      iterate 2 refine pu rfl rfl rfl rfl rfl ?_
      refine st rfl rfl rfl rfl (rIdxR rfl rfl rfl (by omega) (by omega) (by omega)) ?_
      refine st rfl rfl rfl rfl (rLdR rfl rfl (by omega)) ?_
      refine ef rfl rfl (eCall1 rfl rfl rfl (ref_AddTo _ _ _ _ _ B no cb o hno (by omega) _ _ _ _ (rs.getD k.toNat rowD).xs rfl (by omega) hoi) ⟨rfl, rfl, rfl, rfl, trivial⟩ ?_) 
      rintro _ _ ⟨B6, rfl, rfl⟩
      refine pu rfl rfl rfl rfl rfl ?_
      refine tr_region fun _ _ _ => ?_
      refine pu rfl rfl rfl rfl rfl ?_
      refine st rfl rfl rfl rfl (rAdd rfl rfl rfl (by omega) (by omega)) ?_
      refine pu rfl rfl rfl rfl rfl ?_
      refine ⟨k + 1, B6, no, no, addR (el (x.getD k.toNat 0) : El p m mod) o (rs.getD k.toNat rowD).xs, ⟨rfl, rfl, rfl, rfl, rfl, rfl, trivial⟩, by first | exact cs _ _ | exact CSub.refl _, ?_⟩
      refine ⟨⟨⟨by omega, by omega⟩, by simpa using hno, ⟨by simpa using hol, addR_in _ _ _⟩, ?_⟩, by omega⟩
      rw [show (k + 1).toNat = k.toNat + 1 by omega, Vc.cmb_up_succ _ (by rw [vsR_length]; omega), rw_addR _ _ _ (by omega), hoe, vsR_get]
    · try simp only [zbA] at h5
      refine tr_skip ?_
      refine tr_region fun _ _ _ => ?_
      refine pu rfl rfl rfl rfl rfl ?_
      refine st rfl rfl rfl rfl (rAdd rfl rfl rfl (by omega) (by omega)) ?_
      refine pu rfl rfl rfl rfl rfl ?_
      refine ⟨k + 1, B, cb, no, o, ⟨rfl, rfl, rfl, rfl, rfl, rfl, trivial⟩, by first | exact cs _ _ | exact CSub.refl _, ?_⟩
      have hz : x.getD k.toNat 0 = 0 := by omega
      refine ⟨⟨⟨by omega, by omega⟩, hno, ⟨hol, hoi⟩, ?_⟩, by omega⟩
      rw [show (k + 1).toNat = k.toNat + 1 by omega, Vc.cmb_up_succ _ (by rw [vsR_length]; omega), hoe, hz, el_zero, Vc.zero_sc, Vc.add_zero]
  · try simp only [zbA] at h3
    refine tr_exit ?_
    refine tr_seq ?_
    refine tr_region fun _ _ _ => ?_
    iterate 2 refine pu rfl rfl rfl rfl rfl ?_
    have hkn : k.toNat = rs.length := by omega
    rw [Vc.cmb_up_all _ (by rw [vsR_length]; omega)] at hoe
    subst hno
    exact tr_ret ⟨trivial, _, _, rfl, ⟨_, rfl, B, cb, o, rfl, rfl, hol, hoi, hoe⟩, cs _ _, trivial, trivial⟩
end Go.Proofs.YtoalphamojhpcaaGreat

set_option linter.unusedSimpArgs false
set_option linter.unusedVariables false
set_option maxRecDepth 100000
namespace Go.Proofs.YtoalphamojhpcaaGreat
open Go.RowKit
def wtL (o : List Int) : Nat := ((List.range o.length).filter fun p => decide (o.getD p 0 ≠ 0)).length
def wtT (o : List Int) (k : Nat) : Nat := ((List.range k).filter fun p => decide (o.getD p 0 ≠ 0)).length
theorem wtT_yes {o : List Int} {k : Nat} (h : o.getD k 0 ≠ 0) : wtT o (k + 1) = wtT o k + 1 := by
  unfold wtT
  rw [List.range_succ, List.filter_append, List.length_append, List.filter_cons, if_pos (by simpa using h)]; rfl
theorem wtT_no {o : List Int} {k : Nat} (h : o.getD k 0 = 0) : wtT o (k + 1) = wtT o k := by
  unfold wtT
  rw [List.range_succ, List.filter_append, List.length_append, List.filter_cons, if_neg (by simpa using h)]; rfl
theorem wtT_le (o : List Int) (k : Nat) : wtT o k ≤ k := by
  unfold wtT
  refine Nat.le_trans (List.length_filter_le _ _) ?_
  rw [List.length_range]; exact Nat.le_refl _
theorem ref_Weight_ent : Enters Tryz.prog 43 := enters_of Tryz.func43 (by kernel_rfl) (by kernel_rfl)
theorem ref_Weight (X : Option Addr) (nx cx : Nat) (o : List Int) (hnx : nx = o.length) (h9 : o.length ≤ 1000000) :
    Pure Tryz.prog 43 #[.slice X nx cx] [ro X (ints o)] (isV (.int .i64 (wtL o : Int))) := by
  refine pure_of (args := [.slice X nx cx]) 19 Tryz.func43 rfl rfl rfl ref_Weight_ent ⟨id, trivial⟩ (fun w0 => ?_)
  refine tr_seq ?_
  refine tr_region fun _ _ _ => ?_
  refine pu rfl rfl rfl rfl rfl ?_
  refine tr_seq ?_
  refine tr_region fun _ _ _ => ?_
  refine pu rfl rfl rfl rfl rfl ?_
  refine tr_seq ?_
  refine tr_seq ?_
  refine tr_region fun _ _ _ => ?_
  refine pu rfl rfl rfl rfl rfl ?_
  refine tr_block ?_
  refine tr_loop2 (fun (k : Int) (z : Int) => [(3, .int .i64 z), (4, .int .i64 k), (0, .slice X nx cx), (2, .int .i64 0)]) (fun (k : Int) (z : Int) => [ro X (ints o)]) (fun (k : Int) (z : Int) => (0 ≤ k ∧ k ≤ nx) ∧ z = (wtT o k.toNat : Int)) (fun (k : Int) (z : Int) => (nx - k).toNat) (0) (0) ⟨rfl, rfl, rfl, rfl, trivial⟩ (by first | exact cs _ _ | exact CSub.refl _) (⟨⟨by omega, by omega⟩, rfl⟩) (fun k z hI => ?_)
  obtain ⟨⟨hk0, hk1⟩, hz⟩ := hI
  have hwk := wtT_le o k.toNat
  have hkk : (k + 1).toNat = k.toNat + 1 := by omega
  refine tr_seq ?_
  refine tr_seq ?_
  refine tr_region fun _ _ _ => ?_
  iterate 2 refine pu rfl rfl rfl rfl rfl ?_
  refine st rfl rfl rfl rfl (rLen rfl rfl) ?_
  refine pu rfl rfl rfl rfl rfl ?_
  refine tr_cond_bool rfl (fun h3 => ?_) (fun h3 => ?_)
  · try simp only [zbA] at h3
    refine tr_skip ?_
    refine tr_seq ?_
    refine tr_block ?_
    refine tr_seq ?_
    refine tr_region fun _ _ _ => ?_
    iterate 2 refine pu rfl rfl rfl rfl rfl ?_
    refine st rfl rfl rfl rfl (rIdxI rfl rfl rfl (by omega) (by omega) (by omega)) ?_
    refine st rfl rfl rfl rfl (rLdI rfl rfl (by omega)) ?_
    refine pu rfl rfl rfl rfl rfl ?_
    refine tr_cond_bool rfl (fun h5 => ?_) (fun h5 => ?_)
    · try simp only [zbA] at h5
      refine tr_region fun _ _ _ => ?_
      refine pu rfl rfl rfl rfl rfl ?_
      refine st rfl rfl rfl rfl (rAdd rfl rfl rfl (by omega) (by omega)) ?_
      refine pu rfl rfl rfl rfl rfl ?_
      refine tr_region fun _ _ _ => ?_
      refine pu rfl rfl rfl rfl rfl ?_
      refine st rfl rfl rfl rfl (rAdd rfl rfl rfl (by omega) (by omega)) ?_
      refine pu rfl rfl rfl rfl rfl ?_
      refine ⟨k + 1, z + 1, ⟨rfl, rfl, rfl, rfl, trivial⟩, by first | exact cs _ _ | exact CSub.refl _, ?_⟩
      exact ⟨⟨⟨by omega, by omega⟩, by rw [hkk, wtT_yes (by omega), hz]; rfl⟩, by omega⟩
    · try simp only [zbA] at h5
      refine tr_skip ?_
      refine tr_region fun _ _ _ => ?_
      refine pu rfl rfl rfl rfl rfl ?_
      refine st rfl rfl rfl rfl (rAdd rfl rfl rfl (by omega) (by omega)) ?_
      refine pu rfl rfl rfl rfl rfl ?_
      refine ⟨k + 1, z, ⟨rfl, rfl, rfl, rfl, trivial⟩, by first | exact cs _ _ | exact CSub.refl _, ?_⟩
      exact ⟨⟨⟨by omega, by omega⟩, by rw [hkk, wtT_no (by omega), hz]⟩, by omega⟩
  · try simp only [zbA] at h3
    refine tr_exit ?_
    refine tr_seq ?_
    refine tr_region fun _ _ _ => ?_
    iterate 2 refine pu rfl rfl rfl rfl rfl ?_
    have hkn : k.toNat = o.length := by omega
    exact tr_ret ⟨trivial, _, _, rfl, ⟨by rw [hz, hkn]; rfl, rfl⟩, CSub.nil _, trivial⟩
theorem ref_Of_ent : Enters Tryz.prog 19 := enters_of Tryz.func19 (by kernel_rfl) (by kernel_rfl)
theorem ref_Of (p m : Int) (A : Option Addr) (c : Nat) (mod : List Int) [hF : IsF p m mod] (w : Int) (Aa : Option Addr) (n ca : Nat) (rs : List RowM) (hn : n = rs.length) (h9 : rs.length ≤ 256) (hc : CodeOk p m mod w rs) (X : Option Addr) (nx cx : Nat) (l : List Int) (hnx : nx = l.length) (hl : l.length ≤ 17592186044415) :
    Pure Tryz.prog 19 #[.agg #[.int .i64 p, .int .i64 m, .slice A mod.length c, .int .i64 w, .slice Aa n ca], .slice X nx cx] [ro A (ints mod), ro Aa (hdrs rs), rowsR rs, ro X (ints l)] (one (fun v ch => ∃ B cb o, v = .slice B o.length cb ∧ ch = ow B 3 cb (ints o) ∧ (o.length : Int) = w ∧ AllIn (pw p m) o ∧ Vc.SpL (vsR rs : List (Vc (El p m mod))) (rw' o))) := by
  have hn1 := hc.n1
  have hn64 := hc.n64
  have hgd := hc.good
  have hq2 := hF.q2
  have hlen := hc.len
  refine pure_of (args := [.agg #[.int .i64 p, .int .i64 m, .slice A mod.length c, .int .i64 w, .slice Aa n ca], .slice X nx cx]) 41 Tryz.func19 rfl rfl rfl ref_Of_ent ⟨id, id, id, id, trivial⟩ (fun w0 => ?_)
  refine tr_seq ?_
  refine tr_region fun _ _ _ => ?_
  refine ef rfl rfl (eBox rfl rfl rfl rfl rfl (fun p0 => ?_)) 
  refine pu rfl rfl rfl rfl rfl ?_
  refine tr_seq ?_
  refine tr_region fun _ _ _ => ?_
  refine st rfl rfl rfl rfl (rFld rfl rfl) ?_
  refine st rfl rfl rfl rfl (rLdF rfl rfl rfl) ?_
  refine st rfl rfl rfl rfl (rLen rfl rfl) ?_
  refine ef rfl rfl (eMakeI rfl rfl rfl rfl rfl (by omega) (by omega) (by omega) (fun A1 => ?_)) 
  refine pu rfl rfl rfl rfl rfl ?_
  refine tr_seq ?_
  refine tr_seq ?_
  refine tr_region fun _ _ _ => ?_
  refine pu rfl rfl rfl rfl rfl ?_
  refine tr_block ?_
  refine tr_loop2 (fun (k : Int) (x : List Int) => [(5, .slice A1 n n), (6, .int .i64 k), (1, .slice X nx cx), (2, .pointer (some p0)), (4, .slice none 0 0)]) (fun (k : Int) (x : List Int) => [ow A1 3 n (ints x), blk p0 27 [.int .i64 p, .int .i64 m, .slice A mod.length c, .int .i64 w, .slice Aa n ca], ro A (ints mod), ro Aa (hdrs rs), rowsR rs, ro X (ints l)]) (fun (k : Int) (x : List Int) => (0 ≤ k ∧ k ≤ n) ∧ x.length = n) (fun (k : Int) (x : List Int) => (n - k).toNat) (0) (List.replicate n 0) ⟨rfl, rfl, rfl, rfl, rfl, trivial⟩ (by first | exact cs _ _ | exact CSub.refl _) (⟨⟨by omega, by omega⟩, by simp⟩) (fun k x hI => ?_)
  obtain ⟨⟨hk0, hk1⟩, hxl0⟩ := hI
  refine tr_seq ?_
  refine tr_seq ?_
  refine tr_region fun _ _ _ => ?_
  iterate 2 refine pu rfl rfl rfl rfl rfl ?_
  refine st rfl rfl rfl rfl (rLen rfl rfl) ?_
  iterate 2 refine pu rfl rfl rfl rfl rfl ?_
  refine stg rfl rfl rfl rfl rfl (fun hb => by (have hq := hb; try simp only [zbA] at hq); exact rMove rfl rfl) ?_
  refine stg rfl rfl rfl rfl rfl (fun hb => by (have hq := hb; try simp only [zbA] at hq); exact rMove rfl rfl) ?_
  refine stg rfl rfl rfl rfl rfl (fun hb => by (have hq := hb; try simp only [zbA] at hq); exact rLen rfl (evg rfl hb)) ?_
  refine stg rfl rfl rfl rfl rfl (fun hb => by (have hq := hb; try simp only [zbA] at hq); exact rLss rfl (evg rfl hb) (evg rfl hb)) ?_
  refine st rfl rfl rfl rfl (rAndB rfl rfl rfl rfl) ?_
  refine tr_cond_bool rfl (fun h3 => ?_) (fun h3 => ?_)
  · try simp only [zbA] at h3
    refine tr_skip ?_
    refine tr_seq ?_
    refine tr_block ?_
    refine tr_draw [0, 1, 2, 3, 4, 5, 6, 7, 8, 9] [10] mixed (by kernel_rfl) fun _ _ _ => ?_
    iterate 2 refine pu rfl rfl rfl rfl rfl ?_
    refine st rfl rfl rfl rfl (rFld rfl rfl) ?_
    refine st rfl rfl rfl rfl (rLdSF rfl rfl) ?_
    iterate 2 refine pu rfl rfl rfl rfl rfl ?_
    refine st rfl rfl rfl rfl (rIdxI rfl rfl rfl (by omega) (by omega) (by omega)) ?_
    refine st rfl rfl rfl rfl (rLdI rfl rfl (by omega)) ?_
    refine ef rfl rfl (eCallV rfl rfl rfl (ref_In _ _ _ _ _ _) ⟨rfl, rfl, trivial⟩ ?_) 
    refine st rfl rfl rfl rfl (rIdxI rfl rfl rfl (by omega) (by omega) (by omega)) ?_
    refine ef rfl rfl (eStI rfl rfl rfl rfl (by omega) ?_) 
    refine tr_region fun _ _ _ => ?_
    refine pu rfl rfl rfl rfl rfl ?_
    refine st rfl rfl rfl rfl (rAdd rfl rfl rfl (by omega) (by omega)) ?_
    refine pu rfl rfl rfl rfl rfl ?_
    refine ⟨k + 1, x.set k.toNat (inI (ordI p m) (l.getD k.toNat 0)), ⟨rfl, rfl, rfl, rfl, rfl, trivial⟩, by first | exact cs _ _ | exact CSub.refl _, ?_⟩
    exact ⟨⟨⟨by omega, by omega⟩, by simpa using hxl0⟩, by omega⟩
  · try simp only [zbA] at h3
    refine tr_exit ?_
    refine tr_seq ?_
    have hxn : n = x.length := by omega
    have hxl : x.length = rs.length := by omega
    refine tr_region fun _ _ _ => ?_
    refine st rfl rfl rfl rfl (rFld rfl rfl) ?_
    refine st rfl rfl rfl rfl (rLdSF rfl rfl) ?_
    refine pu rfl rfl rfl rfl rfl ?_
    refine st rfl rfl rfl rfl (rFld rfl rfl) ?_
    refine st rfl rfl rfl rfl (rLdF rfl rfl rfl) ?_
    refine st rfl rfl rfl rfl (rFld rfl rfl) ?_
    refine st rfl rfl rfl rfl (rLdF rfl rfl rfl) ?_
    refine ef rfl rfl (eCall1 rfl rfl rfl (ref_Combine _ _ _ _ _ A1 _ _ x hxn w (by omega) (by omega) Aa _ ca rs hn hxl (by omega) hgd) ⟨rfl, rfl, rfl, rfl, trivial⟩ ?_) 
    rintro _ _ ⟨Bo, cb, o, rfl, rfl, hol, hoi, hoe⟩
    refine pu rfl rfl rfl rfl rfl ?_
    exact tr_ret ⟨trivial, _, _, rfl, ⟨_, rfl, Bo, cb, o, rfl, rfl, by omega, hoi, hoe ▸ Vc.cmb_sp _ _⟩, cs _ _, trivial, trivial⟩
end Go.Proofs.YtoalphamojhpcaaGreat

set_option linter.unusedSimpArgs false
set_option linter.unusedVariables false
set_option linter.unusedSectionVars false
namespace Go.Proofs.YtoalphamojhpcaaGreat
open Rg
namespace Vc
variable {K : Type} [Fd K]
def pk (S : List Nat) (u : Vc K) : Vc K := fun j => if j < S.length then u (S.getD j 0) else 0
end Vc
end Go.Proofs.YtoalphamojhpcaaGreat

set_option linter.unusedSimpArgs false
set_option linter.unusedVariables false
namespace Go.Proofs.YtoalphamojhpcaaGreat
def amin (r : List Int) : Nat → Nat
  | 0 => 0
  | k + 1 => if r.getD k 0 < r.getD (amin r k) 0 then k else amin r k
def sec (r : List Int) (b : Nat) : Nat → Int
  | 0 => -1
  | k + 1 => if k ≠ b ∧ (sec r b k < 0 ∨ r.getD k 0 < sec r b k) then r.getD k 0 else sec r b k
def hardI (r : List Int) : Nat := amin r r.length
def relI (r : List Int) : Int := sec r (hardI r) r.length - r.getD (hardI r) 0
theorem amin_lt {r : List Int} (h : 0 < r.length) : ∀ k, k ≤ r.length → amin r k < r.length
  | 0, _ => h
  | k + 1, hk => by
    have := amin_lt h k (by omega)
    rw [amin]; split <;> omega
theorem amin_min (r : List Int) : ∀ k j, j < k → r.getD (amin r k) 0 ≤ r.getD j 0
  | k + 1, j, hj => by
    rw [amin]
    have ih := amin_min r k
    split
    · rename_i h
      rcases Nat.lt_or_ge j k with h1 | h1
      · have := ih j h1; omega
      · have : j = k := by omega
        subst this; exact Int.le_refl _
    · rename_i h
      rcases Nat.lt_or_ge j k with h1 | h1
      · exact ih j h1
      · have : j = k := by omega
        subst this; omega
theorem hardI_lt {r : List Int} (h : 0 < r.length) : hardI r < r.length := amin_lt h _ (Nat.le_refl _)
theorem hardI_min {r : List Int} {j : Nat} (h : j < r.length) : r.getD (hardI r) 0 ≤ r.getD j 0 := amin_min r _ j h
theorem sec_bd {r : List Int} {b : Nat} {M : Int} (hr : ∀ x ∈ r, 0 ≤ x ∧ x ≤ M) (hM : 0 ≤ M) : ∀ k, k ≤ r.length → -1 ≤ sec r b k ∧ sec r b k ≤ M
  | 0, _ => by rw [sec]; omega
  | k + 1, hk => by
    have ih := sec_bd (b := b) hr hM k (by omega)
    have := hr (r.getD k 0) (by
      rw [List.getD_eq_getElem?_getD, List.getElem?_eq_getElem (by omega)]
      exact List.getElem_mem _)
    rw [sec]; split <;> omega
theorem sec_nn {r : List Int} {b : Nat} (hr : ∀ x ∈ r, 0 ≤ x) : ∀ k, k ≤ r.length → (∃ j, j < k ∧ j ≠ b) → 0 ≤ sec r b k
  | 0, _, h => by obtain ⟨j, hj, _⟩ := h; omega
  | k + 1, hk, h => by
    have h0 := hr (r.getD k 0) (by
      rw [List.getD_eq_getElem?_getD, List.getElem?_eq_getElem (by omega)]
      exact List.getElem_mem _)
    rw [sec]
    split
    · exact h0
    · rename_i hn
      by_cases hkb : k = b
      · obtain ⟨j, hj, hjb⟩ := h
        exact sec_nn hr k (by omega) ⟨j, by omega, hjb⟩
      · have : ¬ (sec r b k < 0 ∨ r.getD k 0 < sec r b k) := fun h2 => hn ⟨hkb, h2⟩
        omega
theorem sec_le {r : List Int} {b : Nat} (hr : ∀ x ∈ r, 0 ≤ x) : ∀ k, k ≤ r.length → ∀ j, j < k → j ≠ b → sec r b k ≤ r.getD j 0
  | k + 1, hk, j, hj, hb => by
    rw [sec]
    have ih := sec_le (b := b) hr k (by omega)
    split
    · rename_i h
      rcases Nat.lt_or_ge j k with h1 | h1
      · have := ih j h1 hb
        have h2 := sec_nn hr k (by omega) ⟨j, h1, hb⟩
        rcases h.2 with h3 | h3 <;> omega
      · have : j = k := by omega
        subst this; exact Int.le_refl _
    · rename_i h
      rcases Nat.lt_or_ge j k with h1 | h1
      · exact ih j h1 hb
      · have : j = k := by omega
        subst this
        have : ¬ (sec r b j < 0 ∨ r.getD j 0 < sec r b j) := fun h2 => h ⟨hb, h2⟩
        omega
def ordR (q : Int) : List (List Int) → Int
  | [] => 0
  | r :: t => if (r.length : Int) ≠ q then 3 else if ∃ x ∈ r, x < 0 ∨ x > 2147483648 then 6 else ordR q t
theorem ordR_zero {q : Int} : ∀ {tb : List (List Int)}, ordR q tb = 0 → ∀ r ∈ tb, (r.length : Int) = q ∧ ∀ x ∈ r, 0 ≤ x ∧ x ≤ 2147483648
  | r :: t, h, s, hs => by
    rw [ordR] at h
    split at h
    · cases h
    · split at h
      · cases h
      · rename_i h1 h2
        rcases List.mem_cons.1 hs with rfl | hs
        · exact ⟨by omega, fun x hx => by
            have : ¬ (x < 0 ∨ x > 2147483648) := fun h3 => h2 ⟨x, hx, h3⟩
            omega⟩
        · exact ordR_zero h s hs
end Go.Proofs.YtoalphamojhpcaaGreat

set_option linter.unusedSimpArgs false
set_option linter.unusedVariables false
set_option linter.unusedSectionVars false
namespace Go.Proofs.YtoalphamojhpcaaGreat
open Go.RowKit
def lexLt (a b : List Int) : Prop := ∃ k, (∀ j, j < k → a.getD j 0 = b.getD j 0) ∧ a.getD k 0 < b.getD k 0
theorem lexLt.asym {a b : List Int} (h : lexLt a b) : ¬ lexLt b a := by
  rintro ⟨k', h1', h2'⟩
  obtain ⟨k, h1, h2⟩ := h
  rcases Nat.lt_trichotomy k k' with e | e | e
  · have := h1' k e; omega
  · subst e; omega
  · have := h1 k' e; omega
theorem lexLt.ne {a b : List Int} (h : lexLt a b) : a ≠ b := fun e => by
  subst e; exact h.asym h
theorem lex_total {a b : List Int} (hl : a.length = b.length) (hne : a ≠ b) : lexLt a b ∨ lexLt b a := by
  have : ∃ k, a.getD k 0 ≠ b.getD k 0 := Classical.byContradiction fun hno => hne (ext_getD hl fun j => Classical.byContradiction fun h => hno ⟨j, h⟩)
  obtain ⟨k, hk, hmin⟩ := nat_least this
  have hj : ∀ j, j < k → a.getD j 0 = b.getD j 0 := fun j hj => Classical.byContradiction fun h => hmin j hj h
  rcases Int.lt_or_gt_of_ne hk with h | h
  · exact .inl ⟨k, hj, h⟩
  · exact .inr ⟨k, fun j hj' => (hj j hj').symm, h⟩
def bet (cost : List Int → Int) (x y : List Int) : Prop := cost x < cost y ∨ (cost x = cost y ∧ lexLt x y)
def Bst (cost : List Int → Int) (S : List Int → Prop) (b : List Int) : Prop := S b ∧ ∀ y, S y → ¬ bet cost y b
theorem Bst.uniq {cost : List Int → Int} {S : List Int → Prop} {n : Nat} (hn : ∀ x, S x → x.length = n) {a b : List Int} (ha : Bst cost S a) (hb : Bst cost S b) : a = b := Classical.byContradiction fun hne => by
  have h1 := ha.2 b hb.1
  have h2 := hb.2 a ha.1
  unfold bet at h1 h2
  have e : cost a = cost b := by omega
  rcases lex_total (by rw [hn a ha.1, hn b hb.1]) hne with h | h
  · exact h2 (.inr ⟨e, h⟩)
  · exact h1 (.inr ⟨e.symm, h⟩)
theorem Bst.iff {cost : List Int → Int} {S T : List Int → Prop} {b : List Int} (h : Bst cost S b) (hi : ∀ x, S x ↔ T x) : Bst cost T b := ⟨(hi b).1 h.1, fun y hy => h.2 y ((hi y).2 hy)⟩
theorem Bst.le {cost : List Int → Int} {S : List Int → Prop} {b : List Int} (h : Bst cost S b) {y : List Int} (hy : S y) : cost b ≤ cost y := by
  have := h.2 y hy
  unfold bet at this
  omega
def StJ (cost : List Int → Int) (S : List Int → Prop) : Option (List Int) → Prop
  | none => ∀ y, ¬ S y
  | some b => Bst cost S b
theorem bet.trans {cost : List Int → Int} {x y z : List Int} (h : bet cost x y) (k : bet cost y z) : bet cost x z := by
  unfold bet at *
  rcases h with h | ⟨h, hl⟩
  · rcases k with k | ⟨k, _⟩ <;> exact .inl (by omega)
  · rcases k with k | ⟨k, kl⟩
    · exact .inl (by omega)
    · refine .inr ⟨by omega, ?_⟩
      obtain ⟨a, a1, a2⟩ := hl
      obtain ⟨b, b1, b2⟩ := kl
      rcases Nat.lt_trichotomy a b with e | e | e
      · exact ⟨a, fun j hj => (a1 j hj).trans (b1 j (by omega)), by rw [← b1 a e]; exact a2⟩
      · subst e; exact ⟨a, fun j hj => (a1 j hj).trans (b1 j hj), by omega⟩
      · exact ⟨b, fun j hj => (a1 j (by omega)).trans (b1 j hj), by rw [a1 b e]; exact b2⟩
theorem StJ.take {cost : List Int → Int} {S : List Int → Prop} {st : Option (List Int)} (h : StJ cost S st) {x : List Int} (hx : ∀ b, st = some b → bet cost x b) : StJ cost (fun y => S y ∨ y = x) (some x) := by
  refine ⟨.inr rfl, fun y hy hb => ?_⟩
  rcases hy with hy | rfl
  · match st, h, hx with
    | none, h, _ => exact h y hy
    | some b, h, hx => exact h.2 y hy (hb.trans (hx b rfl))
  · unfold bet at hb
    rcases hb with hb | ⟨_, hb⟩
    · omega
    · exact hb.ne rfl
theorem StJ.pass {cost : List Int → Int} {S : List Int → Prop} {b x : List Int} (h : StJ cost S (some b)) (hx : ¬ bet cost x b) : StJ cost (fun y => S y ∨ y = x) (some b) :=
  ⟨.inl h.1, fun y hy => by
    rcases hy with hy | rfl
    · exact h.2 y hy
    · exact hx⟩
theorem StJ.iff {cost : List Int → Int} {S T : List Int → Prop} {st : Option (List Int)} (h : StJ cost S st) (hi : ∀ x, S x ↔ T x) : StJ cost T st := by
  match st, h with
  | none, h => exact fun y hy => h y ((hi y).2 hy)
  | some b, h => exact Bst.iff h hi
section
variable {K : Type} [Fd K]
open Vc
inductive Rch (R : List (Vc K)) : Nat → Nat → Vc K → Vc K → Prop
  | stop (i more : Nat) (w : Vc K) : Rch R i more w w
  | skip {i more : Nat} {w x : Vc K} : i < R.length → Rch R (i + 1) more w x → Rch R i more w x
  | go {i more : Nat} {w x : Vc K} (a : K) : i < R.length → a ≠ 0 → Rch R (i + 1) more (w + sc a (R.getD i 0)) x → Rch R i (more + 1) w x
end
def digM (q : Int) : Nat → Int → List Int
  | 0, _ => []
  | k + 1, i => i / q ^ k % q :: digM q k i
theorem digM_length (q i : Int) : ∀ k, (digM q k i).length = k
  | 0 => rfl
  | k + 1 => by rw [digM, List.length_cons, digM_length q i k]
theorem digM_in {q : Int} (hq : 1 ≤ q) (i : Int) : ∀ k, AllIn q (digM q k i)
  | 0 => fun c hc => by simp [digM] at hc
  | k + 1 => fun c hc => by
    rw [digM] at hc
    rcases List.mem_cons.1 hc with rfl | hc
    · exact ⟨Int.emod_nonneg _ (by omega), Int.emod_lt_of_pos _ (by omega)⟩
    · exact digM_in hq i k c hc
theorem dig_low {q : Int} (hq : 1 ≤ q) (i : Int) {t n : Nat} (h : t < n) : (i % q ^ n) / q ^ t % q = i / q ^ t % q := by
  obtain ⟨d, rfl⟩ := Nat.le.dest (show t + 1 ≤ n from h)
  have hp : 0 < q ^ t := Int.pow_pos (by omega)
  have e : q ^ (t + 1 + d) = q ^ t * (q * q ^ d) := by rw [Int.pow_add, Int.pow_succ, Int.mul_assoc]
  have h1 := Int.emod_add_mul_ediv i (q ^ (t + 1 + d))
  have h2 : i / q ^ t = (i % q ^ (t + 1 + d)) / q ^ t + q * (q ^ d * (i / q ^ (t + 1 + d))) := by
    rw [show (i / q ^ t) = (i % q ^ (t + 1 + d) + q ^ t * (q * (q ^ d * (i / q ^ (t + 1 + d))))) / q ^ t by
      congr 1
      calc i = i % q ^ (t + 1 + d) + q ^ (t + 1 + d) * (i / q ^ (t + 1 + d)) := h1.symm
        _ = _ := by rw [show q ^ (t + 1 + d) * (i / q ^ (t + 1 + d)) = q ^ t * (q * (q ^ d * (i / q ^ (t + 1 + d)))) by
          rw [← Int.mul_assoc, ← Int.mul_assoc, Int.mul_assoc (q ^ t), ← e]]]
    rw [Int.add_mul_ediv_left _ _ (by omega)]
  rw [h2, Int.add_mul_emod_self_left]
theorem digM_low {q : Int} (hq : 1 ≤ q) (i : Int) (n : Nat) : ∀ k, k ≤ n → digM q k (i % q ^ n) = digM q k i
  | 0, _ => rfl
  | k + 1, h => by rw [digM, digM, digM_low hq i n k (by omega), dig_low hq i (by omega)]
theorem lexLt.cons {x : Int} {a b : List Int} (h : lexLt a b) : lexLt (x :: a) (x :: b) := by
  obtain ⟨k, h1, h2⟩ := h
  refine ⟨k + 1, fun j hj => ?_, by simpa using h2⟩
  match j with
  | 0 => rfl
  | j + 1 => simpa using h1 j (by omega)
theorem digM_lex {q : Int} (hq : 2 ≤ q) : ∀ (k : Nat) (i j : Int), 0 ≤ i → i < j → j < q ^ k → lexLt (digM q k i) (digM q k j)
  | 0, i, j, h0, h1, h2 => by rw [Int.pow_zero] at h2; omega
  | k + 1, i, j, h0, h1, h2 => by
    have hp : 0 < q ^ k := Int.pow_pos (by omega)
    rw [Int.pow_succ] at h2
    have a1 : i / q ^ k < q := Int.ediv_lt_of_lt_mul hp (by rw [Int.mul_comm]; omega)
    have b1 : j / q ^ k < q := Int.ediv_lt_of_lt_mul hp (by rw [Int.mul_comm]; omega)
    have a0 : 0 ≤ i / q ^ k := Int.ediv_nonneg h0 (by omega)
    have b0 : 0 ≤ j / q ^ k := Int.ediv_nonneg (by omega) (by omega)
    have hab : i / q ^ k ≤ j / q ^ k := Int.ediv_le_ediv hp (by omega)
    rw [digM, digM, Int.emod_eq_of_lt a0 a1, Int.emod_eq_of_lt b0 b1]
    by_cases e : i / q ^ k = j / q ^ k
    · rw [e]
      refine lexLt.cons ?_
      rw [← digM_low (by omega) i k k (Nat.le_refl _), ← digM_low (by omega) j k k (Nat.le_refl _)]
      have hi := Int.emod_add_mul_ediv i (q ^ k)
      have hj := Int.emod_add_mul_ediv j (q ^ k)
      rw [e] at hi
      exact digM_lex hq k _ _ (Int.emod_nonneg _ (by omega)) (by omega) (Int.emod_lt_of_pos _ hp)
    · exact ⟨0, fun j hj => by omega, by show i / q ^ k < j / q ^ k; omega⟩
theorem digM_surj {q : Int} (hq : 2 ≤ q) : ∀ l : List Int, AllIn q l → ∃ i, 0 ≤ i ∧ i < q ^ l.length ∧ digM q l.length i = l
  | [], _ => ⟨0, by omega, by simp, rfl⟩
  | x :: l, h => by
    obtain ⟨i, h0, h1, h2⟩ := digM_surj hq l fun c hc => h c (List.mem_cons_of_mem _ hc)
    have hx := h x (List.mem_cons_self ..)
    have hp : 0 < q ^ l.length := Int.pow_pos (by omega)
    have e1 : (i + q ^ l.length * x) / q ^ l.length = x := by rw [Int.add_mul_ediv_left _ _ (by omega), Int.ediv_eq_zero_of_lt h0 h1, Int.zero_add]
    have e2 : (i + q ^ l.length * x) % q ^ l.length = i := by rw [Int.add_mul_emod_self_left, Int.emod_eq_of_lt h0 h1]
    refine ⟨i + q ^ l.length * x, ?_, ?_, ?_⟩
    · have := Int.mul_nonneg (Int.le_of_lt hp) hx.1; omega
    · have h3 : q ^ l.length * (x + 1) ≤ q ^ l.length * q := Int.mul_le_mul_of_nonneg_left (by omega) (by omega)
      rw [List.length_cons, Int.pow_succ]
      rw [Int.mul_add, Int.mul_one] at h3
      omega
    · rw [List.length_cons, digM, e1, Int.emod_eq_of_lt hx.1 hx.2, ← digM_low (by omega) _ l.length l.length (Nat.le_refl _), e2, h2]
section
variable {p m : Int} {mod : List Int} [hF : IsF p m mod]
open Vc
end
end Go.Proofs.YtoalphamojhpcaaGreat

set_option linter.unusedSimpArgs false
set_option linter.unusedVariables false
namespace Go.Proofs.YtoalphamojhpcaaGreat
open Go.ChangeShapes Go.WideShapes Go.ChangeAt Go.RowKit
theorem get_ISSw {H : Type} {enc : TypeId × Value → H} {P : Program} {w : World} {b : Nat} {t e f : TypeId} {v : Value} {d : DataW H} {p : List MemPlace} (ht : P.underlying t = some (.slice e)) (he : P.underlying e = some (.slice f)) (hf : P.underlying f = some (.int .i64)) (hc : P.cellsOf e = 1) (hcf : P.cellsOf f = 1) (hb : P.bytesOf e = 24) (hbf : P.bytesOf f = 8) (hw : Light P t d) (hv : Value.okWide P w .any b t v) (h : DataW.Trod enc P w 0 (fun _ => true) true t v d p) :
    ∃ (A : Option Addr) (c : Nat) (rs : List RowM), v = .slice A rs.length c ∧ (ro A (hdrs rs)).sat w ∧ (rowsR rs).sat w ∧ rs.length ≤ 17592186044415 ∧ (∀ r ∈ rs, r.xs.length ≤ 17592186044415) ∧ ∀ r ∈ rs, r.xs.length ≤ r.cap := by
  obtain ⟨a0, l0, c0, rfl⟩ := okWide_slice ht hv
  obtain ⟨fuel, hf'⟩ := h
  obtain ⟨A, c, rs, h1, h2⟩ := open_ISSw ht he hf hc hcf hb hbf hw hf'
  simp [Value.cells] at h1
  exact ⟨A, c, rs, by rw [h1.1, h1.2.1, h1.2.2], h2⟩
end Go.Proofs.YtoalphamojhpcaaGreat

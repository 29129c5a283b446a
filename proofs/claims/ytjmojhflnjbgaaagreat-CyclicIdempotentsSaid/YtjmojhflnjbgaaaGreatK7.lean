/-
  CYCLICIDEMPOTENTS, PART 7 OF 10. One sentence: the texts behind the law CyclicIdempotents, put together.
  Conditions: each theorem's own, written out in it.
-/
import Derived.Test.YtjmojhflnjbgaaaGreatK6
set_option linter.unusedSimpArgs false
set_option linter.unusedVariables false
set_option linter.unusedSectionVars false
set_option linter.unusedSimpArgs false
set_option linter.unusedVariables false
set_option maxRecDepth 100000
namespace Go.Proofs.YtjmojhflnjbgaaaGreat
open Go.RowKit

theorem ref_MFew_ent : Enters Tryz.prog 139 := enters_of Tryz.func139 (by kernel_rfl) (by kernel_rfl)
theorem ref_MFew (Aa : Option Addr) (n ca : Nat) (rs : List RowM) (hn : n = rs.length) (h9 : rs.length ≤ 17592186044415) (h8 : ∀ r ∈ rs, r.xs.length ≤ 17592186044415) :
    Pure Tryz.prog 139 #[.agg #[.int .i64 0, .slice Aa n ca], .int .i64 4200] [ro Aa (hdrs rs), rowsR rs] (val (fun v => ∃ b : Bool, v = .bool b ∧ (b = true → ∀ r ∈ rs, r.xs.length ≤ 4200))) := by
  refine pure_of (args := [.agg #[.int .i64 0, .slice Aa n ca], .int .i64 4200]) 45 Tryz.func139 rfl rfl rfl ref_MFew_ent ⟨id, id, trivial⟩ (fun w0 => ?_)
  refine tr_seq ?_
  refine tr_region fun _ _ _ => ?_
  refine ef rfl rfl (eBox rfl rfl rfl rfl rfl (fun p0 => ?_)) 
  refine pu rfl rfl rfl rfl rfl ?_
  refine tr_seq ?_
  refine tr_seq ?_
  refine tr_region fun _ _ _ => ?_
  refine st rfl rfl rfl rfl (rFld rfl rfl) ?_
  refine st rfl rfl rfl rfl (rLdF rfl rfl rfl) ?_
  iterate 2 refine pu rfl rfl rfl rfl rfl ?_
  refine stg rfl rfl rfl rfl rfl (fun hb => by (have hq := hb; try simp only [zb1, zb2, zb3, zb4, zb5, zb6, zb7, zb8, zb9, zb10] at hq); exact rFld rfl rfl) ?_
  refine stg rfl rfl rfl rfl rfl (fun hb => by (have hq := hb; try simp only [zb1, zb2, zb3, zb4, zb5, zb6, zb7, zb8, zb9, zb10] at hq); exact rLdF rfl (evg rfl hb) rfl) ?_
  refine stg rfl rfl rfl rfl rfl (fun hb => by (have hq := hb; try simp only [zb1, zb2, zb3, zb4, zb5, zb6, zb7, zb8, zb9, zb10] at hq); exact rLen rfl (evg rfl hb)) ?_
  refine stg rfl rfl rfl rfl rfl (fun hb => by (have hq := hb; try simp only [zb1, zb2, zb3, zb4, zb5, zb6, zb7, zb8, zb9, zb10] at hq); exact rMove rfl rfl) ?_
  refine stg rfl rfl rfl rfl rfl (fun hb => by (have hq := hb; try simp only [zb1, zb2, zb3, zb4, zb5, zb6, zb7, zb8, zb9, zb10] at hq); exact rGtr rfl (evg rfl hb) (evg rfl hb)) ?_
  refine st rfl rfl rfl rfl (rOrB rfl rfl rfl rfl) ?_
  refine tr_cond_bool rfl (fun h1 => ?_) (fun h1 => ?_)
  · try simp only [zb1, zb2, zb3, zb4, zb5, zb6, zb7, zb8, zb9, zb10] at h1
    skip
    refine tr_seq ?_
    refine tr_region fun _ _ _ => ?_
    refine pu rfl rfl rfl rfl rfl ?_
    exact tr_ret ⟨trivial, _, _, rfl, ⟨rfl, false, rfl, fun h => by cases h⟩, CSub.nil _, trivial⟩
  · try simp only [zb1, zb2, zb3, zb4, zb5, zb6, zb7, zb8, zb9, zb10] at h1
    refine tr_skip ?_
    refine tr_seq ?_
    refine tr_region fun _ _ _ => ?_
    refine pu rfl rfl rfl rfl rfl ?_
    refine st rfl rfl rfl rfl (rFld rfl rfl) ?_
    refine st rfl rfl rfl rfl (rLdF rfl rfl rfl) ?_
    refine st rfl rfl rfl rfl (rLen rfl rfl) ?_
    refine st rfl rfl rfl rfl (rSub rfl rfl rfl (by omega) (by omega)) ?_
    refine pu rfl rfl rfl rfl rfl ?_
    refine tr_seq ?_
    refine tr_seq ?_
    refine tr_region fun _ _ _ => ?_
    refine pu rfl rfl rfl rfl rfl ?_
    refine tr_block ?_
    refine tr_loop2 (fun (k : Int) (lf : Int) => [(5, .int .i64 lf), (6, .int .i64 k), (2, .pointer (some p0))]) (fun (k : Int) (lf : Int) => [blk p0 90 [.int .i64 0, .slice Aa n ca], ro Aa (hdrs rs), rowsR rs]) (fun (k : Int) (lf : Int) => (0 ≤ k ∧ k ≤ n) ∧ (0 ≤ lf ∧ lf ≤ 4200) ∧ ∀ j : Nat, (j : Int) < k → (rs.getD j rowD).xs.length ≤ 4200) (fun (k : Int) (lf : Int) => (n - k).toNat) (0) (4200 - n) ⟨rfl, rfl, rfl, trivial⟩ (by first | exact cs _ _ | exact CSub.refl _) (⟨⟨by omega, by omega⟩, ⟨by omega, by omega⟩, fun j hj => by omega⟩) (fun k lf hI => ?_)
    obtain ⟨⟨hk0, hk1⟩, ⟨hf0, hf1⟩, hall⟩ := hI
    refine tr_seq ?_
    refine tr_seq ?_
    refine tr_region fun _ _ _ => ?_
    refine pu rfl rfl rfl rfl rfl ?_
    refine st rfl rfl rfl rfl (rFld rfl rfl) ?_
    refine st rfl rfl rfl rfl (rLdF rfl rfl rfl) ?_
    refine st rfl rfl rfl rfl (rLen rfl rfl) ?_
    refine pu rfl rfl rfl rfl rfl ?_
    refine tr_cond_bool rfl (fun h5 => ?_) (fun h5 => ?_)
    · try simp only [zb1, zb2, zb3, zb4, zb5, zb6, zb7, zb8, zb9, zb10] at h5
      refine tr_skip ?_
      refine tr_seq ?_
      refine tr_block ?_
      refine tr_seq ?_
      refine tr_seq ?_
      haveI : InB k.toNat rs.length := ⟨by omega⟩
      have hk8 := h8 _ (getD_mem (show k.toNat < rs.length by omega) rowD)
      refine tr_region fun _ _ _ => ?_
      refine st rfl rfl rfl rfl (rFld rfl rfl) ?_
      refine st rfl rfl rfl rfl (rLdF rfl rfl rfl) ?_
      refine pu rfl rfl rfl rfl rfl ?_
      refine st rfl rfl rfl rfl (rIdxR rfl rfl rfl (by omega) (by omega) (by omega)) ?_
      refine st rfl rfl rfl rfl (rLdR rfl rfl (by omega)) ?_
      refine st rfl rfl rfl rfl (rLen rfl rfl) ?_
      iterate 2 refine pu rfl rfl rfl rfl rfl ?_
      refine tr_cond_bool rfl (fun h7 => ?_) (fun h7 => ?_)
      · try simp only [zb1, zb2, zb3, zb4, zb5, zb6, zb7, zb8, zb9, zb10] at h7
        refine tr_seq ?_
        refine tr_region fun _ _ _ => ?_
        refine pu rfl rfl rfl rfl rfl ?_
        exact tr_ret ⟨trivial, _, _, rfl, ⟨rfl, false, rfl, fun h => by cases h⟩, CSub.nil _, trivial⟩
      · try simp only [zb1, zb2, zb3, zb4, zb5, zb6, zb7, zb8, zb9, zb10] at h7
        refine tr_skip ?_
        refine tr_region fun _ _ _ => ?_
        refine pu rfl rfl rfl rfl rfl ?_
        refine st rfl rfl rfl rfl (rFld rfl rfl) ?_
        refine st rfl rfl rfl rfl (rLdF rfl rfl rfl) ?_
        refine pu rfl rfl rfl rfl rfl ?_
        refine st rfl rfl rfl rfl (rIdxR rfl rfl rfl (by omega) (by omega) (by omega)) ?_
        refine st rfl rfl rfl rfl (rLdR rfl rfl (by omega)) ?_
        refine st rfl rfl rfl rfl (rLen rfl rfl) ?_
        refine st rfl rfl rfl rfl (rSub rfl rfl rfl (by omega) (by omega)) ?_
        refine pu rfl rfl rfl rfl rfl ?_
        refine tr_region fun _ _ _ => ?_
        refine pu rfl rfl rfl rfl rfl ?_
        refine st rfl rfl rfl rfl (rAdd rfl rfl rfl (by omega) (by omega)) ?_
        refine pu rfl rfl rfl rfl rfl ?_
        refine ⟨k + 1, lf - (rs.getD k.toNat rowD).xs.length, ⟨rfl, rfl, rfl, trivial⟩, by first | exact cs _ _ | exact CSub.refl _, ?_⟩
        refine ⟨⟨⟨by omega, by omega⟩, ⟨by omega, by omega⟩, fun j hj => ?_⟩, by omega⟩
        by_cases he : (j : Int) = k
        · have : j = k.toNat := by omega
          subst this; omega
        · exact hall j (by omega)
    · try simp only [zb1, zb2, zb3, zb4, zb5, zb6, zb7, zb8, zb9, zb10] at h5
      refine tr_exit ?_
      refine tr_seq ?_
      refine tr_region fun _ _ _ => ?_
      refine pu rfl rfl rfl rfl rfl ?_
      exact tr_ret ⟨trivial, _, _, rfl, ⟨rfl, true, rfl, fun _ => xss_all.1 (xss_get (φ := fun r => r.length ≤ 4200) fun j hj => hall j (by omega))⟩, CSub.nil _, trivial⟩

theorem ref_CFew_ent : Enters Tryz.prog 65 := enters_of Tryz.func65 (by kernel_rfl) (by kernel_rfl)
theorem ref_CFew (p m : Int) (A : Option Addr) (c : Nat) (mod : List Int) (hl9 : mod.length ≤ 17592186044415) (w : Int) (Aa : Option Addr) (n ca : Nat) (rs : List RowM) (hn : n = rs.length) (h9 : rs.length ≤ 17592186044415) (h8 : ∀ r ∈ rs, r.xs.length ≤ 17592186044415) :
    Pure Tryz.prog 65 #[.agg #[.int .i64 p, .int .i64 m, .slice A mod.length c, .int .i64 w, .slice Aa n ca], .int .i64 4200] [ro Aa (hdrs rs), rowsR rs] (val (fun v => ∃ b : Bool, v = .bool b ∧ (b = true → ∀ r ∈ rs, r.xs.length ≤ 4200))) := by
  refine pure_of (args := [.agg #[.int .i64 p, .int .i64 m, .slice A mod.length c, .int .i64 w, .slice Aa n ca], .int .i64 4200]) 10 Tryz.func65 rfl rfl rfl ref_CFew_ent ⟨id, id, trivial⟩ (fun w0 => ?_)
  refine tr_seq ?_
  refine tr_region fun _ _ _ => ?_
  refine ef rfl rfl (eBox rfl rfl rfl rfl rfl (fun p0 => ?_)) 
  refine pu rfl rfl rfl rfl rfl ?_
  refine tr_seq ?_
  refine tr_region fun _ _ _ => ?_
  refine st rfl rfl rfl rfl (rFld rfl rfl) ?_
  refine st rfl rfl rfl rfl (rLdF rfl rfl rfl) ?_
  refine st rfl rfl rfl rfl (rBuild rfl rfl) ?_
  refine pu rfl rfl rfl rfl rfl ?_
  refine ef rfl rfl (eCall0 rfl rfl rfl (ref_MFew Aa n ca rs hn h9 h8) ⟨rfl, rfl, trivial⟩ ?_) 
  rintro _ ⟨b, rfl, hb⟩
  refine pu rfl rfl rfl rfl rfl ?_
  exact tr_ret ⟨trivial, _, _, rfl, ⟨rfl, b, rfl, hb⟩, CSub.nil _, trivial⟩

theorem law16_few_ent : Enters Tryz.prog 17 := enters_of Tryz.func17 (by kernel_rfl) (by kernel_rfl)
theorem law16_few (p m : Int) (A : Option Addr) (c : Nat) (mod : List Int) (hl9 : mod.length ≤ 17592186044415) (w : Int) (Aa : Option Addr) (n ca : Nat) (rs : List RowM) (hn : n = rs.length) (h9 : rs.length ≤ 17592186044415) (h8 : ∀ r ∈ rs, r.xs.length ≤ 17592186044415) (hl : rs.length ≤ 64) :
    Pure Tryz.prog 17 #[.agg #[.int .i64 p, .int .i64 m, .slice A mod.length c, .int .i64 w, .slice Aa n ca]] [ro Aa (hdrs rs), rowsR rs] (val (fun v => ∃ b : Bool, v = .bool b ∧ (b = true → rs.length ≤ 64 ∧ ∀ r ∈ rs, r.xs.length ≤ 4200))) := by
  refine pure_of (args := [.agg #[.int .i64 p, .int .i64 m, .slice A mod.length c, .int .i64 w, .slice Aa n ca]]) 11 Tryz.func17 rfl rfl rfl law16_few_ent ⟨id, id, trivial⟩ (fun w0 => ?_)
  refine tr_seq ?_
  refine tr_region fun _ _ _ => ?_
  refine ef rfl rfl (eBox rfl rfl rfl rfl rfl (fun p0 => ?_)) 
  refine pu rfl rfl rfl rfl rfl ?_
  refine tr_seq ?_
  refine tr_region fun _ _ _ => ?_
  refine st rfl rfl rfl rfl (rFld rfl rfl) ?_
  refine st rfl rfl rfl rfl (rLdF rfl rfl rfl) ?_
  refine st rfl rfl rfl rfl (rLen rfl rfl) ?_
  iterate 2 refine pu rfl rfl rfl rfl rfl ?_
  refine stT rfl rfl rfl (by simp; omega) rfl rfl (rLdS rfl rfl rfl) ?_
  refine efT rfl rfl rfl (by simp; omega) (eCall0 rfl rfl rfl (ref_CFew p m A c mod hl9 w Aa n ca rs hn h9 h8) ⟨rfl, rfl, trivial⟩ ?_) 
  rintro _ ⟨b, rfl, hb⟩
  refine st rfl rfl rfl rfl (rPick1 rfl rfl (by simp; omega) rfl) ?_
  refine pu rfl rfl rfl rfl rfl ?_
  exact tr_ret ⟨trivial, _, _, rfl, ⟨rfl, b, by simp, fun h => ⟨hl, hb h⟩⟩, CSub.nil _, trivial⟩

theorem law16_few0_ent : Enters Tryz.prog 17 := enters_of Tryz.func17 (by kernel_rfl) (by kernel_rfl)
theorem law16_few0 (p m : Int) (A : Option Addr) (c : Nat) (mod : List Int) (hl9 : mod.length ≤ 17592186044415) (w : Int) (Aa : Option Addr) (n ca : Nat) (rs : List RowM) (hn : n = rs.length) (h9 : rs.length ≤ 17592186044415) (h8 : ∀ r ∈ rs, r.xs.length ≤ 17592186044415) (hl : ¬ rs.length ≤ 64) :
    Pure Tryz.prog 17 #[.agg #[.int .i64 p, .int .i64 m, .slice A mod.length c, .int .i64 w, .slice Aa n ca]] [ro Aa (hdrs rs), rowsR rs] (val (fun v => ∃ b : Bool, v = .bool b ∧ (b = true → rs.length ≤ 64 ∧ ∀ r ∈ rs, r.xs.length ≤ 4200))) := by
  refine pure_of (args := [.agg #[.int .i64 p, .int .i64 m, .slice A mod.length c, .int .i64 w, .slice Aa n ca]]) 11 Tryz.func17 rfl rfl rfl law16_few0_ent ⟨id, id, trivial⟩ (fun w0 => ?_)
  refine tr_seq ?_
  refine tr_region fun _ _ _ => ?_
  refine ef rfl rfl (eBox rfl rfl rfl rfl rfl (fun p0 => ?_)) 
  refine pu rfl rfl rfl rfl rfl ?_
  refine tr_seq ?_
  refine tr_region fun _ _ _ => ?_
  refine st rfl rfl rfl rfl (rFld rfl rfl) ?_
  refine st rfl rfl rfl rfl (rLdF rfl rfl rfl) ?_
  refine st rfl rfl rfl rfl (rLen rfl rfl) ?_
  iterate 2 refine pu rfl rfl rfl rfl rfl ?_
  refine skF rfl rfl (by simp; omega) rfl rfl ?_
  refine skF rfl rfl (by simp; omega) rfl rfl ?_
  refine st rfl rfl rfl rfl (rPick0 rfl rfl (by simp; omega) rfl) ?_
  refine pu rfl rfl rfl rfl rfl ?_
  exact tr_ret ⟨trivial, _, _, rfl, ⟨rfl, false, by simp, fun h => by cases h⟩, CSub.nil _, trivial⟩

theorem law16_fewC (p m : Int) (A : Option Addr) (c : Nat) (mod : List Int) (hl9 : mod.length ≤ 17592186044415) (w : Int) (Aa : Option Addr) (n ca : Nat) (rs : List RowM) (hn : n = rs.length) (h9 : rs.length ≤ 17592186044415) (h8 : ∀ r ∈ rs, r.xs.length ≤ 17592186044415) : Pure Tryz.prog 17 #[.agg #[.int .i64 p, .int .i64 m, .slice A mod.length c, .int .i64 w, .slice Aa n ca]] [ro Aa (hdrs rs), rowsR rs] (val (fun v => ∃ b : Bool, v = .bool b ∧ (b = true → rs.length ≤ 64 ∧ ∀ r ∈ rs, r.xs.length ≤ 4200))) := by
  by_cases hl : rs.length ≤ 64
  · exact law16_few p m A c mod hl9 w Aa n ca rs hn h9 h8 hl
  · exact law16_few0 p m A c mod hl9 w Aa n ca rs hn h9 h8 hl




theorem cyc_shift_ent : Enters Tryz.prog 144 := enters_of Tryz.func144 (by kernel_rfl) (by kernel_rfl)
theorem cyc_shift (m : Int) (hm : 1 ≤ m) (hm9 : m ≤ 100000) (X : Option Addr) (nx cx : Nat) (l : List Int) (hnx : nx = l.length) (hl9 : l.length ≤ 100000) (hd : m.toNat ∣ l.length) :
    Pure Tryz.prog 144 #[.slice X nx cx, .int .i64 m] [ro X (ints l)] (one (fun v ch => ∃ B, v = .slice B l.length l.length ∧ ch = ow B 3 l.length (ints (shF m.toNat l)))) := by
  refine pure_of (args := [.slice X nx cx, .int .i64 m]) 37 Tryz.func144 rfl rfl rfl cyc_shift_ent ⟨id, trivial⟩ (fun w0 => ?_)
  refine tr_seq ?_
  refine tr_region fun _ _ _ => ?_
  refine pu rfl rfl rfl rfl rfl ?_
  refine tr_seq ?_
  subst hnx
  refine tr_region fun _ _ _ => ?_
  refine pu rfl rfl rfl rfl rfl ?_
  refine st rfl rfl rfl rfl (rLen rfl rfl) ?_
  refine ef rfl rfl (eMakeI rfl rfl rfl rfl rfl (by omega) (by omega) (by omega) (fun A1 => ?_)) 
  refine pu rfl rfl rfl rfl rfl ?_
  simp only [Int.toNat_natCast]
  refine tr_seq ?_
  refine tr_seq ?_
  refine tr_region fun _ _ _ => ?_
  refine pu rfl rfl rfl rfl rfl ?_
  refine st rfl rfl rfl rfl (rLen rfl rfl) ?_
  refine pu rfl rfl rfl rfl rfl ?_
  refine tr_block ?_
  refine tr_loop2 (fun (k : Int) (o : List Int) => [(5, .slice A1 l.length l.length), (12, .int .i64 l.length), (13, .int .i64 k), (0, .slice X l.length cx), (1, .int .i64 m), (4, .slice none 0 0)]) (fun (k : Int) (o : List Int) => [ow A1 3 l.length (ints o), ro X (ints l)]) (fun (k : Int) (o : List Int) => (0 ≤ k ∧ k ≤ l.length) ∧ o.length = l.length ∧ ∀ i : Nat, (i : Int) < k → o.getD (nxI m.toNat i) 0 = l.getD i 0) (fun (k : Int) (o : List Int) => (l.length - k).toNat) (0) (List.replicate l.length 0) ⟨rfl, rfl, rfl, rfl, rfl, rfl, trivial⟩ (by first | exact cs _ _ | exact CSub.refl _) (⟨⟨by omega, by omega⟩, by simp, fun j hj => by omega⟩) (fun k o hI => ?_)
  obtain ⟨⟨hk0, hk1⟩, hol, ho⟩ := hI
  refine tr_seq ?_
  refine tr_region fun _ _ _ => ?_
  refine pu rfl rfl rfl rfl rfl ?_
  refine tr_seq ?_
  refine tr_cond_bool rfl (fun h3 => ?_) (fun h3 => ?_)
  · try simp only [zb1, zb2, zb3, zb4, zb5, zb6, zb7, zb8, zb9, zb10] at h3
    refine tr_skip ?_
    refine tr_seq ?_
    refine tr_block ?_
    refine tr_seq ?_
    refine tr_region fun _ _ _ => ?_
    iterate 2 refine pu rfl rfl rfl rfl rfl ?_
    refine tr_seq ?_
    have hb0 : 0 ≤ k / m * m := Int.mul_nonneg (Int.ediv_nonneg hk0 (by omega)) (by omega)
    have hb1 : k / m * m ≤ k := Int.ediv_mul_le k (by omega)
    have hb2 := Int.emod_nonneg (k - k / m * m + 1) (show m ≠ 0 by omega)
    have hb3 := Int.emod_lt_of_pos (k - k / m * m + 1) (show 0 < m by omega)
    have hnx := nx_int hm hk0
    have hnl := nx_lt (m := m.toNat) (n := l.length) (i := k.toNat) (by omega) hd (by omega)
    refine tr_region fun _ _ _ => ?_
    iterate 2 refine pu rfl rfl rfl rfl rfl ?_
    refine st rfl rfl rfl rfl (rQuo rfl rfl rfl (by omega) (by omega)) ?_
    refine pu rfl rfl rfl rfl rfl ?_
    refine st rfl rfl rfl rfl (rMul rfl rfl rfl (by omega) (by omega)) ?_
    refine pu rfl rfl rfl rfl rfl ?_
    refine tr_draw [0, 1, 2, 3, 4, 5, 6, 7, 8, 9, 10, 11, 12, 13] [14] mixed (by kernel_rfl) fun _ _ _ => ?_
    iterate 4 refine pu rfl rfl rfl rfl rfl ?_
    refine st rfl rfl rfl rfl (rSub rfl rfl rfl (by omega) (by omega)) ?_
    refine st rfl rfl rfl rfl (rAdd rfl rfl rfl (by omega) (by omega)) ?_
    refine pu rfl rfl rfl rfl rfl ?_
    refine st rfl rfl rfl rfl (rRem rfl rfl rfl (by omega) (by omega)) ?_
    refine st rfl rfl rfl rfl (rAdd rfl rfl rfl (by omega) (by omega)) ?_
    iterate 2 refine pu rfl rfl rfl rfl rfl ?_
    refine st rfl rfl rfl rfl (rIdxI rfl rfl rfl (by omega) (by omega) (by omega)) ?_
    refine st rfl rfl rfl rfl (rLdI rfl rfl (by omega)) ?_
    refine st rfl rfl rfl rfl (rIdxI rfl rfl rfl (by omega) (by omega) (by omega)) ?_
    refine ef rfl rfl (eStI rfl rfl rfl rfl (by omega) ?_) 
    rw [hnx, Int.toNat_natCast]
    refine tr_region fun _ _ _ => ?_
    refine st rfl rfl rfl rfl (rAdd rfl rfl rfl (by omega) (by omega)) ?_
    refine pu rfl rfl rfl rfl rfl ?_
    refine ⟨k + 1, o.set (nxI m.toNat k.toNat) (l.getD k.toNat 0), ⟨rfl, rfl, rfl, rfl, rfl, rfl, trivial⟩, by first | exact cs _ _ | exact CSub.refl _, ?_⟩
    refine ⟨⟨⟨by omega, by omega⟩, by simpa using hol, fun i hi => ?_⟩, by omega⟩
    exact shF_step (m := m.toNat) (by omega) (hd) hol (by omega) (fun i hi => ho i (by omega)) (by omega)
  · try simp only [zb1, zb2, zb3, zb4, zb5, zb6, zb7, zb8, zb9, zb10] at h3
    refine tr_exit ?_
    refine tr_seq ?_
    refine tr_region fun _ _ _ => ?_
    iterate 2 refine pu rfl rfl rfl rfl rfl ?_
    have hfin : o = shF m.toNat l := shF_done (by omega) (hd) hol fun i hi => ho i (by omega)
    rw [← hfin]
    exact tr_ret ⟨trivial, _, _, rfl, ⟨_, rfl, A1, rfl, rfl⟩, cs _ _, trivial, trivial⟩

theorem ref_Shift_ent : Enters Tryz.prog 72 := enters_of Tryz.func72 (by kernel_rfl) (by kernel_rfl)
theorem ref_Shift (X : Option Addr) (nx cx : Nat) (l : List Int) (hnx : nx = l.length) (hl9 : l.length ≤ 100000) :
    Pure Tryz.prog 72 #[.slice X nx cx] [ro X (ints l)] (one (fun v ch => ∃ B, v = .slice B l.length l.length ∧ ch = ow B 3 l.length (ints (shF l.length l)))) := by
  refine pure_of (args := [.slice X nx cx]) 26 Tryz.func72 rfl rfl rfl ref_Shift_ent ⟨id, trivial⟩ (fun w0 => ?_)
  refine tr_seq ?_
  refine tr_region fun _ _ _ => ?_
  refine pu rfl rfl rfl rfl rfl ?_
  refine tr_seq ?_
  subst hnx
  refine tr_region fun _ _ _ => ?_
  refine pu rfl rfl rfl rfl rfl ?_
  refine st rfl rfl rfl rfl (rLen rfl rfl) ?_
  refine ef rfl rfl (eMakeI rfl rfl rfl rfl rfl (by omega) (by omega) (by omega) (fun A1 => ?_)) 
  refine pu rfl rfl rfl rfl rfl ?_
  simp only [Int.toNat_natCast]
  refine tr_seq ?_
  refine tr_seq ?_
  refine tr_region fun _ _ _ => ?_
  refine pu rfl rfl rfl rfl rfl ?_
  refine tr_block ?_
  refine tr_loop2 (fun (k : Int) (o : List Int) => [(3, .slice A1 l.length l.length), (4, .int .i64 k), (0, .slice X l.length cx), (2, .slice none 0 0)]) (fun (k : Int) (o : List Int) => [ow A1 3 l.length (ints o), ro X (ints l)]) (fun (k : Int) (o : List Int) => (0 ≤ k ∧ k ≤ l.length) ∧ o.length = l.length ∧ ∀ i : Nat, (i : Int) < k → o.getD (nxI l.length i) 0 = l.getD i 0) (fun (k : Int) (o : List Int) => (l.length - k).toNat) (0) (List.replicate l.length 0) ⟨rfl, rfl, rfl, rfl, trivial⟩ (by first | exact cs _ _ | exact CSub.refl _) (⟨⟨by omega, by omega⟩, by simp, fun j hj => by omega⟩) (fun k o hI => ?_)
  obtain ⟨⟨hk0, hk1⟩, hol, ho⟩ := hI
  refine tr_seq ?_
  refine tr_seq ?_
  refine tr_region fun _ _ _ => ?_
  iterate 2 refine pu rfl rfl rfl rfl rfl ?_
  refine st rfl rfl rfl rfl (rLen rfl rfl) ?_
  refine pu rfl rfl rfl rfl rfl ?_
  refine tr_cond_bool rfl (fun h3 => ?_) (fun h3 => ?_)
  · try simp only [zb1, zb2, zb3, zb4, zb5, zb6, zb7, zb8, zb9, zb10] at h3
    refine tr_skip ?_
    refine tr_seq ?_
    refine tr_block ?_
    have hb2 := Int.emod_nonneg (k + 1) (show (l.length : Int) ≠ 0 by omega)
    have hb3 := Int.emod_lt_of_pos (k + 1) (show 0 < (l.length : Int) by omega)
    have hnx : ((k + 1) % (l.length : Int)).toNat = nxI l.length k.toNat := by
      rw [nx_full (by omega), ← Int.toNat_natCast (n := (k.toNat + 1) % l.length)]
      congr 1
      push_cast
      rw [Int.toNat_of_nonneg hk0]
    refine tr_draw [0, 1, 2, 3, 4, 5, 6, 7, 8, 9, 10] [11] mixed (by kernel_rfl) fun _ _ _ => ?_
    iterate 2 refine pu rfl rfl rfl rfl rfl ?_
    refine st rfl rfl rfl rfl (rAdd rfl rfl rfl (by omega) (by omega)) ?_
    refine pu rfl rfl rfl rfl rfl ?_
    refine st rfl rfl rfl rfl (rLen rfl rfl) ?_
    refine st rfl rfl rfl rfl (rRem rfl rfl rfl (by omega) (by omega)) ?_
    iterate 2 refine pu rfl rfl rfl rfl rfl ?_
    refine st rfl rfl rfl rfl (rIdxI rfl rfl rfl (by omega) (by omega) (by omega)) ?_
    refine st rfl rfl rfl rfl (rLdI rfl rfl (by omega)) ?_
    refine st rfl rfl rfl rfl (rIdxI rfl rfl rfl (by omega) (by omega) (by omega)) ?_
    refine ef rfl rfl (eStI rfl rfl rfl rfl (by omega) ?_) 
    rw [hnx]
    refine tr_region fun _ _ _ => ?_
    refine pu rfl rfl rfl rfl rfl ?_
    refine st rfl rfl rfl rfl (rAdd rfl rfl rfl (by omega) (by omega)) ?_
    refine pu rfl rfl rfl rfl rfl ?_
    refine ⟨k + 1, o.set (nxI l.length k.toNat) (l.getD k.toNat 0), ⟨rfl, rfl, rfl, rfl, trivial⟩, by first | exact cs _ _ | exact CSub.refl _, ?_⟩
    refine ⟨⟨⟨by omega, by omega⟩, by simpa using hol, fun i hi => ?_⟩, by omega⟩
    exact shF_step (m := l.length) (by omega) (Nat.dvd_refl _) hol (by omega) (fun i hi => ho i (by omega)) (by omega)
  · try simp only [zb1, zb2, zb3, zb4, zb5, zb6, zb7, zb8, zb9, zb10] at h3
    refine tr_exit ?_
    refine tr_seq ?_
    refine tr_region fun _ _ _ => ?_
    iterate 2 refine pu rfl rfl rfl rfl rfl ?_
    by_cases hl0 : l.length = 0
    · have hfin : o = shF l.length l := by
        have h1 : o = [] := List.length_eq_zero_iff.1 (by omega)
        have h2 : l = [] := List.length_eq_zero_iff.1 hl0
        rw [h1, h2]; rfl
      rw [← hfin]
      exact tr_ret ⟨trivial, _, _, rfl, ⟨_, rfl, A1, rfl, rfl⟩, cs _ _, trivial, trivial⟩
    have hfin : o = shF l.length l := shF_done (by omega) (Nat.dvd_refl _) hol fun i hi => ho i (by omega)
    rw [← hfin]
    exact tr_ret ⟨trivial, _, _, rfl, ⟨_, rfl, A1, rfl, rfl⟩, cs _ _, trivial, trivial⟩

theorem ref_ShiftW (w : Nat) (X : Option Addr) (nx cx : Nat) (l : List Int) (hnx : nx = l.length) (hl9 : l.length ≤ 100000) (hw : l.length = w) : Pure Tryz.prog 72 #[.slice X nx cx] [ro X (ints l)] (one (fun v ch => ∃ B, v = .slice B l.length l.length ∧ ch = ow B 3 l.length (ints (shF w l)))) := by
  subst hw
  exact ref_Shift X nx cx l hnx hl9

theorem cyc_closed_ent : Enters Tryz.prog 67 := enters_of Tryz.func67 (by kernel_rfl) (by kernel_rfl)
theorem cyc_closed (p m : Int) (A : Option Addr) (c : Nat) (mod : List Int) [hF : IsF p m mod] (w : Int) (Aa : Option Addr) (n ca : Nat) (rs : List RowM) (hn : n = rs.length) (h9 : rs.length ≤ 256) (hc : CodeOk p m mod w rs) (k : Int) (hk1 : 1 ≤ k) (hk9 : k ≤ 64) (hkd : k.toNat ∣ w.toNat) :
    Pure Tryz.prog 67 #[.agg #[.int .i64 p, .int .i64 m, .slice A mod.length c, .int .i64 w, .slice Aa n ca], .int .i64 k] [ro A (ints mod), ro Aa (hdrs rs), rowsR rs] (isV (.bool (closB p m mod k.toNat rs))) := by
  have hl9 := hF.short
  have hn1 := hc.n1
  have hn64 := hc.n64
  have hlen := hc.len
  have hgd := hc.good
  have h8 := hgd.h8 (N := 17592186044415) (by omega)
  have hck := hc.zero
  refine pure_of (args := [.agg #[.int .i64 p, .int .i64 m, .slice A mod.length c, .int .i64 w, .slice Aa n ca], .int .i64 k]) 27 Tryz.func67 rfl rfl rfl cyc_closed_ent ⟨id, id, id, trivial⟩ (fun w0 => ?_)
  refine tr_seq ?_
  refine tr_region fun _ _ _ => ?_
  refine ef rfl rfl (eBox rfl rfl rfl rfl rfl (fun p0 => ?_)) 
  refine pu rfl rfl rfl rfl rfl ?_
  refine tr_seq ?_
  refine tr_seq ?_
  refine tr_region fun _ _ _ => ?_
  refine st rfl rfl rfl rfl (rFld rfl rfl) ?_
  refine st rfl rfl rfl rfl (rLdF rfl rfl rfl) ?_
  refine st rfl rfl rfl rfl (rLen rfl rfl) ?_
  refine pu rfl rfl rfl rfl rfl ?_
  refine tr_block ?_
  refine tr_loop1 (fun (j : Int) => [(12, .int .i64 j), (1, .int .i64 k), (2, .pointer (some p0)), (10, .slice Aa n ca), (11, .int .i64 n)]) (fun (j : Int) => [blk p0 27 [.int .i64 p, .int .i64 m, .slice A mod.length c, .int .i64 w, .slice Aa n ca], ro A (ints mod), ro Aa (hdrs rs), rowsR rs]) (fun (j : Int) => (0 ≤ j ∧ j ≤ n) ∧ ∀ i : Nat, (i : Int) < j → memB p m mod rs (shF k.toNat (rs.getD i rowD).xs) = true) (fun (j : Int) => (n - j).toNat) (0) ⟨rfl, rfl, rfl, rfl, rfl, trivial⟩ (by first | exact cs _ _ | exact CSub.refl _) (⟨⟨by omega, by omega⟩, fun i hi => by omega⟩) (fun j hI => ?_)
  obtain ⟨⟨hj0, hj1⟩, hall⟩ := hI
  refine tr_seq ?_
  refine tr_region fun _ _ _ => ?_
  refine pu rfl rfl rfl rfl rfl ?_
  refine tr_seq ?_
  refine tr_cond_bool rfl (fun h2 => ?_) (fun h2 => ?_)
  · try simp only [zb1, zb2, zb3, zb4, zb5, zb6, zb7, zb8, zb9, zb10] at h2
    refine tr_skip ?_
    refine tr_seq ?_
    refine tr_block ?_
    refine tr_seq ?_
    have hgj := hgd.get (show j.toNat < rs.length by omega)
    haveI : InB j.toNat rs.length := ⟨by omega⟩
    have hgj1 := hgj.1
    have hgj2 := hgj.2
    refine tr_region fun _ _ _ => ?_
    refine st rfl rfl rfl rfl (rIdxR rfl rfl rfl (by omega) (by omega) (by omega)) ?_
    refine st rfl rfl rfl rfl (rLdR rfl rfl (by omega)) ?_
    refine pu rfl rfl rfl rfl rfl ?_
    refine tr_seq ?_
    refine tr_draw [0, 1, 2, 3, 4, 5, 6, 7, 8, 9] [] mixed (by kernel_rfl) fun _ _ _ => ?_
    refine st rfl rfl rfl rfl (rLdS rfl rfl rfl) ?_
    iterate 2 refine pu rfl rfl rfl rfl rfl ?_
    refine ef rfl rfl (eCall1 rfl rfl rfl (cyc_shift k hk1 (by omega) _ _ _ (rs.getD j.toNat rowD).xs rfl (by omega) (by rw [hgj1]; exact hkd)) ⟨rfl, rfl, trivial⟩ ?_) 
    rintro _ _ ⟨B4, rfl, rfl⟩
    refine ef rfl rfl (eCallV rfl rfl rfl (code_Has _ _ _ _ _ w Aa n ca rs hn h9 hc B4 _ _ (shF k.toNat (rs.getD j.toNat rowD).xs) (shF_length _ _).symm (by rw [shF_length]; omega) (shF_in (by have := hF.q2; omega) hgj2)) ⟨rfl, rfl, trivial⟩ ?_) 
    iterate 5 refine pu rfl rfl rfl rfl rfl ?_
    refine tr_seq ?_
    refine tr_region fun _ _ _ => ?_
    refine pu rfl rfl rfl rfl rfl ?_
    refine st rfl rfl rfl rfl (rNotB rfl rfl) ?_
    refine tr_cond_bool rfl (fun h5 => ?_) (fun h5 => ?_)
    · try simp only [zb1, zb2, zb3, zb4, zb5, zb6, zb7, zb8, zb9, zb10] at h5
      refine tr_seq ?_
      refine tr_region fun _ _ _ => ?_
      refine pu rfl rfl rfl rfl rfl ?_
      have hno := closB_no (p := p) (m := m) (mod := mod) (k := k.toNat) (show j.toNat < rs.length by omega) (by simpa using h5)
      exact tr_ret ⟨trivial, _, _, rfl, ⟨by rw [hno], rfl⟩, CSub.nil _, trivial⟩
    · try simp only [zb1, zb2, zb3, zb4, zb5, zb6, zb7, zb8, zb9, zb10] at h5
      refine tr_skip ?_
      refine tr_region fun _ _ _ => ?_
      refine st rfl rfl rfl rfl (rAdd rfl rfl rfl (by omega) (by omega)) ?_
      refine pu rfl rfl rfl rfl rfl ?_
      refine ⟨j + 1, ⟨rfl, rfl, rfl, rfl, rfl, trivial⟩, by first | exact cs _ _ | exact CSub.refl _, ?_⟩
      refine ⟨⟨⟨by omega, by omega⟩, fun i hi => ?_⟩, by omega⟩
      by_cases he : (i : Int) = j
      · have : i = j.toNat := by omega
        subst this; simpa using h5
      · exact hall i (by omega)
  · try simp only [zb1, zb2, zb3, zb4, zb5, zb6, zb7, zb8, zb9, zb10] at h2
    refine tr_exit ?_
    refine tr_seq ?_
    refine tr_region fun _ _ _ => ?_
    refine pu rfl rfl rfl rfl rfl ?_
    have hyes := closB_all (p := p) (m := m) (mod := mod) (k := k.toNat) (rs := rs) (fun i hi => hall i (by omega))
    exact tr_ret ⟨trivial, _, _, rfl, ⟨by rw [hyes], rfl⟩, CSub.nil _, trivial⟩

theorem ref_Is__ent : Enters Tryz.prog 22 := enters_of Tryz.func22 (by kernel_rfl) (by kernel_rfl)
theorem ref_Is_ (p m : Int) (A : Option Addr) (c : Nat) (mod : List Int) [hF : IsF p m mod] (w : Int) (Aa : Option Addr) (n ca : Nat) (rs : List RowM) (hn : n = rs.length) (h9 : rs.length ≤ 256) (hc : CodeOk p m mod w rs)  :
    Pure Tryz.prog 22 #[.agg #[.int .i64 p, .int .i64 m, .slice A mod.length c, .int .i64 w, .slice Aa n ca]] [ro A (ints mod), ro Aa (hdrs rs), rowsR rs] (isV (.bool (closB p m mod w.toNat rs))) := by
  have hl9 := hF.short
  have hn1 := hc.n1
  have hn64 := hc.n64
  have hlen := hc.len
  have hgd := hc.good
  have h8 := hgd.h8 (N := 17592186044415) (by omega)
  have hck := hc.zero
  refine pure_of (args := [.agg #[.int .i64 p, .int .i64 m, .slice A mod.length c, .int .i64 w, .slice Aa n ca]]) 23 Tryz.func22 rfl rfl rfl ref_Is__ent ⟨id, id, id, trivial⟩ (fun w0 => ?_)
  refine tr_seq ?_
  refine tr_region fun _ _ _ => ?_
  refine ef rfl rfl (eBox rfl rfl rfl rfl rfl (fun p0 => ?_)) 
  refine pu rfl rfl rfl rfl rfl ?_
  refine tr_seq ?_
  refine tr_seq ?_
  refine tr_region fun _ _ _ => ?_
  refine pu rfl rfl rfl rfl rfl ?_
  refine tr_block ?_
  refine tr_loop1 (fun (j : Int) => [(3, .int .i64 j), (1, .pointer (some p0))]) (fun (j : Int) => [blk p0 27 [.int .i64 p, .int .i64 m, .slice A mod.length c, .int .i64 w, .slice Aa n ca], ro A (ints mod), ro Aa (hdrs rs), rowsR rs]) (fun (j : Int) => (0 ≤ j ∧ j ≤ n) ∧ ∀ i : Nat, (i : Int) < j → memB p m mod rs (shF w.toNat (rs.getD i rowD).xs) = true) (fun (j : Int) => (n - j).toNat) (0) ⟨rfl, rfl, trivial⟩ (by first | exact cs _ _ | exact CSub.refl _) (⟨⟨by omega, by omega⟩, fun i hi => by omega⟩) (fun j hI => ?_)
  obtain ⟨⟨hj0, hj1⟩, hall⟩ := hI
  refine tr_seq ?_
  refine tr_seq ?_
  refine tr_region fun _ _ _ => ?_
  refine pu rfl rfl rfl rfl rfl ?_
  refine st rfl rfl rfl rfl (rFld rfl rfl) ?_
  refine st rfl rfl rfl rfl (rLdF rfl rfl rfl) ?_
  refine st rfl rfl rfl rfl (rLen rfl rfl) ?_
  refine pu rfl rfl rfl rfl rfl ?_
  refine tr_cond_bool rfl (fun h2 => ?_) (fun h2 => ?_)
  · try simp only [zb1, zb2, zb3, zb4, zb5, zb6, zb7, zb8, zb9, zb10] at h2
    refine tr_skip ?_
    refine tr_seq ?_
    refine tr_block ?_
    refine tr_seq ?_
    have hgj := hgd.get (show j.toNat < rs.length by omega)
    haveI : InB j.toNat rs.length := ⟨by omega⟩
    have hgj1 := hgj.1
    have hgj2 := hgj.2
    refine tr_draw [0, 1, 2, 3, 4, 5, 6, 7, 8, 9, 10, 11] [] mixed (by kernel_rfl) fun _ _ _ => ?_
    refine st rfl rfl rfl rfl (rFld rfl rfl) ?_
    refine st rfl rfl rfl rfl (rLdSF rfl rfl) ?_
    refine st rfl rfl rfl rfl (rFld rfl rfl) ?_
    refine st rfl rfl rfl rfl (rLdF rfl rfl rfl) ?_
    refine st rfl rfl rfl rfl (rFld rfl rfl) ?_
    refine st rfl rfl rfl rfl (rLdF rfl rfl rfl) ?_
    refine pu rfl rfl rfl rfl rfl ?_
    refine st rfl rfl rfl rfl (rIdxR rfl rfl rfl (by omega) (by omega) (by omega)) ?_
    refine st rfl rfl rfl rfl (rLdR rfl rfl (by omega)) ?_
    refine ef rfl rfl (eCall1 rfl rfl rfl (ref_ShiftW w.toNat _ _ _ (rs.getD j.toNat rowD).xs rfl (by omega) hgj1) ⟨rfl, trivial⟩ ?_) 
    rintro _ _ ⟨B4, rfl, rfl⟩
    refine ef rfl rfl (eCallV rfl rfl rfl (ref_RIn' _ _ _ _ _ w Aa n ca rs hn h9 hc B4 _ _ (shF w.toNat (rs.getD j.toNat rowD).xs) (by rw [shF_length]) (by rw [shF_length]; omega) (shF_in (by have := hF.q2; omega) hgj2)) ⟨rfl, rfl, rfl, trivial⟩ ?_) 
    refine st rfl rfl rfl rfl (rNotB rfl rfl) ?_
    refine tr_cond_bool rfl (fun h4 => ?_) (fun h4 => ?_)
    · try simp only [zb1, zb2, zb3, zb4, zb5, zb6, zb7, zb8, zb9, zb10] at h4
      refine tr_seq ?_
      refine tr_region fun _ _ _ => ?_
      refine pu rfl rfl rfl rfl rfl ?_
      have hno := closB_no (p := p) (m := m) (mod := mod) (k := w.toNat) (show j.toNat < rs.length by omega) (by simpa using h4)
      exact tr_ret ⟨trivial, _, _, rfl, ⟨by rw [hno], rfl⟩, CSub.nil _, trivial⟩
    · try simp only [zb1, zb2, zb3, zb4, zb5, zb6, zb7, zb8, zb9, zb10] at h4
      refine tr_skip ?_
      refine tr_region fun _ _ _ => ?_
      refine pu rfl rfl rfl rfl rfl ?_
      refine st rfl rfl rfl rfl (rAdd rfl rfl rfl (by omega) (by omega)) ?_
      refine pu rfl rfl rfl rfl rfl ?_
      refine ⟨j + 1, ⟨rfl, rfl, trivial⟩, by first | exact cs _ _ | exact CSub.refl _, ?_⟩
      refine ⟨⟨⟨by omega, by omega⟩, fun i hi => ?_⟩, by omega⟩
      by_cases he : (i : Int) = j
      · have : i = j.toNat := by omega
        subst this; simpa using h4
      · exact hall i (by omega)
  · try simp only [zb1, zb2, zb3, zb4, zb5, zb6, zb7, zb8, zb9, zb10] at h2
    refine tr_exit ?_
    refine tr_seq ?_
    refine tr_region fun _ _ _ => ?_
    refine pu rfl rfl rfl rfl rfl ?_
    have hyes := closB_all (p := p) (m := m) (mod := mod) (k := w.toNat) (rs := rs) (fun i hi => hall i (by omega))
    exact tr_ret ⟨trivial, _, _, rfl, ⟨by rw [hyes], rfl⟩, CSub.nil _, trivial⟩

theorem cyc_IsE_ent : Enters Tryz.prog 18 := enters_of Tryz.func18 (by kernel_rfl) (by kernel_rfl)
theorem cyc_IsE (p m : Int) (A : Option Addr) (c : Nat) (mod : List Int) (hl9 : mod.length ≤ 17592186044415) (w : Int) (Aa : Option Addr) (n ca : Nat) (rs : List RowM) (hn : n = rs.length) (h9 : rs.length ≤ 17592186044415) (h8 : ∀ r ∈ rs, r.xs.length ≤ 17592186044415) (he : codC p m mod w rs ≠ 0) :
    Pure Tryz.prog 18 #[.agg #[.int .i64 p, .int .i64 m, .slice A mod.length c, .int .i64 w, .slice Aa n ca]] [ro A (ints mod), ro Aa (hdrs rs), rowsR rs] (isV (.tuple #[.bool false, .int .i64 (codC p m mod w rs)])) := by
  refine pure_of (args := [.agg #[.int .i64 p, .int .i64 m, .slice A mod.length c, .int .i64 w, .slice Aa n ca]]) 14 Tryz.func18 rfl rfl rfl cyc_IsE_ent ⟨id, id, id, trivial⟩ (fun w0 => ?_)
  refine tr_seq ?_
  refine tr_region fun _ _ _ => ?_
  refine ef rfl rfl (eBox rfl rfl rfl rfl rfl (fun p0 => ?_)) 
  iterate 2 refine pu rfl rfl rfl rfl rfl ?_
  refine tr_seq ?_
  refine tr_seq ?_
  refine tr_region fun _ _ _ => ?_
  refine st rfl rfl rfl rfl (rLdS rfl rfl rfl) ?_
  refine ef rfl rfl (eCallV rfl rfl rfl (code_Check _ _ _ _ _ hl9 w Aa _ ca rs hn h9 h8) ⟨rfl, trivial⟩ ?_) 
  refine pu rfl rfl rfl rfl rfl ?_
  refine tr_seq ?_
  refine tr_region fun _ _ _ => ?_
  iterate 2 refine pu rfl rfl rfl rfl rfl ?_
  refine tr_cond_bool rfl (fun h2 => ?_) (fun h2 => ?_)
  · try simp only [zb1, zb2, zb3, zb4, zb5, zb6, zb7, zb8, zb9, zb10] at h2
    refine tr_seq ?_
    refine tr_region fun _ _ _ => ?_
    iterate 3 refine pu rfl rfl rfl rfl rfl ?_
    exact tr_ret ⟨trivial, _, _, rfl, ⟨rfl, rfl⟩, CSub.nil _, trivial⟩
  · try simp only [zb1, zb2, zb3, zb4, zb5, zb6, zb7, zb8, zb9, zb10] at h2
    omega --done

theorem cyc_Is_ent : Enters Tryz.prog 18 := enters_of Tryz.func18 (by kernel_rfl) (by kernel_rfl)
theorem cyc_Is (p m : Int) (A : Option Addr) (c : Nat) (mod : List Int) [hF : IsF p m mod] (w : Int) (Aa : Option Addr) (n ca : Nat) (rs : List RowM) (hn : n = rs.length) (h9 : rs.length ≤ 256) (hc : CodeOk p m mod w rs) :
    Pure Tryz.prog 18 #[.agg #[.int .i64 p, .int .i64 m, .slice A mod.length c, .int .i64 w, .slice Aa n ca]] [ro A (ints mod), ro Aa (hdrs rs), rowsR rs] (isV (.tuple #[.bool (closB p m mod w.toNat rs), .int .i64 0])) := by
  have hl9 := hF.short
  have hn1 := hc.n1
  have hn64 := hc.n64
  have hlen := hc.len
  have hgd := hc.good
  have h8 := hgd.h8 (N := 17592186044415) (by omega)
  have hck := hc.zero
  refine pure_of (args := [.agg #[.int .i64 p, .int .i64 m, .slice A mod.length c, .int .i64 w, .slice Aa n ca]]) 14 Tryz.func18 rfl rfl rfl cyc_Is_ent ⟨id, id, id, trivial⟩ (fun w0 => ?_)
  refine tr_seq ?_
  refine tr_region fun _ _ _ => ?_
  refine ef rfl rfl (eBox rfl rfl rfl rfl rfl (fun p0 => ?_)) 
  iterate 2 refine pu rfl rfl rfl rfl rfl ?_
  refine tr_seq ?_
  refine tr_seq ?_
  refine tr_region fun _ _ _ => ?_
  refine st rfl rfl rfl rfl (rLdS rfl rfl rfl) ?_
  refine ef rfl rfl (eCallV rfl rfl rfl (code_Check _ _ _ _ _ (by omega) w Aa _ ca rs hn (by omega) h8) ⟨rfl, trivial⟩ ?_) 
  refine pu rfl rfl rfl rfl rfl ?_
  refine tr_seq ?_
  refine tr_region fun _ _ _ => ?_
  iterate 2 refine pu rfl rfl rfl rfl rfl ?_
  refine tr_cond_bool rfl (fun h2 => ?_) (fun h2 => ?_)
  · try simp only [zb1, zb2, zb3, zb4, zb5, zb6, zb7, zb8, zb9, zb10] at h2
    omega --done
  · try simp only [zb1, zb2, zb3, zb4, zb5, zb6, zb7, zb8, zb9, zb10] at h2
    refine tr_skip ?_
    refine tr_seq ?_
    refine tr_region fun _ _ _ => ?_
    refine st rfl rfl rfl rfl (rLdS rfl rfl rfl) ?_
    refine st rfl rfl rfl rfl (rFld rfl rfl) ?_
    refine st rfl rfl rfl rfl (rLdF rfl rfl rfl) ?_
    refine ef rfl rfl (eCallV rfl rfl rfl (cyc_closed _ _ _ _ _ w Aa n ca rs hn h9 hc w hn1 hn64 (Nat.dvd_refl _)) ⟨rfl, rfl, trivial⟩ ?_) 
    iterate 2 refine pu rfl rfl rfl rfl rfl ?_
    exact tr_ret ⟨trivial, _, _, rfl, ⟨rfl, rfl⟩, CSub.nil _, trivial⟩

end Go.Proofs.YtjmojhflnjbgaaaGreat

set_option linter.unusedSimpArgs false
set_option linter.unusedVariables false
set_option maxRecDepth 100000
namespace Go.Proofs.YtjmojhflnjbgaaaGreat
open Go.RowKit

theorem cyc_partsE_ent : Enters Tryz.prog 68 := enters_of Tryz.func68 (by kernel_rfl) (by kernel_rfl)
theorem cyc_partsE (p m : Int) (A : Option Addr) (c : Nat) (mod : List Int) (hl9 : mod.length ≤ 17592186044415) (w : Int) (Aa : Option Addr) (n ca : Nat) (rs : List RowM) (hn : n = rs.length) (h9 : rs.length ≤ 17592186044415) (h8 : ∀ r ∈ rs, r.xs.length ≤ 17592186044415) (he : codC p m mod w rs ≠ 0) :
    Pure Tryz.prog 68 #[.agg #[.int .i64 p, .int .i64 m, .slice A mod.length c, .int .i64 w, .slice Aa n ca]] [ro A (ints mod), ro Aa (hdrs rs), rowsR rs] (isV (.tuple #[.pointer none, .slice none 0 0, .slice none 0 0, .int .i64 (codC p m mod w rs)])) := by
  refine pure_of (args := [.agg #[.int .i64 p, .int .i64 m, .slice A mod.length c, .int .i64 w, .slice Aa n ca]]) 61 Tryz.func68 rfl rfl rfl cyc_partsE_ent ⟨id, id, id, trivial⟩ (fun w0 => ?_)
  refine tr_seq ?_
  refine tr_region fun _ _ _ => ?_
  refine ef rfl rfl (eBox rfl rfl rfl rfl rfl (fun p0 => ?_)) 
  iterate 4 refine pu rfl rfl rfl rfl rfl ?_
  refine tr_seq ?_
  refine tr_region fun _ _ _ => ?_
  refine st rfl rfl rfl rfl (rLdS rfl rfl rfl) ?_
  refine ef rfl rfl (eCallV rfl rfl rfl (cyc_IsE p m A c mod hl9 w Aa n ca rs hn h9 h8 he) ⟨rfl, trivial⟩ ?_) 
  iterate 5 refine pu rfl rfl rfl rfl rfl ?_
  refine tr_seq ?_
  refine tr_seq ?_
  refine tr_region fun _ _ _ => ?_
  iterate 2 refine pu rfl rfl rfl rfl rfl ?_
  refine tr_cond_bool rfl (fun h2 => ?_) (fun h2 => ?_)
  · try simp only [zb1, zb2, zb3, zb4, zb5, zb6, zb7, zb8, zb9, zb10] at h2
    refine tr_seq ?_
    refine tr_region fun _ _ _ => ?_
    iterate 5 refine pu rfl rfl rfl rfl rfl ?_
    exact tr_ret ⟨trivial, _, _, rfl, ⟨rfl, rfl⟩, CSub.nil _, trivial⟩
  · try simp only [zb1, zb2, zb3, zb4, zb5, zb6, zb7, zb8, zb9, zb10] at h2
    omega --done

theorem cyc_partsN_ent : Enters Tryz.prog 68 := enters_of Tryz.func68 (by kernel_rfl) (by kernel_rfl)
theorem cyc_partsN (p m : Int) (A : Option Addr) (c : Nat) (mod : List Int) [hF : IsF p m mod] (w : Int) (Aa : Option Addr) (n ca : Nat) (rs : List RowM) (hn : n = rs.length) (h9 : rs.length ≤ 256) (hc : CodeOk p m mod w rs) (hcl : closB p m mod w.toNat rs = false) :
    Pure Tryz.prog 68 #[.agg #[.int .i64 p, .int .i64 m, .slice A mod.length c, .int .i64 w, .slice Aa n ca]] [ro A (ints mod), ro Aa (hdrs rs), rowsR rs] (isV (.tuple #[.pointer none, .slice none 0 0, .slice none 0 0, .int .i64 5])) := by
  have hl9 := hF.short
  have hn1 := hc.n1
  have hn64 := hc.n64
  have hlen := hc.len
  have hgd := hc.good
  have h8 := hgd.h8 (N := 17592186044415) (by omega)
  have hck := hc.zero
  refine pure_of (args := [.agg #[.int .i64 p, .int .i64 m, .slice A mod.length c, .int .i64 w, .slice Aa n ca]]) 61 Tryz.func68 rfl rfl rfl cyc_partsN_ent ⟨id, id, id, trivial⟩ (fun w0 => ?_)
  refine tr_seq ?_
  refine tr_region fun _ _ _ => ?_
  refine ef rfl rfl (eBox rfl rfl rfl rfl rfl (fun p0 => ?_)) 
  iterate 4 refine pu rfl rfl rfl rfl rfl ?_
  refine tr_seq ?_
  refine tr_region fun _ _ _ => ?_
  refine st rfl rfl rfl rfl (rLdS rfl rfl rfl) ?_
  refine ef rfl rfl (eCallV rfl rfl rfl (cyc_Is _ _ _ _ _ w Aa n ca rs hn h9 hc) ⟨rfl, trivial⟩ ?_) 
  iterate 5 refine pu rfl rfl rfl rfl rfl ?_
  refine tr_seq ?_
  refine tr_seq ?_
  refine tr_region fun _ _ _ => ?_
  iterate 2 refine pu rfl rfl rfl rfl rfl ?_
  refine tr_cond_bool rfl (fun h2 => ?_) (fun h2 => ?_)
  · try simp only [zb1, zb2, zb3, zb4, zb5, zb6, zb7, zb8, zb9, zb10] at h2
    first | exact absurd trivial h2 | exact absurd rfl h2 | omega | (exact absurd h2 (by simp)) --done
  · try simp only [zb1, zb2, zb3, zb4, zb5, zb6, zb7, zb8, zb9, zb10] at h2
    refine tr_skip ?_
    refine tr_seq ?_
    refine tr_seq ?_
    refine tr_region fun _ _ _ => ?_
    refine pu rfl rfl rfl rfl rfl ?_
    refine st rfl rfl rfl rfl (rNotB rfl rfl) ?_
    refine tr_cond_bool rfl (fun h4 => ?_) (fun h4 => ?_)
    · try simp only [zb1, zb2, zb3, zb4, zb5, zb6, zb7, zb8, zb9, zb10] at h4
      refine tr_seq ?_
      refine tr_region fun _ _ _ => ?_
      iterate 4 refine pu rfl rfl rfl rfl rfl ?_
      exact tr_ret ⟨trivial, _, _, rfl, ⟨rfl, rfl⟩, CSub.nil _, trivial⟩
    · try simp only [zb1, zb2, zb3, zb4, zb5, zb6, zb7, zb8, zb9, zb10] at h4
      rw [hcl] at h4; simp at h4 --done

theorem cyc_parts_ent : Enters Tryz.prog 68 := enters_of Tryz.func68 (by kernel_rfl) (by kernel_rfl)
theorem cyc_parts (p m : Int) (A : Option Addr) (c : Nat) (mod : List Int) [hF : IsF p m mod] (w : Int) (Aa : Option Addr) (n ca : Nat) (rs : List RowM) (hn : n = rs.length) (h9 : rs.length ≤ 256) (hc : CodeOk p m mod w rs) (hcl : closB p m mod w.toNat rs = true) :
    Pure Tryz.prog 68 #[.agg #[.int .i64 p, .int .i64 m, .slice A mod.length c, .int .i64 w, .slice Aa n ca]] [ro A (ints mod), ro Aa (hdrs rs), rowsR rs] (three (fun v c1 c2 c3 => ∃ (g : GfM) (Bg : Option Addr) (cg : Nat) (Bq : Option Addr) (cq : Nat), v = .tuple #[.pointer (some g.p), .slice Bg (il (genP p m mod w.toNat (xss rs))).length cg, .slice Bq (il (Po.quo (xn1 w.toNat : Po (El p m mod)) (genP p m mod w.toNat (xss rs)))).length cq, .int .i64 0] ∧ c1 = gfN g ∧ c2 = rx Bg (ints (il (genP p m mod w.toNat (xss rs)))) ∧ c3 = ow Bq 3 cq (ints (il (Po.quo (xn1 w.toNat : Po (El p m mod)) (genP p m mod w.toNat (xss rs))))) ∧ GOk g p m mod)) := by
  have hl9 := hF.short
  have hn1 := hc.n1
  have hn64 := hc.n64
  have hlen := hc.len
  have hgd := hc.good
  have h8 := hgd.h8 (N := 17592186044415) (by omega)
  have hck := hc.zero
  refine pure_of (args := [.agg #[.int .i64 p, .int .i64 m, .slice A mod.length c, .int .i64 w, .slice Aa n ca]]) 61 Tryz.func68 rfl rfl rfl cyc_parts_ent ⟨id, id, id, trivial⟩ (fun w0 => ?_)
  refine tr_seq ?_
  refine tr_region fun _ _ _ => ?_
  refine ef rfl rfl (eBox rfl rfl rfl rfl rfl (fun p0 => ?_)) 
  iterate 4 refine pu rfl rfl rfl rfl rfl ?_
  refine tr_seq ?_
  refine tr_region fun _ _ _ => ?_
  refine st rfl rfl rfl rfl (rLdS rfl rfl rfl) ?_
  refine ef rfl rfl (eCallV rfl rfl rfl (cyc_Is _ _ _ _ _ w Aa n ca rs hn h9 hc) ⟨rfl, trivial⟩ ?_) 
  iterate 5 refine pu rfl rfl rfl rfl rfl ?_
  refine tr_seq ?_
  refine tr_seq ?_
  refine tr_region fun _ _ _ => ?_
  iterate 2 refine pu rfl rfl rfl rfl rfl ?_
  refine tr_cond_bool rfl (fun h2 => ?_) (fun h2 => ?_)
  · try simp only [zb1, zb2, zb3, zb4, zb5, zb6, zb7, zb8, zb9, zb10] at h2
    first | exact absurd trivial h2 | exact absurd rfl h2 | omega | (exact absurd h2 (by simp)) --done
  · try simp only [zb1, zb2, zb3, zb4, zb5, zb6, zb7, zb8, zb9, zb10] at h2
    refine tr_skip ?_
    refine tr_seq ?_
    refine tr_seq ?_
    refine tr_region fun _ _ _ => ?_
    refine pu rfl rfl rfl rfl rfl ?_
    refine st rfl rfl rfl rfl (rNotB rfl rfl) ?_
    refine tr_cond_bool rfl (fun h4 => ?_) (fun h4 => ?_)
    · try simp only [zb1, zb2, zb3, zb4, zb5, zb6, zb7, zb8, zb9, zb10] at h4
      rw [hcl] at h4; simp at h4 --done
    · try simp only [zb1, zb2, zb3, zb4, zb5, zb6, zb7, zb8, zb9, zb10] at h4
      refine tr_skip ?_
      refine tr_seq ?_
      refine tr_region fun _ _ _ => ?_
      refine st rfl rfl rfl rfl (rFld rfl rfl) ?_
      refine st rfl rfl rfl rfl (rLdSF rfl rfl) ?_
      refine ef rfl rfl (eCall1 rfl rfl rfl (fld_New_ok _ _ _ _ _ (by omega) hF.out) ⟨rfl, trivial⟩ ?_) 
      rintro _ _ ⟨g, rfl, rfl, hg⟩
      iterate 5 refine pu rfl rfl rfl rfl rfl ?_
      refine tr_seq ?_
      refine tr_region fun _ _ _ => ?_
      refine pu rfl rfl rfl rfl rfl ?_
      refine st rfl rfl rfl rfl (rFld rfl rfl) ?_
      refine st rfl rfl rfl rfl (rLdF rfl rfl rfl) ?_
      refine ef rfl rfl (eCall1 rfl rfl rfl (cyc_around g hg w hn1 (by omega)) ⟨rfl, rfl, trivial⟩ ?_) 
      rintro _ _ ⟨B7, rfl, rfl⟩
      refine pu rfl rfl rfl rfl rfl ?_
      rw [around_il (show 1 ≤ w.toNat by omega)]
      have hxl : (il (xn1 w.toNat : Po (El p m mod))).length ≤ 17592186044415 := by rw [il_length, xn1_len (by omega)]; omega
      refine tr_seq ?_
      refine tr_region fun _ _ _ => ?_
      iterate 2 refine pu rfl rfl rfl rfl rfl ?_
      refine tr_seq ?_
      refine tr_seq ?_
      refine tr_region fun _ _ _ => ?_
      refine st rfl rfl rfl rfl (rFld rfl rfl) ?_
      refine st rfl rfl rfl rfl (rLdF rfl rfl rfl) ?_
      refine st rfl rfl rfl rfl (rLen rfl rfl) ?_
      refine pu rfl rfl rfl rfl rfl ?_
      refine tr_block ?_
      refine tr_loop3 (fun (j : Int) (Bg : Option Addr) (cg : Nat) => [(11, .slice Bg (il (genP p m mod w.toNat ((xss rs).take j.toNat))).length cg), (10, .slice B7 (il (xn1 w.toNat : Po (El p m mod))).length (il (xn1 w.toNat : Po (El p m mod))).length), (39, .slice Aa n ca), (40, .int .i64 n), (41, .int .i64 j), (2, .pointer none), (3, .slice none 0 0), (4, .slice none 0 0), (5, .int .i64 0), (8, .pointer (some g.p))]) (fun (j : Int) (Bg : Option Addr) (cg : Nat) => [rr Bg (ints (il (genP p m mod w.toNat ((xss rs).take j.toNat)))) B7 (ints (il (xn1 w.toNat : Po (El p m mod)))), gfN g, blk p0 27 [.int .i64 p, .int .i64 m, .slice A mod.length c, .int .i64 w, .slice Aa n ca], ro A (ints mod), ro Aa (hdrs rs), rowsR rs]) (fun (j : Int) (Bg : Option Addr) (cg : Nat) => 0 ≤ j ∧ j ≤ n) (fun (j : Int) (Bg : Option Addr) (cg : Nat) => (n - j).toNat) (0) (B7) ((il (xn1 w.toNat : Po (El p m mod))).length) ⟨rfl, rfl, rfl, rfl, rfl, rfl, rfl, rfl, rfl, rfl, trivial⟩ (by rw [Int.toNat_zero, List.take_zero, genP_nil]; exact (rr_of _).trans (cs _ _)) (by omega) (fun j Bg cg hI => ?_)
      obtain ⟨hj0, hj1⟩ := hI
      have hfl := genP_len (p := p) (m := m) (mod := mod) (n := w.toNat) (by omega) ((xss rs).take j.toNat)
      rw [← il_length] at hfl
      have hfn := genP_ne (p := p) (m := m) (mod := mod) (n := w.toNat) (by omega) ((xss rs).take j.toNat)
      refine tr_seq ?_
      refine tr_region fun _ _ _ => ?_
      refine pu rfl rfl rfl rfl rfl ?_
      refine tr_seq ?_
      refine tr_cond_bool rfl (fun h10 => ?_) (fun h10 => ?_)
      · try simp only [zb1, zb2, zb3, zb4, zb5, zb6, zb7, zb8, zb9, zb10] at h10
        refine tr_skip ?_
        refine tr_seq ?_
        refine tr_block ?_
        refine tr_seq ?_
        have hgj := hgd.get (show j.toNat < rs.length by omega)
        haveI : InB j.toNat rs.length := ⟨by omega⟩
        have hgj1 := hgj.1
        have hgj2 := hgj.2
        refine tr_region fun _ _ _ => ?_
        refine st rfl rfl rfl rfl (rIdxR rfl rfl rfl (by omega) (by omega) (by omega)) ?_
        refine st rfl rfl rfl rfl (rLdR rfl rfl (by omega)) ?_
        refine pu rfl rfl rfl rfl rfl ?_
        refine tr_region fun _ _ _ => ?_
        iterate 3 refine pu rfl rfl rfl rfl rfl ?_
        refine ef rfl rfl (eCall1 rfl rfl rfl (poly_Gcd g hg Bg _ _ (il (genP p m mod w.toNat ((xss rs).take j.toNat))) rfl (by omega) _ _ _ (rs.getD j.toNat rowD).xs rfl (by omega) (.inl (by rw [pol_il]; exact hfn))) ⟨rfl, rfl, rfl, trivial⟩ ?_) 
        rintro _ _ ⟨Bn, cn, rfl, rfl⟩
        refine pu rfl rfl rfl rfl rfl ?_
        have htk : (xss rs).take (j + 1).toNat = (xss rs).take j.toNat ++ [(rs.getD j.toNat rowD).xs] := by
          rw [show (j + 1).toNat = j.toNat + 1 by omega, List.take_add_one, List.getElem?_eq_getElem (show j.toNat < (xss rs).length by rw [xss_length]; omega)]
          have := xss_getD rs j.toNat
          rw [List.getD_eq_getElem?_getD, List.getElem?_eq_getElem (show j.toNat < (xss rs).length by rw [xss_length]; omega)] at this
          rw [← this]; rfl
        rw [pol_il, ← genP_snoc, ← htk]
        refine tr_region fun _ _ _ => ?_
        refine st rfl rfl rfl rfl (rAdd rfl rfl rfl (by omega) (by omega)) ?_
        refine pu rfl rfl rfl rfl rfl ?_
        refine ⟨j + 1, Bn, cn, ⟨rfl, rfl, rfl, rfl, rfl, rfl, rfl, rfl, rfl, rfl, trivial⟩, by exact rr_step _, ?_⟩
        exact ⟨⟨by omega, by omega⟩, by omega⟩
      · try simp only [zb1, zb2, zb3, zb4, zb5, zb6, zb7, zb8, zb9, zb10] at h10
        refine tr_exit ?_
        refine tr_seq ?_
        have hjn : (xss rs).take j.toNat = xss rs := List.take_of_length_le (by rw [xss_length]; omega)
        rw [hjn] at hfl hfn ⊢
        refine tr_region fun _ _ _ => ?_
        iterate 3 refine pu rfl rfl rfl rfl rfl ?_
        refine ef rfl rfl (eCall2 rfl rfl rfl (poly_DivMod g hg B7 _ _ (il (xn1 w.toNat : Po (El p m mod))) rfl hxl Bg _ _ (il (genP p m mod w.toNat (xss rs))) rfl (by omega) (by rw [pol_il]; exact hfn)) ⟨rfl, rfl, rfl, trivial⟩ ?_) 
        rintro _ _ _ ⟨Bq, cq, Br, cr, rfl, rfl, rfl⟩
        iterate 7 refine pu rfl rfl rfl rfl rfl ?_
        simp only [pol_il]
        refine tr_seq ?_
        refine tr_region fun _ _ _ => ?_
        iterate 7 refine pu rfl rfl rfl rfl rfl ?_
        exact tr_ret ⟨trivial, _, _, rfl, ⟨_, _, _, rfl, g, Bg, cg, Bq, cq, rfl, rfl, rfl, rfl, hg⟩, (cs _ [rr Bg (ints (il (genP p m mod w.toNat (xss rs)))) B7 (ints (il (xn1 w.toNat : Po (El p m mod)))), gfN g, ow Bq 3 cq (ints (il (Po.quo (xn1 w.toNat : Po (El p m mod)) (genP p m mod w.toNat (xss rs)))))]).trans ((rr_fst _).trans (cs _ _)), gfO_excl _ _ _, trivial, trivial, trivial⟩









end Go.Proofs.YtjmojhflnjbgaaaGreat

set_option linter.unusedSimpArgs false
set_option linter.unusedVariables false
set_option maxRecDepth 100000
namespace Go.Proofs.YtjmojhflnjbgaaaGreat
open Go.RowKit

theorem poly_combine_ent : Enters Tryz.prog 220 := enters_of Tryz.func220 (by kernel_rfl) (by kernel_rfl)
theorem poly_combine (g : GfM) {p m : Int} {mod : List Int} [hF : IsF p m mod] (hg : GOk g p m mod) (A : Option Addr) (n c : Nat) (a : List Int) (hn : n = a.length) (ha9 : a.length ≤ 1000000) (x : Int) (B : Option Addr) (k d : Nat) (b : List Int) (hk : k = b.length) (hb9 : b.length ≤ 1000000) :
    Pure Tryz.prog 220 #[.pointer (some g.p), .slice A n c, .int .i64 x, .slice B k d] [gfR g, ro A (ints a), ro B (ints b)] (one (fun v ch => ∃ B cap, v = .slice B (il ((pol a : Po (El p m mod)) + Po.C (el x) * (pol b : Po (El p m mod)))).length cap ∧ ch = ow B 3 cap (ints (il ((pol a : Po (El p m mod)) + Po.C (el x) * (pol b : Po (El p m mod))))))) := by
  have hq2 := hF.q2
  refine pure_of (args := [.pointer (some g.p), .slice A n c, .int .i64 x, .slice B k d]) 57 Tryz.func220 rfl rfl rfl poly_combine_ent ⟨id, id, id, trivial⟩ (fun w0 => ?_)
  refine tr_seq ?_
  refine tr_region fun _ _ _ => ?_
  refine pu rfl rfl rfl rfl rfl ?_
  refine tr_seq ?_
  refine tr_region fun _ _ _ => ?_
  refine pu rfl rfl rfl rfl rfl ?_
  refine st rfl rfl rfl rfl (rLen rfl rfl) ?_
  refine pu rfl rfl rfl rfl rfl ?_
  refine st rfl rfl rfl rfl (rLen rfl rfl) ?_
  refine st rfl rfl rfl rfl (rMax rfl rfl rfl) ?_
  refine ef rfl rfl (eMakeI rfl rfl rfl rfl rfl (by omega) (by omega) (by omega) (fun A1 => ?_)) 
  refine pu rfl rfl rfl rfl rfl ?_
  have hmx : (max (n : Int) (k : Int)).toNat = max n k := by omega
  simp only [hmx]
  refine tr_seq ?_
  refine tr_seq ?_
  refine tr_region fun _ _ _ => ?_
  refine pu rfl rfl rfl rfl rfl ?_
  refine st rfl rfl rfl rfl (rLen rfl rfl) ?_
  refine pu rfl rfl rfl rfl rfl ?_
  refine tr_block ?_
  refine tr_loop2 (fun (i : Int) (o : List Int) => [(9, .slice A1 (max n k) (max n k)), (20, .slice A n c), (21, .int .i64 n), (22, .int .i64 i), (3, .slice B k d), (0, .pointer (some g.p)), (2, .int .i64 x), (8, .slice none 0 0)]) (fun (i : Int) (o : List Int) => [ow A1 3 (max n k) (ints o), gfR g, ro A (ints a), ro B (ints b)]) (fun (i : Int) (o : List Int) => (0 ≤ i ∧ i ≤ n) ∧ (o.length = max n k ∧ AllIn (pw p m) o) ∧ ∀ j : Nat, o.getD j 0 = if (j : Int) < i then (el (a.getD j 0) : El p m mod).1 else 0) (fun (i : Int) (o : List Int) => (n - i).toNat) (0) (List.replicate (max n k) 0) ⟨rfl, rfl, rfl, rfl, rfl, rfl, rfl, rfl, trivial⟩ (by first | exact cs _ _ | exact CSub.refl _) (⟨⟨by omega, by omega⟩, ⟨by simp, allIn_rep (by omega) _⟩, fun j => by rw [rep_get, if_neg (by omega)]⟩) (fun i o hI => ?_)
  obtain ⟨⟨hi0, hi1⟩, ⟨hol, hoi⟩, ho⟩ := hI
  refine tr_seq ?_
  refine tr_region fun _ _ _ => ?_
  refine pu rfl rfl rfl rfl rfl ?_
  refine tr_seq ?_
  refine tr_cond_bool rfl (fun h3 => ?_) (fun h3 => ?_)
  · try simp only [zb1, zb2, zb3, zb4, zb5, zb6, zb7, zb8, zb9, zb10] at h3
    refine tr_skip ?_
    refine tr_seq ?_
    refine tr_block ?_
    refine tr_seq ?_
    refine tr_region fun _ _ _ => ?_
    refine pu rfl rfl rfl rfl rfl ?_
    refine st rfl rfl rfl rfl (rIdxI rfl rfl rfl (by omega) (by omega) (by omega)) ?_
    refine st rfl rfl rfl rfl (rLdI rfl rfl (by omega)) ?_
    iterate 2 refine pu rfl rfl rfl rfl rfl ?_
    refine tr_region fun _ _ _ => ?_
    iterate 4 refine pu rfl rfl rfl rfl rfl ?_
    refine ef rfl rfl (eCallV rfl rfl rfl (gf_AddE g hg _ _) ⟨rfl, rfl, rfl, trivial⟩ ?_) 
    refine st rfl rfl rfl rfl (rIdxI rfl rfl rfl (by omega) (by omega) (by omega)) ?_
    refine ef rfl rfl (eStI rfl rfl rfl rfl (by omega) ?_) 
    refine tr_region fun _ _ _ => ?_
    refine st rfl rfl rfl rfl (rAdd rfl rfl rfl (by omega) (by omega)) ?_
    refine pu rfl rfl rfl rfl rfl ?_
    refine ⟨i + 1, o.set i.toNat (el (a.getD i.toNat 0) + el 0 : El p m mod).1, ⟨rfl, rfl, rfl, rfl, rfl, rfl, rfl, rfl, trivial⟩, by first | exact cs _ _ | exact CSub.refl _, ?_⟩
    refine ⟨⟨⟨by omega, by omega⟩, ⟨by simpa using hol, hoi.set (El.bd _) _⟩, fun j => ?_⟩, by omega⟩
    rw [getD_set, ho j]
    by_cases he : i.toNat = j
    · subst he; rw [if_pos ⟨rfl, by omega⟩, if_pos (by omega), el_zero, Rg.add_zero]
    · rw [if_neg (fun e => he e.1)]
      by_cases h : (j : Int) < i
      · rw [if_pos h, if_pos (by omega)]
      · rw [if_neg h, if_neg (by omega)]
  · try simp only [zb1, zb2, zb3, zb4, zb5, zb6, zb7, zb8, zb9, zb10] at h3
    refine tr_exit ?_
    refine tr_seq ?_
    refine tr_seq ?_
    refine tr_region fun _ _ _ => ?_
    refine pu rfl rfl rfl rfl rfl ?_
    refine st rfl rfl rfl rfl (rLen rfl rfl) ?_
    refine pu rfl rfl rfl rfl rfl ?_
    refine tr_block ?_
    refine tr_loop2 (fun (i : Int) (o : List Int) => [(9, .slice A1 (max n k) (max n k)), (34, .slice B k d), (35, .int .i64 k), (36, .int .i64 i), (0, .pointer (some g.p)), (2, .int .i64 x), (8, .slice none 0 0)]) (fun (i : Int) (o : List Int) => [ow A1 3 (max n k) (ints o), gfR g, ro A (ints a), ro B (ints b)]) (fun (i : Int) (o : List Int) => (0 ≤ i ∧ i ≤ k) ∧ (o.length = max n k ∧ AllIn (pw p m) o) ∧ ∀ j : Nat, (el (o.getD j 0) : El p m mod) = el (a.getD j 0) + if (j : Int) < i then el x * el (b.getD j 0) else 0) (fun (i : Int) (o : List Int) => (k - i).toNat) (0) (o) ⟨rfl, rfl, rfl, rfl, rfl, rfl, rfl, trivial⟩ (by first | exact cs _ _ | exact CSub.refl _) (⟨⟨by omega, by omega⟩, ⟨hol, hoi⟩, fun j => by
      rw [ho j, if_neg (show ¬ ((j : Int) < 0) by omega), Rg.add_zero]
      by_cases h : (j : Int) < i
      · rw [if_pos h, el_of]
      · rw [if_neg h, getD_out (l := a) (by omega)]⟩) (fun i o hI => ?_)
    obtain ⟨⟨hi0, hi1⟩, ⟨hol, hoi⟩, ho⟩ := hI
    refine tr_seq ?_
    refine tr_region fun _ _ _ => ?_
    refine pu rfl rfl rfl rfl rfl ?_
    refine tr_seq ?_
    refine tr_cond_bool rfl (fun h8 => ?_) (fun h8 => ?_)
    · try simp only [zb1, zb2, zb3, zb4, zb5, zb6, zb7, zb8, zb9, zb10] at h8
      refine tr_skip ?_
      refine tr_seq ?_
      refine tr_block ?_
      refine tr_seq ?_
      refine tr_region fun _ _ _ => ?_
      refine pu rfl rfl rfl rfl rfl ?_
      refine st rfl rfl rfl rfl (rIdxI rfl rfl rfl (by omega) (by omega) (by omega)) ?_
      refine st rfl rfl rfl rfl (rLdI rfl rfl (by omega)) ?_
      iterate 2 refine pu rfl rfl rfl rfl rfl ?_
      refine tr_draw [0, 1, 2, 3, 4, 5, 6, 7, 8, 9, 10, 11, 12] [13] mixed (by kernel_rfl) fun _ _ _ => ?_
      iterate 5 refine pu rfl rfl rfl rfl rfl ?_
      refine st rfl rfl rfl rfl (rIdxI rfl rfl rfl (by omega) (by omega) (by omega)) ?_
      refine st rfl rfl rfl rfl (rLdI rfl rfl (by omega)) ?_
      iterate 3 refine pu rfl rfl rfl rfl rfl ?_
      refine ef rfl rfl (eCallV rfl rfl rfl (gf_MulE g hg _ _) ⟨rfl, rfl, rfl, trivial⟩ ?_) 
      refine ef rfl rfl (eCallV rfl rfl rfl (gf_AddE g hg _ _) ⟨rfl, rfl, rfl, trivial⟩ ?_) 
      refine st rfl rfl rfl rfl (rIdxI rfl rfl rfl (by omega) (by omega) (by omega)) ?_
      refine ef rfl rfl (eStI rfl rfl rfl rfl (by omega) ?_) 
      refine tr_region fun _ _ _ => ?_
      refine st rfl rfl rfl rfl (rAdd rfl rfl rfl (by omega) (by omega)) ?_
      refine pu rfl rfl rfl rfl rfl ?_
      refine ⟨i + 1, o.set i.toNat (el (o.getD i.toNat 0) + el (el x * el (b.getD i.toNat 0) : El p m mod).1 : El p m mod).1, ⟨rfl, rfl, rfl, rfl, rfl, rfl, rfl, trivial⟩, by first | exact cs _ _ | exact CSub.refl _, ?_⟩
      refine ⟨⟨⟨by omega, by omega⟩, ⟨by simpa using hol, hoi.set (El.bd _) _⟩, fun j => ?_⟩, by omega⟩
      rw [getD_set]
      by_cases he : i.toNat = j
      · subst he; rw [if_pos ⟨rfl, by omega⟩, if_pos (by omega), el_of, el_of, ho, if_neg (by omega), Rg.add_zero]
      · rw [if_neg (fun e => he e.1), ho j]
        by_cases h : (j : Int) < i
        · rw [if_pos h, if_pos (by omega)]
        · rw [if_neg h, if_neg (by omega)]
    · try simp only [zb1, zb2, zb3, zb4, zb5, zb6, zb7, zb8, zb9, zb10] at h8
      refine tr_exit ?_
      refine tr_seq ?_
      refine tr_region fun _ _ _ => ?_
      refine pu rfl rfl rfl rfl rfl ?_
      refine ef rfl rfl (eCallV rfl rfl rfl (poly_trim _ _ _ o (by omega) (by omega) (by omega)) ⟨rfl, trivial⟩ ?_) 
      refine pu rfl rfl rfl rfl rfl ?_
      have hp : (pol o : Po (El p m mod)) = pol a + Po.C (el x) * pol b := Po.ext fun j => by
        rw [Po.cf_add, Po.cf_C_mul, cf_pol, cf_pol, cf_pol, ho j]
        by_cases h : (j : Int) < i
        · rw [if_pos h]
        · rw [if_neg h, getD_out (l := b) (by omega), el_zero, Rg.mul_zero]
      rw [← hp, il_trim hoi]
      exact tr_ret ⟨trivial, _, _, rfl, ⟨_, rfl, A1, max n k, rfl, rfl⟩, (cs _ [ow A1 3 (max n k) (ints o)]).trans (shrink_trim _ _), trivial, trivial⟩

theorem poly_Sub_ent : Enters Tryz.prog 174 := enters_of Tryz.func174 (by kernel_rfl) (by kernel_rfl)
theorem poly_Sub (g : GfM) {p m : Int} {mod : List Int} [hF : IsF p m mod] (hg : GOk g p m mod) (A : Option Addr) (n c : Nat) (a : List Int) (hn : n = a.length) (ha9 : a.length ≤ 1000000) (B : Option Addr) (k d : Nat) (b : List Int) (hk : k = b.length) (hb9 : b.length ≤ 1000000) :
    Pure Tryz.prog 174 #[.pointer (some g.p), .slice A n c, .slice B k d] [gfR g, ro A (ints a), ro B (ints b)] (one (fun v ch => ∃ B cap, v = .slice B (il ((pol a : Po (El p m mod)) - (pol b : Po (El p m mod)))).length cap ∧ ch = ow B 3 cap (ints (il ((pol a : Po (El p m mod)) - (pol b : Po (El p m mod))))))) := by
  refine pure_of (args := [.pointer (some g.p), .slice A n c, .slice B k d]) 13 Tryz.func174 rfl rfl rfl poly_Sub_ent ⟨id, id, id, trivial⟩ (fun w0 => ?_)
  refine tr_seq ?_
  refine tr_region fun _ _ _ => ?_
  refine pu rfl rfl rfl rfl rfl ?_
  refine tr_seq ?_
  refine tr_region fun _ _ _ => ?_
  iterate 3 refine pu rfl rfl rfl rfl rfl ?_
  refine ef rfl rfl (eCallV rfl rfl rfl (gf_NegE g hg _) ⟨rfl, rfl, trivial⟩ ?_) 
  refine pu rfl rfl rfl rfl rfl ?_
  refine ef rfl rfl (eCall1 rfl rfl rfl (poly_combine g hg A n c a hn ha9 (-(el 1 : El p m mod)).1 B k d b hk hb9) ⟨rfl, rfl, rfl, rfl, trivial⟩ ?_) 
  rintro _ _ ⟨Br, cr, rfl, rfl⟩
  refine pu rfl rfl rfl rfl rfl ?_
  have hp : (pol a : Po (El p m mod)) + Po.C (el (-(el 1 : El p m mod)).1) * pol b = pol a - pol b := by rw [C_neg_one]; rfl
  rw [hp]
  exact tr_ret ⟨trivial, _, _, rfl, ⟨_, rfl, Br, cr, rfl, rfl⟩, cs _ _, trivial, trivial⟩

theorem poly_Scale_ent : Enters Tryz.prog 176 := enters_of Tryz.func176 (by kernel_rfl) (by kernel_rfl)
theorem poly_Scale (g : GfM) {p m : Int} {mod : List Int} [hF : IsF p m mod] (hg : GOk g p m mod) (x : Int) (A : Option Addr) (n c : Nat) (a : List Int) (hn : n = a.length) (ha9 : a.length ≤ 1000000) :
    Pure Tryz.prog 176 #[.pointer (some g.p), .int .i64 x, .slice A n c] [gfR g, ro A (ints a)] (one (fun v ch => ∃ B cap, v = .slice B (il (Po.C (el x) * (pol a : Po (El p m mod)))).length cap ∧ ch = ow B 3 cap (ints (il (Po.C (el x) * (pol a : Po (El p m mod))))))) := by
  refine pure_of (args := [.pointer (some g.p), .int .i64 x, .slice A n c]) 12 Tryz.func176 rfl rfl rfl poly_Scale_ent ⟨id, id, trivial⟩ (fun w0 => ?_)
  refine tr_seq ?_
  refine tr_region fun _ _ _ => ?_
  refine pu rfl rfl rfl rfl rfl ?_
  refine tr_seq ?_
  refine tr_region fun _ _ _ => ?_
  iterate 3 refine pu rfl rfl rfl rfl rfl ?_
  refine ef rfl rfl (eCall1 rfl rfl rfl (gf_ScaleE g hg x A n c a hn (by omega)) ⟨rfl, rfl, rfl, trivial⟩ ?_) 
  rintro _ _ ⟨Br, rfl, rfl⟩
  refine ef rfl rfl (eCallV rfl rfl rfl (poly_trim _ _ _ (a.map fun y => (el x * el y : El p m mod).1) (by simp) (by simp) (by simp; omega)) ⟨rfl, trivial⟩ ?_) 
  refine pu rfl rfl rfl rfl rfl ?_
  have hin : AllIn (pw p m) (a.map fun y => (el x * el y : El p m mod).1) := fun z hz => by
    obtain ⟨y, _, rfl⟩ := List.mem_map.1 hz
    exact El.bd _
  have hp : (pol (a.map fun y => (el x * el y : El p m mod).1) : Po (El p m mod)) = Po.C (el x) * pol a := Po.ext fun j => by
    rw [Po.cf_C_mul, cf_pol, cf_pol]
    by_cases hj : j < a.length
    · rw [List.getD_eq_getElem?_getD, List.getElem?_map, List.getElem?_eq_getElem hj, List.getD_eq_getElem?_getD, List.getElem?_eq_getElem hj]
      exact el_of _
    · rw [getD_out (by simpa using hj), getD_out (l := a) (by omega), el_zero, Rg.mul_zero]
  rw [← hp, il_trim hin]
  exact tr_ret ⟨trivial, _, _, rfl, ⟨_, rfl, Br, a.length, rfl, rfl⟩, (cs _ [ow Br 3 a.length (ints (a.map fun y => (el x * el y : El p m mod).1))]).trans (shrink_trim _ _), trivial, trivial⟩

theorem poly_product_ent : Enters Tryz.prog 175 := enters_of Tryz.func175 (by kernel_rfl) (by kernel_rfl)
theorem poly_product (g : GfM) {p m : Int} {mod : List Int} [hF : IsF p m mod] (hg : GOk g p m mod) (A : Option Addr) (n c : Nat) (a : List Int) (hn : n = a.length) (ha9 : a.length ≤ 1000000) (B : Option Addr) (k d : Nat) (b : List Int) (hk : k = b.length) (hb9 : b.length ≤ 1000000) :
    Pure Tryz.prog 175 #[.pointer (some g.p), .slice A n c, .slice B k d] [gfR g, ro A (ints a), ro B (ints b)] (one (fun v ch => ∃ B cap, v = .slice B (il ((pol a : Po (El p m mod)) * (pol b : Po (El p m mod)))).length cap ∧ ch = ow B 3 cap (ints (il ((pol a : Po (El p m mod)) * (pol b : Po (El p m mod))))))) := by
  have hq2 := hF.q2
  have hla := il_le (p := p) (m := m) (mod := mod) a
  have hlb := il_le (p := p) (m := m) (mod := mod) b
  refine pure_of (args := [.pointer (some g.p), .slice A n c, .slice B k d]) 67 Tryz.func175 rfl rfl rfl poly_product_ent ⟨id, id, id, trivial⟩ (fun w0 => ?_)
  refine tr_seq ?_
  refine tr_region fun _ _ _ => ?_
  refine pu rfl rfl rfl rfl rfl ?_
  refine tr_seq ?_
  refine tr_region fun _ _ _ => ?_
  iterate 2 refine pu rfl rfl rfl rfl rfl ?_
  refine ef rfl rfl (eCall1 rfl rfl rfl (poly_CanonE g hg A n c a hn (by omega)) ⟨rfl, rfl, trivial⟩ ?_) 
  rintro _ _ ⟨B1, c1, rfl, hcap1, rfl⟩
  iterate 2 refine pu rfl rfl rfl rfl rfl ?_
  refine ef rfl rfl (eCall1 rfl rfl rfl (poly_CanonE g hg B k d b hk (by omega)) ⟨rfl, rfl, trivial⟩ ?_) 
  rintro _ _ ⟨B1a, c1a, rfl, hcap1a, rfl⟩
  iterate 2 refine pu rfl rfl rfl rfl rfl ?_
  refine tr_seq ?_
  refine tr_seq ?_
  refine tr_region fun _ _ _ => ?_
  refine pu rfl rfl rfl rfl rfl ?_
  refine st rfl rfl rfl rfl (rLen rfl rfl) ?_
  iterate 2 refine pu rfl rfl rfl rfl rfl ?_
  refine stg rfl rfl rfl rfl rfl (fun hb => by (have hq := hb; try simp only [zb1, zb2, zb3, zb4, zb5, zb6, zb7, zb8, zb9, zb10] at hq); exact rMove rfl rfl) ?_
  refine stg rfl rfl rfl rfl rfl (fun hb => by (have hq := hb; try simp only [zb1, zb2, zb3, zb4, zb5, zb6, zb7, zb8, zb9, zb10] at hq); exact rLen rfl (evg rfl hb)) ?_
  refine stg rfl rfl rfl rfl rfl (fun hb => by (have hq := hb; try simp only [zb1, zb2, zb3, zb4, zb5, zb6, zb7, zb8, zb9, zb10] at hq); exact rEql rfl (evg rfl hb) rfl) ?_
  refine st rfl rfl rfl rfl (rOrB rfl rfl rfl rfl) ?_
  refine tr_cond_bool rfl (fun h2 => ?_) (fun h2 => ?_)
  · try simp only [zb1, zb2, zb3, zb4, zb5, zb6, zb7, zb8, zb9, zb10] at h2
    refine tr_seq ?_
    refine tr_nilI 3 ?_
    refine tr_region fun _ _ _ => ?_
    refine pu rfl rfl rfl rfl rfl ?_
    have h0 : (pol a : Po (El p m mod)) * (pol b : Po (El p m mod)) = 0 := by
      rcases h2 with h | h
      · rw [Po.eq_zero_of_len (f := (pol a : Po (El p m mod))) (by rw [← il_length]; omega), Rg.zero_mul]
      · rw [Po.eq_zero_of_len (f := (pol b : Po (El p m mod))) (by rw [← il_length]; omega), Rg.mul_zero]
    rw [h0, il_zero]
    exact tr_ret ⟨trivial, _, _, rfl, ⟨_, rfl, none, 0, rfl, rfl⟩, cs _ _, trivial, trivial⟩
  · try simp only [zb1, zb2, zb3, zb4, zb5, zb6, zb7, zb8, zb9, zb10] at h2
    refine tr_skip ?_
    refine tr_seq ?_
    refine tr_region fun _ _ _ => ?_
    refine pu rfl rfl rfl rfl rfl ?_
    refine st rfl rfl rfl rfl (rLen rfl rfl) ?_
    refine pu rfl rfl rfl rfl rfl ?_
    refine st rfl rfl rfl rfl (rLen rfl rfl) ?_
    refine st rfl rfl rfl rfl (rAdd rfl rfl rfl (by omega) (by omega)) ?_
    refine st rfl rfl rfl rfl (rSub rfl rfl rfl (by omega) (by omega)) ?_
    refine ef rfl rfl (eMakeI rfl rfl rfl rfl rfl (by omega) (by omega) (by omega) (fun A4 => ?_)) 
    refine pu rfl rfl rfl rfl rfl ?_
    generalize hN : (((il (pol a : Po (El p m mod))).length : Int) + (il (pol b : Po (El p m mod))).length - 1).toNat = N
    refine tr_seq ?_
    refine tr_seq ?_
    refine tr_region fun _ _ _ => ?_
    refine pu rfl rfl rfl rfl rfl ?_
    refine st rfl rfl rfl rfl (rLen rfl rfl) ?_
    refine pu rfl rfl rfl rfl rfl ?_
    refine tr_block ?_
    refine tr_loop2 (fun (i : Int) (o : List Int) => [(7, .slice A4 N N), (1, .slice B1 (il (pol a : Po (El p m mod))).length c1), (2, .slice B1a (il (pol b : Po (El p m mod))).length c1a), (33, .slice B1 (il (pol a : Po (El p m mod))).length c1), (34, .int .i64 (il (pol a : Po (El p m mod))).length), (35, .int .i64 i), (0, .pointer (some g.p)), (6, .slice none 0 0)]) (fun (i : Int) (o : List Int) => [ow A4 3 N (ints o), ow B1a 3 c1a (ints (il (pol b : Po (El p m mod)))), ow B1 3 c1 (ints (il (pol a : Po (El p m mod)))), gfR g, ro A (ints a), ro B (ints b)]) (fun (i : Int) (o : List Int) => (0 ≤ i ∧ i ≤ (il (pol a : Po (El p m mod))).length) ∧ (o.length = N ∧ AllIn (pw p m) o) ∧ (pol o : Po (El p m mod)) = pol ((il (pol a : Po (El p m mod))).take i.toNat) * (pol b : Po (El p m mod))) (fun (i : Int) (o : List Int) => (((il (pol a : Po (El p m mod))).length : Int) - i).toNat) (0) (List.replicate N 0) ⟨rfl, rfl, rfl, rfl, rfl, rfl, rfl, rfl, trivial⟩ (by first | exact cs _ _ | exact CSub.refl _) (⟨⟨by omega, by omega⟩, ⟨by simp, allIn_rep (by omega) _⟩, by rw [pol_rep, Int.toNat_zero, pol_take_zero]; grind⟩) (fun i o hI => ?_)
    obtain ⟨⟨hi0, hi1⟩, ⟨hol, hoi⟩, ho⟩ := hI
    refine tr_seq ?_
    refine tr_region fun _ _ _ => ?_
    refine pu rfl rfl rfl rfl rfl ?_
    refine tr_seq ?_
    refine tr_cond_bool rfl (fun h6 => ?_) (fun h6 => ?_)
    · try simp only [zb1, zb2, zb3, zb4, zb5, zb6, zb7, zb8, zb9, zb10] at h6
      refine tr_skip ?_
      refine tr_seq ?_
      refine tr_block ?_
      refine tr_seq ?_
      refine tr_region fun _ _ _ => ?_
      refine pu rfl rfl rfl rfl rfl ?_
      refine st rfl rfl rfl rfl (rIdxI rfl rfl rfl (by omega) (by omega) (by omega)) ?_
      refine st rfl rfl rfl rfl (rLdI rfl rfl (by omega)) ?_
      iterate 2 refine pu rfl rfl rfl rfl rfl ?_
      refine tr_seq ?_
      refine tr_region fun _ _ _ => ?_
      refine pu rfl rfl rfl rfl rfl ?_
      refine st rfl rfl rfl rfl (rLen rfl rfl) ?_
      refine pu rfl rfl rfl rfl rfl ?_
      refine tr_block ?_
      refine tr_loop2 (fun (j : Int) (o2 : List Int) => [(7, .slice A4 N N), (1, .slice B1 (il (pol a : Po (El p m mod))).length c1), (2, .slice B1a (il (pol b : Po (El p m mod))).length c1a), (40, .slice B1a (il (pol b : Po (El p m mod))).length c1a), (41, .int .i64 (il (pol b : Po (El p m mod))).length), (42, .int .i64 j), (9, .int .i64 ((il (pol a : Po (El p m mod))).getD i.toNat 0)), (0, .pointer (some g.p)), (6, .slice none 0 0), (8, .int .i64 i), (33, .slice B1 (il (pol a : Po (El p m mod))).length c1), (34, .int .i64 (il (pol a : Po (El p m mod))).length), (35, .int .i64 i), (37, .int .i64 i)]) (fun (j : Int) (o2 : List Int) => [ow A4 3 N (ints o2), ow B1a 3 c1a (ints (il (pol b : Po (El p m mod)))), ow B1 3 c1 (ints (il (pol a : Po (El p m mod)))), gfR g, ro A (ints a), ro B (ints b)]) (fun (j : Int) (o2 : List Int) => (0 ≤ j ∧ j ≤ (il (pol b : Po (El p m mod))).length) ∧ (o2.length = N ∧ AllIn (pw p m) o2) ∧ (pol o2 : Po (El p m mod)) = pol ((il (pol a : Po (El p m mod))).take i.toNat) * (pol b : Po (El p m mod)) + Po.mn (el ((il (pol a : Po (El p m mod))).getD i.toNat 0)) i.toNat * pol ((il (pol b : Po (El p m mod))).take j.toNat)) (fun (j : Int) (o2 : List Int) => (((il (pol b : Po (El p m mod))).length : Int) - j).toNat) (0) (o) ⟨rfl, rfl, rfl, rfl, rfl, rfl, rfl, rfl, rfl, rfl, rfl, rfl, rfl, rfl, trivial⟩ (by first | exact cs _ _ | exact CSub.refl _) (⟨⟨by omega, by omega⟩, ⟨hol, hoi⟩, by rw [ho, Int.toNat_zero, pol_take_zero]; grind⟩) (fun j o2 hI => ?_)
      obtain ⟨⟨hj0, hj1⟩, ⟨ho2l, ho2i⟩, ho2⟩ := hI
      refine tr_seq ?_
      refine tr_region fun _ _ _ => ?_
      refine pu rfl rfl rfl rfl rfl ?_
      refine tr_seq ?_
      refine tr_cond_bool rfl (fun h9 => ?_) (fun h9 => ?_)
      · try simp only [zb1, zb2, zb3, zb4, zb5, zb6, zb7, zb8, zb9, zb10] at h9
        refine tr_skip ?_
        refine tr_seq ?_
        refine tr_block ?_
        refine tr_seq ?_
        refine tr_region fun _ _ _ => ?_
        refine pu rfl rfl rfl rfl rfl ?_
        refine st rfl rfl rfl rfl (rIdxI rfl rfl rfl (by omega) (by omega) (by omega)) ?_
        refine st rfl rfl rfl rfl (rLdI rfl rfl (by omega)) ?_
        iterate 2 refine pu rfl rfl rfl rfl rfl ?_
        refine tr_draw [0, 1, 2, 3, 4, 5, 6, 7, 8, 9, 10, 11, 12, 13, 14, 15, 16] [17] mixed (by kernel_rfl) fun _ _ _ => ?_
        iterate 3 refine pu rfl rfl rfl rfl rfl ?_
        refine st rfl rfl rfl rfl (rAdd rfl rfl rfl (by omega) (by omega)) ?_
        iterate 4 refine pu rfl rfl rfl rfl rfl ?_
        refine st rfl rfl rfl rfl (rAdd rfl rfl rfl (by omega) (by omega)) ?_
        refine st rfl rfl rfl rfl (rIdxI rfl rfl rfl (by omega) (by omega) (by omega)) ?_
        refine st rfl rfl rfl rfl (rLdI rfl rfl (by omega)) ?_
        iterate 3 refine pu rfl rfl rfl rfl rfl ?_
        refine ef rfl rfl (eCallV rfl rfl rfl (gf_MulE g hg _ _) ⟨rfl, rfl, rfl, trivial⟩ ?_) 
        refine ef rfl rfl (eCallV rfl rfl rfl (gf_AddE g hg _ _) ⟨rfl, rfl, rfl, trivial⟩ ?_) 
        refine st rfl rfl rfl rfl (rIdxI rfl rfl rfl (by omega) (by omega) (by omega)) ?_
        refine ef rfl rfl (eStI rfl rfl rfl rfl (by omega) ?_) 
        refine tr_region fun _ _ _ => ?_
        refine st rfl rfl rfl rfl (rAdd rfl rfl rfl (by omega) (by omega)) ?_
        refine pu rfl rfl rfl rfl rfl ?_
        refine ⟨j + 1, o2.set (i + j).toNat (el (o2.getD (i + j).toNat 0) + el ((el ((il (pol a : Po (El p m mod))).getD i.toNat 0) * el ((il (pol b : Po (El p m mod))).getD j.toNat 0) : El p m mod)).1 : El p m mod).1, ⟨rfl, rfl, rfl, rfl, rfl, rfl, rfl, rfl, rfl, rfl, rfl, rfl, rfl, rfl, trivial⟩, by first | exact cs _ _ | exact CSub.refl _, ?_⟩
        refine ⟨⟨⟨by omega, by omega⟩, ⟨by simpa using ho2l, ho2i.set (El.bd _) _⟩, ?_⟩, by omega⟩
        rw [pol_set_add (d := (el ((il (pol a : Po (El p m mod))).getD i.toNat 0) * el ((il (pol b : Po (El p m mod))).getD j.toNat 0) : El p m mod)) o2 (by omega) (by rw [el_of, el_of]), ho2, show (j + 1).toNat = j.toNat + 1 by omega, pol_take_succ, show (i + j).toNat = i.toNat + j.toNat by omega]
        have e1 := Po.mn_mul (el ((il (pol a : Po (El p m mod))).getD i.toNat 0) : El p m mod) (el ((il (pol b : Po (El p m mod))).getD j.toNat 0)) i.toNat j.toNat
        grind
      · try simp only [zb1, zb2, zb3, zb4, zb5, zb6, zb7, zb8, zb9, zb10] at h9
        refine tr_exit ?_
        refine tr_region fun _ _ _ => ?_
        refine st rfl rfl rfl rfl (rAdd rfl rfl rfl (by omega) (by omega)) ?_
        refine pu rfl rfl rfl rfl rfl ?_
        refine ⟨i + 1, o2, ⟨rfl, rfl, rfl, rfl, rfl, rfl, rfl, rfl, trivial⟩, by first | exact cs _ _ | exact CSub.refl _, ?_⟩
        have hjn : j = (il (pol b : Po (El p m mod))).length := by omega
        rw [hjn, Int.toNat_natCast, List.take_length, pol_il] at ho2
        refine ⟨⟨⟨by omega, by omega⟩, ⟨ho2l, ho2i⟩, ?_⟩, by omega⟩
        rw [ho2, show (i + 1).toNat = i.toNat + 1 by omega, pol_take_succ]
        grind
    · try simp only [zb1, zb2, zb3, zb4, zb5, zb6, zb7, zb8, zb9, zb10] at h6
      refine tr_exit ?_
      refine tr_seq ?_
      refine tr_region fun _ _ _ => ?_
      iterate 2 refine pu rfl rfl rfl rfl rfl ?_
      have hin : i = (il (pol a : Po (El p m mod))).length := by omega
      rw [hin, Int.toNat_natCast, List.take_length, pol_il] at ho
      have ha0 : (pol a : Po (El p m mod)) ≠ 0 := Po.len_pos_iff.1 (by rw [← il_length]; omega)
      have hb0 : (pol b : Po (El p m mod)) ≠ 0 := Po.len_pos_iff.1 (by rw [← il_length]; omega)
      have hlm := Po.len_mul ha0 hb0
      rw [← il_length, ← il_length, ← il_length] at hlm
      have hoo : o = il ((pol a : Po (El p m mod)) * (pol b : Po (El p m mod))) := by
        rw [← ho, il_self hoi (.inr ?_)]
        have h1 : o.length = Po.len (pol o : Po (El p m mod)) := by rw [ho, ← il_length]; omega
        have h2 : 0 < o.length := by omega
        have h3 := Po.lead_ne (f := (pol o : Po (El p m mod))) (n := o.length - 1) (by omega)
        rw [cf_pol] at h3
        exact fun e => h3 (by rw [e, el_zero])
      have hNN : N = (il ((pol a : Po (El p m mod)) * (pol b : Po (El p m mod)))).length := by omega
      rw [hoo]
      exact tr_ret ⟨trivial, _, _, rfl, ⟨_, rfl, A4, N, by rw [← hNN], rfl⟩, cs _ _, trivial, trivial⟩

section
variable {p m : Int} {mod : List Int} [hF : IsF p m mod]
/-- The product of the polynomials of rows. -/
noncomputable def prP (p m : Int) (mod : List Int) [hF : IsF p m mod] (rs : List RowM) : Po (El p m mod) := rs.foldl (fun f r => f * pol r.xs) 1
theorem prP_succ (rs : List RowM) {k : Nat} (hk : k < rs.length) : prP p m mod (rs.take (k + 1)) = prP p m mod (rs.take k) * pol (rs.getD k rowD).xs := by
  unfold prP
  rw [List.take_add_one, List.getElem?_eq_getElem hk, List.getD_eq_getElem?_getD, List.getElem?_eq_getElem hk]
  simp only [Option.toList_some, List.foldl_append, List.foldl_cons, List.foldl_nil]
  rfl
theorem il_one : il (1 : Po (El p m mod)) = [1] := by
  refine ext_getD (by rw [il_length, Po.len_one]; rfl) fun j => ?_
  rw [il_getD, Po.cf_one]
  cases j with
  | zero => rfl
  | succ j => rw [if_neg (by omega)]; rfl
end

theorem poly_Mul_ent : Enters Tryz.prog 117 := enters_of Tryz.func117 (by kernel_rfl) (by kernel_rfl)
theorem poly_Mul (g : GfM) {p m : Int} {mod : List Int} [hF : IsF p m mod] (hg : GOk g p m mod) (L : Option Addr) (nl cl : Nat) (rs : List RowM) (hnl : nl = rs.length) (hr9 : rs.length ≤ 1000) (hl9 : ∀ k, k < rs.length → (rs.getD k rowD).xs.length ≤ 1000000) (hpl : ∀ k, k ≤ rs.length → Po.len (prP p m mod (rs.take k)) ≤ 1000000) :
    Pure Tryz.prog 117 #[.pointer (some g.p), .slice L nl cl] [gfR g, ro L (hdrs rs), rowsR rs] (one (fun v ch => ∃ B cap, v = .slice B (il (prP p m mod rs)).length cap ∧ ch = ow B 3 cap (ints (il (prP p m mod rs))))) := by
  refine pure_of (args := [.pointer (some g.p), .slice L nl cl]) 21 Tryz.func117 rfl rfl rfl poly_Mul_ent ⟨id, id, id, trivial⟩ (fun w0 => ?_)
  refine tr_seq ?_
  refine tr_region fun _ _ _ => ?_
  refine pu rfl rfl rfl rfl rfl ?_
  refine tr_seq ?_
  refine tr_region fun _ _ _ => ?_
  refine ef rfl rfl (eLit1I rfl rfl rfl rfl (fun A1 => ?_)) 
  refine pu rfl rfl rfl rfl rfl ?_
  refine tr_seq ?_
  refine tr_seq ?_
  refine tr_region fun _ _ _ => ?_
  refine pu rfl rfl rfl rfl rfl ?_
  refine st rfl rfl rfl rfl (rLen rfl rfl) ?_
  refine pu rfl rfl rfl rfl rfl ?_
  refine tr_block ?_
  refine tr_loop5 (fun (k : Int) (D : Option Addr) (cd : Nat) (nd : Nat) (ls : List Int) => [(5, .slice D nd cd), (9, .slice L nl cl), (10, .int .i64 nl), (11, .int .i64 k), (0, .pointer (some g.p)), (4, .slice none 0 0)]) (fun (k : Int) (D : Option Addr) (cd : Nat) (nd : Nat) (ls : List Int) => [ow D 3 cd (ints ls), gfR g, ro L (hdrs rs), rowsR rs]) (fun (k : Int) (D : Option Addr) (cd : Nat) (nd : Nat) (ls : List Int) => (0 ≤ k ∧ k ≤ nl) ∧ nd = ls.length ∧ ls = il (prP p m mod (rs.take k.toNat))) (fun (k : Int) (D : Option Addr) (cd : Nat) (nd : Nat) (ls : List Int) => (nl - k).toNat) (0) (A1) (1) (1) ([1]) ⟨rfl, rfl, rfl, rfl, rfl, rfl, trivial⟩ (by first | exact cs _ _ | exact CSub.refl _) (⟨⟨by omega, by omega⟩, rfl, by rw [Int.toNat_zero, List.take_zero]; exact il_one.symm⟩) (fun k D cd nd ls hI => ?_)
  obtain ⟨⟨hk0, hk1⟩, hnd, hls⟩ := hI
  refine tr_seq ?_
  refine tr_region fun _ _ _ => ?_
  refine pu rfl rfl rfl rfl rfl ?_
  refine tr_seq ?_
  refine tr_cond_bool rfl (fun h3 => ?_) (fun h3 => ?_)
  · try simp only [zb1, zb2, zb3, zb4, zb5, zb6, zb7, zb8, zb9, zb10] at h3
    refine tr_skip ?_
    refine tr_seq ?_
    refine tr_block ?_
    refine tr_seq ?_
    haveI : InB k.toNat rs.length := ⟨by omega⟩
    refine tr_region fun _ _ _ => ?_
    refine st rfl rfl rfl rfl (rIdxR rfl rfl rfl (by omega) (by omega) (by omega)) ?_
    refine st rfl rfl rfl rfl (rLdR rfl rfl (by omega)) ?_
    refine pu rfl rfl rfl rfl rfl ?_
    refine tr_region fun _ _ _ => ?_
    iterate 3 refine pu rfl rfl rfl rfl rfl ?_
    refine ef rfl rfl (eCall1 rfl rfl rfl (poly_product g hg D nd cd ls hnd (by rw [hls, il_length]; exact hpl _ (by omega)) _ _ _ (rs.getD k.toNat rowD).xs rfl (hl9 _ (by omega))) ⟨rfl, rfl, rfl, trivial⟩ ?_) 
    rintro _ _ ⟨B5, c5, rfl, rfl⟩
    refine pu rfl rfl rfl rfl rfl ?_
    refine tr_region fun _ _ _ => ?_
    refine st rfl rfl rfl rfl (rAdd rfl rfl rfl (by omega) (by omega)) ?_
    refine pu rfl rfl rfl rfl rfl ?_
    refine ⟨k + 1, B5, c5, (il ((pol ls : Po (El p m mod)) * pol (rs.getD k.toNat rowD).xs)).length, il ((pol ls : Po (El p m mod)) * pol (rs.getD k.toNat rowD).xs), ⟨rfl, rfl, rfl, rfl, rfl, rfl, trivial⟩, by first | exact cs _ _ | exact CSub.refl _, ?_⟩
    refine ⟨⟨⟨by omega, by omega⟩, rfl, ?_⟩, by omega⟩
    rw [show (k + 1).toNat = k.toNat + 1 by omega, prP_succ rs (by omega), hls, pol_il]
  · try simp only [zb1, zb2, zb3, zb4, zb5, zb6, zb7, zb8, zb9, zb10] at h3
    refine tr_exit ?_
    refine tr_seq ?_
    refine tr_region fun _ _ _ => ?_
    iterate 2 refine pu rfl rfl rfl rfl rfl ?_
    have hkn : rs.take k.toNat = rs := List.take_of_length_le (by omega)
    rw [hkn] at hls
    rw [hnd, hls]
    exact tr_ret ⟨trivial, _, _, rfl, ⟨_, rfl, D, cd, rfl, rfl⟩, cs _ _, trivial, trivial⟩

end Go.Proofs.YtjmojhflnjbgaaaGreat

set_option linter.unusedSimpArgs false
set_option linter.unusedVariables false
set_option maxRecDepth 100000
namespace Go.Proofs.YtjmojhflnjbgaaaGreat
open Go.RowKit

section
variable {P : Program} {N : NR} {M : Nat → Prop} {w0 : World} {L : Fr} {F : List Chunk} {Q : Exit → Fr → List Chunk → Prop} {c : Code}
theorem tr_loop12 {S1 S2 S3 S4 S5 S6 S7 S8 S9 S10 S11 S12 : Type} (Lf : S1 → S2 → S3 → S4 → S5 → S6 → S7 → S8 → S9 → S10 → S11 → S12 → Fr) (Ff : S1 → S2 → S3 → S4 → S5 → S6 → S7 → S8 → S9 → S10 → S11 → S12 → List Chunk) (I : S1 → S2 → S3 → S4 → S5 → S6 → S7 → S8 → S9 → S10 → S11 → S12 → Prop) (m : S1 → S2 → S3 → S4 → S5 → S6 → S7 → S8 → S9 → S10 → S11 → S12 → Nat) (s10 : S1) (s20 : S2) (s30 : S3) (s40 : S4) (s50 : S5) (s60 : S6) (s70 : S7) (s80 : S8) (s90 : S9) (s100 : S10) (s110 : S11) (s120 : S12) (hL : FSub L (Lf s10 s20 s30 s40 s50 s60 s70 s80 s90 s100 s110 s120)) (hF : CSub F (Ff s10 s20 s30 s40 s50 s60 s70 s80 s90 s100 s110 s120)) (hI : I s10 s20 s30 s40 s50 s60 s70 s80 s90 s100 s110 s120)
    (round : ∀ (s1 : S1) (s2 : S2) (s3 : S3) (s4 : S4) (s5 : S5) (s6 : S6) (s7 : S7) (s8 : S8) (s9 : S9) (s10 : S10) (s11 : S11) (s12 : S12), I s1 s2 s3 s4 s5 s6 s7 s8 s9 s10 s11 s12 → Tr P N M w0 c (Lf s1 s2 s3 s4 s5 s6 s7 s8 s9 s10 s11 s12) (Ff s1 s2 s3 s4 s5 s6 s7 s8 s9 s10 s11 s12) (thenQ (fun L' F' => ∃ (s1' : S1) (s2' : S2) (s3' : S3) (s4' : S4) (s5' : S5) (s6' : S6) (s7' : S7) (s8' : S8) (s9' : S9) (s10' : S10) (s11' : S11) (s12' : S12), FSub L' (Lf s1' s2' s3' s4' s5' s6' s7' s8' s9' s10' s11' s12') ∧ CSub F' (Ff s1' s2' s3' s4' s5' s6' s7' s8' s9' s10' s11' s12') ∧ I s1' s2' s3' s4' s5' s6' s7' s8' s9' s10' s11' s12' ∧ m s1' s2' s3' s4' s5' s6' s7' s8' s9' s10' s11' s12' < m s1 s2 s3 s4 s5 s6 s7 s8 s9 s10 s11 s12) Q)) : Tr P N M w0 (.loop c) L F Q :=
  tr_loop (S := S1 × S2 × S3 × S4 × S5 × S6 × S7 × S8 × S9 × S10 × S11 × S12) (fun q => Lf q.1 q.2.1 q.2.2.1 q.2.2.2.1 q.2.2.2.2.1 q.2.2.2.2.2.1 q.2.2.2.2.2.2.1 q.2.2.2.2.2.2.2.1 q.2.2.2.2.2.2.2.2.1 q.2.2.2.2.2.2.2.2.2.1 q.2.2.2.2.2.2.2.2.2.2.1 q.2.2.2.2.2.2.2.2.2.2.2) (fun q => Ff q.1 q.2.1 q.2.2.1 q.2.2.2.1 q.2.2.2.2.1 q.2.2.2.2.2.1 q.2.2.2.2.2.2.1 q.2.2.2.2.2.2.2.1 q.2.2.2.2.2.2.2.2.1 q.2.2.2.2.2.2.2.2.2.1 q.2.2.2.2.2.2.2.2.2.2.1 q.2.2.2.2.2.2.2.2.2.2.2) (fun q => I q.1 q.2.1 q.2.2.1 q.2.2.2.1 q.2.2.2.2.1 q.2.2.2.2.2.1 q.2.2.2.2.2.2.1 q.2.2.2.2.2.2.2.1 q.2.2.2.2.2.2.2.2.1 q.2.2.2.2.2.2.2.2.2.1 q.2.2.2.2.2.2.2.2.2.2.1 q.2.2.2.2.2.2.2.2.2.2.2) (fun q => m q.1 q.2.1 q.2.2.1 q.2.2.2.1 q.2.2.2.2.1 q.2.2.2.2.2.1 q.2.2.2.2.2.2.1 q.2.2.2.2.2.2.2.1 q.2.2.2.2.2.2.2.2.1 q.2.2.2.2.2.2.2.2.2.1 q.2.2.2.2.2.2.2.2.2.2.1 q.2.2.2.2.2.2.2.2.2.2.2) ((s10, s20, s30, s40, s50, s60, s70, s80, s90, s100, s110, s120)) hL hF hI (fun q hq => (round q.1 q.2.1 q.2.2.1 q.2.2.2.1 q.2.2.2.2.1 q.2.2.2.2.2.1 q.2.2.2.2.2.2.1 q.2.2.2.2.2.2.2.1 q.2.2.2.2.2.2.2.2.1 q.2.2.2.2.2.2.2.2.2.1 q.2.2.2.2.2.2.2.2.2.2.1 q.2.2.2.2.2.2.2.2.2.2.2 hq).mono (fun e L' F' h => by
    cases e with
    | normal => obtain ⟨s1', s2', s3', s4', s5', s6', s7', s8', s9', s10', s11', s12', h⟩ := h; exact ⟨(s1', s2', s3', s4', s5', s6', s7', s8', s9', s10', s11', s12'), h⟩
    | _ => exact h))
end

section
variable {K : Type} [Fd K]
theorem quo_len {f h : Po K} (hh : h ≠ 0) (hk : Po.quo f h ≠ 0) : Po.len (Po.quo f h) + Po.len h ≤ Po.len f + 1 := by
  have h1 := Po.div_eq f hh
  have h2 := Po.rem_len f hh
  have h3 := Po.len_mul hk hh
  have h5 := Po.len_pos hk
  have e : Po.quo f h * h = f - Po.rem f h := by grind
  have h4 := Po.len_sub f (Po.rem f h)
  rw [← e] at h4
  omega
theorem rem_le {f h : Po K} (hh : h ≠ 0) : Po.len (Po.rem f h) ≤ Po.len f := by
  rcases Nat.lt_or_ge (Po.len f) (Po.len h) with h1 | h1
  · rw [Po.rem_small h1]; exact Nat.le_refl _
  · have := Po.rem_len f hh; omega
theorem mul_len_le {f g : Po K} {n : Nat} (h : f ≠ 0 → g ≠ 0 → Po.len f + Po.len g ≤ n + 1) : Po.len (f * g) ≤ n := by
  by_cases hf : f = 0
  · rw [hf, Rg.zero_mul, Po.len_zero]; omega
  · by_cases hg : g = 0
    · rw [hg, Rg.mul_zero, Po.len_zero]; omega
    · rw [Po.len_mul hf hg]; have := h hf hg; omega
theorem bez_fin {P Q f S x D : Po K} (hQ : Q ≠ 0) (hf : f = S * P + x * Q) (c : K) (hD : D = Po.C c * f) (hDP : D ∣ P) (hDQ : D ∣ Q) (hD0 : D ≠ 0) : ∃ V, Po.rem (Po.C c * S) (Po.quo Q D) * P + V * Q = D := by
  have h1 := Po.quo_mul hD0 hDQ
  have h2 : Po.quo Q D ≠ 0 := fun e => hQ (by rw [← h1, e, Rg.zero_mul])
  obtain ⟨z, hz⟩ := Po.rem_sub_dvd (Po.C c * S) h2
  obtain ⟨P', hP⟩ := hDP
  refine ⟨Po.C c * x + z * P', ?_⟩
  have e1 : Po.rem (Po.C c * S) (Po.quo Q D) = Po.C c * S - Po.quo Q D * z := by grind
  rw [e1]
  generalize Po.quo Q D = part at *
  have e2 : part * z * P = Q * z * P' := by rw [hP, ← h1]; grind
  have e3 : D = Po.C c * (S * P + x * Q) := by rw [← hf]; exact hD
  have e4 : (Po.C c * S - part * z) * P = Po.C c * S * P - Q * z * P' := by rw [← e2]; grind
  rw [e4, e3]
  grind
end
section
variable {p m : Int} {mod : List Int} [hF : IsF p m mod]
theorem bez_step {f h : Po (El p m mod)} (hh : h ≠ 0) {sl tl : List Int} {K : Nat} (h1 : sl.length + Po.len h ≤ K) (h2 : tl.length + Po.len f ≤ K) : (il ((pol sl : Po (El p m mod)) - pol (il (pol (il (Po.quo f h)) * (pol tl : Po (El p m mod)))))).length + Po.len h ≤ K := by
  rw [pol_il, pol_il, il_length]
  have h3 := Po.len_sub (pol sl : Po (El p m mod)) (Po.quo f h * pol tl)
  have h4 := Po.len_le (pol_sh (p := p) (m := m) (mod := mod) sl)
  have h5 := Po.len_le (pol_sh (p := p) (m := m) (mod := mod) tl)
  have h6 : Po.len (Po.quo f h * (pol tl : Po (El p m mod))) ≤ K - Po.len h := mul_len_le fun hk ht => by
    have := quo_len hh hk
    have := Po.len_pos hh
    have := Po.len_pos ht
    omega
  omega
end

theorem poly_Bezout_ent : Enters Tryz.prog 115 := enters_of Tryz.func115 (by kernel_rfl) (by kernel_rfl)
theorem poly_Bezout (g : GfM) {p m : Int} {mod : List Int} [hF : IsF p m mod] (hg : GOk g p m mod) (A : Option Addr) (n c : Nat) (a : List Int) (hn : n = a.length) (ha9 : a.length ≤ 400) (B : Option Addr) (k d : Nat) (b : List Int) (hk : k = b.length) (hb9 : b.length ≤ 400) (h0 : (pol b : Po (El p m mod)) ≠ 0) :
    Pure Tryz.prog 115 #[.pointer (some g.p), .slice A n c, .slice B k d] [gfR g, ro A (ints a), ro B (ints b)] (one (fun v ch => ∃ B1 n1 c1 B2 c2 B3 n3 c3, ∃ U V : Po (El p m mod), v = .tuple #[.slice B1 n1 c1, .slice B2 (il U).length c2, .slice B3 n3 c3] ∧ ch = ow B2 3 c2 (ints (il U)) ∧ Po.len U ≤ 1000 ∧ U * (pol a : Po (El p m mod)) + V * (pol b : Po (El p m mod)) = Po.gcd (pol a : Po (El p m mod)) (pol b : Po (El p m mod)))) := by
  have hq2 := hF.q2
  have hla := il_le (p := p) (m := m) (mod := mod) a
  have hlb := il_le (p := p) (m := m) (mod := mod) b
  have hz : 0 < (il (pol b : Po (El p m mod))).length := by rw [il_length]; exact Po.len_pos h0
  have hpa : Po.len (pol a : Po (El p m mod)) ≤ 400 := by rw [← il_length]; omega
  have hpb : Po.len (pol b : Po (El p m mod)) ≤ 400 := by rw [← il_length]; omega
  refine pure_of (args := [.pointer (some g.p), .slice A n c, .slice B k d]) 131 Tryz.func115 rfl rfl rfl poly_Bezout_ent ⟨id, id, id, trivial⟩ (fun w0 => ?_)
  refine tr_seq ?_
  refine tr_region fun _ _ _ => ?_
  iterate 3 refine pu rfl rfl rfl rfl rfl ?_
  refine tr_seq ?_
  refine tr_region fun _ _ _ => ?_
  iterate 2 refine pu rfl rfl rfl rfl rfl ?_
  refine ef rfl rfl (eCall1 rfl rfl rfl (poly_CanonE g hg A n c a hn (by omega)) ⟨rfl, rfl, trivial⟩ ?_) 
  rintro _ _ ⟨B1, c1, rfl, hcap1, rfl⟩
  iterate 2 refine pu rfl rfl rfl rfl rfl ?_
  refine ef rfl rfl (eCall1 rfl rfl rfl (poly_CanonE g hg B k d b hk (by omega)) ⟨rfl, rfl, trivial⟩ ?_) 
  rintro _ _ ⟨B1a, c1a, rfl, hcap1a, rfl⟩
  iterate 2 refine pu rfl rfl rfl rfl rfl ?_
  refine tr_seq ?_
  refine tr_seq ?_
  refine tr_region fun _ _ _ => ?_
  refine pu rfl rfl rfl rfl rfl ?_
  refine st rfl rfl rfl rfl (rLen rfl rfl) ?_
  refine pu rfl rfl rfl rfl rfl ?_
  refine tr_cond_bool rfl (fun h2 => ?_) (fun h2 => ?_)
  · try simp only [zb1, zb2, zb3, zb4, zb5, zb6, zb7, zb8, zb9, zb10] at h2
    omega --done
  · try simp only [zb1, zb2, zb3, zb4, zb5, zb6, zb7, zb8, zb9, zb10] at h2
    refine tr_skip ?_
    refine tr_seq ?_
    refine tr_region fun _ _ _ => ?_
    iterate 4 refine pu rfl rfl rfl rfl rfl ?_
    refine tr_seq ?_
    refine tr_region fun _ _ _ => ?_
    refine ef rfl rfl (eLit1I rfl rfl rfl rfl (fun A9 => ?_)) 
    refine ef rfl rfl (eLit0I rfl rfl rfl  (fun A9a => ?_)) 
    iterate 2 refine pu rfl rfl rfl rfl rfl ?_
    refine tr_seq ?_
    refine tr_block ?_
    refine tr_loop12 (fun (f : Po (El p m mod)) (h : Po (El p m mod)) (Af : Option Addr) (cf : Nat) (Ah : Option Addr) (ch : Nat) (sl : List Int) (As : Option Addr) (cs_ : Nat) (tl : List Int) (At : Option Addr) (ct : Nat) => [(0, .pointer (some g.p)), (1, .slice B1 (il (pol a : Po (El p m mod))).length c1), (2, .slice B1a (il (pol b : Po (El p m mod))).length c1a), (11, .slice Af (il f).length cf), (12, .slice Ah (il h).length ch), (13, .slice As sl.length cs_), (14, .slice At tl.length ct), (6, .slice none 0 0), (7, .slice none 0 0), (8, .slice none 0 0)]) (fun (f : Po (El p m mod)) (h : Po (El p m mod)) (Af : Option Addr) (cf : Nat) (Ah : Option Addr) (ch : Nat) (sl : List Int) (As : Option Addr) (cs_ : Nat) (tl : List Int) (At : Option Addr) (ct : Nat) => [ro Af (ints (il f)), ro B1 (ints (il (pol a : Po (El p m mod)))), ro Ah (ints (il h)), ro B1a (ints (il (pol b : Po (El p m mod)))), ro As (ints sl), ro At (ints tl), gfR g, ro A (ints a), ro B (ints b)]) (fun (f : Po (El p m mod)) (h : Po (El p m mod)) (Af : Option Addr) (cf : Nat) (Ah : Option Addr) (ch : Nat) (sl : List Int) (As : Option Addr) (cs_ : Nat) (tl : List Int) (At : Option Addr) (ct : Nat) => (f ≠ 0 ∨ h ≠ 0) ∧ (Po.len f ≤ 400 ∧ Po.len h ≤ 400) ∧ Po.gcd f h = Po.gcd (pol a : Po (El p m mod)) (pol b : Po (El p m mod)) ∧ (sl.length + Po.len h ≤ (Po.len (pol a : Po (El p m mod)) + Po.len (pol b : Po (El p m mod)) + 2) ∧ tl.length + Po.len f ≤ (Po.len (pol a : Po (El p m mod)) + Po.len (pol b : Po (El p m mod)) + 2)) ∧ ∃ x y : Po (El p m mod), f = pol sl * (pol a : Po (El p m mod)) + x * (pol b : Po (El p m mod)) ∧ h = pol tl * (pol a : Po (El p m mod)) + y * (pol b : Po (El p m mod))) (fun (f : Po (El p m mod)) (h : Po (El p m mod)) (Af : Option Addr) (cf : Nat) (Ah : Option Addr) (ch : Nat) (sl : List Int) (As : Option Addr) (cs_ : Nat) (tl : List Int) (At : Option Addr) (ct : Nat) => Po.len h) ((pol a : Po (El p m mod))) ((pol b : Po (El p m mod))) (B1) (c1) (B1a) (c1a) ([1]) (A9) (1) ([]) (A9a) (0) ⟨rfl, rfl, rfl, rfl, rfl, rfl, rfl, rfl, rfl, rfl, trivial⟩ (by exact (cs _ [ow B1 3 c1 (ints (il (pol a : Po (El p m mod)))), ow B1a 3 c1a (ints (il (pol b : Po (El p m mod)))), ow A9 3 1 (ints [1]), ow A9a 3 0 (ints []), gfR g, ro A (ints a), ro B (ints b)]).trans ((ow_ro _).trans ((CSub.cons _ ((ow_ro _).trans (CSub.cons _ ((ow_ro _).trans (CSub.cons _ (ow_ro _)))))).trans ((ro_dup _).trans (CSub.cons _ (CSub.cons _ (ro_dup _))))))) (⟨.inr h0, ⟨by omega, by omega⟩, rfl, ⟨by simp; omega, by simp; omega⟩, 0, 1, by rw [← il_one (p := p) (m := m) (mod := mod), pol_il, Rg.one_mul, Rg.zero_mul, Rg.add_zero], by rw [pol_nil, Rg.zero_mul, Rg.one_mul, Rg.zero_add]⟩) (fun f h Af cf Ah ch sl As cs_ tl At ct hI => ?_)
    obtain ⟨hnz0, ⟨hfl, hhl⟩, hgc, ⟨hsl, htl⟩, x, y, hfx, hhy⟩ := hI
    refine tr_seq ?_
    refine tr_seq ?_
    refine tr_region fun _ _ _ => ?_
    refine pu rfl rfl rfl rfl rfl ?_
    refine st rfl rfl rfl rfl (rLen rfl rfl) ?_
    refine pu rfl rfl rfl rfl rfl ?_
    refine tr_cond_bool rfl (fun h10 => ?_) (fun h10 => ?_)
    · try simp only [zb1, zb2, zb3, zb4, zb5, zb6, zb7, zb8, zb9, zb10] at h10
      refine tr_skip ?_
      refine tr_block ?_
      refine tr_seq ?_
      have hh : h ≠ 0 := Po.len_pos_iff.1 (by rw [← il_length]; omega)
      have hrl := Po.rem_len f hh
      have hrf := rem_le (f := f) hh
      have hgs := Po.gcd_step f hh
      have hqk : Po.len (Po.quo f h) ≤ 1000 := by
        by_cases hk : Po.quo f h = 0
        · rw [hk, Po.len_zero]; omega
        · have := quo_len hh hk; omega
      have hbs := bez_step hh hsl htl
      have hpr : (il ((pol (il (Po.quo f h)) : Po (El p m mod)) * pol tl)).length ≤ 5000 := by
        rw [pol_il, il_length]
        have h5 := Po.len_le (pol_sh (p := p) (m := m) (mod := mod) tl)
        exact mul_len_le fun _ _ => by omega
      refine tr_region fun _ _ _ => ?_
      iterate 3 refine pu rfl rfl rfl rfl rfl ?_
      refine ef rfl rfl (eCall2 rfl rfl rfl (poly_DivMod g hg Af _ cf (il f) rfl (by rw [il_length]; omega) Ah _ ch (il h) rfl (by rw [il_length]; omega) (by rw [pol_il]; exact hh)) ⟨rfl, rfl, rfl, trivial⟩ ?_) 
      rintro _ _ _ ⟨Bk, ck, Br, cr, rfl, rfl, rfl⟩
      iterate 7 refine pu rfl rfl rfl rfl rfl ?_
      simp only [pol_il]
      refine tr_seq ?_
      refine tr_region fun _ _ _ => ?_
      iterate 4 refine pu rfl rfl rfl rfl rfl ?_
      refine tr_region fun _ _ _ => ?_
      iterate 6 refine pu rfl rfl rfl rfl rfl ?_
      refine ef rfl rfl (eCall1 rfl rfl rfl (poly_product g hg Bk _ ck (il (Po.quo f h)) rfl (by rw [il_length]; omega) At _ ct tl rfl (by omega)) ⟨rfl, rfl, rfl, trivial⟩ ?_) 
      rintro _ _ ⟨Bp, cp, rfl, rfl⟩
      refine ef rfl rfl (eCall1 rfl rfl rfl (poly_Sub g hg As _ cs_ sl rfl (by omega) Bp _ cp (il ((pol (il (Po.quo f h)) : Po (El p m mod)) * pol tl)) rfl (by omega)) ⟨rfl, rfl, rfl, trivial⟩ ?_) 
      rintro _ _ ⟨Bt, ctn, rfl, rfl⟩
      iterate 2 refine pu rfl rfl rfl rfl rfl ?_
      refine ⟨h, Po.rem f h, Ah, ch, Br, cr, tl, At, ct, il ((pol sl : Po (El p m mod)) - pol (il (pol (il (Po.quo f h)) * (pol tl : Po (El p m mod))))), Bt, ctn, ⟨rfl, rfl, rfl, rfl, rfl, rfl, rfl, rfl, rfl, rfl, trivial⟩, by exact (cs _ [ow Br 3 cr (ints (il (Po.rem f h))), ow Bt 3 ctn (ints (il ((pol sl : Po (El p m mod)) - pol (il (pol (il (Po.quo f h)) * (pol tl : Po (El p m mod))))))), ro Ah (ints (il h)), ro B1 (ints (il (pol a : Po (El p m mod)))), ro B1a (ints (il (pol b : Po (El p m mod)))), ro At (ints tl), gfR g, ro A (ints a), ro B (ints b)]).trans ((ow_ro _).trans ((CSub.cons _ (ow_ro _)).trans (cs _ _))), ?_⟩
      refine ⟨⟨.inl hh, ⟨hhl, by omega⟩, by rw [← hgs, hgc], ⟨by omega, hbs⟩, y, x - Po.quo f h * y, hhy, ?_⟩, hrl⟩
      rw [pol_il, pol_il, pol_il]
      have hde := Po.div_eq f hh
      generalize Po.quo f h = kq at *
      generalize Po.rem f h = rr_ at *
      grind
    · try simp only [zb1, zb2, zb3, zb4, zb5, zb6, zb7, zb8, zb9, zb10] at h10
      refine tr_exit ?_
      refine tr_seq ?_
      have hh : h = 0 := Po.eq_zero_of_len (by rw [← il_length]; omega)
      have hf0 : f ≠ 0 := hnz0.resolve_right (fun e => e hh)
      rw [hh, Po.gcd_zero] at hgc
      have hfll : (il f).length ≤ 400 := by rw [il_length]; omega
      have hfl0 : 0 < (il f).length := by rw [il_length]; exact Po.len_pos hf0
      have hld : (el ((il f).getD (((il f).length : Int) - 1).toNat 0) : El p m mod) = Po.lead f := by rw [il_getD, el_of, Po.lead, il_length, show ((Po.len f : Int) - 1).toNat = Po.len f - 1 by omega]
      have hnz : (el ((il f).getD (((il f).length : Int) - 1).toNat 0) : El p m mod) ≠ 0 := by rw [hld]; exact Po.lead_nz hf0
      have hG := Po.gcd_is (pol a : Po (El p m mod)) (pol b : Po (El p m mod))
      have hD0 : Po.gcd (pol a : Po (El p m mod)) (pol b : Po (El p m mod)) ≠ 0 := Po.gcd_ne (.inr h0)
      have hDl : Po.len (Po.gcd (pol a : Po (El p m mod)) (pol b : Po (El p m mod))) ≤ 400 := by have := Po.dvd_len hG.right h0; omega
      have hqm := Po.quo_mul hD0 hG.right
      have hpt : Po.quo (pol b : Po (El p m mod)) (Po.gcd (pol a : Po (El p m mod)) (pol b : Po (El p m mod))) ≠ 0 := fun e => h0 (by rw [← hqm, e, Rg.zero_mul])
      have hptl : Po.len (Po.quo (pol b : Po (El p m mod)) (Po.gcd (pol a : Po (El p m mod)) (pol b : Po (El p m mod)))) ≤ 400 := by
        have := Po.dvd_len (⟨_, hqm.symm⟩ : Po.quo (pol b : Po (El p m mod)) (Po.gcd (pol a : Po (El p m mod)) (pol b : Po (El p m mod))) ∣ (pol b : Po (El p m mod))) h0; omega
      have hsll := Po.len_le (pol_sh (p := p) (m := m) (mod := mod) sl)
      have hcs : Po.len (Po.C (Fd.inv (Po.lead f)) * (pol sl : Po (El p m mod))) ≤ 1000 := by rw [Po.len_C_mul (Fd.inv_ne (Po.lead_nz hf0))]; omega
      have hul : Po.len (Po.rem (Po.C (Fd.inv (Po.lead f)) * pol sl) (Po.quo (pol b : Po (El p m mod)) (Po.gcd (pol a : Po (El p m mod)) (pol b : Po (El p m mod))))) ≤ 400 := by have := Po.rem_len (Po.C (Fd.inv (Po.lead f)) * (pol sl : Po (El p m mod))) hpt; omega
      have hupl : Po.len ((Po.rem (Po.C (Fd.inv (Po.lead f)) * pol sl) (Po.quo (pol b : Po (El p m mod)) (Po.gcd (pol a : Po (El p m mod)) (pol b : Po (El p m mod))))) * (pol a : Po (El p m mod))) ≤ 1000 := mul_len_le fun _ _ => by omega
      have hsbl := Po.len_sub (Po.gcd (pol a : Po (El p m mod)) (pol b : Po (El p m mod))) ((Po.rem (Po.C (Fd.inv (Po.lead f)) * pol sl) (Po.quo (pol b : Po (El p m mod)) (Po.gcd (pol a : Po (El p m mod)) (pol b : Po (El p m mod))))) * (pol a : Po (El p m mod)))
      refine tr_region fun _ _ _ => ?_
      iterate 3 refine pu rfl rfl rfl rfl rfl ?_
      refine st rfl rfl rfl rfl (rLen rfl rfl) ?_
      refine st rfl rfl rfl rfl (rSub rfl rfl rfl (by omega) (by omega)) ?_
      refine st rfl rfl rfl rfl (rIdxI rfl rfl rfl (by omega) (by omega) (by omega)) ?_
      refine st rfl rfl rfl rfl (rLdI rfl rfl (by omega)) ?_
      refine ef rfl rfl (eCallV rfl rfl rfl (gf_InvE g hg _ hnz) ⟨rfl, rfl, trivial⟩ ?_) 
      iterate 5 refine pu rfl rfl rfl rfl rfl ?_
      refine tr_seq ?_
      rw [hld]
      refine tr_region fun _ _ _ => ?_
      iterate 3 refine pu rfl rfl rfl rfl rfl ?_
      refine ef rfl rfl (eCall1 rfl rfl rfl (poly_Scale g hg (Fd.inv (Po.lead f)).1 Af _ cf (il f) rfl (by omega)) ⟨rfl, rfl, rfl, trivial⟩ ?_) 
      rintro _ _ ⟨Bd, cd, rfl, rfl⟩
      refine pu rfl rfl rfl rfl rfl ?_
      rw [el_of, pol_il, show Po.C (Fd.inv (Po.lead f)) * f = Po.mon f from rfl, hgc]
      refine tr_seq ?_
      refine tr_region fun _ _ _ => ?_
      iterate 3 refine pu rfl rfl rfl rfl rfl ?_
      refine ef rfl rfl (eCall2 rfl rfl rfl (poly_DivMod g hg B1a _ c1a (il (pol b : Po (El p m mod))) rfl (by omega) Bd _ cd (il (Po.gcd (pol a : Po (El p m mod)) (pol b : Po (El p m mod)))) rfl (by rw [il_length]; omega) (by rw [pol_il]; exact hD0)) ⟨rfl, rfl, rfl, trivial⟩ ?_) 
      rintro _ _ _ ⟨Bq, cq, Bq2, cq2, rfl, rfl, rfl⟩
      iterate 7 refine pu rfl rfl rfl rfl rfl ?_
      simp only [pol_il]
      refine tr_seq ?_
      refine tr_region fun _ _ _ => ?_
      iterate 4 refine pu rfl rfl rfl rfl rfl ?_
      refine ef rfl rfl (eCall1 rfl rfl rfl (poly_Scale g hg (Fd.inv (Po.lead f)).1 As _ cs_ sl rfl (by omega)) ⟨rfl, rfl, rfl, trivial⟩ ?_) 
      rintro _ _ ⟨Bs2, cs2, rfl, rfl⟩
      rw [el_of]
      refine pu rfl rfl rfl rfl rfl ?_
      refine ef rfl rfl (eCall2 rfl rfl rfl (poly_DivMod g hg Bs2 _ cs2 (il (Po.C (Fd.inv (Po.lead f)) * pol sl)) rfl (by rw [il_length]; omega) Bq _ cq (il (Po.quo (pol b : Po (El p m mod)) (Po.gcd (pol a : Po (El p m mod)) (pol b : Po (El p m mod))))) rfl (by rw [il_length]; omega) (by rw [pol_il]; exact hpt)) ⟨rfl, rfl, rfl, trivial⟩ ?_) 
      rintro _ _ _ ⟨Bw, cw, Bu, cu, rfl, rfl, rfl⟩
      iterate 5 refine pu rfl rfl rfl rfl rfl ?_
      simp only [pol_il]
      refine tr_seq ?_
      refine tr_region fun _ _ _ => ?_
      iterate 6 refine pu rfl rfl rfl rfl rfl ?_
      refine ef rfl rfl (eCall1 rfl rfl rfl (poly_product g hg Bu _ cu (il (Po.rem (Po.C (Fd.inv (Po.lead f)) * pol sl) (Po.quo (pol b : Po (El p m mod)) (Po.gcd (pol a : Po (El p m mod)) (pol b : Po (El p m mod)))))) rfl (by rw [il_length]; omega) B1 _ c1 (il (pol a : Po (El p m mod))) rfl (by omega)) ⟨rfl, rfl, rfl, trivial⟩ ?_) 
      rintro _ _ ⟨Bx, cx, rfl, rfl⟩
      refine ef rfl rfl (eCall1 rfl rfl rfl (poly_Sub g hg Bd _ cd (il (Po.gcd (pol a : Po (El p m mod)) (pol b : Po (El p m mod)))) rfl (by rw [il_length]; omega) Bx _ cx (il ((pol (il (Po.rem (Po.C (Fd.inv (Po.lead f)) * pol sl) (Po.quo (pol b : Po (El p m mod)) (Po.gcd (pol a : Po (El p m mod)) (pol b : Po (El p m mod)))))) : Po (El p m mod)) * pol (il (pol a : Po (El p m mod))))) rfl (by rw [pol_il, pol_il, il_length]; omega)) ⟨rfl, rfl, rfl, trivial⟩ ?_) 
      rintro _ _ ⟨By, cy, rfl, rfl⟩
      refine pu rfl rfl rfl rfl rfl ?_
      refine ef rfl rfl (eCall2 rfl rfl rfl (poly_DivMod g hg By _ cy _ rfl (by rw [pol_il, pol_il, pol_il, pol_il, il_length]; omega) B1a _ c1a (il (pol b : Po (El p m mod))) rfl (by omega) (by rw [pol_il]; exact h0)) ⟨rfl, rfl, rfl, trivial⟩ ?_) 
      rintro _ _ _ ⟨Bv, cv, Bv2, cv2, rfl, rfl, rfl⟩
      iterate 5 refine pu rfl rfl rfl rfl rfl ?_
      refine tr_seq ?_
      refine tr_region fun _ _ _ => ?_
      iterate 6 refine pu rfl rfl rfl rfl rfl ?_
      obtain ⟨V, hV⟩ := bez_fin (P := (pol a : Po (El p m mod))) (Q := (pol b : Po (El p m mod))) (f := f) (S := pol sl) (x := x) (D := Po.gcd (pol a : Po (El p m mod)) (pol b : Po (El p m mod))) h0 hfx (Fd.inv (Po.lead f)) (by rw [← hgc]; rfl) hG.left hG.right hD0
      exact tr_ret ⟨trivial, _, _, rfl, ⟨_, rfl, Bd, _, cd, Bu, cu, Bv, _, cv, _, V, rfl, rfl, by omega, hV⟩, cs _ _, trivial, trivial⟩

theorem cutA_zero (A : Option Addr) (c : Nat) : A = cutA A 0 c := by
  unfold cutA
  split
  · cases A with
    | none => rfl
    | some a => simp [shA, Addr.add]
  · rfl
theorem copy0 {p m : Int} {mod : List Int} [hF : IsF p m mod] {n : Nat} {ls : List Int} (hin : AllIn (pw p m) ls) (hl : ls.length ≤ n) : ((List.replicate n (0 : Int)).take 0 ++ ls.take (min ls.length n) ++ (List.replicate n 0).drop (0 + min ls.length n)).length = n ∧ AllIn (pw p m) ((List.replicate n (0 : Int)).take 0 ++ ls.take (min ls.length n) ++ (List.replicate n 0).drop (0 + min ls.length n)) ∧ (pol ((List.replicate n (0 : Int)).take 0 ++ ls.take (min ls.length n) ++ (List.replicate n 0).drop (0 + min ls.length n)) : Po (El p m mod)) = pol ls := by
  have hq := hF.q2
  have e : (List.replicate n (0 : Int)).take 0 ++ ls.take (min ls.length n) ++ (List.replicate n 0).drop (0 + min ls.length n) = ls ++ List.replicate (n - ls.length) 0 := by
    rw [List.take_zero, List.nil_append, show min ls.length n = ls.length by omega, List.take_length, Nat.zero_add, List.drop_replicate]
  rw [e]
  refine ⟨by simp; omega, fun z hz => ?_, Po.ext fun j => ?_⟩
  · rcases List.mem_append.1 hz with h | h
    · exact hin z h
    · rw [List.eq_of_mem_replicate h]; omega
  · rw [cf_pol, cf_pol, List.getD_eq_getElem?_getD]
    rcases Nat.lt_or_ge j ls.length with h | h
    · rw [List.getElem?_append_left h, ← List.getD_eq_getElem?_getD]
    · rw [List.getElem?_append_right h, List.getElem?_replicate, getD_out h]
      split <;> rfl

theorem cyc_IdeE_ent : Enters Tryz.prog 47 := enters_of Tryz.func47 (by kernel_rfl) (by kernel_rfl)
theorem cyc_IdeE (p m : Int) (A : Option Addr) (c : Nat) (mod : List Int) (hl9 : mod.length ≤ 17592186044415) (w : Int) (Aa : Option Addr) (n ca : Nat) (rs : List RowM) (hn : n = rs.length) (h9 : rs.length ≤ 17592186044415) (h8 : ∀ r ∈ rs, r.xs.length ≤ 17592186044415) (he : codC p m mod w rs ≠ 0) :
    Pure Tryz.prog 47 #[.agg #[.int .i64 p, .int .i64 m, .slice A mod.length c, .int .i64 w, .slice Aa n ca]] [ro A (ints mod), ro Aa (hdrs rs), rowsR rs] (isV (.tuple #[.slice none 0 0, .int .i64 (codC p m mod w rs)])) := by
  refine pure_of (args := [.agg #[.int .i64 p, .int .i64 m, .slice A mod.length c, .int .i64 w, .slice Aa n ca]]) 62 Tryz.func47 rfl rfl rfl cyc_IdeE_ent ⟨id, id, id, trivial⟩ (fun w0 => ?_)
  refine tr_seq ?_
  refine tr_region fun _ _ _ => ?_
  refine ef rfl rfl (eBox rfl rfl rfl rfl rfl (fun p0 => ?_)) 
  iterate 2 refine pu rfl rfl rfl rfl rfl ?_
  refine tr_seq ?_
  refine tr_region fun _ _ _ => ?_
  refine st rfl rfl rfl rfl (rLdS rfl rfl rfl) ?_
  refine ef rfl rfl (eCallV rfl rfl rfl (cyc_partsE p m A c mod hl9 w Aa n ca rs hn h9 h8 he) ⟨rfl, trivial⟩ ?_) 
  iterate 9 refine pu rfl rfl rfl rfl rfl ?_
  refine tr_seq ?_
  refine tr_seq ?_
  refine tr_region fun _ _ _ => ?_
  iterate 2 refine pu rfl rfl rfl rfl rfl ?_
  refine tr_cond_bool rfl (fun h2 => ?_) (fun h2 => ?_)
  · try simp only [zb1, zb2, zb3, zb4, zb5, zb6, zb7, zb8, zb9, zb10] at h2
    refine tr_seq ?_
    refine tr_region fun _ _ _ => ?_
    iterate 3 refine pu rfl rfl rfl rfl rfl ?_
    exact tr_ret ⟨trivial, _, _, rfl, ⟨rfl, rfl⟩, CSub.nil _, trivial⟩
  · try simp only [zb1, zb2, zb3, zb4, zb5, zb6, zb7, zb8, zb9, zb10] at h2
    omega --done

theorem cyc_IdeN_ent : Enters Tryz.prog 47 := enters_of Tryz.func47 (by kernel_rfl) (by kernel_rfl)
theorem cyc_IdeN (p m : Int) (A : Option Addr) (c : Nat) (mod : List Int) [hF : IsF p m mod] (w : Int) (Aa : Option Addr) (n ca : Nat) (rs : List RowM) (hn : n = rs.length) (h9 : rs.length ≤ 256) (hc : CodeOk p m mod w rs) (hcl : closB p m mod w.toNat rs = false) :
    Pure Tryz.prog 47 #[.agg #[.int .i64 p, .int .i64 m, .slice A mod.length c, .int .i64 w, .slice Aa n ca]] [ro A (ints mod), ro Aa (hdrs rs), rowsR rs] (isV (.tuple #[.slice none 0 0, .int .i64 5])) := by
  refine pure_of (args := [.agg #[.int .i64 p, .int .i64 m, .slice A mod.length c, .int .i64 w, .slice Aa n ca]]) 62 Tryz.func47 rfl rfl rfl cyc_IdeN_ent ⟨id, id, id, trivial⟩ (fun w0 => ?_)
  refine tr_seq ?_
  refine tr_region fun _ _ _ => ?_
  refine ef rfl rfl (eBox rfl rfl rfl rfl rfl (fun p0 => ?_)) 
  iterate 2 refine pu rfl rfl rfl rfl rfl ?_
  refine tr_seq ?_
  refine tr_region fun _ _ _ => ?_
  refine st rfl rfl rfl rfl (rLdS rfl rfl rfl) ?_
  refine ef rfl rfl (eCallV rfl rfl rfl (cyc_partsN _ _ _ _ _ w Aa n ca rs hn h9 hc hcl) ⟨rfl, trivial⟩ ?_) 
  iterate 9 refine pu rfl rfl rfl rfl rfl ?_
  refine tr_seq ?_
  refine tr_seq ?_
  refine tr_region fun _ _ _ => ?_
  iterate 2 refine pu rfl rfl rfl rfl rfl ?_
  refine tr_cond_bool rfl (fun h2 => ?_) (fun h2 => ?_)
  · try simp only [zb1, zb2, zb3, zb4, zb5, zb6, zb7, zb8, zb9, zb10] at h2
    refine tr_seq ?_
    refine tr_region fun _ _ _ => ?_
    iterate 3 refine pu rfl rfl rfl rfl rfl ?_
    exact tr_ret ⟨trivial, _, _, rfl, ⟨rfl, rfl⟩, CSub.nil _, trivial⟩
  · try simp only [zb1, zb2, zb3, zb4, zb5, zb6, zb7, zb8, zb9, zb10] at h2
    first | exact absurd trivial h2 | exact absurd rfl h2 | omega | (exact absurd h2 (by simp)) --done

theorem cyc_IdeP_ent : Enters Tryz.prog 47 := enters_of Tryz.func47 (by kernel_rfl) (by kernel_rfl)
theorem cyc_IdeP (p m : Int) (A : Option Addr) (c : Nat) (mod : List Int) [hF : IsF p m mod] (w : Int) (Aa : Option Addr) (n ca : Nat) (rs : List RowM) (hn : n = rs.length) (h9 : rs.length ≤ 256) (hc : CodeOk p m mod w rs) (hcl : closB p m mod w.toNat rs = true) (hwp : w % p = 0) :
    Pure Tryz.prog 47 #[.agg #[.int .i64 p, .int .i64 m, .slice A mod.length c, .int .i64 w, .slice Aa n ca]] [ro A (ints mod), ro Aa (hdrs rs), rowsR rs] (isV (.tuple #[.slice none 0 0, .int .i64 10])) := by
  have hl9 := hF.short
  have hn1 := hc.n1
  have hn64 := hc.n64
  have hlen := hc.len
  have hgd := hc.good
  have h8 := hgd.h8 (N := 17592186044415) (by omega)
  have hck := hc.zero
  have hp2 := hF.out.1.1.p2
  refine pure_of (args := [.agg #[.int .i64 p, .int .i64 m, .slice A mod.length c, .int .i64 w, .slice Aa n ca]]) 62 Tryz.func47 rfl rfl rfl cyc_IdeP_ent ⟨id, id, id, trivial⟩ (fun w0 => ?_)
  refine tr_seq ?_
  refine tr_region fun _ _ _ => ?_
  refine ef rfl rfl (eBox rfl rfl rfl rfl rfl (fun p0 => ?_)) 
  iterate 2 refine pu rfl rfl rfl rfl rfl ?_
  refine tr_seq ?_
  refine tr_region fun _ _ _ => ?_
  refine st rfl rfl rfl rfl (rLdS rfl rfl rfl) ?_
  refine ef rfl rfl (eCall3 rfl rfl rfl (cyc_parts _ _ _ _ _ w Aa n ca rs hn h9 hc hcl) ⟨rfl, trivial⟩ ?_) 
  rintro _ _ _ _ ⟨g, Bg, cg, Bq, cq, rfl, rfl, rfl, rfl, hg⟩
  iterate 9 refine pu rfl rfl rfl rfl rfl ?_
  refine tr_seq ?_
  refine tr_seq ?_
  refine tr_region fun _ _ _ => ?_
  iterate 2 refine pu rfl rfl rfl rfl rfl ?_
  refine tr_cond_bool rfl (fun h2 => ?_) (fun h2 => ?_)
  · try simp only [zb1, zb2, zb3, zb4, zb5, zb6, zb7, zb8, zb9, zb10] at h2
    first | exact absurd trivial h2 | exact absurd rfl h2 | omega | (exact absurd h2 (by simp)) --done
  · try simp only [zb1, zb2, zb3, zb4, zb5, zb6, zb7, zb8, zb9, zb10] at h2
    refine tr_skip ?_
    refine tr_seq ?_
    refine tr_seq ?_
    refine tr_region fun _ _ _ => ?_
    refine st rfl rfl rfl rfl (rFld rfl rfl) ?_
    refine st rfl rfl rfl rfl (rLdF rfl rfl rfl) ?_
    refine st rfl rfl rfl rfl (rFld rfl rfl) ?_
    refine st rfl rfl rfl rfl (rFldN rfl rfl) ?_
    refine st rfl rfl rfl rfl (rLdF rfl rfl rfl) ?_
    refine st rfl rfl rfl rfl (rRem rfl rfl rfl (by omega) (by omega)) ?_
    refine pu rfl rfl rfl rfl rfl ?_
    refine tr_cond_bool rfl (fun h4 => ?_) (fun h4 => ?_)
    · try simp only [zb1, zb2, zb3, zb4, zb5, zb6, zb7, zb8, zb9, zb10] at h4
      refine tr_seq ?_
      refine tr_region fun _ _ _ => ?_
      iterate 2 refine pu rfl rfl rfl rfl rfl ?_
      exact tr_ret ⟨trivial, _, _, rfl, ⟨rfl, rfl⟩, CSub.nil _, trivial⟩
    · try simp only [zb1, zb2, zb3, zb4, zb5, zb6, zb7, zb8, zb9, zb10] at h4
      omega --done

theorem cyc_Ide_ent : Enters Tryz.prog 47 := enters_of Tryz.func47 (by kernel_rfl) (by kernel_rfl)
theorem cyc_Ide (p m : Int) (A : Option Addr) (c : Nat) (mod : List Int) [hF : IsF p m mod] (w : Int) (Aa : Option Addr) (n ca : Nat) (rs : List RowM) (hn : n = rs.length) (h9 : rs.length ≤ 256) (hc : CodeOk p m mod w rs) (hcl : closB p m mod w.toNat rs = true) (hwp : w % p ≠ 0) :
    Pure Tryz.prog 47 #[.agg #[.int .i64 p, .int .i64 m, .slice A mod.length c, .int .i64 w, .slice Aa n ca]] [ro A (ints mod), ro Aa (hdrs rs), rowsR rs] (one (fun v ch => ∃ (B : Option Addr) (o : List Int), v = .tuple #[.slice B o.length o.length, .int .i64 0] ∧ ch = ow B 3 o.length (ints o) ∧ (o.length = w.toNat ∧ AllIn (pw p m) o) ∧ ∃ U V : Po (El p m mod), U * (genP p m mod w.toNat (xss rs)) + V * (Po.quo (xn1 w.toNat : Po (El p m mod)) (genP p m mod w.toNat (xss rs))) = 1 ∧ (pol o : Po (El p m mod)) = Po.rem (U * (genP p m mod w.toNat (xss rs))) (xn1 w.toNat))) := by
  have hl9 := hF.short
  have hn1 := hc.n1
  have hn64 := hc.n64
  have hlen := hc.len
  have hgd := hc.good
  have h8 := hgd.h8 (N := 17592186044415) (by omega)
  have hck := hc.zero
  have hp2 := hF.out.1.1.p2
  have hw1 : 1 ≤ w.toNat := by omega
  have hgh : (genP p m mod w.toNat (xss rs)) * (Po.quo (xn1 w.toNat : Po (El p m mod)) (genP p m mod w.toNat (xss rs))) = xn1 w.toNat := by rw [Rg.mul_comm]; exact Po.quo_mul (genP_ne hw1 _) (genP_dvd _ _)
  have hGl := genP_len (p := p) (m := m) (mod := mod) hw1 (xss rs)
  have hQx : (Po.quo (xn1 w.toNat : Po (El p m mod)) (genP p m mod w.toNat (xss rs))) ∣ xn1 w.toNat := ⟨(genP p m mod w.toNat (xss rs)), by rw [Rg.mul_comm]; exact hgh.symm⟩
  have hQl : Po.len (Po.quo (xn1 w.toNat : Po (El p m mod)) (genP p m mod w.toNat (xss rs))) ≤ w.toNat + 1 := by have := Po.dvd_len hQx (xn1_ne hw1); rwa [xn1_len hw1] at this
  have hQ0 : (Po.quo (xn1 w.toNat : Po (El p m mod)) (genP p m mod w.toNat (xss rs))) ≠ 0 := fun e => xn1_ne (p := p) (m := m) (mod := mod) hw1 (by rw [← hgh, e, Rg.mul_zero])
  have hcop : Po.gcd (genP p m mod w.toNat (xss rs)) (Po.quo (xn1 w.toNat : Po (El p m mod)) (genP p m mod w.toNat (xss rs))) = 1 := xn1_cop hw1 (by rw [Int.toNat_of_nonneg (by omega)]; exact hwp) hgh
  have hGil : (il (genP p m mod w.toNat (xss rs))).length ≤ 65 := by rw [il_length]; omega
  have hQil : (il (Po.quo (xn1 w.toNat : Po (El p m mod)) (genP p m mod w.toNat (xss rs)))).length ≤ 65 := by rw [il_length]; omega
  refine pure_of (args := [.agg #[.int .i64 p, .int .i64 m, .slice A mod.length c, .int .i64 w, .slice Aa n ca]]) 62 Tryz.func47 rfl rfl rfl cyc_Ide_ent ⟨id, id, id, trivial⟩ (fun w0 => ?_)
  refine tr_seq ?_
  refine tr_region fun _ _ _ => ?_
  refine ef rfl rfl (eBox rfl rfl rfl rfl rfl (fun p0 => ?_)) 
  iterate 2 refine pu rfl rfl rfl rfl rfl ?_
  refine tr_seq ?_
  refine tr_region fun _ _ _ => ?_
  refine st rfl rfl rfl rfl (rLdS rfl rfl rfl) ?_
  refine ef rfl rfl (eCall3 rfl rfl rfl (cyc_parts _ _ _ _ _ w Aa n ca rs hn h9 hc hcl) ⟨rfl, trivial⟩ ?_) 
  rintro _ _ _ _ ⟨g, Bg, cg, Bq, cq, rfl, rfl, rfl, rfl, hg⟩
  iterate 9 refine pu rfl rfl rfl rfl rfl ?_
  refine tr_seq ?_
  refine tr_seq ?_
  refine tr_region fun _ _ _ => ?_
  iterate 2 refine pu rfl rfl rfl rfl rfl ?_
  refine tr_cond_bool rfl (fun h2 => ?_) (fun h2 => ?_)
  · try simp only [zb1, zb2, zb3, zb4, zb5, zb6, zb7, zb8, zb9, zb10] at h2
    first | exact absurd trivial h2 | exact absurd rfl h2 | omega | (exact absurd h2 (by simp)) --done
  · try simp only [zb1, zb2, zb3, zb4, zb5, zb6, zb7, zb8, zb9, zb10] at h2
    refine tr_skip ?_
    refine tr_seq ?_
    refine tr_seq ?_
    refine tr_region fun _ _ _ => ?_
    refine st rfl rfl rfl rfl (rFld rfl rfl) ?_
    refine st rfl rfl rfl rfl (rLdF rfl rfl rfl) ?_
    refine st rfl rfl rfl rfl (rFld rfl rfl) ?_
    refine st rfl rfl rfl rfl (rFldN rfl rfl) ?_
    refine st rfl rfl rfl rfl (rLdF rfl rfl rfl) ?_
    refine st rfl rfl rfl rfl (rRem rfl rfl rfl (by omega) (by omega)) ?_
    refine pu rfl rfl rfl rfl rfl ?_
    refine tr_cond_bool rfl (fun h4 => ?_) (fun h4 => ?_)
    · try simp only [zb1, zb2, zb3, zb4, zb5, zb6, zb7, zb8, zb9, zb10] at h4
      omega --done
    · try simp only [zb1, zb2, zb3, zb4, zb5, zb6, zb7, zb8, zb9, zb10] at h4
      refine tr_skip ?_
      refine tr_seq ?_
      refine tr_region fun _ _ _ => ?_
      iterate 3 refine pu rfl rfl rfl rfl rfl ?_
      refine ef rfl rfl (eCall1 rfl rfl rfl (poly_Bezout g hg Bg _ cg (il (genP p m mod w.toNat (xss rs))) rfl (by omega) Bq _ cq (il (Po.quo (xn1 w.toNat : Po (El p m mod)) (genP p m mod w.toNat (xss rs)))) rfl (by omega) (by rw [pol_il]; exact hQ0)) ⟨rfl, rfl, rfl, trivial⟩ ?_) 
      rintro _ _ ⟨Bb1, nb1, cb1, Bu, cu, Bb3, nb3, cb3, U, Vv, rfl, rfl, hUl, hUV⟩
      iterate 7 refine pu rfl rfl rfl rfl rfl ?_
      refine tr_seq ?_
      rw [pol_il, pol_il, hcop] at hUV
      have hpr : ∀ (Bu Bg : Option Addr) (cu cg : Nat), prP p m mod [(⟨Bu, cu, il U⟩ : RowM), ⟨Bg, cg, il (genP p m mod w.toNat (xss rs))⟩] = U * (genP p m mod w.toNat (xss rs)) := fun _ _ _ _ => by
        unfold prP
        simp only [List.foldl_cons, List.foldl_nil, pol_il]
        rw [Rg.one_mul]
      have hl2 : ∀ k, k < [(⟨Bu, cu, il U⟩ : RowM), ⟨Bg, cg, il (genP p m mod w.toNat (xss rs))⟩].length → ([(⟨Bu, cu, il U⟩ : RowM), ⟨Bg, cg, il (genP p m mod w.toNat (xss rs))⟩].getD k rowD).xs.length ≤ 1000000 := fun k hk => by
        match k, hk with
        | 0, _ => show (il U).length ≤ _; rw [il_length]; omega
        | 1, _ => show (il (genP p m mod w.toNat (xss rs))).length ≤ _; omega
      have hUG : Po.len (U * (genP p m mod w.toNat (xss rs))) ≤ 2000 := mul_len_le fun _ _ => by omega
      have hp2_ : ∀ k, k ≤ [(⟨Bu, cu, il U⟩ : RowM), ⟨Bg, cg, il (genP p m mod w.toNat (xss rs))⟩].length → Po.len (prP p m mod ([(⟨Bu, cu, il U⟩ : RowM), ⟨Bg, cg, il (genP p m mod w.toNat (xss rs))⟩].take k)) ≤ 1000000 := fun k hk => by
        match k, hk with
        | 0, _ => show Po.len (1 : Po (El p m mod)) ≤ _; rw [Po.len_one]; omega
        | 1, _ => show Po.len ((1 : Po (El p m mod)) * pol (il U)) ≤ _; rw [Rg.one_mul, pol_il]; omega
        | 2, _ => show Po.len (prP p m mod [(⟨Bu, cu, il U⟩ : RowM), ⟨Bg, cg, il (genP p m mod w.toNat (xss rs))⟩]) ≤ _; rw [hpr]; omega
      have hpl2 := hpr Bu Bg cu cg
      refine tr_draw [0, 1, 2, 3, 6, 7, 8, 4, 5, 9, 10, 11, 12, 13, 14, 15, 16, 17] [] mixed (by kernel_rfl) fun _ _ _ => ?_
      iterate 5 refine pu rfl rfl rfl rfl rfl ?_
      refine st rfl rfl rfl rfl (rFld rfl rfl) ?_
      refine st rfl rfl rfl rfl (rLdF rfl rfl rfl) ?_
      refine ef rfl rfl (eLit2R (il U) (il (genP p m mod w.toNat (xss rs))) rfl rfl rfl rfl rfl (fun A7 => ?_)) 
      refine ef rfl rfl (eCall1 rfl rfl rfl (poly_Mul g hg A7 2 2 [⟨Bu, cu, il U⟩, ⟨Bg, cg, il (genP p m mod w.toNat (xss rs))⟩] rfl (by simp) hl2 hp2_) ⟨rfl, rfl, trivial⟩ ?_) 
      rintro _ _ ⟨Bm, cm, rfl, rfl⟩
      refine ef rfl rfl (eCall1 rfl rfl rfl (cyc_around g hg w hn1 (by omega)) ⟨rfl, rfl, trivial⟩ ?_) 
      rintro _ _ ⟨Ba7, rfl, rfl⟩
      refine ef rfl rfl (eCall2 rfl rfl rfl (poly_DivMod g hg Bm _ cm (il (prP p m mod [⟨Bu, cu, il U⟩, ⟨Bg, cg, il (genP p m mod w.toNat (xss rs))⟩])) rfl (by rw [il_length, hpl2]; omega) Ba7 _ _ (aroundL p m mod w.toNat) rfl (by rw [around_length]; omega) (by rw [pol_around hw1]; exact xn1_ne hw1)) ⟨rfl, rfl, rfl, trivial⟩ ?_) 
      rintro _ _ _ ⟨Bd1, cd1, Bd2, cd2, rfl, rfl, rfl⟩
      iterate 7 refine pu rfl rfl rfl rfl rfl ?_
      simp only [pol_il, hpl2, pol_around (p := p) (m := m) (mod := mod) hw1]
      refine tr_seq ?_
      refine tr_region fun _ _ _ => ?_
      refine st rfl rfl rfl rfl (rFld rfl rfl) ?_
      refine st rfl rfl rfl rfl (rLdF rfl rfl rfl) ?_
      refine ef rfl rfl (eMakeI rfl rfl rfl rfl rfl (by omega) (by omega) (by omega) (fun A8 => ?_)) 
      refine pu rfl rfl rfl rfl rfl ?_
      refine tr_seq ?_
      refine tr_region fun _ _ _ => ?_
      iterate 2 refine pu rfl rfl rfl rfl rfl ?_
      refine ef rfl rfl (eCopyI (A := A8) (lo := 0) rfl rfl rfl rfl (cutA_zero A8 _) rfl (by simp) (by first | omega | simp) ?_) 
      refine tr_seq ?_
      refine tr_region fun _ _ _ => ?_
      iterate 3 refine pu rfl rfl rfl rfl rfl ?_
      obtain ⟨hcl1, hcl2, hcl3⟩ := copy0 (p := p) (m := m) (mod := mod) (n := w.toNat) (il_in (Po.rem (U * (genP p m mod w.toNat (xss rs))) (xn1 w.toNat))) (by rw [il_length]; exact Po.len_le (rem_sh hw1 _))
      generalize (List.replicate w.toNat (0 : Int)).take 0 ++ (il (Po.rem (U * (genP p m mod w.toNat (xss rs))) (xn1 w.toNat))).take (min (il (Po.rem (U * (genP p m mod w.toNat (xss rs))) (xn1 w.toNat))).length w.toNat) ++ (List.replicate w.toNat 0).drop (0 + min (il (Po.rem (U * (genP p m mod w.toNat (xss rs))) (xn1 w.toNat))).length w.toNat) = o at *
      exact tr_ret ⟨trivial, _, _, rfl, ⟨_, rfl, A8, o, by rw [hcl1], by rw [hcl1], ⟨hcl1, hcl2⟩, U, Vv, hUV, by rw [hcl3, pol_il]⟩, cs _ _, trivial, trivial⟩

theorem pol_inj {p m : Int} {mod : List Int} [hF : IsF p m mod] {a b : List Int} (ha : AllIn (pw p m) a) (hb : AllIn (pw p m) b) (hl : a.length = b.length) (h : (pol a : Po (El p m mod)) = pol b) : a = b := rw_inj2 (p := p) (m := m) (mod := mod) ha hb hl (Vc.ext fun j => by
  rw [rw_pol, rw_pol, h])

theorem ref_Ide_ent : Enters Tryz.prog 48 := enters_of Tryz.func48 (by kernel_rfl) (by kernel_rfl)
theorem ref_Ide (p m : Int) (A : Option Addr) (c : Nat) (mod : List Int) [hF : IsF p m mod] (w : Int) (Aa : Option Addr) (n ca : Nat) (rs : List RowM) (hn : n = rs.length) (h9 : rs.length ≤ 256) (hc : CodeOk p m mod w rs) (X : Option Addr) (nx cx : Nat) (l : List Int) (hnx : nx = l.length) (hlw : (l.length : Int) = w) (hin : AllIn (pw p m) l) (hmm : memB p m mod rs l = true) (hpr : ∀ r ∈ rs, Po.rem ((pol l : Po (El p m mod)) * pol r.xs) (xn1 w.toNat) = pol r.xs) :
    Pure Tryz.prog 48 #[.agg #[.int .i64 p, .int .i64 m, .slice A mod.length c, .int .i64 w, .slice Aa n ca], .slice X nx cx] [ro A (ints mod), ro Aa (hdrs rs), rowsR rs, ro X (ints l)] (isV (.bool true)) := by
  have hl9 := hF.short
  have hn1 := hc.n1
  have hn64 := hc.n64
  have hlen := hc.len
  have hgd := hc.good
  have h8 := hgd.h8 (N := 17592186044415) (by omega)
  have hck := hc.zero
  refine pure_of (args := [.agg #[.int .i64 p, .int .i64 m, .slice A mod.length c, .int .i64 w, .slice Aa n ca], .slice X nx cx]) 50 Tryz.func48 rfl rfl rfl ref_Ide_ent ⟨id, id, id, id, trivial⟩ (fun w0 => ?_)
  refine tr_seq ?_
  refine tr_region fun _ _ _ => ?_
  refine ef rfl rfl (eBox rfl rfl rfl rfl rfl (fun p0 => ?_)) 
  refine pu rfl rfl rfl rfl rfl ?_
  refine tr_seq ?_
  refine tr_seq ?_
  refine tr_region fun _ _ _ => ?_
  refine st rfl rfl rfl rfl (rFld rfl rfl) ?_
  refine st rfl rfl rfl rfl (rLdSF rfl rfl) ?_
  refine pu rfl rfl rfl rfl rfl ?_
  refine st rfl rfl rfl rfl (rFld rfl rfl) ?_
  refine st rfl rfl rfl rfl (rLdF rfl rfl rfl) ?_
  refine ef rfl rfl (eCallV rfl rfl rfl (ref_CList _ _ _ _ _ w (by omega) X nx cx l hnx hlw hin) ⟨rfl, rfl, rfl, trivial⟩ ?_) 
  iterate 2 refine pu rfl rfl rfl rfl rfl ?_
  refine stT rfl rfl rfl (by simp) rfl rfl (rFld rfl rfl) ?_
  refine stT rfl rfl rfl (by simp) rfl rfl (rLdSF rfl rfl) ?_
  refine stT rfl rfl rfl (by simp) rfl rfl (rFld rfl rfl) ?_
  refine stT rfl rfl rfl (by simp) rfl rfl (rLdF rfl rfl rfl) ?_
  refine stT rfl rfl rfl (by simp) rfl rfl (rMove rfl rfl) ?_
  refine efT rfl rfl rfl (by simp) (eCallV rfl rfl rfl (ref_RIn' _ _ _ _ _ w Aa n ca rs hn h9 hc X nx cx l hnx hlw hin) ⟨rfl, rfl, rfl, trivial⟩ ?_) 
  refine stT rfl rfl rfl (by simp) rfl rfl (rNotB rfl rfl) ?_
  refine st rfl rfl rfl rfl (rPick0 rfl rfl (by simp) rfl) ?_
  refine tr_cond_bool rfl (fun h1 => ?_) (fun h1 => ?_)
  · try simp only [zb1, zb2, zb3, zb4, zb5, zb6, zb7, zb8, zb9, zb10] at h1
    simp [hmm] at h1 --done
  · try simp only [zb1, zb2, zb3, zb4, zb5, zb6, zb7, zb8, zb9, zb10] at h1
    refine tr_skip ?_
    refine tr_seq ?_
    refine tr_seq ?_
    refine tr_region fun _ _ _ => ?_
    refine pu rfl rfl rfl rfl rfl ?_
    refine tr_block ?_
    refine tr_loop1 (fun (j : Int) => [(5, .int .i64 j), (1, .slice X nx cx), (2, .pointer (some p0))]) (fun (j : Int) => [blk p0 27 [.int .i64 p, .int .i64 m, .slice A mod.length c, .int .i64 w, .slice Aa n ca], ro A (ints mod), ro Aa (hdrs rs), rowsR rs, ro X (ints l)]) (fun (j : Int) => 0 ≤ j ∧ j ≤ n) (fun (j : Int) => (n - j).toNat) (0) ⟨rfl, rfl, rfl, trivial⟩ (by first | exact cs _ _ | exact CSub.refl _) (by omega) (fun j hI => ?_)
    obtain ⟨hj0, hj1⟩ := hI
    refine tr_seq ?_
    refine tr_seq ?_
    refine tr_region fun _ _ _ => ?_
    refine pu rfl rfl rfl rfl rfl ?_
    refine st rfl rfl rfl rfl (rFld rfl rfl) ?_
    refine st rfl rfl rfl rfl (rLdF rfl rfl rfl) ?_
    refine st rfl rfl rfl rfl (rLen rfl rfl) ?_
    refine pu rfl rfl rfl rfl rfl ?_
    refine tr_cond_bool rfl (fun h4 => ?_) (fun h4 => ?_)
    · try simp only [zb1, zb2, zb3, zb4, zb5, zb6, zb7, zb8, zb9, zb10] at h4
      refine tr_skip ?_
      refine tr_seq ?_
      refine tr_block ?_
      refine tr_seq ?_
      have hgj := hgd.get (show j.toNat < rs.length by omega)
      haveI : InB j.toNat rs.length := ⟨by omega⟩
      have hgj1 := hgj.1
      have hgj2 := hgj.2
      have hml := il_mul_le (p := p) (m := m) (mod := mod) l (rs.getD j.toNat rowD).xs
      refine tr_draw [0, 1, 2, 3, 4, 5, 6, 7, 8, 9, 10, 11, 14, 15, 16, 17, 18, 12, 13, 19, 20] [] mixed (by kernel_rfl) fun _ _ _ => ?_
      refine st rfl rfl rfl rfl (rFld rfl rfl) ?_
      refine st rfl rfl rfl rfl (rLdSF rfl rfl) ?_
      refine st rfl rfl rfl rfl (rFld rfl rfl) ?_
      refine st rfl rfl rfl rfl (rLdF rfl rfl rfl) ?_
      refine st rfl rfl rfl rfl (rFld rfl rfl) ?_
      refine st rfl rfl rfl rfl (rLdSF rfl rfl) ?_
      refine pu rfl rfl rfl rfl rfl ?_
      refine st rfl rfl rfl rfl (rFld rfl rfl) ?_
      refine st rfl rfl rfl rfl (rLdF rfl rfl rfl) ?_
      refine pu rfl rfl rfl rfl rfl ?_
      refine st rfl rfl rfl rfl (rIdxR rfl rfl rfl (by omega) (by omega) (by omega)) ?_
      refine st rfl rfl rfl rfl (rLdR rfl rfl (by omega)) ?_
      refine st rfl rfl rfl rfl (rFld rfl rfl) ?_
      refine st rfl rfl rfl rfl (rLdF rfl rfl rfl) ?_
      refine pu rfl rfl rfl rfl rfl ?_
      refine st rfl rfl rfl rfl (rIdxR rfl rfl rfl (by omega) (by omega) (by omega)) ?_
      refine st rfl rfl rfl rfl (rLdR rfl rfl (by omega)) ?_
      refine ef rfl rfl (eCall1 rfl rfl rfl (ref_PMul _ _ _ _ _ X nx cx l hnx (by omega) _ _ _ (rs.getD j.toNat rowD).xs rfl (by omega)) ⟨rfl, rfl, rfl, trivial⟩ ?_) 
      rintro _ _ ⟨B6, c6, rfl, rfl⟩
      refine ef rfl rfl (eCall1 rfl rfl rfl (ref_Word _ _ _ _ _ w hn1 hn64 B6 _ c6 (il ((pol l : Po (El p m mod)) * pol (rs.getD j.toNat rowD).xs)) rfl (by omega)) ⟨rfl, rfl, rfl, trivial⟩ ?_) 
      rintro _ _ ⟨Bo, o, rfl, rfl, hol, hoi, hor⟩
      refine ef rfl rfl (eCallV rfl rfl rfl (ref_SameInts _ _ _ o rfl _ _ _ (rs.getD j.toNat rowD).xs rfl (by omega)) ⟨rfl, rfl, trivial⟩ ?_) 
      refine st rfl rfl rfl rfl (rNotB rfl rfl) ?_
      refine tr_cond_bool rfl (fun h6 => ?_) (fun h6 => ?_)
      · try simp only [zb1, zb2, zb3, zb4, zb5, zb6, zb7, zb8, zb9, zb10] at h6
        have hoe : o = (rs.getD j.toNat rowD).xs := pol_inj hoi hgj2 (by omega) (by rw [hor, pol_il]; exact hpr _ (getD_mem (show j.toNat < rs.length by omega) rowD))
        exact absurd h6 (by simp [hoe]) --done
      · try simp only [zb1, zb2, zb3, zb4, zb5, zb6, zb7, zb8, zb9, zb10] at h6
        refine tr_skip ?_
        refine tr_region fun _ _ _ => ?_
        refine pu rfl rfl rfl rfl rfl ?_
        refine st rfl rfl rfl rfl (rAdd rfl rfl rfl (by omega) (by omega)) ?_
        refine pu rfl rfl rfl rfl rfl ?_
        refine ⟨j + 1, ⟨rfl, rfl, rfl, trivial⟩, by first | exact cs _ _ | exact CSub.refl _, ?_⟩
        exact ⟨⟨by omega, by omega⟩, by omega⟩
    · try simp only [zb1, zb2, zb3, zb4, zb5, zb6, zb7, zb8, zb9, zb10] at h4
      refine tr_exit ?_
      refine tr_seq ?_
      refine tr_region fun _ _ _ => ?_
      refine pu rfl rfl rfl rfl rfl ?_
      exact tr_ret ⟨trivial, _, _, rfl, ⟨rfl, rfl⟩, CSub.nil _, trivial⟩

end Go.Proofs.YtjmojhflnjbgaaaGreat

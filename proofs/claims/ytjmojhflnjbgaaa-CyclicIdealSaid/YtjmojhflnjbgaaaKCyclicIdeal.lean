/-
  CYCLICIDEAL, PART 6 OF 6. One sentence: the texts behind the law CyclicIdeal, put together.
  Conditions: each theorem's own, written out in it.
-/
import Derived.Test.YtjmojhflnjbgaaaK5
set_option linter.unusedSimpArgs false
set_option linter.unusedVariables false
set_option linter.unusedSectionVars false
set_option linter.unusedSimpArgs false
set_option linter.unusedVariables false
set_option maxRecDepth 100000
namespace Go.Proofs.Ytjmojhflnjbgaaa
open Go.RowKit

theorem cyc_NewNo_ent : Enters Try.prog 26 := enters_of Try.func26 (by kernel_rfl) (by kernel_rfl)
theorem cyc_NewNo (p m : Int) (A : Option Addr) (c : Nat) (mod : List Int) (hl9 : mod.length ≤ 17592186044415) (hF : ¬ FldR p m mod) (n : Int) (Al : Option Addr) (nl cl : Nat) (l : List Int) (hnl : nl = l.length) (hl : l.length ≤ 100000) :
    Pure Try.prog 26 #[.agg #[.int .i64 p, .int .i64 m, .slice A mod.length c], .int .i64 n, .slice Al nl cl] [ro A (ints mod), ro Al (ints l)] (isV (.tuple #[.agg #[.int .i64 0, .int .i64 0, .slice none 0 0, .int .i64 0, .slice none 0 0], .int .i64 1])) := by
  refine pure_ofC (args := [.agg #[.int .i64 p, .int .i64 m, .slice A mod.length c], .int .i64 n, .slice Al nl cl]) 77 Try.func26 rfl rfl rfl cyc_NewNo_ent ⟨id, id, trivial⟩ (fun w0 => ?_)
  refine tr_seq ?_
  refine tr_region fun _ _ _ => ?_
  refine ef rfl rfl (eBox rfl rfl rfl rfl rfl (fun p0 => ?_)) 
  refine ef rfl rfl (eAlloc rfl rfl rfl (fun p0a => ?_)) 
  refine pu rfl rfl rfl rfl rfl ?_
  refine tr_seq ?_
  refine tr_region fun _ _ _ => ?_
  refine st rfl rfl rfl rfl (rLdS rfl rfl rfl) ?_
  refine ef rfl rfl (eCallV rfl rfl rfl (fld_New_no _ _ _ _ _ hl9 hF) ⟨rfl, trivial⟩ ?_) 
  iterate 5 refine pu rfl rfl rfl rfl rfl ?_
  refine tr_seq ?_
  refine tr_seq ?_
  refine tr_region fun _ _ _ => ?_
  iterate 2 refine pu rfl rfl rfl rfl rfl ?_
  refine tr_cond_bool rfl (fun h2 => ?_) (fun h2 => ?_)
  · try simp only [zb1, zb2, zb3, zb4, zb5, zb6, zb7, zb8, zb9, zb10] at h2
    refine tr_seq ?_
    refine tr_region fun _ _ _ => ?_
    refine st rfl rfl rfl rfl (rBuild rfl rfl) ?_
    refine pu rfl rfl rfl rfl rfl ?_
    refine ef rfl rfl (eStS rfl rfl rfl rfl rfl rfl ?_) 
    refine pu rfl rfl rfl rfl rfl ?_
    exact tr_ret ⟨trivial, _, _, (.cell rfl (cellS rfl) (.tmp rfl .nil)), ⟨rfl, rfl⟩, CSub.nil _, trivial⟩
  · try simp only [zb1, zb2, zb3, zb4, zb5, zb6, zb7, zb8, zb9, zb10] at h2
    omega --done

theorem cyc_NewL_ent : Enters Try.prog 26 := enters_of Try.func26 (by kernel_rfl) (by kernel_rfl)
theorem cyc_NewL (p m : Int) (A : Option Addr) (c : Nat) (mod : List Int) [hF : IsF p m mod] (n : Int) (hb : n < 1 ∨ n > 64) (Al : Option Addr) (nl cl : Nat) (l : List Int) (hnl : nl = l.length) (hl : l.length ≤ 100000) :
    Pure Try.prog 26 #[.agg #[.int .i64 p, .int .i64 m, .slice A mod.length c], .int .i64 n, .slice Al nl cl] [ro A (ints mod), ro Al (ints l)] (isV (.tuple #[.agg #[.int .i64 0, .int .i64 0, .slice none 0 0, .int .i64 0, .slice none 0 0], .int .i64 4])) := by
  refine pure_ofC (args := [.agg #[.int .i64 p, .int .i64 m, .slice A mod.length c], .int .i64 n, .slice Al nl cl]) 77 Try.func26 rfl rfl rfl cyc_NewL_ent ⟨id, id, trivial⟩ (fun w0 => ?_)
  refine tr_seq ?_
  refine tr_region fun _ _ _ => ?_
  refine ef rfl rfl (eBox rfl rfl rfl rfl rfl (fun p0 => ?_)) 
  refine ef rfl rfl (eAlloc rfl rfl rfl (fun p0a => ?_)) 
  refine pu rfl rfl rfl rfl rfl ?_
  refine tr_seq ?_
  refine tr_region fun _ _ _ => ?_
  refine st rfl rfl rfl rfl (rLdS rfl rfl rfl) ?_
  refine ef rfl rfl (eCall1 rfl rfl rfl (fld_New_ok _ _ _ _ _ (by have := hF.short; omega) hF.out) ⟨rfl, trivial⟩ ?_) 
  rintro _ _ ⟨g, rfl, rfl, hg⟩
  iterate 5 refine pu rfl rfl rfl rfl rfl ?_
  refine tr_seq ?_
  refine tr_seq ?_
  refine tr_region fun _ _ _ => ?_
  iterate 2 refine pu rfl rfl rfl rfl rfl ?_
  refine tr_cond_bool rfl (fun h2 => ?_) (fun h2 => ?_)
  · try simp only [zb1, zb2, zb3, zb4, zb5, zb6, zb7, zb8, zb9, zb10] at h2
    first | exact absurd trivial h2 | exact absurd rfl h2 | omega --done
  · try simp only [zb1, zb2, zb3, zb4, zb5, zb6, zb7, zb8, zb9, zb10] at h2
    refine tr_skip ?_
    refine tr_seq ?_
    refine tr_seq ?_
    refine tr_region fun _ _ _ => ?_
    iterate 3 refine pu rfl rfl rfl rfl rfl ?_
    refine stg rfl rfl rfl rfl rfl (fun hb => by (have hq := hb; try simp only [zb1, zb2, zb3, zb4, zb5, zb6, zb7, zb8, zb9, zb10] at hq); exact rMove rfl rfl) ?_
    refine stg rfl rfl rfl rfl rfl (fun hb => by (have hq := hb; try simp only [zb1, zb2, zb3, zb4, zb5, zb6, zb7, zb8, zb9, zb10] at hq); exact rGtr rfl (evg rfl hb) rfl) ?_
    refine st rfl rfl rfl rfl (rOrB rfl rfl rfl rfl) ?_
    refine tr_cond_bool rfl (fun h4 => ?_) (fun h4 => ?_)
    · try simp only [zb1, zb2, zb3, zb4, zb5, zb6, zb7, zb8, zb9, zb10] at h4
      refine tr_seq ?_
      refine tr_region fun _ _ _ => ?_
      refine st rfl rfl rfl rfl (rBuild rfl rfl) ?_
      refine ef rfl rfl (eStS rfl rfl rfl rfl rfl rfl ?_) 
      refine pu rfl rfl rfl rfl rfl ?_
      exact tr_ret ⟨trivial, _, _, (.cell rfl (cellS rfl) (.tmp rfl .nil)), ⟨rfl, rfl⟩, CSub.nil _, trivial⟩
    · try simp only [zb1, zb2, zb3, zb4, zb5, zb6, zb7, zb8, zb9, zb10] at h4
      omega --done

theorem cyc_NewE_ent : Enters Try.prog 26 := enters_of Try.func26 (by kernel_rfl) (by kernel_rfl)
theorem cyc_NewE (p m : Int) (A : Option Addr) (c : Nat) (mod : List Int) [hF : IsF p m mod] (n : Int) (hn1 : 1 ≤ n) (hn9 : n ≤ 64) (Al : Option Addr) (nl cl : Nat) (l : List Int) (hnl : nl = l.length) (hl : l.length ≤ 100000) (hE : ¬ AllIn (pw p m) l) :
    Pure Try.prog 26 #[.agg #[.int .i64 p, .int .i64 m, .slice A mod.length c], .int .i64 n, .slice Al nl cl] [ro A (ints mod), ro Al (ints l)] (isV (.tuple #[.agg #[.int .i64 0, .int .i64 0, .slice none 0 0, .int .i64 0, .slice none 0 0], .int .i64 2])) := by
  refine pure_ofC (args := [.agg #[.int .i64 p, .int .i64 m, .slice A mod.length c], .int .i64 n, .slice Al nl cl]) 77 Try.func26 rfl rfl rfl cyc_NewE_ent ⟨id, id, trivial⟩ (fun w0 => ?_)
  refine tr_seq ?_
  refine tr_region fun _ _ _ => ?_
  refine ef rfl rfl (eBox rfl rfl rfl rfl rfl (fun p0 => ?_)) 
  refine ef rfl rfl (eAlloc rfl rfl rfl (fun p0a => ?_)) 
  refine pu rfl rfl rfl rfl rfl ?_
  refine tr_seq ?_
  refine tr_region fun _ _ _ => ?_
  refine st rfl rfl rfl rfl (rLdS rfl rfl rfl) ?_
  refine ef rfl rfl (eCall1 rfl rfl rfl (fld_New_ok _ _ _ _ _ (by have := hF.short; omega) hF.out) ⟨rfl, trivial⟩ ?_) 
  rintro _ _ ⟨g, rfl, rfl, hg⟩
  iterate 5 refine pu rfl rfl rfl rfl rfl ?_
  refine tr_seq ?_
  refine tr_seq ?_
  refine tr_region fun _ _ _ => ?_
  iterate 2 refine pu rfl rfl rfl rfl rfl ?_
  refine tr_cond_bool rfl (fun h2 => ?_) (fun h2 => ?_)
  · try simp only [zb1, zb2, zb3, zb4, zb5, zb6, zb7, zb8, zb9, zb10] at h2
    first | exact absurd trivial h2 | exact absurd rfl h2 | omega --done
  · try simp only [zb1, zb2, zb3, zb4, zb5, zb6, zb7, zb8, zb9, zb10] at h2
    refine tr_skip ?_
    refine tr_seq ?_
    refine tr_seq ?_
    refine tr_region fun _ _ _ => ?_
    iterate 3 refine pu rfl rfl rfl rfl rfl ?_
    refine stg rfl rfl rfl rfl rfl (fun hb => by (have hq := hb; try simp only [zb1, zb2, zb3, zb4, zb5, zb6, zb7, zb8, zb9, zb10] at hq); exact rMove rfl rfl) ?_
    refine stg rfl rfl rfl rfl rfl (fun hb => by (have hq := hb; try simp only [zb1, zb2, zb3, zb4, zb5, zb6, zb7, zb8, zb9, zb10] at hq); exact rGtr rfl (evg rfl hb) rfl) ?_
    refine st rfl rfl rfl rfl (rOrB rfl rfl rfl rfl) ?_
    refine tr_cond_bool rfl (fun h4 => ?_) (fun h4 => ?_)
    · try simp only [zb1, zb2, zb3, zb4, zb5, zb6, zb7, zb8, zb9, zb10] at h4
      omega --done
    · try simp only [zb1, zb2, zb3, zb4, zb5, zb6, zb7, zb8, zb9, zb10] at h4
      refine tr_skip ?_
      refine tr_seq ?_
      refine tr_seq ?_
      refine tr_region fun _ _ _ => ?_
      refine pu rfl rfl rfl rfl rfl ?_
      refine st rfl rfl rfl rfl (rLen rfl rfl) ?_
      refine pu rfl rfl rfl rfl rfl ?_
      refine tr_block ?_
      refine tr_loop1 (fun (k : Int) => [(34, .int .i64 k), (1, .int .i64 n), (2, .slice Al nl cl), (3, .pointer (some p0)), (6, .pointer (some p0a)), (8, .pointer (some g.p)), (32, .slice Al nl cl), (33, .int .i64 nl)]) (fun (k : Int) => [gfN g, blk p0 36 [.int .i64 p, .int .i64 m, .slice A mod.length c], blk p0a 43 [.int .i64 0, .int .i64 0, .slice none 0 0, .int .i64 0, .slice none 0 0], ro A (ints mod), ro Al (ints l)]) (fun (k : Int) => (0 ≤ k ∧ k ≤ nl) ∧ ∀ j : Nat, (j : Int) < k → 0 ≤ l.getD j 0 ∧ l.getD j 0 < pw p m) (fun (k : Int) => (nl - k).toNat) (0) ⟨rfl, rfl, rfl, rfl, rfl, rfl, rfl, rfl, trivial⟩ (by first | exact cs _ _ | exact CSub.refl _) (⟨⟨by omega, by omega⟩, fun j hj => by omega⟩) (fun k hI => ?_)
      obtain ⟨⟨hk0, hk1⟩, hall⟩ := hI
      have heq := hg.eq
      refine tr_seq ?_
      refine tr_region fun _ _ _ => ?_
      refine pu rfl rfl rfl rfl rfl ?_
      refine tr_seq ?_
      refine tr_cond_bool rfl (fun h7 => ?_) (fun h7 => ?_)
      · try simp only [zb1, zb2, zb3, zb4, zb5, zb6, zb7, zb8, zb9, zb10] at h7
        refine tr_skip ?_
        refine tr_seq ?_
        refine tr_block ?_
        refine tr_seq ?_
        refine tr_region fun _ _ _ => ?_
        refine st rfl rfl rfl rfl (rIdxI rfl rfl rfl (by omega) (by omega) (by omega)) ?_
        refine st rfl rfl rfl rfl (rLdI rfl rfl (by omega)) ?_
        refine pu rfl rfl rfl rfl rfl ?_
        refine tr_seq ?_
        refine tr_region fun _ _ _ => ?_
        iterate 2 refine pu rfl rfl rfl rfl rfl ?_
        refine ef rfl rfl (eCallV rfl rfl rfl (gf_Is g _) ⟨rfl, rfl, trivial⟩ ?_) 
        refine st rfl rfl rfl rfl (rNotB rfl rfl) ?_
        refine tr_cond_bool rfl (fun h9 => ?_) (fun h9 => ?_)
        · try simp only [zb1, zb2, zb3, zb4, zb5, zb6, zb7, zb8, zb9, zb10] at h9
          refine tr_seq ?_
          refine tr_region fun _ _ _ => ?_
          refine st rfl rfl rfl rfl (rBuild rfl rfl) ?_
          refine ef rfl rfl (eStS rfl rfl rfl rfl rfl rfl ?_) 
          refine pu rfl rfl rfl rfl rfl ?_
          exact tr_ret ⟨trivial, _, _, (.cell rfl (cellS rfl) (.tmp rfl .nil)), ⟨rfl, rfl⟩, CSub.nil _, trivial⟩
        · try simp only [zb1, zb2, zb3, zb4, zb5, zb6, zb7, zb8, zb9, zb10] at h9
          refine tr_skip ?_
          refine tr_region fun _ _ _ => ?_
          refine st rfl rfl rfl rfl (rAdd rfl rfl rfl (by omega) (by omega)) ?_
          refine pu rfl rfl rfl rfl rfl ?_
          refine ⟨k + 1, ⟨rfl, rfl, rfl, rfl, rfl, rfl, rfl, rfl, trivial⟩, by first | exact cs _ _ | exact CSub.refl _, ?_⟩
          refine ⟨⟨⟨by omega, by omega⟩, fun j hj => ?_⟩, by omega⟩
          by_cases he : (j : Int) = k
          · have : j = k.toNat := by omega
            subst this; omega
          · exact hall j (by omega)
      · try simp only [zb1, zb2, zb3, zb4, zb5, zb6, zb7, zb8, zb9, zb10] at h7
        exact absurd (allIn_of_get fun j hj => hall j (by omega)) hE --done

theorem cyc_New_ent : Enters Try.prog 26 := enters_of Try.func26 (by kernel_rfl) (by kernel_rfl)
theorem cyc_New (p m : Int) (A : Option Addr) (c : Nat) (mod : List Int) [hF : IsF p m mod] (n : Int) (hn1 : 1 ≤ n) (hn9 : n ≤ 64) (Al : Option Addr) (nl cl : Nat) (l : List Int) (hnl : nl = l.length) (hl : l.length ≤ 100000) (hin : AllIn (pw p m) l) :
    Pure Try.prog 26 #[.agg #[.int .i64 p, .int .i64 m, .slice A mod.length c], .int .i64 n, .slice Al nl cl] [ro A (ints mod), ro Al (ints l)] (three (fun v ca cb cc => ∃ Bm cm B r3, v = .tuple #[.agg #[.int .i64 p, .int .i64 m, .slice Bm mod.length cm, .int .i64 n, .slice B r3.length r3.length], .int .i64 0] ∧ ca = ow Bm 3 cm (ints mod) ∧ cb = rx B (hdrs r3) ∧ cc = rowsCh 3 r3 ∧ CdOf p m mod n.toNat r3 (CyW n.toNat (Po.gcd (pol l : Po (El p m mod)) (xn1 n.toNat))))) := by
  have hq2 := hF.q2
  have hgl : (il (Po.gcd (pol l : Po (El p m mod)) (xn1 n.toNat))).length ≤ n.toNat + 1 := by
    rw [il_length]; have := Po.dvd_len (Po.gcd_is (pol l : Po (El p m mod)) (xn1 n.toNat)).right (xn1_ne (by omega)); rw [xn1_len (by omega)] at this; exact this
  have hg0 : 1 ≤ (il (Po.gcd (pol l : Po (El p m mod)) (xn1 n.toNat))).length := by
    rw [il_length]; exact Po.len_pos (Po.gcd_ne (.inr (xn1_ne (by omega))))
  have hgi := il_in (Po.gcd (pol l : Po (El p m mod)) (xn1 n.toNat))
  refine pure_ofC (args := [.agg #[.int .i64 p, .int .i64 m, .slice A mod.length c], .int .i64 n, .slice Al nl cl]) 77 Try.func26 rfl rfl rfl cyc_New_ent ⟨id, id, trivial⟩ (fun w0 => ?_)
  refine tr_seq ?_
  refine tr_region fun _ _ _ => ?_
  refine ef rfl rfl (eBox rfl rfl rfl rfl rfl (fun p0 => ?_)) 
  refine ef rfl rfl (eAlloc rfl rfl rfl (fun p0a => ?_)) 
  refine pu rfl rfl rfl rfl rfl ?_
  refine tr_seq ?_
  refine tr_region fun _ _ _ => ?_
  refine st rfl rfl rfl rfl (rLdS rfl rfl rfl) ?_
  refine ef rfl rfl (eCall1 rfl rfl rfl (fld_New_ok _ _ _ _ _ (by have := hF.short; omega) hF.out) ⟨rfl, trivial⟩ ?_) 
  rintro _ _ ⟨g, rfl, rfl, hg⟩
  iterate 5 refine pu rfl rfl rfl rfl rfl ?_
  refine tr_seq ?_
  refine tr_seq ?_
  refine tr_region fun _ _ _ => ?_
  iterate 2 refine pu rfl rfl rfl rfl rfl ?_
  refine tr_cond_bool rfl (fun h2 => ?_) (fun h2 => ?_)
  · try simp only [zb1, zb2, zb3, zb4, zb5, zb6, zb7, zb8, zb9, zb10] at h2
    first | exact absurd trivial h2 | exact absurd rfl h2 | omega --done
  · try simp only [zb1, zb2, zb3, zb4, zb5, zb6, zb7, zb8, zb9, zb10] at h2
    refine tr_skip ?_
    refine tr_seq ?_
    refine tr_seq ?_
    refine tr_region fun _ _ _ => ?_
    iterate 3 refine pu rfl rfl rfl rfl rfl ?_
    refine stg rfl rfl rfl rfl rfl (fun hb => by (have hq := hb; try simp only [zb1, zb2, zb3, zb4, zb5, zb6, zb7, zb8, zb9, zb10] at hq); exact rMove rfl rfl) ?_
    refine stg rfl rfl rfl rfl rfl (fun hb => by (have hq := hb; try simp only [zb1, zb2, zb3, zb4, zb5, zb6, zb7, zb8, zb9, zb10] at hq); exact rGtr rfl (evg rfl hb) rfl) ?_
    refine st rfl rfl rfl rfl (rOrB rfl rfl rfl rfl) ?_
    refine tr_cond_bool rfl (fun h4 => ?_) (fun h4 => ?_)
    · try simp only [zb1, zb2, zb3, zb4, zb5, zb6, zb7, zb8, zb9, zb10] at h4
      omega --done
    · try simp only [zb1, zb2, zb3, zb4, zb5, zb6, zb7, zb8, zb9, zb10] at h4
      refine tr_skip ?_
      refine tr_seq ?_
      refine tr_seq ?_
      refine tr_region fun _ _ _ => ?_
      refine pu rfl rfl rfl rfl rfl ?_
      refine st rfl rfl rfl rfl (rLen rfl rfl) ?_
      refine pu rfl rfl rfl rfl rfl ?_
      refine tr_block ?_
      refine tr_loop1 (fun (k : Int) => [(34, .int .i64 k), (1, .int .i64 n), (2, .slice Al nl cl), (3, .pointer (some p0)), (6, .pointer (some p0a)), (8, .pointer (some g.p)), (32, .slice Al nl cl), (33, .int .i64 nl)]) (fun (k : Int) => [gfN g, blk p0 36 [.int .i64 p, .int .i64 m, .slice A mod.length c], blk p0a 43 [.int .i64 0, .int .i64 0, .slice none 0 0, .int .i64 0, .slice none 0 0], ro A (ints mod), ro Al (ints l)]) (fun (k : Int) => 0 ≤ k ∧ k ≤ nl) (fun (k : Int) => (nl - k).toNat) (0) ⟨rfl, rfl, rfl, rfl, rfl, rfl, rfl, rfl, trivial⟩ (by first | exact cs _ _ | exact CSub.refl _) (by omega) (fun k hI => ?_)
      refine tr_seq ?_
      refine tr_region fun _ _ _ => ?_
      refine pu rfl rfl rfl rfl rfl ?_
      refine tr_seq ?_
      refine tr_cond_bool rfl (fun h7 => ?_) (fun h7 => ?_)
      · try simp only [zb1, zb2, zb3, zb4, zb5, zb6, zb7, zb8, zb9, zb10] at h7
        refine tr_skip ?_
        refine tr_seq ?_
        refine tr_block ?_
        refine tr_seq ?_
        refine tr_region fun _ _ _ => ?_
        refine st rfl rfl rfl rfl (rIdxI rfl rfl rfl (by omega) (by omega) (by omega)) ?_
        refine st rfl rfl rfl rfl (rLdI rfl rfl (by omega)) ?_
        refine pu rfl rfl rfl rfl rfl ?_
        refine tr_seq ?_
        refine tr_region fun _ _ _ => ?_
        iterate 2 refine pu rfl rfl rfl rfl rfl ?_
        refine ef rfl rfl (eCallV rfl rfl rfl (gf_Is g _) ⟨rfl, rfl, trivial⟩ ?_) 
        refine st rfl rfl rfl rfl (rNotB rfl rfl) ?_
        refine tr_cond_bool rfl (fun h9 => ?_) (fun h9 => ?_)
        · try simp only [zb1, zb2, zb3, zb4, zb5, zb6, zb7, zb8, zb9, zb10] at h9
          have hb := hin.get (by omega) k.toNat
          have heq := hg.eq
          rw [heq] at h9
          omega --done
        · try simp only [zb1, zb2, zb3, zb4, zb5, zb6, zb7, zb8, zb9, zb10] at h9
          refine tr_skip ?_
          refine tr_region fun _ _ _ => ?_
          refine st rfl rfl rfl rfl (rAdd rfl rfl rfl (by omega) (by omega)) ?_
          refine pu rfl rfl rfl rfl rfl ?_
          refine ⟨k + 1, ⟨rfl, rfl, rfl, rfl, rfl, rfl, rfl, rfl, trivial⟩, by first | exact cs _ _ | exact CSub.refl _, ?_⟩
          omega
      · try simp only [zb1, zb2, zb3, zb4, zb5, zb6, zb7, zb8, zb9, zb10] at h7
        refine tr_exit ?_
        refine tr_seq ?_
        refine tr_region fun _ _ _ => ?_
        iterate 4 refine pu rfl rfl rfl rfl rfl ?_
        refine ef rfl rfl (eCall1 rfl rfl rfl (cyc_around g hg n hn1 (by omega)) ⟨rfl, rfl, trivial⟩ ?_) 
        rintro _ _ ⟨B12, rfl, rfl⟩
        refine ef rfl rfl (eCall1 rfl rfl rfl (poly_Gcd g hg _ _ _ l hnl (by omega) B12 _ _ (aroundL p m mod n.toNat) rfl (by rw [around_length]; omega) (.inr (by rw [pol_around (by omega)]; exact xn1_ne (by omega)))) ⟨rfl, rfl, rfl, trivial⟩ ?_) 
        rintro _ _ ⟨Bg, cg, rfl, rfl⟩
        refine pu rfl rfl rfl rfl rfl ?_
        simp only [pol_around (p := p) (m := m) (mod := mod) (show 1 ≤ n.toNat by omega)]
        generalize hgen : (il (Po.gcd (pol l : Po (El p m mod)) (xn1 n.toNat))) = gen at *
        refine tr_seq ?_
        refine tr_region fun _ _ _ => ?_
        refine pu rfl rfl rfl rfl rfl ?_
        refine tr_seq ?_
        refine tr_seq ?_
        refine tr_region fun _ _ _ => ?_
        refine pu rfl rfl rfl rfl rfl ?_
        refine st rfl rfl rfl rfl (rAdd rfl rfl rfl (by omega) (by omega)) ?_
        refine pu rfl rfl rfl rfl rfl ?_
        refine st rfl rfl rfl rfl (rLen rfl rfl) ?_
        refine st rfl rfl rfl rfl (rSub rfl rfl rfl (by omega) (by omega)) ?_
        refine pu rfl rfl rfl rfl rfl ?_
        refine tr_block ?_
        refine tr_nilR 22 3 ?_
        refine tr_loop4 (fun (k : Int) (AQ : Option Addr) (cq : Nat) (qs : List RowM) => [(12, .slice Bg gen.length cg), (13, .slice AQ qs.length cq), (54, .int .i64 (n + 1 - gen.length)), (55, .int .i64 k), (1, .int .i64 n), (3, .pointer (some p0)), (6, .pointer (some p0a))]) (fun (k : Int) (AQ : Option Addr) (cq : Nat) (qs : List RowM) => [ow AQ 22 cq (hdrs qs), rowsCh 3 qs, ow Bg 3 cg (ints gen), gfN g, blk p0 36 [.int .i64 p, .int .i64 m, .slice A mod.length c], blk p0a 43 [.int .i64 0, .int .i64 0, .slice none 0 0, .int .i64 0, .slice none 0 0], ro A (ints mod), ro Al (ints l)]) (fun (k : Int) (AQ : Option Addr) (cq : Nat) (qs : List RowM) => (0 ≤ k ∧ k ≤ n + 1 - gen.length) ∧ xss qs = (List.range k.toNat).map (shR n.toNat gen)) (fun (k : Int) (AQ : Option Addr) (cq : Nat) (qs : List RowM) => (n + 1 - gen.length - k).toNat) (0) (none) (0) ([]) ⟨rfl, rfl, rfl, rfl, rfl, rfl, rfl, trivial⟩ (by first | exact cs _ _ | exact CSub.refl _) (⟨⟨by omega, by omega⟩, rfl⟩) (fun k AQ cq qs hI => ?_)
        obtain ⟨⟨hk0, hk1⟩, hqs⟩ := hI
        have hql : qs.length = k.toNat := by have := congrArg List.length hqs; simpa using this
        refine tr_seq ?_
        refine tr_region fun _ _ _ => ?_
        refine pu rfl rfl rfl rfl rfl ?_
        refine tr_seq ?_
        refine tr_cond_bool rfl (fun h15 => ?_) (fun h15 => ?_)
        · try simp only [zb1, zb2, zb3, zb4, zb5, zb6, zb7, zb8, zb9, zb10] at h15
          refine tr_skip ?_
          refine tr_seq ?_
          refine tr_block ?_
          refine tr_seq ?_
          refine tr_region fun _ _ _ => ?_
          iterate 2 refine pu rfl rfl rfl rfl rfl ?_
          refine tr_seq ?_
          refine tr_region fun _ _ _ => ?_
          refine pu rfl rfl rfl rfl rfl ?_
          refine ef rfl rfl (eMakeI rfl rfl rfl rfl rfl (by omega) (by omega) (by omega) (fun A17 => ?_)) 
          refine pu rfl rfl rfl rfl rfl ?_
          refine tr_seq ?_
          refine tr_region fun _ _ _ => ?_
          iterate 2 refine pu rfl rfl rfl rfl rfl ?_
          refine st rfl rfl rfl rfl (rCut rfl rfl rfl (by omega) (by omega) (by omega)) ?_
          refine pu rfl rfl rfl rfl rfl ?_
          refine ef rfl rfl (eCopyI rfl rfl rfl rfl rfl rfl (by first | omega | (simp; omega)) (by first | omega | (simp; omega)) ?_) 
          rw [shR_def]
          refine tr_region fun _ _ _ => ?_
          iterate 2 refine pu rfl rfl rfl rfl rfl ?_
          refine ef rfl rfl (eLit1 rfl rfl rfl rfl rfl (fun A19 => ?_)) 
          refine ef rfl rfl (eAppRn (shR n.toNat gen k.toNat) (shR_length (by omega)).symm rfl rfl rfl rfl rfl (by first | rfl | simp) (by omega) (fun A19a c19a => ?_)) 
          refine pu rfl rfl rfl rfl rfl ?_
          refine tr_region fun _ _ _ => ?_
          refine st rfl rfl rfl rfl (rAdd rfl rfl rfl (by omega) (by omega)) ?_
          refine pu rfl rfl rfl rfl rfl ?_
          refine ⟨k + 1, A19a, c19a, qs ++ [⟨A17, n.toNat, shR n.toNat gen k.toNat⟩], ⟨rfl, rfl, rfl, rfl, rfl, rfl, rfl, trivial⟩, by exact rows_app, ?_⟩
          refine ⟨⟨⟨by omega, by omega⟩, ?_⟩, by omega⟩
          rw [xss_snoc, hqs, show (k + 1).toNat = k.toNat + 1 by omega, List.range_succ, List.map_append]
          rfl
        · try simp only [zb1, zb2, zb3, zb4, zb5, zb6, zb7, zb8, zb9, zb10] at h15
          refine tr_exit ?_
          refine tr_seq ?_
          have hke : k = n + 1 - gen.length := by omega
          have hgdq : Gd (pw p m) n.toNat qs := by
            refine (Gd_iff (by omega)).2 ⟨fun r hr => ?_, fun r hr => ?_⟩
            · rw [hqs] at hr
              obtain ⟨j, hj, rfl⟩ := List.mem_map.1 hr
              rw [List.mem_range] at hj
              rw [shR_length (by omega)]; omega
            · rw [hqs] at hr
              obtain ⟨j, hj, rfl⟩ := List.mem_map.1 hr
              rw [List.mem_range] at hj
              exact shR_in (by omega) (by omega) hgi
          refine tr_region fun _ _ _ => ?_
          refine st rfl rfl rfl rfl (rLdS rfl rfl rfl) ?_
          iterate 2 refine pu rfl rfl rfl rfl rfl ?_
          refine st rfl rfl rfl rfl (rBuild rfl rfl) ?_
          refine ef rfl rfl (eCall3 rfl rfl rfl (code_New _ _ _ _ _ n AQ _ cq qs rfl (by omega) hn1 hn9 hgdq) ⟨rfl, rfl, trivial⟩ ?_) 
          rintro _ _ _ _ ⟨Bm, cm, B, r3, rfl, rfl, rfl, rfl, hC⟩
          iterate 2 refine pu rfl rfl rfl rfl rfl ?_
          refine ef rfl rfl (eStS rfl rfl rfl rfl rfl rfl ?_) 
          refine pu rfl rfl rfl rfl rfl ?_
          have hW : ∀ u, Vc.SpL (vsR qs : List (Vc (El p m mod))) u ↔ CyW n.toNat (Po.gcd (pol l : Po (El p m mod)) (xn1 n.toNat)) u := by
            have hlen : Po.len (Po.gcd (pol l : Po (El p m mod)) (xn1 n.toNat)) = (gen.length - 1) + 1 := by rw [← il_length, hgen]; omega
            refine span_shifts hlen (by omega) (by rw [vsR_length, hql]; omega) fun i hi j => ?_
            rw [vsR_get, ← xss_getD, hqs, List.getD_eq_getElem?_getD, List.getElem?_map, List.getElem?_range (by omega)]
            rw [← hgen]
            exact shR_cf (by rw [hgen]; omega) j
          exact tr_ret ⟨trivial, _, _, (.cell rfl (cellS rfl) (.tmp rfl .nil)), ⟨_, _, _, rfl, Bm, cm, B, r3, rfl, rfl, rfl, rfl, hC.iff hW⟩, cs _ _, trivial, trivial, trivial, trivial⟩

noncomputable def argsC (p m : Int) (mod : List Int) (n : Int) : Int := if chkF p m mod ≠ 0 then chkF p m mod else if n < 1 ∨ n > 64 then 4 else 0
theorem argsC_no {p m : Int} {mod : List Int} (n : Int) (h : ¬ FldR p m mod) : argsC p m mod n = 1 := by
  have h1 : chkF p m mod = 1 := (chkF_cases p m mod).elim (fun k => absurd k.1 h) (·.2)
  rw [argsC, if_pos (by omega), h1]
theorem chkF_zero {p m : Int} {mod : List Int} (h : FldR p m mod) : chkF p m mod = 0 := (chkF_cases p m mod).elim (·.2) (fun k => absurd h k.1)
theorem argsC_ln {p m : Int} {mod : List Int} {n : Int} (h : FldR p m mod) (hn : n < 1 ∨ n > 64) : argsC p m mod n = 4 := by rw [argsC, if_neg (by rw [chkF_zero h]; simp), if_pos hn]
theorem argsC_ok {p m : Int} {mod : List Int} {n : Int} (h : FldR p m mod) (h1 : 1 ≤ n) (h2 : n ≤ 64) : argsC p m mod n = 0 := by rw [argsC, if_neg (by rw [chkF_zero h]; simp), if_neg (by omega)]
theorem argsC_zero {p m : Int} {mod : List Int} {n : Int} (h : argsC p m mod n = 0) : FldR p m mod ∧ 1 ≤ n ∧ n ≤ 64 := by
  by_cases hF : FldR p m mod
  · by_cases hn : n < 1 ∨ n > 64
    · rw [argsC_ln hF hn] at h; omega
    · exact ⟨hF, by omega, by omega⟩
  · rw [argsC_no n hF] at h; omega

theorem ref_Args_ent : Enters Try.prog 29 := enters_of Try.func29 (by kernel_rfl) (by kernel_rfl)
theorem ref_Args (p m : Int) (A : Option Addr) (c : Nat) (mod : List Int) (hl9 : mod.length ≤ 17592186044415) (n : Int) :
    Pure Try.prog 29 #[.agg #[.int .i64 p, .int .i64 m, .slice A mod.length c], .int .i64 n] [ro A (ints mod)] (isV (.int .i64 (argsC p m mod n))) := by
  refine pure_of (args := [.agg #[.int .i64 p, .int .i64 m, .slice A mod.length c], .int .i64 n]) 19 Try.func29 rfl rfl rfl ref_Args_ent ⟨id, trivial⟩ (fun w0 => ?_)
  refine tr_seq ?_
  refine tr_region fun _ _ _ => ?_
  refine ef rfl rfl (eBox rfl rfl rfl rfl rfl (fun p0 => ?_)) 
  refine pu rfl rfl rfl rfl rfl ?_
  refine tr_seq ?_
  refine tr_region fun _ _ _ => ?_
  refine st rfl rfl rfl rfl (rLdS rfl rfl rfl) ?_
  refine ef rfl rfl (eCallV rfl rfl rfl (ref_fldCheck _ _ _ _ _ hl9) ⟨rfl, trivial⟩ ?_) 
  refine pu rfl rfl rfl rfl rfl ?_
  refine tr_seq ?_
  refine tr_seq ?_
  refine tr_region fun _ _ _ => ?_
  iterate 3 refine pu rfl rfl rfl rfl rfl ?_
  refine stg rfl rfl rfl rfl rfl (fun hb => by (have hq := hb; try simp only [zb1, zb2, zb3, zb4, zb5, zb6, zb7, zb8, zb9, zb10] at hq); exact rMove rfl rfl) ?_
  refine stg rfl rfl rfl rfl rfl (fun hb => by (have hq := hb; try simp only [zb1, zb2, zb3, zb4, zb5, zb6, zb7, zb8, zb9, zb10] at hq); exact rLss rfl (evg rfl hb) rfl) ?_
  refine stg rfl rfl rfl rfl rfl (fun hb => by (have hq := hb; try simp only [zb1, zb2, zb3, zb4, zb5, zb6, zb7, zb8, zb9, zb10] at hq); exact rMove rfl (evg rfl hb)) ?_
  refine stg2 rfl rfl rfl rfl rfl (fun hb => by (have hq := hb; try simp only [zb1, zb2, zb3, zb4, zb5, zb6, zb7, zb8, zb9, zb10] at hq); exact rMove rfl rfl) ?_
  refine stg2 rfl rfl rfl rfl rfl (fun hb => by (have hq := hb; try simp only [zb1, zb2, zb3, zb4, zb5, zb6, zb7, zb8, zb9, zb10] at hq); exact rGtr rfl (evg rfl hb) rfl) ?_
  refine stg rfl rfl rfl rfl rfl (fun hb => by (have hq := hb; try simp only [zb1, zb2, zb3, zb4, zb5, zb6, zb7, zb8, zb9, zb10] at hq); exact rOrB rfl (evg rfl hb) rfl (evgp rfl hb)) ?_
  refine st rfl rfl rfl rfl (rAndB rfl rfl rfl rfl) ?_
  refine tr_cond_bool rfl (fun h2 => ?_) (fun h2 => ?_)
  · try simp only [zb1, zb2, zb3, zb4, zb5, zb6, zb7, zb8, zb9, zb10] at h2
    refine tr_seq ?_
    refine tr_region fun _ _ _ => ?_
    refine pu rfl rfl rfl rfl rfl ?_
    exact tr_ret ⟨trivial, _, _, rfl, ⟨by rw [argsC, if_neg (by omega), if_pos (by omega)], rfl⟩, CSub.nil _, trivial⟩
  · try simp only [zb1, zb2, zb3, zb4, zb5, zb6, zb7, zb8, zb9, zb10] at h2
    refine tr_skip ?_
    refine tr_seq ?_
    refine tr_region fun _ _ _ => ?_
    iterate 2 refine pu rfl rfl rfl rfl rfl ?_
    exact tr_ret ⟨trivial, _, _, rfl, ⟨by
        rw [argsC]
        split
        · rfl
        · rw [if_neg (by omega)]; congr 1; omega, rfl⟩, CSub.nil _, trivial⟩




end Go.Proofs.Ytjmojhflnjbgaaa

set_option linter.unusedSimpArgs false
set_option linter.unusedVariables false
set_option maxRecDepth 100000
namespace Go.Proofs.Ytjmojhflnjbgaaa
open Go.RowKit











noncomputable def spcC (p m : Int) (mod : List Int) [hF : IsF p m mod] (w : Int) (rs : List RowM) : Int := open Classical in if rowsC (pw p m) w (xss rs) ≠ 0 then rowsC (pw p m) w (xss rs) else if formP p m mod w.toNat rs then 0 else 5






theorem code_lengthNo (n : Int) (h : n < 1 ∨ n > 64) : Pure Try.prog 131 #[.int .i64 n] [] (isV (.int .i64 4)) := by
  have := code_length n
  rwa [if_pos h] at this







theorem ref_SCheckE_ent : Enters Try.prog 105 := enters_of Try.func105 (by kernel_rfl) (by kernel_rfl)
theorem ref_SCheckE (p m : Int) (A : Option Addr) (c : Nat) (mod : List Int) (hl9 : mod.length ≤ 17592186044415) [hF : IsF p m mod] (w : Int) (Aa : Option Addr) (n ca : Nat) (rs : List RowM) (hn : n = rs.length) (h9 : rs.length ≤ 17592186044415) (h8 : ∀ r ∈ rs, r.xs.length ≤ 17592186044415) (hE : rowsC (pw p m) w (xss rs) ≠ 0) :
    Pure Try.prog 105 #[.agg #[.int .i64 p, .int .i64 m, .slice A mod.length c], .agg #[.int .i64 w, .slice Aa n ca]] [ro A (ints mod), ro Aa (hdrs rs), rowsR rs] (isV (.int .i64 (rowsC (pw p m) w (xss rs)))) := by
  refine pure_of (args := [.agg #[.int .i64 p, .int .i64 m, .slice A mod.length c], .agg #[.int .i64 w, .slice Aa n ca]]) 28 Try.func105 rfl rfl rfl ref_SCheckE_ent ⟨id, id, id, trivial⟩ (fun w0 => ?_)
  refine tr_seq ?_
  refine tr_region fun _ _ _ => ?_
  refine ef rfl rfl (eBox rfl rfl rfl rfl rfl (fun p0 => ?_)) 
  refine ef rfl rfl (eBox rfl rfl rfl rfl rfl (fun p0a => ?_)) 
  refine pu rfl rfl rfl rfl rfl ?_
  refine tr_seq ?_
  refine tr_region fun _ _ _ => ?_
  refine st rfl rfl rfl rfl (rLdS rfl rfl rfl) ?_
  refine st rfl rfl rfl rfl (rLdS rfl rfl rfl) ?_
  refine ef rfl rfl (eCallV rfl rfl rfl (ref_RCheckOk _ _ _ _ _ hl9 hF.out (pw p m) hF.ord w Aa _ ca rs hn h9 h8) ⟨rfl, rfl, trivial⟩ ?_) 
  refine pu rfl rfl rfl rfl rfl ?_
  refine tr_seq ?_
  refine tr_seq ?_
  refine tr_region fun _ _ _ => ?_
  iterate 2 refine pu rfl rfl rfl rfl rfl ?_
  refine tr_cond_bool rfl (fun h2 => ?_) (fun h2 => ?_)
  · try simp only [zb1, zb2, zb3, zb4, zb5, zb6, zb7, zb8, zb9, zb10] at h2
    refine tr_seq ?_
    refine tr_region fun _ _ _ => ?_
    iterate 2 refine pu rfl rfl rfl rfl rfl ?_
    exact tr_ret ⟨trivial, _, _, rfl, ⟨rfl, rfl⟩, CSub.nil _, trivial⟩
  · try simp only [zb1, zb2, zb3, zb4, zb5, zb6, zb7, zb8, zb9, zb10] at h2
    omega --done

theorem ref_SCheckF_ent : Enters Try.prog 105 := enters_of Try.func105 (by kernel_rfl) (by kernel_rfl)
theorem ref_SCheckF (p m : Int) (A : Option Addr) (c : Nat) (mod : List Int) (hl9 : mod.length ≤ 17592186044415) [hF : IsF p m mod] (w : Int) (Aa : Option Addr) (n ca : Nat) (rs : List RowM) (hn : n = rs.length) (h9 : rs.length ≤ 17592186044415) (h8 : ∀ r ∈ rs, r.xs.length ≤ 17592186044415) (hE : rowsC (pw p m) w (xss rs) = 0) (hf : ¬ formP p m mod w.toNat rs) :
    Pure Try.prog 105 #[.agg #[.int .i64 p, .int .i64 m, .slice A mod.length c], .agg #[.int .i64 w, .slice Aa n ca]] [ro A (ints mod), ro Aa (hdrs rs), rowsR rs] (isV (.int .i64 5)) := by
  obtain ⟨hgd, hw0, hw9, hr9⟩ := rowsC_Gd (p := p) (m := m) hE
  refine pure_of (args := [.agg #[.int .i64 p, .int .i64 m, .slice A mod.length c], .agg #[.int .i64 w, .slice Aa n ca]]) 28 Try.func105 rfl rfl rfl ref_SCheckF_ent ⟨id, id, id, trivial⟩ (fun w0 => ?_)
  refine tr_seq ?_
  refine tr_region fun _ _ _ => ?_
  refine ef rfl rfl (eBox rfl rfl rfl rfl rfl (fun p0 => ?_)) 
  refine ef rfl rfl (eBox rfl rfl rfl rfl rfl (fun p0a => ?_)) 
  refine pu rfl rfl rfl rfl rfl ?_
  refine tr_seq ?_
  refine tr_region fun _ _ _ => ?_
  refine st rfl rfl rfl rfl (rLdS rfl rfl rfl) ?_
  refine st rfl rfl rfl rfl (rLdS rfl rfl rfl) ?_
  refine ef rfl rfl (eCallV rfl rfl rfl (ref_RCheckOk _ _ _ _ _ hl9 hF.out (pw p m) hF.ord w Aa _ ca rs hn h9 h8) ⟨rfl, rfl, trivial⟩ ?_) 
  refine pu rfl rfl rfl rfl rfl ?_
  refine tr_seq ?_
  refine tr_seq ?_
  refine tr_region fun _ _ _ => ?_
  iterate 2 refine pu rfl rfl rfl rfl rfl ?_
  refine tr_cond_bool rfl (fun h2 => ?_) (fun h2 => ?_)
  · try simp only [zb1, zb2, zb3, zb4, zb5, zb6, zb7, zb8, zb9, zb10] at h2
    omega --done
  · try simp only [zb1, zb2, zb3, zb4, zb5, zb6, zb7, zb8, zb9, zb10] at h2
    refine tr_skip ?_
    refine tr_seq ?_
    refine tr_region fun _ _ _ => ?_
    refine st rfl rfl rfl rfl (rLdS rfl rfl rfl) ?_
    refine st rfl rfl rfl rfl (rFld rfl rfl) ?_
    refine st rfl rfl rfl rfl (rLdF rfl rfl rfl) ?_
    refine st rfl rfl rfl rfl (rFld rfl rfl) ?_
    refine st rfl rfl rfl rfl (rLdF rfl rfl rfl) ?_
    refine ef rfl rfl (eCall3 rfl rfl rfl (ref_RCanon _ _ _ _ _ w hw0 (by omega) Aa _ ca rs hn (by omega) hgd) ⟨rfl, rfl, rfl, trivial⟩ ?_) 
    rintro _ _ _ _ ⟨r3, B, cg, Bp, cp, ps, rfl, rfl, rfl, rfl, hR, hk⟩
    iterate 5 refine pu rfl rfl rfl rfl rfl ?_
    refine tr_seq ?_
    refine tr_seq ?_
    refine tr_region fun _ _ _ => ?_
    refine pu rfl rfl rfl rfl rfl ?_
    refine st rfl rfl rfl rfl (rFld rfl rfl) ?_
    refine st rfl rfl rfl rfl (rLdF rfl rfl rfl) ?_
    refine ef rfl rfl (eCallV rfl rfl rfl (ref_SameRows _ _ _ r3 rfl _ _ _ rs hn (by omega) (hR.good.h8 (by omega))) ⟨rfl, rfl, trivial⟩ ?_) 
    refine st rfl rfl rfl rfl (rNotB rfl rfl) ?_
    refine tr_cond_bool rfl (fun h5 => ?_) (fun h5 => ?_)
    · try simp only [zb1, zb2, zb3, zb4, zb5, zb6, zb7, zb8, zb9, zb10] at h5
      refine tr_seq ?_
      refine tr_region fun _ _ _ => ?_
      refine pu rfl rfl rfl rfl rfl ?_
      exact tr_ret ⟨trivial, _, _, rfl, ⟨rfl, rfl⟩, CSub.nil _, trivial⟩
    · try simp only [zb1, zb2, zb3, zb4, zb5, zb6, zb7, zb8, zb9, zb10] at h5
      exact absurd ((hR.form_iff hgd).1 (by simpa [xss] using h5)) hf --done

theorem ref_SCheckG_ent : Enters Try.prog 105 := enters_of Try.func105 (by kernel_rfl) (by kernel_rfl)
theorem ref_SCheckG (p m : Int) (A : Option Addr) (c : Nat) (mod : List Int) (hl9 : mod.length ≤ 17592186044415) [hF : IsF p m mod] (w : Int) (Aa : Option Addr) (n ca : Nat) (rs : List RowM) (hn : n = rs.length) (h9 : rs.length ≤ 17592186044415) (h8 : ∀ r ∈ rs, r.xs.length ≤ 17592186044415) (hE : rowsC (pw p m) w (xss rs) = 0) (hf : formP p m mod w.toNat rs) :
    Pure Try.prog 105 #[.agg #[.int .i64 p, .int .i64 m, .slice A mod.length c], .agg #[.int .i64 w, .slice Aa n ca]] [ro A (ints mod), ro Aa (hdrs rs), rowsR rs] (isV (.int .i64 0)) := by
  obtain ⟨hgd, hw0, hw9, hr9⟩ := rowsC_Gd (p := p) (m := m) hE
  refine pure_of (args := [.agg #[.int .i64 p, .int .i64 m, .slice A mod.length c], .agg #[.int .i64 w, .slice Aa n ca]]) 28 Try.func105 rfl rfl rfl ref_SCheckG_ent ⟨id, id, id, trivial⟩ (fun w0 => ?_)
  refine tr_seq ?_
  refine tr_region fun _ _ _ => ?_
  refine ef rfl rfl (eBox rfl rfl rfl rfl rfl (fun p0 => ?_)) 
  refine ef rfl rfl (eBox rfl rfl rfl rfl rfl (fun p0a => ?_)) 
  refine pu rfl rfl rfl rfl rfl ?_
  refine tr_seq ?_
  refine tr_region fun _ _ _ => ?_
  refine st rfl rfl rfl rfl (rLdS rfl rfl rfl) ?_
  refine st rfl rfl rfl rfl (rLdS rfl rfl rfl) ?_
  refine ef rfl rfl (eCallV rfl rfl rfl (ref_RCheckOk _ _ _ _ _ hl9 hF.out (pw p m) hF.ord w Aa _ ca rs hn h9 h8) ⟨rfl, rfl, trivial⟩ ?_) 
  refine pu rfl rfl rfl rfl rfl ?_
  refine tr_seq ?_
  refine tr_seq ?_
  refine tr_region fun _ _ _ => ?_
  iterate 2 refine pu rfl rfl rfl rfl rfl ?_
  refine tr_cond_bool rfl (fun h2 => ?_) (fun h2 => ?_)
  · try simp only [zb1, zb2, zb3, zb4, zb5, zb6, zb7, zb8, zb9, zb10] at h2
    omega --done
  · try simp only [zb1, zb2, zb3, zb4, zb5, zb6, zb7, zb8, zb9, zb10] at h2
    refine tr_skip ?_
    refine tr_seq ?_
    refine tr_region fun _ _ _ => ?_
    refine st rfl rfl rfl rfl (rLdS rfl rfl rfl) ?_
    refine st rfl rfl rfl rfl (rFld rfl rfl) ?_
    refine st rfl rfl rfl rfl (rLdF rfl rfl rfl) ?_
    refine st rfl rfl rfl rfl (rFld rfl rfl) ?_
    refine st rfl rfl rfl rfl (rLdF rfl rfl rfl) ?_
    refine ef rfl rfl (eCall3 rfl rfl rfl (ref_RCanon _ _ _ _ _ w hw0 (by omega) Aa _ ca rs hn (by omega) hgd) ⟨rfl, rfl, rfl, trivial⟩ ?_) 
    rintro _ _ _ _ ⟨r3, B, cg, Bp, cp, ps, rfl, rfl, rfl, rfl, hR, hk⟩
    iterate 5 refine pu rfl rfl rfl rfl rfl ?_
    refine tr_seq ?_
    refine tr_seq ?_
    refine tr_region fun _ _ _ => ?_
    refine pu rfl rfl rfl rfl rfl ?_
    refine st rfl rfl rfl rfl (rFld rfl rfl) ?_
    refine st rfl rfl rfl rfl (rLdF rfl rfl rfl) ?_
    refine ef rfl rfl (eCallV rfl rfl rfl (ref_SameRows _ _ _ r3 rfl _ _ _ rs hn (by omega) (hR.good.h8 (by omega))) ⟨rfl, rfl, trivial⟩ ?_) 
    refine st rfl rfl rfl rfl (rNotB rfl rfl) ?_
    refine tr_cond_bool rfl (fun h5 => ?_) (fun h5 => ?_)
    · try simp only [zb1, zb2, zb3, zb4, zb5, zb6, zb7, zb8, zb9, zb10] at h5
      exact absurd ((hR.form_iff hgd).2 hf) (by simpa [xss] using h5) --done
    · try simp only [zb1, zb2, zb3, zb4, zb5, zb6, zb7, zb8, zb9, zb10] at h5
      refine tr_skip ?_
      refine tr_seq ?_
      refine tr_region fun _ _ _ => ?_
      refine pu rfl rfl rfl rfl rfl ?_
      exact tr_ret ⟨trivial, _, _, rfl, ⟨rfl, rfl⟩, CSub.nil _, trivial⟩

theorem ref_CCheckNo_ent : Enters Try.prog 50 := enters_of Try.func50 (by kernel_rfl) (by kernel_rfl)
theorem ref_CCheckNo (p m : Int) (A : Option Addr) (c : Nat) (mod : List Int) (hl9 : mod.length ≤ 17592186044415) (hF : ¬ FldR p m mod) (w : Int) (Aa : Option Addr) (n ca : Nat) (rs : List RowM) (hn : n = rs.length) (h9 : rs.length ≤ 17592186044415) (h8 : ∀ r ∈ rs, r.xs.length ≤ 17592186044415) :
    Pure Try.prog 50 #[.agg #[.int .i64 p, .int .i64 m, .slice A mod.length c, .int .i64 w, .slice Aa n ca]] [ro A (ints mod), ro Aa (hdrs rs), rowsR rs] (isV (.int .i64 1)) := by
  have hch := chkF_no hF
  refine pure_of (args := [.agg #[.int .i64 p, .int .i64 m, .slice A mod.length c, .int .i64 w, .slice Aa n ca]]) 26 Try.func50 rfl rfl rfl ref_CCheckNo_ent ⟨id, id, id, trivial⟩ (fun w0 => ?_)
  refine tr_seq ?_
  refine tr_region fun _ _ _ => ?_
  refine ef rfl rfl (eBox rfl rfl rfl rfl rfl (fun p0 => ?_)) 
  refine pu rfl rfl rfl rfl rfl ?_
  refine tr_seq ?_
  refine tr_region fun _ _ _ => ?_
  refine st rfl rfl rfl rfl (rFld rfl rfl) ?_
  refine st rfl rfl rfl rfl (rLdSF rfl rfl) ?_
  refine ef rfl rfl (eCallV rfl rfl rfl (ref_fldCheck _ _ _ _ _ hl9) ⟨rfl, trivial⟩ ?_) 
  refine pu rfl rfl rfl rfl rfl ?_
  refine tr_seq ?_
  refine tr_seq ?_
  refine tr_region fun _ _ _ => ?_
  iterate 2 refine pu rfl rfl rfl rfl rfl ?_
  refine tr_cond_bool rfl (fun h2 => ?_) (fun h2 => ?_)
  · try simp only [zb1, zb2, zb3, zb4, zb5, zb6, zb7, zb8, zb9, zb10] at h2
    refine tr_seq ?_
    refine tr_region fun _ _ _ => ?_
    iterate 2 refine pu rfl rfl rfl rfl rfl ?_
    exact tr_ret ⟨trivial, _, _, rfl, ⟨by rw [hch], rfl⟩, CSub.nil _, trivial⟩
  · try simp only [zb1, zb2, zb3, zb4, zb5, zb6, zb7, zb8, zb9, zb10] at h2
    omega --done

theorem ref_CCheckL_ent : Enters Try.prog 50 := enters_of Try.func50 (by kernel_rfl) (by kernel_rfl)
theorem ref_CCheckL (p m : Int) (A : Option Addr) (c : Nat) (mod : List Int) (hl9 : mod.length ≤ 17592186044415) [hF : IsF p m mod] (w : Int) (Aa : Option Addr) (n ca : Nat) (rs : List RowM) (hn : n = rs.length) (h9 : rs.length ≤ 17592186044415) (h8 : ∀ r ∈ rs, r.xs.length ≤ 17592186044415) (hb : w < 1 ∨ w > 64) :
    Pure Try.prog 50 #[.agg #[.int .i64 p, .int .i64 m, .slice A mod.length c, .int .i64 w, .slice Aa n ca]] [ro A (ints mod), ro Aa (hdrs rs), rowsR rs] (isV (.int .i64 4)) := by
  have hch := chkF_ok hF.out
  refine pure_of (args := [.agg #[.int .i64 p, .int .i64 m, .slice A mod.length c, .int .i64 w, .slice Aa n ca]]) 26 Try.func50 rfl rfl rfl ref_CCheckL_ent ⟨id, id, id, trivial⟩ (fun w0 => ?_)
  refine tr_seq ?_
  refine tr_region fun _ _ _ => ?_
  refine ef rfl rfl (eBox rfl rfl rfl rfl rfl (fun p0 => ?_)) 
  refine pu rfl rfl rfl rfl rfl ?_
  refine tr_seq ?_
  refine tr_region fun _ _ _ => ?_
  refine st rfl rfl rfl rfl (rFld rfl rfl) ?_
  refine st rfl rfl rfl rfl (rLdSF rfl rfl) ?_
  refine ef rfl rfl (eCallV rfl rfl rfl (ref_fldCheck _ _ _ _ _ hl9) ⟨rfl, trivial⟩ ?_) 
  refine pu rfl rfl rfl rfl rfl ?_
  refine tr_seq ?_
  refine tr_seq ?_
  refine tr_region fun _ _ _ => ?_
  iterate 2 refine pu rfl rfl rfl rfl rfl ?_
  refine tr_cond_bool rfl (fun h2 => ?_) (fun h2 => ?_)
  · try simp only [zb1, zb2, zb3, zb4, zb5, zb6, zb7, zb8, zb9, zb10] at h2
    omega --done
  · try simp only [zb1, zb2, zb3, zb4, zb5, zb6, zb7, zb8, zb9, zb10] at h2
    refine tr_skip ?_
    refine tr_seq ?_
    refine tr_seq ?_
    refine tr_region fun _ _ _ => ?_
    refine st rfl rfl rfl rfl (rFld rfl rfl) ?_
    refine st rfl rfl rfl rfl (rLdF rfl rfl rfl) ?_
    iterate 2 refine pu rfl rfl rfl rfl rfl ?_
    refine stg rfl rfl rfl rfl rfl (fun hb => by (have hq := hb; try simp only [zb1, zb2, zb3, zb4, zb5, zb6, zb7, zb8, zb9, zb10] at hq); exact rFld rfl rfl) ?_
    refine stg rfl rfl rfl rfl rfl (fun hb => by (have hq := hb; try simp only [zb1, zb2, zb3, zb4, zb5, zb6, zb7, zb8, zb9, zb10] at hq); exact rLdF rfl (evg rfl hb) rfl) ?_
    refine stg rfl rfl rfl rfl rfl (fun hb => by (have hq := hb; try simp only [zb1, zb2, zb3, zb4, zb5, zb6, zb7, zb8, zb9, zb10] at hq); exact rGtr rfl (evg rfl hb) rfl) ?_
    refine st rfl rfl rfl rfl (rOrB rfl rfl rfl rfl) ?_
    refine tr_cond_bool rfl (fun h4 => ?_) (fun h4 => ?_)
    · try simp only [zb1, zb2, zb3, zb4, zb5, zb6, zb7, zb8, zb9, zb10] at h4
      refine tr_seq ?_
      refine tr_region fun _ _ _ => ?_
      refine pu rfl rfl rfl rfl rfl ?_
      exact tr_ret ⟨trivial, _, _, rfl, ⟨rfl, rfl⟩, CSub.nil _, trivial⟩
    · try simp only [zb1, zb2, zb3, zb4, zb5, zb6, zb7, zb8, zb9, zb10] at h4
      omega --done

theorem ref_CCheckE_ent : Enters Try.prog 50 := enters_of Try.func50 (by kernel_rfl) (by kernel_rfl)
theorem ref_CCheckE (p m : Int) (A : Option Addr) (c : Nat) (mod : List Int) (hl9 : mod.length ≤ 17592186044415) [hF : IsF p m mod] (w : Int) (Aa : Option Addr) (n ca : Nat) (rs : List RowM) (hn : n = rs.length) (h9 : rs.length ≤ 17592186044415) (h8 : ∀ r ∈ rs, r.xs.length ≤ 17592186044415) (hb : ¬ (w < 1 ∨ w > 64)) (hE : rowsC (pw p m) w (xss rs) ≠ 0) :
    Pure Try.prog 50 #[.agg #[.int .i64 p, .int .i64 m, .slice A mod.length c, .int .i64 w, .slice Aa n ca]] [ro A (ints mod), ro Aa (hdrs rs), rowsR rs] (isV (.int .i64 (rowsC (pw p m) w (xss rs)))) := by
  have hch := chkF_ok hF.out
  refine pure_of (args := [.agg #[.int .i64 p, .int .i64 m, .slice A mod.length c, .int .i64 w, .slice Aa n ca]]) 26 Try.func50 rfl rfl rfl ref_CCheckE_ent ⟨id, id, id, trivial⟩ (fun w0 => ?_)
  refine tr_seq ?_
  refine tr_region fun _ _ _ => ?_
  refine ef rfl rfl (eBox rfl rfl rfl rfl rfl (fun p0 => ?_)) 
  refine pu rfl rfl rfl rfl rfl ?_
  refine tr_seq ?_
  refine tr_region fun _ _ _ => ?_
  refine st rfl rfl rfl rfl (rFld rfl rfl) ?_
  refine st rfl rfl rfl rfl (rLdSF rfl rfl) ?_
  refine ef rfl rfl (eCallV rfl rfl rfl (ref_fldCheck _ _ _ _ _ hl9) ⟨rfl, trivial⟩ ?_) 
  refine pu rfl rfl rfl rfl rfl ?_
  refine tr_seq ?_
  refine tr_seq ?_
  refine tr_region fun _ _ _ => ?_
  iterate 2 refine pu rfl rfl rfl rfl rfl ?_
  refine tr_cond_bool rfl (fun h2 => ?_) (fun h2 => ?_)
  · try simp only [zb1, zb2, zb3, zb4, zb5, zb6, zb7, zb8, zb9, zb10] at h2
    omega --done
  · try simp only [zb1, zb2, zb3, zb4, zb5, zb6, zb7, zb8, zb9, zb10] at h2
    refine tr_skip ?_
    refine tr_seq ?_
    refine tr_seq ?_
    refine tr_region fun _ _ _ => ?_
    refine st rfl rfl rfl rfl (rFld rfl rfl) ?_
    refine st rfl rfl rfl rfl (rLdF rfl rfl rfl) ?_
    iterate 2 refine pu rfl rfl rfl rfl rfl ?_
    refine stg rfl rfl rfl rfl rfl (fun hb => by (have hq := hb; try simp only [zb1, zb2, zb3, zb4, zb5, zb6, zb7, zb8, zb9, zb10] at hq); exact rFld rfl rfl) ?_
    refine stg rfl rfl rfl rfl rfl (fun hb => by (have hq := hb; try simp only [zb1, zb2, zb3, zb4, zb5, zb6, zb7, zb8, zb9, zb10] at hq); exact rLdF rfl (evg rfl hb) rfl) ?_
    refine stg rfl rfl rfl rfl rfl (fun hb => by (have hq := hb; try simp only [zb1, zb2, zb3, zb4, zb5, zb6, zb7, zb8, zb9, zb10] at hq); exact rGtr rfl (evg rfl hb) rfl) ?_
    refine st rfl rfl rfl rfl (rOrB rfl rfl rfl rfl) ?_
    refine tr_cond_bool rfl (fun h4 => ?_) (fun h4 => ?_)
    · try simp only [zb1, zb2, zb3, zb4, zb5, zb6, zb7, zb8, zb9, zb10] at h4
      omega --done
    · try simp only [zb1, zb2, zb3, zb4, zb5, zb6, zb7, zb8, zb9, zb10] at h4
      refine tr_skip ?_
      refine tr_seq ?_
      refine tr_region fun _ _ _ => ?_
      refine st rfl rfl rfl rfl (rFld rfl rfl) ?_
      refine st rfl rfl rfl rfl (rLdSF rfl rfl) ?_
      refine st rfl rfl rfl rfl (rFld rfl rfl) ?_
      refine st rfl rfl rfl rfl (rLdF rfl rfl rfl) ?_
      refine st rfl rfl rfl rfl (rFld rfl rfl) ?_
      refine st rfl rfl rfl rfl (rLdF rfl rfl rfl) ?_
      refine st rfl rfl rfl rfl (rBuild rfl rfl) ?_
      refine ef rfl rfl (eCallV rfl rfl rfl (ref_SCheckE _ _ _ _ _ hl9 w Aa _ ca rs hn h9 h8 hE) ⟨rfl, rfl, trivial⟩ ?_) 
      refine pu rfl rfl rfl rfl rfl ?_
      exact tr_ret ⟨trivial, _, _, rfl, ⟨rfl, rfl⟩, CSub.nil _, trivial⟩

theorem ref_CCheckF_ent : Enters Try.prog 50 := enters_of Try.func50 (by kernel_rfl) (by kernel_rfl)
theorem ref_CCheckF (p m : Int) (A : Option Addr) (c : Nat) (mod : List Int) (hl9 : mod.length ≤ 17592186044415) [hF : IsF p m mod] (w : Int) (Aa : Option Addr) (n ca : Nat) (rs : List RowM) (hn : n = rs.length) (h9 : rs.length ≤ 17592186044415) (h8 : ∀ r ∈ rs, r.xs.length ≤ 17592186044415) (hb : ¬ (w < 1 ∨ w > 64)) (hE : rowsC (pw p m) w (xss rs) = 0) (hf : ¬ formP p m mod w.toNat rs) :
    Pure Try.prog 50 #[.agg #[.int .i64 p, .int .i64 m, .slice A mod.length c, .int .i64 w, .slice Aa n ca]] [ro A (ints mod), ro Aa (hdrs rs), rowsR rs] (isV (.int .i64 5)) := by
  have hch := chkF_ok hF.out
  refine pure_of (args := [.agg #[.int .i64 p, .int .i64 m, .slice A mod.length c, .int .i64 w, .slice Aa n ca]]) 26 Try.func50 rfl rfl rfl ref_CCheckF_ent ⟨id, id, id, trivial⟩ (fun w0 => ?_)
  refine tr_seq ?_
  refine tr_region fun _ _ _ => ?_
  refine ef rfl rfl (eBox rfl rfl rfl rfl rfl (fun p0 => ?_)) 
  refine pu rfl rfl rfl rfl rfl ?_
  refine tr_seq ?_
  refine tr_region fun _ _ _ => ?_
  refine st rfl rfl rfl rfl (rFld rfl rfl) ?_
  refine st rfl rfl rfl rfl (rLdSF rfl rfl) ?_
  refine ef rfl rfl (eCallV rfl rfl rfl (ref_fldCheck _ _ _ _ _ hl9) ⟨rfl, trivial⟩ ?_) 
  refine pu rfl rfl rfl rfl rfl ?_
  refine tr_seq ?_
  refine tr_seq ?_
  refine tr_region fun _ _ _ => ?_
  iterate 2 refine pu rfl rfl rfl rfl rfl ?_
  refine tr_cond_bool rfl (fun h2 => ?_) (fun h2 => ?_)
  · try simp only [zb1, zb2, zb3, zb4, zb5, zb6, zb7, zb8, zb9, zb10] at h2
    omega --done
  · try simp only [zb1, zb2, zb3, zb4, zb5, zb6, zb7, zb8, zb9, zb10] at h2
    refine tr_skip ?_
    refine tr_seq ?_
    refine tr_seq ?_
    refine tr_region fun _ _ _ => ?_
    refine st rfl rfl rfl rfl (rFld rfl rfl) ?_
    refine st rfl rfl rfl rfl (rLdF rfl rfl rfl) ?_
    iterate 2 refine pu rfl rfl rfl rfl rfl ?_
    refine stg rfl rfl rfl rfl rfl (fun hb => by (have hq := hb; try simp only [zb1, zb2, zb3, zb4, zb5, zb6, zb7, zb8, zb9, zb10] at hq); exact rFld rfl rfl) ?_
    refine stg rfl rfl rfl rfl rfl (fun hb => by (have hq := hb; try simp only [zb1, zb2, zb3, zb4, zb5, zb6, zb7, zb8, zb9, zb10] at hq); exact rLdF rfl (evg rfl hb) rfl) ?_
    refine stg rfl rfl rfl rfl rfl (fun hb => by (have hq := hb; try simp only [zb1, zb2, zb3, zb4, zb5, zb6, zb7, zb8, zb9, zb10] at hq); exact rGtr rfl (evg rfl hb) rfl) ?_
    refine st rfl rfl rfl rfl (rOrB rfl rfl rfl rfl) ?_
    refine tr_cond_bool rfl (fun h4 => ?_) (fun h4 => ?_)
    · try simp only [zb1, zb2, zb3, zb4, zb5, zb6, zb7, zb8, zb9, zb10] at h4
      omega --done
    · try simp only [zb1, zb2, zb3, zb4, zb5, zb6, zb7, zb8, zb9, zb10] at h4
      refine tr_skip ?_
      refine tr_seq ?_
      refine tr_region fun _ _ _ => ?_
      refine st rfl rfl rfl rfl (rFld rfl rfl) ?_
      refine st rfl rfl rfl rfl (rLdSF rfl rfl) ?_
      refine st rfl rfl rfl rfl (rFld rfl rfl) ?_
      refine st rfl rfl rfl rfl (rLdF rfl rfl rfl) ?_
      refine st rfl rfl rfl rfl (rFld rfl rfl) ?_
      refine st rfl rfl rfl rfl (rLdF rfl rfl rfl) ?_
      refine st rfl rfl rfl rfl (rBuild rfl rfl) ?_
      refine ef rfl rfl (eCallV rfl rfl rfl (ref_SCheckF _ _ _ _ _ hl9 w Aa _ ca rs hn h9 h8 hE hf) ⟨rfl, rfl, trivial⟩ ?_) 
      refine pu rfl rfl rfl rfl rfl ?_
      exact tr_ret ⟨trivial, _, _, rfl, ⟨rfl, rfl⟩, CSub.nil _, trivial⟩

theorem ref_CCheckG_ent : Enters Try.prog 50 := enters_of Try.func50 (by kernel_rfl) (by kernel_rfl)
theorem ref_CCheckG (p m : Int) (A : Option Addr) (c : Nat) (mod : List Int) (hl9 : mod.length ≤ 17592186044415) [hF : IsF p m mod] (w : Int) (Aa : Option Addr) (n ca : Nat) (rs : List RowM) (hn : n = rs.length) (h9 : rs.length ≤ 17592186044415) (h8 : ∀ r ∈ rs, r.xs.length ≤ 17592186044415) (hb : ¬ (w < 1 ∨ w > 64)) (hE : rowsC (pw p m) w (xss rs) = 0) (hf : formP p m mod w.toNat rs) :
    Pure Try.prog 50 #[.agg #[.int .i64 p, .int .i64 m, .slice A mod.length c, .int .i64 w, .slice Aa n ca]] [ro A (ints mod), ro Aa (hdrs rs), rowsR rs] (isV (.int .i64 0)) := by
  have hch := chkF_ok hF.out
  refine pure_of (args := [.agg #[.int .i64 p, .int .i64 m, .slice A mod.length c, .int .i64 w, .slice Aa n ca]]) 26 Try.func50 rfl rfl rfl ref_CCheckG_ent ⟨id, id, id, trivial⟩ (fun w0 => ?_)
  refine tr_seq ?_
  refine tr_region fun _ _ _ => ?_
  refine ef rfl rfl (eBox rfl rfl rfl rfl rfl (fun p0 => ?_)) 
  refine pu rfl rfl rfl rfl rfl ?_
  refine tr_seq ?_
  refine tr_region fun _ _ _ => ?_
  refine st rfl rfl rfl rfl (rFld rfl rfl) ?_
  refine st rfl rfl rfl rfl (rLdSF rfl rfl) ?_
  refine ef rfl rfl (eCallV rfl rfl rfl (ref_fldCheck _ _ _ _ _ hl9) ⟨rfl, trivial⟩ ?_) 
  refine pu rfl rfl rfl rfl rfl ?_
  refine tr_seq ?_
  refine tr_seq ?_
  refine tr_region fun _ _ _ => ?_
  iterate 2 refine pu rfl rfl rfl rfl rfl ?_
  refine tr_cond_bool rfl (fun h2 => ?_) (fun h2 => ?_)
  · try simp only [zb1, zb2, zb3, zb4, zb5, zb6, zb7, zb8, zb9, zb10] at h2
    omega --done
  · try simp only [zb1, zb2, zb3, zb4, zb5, zb6, zb7, zb8, zb9, zb10] at h2
    refine tr_skip ?_
    refine tr_seq ?_
    refine tr_seq ?_
    refine tr_region fun _ _ _ => ?_
    refine st rfl rfl rfl rfl (rFld rfl rfl) ?_
    refine st rfl rfl rfl rfl (rLdF rfl rfl rfl) ?_
    iterate 2 refine pu rfl rfl rfl rfl rfl ?_
    refine stg rfl rfl rfl rfl rfl (fun hb => by (have hq := hb; try simp only [zb1, zb2, zb3, zb4, zb5, zb6, zb7, zb8, zb9, zb10] at hq); exact rFld rfl rfl) ?_
    refine stg rfl rfl rfl rfl rfl (fun hb => by (have hq := hb; try simp only [zb1, zb2, zb3, zb4, zb5, zb6, zb7, zb8, zb9, zb10] at hq); exact rLdF rfl (evg rfl hb) rfl) ?_
    refine stg rfl rfl rfl rfl rfl (fun hb => by (have hq := hb; try simp only [zb1, zb2, zb3, zb4, zb5, zb6, zb7, zb8, zb9, zb10] at hq); exact rGtr rfl (evg rfl hb) rfl) ?_
    refine st rfl rfl rfl rfl (rOrB rfl rfl rfl rfl) ?_
    refine tr_cond_bool rfl (fun h4 => ?_) (fun h4 => ?_)
    · try simp only [zb1, zb2, zb3, zb4, zb5, zb6, zb7, zb8, zb9, zb10] at h4
      omega --done
    · try simp only [zb1, zb2, zb3, zb4, zb5, zb6, zb7, zb8, zb9, zb10] at h4
      refine tr_skip ?_
      refine tr_seq ?_
      refine tr_region fun _ _ _ => ?_
      refine st rfl rfl rfl rfl (rFld rfl rfl) ?_
      refine st rfl rfl rfl rfl (rLdSF rfl rfl) ?_
      refine st rfl rfl rfl rfl (rFld rfl rfl) ?_
      refine st rfl rfl rfl rfl (rLdF rfl rfl rfl) ?_
      refine st rfl rfl rfl rfl (rFld rfl rfl) ?_
      refine st rfl rfl rfl rfl (rLdF rfl rfl rfl) ?_
      refine st rfl rfl rfl rfl (rBuild rfl rfl) ?_
      refine ef rfl rfl (eCallV rfl rfl rfl (ref_SCheckG _ _ _ _ _ hl9 w Aa _ ca rs hn h9 h8 hE hf) ⟨rfl, rfl, trivial⟩ ?_) 
      refine pu rfl rfl rfl rfl rfl ?_
      exact tr_ret ⟨trivial, _, _, rfl, ⟨rfl, rfl⟩, CSub.nil _, trivial⟩

theorem ref_CCheck (p m : Int) (A : Option Addr) (c : Nat) (mod : List Int) (hl9 : mod.length ≤ 17592186044415) (w : Int) (Aa : Option Addr) (n ca : Nat) (rs : List RowM) (hn : n = rs.length) (h9 : rs.length ≤ 17592186044415) (h8 : ∀ r ∈ rs, r.xs.length ≤ 17592186044415) : Pure Try.prog 50 #[.agg #[.int .i64 p, .int .i64 m, .slice A mod.length c, .int .i64 w, .slice Aa n ca]] [ro A (ints mod), ro Aa (hdrs rs), rowsR rs] (isV (.int .i64 (codC p m mod w rs))) := by
  by_cases hF : FldR p m mod
  · haveI : IsF p m mod := ⟨hF⟩
    by_cases hb : w < 1 ∨ w > 64
    · rw [codC_ln hb]; exact ref_CCheckL p m A c mod hl9 w Aa n ca rs hn h9 h8 hb
    · by_cases hE : rowsC (pw p m) w (xss rs) = 0
      · by_cases hf : formP p m mod w.toNat rs
        · rw [codC_ok hb hE hf]; exact ref_CCheckG p m A c mod hl9 w Aa n ca rs hn h9 h8 hb hE hf
        · rw [codC_fm hb hE hf]; exact ref_CCheckF p m A c mod hl9 w Aa n ca rs hn h9 h8 hb hE hf
      · rw [codC_rw hb hE]; exact ref_CCheckE p m A c mod hl9 w Aa n ca rs hn h9 h8 hb hE
  · rw [codC_no w rs hF]; exact ref_CCheckNo p m A c mod hl9 hF w Aa n ca rs hn h9 h8

end Go.Proofs.Ytjmojhflnjbgaaa

set_option linter.unusedSimpArgs false
set_option linter.unusedVariables false
set_option maxRecDepth 100000
namespace Go.Proofs.Ytjmojhflnjbgaaa
open Go.RowKit









theorem any_nz (o : List Int) : (!o.any fun x => decide (¬ x = 0)) = decide (∀ z ∈ o, z = 0) := by
  by_cases h : ∀ z ∈ o, z = 0
  · rw [decide_eq_true h]
    simp; exact h
  · rw [decide_eq_false h]
    simp; simpa using h


theorem memB_dec {p m : Int} {mod : List Int} [hF : IsF p m mod] {n : Nat} {rs : List RowM} {qs : List Nat} (h : Vc.Rr n (vsR rs : List (Vc (El p m mod))) qs) {l o : List Int} (ho : AllIn (pw p m) o) (e : (rw' o : Vc (El p m mod)) = rw' l - Vc.cmb (fun i => rw' l (qs.getD i 0)) (vsR rs)) :
    decide (∀ z ∈ o, z = 0) = memB p m mod rs l := by
  have := memB_eq h ho e
  cases hb : memB p m mod rs l with
  | true => exact decide_eq_true (this.1 hb)
  | false => exact decide_eq_false fun hh => by rw [this.2 hh] at hb; cases hb




theorem ref_Zero_ent : Enters Try.prog 138 := enters_of Try.func138 (by kernel_rfl) (by kernel_rfl)
theorem ref_Zero (X : Option Addr) (nx cx : Nat) (o : List Int) (hnx : nx = o.length) (h9 : o.length ≤ 1000000000000) :
    Pure Try.prog 138 #[.slice X nx cx] [ro X (ints o)] (isV (.bool (decide (∀ z ∈ o, z = 0)))) := by
  refine pure_of (args := [.slice X nx cx]) 15 Try.func138 rfl rfl rfl ref_Zero_ent ⟨id, trivial⟩ (fun w0 => ?_)
  refine tr_seq ?_
  refine tr_region fun _ _ _ => ?_
  refine pu rfl rfl rfl rfl rfl ?_
  refine tr_seq ?_
  refine tr_seq ?_
  refine tr_region fun _ _ _ => ?_
  refine pu rfl rfl rfl rfl rfl ?_
  refine tr_block ?_
  refine tr_loop1 (fun (k : Int) => [(3, .int .i64 k), (0, .slice X nx cx)]) (fun (k : Int) => [ro X (ints o)]) (fun (k : Int) => (0 ≤ k ∧ k ≤ nx) ∧ ∀ j : Nat, (j : Int) < k → o.getD j 0 = 0) (fun (k : Int) => (nx - k).toNat) (0) ⟨rfl, rfl, trivial⟩ (by first | exact cs _ _ | exact CSub.refl _) (⟨⟨by omega, by omega⟩, fun j hj => by omega⟩) (fun k hI => ?_)
  obtain ⟨⟨hk0, hk1⟩, hall⟩ := hI
  refine tr_seq ?_
  refine tr_seq ?_
  refine tr_region fun _ _ _ => ?_
  iterate 2 refine pu rfl rfl rfl rfl rfl ?_
  refine st rfl rfl rfl rfl (rLen rfl rfl) ?_
  refine pu rfl rfl rfl rfl rfl ?_
  refine tr_cond_bool rfl (fun h2 => ?_) (fun h2 => ?_)
  · try simp only [zb1, zb2, zb3, zb4, zb5, zb6, zb7, zb8, zb9, zb10] at h2
    refine tr_skip ?_
    refine tr_seq ?_
    refine tr_block ?_
    refine tr_seq ?_
    refine tr_region fun _ _ _ => ?_
    iterate 2 refine pu rfl rfl rfl rfl rfl ?_
    refine st rfl rfl rfl rfl (rIdxI rfl rfl rfl (by omega) (by omega) (by omega)) ?_
    refine st rfl rfl rfl rfl (rLdI rfl rfl (by omega)) ?_
    refine pu rfl rfl rfl rfl rfl ?_
    refine tr_cond_bool rfl (fun h4 => ?_) (fun h4 => ?_)
    · try simp only [zb1, zb2, zb3, zb4, zb5, zb6, zb7, zb8, zb9, zb10] at h4
      refine tr_seq ?_
      refine tr_region fun _ _ _ => ?_
      refine pu rfl rfl rfl rfl rfl ?_
      have hno : ¬ ∀ z ∈ o, z = 0 := fun h => absurd (h _ (getD_mem (show k.toNat < o.length by omega) 0)) (by omega)
      exact tr_ret ⟨trivial, _, _, rfl, ⟨by rw [decide_eq_false hno], rfl⟩, CSub.nil _, trivial⟩
    · try simp only [zb1, zb2, zb3, zb4, zb5, zb6, zb7, zb8, zb9, zb10] at h4
      refine tr_skip ?_
      refine tr_region fun _ _ _ => ?_
      refine pu rfl rfl rfl rfl rfl ?_
      refine st rfl rfl rfl rfl (rAdd rfl rfl rfl (by omega) (by omega)) ?_
      refine pu rfl rfl rfl rfl rfl ?_
      refine ⟨k + 1, ⟨rfl, rfl, trivial⟩, by first | exact cs _ _ | exact CSub.refl _, ?_⟩
      refine ⟨⟨⟨by omega, by omega⟩, fun j hj => ?_⟩, by omega⟩
      by_cases he : (j : Int) = k
      · have : j = k.toNat := by omega
        subst this; omega
      · exact hall j (by omega)
  · try simp only [zb1, zb2, zb3, zb4, zb5, zb6, zb7, zb8, zb9, zb10] at h2
    refine tr_exit ?_
    refine tr_seq ?_
    refine tr_region fun _ _ _ => ?_
    refine pu rfl rfl rfl rfl rfl ?_
    have hyes : ∀ z ∈ o, z = 0 := fun z hz => by
      obtain ⟨j, hj, rfl⟩ := List.getElem_of_mem hz
      have := hall j (by omega)
      rw [List.getD_eq_getElem?_getD, List.getElem?_eq_getElem hj] at this
      exact this
    exact tr_ret ⟨trivial, _, _, rfl, ⟨by rw [decide_eq_true hyes], rfl⟩, CSub.nil _, trivial⟩

theorem ref_Pivots_ent : Enters Try.prog 175 := enters_of Try.func175 (by kernel_rfl) (by kernel_rfl)
theorem ref_Pivots (p m : Int) (mod : List Int) [hF : IsF p m mod] (w : Int) (Aa : Option Addr) (n ca : Nat) (rs : List RowM) (hn : n = rs.length) (h9 : rs.length ≤ 256) (hw9 : w ≤ 1000000) (hgd : Gd (pw p m) w.toNat rs) (qs : List Nat) (hq : Vc.Rr w.toNat (vsR rs : List (Vc (El p m mod))) qs) :
    Pure Try.prog 175 #[.slice Aa n ca] [ro Aa (hdrs rs), rowsR rs] (one (fun v ch => ∃ B cb, v = .slice B (qs.map Int.ofNat).length cb ∧ ch = ow B 3 cb (ints (qs.map Int.ofNat)))) := by
  have hql := hq.len
  rw [vsR_length] at hql
  have hq2 := hF.q2
  refine pure_of (args := [.slice Aa n ca]) 36 Try.func175 rfl rfl rfl ref_Pivots_ent ⟨id, id, trivial⟩ (fun w0 => ?_)
  refine tr_seq ?_
  refine tr_region fun _ _ _ => ?_
  refine pu rfl rfl rfl rfl rfl ?_
  refine tr_seq ?_
  refine tr_region fun _ _ _ => ?_
  refine pu rfl rfl rfl rfl rfl ?_
  refine tr_seq ?_
  refine tr_seq ?_
  refine tr_region fun _ _ _ => ?_
  refine pu rfl rfl rfl rfl rfl ?_
  refine tr_block ?_
  refine tr_nilI 3 ?_
  refine tr_loop4 (fun (k : Int) (D : Option Addr) (cd : Nat) (tk : List Int) => [(3, .slice D tk.length cd), (4, .int .i64 k), (0, .slice Aa n ca), (2, .slice none 0 0)]) (fun (k : Int) (D : Option Addr) (cd : Nat) (tk : List Int) => [ow D 3 cd (ints tk), ro Aa (hdrs rs), rowsR rs]) (fun (k : Int) (D : Option Addr) (cd : Nat) (tk : List Int) => (0 ≤ k ∧ k ≤ n) ∧ tk = (qs.take k.toNat).map Int.ofNat) (fun (k : Int) (D : Option Addr) (cd : Nat) (tk : List Int) => (n - k).toNat) (0) (none) (0) ([]) ⟨rfl, rfl, rfl, rfl, trivial⟩ (by first | exact cs _ _ | exact CSub.refl _) (⟨⟨by omega, by omega⟩, rfl⟩) (fun k D cd tk hI => ?_)
  obtain ⟨⟨hk0, hk1⟩, htk⟩ := hI
  have htl : tk.length ≤ 256 := by rw [htk, List.length_map, List.length_take]; omega
  refine tr_seq ?_
  refine tr_seq ?_
  refine tr_region fun _ _ _ => ?_
  iterate 2 refine pu rfl rfl rfl rfl rfl ?_
  refine st rfl rfl rfl rfl (rLen rfl rfl) ?_
  refine pu rfl rfl rfl rfl rfl ?_
  refine tr_cond_bool rfl (fun h3 => ?_) (fun h3 => ?_)
  · try simp only [zb1, zb2, zb3, zb4, zb5, zb6, zb7, zb8, zb9, zb10] at h3
    refine tr_skip ?_
    refine tr_seq ?_
    refine tr_block ?_
    refine tr_seq ?_
    haveI : InB k.toNat rs.length := ⟨by omega⟩
    have hgk := hgd.get (show k.toNat < rs.length by omega)
    have hgk1 := hgk.1
    have hqk := hq.lt k.toNat (by omega)
    have hone := hq.one k.toNat (by omega)
    rw [vsR_at] at hone
    have hlow : ∀ j : Nat, j < qs.getD k.toNat 0 → (rs.getD k.toNat rowD).xs.getD j 0 = 0 := fun j hj => by
      have := hq.low k.toNat j (by omega) hj
      rw [vsR_at, el_eq_zero (hgk.2.get (by omega) j)] at this
      exact this
    have hnz : (rs.getD k.toNat rowD).xs.getD (qs.getD k.toNat 0) 0 ≠ 0 := fun h => by
      rw [h, el_zero] at hone
      exact Fd.one_ne hone.symm
    refine tr_region fun _ _ _ => ?_
    refine pu rfl rfl rfl rfl rfl ?_
    refine tr_seq ?_
    refine tr_block ?_
    refine tr_loop1 (fun (c : Int) => [(5, .int .i64 c), (3, .slice D tk.length cd), (0, .slice Aa n ca), (2, .slice none 0 0), (4, .int .i64 k), (6, .int .i64 k), (7, .slice Aa n ca), (8, .int .i64 n)]) (fun (c : Int) => [ow D 3 cd (ints tk), ro Aa (hdrs rs), rowsR rs]) (fun (c : Int) => 0 ≤ c ∧ c ≤ (qs.getD k.toNat 0 : Int)) (fun (c : Int) => ((qs.getD k.toNat 0 : Int) - c).toNat) (0) ⟨rfl, rfl, rfl, rfl, rfl, rfl, rfl, rfl, trivial⟩ (by first | exact cs _ _ | exact CSub.refl _) (by omega) (fun c hI => ?_)
    obtain ⟨hc0, hc1⟩ := hI
    refine tr_seq ?_
    refine tr_seq ?_
    refine tr_region fun _ _ _ => ?_
    iterate 3 refine pu rfl rfl rfl rfl rfl ?_
    refine st rfl rfl rfl rfl (rIdxR rfl rfl rfl (by omega) (by omega) (by omega)) ?_
    refine st rfl rfl rfl rfl (rLdR rfl rfl (by omega)) ?_
    refine st rfl rfl rfl rfl (rLen rfl rfl) ?_
    iterate 2 refine pu rfl rfl rfl rfl rfl ?_
    refine stg rfl rfl rfl rfl rfl (fun hb => by (have hq := hb; try simp only [zb1, zb2, zb3, zb4, zb5, zb6, zb7, zb8, zb9, zb10] at hq); exact rMove rfl rfl) ?_
    refine stg rfl rfl rfl rfl rfl (fun hb => by (have hq := hb; try simp only [zb1, zb2, zb3, zb4, zb5, zb6, zb7, zb8, zb9, zb10] at hq); exact rMove rfl rfl) ?_
    refine stg rfl rfl rfl rfl rfl (fun hb => by (have hq := hb; try simp only [zb1, zb2, zb3, zb4, zb5, zb6, zb7, zb8, zb9, zb10] at hq); exact rIdxR rfl (evg rfl hb) (evg rfl hb) (by omega) (by omega) (by omega)) ?_
    refine stg rfl rfl rfl rfl rfl (fun hb => by (have hq := hb; try simp only [zb1, zb2, zb3, zb4, zb5, zb6, zb7, zb8, zb9, zb10] at hq); exact rLdR rfl (evg rfl hb) (by omega)) ?_
    refine stg rfl rfl rfl rfl rfl (fun hb => by (have hq := hb; try simp only [zb1, zb2, zb3, zb4, zb5, zb6, zb7, zb8, zb9, zb10] at hq); exact rMove rfl rfl) ?_
    refine stg rfl rfl rfl rfl rfl (fun hb => by (have hq := hb; try simp only [zb1, zb2, zb3, zb4, zb5, zb6, zb7, zb8, zb9, zb10] at hq); exact rIdxI rfl (evg rfl hb) (evg rfl hb) (by omega) (by omega) (by omega)) ?_
    refine stg rfl rfl rfl rfl rfl (fun hb => by (have hq := hb; try simp only [zb1, zb2, zb3, zb4, zb5, zb6, zb7, zb8, zb9, zb10] at hq); exact rLdI rfl (evg rfl hb) (by omega)) ?_
    refine stg rfl rfl rfl rfl rfl (fun hb => by (have hq := hb; try simp only [zb1, zb2, zb3, zb4, zb5, zb6, zb7, zb8, zb9, zb10] at hq); exact rEql rfl (evg rfl hb) rfl) ?_
    refine st rfl rfl rfl rfl (rAndB rfl rfl rfl rfl) ?_
    refine tr_cond_bool rfl (fun h6 => ?_) (fun h6 => ?_)
    · try simp only [zb1, zb2, zb3, zb4, zb5, zb6, zb7, zb8, zb9, zb10] at h6
      refine tr_skip ?_
      refine tr_block ?_
      refine tr_region fun _ _ _ => ?_
      refine pu rfl rfl rfl rfl rfl ?_
      refine st rfl rfl rfl rfl (rAdd rfl rfl rfl (by omega) (by omega)) ?_
      refine pu rfl rfl rfl rfl rfl ?_
      refine ⟨c + 1, ⟨rfl, rfl, rfl, rfl, rfl, rfl, rfl, rfl, trivial⟩, by first | exact cs _ _ | exact CSub.refl _, ?_⟩
      have hne : c ≠ (qs.getD k.toNat 0 : Int) := fun e => by
        have : c.toNat = qs.getD k.toNat 0 := by omega
        rw [← this] at hnz
        omega
      refine ⟨⟨by omega, by omega⟩, by omega⟩
    · try simp only [zb1, zb2, zb3, zb4, zb5, zb6, zb7, zb8, zb9, zb10] at h6
      refine tr_exit ?_
      refine tr_region fun _ _ _ => ?_
      iterate 2 refine pu rfl rfl rfl rfl rfl ?_
      refine ef rfl rfl (eLit1I rfl rfl rfl rfl (fun A8 => ?_)) 
      refine ef rfl rfl (eAppI rfl rfl rfl rfl rfl (by first | rfl | simp | omega) (by first | rfl | simp | omega) (by first | omega | (simp; omega)) (fun A8a c8a => ?_)) 
      refine pu rfl rfl rfl rfl rfl ?_
      refine tr_region fun _ _ _ => ?_
      refine pu rfl rfl rfl rfl rfl ?_
      refine st rfl rfl rfl rfl (rAdd rfl rfl rfl (by omega) (by omega)) ?_
      refine pu rfl rfl rfl rfl rfl ?_
      refine ⟨k + 1, A8a, c8a, tk ++ [c], ⟨rfl, rfl, rfl, rfl, trivial⟩, by first | exact cs _ _ | exact CSub.refl _, ?_⟩
      refine ⟨⟨⟨by omega, by omega⟩, ?_⟩, by omega⟩
      rw [htk, show (k + 1).toNat = k.toNat + 1 by omega, take_map_succ _ _ (show k.toNat < qs.length by omega)]
      have : c = Int.ofNat (qs.getD k.toNat 0) := by
        have hc2 : ¬ c < (qs.getD k.toNat 0 : Int) := fun hlt => by
          have h1 := hlow c.toNat (by omega)
          omega
        show c = (qs.getD k.toNat 0 : Int)
        omega
      rw [this]
  · try simp only [zb1, zb2, zb3, zb4, zb5, zb6, zb7, zb8, zb9, zb10] at h3
    refine tr_exit ?_
    refine tr_seq ?_
    refine tr_region fun _ _ _ => ?_
    iterate 2 refine pu rfl rfl rfl rfl rfl ?_
    have hkn : k.toNat = qs.length := by omega
    rw [hkn, List.take_length] at htk
    subst htk
    exact tr_ret ⟨trivial, _, _, rfl, ⟨_, rfl, D, cd, rfl, rfl⟩, cs _ _, trivial, trivial⟩

theorem ref_Rest_ent : Enters Try.prog 139 := enters_of Try.func139 (by kernel_rfl) (by kernel_rfl)
theorem ref_Rest (p m : Int) (A : Option Addr) (c : Nat) (mod : List Int) [hF : IsF p m mod] (w : Int) (Aa : Option Addr) (n ca : Nat) (rs : List RowM) (hn : n = rs.length) (h9 : rs.length ≤ 256) (hw9 : w ≤ 1000000) (hgd : Gd (pw p m) w.toNat rs) (qs : List Nat) (hq : Vc.Rr w.toNat (vsR rs : List (Vc (El p m mod))) qs) (X : Option Addr) (nx cx : Nat) (l : List Int) (hnx : nx = l.length) (hlw : (l.length : Int) = w) (hin : AllIn (pw p m) l) :
    Pure Try.prog 139 #[.agg #[.int .i64 p, .int .i64 m, .slice A mod.length c], .slice Aa n ca, .slice X nx cx] [ro A (ints mod), ro Aa (hdrs rs), rowsR rs, ro X (ints l)] (one (fun v c1 => ∃ B cb o, v = .slice B o.length cb ∧ c1 = ow B 3 cb (ints o) ∧ o.length = l.length ∧ AllIn (pw p m) o ∧ (rw' o : Vc (El p m mod)) = rw' l - Vc.cmb (fun i => rw' l (qs.getD i 0)) (vsR rs))) := by
  have hql := hq.len
  rw [vsR_length] at hql
  have hq2 := hF.q2
  refine pure_of (args := [.agg #[.int .i64 p, .int .i64 m, .slice A mod.length c], .slice Aa n ca, .slice X nx cx]) 38 Try.func139 rfl rfl rfl ref_Rest_ent ⟨id, id, id, id, trivial⟩ (fun w0 => ?_)
  refine tr_seq ?_
  refine tr_region fun _ _ _ => ?_
  refine ef rfl rfl (eBox rfl rfl rfl rfl rfl (fun p0 => ?_)) 
  refine pu rfl rfl rfl rfl rfl ?_
  refine tr_seq ?_
  refine tr_region fun _ _ _ => ?_
  refine pu rfl rfl rfl rfl rfl ?_
  refine ef rfl rfl (eCall1 rfl rfl rfl (ref_Pivots p m mod w Aa n ca rs hn h9 hw9 hgd qs hq) ⟨rfl, trivial⟩ ?_) 
  rintro _ _ ⟨Bp, cp, rfl, rfl⟩
  refine pu rfl rfl rfl rfl rfl ?_
  refine tr_seq ?_
  refine tr_region fun _ _ _ => ?_
  refine ef rfl rfl (eLit0I rfl rfl rfl  (fun A2 => ?_)) 
  refine pu rfl rfl rfl rfl rfl ?_
  refine ef rfl rfl (eAppI rfl rfl rfl rfl rfl (by first | rfl | simp | omega) (by first | rfl | simp | omega) (by first | omega | (simp; omega)) (fun A2a c2a => ?_)) 
  refine pu rfl rfl rfl rfl rfl ?_
  simp only [List.nil_append]
  refine tr_seq ?_
  refine tr_seq ?_
  refine tr_region fun _ _ _ => ?_
  refine pu rfl rfl rfl rfl rfl ?_
  refine tr_block ?_
  refine tr_loop5 (fun (k : Int) (B : Option Addr) (cb : Nat) (no : Nat) (o : List Int) => [(7, .slice Bp (qs.map Int.ofNat).length cp), (8, .slice B no cb), (9, .int .i64 k), (1, .slice Aa n ca), (2, .slice X nx cx), (3, .pointer (some p0)), (6, .slice none 0 0)]) (fun (k : Int) (B : Option Addr) (cb : Nat) (no : Nat) (o : List Int) => [ow B 3 cb (ints o), ow Bp 3 cp (ints (qs.map Int.ofNat)), blk p0 36 [.int .i64 p, .int .i64 m, .slice A mod.length c], ro A (ints mod), ro Aa (hdrs rs), rowsR rs, ro X (ints l)]) (fun (k : Int) (B : Option Addr) (cb : Nat) (no : Nat) (o : List Int) => (0 ≤ k ∧ k ≤ n) ∧ no = o.length ∧ (o.length = l.length ∧ AllIn (pw p m) o) ∧ (rw' o : Vc (El p m mod)) = rw' l - Vc.cmb (Vc.upC (fun i => rw' l (qs.getD i 0)) k.toNat) (vsR rs)) (fun (k : Int) (B : Option Addr) (cb : Nat) (no : Nat) (o : List Int) => (n - k).toNat) (0) (A2a) (c2a) (l.length) (l) ⟨rfl, rfl, rfl, rfl, rfl, rfl, rfl, trivial⟩ (by first | exact cs _ _ | exact CSub.refl _) (⟨⟨by omega, by omega⟩, rfl, ⟨rfl, hin⟩, by rw [Int.toNat_zero, Vc.cmb_up_zero]; exact Vc.ext fun j => by rw [Vc.sub_at, Vc.zero_at]; grind⟩) (fun k B cb no o hI => ?_)
  obtain ⟨⟨hk0, hk1⟩, hno, ⟨hol, hoi⟩, hoe⟩ := hI
  refine tr_seq ?_
  refine tr_seq ?_
  refine tr_region fun _ _ _ => ?_
  iterate 2 refine pu rfl rfl rfl rfl rfl ?_
  refine st rfl rfl rfl rfl (rLen rfl rfl) ?_
  refine pu rfl rfl rfl rfl rfl ?_
  refine tr_cond_bool rfl (fun h4 => ?_) (fun h4 => ?_)
  · try simp only [zb1, zb2, zb3, zb4, zb5, zb6, zb7, zb8, zb9, zb10] at h4
    refine tr_skip ?_
    refine tr_seq ?_
    refine tr_block ?_
    haveI : InB k.toNat rs.length := ⟨by omega⟩
    have hgk := hgd.get (show k.toNat < rs.length by omega)
    have hgk1 := hgk.1
    have hqk := hq.lt k.toNat (by omega)
    have hpk : (qs.map Int.ofNat).getD k.toNat 0 = (qs.getD k.toNat 0 : Int) := ofNat_getD qs _
    have hpl : (qs.map Int.ofNat).length = qs.length := List.length_map _
    refine tr_draw [0, 1, 2, 3, 4, 5, 6, 7, 8, 9, 11, 12, 13, 14, 10, 15, 16] [] mixed (by kernel_rfl) fun _ _ _ => ?_
    refine st rfl rfl rfl rfl (rLdS rfl rfl rfl) ?_
    refine pu rfl rfl rfl rfl rfl ?_
    refine st rfl rfl rfl rfl (rLdS rfl rfl rfl) ?_
    iterate 3 refine pu rfl rfl rfl rfl rfl ?_
    refine st rfl rfl rfl rfl (rIdxI rfl rfl rfl (by omega) (by omega) (by omega)) ?_
    refine st rfl rfl rfl rfl (rLdI rfl rfl (by omega)) ?_
    refine st rfl rfl rfl rfl (rIdxI rfl rfl rfl (by omega) (by omega) (by omega)) ?_
    refine st rfl rfl rfl rfl (rLdI rfl rfl (by omega)) ?_
    iterate 2 refine pu rfl rfl rfl rfl rfl ?_
    refine st rfl rfl rfl rfl (rIdxR rfl rfl rfl (by omega) (by omega) (by omega)) ?_
    refine st rfl rfl rfl rfl (rLdR rfl rfl (by omega)) ?_
    refine ef rfl rfl (eCallV rfl rfl rfl (ref_NegE _ _ _ _ _ _) ⟨rfl, rfl, trivial⟩ ?_) 
    refine ef rfl rfl (eCall1 rfl rfl rfl (ref_AddTo _ _ _ _ _ B no cb o hno (by omega) _ _ _ _ (rs.getD k.toNat rowD).xs rfl (by omega) hoi) ⟨rfl, rfl, rfl, rfl, trivial⟩ ?_) 
    rintro _ _ ⟨B6, rfl, rfl⟩
    refine pu rfl rfl rfl rfl rfl ?_
    simp only [hpk, Int.toNat_natCast]
    refine tr_region fun _ _ _ => ?_
    refine pu rfl rfl rfl rfl rfl ?_
    refine st rfl rfl rfl rfl (rAdd rfl rfl rfl (by omega) (by omega)) ?_
    refine pu rfl rfl rfl rfl rfl ?_
    refine ⟨k + 1, B6, no, no, addR (el (-(el (l.getD (qs.getD k.toNat 0) 0)) : El p m mod).1 : El p m mod) o (rs.getD k.toNat rowD).xs, ⟨rfl, rfl, rfl, rfl, rfl, rfl, rfl, trivial⟩, by first | exact cs _ _ | exact CSub.refl _, ?_⟩
    refine ⟨⟨⟨by omega, by omega⟩, by simpa using hno, ⟨by simpa using hol, addR_in _ _ _⟩, ?_⟩, by omega⟩
    rw [show (k + 1).toNat = k.toNat + 1 by omega, Vc.cmb_up_succ _ (by rw [vsR_length]; omega), rw_addR _ _ _ (by omega), hoe, el_of]
    refine Vc.ext fun t => ?_
    rw [Vc.add_at, Vc.sub_at, Vc.sc_at, Vc.sub_at, Vc.add_at, Vc.sc_at, vsR_at, rw_at (l := (rs.getD k.toNat rowD).xs)]
    show _ = _ - (_ + el (l.getD (qs.getD k.toNat 0) 0) * _)
    grind
  · try simp only [zb1, zb2, zb3, zb4, zb5, zb6, zb7, zb8, zb9, zb10] at h4
    refine tr_exit ?_
    refine tr_seq ?_
    refine tr_region fun _ _ _ => ?_
    iterate 2 refine pu rfl rfl rfl rfl rfl ?_
    subst hno
    have hkn : k.toNat = qs.length := by omega
    rw [Vc.cmb_up_all _ (by rw [vsR_length]; omega)] at hoe
    exact tr_ret ⟨trivial, _, _, rfl, ⟨_, rfl, B, cb, o, rfl, rfl, hol, hoi, hoe⟩, cs _ _, trivial, trivial⟩

theorem ref_RIn_ent : Enters Try.prog 90 := enters_of Try.func90 (by kernel_rfl) (by kernel_rfl)
theorem ref_RIn (p m : Int) (A : Option Addr) (c : Nat) (mod : List Int) [hF : IsF p m mod] (w : Int) (Aa : Option Addr) (n ca : Nat) (rs : List RowM) (hn : n = rs.length) (h9 : rs.length ≤ 256) (hw9 : w ≤ 1000000) (hgd : Gd (pw p m) w.toNat rs) (qs : List Nat) (hq : Vc.Rr w.toNat (vsR rs : List (Vc (El p m mod))) qs) (X : Option Addr) (nx cx : Nat) (l : List Int) (hnx : nx = l.length) (hlw : (l.length : Int) = w) (hin : AllIn (pw p m) l) :
    Pure Try.prog 90 #[.agg #[.int .i64 p, .int .i64 m, .slice A mod.length c], .slice Aa n ca, .slice X nx cx] [ro A (ints mod), ro Aa (hdrs rs), rowsR rs, ro X (ints l)] (isV (.bool (memB p m mod rs l))) := by
  refine pure_of (args := [.agg #[.int .i64 p, .int .i64 m, .slice A mod.length c], .slice Aa n ca, .slice X nx cx]) 12 Try.func90 rfl rfl rfl ref_RIn_ent ⟨id, id, id, id, trivial⟩ (fun w0 => ?_)
  refine tr_seq ?_
  refine tr_region fun _ _ _ => ?_
  refine ef rfl rfl (eBox rfl rfl rfl rfl rfl (fun p0 => ?_)) 
  refine pu rfl rfl rfl rfl rfl ?_
  refine tr_seq ?_
  refine tr_region fun _ _ _ => ?_
  refine st rfl rfl rfl rfl (rLdS rfl rfl rfl) ?_
  iterate 2 refine pu rfl rfl rfl rfl rfl ?_
  refine ef rfl rfl (eCall1 rfl rfl rfl (ref_Rest _ _ _ _ _ w Aa n ca rs hn h9 hw9 hgd qs hq X nx cx l hnx hlw hin) ⟨rfl, rfl, rfl, trivial⟩ ?_) 
  rintro _ _ ⟨B, cb, o, rfl, rfl, hol, hoi, hoe⟩
  refine ef rfl rfl (eCallV rfl rfl rfl (ref_Zero _ _ _ _ (by first | rfl | omega | simp) (by omega)) ⟨rfl, trivial⟩ ?_) 
  refine pu rfl rfl rfl rfl rfl ?_
  exact tr_ret ⟨trivial, _, _, rfl, ⟨by rw [memB_dec hq hoi hoe], rfl⟩, CSub.nil _, trivial⟩

theorem ref_RIn' (p m : Int) (A : Option Addr) (c : Nat) (mod : List Int) [hF : IsF p m mod] (w : Int) (Aa : Option Addr) (n ca : Nat) (rs : List RowM) (hn : n = rs.length) (h9 : rs.length ≤ 256) (hc : CodeOk p m mod w rs) (X : Option Addr) (nx cx : Nat) (l : List Int) (hnx : nx = l.length) (hlw : (l.length : Int) = w) (hin : AllIn (pw p m) l) : Pure Try.prog 90 #[.agg #[.int .i64 p, .int .i64 m, .slice A mod.length c], .slice Aa n ca, .slice X nx cx] [ro A (ints mod), ro Aa (hdrs rs), rowsR rs, ro X (ints l)] (isV (.bool (memB p m mod rs l))) := by
  obtain ⟨qs, hq⟩ := hc.form
  exact ref_RIn p m A c mod w Aa n ca rs hn h9 (by have := hc.n64; omega) hc.good qs hq X nx cx l hnx hlw hin

theorem ref_CList_ent : Enters Try.prog 137 := enters_of Try.func137 (by kernel_rfl) (by kernel_rfl)
theorem ref_CList (p m : Int) (A : Option Addr) (c : Nat) (mod : List Int) [hF : IsF p m mod] (w : Int) (hw9 : w ≤ 1000000) (X : Option Addr) (nx cx : Nat) (l : List Int) (hnx : nx = l.length) (hlw : (l.length : Int) = w) (hin : AllIn (pw p m) l) :
    Pure Try.prog 137 #[.agg #[.int .i64 p, .int .i64 m, .slice A mod.length c], .slice X nx cx, .int .i64 w] [ro A (ints mod), ro X (ints l)] (isV (.int .i64 0)) := by
  have hEn : entC (ordI p m) l = 0 := entC_ok (by rw [hF.ord]; exact hin)
  refine pure_of (args := [.agg #[.int .i64 p, .int .i64 m, .slice A mod.length c], .slice X nx cx, .int .i64 w]) 14 Try.func137 rfl rfl rfl ref_CList_ent ⟨id, id, trivial⟩ (fun w0 => ?_)
  refine tr_seq ?_
  refine tr_region fun _ _ _ => ?_
  refine ef rfl rfl (eBox rfl rfl rfl rfl rfl (fun p0 => ?_)) 
  refine pu rfl rfl rfl rfl rfl ?_
  refine tr_seq ?_
  refine tr_seq ?_
  refine tr_region fun _ _ _ => ?_
  refine pu rfl rfl rfl rfl rfl ?_
  refine st rfl rfl rfl rfl (rLen rfl rfl) ?_
  iterate 2 refine pu rfl rfl rfl rfl rfl ?_
  refine tr_cond_bool rfl (fun h1 => ?_) (fun h1 => ?_)
  · try simp only [zb1, zb2, zb3, zb4, zb5, zb6, zb7, zb8, zb9, zb10] at h1
    omega --done
  · try simp only [zb1, zb2, zb3, zb4, zb5, zb6, zb7, zb8, zb9, zb10] at h1
    refine tr_skip ?_
    refine tr_seq ?_
    refine tr_region fun _ _ _ => ?_
    refine st rfl rfl rfl rfl (rLdS rfl rfl rfl) ?_
    refine pu rfl rfl rfl rfl rfl ?_
    refine ef rfl rfl (eCallV rfl rfl rfl (ref_Entries _ _ _ _ _ _ _ _ l hnx (by omega)) ⟨rfl, rfl, trivial⟩ ?_) 
    refine pu rfl rfl rfl rfl rfl ?_
    exact tr_ret ⟨trivial, _, _, rfl, ⟨by rw [hEn], rfl⟩, CSub.nil _, trivial⟩

theorem ref_CWord_ent : Enters Try.prog 89 := enters_of Try.func89 (by kernel_rfl) (by kernel_rfl)
theorem ref_CWord (p m : Int) (A : Option Addr) (c : Nat) (mod : List Int) [hF : IsF p m mod] (w : Int) (Aa : Option Addr) (n ca : Nat) (rs : List RowM) (hn : n = rs.length) (h9 : rs.length ≤ 256) (hc : CodeOk p m mod w rs) (X : Option Addr) (nx cx : Nat) (l : List Int) (hnx : nx = l.length) (hlw : (l.length : Int) = w) (hin : AllIn (pw p m) l) :
    Pure Try.prog 89 #[.agg #[.int .i64 p, .int .i64 m, .slice A mod.length c, .int .i64 w, .slice Aa n ca], .slice X nx cx] [ro A (ints mod), ro Aa (hdrs rs), rowsR rs, ro X (ints l)] (isV (.int .i64 0)) := by
  have hl9 := hF.short
  have hn1 := hc.n1
  have hn64 := hc.n64
  have hlen := hc.len
  have hgd := hc.good
  have h8 := hgd.h8 (N := 17592186044415) (by omega)
  have hck := hc.zero
  refine pure_of (args := [.agg #[.int .i64 p, .int .i64 m, .slice A mod.length c, .int .i64 w, .slice Aa n ca], .slice X nx cx]) 17 Try.func89 rfl rfl rfl ref_CWord_ent ⟨id, id, id, id, trivial⟩ (fun w0 => ?_)
  refine tr_seq ?_
  refine tr_region fun _ _ _ => ?_
  refine ef rfl rfl (eBox rfl rfl rfl rfl rfl (fun p0 => ?_)) 
  refine pu rfl rfl rfl rfl rfl ?_
  refine tr_seq ?_
  refine tr_region fun _ _ _ => ?_
  refine st rfl rfl rfl rfl (rLdS rfl rfl rfl) ?_
  refine ef rfl rfl (eCallV rfl rfl rfl (ref_CCheck _ _ _ _ _ (by omega) w Aa _ ca rs hn (by omega) h8) ⟨rfl, trivial⟩ ?_) 
  refine pu rfl rfl rfl rfl rfl ?_
  refine tr_seq ?_
  refine tr_seq ?_
  refine tr_region fun _ _ _ => ?_
  iterate 2 refine pu rfl rfl rfl rfl rfl ?_
  refine tr_cond_bool rfl (fun h2 => ?_) (fun h2 => ?_)
  · try simp only [zb1, zb2, zb3, zb4, zb5, zb6, zb7, zb8, zb9, zb10] at h2
    refine tr_region fun _ _ _ => ?_
    refine st rfl rfl rfl rfl (rFld rfl rfl) ?_
    refine st rfl rfl rfl rfl (rLdSF rfl rfl) ?_
    refine pu rfl rfl rfl rfl rfl ?_
    refine st rfl rfl rfl rfl (rFld rfl rfl) ?_
    refine st rfl rfl rfl rfl (rLdF rfl rfl rfl) ?_
    refine ef rfl rfl (eCallV rfl rfl rfl (ref_CList _ _ _ _ _ w (by omega) X _ _ l hnx hlw hin) ⟨rfl, rfl, rfl, trivial⟩ ?_) 
    refine pu rfl rfl rfl rfl rfl ?_
    refine tr_seq ?_
    refine tr_region fun _ _ _ => ?_
    iterate 2 refine pu rfl rfl rfl rfl rfl ?_
    exact tr_ret ⟨trivial, _, _, rfl, ⟨rfl, rfl⟩, CSub.nil _, trivial⟩
  · try simp only [zb1, zb2, zb3, zb4, zb5, zb6, zb7, zb8, zb9, zb10] at h2
    omega --done

theorem ref_CHas_ent : Enters Try.prog 34 := enters_of Try.func34 (by kernel_rfl) (by kernel_rfl)
theorem ref_CHas (p m : Int) (A : Option Addr) (c : Nat) (mod : List Int) [hF : IsF p m mod] (w : Int) (Aa : Option Addr) (n ca : Nat) (rs : List RowM) (hn : n = rs.length) (h9 : rs.length ≤ 256) (hc : CodeOk p m mod w rs) (X : Option Addr) (nx cx : Nat) (l : List Int) (hnx : nx = l.length) (hlw : (l.length : Int) = w) (hin : AllIn (pw p m) l) :
    Pure Try.prog 34 #[.agg #[.int .i64 p, .int .i64 m, .slice A mod.length c, .int .i64 w, .slice Aa n ca], .slice X nx cx] [ro A (ints mod), ro Aa (hdrs rs), rowsR rs, ro X (ints l)] (isV (.tuple #[.bool (memB p m mod rs l), .int .i64 0])) := by
  have hl9 := hF.short
  have hn1 := hc.n1
  have hn64 := hc.n64
  have hlen := hc.len
  have hgd := hc.good
  have h8 := hgd.h8 (N := 17592186044415) (by omega)
  have hck := hc.zero
  refine pure_of (args := [.agg #[.int .i64 p, .int .i64 m, .slice A mod.length c, .int .i64 w, .slice Aa n ca], .slice X nx cx]) 19 Try.func34 rfl rfl rfl ref_CHas_ent ⟨id, id, id, id, trivial⟩ (fun w0 => ?_)
  refine tr_seq ?_
  refine tr_region fun _ _ _ => ?_
  refine ef rfl rfl (eBox rfl rfl rfl rfl rfl (fun p0 => ?_)) 
  iterate 2 refine pu rfl rfl rfl rfl rfl ?_
  refine tr_seq ?_
  refine tr_region fun _ _ _ => ?_
  refine st rfl rfl rfl rfl (rLdS rfl rfl rfl) ?_
  refine pu rfl rfl rfl rfl rfl ?_
  refine ef rfl rfl (eCallV rfl rfl rfl (ref_CWord _ _ _ _ _ w Aa n ca rs hn h9 hc X nx cx l hnx hlw hin) ⟨rfl, rfl, trivial⟩ ?_) 
  refine pu rfl rfl rfl rfl rfl ?_
  refine tr_seq ?_
  refine tr_seq ?_
  refine tr_region fun _ _ _ => ?_
  iterate 2 refine pu rfl rfl rfl rfl rfl ?_
  refine tr_cond_bool rfl (fun h2 => ?_) (fun h2 => ?_)
  · try simp only [zb1, zb2, zb3, zb4, zb5, zb6, zb7, zb8, zb9, zb10] at h2
    first | exact absurd trivial h2 | exact absurd rfl h2 | omega | (exact absurd h2 (by simp)) --done
  · try simp only [zb1, zb2, zb3, zb4, zb5, zb6, zb7, zb8, zb9, zb10] at h2
    refine tr_skip ?_
    refine tr_seq ?_
    refine tr_region fun _ _ _ => ?_
    refine st rfl rfl rfl rfl (rFld rfl rfl) ?_
    refine st rfl rfl rfl rfl (rLdSF rfl rfl) ?_
    refine st rfl rfl rfl rfl (rFld rfl rfl) ?_
    refine st rfl rfl rfl rfl (rLdF rfl rfl rfl) ?_
    refine pu rfl rfl rfl rfl rfl ?_
    refine ef rfl rfl (eCallV rfl rfl rfl (ref_RIn' _ _ _ _ _ w Aa n ca rs hn h9 hc X nx cx l hnx hlw hin) ⟨rfl, rfl, rfl, trivial⟩ ?_) 
    iterate 2 refine pu rfl rfl rfl rfl rfl ?_
    exact tr_ret ⟨trivial, _, _, rfl, ⟨rfl, rfl⟩, CSub.nil _, trivial⟩

end Go.Proofs.Ytjmojhflnjbgaaa

set_option linter.unusedSimpArgs false
set_option linter.unusedVariables false
set_option maxRecDepth 100000
namespace Go.Proofs.Ytjmojhflnjbgaaa
open Go.RowKit

theorem ref_PAt_ent : Enters Try.prog 174 := enters_of Try.func174 (by kernel_rfl) (by kernel_rfl)
theorem ref_PAt (p m : Int) (A : Option Addr) (c : Nat) (mod : List Int) [hF : IsF p m mod] (Xa : Option Addr) (na ca : Nat) (a : List Int) (hna : na = a.length) (ha9 : a.length ≤ 1000000000) (i : Int) (hi : 0 ≤ i) :
    Pure Try.prog 174 #[.agg #[.int .i64 p, .int .i64 m, .slice A mod.length c], .slice Xa na ca, .int .i64 i] [ro A (ints mod), ro Xa (ints a)] (isV (.int .i64 (el (a.getD i.toNat 0) : El p m mod).1)) := by
  refine pure_of (args := [.agg #[.int .i64 p, .int .i64 m, .slice A mod.length c], .slice Xa na ca, .int .i64 i]) 21 Try.func174 rfl rfl rfl ref_PAt_ent ⟨id, id, trivial⟩ (fun w0 => ?_)
  refine tr_seq ?_
  refine tr_region fun _ _ _ => ?_
  refine ef rfl rfl (eBox rfl rfl rfl rfl rfl (fun p0 => ?_)) 
  refine pu rfl rfl rfl rfl rfl ?_
  refine tr_seq ?_
  refine tr_seq ?_
  refine tr_region fun _ _ _ => ?_
  iterate 3 refine pu rfl rfl rfl rfl rfl ?_
  refine stg rfl rfl rfl rfl rfl (fun hb => by (have hq := hb; try simp only [zb1, zb2, zb3, zb4, zb5, zb6, zb7, zb8, zb9, zb10] at hq); exact rMove rfl rfl) ?_
  refine stg rfl rfl rfl rfl rfl (fun hb => by (have hq := hb; try simp only [zb1, zb2, zb3, zb4, zb5, zb6, zb7, zb8, zb9, zb10] at hq); exact rMove rfl rfl) ?_
  refine stg rfl rfl rfl rfl rfl (fun hb => by (have hq := hb; try simp only [zb1, zb2, zb3, zb4, zb5, zb6, zb7, zb8, zb9, zb10] at hq); exact rLen rfl (evg rfl hb)) ?_
  refine stg rfl rfl rfl rfl rfl (fun hb => by (have hq := hb; try simp only [zb1, zb2, zb3, zb4, zb5, zb6, zb7, zb8, zb9, zb10] at hq); exact rGeq rfl (evg rfl hb) (evg rfl hb)) ?_
  refine st rfl rfl rfl rfl (rOrB rfl rfl rfl rfl) ?_
  refine tr_cond_bool rfl (fun h1 => ?_) (fun h1 => ?_)
  · try simp only [zb1, zb2, zb3, zb4, zb5, zb6, zb7, zb8, zb9, zb10] at h1
    refine tr_seq ?_
    refine tr_region fun _ _ _ => ?_
    refine pu rfl rfl rfl rfl rfl ?_
    exact tr_ret ⟨trivial, _, _, rfl, ⟨by rw [getD_out (by omega), el_zero]; rfl, rfl⟩, CSub.nil _, trivial⟩
  · try simp only [zb1, zb2, zb3, zb4, zb5, zb6, zb7, zb8, zb9, zb10] at h1
    refine tr_skip ?_
    refine tr_seq ?_
    refine tr_draw [0, 1, 2, 3, 4, 5, 6] [] mixed (by kernel_rfl) fun _ _ _ => ?_
    refine st rfl rfl rfl rfl (rLdS rfl rfl rfl) ?_
    iterate 2 refine pu rfl rfl rfl rfl rfl ?_
    refine st rfl rfl rfl rfl (rIdxI rfl rfl rfl (by omega) (by omega) (by omega)) ?_
    refine st rfl rfl rfl rfl (rLdI rfl rfl (by omega)) ?_
    refine ef rfl rfl (eCallV rfl rfl rfl (ref_In _ _ _ _ _ _) ⟨rfl, rfl, trivial⟩ ?_) 
    refine pu rfl rfl rfl rfl rfl ?_
    exact tr_ret ⟨trivial, _, _, rfl, ⟨by rw [hF.ord]; rfl, rfl⟩, CSub.nil _, trivial⟩

section
variable {p m : Int} {mod : List Int} [hF : IsF p m mod]
theorem pol_at {l : List Int} {f : Po (El p m mod)} (h : ∀ j, (el (l.getD j 0) : El p m mod) = Po.cf f j) : (pol l : Po (El p m mod)) = f := Po.ext h
end

theorem ref_PAdd_ent : Enters Try.prog 135 := enters_of Try.func135 (by kernel_rfl) (by kernel_rfl)
theorem ref_PAdd (p m : Int) (A : Option Addr) (c : Nat) (mod : List Int) [hF : IsF p m mod] (Xa : Option Addr) (na ca : Nat) (a : List Int) (hna : na = a.length) (ha9 : a.length ≤ 1000000) (Xb : Option Addr) (nb cb : Nat) (b : List Int) (hnb : nb = b.length) (hb9 : b.length ≤ 1000000) :
    Pure Try.prog 135 #[.agg #[.int .i64 p, .int .i64 m, .slice A mod.length c], .slice Xa na ca, .slice Xb nb cb] [ro A (ints mod), ro Xa (ints a), ro Xb (ints b)] (one (fun v ch => ∃ B cap, v = .slice B (il ((pol a : Po (El p m mod)) + (pol b : Po (El p m mod)))).length cap ∧ ch = ow B 3 cap (ints (il ((pol a : Po (El p m mod)) + (pol b : Po (El p m mod))))))) := by
  refine pure_of (args := [.agg #[.int .i64 p, .int .i64 m, .slice A mod.length c], .slice Xa na ca, .slice Xb nb cb]) 37 Try.func135 rfl rfl rfl ref_PAdd_ent ⟨id, id, id, trivial⟩ (fun w0 => ?_)
  refine tr_seq ?_
  refine tr_region fun _ _ _ => ?_
  refine ef rfl rfl (eBox rfl rfl rfl rfl rfl (fun p0 => ?_)) 
  refine pu rfl rfl rfl rfl rfl ?_
  refine tr_seq ?_
  refine tr_region fun _ _ _ => ?_
  refine pu rfl rfl rfl rfl rfl ?_
  refine st rfl rfl rfl rfl (rLen rfl rfl) ?_
  refine pu rfl rfl rfl rfl rfl ?_
  refine st rfl rfl rfl rfl (rLen rfl rfl) ?_
  refine st rfl rfl rfl rfl (rMax rfl rfl rfl) ?_
  refine ef rfl rfl (eMakeI rfl rfl rfl rfl rfl (by omega) (by omega) (by omega) (fun A1 => ?_)) 
  refine pu rfl rfl rfl rfl rfl ?_
  have hmx : (max (na : Int) (nb : Int)).toNat = max na nb := by omega
  simp only [hmx]
  refine tr_seq ?_
  refine tr_seq ?_
  refine tr_region fun _ _ _ => ?_
  refine pu rfl rfl rfl rfl rfl ?_
  refine tr_block ?_
  refine tr_loop2 (fun (k : Int) (o : List Int) => [(7, .slice A1 (max na nb) (max na nb)), (8, .int .i64 k), (1, .slice Xa na ca), (2, .slice Xb nb cb), (3, .pointer (some p0)), (6, .slice none 0 0)]) (fun (k : Int) (o : List Int) => [ow A1 3 (max na nb) (ints o), blk p0 36 [.int .i64 p, .int .i64 m, .slice A mod.length c], ro A (ints mod), ro Xa (ints a), ro Xb (ints b)]) (fun (k : Int) (o : List Int) => (0 ≤ k ∧ k ≤ (max na nb : Nat)) ∧ o.length = max na nb ∧ ∀ j : Nat, (j : Int) < k → o.getD j 0 = (el (a.getD j 0) + el (b.getD j 0) : El p m mod).1) (fun (k : Int) (o : List Int) => ((max na nb : Nat) - k).toNat) (0) (List.replicate (max na nb) 0) ⟨rfl, rfl, rfl, rfl, rfl, rfl, trivial⟩ (by first | exact cs _ _ | exact CSub.refl _) (⟨⟨by omega, by omega⟩, by simp, fun j hj => by omega⟩) (fun k o hI => ?_)
  obtain ⟨⟨hk0, hk1⟩, hol, ho⟩ := hI
  refine tr_seq ?_
  refine tr_seq ?_
  refine tr_region fun _ _ _ => ?_
  iterate 2 refine pu rfl rfl rfl rfl rfl ?_
  refine st rfl rfl rfl rfl (rLen rfl rfl) ?_
  refine pu rfl rfl rfl rfl rfl ?_
  refine tr_cond_bool rfl (fun h3 => ?_) (fun h3 => ?_)
  · try simp only [zb1, zb2, zb3, zb4, zb5, zb6, zb7, zb8, zb9, zb10] at h3
    refine tr_skip ?_
    refine tr_seq ?_
    refine tr_block ?_
    refine tr_draw [0, 1, 2, 3, 4, 5, 7, 8, 9, 6, 10, 11, 12] [13] mixed (by kernel_rfl) fun _ _ _ => ?_
    iterate 2 refine pu rfl rfl rfl rfl rfl ?_
    refine st rfl rfl rfl rfl (rLdS rfl rfl rfl) ?_
    refine st rfl rfl rfl rfl (rLdS rfl rfl rfl) ?_
    iterate 2 refine pu rfl rfl rfl rfl rfl ?_
    refine st rfl rfl rfl rfl (rLdS rfl rfl rfl) ?_
    iterate 2 refine pu rfl rfl rfl rfl rfl ?_
    refine ef rfl rfl (eCallV rfl rfl rfl (ref_PAt _ _ _ _ _ _ _ _ _ (by first | rfl | omega | simp) (by omega) _ (by omega)) ⟨rfl, rfl, rfl, trivial⟩ ?_) 
    refine ef rfl rfl (eCallV rfl rfl rfl (ref_PAt _ _ _ _ _ _ _ _ _ (by first | rfl | omega | simp) (by omega) _ (by omega)) ⟨rfl, rfl, rfl, trivial⟩ ?_) 
    refine ef rfl rfl (eCallV rfl rfl rfl (ref_AddE _ _ _ _ _ _ _) ⟨rfl, rfl, rfl, trivial⟩ ?_) 
    refine st rfl rfl rfl rfl (rIdxI rfl rfl rfl (by omega) (by omega) (by omega)) ?_
    refine ef rfl rfl (eStI rfl rfl rfl rfl (by omega) ?_) 
    refine tr_region fun _ _ _ => ?_
    refine pu rfl rfl rfl rfl rfl ?_
    refine st rfl rfl rfl rfl (rAdd rfl rfl rfl (by omega) (by omega)) ?_
    refine pu rfl rfl rfl rfl rfl ?_
    refine ⟨k + 1, o.set k.toNat (el (el (a.getD k.toNat 0) : El p m mod).1 + el (el (b.getD k.toNat 0) : El p m mod).1 : El p m mod).1, ⟨rfl, rfl, rfl, rfl, rfl, rfl, trivial⟩, by first | exact cs _ _ | exact CSub.refl _, ?_⟩
    refine ⟨⟨⟨by omega, by omega⟩, by simpa using hol, fun j hj => ?_⟩, by omega⟩
    rw [getD_set]
    by_cases he : k.toNat = j
    · subst he; rw [if_pos ⟨rfl, by omega⟩, el_of, el_of]
    · rw [if_neg (fun e => he e.1)]; exact ho j (by omega)
  · try simp only [zb1, zb2, zb3, zb4, zb5, zb6, zb7, zb8, zb9, zb10] at h3
    refine tr_exit ?_
    refine tr_seq ?_
    refine tr_region fun _ _ _ => ?_
    refine st rfl rfl rfl rfl (rLdS rfl rfl rfl) ?_
    refine pu rfl rfl rfl rfl rfl ?_
    refine ef rfl rfl (eCall1 rfl rfl rfl (ref_CanonE _ _ _ _ _ _ _ _ o (by omega) (by omega)) ⟨rfl, rfl, trivial⟩ ?_) 
    rintro _ _ ⟨B6, c6, rfl, rfl⟩
    refine pu rfl rfl rfl rfl rfl ?_
    have hp : (pol o : Po (El p m mod)) = pol a + pol b := pol_at fun j => by
      rw [Po.cf_add, cf_pol, cf_pol]
      by_cases hj : (j : Int) < k
      · rw [ho j hj, el_of]
      · rw [getD_out (by omega), getD_out (l := a) (by omega), getD_out (l := b) (by omega), el_zero]; grind
    rw [← hp]
    exact tr_ret ⟨trivial, _, _, rfl, ⟨_, rfl, B6, c6, rfl, rfl⟩, cs _ _, trivial, trivial⟩

theorem ref_PScale_ent : Enters Try.prog 134 := enters_of Try.func134 (by kernel_rfl) (by kernel_rfl)
theorem ref_PScale (p m : Int) (A : Option Addr) (c : Nat) (mod : List Int) [hF : IsF p m mod] (x : Int) (Xa : Option Addr) (na ca : Nat) (a : List Int) (hna : na = a.length) (ha9 : a.length ≤ 1000000) :
    Pure Try.prog 134 #[.agg #[.int .i64 p, .int .i64 m, .slice A mod.length c], .int .i64 x, .slice Xa na ca] [ro A (ints mod), ro Xa (ints a)] (one (fun v ch => ∃ B cap, v = .slice B (il (Po.C (el x) * (pol a : Po (El p m mod)))).length cap ∧ ch = ow B 3 cap (ints (il (Po.C (el x) * (pol a : Po (El p m mod))))))) := by
  refine pure_of (args := [.agg #[.int .i64 p, .int .i64 m, .slice A mod.length c], .int .i64 x, .slice Xa na ca]) 31 Try.func134 rfl rfl rfl ref_PScale_ent ⟨id, id, trivial⟩ (fun w0 => ?_)
  refine tr_seq ?_
  refine tr_region fun _ _ _ => ?_
  refine ef rfl rfl (eBox rfl rfl rfl rfl rfl (fun p0 => ?_)) 
  refine pu rfl rfl rfl rfl rfl ?_
  refine tr_seq ?_
  refine tr_region fun _ _ _ => ?_
  refine pu rfl rfl rfl rfl rfl ?_
  refine st rfl rfl rfl rfl (rLen rfl rfl) ?_
  refine ef rfl rfl (eMakeI rfl rfl rfl rfl rfl (by omega) (by omega) (by omega) (fun A1 => ?_)) 
  refine pu rfl rfl rfl rfl rfl ?_
  simp only [Int.toNat_natCast]
  refine tr_seq ?_
  refine tr_seq ?_
  refine tr_region fun _ _ _ => ?_
  refine pu rfl rfl rfl rfl rfl ?_
  refine tr_block ?_
  refine tr_loop2 (fun (k : Int) (o : List Int) => [(7, .slice A1 na na), (8, .int .i64 k), (1, .int .i64 x), (2, .slice Xa na ca), (3, .pointer (some p0)), (6, .slice none 0 0)]) (fun (k : Int) (o : List Int) => [ow A1 3 na (ints o), blk p0 36 [.int .i64 p, .int .i64 m, .slice A mod.length c], ro A (ints mod), ro Xa (ints a)]) (fun (k : Int) (o : List Int) => (0 ≤ k ∧ k ≤ na) ∧ o.length = na ∧ ∀ j : Nat, (j : Int) < k → o.getD j 0 = (el x * el (a.getD j 0) : El p m mod).1) (fun (k : Int) (o : List Int) => (na - k).toNat) (0) (List.replicate na 0) ⟨rfl, rfl, rfl, rfl, rfl, rfl, trivial⟩ (by first | exact cs _ _ | exact CSub.refl _) (⟨⟨by omega, by omega⟩, by simp, fun j hj => by omega⟩) (fun k o hI => ?_)
  obtain ⟨⟨hk0, hk1⟩, hol, ho⟩ := hI
  refine tr_seq ?_
  refine tr_seq ?_
  refine tr_region fun _ _ _ => ?_
  iterate 2 refine pu rfl rfl rfl rfl rfl ?_
  refine st rfl rfl rfl rfl (rLen rfl rfl) ?_
  refine pu rfl rfl rfl rfl rfl ?_
  refine tr_cond_bool rfl (fun h3 => ?_) (fun h3 => ?_)
  · try simp only [zb1, zb2, zb3, zb4, zb5, zb6, zb7, zb8, zb9, zb10] at h3
    refine tr_skip ?_
    refine tr_seq ?_
    refine tr_block ?_
    refine tr_draw [0, 1, 2, 3, 4, 5, 6, 7, 8, 9] [10] mixed (by kernel_rfl) fun _ _ _ => ?_
    iterate 2 refine pu rfl rfl rfl rfl rfl ?_
    refine st rfl rfl rfl rfl (rLdS rfl rfl rfl) ?_
    iterate 3 refine pu rfl rfl rfl rfl rfl ?_
    refine st rfl rfl rfl rfl (rIdxI rfl rfl rfl (by omega) (by omega) (by omega)) ?_
    refine st rfl rfl rfl rfl (rLdI rfl rfl (by omega)) ?_
    refine ef rfl rfl (eCallV rfl rfl rfl (ref_MulE _ _ _ _ _ _ _) ⟨rfl, rfl, rfl, trivial⟩ ?_) 
    refine st rfl rfl rfl rfl (rIdxI rfl rfl rfl (by omega) (by omega) (by omega)) ?_
    refine ef rfl rfl (eStI rfl rfl rfl rfl (by omega) ?_) 
    refine tr_region fun _ _ _ => ?_
    refine pu rfl rfl rfl rfl rfl ?_
    refine st rfl rfl rfl rfl (rAdd rfl rfl rfl (by omega) (by omega)) ?_
    refine pu rfl rfl rfl rfl rfl ?_
    refine ⟨k + 1, o.set k.toNat (el x * el (a.getD k.toNat 0) : El p m mod).1, ⟨rfl, rfl, rfl, rfl, rfl, rfl, trivial⟩, by first | exact cs _ _ | exact CSub.refl _, ?_⟩
    refine ⟨⟨⟨by omega, by omega⟩, by simpa using hol, fun j hj => ?_⟩, by omega⟩
    rw [getD_set]
    by_cases he : k.toNat = j
    · subst he; rw [if_pos ⟨rfl, by omega⟩]
    · rw [if_neg (fun e => he e.1)]; exact ho j (by omega)
  · try simp only [zb1, zb2, zb3, zb4, zb5, zb6, zb7, zb8, zb9, zb10] at h3
    refine tr_exit ?_
    refine tr_seq ?_
    refine tr_region fun _ _ _ => ?_
    refine st rfl rfl rfl rfl (rLdS rfl rfl rfl) ?_
    refine pu rfl rfl rfl rfl rfl ?_
    refine ef rfl rfl (eCall1 rfl rfl rfl (ref_CanonE _ _ _ _ _ _ _ _ o (by omega) (by omega)) ⟨rfl, rfl, trivial⟩ ?_) 
    rintro _ _ ⟨B6, c6, rfl, rfl⟩
    refine pu rfl rfl rfl rfl rfl ?_
    have hp : (pol o : Po (El p m mod)) = Po.C (el x) * pol a := pol_at fun j => by
      rw [Po.cf_C_mul, cf_pol]
      by_cases hj : (j : Int) < k
      · rw [ho j hj, el_of]
      · rw [getD_out (by omega), getD_out (l := a) (by omega), el_zero]; grind
    rw [← hp]
    exact tr_ret ⟨trivial, _, _, rfl, ⟨_, rfl, B6, c6, rfl, rfl⟩, cs _ _, trivial, trivial⟩

section
variable {p m : Int} {mod : List Int} [hF : IsF p m mod]
theorem il_C_le (x : Int) (a : List Int) : (il (Po.C (el x) * (pol a : Po (El p m mod)))).length ≤ a.length := by
  rw [il_length]; exact Po.len_le fun j hj => by rw [Po.cf_C_mul, pol_sh a j hj, Fd.mul_zero]
theorem C_neg_one (f : Po (El p m mod)) : Po.C (el (-(el 1 : El p m mod)).1 : El p m mod) * f = -f := Po.ext fun j => by rw [Po.cf_C_mul, el_of, el_one, Po.cf_neg]; grind
end

theorem ref_PSub_ent : Enters Try.prog 87 := enters_of Try.func87 (by kernel_rfl) (by kernel_rfl)
theorem ref_PSub (p m : Int) (A : Option Addr) (c : Nat) (mod : List Int) [hF : IsF p m mod] (Xa : Option Addr) (na ca : Nat) (a : List Int) (hna : na = a.length) (ha9 : a.length ≤ 1000000) (Xb : Option Addr) (nb cb : Nat) (b : List Int) (hnb : nb = b.length) (hb9 : b.length ≤ 1000000) :
    Pure Try.prog 87 #[.agg #[.int .i64 p, .int .i64 m, .slice A mod.length c], .slice Xa na ca, .slice Xb nb cb] [ro A (ints mod), ro Xa (ints a), ro Xb (ints b)] (one (fun v ch => ∃ B cap, v = .slice B (il ((pol a : Po (El p m mod)) - (pol b : Po (El p m mod)))).length cap ∧ ch = ow B 3 cap (ints (il ((pol a : Po (El p m mod)) - (pol b : Po (El p m mod))))))) := by
  refine pure_of (args := [.agg #[.int .i64 p, .int .i64 m, .slice A mod.length c], .slice Xa na ca, .slice Xb nb cb]) 15 Try.func87 rfl rfl rfl ref_PSub_ent ⟨id, id, id, trivial⟩ (fun w0 => ?_)
  refine tr_seq ?_
  refine tr_region fun _ _ _ => ?_
  refine ef rfl rfl (eBox rfl rfl rfl rfl rfl (fun p0 => ?_)) 
  refine pu rfl rfl rfl rfl rfl ?_
  refine tr_seq ?_
  refine tr_draw [0, 1, 2, 3, 5, 4, 6, 7, 8] [] mixed (by kernel_rfl) fun _ _ _ => ?_
  refine st rfl rfl rfl rfl (rLdS rfl rfl rfl) ?_
  refine pu rfl rfl rfl rfl rfl ?_
  refine st rfl rfl rfl rfl (rLdS rfl rfl rfl) ?_
  refine st rfl rfl rfl rfl (rLdS rfl rfl rfl) ?_
  refine pu rfl rfl rfl rfl rfl ?_
  refine ef rfl rfl (eCallV rfl rfl rfl (ref_NegE _ _ _ _ _ _) ⟨rfl, rfl, trivial⟩ ?_) 
  refine ef rfl rfl (eCall1 rfl rfl rfl (ref_PScale _ _ _ _ _ _ Xb _ _ b hnb hb9) ⟨rfl, rfl, rfl, trivial⟩ ?_) 
  rintro _ _ ⟨Bs, cs_, rfl, rfl⟩
  refine ef rfl rfl (eCall1 rfl rfl rfl (ref_PAdd _ _ _ _ _ Xa _ _ a hna ha9 Bs _ _ _ rfl (by have := il_C_le (p := p) (m := m) (mod := mod) (-(el 1 : El p m mod)).1 b; omega)) ⟨rfl, rfl, rfl, trivial⟩ ?_) 
  rintro _ _ ⟨Br, cr, rfl, rfl⟩
  refine pu rfl rfl rfl rfl rfl ?_
  have hp : ((pol a : Po (El p m mod)) + (pol (il (Po.C (el (-(el 1 : El p m mod)).1 : El p m mod) * (pol b : Po (El p m mod)))) : Po (El p m mod))) = (pol a : Po (El p m mod)) - (pol b : Po (El p m mod)) := by rw [pol_il, C_neg_one]; rfl
  rw [hp]
  exact tr_ret ⟨trivial, _, _, rfl, ⟨_, rfl, Br, cr, rfl, rfl⟩, cs _ _, trivial, trivial⟩

theorem ref_PDegree_ent : Enters Try.prog 31 := enters_of Try.func31 (by kernel_rfl) (by kernel_rfl)
theorem ref_PDegree (p m : Int) (A : Option Addr) (c : Nat) (mod : List Int) [hF : IsF p m mod] (Xa : Option Addr) (na ca : Nat) (a : List Int) (hna : na = a.length) (ha9 : a.length ≤ 1000000) :
    Pure Try.prog 31 #[.agg #[.int .i64 p, .int .i64 m, .slice A mod.length c], .slice Xa na ca] [ro A (ints mod), ro Xa (ints a)] (isV (.int .i64 ((Po.len (pol a : Po (El p m mod)) : Int) - 1))) := by
  have hil := il_le (p := p) (m := m) (mod := mod) a
  refine pure_of (args := [.agg #[.int .i64 p, .int .i64 m, .slice A mod.length c], .slice Xa na ca]) 10 Try.func31 rfl rfl rfl ref_PDegree_ent ⟨id, id, trivial⟩ (fun w0 => ?_)
  refine tr_seq ?_
  refine tr_region fun _ _ _ => ?_
  refine ef rfl rfl (eBox rfl rfl rfl rfl rfl (fun p0 => ?_)) 
  refine pu rfl rfl rfl rfl rfl ?_
  refine tr_seq ?_
  refine tr_region fun _ _ _ => ?_
  refine st rfl rfl rfl rfl (rLdS rfl rfl rfl) ?_
  refine pu rfl rfl rfl rfl rfl ?_
  refine ef rfl rfl (eCall1 rfl rfl rfl (ref_CanonE _ _ _ _ _ _ _ _ a hna (by omega)) ⟨rfl, rfl, trivial⟩ ?_) 
  rintro _ _ ⟨B1, c1, rfl, rfl⟩
  refine st rfl rfl rfl rfl (rLen rfl rfl) ?_
  refine st rfl rfl rfl rfl (rSub rfl rfl rfl (by omega) (by omega)) ?_
  refine pu rfl rfl rfl rfl rfl ?_
  exact tr_ret ⟨trivial, _, _, rfl, ⟨by rw [il_length], rfl⟩, CSub.nil _, trivial⟩

theorem ref_PMonic_ent : Enters Try.prog 86 := enters_of Try.func86 (by kernel_rfl) (by kernel_rfl)
theorem ref_PMonic (p m : Int) (A : Option Addr) (c : Nat) (mod : List Int) [hF : IsF p m mod] (Xa : Option Addr) (na ca : Nat) (a : List Int) (hna : na = a.length) (ha9 : a.length ≤ 1000000) :
    Pure Try.prog 86 #[.agg #[.int .i64 p, .int .i64 m, .slice A mod.length c], .slice Xa na ca] [ro A (ints mod), ro Xa (ints a)] (one (fun v ch => ∃ B cap, v = .slice B (il (Po.mon (pol a : Po (El p m mod)))).length cap ∧ ch = ow B 3 cap (ints (il (Po.mon (pol a : Po (El p m mod))))))) := by
  have hil := il_le (p := p) (m := m) (mod := mod) a
  refine pure_of (args := [.agg #[.int .i64 p, .int .i64 m, .slice A mod.length c], .slice Xa na ca]) 23 Try.func86 rfl rfl rfl ref_PMonic_ent ⟨id, id, trivial⟩ (fun w0 => ?_)
  refine tr_seq ?_
  refine tr_region fun _ _ _ => ?_
  refine ef rfl rfl (eBox rfl rfl rfl rfl rfl (fun p0 => ?_)) 
  refine pu rfl rfl rfl rfl rfl ?_
  refine tr_seq ?_
  refine tr_region fun _ _ _ => ?_
  refine st rfl rfl rfl rfl (rLdS rfl rfl rfl) ?_
  refine pu rfl rfl rfl rfl rfl ?_
  refine ef rfl rfl (eCall1 rfl rfl rfl (ref_CanonE _ _ _ _ _ _ _ _ a hna (by omega)) ⟨rfl, rfl, trivial⟩ ?_) 
  rintro _ _ ⟨B1, c1, rfl, rfl⟩
  refine pu rfl rfl rfl rfl rfl ?_
  refine tr_seq ?_
  refine tr_seq ?_
  refine tr_region fun _ _ _ => ?_
  refine pu rfl rfl rfl rfl rfl ?_
  refine st rfl rfl rfl rfl (rLen rfl rfl) ?_
  refine pu rfl rfl rfl rfl rfl ?_
  refine tr_cond_bool rfl (fun h2 => ?_) (fun h2 => ?_)
  · try simp only [zb1, zb2, zb3, zb4, zb5, zb6, zb7, zb8, zb9, zb10] at h2
    refine tr_seq ?_
    refine tr_region fun _ _ _ => ?_
    iterate 2 refine pu rfl rfl rfl rfl rfl ?_
    have h0 : (pol a : Po (El p m mod)) = 0 := Po.eq_zero_of_len (by rw [← il_length]; omega)
    rw [show Po.mon (pol a : Po (El p m mod)) = pol a by rw [h0, Po.mon_zero]]
    exact tr_ret ⟨trivial, _, _, rfl, ⟨_, rfl, B1, c1, rfl, rfl⟩, cs _ _, trivial, trivial⟩
  · try simp only [zb1, zb2, zb3, zb4, zb5, zb6, zb7, zb8, zb9, zb10] at h2
    refine tr_skip ?_
    refine tr_seq ?_
    refine tr_draw [0, 1, 2, 3, 4, 5, 6, 7, 9, 8, 10, 11] [] mixed (by kernel_rfl) fun _ _ _ => ?_
    refine st rfl rfl rfl rfl (rLdS rfl rfl rfl) ?_
    refine st rfl rfl rfl rfl (rLdS rfl rfl rfl) ?_
    iterate 2 refine pu rfl rfl rfl rfl rfl ?_
    refine st rfl rfl rfl rfl (rLen rfl rfl) ?_
    refine st rfl rfl rfl rfl (rSub rfl rfl rfl (by omega) (by omega)) ?_
    refine st rfl rfl rfl rfl (rIdxI rfl rfl rfl (by omega) (by omega) (by omega)) ?_
    refine st rfl rfl rfl rfl (rLdI rfl rfl (by omega)) ?_
    refine pu rfl rfl rfl rfl rfl ?_
    refine ef rfl rfl (eCallV rfl rfl rfl (ref_InvE _ _ _ _ _ _) ⟨rfl, rfl, trivial⟩ ?_) 
    refine ef rfl rfl (eCall1 rfl rfl rfl (ref_PScale _ _ _ _ _ _ B1 _ _ (il (pol a : Po (El p m mod))) rfl (by omega)) ⟨rfl, rfl, rfl, trivial⟩ ?_) 
    rintro _ _ ⟨Br, cr, rfl, rfl⟩
    refine pu rfl rfl rfl rfl rfl ?_
    have hp : Po.C (el (Fd.inv (el ((il (pol a : Po (El p m mod))).getD ((il (pol a : Po (El p m mod))).length - 1 : Int).toNat 0)) : El p m mod).1) * (pol (il (pol a : Po (El p m mod))) : Po (El p m mod)) = Po.mon (pol a) := by
      rw [el_of, pol_il, il_getD, el_of]
      unfold Po.mon Po.lead
      rw [il_length, show ((Po.len (pol a : Po (El p m mod)) : Int) - 1).toNat = Po.len (pol a : Po (El p m mod)) - 1 by omega]
    rw [hp]
    exact tr_ret ⟨trivial, _, _, rfl, ⟨_, rfl, Br, cr, rfl, rfl⟩, cs _ _, trivial, trivial⟩

theorem ref_Modulus_ent : Enters Try.prog 33 := enters_of Try.func33 (by kernel_rfl) (by kernel_rfl)
theorem ref_Modulus (p m : Int) (A : Option Addr) (c : Nat) (mod : List Int) [hF : IsF p m mod] (n : Int) (hn1 : 1 ≤ n) (hn9 : n ≤ 100000) :
    Pure Try.prog 33 #[.agg #[.int .i64 p, .int .i64 m, .slice A mod.length c], .int .i64 n] [ro A (ints mod)] (one (fun v ch => ∃ B cap, v = .slice B (il ((xn1 n.toNat : Po (El p m mod)))).length cap ∧ ch = ow B 3 cap (ints (il ((xn1 n.toNat : Po (El p m mod))))))) := by
  have hp : (pol (powL n.toNat) : Po (El p m mod)) - pol [1] = xn1 n.toNat := by
    rw [pol_powL]
    unfold xn1
    congr 1
    refine pol_at fun j => ?_
    rw [Po.cf_one]
    cases j with
    | zero => rw [if_pos rfl]; exact el_one
    | succ j => rw [if_neg (by omega)]; exact el_zero
  refine pure_of (args := [.agg #[.int .i64 p, .int .i64 m, .slice A mod.length c], .int .i64 n]) 10 Try.func33 rfl rfl rfl ref_Modulus_ent ⟨id, trivial⟩ (fun w0 => ?_)
  refine tr_seq ?_
  refine tr_region fun _ _ _ => ?_
  refine ef rfl rfl (eBox rfl rfl rfl rfl rfl (fun p0 => ?_)) 
  refine pu rfl rfl rfl rfl rfl ?_
  refine tr_mid (fun (q : (Option Addr) × Nat) => match q with | (Br, cr) => [(4, .slice Br (il (xn1 n.toNat : Po (El p m mod))).length cr)]) (fun (q : (Option Addr) × Nat) => match q with | (Br, cr) => [ow Br 3 cr (ints (il (xn1 n.toNat : Po (El p m mod))))]) ?_ ?_
  · refine tr_tree (.one 0 (.one 1 (.two 2 (.one 3 (.one 4 (.one 5 .nil))) 3 (.one 2 (.one 4 (.one 5 .nil)))))) [] mixed (by kernel_rfl) fun _ _ _ => ?_
    refine st rfl rfl rfl rfl (rLdS rfl rfl rfl) ?_
    refine pu rfl rfl rfl rfl rfl ?_
    refine ⟨?_, ?_⟩
    · refine ef rfl rfl (eCall1 rfl rfl rfl (ref_Power n (by omega) (by omega)) ⟨rfl, trivial⟩ ?_)
      rintro _ _ ⟨Bw, rfl, rfl⟩
      refine ef rfl rfl (eLit1I rfl rfl rfl rfl (fun A1a => ?_)) 
      refine ef rfl rfl (eCall1 rfl rfl rfl (ref_PSub _ _ _ _ _ Bw _ _ (powL n.toNat) rfl (by rw [powL_length]; omega) A1a _ _ [1] rfl (by simp)) ⟨rfl, rfl, rfl, trivial⟩ ?_) 
      rintro _ _ ⟨Br, cr, rfl, rfl⟩
      refine pu rfl rfl rfl rfl rfl ?_
      rw [hp]
      exact ⟨rfl, (Br, cr), ⟨rfl, trivial⟩, by first | exact cs _ _ | exact CSub.refl _⟩
    · refine ef rfl rfl (eLit1I rfl rfl rfl rfl (fun A1a => ?_))
      refine ef rfl rfl (eCall1 rfl rfl rfl (ref_Power n (by omega) (by omega)) ⟨rfl, trivial⟩ ?_) 
      rintro _ _ ⟨Bw, rfl, rfl⟩
      refine ef rfl rfl (eCall1 rfl rfl rfl (ref_PSub _ _ _ _ _ Bw _ _ (powL n.toNat) rfl (by rw [powL_length]; omega) A1a _ _ [1] rfl (by simp)) ⟨rfl, rfl, rfl, trivial⟩ ?_) 
      rintro _ _ ⟨Br, cr, rfl, rfl⟩
      refine pu rfl rfl rfl rfl rfl ?_
      rw [hp]
      exact ⟨rfl, (Br, cr), ⟨rfl, trivial⟩, by first | exact cs _ _ | exact CSub.refl _⟩
  · rintro ⟨Br, cr⟩
    exact tr_ret ⟨trivial, _, _, rfl, ⟨_, rfl, Br, cr, rfl, rfl⟩, cs _ _, trivial, trivial⟩

theorem ref_PDivMod_ent : Enters Try.prog 85 := enters_of Try.func85 (by kernel_rfl) (by kernel_rfl)
theorem ref_PDivMod (p m : Int) (A : Option Addr) (c : Nat) (mod : List Int) [hF : IsF p m mod] (Xa : Option Addr) (na ca : Nat) (a : List Int) (hna : na = a.length) (ha9 : a.length ≤ 1000000) (Xb : Option Addr) (nb cb : Nat) (b : List Int) (hnb : nb = b.length) (hb9 : b.length ≤ 1000000) (h0 : (pol b : Po (El p m mod)) ≠ 0) :
    Pure Try.prog 85 #[.agg #[.int .i64 p, .int .i64 m, .slice A mod.length c], .slice Xa na ca, .slice Xb nb cb] [ro A (ints mod), ro Xa (ints a), ro Xb (ints b)] (two (fun v ch c2 => ∃ B cap B2 cap2, v = .tuple #[.slice B (il (Po.quo (pol a : Po (El p m mod)) (pol b : Po (El p m mod)))).length cap, .slice B2 (il (Po.rem (pol a : Po (El p m mod)) (pol b : Po (El p m mod)))).length cap2] ∧ ch = ow B 3 cap (ints (il (Po.quo (pol a : Po (El p m mod)) (pol b : Po (El p m mod))))) ∧ c2 = ow B2 3 cap2 (ints (il (Po.rem (pol a : Po (El p m mod)) (pol b : Po (El p m mod))))))) := by
  have hila := il_le (p := p) (m := m) (mod := mod) a
  have hilb := il_le (p := p) (m := m) (mod := mod) b
  have hlb := Po.len_pos h0
  rw [← il_length] at hlb
  refine pure_of (args := [.agg #[.int .i64 p, .int .i64 m, .slice A mod.length c], .slice Xa na ca, .slice Xb nb cb]) 72 Try.func85 rfl rfl rfl ref_PDivMod_ent ⟨id, id, id, trivial⟩ (fun w0 => ?_)
  refine tr_seq ?_
  refine tr_region fun _ _ _ => ?_
  refine ef rfl rfl (eBox rfl rfl rfl rfl rfl (fun p0 => ?_)) 
  iterate 2 refine pu rfl rfl rfl rfl rfl ?_
  refine tr_seq ?_
  refine tr_region fun _ _ _ => ?_
  refine st rfl rfl rfl rfl (rLdS rfl rfl rfl) ?_
  refine pu rfl rfl rfl rfl rfl ?_
  refine ef rfl rfl (eCall1 rfl rfl rfl (ref_CanonE _ _ _ _ _ _ _ _ b hnb (by omega)) ⟨rfl, rfl, trivial⟩ ?_) 
  rintro _ _ ⟨B1, c1, rfl, rfl⟩
  refine pu rfl rfl rfl rfl rfl ?_
  refine tr_seq ?_
  refine tr_region fun _ _ _ => ?_
  refine st rfl rfl rfl rfl (rLdS rfl rfl rfl) ?_
  refine pu rfl rfl rfl rfl rfl ?_
  refine ef rfl rfl (eCall1 rfl rfl rfl (ref_CanonE _ _ _ _ _ _ _ _ a hna (by omega)) ⟨rfl, rfl, trivial⟩ ?_) 
  rintro _ _ ⟨B2, c2, rfl, rfl⟩
  refine pu rfl rfl rfl rfl rfl ?_
  refine tr_seq ?_
  refine tr_region fun _ _ _ => ?_
  refine pu rfl rfl rfl rfl rfl ?_
  refine st rfl rfl rfl rfl (rLen rfl rfl) ?_
  refine st rfl rfl rfl rfl (rSub rfl rfl rfl (by omega) (by omega)) ?_
  refine pu rfl rfl rfl rfl rfl ?_
  refine tr_seq ?_
  refine tr_draw [0, 1, 2, 3, 4, 5, 6] [] mixed (by kernel_rfl) fun _ _ _ => ?_
  refine st rfl rfl rfl rfl (rLdS rfl rfl rfl) ?_
  iterate 2 refine pu rfl rfl rfl rfl rfl ?_
  refine st rfl rfl rfl rfl (rIdxI rfl rfl rfl (by omega) (by omega) (by omega)) ?_
  refine st rfl rfl rfl rfl (rLdI rfl rfl (by omega)) ?_
  refine ef rfl rfl (eCallV rfl rfl rfl (ref_InvE _ _ _ _ _ _) ⟨rfl, rfl, trivial⟩ ?_) 
  refine pu rfl rfl rfl rfl rfl ?_
  generalize hiv : (Fd.inv (el ((il (pol b : Po (El p m mod))).getD ((il (pol b : Po (El p m mod))).length - 1 : Int).toNat 0) : El p m mod)).1 = iv
  have hiv2 : (el iv : El p m mod) = Fd.inv (Po.lead (pol b : Po (El p m mod))) := by
    rw [← hiv, el_of, il_getD, el_of]
    unfold Po.lead
    rw [il_length, show ((Po.len (pol b : Po (El p m mod)) : Int) - 1).toNat = Po.len (pol b : Po (El p m mod)) - 1 by omega]
  refine tr_seq ?_
  refine tr_region fun _ _ _ => ?_
  refine pu rfl rfl rfl rfl rfl ?_
  refine st rfl rfl rfl rfl (rLen rfl rfl) ?_
  refine pu rfl rfl rfl rfl rfl ?_
  refine st rfl rfl rfl rfl (rSub rfl rfl rfl (by omega) (by omega)) ?_
  refine st rfl rfl rfl rfl (rMax rfl rfl rfl) ?_
  refine ef rfl rfl (eMakeI rfl rfl rfl rfl rfl (by omega) (by omega) (by omega) (fun A5 => ?_)) 
  refine pu rfl rfl rfl rfl rfl ?_
  generalize hQ : (max ((il (pol a : Po (El p m mod))).length - ((il (pol b : Po (El p m mod))).length - 1) : Int) 0).toNat = Q
  have hQ2 : (Q : Int) = max ((il (pol a : Po (El p m mod))).length - ((il (pol b : Po (El p m mod))).length - 1) : Int) 0 := by omega
  refine tr_seq ?_
  refine tr_block ?_
  refine tr_loop4 (fun (r : Po (El p m mod)) (Br : Option Addr) (cr : Nat) (qo : List Int) => [(2, .slice B1 (il (pol b : Po (El p m mod))).length c1), (8, .slice Br (il r).length cr), (9, .int .i64 ((il (pol b : Po (El p m mod))).length - 1)), (10, .int .i64 iv), (11, .slice A5 Q Q), (3, .pointer (some p0)), (6, .slice none 0 0), (7, .slice none 0 0)]) (fun (r : Po (El p m mod)) (Br : Option Addr) (cr : Nat) (qo : List Int) => [ow A5 3 Q (ints qo), ow Br 3 cr (ints (il r)), ow B1 3 c1 (ints (il (pol b : Po (El p m mod)))), blk p0 36 [.int .i64 p, .int .i64 m, .slice A mod.length c], ro A (ints mod), ro Xa (ints a), ro Xb (ints b)]) (fun (r : Po (El p m mod)) (Br : Option Addr) (cr : Nat) (qo : List Int) => (qo.length = Q ∧ (il r).length ≤ (il (pol a : Po (El p m mod))).length) ∧ (pol a : Po (El p m mod)) = pol qo * (pol b : Po (El p m mod)) + r ∧ ∀ j : Nat, j + (il (pol b : Po (El p m mod))).length ≤ (il r).length → qo.getD j 0 = 0) (fun (r : Po (El p m mod)) (Br : Option Addr) (cr : Nat) (qo : List Int) => (il r).length) ((pol a : Po (El p m mod))) (B2) (c2) (List.replicate Q 0) ⟨rfl, rfl, rfl, rfl, rfl, rfl, rfl, rfl, trivial⟩ (by first | exact cs _ _ | exact CSub.refl _) (⟨⟨by simp, Nat.le_refl _⟩, by rw [pol_rep]; grind, fun j _ => rep_get _ _⟩) (fun r Br cr qo hI => ?_)
  obtain ⟨⟨hql, hrl⟩, heq, hz⟩ := hI
  refine tr_seq ?_
  refine tr_seq ?_
  refine tr_region fun _ _ _ => ?_
  refine pu rfl rfl rfl rfl rfl ?_
  refine st rfl rfl rfl rfl (rLen rfl rfl) ?_
  iterate 2 refine pu rfl rfl rfl rfl rfl ?_
  refine tr_cond_bool rfl (fun h6 => ?_) (fun h6 => ?_)
  · try simp only [zb1, zb2, zb3, zb4, zb5, zb6, zb7, zb8, zb9, zb10] at h6
    refine tr_skip ?_
    refine tr_block ?_
    refine tr_seq ?_
    refine tr_region fun _ _ _ => ?_
    refine pu rfl rfl rfl rfl rfl ?_
    refine st rfl rfl rfl rfl (rLen rfl rfl) ?_
    refine st rfl rfl rfl rfl (rSub rfl rfl rfl (by omega) (by omega)) ?_
    refine pu rfl rfl rfl rfl rfl ?_
    refine st rfl rfl rfl rfl (rSub rfl rfl rfl (by omega) (by omega)) ?_
    refine pu rfl rfl rfl rfl rfl ?_
    refine tr_seq ?_
    refine tr_draw [0, 1, 2, 3, 4, 5, 6, 7, 8, 9] [] mixed (by kernel_rfl) fun _ _ _ => ?_
    refine st rfl rfl rfl rfl (rLdS rfl rfl rfl) ?_
    iterate 2 refine pu rfl rfl rfl rfl rfl ?_
    refine st rfl rfl rfl rfl (rLen rfl rfl) ?_
    refine st rfl rfl rfl rfl (rSub rfl rfl rfl (by omega) (by omega)) ?_
    refine st rfl rfl rfl rfl (rIdxI rfl rfl rfl (by omega) (by omega) (by omega)) ?_
    refine st rfl rfl rfl rfl (rLdI rfl rfl (by omega)) ?_
    refine pu rfl rfl rfl rfl rfl ?_
    refine ef rfl rfl (eCallV rfl rfl rfl (ref_MulE _ _ _ _ _ _ _) ⟨rfl, rfl, rfl, trivial⟩ ?_) 
    refine pu rfl rfl rfl rfl rfl ?_
    refine tr_seq ?_
    refine tr_region fun _ _ _ => ?_
    iterate 3 refine pu rfl rfl rfl rfl rfl ?_
    refine st rfl rfl rfl rfl (rIdxI rfl rfl rfl (by omega) (by omega) (by omega)) ?_
    refine ef rfl rfl (eStI rfl rfl rfl rfl (by omega) ?_) 
    have hls : (il (Po.C (el (el ((il r).getD ((il r).length - 1 : Int).toNat 0) * el iv : El p m mod).1) * (pol (il (pol b : Po (El p m mod))) : Po (El p m mod)))).length ≤ 1000000000 := by
      have := il_C_le (p := p) (m := m) (mod := mod) (el ((il r).getD ((il r).length - 1 : Int).toNat 0) * el iv : El p m mod).1 (il (pol b : Po (El p m mod)))
      omega
    have hlm : (il ((pol (il (Po.C (el (el ((il r).getD ((il r).length - 1 : Int).toNat 0) * el iv : El p m mod).1) * (pol (il (pol b : Po (El p m mod))) : Po (El p m mod)))) : Po (El p m mod)) * pol (powL ((il r).length - 1 - ((il (pol b : Po (El p m mod))).length - 1) : Int).toNat))).length ≤ 1000000 := by
      rw [pol_il, pol_powL, pol_il, il_length]
      refine Po.len_le (fun j hj => ?_)
      rw [Rg.mul_comm, Po.cf_mn_mul]
      split
      · rfl
      · rw [Rg.one_mul, Po.cf_C_mul, Po.cf_ge (by rw [← il_length]; omega), Fd.mul_zero]
    refine tr_draw [0, 1, 2, 3, 4, 5, 7, 6, 8, 9, 10, 11] [] mixed (by kernel_rfl) fun _ _ _ => ?_
    refine st rfl rfl rfl rfl (rLdS rfl rfl rfl) ?_
    refine pu rfl rfl rfl rfl rfl ?_
    refine st rfl rfl rfl rfl (rLdS rfl rfl rfl) ?_
    refine st rfl rfl rfl rfl (rLdS rfl rfl rfl) ?_
    iterate 3 refine pu rfl rfl rfl rfl rfl ?_
    refine ef rfl rfl (eCall1 rfl rfl rfl (ref_PScale _ _ _ _ _ _ B1 _ _ (il (pol b : Po (El p m mod))) rfl (by omega)) ⟨rfl, rfl, rfl, trivial⟩ ?_) 
    rintro _ _ ⟨Bs, cs_, rfl, rfl⟩
    refine ef rfl rfl (eCall1 rfl rfl rfl (ref_Power _ (by omega) (by omega)) ⟨rfl, trivial⟩ ?_) 
    rintro _ _ ⟨Bw, rfl, rfl⟩
    refine ef rfl rfl (eCall1 rfl rfl rfl (ref_PMul _ _ _ _ _ Bs _ _ _ rfl hls Bw _ _ _ rfl (by rw [powL_length]; omega)) ⟨rfl, rfl, rfl, trivial⟩ ?_) 
    rintro _ _ ⟨Bm, cm, rfl, rfl⟩
    refine ef rfl rfl (eCall1 rfl rfl rfl (ref_PSub _ _ _ _ _ Br _ _ _ rfl (by omega) Bm _ _ _ rfl hlm) ⟨rfl, rfl, rfl, trivial⟩ ?_) 
    rintro _ _ ⟨Bn, cn, rfl, rfl⟩
    refine pu rfl rfl rfl rfl rfl ?_
    have hr' : (pol (il r) : Po (El p m mod)) - pol (il ((pol (il (Po.C (el (el ((il r).getD ((il r).length - 1 : Int).toNat 0) * el iv : El p m mod).1) * (pol (il (pol b : Po (El p m mod))) : Po (El p m mod)))) : Po (El p m mod)) * pol (powL ((il r).length - 1 - ((il (pol b : Po (El p m mod))).length - 1) : Int).toNat))) = r - Po.mn (Po.cf r (Po.len r - 1) * Fd.inv (Po.lead (pol b : Po (El p m mod)))) (Po.len r - Po.len (pol b : Po (El p m mod))) * pol b := by
      rw [pol_il, pol_il, pol_il, pol_il, pol_powL, el_of, hiv2, il_getD, el_of]
      rw [show ((il r).length - 1 : Int).toNat = Po.len r - 1 by rw [il_length]; omega, show ((il r).length - 1 - ((il (pol b : Po (El p m mod))).length - 1) : Int).toNat = Po.len r - Po.len (pol b : Po (El p m mod)) by rw [il_length, il_length]; omega]
      have e := Po.mn_mul (Po.cf r (Po.len r - 1) * Fd.inv (Po.lead (pol b : Po (El p m mod)))) 1 0 (Po.len r - Po.len (pol b : Po (El p m mod)))
      rw [Rg.mul_one, Nat.zero_add] at e
      rw [← e]
      show r - Po.C _ * _ * _ = r - Po.C _ * _ * _
      grind
    rw [hr']
    refine ⟨r - Po.mn (Po.cf r (Po.len r - 1) * Fd.inv (Po.lead (pol b : Po (El p m mod)))) (Po.len r - Po.len (pol b : Po (El p m mod))) * pol b, Bn, cn, qo.set ((il r).length - 1 - ((il (pol b : Po (El p m mod))).length - 1) : Int).toNat (el ((il r).getD ((il r).length - 1 : Int).toNat 0) * el iv : El p m mod).1, ⟨rfl, rfl, rfl, rfl, rfl, rfl, rfl, rfl, trivial⟩, by first | exact cs _ _ | exact CSub.refl _, ?_⟩
    have hnn : ((il r).length - 1 - ((il (pol b : Po (El p m mod))).length - 1) : Int).toNat = Po.len r - Po.len (pol b : Po (El p m mod)) := by rw [il_length, il_length]; omega
    have hlr : (il r).length = Po.len r := il_length r
    have hlB : (il (pol b : Po (El p m mod))).length = Po.len (pol b : Po (El p m mod)) := il_length _
    have hsh := Po.div_step (f := r) h0 (n := Po.len r - Po.len (pol b : Po (El p m mod))) ((Po.len_sh r).mono (by omega))
    rw [show Po.len (pol b : Po (El p m mod)) + (Po.len r - Po.len (pol b : Po (El p m mod))) - 1 = Po.len r - 1 by omega] at hsh
    have hl2 := Po.len_le hsh
    have hl3 : (il (r - Po.mn (Po.cf r (Po.len r - 1) * Fd.inv (Po.lead (pol b : Po (El p m mod)))) (Po.len r - Po.len (pol b : Po (El p m mod))) * pol b)).length ≤ Po.len r - 1 := by rw [il_length]; exact hl2
    refine ⟨⟨⟨by simpa using hql, by omega⟩, ?_, fun j hj => ?_⟩, by omega⟩
    · rw [pol_set_add (d := Po.cf r (Po.len r - 1) * Fd.inv (Po.lead (pol b : Po (El p m mod)))) qo (by omega) (by
        rw [hz _ (by omega), el_zero, el_of, hiv2, il_getD, el_of, show ((il r).length - 1 : Int).toNat = Po.len r - 1 by omega]; grind), hnn]
      exact div_acc heq
    · rw [getD_set, if_neg (by omega)]; exact hz j (by omega)
  · try simp only [zb1, zb2, zb3, zb4, zb5, zb6, zb7, zb8, zb9, zb10] at h6
    refine tr_exit ?_
    refine tr_seq ?_
    refine tr_region fun _ _ _ => ?_
    refine st rfl rfl rfl rfl (rLdS rfl rfl rfl) ?_
    refine pu rfl rfl rfl rfl rfl ?_
    refine ef rfl rfl (eCall1 rfl rfl rfl (ref_CanonE _ _ _ _ _ _ _ _ qo (by omega) (by omega)) ⟨rfl, rfl, trivial⟩ ?_) 
    rintro _ _ ⟨B11, c11, rfl, rfl⟩
    iterate 3 refine pu rfl rfl rfl rfl rfl ?_
    have hd := Po.div_of heq (by rw [← il_length, ← il_length]; omega)
    rw [hd.1, hd.2]
    exact tr_ret ⟨trivial, _, _, rfl, ⟨_, _, rfl, B11, c11, Br, cr, rfl, rfl, rfl⟩, cs _ _, trivial, trivial, trivial⟩

theorem ref_PGcd_ent : Enters Try.prog 32 := enters_of Try.func32 (by kernel_rfl) (by kernel_rfl)
theorem ref_PGcd (p m : Int) (A : Option Addr) (c : Nat) (mod : List Int) [hF : IsF p m mod] (Xa : Option Addr) (na ca : Nat) (a : List Int) (hna : na = a.length) (ha9 : a.length ≤ 1000000) (Xb : Option Addr) (nb cb : Nat) (b : List Int) (hnb : nb = b.length) (hb9 : b.length ≤ 1000000) :
    Pure Try.prog 32 #[.agg #[.int .i64 p, .int .i64 m, .slice A mod.length c], .slice Xa na ca, .slice Xb nb cb] [ro A (ints mod), ro Xa (ints a), ro Xb (ints b)] (one (fun v ch => ∃ B cap, v = .slice B (il (Po.gcd (pol a : Po (El p m mod)) (pol b : Po (El p m mod)))).length cap ∧ ch = ow B 3 cap (ints (il (Po.gcd (pol a : Po (El p m mod)) (pol b : Po (El p m mod))))))) := by
  have hila := il_le (p := p) (m := m) (mod := mod) a
  have hilb := il_le (p := p) (m := m) (mod := mod) b
  refine pure_of (args := [.agg #[.int .i64 p, .int .i64 m, .slice A mod.length c], .slice Xa na ca, .slice Xb nb cb]) 30 Try.func32 rfl rfl rfl ref_PGcd_ent ⟨id, id, id, trivial⟩ (fun w0 => ?_)
  refine tr_seq ?_
  refine tr_region fun _ _ _ => ?_
  refine ef rfl rfl (eBox rfl rfl rfl rfl rfl (fun p0 => ?_)) 
  refine pu rfl rfl rfl rfl rfl ?_
  refine tr_seq ?_
  refine tr_region fun _ _ _ => ?_
  refine st rfl rfl rfl rfl (rLdS rfl rfl rfl) ?_
  refine pu rfl rfl rfl rfl rfl ?_
  refine ef rfl rfl (eCall1 rfl rfl rfl (ref_CanonE _ _ _ _ _ _ _ _ a hna (by omega)) ⟨rfl, rfl, trivial⟩ ?_) 
  rintro _ _ ⟨B1, c1, rfl, rfl⟩
  refine pu rfl rfl rfl rfl rfl ?_
  refine tr_seq ?_
  refine tr_region fun _ _ _ => ?_
  refine st rfl rfl rfl rfl (rLdS rfl rfl rfl) ?_
  refine pu rfl rfl rfl rfl rfl ?_
  refine ef rfl rfl (eCall1 rfl rfl rfl (ref_CanonE _ _ _ _ _ _ _ _ b hnb (by omega)) ⟨rfl, rfl, trivial⟩ ?_) 
  rintro _ _ ⟨B2, c2, rfl, rfl⟩
  refine pu rfl rfl rfl rfl rfl ?_
  refine tr_seq ?_
  refine tr_block ?_
  refine tr_loop6 (fun (f : Po (El p m mod)) (g : Po (El p m mod)) (Bf : Option Addr) (cf : Nat) (Bg : Option Addr) (cg : Nat) => [(1, .slice Bf (il f).length cf), (2, .slice Bg (il g).length cg), (3, .pointer (some p0)), (6, .slice none 0 0)]) (fun (f : Po (El p m mod)) (g : Po (El p m mod)) (Bf : Option Addr) (cf : Nat) (Bg : Option Addr) (cg : Nat) => [ow Bf 3 cf (ints (il f)), ow Bg 3 cg (ints (il g)), blk p0 36 [.int .i64 p, .int .i64 m, .slice A mod.length c], ro A (ints mod), ro Xa (ints a), ro Xb (ints b)]) (fun (f : Po (El p m mod)) (g : Po (El p m mod)) (Bf : Option Addr) (cf : Nat) (Bg : Option Addr) (cg : Nat) => Po.gcd f g = Po.gcd (pol a : Po (El p m mod)) (pol b : Po (El p m mod)) ∧ (il f).length ≤ 1000000 ∧ (il g).length ≤ 1000000) (fun (f : Po (El p m mod)) (g : Po (El p m mod)) (Bf : Option Addr) (cf : Nat) (Bg : Option Addr) (cg : Nat) => (il g).length) ((pol a : Po (El p m mod))) ((pol b : Po (El p m mod))) (B1) (c1) (B2) (c2) ⟨rfl, rfl, rfl, rfl, trivial⟩ (by first | exact cs _ _ | exact CSub.refl _) (⟨rfl, by omega, by omega⟩) (fun f g Bf cf Bg cg hI => ?_)
  obtain ⟨hgg, hfl, hgl⟩ := hI
  refine tr_seq ?_
  refine tr_seq ?_
  refine tr_region fun _ _ _ => ?_
  refine pu rfl rfl rfl rfl rfl ?_
  refine st rfl rfl rfl rfl (rLen rfl rfl) ?_
  refine pu rfl rfl rfl rfl rfl ?_
  refine tr_cond_bool rfl (fun h3 => ?_) (fun h3 => ?_)
  · try simp only [zb1, zb2, zb3, zb4, zb5, zb6, zb7, zb8, zb9, zb10] at h3
    refine tr_skip ?_
    refine tr_block ?_
    refine tr_seq ?_
    have hg0 : g ≠ 0 := Po.len_pos_iff.1 (by rw [← il_length]; omega)
    refine tr_region fun _ _ _ => ?_
    refine st rfl rfl rfl rfl (rLdS rfl rfl rfl) ?_
    iterate 2 refine pu rfl rfl rfl rfl rfl ?_
    refine ef rfl rfl (eCall2 rfl rfl rfl (ref_PDivMod _ _ _ _ _ Bf _ _ (il f) rfl hfl Bg _ _ (il g) rfl hgl (by rw [pol_il]; exact hg0)) ⟨rfl, rfl, rfl, trivial⟩ ?_) 
    rintro _ _ _ ⟨Bq, cq, Bn, cn, rfl, rfl, rfl⟩
    iterate 5 refine pu rfl rfl rfl rfl rfl ?_
    simp only [pol_il]
    refine tr_seq ?_
    refine tr_region fun _ _ _ => ?_
    iterate 2 refine pu rfl rfl rfl rfl rfl ?_
    refine tr_region fun _ _ _ => ?_
    iterate 2 refine pu rfl rfl rfl rfl rfl ?_
    refine ⟨g, Po.rem f g, Bg, cg, Bn, cn, ⟨rfl, rfl, rfl, rfl, trivial⟩, by first | exact cs _ _ | exact CSub.refl _, ?_⟩
    have hrl := Po.rem_len f hg0
    rw [← il_length, ← il_length] at hrl
    exact ⟨⟨by rw [← Po.gcd_step f hg0]; exact hgg, by omega, by omega⟩, by omega⟩
  · try simp only [zb1, zb2, zb3, zb4, zb5, zb6, zb7, zb8, zb9, zb10] at h3
    refine tr_exit ?_
    refine tr_seq ?_
    refine tr_region fun _ _ _ => ?_
    refine st rfl rfl rfl rfl (rLdS rfl rfl rfl) ?_
    refine pu rfl rfl rfl rfl rfl ?_
    refine ef rfl rfl (eCall1 rfl rfl rfl (ref_PMonic _ _ _ _ _ Bf _ _ (il f) rfl hfl) ⟨rfl, rfl, trivial⟩ ?_) 
    rintro _ _ ⟨Br, cr, rfl, rfl⟩
    refine pu rfl rfl rfl rfl rfl ?_
    simp only [pol_il]
    have hg0 : g = 0 := Po.eq_zero_of_len (by rw [← il_length]; omega)
    rw [hg0, Po.gcd_zero] at hgg
    rw [← hgg]
    exact tr_ret ⟨trivial, _, _, rfl, ⟨_, rfl, Br, cr, rfl, rfl⟩, cs _ _, trivial, trivial⟩

end Go.Proofs.Ytjmojhflnjbgaaa

set_option linter.unusedSimpArgs false
set_option linter.unusedVariables false
set_option maxRecDepth 100000
namespace Go.Proofs.Ytjmojhflnjbgaaa
open Go.ChangeShapes Go.WideShapes Go.ChangeAt Go.RowKit

theorem word_in {p m : Int} {mod : List Int} [hF : IsF p m mod] {n : Nat} (hn : 1 ≤ n) {g a : Po (El p m mod)} {o : List Int} (ho : o.length = n) (e : (pol o : Po (El p m mod)) = Po.rem (a * g) (xn1 n)) : CyW n (Po.gcd g (xn1 n)) (rw' o) := by
  have hx := xn1_ne (p := p) (m := m) (mod := mod) hn
  have hG := Po.gcd_is g (xn1 n)
  refine ⟨pol o, fun j => rfl, (pol_sh o).mono (by omega), ?_⟩
  rw [e]
  exact Po.dvd_of_sub (Po.dvd_mul_ofL hG.left _) (Po.dvd_trans hG.right (Po.rem_sub_dvd _ hx))

theorem law_CyclicIdeal_ent : Enters Try.prog 8 := enters_of Try.func8 (by kernel_rfl) (by kernel_rfl)
theorem law_CyclicIdeal (p m : Int) (A : Option Addr) (c : Nat) (mod : List Int) (hl9 : mod.length ≤ 17592186044415) (n : Int) (Al : Option Addr) (nl cl : Nat) (l : List Int) (hnl : nl = l.length) (hl : l.length ≤ 17592186044415) (Xa : Option Addr) (na ca : Nat) (a : List Int) (hna : na = a.length) (ha : a.length ≤ 17592186044415) :
    Pure Try.prog 8 #[.agg #[.int .i64 p, .int .i64 m, .slice A mod.length c], .int .i64 n, .slice Al nl cl, .slice Xa na ca] [ro A (ints mod), ro Al (ints l), ro Xa (ints a)] (isV (.bool true)) := by
  refine pure_of (args := [.agg #[.int .i64 p, .int .i64 m, .slice A mod.length c], .int .i64 n, .slice Al nl cl, .slice Xa na ca]) 81 Try.func8 rfl rfl rfl law_CyclicIdeal_ent ⟨id, id, id, trivial⟩ (fun w0 => ?_)
  refine tr_seq ?_
  refine tr_region fun _ _ _ => ?_
  refine ef rfl rfl (eBox rfl rfl rfl rfl rfl (fun p0 => ?_)) 
  refine pu rfl rfl rfl rfl rfl ?_
  refine tr_seq ?_
  refine tr_seq ?_
  refine tr_region fun _ _ _ => ?_
  refine st rfl rfl rfl rfl (rLdS rfl rfl rfl) ?_
  refine pu rfl rfl rfl rfl rfl ?_
  refine ef rfl rfl (eCallV rfl rfl rfl (ref_Args _ _ _ _ _ hl9 n) ⟨rfl, rfl, trivial⟩ ?_) 
  iterate 2 refine pu rfl rfl rfl rfl rfl ?_
  refine stg rfl rfl rfl rfl rfl (fun hb => by (have hq := hb; try simp only [zb1, zb2, zb3, zb4, zb5, zb6, zb7, zb8, zb9, zb10] at hq); exact rMove rfl rfl) ?_
  refine stg rfl rfl rfl rfl rfl (fun hb => by (have hq := hb; try simp only [zb1, zb2, zb3, zb4, zb5, zb6, zb7, zb8, zb9, zb10] at hq); exact rLen rfl (evg rfl hb)) ?_
  refine stg rfl rfl rfl rfl rfl (fun hb => by (have hq := hb; try simp only [zb1, zb2, zb3, zb4, zb5, zb6, zb7, zb8, zb9, zb10] at hq); exact rGtr rfl (evg rfl hb) rfl) ?_
  refine st rfl rfl rfl rfl (rOrB rfl rfl rfl rfl) ?_
  refine pu rfl rfl rfl rfl rfl ?_
  refine stg rfl rfl rfl rfl rfl (fun hb => by (have hq := hb; try simp only [zb1, zb2, zb3, zb4, zb5, zb6, zb7, zb8, zb9, zb10] at hq); exact rMove rfl rfl) ?_
  refine stg rfl rfl rfl rfl rfl (fun hb => by (have hq := hb; try simp only [zb1, zb2, zb3, zb4, zb5, zb6, zb7, zb8, zb9, zb10] at hq); exact rLen rfl (evg rfl hb)) ?_
  refine stg rfl rfl rfl rfl rfl (fun hb => by (have hq := hb; try simp only [zb1, zb2, zb3, zb4, zb5, zb6, zb7, zb8, zb9, zb10] at hq); exact rGtr rfl (evg rfl hb) rfl) ?_
  refine st rfl rfl rfl rfl (rOrB rfl rfl rfl rfl) ?_
  refine pu rfl rfl rfl rfl rfl ?_
  refine stg rfl rfl rfl rfl rfl (fun hb => by (have hq := hb; try simp only [zb1, zb2, zb3, zb4, zb5, zb6, zb7, zb8, zb9, zb10] at hq); exact rLdS rfl rfl rfl) ?_
  refine stg rfl rfl rfl rfl rfl (fun hb => by (have hq := hb; try simp only [zb1, zb2, zb3, zb4, zb5, zb6, zb7, zb8, zb9, zb10] at hq); exact rMove rfl rfl) ?_
  refine efg rfl rfl rfl rfl rfl (fun hb => by (have hq := hb; try simp only [zb1, zb2, zb3, zb4, zb5, zb6, zb7, zb8, zb9, zb10] at hq); exact eCallV rfl rfl rfl (ref_Entries _ _ _ _ _ _ _ _ l hnl hl) ⟨(evg rfl hb), (evg rfl hb), trivial⟩ ⟨rfl, rfl⟩) ?_
  refine stg rfl rfl rfl rfl rfl (fun hb => by (have hq := hb; try simp only [zb1, zb2, zb3, zb4, zb5, zb6, zb7, zb8, zb9, zb10] at hq); exact rNeq rfl (evg rfl hb) rfl) ?_
  refine st rfl rfl rfl rfl (rOrB rfl rfl rfl rfl) ?_
  refine tr_cond_bool rfl (fun h1 => ?_) (fun h1 => ?_)
  · try simp only [zb1, zb2, zb3, zb4, zb5, zb6, zb7, zb8, zb9, zb10] at h1
    refine tr_seq ?_
    refine tr_region fun _ _ _ => ?_
    refine pu rfl rfl rfl rfl rfl ?_
    exact tr_ret ⟨trivial, _, _, rfl, ⟨rfl, rfl⟩, CSub.nil _, trivial⟩
  · try simp only [zb1, zb2, zb3, zb4, zb5, zb6, zb7, zb8, zb9, zb10] at h1
    obtain ⟨⟨⟨hA, hl8⟩, ha8⟩, hEn⟩ := h1
    obtain ⟨hF0, hn1, hn9⟩ := argsC_zero (p := p) (m := m) (mod := mod) (n := n) (by simpa using hA)
    haveI hF : IsF p m mod := ⟨hF0⟩
    have hin : AllIn (pw p m) l := by
      rw [← hF.ord]
      rcases entC_cases (ordI p m) l with h | h
      · exact h.1
      · exact absurd h.2 (by omega)
    have hdl : Po.len (Po.gcd (pol l : Po (El p m mod)) (xn1 n.toNat)) ≤ n.toNat + 1 := by
      have := Po.dvd_len (Po.gcd_is (pol l : Po (El p m mod)) (xn1 n.toNat)).right (xn1_ne (by omega)); rw [xn1_len (by omega)] at this; exact this
    have hd0 : 0 < Po.len (Po.gcd (pol l : Po (El p m mod)) (xn1 n.toNat)) := Po.len_pos (Po.gcd_ne (.inr (xn1_ne (by omega))))
    have hgb : (il (Po.gcd (pol l : Po (El p m mod)) (pol (il (xn1 n.toNat : Po (El p m mod)))))).length ≤ 1000000 := by rw [pol_il, il_length]; omega
    have hgb2 : Po.len (pol (il (Po.gcd (pol l : Po (El p m mod)) (pol (il (xn1 n.toNat : Po (El p m mod)))))) : Po (El p m mod)) ≤ n.toNat + 1 := by rw [pol_il, pol_il]; omega
    refine tr_skip ?_
    refine tr_seq ?_
    refine tr_region fun _ _ _ => ?_
    refine st rfl rfl rfl rfl (rLdS rfl rfl rfl) ?_
    iterate 2 refine pu rfl rfl rfl rfl rfl ?_
    refine ef rfl rfl (eCall3 rfl rfl rfl (cyc_New _ _ _ _ _ _ hn1 hn9 _ _ _ l hnl (by omega) hin) ⟨rfl, rfl, rfl, trivial⟩ ?_) 
    rintro _ _ _ _ ⟨Bm, cm, B, r3, rfl, rfl, rfl, rfl, hC⟩
    iterate 3 refine pu rfl rfl rfl rfl rfl ?_
    refine ef rfl rfl (eAlloc rfl rfl rfl (fun p3a => ?_)) 
    refine ef rfl rfl (eStS rfl rfl rfl rfl rfl rfl ?_) 
    refine pu rfl rfl rfl rfl rfl ?_
    refine tr_seq ?_
    refine tr_seq ?_
    refine tr_draw [0, 1, 2, 3, 4, 5, 6, 7, 8, 9, 10, 11, 12, 13, 14, 15, 16, 17, 18, 19, 20, 21, 22, 23] [] mixed (by kernel_rfl) fun _ _ _ => ?_
    iterate 3 refine pu rfl rfl rfl rfl rfl ?_
    refine stT rfl rfl rfl (by simp) rfl rfl (rFld rfl rfl) ?_
    refine stT rfl rfl rfl (by simp) rfl rfl (rLdF rfl rfl rfl) ?_
    refine stT rfl rfl rfl (by simp) rfl rfl (rMove rfl rfl) ?_
    refine stT rfl rfl rfl (by simp) rfl rfl (rNeq rfl rfl rfl) ?_
    refine st rfl rfl rfl rfl (rPick0 rfl rfl (by simp) rfl) ?_
    refine pu rfl rfl rfl rfl rfl ?_
    refine stT rfl rfl rfl (by simp) rfl rfl (rFld rfl rfl) ?_
    refine stT rfl rfl rfl (by simp) rfl rfl (rLdF rfl rfl rfl) ?_
    refine stT rfl rfl rfl (by simp) rfl rfl (rLen rfl rfl) ?_
    refine stT rfl rfl rfl (by simp) rfl rfl (rMove rfl rfl) ?_
    refine stT rfl rfl rfl (by simp) rfl rfl (rLdS rfl rfl rfl) ?_
    refine stT rfl rfl rfl (by simp) rfl rfl (rLdS rfl rfl rfl) ?_
    refine stT rfl rfl rfl (by simp) rfl rfl (rMove rfl rfl) ?_
    refine stT rfl rfl rfl (by simp) rfl rfl (rLdS rfl rfl rfl) ?_
    refine stT rfl rfl rfl (by simp) rfl rfl (rMove rfl rfl) ?_
    refine efT rfl rfl rfl (by simp) (eCall1 rfl rfl rfl (ref_Modulus _ _ _ _ _ n hn1 (by omega)) ⟨rfl, rfl, trivial⟩ ?_) 
    rintro _ _ ⟨Bx, cx, rfl, rfl⟩
    refine efT rfl rfl rfl (by simp) (eCall1 rfl rfl rfl (ref_PGcd _ _ _ _ _ _ _ _ l hnl (by omega) Bx _ _ _ rfl (by rw [il_length, xn1_len (by omega)]; omega)) ⟨rfl, rfl, rfl, trivial⟩ ?_) 
    rintro _ _ ⟨Bg, cg, rfl, rfl⟩
    refine efT rfl rfl rfl (by simp) (eCallV rfl rfl rfl (ref_PDegree _ _ _ _ _ Bg _ _ _ rfl hgb) ⟨rfl, rfl, trivial⟩ ?_) 
    refine stT rfl rfl rfl (by simp) rfl rfl (rSub rfl rfl rfl (by omega) (by omega)) ?_
    refine stT rfl rfl rfl (by simp) rfl rfl (rNeq rfl rfl rfl) ?_
    refine st rfl rfl rfl rfl (rPick0 rfl rfl (by simp) rfl) ?_
    refine tr_cond_bool rfl (fun h4 => ?_) (fun h4 => ?_)
    · try simp only [zb1, zb2, zb3, zb4, zb5, zb6, zb7, zb8, zb9, zb10] at h4
      simp only [pol_il] at h4
      obtain ⟨qs, hq⟩ := hC.form
      have hdim := cyc_dim (n := n.toNat) (e := Po.len (Po.gcd (pol l : Po (El p m mod)) (xn1 n.toNat)) - 1) (by omega) (by omega) hq hC.span
      rw [vsR_length] at hdim
      omega --done
    · try simp only [zb1, zb2, zb3, zb4, zb5, zb6, zb7, zb8, zb9, zb10] at h4
      refine tr_skip ?_
      refine tr_seq ?_
      refine tr_draw [0, 1, 2, 3, 4, 5, 6, 7, 8, 9, 10, 11, 12, 13] [] mixed (by kernel_rfl) fun _ _ _ => ?_
      refine st rfl rfl rfl rfl (rLdS rfl rfl rfl) ?_
      refine st rfl rfl rfl rfl (rLdS rfl rfl rfl) ?_
      refine pu rfl rfl rfl rfl rfl ?_
      refine st rfl rfl rfl rfl (rLdS rfl rfl rfl) ?_
      iterate 2 refine pu rfl rfl rfl rfl rfl ?_
      refine ef rfl rfl (eCall1 rfl rfl rfl (ref_PMul _ _ _ _ _ _ _ _ a hna (by omega) _ _ _ l hnl (by omega)) ⟨rfl, rfl, rfl, trivial⟩ ?_) 
      rintro _ _ ⟨Bp, cp, rfl, rfl⟩
      refine ef rfl rfl (eCall1 rfl rfl rfl (ref_Word _ _ _ _ _ n hn1 hn9 Bp _ _ _ rfl (by have := il_mul_le (p := p) (m := m) (mod := mod) a l; omega)) ⟨rfl, rfl, rfl, trivial⟩ ?_) 
      rintro _ _ ⟨Bo, o, rfl, rfl, hol, hoi, hor⟩
      refine ef rfl rfl (eCallV rfl rfl rfl (ref_CHas _ _ _ _ _ n B _ _ r3 rfl (by have := hC.le; omega) (hC.ok hn1 hn9) Bo _ _ o rfl hol hoi) ⟨rfl, rfl, trivial⟩ ?_) 
      iterate 5 refine pu rfl rfl rfl rfl rfl ?_
      refine tr_seq ?_
      refine tr_region fun _ _ _ => ?_
      iterate 3 refine pu rfl rfl rfl rfl rfl ?_
      refine stg rfl rfl rfl rfl rfl (fun hb => by (have hq := hb; try simp only [zb1, zb2, zb3, zb4, zb5, zb6, zb7, zb8, zb9, zb10] at hq); exact rMove rfl rfl) ?_
      refine st rfl rfl rfl rfl (rAndB rfl rfl rfl rfl) ?_
      refine pu rfl rfl rfl rfl rfl ?_
      have hm : memB p m mod r3 o = true := memB_iff.2 ((hC.span _).2 (word_in (a := pol a) (by omega) (by omega) (by rw [hor, pol_il])))
      exact tr_ret ⟨trivial, _, _, rfl, ⟨by simp [hm], rfl⟩, CSub.nil _, trivial⟩


namespace lawCyclicIdeal
theorem own : ownKnob Try.prog.godebug = none := by kernel_rfl
theorem laidOut : laidOutB Try.prog = true := by kernel_rfl
set_option maxRecDepth 100000 in
theorem lifted (os : Os) (started : os.Started) (H : Type) (enc : TypeId × Value → H) :
    ReturnsInHanded {} Try.checked os 8 .any (Rows.cyclicIdealSpec.pre6 enc Try.prog Try.f8 Rows.cyclicIdealRow.domain false) (Rows.cyclicIdealSpec.post enc Try.prog Try.f8 false true false false) := by
  refine returnsInHanded_of_change_sized (C := Try.checked) own started (by kernel_rfl) Try.func8
    (ChangeSpec.witness6 (enc := enc) (C := Try.checked) false ⟨#[], #[.agg #[.int .i64 0, .int .i64 0, .slice none 0 0], .int .i64 0, .slice none 0 0, .slice none 0 0], []⟩ 8 (by kernel_rfl) (by kernel_rfl) (by kernel_rfl) (by kernel_rfl)) ?_
  intro W base args ds gs before hval0 hW hcnd hsz _
  have hval : ∀ (j : Nat) t v, Try.f8.params[j]? = some t → args[j]? = some v → Value.okWide Try.prog W .any base t v := hval0
  have hW' := hW
  obtain ⟨p, q, hA0, hV, rfl, hfz, hnd⟩ := hW
  have hA : DataW.TrodAll enc Try.prog W 0 (fun _ => true) true Try.f8.params.toList args.toList ds p := hA0
  rw [Try.params8] at hA hval
  obtain ⟨v0, vs0, d0, ds0, p0, q0, hargs, rfl, rfl, h0, r0⟩ := trodAll_cons hA
  obtain ⟨v1, vs1, d1, ds1, p1, q1, rfl, rfl, rfl, h1, r1⟩ := trodAll_cons r0
  obtain ⟨v2, vs2, d2, ds2, p2, q2, rfl, rfl, rfl, h2, r2⟩ := trodAll_cons r1
  obtain ⟨v3, vs3, d3, ds3, p3, q3, rfl, rfl, rfl, h3, r3⟩ := trodAll_cons r2
  obtain ⟨rfl, rfl, rfl⟩ := trodAll_nil r3
  obtain rfl : args = #[v0, v1, v2, v3] := by cases args; simp_all
  obtain ⟨rfl, rfl⟩ := trodVars_none hV
  have k0 := h0
  have lt0 : ∀ x ∈ p0, x.block < W.heap.size := by obtain ⟨m, hm⟩ := k0; exact DataW.trod_lt m _ _ _ hm
  have k1 := h1
  have lt1 : ∀ x ∈ p1, x.block < W.heap.size := by obtain ⟨m, hm⟩ := k1; exact DataW.trod_lt m _ _ _ hm
  have k2 := h2
  have lt2 : ∀ x ∈ p2, x.block < W.heap.size := by obtain ⟨m, hm⟩ := k2; exact DataW.trod_lt m _ _ _ hm
  have k3 := h3
  have lt3 : ∀ x ∈ p3, x.block < W.heap.size := by obtain ⟨m, hm⟩ := k3; exact DataW.trod_lt m _ _ _ hm
  obtain ⟨P0, M0, A0, c0, mod0, rfl, wf0⟩ := get_F (light_of hsz (j := 0) rfl rfl) (hval 0 36 v0 rfl rfl) h0
  obtain ⟨n1, rfl, fn1⟩ := get_I Try.underlying3 (hval 1 3 v1 rfl rfl) h1
  obtain ⟨A2, c2, xs2, w2⟩ := get_ISw Try.underlying22 Try.underlying3 (by kernel_rfl) (by kernel_rfl) (light_of hsz (j := 2) rfl rfl) (hval 2 22 v2 rfl rfl) h2
  obtain rfl := w2.val
  obtain ⟨A3, c3, xs3, w3⟩ := get_ISw Try.underlying22 Try.underlying3 (by kernel_rfl) (by kernel_rfl) (light_of hsz (j := 3) rfl rfl) (hval 3 22 v3 rfl rfl) h3
  obtain rfl := w3.val
  clear hA0 hval0
  have hlaw := law_CyclicIdeal P0 M0 A0 c0 mod0 wf0.2 n1 A2 xs2.length c2 xs2 rfl w2.short A3 xs3.length c3 xs3 rfl w3.short
  have hsat : ∀ ch ∈ [ro A0 (ints mod0), ro A2 (ints xs2), ro A3 (ints xs3)], ch.sat W := fun ch hc => by
    simp only [List.mem_cons, List.not_mem_nil, or_false] at hc
    rcases hc with rfl | rfl | rfl
    · exact wf0.1
    · exact w2.sat
    · exact w3.sat
  refine (hlaw.run W hsat).mono fun e W' ⟨v, Fo, he, bel, hv, _⟩ => ?_
  obtain ⟨rfl, _⟩ := hv
  subst he
  exact ⟨_, rfl, _, _, _, [], _, [], hW', trodAll_mk1 (shut_bool Try.underlying4 _), (trodAll_cons_mk (Below.trod laidOut (by kernel_rfl) (of_decide_eq_true (by kernel_rfl)) k0 bel lt0) (trodAll_cons_mk (Below.trod laidOut (by kernel_rfl) (of_decide_eq_true (by kernel_rfl)) k1 bel lt1) (trodAll_cons_mk (Below.trod laidOut (by kernel_rfl) (of_decide_eq_true (by kernel_rfl)) k2 bel lt2) (trodAll_cons_mk (Below.trod laidOut (by kernel_rfl) (of_decide_eq_true (by kernel_rfl)) k3 bel lt3) trodAll_mk0)))), rfl, bel.frame _, fun h => by cases h⟩

theorem proved : Rows.CyclicIdealSaid :=
  OpenClaim.holds_of_wide 8 Try.f8 rfl rfl rfl rfl rfl rfl rfl ⟨rfl, rfl, rfl, rfl, rfl⟩ rfl rfl rfl rfl rfl (by kernel_rfl) Try.func8 (by kernel_rfl)
    (of_decide_eq_true (by kernel_rfl)) (by unfold Func.isWrapper; first | (rw [if_pos (by decide +kernel)]; kernel_rfl) | (rw [if_neg (by decide +kernel)]; exact ⟨rfl, rfl⟩))
    (fun os started H enc _ => lifted os started H enc)
end lawCyclicIdeal

end Go.Proofs.Ytjmojhflnjbgaaa

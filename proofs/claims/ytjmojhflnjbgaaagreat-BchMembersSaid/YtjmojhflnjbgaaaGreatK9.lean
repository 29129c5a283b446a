/-
  BCHMEMBERS, PART 9 OF 10. One sentence: the texts behind the law BchMembers, put together.
  Conditions: each theorem's own, written out in it.
-/
import Derived.Test.YtjmojhflnjbgaaaGreatK8
set_option linter.unusedSimpArgs false
set_option linter.unusedVariables false
set_option linter.unusedSectionVars false
set_option linter.unusedSimpArgs false
set_option linter.unusedVariables false
set_option maxRecDepth 100000
namespace Go.Proofs.YtjmojhflnjbgaaaGreat
open Go.RowKit
theorem cyw_pol {p m : Int} {mod : List Int} [hF : IsF p m mod] {n : Nat} {g : Po (El p m mod)} {x : List Int} (h : x.length = n) : CyW n g (rw' x) ↔ g ∣ pol x := by
  constructor
  · rintro ⟨f, hf, _, hg⟩
    have : f = pol x := Po.ext fun j => (hf j).symm
    rw [← this]; exact hg
  · intro hg
    exact ⟨pol x, fun j => rfl, (pol_sh x).mono (by omega), hg⟩
theorem el_val0 {p m : Int} {mod : List Int} [hF : IsF p m mod] (x : El p m mod) : x.1 = 0 ↔ x = 0 := by
  constructor
  · intro h; exact Subtype.ext (by rw [h]; rfl)
  · rintro rfl; rfl
theorem law_BchMembers_G_ent : Enters Tryz.prog 10 := enters_of Tryz.func10 (by kernel_rfl) (by kernel_rfl)
theorem law_BchMembers_G (p m : Int) (A : Option Addr) (c : Nat) (mod : List Int) [hF : IsF p m mod] (m2 : Int) (Ae : Option Addr) (ce : Nat) (mod2 : List Int) [hE : IsF p m2 mod2] (hd : m2 % m = 0) (n : Int) (hn1 : 1 ≤ n) (hn64 : n ≤ 64) (hr : rootI p m2 mod2 n ≠ 0) (Z : Option Addr) (cz : Nat) (zs : List Int) (hz : zs.length ≤ 40) (hn31 : n ≤ 31) (X : Option Addr) (nx cx : Nat) (l : List Int) (hnx : nx = l.length) (hxl : l.length ≤ 17592186044415) :
    Pure Tryz.prog 10 #[.agg #[.int .i64 p, .int .i64 m, .slice A mod.length c], .agg #[.int .i64 p, .int .i64 m2, .slice Ae mod2.length ce], .int .i64 n, .slice Z zs.length cz, .slice X nx cx] [ro A (ints mod), ro Ae (ints mod2), ro Z (ints zs), ro X (ints l)] (isV (.bool true)) := by
  have hl8 := hF.short
  have hl82 := hE.short
  have hq2 := hF.q2
  have hq9 := hF.out.1.1.q
  have hra : rootArgs p m2 mod2 n = 0 := by rw [rootArgs_is hE.out hn1 hn64, if_neg hr]
  have hor : ordI p m = pw p m := hF.ord
  refine pure_of (args := [.agg #[.int .i64 p, .int .i64 m, .slice A mod.length c], .agg #[.int .i64 p, .int .i64 m2, .slice Ae mod2.length ce], .int .i64 n, .slice Z zs.length cz, .slice X nx cx]) 111 Tryz.func10 rfl rfl rfl law_BchMembers_G_ent ⟨id, id, id, id, trivial⟩ (fun w0 => ?_)
  refine tr_seq ?_
  refine tr_region fun _ _ _ => ?_
  refine ef rfl rfl (eBox rfl rfl rfl rfl rfl (fun p0 => ?_)) 
  refine ef rfl rfl (eBox rfl rfl rfl rfl rfl (fun p0a => ?_)) 
  refine pu rfl rfl rfl rfl rfl ?_
  refine tr_seq ?_
  refine tr_seq ?_
  refine tr_region fun _ _ _ => ?_
  refine pu rfl rfl rfl rfl rfl ?_
  refine st rfl rfl rfl rfl (rLen rfl rfl) ?_
  iterate 2 refine pu rfl rfl rfl rfl rfl ?_
  refine stg rfl rfl rfl rfl rfl (fun hb => by (have hq := hb; try simp only [zbA] at hq); exact rMove rfl rfl) ?_
  refine stg rfl rfl rfl rfl rfl (fun hb => by (have hq := hb; try simp only [zbA] at hq); exact rGtr rfl (evg rfl hb) rfl) ?_
  refine st rfl rfl rfl rfl (rOrB rfl rfl rfl rfl) ?_
  refine pu rfl rfl rfl rfl rfl ?_
  refine stg rfl rfl rfl rfl rfl (fun hb => by (have hq := hb; try simp only [zbA] at hq); exact rLdS rfl rfl rfl) ?_
  refine stg rfl rfl rfl rfl rfl (fun hb => by (have hq := hb; try simp only [zbA] at hq); exact rLdS rfl rfl rfl) ?_
  refine stg rfl rfl rfl rfl rfl (fun hb => by (have hq := hb; try simp only [zbA] at hq); exact rMove rfl rfl) ?_
  refine efg rfl rfl rfl rfl rfl (fun hb => by (have hq := hb; try simp only [zbA] at hq); exact eCallV rfl rfl rfl (ref_FArgsG p m A c mod m2 Ae ce mod2 hd n hn1 hn64) ⟨(evg rfl hb), (evg rfl hb), (evg rfl hb), trivial⟩ ⟨rfl, rfl⟩) ?_
  refine stg rfl rfl rfl rfl rfl (fun hb => by (have hq := hb; try simp only [zbA] at hq); exact rNeq rfl (evg rfl hb) rfl) ?_
  refine st rfl rfl rfl rfl (rOrB rfl rfl rfl rfl) ?_
  refine tr_cond_bool rfl (fun h1 => ?_) (fun h1 => ?_)
  · try simp only [zbA] at h1
    exact absurd h1 (by simp [hr]; omega) --done
  · try simp only [zbA] at h1
    refine tr_skip ?_
    refine tr_seq ?_
    refine tr_region fun _ _ _ => ?_
    refine st rfl rfl rfl rfl (rLdS rfl rfl rfl) ?_
    refine st rfl rfl rfl rfl (rLdS rfl rfl rfl) ?_
    iterate 2 refine pu rfl rfl rfl rfl rfl ?_
    refine ef rfl rfl (eCall3 rfl rfl rfl (bch_FromZeros p m A c mod m2 Ae ce mod2 hd n hn1 hn64 hr Z cz zs (by omega)) ⟨rfl, rfl, rfl, rfl, trivial⟩ ?_) 
    rintro _ _ _ _ ⟨Bm, cm, B, r3, rfl, rfl, rfl, rfl, gK, hgK, hgx, hgl, hC⟩
    iterate 3 refine pu rfl rfl rfl rfl rfl ?_
    refine ef rfl rfl (eAlloc rfl rfl rfl (fun p3a => ?_)) 
    refine ef rfl rfl (eStS rfl rfl rfl rfl rfl rfl ?_) 
    refine pu rfl rfl rfl rfl rfl ?_
    refine tr_seq ?_
    refine tr_seq ?_
    refine tr_region fun _ _ _ => ?_
    iterate 3 refine pu rfl rfl rfl rfl rfl ?_
    refine stT rfl rfl rfl (by simp) rfl rfl (rFld rfl rfl) ?_
    refine stT rfl rfl rfl (by simp) rfl rfl (rLdF rfl rfl rfl) ?_
    refine stT rfl rfl rfl (by simp) rfl rfl (rMove rfl rfl) ?_
    refine stT rfl rfl rfl (by simp) rfl rfl (rNeq rfl rfl rfl) ?_
    refine st rfl rfl rfl rfl (rPick0 rfl rfl (by simp) rfl) ?_
    refine pu rfl rfl rfl rfl rfl ?_
    refine stT rfl rfl rfl (by simp) rfl rfl (rLdS rfl rfl rfl) ?_
    refine efT rfl rfl rfl (by simp) (eCallV rfl rfl rfl (ref_CCheck p m Bm cm mod (by omega) n B _ _ r3 rfl (by have := hC.le; omega) (hC.good.h8 (by omega))) ⟨rfl, trivial⟩ ?_) 
    refine stT rfl rfl rfl (by simp) rfl rfl (rNeq rfl rfl rfl) ?_
    refine st rfl rfl rfl rfl (rPick0 rfl rfl (by simp) rfl) ?_
    refine pu rfl rfl rfl rfl rfl ?_
    refine stT rfl rfl rfl (by simp [(hC.ok hn1 hn64).zero]) rfl rfl (rFld rfl rfl) ?_
    refine stT rfl rfl rfl (by simp [(hC.ok hn1 hn64).zero]) rfl rfl (rLdSF rfl rfl) ?_
    refine stT rfl rfl rfl (by simp [(hC.ok hn1 hn64).zero]) rfl rfl (rLdS rfl rfl rfl) ?_
    refine efT rfl rfl rfl (by simp [(hC.ok hn1 hn64).zero]) (eCallV rfl rfl rfl (ref_FSame p m Bm cm mod p m A c mod (by omega)) ⟨rfl, rfl, trivial⟩ ?_) 
    refine stT rfl rfl rfl (by simp [(hC.ok hn1 hn64).zero]) rfl rfl (rNotB rfl rfl) ?_
    refine st rfl rfl rfl rfl (rPick0 rfl rfl (by simp [(hC.ok hn1 hn64).zero]) rfl) ?_
    refine tr_cond_bool rfl (fun h4 => ?_) (fun h4 => ?_)
    · try simp only [zbA] at h4
      exact absurd h4 (by simp [(hC.ok hn1 hn64).zero]) --done
    · try simp only [zbA] at h4
      refine tr_skip ?_
      refine tr_seq ?_
      have hin1 := ref_In p m A c mod
      rw [hor] at hin1
      refine tr_region fun _ _ _ => ?_
      refine pu rfl rfl rfl rfl rfl ?_
      refine ef rfl rfl (eMakeI rfl rfl rfl rfl rfl (by omega) (by omega) (by omega) (fun A6 => ?_)) 
      refine pu rfl rfl rfl rfl rfl ?_
      refine tr_seq ?_
      refine tr_seq ?_
      refine tr_region fun _ _ _ => ?_
      refine pu rfl rfl rfl rfl rfl ?_
      refine tr_block ?_
      refine tr_loop2 (fun (k : Int) (x : List Int) => [(13, .slice A6 n.toNat n.toNat), (14, .int .i64 k), (2, .int .i64 n), (3, .slice Z zs.length cz), (4, .slice X nx cx), (5, .pointer (some p0)), (6, .pointer (some p0a)), (10, .bool false), (11, .pointer (some p3a))]) (fun (k : Int) (x : List Int) => [ow A6 3 n.toNat (ints x), blk p3a 27 [.int .i64 p, .int .i64 m, .slice Bm mod.length cm, .int .i64 n, .slice B r3.length r3.length], ow Bm 3 cm (ints mod), rx B (hdrs r3), rowsCh 3 r3, blk p0a 24 [.int .i64 p, .int .i64 m2, .slice Ae mod2.length ce], blk p0 24 [.int .i64 p, .int .i64 m, .slice A mod.length c], ro A (ints mod), ro Ae (ints mod2), ro Z (ints zs), ro X (ints l)]) (fun (k : Int) (x : List Int) => (0 ≤ k ∧ k ≤ n) ∧ x.length = n.toNat ∧ AllIn (pw p m) x) (fun (k : Int) (x : List Int) => (n - k).toNat) (0) (List.replicate n.toNat 0) ⟨rfl, rfl, rfl, rfl, rfl, rfl, rfl, rfl, rfl, trivial⟩ (by first | exact cs _ _ | exact CSub.refl _) (⟨⟨by omega, by omega⟩, by simp, allIn_rep (by omega) _⟩) (fun k x hI => ?_)
      obtain ⟨⟨hk0, hk1⟩, hxl0, hxa⟩ := hI
      refine tr_seq ?_
      refine tr_seq ?_
      refine tr_region fun _ _ _ => ?_
      iterate 4 refine pu rfl rfl rfl rfl rfl ?_
      refine stg rfl rfl rfl rfl rfl (fun hb => by (have hq := hb; try simp only [zbA] at hq); exact rMove rfl rfl) ?_
      refine stg rfl rfl rfl rfl rfl (fun hb => by (have hq := hb; try simp only [zbA] at hq); exact rMove rfl rfl) ?_
      refine stg rfl rfl rfl rfl rfl (fun hb => by (have hq := hb; try simp only [zbA] at hq); exact rLen rfl (evg rfl hb)) ?_
      refine stg rfl rfl rfl rfl rfl (fun hb => by (have hq := hb; try simp only [zbA] at hq); exact rLss rfl (evg rfl hb) (evg rfl hb)) ?_
      refine st rfl rfl rfl rfl (rAndB rfl rfl rfl rfl) ?_
      refine tr_cond_bool rfl (fun h8 => ?_) (fun h8 => ?_)
      · try simp only [zbA] at h8
        refine tr_skip ?_
        refine tr_seq ?_
        refine tr_block ?_
        refine tr_draw [0, 1, 2, 3, 4, 5, 6, 7, 8] [9] mixed (by kernel_rfl) fun _ _ _ => ?_
        iterate 2 refine pu rfl rfl rfl rfl rfl ?_
        refine st rfl rfl rfl rfl (rLdS rfl rfl rfl) ?_
        iterate 2 refine pu rfl rfl rfl rfl rfl ?_
        refine st rfl rfl rfl rfl (rIdxI rfl rfl rfl (by omega) (by omega) (by omega)) ?_
        refine st rfl rfl rfl rfl (rLdI rfl rfl (by omega)) ?_
        refine ef rfl rfl (eCallV rfl rfl rfl (hin1 _) ⟨rfl, rfl, trivial⟩ ?_) 
        refine st rfl rfl rfl rfl (rIdxI rfl rfl rfl (by omega) (by omega) (by omega)) ?_
        refine ef rfl rfl (eStI rfl rfl rfl rfl (by omega) ?_) 
        refine tr_region fun _ _ _ => ?_
        refine pu rfl rfl rfl rfl rfl ?_
        refine st rfl rfl rfl rfl (rAdd rfl rfl rfl (by omega) (by omega)) ?_
        refine pu rfl rfl rfl rfl rfl ?_
        refine ⟨k + 1, x.set k.toNat (inI (pw p m) (l.getD k.toNat 0)), ⟨rfl, rfl, rfl, rfl, rfl, rfl, rfl, rfl, rfl, trivial⟩, by first | exact cs _ _ | exact CSub.refl _, ?_⟩
        exact ⟨⟨⟨by omega, by omega⟩, by simpa using hxl0, hxa.set (inI_bd (by omega) _) _⟩, by omega⟩
      · try simp only [zbA] at h8
        refine tr_exit ?_
        refine tr_seq ?_
        refine tr_region fun _ _ _ => ?_
        refine pu rfl rfl rfl rfl rfl ?_
        refine tr_seq ?_
        refine tr_seq ?_
        refine tr_region fun _ _ _ => ?_
        refine pu rfl rfl rfl rfl rfl ?_
        refine tr_block ?_
        refine tr_loop2 (fun (k : Int) (z : Bool) => [(15, .bool z), (16, .int .i64 k), (2, .int .i64 n), (3, .slice Z zs.length cz), (5, .pointer (some p0)), (6, .pointer (some p0a)), (10, .bool false), (11, .pointer (some p3a)), (13, .slice A6 n.toNat n.toNat)]) (fun (k : Int) (z : Bool) => [ow A6 3 n.toNat (ints x), blk p3a 27 [.int .i64 p, .int .i64 m, .slice Bm mod.length cm, .int .i64 n, .slice B r3.length r3.length], ow Bm 3 cm (ints mod), rx B (hdrs r3), rowsCh 3 r3, blk p0a 24 [.int .i64 p, .int .i64 m2, .slice Ae mod2.length ce], blk p0 24 [.int .i64 p, .int .i64 m, .slice A mod.length c], ro A (ints mod), ro Ae (ints mod2), ro Z (ints zs), ro X (ints l)]) (fun (k : Int) (z : Bool) => (0 ≤ k ∧ k ≤ zs.length) ∧ z = ((zs.take k.toNat).all fun i => decide ((Po.val (pol (x.map (fun y : Int => (imL p m2 mod2 m (embR p m2 mod2 m mod)).getD y.toNat 0)) : Po (El p m2 mod2)) (Rg.pow (el (rootI p m2 mod2 n) : El p m2 mod2) (i % n).toNat)).1 = 0))) (fun (k : Int) (z : Bool) => (zs.length - k).toNat) (0) (true) ⟨rfl, rfl, rfl, rfl, rfl, rfl, rfl, rfl, rfl, trivial⟩ (by first | exact cs _ _ | exact CSub.refl _) (⟨⟨by omega, by omega⟩, by simp⟩) (fun k z hI => ?_)
        obtain ⟨⟨hk0, hk1⟩, hz2⟩ := hI
        refine tr_seq ?_
        refine tr_seq ?_
        refine tr_region fun _ _ _ => ?_
        iterate 2 refine pu rfl rfl rfl rfl rfl ?_
        refine st rfl rfl rfl rfl (rLen rfl rfl) ?_
        refine pu rfl rfl rfl rfl rfl ?_
        refine tr_cond_bool rfl (fun h13 => ?_) (fun h13 => ?_)
        · try simp only [zbA] at h13
          refine tr_skip ?_
          refine tr_seq ?_
          refine tr_block ?_
          refine tr_draw [0, 1, 2, 3, 4, 5, 6, 7, 8, 9, 10, 11, 12, 13] [] mixed (by kernel_rfl) fun _ _ _ => ?_
          iterate 2 refine pu rfl rfl rfl rfl rfl ?_
          refine stg rfl rfl rfl rfl rfl (fun hb => by (have hq := hb; try simp only [zbA] at hq); exact rLdS rfl rfl rfl) ?_
          refine stg rfl rfl rfl rfl rfl (fun hb => by (have hq := hb; try simp only [zbA] at hq); exact rLdS rfl rfl rfl) ?_
          refine stg rfl rfl rfl rfl rfl (fun hb => by (have hq := hb; try simp only [zbA] at hq); exact rMove rfl rfl) ?_
          refine stg rfl rfl rfl rfl rfl (fun hb => by (have hq := hb; try simp only [zbA] at hq); exact rMove rfl rfl) ?_
          refine stg rfl rfl rfl rfl rfl (fun hb => by (have hq := hb; try simp only [zbA] at hq); exact rMove rfl rfl) ?_
          refine stg rfl rfl rfl rfl rfl (fun hb => by (have hq := hb; try simp only [zbA] at hq); exact rMove rfl rfl) ?_
          refine stg rfl rfl rfl rfl rfl (fun hb => by (have hq := hb; try simp only [zbA] at hq); exact rIdxI rfl (evg rfl hb) (evg rfl hb) (by omega) (by omega) (by omega)) ?_
          refine stg rfl rfl rfl rfl rfl (fun hb => by (have hq := hb; try simp only [zbA] at hq); exact rLdI rfl (evg rfl hb) (by omega)) ?_
          refine efg rfl rfl rfl rfl rfl (fun hb => by (have hq := hb; try simp only [zbA] at hq); exact eCallV rfl rfl rfl (ref_CValue p m A c mod m2 Ae ce mod2 hd n A6 _ _ x (by omega) (by omega) hn1 (by omega) hxa _) ⟨(evg rfl hb), (evg rfl hb), (evg rfl hb), (evg rfl hb), (evg rfl hb), trivial⟩ ⟨rfl, rfl⟩) ?_
          refine stg rfl rfl rfl rfl rfl (fun hb => by (have hq := hb; try simp only [zbA] at hq); exact rEql rfl (evg rfl hb) rfl) ?_
          refine st rfl rfl rfl rfl (rAndB rfl rfl rfl rfl) ?_
          refine pu rfl rfl rfl rfl rfl ?_
          refine tr_region fun _ _ _ => ?_
          refine pu rfl rfl rfl rfl rfl ?_
          refine st rfl rfl rfl rfl (rAdd rfl rfl rfl (by omega) (by omega)) ?_
          refine pu rfl rfl rfl rfl rfl ?_
          refine ⟨k + 1, (z && decide ((Po.val (pol (x.map (fun y : Int => (imL p m2 mod2 m (embR p m2 mod2 m mod)).getD y.toNat 0)) : Po (El p m2 mod2)) (Rg.pow (el (rootI p m2 mod2 n) : El p m2 mod2) (zs.getD k.toNat 0 % n).toNat)).1 = 0)), ⟨rfl, rfl, rfl, rfl, rfl, rfl, rfl, rfl, rfl, trivial⟩, by first | exact cs _ _ | exact CSub.refl _, ?_⟩
          refine ⟨⟨⟨by omega, by omega⟩, ?_⟩, by omega⟩
          rw [hz2, show (k + 1).toNat = k.toNat + 1 by omega, List.take_add_one, List.getElem?_eq_getElem (show k.toNat < zs.length by omega), List.all_append, List.getD_eq_getElem?_getD, List.getElem?_eq_getElem (show k.toNat < zs.length by omega)]
          simp
        · try simp only [zbA] at h13
          refine tr_exit ?_
          refine tr_seq ?_
          refine tr_region fun _ _ _ => ?_
          refine st rfl rfl rfl rfl (rLdS rfl rfl rfl) ?_
          refine pu rfl rfl rfl rfl rfl ?_
          refine ef rfl rfl (eCallV rfl rfl rfl (ref_CHas p m Bm cm mod n B _ _ r3 rfl (by have := hC.le; omega) (hC.ok hn1 hn64) A6 _ _ x (by omega) (by omega) hxa) ⟨rfl, rfl, trivial⟩ ?_) 
          iterate 5 refine pu rfl rfl rfl rfl rfl ?_
          refine tr_seq ?_
          refine tr_region fun _ _ _ => ?_
          iterate 2 refine pu rfl rfl rfl rfl rfl ?_
          refine st rfl rfl rfl rfl (rBEql rfl rfl rfl) ?_
          refine pu rfl rfl rfl rfl rfl ?_
          have hkc : zs.take k.toNat = zs := List.take_of_length_le (by omega)
          rw [hkc] at hz2
          have hmz : memB p m mod r3 x = z := by
            rw [hz2, Bool.eq_iff_iff, memB_iff, hC.span, List.all_eq_true, cyw_pol (by omega), gen_dvd hd (root_ord hn1 hr) hgK]
            refine forall_congr' fun y => forall_congr' fun _ => ?_
            rw [decide_eq_true_iff, el_val0, map_phi hd hxa]
          exact tr_ret ⟨trivial, _, _, rfl, ⟨by simp [hmz], rfl⟩, CSub.nil _, trivial⟩
theorem law_BchMembers_B_ent : Enters Tryz.prog 10 := enters_of Tryz.func10 (by kernel_rfl) (by kernel_rfl)
theorem law_BchMembers_B (p m : Int) (A : Option Addr) (c : Nat) (mod : List Int) (p2 m2 : Int) (Ae : Option Addr) (ce : Nat) (mod2 : List Int) (hl9 : mod.length ≤ 17592186044415) (hl92 : mod2.length ≤ 17592186044415) (n : Int) (Z : Option Addr) (cz : Nat) (zs : List Int) (hz9 : zs.length ≤ 17592186044415) (X : Option Addr) (nx cx : Nat) (l : List Int) (hnx : nx = l.length) (hxl : l.length ≤ 17592186044415) (v : Int) (ha : Pure Tryz.prog 49 #[.agg #[.int .i64 p, .int .i64 m, .slice A mod.length c], .agg #[.int .i64 p2, .int .i64 m2, .slice Ae mod2.length ce], .int .i64 n] [ro A (ints mod), ro Ae (ints mod2)] (isV (.int .i64 v))) (hbad : zs.length > 40 ∨ n > 31 ∨ v ≠ 0) :
    Pure Tryz.prog 10 #[.agg #[.int .i64 p, .int .i64 m, .slice A mod.length c], .agg #[.int .i64 p2, .int .i64 m2, .slice Ae mod2.length ce], .int .i64 n, .slice Z zs.length cz, .slice X nx cx] [ro A (ints mod), ro Ae (ints mod2), ro Z (ints zs), ro X (ints l)] (isV (.bool true)) := by
  refine pure_of (args := [.agg #[.int .i64 p, .int .i64 m, .slice A mod.length c], .agg #[.int .i64 p2, .int .i64 m2, .slice Ae mod2.length ce], .int .i64 n, .slice Z zs.length cz, .slice X nx cx]) 111 Tryz.func10 rfl rfl rfl law_BchMembers_B_ent ⟨id, id, id, id, trivial⟩ (fun w0 => ?_)
  refine tr_seq ?_
  refine tr_region fun _ _ _ => ?_
  refine ef rfl rfl (eBox rfl rfl rfl rfl rfl (fun p0 => ?_)) 
  refine ef rfl rfl (eBox rfl rfl rfl rfl rfl (fun p0a => ?_)) 
  refine pu rfl rfl rfl rfl rfl ?_
  refine tr_seq ?_
  refine tr_seq ?_
  refine tr_region fun _ _ _ => ?_
  refine pu rfl rfl rfl rfl rfl ?_
  refine st rfl rfl rfl rfl (rLen rfl rfl) ?_
  iterate 2 refine pu rfl rfl rfl rfl rfl ?_
  refine stg rfl rfl rfl rfl rfl (fun hb => by (have hq := hb; try simp only [zbA] at hq); exact rMove rfl rfl) ?_
  refine stg rfl rfl rfl rfl rfl (fun hb => by (have hq := hb; try simp only [zbA] at hq); exact rGtr rfl (evg rfl hb) rfl) ?_
  refine st rfl rfl rfl rfl (rOrB rfl rfl rfl rfl) ?_
  refine pu rfl rfl rfl rfl rfl ?_
  refine stg rfl rfl rfl rfl rfl (fun hb => by (have hq := hb; try simp only [zbA] at hq); exact rLdS rfl rfl rfl) ?_
  refine stg rfl rfl rfl rfl rfl (fun hb => by (have hq := hb; try simp only [zbA] at hq); exact rLdS rfl rfl rfl) ?_
  refine stg rfl rfl rfl rfl rfl (fun hb => by (have hq := hb; try simp only [zbA] at hq); exact rMove rfl rfl) ?_
  refine efg rfl rfl rfl rfl rfl (fun hb => by (have hq := hb; try simp only [zbA] at hq); exact eCallV rfl rfl rfl (ha) ⟨(evg rfl hb), (evg rfl hb), (evg rfl hb), trivial⟩ ⟨rfl, rfl⟩) ?_
  refine stg rfl rfl rfl rfl rfl (fun hb => by (have hq := hb; try simp only [zbA] at hq); exact rNeq rfl (evg rfl hb) rfl) ?_
  refine st rfl rfl rfl rfl (rOrB rfl rfl rfl rfl) ?_
  refine tr_cond_bool rfl (fun h1 => ?_) (fun h1 => ?_)
  · try simp only [zbA] at h1
    refine tr_seq ?_
    refine tr_region fun _ _ _ => ?_
    refine pu rfl rfl rfl rfl rfl ?_
    exact tr_ret ⟨trivial, _, _, rfl, ⟨rfl, rfl⟩, CSub.nil _, trivial⟩
  · try simp only [zbA] at h1
    exact absurd h1 (by simp; omega) --done
theorem law_BchMembers (p m : Int) (A : Option Addr) (c : Nat) (mod : List Int) (p2 m2 : Int) (Ae : Option Addr) (ce : Nat) (mod2 : List Int) (hl9 : mod.length ≤ 17592186044415) (hl92 : mod2.length ≤ 17592186044415) (n : Int) (Z : Option Addr) (cz : Nat) (zs : List Int) (hz9 : zs.length ≤ 17592186044415) (X : Option Addr) (nx cx : Nat) (l : List Int) (hnx : nx = l.length) (hxl : l.length ≤ 17592186044415) : Pure Tryz.prog 10 #[.agg #[.int .i64 p, .int .i64 m, .slice A mod.length c], .agg #[.int .i64 p2, .int .i64 m2, .slice Ae mod2.length ce], .int .i64 n, .slice Z zs.length cz, .slice X nx cx] [ro A (ints mod), ro Ae (ints mod2), ro Z (ints zs), ro X (ints l)] (isV (.bool true)) := by
  by_cases hF0 : FldR p m mod
  · haveI hF : IsF p m mod := ⟨hF0⟩
    by_cases hE0 : FldR p2 m2 mod2
    · haveI hE : IsF p2 m2 mod2 := ⟨hE0⟩
      by_cases hb : n < 1 ∨ n > 64
      · exact law_BchMembers_B p m A c mod p2 m2 Ae ce mod2 hl9 hl92 n Z cz zs hz9 X nx cx l hnx hxl _ (ref_FArgs4 p m A c mod p2 m2 Ae ce mod2 n hb) (.inr (.inr (by omega)))
      · have hn1 : 1 ≤ n := by omega
        have hn64 : n ≤ 64 := by omega
        by_cases hpp : p = p2
        · by_cases hd : m2 % m = 0
          · subst hpp
            by_cases hr : rootI p m2 mod2 n = 0
            · exact law_BchMembers_B p m A c mod p m2 Ae ce mod2 hl9 hl92 n Z cz zs hz9 X nx cx l hnx hxl _ (ref_FArgsG p m A c mod m2 Ae ce mod2 hd n hn1 hn64) (.inr (.inr (by simp [hr])))
            · by_cases hs : zs.length > 40 ∨ n > 31
              · exact law_BchMembers_B p m A c mod p m2 Ae ce mod2 hl9 hl92 n Z cz zs hz9 X nx cx l hnx hxl _ (ref_FArgsG p m A c mod m2 Ae ce mod2 hd n hn1 hn64) (by omega)
              · exact law_BchMembers_G p m A c mod m2 Ae ce mod2 hd n hn1 hn64 hr Z cz zs (by omega) (by omega) X nx cx l hnx hxl
          · exact law_BchMembers_B p m A c mod p2 m2 Ae ce mod2 hl9 hl92 n Z cz zs hz9 X nx cx l hnx hxl _ (ref_FArgs10 p m A c mod p2 m2 Ae ce mod2 n hn1 hn64 (fun h => hd h.2)) (.inr (.inr (by omega)))
        · exact law_BchMembers_B p m A c mod p2 m2 Ae ce mod2 hl9 hl92 n Z cz zs hz9 X nx cx l hnx hxl _ (ref_FArgs10 p m A c mod p2 m2 Ae ce mod2 n hn1 hn64 (fun h => hpp h.1)) (.inr (.inr (by omega)))
    · have hch : chkF p2 m2 mod2 ≠ 0 := by rw [chkF_no hE0]; omega
      exact law_BchMembers_B p m A c mod p2 m2 Ae ce mod2 hl9 hl92 n Z cz zs hz9 X nx cx l hnx hxl _ (ref_FArgs1 p m A c mod p2 m2 Ae ce mod2 hl9 hl92 n (.inr hch)) (.inr (.inr (by omega)))
  · have hch : chkF p m mod ≠ 0 := by rw [chkF_no hF0]; omega
    exact law_BchMembers_B p m A c mod p2 m2 Ae ce mod2 hl9 hl92 n Z cz zs hz9 X nx cx l hnx hxl _ (ref_FArgs1 p m A c mod p2 m2 Ae ce mod2 hl9 hl92 n (.inl hch)) (.inr (.inr (by omega)))
end Go.Proofs.YtjmojhflnjbgaaaGreat

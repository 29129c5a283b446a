/-
  FACTORFROBENIUS, PART 4 OF 9. One sentence: the texts behind the law FactorFrobenius, put together.
  Conditions: each theorem's own, written out in it.
-/
import Derived.Scope
import Derived.Test.YtbhoeaijpnjgdaaK3
set_option linter.unusedSimpArgs false
set_option linter.unusedVariables false
set_option linter.unusedSectionVars false
set_option maxRecDepth 100000
namespace Go.Proofs.Ytbhoeaijpnjgdaa
open Go.RowKit
theorem poly_combine_ent : Enters Try.prog 113 := enters_of Try.func113 (by kernel_rfl) (by kernel_rfl)
theorem poly_combine (g : GfM) {p m : Int} {mod : List Int} [hF : IsF p m mod] (hg : GOk g p m mod) (A : Option Addr) (n c : Nat) (a : List Int) (hn : n = a.length) (ha9 : a.length ≤ 1000000) (x : Int) (B : Option Addr) (k d : Nat) (b : List Int) (hk : k = b.length) (hb9 : b.length ≤ 1000000) :
  Pure Try.prog 113 #[.pointer (some g.p), .slice A n c, .int .i64 x, .slice B k d] [gfR g, ro A (ints a), ro B (ints b)] (one (fun v ch => ∃ B cap, v = .slice B (il ((pol a : Po (El p m mod)) + Po.C (el x) * (pol b : Po (El p m mod)))).length cap ∧ ch = ow B 3 cap (ints (il ((pol a : Po (El p m mod)) + Po.C (el x) * (pol b : Po (El p m mod))))))) := by
 have hq2 := hF.q2
 refine pure_of (args := [.pointer (some g.p), .slice A n c, .int .i64 x, .slice B k d]) 57 Try.func113 rfl rfl rfl poly_combine_ent ⟨id, id, id, trivial⟩ (fun w0 => ?_)
 refine tS ?_
 refine tR fun _ _ _ => ?_
 refine pV ?_
 refine tS ?_
 refine tR fun _ _ _ => ?_
 refine pV ?_
 refine sV (rLen rfl rfl) ?_
 refine pV ?_
 refine sV (rLen rfl rfl) ?_
 refine sV (rMax rfl rfl rfl) ?_
 refine eV (eMakeI rfl rfl rfl rfl rfl (by omega) (by omega) (by omega) (fun A1 => ?_))
 refine pV ?_
 have hmx : (max (n : Int) (k : Int)).toNat = max n k := by omega
 simp only [hmx]
 refine tS ?_
 refine tS ?_
 refine tR fun _ _ _ => ?_
 refine pV ?_
 refine sV (rLen rfl rfl) ?_
 refine pV ?_
 refine tB ?_
 refine tr_loop2 (fun (i : Int) (o : List Int) => [(9, .slice A1 (max n k) (max n k)), (20, .slice A n c), (21, .int .i64 n), (22, .int .i64 i), (3, .slice B k d), (0, .pointer (some g.p)), (2, .int .i64 x), (8, .slice none 0 0)]) (fun (i : Int) (o : List Int) => [ow A1 3 (max n k) (ints o), gfR g, ro A (ints a), ro B (ints b)]) (fun (i : Int) (o : List Int) => (0 ≤ i ∧ i ≤ n) ∧ (o.length = max n k ∧ AllIn (pw p m) o) ∧ ∀ j : Nat, o.getD j 0 = if (j : Int) < i then (el (a.getD j 0) : El p m mod).1 else 0) (fun (i : Int) (o : List Int) => (n - i).toNat) (0) (List.replicate (max n k) 0) ⟨rfl, rfl, rfl, rfl, rfl, rfl, rfl, rfl, trivial⟩ (by first | exact cs _ _ | exact CSub.refl _) (⟨⟨by omega, by omega⟩, ⟨by simp, allIn_rep (by omega) _⟩, fun j => by rw [rep_get, if_neg (by omega)]⟩) (fun i o hI => ?_)
 obtain ⟨⟨hi0, hi1⟩, ⟨hol, hoi⟩, ho⟩ := hI
 refine tS ?_
 refine tR fun _ _ _ => ?_
 refine pV ?_
 refine tS ?_
 refine tC rfl (fun h3 => ?_) (fun h3 => ?_)
 ·try simp only [zbA] at h3
  refine tK ?_
  refine tS ?_
  refine tB ?_
  refine tS ?_
  refine tR fun _ _ _ => ?_
  refine pV ?_
  refine sV (rIdxI rfl rfl rfl (by omega) (by omega) (by omega)) ?_
  refine sV (rLdI rfl rfl (by omega)) ?_
  iterate 2 refine pV ?_
  refine tR fun _ _ _ => ?_
  iterate 4 refine pV ?_
  refine eV (eCallV rfl rfl rfl (gf_AddE g hg _ _) ⟨rfl, rfl, rfl, trivial⟩ ?_)
  refine sV (rIdxI rfl rfl rfl (by omega) (by omega) (by omega)) ?_
  refine eV (eStI rfl rfl rfl rfl (by omega) ?_)
  refine tR fun _ _ _ => ?_
  refine sV (rAdd rfl rfl rfl (by omega) (by omega)) ?_
  refine pV ?_
  refine ⟨i + 1, o.set i.toNat (el (a.getD i.toNat 0) + el 0 : El p m mod).1, ⟨rfl, rfl, rfl, rfl, rfl, rfl, rfl, rfl, trivial⟩, by first | exact cs _ _ | exact CSub.refl _, ?_⟩
  refine ⟨⟨⟨by omega, by omega⟩, ⟨by simpa using hol, hoi.set (El.bd _) _⟩, fun j => ?_⟩, by omega⟩
  rw [getD_set, ho j]
  by_cases he : i.toNat = j
  ·subst he; rw [if_pos ⟨rfl, by omega⟩, if_pos (by omega), el_zero, Rg.add_zero]
  ·rw [if_neg (fun e => he e.1)]
   by_cases h : (j : Int) < i
   ·rw [if_pos h, if_pos (by omega)]
   ·rw [if_neg h, if_neg (by omega)]
 ·try simp only [zbA] at h3
  refine tE ?_
  refine tS ?_
  refine tS ?_
  refine tR fun _ _ _ => ?_
  refine pV ?_
  refine sV (rLen rfl rfl) ?_
  refine pV ?_
  refine tB ?_
  refine tr_loop2 (fun (i : Int) (o : List Int) => [(9, .slice A1 (max n k) (max n k)), (34, .slice B k d), (35, .int .i64 k), (36, .int .i64 i), (0, .pointer (some g.p)), (2, .int .i64 x), (8, .slice none 0 0)]) (fun (i : Int) (o : List Int) => [ow A1 3 (max n k) (ints o), gfR g, ro A (ints a), ro B (ints b)]) (fun (i : Int) (o : List Int) => (0 ≤ i ∧ i ≤ k) ∧ (o.length = max n k ∧ AllIn (pw p m) o) ∧ ∀ j : Nat, (el (o.getD j 0) : El p m mod) = el (a.getD j 0) + if (j : Int) < i then el x * el (b.getD j 0) else 0) (fun (i : Int) (o : List Int) => (k - i).toNat) (0) (o) ⟨rfl, rfl, rfl, rfl, rfl, rfl, rfl, trivial⟩ (by first | exact cs _ _ | exact CSub.refl _) (⟨⟨by omega, by omega⟩, ⟨hol, hoi⟩, fun j => by
   rw [ho j, if_neg (show ¬ ((j : Int) < 0) by omega), Rg.add_zero]
   by_cases h : (j : Int) < i
   ·rw [if_pos h, el_of]
   ·rw [if_neg h, getD_out (l := a) (by omega)]⟩) (fun i o hI => ?_)
  obtain ⟨⟨hi0, hi1⟩, ⟨hol, hoi⟩, ho⟩ := hI
  refine tS ?_
  refine tR fun _ _ _ => ?_
  refine pV ?_
  refine tS ?_
  refine tC rfl (fun h8 => ?_) (fun h8 => ?_)
  ·try simp only [zbA] at h8
   refine tK ?_
   refine tS ?_
   refine tB ?_
   refine tS ?_
   refine tR fun _ _ _ => ?_
   refine pV ?_
   refine sV (rIdxI rfl rfl rfl (by omega) (by omega) (by omega)) ?_
   refine sV (rLdI rfl rfl (by omega)) ?_
   iterate 2 refine pV ?_
   refine tr_draw [0, 1, 2, 3, 4, 5, 6, 7, 8, 9, 10, 11, 12] [13] mixed (by kernel_rfl) fun _ _ _ => ?_
   iterate 5 refine pV ?_
   refine sV (rIdxI rfl rfl rfl (by omega) (by omega) (by omega)) ?_
   refine sV (rLdI rfl rfl (by omega)) ?_
   iterate 3 refine pV ?_
   refine eV (eCallV rfl rfl rfl (gf_MulE g hg _ _) ⟨rfl, rfl, rfl, trivial⟩ ?_)
   refine eV (eCallV rfl rfl rfl (gf_AddE g hg _ _) ⟨rfl, rfl, rfl, trivial⟩ ?_)
   refine sV (rIdxI rfl rfl rfl (by omega) (by omega) (by omega)) ?_
   refine eV (eStI rfl rfl rfl rfl (by omega) ?_)
   refine tR fun _ _ _ => ?_
   refine sV (rAdd rfl rfl rfl (by omega) (by omega)) ?_
   refine pV ?_
   refine ⟨i + 1, o.set i.toNat (el (o.getD i.toNat 0) + el (el x * el (b.getD i.toNat 0) : El p m mod).1 : El p m mod).1, ⟨rfl, rfl, rfl, rfl, rfl, rfl, rfl, trivial⟩, by first | exact cs _ _ | exact CSub.refl _, ?_⟩
   refine ⟨⟨⟨by omega, by omega⟩, ⟨by simpa using hol, hoi.set (El.bd _) _⟩, fun j => ?_⟩, by omega⟩
   rw [getD_set]
   by_cases he : i.toNat = j
   ·subst he; rw [if_pos ⟨rfl, by omega⟩, if_pos (by omega), el_of, el_of, ho, if_neg (by omega), Rg.add_zero]
   ·rw [if_neg (fun e => he e.1), ho j]
    by_cases h : (j : Int) < i
    ·rw [if_pos h, if_pos (by omega)]
    ·rw [if_neg h, if_neg (by omega)]
  ·try simp only [zbA] at h8
   refine tE ?_
   refine tS ?_
   refine tR fun _ _ _ => ?_
   refine pV ?_
   refine eV (eCallV rfl rfl rfl (poly_trim _ _ _ o (by omega) (by omega) (by omega)) ⟨rfl, trivial⟩ ?_)
   refine pV ?_
   have hp : (pol o : Po (El p m mod)) = pol a + Po.C (el x) * pol b := Po.ext fun j => by
    rw [Po.cf_add, Po.cf_C_mul, cf_pol, cf_pol, cf_pol, ho j]
    by_cases h : (j : Int) < i
    ·rw [if_pos h]
    ·rw [if_neg h, getD_out (l := b) (by omega), el_zero, Rg.mul_zero]
   rw [← hp, il_trim hoi]
   exact tr_ret ⟨trivial, _, _, rfl, ⟨_, rfl, A1, max n k, rfl, rfl⟩, (cs _ [ow A1 3 (max n k) (ints o)]).trans (shrink_trim _ _), trivial, trivial⟩
theorem poly_Sub_ent : Enters Try.prog 54 := enters_of Try.func54 (by kernel_rfl) (by kernel_rfl)
theorem poly_Sub (g : GfM) {p m : Int} {mod : List Int} [hF : IsF p m mod] (hg : GOk g p m mod) (A : Option Addr) (n c : Nat) (a : List Int) (hn : n = a.length) (ha9 : a.length ≤ 1000000) (B : Option Addr) (k d : Nat) (b : List Int) (hk : k = b.length) (hb9 : b.length ≤ 1000000) :
  Pure Try.prog 54 #[.pointer (some g.p), .slice A n c, .slice B k d] [gfR g, ro A (ints a), ro B (ints b)] (one (fun v ch => ∃ B cap, v = .slice B (il ((pol a : Po (El p m mod)) - (pol b : Po (El p m mod)))).length cap ∧ ch = ow B 3 cap (ints (il ((pol a : Po (El p m mod)) - (pol b : Po (El p m mod))))))) := by
 refine pure_of (args := [.pointer (some g.p), .slice A n c, .slice B k d]) 13 Try.func54 rfl rfl rfl poly_Sub_ent ⟨id, id, id, trivial⟩ (fun w0 => ?_)
 refine tS ?_
 refine tR fun _ _ _ => ?_
 refine pV ?_
 refine tS ?_
 refine tR fun _ _ _ => ?_
 iterate 3 refine pV ?_
 refine eV (eCallV rfl rfl rfl (gf_NegE g hg _) ⟨rfl, rfl, trivial⟩ ?_)
 refine pV ?_
 refine eV (eCall1 rfl rfl rfl (poly_combine g hg A n c a hn ha9 (-(el 1 : El p m mod)).1 B k d b hk hb9) ⟨rfl, rfl, rfl, rfl, trivial⟩ ?_)
 rintro _ _ ⟨Br, cr, rfl, rfl⟩
 refine pV ?_
 have hp : (pol a : Po (El p m mod)) + Po.C (el (-(el 1 : El p m mod)).1) * pol b = pol a - pol b := by rw [C_neg_one]; rfl
 rw [hp]
 exact tr_ret ⟨trivial, _, _, rfl, ⟨_, rfl, Br, cr, rfl, rfl⟩, cs _ _, trivial, trivial⟩
theorem poly_product_ent : Enters Try.prog 121 := enters_of Try.func121 (by kernel_rfl) (by kernel_rfl)
theorem poly_product (g : GfM) {p m : Int} {mod : List Int} [hF : IsF p m mod] (hg : GOk g p m mod) (A : Option Addr) (n c : Nat) (a : List Int) (hn : n = a.length) (ha9 : a.length ≤ 1000000) (B : Option Addr) (k d : Nat) (b : List Int) (hk : k = b.length) (hb9 : b.length ≤ 1000000) :
  Pure Try.prog 121 #[.pointer (some g.p), .slice A n c, .slice B k d] [gfR g, ro A (ints a), ro B (ints b)] (one (fun v ch => ∃ B cap, v = .slice B (il ((pol a : Po (El p m mod)) * (pol b : Po (El p m mod)))).length cap ∧ ch = ow B 3 cap (ints (il ((pol a : Po (El p m mod)) * (pol b : Po (El p m mod))))))) := by
 have hq2 := hF.q2
 have hla := il_le (p := p) (m := m) (mod := mod) a
 have hlb := il_le (p := p) (m := m) (mod := mod) b
 refine pure_of (args := [.pointer (some g.p), .slice A n c, .slice B k d]) 67 Try.func121 rfl rfl rfl poly_product_ent ⟨id, id, id, trivial⟩ (fun w0 => ?_)
 refine tS ?_
 refine tR fun _ _ _ => ?_
 refine pV ?_
 refine tS ?_
 refine tR fun _ _ _ => ?_
 iterate 2 refine pV ?_
 refine eV (eCall1 rfl rfl rfl (poly_CanonE g hg A n c a hn (by omega)) ⟨rfl, rfl, trivial⟩ ?_)
 rintro _ _ ⟨B1, c1, rfl, hcap1, rfl⟩
 iterate 2 refine pV ?_
 refine eV (eCall1 rfl rfl rfl (poly_CanonE g hg B k d b hk (by omega)) ⟨rfl, rfl, trivial⟩ ?_)
 rintro _ _ ⟨B1a, c1a, rfl, hcap1a, rfl⟩
 iterate 2 refine pV ?_
 refine tS ?_
 refine tS ?_
 refine tR fun _ _ _ => ?_
 refine pV ?_
 refine sV (rLen rfl rfl) ?_
 iterate 2 refine pV ?_
 refine stg rfl rfl rfl rfl rfl (fun hb => by (have hq := hb; try simp only [zbA] at hq); exact rMove rfl rfl) ?_
 refine stg rfl rfl rfl rfl rfl (fun hb => by (have hq := hb; try simp only [zbA] at hq); exact rLen rfl (evg rfl hb)) ?_
 refine stg rfl rfl rfl rfl rfl (fun hb => by (have hq := hb; try simp only [zbA] at hq); exact rEql rfl (evg rfl hb) rfl) ?_
 refine sV (rOrB rfl rfl rfl rfl) ?_
 refine tC rfl (fun h2 => ?_) (fun h2 => ?_)
 ·try simp only [zbA] at h2
  refine tS ?_
  refine tr_nilI 3 ?_
  refine tR fun _ _ _ => ?_
  refine pV ?_
  have h0 : (pol a : Po (El p m mod)) * (pol b : Po (El p m mod)) = 0 := by
   rcases h2 with h | h
   ·rw [Po.eq_zero_of_len (f := (pol a : Po (El p m mod))) (by rw [← il_length]; omega), Rg.zero_mul]
   ·rw [Po.eq_zero_of_len (f := (pol b : Po (El p m mod))) (by rw [← il_length]; omega), Rg.mul_zero]
  rw [h0, il_zero]
  exact tr_ret ⟨trivial, _, _, rfl, ⟨_, rfl, none, 0, rfl, rfl⟩, cs _ _, trivial, trivial⟩
 ·try simp only [zbA] at h2
  refine tK ?_
  refine tS ?_
  refine tR fun _ _ _ => ?_
  refine pV ?_
  refine sV (rLen rfl rfl) ?_
  refine pV ?_
  refine sV (rLen rfl rfl) ?_
  refine sV (rAdd rfl rfl rfl (by omega) (by omega)) ?_
  refine sV (rSub rfl rfl rfl (by omega) (by omega)) ?_
  refine eV (eMakeI rfl rfl rfl rfl rfl (by omega) (by omega) (by omega) (fun A4 => ?_))
  refine pV ?_
  generalize hN : (((il (pol a : Po (El p m mod))).length : Int) + (il (pol b : Po (El p m mod))).length - 1).toNat = N
  refine tS ?_
  refine tS ?_
  refine tR fun _ _ _ => ?_
  refine pV ?_
  refine sV (rLen rfl rfl) ?_
  refine pV ?_
  refine tB ?_
  refine tr_loop2 (fun (i : Int) (o : List Int) => [(7, .slice A4 N N), (1, .slice B1 (il (pol a : Po (El p m mod))).length c1), (2, .slice B1a (il (pol b : Po (El p m mod))).length c1a), (33, .slice B1 (il (pol a : Po (El p m mod))).length c1), (34, .int .i64 (il (pol a : Po (El p m mod))).length), (35, .int .i64 i), (0, .pointer (some g.p)), (6, .slice none 0 0)]) (fun (i : Int) (o : List Int) => [ow A4 3 N (ints o), ow B1a 3 c1a (ints (il (pol b : Po (El p m mod)))), ow B1 3 c1 (ints (il (pol a : Po (El p m mod)))), gfR g, ro A (ints a), ro B (ints b)]) (fun (i : Int) (o : List Int) => (0 ≤ i ∧ i ≤ (il (pol a : Po (El p m mod))).length) ∧ (o.length = N ∧ AllIn (pw p m) o) ∧ (pol o : Po (El p m mod)) = pol ((il (pol a : Po (El p m mod))).take i.toNat) * (pol b : Po (El p m mod))) (fun (i : Int) (o : List Int) => (((il (pol a : Po (El p m mod))).length : Int) - i).toNat) (0) (List.replicate N 0) ⟨rfl, rfl, rfl, rfl, rfl, rfl, rfl, rfl, trivial⟩ (by first | exact cs _ _ | exact CSub.refl _) (⟨⟨by omega, by omega⟩, ⟨by simp, allIn_rep (by omega) _⟩, by rw [pol_rep, Int.toNat_zero, pol_take_zero]; grind⟩) (fun i o hI => ?_)
  obtain ⟨⟨hi0, hi1⟩, ⟨hol, hoi⟩, ho⟩ := hI
  refine tS ?_
  refine tR fun _ _ _ => ?_
  refine pV ?_
  refine tS ?_
  refine tC rfl (fun h6 => ?_) (fun h6 => ?_)
  ·try simp only [zbA] at h6
   refine tK ?_
   refine tS ?_
   refine tB ?_
   refine tS ?_
   refine tR fun _ _ _ => ?_
   refine pV ?_
   refine sV (rIdxI rfl rfl rfl (by omega) (by omega) (by omega)) ?_
   refine sV (rLdI rfl rfl (by omega)) ?_
   iterate 2 refine pV ?_
   refine tS ?_
   refine tR fun _ _ _ => ?_
   refine pV ?_
   refine sV (rLen rfl rfl) ?_
   refine pV ?_
   refine tB ?_
   refine tr_loop2 (fun (j : Int) (o2 : List Int) => [(7, .slice A4 N N), (1, .slice B1 (il (pol a : Po (El p m mod))).length c1), (2, .slice B1a (il (pol b : Po (El p m mod))).length c1a), (40, .slice B1a (il (pol b : Po (El p m mod))).length c1a), (41, .int .i64 (il (pol b : Po (El p m mod))).length), (42, .int .i64 j), (9, .int .i64 ((il (pol a : Po (El p m mod))).getD i.toNat 0)), (0, .pointer (some g.p)), (6, .slice none 0 0), (8, .int .i64 i), (33, .slice B1 (il (pol a : Po (El p m mod))).length c1), (34, .int .i64 (il (pol a : Po (El p m mod))).length), (35, .int .i64 i), (37, .int .i64 i)]) (fun (j : Int) (o2 : List Int) => [ow A4 3 N (ints o2), ow B1a 3 c1a (ints (il (pol b : Po (El p m mod)))), ow B1 3 c1 (ints (il (pol a : Po (El p m mod)))), gfR g, ro A (ints a), ro B (ints b)]) (fun (j : Int) (o2 : List Int) => (0 ≤ j ∧ j ≤ (il (pol b : Po (El p m mod))).length) ∧ (o2.length = N ∧ AllIn (pw p m) o2) ∧ (pol o2 : Po (El p m mod)) = pol ((il (pol a : Po (El p m mod))).take i.toNat) * (pol b : Po (El p m mod)) + Po.mn (el ((il (pol a : Po (El p m mod))).getD i.toNat 0)) i.toNat * pol ((il (pol b : Po (El p m mod))).take j.toNat)) (fun (j : Int) (o2 : List Int) => (((il (pol b : Po (El p m mod))).length : Int) - j).toNat) (0) (o) ⟨rfl, rfl, rfl, rfl, rfl, rfl, rfl, rfl, rfl, rfl, rfl, rfl, rfl, rfl, trivial⟩ (by first | exact cs _ _ | exact CSub.refl _) (⟨⟨by omega, by omega⟩, ⟨hol, hoi⟩, by rw [ho, Int.toNat_zero, pol_take_zero]; grind⟩) (fun j o2 hI => ?_)
   obtain ⟨⟨hj0, hj1⟩, ⟨ho2l, ho2i⟩, ho2⟩ := hI
   refine tS ?_
   refine tR fun _ _ _ => ?_
   refine pV ?_
   refine tS ?_
   refine tC rfl (fun h9 => ?_) (fun h9 => ?_)
   ·try simp only [zbA] at h9
    refine tK ?_
    refine tS ?_
    refine tB ?_
    refine tS ?_
    refine tR fun _ _ _ => ?_
    refine pV ?_
    refine sV (rIdxI rfl rfl rfl (by omega) (by omega) (by omega)) ?_
    refine sV (rLdI rfl rfl (by omega)) ?_
    iterate 2 refine pV ?_
    refine tr_draw [0, 1, 2, 3, 4, 5, 6, 7, 8, 9, 10, 11, 12, 13, 14, 15, 16] [17] mixed (by kernel_rfl) fun _ _ _ => ?_
    iterate 3 refine pV ?_
    refine sV (rAdd rfl rfl rfl (by omega) (by omega)) ?_
    iterate 4 refine pV ?_
    refine sV (rAdd rfl rfl rfl (by omega) (by omega)) ?_
    refine sV (rIdxI rfl rfl rfl (by omega) (by omega) (by omega)) ?_
    refine sV (rLdI rfl rfl (by omega)) ?_
    iterate 3 refine pV ?_
    refine eV (eCallV rfl rfl rfl (gf_MulE g hg _ _) ⟨rfl, rfl, rfl, trivial⟩ ?_)
    refine eV (eCallV rfl rfl rfl (gf_AddE g hg _ _) ⟨rfl, rfl, rfl, trivial⟩ ?_)
    refine sV (rIdxI rfl rfl rfl (by omega) (by omega) (by omega)) ?_
    refine eV (eStI rfl rfl rfl rfl (by omega) ?_)
    refine tR fun _ _ _ => ?_
    refine sV (rAdd rfl rfl rfl (by omega) (by omega)) ?_
    refine pV ?_
    refine ⟨j + 1, o2.set (i + j).toNat (el (o2.getD (i + j).toNat 0) + el ((el ((il (pol a : Po (El p m mod))).getD i.toNat 0) * el ((il (pol b : Po (El p m mod))).getD j.toNat 0) : El p m mod)).1 : El p m mod).1, ⟨rfl, rfl, rfl, rfl, rfl, rfl, rfl, rfl, rfl, rfl, rfl, rfl, rfl, rfl, trivial⟩, by first | exact cs _ _ | exact CSub.refl _, ?_⟩
    refine ⟨⟨⟨by omega, by omega⟩, ⟨by simpa using ho2l, ho2i.set (El.bd _) _⟩, ?_⟩, by omega⟩
    rw [pol_set_add (d := (el ((il (pol a : Po (El p m mod))).getD i.toNat 0) * el ((il (pol b : Po (El p m mod))).getD j.toNat 0) : El p m mod)) o2 (by omega) (by rw [el_of, el_of]), ho2, show (j + 1).toNat = j.toNat + 1 by omega, pol_take_succ, show (i + j).toNat = i.toNat + j.toNat by omega]
    have e1 := Po.mn_mul (el ((il (pol a : Po (El p m mod))).getD i.toNat 0) : El p m mod) (el ((il (pol b : Po (El p m mod))).getD j.toNat 0)) i.toNat j.toNat
    grind
   ·try simp only [zbA] at h9
    refine tE ?_
    refine tR fun _ _ _ => ?_
    refine sV (rAdd rfl rfl rfl (by omega) (by omega)) ?_
    refine pV ?_
    refine ⟨i + 1, o2, ⟨rfl, rfl, rfl, rfl, rfl, rfl, rfl, rfl, trivial⟩, by first | exact cs _ _ | exact CSub.refl _, ?_⟩
    have hjn : j = (il (pol b : Po (El p m mod))).length := by omega
    rw [hjn, Int.toNat_natCast, List.take_length, pol_il] at ho2
    refine ⟨⟨⟨by omega, by omega⟩, ⟨ho2l, ho2i⟩, ?_⟩, by omega⟩
    rw [ho2, show (i + 1).toNat = i.toNat + 1 by omega, pol_take_succ]
    grind
  ·try simp only [zbA] at h6
   refine tE ?_
   refine tS ?_
   refine tR fun _ _ _ => ?_
   iterate 2 refine pV ?_
   have hin : i = (il (pol a : Po (El p m mod))).length := by omega
   rw [hin, Int.toNat_natCast, List.take_length, pol_il] at ho
   have ha0 : (pol a : Po (El p m mod)) ≠ 0 := Po.len_pos_iff.1 (by rw [← il_length]; omega)
   have hb0 : (pol b : Po (El p m mod)) ≠ 0 := Po.len_pos_iff.1 (by rw [← il_length]; omega)
   have hlm := Po.len_mul ha0 hb0
   rw [← il_length, ← il_length, ← il_length] at hlm
   have hoo : o = il ((pol a : Po (El p m mod)) * (pol b : Po (El p m mod))) := by
    rw [← ho, il_self hoi (.inr ?_)]
    have h1 : o.length = Po.len (pol o : Po (El p m mod)) := by rw [ho, ← il_length]; omega
    have h2 : 0 < o.length := by omega
    have h3 := Po.lead_ne (f := (pol o : Po (El p m mod))) (n := o.length - 1) (by omega)
    rw [cf_pol] at h3
    exact fun e => h3 (by rw [e, el_zero])
   have hNN : N = (il ((pol a : Po (El p m mod)) * (pol b : Po (El p m mod)))).length := by omega
   rw [hoo]
   exact tr_ret ⟨trivial, _, _, rfl, ⟨_, rfl, A4, N, by rw [← hNN], rfl⟩, cs _ _, trivial, trivial⟩
section
variable {p m : Int} {mod : List Int} [hF : IsF p m mod]
noncomputable def prP (p m : Int) (mod : List Int) [hF : IsF p m mod] (rs : List RowM) : Po (El p m mod) := rs.foldl (fun f r => f * pol r.xs) 1
theorem prP_succ (rs : List RowM) {k : Nat} (hk : k < rs.length) : prP p m mod (rs.take (k + 1)) = prP p m mod (rs.take k) * pol (rs.getD k rowD).xs := by
 unfold prP
 rw [List.take_add_one, List.getElem?_eq_getElem hk, List.getD_eq_getElem?_getD, List.getElem?_eq_getElem hk]
 simp only [Option.toList_some, List.foldl_append, List.foldl_cons, List.foldl_nil]
 rfl
theorem il_one : il (1 : Po (El p m mod)) = [1] := by
 refine ext_getD (by rw [il_length, Po.len_one]; rfl) fun j => ?_
 rw [il_getD, Po.cf_one]
 cases j with
 | zero => rfl
 | succ j => rw [if_neg (by omega)]; rfl
end
theorem poly_Mul_ent : Enters Try.prog 64 := enters_of Try.func64 (by kernel_rfl) (by kernel_rfl)
theorem poly_Mul (g : GfM) {p m : Int} {mod : List Int} [hF : IsF p m mod] (hg : GOk g p m mod) (L : Option Addr) (nl cl : Nat) (rs : List RowM) (hnl : nl = rs.length) (hr9 : rs.length ≤ 1000) (hl9 : ∀ k, k < rs.length → (rs.getD k rowD).xs.length ≤ 1000000) (hpl : ∀ k, k ≤ rs.length → Po.len (prP p m mod (rs.take k)) ≤ 1000000) :
  Pure Try.prog 64 #[.pointer (some g.p), .slice L nl cl] [gfR g, ro L (hdrs rs), rowsR rs] (one (fun v ch => ∃ B cap, v = .slice B (il (prP p m mod rs)).length cap ∧ ch = ow B 3 cap (ints (il (prP p m mod rs))))) := by
 refine pure_of (args := [.pointer (some g.p), .slice L nl cl]) 21 Try.func64 rfl rfl rfl poly_Mul_ent ⟨id, id, id, trivial⟩ (fun w0 => ?_)
 refine tS ?_
 refine tR fun _ _ _ => ?_
 refine pV ?_
 refine tS ?_
 refine tR fun _ _ _ => ?_
 refine eV (eLit1I rfl rfl rfl rfl (fun A1 => ?_))
 refine pV ?_
 refine tS ?_
 refine tS ?_
 refine tR fun _ _ _ => ?_
 refine pV ?_
 refine sV (rLen rfl rfl) ?_
 refine pV ?_
 refine tB ?_
 refine tr_loop5 (fun (k : Int) (D : Option Addr) (cd : Nat) (nd : Nat) (ls : List Int) => [(5, .slice D nd cd), (9, .slice L nl cl), (10, .int .i64 nl), (11, .int .i64 k), (0, .pointer (some g.p)), (4, .slice none 0 0)]) (fun (k : Int) (D : Option Addr) (cd : Nat) (nd : Nat) (ls : List Int) => [ow D 3 cd (ints ls), gfR g, ro L (hdrs rs), rowsR rs]) (fun (k : Int) (D : Option Addr) (cd : Nat) (nd : Nat) (ls : List Int) => (0 ≤ k ∧ k ≤ nl) ∧ nd = ls.length ∧ ls = il (prP p m mod (rs.take k.toNat))) (fun (k : Int) (D : Option Addr) (cd : Nat) (nd : Nat) (ls : List Int) => (nl - k).toNat) (0) (A1) (1) (1) ([1]) ⟨rfl, rfl, rfl, rfl, rfl, rfl, trivial⟩ (by first | exact cs _ _ | exact CSub.refl _) (⟨⟨by omega, by omega⟩, rfl, by rw [Int.toNat_zero, List.take_zero]; exact il_one.symm⟩) (fun k D cd nd ls hI => ?_)
 obtain ⟨⟨hk0, hk1⟩, hnd, hls⟩ := hI
 refine tS ?_
 refine tR fun _ _ _ => ?_
 refine pV ?_
 refine tS ?_
 refine tC rfl (fun h3 => ?_) (fun h3 => ?_)
 ·try simp only [zbA] at h3
  refine tK ?_
  refine tS ?_
  refine tB ?_
  refine tS ?_
  haveI : InB k.toNat rs.length := ⟨by omega⟩
  refine tR fun _ _ _ => ?_
  refine sV (rIdxR rfl rfl rfl (by omega) (by omega) (by omega)) ?_
  refine sV (rLdR rfl rfl (by omega)) ?_
  refine pV ?_
  refine tR fun _ _ _ => ?_
  iterate 3 refine pV ?_
  refine eV (eCall1 rfl rfl rfl (poly_product g hg D nd cd ls hnd (by rw [hls, il_length]; exact hpl _ (by omega)) _ _ _ (rs.getD k.toNat rowD).xs rfl (hl9 _ (by omega))) ⟨rfl, rfl, rfl, trivial⟩ ?_)
  rintro _ _ ⟨B5, c5, rfl, rfl⟩
  refine pV ?_
  refine tR fun _ _ _ => ?_
  refine sV (rAdd rfl rfl rfl (by omega) (by omega)) ?_
  refine pV ?_
  refine ⟨k + 1, B5, c5, (il ((pol ls : Po (El p m mod)) * pol (rs.getD k.toNat rowD).xs)).length, il ((pol ls : Po (El p m mod)) * pol (rs.getD k.toNat rowD).xs), ⟨rfl, rfl, rfl, rfl, rfl, rfl, trivial⟩, by first | exact cs _ _ | exact CSub.refl _, ?_⟩
  refine ⟨⟨⟨by omega, by omega⟩, rfl, ?_⟩, by omega⟩
  rw [show (k + 1).toNat = k.toNat + 1 by omega, prP_succ rs (by omega), hls, pol_il]
 ·try simp only [zbA] at h3
  refine tE ?_
  refine tS ?_
  refine tR fun _ _ _ => ?_
  iterate 2 refine pV ?_
  have hkn : rs.take k.toNat = rs := List.take_of_length_le (by omega)
  rw [hkn] at hls
  rw [hnd, hls]
  exact tr_ret ⟨trivial, _, _, rfl, ⟨_, rfl, D, cd, rfl, rfl⟩, cs _ _, trivial, trivial⟩
end Go.Proofs.Ytbhoeaijpnjgdaa

set_option maxRecDepth 100000
namespace Go.Proofs.Ytbhoeaijpnjgdaa
open Go.RowKit
end Go.Proofs.Ytbhoeaijpnjgdaa

namespace Go.Proofs.Ytbhoeaijpnjgdaa
open Rg
namespace Vc
end Vc
end Go.Proofs.Ytbhoeaijpnjgdaa

namespace Go.Proofs.Ytbhoeaijpnjgdaa
end Go.Proofs.Ytbhoeaijpnjgdaa

namespace Go.Proofs.Ytbhoeaijpnjgdaa
namespace Po
variable {K : Type} [Fd K]
structure Ir (P : Po K) : Prop where
 two : 2 ≤ len P
 irr : ∀ d, d ∣ P → len d = 1 ∨ len d = len P
theorem Ir.ne {P : Po K} (h : Ir P) : P ≠ 0 := len_pos_iff.1 (by have := h.two; omega)
theorem one_len_dvd {d : Po K} (h : len d = 1) (f : Po K) : d ∣ f := by
 have h1 := len_le_one (f := d) (by omega)
 have h2 : cf d 0 ≠ 0 := lead_ne (n := 0) h
 rw [h1]; exact C_dvd h2 f
theorem dvd_of_len {f g : Po K} (h : f ∣ g) (hg : g ≠ 0) (hl : len g ≤ len f) : g ∣ f := by
 obtain ⟨c, rfl⟩ := h
 have hf : f ≠ 0 := fun e => hg (by rw [e, Rg.zero_mul])
 have hc : c ≠ 0 := fun e => hg (by rw [e, Rg.mul_zero])
 have h1 := len_mul hf hc
 have h2 := len_pos hf
 have h3 := len_pos hc
 obtain ⟨e, he⟩ := one_len_dvd (show len c = 1 by omega) 1
 exact ⟨e, by rw [Rg.mul_assoc, ← he, Rg.mul_one]⟩
theorem monic_one {f : Po K} (h : lead f = 1) (hl : len f ≤ 1) : f = 1 := by
 have h1 : f ≠ 0 := fun e => by
  rw [e] at h
  exact Fd.one_ne (K := K) (by rw [← h]; rfl)
 have h2 : len f = 1 := by have := len_pos h1; omega
 rw [len_le_one hl]
 unfold lead at h
 rw [h2] at h
 rw [h, C_one]
theorem gcd_one_of {f g : Po K} (hf : f ≠ 0) (hl : len (gcd f g) ≤ 1) : gcd f g = 1 := monic_one (gcd_monic (.inl hf)) hl
theorem Ir.gcd {P : Po K} (h : Ir P) (f : Po K) : Po.gcd P f = 1 ∨ P ∣ f := by
 have hg := gcd_is P f
 rcases h.irr _ hg.left with h1 | h1
 ·exact .inl (gcd_one_of h.ne (by omega))
 ·exact .inr (dvd_trans (dvd_of_len hg.left h.ne (by omega)) hg.right)
theorem cop_dvd {a b c : Po K} (h : Po.gcd a b = 1) (hd : a ∣ b * c) : a ∣ c := by
 obtain ⟨u, v, e⟩ := (gcd_is a b).bez
 rw [h] at e
 have : c = u * a * c + v * (b * c) := by
  have h2 : c = (u * a + v * b) * c := by rw [e, Rg.one_mul]
  rw [h2]; grind
 rw [this]
 exact dvd_add ⟨u * c, by grind⟩ (dvd_mul_ofL hd v)
theorem cop_mul {a b c : Po K} (h : Po.gcd a b = 1) (h1 : a ∣ c) (h2 : b ∣ c) : a * b ∣ c := by
 obtain ⟨e, rfl⟩ := h2
 obtain ⟨d, rfl⟩ := cop_dvd h h1
 exact ⟨d, by grind⟩
theorem Ir.prime {P f g : Po K} (h : Ir P) (hd : P ∣ f * g) : P ∣ f ∨ P ∣ g := by
 rcases h.gcd f with h1 | h1
 ·exact .inr (cop_dvd h1 hd)
 ·exact .inl h1
theorem Ir.not_one {P f : Po K} (h : Ir P) (hl : len f = 1) : ¬ P ∣ f := fun hd => by
 have := dvd_len hd (len_pos_iff.1 (by omega))
 have := h.two
 omega
theorem Ir.assoc {P Q : Po K} (hP : Ir P) (hQ : Ir Q) (hd : P ∣ Q) : Q ∣ P := by
 rcases hQ.irr P hd with h | h
 ·have := hP.two; omega
 ·exact dvd_of_len hd hQ.ne (by omega)
theorem Ir.one {P Q : Po K} (hP : Ir P) (hQ : Ir Q) (h1 : lead P = 1) (h2 : lead Q = 1) (hd : P ∣ Q) : P = Q := monic_eq hd (hP.assoc hQ hd) h1 h2
theorem Ir.mon {P : Po K} (h : Ir P) : Ir (mon P) ∧ lead (mon P) = 1 := by
 refine ⟨⟨by rw [mon_len]; exact h.two, fun d hd => ?_⟩, mon_lead h.ne⟩
 rw [mon_len]; exact h.irr d (dvd_trans hd (mon_dvd P))
theorem ir_ex {f : Po K} (h : 2 ≤ len f) : ∃ P, Ir P ∧ lead P = 1 ∧ P ∣ f := by
 have hf : f ≠ 0 := len_pos_iff.1 (by omega)
 obtain ⟨n, ⟨P, hP, hl, hd⟩, hmin⟩ := nat_least (P := fun n => ∃ P : Po K, 2 ≤ len P ∧ len P = n ∧ P ∣ f) ⟨_, f, h, rfl, dvd_refl f⟩
 have hP0 : P ≠ 0 := len_pos_iff.1 (by omega)
 have hI : Ir P := ⟨hP, fun d hdP => by
  have hd0 : d ≠ 0 := fun e => hP0 (zero_dvd (e ▸ hdP))
  have h1 := dvd_len hdP hP0
  have h2 := len_pos hd0
  by_cases h3 : len d = 1
  ·exact .inl h3
  ·by_cases h4 : len d = len P
   ·exact .inr h4
   ·exact absurd ⟨d, by omega, rfl, dvd_trans hdP hd⟩ (hmin (len d) (by omega))⟩
 exact ⟨_, hI.mon.1, hI.mon.2, dvd_trans (mon_dvd P) hd⟩
theorem ir_of_no {f : Po K} (h : 2 ≤ len f) (hno : ∀ P, Ir P → P ∣ f → len P = len f) : Ir f := by
 obtain ⟨P, hP, _, hd⟩ := ir_ex h
 have h1 := hno P hP hd
 have hf : f ≠ 0 := len_pos_iff.1 (by omega)
 have h2 := dvd_of_len hd hf (by omega)
 exact ⟨h, fun d hdf => by
  have := hP.irr d (dvd_trans hdf h2)
  omega⟩
theorem pow_ne0 {f : Po K} (h : f ≠ 0) : ∀ n, Rg.pow f n ≠ 0
 | 0 => one_ne
 | n + 1 => mul_ne (pow_ne0 h n) h
theorem pow_dvd (f : Po K) {m n : Nat} (h : m ≤ n) : Rg.pow f m ∣ Rg.pow f n := by
 obtain ⟨k, rfl⟩ := Nat.le.dest h
 exact ⟨Rg.pow f k, Rg.pow_add f m k⟩
theorem dvd_pow_pos (f : Po K) {n : Nat} (h : 1 ≤ n) : f ∣ Rg.pow f n := by
 have := pow_dvd f h
 rwa [Rg.pow_one] at this
theorem mul_dvd_mul {f g : Po K} (h : f ∣ g) (k : Po K) : k * f ∣ k * g := by
 obtain ⟨c, rfl⟩ := h; exact ⟨c, by grind⟩
theorem mul_dvd_cancel {f g k : Po K} (hk : k ≠ 0) (h : k * f ∣ k * g) : f ∣ g := by
 obtain ⟨c, e⟩ := h
 exact ⟨c, mul_cancel hk (by rw [e]; grind)⟩
theorem dvd_mul2 {a b c d : Po K} (h : a ∣ b) (k : c ∣ d) : a * c ∣ b * d := by
 obtain ⟨x, rfl⟩ := h; obtain ⟨y, rfl⟩ := k; exact ⟨x * y, by grind⟩
theorem len_pow_ge {f : Po K} (h : 2 ≤ len f) : ∀ n, n < len (Rg.pow f n)
 | 0 => by rw [Rg.pow_zero, len_one]; omega
 | n + 1 => by
  have h0 : f ≠ 0 := len_pos_iff.1 (by omega)
  have := len_pow_ge h n
  rw [Rg.pow_succ, len_mul (pow_ne0 h0 n) h0]; omega
theorem Ir.pow_cop {P f : Po K} (h : Ir P) (hn : ¬ P ∣ f) : ∀ n g, Rg.pow P n ∣ f * g → Rg.pow P n ∣ g
 | 0, g, _ => one_dvd g
 | n + 1, g, hd => by
  have h1 := h.pow_cop hn n g (dvd_trans (pow_dvd P (Nat.le_succ n)) hd)
  obtain ⟨e, rfl⟩ := h1
  rw [Rg.pow_succ] at hd ⊢
  have h2 : Rg.pow P n * P ∣ Rg.pow P n * (f * e) := by
   rw [show Rg.pow P n * (f * e) = f * (Rg.pow P n * e) by grind]; exact hd
  have h3 := mul_dvd_cancel (pow_ne0 h.ne n) h2
  exact mul_dvd_mul (h.prime h3 |>.resolve_left hn) _
theorem dvd_of_pows : ∀ (n : Nat) (f g : Po K), len f ≤ n → f ≠ 0 → (∀ P k, Ir P → lead P = 1 → Rg.pow P k ∣ f → Rg.pow P k ∣ g) → f ∣ g
 | 0, f, g, hn, hf, _ => absurd (eq_zero_of_len (by omega)) hf
 | n + 1, f, g, hn, hf, h => by
  by_cases h2 : len f < 2
  ·have := len_pos hf
   exact one_len_dvd (by omega) g
  ·obtain ⟨P, hP, hl, hd⟩ := ir_ex (f := f) (by omega)
   have hPg : P ∣ g := by
    have := h P 1 hP hl (by rw [Rg.pow_one]; exact hd)
    rwa [Rg.pow_one] at this
   obtain ⟨f', rfl⟩ := hd
   obtain ⟨g', rfl⟩ := hPg
   have hf' : f' ≠ 0 := fun e => hf (by rw [e, Rg.mul_zero])
   have hlen := len_mul hP.ne hf'
   have := hP.two
   refine mul_dvd_mul (dvd_of_pows n f' g' (by omega) hf' fun Q k hQ hlQ hd => ?_) P
   by_cases e : P = Q
   ·subst e
    have h1 := h P (k + 1) hP hl (by rw [Rg.pow_succ, Rg.mul_comm]; exact mul_dvd_mul hd P)
    rw [Rg.pow_succ, Rg.mul_comm] at h1
    exact mul_dvd_cancel hP.ne h1
   ·have h1 := h Q k hQ hlQ (dvd_mul_ofL hd P)
    exact hQ.pow_cop (fun hd' => e (hQ.one hP hlQ hl hd').symm) k g' h1
def Sf (f : Po K) : Prop := ∀ P, Ir P → ¬ P * P ∣ f
theorem Sf.of_dvd {f g : Po K} (h : Sf g) (hd : f ∣ g) : Sf f := fun P hP hPP => h P hP (dvd_trans hPP hd)
theorem Sf.dvd {f g : Po K} (h : Sf f) (hf : f ≠ 0) (hi : ∀ P, Ir P → lead P = 1 → P ∣ f → P ∣ g) : f ∣ g :=
 dvd_of_pows _ f g (Nat.le_refl _) hf fun P k hP hl hd => by
  match k with
  | 0 => exact one_dvd g
  | 1 => rw [Rg.pow_one] at hd ⊢; exact hi P hP hl hd
  | k + 2 =>
   have h2 : Rg.pow P 2 = P * P := by rw [Rg.pow_succ, Rg.pow_one]
   exact absurd (dvd_trans (h2 ▸ pow_dvd P (show 2 ≤ k + 2 by omega)) hd) (h P hP)
theorem Sf.eq {f g : Po K} (hf : Sf f) (hg : Sf g) (h1 : lead f = 1) (h2 : lead g = 1) (f0 : f ≠ 0) (g0 : g ≠ 0) (hi : ∀ P, Ir P → lead P = 1 → (P ∣ f ↔ P ∣ g)) : f = g :=
 monic_eq (hf.dvd f0 fun P hP hl hd => (hi P hP hl).1 hd) (hg.dvd g0 fun P hP hl hd => (hi P hP hl).2 hd) h1 h2
theorem Ir.sf {P : Po K} (h : Ir P) : Sf P := fun Q hQ hd => by
 have h1 := dvd_len hd h.ne
 rw [len_mul hQ.ne hQ.ne] at h1
 have h2 := hQ.two
 rcases h.irr Q (dvd_trans ⟨Q, rfl⟩ hd) with h3 | h3 <;> omega
theorem gcd_one_iff {f g : Po K} (hf : f ≠ 0) : Po.gcd f g = 1 ↔ ∀ P, Ir P → P ∣ f → ¬ P ∣ g := by
 constructor
 ·intro h P hP h1 h2
  have := (gcd_is f g).great h1 h2
  rw [h] at this
  exact hP.not_one len_one this
 ·intro h
  refine gcd_one_of hf (Nat.le_of_not_lt fun hlt => ?_)
  obtain ⟨P, hP, _, hd⟩ := ir_ex (f := Po.gcd f g) (by omega)
  exact h P hP (dvd_trans hd (gcd_is f g).left) (dvd_trans hd (gcd_is f g).right)
theorem Sf.mul {f g : Po K} (hf : Sf f) (hg : Sf g) (hc : ∀ P, Ir P → P ∣ f → ¬ P ∣ g) : Sf (f * g) := fun P hP hd => by
 have h1 : P ∣ f * g := dvd_trans ⟨P, rfl⟩ hd
 rw [show P * P = Rg.pow P 2 by rw [Rg.pow_succ, Rg.pow_one]] at hd
 have e2 : Rg.pow P 2 = P * P := by rw [Rg.pow_succ, Rg.pow_one]
 by_cases hPf : P ∣ f
 ·have := hP.pow_cop (hc P hP hPf) 2 f (by rw [Rg.mul_comm]; exact hd)
  rw [e2] at this
  exact hf P hP this
 ·have := hP.pow_cop hPf 2 g hd
  rw [e2] at this
  exact hg P hP this
end Po
end Go.Proofs.Ytbhoeaijpnjgdaa

namespace Go.Proofs.Ytbhoeaijpnjgdaa
def bin : Nat → Nat → Nat
 | _, 0 => 1
 | 0, _ + 1 => 0
 | n + 1, k + 1 => bin n k + bin n (k + 1)
theorem bin_zero (n : Nat) : bin n 0 = 1 := by cases n <;> rfl
theorem bin_gt : ∀ n k, n < k → bin n k = 0
 | 0, k + 1, _ => rfl
 | n + 1, k + 1, h => by rw [bin, bin_gt n k (by omega), bin_gt n (k + 1) (by omega)]
theorem bin_self : ∀ n, bin n n = 1
 | 0 => rfl
 | n + 1 => by rw [bin, bin_self n, bin_gt n (n + 1) (by omega)]
theorem bin_abs : ∀ n k, (k + 1) * bin (n + 1) (k + 1) = (n + 1) * bin n k
 | 0, 0 => rfl
 | 0, k + 1 => by rw [bin_gt (0 + 1) (k + 1 + 1) (by omega), bin_gt 0 (k + 1) (by omega), Nat.mul_zero, Nat.mul_zero]
 | n + 1, 0 => by
  have ih := bin_abs n 0
  have e : bin (n + 1 + 1) (0 + 1) = bin (n + 1) 0 + bin (n + 1) (0 + 1) := rfl
  rw [e, bin_zero]
  rw [bin_zero] at ih
  omega
 | n + 1, k + 1 => by
  have h1 := bin_abs n k
  have h2 := bin_abs n (k + 1)
  rw [bin, Nat.mul_add, h2]
  have e : bin (n + 1) (k + 1) = bin n k + bin n (k + 1) := rfl
  have h3 : (k + 1 + 1) * bin (n + 1) (k + 1) = (n + 1) * bin n k + bin (n + 1) (k + 1) := by rw [Nat.add_mul (k + 1) 1, h1, Nat.one_mul]
  rw [h3, e, Nat.add_mul (n + 1) 1, Nat.one_mul, Nat.mul_add]
  omega
end Go.Proofs.Ytbhoeaijpnjgdaa

namespace Go.Proofs.Ytbhoeaijpnjgdaa
theorem prime_dvd {p : Nat} (hp : 2 ≤ p) (hd : ∀ d, 2 ≤ d → d < p → ¬ d ∣ p) {a b : Nat} (ha : 0 < a) (hap : a < p) (h : p ∣ a * b) : p ∣ b := by
 have hg : Nat.gcd p a = 1 := by
  have h1 : Nat.gcd p a ∣ p := Nat.gcd_dvd_left p a
  have h2 : Nat.gcd p a ≤ a := Nat.gcd_le_right p ha
  have h3 : 0 < Nat.gcd p a := Nat.gcd_pos_of_pos_right p ha
  refine Classical.byContradiction fun hne => hd _ (by omega) (by omega) h1
 exact (Nat.Coprime.dvd_of_dvd_mul_left hg h)
theorem bin_prime {p : Nat} (hp : 2 ≤ p) (hd : ∀ d, 2 ≤ d → d < p → ¬ d ∣ p) {k : Nat} (h0 : 0 < k) (hk : k < p) : p ∣ bin p k := by
 obtain ⟨n, rfl⟩ : ∃ n, p = n + 1 := ⟨p - 1, by omega⟩
 obtain ⟨j, rfl⟩ : ∃ j, k = j + 1 := ⟨k - 1, by omega⟩
 exact prime_dvd hp hd (a := j + 1) (by omega) hk ⟨bin n j, bin_abs n j⟩
section
variable {R : Type} [Rg R]
theorem nc_mul' (a : Nat) : ∀ b : Nat, (Rg.nc (a * b) : R) = Rg.nc a * Rg.nc b
 | 0 => by rw [Nat.mul_zero]; exact (Rg.mul_zero (Rg.nc a : R)).symm
 | b + 1 => by rw [Nat.mul_succ, nc_add, Rg.nc_succ, nc_mul' a b, Rg.mul_add, Rg.mul_one]
theorem nc_dvd {p n : Nat} (h : (Rg.nc p : R) = 0) (hd : p ∣ n) : (Rg.nc n : R) = 0 := by
 obtain ⟨c, rfl⟩ := hd
 rw [nc_mul', h, Rg.zero_mul]
theorem nc_one' : (Rg.nc 1 : R) = 1 := rfl
def binT (x y : R) (n k : Nat) : R := Rg.nc (bin n k) * (Rg.pow x k * Rg.pow y (n - k))
theorem binom (x y : R) : ∀ n, Rg.pow (x + y) n = Rg.sm (n + 1) (binT x y n)
 | 0 => by
  rw [Rg.sm_succ, Rg.sm_zero, Rg.zero_add]
  show (1 : R) = 1 * (1 * 1)
  rw [Rg.one_mul, Rg.one_mul]
 | n + 1 => by
  rw [Rg.pow_succ, binom x y n, Rg.mul_add, Rg.sm_left (binT x y (n + 1))]
  have e1 : ∀ k, k < n + 1 → binT x y (n + 1) (k + 1) = binT x y n k * x + Rg.nc (bin n (k + 1)) * (Rg.pow x (k + 1) * Rg.pow y (n - k)) := fun k hk => by
   unfold binT
   rw [bin, nc_add, show n + 1 - (k + 1) = n - k by omega, Rg.pow_succ]
   grind
  rw [Rg.sm_congr e1, Rg.sm_add, Rg.sm_mulR]
  have e2 : Rg.sm (n + 1) (fun k => Rg.nc (bin n (k + 1)) * (Rg.pow x (k + 1) * Rg.pow y (n - k))) = Rg.sm n (fun k => binT x y n (k + 1) * y) := by
   rw [Rg.sm_succ, bin_gt n (n + 1) (by omega)]
   have hz : (Rg.nc 0 : R) = 0 := rfl
   rw [hz, Rg.zero_mul, Rg.add_zero]
   exact Rg.sm_congr fun k hk => by
    unfold binT
    have : Rg.pow y (n - k) = Rg.pow y (n - (k + 1)) * y := by rw [← Rg.pow_succ, show n - (k + 1) + 1 = n - k by omega]
    rw [this]; grind
  have e3 : binT x y (n + 1) 0 = binT x y n 0 * y := by
   unfold binT
   rw [bin_zero, bin_zero, Nat.sub_zero, Nat.sub_zero, Rg.pow_succ]; grind
  rw [e2, Rg.sm_mulR, e3, Rg.sm_left (binT x y n)]
  grind
theorem frobR {p : Nat} (hp : 2 ≤ p) (hd : ∀ d, 2 ≤ d → d < p → ¬ d ∣ p) (h0 : (Rg.nc p : R) = 0) (x y : R) : Rg.pow (x + y) p = Rg.pow x p + Rg.pow y p := by
 rw [binom, Rg.sm_succ]
 obtain ⟨n, rfl⟩ : ∃ n, p = n + 1 := ⟨p - 1, by omega⟩
 have h1 : Rg.sm (n + 1) (binT x y (n + 1)) = binT x y (n + 1) 0 := Rg.sm_one (k := 0) (by omega) fun i hi hne => by
  unfold binT
  rw [nc_dvd h0 (bin_prime hp hd (by omega) hi), Rg.zero_mul]
 rw [h1]
 unfold binT
 rw [bin_zero, bin_self, Nat.sub_self, Nat.sub_zero, nc_one', Rg.pow_zero, Rg.pow_zero, Rg.one_mul, Rg.one_mul, Rg.one_mul, Rg.mul_one, Rg.add_comm]
theorem frobRk {p : Nat} (hp : 2 ≤ p) (hd : ∀ d, 2 ≤ d → d < p → ¬ d ∣ p) (h0 : (Rg.nc p : R) = 0) (x y : R) : ∀ k, Rg.pow (x + y) (p ^ k) = Rg.pow x (p ^ k) + Rg.pow y (p ^ k)
 | 0 => by rw [Nat.pow_zero, Rg.pow_one, Rg.pow_one, Rg.pow_one]
 | k + 1 => by rw [Nat.pow_succ, Rg.pow_mul, Rg.pow_mul, Rg.pow_mul, frobRk hp hd h0 x y k, frobR hp hd h0]
end
section
variable {K : Type} [Fd K]
theorem nc_po (n : Nat) : (Rg.nc n : Po K) = Po.C (Rg.nc n) := by
 induction n with
 | zero => exact Po.C_zero.symm
 | succ n ih =>
  rw [Rg.nc_succ, Rg.nc_succ, ih]
  have : (1 : Po K) = Po.C 1 := Po.C_one.symm
  rw [this]; exact Po.mn_add _ _ 0
end
section
variable {p m : Int} {mod : List Int} [hF : IsF p m mod]
theorem nc_char : (Rg.nc p.toNat : El p m mod) = 0 := El.ext (by
 have hp := hF.out.1.1.p2
 rw [nc_val, Int.toNat_of_nonneg (by omega), Int.emod_self]; rfl)
theorem p_prime {p m : Int} {mod : List Int} (hF : IsF p m mod) : ∀ d, 2 ≤ d → d < p.toNat → ¬ d ∣ p.toNat := fun d h1 h2 hd => by
 have hp := hF.out.1.2
 have := hp.2 d (by omega) (by omega)
 apply this
 have h3 : ((d : Nat) : Int) ∣ (p.toNat : Int) := Int.natCast_dvd_natCast.2 hd
 rw [Int.toNat_of_nonneg (by omega)] at h3
 exact Int.emod_eq_zero_of_dvd h3
theorem nc_charP : (Rg.nc p.toNat : Po (El p m mod)) = 0 := by rw [nc_po, nc_char, Po.C_zero]
end
end Go.Proofs.Ytbhoeaijpnjgdaa

namespace Go.Proofs.Ytbhoeaijpnjgdaa
open Po
section
variable {K : Type} [Fd K]
class IrC (P : Po K) : Prop where
 out : Ir P
def Qt (P : Po K) : Type := { f : Po K // len f < len P }
namespace Qt
variable {P : Po K} [hP : IrC P]
noncomputable def mk (P : Po K) [hP : IrC P] (f : Po K) : Qt P := ⟨rem f P, rem_len f hP.out.ne⟩
theorem mk_eq {f g : Po K} : mk P f = mk P g ↔ P ∣ f - g :=
 ⟨fun h => (rem_eq_iff hP.out.ne).1 (congrArg Subtype.val h), fun h => Subtype.ext ((rem_eq_iff hP.out.ne).2 h)⟩
theorem mk_val (a : Qt P) : mk P a.1 = a := Subtype.ext (rem_small a.2)
noncomputable instance : Add (Qt P) := ⟨fun a b => mk P (a.1 + b.1)⟩
noncomputable instance : Mul (Qt P) := ⟨fun a b => mk P (a.1 * b.1)⟩
noncomputable instance : Neg (Qt P) := ⟨fun a => mk P (-a.1)⟩
noncomputable instance : Zero (Qt P) := ⟨mk P 0⟩
noncomputable instance : One (Qt P) := ⟨mk P 1⟩
theorem rem_dvd (f : Po K) : P ∣ f - (mk P f).1 := rem_sub_dvd f hP.out.ne
theorem mk_add (f g : Po K) : mk P f + mk P g = mk P (f + g) := mk_eq.2 (by
 obtain ⟨a, ha⟩ := rem_dvd (P := P) f
 obtain ⟨b, hb⟩ := rem_dvd (P := P) g
 exact ⟨-(a + b), by grind⟩)
theorem mk_mul (f g : Po K) : mk P f * mk P g = mk P (f * g) := mk_eq.2 (by
 obtain ⟨a, ha⟩ := rem_dvd (P := P) f
 obtain ⟨b, hb⟩ := rem_dvd (P := P) g
 exact ⟨-(a * g + (mk P f).1 * b), by grind⟩)
theorem mk_neg (f : Po K) : -mk P f = mk P (-f) := mk_eq.2 (by
 obtain ⟨a, ha⟩ := rem_dvd (P := P) f
 exact ⟨a, by grind⟩)
noncomputable instance : Rg (Qt P) where
 add_assoc a b c := by rw [← mk_val a, ← mk_val b, ← mk_val c, mk_add, mk_add, mk_add, mk_add, Rg.add_assoc]
 add_comm a b := by rw [← mk_val a, ← mk_val b, mk_add, mk_add, Rg.add_comm]
 zero_add a := by
  rw [← mk_val a]
  show mk P 0 + _ = _
  rw [mk_add, Rg.zero_add]
 neg_add a := by
  rw [← mk_val a, mk_neg, mk_add, Rg.neg_add]; rfl
 mul_assoc a b c := by rw [← mk_val a, ← mk_val b, ← mk_val c, mk_mul, mk_mul, mk_mul, mk_mul, Rg.mul_assoc]
 mul_comm a b := by rw [← mk_val a, ← mk_val b, mk_mul, mk_mul, Rg.mul_comm]
 one_mul a := by
  rw [← mk_val a]
  show mk P 1 * _ = _
  rw [mk_mul, Rg.one_mul]
 add_mul a b c := by rw [← mk_val a, ← mk_val b, ← mk_val c, mk_mul, mk_mul, mk_add, mk_add, mk_mul, Rg.add_mul]
theorem mk_zero : mk P 0 = 0 := rfl
theorem mk_one : mk P 1 = 1 := rfl
theorem mk_zero_iff {f : Po K} : mk P f = 0 ↔ P ∣ f := by
 rw [← mk_zero, mk_eq, Rg.sub_zero]
theorem mk_pow (f : Po K) : ∀ n, Rg.pow (mk P f) n = mk P (Rg.pow f n)
 | 0 => rfl
 | n + 1 => by rw [Rg.pow_succ, Rg.pow_succ, mk_pow f n, mk_mul]
theorem inv_ex (a : Qt P) (h : a ≠ 0) : ∃ b : Qt P, b * a = 1 := by
 rw [← mk_val a] at h ⊢
 have h1 : ¬ P ∣ a.1 := fun e => h (mk_zero_iff.2 e)
 have hg := (hP.out.gcd a.1).resolve_right h1
 obtain ⟨u, v, e⟩ := (gcd_is P a.1).bez
 refine ⟨mk P v, ?_⟩
 rw [mk_mul, ← mk_one, mk_eq]
 rw [hg] at e
 exact ⟨-u, by rw [← e]; grind⟩
open Classical in
noncomputable instance : Fd (Qt P) where
 inv a := if h : ∃ b : Qt P, b * a = 1 then Classical.choose h else 0
 inv_mul a h := by
  have he := inv_ex a h
  rw [dif_pos he]; exact Classical.choose_spec he
 one_ne e := by
  have : P ∣ 1 := mk_zero_iff.1 (e : mk P 1 = 0)
  exact hP.out.not_one len_one this
noncomputable instance : DecidableEq (Qt P) := Classical.typeDecidableEq _
theorem val_sub_X (n : Nat) (y : Qt P) : Po.val (mn 1 n - X : Po (Qt P)) y = Rg.pow y n - y := by rw [val_sub, val_mn, val_X, Rg.one_mul]
end Qt
structure FinL (al : List K) : Prop where
 nd : al.Nodup
 mem : ∀ a : K, a ∈ al
def pols (al : List K) : Nat → List (Po K)
 | 0 => [0]
 | n + 1 => (pols al n).flatMap fun f => al.map fun c => f + mn c n
theorem pols_len (al : List K) : ∀ n, (pols al n).length = al.length ^ n
 | 0 => rfl
 | n + 1 => by
  rw [pols, List.length_flatMap]
  have : (pols al n).map (fun f => (al.map fun c => f + mn c n).length) = List.replicate (pols al n).length al.length := by
   rw [List.eq_replicate_iff]
   refine ⟨by rw [List.length_map], fun b hb => ?_⟩
   obtain ⟨f, _, rfl⟩ := List.mem_map.1 hb
   rw [List.length_map]
  rw [this, List.sum_replicate_nat, pols_len al n, Nat.pow_succ]
theorem mem_pols {al : List K} (h : FinL al) : ∀ n (f : Po K), f ∈ pols al n ↔ Sh f n
 | 0, f => by
  rw [pols, List.mem_singleton]
  exact ⟨fun e j _ => by rw [e]; rfl, fun hs => Po.ext fun j => hs j (Nat.zero_le _)⟩
 | n + 1, f => by
  rw [pols, List.mem_flatMap]
  constructor
  ·rintro ⟨g, hg, hf⟩
   obtain ⟨c, _, rfl⟩ := List.mem_map.1 hf
   exact (((mem_pols h n g).1 hg).mono (Nat.le_succ n)).add (mn_sh c n)
  ·intro hs
   refine ⟨f - mn (cf f n) n, (mem_pols h n _).2 fun j hj => ?_, List.mem_map.2 ⟨cf f n, h.mem _, by rw [Rg.sub_add_cancel]⟩⟩
   rw [cf_sub, cf_mn]
   by_cases e : j = n
   ·rw [if_pos e, e, Rg.sub_self]
   ·rw [if_neg e, hs j (by omega), Rg.sub_self]
theorem pols_nodup {al : List K} (h : FinL al) : ∀ n, (pols al n).Nodup
 | 0 => List.pairwise_singleton ..
 | n + 1 => by
  rw [pols, List.Nodup, List.pairwise_flatMap]
  constructor
  ·intro f hf
   rw [List.pairwise_map]
   refine h.nd.imp fun {a b} hab e => hab ?_
   have := congrArg (fun g => cf g n) e
   simp only [cf_add, cf_mn, if_true] at this
   exact Rg.add_left_cancel this
  ·refine (pols_nodup h n).imp_of_mem fun {f g} hf hg hfg a ha b hb e => hfg ?_
   obtain ⟨c, _, rfl⟩ := List.mem_map.1 ha
   obtain ⟨d, _, rfl⟩ := List.mem_map.1 hb
   have sf := (mem_pols h n f).1 hf
   have sg := (mem_pols h n g).1 hg
   refine Po.ext fun j => ?_
   by_cases hj : j < n
   ·have := congrArg (fun g => cf g j) e
    simp only [cf_add, cf_mn, if_neg (show ¬ j = n by omega), Rg.add_zero] at this
    exact this
   ·rw [sf j (by omega), sg j (by omega)]
noncomputable def qts (al : List K) (P : Po K) [hP : IrC P] : List (Qt P) := (pols al (len P - 1)).map (Qt.mk P)
theorem qts_len (al : List K) (P : Po K) [hP : IrC P] : (qts al P).length = al.length ^ (len P - 1) := by rw [qts, List.length_map, pols_len]
theorem qts_mem {al : List K} (h : FinL al) {P : Po K} [hP : IrC P] (a : Qt P) : a ∈ qts al P := by
 refine List.mem_map.2 ⟨a.1, (mem_pols h _ _).2 fun j hj => cf_ge (by have := a.2; omega), Qt.mk_val a⟩
theorem qts_nodup {al : List K} (h : FinL al) {P : Po K} [hP : IrC P] : (qts al P).Nodup := by
 rw [qts, List.Nodup, List.pairwise_map]
 refine (pols_nodup h _).imp_of_mem fun {f g} hf hg hfg e => hfg ?_
 have sf := len_le ((mem_pols h _ f).1 hf)
 have sg := len_le ((mem_pols h _ g).1 hg)
 have h2 := hP.out.two
 have := congrArg Subtype.val e
 have e1 : (Qt.mk P f).1 = f := rem_small (by omega)
 have e2 : (Qt.mk P g).1 = g := rem_small (by omega)
 rw [e1, e2] at this
 exact this
theorem qt_pow {al : List K} (h : FinL al) {P : Po K} [hP : IrC P] (a : Qt P) : Rg.pow a (al.length ^ (len P - 1)) = a := by
 have hq : 0 < al.length := List.length_pos_of_mem (h.mem 0)
 have hN : 0 < al.length ^ (len P - 1) := Nat.pow_pos hq
 by_cases h0 : a = 0
 ·rw [h0]; exact Rg.zero_pow hN
 ·have hz : Fd.Nz (Qt P) ((qts al P).erase 0) := ⟨(qts_nodup h).erase 0, fun b => by
   rw [(qts_nodup h).mem_erase_iff]
   exact ⟨fun e => e.1, fun e => ⟨e, qts_mem h b⟩⟩⟩
  have h1 := hz.pow h0
  rw [List.length_erase_of_mem (qts_mem h 0), qts_len, Fd.pow_eq] at h1
  have e : al.length ^ (len P - 1) = (al.length ^ (len P - 1) - 1) + 1 := by omega
  rw [e, Rg.pow_succ, h1, Rg.one_mul]
theorem dvd_frob {al : List K} (h : FinL al) {P : Po K} (hP : Ir P) (f : Po K) : P ∣ Rg.pow f (al.length ^ (len P - 1)) - f := by
 haveI : IrC P := ⟨hP⟩
 have := qt_pow h (Qt.mk P f)
 rw [Qt.mk_pow] at this
 exact Qt.mk_eq.1 this
theorem dvd_frobk {al : List K} (h : FinL al) {P : Po K} (hP : Ir P) (f : Po K) : ∀ k, P ∣ Rg.pow f (al.length ^ ((len P - 1) * k)) - f
 | 0 => by rw [Nat.mul_zero, Nat.pow_zero, Rg.pow_one, Rg.sub_self]; exact dvd_zero P
 | k + 1 => by
  have h1 := dvd_frobk h hP f k
  have h2 := dvd_frob h hP (Rg.pow f (al.length ^ ((len P - 1) * k)))
  rw [← Rg.pow_mul, ← Nat.pow_add, ← Nat.mul_succ] at h2
  have := dvd_add h2 h1
  rwa [Rg.sub_add_sub] at this
theorem few_fixed {al : List K} (h : FinL al) (hq : 2 ≤ al.length) {P : Po K} (hP : Ir P) {r : Nat} (hr : 1 ≤ r) (hall : ∀ f, P ∣ Rg.pow f (al.length ^ r) - f) : len P - 1 ≤ r := by
 haveI : IrC P := ⟨hP⟩
 have hQ : 2 ≤ al.length ^ r := by
  have := Nat.pow_le_pow_right (show 0 < al.length by omega) hr
  rw [Nat.pow_one] at this; omega
 have hl : len (mn 1 (al.length ^ r) - X : Po (Qt P)) = al.length ^ r + 1 := len_eq (((mn_sh 1 _).sub ((mn_sh 1 1).mono (by omega)))) (by
  rw [cf_sub, cf_mn, if_pos rfl]
  show (1 : Qt P) - cf (mn 1 1) _ ≠ 0
  rw [cf_mn, if_neg (by omega), Rg.sub_zero]; exact Fd.one_ne)
 have h1 := roots_len (qts al P) (mn 1 (al.length ^ r) - X : Po (Qt P)) (qts_nodup h) (len_pos_iff.1 (by omega)) fun a _ => by
  rw [Qt.val_sub_X, ← Qt.mk_val a, Qt.mk_pow, Qt.mk_eq.2 (hall a.1), Rg.sub_self]
 rw [qts_len, hl] at h1
 refine Nat.le_of_not_lt fun hlt => ?_
 have := Nat.pow_lt_pow_right (show 1 < al.length by omega) hlt
 omega
theorem fixed_const {al : List K} (h : FinL al) (hq : 2 ≤ al.length) (hal : ∀ c : K, Rg.pow c al.length = c) {P : Po K} (hP : Ir P) {f : Po K} (hf : P ∣ Rg.pow f al.length - f) : ∃ c : K, P ∣ f - C c := by
 haveI : IrC P := ⟨hP⟩
 refine Classical.byContradiction fun hno => ?_
 have hno : ∀ c : K, ¬ P ∣ f - C c := fun c hc => hno ⟨c, hc⟩
 have hl : len (mn 1 al.length - X : Po (Qt P)) = al.length + 1 := len_eq (((mn_sh 1 _).sub ((mn_sh 1 1).mono (by omega)))) (by
  rw [cf_sub, cf_mn, if_pos rfl]
  show (1 : Qt P) - cf (mn 1 1) _ ≠ 0
  rw [cf_mn, if_neg (by omega), Rg.sub_zero]; exact Fd.one_ne)
 have hcp : ∀ (c : K) n, Rg.pow (C c : Po K) n = C (Rg.pow c n) := fun c n => by
  induction n with
  | zero => exact C_one.symm
  | succ n ih => rw [Rg.pow_succ, Rg.pow_succ, ih, C_mul]
 have h1 := roots_len (Qt.mk P f :: al.map fun c => Qt.mk P (C c)) (mn 1 al.length - X : Po (Qt P)) (by
  refine List.nodup_cons.2 ⟨fun hm => ?_, ?_⟩
  ·obtain ⟨c, _, e⟩ := List.mem_map.1 hm
   exact hno c (Qt.mk_eq.1 e.symm)
  ·rw [List.Nodup, List.pairwise_map]
   refine h.nd.imp fun {a b} hab e => hab ?_
   have h2 := Qt.mk_eq.1 e
   have h3 : (C a : Po K) - C b = C (a - b) := by
    rw [Rg.sub_def, Rg.sub_def]
    show _ + -(mn b 0) = _
    rw [mn_neg]; exact mn_add _ _ 0
   rw [h3] at h2
   refine Classical.byContradiction fun hne => ?_
   have h4 : a - b ≠ 0 := fun e => hne (Rg.eq_of_sub e)
   have h5 := dvd_len h2 (C_ne h4)
   have h6 : len (C (a - b)) = 1 := len_mn h4 0
   have := hP.two
   omega) (len_pos_iff.1 (by omega)) fun a ha => by
  rw [Qt.val_sub_X]
  rcases List.mem_cons.1 ha with rfl | ha
  ·rw [Qt.mk_pow, Qt.mk_eq.2 hf, Rg.sub_self]
  ·obtain ⟨c, _, rfl⟩ := List.mem_map.1 ha
   rw [Qt.mk_pow, hcp, hal, Rg.sub_self]
 rw [hl, List.length_cons, List.length_map] at h1
 omega
end
section
variable {p m : Int} {mod : List Int} [hF : IsF p m mod]
noncomputable def elA (p m : Int) (mod : List Int) [hF : IsF p m mod] : List (El p m mod) := (0 : El p m mod) :: elNz p m mod
theorem elA_fin : FinL (elA p m mod) := by
 have h := elNz_nz hF.out
 refine ⟨List.nodup_cons.2 ⟨fun hm => (h.mem 0).1 hm rfl, h.nd⟩, fun a => ?_⟩
 by_cases e : a = 0
 ·rw [e]; exact List.mem_cons_self ..
 ·exact List.mem_cons_of_mem _ ((h.mem a).2 e)
theorem elA_len : (elA p m mod).length = (pw p m).toNat := by
 have := hF.q2
 rw [elA, List.length_cons, elNz_len]; omega
theorem frobQ (f g : Po (El p m mod)) (k : Nat) : Rg.pow (f + g) ((pw p m).toNat ^ k) = Rg.pow f ((pw p m).toNat ^ k) + Rg.pow g ((pw p m).toNat ^ k) := by
 have hp := hF.p2
 have e : (pw p m).toNat = p.toNat ^ m.toNat := by
  unfold pw
  rw [Int.toNat_pow_of_nonneg (by omega)]
 rw [e, ← Nat.pow_mul]
 exact frobRk (by omega) (p_prime hF) nc_charP f g _
theorem all_fixed {P : Po (El p m mod)} {n : Nat} (hx : P ∣ Rg.pow X ((pw p m).toNat ^ n) - X) (f : Po (El p m mod)) : P ∣ Rg.pow f ((pw p m).toNat ^ n) - f := by
 have hq := hF.q2
 have hQ : 0 < (pw p m).toNat ^ n := Nat.pow_pos (by omega)
 refine Po.ind (P := fun f => P ∣ Rg.pow f ((pw p m).toNat ^ n) - f) ?_ (fun c j f ih => ?_) f
 ·rw [Rg.zero_pow hQ, Rg.sub_self]; exact dvd_zero P
 ·rw [frobQ]
  have h1 : Rg.pow (mn c j : Po (El p m mod)) ((pw p m).toNat ^ n) = C c * Rg.pow (Rg.pow X ((pw p m).toNat ^ n)) j := by
   have e : (mn c j : Po (El p m mod)) = C c * Rg.pow X j := by
    rw [pow_X]
    show _ = mn c 0 * mn 1 j
    rw [mn_mul, Rg.mul_one, Nat.zero_add]
   rw [e, Rg.mul_pow, ← Rg.pow_mul, ← Rg.pow_mul, Nat.mul_comm j]
   congr 1
   have hcp : ∀ k, Rg.pow (C c : Po (El p m mod)) k = C (Rg.pow c k) := fun k => by
    induction k with
    | zero => exact C_one.symm
    | succ k ih => rw [Rg.pow_succ, Rg.pow_succ, ih, C_mul]
   rw [hcp, all_powk]
  have h2 : ∀ j, P ∣ Rg.pow (Rg.pow X ((pw p m).toNat ^ n)) j - Rg.pow (X : Po (El p m mod)) j := fun j => by
   induction j with
   | zero => rw [Rg.pow_zero, Rg.pow_zero, Rg.sub_self]; exact dvd_zero P
   | succ j ih =>
    obtain ⟨a, ha⟩ := ih
    obtain ⟨b, hb⟩ := hx
    rw [Rg.pow_succ, Rg.pow_succ]
    exact ⟨a * Rg.pow X ((pw p m).toNat ^ n) + Rg.pow X j * b, by grind⟩
  have h3 : (mn c j : Po (El p m mod)) = C c * Rg.pow X j := by
   rw [pow_X]
   show _ = mn c 0 * mn 1 j
   rw [mn_mul, Rg.mul_one, Nat.zero_add]
  rw [h1]
  obtain ⟨a, ha⟩ := ih
  obtain ⟨b, hb⟩ := h2 j
  rw [h3]
  exact ⟨a + C c * b, by grind⟩
theorem ir_dvd_iff {P : Po (El p m mod)} (hP : Ir P) (n : Nat) : P ∣ Rg.pow X ((pw p m).toNat ^ n) - X ↔ (len P - 1) ∣ n := by
 have hq := hF.q2
 have h2 := hP.two
 have hfr : ∀ f k, P ∣ Rg.pow f ((pw p m).toNat ^ ((len P - 1) * k)) - f := fun f k => by
  have := dvd_frobk elA_fin hP f k
  rwa [elA_len] at this
 constructor
 ·intro hx
  have hd := Nat.div_add_mod n (len P - 1)
  have hlt := Nat.mod_lt n (show 0 < len P - 1 by omega)
  refine Classical.byContradiction fun hno => ?_
  have hr : 1 ≤ n % (len P - 1) := Nat.pos_of_ne_zero fun e => hno (Nat.dvd_of_mod_eq_zero e)
  have hall : ∀ f, P ∣ Rg.pow f ((pw p m).toNat ^ (n % (len P - 1))) - f := fun f => by
   have h3 := all_fixed hx f
   have h4 := hfr (Rg.pow f ((pw p m).toNat ^ (n % (len P - 1)))) (n / (len P - 1))
   rw [← Rg.pow_mul, ← Nat.pow_add, Nat.add_comm, hd] at h4
   obtain ⟨a, ha⟩ := h3
   obtain ⟨b, hb⟩ := h4
   exact ⟨a - b, by grind⟩
  have := few_fixed elA_fin (by rw [elA_len]; omega) hP hr (fun f => by rw [elA_len]; exact hall f)
  omega
 ·rintro ⟨k, rfl⟩
  exact hfr X k
theorem xq_sf {n : Nat} (hn : 1 ≤ n) : Sf (Rg.pow X ((pw p m).toNat ^ n) - X : Po (El p m mod)) := fun P hP hd => by
 have hq := hF.q2
 have hp := hF.p2
 obtain ⟨c, hc⟩ := hd
 have h1 := congrArg dP hc
 have h2 : dP (Rg.pow X ((pw p m).toNat ^ n) - X : Po (El p m mod)) = -1 := by
  rw [pow_X]
  refine Po.ext fun j => ?_
  rw [cf_dP, cf_sub, cf_mn, cf_neg, cf_one]
  show Rg.nc (j + 1) * ((if j + 1 = (pw p m).toNat ^ n then 1 else 0) - cf (mn 1 1) (j + 1)) = _
  rw [cf_mn]
  by_cases e : j = 0
  ·subst e
   have h3 : ¬ 0 + 1 = (pw p m).toNat ^ n := fun e => by
    have := Nat.pow_le_pow_right (show 0 < (pw p m).toNat by omega) hn
    rw [Nat.pow_one] at this; omega
   rw [if_neg h3, if_pos rfl, if_pos rfl]
   show (1 : El p m mod) * (0 - 1) = -1
   rw [Rg.one_mul, Rg.zero_sub]
  ·rw [if_neg (show ¬ j + 1 = 1 by omega), if_neg e, Rg.sub_zero, Rg.neg_zero]
   by_cases e2 : j + 1 = (pw p m).toNat ^ n
   ·rw [if_pos e2, Rg.mul_one, e2]
    refine nc_dvd nc_char ?_
    have e3 : (pw p m).toNat = p.toNat ^ m.toNat := by
     unfold pw
     rw [Int.toNat_pow_of_nonneg (by omega)]
    rw [e3, ← Nat.pow_mul]
    have hm := hF.m1
    have : 0 < m.toNat * n := Nat.mul_pos (by omega) (by omega)
    obtain ⟨k, hk⟩ : ∃ k, m.toNat * n = k + 1 := ⟨m.toNat * n - 1, by omega⟩
    rw [hk, Nat.pow_succ]
    exact Nat.dvd_mul_left _ _
   ·rw [if_neg e2, Rg.mul_zero]
 rw [h2, dP_mul, dP_mul] at h1
 have h3 : P ∣ (1 : Po (El p m mod)) := ⟨-(dP P * c + dP P * c + P * dP c), by grind⟩
 exact hP.not_one len_one h3
end
end Go.Proofs.Ytbhoeaijpnjgdaa

namespace Go.Proofs.Ytbhoeaijpnjgdaa
open Po
section
variable {p m : Int} {mod : List Int} [hF : IsF p m mod]
noncomputable def xq (p m : Int) (mod : List Int) [hF : IsF p m mod] (i : Nat) : Po (El p m mod) := Rg.pow X ((pw p m).toNat ^ i) - X
theorem xq_dvd {P : Po (El p m mod)} (hP : Ir P) (n : Nat) : P ∣ xq p m mod n ↔ (len P - 1) ∣ n := ir_dvd_iff hP n
theorem gcd_congr {f a b : Po (El p m mod)} (hf : f ≠ 0) (h : f ∣ a - b) : Po.gcd f a = Po.gcd f b := by
 have ga := gcd_is f a
 have gb := gcd_is f b
 have h1 : Po.gcd f a ∣ b := dvd_of_sub ga.right (dvd_trans ga.left h)
 have h2 : Po.gcd f b ∣ a := by
  have : Po.gcd f b ∣ (a - b) + b := dvd_add (dvd_trans gb.left h) gb.right
  rwa [Rg.sub_add_cancel] at this
 exact monic_eq (gb.great ga.left h1) (ga.great gb.left h2) (gcd_monic (.inl hf)) (gcd_monic (.inl hf))
theorem prime_between {n d : Nat} (hn : 1 ≤ n) (hd : d ∣ n) (hne : d ≠ n) : ∃ r, 2 ≤ r ∧ (∀ u, 2 ≤ u → u ∣ r → u = r) ∧ r ∣ n ∧ d ∣ n / r := by
 obtain ⟨k, rfl⟩ := hd
 have hk : 2 ≤ k := by
  match k with
  | 0 => simp at hn
  | 1 => exact absurd (Nat.mul_one d).symm hne
  | k + 2 => omega
 obtain ⟨r, h2, hr, hmin⟩ := Fd.least_factor hk
 obtain ⟨c, rfl⟩ := hr
 refine ⟨r, h2, fun u hu hur => ?_, ⟨d * c, by rw [← Nat.mul_assoc, ← Nat.mul_assoc, Nat.mul_comm d r]⟩, ⟨c, ?_⟩⟩
 ·have := hmin u hu (Nat.dvd_trans hur ⟨c, rfl⟩)
  have := Nat.le_of_dvd (by omega) hur
  omega
 ·rw [show d * (r * c) = r * (d * c) by rw [← Nat.mul_assoc, ← Nat.mul_assoc, Nat.mul_comm d r]]
  exact Nat.mul_div_cancel_left _ (by omega)
theorem rabin {f : Po (El p m mod)} {n : Nat} (hl : len f = n + 1) (hn : 1 ≤ n) :
  Ir f ↔ f ∣ xq p m mod n ∧ ∀ r, 2 ≤ r → (∀ u, 2 ≤ u → u ∣ r → u = r) → r ∣ n → Po.gcd f (xq p m mod (n / r)) = 1 := by
 have hf : f ≠ 0 := len_pos_iff.1 (by omega)
 constructor
 ·intro h
  refine ⟨(xq_dvd h n).2 (by rw [hl]; exact Nat.dvd_refl _), fun r h2 _ hr => (h.gcd _).resolve_right fun hd => ?_⟩
  have h3 := (xq_dvd h _).1 hd
  rw [hl, Nat.add_sub_cancel] at h3
  obtain ⟨c, rfl⟩ := hr
  rw [Nat.mul_div_cancel_left _ (by omega)] at h3
  have hc : 0 < c := Nat.pos_of_ne_zero fun e => by subst e; simp at hn
  have := Nat.le_of_dvd hc h3
  have h4 : c * 2 ≤ c * r := Nat.mul_le_mul_left c h2
  rw [Nat.mul_comm c r] at h4
  omega
 ·rintro ⟨h1, h2⟩
  refine ir_of_no (by omega) fun P hP hd => Classical.byContradiction fun hne => ?_
  have h3 := (xq_dvd hP n).1 (dvd_trans hd h1)
  have h4 := hP.two
  obtain ⟨r, r2, rp, rd, rn⟩ := prime_between hn h3 (by omega)
  have h5 := (xq_dvd hP _).2 rn
  exact (gcd_one_iff hf).1 (h2 r r2 rp rd) P hP hd h5
theorem lead_one_ne {K : Type} [Fd K] {f : Po K} (h : lead f = 1) : f ≠ 0 := fun e => by
 rw [e] at h
 exact Fd.one_ne (K := K) (by rw [← h]; rfl)
end
end Go.Proofs.Ytbhoeaijpnjgdaa

namespace Go.Proofs.Ytbhoeaijpnjgdaa
open Po
section
variable {K : Type} [Fd K]
theorem mu_ex {P f : Po K} (hP : Ir P) (hf : f ≠ 0) : ∃ k, Rg.pow P k ∣ f ∧ ¬ Rg.pow P (k + 1) ∣ f := by
 have : ∃ n, ¬ Rg.pow P n ∣ f := ⟨len f, fun h => by
  have h1 := dvd_len h hf
  have h2 := len_pow_ge hP.two (len f)
  omega⟩
 obtain ⟨n, hn, hmin⟩ := nat_least this
 match n, hn, hmin with
 | 0, hn, _ => exact absurd (one_dvd f) hn
 | k + 1, hn, hmin => exact ⟨k, Classical.byContradiction fun h => hmin k (by omega) h, hn⟩
open Classical in
noncomputable def mu (P f : Po K) : Nat := if h : ∃ k, Rg.pow P k ∣ f ∧ ¬ Rg.pow P (k + 1) ∣ f then Classical.choose h else 0
variable {P f g : Po K}
theorem mu_spec (hP : Ir P) (hf : f ≠ 0) : Rg.pow P (mu P f) ∣ f ∧ ¬ Rg.pow P (mu P f + 1) ∣ f := by
 unfold mu
 rw [dif_pos (mu_ex hP hf)]
 exact Classical.choose_spec (mu_ex hP hf)
theorem mu_le_iff (hP : Ir P) (hf : f ≠ 0) (k : Nat) : Rg.pow P k ∣ f ↔ k ≤ mu P f := by
 have h := mu_spec hP hf
 constructor
 ·intro hk
  refine Nat.le_of_not_lt fun hlt => h.2 (dvd_trans (pow_dvd P (show mu P f + 1 ≤ k by omega)) hk)
 ·intro hk
  exact dvd_trans (pow_dvd P hk) h.1
theorem mu_eq (hP : Ir P) (hf : f ≠ 0) {k : Nat} (h1 : Rg.pow P k ∣ f) (h2 : ¬ Rg.pow P (k + 1) ∣ f) : mu P f = k := by
 have h := (mu_le_iff hP hf k).1 h1
 have h' : ¬ k + 1 ≤ mu P f := fun e => h2 ((mu_le_iff hP hf _).2 e)
 omega
theorem dvd_iff_mu (hP : Ir P) (hf : f ≠ 0) : P ∣ f ↔ 1 ≤ mu P f := by
 rw [← mu_le_iff hP hf, Rg.pow_one]
theorem mu_split (hP : Ir P) (hf : f ≠ 0) : ∃ b, f = Rg.pow P (mu P f) * b ∧ ¬ P ∣ b := by
 obtain ⟨h1, h2⟩ := mu_spec hP hf
 obtain ⟨b, hb⟩ := h1
 refine ⟨b, hb, fun hd => h2 ?_⟩
 obtain ⟨c, rfl⟩ := hd
 exact ⟨c, by rw [Rg.pow_succ, Rg.mul_assoc]; exact hb⟩
theorem mu_of_split (hP : Ir P) {b : Po K} {k : Nat} (hb : ¬ P ∣ b) (hf : Rg.pow P k * b ≠ 0) : mu P (Rg.pow P k * b) = k := mu_eq hP hf (dvd_mul _ _) fun h => by
 rw [Rg.pow_succ] at h
 exact hb (mul_dvd_cancel (pow_ne0 hP.ne k) h)
theorem mu_mul (hP : Ir P) (hf : f ≠ 0) (hg : g ≠ 0) : mu P (f * g) = mu P f + mu P g := by
 obtain ⟨a, ha, ha'⟩ := mu_split hP hf
 obtain ⟨b, hb, hb'⟩ := mu_split hP hg
 have e : f * g = Rg.pow P (mu P f + mu P g) * (a * b) := by
  rw [Rg.pow_add]
  have h1 := congrArg (fun z => z * g) ha
  have h2 := congrArg (fun z => Rg.pow P (mu P f) * a * z) hb
  rw [h1, h2]; grind
 have hfg := mul_ne hf hg
 rw [e] at hfg
 rw [e]
 exact mu_of_split hP (fun h => (hP.prime h).elim ha' hb') hfg
theorem mu_one (hP : Ir P) : mu P 1 = 0 := mu_eq hP one_ne (one_dvd 1) fun h => by
 rw [Rg.pow_one] at h; exact hP.not_one len_one h
theorem mu_pow (hP : Ir P) (hf : f ≠ 0) : ∀ n, mu P (Rg.pow f n) = n * mu P f
 | 0 => by rw [Rg.pow_zero, mu_one hP, Nat.zero_mul]
 | n + 1 => by rw [Rg.pow_succ, mu_mul hP (pow_ne0 hf n) hf, mu_pow hP hf n, Nat.succ_mul]
theorem mu_gcd (hP : Ir P) (hf : f ≠ 0) (hg : g ≠ 0) : mu P (Po.gcd f g) = min (mu P f) (mu P g) := by
 have h := gcd_is f g
 have h0 := gcd_ne (f := f) (g := g) (.inl hf)
 have key : ∀ k, k ≤ mu P (Po.gcd f g) ↔ k ≤ mu P f ∧ k ≤ mu P g := fun k => by
  rw [← mu_le_iff hP h0, ← mu_le_iff hP hf, ← mu_le_iff hP hg]
  exact ⟨fun hk => ⟨dvd_trans hk h.left, dvd_trans hk h.right⟩, fun hk => h.great hk.1 hk.2⟩
 have h1 := (key _).1 (Nat.le_refl _)
 have h2 := (key (min (mu P f) (mu P g))).2 ⟨Nat.min_le_left .., Nat.min_le_right ..⟩
 omega
theorem dvd_of_mu (hf : f ≠ 0) (hg : g ≠ 0) (h : ∀ P, Ir P → lead P = 1 → mu P f ≤ mu P g) : f ∣ g :=
 dvd_of_pows _ f g (Nat.le_refl _) hf fun P k hP hl hd => (mu_le_iff hP hg k).2 (Nat.le_trans ((mu_le_iff hP hf k).1 hd) (h P hP hl))
theorem mu_mono (hP : Ir P) (hg : g ≠ 0) (h : f ∣ g) : mu P f ≤ mu P g := by
 have hf : f ≠ 0 := fun e => hg (zero_dvd (e ▸ h))
 exact (mu_le_iff hP hg _).1 (dvd_trans (mu_spec hP hf).1 h)
theorem eq_of_mu (hf : lead f = 1) (hg : lead g = 1) (h : ∀ P, Ir P → lead P = 1 → mu P f = mu P g) : f = g := by
 have f0 : f ≠ 0 := fun e => by rw [e] at hf; exact Fd.one_ne (K := K) (by rw [← hf]; rfl)
 have g0 : g ≠ 0 := fun e => by rw [e] at hg; exact Fd.one_ne (K := K) (by rw [← hg]; rfl)
 exact monic_eq (dvd_of_mu f0 g0 fun P hP hl => Nat.le_of_eq (h P hP hl)) (dvd_of_mu g0 f0 fun P hP hl => Nat.le_of_eq (h P hP hl).symm) hf hg
theorem sf_iff_mu (hf : f ≠ 0) : Sf f ↔ ∀ P, Ir P → mu P f ≤ 1 := by
 constructor
 ·intro h P hP
  refine Nat.le_of_not_lt fun hlt => h P hP ?_
  have := (mu_le_iff hP hf 2).2 hlt
  rwa [Rg.pow_succ, Rg.pow_one] at this
 ·intro h P hP hd
  have : Rg.pow P 2 ∣ f := by rwa [Rg.pow_succ, Rg.pow_one]
  have := (mu_le_iff hP hf 2).1 this
  have := h P hP
  omega
theorem dP_pow (P : Po K) : ∀ n, dP (Rg.pow P (n + 1)) = Rg.nc (n + 1) * (Rg.pow P n * dP P)
 | 0 => by
  rw [Rg.pow_one, Rg.pow_zero, Rg.one_mul]
  show dP P = (1 : Po K) * dP P
  rw [Rg.one_mul]
 | n + 1 => by
  rw [Rg.pow_succ, dP_mul, dP_pow P n, Rg.nc_succ (n + 1), Rg.pow_succ]
  grind
theorem len_dP (f : Po K) : len (dP f) ≤ len f - 1 := len_le fun j hj => by rw [cf_dP, cf_ge (by omega), Rg.mul_zero]
end
section
variable {p m : Int} {mod : List Int} [hF : IsF p m mod]
theorem cf_pow_p (g : Po (El p m mod)) (j : Nat) : cf (Rg.pow g p.toNat) j = if j % p.toNat = 0 then Rg.pow (cf g (j / p.toNat)) p.toNat else 0 := by
 have hp := hF.p2
 have hpos : 0 < p.toNat := by omega
 refine Po.ind (P := fun g => ∀ j, cf (Rg.pow g p.toNat) j = if j % p.toNat = 0 then Rg.pow (cf g (j / p.toNat)) p.toNat else 0) (fun j => ?_) (fun c n f ih j => ?_) g j
 ·rw [Rg.zero_pow hpos, cf_zero, cf_zero, Rg.zero_pow hpos]; split <;> rfl
 ·rw [frobR (by omega) (p_prime hF) nc_charP, cf_add, ih j, cf_add]
  have e : Rg.pow (mn c n : Po (El p m mod)) p.toNat = mn (Rg.pow c p.toNat) (n * p.toNat) := by
   have : ∀ k, Rg.pow (mn c n : Po (El p m mod)) k = mn (Rg.pow c k) (n * k) := fun k => by
    induction k with
    | zero => rfl
    | succ k ih => rw [Rg.pow_succ, ih, mn_mul, Rg.pow_succ, Nat.mul_succ]
   exact this _
  rw [e, cf_mn, cf_mn]
  by_cases h : j % p.toNat = 0
  ·rw [if_pos h, if_pos h, frobR (by omega) (p_prime hF) nc_char]
   congr 1
   by_cases h2 : j = n * p.toNat
   ·rw [if_pos h2, if_pos (by rw [h2, Nat.mul_div_cancel _ hpos])]
   ·rw [if_neg h2, if_neg (fun e => h2 (by rw [← e, Nat.div_mul_cancel (Nat.dvd_of_mod_eq_zero h)])), Rg.zero_pow hpos]
  ·rw [if_neg h, if_neg h, if_neg (fun e => h (by rw [e, Nat.mul_mod_left])), Rg.zero_add]
noncomputable def rtP (f : Po (El p m mod)) : Po (El p m mod) := ⟨fun i => Rg.pow (cf f (i * p.toNat)) ((pw p m).toNat / p.toNat), len f, fun j hj => by
 have hp := hF.p2
 have hq := hF.q2
 show Rg.pow (cf f (j * p.toNat)) _ = 0
 have h1 : j * 1 ≤ j * p.toNat := Nat.mul_le_mul_left j (by omega)
 rw [cf_ge (by omega)]
 refine Rg.zero_pow ?_
 have e : (pw p m).toNat = p.toNat ^ m.toNat := by
  unfold pw
  rw [Int.toNat_pow_of_nonneg (by omega)]
 have hm := hF.m1
 rw [e, show m.toNat = m.toNat - 1 + 1 by omega, Nat.pow_succ, Nat.mul_div_cancel _ (by omega)]
 exact Nat.pow_pos (by omega)⟩
theorem qp_mul {p m : Int} {mod : List Int} (hF : IsF p m mod) : (pw p m).toNat / p.toNat * p.toNat = (pw p m).toNat := by
 have hp := hF.p2
 have hm := hF.m1
 have e : (pw p m).toNat = p.toNat ^ m.toNat := by
  unfold pw
  rw [Int.toNat_pow_of_nonneg (by omega)]
 rw [e, show m.toNat = m.toNat - 1 + 1 by omega, Nat.pow_succ, Nat.mul_div_cancel _ (by omega)]
theorem rtP_pow {f : Po (El p m mod)} (h : dP f = 0) : Rg.pow (rtP f) p.toNat = f := Po.ext fun j => by
 have hp := hF.p2
 rw [cf_pow_p]
 by_cases hj : j % p.toNat = 0
 ·rw [if_pos hj]
  show Rg.pow (Rg.pow (cf f (j / p.toNat * p.toNat)) _) _ = _
  rw [← Rg.pow_mul, qp_mul hF, all_pow, Nat.div_mul_cancel (Nat.dvd_of_mod_eq_zero hj)]
 ·rw [if_neg hj]
  have h1 := congrArg (fun g => cf g (j - 1)) h
  simp only [cf_dP, cf_zero] at h1
  have hj0 : j ≠ 0 := fun e => hj (by rw [e, Nat.zero_mod])
  rw [show j - 1 + 1 = j by omega] at h1
  have h2 : (Rg.nc j : El p m mod) ≠ 0 := nc_ne fun e => hj (by
   have h3 : ((j : Nat) : Int) % (p.toNat : Int) = 0 := by rw [Int.toNat_of_nonneg (by omega)]; exact e
   exact_mod_cast h3)
  exact ((Fd.mul_eq_zero h1).resolve_left h2).symm
theorem rtP_ne {f : Po (El p m mod)} (h : dP f = 0) (hf : f ≠ 0) : rtP f ≠ 0 := fun e => hf (by
 have hp := hF.p2
 rw [← rtP_pow h, e, Rg.zero_pow (by omega)])
theorem len_powN {f : Po (El p m mod)} (hf : f ≠ 0) : ∀ n, len (Rg.pow f n) = n * (len f - 1) + 1
 | 0 => by rw [Rg.pow_zero, len_one, Nat.zero_mul]
 | n + 1 => by
  have := len_pos hf
  rw [Rg.pow_succ, len_mul (pow_ne0 hf n) hf, len_powN hf n, Nat.succ_mul]; omega
theorem rtP_len {f : Po (El p m mod)} (h : dP f = 0) (hf : 2 ≤ len f) : 2 ≤ len (rtP f) ∧ len (rtP f) < len f := by
 have hp := hF.p2
 have hf0 : f ≠ 0 := len_pos_iff.1 (by omega)
 have h1 := rtP_ne h hf0
 have h2 := len_powN h1 p.toNat
 rw [rtP_pow h] at h2
 have h3 := len_pos h1
 have h4 : 2 * (len (rtP f) - 1) ≤ p.toNat * (len (rtP f) - 1) := Nat.mul_le_mul_right _ (by omega)
 refine ⟨Nat.le_of_not_lt fun hlt => ?_, by omega⟩
 rw [show len (rtP f) - 1 = 0 by omega, Nat.mul_zero] at h2
 omega
theorem ir_dP {P : Po (El p m mod)} (hP : Ir P) : dP P ≠ 0 := fun h => by
 have hp := hF.p2
 have h1 := rtP_len h hP.two
 have h2 : rtP P ∣ P := by
  have := dvd_pow_pos (rtP P) (show 1 ≤ p.toNat by omega)
  rwa [rtP_pow h] at this
 rcases hP.irr _ h2 with h3 | h3 <;> omega
theorem ir_not_dP {P : Po (El p m mod)} (hP : Ir P) : ¬ P ∣ dP P := fun h => by
 have h1 := dvd_len h (ir_dP hP)
 have h2 := len_dP P
 have := hP.two
 omega
theorem nc_not_dvd {P : Po (El p m mod)} (hP : Ir P) {e : Nat} (he : (e : Int) % p ≠ 0) : ¬ P ∣ Rg.nc e := fun h => by
 rw [nc_po] at h
 exact hP.not_one (len_mn (nc_ne he) 0) h
theorem mu_gcd_dP {P f : Po (El p m mod)} (hP : Ir P) (hf : f ≠ 0) : mu P (Po.gcd f (dP f)) = if ((mu P f : Nat) : Int) % p = 0 then mu P f else mu P f - 1 := by
 obtain ⟨b, hb, hb'⟩ := mu_split hP hf
 have hg := gcd_is f (dP f)
 have h0 := gcd_ne (f := f) (g := dP f) (.inl hf)
 generalize he : mu P f = e at *
 have hno : ¬ Rg.pow P (e + 1) ∣ Po.gcd f (dP f) := fun h => by
  have := (mu_le_iff hP hf _).1 (dvd_trans h hg.left)
  omega
 split
 ·rename_i h
  refine mu_eq hP h0 (hg.great ⟨b, hb⟩ ?_) hno
  match e, h, hb with
  | 0, _, _ => exact one_dvd _
  | e + 1, h, hb =>
   rw [hb, dP_mul, dP_pow]
   have hz : (Rg.nc (e + 1) : Po (El p m mod)) = 0 := by
    rw [nc_po]
    have : (Rg.nc (e + 1) : El p m mod) = 0 := El.ext (by rw [nc_val]; exact h)
    rw [this, C_zero]
   rw [hz, Rg.zero_mul, Rg.zero_mul, Rg.zero_add]
   exact dvd_mul _ _
 ·rename_i h
  match e, h, hb, hno with
  | 0, h, _, _ => exact absurd (Int.zero_emod p) h
  | e + 1, h, hb, hno =>
   rw [Nat.add_sub_cancel]
   have hd : dP f = Rg.pow P e * (Rg.nc (e + 1) * (dP P * b) + P * dP b) := by
    rw [hb, dP_mul, dP_pow, Rg.pow_succ]; grind
   refine mu_eq hP h0 (hg.great (dvd_trans (pow_dvd P (Nat.le_succ e)) ⟨b, hb⟩) ⟨_, hd⟩) fun h2 => ?_
   have h3 := dvd_trans h2 hg.right
   rw [hd, Rg.pow_succ] at h3
   have h4 := mul_dvd_cancel (pow_ne0 hP.ne e) h3
   have h5 : P ∣ Rg.nc (e + 1) * (dP P * b) := dvd_of_sub (f := P) (g := Rg.nc (e + 1) * (dP P * b) + P * dP b) h4 (by
    rw [show Rg.nc (e + 1) * (dP P * b) + P * dP b - Rg.nc (e + 1) * (dP P * b) = P * dP b by grind]
    exact dvd_mul _ _) |> fun _ => by
     have : P ∣ P * dP b := dvd_mul _ _
     have h6 := dvd_sub h4 this
     rwa [show Rg.nc (e + 1) * (dP P * b) + P * dP b - P * dP b = Rg.nc (e + 1) * (dP P * b) by grind] at h6
   rcases hP.prime h5 with h6 | h6
   ·exact nc_not_dvd hP h h6
   ·rcases hP.prime h6 with h7 | h7
    ·exact ir_not_dP hP h7
    ·exact hb' h7
theorem dP_zero_of {f : Po (El p m mod)} (hf : f ≠ 0) (h : ∀ P, Ir P → lead P = 1 → ((mu P f : Nat) : Int) % p = 0) : dP f = 0 := Classical.byContradiction fun hne => by
 have h1 : f ∣ Po.gcd f (dP f) := dvd_of_mu hf (gcd_ne (.inl hf)) fun P hP hl => by
  rw [mu_gcd_dP hP hf, if_pos (h P hP hl)]; exact Nat.le_refl _
 have h2 := dvd_len (dvd_trans h1 (gcd_is f (dP f)).right) hne
 have h3 := len_dP f
 have := len_pos hf
 omega
theorem mu_rtP {P f : Po (El p m mod)} (hP : Ir P) (h : dP f = 0) (hf : f ≠ 0) : mu P f = p.toNat * mu P (rtP f) := by
 have := mu_pow hP (rtP_ne h hf) p.toNat
 rwa [rtP_pow h] at this
theorem sf_rad {f w : Po (El p m mod)} (hf : f ≠ 0) (h : f = w * Po.gcd f (dP f)) : Sf w ∧ ∀ P, Ir P → mu P w = if ((mu P f : Nat) : Int) % p = 0 then 0 else 1 := by
 have h0 := gcd_ne (f := f) (g := dP f) (.inl hf)
 have hw : w ≠ 0 := fun e => hf (by rw [h, e, Rg.zero_mul])
 have key : ∀ P, Ir P → mu P w = if ((mu P f : Nat) : Int) % p = 0 then 0 else 1 := fun P hP => by
  have h1 := mu_mul hP hw h0
  rw [← h, mu_gcd_dP hP hf] at h1
  split at h1
  ·rename_i h2; rw [if_pos h2]; omega
  ·rename_i h2
   rw [if_neg h2]
   have : mu P f ≠ 0 := fun e => h2 (by rw [e]; exact Int.zero_emod p)
   omega
 exact ⟨(sf_iff_mu hw).2 fun P hP => by rw [key P hP]; split <;> omega, key⟩
end
end Go.Proofs.Ytbhoeaijpnjgdaa

namespace Go.Proofs.Ytbhoeaijpnjgdaa
open Po
section
variable {p m : Int} {mod : List Int} [hF : IsF p m mod]
def prd {K : Type} [Fd K] : List (Po K) → Po K
 | [] => 1
 | f :: l => f * prd l
theorem prd_append {K : Type} [Fd K] (a b : List (Po K)) : prd (a ++ b) = prd a * prd b := by
 induction a with
 | nil => exact (Rg.one_mul _).symm
 | cons x a ih => rw [List.cons_append, prd, prd, ih, Rg.mul_assoc]
theorem prd_dvd {K : Type} [Fd K] {f : Po K} : ∀ {l : List (Po K)}, f ∈ l → f ∣ prd l
 | x :: l, h => by
  rcases List.mem_cons.1 h with rfl | h
  ·exact dvd_mul _ _
  ·exact dvd_mul_ofL (prd_dvd h) x
theorem ir_dvd_prd {K : Type} [Fd K] {P : Po K} (hP : Ir P) : ∀ {l : List (Po K)}, P ∣ prd l → ∃ f ∈ l, P ∣ f
 | [], h => absurd h (hP.not_one len_one)
 | x :: l, h => by
  rcases hP.prime h with h | h
  ·exact ⟨x, List.mem_cons_self .., h⟩
  ·obtain ⟨f, hf, hd⟩ := ir_dvd_prd hP h
   exact ⟨f, List.mem_cons_of_mem _ hf, hd⟩
structure IrL {K : Type} [Fd K] (f : Po K) (Ps : List (Po K)) : Prop where
 nd : Ps.Nodup
 mem : ∀ P, P ∈ Ps ↔ Ir P ∧ lead P = 1 ∧ P ∣ f
theorem IrL.len_eq {K : Type} [Fd K] {f : Po K} {Ps Qs : List (Po K)} (h : IrL f Ps) (k : IrL f Qs) : Ps.length = Qs.length := by
 classical
 have hs : ∀ P, P ∈ Ps ↔ P ∈ Qs := fun P => (h.mem P).trans (k.mem P).symm
 rcases Nat.le_total Ps.length Qs.length with e | e
 ·exact (Fd.perm_of_sub Qs Ps k.nd (fun P hP => (hs P).2 hP) e).length_eq.symm
 ·exact (Fd.perm_of_sub Ps Qs h.nd (fun P hP => (hs P).1 hP) e).length_eq
theorem irL_ex {K : Type} [Fd K] : ∀ (n : Nat) (f : Po K), len f ≤ n → lead f = 1 → Sf f → ∃ Ps, IrL f Ps ∧ prd Ps = f
 | 0, f, h, hl, _ => absurd (eq_zero_of_len (f := f) (by omega)) (fun e => by rw [e] at hl; exact Fd.one_ne (K := K) (by rw [← hl]; rfl))
 | n + 1, f, h, hl, hs => by
  have hf : f ≠ 0 := fun e => by rw [e] at hl; exact Fd.one_ne (K := K) (by rw [← hl]; rfl)
  by_cases h2 : len f < 2
  ·have e := monic_one hl (by omega)
   subst e
   exact ⟨[], ⟨.nil, fun P => ⟨fun h => by simp at h, fun h => absurd h.2.2 (h.1.not_one len_one)⟩⟩, rfl⟩
  ·obtain ⟨P, hP, hlP, hd⟩ := ir_ex (f := f) (by omega)
   obtain ⟨g, rfl⟩ := hd
   have hg : g ≠ 0 := fun e => hf (by rw [e, Rg.mul_zero])
   have h3 := len_mul hP.ne hg
   have h4 := hP.two
   have hlg : lead g = 1 := by
    have := lead_mul hP.ne hg
    rw [hl, hlP, Rg.one_mul] at this
    exact this.symm
   obtain ⟨Ps, hPs, he⟩ := irL_ex n g (by omega) hlg (hs.of_dvd (dvd_mulL g P))
   have hno : ¬ P ∣ g := fun hd => hs P hP (mul_dvd_mul hd P)
   refine ⟨P :: Ps, ⟨List.nodup_cons.2 ⟨fun hm => hno ((hPs.mem P).1 hm).2.2, hPs.nd⟩, fun Q => ?_⟩, by rw [prd, he]⟩
   rw [List.mem_cons, hPs.mem]
   constructor
   ·rintro (rfl | ⟨a, b, c⟩)
    ·exact ⟨hP, hlP, dvd_mul _ _⟩
    ·exact ⟨a, b, dvd_mul_ofL c P⟩
   ·rintro ⟨a, b, c⟩
    by_cases e : Q = P
    ·exact .inl e
    ·exact .inr ⟨a, b, (a.prime c).resolve_left fun hd => e (a.one hP b hlP hd)⟩
def Fxd (f v : Po (El p m mod)) : Prop := f ∣ Rg.pow v (pw p m).toNat - v
theorem fxd_const {f v P : Po (El p m mod)} (h : Fxd f v) (hP : Ir P) (hd : P ∣ f) : ∃ c : El p m mod, P ∣ v - C c := by
 have hq := hF.q2
 refine fixed_const (elA_fin (p := p) (m := m) (mod := mod)) (by rw [elA_len]; omega) (fun c => by rw [elA_len]; exact all_pow c) hP ?_
 rw [elA_len]
 exact dvd_trans hd h
theorem const_uniq {v P : Po (El p m mod)} (hP : Ir P) {c d : El p m mod} (h1 : P ∣ v - C c) (h2 : P ∣ v - C d) : c = d := Classical.byContradiction fun hne => by
 have h3 := dvd_sub h2 h1
 rw [show v - C d - (v - C c) = C c - C d by grind] at h3
 have h4 : (C c : Po (El p m mod)) - C d = C (c - d) := by
  rw [Rg.sub_def, Rg.sub_def]
  show _ + -(mn d 0) = _
  rw [mn_neg]; exact mn_add _ _ 0
 rw [h4] at h3
 have h5 : c - d ≠ 0 := fun e => hne (Rg.eq_of_sub e)
 exact hP.not_one (len_mn h5 0) h3
theorem crt_one {f P : Po (El p m mod)} (hf : lead f = 1) (hs : Sf f) (hP : Ir P) (hd : P ∣ f) : ∃ E, len E < len f ∧ Fxd f E ∧ P ∣ E - 1 ∧ ∀ Q, Ir Q → Q ∣ f → ¬ Q ∣ P → Q ∣ E := by
 have hf0 : f ≠ 0 := lead_one_ne hf
 obtain ⟨g, rfl⟩ := hd
 have hg : g ≠ 0 := fun e => hf0 (by rw [e, Rg.mul_zero])
 have hno : ¬ P ∣ g := fun hd => hs P hP (mul_dvd_mul hd P)
 have h1 := (hP.gcd g).resolve_right hno
 obtain ⟨u, v, e⟩ := (gcd_is P g).bez
 rw [h1] at e
 obtain ⟨c, hc⟩ := rem_sub_dvd (v * g) hf0
 have e1 : P ∣ rem (v * g) (P * g) - 1 := ⟨-(u + g * c), by rw [← e]; grind⟩
 have e2 : g ∣ rem (v * g) (P * g) := ⟨v - P * c, by grind⟩
 refine ⟨rem (v * g) (P * g), rem_len _ hf0, ?_, e1, fun Q hQ hQd hQP => dvd_trans ((hQ.prime hQd).resolve_left hQP) e2⟩
 generalize rem (v * g) (P * g) = E at *
 have hq := hF.q2
 have hpw : ∀ n, 1 ≤ n → P ∣ Rg.pow E n - 1 ∧ E ∣ Rg.pow E n := fun n hn => by
  refine ⟨?_, dvd_pow_pos E hn⟩
  have : ∀ n, P ∣ Rg.pow E n - 1 := fun n => by
   induction n with
   | zero => rw [Rg.pow_zero, Rg.sub_self]; exact dvd_zero P
   | succ n ih =>
    obtain ⟨a, ha⟩ := ih
    obtain ⟨b, hb⟩ := e1
    exact ⟨a * E + b, by rw [Rg.pow_succ]; grind⟩
  exact this n
 have h2 := hpw (pw p m).toNat (by omega)
 refine cop_mul h1 ?_ ?_
 ·have := dvd_sub h2.1 e1
  rwa [show Rg.pow E (pw p m).toNat - 1 - (E - 1) = Rg.pow E (pw p m).toNat - E by grind] at this
 ·exact dvd_sub (dvd_trans e2 h2.2) e2
def smC {K : Type} [Fd K] (c : Nat → K) : List (Po K) → Po K
 | [] => 0
 | f :: l => C (c 0) * f + smC (fun i => c (i + 1)) l
def vcP {K : Type} [Fd K] (f : Po K) : Vc K := fun j => cf f j
theorem vcP_smC {K : Type} [Fd K] : ∀ (l : List (Po K)) (c : Nat → K), vcP (smC c l) = Vc.cmb c (l.map vcP)
 | [], _ => rfl
 | f :: l, c => by
  rw [smC, List.map_cons, Vc.cmb, ← vcP_smC l]
  refine Vc.ext fun j => ?_
  show cf (C (c 0) * f + _) j = c 0 * cf f j + cf _ j
  rw [cf_add, cf_C_mul]
theorem vcP_inj {K : Type} [Fd K] {f g : Po K} (h : vcP f = vcP g) : f = g := Po.ext fun j => congrFun h j
structure Bss (f : Po (El p m mod)) (B : List (Po (El p m mod))) : Prop where
 sub : ∀ v ∈ B, len v < len f ∧ Fxd f v
 ind : ¬ Vc.Dep (B.map vcP)
 span : ∀ v, len v < len f → Fxd f v → ∃ c, v = smC c B
theorem idem_ex {f : Po (El p m mod)} (hf : lead f = 1) (hs : Sf f) (Ps : List (Po (El p m mod))) (hn : Ps.Nodup) (h : ∀ P ∈ Ps, Ir P ∧ lead P = 1 ∧ P ∣ f) :
 ∃ Es : List (Po (El p m mod)), Es.length = Ps.length ∧ (∀ E ∈ Es, len E < len f ∧ Fxd f E) ∧ ∀ i j, i < Ps.length → j < Ps.length → Ps.getD j 0 ∣ Es.getD i 0 - (if i = j then 1 else 0) := by
 classical
 let e : Po (El p m mod) → Po (El p m mod) := fun P => if hP : P ∈ Ps then Classical.choose (crt_one hf hs (h P hP).1 (h P hP).2.2) else 0
 have he : ∀ P (hP : P ∈ Ps), len (e P) < len f ∧ Fxd f (e P) ∧ P ∣ e P - 1 ∧ ∀ Q, Ir Q → Q ∣ f → ¬ Q ∣ P → Q ∣ e P := fun P hP => by
  simp only [e]
  rw [dif_pos hP]
  exact Classical.choose_spec (crt_one hf hs (h P hP).1 (h P hP).2.2)
 refine ⟨Ps.map e, List.length_map .., fun E hE => ?_, fun i j hi hj => ?_⟩
 ·obtain ⟨P, hP, rfl⟩ := List.mem_map.1 hE
  exact ⟨(he P hP).1, (he P hP).2.1⟩
 ·have ei : (Ps.map e).getD i 0 = e (Ps.getD i 0) := by
   rw [List.getD_eq_getElem?_getD, List.getElem?_map, List.getElem?_eq_getElem hi, List.getD_eq_getElem?_getD, List.getElem?_eq_getElem hi]; rfl
  rw [ei]
  have mi := Vc.getD_eq_mem hi (0 : Po (El p m mod))
  have mj := Vc.getD_eq_mem hj (0 : Po (El p m mod))
  by_cases hij : i = j
  ·subst hij; rw [if_pos rfl]; exact (he _ mi).2.2.1
  ·rw [if_neg hij, Rg.sub_zero]
   refine (he _ mi).2.2.2 _ (h _ mj).1 (h _ mj).2.2 fun hd => hij ?_
   have := (h _ mj).1.one (h _ mi).1 (h _ mj).2.1 (h _ mi).2.1 hd
   rw [List.getD_eq_getElem?_getD, List.getElem?_eq_getElem hj, List.getD_eq_getElem?_getD, List.getElem?_eq_getElem hi] at this
   exact ((List.getElem_inj hn).1 this).symm
theorem dvd_smC {P : Po (El p m mod)} {j : Nat} : ∀ {Es : List (Po (El p m mod))} {i0 : Nat} (c : Nat → El p m mod), (∀ i, i < Es.length → P ∣ Es.getD i 0 - (if i0 + i = j then 1 else 0)) → P ∣ smC c Es - C (if i0 ≤ j ∧ j < i0 + Es.length then c (j - i0) else 0)
 | [], i0, c, _ => by
  rw [smC, if_neg (fun h => by simp at h; omega), C_zero, Rg.sub_self]; exact dvd_zero P
 | E :: Es, i0, c, h => by
  have h0 := h 0 (by simp)
  have ih := dvd_smC (Es := Es) (i0 := i0 + 1) (fun i => c (i + 1)) fun i hi => by
   have := h (i + 1) (by simpa using hi)
   rwa [List.getD_cons_succ, show i0 + (i + 1) = i0 + 1 + i by omega] at this
  rw [List.getD_cons_zero, Nat.add_zero] at h0
  obtain ⟨a, ha⟩ := h0
  obtain ⟨b, hb⟩ := ih
  rw [smC]
  by_cases e : i0 = j
  ·subst e
   rw [if_pos rfl] at ha
   rw [if_neg (by omega), C_zero] at hb
   rw [if_pos (by simp), Nat.sub_self]
   exact ⟨C (c 0) * a + b, by grind⟩
  ·rw [if_neg e] at ha
   have e2 : (i0 ≤ j ∧ j < i0 + (E :: Es).length) ↔ (i0 + 1 ≤ j ∧ j < i0 + 1 + Es.length) := by simp; omega
   by_cases e3 : i0 + 1 ≤ j ∧ j < i0 + 1 + Es.length
   ·rw [if_pos e3] at hb
    rw [if_pos (e2.2 e3), show j - i0 = j - (i0 + 1) + 1 by omega]
    exact ⟨C (c 0) * a + b, by grind⟩
   ·rw [if_neg e3] at hb
    rw [if_neg (fun h => e3 (e2.1 h))]
    exact ⟨C (c 0) * a + b, by grind⟩
theorem bss_len {f : Po (El p m mod)} (hf : lead f = 1) (hs : Sf f) {B Ps : List (Po (El p m mod))} (hB : Bss f B) (hP : IrL f Ps) : B.length = Ps.length := by
 have hf0 := lead_one_ne hf
 obtain ⟨Es, e1, e2, e3⟩ := idem_ex hf hs Ps hP.nd fun P h => (hP.mem P).1 h
 -- the idempotents span
 have hsp : ∀ v, len v < len f → Fxd f v → ∃ c, v = smC c Es := fun v hv hx => by
  have hc : ∀ j, j < Ps.length → ∃ c : El p m mod, Ps.getD j 0 ∣ v - C c := fun j hj => by
   have := (hP.mem _).1 (Vc.getD_eq_mem hj (0 : Po (El p m mod)))
   exact fxd_const hx this.1 this.2.2
  let c : Nat → El p m mod := fun j => if hj : j < Ps.length then Classical.choose (hc j hj) else 0
  have hcs : ∀ j (hj : j < Ps.length), Ps.getD j 0 ∣ v - C (c j) := fun j hj => by
   simp only [c]; rw [dif_pos hj]; exact Classical.choose_spec (hc j hj)
  refine ⟨c, ?_⟩
  have hd : f ∣ v - smC c Es := hs.dvd hf0 fun P hPi hPl hPd => by
   obtain ⟨j, hj, hjP⟩ := List.getElem_of_mem ((hP.mem P).2 ⟨hPi, hPl, hPd⟩)
   have hg : Ps.getD j 0 = P := by rw [List.getD_eq_getElem?_getD, List.getElem?_eq_getElem hj]; exact hjP
   have h1 := hcs j hj
   have h2 := dvd_smC (P := P) (j := j) (Es := Es) (i0 := 0) c fun i hi => by
    have := e3 i j (by omega) hj
    rw [hg] at this
    rwa [Nat.zero_add]
   rw [if_pos (by omega), Nat.sub_zero] at h2
   rw [hg] at h1
   have := dvd_sub h1 h2
   rwa [show v - C (c j) - (smC c Es - C (c j)) = v - smC c Es by grind] at this
  have hl : len (v - smC c Es) < len f := by
   have hle : ∀ (l : List (Po (El p m mod))) (c : Nat → El p m mod), (∀ E ∈ l, len E < len f) → len (smC c l) < len f := fun l => by
    induction l with
    | nil => intro c _; rw [smC, len_zero]; exact len_pos hf0
    | cons E l ih =>
     intro c h
     rw [smC]
     have h1 := ih (fun i => c (i + 1)) fun E' hE' => h E' (List.mem_cons_of_mem _ hE')
     have h2 := len_add (C (c 0) * E) (smC (fun i => c (i + 1)) l)
     have h3 : len (C (c 0) * E) < len f := by
      by_cases e : c 0 = 0
      ·rw [e, C_zero, Rg.zero_mul, len_zero]; exact len_pos hf0
      ·rw [len_C_mul e]; exact h E (List.mem_cons_self ..)
     omega
   have h1 := hle Es c fun E hE => (e2 E hE).1
   have h2 := len_sub v (smC c Es)
   omega
  refine Rg.eq_of_sub (Classical.byContradiction fun hne => ?_)
  have := dvd_len hd hne
  omega
 have hind : ¬ Vc.Dep (Es.map vcP) := fun ⟨c, ⟨i, hi, hc⟩, h0⟩ => hc (by
  rw [List.length_map] at hi
  rw [← vcP_smC] at h0
  have h1 : smC c Es = 0 := vcP_inj h0
  have hiP : i < Ps.length := by omega
  have h2 := dvd_smC (P := Ps.getD i 0) (j := i) (Es := Es) (i0 := 0) c fun k hk => by
   have := e3 k i (by omega) hiP
   rwa [Nat.zero_add]
  rw [if_pos (by omega), Nat.sub_zero, h1] at h2
  have hPi := ((hP.mem _).1 (Vc.getD_eq_mem hiP (0 : Po (El p m mod)))).1
  refine const_uniq (v := 0) hPi h2 ?_
  rw [C_zero, Rg.sub_self]; exact dvd_zero _)
 have s1 : ∀ r ∈ B.map vcP, Vc.SpL (Es.map vcP) r := fun r hr => by
  obtain ⟨v, hv, rfl⟩ := List.mem_map.1 hr
  obtain ⟨c, e⟩ := hsp v (hB.sub v hv).1 (hB.sub v hv).2
  rw [e, vcP_smC]; exact Vc.cmb_sp c _
 have s2 : ∀ r ∈ Es.map vcP, Vc.SpL (B.map vcP) r := fun r hr => by
  obtain ⟨v, hv, rfl⟩ := List.mem_map.1 hr
  obtain ⟨c, e⟩ := hB.span v (e2 v hv).1 (e2 v hv).2
  rw [e, vcP_smC]; exact Vc.cmb_sp c _
 have h1 : ¬ (Es.map vcP).length < (B.map vcP).length := fun h => hB.ind (Vc.dep_of_more _ _ s1 h)
 have h2 : ¬ (B.map vcP).length < (Es.map vcP).length := fun h => hind (Vc.dep_of_more _ _ s2 h)
 simp only [List.length_map] at h1 h2
 omega
theorem bss_sep {f : Po (El p m mod)} (hf : lead f = 1) (hs : Sf f) {B : List (Po (El p m mod))} (hB : Bss f B) {P Q : Po (El p m mod)} (hP : Ir P) (hQ : Ir Q) (hPf : P ∣ f) (hQf : Q ∣ f) (hne : ¬ Q ∣ P) : ∃ v ∈ B, ∀ c : El p m mod, ¬ (P ∣ v - C c ∧ Q ∣ v - C c) := by
 refine Classical.byContradiction fun hno => ?_
 have hall : ∀ v ∈ B, ∃ c : El p m mod, P ∣ v - C c ∧ Q ∣ v - C c := fun v hv => Classical.byContradiction fun h => hno ⟨v, hv, fun c hc => h ⟨c, hc⟩⟩
 obtain ⟨E, a1, a2, a3, a4⟩ := crt_one hf hs hP hPf
 obtain ⟨c, e⟩ := hB.span E a1 a2
 have key : ∀ (l : List (Po (El p m mod))) (c : Nat → El p m mod), (∀ v ∈ l, ∃ c : El p m mod, P ∣ v - C c ∧ Q ∣ v - C c) → ∃ d : El p m mod, P ∣ smC c l - C d ∧ Q ∣ smC c l - C d := fun l => by
  induction l with
  | nil => intro c _; exact ⟨0, by rw [smC, C_zero, Rg.sub_self]; exact ⟨dvd_zero P, dvd_zero Q⟩⟩
  | cons v l ih =>
   intro c h
   obtain ⟨d, ⟨a, ha⟩, ⟨b, hb⟩⟩ := ih (fun i => c (i + 1)) fun v hv => h v (List.mem_cons_of_mem _ hv)
   obtain ⟨d', ⟨a', ha'⟩, ⟨b', hb'⟩⟩ := h v (List.mem_cons_self ..)
   have hC : (C (c 0 * d' + d) : Po (El p m mod)) = C (c 0) * C d' + C d := by
    rw [C_mul]; exact (mn_add _ _ 0).symm
   refine ⟨c 0 * d' + d, ⟨C (c 0) * a' + a, ?_⟩, ⟨C (c 0) * b' + b, ?_⟩⟩
   ·rw [smC, hC]; grind
   ·rw [smC, hC]; grind
 obtain ⟨d, h1, h2⟩ := key B c hall
 rw [← e] at h1 h2
 have h3 := a4 Q hQ hQf hne
 have d1 : d = 1 := const_uniq hP h1 (by rw [C_one]; exact a3)
 have d0 : d = 0 := const_uniq hQ h2 (by rw [C_zero, Rg.sub_zero]; exact h3)
 exact Fd.one_ne (d1.symm.trans d0)
end
end Go.Proofs.Ytbhoeaijpnjgdaa

namespace Go.Proofs.Ytbhoeaijpnjgdaa
open Go.RowKit
section
open Vc
end
section
open Vc
end
end Go.Proofs.Ytbhoeaijpnjgdaa

set_option maxRecDepth 100000
namespace Go.Proofs.Ytbhoeaijpnjgdaa
open Go.RowKit
end Go.Proofs.Ytbhoeaijpnjgdaa

set_option maxRecDepth 100000
namespace Go.Proofs.Ytbhoeaijpnjgdaa
open Go.RowKit
end Go.Proofs.Ytbhoeaijpnjgdaa

namespace Go.Proofs.Ytbhoeaijpnjgdaa
open Go.RowKit
theorem ro_cut {A : Option Addr} {l : List Int} (i c : Nat) (hc : l.length ≤ c) (F : List Chunk) : CSub (ro A (ints l) :: F) (ro (cutA A i c) (ints (l.drop i)) :: ro A (ints l) :: F) := by
 by_cases h : i < c
 ·have := ro_partI (A := A) (l := l) i l.length c h F
  rwa [List.take_of_length_le (by simp)] at this
 ·have h0 : l.drop i = [] := List.drop_eq_nil_of_le (by omega)
  rw [h0]
  exact CSub.dup (c := ro A (ints l)) (d := ro (cutA A i c) (ints [])) ⟨fun w h j hj => by simp [ints] at hj, fun b hb => absurd rfl hb.1, fun h => h⟩ (fun h => h) F
end Go.Proofs.Ytbhoeaijpnjgdaa

set_option maxRecDepth 100000
namespace Go.Proofs.Ytbhoeaijpnjgdaa
open Go.RowKit
end Go.Proofs.Ytbhoeaijpnjgdaa

set_option maxRecDepth 100000
namespace Go.Proofs.Ytbhoeaijpnjgdaa
open Go.RowKit
end Go.Proofs.Ytbhoeaijpnjgdaa

namespace Go.Proofs.Ytbhoeaijpnjgdaa
open Go.RowKit
end Go.Proofs.Ytbhoeaijpnjgdaa

set_option maxRecDepth 100000
namespace Go.Proofs.Ytbhoeaijpnjgdaa
open Go.RowKit
section
end
section
end
end Go.Proofs.Ytbhoeaijpnjgdaa

namespace Go.Proofs.Ytbhoeaijpnjgdaa
open Go.RowKit
section
variable {P : Program} {N : NB} {M : Nat → Prop} {w0 : World} {L : Fr} {F : List Chunk} {o : Oper} {v : Value} {x y : Operand} {t t' : TypeId}
theorem rAddU {m n : Int} (ho : o.op = .binOp .add t x y t') (hx : ev L x = some (.int .u64 m)) (hy : ev L y = some (.int .u64 n)) (h1 : 0 ≤ m + n) (h2 : m + n ≤ 18446744073709551615) : Stl P N M w0 o L F (.int .u64 (m + n)) :=
 stl_pure fun a hl => by simp [execOp, ho, hl.eval hx, hl.eval hy, eqGuard, binOp, Op.intArith, IntWalk.u64_in _ ⟨h1, h2⟩]
theorem rSubU {m n : Int} (ho : o.op = .binOp .sub t x y t') (hx : ev L x = some (.int .u64 m)) (hy : ev L y = some (.int .u64 n)) (h1 : 0 ≤ m - n) (h2 : m - n ≤ 18446744073709551615) : Stl P N M w0 o L F (.int .u64 (m - n)) :=
 stl_pure fun a hl => by simp [execOp, ho, hl.eval hx, hl.eval hy, eqGuard, binOp, Op.intArith, IntWalk.u64_in _ ⟨h1, h2⟩]
theorem rMulU {m n : Int} (ho : o.op = .binOp .mul t x y t') (hx : ev L x = some (.int .u64 m)) (hy : ev L y = some (.int .u64 n)) (h1 : 0 ≤ m * n) (h2 : m * n ≤ 18446744073709551615) : Stl P N M w0 o L F (.int .u64 (m * n)) :=
 stl_pure fun a hl => by simp [execOp, ho, hl.eval hx, hl.eval hy, eqGuard, binOp, Op.intArith, IntWalk.u64_in _ ⟨h1, h2⟩]
theorem rQuoU {m n : Int} (ho : o.op = .binOp .quo t x y t') (hx : ev L x = some (.int .u64 m)) (hy : ev L y = some (.int .u64 n)) (h1 : 0 ≤ m ∧ m ≤ 18446744073709551615) (h2 : 1 ≤ n) : Stl P N M w0 o L F (.int .u64 (m / n)) :=
 stl_pure fun a hl => by
  have hn : n ≠ 0 := by omega
  simp [execOp, ho, hl.eval hx, hl.eval hy, eqGuard, binOp, Op.intDiv, hn, IntWalk.u64_quo m n ⟨h1.1, h1.2, h2⟩]
theorem rRemU {m n : Int} (ho : o.op = .binOp .rem t x y t') (hx : ev L x = some (.int .u64 m)) (hy : ev L y = some (.int .u64 n)) (h1 : 0 ≤ m) (h2 : 1 ≤ n) : Stl P N M w0 o L F (.int .u64 (m % n)) :=
 stl_pure fun a hl => by
  have hn : n ≠ 0 := by omega
  simp [execOp, ho, hl.eval hx, hl.eval hy, eqGuard, binOp, Op.intDiv, hn, IntWalk.rem_in m n h1]
end
end Go.Proofs.Ytbhoeaijpnjgdaa

set_option maxRecDepth 100000
namespace Go.Proofs.Ytbhoeaijpnjgdaa
open Go.RowKit
theorem undU64 : Try.prog.underlying 59 = some (.int .u64) := by kernel_rfl
end Go.Proofs.Ytbhoeaijpnjgdaa

namespace Go.Proofs.Ytbhoeaijpnjgdaa
open Go.RowKit
section
end
end Go.Proofs.Ytbhoeaijpnjgdaa

namespace Go.Proofs.Ytbhoeaijpnjgdaa
open Go.RowKit
def vN : List Int → Int
 | [] => 0
 | x :: l => x + 4294967296 * vN l
def Lm (l : List Int) : Prop := ∀ x ∈ l, 0 ≤ x ∧ x < 4294967296
theorem Lm.get {l : List Int} (h : Lm l) (j : Nat) : 0 ≤ l.getD j 0 ∧ l.getD j 0 < 4294967296 := by
 by_cases hj : j < l.length
 ·exact h _ (getD_mem hj 0)
 ·rw [getD_out (by omega)]; omega
theorem Lm.of {l : List Int} (h : ∀ j, j < l.length → 0 ≤ l.getD j 0 ∧ l.getD j 0 < 4294967296) : Lm l := fun x hx => by
 obtain ⟨j, hj, rfl⟩ := List.getElem_of_mem hx
 have := h j hj
 rwa [List.getD_eq_getElem?_getD, List.getElem?_eq_getElem hj] at this
theorem vN_nn : ∀ {l : List Int}, Lm l → 0 ≤ vN l
 | [], _ => Int.le_refl _
 | x :: l, h => by
  have h1 := h x (List.mem_cons_self ..)
  have h2 := vN_nn (l := l) fun y hy => h y (List.mem_cons_of_mem _ hy)
  rw [vN]; omega
theorem vN_lt : ∀ {l : List Int}, Lm l → vN l < 4294967296 ^ l.length
 | [], _ => by simp [vN]
 | x :: l, h => by
  have h1 := h x (List.mem_cons_self ..)
  have h2 := vN_lt (l := l) fun y hy => h y (List.mem_cons_of_mem _ hy)
  rw [vN, List.length_cons, Int.pow_succ]
  omega
theorem vN_app : ∀ a b : List Int, vN (a ++ b) = vN a + 4294967296 ^ a.length * vN b
 | [], b => by simp [vN]
 | x :: a, b => by
  rw [List.cons_append, vN, vN, vN_app a b, List.length_cons, Int.pow_succ, Int.mul_add, Int.add_assoc, ← Int.mul_assoc, Int.mul_comm 4294967296 (4294967296 ^ a.length)]
theorem vN_zeros : ∀ n : Nat, vN (List.replicate n 0) = 0
 | 0 => rfl
 | n + 1 => by rw [List.replicate_succ, vN, vN_zeros n]; rfl
theorem vN_take {l : List Int} {k : Nat} (hk : k < l.length) : vN (l.take (k + 1)) = vN (l.take k) + 4294967296 ^ k * l.getD k 0 := by
 have e : l.take (k + 1) = l.take k ++ [l.getD k 0] := by
  rw [List.take_add_one, List.getD_eq_getElem?_getD, List.getElem?_eq_getElem hk]; rfl
 rw [e, vN_app, List.length_take, Nat.min_eq_left (by omega)]
 simp [vN]
theorem vN_cut {l : List Int} : ∀ {k : Nat}, (∀ j, k ≤ j → l.getD j 0 = 0) → vN (l.take k) = vN l := fun {k} h => by
 have e : l.drop k = List.replicate (l.length - k) 0 := by
  refine List.ext_getElem (by simp) fun i h1 h2 => ?_
  rw [List.getElem_drop, List.getElem_replicate]
  have := h (k + i) (by omega)
  rw [List.getD_eq_getElem?_getD, List.getElem?_eq_getElem (by simp at h1; omega)] at this
  exact this
 have h2 := vN_app (l.take k) (l.drop k)
 rw [List.take_append_drop, e, vN_zeros, Int.mul_zero, Int.add_zero] at h2
 exact h2.symm
theorem vN_set : ∀ {l : List Int} {k : Nat} {x : Int}, k < l.length → vN (l.set k x) = vN l + 4294967296 ^ k * (x - l.getD k 0)
 | [], k, x, h => by simp at h
 | y :: l, 0, x, _ => by
  rw [List.set_cons_zero, vN, vN, List.getD_cons_zero, Int.pow_zero]; omega
 | y :: l, k + 1, x, h => by
  rw [List.set_cons_succ, vN, vN, List.getD_cons_succ, vN_set (l := l) (k := k) (x := x) (by simpa using h), Int.pow_succ, Int.mul_add, Int.add_assoc, Int.mul_comm (4294967296 ^ k) 4294967296, Int.mul_assoc]
end Go.Proofs.Ytbhoeaijpnjgdaa

namespace Go.Proofs.Ytbhoeaijpnjgdaa
open Go.RowKit
def lmb (n : Nat) : List Int := if h : n = 0 then [] else ((n % 4294967296 : Nat) : Int) :: lmb (n / 4294967296)
termination_by n
decreasing_by omega
theorem lmb_zero : lmb 0 = [] := by rw [lmb]; rfl
theorem lmb_pos {n : Nat} (h : n ≠ 0) : lmb n = ((n % 4294967296 : Nat) : Int) :: lmb (n / 4294967296) := by rw [lmb, dif_neg h]
theorem lmb_ind {p : Nat → Prop} (h0 : p 0) (h1 : ∀ n, n ≠ 0 → p (n / 4294967296) → p n) (n : Nat) : p n := by
 induction n using Nat.strongRecOn with
 | ind n ih =>
  by_cases h : n = 0
  ·rw [h]; exact h0
  ·exact h1 n h (ih _ (by omega))
theorem vN_lmb (n : Nat) : vN (lmb n) = n := by
 refine lmb_ind (p := fun n => vN (lmb n) = n) ?_ (fun n h ih => ?_) n
 ·rw [lmb_zero]; rfl
 ·rw [lmb_pos h, vN, ih]; omega
theorem lmb_lm (n : Nat) : Lm (lmb n) := by
 refine lmb_ind (p := fun n => Lm (lmb n)) ?_ (fun n h ih => ?_) n
 ·rw [lmb_zero]; intro x hx; simp at hx
 ·rw [lmb_pos h]
  intro x hx
  rcases List.mem_cons.1 hx with rfl | hx
  ·omega
  ·exact ih x hx
theorem lmb_len {n k : Nat} : n < 4294967296 ^ k → (lmb n).length ≤ k := by
 induction k generalizing n with
 | zero => intro h; rw [show n = 0 by simpa using h, lmb_zero]; simp
 | succ k ih =>
  intro h
  by_cases h0 : n = 0
  ·rw [h0, lmb_zero]; simp
  ·rw [lmb_pos h0, List.length_cons]
   have := ih (n := n / 4294967296) (by rw [Nat.pow_succ] at h; omega)
   omega
theorem lmb_nil {n : Nat} : (lmb n).length = 0 ↔ n = 0 := by
 constructor
 ·intro h
  by_cases h0 : n = 0
  ·exact h0
  ·rw [lmb_pos h0] at h; simp at h
 ·rintro rfl; rw [lmb_zero]; rfl
theorem lmb_of : ∀ {l : List Int}, Lm l → (l = [] ∨ l.getD (l.length - 1) 0 ≠ 0) → l = lmb (vN l).toNat
 | [], _, _ => by rw [show (vN []).toNat = 0 from rfl, lmb_zero]
 | x :: l, h, h1 => by
  have hx := h x (List.mem_cons_self ..)
  have hl : Lm l := fun y hy => h y (List.mem_cons_of_mem _ hy)
  have hn := vN_nn hl
  have h2 : l = [] ∨ l.getD (l.length - 1) 0 ≠ 0 := by
   cases l with
   | nil => exact .inl rfl
   | cons y l =>
    right
    have := h1.resolve_left (by simp)
    simpa using this
  have ih := lmb_of hl h2
  have hv : vN (x :: l) = x + 4294967296 * vN l := rfl
  have hp : (vN (x :: l)).toNat ≠ 0 := by
   intro h0
   have hz : x + 4294967296 * vN l = 0 := by omega
   have hl0 : vN l = 0 := by omega
   rw [hl0] at ih
   rw [show ((0 : Int).toNat) = 0 from rfl, lmb_zero] at ih
   rw [ih] at h1
   have := h1.resolve_left (by simp)
   simp at this
   omega
  rw [lmb_pos hp, show (vN (x :: l)).toNat / 4294967296 = (vN l).toNat by omega, ← ih]
  congr 1
  omega
theorem lmb_cut {l : List Int} (h : Lm l) {k : Nat} (hk : k ≤ l.length) (h0 : ∀ j, k ≤ j → l.getD j 0 = 0) (h1 : k = 0 ∨ l.getD (k - 1) 0 ≠ 0) : l.take k = lmb (vN l).toNat := by
 have h2 := lmb_of (l := l.take k) (fun x hx => h x (List.mem_of_mem_take hx)) (by
  rcases Nat.eq_zero_or_pos k with h3 | h3
  ·left; rw [h3]; rfl
  ·right
   have h4 := h1.resolve_left (by omega)
   rw [List.length_take, Nat.min_eq_left hk, List.getD_eq_getElem?_getD, List.getElem?_take_of_lt (by omega), ← List.getD_eq_getElem?_getD]
   exact h4)
 rwa [vN_cut h0] at h2
theorem lmb_ge {n k : Nat} (h : (lmb n).length ≤ k) : n < 4294967296 ^ k := by
 have h1 := vN_lt (lmb_lm n)
 rw [vN_lmb] at h1
 have h2 : (4294967296 : Int) ^ (lmb n).length = ((4294967296 ^ (lmb n).length : Nat) : Int) := by rw [Int.natCast_pow]; rfl
 have h3 : 4294967296 ^ (lmb n).length ≤ 4294967296 ^ k := Nat.pow_le_pow_right (by omega) h
 omega
theorem lmb_short {l : List Int} (h : Lm l) : (lmb (vN l).toNat).length ≤ l.length := lmb_len (by
 have h1 := vN_lt h
 have h2 := vN_nn h
 have e : (4294967296 : Int) ^ l.length = ((4294967296 ^ l.length : Nat) : Int) := by rw [Int.natCast_pow]; rfl
 omega)
theorem vN_ext {a b : List Int} (h : ∀ j, a.getD j 0 = b.getD j 0) : vN a = vN b := by
 have h1 := vN_cut (l := a) (k := b.length) fun j hj => by rw [h, getD_out hj]
 have h2 : a.take b.length ++ List.replicate (b.length - a.length) 0 = b := ext_getD (by simp; omega) fun j => by
  rw [← h]
  rw [List.getD_eq_getElem?_getD, List.getD_eq_getElem?_getD, List.getElem?_append]
  split
  ·rename_i h3; rw [List.getElem?_take]; split
   ·rfl
   ·rename_i h4; simp at h3; omega
  ·rename_i h3
   simp at h3
   by_cases h4 : b.length ≤ j
   ·have h5 : a.getD j 0 = 0 := by rw [h, getD_out h4]
    rw [List.getD_eq_getElem?_getD] at h5; rw [h5]
    rw [List.getElem?_replicate]; split <;> rfl
   ·have h5 : a.getD j 0 = 0 := getD_out (by omega)
    rw [List.getD_eq_getElem?_getD] at h5; rw [h5]
    rw [List.getElem?_replicate]; split <;> rfl
 have h3 := congrArg vN h2
 rw [vN_app, vN_zeros, Int.mul_zero, Int.add_zero] at h3
 rw [← h1, h3]
theorem lm_app {a b : List Int} (ha : Lm a) (hb : Lm b) : Lm (a ++ b) := fun x hx => by
 rcases List.mem_append.1 hx with h | h
 ·exact ha x h
 ·exact hb x h
theorem lm_one {x : Int} (h0 : 0 ≤ x) (h1 : x < 4294967296) : Lm [x] := fun y hy => by
 rw [List.mem_singleton.1 hy]; exact ⟨h0, h1⟩
theorem lm_set {a : List Int} (ha : Lm a) {k : Nat} {x : Int} (h0 : 0 ≤ x) (h1 : x < 4294967296) : Lm (a.set k x) := fun y hy => by
 rcases List.mem_or_eq_of_mem_set hy with h | rfl
 ·exact ha y h
 ·exact ⟨h0, h1⟩
theorem lm_rep (n : Nat) : Lm (List.replicate n 0) := fun y hy => by
 rw [(List.mem_replicate.1 hy).2]; omega
theorem lm_nil : Lm [] := fun y hy => by simp at hy
def cmpZ (a b : Int) : Int := if a < b then -1 else if a > b then 1 else 0
def hN (l : List Int) (k : Nat) : Int := vN (l.drop k)
theorem hN_step (l : List Int) (k : Nat) : hN l k = l.getD k 0 + 4294967296 * hN l (k + 1) := by
 unfold hN
 by_cases hk : k < l.length
 ·have e : l.drop k = l.getD k 0 :: l.drop (k + 1) := by
   rw [List.drop_eq_getElem_cons hk, List.getD_eq_getElem?_getD, List.getElem?_eq_getElem hk]; rfl
  rw [e, vN]
 ·rw [List.drop_eq_nil_of_le (by omega), List.drop_eq_nil_of_le (by omega), getD_out (by omega)]; rfl
theorem hN_zero (l : List Int) : hN l 0 = vN l := rfl
theorem hN_out {l : List Int} {k : Nat} (h : l.length ≤ k) : hN l k = 0 := by unfold hN; rw [List.drop_eq_nil_of_le h]; rfl
theorem hN_nn {l : List Int} (h : Lm l) (k : Nat) : 0 ≤ hN l k := vN_nn fun x hx => h x (List.mem_of_mem_drop hx)
theorem vN_tk (l : List Int) (k : Nat) : vN (l.take (k + 1)) = vN (l.take k) + 4294967296 ^ k * l.getD k 0 := by
 by_cases hk : k < l.length
 ·exact vN_take hk
 ·rw [List.take_of_length_le (by omega), List.take_of_length_le (by omega), getD_out (by omega)]; simp
theorem vN_all {l : List Int} {k : Nat} (h : l.length ≤ k) : vN (l.take k) = vN l := by rw [List.take_of_length_le h]
theorem vN_split (l : List Int) (k : Nat) : vN l = vN (l.take k) + 4294967296 ^ k * hN l k := by
 by_cases hk : k ≤ l.length
 ·have h1 := vN_app (l.take k) (l.drop k)
  rw [List.take_append_drop, List.length_take, Nat.min_eq_left hk] at h1
  exact h1
 ·rw [vN_all (by omega), hN_out (by omega)]; simp
theorem vN_tk_lt {l : List Int} (h : Lm l) (k : Nat) : vN (l.take k) < 4294967296 ^ k := by
 have h1 := vN_lt (l := l.take k) fun x hx => h x (List.mem_of_mem_take hx)
 have h2 : (l.take k).length ≤ k := by rw [List.length_take]; omega
 have h3 : (4294967296 : Int) ^ (l.take k).length ≤ 4294967296 ^ k := by
  have := Nat.pow_le_pow_right (show 0 < 4294967296 by omega) h2
  have e1 : (4294967296 : Int) ^ (l.take k).length = ((4294967296 ^ (l.take k).length : Nat) : Int) := by rw [Int.natCast_pow]; rfl
  have e2 : (4294967296 : Int) ^ k = ((4294967296 ^ k : Nat) : Int) := by rw [Int.natCast_pow]; rfl
  omega
 omega
theorem hN_ext {a b : List Int} (k : Nat) (h : ∀ j : Nat, k ≤ j → a.getD j 0 = b.getD j 0) : hN a k = hN b k := vN_ext fun j => by
 have h1 := h (k + j) (by omega)
 rw [List.getD_eq_getElem?_getD, List.getD_eq_getElem?_getD] at h1 ⊢
 rw [List.getElem?_drop, List.getElem?_drop]; exact h1
theorem vN_lt2 {a b : List Int} (ha : Lm a) (hb : Lm b) (k : Nat) (h : ∀ j : Nat, k < j → a.getD j 0 = b.getD j 0) (hlt : a.getD k 0 < b.getD k 0) : vN a < vN b := by
 have h1 := hN_ext (a := a) (b := b) (k + 1) fun j hj => h j (by omega)
 have h2 := hN_step a k
 have h3 := hN_step b k
 have h4 := vN_split a k
 have h5 := vN_split b k
 have h6 := vN_tk_lt ha k
 have h7 : 0 ≤ vN (b.take k) := vN_nn fun x hx => hb x (List.mem_of_mem_take hx)
 have hp : (0 : Int) < 4294967296 ^ k := Int.pow_pos (by omega)
 have h8 : (4294967296 : Int) ^ k * (hN a k + 1) ≤ 4294967296 ^ k * hN b k := Int.mul_le_mul_of_nonneg_left (by omega) (by omega)
 rw [Int.mul_add, Int.mul_one] at h8
 omega
theorem add_alg {O a b x y c P : Int} (h : O + P * c = a + b) {k : Nat} (hP : (4294967296 : Int) ^ k = P := by rfl) : (O + P * vN [(x + y + c) % 4294967296]) + 4294967296 ^ (k + 1) * ((x + y + c) / 4294967296) = (a + P * x) + (b + P * y) := by
 have h1 := Int.emod_add_mul_ediv (x + y + c) 4294967296
 generalize (x + y + c) % 4294967296 = r at *
 generalize (x + y + c) / 4294967296 = q at *
 rw [Int.pow_succ, hP]
 simp only [vN]
 have : c = r + 4294967296 * q - x - y := by omega
 subst this
 grind
theorem mul_alg {O W x y z c K : Int} {i j : Nat} (h : O + 4294967296 ^ (i + j) * c = W + 4294967296 ^ i * x * K) : O + 4294967296 ^ (i + j) * ((x * y + z + c) % 4294967296 - z) + 4294967296 ^ (i + j + 1) * ((x * y + z + c) / 4294967296) = W + 4294967296 ^ i * x * (K + 4294967296 ^ j * y) := by
 have h1 := Int.emod_add_mul_ediv (x * y + z + c) 4294967296
 generalize (x * y + z + c) % 4294967296 = r at *
 generalize (x * y + z + c) / 4294967296 = q at *
 have e : (4294967296 : Int) ^ (i + j) = 4294967296 ^ i * 4294967296 ^ j := Int.pow_add ..
 rw [Int.pow_succ, e]
 rw [e] at h
 clear e
 generalize (4294967296 : Int) ^ i = P at *
 generalize (4294967296 : Int) ^ j = Q at *
 have : c = r + 4294967296 * q - x * y - z := by omega
 subst this
 grind
def bitl (n : Nat) : Nat := if h : n = 0 then 0 else bitl (n / 2) + 1
termination_by n
decreasing_by omega
theorem bitl_zero : bitl 0 = 0 := by rw [bitl]; rfl
theorem bitl_pos {n : Nat} (h : n ≠ 0) : bitl n = bitl (n / 2) + 1 := by rw [bitl, dif_neg h]
theorem bitl_lt {n k : Nat} : n < 2 ^ k → bitl n ≤ k := by
 induction k generalizing n with
 | zero => intro h; rw [show n = 0 by simpa using h, bitl_zero]; simp
 | succ k ih =>
  intro h
  by_cases h0 : n = 0
  ·rw [h0, bitl_zero]; simp
  ·rw [bitl_pos h0]
   have := ih (n := n / 2) (by rw [Nat.pow_succ] at h; omega)
   omega
theorem bitl_ge {n k : Nat} : 2 ^ k ≤ n → k < bitl n := by
 induction k generalizing n with
 | zero => intro h; rw [bitl_pos (by simp at h; omega)]; omega
 | succ k ih =>
  intro h
  have h1 : 0 < 2 ^ k := Nat.two_pow_pos k
  rw [Nat.pow_succ] at h
  rw [bitl_pos (by omega)]
  have := ih (n := n / 2) (by omega)
  omega
theorem bitl_le {n : Nat} : n < 2 ^ bitl n := by
 rcases Nat.lt_or_ge n (2 ^ bitl n) with h | h
 ·exact h
 ·have := bitl_ge h; omega
theorem bitl_one {n : Nat} : bitl n ≤ 1 ↔ n ≤ 1 := by
 constructor
 ·intro h
  rcases Nat.lt_or_ge n 2 with h1 | h1
  ·omega
  ·have := bitl_ge (k := 1) (n := n) (by omega); omega
 ·intro h; exact bitl_lt (by omega)
theorem bitl_div {n : Nat} (k : Nat) (h : 2 ^ k ≤ n) : bitl n = bitl (n / 2 ^ k) + k := by
 induction k generalizing n with
 | zero => simp
 | succ k ih =>
  have h1 : 0 < 2 ^ k := Nat.two_pow_pos k
  rw [Nat.pow_succ] at h
  rw [bitl_pos (by omega), ih (n := n / 2) (by omega), Nat.div_div_eq_div_mul, Nat.pow_succ, Nat.mul_comm 2]; omega
theorem bitl_lmb {n : Nat} (h : n ≠ 0) : (bitl n : Int) = bitl ((lmb n).getD ((lmb n).length - 1) 0).toNat + 32 * (((lmb n).length : Int) - 1) := by
 revert h
 refine lmb_ind (p := fun n => n ≠ 0 → (bitl n : Int) = bitl ((lmb n).getD ((lmb n).length - 1) 0).toNat + 32 * (((lmb n).length : Int) - 1)) (fun h => absurd rfl h) (fun n h ih _ => ?_) n
 rw [lmb_pos h]
 by_cases h1 : n / 4294967296 = 0
 ·rw [h1, lmb_zero, Nat.mod_eq_of_lt (by omega)]; simp
 ·have h2 := ih h1
  have h3 : (lmb (n / 4294967296)).length ≠ 0 := fun h => h1 (lmb_nil.1 h)
  rw [List.length_cons, show (lmb (n / 4294967296)).length + 1 - 1 = ((lmb (n / 4294967296)).length - 1) + 1 by omega, List.getD_cons_succ]
  have h4 := bitl_div (n := n) 32 (by omega)
  rw [show (2 : Nat) ^ 32 = 4294967296 from rfl] at h4
  omega
theorem lmb_mul (x y : Nat) : (vN (lmb x) * vN (lmb y)).toNat = x * y := by rw [vN_lmb, vN_lmb, ← Int.natCast_mul]; rfl
theorem lmb_add (x y : Nat) : (vN (lmb x) + vN (lmb y)).toNat = x + y := by rw [vN_lmb, vN_lmb, ← Int.natCast_add]; rfl
def hlf : Nat → Int
 | 0 => 0
 | f + 1 => ((2 ^ f : Nat) : Int)
theorem hlf_pos (f : Nat) : 1 ≤ hlf (f + 1) := by
 have := Nat.two_pow_pos f
 rw [hlf]; omega
theorem hlf_nn : ∀ e, 0 ≤ hlf e
 | 0 => Int.le_refl _
 | f + 1 => by have := hlf_pos f; omega
theorem hlf_le {e : Nat} (h : e ≤ 19) : hlf e ≤ 262144 := by
 cases e with
 | zero => decide
 | succ f =>
  have : 2 ^ f ≤ 2 ^ 18 := Nat.pow_le_pow_right (by omega) (by omega)
  rw [hlf]; omega
theorem hlf_half : ∀ f, hlf (f + 1) / 2 = hlf f
 | 0 => by decide
 | f + 1 => by rw [hlf, hlf, Nat.pow_succ]; omega
theorem pow_bit (n f : Nat) : 2 * (n / 2 ^ (f + 1)) + (n / 2 ^ f) % 2 = n / 2 ^ f := by
 rw [Nat.pow_succ, ← Nat.div_div_eq_div_mul]; omega
theorem hlf_bit (n f : Nat) : ((n : Int) / hlf (f + 1) % 2 = 1) ↔ (n / 2 ^ f) % 2 = 1 := by
 rw [hlf, ← Int.natCast_ediv]; omega
theorem pow_sq (a n f : Nat) : (n / 2 ^ f) % 2 ≠ 1 → a ^ (n / 2 ^ (f + 1)) * a ^ (n / 2 ^ (f + 1)) = a ^ (n / 2 ^ f) := fun h => by
 rw [← Nat.pow_add]; congr 1
 have := pow_bit n f; omega
theorem pow_sq1 (a n f : Nat) : (n / 2 ^ f) % 2 = 1 → a ^ (n / 2 ^ (f + 1)) * a ^ (n / 2 ^ (f + 1)) * a = a ^ (n / 2 ^ f) := fun h => by
 rw [← Nat.pow_add, ← Nat.pow_succ]; congr 1
 have := pow_bit n f; omega
theorem pow_len {a e : Nat} (ha : a ≤ 256) (he : e ≤ 256) : (lmb (a ^ e)).length ≤ 65 := lmb_len (by
 have h1 := Nat.pow_le_pow_left ha e
 have h2 := Nat.pow_le_pow_right (show 0 < 256 by omega) he
 have h3 : 256 ^ 256 < 4294967296 ^ 65 := by decide
 exact Nat.lt_of_le_of_lt h1 (Nat.lt_of_le_of_lt h2 h3))
theorem pow_len2 {a e : Nat} (ha : a ≤ 256) (he : e ≤ 256) : (lmb (a ^ e * a ^ e)).length ≤ 130 := lmb_len (by
 have h1 := Nat.pow_le_pow_left ha e
 have h2 := Nat.pow_le_pow_right (show 0 < 256 by omega) he
 have h3 : a ^ e ≤ 256 ^ 256 := Nat.le_trans h1 h2
 have h4 := Nat.mul_le_mul h3 h3
 have h5 : 256 ^ 256 * 256 ^ 256 < 4294967296 ^ 130 := by decide
 exact Nat.lt_of_le_of_lt h4 h5)
theorem lmb_one : lmb 1 = [1] := by rw [lmb_pos (by omega)]; simp [lmb_zero]
end Go.Proofs.Ytbhoeaijpnjgdaa

namespace Go.Proofs.Ytbhoeaijpnjgdaa
open Go.RowKit
def w32 (xs : List Int) : List Value := xs.map (Value.int .u32)
@[simp] theorem w32_length (xs : List Int) : (w32 xs).length = xs.length := by simp [w32]
theorem w32_set (xs : List Int) (j : Nat) (x : Int) : w32 (xs.set j x) = (w32 xs).set j (.int .u32 x) := by unfold w32; rw [List.map_set]
theorem w32_app (xs ys : List Int) : w32 (xs ++ ys) = w32 xs ++ w32 ys := by unfold w32; rw [List.map_append]
theorem w32_one (xs : List Int) : ∀ u ∈ w32 xs, u.oneCell' = true := fun u hu => by
 obtain ⟨x, _, rfl⟩ := List.mem_map.1 hu
 rfl
section
variable {P : Program} {N : NB} {M : Nat → Prop} {w0 : World} {L : Fr} {F F' : List Chunk} {K : Fr → List Chunk → Prop} {b : Bool} {o : Oper} {v z : Value} {x y : Operand} {t t' e : TypeId} {bytes : Nat}
theorem rIdxW {by_ : Nat} {A : Option Addr} {n c : Nat} {i : Int} {xs : List Int} (ho : o.op = .indexAddr t x y) [h : SlTy P t e z by_] (hx : ev L x = some (.slice A n c)) (hy : ev L y = some (.int .i64 i)) [hr : Rd F A (w32 xs)] (h0 : 0 ≤ i) (h1 : i < n) (h2 : i < xs.length) :
  Stl P N M w0 o L F (.pointer (some ((A.getD a0).add i.toNat))) := rIdx ho (h := h) hx hy (hr := hr) h0 h1 (by simpa using h2)
theorem rLdW {A : Option Addr} {j : Nat} {xs : List Int} (ho : o.op = .load t x) [h : ScTy P t] (hx : ev L x = some (.pointer (some ((A.getD a0).add j)))) [hr : Rd F A (w32 xs)] (hj : j < xs.length) : Stl P N M w0 o L F (.int .u32 (xs.getD j 0)) :=
 rLdV ho (h := h) hx (hr := hr) (by rw [w32, List.getElem?_map, List.getElem?_eq_getElem hj, List.getD_eq_getElem?_getD, List.getElem?_eq_getElem hj]; rfl)
theorem eStW {A : Option Addr} {j cap : Nat} {xs : List Int} {n : Int} (ho : o.op = .store t x y) (hd : o.dst = none) [h : ScTy P t] (hx : ev L x = some (.pointer (some ((A.getD a0).add j)))) (hy : ev L y = some (.int .u32 n)) [hp : PkOw F A e cap (w32 xs) F'] (hj : j < xs.length)
  (hK : K L (ow A e cap (w32 (xs.set j n)) :: F')) : Eff P N M w0 false o L F K := eSt ho hd (h := h) hx hy (hp := hp) (by simpa using hj) rfl rfl (by rw [← w32_set]; exact hK)
theorem eMakeW {n : Int} (ho : o.op = .makeSlice t x y) {d : Nat} (hdd : o.dst = some d) (hd : Nat.ble (d + 1) N.n = true) [h : SlTy P t e (.int .u32 0) bytes] (hx : ev L x = some (.int .i64 n)) (hy : ev L y = some (.int .i64 n)) (h0 : 0 ≤ n) (hb : bytes * n.toNat ≤ 281474976710656) (h63 : n ≤ 9223372036854775807)
  (hK : ∀ A : Option Addr, K (addL d (.slice A n.toNat n.toNat) L) (ow A e n.toNat (w32 (List.replicate n.toNat 0)) :: F)) : Eff P N M w0 b o L F K := eMake ho hdd hd (h := h) hx hy h0 hb h63 (fun A => by
 have e1 : List.replicate n.toNat (Value.int .u32 0) = w32 (List.replicate n.toNat 0) := by simp [w32]
 rw [e1]; exact hK A)
theorem eAppW {A B : Option Addr} {n m c cap : Nat} {xs ys : List Int} (ho : o.op = .call { callee := .builtin .append, args := #[x, y], argTypes := #[t, t] }) {d : Nat} (hdd : o.dst = some d) (hd : Nat.ble (d + 1) N.n = true) [h : SlTy P t e z 4]
  (hx : ev L x = some (.slice A n cap)) (hy : ev L y = some (.slice B m c)) [hp : PkOw F A e cap (w32 xs) F'] [hr : Rd F B (w32 ys)] (hn : n = xs.length) (hm' : m = ys.length) (hb : xs.length + ys.length ≤ 17592186044416)
  (hK : ∀ (A' : Option Addr) (cap' : Nat), K (addL d (.slice A' (xs ++ ys).length cap') L) (ow A' e cap' (w32 (xs ++ ys)) :: F')) : Eff P N M w0 false o L F K :=
 eApp ho hdd hd (h := h) hx hy (hp := hp) (hr := hr) (by simpa using hn) (by simpa using hm') (w32_one ys) (by simp only [w32_length]; omega) (by simp only [w32_length]; omega) (fun A' cap' => by
  have h1 := hK A' cap'
  rw [w32_app, List.length_append] at h1
  rw [w32_length, w32_length]; exact h1)
theorem eLit0W (ho : o.op = .buildSlice t 0 #[]) {d : Nat} (hdd : o.dst = some d) (hd : Nat.ble (d + 1) N.n = true) [h : SlTy P t e z bytes] (hK : ∀ A : Option Addr, K (addL d (.slice A 0 0) L) (ow A e 0 (w32 []) :: F)) : Eff P N M w0 b o L F K := eLit0 ho hdd hd (h := h) hK
theorem eLit1W {n0 : Int} (ho : o.op = .buildSlice t 1 #[(0, x)]) {d : Nat} (hdd : o.dst = some d) (hd : Nat.ble (d + 1) N.n = true) [h : SlTy P t e z bytes] (hx : ev L x = some (.int .u32 n0)) (hK : ∀ A : Option Addr, K (addL d (.slice A 1 1) L) (ow A e 1 (w32 [n0]) :: F)) : Eff P N M w0 b o L F K := eLit1 ho hdd hd (h := h) hx rfl hK
theorem eLit2W {n0 n1 : Int} (ho : o.op = .buildSlice t 2 #[(0, x), (1, y)]) {d : Nat} (hdd : o.dst = some d) (hd : Nat.ble (d + 1) N.n = true) [h : SlTy P t e z bytes] (hx : ev L x = some (.int .u32 n0)) (hy : ev L y = some (.int .u32 n1)) (hK : ∀ A : Option Addr, K (addL d (.slice A 2 2) L) (ow A e 2 (w32 [n0, n1]) :: F)) : Eff P N M w0 b o L F K := eLit2 ho hdd hd (h := h) hx rfl hy rfl hK
theorem rQuo32 {m n : Int} (ho : o.op = .binOp .quo t x y t') (hx : ev L x = some (.int .u32 m)) (hy : ev L y = some (.int .u32 n)) (h1 : 0 ≤ m ∧ m ≤ 4294967295) (h2 : 1 ≤ n) : Stl P N M w0 o L F (.int .u32 (m / n)) :=
 stl_pure fun a hl => by
  have hn : n ≠ 0 := by omega
  simp [execOp, ho, hl.eval hx, hl.eval hy, eqGuard, binOp, Op.intDiv, hn, IntWalk.u32_quo m n ⟨h1.1, h1.2, h2⟩]
theorem tr_nilW {N : NR} (e : TypeId) {c : Code} {Q : Exit → Fr → List Chunk → Prop} (h : Tr P N M w0 c L (ow none e 0 (w32 []) :: F) Q) : Tr P N M w0 c L F Q := tr_nil e h
theorem ro_take {A : Option Addr} {vs : List Value} (k : Nat) (F : List Chunk) : CSub (ro A vs :: F) (ro A (vs.take k) :: F) :=
 CSub.weak (c := ro A vs) (d := ro A (vs.take k)) ⟨fun w hs j hj => by
  obtain ⟨ad, h1, h2⟩ := hs j (by rw [List.length_take] at hj; omega)
  exact ⟨ad, h1, by rw [h2, List.getElem_take]⟩, fun b hb => by
  obtain ⟨hne, h⟩ := hb
  exact ⟨fun h0 => hne (by rw [h0]; simp), h⟩, fun h => h⟩ F
theorem w32_take (l : List Int) (k : Nat) : (w32 l).take k = w32 (l.take k) := by unfold w32; rw [List.map_take]
end
end Go.Proofs.Ytbhoeaijpnjgdaa

set_option maxRecDepth 100000
namespace Go.Proofs.Ytbhoeaijpnjgdaa
open Go.RowKit
instance tyW : ScTy Try.prog 105 := scTy_of (by kernel_rfl)
instance tyN : ScTy Try.prog 52 := scTy_of (by kernel_rfl)
instance tySlN : SlTy Try.prog 52 105 (.int .u32 0) 4 := ⟨by kernel_rfl, by kernel_rfl, rfl⟩
theorem undU32 : Try.prog.underlying 105 = some (.int .u32) := by kernel_rfl
theorem ref_limb_ent : Enters Try.prog 86 := enters_of Try.func86 (by kernel_rfl) (by kernel_rfl)
theorem ref_limb (X : Option Addr) (nx cx : Nat) (l : List Int) (hnx : nx = l.length) (hlm : Lm l) (i : Int) (hi : 0 ≤ i) :
  Pure Try.prog 86 #[.slice X nx cx, .int .i64 i] [ro X (w32 l)] (isV (.int .u64 (l.getD i.toNat 0))) := by
 refine pure_of (args := [.slice X nx cx, .int .i64 i]) 14 Try.func86 rfl rfl rfl ref_limb_ent ⟨id, trivial⟩ (fun w0 => ?_)
 refine tS ?_
 refine tR fun _ _ _ => ?_
 refine pV ?_
 refine tS ?_
 refine tS ?_
 refine tR fun _ _ _ => ?_
 iterate 2 refine pV ?_
 refine sV (rLen rfl rfl) ?_
 refine pV ?_
 refine tC rfl (fun h1 => ?_) (fun h1 => ?_)
 ·try simp only [zbA] at h1
  refine tS ?_
  have hli := hlm.get i.toNat
  refine tR fun _ _ _ => ?_
  iterate 2 refine pV ?_
  refine sV (rIdxW rfl rfl rfl (by omega) (by omega) (by omega)) ?_
  refine sV (rLdW rfl rfl (by omega)) ?_
  refine sV (rConv rfl undU32 undU64 rfl (IntWalk.u64_in _ ⟨by omega, by omega⟩)) ?_
  refine pV ?_
  exact tr_ret ⟨trivial, _, _, rfl, ⟨rfl, rfl⟩, CSub.nil _, trivial⟩
 ·try simp only [zbA] at h1
  refine tK ?_
  refine tS ?_
  refine tR fun _ _ _ => ?_
  refine pV ?_
  exact tr_ret ⟨trivial, _, _, rfl, ⟨by rw [getD_out (by omega)], rfl⟩, CSub.nil _, trivial⟩
theorem ref_Trim_ent : Enters Try.prog 87 := enters_of Try.func87 (by kernel_rfl) (by kernel_rfl)
theorem ref_Trim (X : Option Addr) (nx cx : Nat) (l : List Int) (hnx : nx = l.length) (hlnx : Lm l) (h9nx : nx ≤ 4000000) (hcx : nx ≤ cx) :
  Pure Try.prog 87 #[.slice X nx cx] [ro X (w32 l)] (one (fun v ch => ∃ B c, v = .slice B (lmb ((vN l).toNat)).length c ∧ ch = ow B 105 c (w32 (lmb ((vN l).toNat))) ∧ (lmb ((vN l).toNat)).length ≤ c)) := by
 refine pure_of (args := [.slice X nx cx]) 23 Try.func87 rfl rfl rfl ref_Trim_ent ⟨id, trivial⟩ (fun w0 => ?_)
 refine tS ?_
 refine tR fun _ _ _ => ?_
 refine pV ?_
 refine tS ?_
 refine tR fun _ _ _ => ?_
 refine pV ?_
 refine sV (rLen rfl rfl) ?_
 refine pV ?_
 refine tS ?_
 refine tB ?_
 refine tr_loop1 (fun (k : Int) => [(3, .int .i64 k), (0, .slice X nx cx), (2, .slice none 0 0)]) (fun (k : Int) => [ro X (w32 l)]) (fun (k : Int) => (0 ≤ k ∧ k ≤ nx) ∧ ∀ j, k.toNat ≤ j → l.getD j 0 = 0) (fun (k : Int) => k.toNat) (nx) ⟨rfl, rfl, rfl, trivial⟩ (by first | exact cs _ _ | exact CSub.refl _) (⟨⟨by omega, by omega⟩, fun j hj => getD_out (by omega)⟩) (fun k hI => ?_)
 obtain ⟨⟨hk0, hk1⟩, hz⟩ := hI
 refine tS ?_
 refine tS ?_
 refine tR fun _ _ _ => ?_
 iterate 3 refine pV ?_
 refine stg rfl rfl rfl rfl rfl (fun hb => by (have hq := hb; try simp only [zbA] at hq); exact rMove rfl rfl) ?_
 refine stg rfl rfl rfl rfl rfl (fun hb => by (have hq := hb; try simp only [zbA] at hq); exact rMove rfl rfl) ?_
 refine stg rfl rfl rfl rfl rfl (fun hb => by (have hq := hb; try simp only [zbA] at hq); exact rSub rfl (evg rfl hb) rfl (by omega) (by omega)) ?_
 refine stg rfl rfl rfl rfl rfl (fun hb => by (have hq := hb; try simp only [zbA] at hq); exact rIdxW rfl (evg rfl hb) (evg rfl hb) (by omega) (by omega) (by omega)) ?_
 refine stg rfl rfl rfl rfl rfl (fun hb => by (have hq := hb; try simp only [zbA] at hq); exact rLdW rfl (evg rfl hb) (by omega)) ?_
 refine stg rfl rfl rfl rfl rfl (fun hb => by (have hq := hb; try simp only [zbA] at hq); exact rEqlK rfl (evg rfl hb) rfl) ?_
 refine sV (rAndB rfl rfl rfl rfl) ?_
 refine tC rfl (fun h2 => ?_) (fun h2 => ?_)
 ·try simp only [zbA] at h2
  refine tK ?_
  refine tB ?_
  refine tR fun _ _ _ => ?_
  refine pV ?_
  refine sV (rSub rfl rfl rfl (by omega) (by omega)) ?_
  refine pV ?_
  refine ⟨k - 1, ⟨rfl, rfl, rfl, trivial⟩, by first | exact cs _ _ | exact CSub.refl _, ?_⟩
  refine ⟨⟨⟨by omega, by omega⟩, fun j hj => ?_⟩, by omega⟩
  rcases Nat.lt_or_ge j k.toNat with h | h
  ·rw [show j = (k - 1).toNat by omega]; exact h2.2
  ·exact hz j h
 ·try simp only [zbA] at h2
  refine tE ?_
  refine tS ?_
  refine tr_chunks _ (ro_take k.toNat []) ?_
  rw [w32_take]
  refine tR fun _ _ _ => ?_
  refine eV (eLit0W rfl rfl rfl  (fun A4 => ?_))
  iterate 2 refine pV ?_
  refine sV (rCutHi rfl rfl rfl (by omega) (by omega)) ?_
  refine eV (eAppW rfl rfl rfl rfl rfl (by rfl) (by rw [List.length_take]; omega) (by rw [List.length_take]; simp; omega) (fun A4a c4a => ?_))
  refine pV ?_
  rw [List.nil_append, lmb_cut hlnx (k := k.toNat) (by omega) hz (h2.elim (fun h => .inl (by omega)) (fun h => .inr (by rw [show k.toNat - 1 = (k - 1).toNat by omega]; exact h)))]
  refine tr_cap A4a 105 c4a (w32 (lmb (vN l).toNat)) fun hcap => ?_
  rw [w32_length] at hcap
  exact tr_ret ⟨trivial, _, _, rfl, ⟨_, rfl, A4a, c4a, rfl, rfl, hcap⟩, cs _ _, trivial, trivial⟩
theorem ref_NOf_ent : Enters Try.prog 33 := enters_of Try.func33 (by kernel_rfl) (by kernel_rfl)
theorem ref_NOf (n : Int) (hn0 : 0 ≤ n) (hn9 : n ≤ 18446744073709551615) :
  Pure Try.prog 33 #[.int .u64 n] [] (one (fun v ch => ∃ B c, v = .slice B (lmb (n.toNat)).length c ∧ ch = ow B 105 c (w32 (lmb (n.toNat))) ∧ (lmb (n.toNat)).length ≤ c)) := by
 refine pure_of (args := [.int .u64 n]) 11 Try.func33 rfl rfl rfl ref_NOf_ent trivial (fun w0 => ?_)
 refine tS ?_
 refine tR fun _ _ _ => ?_
 refine pV ?_
 refine tS ?_
 have hl2 : Lm [n % 4294967296, n / 4294967296] := fun x hx => by
  simp only [List.mem_cons, List.not_mem_nil, or_false] at hx
  rcases hx with rfl | rfl <;> omega
 have hv : (vN [n % 4294967296, n / 4294967296]).toNat = n.toNat := by simp only [vN]; omega
 refine tR fun _ _ _ => ?_
 refine pV ?_
 refine sV (rRemU rfl rfl rfl (by omega) (by omega)) ?_
 refine sV (rConv rfl undU64 undU32 rfl (IntWalk.u32_in _ ⟨by omega, by omega⟩)) ?_
 refine pV ?_
 refine sV (rQuoU rfl rfl rfl (by omega) (by omega)) ?_
 refine sV (rConv rfl undU64 undU32 rfl (IntWalk.u32_in _ ⟨by omega, by omega⟩)) ?_
 refine eV (eLit2W rfl rfl rfl rfl rfl (fun A1 => ?_))
 refine eV (eCall1 rfl rfl rfl (ref_Trim A1 2 2 [n % 4294967296, n / 4294967296] rfl hl2 (by omega) (by omega)) ⟨rfl, trivial⟩ ?_)
 rintro _ _ ⟨B1a, c1a, rfl, rfl, hc1a⟩
 refine pV ?_
 rw [hv] at hc1a ⊢
 exact tr_ret ⟨trivial, _, _, rfl, ⟨_, rfl, B1a, c1a, rfl, rfl, hc1a⟩, cs _ _, trivial, trivial⟩
theorem ref_NCmp_ent : Enters Try.prog 135 := enters_of Try.func135 (by kernel_rfl) (by kernel_rfl)
theorem ref_NCmp (X : Option Addr) (nx cx : Nat) (l : List Int) (hnx : nx = l.length) (hlnx : Lm l) (h9nx : nx ≤ 1000000) (Y : Option Addr) (ny cy : Nat) (k : List Int) (hny : ny = k.length) (hlny : Lm k) (h9ny : ny ≤ 1000000) :
  Pure Try.prog 135 #[.slice X nx cx, .slice Y ny cy] [ro X (w32 l), ro Y (w32 k)] (isV (.int .i64 (cmpZ (vN l) (vN k)))) := by
 refine pure_of (args := [.slice X nx cx, .slice Y ny cy]) 30 Try.func135 rfl rfl rfl ref_NCmp_ent ⟨id, id, trivial⟩ (fun w0 => ?_)
 refine tS ?_
 refine tR fun _ _ _ => ?_
 refine pV ?_
 refine tS ?_
 refine tS ?_
 refine tR fun _ _ _ => ?_
 refine pV ?_
 refine sV (rLen rfl rfl) ?_
 refine pV ?_
 refine sV (rLen rfl rfl) ?_
 refine sV (rMax rfl rfl rfl) ?_
 refine sV (rSub rfl rfl rfl (by omega) (by omega)) ?_
 refine pV ?_
 refine tB ?_
 refine tr_loop1 (fun (i : Int) => [(5, .int .i64 i), (0, .slice X nx cx), (1, .slice Y ny cy)]) (fun (i : Int) => [ro X (w32 l), ro Y (w32 k)]) (fun (i : Int) => (-1 ≤ i ∧ i < max (nx : Int) ny) ∧ ∀ j : Nat, i < j → l.getD j 0 = k.getD j 0) (fun (i : Int) => (i + 1).toNat) (max (nx : Int) ny - 1) ⟨rfl, rfl, rfl, trivial⟩ (by first | exact cs _ _ | exact CSub.refl _) (⟨⟨by omega, by omega⟩, fun j hj => by rw [getD_out (by omega), getD_out (by omega)]⟩) (fun i hI => ?_)
 obtain ⟨⟨hi0, hi1⟩, hz⟩ := hI
 refine tS ?_
 refine tS ?_
 refine tR fun _ _ _ => ?_
 iterate 2 refine pV ?_
 refine tC rfl (fun h2 => ?_) (fun h2 => ?_)
 ·try simp only [zbA] at h2
  refine tK ?_
  refine tS ?_
  refine tB ?_
  refine tS ?_
  refine tS ?_
  refine tR fun _ _ _ => ?_
  iterate 2 refine pV ?_
  refine eV (eCallV rfl rfl rfl (ref_limb X nx cx l hnx hlnx i (by omega)) ⟨rfl, rfl, trivial⟩ ?_)
  iterate 2 refine pV ?_
  refine eV (eCallV rfl rfl rfl (ref_limb Y ny cy k hny hlny i (by omega)) ⟨rfl, rfl, trivial⟩ ?_)
  refine sV (rLssK rfl rfl rfl) ?_
  refine tC rfl (fun h4 => ?_) (fun h4 => ?_)
  ·try simp only [zbA] at h4
   refine tS ?_
   refine tR fun _ _ _ => ?_
   refine pV ?_
   exact tr_ret ⟨trivial, _, _, rfl, ⟨by rw [cmpZ, if_pos (vN_lt2 hlnx hlny i.toNat (fun j hj => hz j (by omega)) h4)], rfl⟩, CSub.nil _, trivial⟩
  ·try simp only [zbA] at h4
   refine tK ?_
   refine tS ?_
   refine tR fun _ _ _ => ?_
   iterate 2 refine pV ?_
   refine eV (eCallV rfl rfl rfl (ref_limb X nx cx l hnx hlnx i (by omega)) ⟨rfl, rfl, trivial⟩ ?_)
   iterate 2 refine pV ?_
   refine eV (eCallV rfl rfl rfl (ref_limb Y ny cy k hny hlny i (by omega)) ⟨rfl, rfl, trivial⟩ ?_)
   refine sV (rGtrK rfl rfl rfl) ?_
   refine tC rfl (fun h6 => ?_) (fun h6 => ?_)
   ·try simp only [zbA] at h6
    refine tS ?_
    refine tR fun _ _ _ => ?_
    refine pV ?_
    exact tr_ret ⟨trivial, _, _, rfl, ⟨by
     have h9 := vN_lt2 hlny hlnx i.toNat (fun j hj => (hz j (by omega)).symm) h6
     rw [cmpZ, if_neg (by omega), if_pos h9], rfl⟩, CSub.nil _, trivial⟩
   ·try simp only [zbA] at h6
    refine tK ?_
    refine tR fun _ _ _ => ?_
    refine pV ?_
    refine sV (rSub rfl rfl rfl (by omega) (by omega)) ?_
    refine pV ?_
    refine ⟨i - 1, ⟨rfl, rfl, rfl, trivial⟩, by first | exact cs _ _ | exact CSub.refl _, ?_⟩
    refine ⟨⟨⟨by omega, by omega⟩, fun j hj => ?_⟩, by omega⟩
    by_cases h : i < (j : Int)
    ·exact hz j h
    ·rw [show j = i.toNat by omega]; omega
 ·try simp only [zbA] at h2
  refine tE ?_
  refine tS ?_
  refine tR fun _ _ _ => ?_
  refine pV ?_
  exact tr_ret ⟨trivial, _, _, rfl, ⟨by rw [vN_ext (a := l) (b := k) (fun j => hz j (by omega)), cmpZ, if_neg (by omega), if_neg (by omega)], rfl⟩, CSub.nil _, trivial⟩
theorem ref_NAdd_ent : Enters Try.prog 31 := enters_of Try.func31 (by kernel_rfl) (by kernel_rfl)
theorem ref_NAdd (X : Option Addr) (nx cx : Nat) (l : List Int) (hnx : nx = l.length) (hlnx : Lm l) (h9nx : nx ≤ 1000000) (Y : Option Addr) (ny cy : Nat) (k : List Int) (hny : ny = k.length) (hlny : Lm k) (h9ny : ny ≤ 1000000) :
  Pure Try.prog 31 #[.slice X nx cx, .slice Y ny cy] [ro X (w32 l), ro Y (w32 k)] (one (fun v ch => ∃ B c, v = .slice B (lmb ((vN l + vN k).toNat)).length c ∧ ch = ow B 105 c (w32 (lmb ((vN l + vN k).toNat))) ∧ (lmb ((vN l + vN k).toNat)).length ≤ c)) := by
 refine pure_of (args := [.slice X nx cx, .slice Y ny cy]) 44 Try.func31 rfl rfl rfl ref_NAdd_ent ⟨id, id, trivial⟩ (fun w0 => ?_)
 refine tS ?_
 refine tR fun _ _ _ => ?_
 refine pV ?_
 refine tS ?_
 refine tR fun _ _ _ => ?_
 refine pV ?_
 refine tS ?_
 refine tR fun _ _ _ => ?_
 refine pV ?_
 refine tS ?_
 refine tS ?_
 refine tR fun _ _ _ => ?_
 refine pV ?_
 refine tB ?_
 refine tr_nilW 105 ?_
 refine tr_loop5 (fun (i : Int) (cy2 : Int) (B : Option Addr) (cb : Nat) (o : List Int) => [(5, .slice B o.length cb), (6, .int .u64 cy2), (7, .int .i64 i), (0, .slice X nx cx), (1, .slice Y ny cy), (4, .slice none 0 0)]) (fun (i : Int) (cy2 : Int) (B : Option Addr) (cb : Nat) (o : List Int) => [ow B 105 cb (w32 o), ro X (w32 l), ro Y (w32 k)]) (fun (i : Int) (cy2 : Int) (B : Option Addr) (cb : Nat) (o : List Int) => (0 ≤ i ∧ i ≤ max (nx : Int) ny + 1) ∧ (0 ≤ cy2 ∧ cy2 ≤ 1) ∧ (o.length : Int) = i ∧ Lm o ∧ (max (nx : Int) ny < i → cy2 = 0) ∧ vN o + 4294967296 ^ i.toNat * cy2 = vN (l.take i.toNat) + vN (k.take i.toNat)) (fun (i : Int) (cy2 : Int) (B : Option Addr) (cb : Nat) (o : List Int) => (max (nx : Int) ny + 1 - i).toNat) (0) (0) (none) (0) ([]) ⟨rfl, rfl, rfl, rfl, rfl, rfl, trivial⟩ (by first | exact cs _ _ | exact CSub.refl _) (⟨⟨by omega, by omega⟩, ⟨by omega, by omega⟩, rfl, lm_nil, fun _ => rfl, by simp [vN]⟩) (fun i cy2 B cb o hI => ?_)
 obtain ⟨⟨hi0, hi1⟩, ⟨hc0, hc1⟩, hol0, hol, hcz, hs⟩ := hI
 refine tS ?_
 refine tS ?_
 refine tR fun _ _ _ => ?_
 iterate 2 refine pV ?_
 refine sV (rLen rfl rfl) ?_
 iterate 2 refine pV ?_
 refine stg rfl rfl rfl rfl rfl (fun hb => by (have hq := hb; try simp only [zbA] at hq); exact rMove rfl rfl) ?_
 refine stg rfl rfl rfl rfl rfl (fun hb => by (have hq := hb; try simp only [zbA] at hq); exact rMove rfl rfl) ?_
 refine stg rfl rfl rfl rfl rfl (fun hb => by (have hq := hb; try simp only [zbA] at hq); exact rLen rfl (evg rfl hb)) ?_
 refine stg rfl rfl rfl rfl rfl (fun hb => by (have hq := hb; try simp only [zbA] at hq); exact rLss rfl (evg rfl hb) (evg rfl hb)) ?_
 refine sV (rOrB rfl rfl rfl rfl) ?_
 refine pV ?_
 refine stg rfl rfl rfl rfl rfl (fun hb => by (have hq := hb; try simp only [zbA] at hq); exact rMove rfl rfl) ?_
 refine stg rfl rfl rfl rfl rfl (fun hb => by (have hq := hb; try simp only [zbA] at hq); exact rGtrK rfl (evg rfl hb) rfl) ?_
 refine sV (rOrB rfl rfl rfl rfl) ?_
 refine tC rfl (fun h4 => ?_) (fun h4 => ?_)
 ·try simp only [zbA] at h4
  refine tK ?_
  refine tS ?_
  refine tB ?_
  refine tS ?_
  have hli := hlnx.get i.toNat
  have hki := hlny.get i.toNat
  refine tR fun _ _ _ => ?_
  iterate 2 refine pV ?_
  refine eV (eCallV rfl rfl rfl (ref_limb X nx cx l hnx hlnx i (by omega)) ⟨rfl, rfl, trivial⟩ ?_)
  iterate 2 refine pV ?_
  refine eV (eCallV rfl rfl rfl (ref_limb Y ny cy k hny hlny i (by omega)) ⟨rfl, rfl, trivial⟩ ?_)
  refine sV (rAddU rfl rfl rfl (by omega) (by omega)) ?_
  refine pV ?_
  refine sV (rAddU rfl rfl rfl (by omega) (by omega)) ?_
  refine pV ?_
  refine tS ?_
  refine tR fun _ _ _ => ?_
  iterate 2 refine pV ?_
  refine sV (rRemU rfl rfl rfl (by omega) (by omega)) ?_
  refine sV (rConv rfl undU64 undU32 rfl (IntWalk.u32_in _ ⟨by omega, by omega⟩)) ?_
  refine eV (eLit1W rfl rfl rfl rfl (fun A7 => ?_))
  refine eV (eAppW rfl rfl rfl rfl rfl (by first | rfl | simp | omega) (by first | rfl | simp | omega) (by first | omega | (simp; omega)) (fun A7a c7a => ?_))
  refine pV ?_
  refine tR fun _ _ _ => ?_
  refine pV ?_
  refine sV (rQuoU rfl rfl rfl (by omega) (by omega)) ?_
  refine pV ?_
  refine tR fun _ _ _ => ?_
  refine pV ?_
  refine sV (rAdd rfl rfl rfl (by omega) (by omega)) ?_
  refine pV ?_
  refine ⟨i + 1, (l.getD i.toNat 0 + k.getD i.toNat 0 + cy2) / 4294967296, A7a, c7a, o ++ [(l.getD i.toNat 0 + k.getD i.toNat 0 + cy2) % 4294967296], ⟨rfl, rfl, rfl, rfl, rfl, rfl, trivial⟩, by first | exact cs _ _ | exact CSub.refl _, ?_⟩
  refine ⟨⟨⟨by omega, by omega⟩, ⟨by omega, by omega⟩, by simp; omega, lm_app hol (lm_one (by omega) (by omega)), fun h => ?_, ?_⟩, by omega⟩
  ·have e1 : l.getD i.toNat 0 = 0 := getD_out (by omega)
   have e2 : k.getD i.toNat 0 = 0 := getD_out (by omega)
   omega
  ·rw [show (i + 1).toNat = i.toNat + 1 by omega, vN_tk, vN_tk, vN_app, show o.length = i.toNat by omega]
   exact add_alg hs
 ·try simp only [zbA] at h4
  refine tE ?_
  refine tS ?_
  refine tr_cap B 105 cb (w32 o) fun hcap => ?_
  rw [w32_length] at hcap
  have hc0 : cy2 = 0 := by omega
  have hv : vN o = vN l + vN k := by
   rw [hc0, Int.mul_zero, Int.add_zero, vN_all (by omega), vN_all (by omega)] at hs; exact hs
  refine tR fun _ _ _ => ?_
  refine pV ?_
  refine eV (eCall1 rfl rfl rfl (ref_Trim B _ cb o rfl hol (by omega) hcap) ⟨rfl, trivial⟩ ?_)
  rintro _ _ ⟨B9, c9, rfl, rfl, hc9⟩
  refine pV ?_
  rw [hv] at hc9 ⊢
  exact tr_ret ⟨trivial, _, _, rfl, ⟨_, rfl, B9, c9, rfl, rfl, hc9⟩, cs _ _, trivial, trivial⟩
theorem ref_NMul_ent : Enters Try.prog 32 := enters_of Try.func32 (by kernel_rfl) (by kernel_rfl)
theorem ref_NMul (X : Option Addr) (nx cx : Nat) (l : List Int) (hnx : nx = l.length) (hlnx : Lm l) (h9nx : nx ≤ 1000000) (Y : Option Addr) (ny cy : Nat) (k : List Int) (hny : ny = k.length) (hlny : Lm k) (h9ny : ny ≤ 1000000) :
  Pure Try.prog 32 #[.slice X nx cx, .slice Y ny cy] [ro X (w32 l), ro Y (w32 k)] (one (fun v ch => ∃ B c, v = .slice B (lmb ((vN l * vN k).toNat)).length c ∧ ch = ow B 105 c (w32 (lmb ((vN l * vN k).toNat))) ∧ (lmb ((vN l * vN k).toNat)).length ≤ c)) := by
 refine pure_of (args := [.slice X nx cx, .slice Y ny cy]) 69 Try.func32 rfl rfl rfl ref_NMul_ent ⟨id, id, trivial⟩ (fun w0 => ?_)
 refine tS ?_
 refine tR fun _ _ _ => ?_
 refine pV ?_
 refine tS ?_
 refine tR fun _ _ _ => ?_
 refine pV ?_
 refine sV (rLen rfl rfl) ?_
 refine pV ?_
 refine sV (rLen rfl rfl) ?_
 refine sV (rAdd rfl rfl rfl (by omega) (by omega)) ?_
 refine eV (eMakeW rfl rfl rfl rfl rfl (by omega) (by omega) (by omega) (fun A1 => ?_))
 refine pV ?_
 refine tS ?_
 refine tS ?_
 refine tR fun _ _ _ => ?_
 refine pV ?_
 refine tB ?_
 refine tr_loop2 (fun (i : Int) (o : List Int) => [(5, .slice A1 ((nx : Int) + ny).toNat ((nx : Int) + ny).toNat), (6, .int .i64 i), (0, .slice X nx cx), (1, .slice Y ny cy), (4, .slice none 0 0)]) (fun (i : Int) (o : List Int) => [ow A1 105 ((nx : Int) + ny).toNat (w32 o), ro X (w32 l), ro Y (w32 k)]) (fun (i : Int) (o : List Int) => (0 ≤ i ∧ i ≤ nx) ∧ o.length = nx + ny ∧ Lm o ∧ vN o = vN (l.take i.toNat) * vN k ∧ ∀ t : Nat, i + ny ≤ t → o.getD t 0 = 0) (fun (i : Int) (o : List Int) => (nx - i).toNat) (0) (List.replicate ((nx : Int) + ny).toNat 0) ⟨rfl, rfl, rfl, rfl, rfl, trivial⟩ (by first | exact cs _ _ | exact CSub.refl _) (⟨⟨by omega, by omega⟩, by rw [List.length_replicate]; omega, lm_rep _, by rw [vN_zeros]; simp [vN], fun t _ => rep_get _ _⟩) (fun i o hI => ?_)
 obtain ⟨⟨hi0, hi1⟩, hoL, hol, hs, hz⟩ := hI
 refine tS ?_
 refine tS ?_
 refine tR fun _ _ _ => ?_
 iterate 2 refine pV ?_
 refine sV (rLen rfl rfl) ?_
 refine pV ?_
 refine tC rfl (fun h3 => ?_) (fun h3 => ?_)
 ·try simp only [zbA] at h3
  refine tK ?_
  refine tS ?_
  refine tB ?_
  refine tS ?_
  refine tR fun _ _ _ => ?_
  refine pV ?_
  refine tS ?_
  refine tS ?_
  refine tR fun _ _ _ => ?_
  refine pV ?_
  refine tB ?_
  refine tr_loop3 (fun (j : Int) (cy2 : Int) (o2 : List Int) => [(5, .slice A1 ((nx : Int) + ny).toNat ((nx : Int) + ny).toNat), (7, .int .u64 cy2), (8, .int .i64 j), (0, .slice X nx cx), (1, .slice Y ny cy), (4, .slice none 0 0), (6, .int .i64 i), (16, .int .i64 i), (17, .slice X nx cx), (18, .int .i64 nx)]) (fun (j : Int) (cy2 : Int) (o2 : List Int) => [ow A1 105 ((nx : Int) + ny).toNat (w32 o2), ro X (w32 l), ro Y (w32 k)]) (fun (j : Int) (cy2 : Int) (o2 : List Int) => (0 ≤ j ∧ j ≤ ny) ∧ (0 ≤ cy2 ∧ cy2 < 4294967296) ∧ o2.length = nx + ny ∧ Lm o2 ∧ vN o2 + 4294967296 ^ (i + j).toNat * cy2 = vN (l.take i.toNat) * vN k + 4294967296 ^ i.toNat * l.getD i.toNat 0 * vN (k.take j.toNat) ∧ ∀ t : Nat, i + ny ≤ t → o2.getD t 0 = 0) (fun (j : Int) (cy2 : Int) (o2 : List Int) => (ny - j).toNat) (0) (0) (o) ⟨rfl, rfl, rfl, rfl, rfl, rfl, rfl, rfl, rfl, rfl, trivial⟩ (by first | exact cs _ _ | exact CSub.refl _) (⟨⟨by omega, by omega⟩, ⟨by omega, by omega⟩, hoL, hol, by rw [hs]; simp [vN], hz⟩) (fun j cy2 o2 hI => ?_)
  obtain ⟨⟨hj0, hj1⟩, ⟨hc0, hc1⟩, hoL2, hol2, hs2, hz2⟩ := hI
  refine tS ?_
  refine tS ?_
  refine tR fun _ _ _ => ?_
  iterate 2 refine pV ?_
  refine sV (rLen rfl rfl) ?_
  refine pV ?_
  refine tC rfl (fun h7 => ?_) (fun h7 => ?_)
  ·try simp only [zbA] at h7
   refine tK ?_
   refine tS ?_
   refine tB ?_
   refine tS ?_
   have hli := hlnx.get i.toNat
   have hkj := hlny.get j.toNat
   have hoj := hol2.get (i + j).toNat
   have hlk : 0 ≤ l.getD i.toNat 0 * k.getD j.toNat 0 := Int.mul_nonneg hli.1 hkj.1
   have hlk9 : l.getD i.toNat 0 * k.getD j.toNat 0 ≤ 4294967295 * 4294967295 := Int.mul_le_mul (by omega) (by omega) hkj.1 (by omega)
   refine tr_draw [0, 1, 2, 3, 4, 5, 6, 7, 8, 9, 10, 11, 12, 13, 14, 15, 16, 17, 18, 19, 20, 21] [] mixed (by kernel_rfl) fun _ _ _ => ?_
   iterate 2 refine pV ?_
   refine sV (rIdxW rfl rfl rfl (by omega) (by omega) (by omega)) ?_
   refine sV (rLdW rfl rfl (by omega)) ?_
   refine sV (rConv rfl undU32 undU64 rfl (IntWalk.u64_in _ ⟨by omega, by omega⟩)) ?_
   iterate 2 refine pV ?_
   refine sV (rIdxW rfl rfl rfl (by omega) (by omega) (by omega)) ?_
   refine sV (rLdW rfl rfl (by omega)) ?_
   refine sV (rConv rfl undU32 undU64 rfl (IntWalk.u64_in _ ⟨by omega, by omega⟩)) ?_
   refine sV (rMulU rfl rfl rfl (by omega) (by omega)) ?_
   iterate 3 refine pV ?_
   refine sV (rAdd rfl rfl rfl (by omega) (by omega)) ?_
   refine sV (rIdxW rfl rfl rfl (by omega) (by omega) (by omega)) ?_
   refine sV (rLdW rfl rfl (by omega)) ?_
   refine sV (rConv rfl undU32 undU64 rfl (IntWalk.u64_in _ ⟨by omega, by omega⟩)) ?_
   refine sV (rAddU rfl rfl rfl (by omega) (by omega)) ?_
   refine pV ?_
   refine sV (rAddU rfl rfl rfl (by omega) (by omega)) ?_
   refine pV ?_
   refine tS ?_
   refine tR fun _ _ _ => ?_
   iterate 3 refine pV ?_
   refine sV (rAdd rfl rfl rfl (by omega) (by omega)) ?_
   refine pV ?_
   refine sV (rRemU rfl rfl rfl (by omega) (by omega)) ?_
   refine sV (rConv rfl undU64 undU32 rfl (IntWalk.u32_in _ ⟨by omega, by omega⟩)) ?_
   refine sV (rIdxW rfl rfl rfl (by omega) (by omega) (by omega)) ?_
   refine eV (eStW rfl rfl rfl rfl (by omega) ?_)
   refine tR fun _ _ _ => ?_
   refine pV ?_
   refine sV (rQuoU rfl rfl rfl (by omega) (by omega)) ?_
   refine pV ?_
   refine tR fun _ _ _ => ?_
   refine pV ?_
   refine sV (rAdd rfl rfl rfl (by omega) (by omega)) ?_
   refine pV ?_
   refine ⟨j + 1, (l.getD i.toNat 0 * k.getD j.toNat 0 + o2.getD (i + j).toNat 0 + cy2) / 4294967296, o2.set (i + j).toNat ((l.getD i.toNat 0 * k.getD j.toNat 0 + o2.getD (i + j).toNat 0 + cy2) % 4294967296), ⟨rfl, rfl, rfl, rfl, rfl, rfl, rfl, rfl, rfl, rfl, trivial⟩, by first | exact cs _ _ | exact CSub.refl _, ?_⟩
   refine ⟨⟨⟨by omega, by omega⟩, ⟨by omega, by omega⟩, by simp; omega, lm_set hol2 (by omega) (by omega), ?_, fun t ht => ?_⟩, by omega⟩
   ·rw [show (j + 1).toNat = j.toNat + 1 by omega, vN_tk, vN_set (by omega), show (i + (j + 1)).toNat = (i + j).toNat + 1 by omega]
    rw [show (i + j).toNat = i.toNat + j.toNat by omega] at hs2 ⊢
    exact mul_alg hs2
   ·rw [getD_set, if_neg (by omega)]; exact hz2 t ht
  ·try simp only [zbA] at h7
   refine tE ?_
   refine tR fun _ _ _ => ?_
   iterate 3 refine pV ?_
   refine sV (rLen rfl rfl) ?_
   refine sV (rAdd rfl rfl rfl (by omega) (by omega)) ?_
   refine pV ?_
   refine sV (rConv rfl undU64 undU32 rfl (IntWalk.u32_in _ ⟨by omega, by omega⟩)) ?_
   refine sV (rIdxW rfl rfl rfl (by omega) (by omega) (by omega)) ?_
   refine eV (eStW rfl rfl rfl rfl (by omega) ?_)
   refine tR fun _ _ _ => ?_
   refine pV ?_
   refine sV (rAdd rfl rfl rfl (by omega) (by omega)) ?_
   refine pV ?_
   refine ⟨i + 1, o2.set (i + ny).toNat cy2, ⟨rfl, rfl, rfl, rfl, rfl, trivial⟩, by first | exact cs _ _ | exact CSub.refl _, ?_⟩
   refine ⟨⟨⟨by omega, by omega⟩, by simp; omega, lm_set hol2 (by omega) (by omega), ?_, fun t ht => ?_⟩, by omega⟩
   ·rw [show (i + 1).toNat = i.toNat + 1 by omega, vN_tk, vN_set (by omega), hz2 _ (by omega)]
    have hjn : j = ny := by omega
    rw [hjn, vN_all (l := k) (by omega), show (i + (ny : Int)).toNat = (i + (ny : Int)).toNat from rfl] at hs2
    rw [Int.sub_zero, hs2, Int.add_mul]
   ·rw [getD_set, if_neg (by omega)]; exact hz2 t (by omega)
 ·try simp only [zbA] at h3
  refine tE ?_
  refine tS ?_
  have hnn : ((nx : Int) + ny).toNat = o.length := by omega
  have hv : vN o = vN l * vN k := by rw [hs, vN_all (by omega)]
  refine tR fun _ _ _ => ?_
  refine pV ?_
  refine eV (eCall1 rfl rfl rfl (ref_Trim A1 _ _ o hnn hol (by omega) (by omega)) ⟨rfl, trivial⟩ ?_)
  rintro _ _ ⟨B13, c13, rfl, rfl, hc13⟩
  refine pV ?_
  rw [hv] at hc13 ⊢
  exact tr_ret ⟨trivial, _, _, rfl, ⟨_, rfl, B13, c13, rfl, rfl, hc13⟩, cs _ _, trivial, trivial⟩
theorem ref_NBits_ent : Enters Try.prog 88 := enters_of Try.func88 (by kernel_rfl) (by kernel_rfl)
theorem ref_NBits (X : Option Addr) (nx cx : Nat) (l : List Int) (hnx : nx = l.length) (hlnx : Lm l) (h9nx : nx ≤ 1000000) (hcx : nx ≤ cx) :
  Pure Try.prog 88 #[.slice X nx cx] [ro X (w32 l)] (isV (.int .i64 (bitl (vN l).toNat))) := by
 refine pure_of (args := [.slice X nx cx]) 27 Try.func88 rfl rfl rfl ref_NBits_ent ⟨id, trivial⟩ (fun w0 => ?_)
 refine tS ?_
 refine tR fun _ _ _ => ?_
 refine pV ?_
 refine tS ?_
 have hll := lmb_short hlnx
 have hlm := lmb_lm (vN l).toNat
 refine tR fun _ _ _ => ?_
 refine pV ?_
 refine eV (eCall1 rfl rfl rfl (ref_Trim X nx cx l hnx hlnx (by omega) hcx) ⟨rfl, trivial⟩ ?_)
 rintro _ _ ⟨B1, c1, rfl, rfl, hc1⟩
 refine pV ?_
 refine tS ?_
 refine tS ?_
 refine tR fun _ _ _ => ?_
 refine pV ?_
 refine sV (rLen rfl rfl) ?_
 refine pV ?_
 refine tC rfl (fun h2 => ?_) (fun h2 => ?_)
 ·try simp only [zbA] at h2
  refine tS ?_
  refine tR fun _ _ _ => ?_
  refine pV ?_
  exact tr_ret ⟨trivial, _, _, rfl, ⟨by rw [show (vN l).toNat = 0 from lmb_nil.1 (by omega), bitl_zero]; rfl, rfl⟩, CSub.nil _, trivial⟩
 ·try simp only [zbA] at h2
  refine tK ?_
  refine tS ?_
  have hn0 : (vN l).toNat ≠ 0 := fun h => by rw [h, lmb_zero] at h2; simp at h2
  have hbl := bitl_lmb hn0
  have hlg := hlm.get ((lmb (vN l).toNat).length - 1)
  have hb32 := bitl_lt (n := ((lmb (vN l).toNat).getD ((lmb (vN l).toNat).length - 1) 0).toNat) (k := 32) (by omega)
  have hlp : 1 ≤ (lmb (vN l).toNat).length := by have := mt lmb_nil.1 hn0; omega
  refine tR fun _ _ _ => ?_
  refine pV ?_
  refine sV (rLen rfl rfl) ?_
  refine sV (rSub rfl rfl rfl (by omega) (by omega)) ?_
  refine sV (rMul rfl rfl rfl (by omega) (by omega)) ?_
  refine pV ?_
  refine tS ?_
  refine tS ?_
  refine tR fun _ _ _ => ?_
  iterate 2 refine pV ?_
  refine sV (rLen rfl rfl) ?_
  refine sV (rSub rfl rfl rfl (by omega) (by omega)) ?_
  refine sV (rIdxW rfl rfl rfl (by omega) (by omega) (by omega)) ?_
  refine sV (rLdW rfl rfl (by omega)) ?_
  refine pV ?_
  rw [show (((lmb (vN l).toNat).length : Int) - 1).toNat = (lmb (vN l).toNat).length - 1 by omega]
  refine tB ?_
  refine tr_loop2 (fun (s : Int) (t : Int) => [(3, .int .i64 s), (4, .int .u32 t), (2, .int .i64 0)]) (fun (s : Int) (t : Int) => []) (fun (s : Int) (t : Int) => (0 ≤ t ∧ t < 4294967296) ∧ 0 ≤ s ∧ s + bitl t.toNat = (bitl (vN l).toNat : Int)) (fun (s : Int) (t : Int) => t.toNat) (32 * (((lmb (vN l).toNat).length : Int) - 1)) ((lmb (vN l).toNat).getD ((lmb (vN l).toNat).length - 1) 0) ⟨rfl, rfl, rfl, trivial⟩ (by first | exact cs _ _ | exact CSub.refl _) (⟨⟨by omega, by omega⟩, by omega, by omega⟩) (fun s t hI => ?_)
  obtain ⟨⟨ht0, ht1⟩, hs0, hs⟩ := hI
  refine tS ?_
  refine tS ?_
  refine tR fun _ _ _ => ?_
  refine pV ?_
  refine sV (rGtrK rfl rfl rfl) ?_
  refine tC rfl (fun h6 => ?_) (fun h6 => ?_)
  ·try simp only [zbA] at h6
   refine tK ?_
   refine tS ?_
   refine tB ?_
   refine tR fun _ _ _ => ?_
   refine pV ?_
   refine sV (rAdd rfl rfl rfl (by omega) (by omega)) ?_
   refine pV ?_
   refine tR fun _ _ _ => ?_
   refine pV ?_
   refine sV (rQuo32 rfl rfl rfl (by omega) (by omega)) ?_
   refine pV ?_
   refine ⟨s + 1, t / 2, ⟨rfl, rfl, rfl, trivial⟩, by first | exact cs _ _ | exact CSub.refl _, ?_⟩
   have hbp := bitl_pos (n := t.toNat) (by omega)
   rw [show t.toNat / 2 = (t / 2).toNat by omega] at hbp
   exact ⟨⟨⟨by omega, by omega⟩, by omega, by omega⟩, by omega⟩
  ·try simp only [zbA] at h6
   refine tE ?_
   refine tS ?_
   refine tR fun _ _ _ => ?_
   iterate 2 refine pV ?_
   exact tr_ret ⟨trivial, _, _, rfl, ⟨by rw [show t = 0 by omega, show ((0 : Int).toNat) = 0 from rfl, bitl_zero] at hs; rw [← hs]; simp, rfl⟩, CSub.nil _, trivial⟩
end Go.Proofs.Ytbhoeaijpnjgdaa

set_option maxRecDepth 100000
namespace Go.Proofs.Ytbhoeaijpnjgdaa
open Go.RowKit
theorem pow_triv {a n : Nat} (ha : a ≤ 1) (hn : n ≠ 0) : a ^ n = a := by
 rcases Nat.eq_zero_or_pos a with h | h
 ·rw [h, Nat.zero_pow (by omega)]
 ·rw [show a = 1 by omega, Nat.one_pow]
theorem ref_NPow_ent : Enters Try.prog 34 := enters_of Try.func34 (by kernel_rfl) (by kernel_rfl)
theorem ref_NPow (X : Option Addr) (nx cx : Nat) (l : List Int) (hnx : nx = l.length) (hlnx : Lm l) (h9nx : nx ≤ 1000000) (hcx : nx ≤ cx) (n : Nat) (hn : n ≤ 256) (ha : vN l ≤ 256) :
  Pure Try.prog 34 #[.slice X nx cx, .int .i64 n] [ro X (w32 l)] (one (fun v ch => ∃ B c, v = .tuple #[.slice B (lmb ((vN l).toNat ^ n)).length c, .int .i64 0] ∧ ch = ow B 105 c (w32 (lmb ((vN l).toNat ^ n))) ∧ (lmb ((vN l).toNat ^ n)).length ≤ c)) := by
 refine pure_of (args := [.slice X nx cx, .int .i64 n]) 41 Try.func34 rfl rfl rfl ref_NPow_ent ⟨id, trivial⟩ (fun w0 => ?_)
 refine tS ?_
 refine tR fun _ _ _ => ?_
 iterate 2 refine pV ?_
 refine tS ?_
 refine tS ?_
 have hvn := vN_nn hlnx
 have hll := lmb_short hlnx
 refine tR fun _ _ _ => ?_
 iterate 2 refine pV ?_
 refine tC rfl (fun h1 => ?_) (fun h1 => ?_)
 ·try simp only [zbA] at h1
  omega --done
 ·try simp only [zbA] at h1
  refine tK ?_
  refine tS ?_
  refine tR fun _ _ _ => ?_
  refine pV ?_
  refine eV (eCall1 rfl rfl rfl (ref_Trim X nx cx l hnx hlnx (by omega) hcx) ⟨rfl, trivial⟩ ?_)
  rintro _ _ ⟨B3, c3, rfl, rfl, hc3⟩
  refine pV ?_
  refine tS ?_
  refine tS ?_
  refine tR fun _ _ _ => ?_
  iterate 2 refine pV ?_
  refine tC rfl (fun h4 => ?_) (fun h4 => ?_)
  ·try simp only [zbA] at h4
   refine tS ?_
   refine tR fun _ _ _ => ?_
   refine eV (eLit1W rfl rfl rfl rfl (fun A5 => ?_))
   iterate 2 refine pV ?_
   have hz : n = 0 := by omega
   subst hz
   rw [Nat.pow_zero, lmb_one]
   exact tr_ret ⟨trivial, _, _, rfl, ⟨_, rfl, A5, 1, rfl, rfl, Nat.le_refl _⟩, cs _ _, trivial, trivial⟩
  ·try simp only [zbA] at h4
   refine tK ?_
   refine tS ?_
   refine tS ?_
   refine tR fun _ _ _ => ?_
   refine pV ?_
   refine eV (eCallV rfl rfl rfl (ref_NBits B3 _ c3 (lmb (vN l).toNat) rfl (lmb_lm _) (by omega) hc3) ⟨rfl, trivial⟩ ?_)
   refine pV ?_
   rw [show ((vN (lmb (vN l).toNat)).toNat) = (vN l).toNat by rw [vN_lmb]; rfl]
   refine tC rfl (fun h6 => ?_) (fun h6 => ?_)
   ·try simp only [zbA] at h6
    refine tS ?_
    refine tR fun _ _ _ => ?_
    iterate 3 refine pV ?_
    have hp1 : (vN l).toNat ^ n = (vN l).toNat := pow_triv (bitl_one.1 (by omega)) (by omega)
    rw [hp1]
    exact tr_ret ⟨trivial, _, _, rfl, ⟨_, rfl, B3, c3, rfl, rfl, hc3⟩, cs _ _, trivial, trivial⟩
   ·try simp only [zbA] at h6
    refine tK ?_
    refine tS ?_
    refine tS ?_
    refine tR fun _ _ _ => ?_
    iterate 2 refine pV ?_
    refine tC rfl (fun h8 => ?_) (fun h8 => ?_)
    ·try simp only [zbA] at h8
     omega --done
    ·try simp only [zbA] at h8
     refine tK ?_
     refine tS ?_
     refine tR fun _ _ _ => ?_
     refine eV (eLit1W rfl rfl rfl rfl (fun A10 => ?_))
     refine pV ?_
     refine tS ?_
     refine tS ?_
     refine tR fun _ _ _ => ?_
     refine pV ?_
     refine tB ?_
     refine tr_loop4 (fun (e : Nat) (B : Option Addr) (cb : Nat) (o : List Int) => [(6, .slice B o.length cb), (7, .int .i64 (hlf e)), (0, .slice B3 (lmb ((vN l).toNat)).length c3), (1, .int .i64 n)]) (fun (e : Nat) (B : Option Addr) (cb : Nat) (o : List Int) => [ow B 105 cb (w32 o), ow B3 105 c3 (w32 (lmb (vN l).toNat))]) (fun (e : Nat) (B : Option Addr) (cb : Nat) (o : List Int) => e ≤ 19 ∧ o.length ≤ cb ∧ o = lmb ((vN l).toNat ^ (n / 2 ^ e))) (fun (e : Nat) (B : Option Addr) (cb : Nat) (o : List Int) => e) (19) (A10) (1) ([1]) ⟨rfl, rfl, rfl, rfl, trivial⟩ (by first | exact cs _ _ | exact CSub.refl _) (⟨by omega, Nat.le_refl _, by rw [Nat.div_eq_of_lt (by omega), Nat.pow_zero, lmb_one]⟩) (fun e B cb o hI => ?_)
     obtain ⟨he, hcb, rfl⟩ := hI
     have hd0 := hlf_nn e
     have hd9 := hlf_le he
     refine tS ?_
     refine tS ?_
     refine tR fun _ _ _ => ?_
     iterate 2 refine pV ?_
     refine tC rfl (fun h12 => ?_) (fun h12 => ?_)
     ·try simp only [zbA] at h12
      refine tK ?_
      refine tS ?_
      refine tB ?_
      refine tS ?_
      obtain ⟨f, rfl⟩ : ∃ f, e = f + 1 := ⟨e - 1, by cases e with | zero => simp [hlf] at h12 | succ f => omega⟩
      have hd1 := hlf_pos f
      have hdn : 0 ≤ (n : Int) / hlf (f + 1) := Int.ediv_nonneg (by omega) (by omega)
      have hdq : n / 2 ^ (f + 1) ≤ 256 := Nat.le_trans (Nat.div_le_self _ _) hn
      have hL1 := pow_len (a := (vN l).toNat) (by omega) hdq
      have hL2 := pow_len2 (a := (vN l).toNat) (by omega) hdq
      refine tR fun _ _ _ => ?_
      iterate 2 refine pV ?_
      refine eV (eCall1 rfl rfl rfl (ref_NMul B _ cb (lmb ((vN l).toNat ^ (n / 2 ^ (f + 1)))) rfl (lmb_lm _) (by omega) B _ cb (lmb ((vN l).toNat ^ (n / 2 ^ (f + 1)))) rfl (lmb_lm _) (by omega)) ⟨rfl, rfl, trivial⟩ ?_)
      rintro _ _ ⟨B14, c14, rfl, rfl, hc14⟩
      refine pV ?_
      rw [lmb_mul] at hc14 ⊢
      refine tS ?_
      refine tS ?_
      refine tR fun _ _ _ => ?_
      iterate 2 refine pV ?_
      refine sV (rQuo rfl rfl rfl (by omega) (by omega)) ?_
      refine sV (rRem rfl rfl rfl (by omega) (by omega)) ?_
      refine pV ?_
      refine tC rfl (fun h15 => ?_) (fun h15 => ?_)
      ·try simp only [zbA] at h15
       refine tR fun _ _ _ => ?_
       iterate 2 refine pV ?_
       refine eV (eCall1 rfl rfl rfl (ref_NMul B14 _ c14 (lmb ((vN l).toNat ^ (n / 2 ^ (f + 1)) * (vN l).toNat ^ (n / 2 ^ (f + 1)))) rfl (lmb_lm _) (by omega) B3 _ c3 (lmb ((vN l).toNat)) rfl (lmb_lm _) (by omega)) ⟨rfl, rfl, trivial⟩ ?_)
       rintro _ _ ⟨B16, c16, rfl, rfl, hc16⟩
       refine pV ?_
       rw [lmb_mul, pow_sq1 _ _ _ ((hlf_bit n f).1 h15)] at hc16 ⊢
       refine tS ?_
       have hL3 := pow_len (a := (vN l).toNat) (by omega) (show n / 2 ^ f ≤ 256 from Nat.le_trans (Nat.div_le_self _ _) hn)
       have hpe : (n / 2 ^ f) % 2 ≠ 1 → (vN l).toNat ^ (n / 2 ^ (f + 1)) * (vN l).toNat ^ (n / 2 ^ (f + 1)) = (vN l).toNat ^ (n / 2 ^ f) := pow_sq _ _ _
       refine tR fun _ _ _ => ?_
       refine pV ?_
       refine sV (rLen rfl rfl) ?_
       refine pV ?_
       refine tC rfl (fun h17 => ?_) (fun h17 => ?_)
       ·try simp only [zbA] at h17
        omega --done
       ·try simp only [zbA] at h17
        refine tK ?_
        refine tR fun _ _ _ => ?_
        refine pV ?_
        refine sV (rQuo rfl rfl rfl (by omega) (by omega)) ?_
        refine pV ?_
        rw [hlf_half]
        refine ⟨f, B16, c16, lmb ((vN l).toNat ^ (n / 2 ^ f)), ⟨rfl, rfl, rfl, rfl, trivial⟩, by first | exact cs _ _ | exact CSub.refl _, ?_⟩
        exact ⟨⟨by omega, hc16, rfl⟩, by omega⟩
      ·try simp only [zbA] at h15
       refine tK ?_
       refine tS ?_
       have hL3 := pow_len (a := (vN l).toNat) (by omega) (show n / 2 ^ f ≤ 256 from Nat.le_trans (Nat.div_le_self _ _) hn)
       have hpe : (n / 2 ^ f) % 2 ≠ 1 → (vN l).toNat ^ (n / 2 ^ (f + 1)) * (vN l).toNat ^ (n / 2 ^ (f + 1)) = (vN l).toNat ^ (n / 2 ^ f) := pow_sq _ _ _
       refine tR fun _ _ _ => ?_
       refine pV ?_
       refine sV (rLen rfl rfl) ?_
       refine pV ?_
       refine tC rfl (fun h17 => ?_) (fun h17 => ?_)
       ·try simp only [zbA] at h17
        omega --done
       ·try simp only [zbA] at h17
        refine tK ?_
        refine tR fun _ _ _ => ?_
        refine pV ?_
        refine sV (rQuo rfl rfl rfl (by omega) (by omega)) ?_
        refine pV ?_
        rw [hlf_half]
        refine ⟨f, B14, c14, lmb ((vN l).toNat ^ (n / 2 ^ (f + 1)) * (vN l).toNat ^ (n / 2 ^ (f + 1))), ⟨rfl, rfl, rfl, rfl, trivial⟩, by first | exact cs _ _ | exact CSub.refl _, ?_⟩
        exact ⟨⟨by omega, hc14, by rw [hpe (fun h => h15 ((hlf_bit n f).2 h))]⟩, by omega⟩
     ·try simp only [zbA] at h12
      refine tE ?_
      refine tS ?_
      refine tR fun _ _ _ => ?_
      iterate 3 refine pV ?_
      have hez : e = 0 := by cases e with | zero => rfl | succ f => (have := hlf_pos f; omega)
      subst hez
      rw [Nat.pow_zero, Nat.div_one] at hcb ⊢
      exact tr_ret ⟨trivial, _, _, rfl, ⟨_, rfl, B, cb, rfl, rfl, hcb⟩, cs _ _, trivial, trivial⟩
end Go.Proofs.Ytbhoeaijpnjgdaa

namespace Go.Proofs.Ytbhoeaijpnjgdaa
open Go.RowKit
section
variable {P : Program} {b : Frame} {a : Act} {k : List Item} {cs : List Frame} {w : World} {Q : Exit → Act → World → Prop} {Fc : Fence} {nn : Nat}
theorem stepR_scope {c : Code} : step P (lone (b.atR a (.code (.scope c) :: k)) cs w) = .next (lone (b.atR a (.code c :: .inScope c :: k)) cs w) :=
 step_lone_go (by simp [stepG, stepG.exec, Frame.atR, Frame.at])
theorem stepR_inScope {c : Code} : step P (lone (b.atR a (.inScope c :: k)) cs w) = .next (lone (b.atR a k) cs w) :=
 step_lone_go (by simp [stepG, stepG.exec, Frame.atR, Frame.at])
theorem wpIn_scope {c : Code} (h : c.wpIn Fc nn P (Exit.noGoto Q) a w) : (Code.scope c).wpIn Fc nn P Q a w := by
 intro b k cs hro hb hr
 have h0 : (lone (b.atR a (.code (.scope c) :: k)) cs w).fenced P Fc := fenced_calm hb hr rfl
 obtain ⟨e, a₁, w₁, hq, harr⟩ := h b (.inScope c :: k) cs hro hb hr
 cases e with
 | normal => exact ⟨.normal, a₁, w₁, hq, .head h0 stepR_scope (StepsIn.trans harr (.one (fenced_calm hb hr rfl) stepR_inScope))⟩
 | exit id =>
  have hx : exitTo id (.inScope c :: k) = exitTo id k := by simp [exitTo]
  exact ⟨.exit id, a₁, w₁, hq, fun k' hk => .head h0 stepR_scope (harr.1 k' (by rw [hx]; exact hk)),
   fun hr' hk => let ⟨k₁, h1, h2⟩ := harr.2 hr' (by rw [hx]; exact hk); ⟨k₁, h1, .head h0 stepR_scope h2⟩⟩
 | goto l => exact hq.elim
 | ret => exact ⟨_, a₁, w₁, hq, .of_steps (.one h0 stepR_scope) harr⟩
 | panic ch => exact ⟨_, a₁, w₁, hq, .of_steps (.one h0 stepR_scope) harr⟩
 | outgrown => exact ⟨_, a₁, w₁, hq, .of_steps (.one h0 stepR_scope) harr⟩
end
def noGo (Q : Exit → Fr → List Chunk → Prop) : Exit → Fr → List Chunk → Prop
 | .goto _ => fun _ _ => False
 | e => Q e
theorem tr_scope {P : Program} {N : NR} {M : Nat → Prop} {w0 : World} {L : Fr} {F : List Chunk} {c : Code} {Q : Exit → Fr → List Chunk → Prop} (h : Tr P N M w0 c L F (noGo Q)) : Tr P N M w0 (.scope c) L F Q := fun ds M1 w1 hb a w hl hm => by
 refine wpIn_scope (wpIn_mono (h ds M1 w1 hb a w hl hm) fun e a' w' hq => ?_)
 obtain ⟨ds', M2, w2, hb', L', F', h1, h2, h3⟩ := hq
 cases e with
 | goto l => exact h3.elim
 | _ => exact ⟨ds', M2, w2, hb', L', F', h1, h2, h3⟩
theorem rows_join {e : TypeId} : ∀ (qs rs : List RowM) (F : List Chunk), CSub (rowsCh e rs :: rowsCh e qs :: F) (rowsCh e (rs ++ qs) :: F)
 | [], rs, F => by
  rw [List.append_nil]
  exact CSub.cons _ (CSub.drop _ _)
 | q :: qs, rs, F => by
  have h1 : CSub (rowsCh e rs :: rowsCh e (q :: qs) :: F) (rowsCh e rs :: q.ch e :: rowsCh e qs :: F) := CSub.cons _ (rows_uncons F)
  have h2 := h1.trans (rows_snoc (e := e) (rs := rs) (r := q) (rowsCh e qs :: F))
  have h3 := h2.trans (rows_join qs (rs ++ [q]) F)
  rwa [List.append_assoc, List.singleton_append] at h3
def prs (ps : List (Value × Value)) : List Value := ps.flatMap fun p => [p.1, p.2]
@[simp] theorem prs_length : ∀ ps, (prs ps).length = ps.length * 2
 | [] => rfl
 | p :: ps => by
  have := prs_length ps
  unfold prs at this ⊢
  rw [List.flatMap_cons, List.length_append, this, List.length_cons]; simp; omega
theorem prs_app (ps qs : List (Value × Value)) : prs (ps ++ qs) = prs ps ++ prs qs := by unfold prs; rw [List.flatMap_append]
def prD : Value × Value := (.int .i64 0, .int .i64 0)
theorem prs_get : ∀ (ps : List (Value × Value)) (j : Nat), j < ps.length → (prs ps)[j * 2]? = some (ps.getD j prD).1 ∧ (prs ps)[j * 2 + 1]? = some (ps.getD j prD).2
 | [], j, h => by simp at h
 | p :: ps, 0, _ => ⟨rfl, rfl⟩
 | p :: ps, j + 1, h => by
  have := prs_get ps j (by simpa using h)
  unfold prs at this ⊢
  rw [List.flatMap_cons, List.getD_cons_succ, show (j + 1) * 2 = j * 2 + 2 by omega, show j * 2 + 2 + 1 = j * 2 + 1 + 2 by omega]
  simpa using this
def ow2 (A : Option Addr) (e : TypeId) (cap : Nat) (ps : List (Value × Value)) : Chunk where
 foot b := ∃ ad, A = some ad ∧ ad.block = b
 excl := True
 sat w := w.ownsRow 0 e 2 (.slice A ps.length cap) ps.length (prs ps)
 loc w w' h hs := by
  obtain ⟨h0, h1⟩ := hs
  refine ⟨h0, ?_⟩
  rcases h1 with h1 | ⟨g, c, cur, hv, hb, hh, hr⟩
  ·exact .inl h1
  ·refine .inr ⟨g, c, cur, hv, hb, ?_, hr⟩
   simp only [Value.slice.injEq] at hv
   rw [h g ⟨_, hv.1, rfl⟩]
   exact hh
 cel w b hs hb := by
  obtain ⟨ad, rfl, rfl⟩ := hb
  rcases hs.2 with ⟨h1, _⟩ | ⟨g, c, cur, hv, hb, hh, _⟩
  ·cases h1
  ·simp only [Value.slice.injEq, Option.some.injEq] at hv
   rw [hv.1]
   exact ⟨_, hh, rfl⟩
theorem ow2_reads {A : Option Addr} {e : TypeId} {cap : Nat} {ps : List (Value × Value)} {w : World} (h : (ow2 A e cap ps).sat w) : (ro A (prs ps)).sat w := by
 intro j hj
 rcases h.2 with ⟨_, h0⟩ | ⟨g, c, cur, hv, _⟩
 ·rw [prs_length] at hj; omega
 ·simp only [Value.slice.injEq] at hv
  obtain ⟨rfl, _⟩ := hv
  exact ⟨_, rfl, World.ownsRow.cells h (g := g) rfl j _ (List.getElem?_eq_getElem hj)⟩
instance Rd.ofOw2 (F : List Chunk) (A : Option Addr) (e : TypeId) (cap : Nat) (ps : List (Value × Value)) : Rd (ow2 A e cap ps :: F) A (prs ps) := ⟨fun _ _ _ hm => ow2_reads (hm.sat _ (List.mem_cons_self ..)), fun b hb => ⟨_, List.mem_cons_self .., hb.2⟩⟩
class PkO2 (F : List Chunk) (A : Option Addr) (e : outParam TypeId) (cap : outParam Nat) (ps : outParam (List (Value × Value))) (F' : outParam (List Chunk)) : Prop where
 perm : F.Perm (ow2 A e cap ps :: F')
instance PkO2.head (F : List Chunk) (A : Option Addr) (e : TypeId) (cap : Nat) (ps : List (Value × Value)) : PkO2 (ow2 A e cap ps :: F) A e cap ps F := ⟨List.Perm.refl _⟩
instance PkO2.tail (c : Chunk) (F F' : List Chunk) (A : Option Addr) (e : TypeId) (cap : Nat) (ps : List (Value × Value)) [h : PkO2 F A e cap ps F'] : PkO2 (c :: F) A e cap ps (c :: F') := ⟨(h.perm.cons c).trans (List.Perm.swap ..)⟩
class S2Ty (P : Program) (t : TypeId) (e : outParam TypeId) (bytes : outParam Nat) : Prop where
 und : P.underlying t = some (.slice e)
 inf : ∃ z, (P.info? e).map (fun i => (i.zero, i.size, i.bytes)) = some (some z, 2, bytes) ∧ z.cells.size = 2
section
variable {P : Program} {N : NB} {M : Nat → Prop} {w0 : World} {L : Fr} {F F' : List Chunk} {K : Fr → List Chunk → Prop} {b : Bool} {o : Oper} {v : Value} {x y : Operand} {t t' e : TypeId} {k bytes : Nat}
theorem nil_mem2 (e : TypeId) {w : World} (hm : Mem M w0 w F) : Mem M w0 w (ow2 none e 0 [] :: F) := by
 refine ⟨hm.upd, fun c hc => ?_, List.pairwise_cons.2 ⟨fun c _ _ b' hb' => ?_, hm.sep⟩, fun c hc hex b' hb' => ?_⟩
 ·rcases List.mem_cons.1 hc with rfl | hc
  ·exact World.ownsRow_nil _ _ _ _
  ·exact hm.sat c hc
 ·obtain ⟨ad, h1, _⟩ := hb'; cases h1
 ·rcases List.mem_cons.1 hc with rfl | hc
  ·obtain ⟨ad, h1, _⟩ := hb'; cases h1
  ·exact hm.own c hc hex b' hb'
theorem tr_nil2 {N : NR} (e : TypeId) {c : Code} {Q : Exit → Fr → List Chunk → Prop} (h : Tr P N M w0 c L (ow2 none e 0 [] :: F) Q) : Tr P N M w0 c L F Q := fun ds M1 w1 hb a w hl hm => h ds M1 w1 hb a w hl (nil_mem2 e hm)
theorem rIdxT {A : Option Addr} {n c : Nat} {i : Int} {vs : List Value} (ho : o.op = .indexAddr t x y) [h : SsTy P t e 2] (hx : ev L x = some (.slice A n c)) (hy : ev L y = some (.int .i64 i)) [hr : Rd F A vs] (h0 : 0 ≤ i) (h1 : i < n) (h2 : i.toNat * 2 < vs.length) : Stl P N M w0 o L F (.pointer (some ((A.getD a0).add (i.toNat * 2)))) := fun a w hl hm => by
 obtain ⟨ad, rfl, _⟩ := hr.rd M w0 w hm _ h2
 simp [execOp, ho, hl.eval hx, hl.eval hy, Instr.indexAt, asIntOf, run_und h.und, h0, h1, run_size1 h.size]
theorem rLdT {A : Option Addr} {j : Nat} {ps : List (Value × Value)} (ho : o.op = .load t x) [h : AgTy P t 2] (hx : ev L x = some (.pointer (some ((A.getD a0).add (j * 2))))) [hr : Rd F A (prs ps)] (hj : j < ps.length) : Stl P N M w0 o L F (.agg #[(ps.getD j prD).1, (ps.getD j prD).2]) := fun a w hl hm => by
 obtain ⟨fs, hu⟩ := h.und
 have hrd := hr.rd M w0 w hm
 have hg := prs_get ps j hj
 obtain ⟨ad, rfl, _⟩ := hrd (j * 2) (by rw [prs_length]; omega)
 have hag : (isAgg t).run P w = .ok true w := by simp [isAgg, run_und hu]
 have hld : (loadCells (ad.add (j * 2)) 2).run P w = .ok #[(ps.getD j prD).1, (ps.getD j prD).2] w := by
  have h0 := loadCellsFrom_ok (P := P) (w := w) (ad := ad.add (j * 2)) [(ps.getD j prD).1, (ps.getD j prD).2] 0 #[] (fun i hi => by
   have hi2 : i < 2 := by simpa using hi
   obtain ⟨ad', h1, hc⟩ := hrd (j * 2 + i) (by rw [prs_length]; omega)
   simp only [Option.some.injEq] at h1
   subst h1
   rw [Nat.zero_add, add_add, hc]
   have h3 : (prs ps)[j * 2 + i]? = some ([(ps.getD j prD).1, (ps.getD j prD).2][i]) := by
    rcases Nat.lt_or_ge i 1 with h4 | h4
    ·have : i = 0 := by omega
     subst this; exact hg.1
    ·have : i = 1 := by omega
     subst this; exact hg.2
   rw [← h3, List.getElem?_eq_getElem])
  simpa [loadCells] using h0
 have hsz := run_size1 h.inf w
 simp [execOp, ho, hl.eval hx, Instr.loadAt, Instr.sureAddr, loadVar, hag, hsz, hld]
theorem rLdT0 {A : Option Addr} {j : Nat} {ps : List (Value × Value)} (ho : o.op = .load t x) [h : ScTy P t] (hx : ev L x = some (.pointer (some ((A.getD a0).add (j * 2 + 0))))) [hr : Rd F A (prs ps)] (hj : j < ps.length) : Stl P N M w0 o L F (ps.getD j prD).1 := rLdV ho (h := h) hx (hr := hr) (prs_get ps j hj).1
theorem rLdT1 {A : Option Addr} {j : Nat} {ps : List (Value × Value)} (ho : o.op = .load t x) [h : ScTy P t] (hx : ev L x = some (.pointer (some ((A.getD a0).add (j * 2 + 1))))) [hr : Rd F A (prs ps)] (hj : j < ps.length) : Stl P N M w0 o L F (ps.getD j prD).2 := rLdV ho (h := h) hx (hr := hr) (prs_get ps j hj).2
theorem eApp2 {A : Option Addr} {B : Addr} {n c cap : Nat} {ps : List (Value × Value)} {u0 u1 : Value} (ho : o.op = .call { callee := .builtin .append, args := #[x, y], argTypes := #[t, t] }) {d : Nat} (hdd : o.dst = some d) (hd : Nat.ble (d + 1) N.n = true) [h : S2Ty P t e bytes]
  (hx : ev L x = some (.slice A n cap)) (hy : ev L y = some (.slice (some B) 1 c)) [hp : PkO2 F A e cap ps F'] [hr : Rd F (some B) [u0, u1]] (hn : n = ps.length) (hone : [u0, u1].all (·.oneCell') = true) (hb : (ps.length + 1) * bytes ≤ 140737488355328) (hlen : ps.length + 1 ≤ 1000000000)
  (hK : ∀ (A' : Option Addr) (cap' : Nat), K (addL d (.slice A' (ps ++ [(u0, u1)]).length cap') L) (ow2 A' e cap' (ps ++ [(u0, u1)]) :: F')) : Eff P N M w0 false o L F K := fun a w hl hm => by
 subst hn
 obtain ⟨z, hzi, hzs⟩ := h.inf
 obtain ⟨i, hi, hz, hs, hby⟩ : ∃ i, P.info? e = some i ∧ i.zero = some z ∧ i.size = 2 ∧ i.bytes = bytes := by
  cases hi : P.info? e with
  | none => simp [hi] at hzi
  | some i =>
   simp only [hi, Option.map_some, Option.some.injEq, Prod.mk.injEq] at hzi
   exact ⟨i, rfl, hzi.1, hzi.2.1, hzi.2.2⟩
 have hmp := hm.perm hp.perm
 have hown : w.ownsRow 0 e 2 (.slice A ps.length cap) ps.length (prs ps) := hmp.sat _ (List.mem_cons_self ..)
 have hcells := hr.rd M w0 w hm
 obtain ⟨v', w', h1, h2, h3, _, h5⟩ := run_append_own_at (P := P) w 0 t o.type e i z 2 bytes h.und hi hz hs hby hzs (by omega) (.slice A ps.length cap) ps.length (prs ps) hown B 1 c [u0, u1] rfl
  (fun j u hu => by
   obtain ⟨hj, rfl⟩ := List.getElem?_eq_some_iff.1 hu
   obtain ⟨ad', h1, h2⟩ := hcells j hj
   simp only [Option.some.injEq] at h1
   subst h1
   exact h2) (fun u hu => List.all_eq_true.1 hone u hu) (by simp only [maxLen]; omega) hb (Nat.zero_le _)
 obtain ⟨A', cap', rfl, h6⟩ : ∃ A' cap', v' = .slice A' (ps.length + 1) cap' ∧ (∀ ad, A' = some ad → A = some ad ∨ ad.block = w.heap.size) := by
  rcases h2.2 with ⟨rfl, h0⟩ | ⟨g, cp, cur, rfl, _⟩
  ·omega
  ·refine ⟨_, _, rfl, fun ad had => ?_⟩
   simp only [Option.some.injEq] at had
   subst had
   rcases h5 with h5 | h5
   ·left
    rcases hown.2 with ⟨h3, _⟩ | ⟨g', cp', cur', h3, _⟩
    ·rw [h3] at h5; simp [Value.ownBlock] at h5
    ·simp only [Value.slice.injEq] at h3
     obtain ⟨rfl, _⟩ := h3
     simp only [Value.ownBlock, Option.some.injEq] at h5
     rw [h5]
   ·right
    simpa [Value.ownBlock] using h5
 have hrun : (execOp a.eval o).run P w = .ok (.value (.slice A' (ps.length + 1) cap')) w' := by
  simp only [execOp, ho, resolve, invoke, builtin, Sem.run_bind, Sem.run_pure, Result.andThen_ok, List.map_toArray, List.map_cons, List.map_nil, hl.eval hx, hl.eval hy, h1]
 simp only [Oper.wp, hrun, Oper.upon_value]
 have hK' := hK A' cap'
 rw [List.length_append] at hK'
 refine ⟨fun hc => absurd hc (by simp), _, _, hl.add hdd hd _, ?_, hK'⟩
 have hlen' : (ps ++ [(u0, u1)]).length = ps.length + 1 := by simp
 refine hmp.change (by exact trivial) ⟨h3.os, h3.tape, h3.output, h3.size, fun k hk hc => h3.block k hk (fun hkb => hc ?_)⟩ (by
  show w'.ownsRow 0 e 2 (.slice A' (ps ++ [(u0, u1)]).length cap') (ps ++ [(u0, u1)]).length (prs (ps ++ [(u0, u1)]))
  rw [hlen', prs_app]; exact h2) (fun b' hb' => ?_)
 ·cases A with
  | none => simp [Value.ownBlock] at hkb
  | some ad => exact ⟨ad, rfl, by simpa [Value.ownBlock] using hkb.symm⟩
 ·obtain ⟨ad, rfl, rfl⟩ := hb'
  rcases h6 ad rfl with h7 | h7
  ·exact .inl ⟨ad, h7, rfl⟩
  ·exact .inr (by omega)
theorem eApp2G {A B : Option Addr} {n m c cap : Nat} {ps qs : List (Value × Value)} (ho : o.op = .call { callee := .builtin .append, args := #[x, y], argTypes := #[t, t] }) {d : Nat} (hdd : o.dst = some d) (hd : Nat.ble (d + 1) N.n = true) [h : S2Ty P t e bytes]
  (hx : ev L x = some (.slice A n cap)) (hy : ev L y = some (.slice B m c)) [hp : PkO2 F A e cap ps F'] [hr : Rd F B (prs qs)] (hn : n = ps.length) (hm' : m = qs.length) (hone : (prs qs).all (·.oneCell') = true) (hb : (ps.length + qs.length) * bytes ≤ 140737488355328) (hlen : ps.length + qs.length ≤ 1000000000)
  (hK : ∀ (A' : Option Addr) (cap' : Nat), K (addL d (.slice A' (ps ++ qs).length cap') L) (ow2 A' e cap' (ps ++ qs) :: F')) : Eff P N M w0 false o L F K := fun a w hl hm => by
 subst hn
 subst hm'
 obtain ⟨z, hzi, hzs⟩ := h.inf
 obtain ⟨i, hi, hz, hs, hby⟩ : ∃ i, P.info? e = some i ∧ i.zero = some z ∧ i.size = 2 ∧ i.bytes = bytes := by
  cases hi : P.info? e with
  | none => simp [hi] at hzi
  | some i =>
   simp only [hi, Option.map_some, Option.some.injEq, Prod.mk.injEq] at hzi
   exact ⟨i, rfl, hzi.1, hzi.2.1, hzi.2.2⟩
 have hmp := hm.perm hp.perm
 have hown : w.ownsRow 0 e 2 (.slice A ps.length cap) ps.length (prs ps) := hmp.sat _ (List.mem_cons_self ..)
 have hcells := hr.rd M w0 w hm
 have hlen' : (ps ++ qs).length = ps.length + qs.length := List.length_append
 have key : ∃ (A' : Option Addr) (cap' : Nat) (w' : World), (Builtin.append_ #[t, t] o.type #[.slice A ps.length cap, .slice B qs.length c]).run P w = .ok (.slice A' (ps.length + qs.length) cap') w' ∧
   w'.ownsRow 0 e 2 (.slice A' (ps.length + qs.length) cap') (ps.length + qs.length) (prs (ps ++ qs)) ∧ w.grownBy w' (Value.slice A ps.length cap).ownBlock ∧ (∀ ad, A' = some ad → A = some ad ∨ ad.block = w.heap.size) := by
  cases B with
  | none =>
   have hqs : qs = [] := by
    rcases Nat.eq_zero_or_pos qs.length with h0 | h0
    ·exact List.eq_nil_of_length_eq_zero h0
    ·obtain ⟨ad, h1, _⟩ := hcells 0 (by rw [prs_length]; omega); cases h1
   subst hqs
   have hrun : (Builtin.append_ #[t, t] o.type #[.slice A ps.length cap, .slice none 0 c]).run P w = .ok (.slice A ps.length cap) w := by
    rcases hown.2 with ⟨h1, h2⟩ | ⟨g, cp, cur, h1, _, _, hnc, _⟩
    ·rw [h1]; simp [Builtin.append_, run_underlying h.und, sizeOf, typeInfo, hi, Builtin.lenOf, Builtin.firstCells]
    ·rw [h1]; simp [Builtin.append_, run_underlying h.und, sizeOf, typeInfo, hi, Builtin.lenOf, Builtin.firstCells, hnc, storeCells]
   exact ⟨A, cap, w, hrun, by simpa using hown, World.grownBy.refl w _, fun ad h => .inl h⟩
  | some ad =>
   obtain ⟨v', w', h1, h2, h3, h4, h5⟩ := run_append_own_at (P := P) w 0 t o.type e i z 2 bytes h.und hi hz hs hby hzs (by omega) (.slice A ps.length cap) ps.length (prs ps) hown ad qs.length c (prs qs) (by rw [prs_length])
    (fun j u hu => by
     obtain ⟨hj, rfl⟩ := List.getElem?_eq_some_iff.1 hu
     obtain ⟨ad', h1, h2⟩ := hcells j hj
     simp only [Option.some.injEq] at h1
     subst h1
     exact h2) (fun u hu => List.all_eq_true.1 hone u hu) (by simp only [maxLen]; omega) hb (Nat.zero_le _)
   rw [← prs_app] at h2
   rcases h2.2 with ⟨rfl, h0⟩ | ⟨g, cp, cur, rfl, _⟩
   ·exact ⟨none, 0, w', by rw [h1, h0], by rw [h0] at h2 ⊢; exact h2, h3, fun ad h => by cases h⟩
   ·refine ⟨_, _, w', h1, h2, h3, fun ad' had => ?_⟩
    simp only [Option.some.injEq] at had
    subst had
    rcases h5 with h5 | h5
    ·left
     rcases hown.2 with ⟨h3, _⟩ | ⟨g', cp', cur', h3, _⟩
     ·rw [h3] at h5; simp [Value.ownBlock] at h5
     ·simp only [Value.slice.injEq] at h3
      obtain ⟨rfl, _⟩ := h3
      simp only [Value.ownBlock, Option.some.injEq] at h5
      rw [h5]
    ·right
     simpa [Value.ownBlock] using h5
 obtain ⟨A', cap', w', h1, h2, h3, h6⟩ := key
 have hrun : (execOp a.eval o).run P w = .ok (.value (.slice A' (ps.length + qs.length) cap')) w' := by
  simp only [execOp, ho, resolve, invoke, builtin, Sem.run_bind, Sem.run_pure, Result.andThen_ok, List.map_toArray, List.map_cons, List.map_nil, hl.eval hx, hl.eval hy, h1]
 simp only [Oper.wp, hrun, Oper.upon_value]
 have hK' := hK A' cap'
 rw [List.length_append] at hK'
 refine ⟨fun hc => absurd hc (by simp), _, _, hl.add hdd hd _, ?_, hK'⟩
 refine hmp.change (by exact trivial) ⟨h3.os, h3.tape, h3.output, h3.size, fun k hk hc => h3.block k hk (fun hkb => hc ?_)⟩ (by
  show w'.ownsRow 0 e 2 (.slice A' (ps ++ qs).length cap') (ps ++ qs).length (prs (ps ++ qs))
  rw [hlen']; exact h2) (fun b' hb' => ?_)
 ·cases A with
  | none => simp [Value.ownBlock] at hkb
  | some ad => exact ⟨ad, rfl, by simpa [Value.ownBlock] using hkb.symm⟩
 ·obtain ⟨ad, rfl, rfl⟩ := hb'
  rcases h6 ad rfl with h7 | h7
  ·exact .inl ⟨ad, h7, rfl⟩
  ·exact .inr (by omega)
theorem eMake0 {n : Int} {z : Value} (ho : o.op = .makeSlice t x y) {d : Nat} (hdd : o.dst = some d) (hd : Nat.ble (d + 1) N.n = true) [h : SlTy P t e z bytes] (hx : ev L x = some (.int .i64 0)) (hy : ev L y = some (.int .i64 n)) (h0 : 0 ≤ n) (hb : bytes * n.toNat ≤ 281474976710656) (h63 : n ≤ 1000000000)
  (hK : ∀ A : Option Addr, K (addL d (.slice A 0 n.toNat) L) (ow A e n.toNat [] :: F)) : Eff P N M w0 b o L F K := eff_value hdd hd fun a w hl hm => by
 obtain ⟨i, hi, hz, hs, hby⟩ := info_parts h.inf
 obtain ⟨k, rfl⟩ := Int.eq_ofNat_of_zero_le h0
 simp only [Int.toNat_natCast] at hb hK
 obtain ⟨w', h1, h2, h3⟩ := run_make_own (P := P) w 0 t e i z 1 h.und hi hz hs .i64 .i64 k (by rw [hby]; exact hb) (by simp only [maxLen]; omega) (Nat.zero_le _)
 have hx' := ext_grown h3
 have hm' := new_ow (e := e) (vs := []) (cap := k) hx' hm h2
 refine ⟨_, w', ?_, hx', _, hm', hK _⟩
 simp only [execOp, ho, hl.eval hx, hl.eval hy, Sem.run_bind, h1, Result.andThen_ok, Sem.run_pure]
theorem eLit3I {n0 n1 n2 : Int} {x2 : Operand} {z : Value} (ho : o.op = .buildSlice t 3 #[(0, x), (1, y), (2, x2)]) {d : Nat} (hdd : o.dst = some d) (hd : Nat.ble (d + 1) N.n = true) [h : SlTy P t e z bytes] (hx : ev L x = some (.int .i64 n0)) (hy : ev L y = some (.int .i64 n1)) (hx2 : ev L x2 = some (.int .i64 n2)) (hK : ∀ A : Option Addr, K (addL d (.slice A 3 3) L) (ow A e 3 (ints [n0, n1, n2]) :: F)) : Eff P N M w0 b o L F K :=
 eLit_of (e := e) (vs := [.int .i64 n0, .int .i64 n1, .int .i64 n2]) ho hdd hd rfl (by omega) (fun a w hl => by
  refine run_lit w h (by omega) (by omega) ?_
  simp [hl.eval hx, hl.eval hy, hl.eval hx2, Instr.fill, int_cells, Array.range_succ, range0]) hK
end
end Go.Proofs.Ytbhoeaijpnjgdaa

set_option maxRecDepth 100000
namespace Go.Proofs.Ytbhoeaijpnjgdaa
open Go.RowKit
instance tyPw : AgTy Try.prog 124 2 := agTy_of (by kernel_rfl)
instance tyPw0 : FdTy Try.prog 124 0 0 := ⟨by kernel_rfl⟩
instance tyPw1 : FdTy Try.prog 124 1 1 := ⟨by kernel_rfl⟩
instance zrPw : ZrTy Try.prog 124 [.int .i64 0, .int .i64 0] := ⟨.agg #[.int .i64 0, .int .i64 0], by kernel_rfl, rfl⟩
instance bdPw : BdTy Try.prog 124 [.int .i64 0, .int .i64 0] [(0, 1), (1, 1)] := bdTy_of (z := .agg #[.int .i64 0, .int .i64 0]) (by kernel_rfl) (by kernel_rfl) (by kernel_rfl) rfl
instance ssPw : SsTy Try.prog 118 124 2 := ⟨by kernel_rfl, by kernel_rfl⟩
instance s2Pw : S2Ty Try.prog 118 124 16 := ⟨by kernel_rfl, .agg #[.int .i64 0, .int .i64 0], by kernel_rfl, rfl⟩
instance tySPw : ScTy Try.prog 118 := scTy_of (by kernel_rfl)
def pws (ps : List (Int × Int)) : List (Value × Value) := ps.map fun q => (.int .i64 q.1, .int .i64 q.2)
@[simp] theorem pws_length (ps : List (Int × Int)) : (pws ps).length = ps.length := by simp [pws]
theorem pws_get (ps : List (Int × Int)) (j : Nat) (h : j < ps.length) : (pws ps).getD j prD = (.int .i64 (ps.getD j (0, 0)).1, .int .i64 (ps.getD j (0, 0)).2) := by
 unfold pws
 rw [List.getD_eq_getElem?_getD, List.getElem?_map, List.getD_eq_getElem?_getD, List.getElem?_eq_getElem h]; rfl
def PrL (n : Nat) (ps : List (Int × Int)) : Prop := (∀ q ∈ ps, 2 ≤ q.1) ∧ ∀ r : Nat, (∃ q ∈ ps, q.1 = (r : Int)) ↔ (2 ≤ r ∧ (∀ u, 2 ≤ u → u ∣ r → u = r) ∧ r ∣ n)
theorem prL_one : PrL 1 [] := ⟨fun q h => by simp at h, fun r => ⟨fun ⟨q, h, _⟩ => by simp at h, fun ⟨h, _, h1⟩ => by have := Nat.dvd_one.1 h1; omega⟩⟩
theorem prL_two : PrL 2 [(2, 1)] := ⟨fun q h => by simp at h; subst h; exact Int.le_refl _, fun r => by
 constructor
 ·rintro ⟨q, h, h1⟩
  simp at h; subst h
  have hr : r = 2 := by simp at h1; omega
  subst hr
  refine ⟨Nat.le_refl _, fun u h2 hu => ?_, Nat.dvd_refl _⟩
  have := Nat.le_of_dvd (by omega) hu
  omega
 ·rintro ⟨h, _, h1⟩
  have := Nat.le_of_dvd (by omega) h1
  exact ⟨(2, 1), by simp, by simp; omega⟩⟩
theorem num_least2_ent : Enters Try.prog 145 := enters_of Try.func145 (by kernel_rfl) (by kernel_rfl)
theorem num_least2  :
  Pure Try.prog 145 #[.int .i64 2] [] (isV (.int .i64 2)) := by
 refine pure_of (args := [.int .i64 2]) 46 Try.func145 rfl rfl rfl num_least2_ent trivial (fun w0 => ?_)
 refine tS ?_
 refine tR fun _ _ _ => ?_
 refine pV ?_
 refine tr_scope ?_
 refine tS ?_
 refine tS ?_
 refine tR fun _ _ _ => ?_
 refine eV (eLit3I rfl rfl rfl rfl rfl rfl (fun A1 => ?_))
 refine sV (rLen rfl rfl) ?_
 refine pV ?_
 refine tB ?_
 refine tr_loop1 (fun (k : Int) => [(12, .int .i64 k), (10, .slice A1 3 3), (11, .int .i64 3), (0, .int .i64 2)]) (fun (k : Int) => [ow A1 3 3 (ints [2, 3, 5])]) (fun (k : Int) => k = 0) (fun (k : Int) => 0) (0) ⟨rfl, rfl, rfl, rfl, trivial⟩ (by first | exact cs _ _ | exact CSub.refl _) (rfl) (fun k hI => ?_)
 subst hI
 refine tS ?_
 refine tR fun _ _ _ => ?_
 refine pV ?_
 refine tS ?_
 refine tC rfl (fun h2 => ?_) (fun h2 => ?_)
 ·try simp only [zbA] at h2
  refine tK ?_
  refine tS ?_
  refine tB ?_
  refine tS ?_
  refine tR fun _ _ _ => ?_
  refine sV (rIdxI rfl rfl rfl (by omega) (by omega) (by simp)) ?_
  refine sV (rLdI rfl rfl (by simp)) ?_
  refine pV ?_
  refine tS ?_
  rw [show ([2, 3, 5] : List Int).getD (Int.toNat 0) 0 = 2 from rfl]
  refine tR fun _ _ _ => ?_
  iterate 2 refine pV ?_
  refine sV (rRem rfl rfl rfl (by omega) (by omega)) ?_
  refine pV ?_
  refine tC rfl (fun h4 => ?_) (fun h4 => ?_)
  ·try simp only [zbA] at h4
   refine tS ?_
   refine tR fun _ _ _ => ?_
   iterate 2 refine pV ?_
   exact tr_ret ⟨trivial, _, _, rfl, ⟨rfl, rfl⟩, CSub.nil _, trivial⟩
  ·try simp only [zbA] at h4
   exact absurd (by decide) h4 --done
 ·try simp only [zbA] at h2
  omega --done
theorem num_Factor1_ent : Enters Try.prog 101 := enters_of Try.func101 (by kernel_rfl) (by kernel_rfl)
theorem num_Factor1  :
  Pure Try.prog 101 #[.int .i64 1] [] (one (fun v ch => ∃ B c, v = .tuple #[.slice B ([] : List (Int × Int)).length c, .int .i64 0] ∧ ch = ow2 B 124 c (pws []))) := by
 refine pure_of (args := [.int .i64 1]) 32 Try.func101 rfl rfl rfl num_Factor1_ent trivial (fun w0 => ?_)
 refine tS ?_
 refine tR fun _ _ _ => ?_
 iterate 2 refine pV ?_
 refine tS ?_
 refine tS ?_
 refine tR fun _ _ _ => ?_
 refine pV ?_
 refine eV (eCallV rfl rfl rfl (num_in 1 1) ⟨rfl, rfl, trivial⟩ ?_)
 refine sV (rNotB rfl rfl) ?_
 refine tC rfl (fun h1 => ?_) (fun h1 => ?_)
 ·try simp only [zbA] at h1
  simp at h1 --done
 ·try simp only [zbA] at h1
  refine tK ?_
  refine tS ?_
  refine tR fun _ _ _ => ?_
  refine pV ?_
  refine tS ?_
  refine tB ?_
  refine tr_nil2 124 ?_
  refine tr_loop1 (fun (n : Int) => [(0, .int .i64 n), (4, .slice none 0 0), (2, .slice none 0 0), (3, .int .i64 0)]) (fun (n : Int) => [ow2 none 124 0 []]) (fun (n : Int) => n = 1) (fun (n : Int) => 0) (1) ⟨rfl, rfl, rfl, rfl, trivial⟩ (by first | exact cs _ _ | exact CSub.refl _) (rfl) (fun n hI => ?_)
  subst hI
  refine tS ?_
  refine tS ?_
  refine tR fun _ _ _ => ?_
  iterate 2 refine pV ?_
  refine tC rfl (fun h4 => ?_) (fun h4 => ?_)
  ·try simp only [zbA] at h4
   simp at h4 --done
  ·try simp only [zbA] at h4
   refine tE ?_
   refine tS ?_
   refine tr_chunks [ow2 none 124 0 (pws [])] (CSub.refl _) ?_
   refine tR fun _ _ _ => ?_
   iterate 3 refine pV ?_
   exact tr_ret ⟨trivial, _, _, rfl, ⟨_, rfl, none, 0, rfl, rfl⟩, cs _ _, trivial, trivial⟩
theorem num_Factor2_ent : Enters Try.prog 101 := enters_of Try.func101 (by kernel_rfl) (by kernel_rfl)
theorem num_Factor2  :
  Pure Try.prog 101 #[.int .i64 2] [] (one (fun v ch => ∃ B c, v = .tuple #[.slice B ([(2, 1)] : List (Int × Int)).length c, .int .i64 0] ∧ ch = ow2 B 124 c (pws [(2, 1)]))) := by
 refine pure_of (args := [.int .i64 2]) 32 Try.func101 rfl rfl rfl num_Factor2_ent trivial (fun w0 => ?_)
 refine tS ?_
 refine tR fun _ _ _ => ?_
 iterate 2 refine pV ?_
 refine tS ?_
 refine tS ?_
 refine tR fun _ _ _ => ?_
 refine pV ?_
 refine eV (eCallV rfl rfl rfl (num_in 2 1) ⟨rfl, rfl, trivial⟩ ?_)
 refine sV (rNotB rfl rfl) ?_
 refine tC rfl (fun h1 => ?_) (fun h1 => ?_)
 ·try simp only [zbA] at h1
  simp at h1 --done
 ·try simp only [zbA] at h1
  refine tK ?_
  refine tS ?_
  refine tR fun _ _ _ => ?_
  refine pV ?_
  refine tS ?_
  refine tB ?_
  refine tr_nil2 124 ?_
  refine tr_loop4 (fun (n : Int) (B : Option Addr) (cb : Nat) (ps : List (Int × Int)) => [(0, .int .i64 n), (4, .slice B ps.length cb), (2, .slice none 0 0), (3, .int .i64 0)]) (fun (n : Int) (B : Option Addr) (cb : Nat) (ps : List (Int × Int)) => [ow2 B 124 cb (pws ps)]) (fun (n : Int) (B : Option Addr) (cb : Nat) (ps : List (Int × Int)) => (n = 2 ∧ ps = []) ∨ (n = 1 ∧ ps = [(2, 1)])) (fun (n : Int) (B : Option Addr) (cb : Nat) (ps : List (Int × Int)) => n.toNat) (2) (none) (0) ([]) ⟨rfl, rfl, rfl, rfl, trivial⟩ (by first | exact cs _ _ | exact CSub.refl _) (.inl ⟨rfl, rfl⟩) (fun n B cb ps hI => ?_)
  refine tS ?_
  refine tS ?_
  refine tR fun _ _ _ => ?_
  iterate 2 refine pV ?_
  refine tC rfl (fun h4 => ?_) (fun h4 => ?_)
  ·try simp only [zbA] at h4
   refine tK ?_
   refine tB ?_
   refine tS ?_
   obtain ⟨rfl, rfl⟩ : n = 2 ∧ ps = [] := hI.resolve_right (fun h => by omega)
   refine tR fun _ _ _ => ?_
   refine pV ?_
   refine eV (eCallV rfl rfl rfl (num_least2) ⟨rfl, trivial⟩ ?_)
   refine pV ?_
   refine tS ?_
   refine tR fun _ _ _ => ?_
   refine pV ?_
   refine sV (rBuild rfl rfl) ?_
   refine eV (eAlloc rfl rfl rfl (fun p6 => ?_))
   refine eV (eStS rfl rfl rfl rfl rfl rfl ?_)
   refine tS ?_
   refine tB ?_
   refine tr_loop2 (fun (t : Int) (e : Int) => [(0, .int .i64 t), (4, .slice B ([] : List (Int × Int)).length cb), (5, .int .i64 2), (2, .slice none 0 0), (3, .int .i64 0), (6, .pointer (some p6))]) (fun (t : Int) (e : Int) => [blk p6 124 [.int .i64 2, .int .i64 e], ow2 B 124 cb (pws [])]) (fun (t : Int) (e : Int) => (t = 2 ∧ e = 0) ∨ (t = 1 ∧ e = 1)) (fun (t : Int) (e : Int) => t.toNat) (2) (0) ⟨rfl, rfl, rfl, rfl, rfl, rfl, trivial⟩ (by first | exact cs _ _ | exact CSub.refl _) (.inl ⟨rfl, rfl⟩) (fun t e hI => ?_)
   refine tS ?_
   refine tS ?_
   refine tR fun _ _ _ => ?_
   iterate 2 refine pV ?_
   refine sV (rRem rfl rfl rfl (by omega) (by omega)) ?_
   refine pV ?_
   refine tC rfl (fun h7 => ?_) (fun h7 => ?_)
   ·try simp only [zbA] at h7
    refine tK ?_
    refine tB ?_
    refine tS ?_
    obtain ⟨rfl, rfl⟩ : t = 2 ∧ e = 0 := by omega
    refine tR fun _ _ _ => ?_
    refine sV (rFld rfl rfl) ?_
    refine sV (rLdF rfl rfl rfl) ?_
    refine sV (rAdd rfl rfl rfl (by omega) (by omega)) ?_
    refine sV (rFld rfl rfl) ?_
    refine eV (eStF rfl rfl rfl rfl rfl (by simp) rfl rfl ?_)
    refine tR fun _ _ _ => ?_
    iterate 2 refine pV ?_
    refine sV (rQuo rfl rfl rfl (by omega) (by omega)) ?_
    refine pV ?_
    refine ⟨1, 1, ⟨rfl, rfl, rfl, rfl, rfl, rfl, trivial⟩, by first | exact cs _ _ | exact CSub.refl _, ?_⟩
    exact ⟨.inr ⟨rfl, rfl⟩, by omega⟩
   ·try simp only [zbA] at h7
    refine tE ?_
    obtain ⟨rfl, rfl⟩ : t = 1 ∧ e = 1 := hI.resolve_left (fun h => h7 (by rw [h.1]; rfl))
    refine tR fun _ _ _ => ?_
    refine pV ?_
    refine sV (rLdS rfl rfl rfl) ?_
    refine eV (eLitS rfl rfl rfl rfl (fun p10 => ?_))
    refine eV (eApp2 rfl rfl rfl rfl rfl (by first | rfl | simp | omega) rfl (by first | (simp; done) | (simp; omega)) (by first | (simp; done) | (simp; omega)) (fun A10a c10a => ?_))
    refine pV ?_
    rw [show pws [] ++ [((Value.int .i64 2 : Value), (Value.int .i64 1 : Value))] = pws [(2, 1)] from rfl]
    refine ⟨1, A10a, c10a, [(2, 1)], ⟨rfl, rfl, rfl, rfl, trivial⟩, by first | exact cs _ _ | exact CSub.refl _, ?_⟩
    exact ⟨.inr ⟨rfl, rfl⟩, by omega⟩
  ·try simp only [zbA] at h4
   refine tE ?_
   refine tS ?_
   refine tR fun _ _ _ => ?_
   iterate 3 refine pV ?_
   obtain ⟨rfl, rfl⟩ : n = 1 ∧ ps = [(2, 1)] := hI.resolve_left (fun h => h4 (by rw [h.1]; decide))
   exact tr_ret ⟨trivial, _, _, rfl, ⟨_, rfl, B, cb, rfl, rfl⟩, cs _ _, trivial, trivial⟩
def facE (l : Nat) : Int := if l = 0 then 7 else if l > 257 then 8 else 0
theorem facE_ok {l : Nat} (h : facE l = 0) : 1 ≤ l ∧ l ≤ 257 := by
 unfold facE at h
 split at h
 ·omega
 ·split at h <;> omega
theorem ne_of_len {p m : Int} {mod : List Int} [hF : IsF p m mod] {f : Po (El p m mod)} (h : 1 ≤ Po.len f) : f ≠ 0 := Po.len_pos_iff.1 (by omega)
theorem fac_enter_ent : Enters Try.prog 48 := enters_of Try.func48 (by kernel_rfl) (by kernel_rfl)
theorem fac_enter (g : GfM) {p m : Int} {mod : List Int} [hF : IsF p m mod] (hg : GOk g p m mod) (A : Option Addr) (n c : Nat) (a : List Int) (hn : n = a.length) (ha9 : a.length ≤ 17592186044415) (he : facE (Po.len (pol a : Po (El p m mod))) = 0) :
  Pure Try.prog 48 #[.pointer (some g.p), .slice A n c] [gfR g, ro A (ints a)] (one (fun v ch => ∃ B cap, v = .tuple #[.slice B (il (pol a : Po (El p m mod))).length cap, .int .i64 0] ∧ (il (pol a : Po (El p m mod))).length ≤ cap ∧ ch = ow B 3 cap (ints (il (pol a : Po (El p m mod)))))) := by
 have hil := il_length (pol a : Po (El p m mod))
 have hle := facE_ok he
 refine pure_of (args := [.pointer (some g.p), .slice A n c]) 20 Try.func48 rfl rfl rfl fac_enter_ent ⟨id, id, trivial⟩ (fun w0 => ?_)
 refine tS ?_
 refine tR fun _ _ _ => ?_
 iterate 2 refine pV ?_
 refine tS ?_
 refine tR fun _ _ _ => ?_
 iterate 2 refine pV ?_
 refine eV (eCall1 rfl rfl rfl (poly_CanonE g hg A n c a hn (by omega)) ⟨rfl, rfl, trivial⟩ ?_)
 rintro _ _ ⟨B1, c1, rfl, hc1, rfl⟩
 refine pV ?_
 refine tS ?_
 refine tB ?_
 refine tS ?_
 refine tR fun _ _ _ => ?_
 refine pV ?_
 refine sV (rLen rfl rfl) ?_
 iterate 2 refine pV ?_
 refine tC rfl (fun h2 => ?_) (fun h2 => ?_)
 ·try simp only [zbA] at h2
  omega --done
 ·try simp only [zbA] at h2
  refine tS ?_
  refine tR fun _ _ _ => ?_
  refine pV ?_
  refine sV (rLen rfl rfl) ?_
  refine sV (rSub rfl rfl rfl (by omega) (by omega)) ?_
  iterate 2 refine pV ?_
  refine tC rfl (fun h4 => ?_) (fun h4 => ?_)
  ·try simp only [zbA] at h4
   omega --done
  ·try simp only [zbA] at h4
   refine tK ?_
   refine tS ?_
   refine tR fun _ _ _ => ?_
   iterate 3 refine pV ?_
   exact tr_ret ⟨trivial, _, _, rfl, ⟨_, rfl, B1, c1, rfl, hc1, rfl⟩, cs _ _, trivial, trivial⟩
theorem poly_Degree_ent : Enters Try.prog 49 := enters_of Try.func49 (by kernel_rfl) (by kernel_rfl)
theorem poly_Degree (g : GfM) {p m : Int} {mod : List Int} [hF : IsF p m mod] (hg : GOk g p m mod) (A : Option Addr) (n c : Nat) (a : List Int) (hn : n = a.length) (ha9 : a.length ≤ 17592186044415) :
  Pure Try.prog 49 #[.pointer (some g.p), .slice A n c] [gfR g, ro A (ints a)] (isV (.int .i64 ((Po.len (pol a : Po (El p m mod)) : Int) - 1))) := by
 have hil := il_length (pol a : Po (El p m mod))
 have hle := il_le (p := p) (m := m) (mod := mod) a
 refine pure_of (args := [.pointer (some g.p), .slice A n c]) 10 Try.func49 rfl rfl rfl poly_Degree_ent ⟨id, id, trivial⟩ (fun w0 => ?_)
 refine tS ?_
 refine tR fun _ _ _ => ?_
 refine pV ?_
 refine tS ?_
 refine tR fun _ _ _ => ?_
 iterate 2 refine pV ?_
 refine eV (eCall1 rfl rfl rfl (poly_CanonE g hg A n c a hn (by omega)) ⟨rfl, rfl, trivial⟩ ?_)
 rintro _ _ ⟨B1, c1, rfl, hc1, rfl⟩
 refine sV (rLen rfl rfl) ?_
 refine sV (rSub rfl rfl rfl (by omega) (by omega)) ?_
 refine pV ?_
 exact tr_ret ⟨trivial, _, _, rfl, ⟨by rw [hil], rfl⟩, CSub.nil _, trivial⟩
section
variable {p m : Int} {mod : List Int} [hF : IsF p m mod]
theorem pol_one1 : (pol [1] : Po (El p m mod)) = 1 := Po.ext fun j => by
 have hq := hF.q2
 rw [cf_pol, Po.cf_one]
 match j with
 | 0 => rw [List.getD_cons_zero, if_pos rfl]; exact el_one
 | j + 1 => rw [List.getD_cons_succ, List.getD_nil, if_neg (by omega), el_zero]
theorem fpow_congr {M x y : Po (El p m mod)} (h : M ∣ x - y) : ∀ n, M ∣ Rg.pow x n - Rg.pow y n
 | 0 => ⟨0, by show (1 : Po (El p m mod)) - 1 = M * 0; grind⟩
 | n + 1 => by
  obtain ⟨a, ha⟩ := h
  obtain ⟨c, hc⟩ := fpow_congr ⟨a, ha⟩ n
  rw [Rg.pow_succ, Rg.pow_succ]
  generalize Rg.pow x n = X1 at *
  generalize Rg.pow y n = Y1 at *
  exact ⟨c * x + Y1 * a, by grind⟩
theorem fpow_dbl (b : Po (El p m mod)) (n : Nat) : Rg.pow (b * b) n = Rg.pow b (2 * n) := by rw [Rg.mul_pow, ← Rg.pow_add, Nat.two_mul]
theorem rem_pow_step {M f b : Po (El p m mod)} {k : Nat} {W : Po (El p m mod)} (hM : M ≠ 0) (h : M ∣ f * Rg.pow b k - W) : (k % 2 = 1 → M ∣ Po.rem (f * b) M * Rg.pow (Po.rem (b * b) M) (k / 2) - W) ∧ (k % 2 ≠ 1 → M ∣ f * Rg.pow (Po.rem (b * b) M) (k / 2) - W) := by
 have h1 := Po.rem_sub_dvd (f * b) hM
 have h2 := Po.rem_sub_dvd (b * b) hM
 have h3 : ∀ n, M ∣ Rg.pow (b * b) n - Rg.pow (Po.rem (b * b) M) n := fun n => fpow_congr h2 n
 have h4 : ∀ n, Rg.pow (b * b) n = Rg.pow b (2 * n) := fun n => fpow_dbl b n
 constructor
 ·intro hk
  obtain ⟨x1, e1⟩ := h1
  obtain ⟨x3, e3⟩ := h3 (k / 2)
  obtain ⟨x, e⟩ := h
  have hk2 : k = 2 * (k / 2) + 1 := by omega
  rw [h4] at e3
  rw [hk2, Rg.pow_succ] at e
  generalize Po.rem (f * b) M = r1 at *
  generalize Rg.pow (Po.rem (b * b) M) (k / 2) = r3 at *
  generalize Rg.pow b (2 * (k / 2)) = P3 at *
  exact ⟨x - x1 * P3 - r1 * x3, by grind⟩
 ·intro hk
  obtain ⟨x3, e3⟩ := h3 (k / 2)
  obtain ⟨x, e⟩ := h
  have hk2 : k = 2 * (k / 2) := by omega
  rw [h4] at e3
  rw [hk2] at e
  generalize Rg.pow (Po.rem (b * b) M) (k / 2) = r3 at *
  generalize Rg.pow b (2 * (k / 2)) = P3 at *
  exact ⟨x - f * x3, by grind⟩
theorem rem_uniq {M f W : Po (El p m mod)} (hM : M ≠ 0) (hl : Po.len f < Po.len M) (h : M ∣ f - W) : f = Po.rem W M := by
 rw [← Po.rem_small hl]; exact (Po.rem_eq_iff hM).2 h
end
section
variable {p m : Int} {mod : List Int} [hF : IsF p m mod]
theorem len_mul_le (f g : Po (El p m mod)) : Po.len (f * g) ≤ Po.len f + Po.len g := by
 by_cases hf : f = 0
 ·rw [hf, Rg.zero_mul, Po.len_zero]; omega
 ·by_cases hg : g = 0
  ·rw [hg, Rg.mul_zero, Po.len_zero]; omega
  ·rw [Po.len_mul hf hg]; omega
theorem rem_pow_start {M W : Po (El p m mod)} (hM : M ≠ 0) (n : Nat) : M ∣ Po.rem 1 M * Rg.pow (Po.rem W M) n - Rg.pow W n := by
 obtain ⟨a, ha⟩ := Po.rem_sub_dvd (1 : Po (El p m mod)) hM
 obtain ⟨c, hc⟩ := fpow_congr (Po.rem_sub_dvd W hM) n
 generalize Po.rem 1 M = r at *
 generalize Rg.pow (Po.rem W M) n = X1 at *
 generalize Rg.pow W n = Y1 at *
 exact ⟨-(c + a * X1), by grind⟩
end
theorem poly_PowMod_ent : Enters Try.prog 112 := enters_of Try.func112 (by kernel_rfl) (by kernel_rfl)
theorem poly_PowMod (g : GfM) {p m : Int} {mod : List Int} [hF : IsF p m mod] (hg : GOk g p m mod) (A : Option Addr) (n c : Nat) (a : List Int) (hn : n = a.length) (ha9 : a.length ≤ 1000000) (k : Int) (hk0 : 0 ≤ k) (hk9 : k ≤ 1000000) (C : Option Addr) (nc d2 : Nat) (ml : List Int) (hnc : nc = ml.length) (hm9 : ml.length ≤ 1000000) (he : facE (Po.len (pol ml : Po (El p m mod))) = 0) :
  Pure Try.prog 112 #[.pointer (some g.p), .slice A n c, .int .i64 k, .slice C nc d2] [gfR g, ro A (ints a), ro C (ints ml)] (one (fun v ch => ∃ B cap, v = .tuple #[.slice B (il (Po.rem (Rg.pow (pol a : Po (El p m mod)) k.toNat) (pol ml : Po (El p m mod)))).length cap, .int .i64 0] ∧ ch = ow B 3 cap (ints (il (Po.rem (Rg.pow (pol a : Po (El p m mod)) k.toNat) (pol ml : Po (El p m mod))))))) := by
 have hil := il_length (pol ml : Po (El p m mod))
 have hml := facE_ok he
 have hm0 := ne_of_len hml.1
 refine pure_of (args := [.pointer (some g.p), .slice A n c, .int .i64 k, .slice C nc d2]) 77 Try.func112 rfl rfl rfl poly_PowMod_ent ⟨id, id, id, trivial⟩ (fun w0 => ?_)
 refine tS ?_
 refine tR fun _ _ _ => ?_
 iterate 2 refine pV ?_
 refine tS ?_
 refine tR fun _ _ _ => ?_
 iterate 2 refine pV ?_
 refine eV (eCall1 rfl rfl rfl (poly_CanonE g hg C nc d2 ml hnc (by omega)) ⟨rfl, rfl, trivial⟩ ?_)
 rintro _ _ ⟨B1, c1, rfl, hc1, rfl⟩
 refine pV ?_
 refine tS ?_
 refine tB ?_
 refine tS ?_
 refine tR fun _ _ _ => ?_
 refine pV ?_
 refine sV (rLen rfl rfl) ?_
 iterate 2 refine pV ?_
 refine tC rfl (fun h2 => ?_) (fun h2 => ?_)
 ·try simp only [zbA] at h2
  omega --done
 ·try simp only [zbA] at h2
  refine tS ?_
  refine tR fun _ _ _ => ?_
  refine pV ?_
  refine sV (rLen rfl rfl) ?_
  refine sV (rSub rfl rfl rfl (by omega) (by omega)) ?_
  iterate 2 refine pV ?_
  refine tC rfl (fun h4 => ?_) (fun h4 => ?_)
  ·try simp only [zbA] at h4
   omega --done
  ·try simp only [zbA] at h4
   refine tS ?_
   refine tR fun _ _ _ => ?_
   iterate 3 refine pV ?_
   refine tC rfl (fun h6 => ?_) (fun h6 => ?_)
   ·try simp only [zbA] at h6
    omega --done
   ·try simp only [zbA] at h6
    refine tK ?_
    refine tS ?_
    refine tR fun _ _ _ => ?_
    refine pV ?_
    refine eV (eLit1I rfl rfl rfl rfl (fun A8 => ?_))
    refine pV ?_
    refine eV (eCall2 rfl rfl rfl (poly_DivMod g hg A8 _ 1 [1] rfl (by simp) B1 _ c1 (il (pol ml : Po (El p m mod))) rfl (by omega) (by rw [pol_il]; exact hm0)) ⟨rfl, rfl, rfl, trivial⟩ ?_)
    rintro _ _ _ ⟨Q8a, q8a, B8a, c8a, rfl, rfl, rfl⟩
    iterate 7 refine pV ?_
    rw [pol_il]
    refine tS ?_
    refine tR fun _ _ _ => ?_
    iterate 3 refine pV ?_
    refine eV (eCall2 rfl rfl rfl (poly_DivMod g hg A n c a hn (by omega) B1 _ c1 (il (pol ml : Po (El p m mod))) rfl (by omega) (by rw [pol_il]; exact hm0)) ⟨rfl, rfl, rfl, trivial⟩ ?_)
    rintro _ _ _ ⟨Q9, q9, B9, c9, rfl, rfl, rfl⟩
    iterate 7 refine pV ?_
    rw [pol_il]
    refine tS ?_
    refine tB ?_
    refine tr_loop7 (fun (t : Int) (Bx : Option Addr) (cx : Nat) (f : Po (El p m mod)) (By : Option Addr) (cy : Nat) (b : Po (El p m mod)) => [(2, .int .i64 t), (11, .slice Bx (il f).length cx), (14, .slice By (il b).length cy), (0, .pointer (some g.p)), (3, .slice B1 (il (pol ml : Po (El p m mod))).length c1), (8, .slice none 0 0), (9, .int .i64 0)]) (fun (t : Int) (Bx : Option Addr) (cx : Nat) (f : Po (El p m mod)) (By : Option Addr) (cy : Nat) (b : Po (El p m mod)) => [ow Bx 3 cx (ints (il f)), ow By 3 cy (ints (il b)), ow B1 3 c1 (ints (il (pol ml : Po (El p m mod)))), gfR g]) (fun (t : Int) (Bx : Option Addr) (cx : Nat) (f : Po (El p m mod)) (By : Option Addr) (cy : Nat) (b : Po (El p m mod)) => (0 ≤ t ∧ t ≤ k) ∧ Po.len f < Po.len (pol ml : Po (El p m mod)) ∧ Po.len b < Po.len (pol ml : Po (El p m mod)) ∧ (pol ml : Po (El p m mod)) ∣ f * Rg.pow b t.toNat - Rg.pow (pol a : Po (El p m mod)) k.toNat) (fun (t : Int) (Bx : Option Addr) (cx : Nat) (f : Po (El p m mod)) (By : Option Addr) (cy : Nat) (b : Po (El p m mod)) => t.toNat) (k) (B8a) (c8a) ((Po.rem (pol [1]) (pol ml : Po (El p m mod)))) (B9) (c9) ((Po.rem (pol a : Po (El p m mod)) (pol ml : Po (El p m mod)))) ⟨rfl, rfl, rfl, rfl, rfl, rfl, rfl, trivial⟩ (by first | exact cs _ _ | exact CSub.refl _) (⟨⟨by omega, by omega⟩, Po.rem_len _ hm0, Po.rem_len _ hm0, by rw [pol_one1]; exact rem_pow_start hm0 _⟩) (fun t Bx cx f By cy b hI => ?_)
    obtain ⟨⟨ht0, ht9⟩, hfl, hbl, hd⟩ := hI
    refine tS ?_
    refine tS ?_
    refine tR fun _ _ _ => ?_
    iterate 2 refine pV ?_
    refine tC rfl (fun h10 => ?_) (fun h10 => ?_)
    ·try simp only [zbA] at h10
     refine tK ?_
     refine tS ?_
     refine tB ?_
     refine tS ?_
     refine tS ?_
     have hilf := il_length f
     have hilb := il_length b
     refine tR fun _ _ _ => ?_
     refine pV ?_
     refine sV (rRem rfl rfl rfl (by omega) (by omega)) ?_
     refine pV ?_
     refine tC rfl (fun h12 => ?_) (fun h12 => ?_)
     ·try simp only [zbA] at h12
      refine tR fun _ _ _ => ?_
      iterate 4 refine pV ?_
      refine eV (eCall1 rfl rfl rfl (poly_product g hg Bx _ cx (il f) rfl (by omega) By _ cy (il b) rfl (by omega)) ⟨rfl, rfl, rfl, trivial⟩ ?_)
      rintro _ _ ⟨B13, c13, rfl, rfl⟩
      refine pV ?_
      have hl13 := il_length (pol (il (f : Po (El p m mod))) * pol (il b) : Po (El p m mod))
      have hl13b := len_mul_le (pol (il (f : Po (El p m mod)))) (pol (il b) : Po (El p m mod))
      have e13 : Po.len (pol (il (f : Po (El p m mod))) : Po (El p m mod)) = (il f).length := by rw [pol_il, il_length]
      have e14 : Po.len (pol (il b) : Po (El p m mod)) = (il b).length := by rw [pol_il, il_length]
      refine eV (eCall2 rfl rfl rfl (poly_DivMod g hg B13 _ c13 (il (pol (il f) * pol (il b))) rfl (by omega) B1 _ c1 (il (pol ml : Po (El p m mod))) rfl (by omega) (by rw [pol_il]; exact hm0)) ⟨rfl, rfl, rfl, trivial⟩ ?_)
      rintro _ _ _ ⟨Q13a, q13a, B13a, c13a, rfl, rfl, rfl⟩
      iterate 5 refine pV ?_
      rw [pol_il, pol_il, pol_il, pol_il]
      refine tR fun _ _ _ => ?_
      iterate 4 refine pV ?_
      refine eV (eCall1 rfl rfl rfl (poly_product g hg By _ cy (il b) rfl (by omega) By _ cy (il b) rfl (by omega)) ⟨rfl, rfl, rfl, trivial⟩ ?_)
      rintro _ _ ⟨B14, c14, rfl, rfl⟩
      refine pV ?_
      have hl14 := il_length (pol (il b) * pol (il b) : Po (El p m mod))
      have hl14b := len_mul_le (pol (il b)) (pol (il b) : Po (El p m mod))
      have e15 : Po.len (pol (il b) : Po (El p m mod)) = (il b).length := by rw [pol_il, il_length]
      refine eV (eCall2 rfl rfl rfl (poly_DivMod g hg B14 _ c14 (il (pol (il b) * pol (il b))) rfl (by omega) B1 _ c1 (il (pol ml : Po (El p m mod))) rfl (by omega) (by rw [pol_il]; exact hm0)) ⟨rfl, rfl, rfl, trivial⟩ ?_)
      rintro _ _ _ ⟨Q14a, q14a, B14a, c14a, rfl, rfl, rfl⟩
      iterate 5 refine pV ?_
      rw [pol_il, pol_il, pol_il]
      refine tR fun _ _ _ => ?_
      refine pV ?_
      refine sV (rQuo rfl rfl rfl (by omega) (by omega)) ?_
      refine pV ?_
      refine ⟨t / 2, B13a, c13a, (Po.rem (f * b) (pol ml : Po (El p m mod))), B14a, c14a, (Po.rem (b * b) (pol ml : Po (El p m mod))), ⟨rfl, rfl, rfl, rfl, rfl, rfl, rfl, trivial⟩, by first | exact cs _ _ | exact CSub.refl _, ?_⟩
      exact ⟨⟨⟨by omega, by omega⟩, Po.rem_len _ hm0, Po.rem_len _ hm0, by rw [show (t / 2).toNat = t.toNat / 2 by omega]; exact (rem_pow_step hm0 hd).1 (by omega)⟩, by omega⟩
     ·try simp only [zbA] at h12
      refine tK ?_
      refine tR fun _ _ _ => ?_
      iterate 4 refine pV ?_
      refine eV (eCall1 rfl rfl rfl (poly_product g hg By _ cy (il b) rfl (by omega) By _ cy (il b) rfl (by omega)) ⟨rfl, rfl, rfl, trivial⟩ ?_)
      rintro _ _ ⟨B14, c14, rfl, rfl⟩
      refine pV ?_
      have hl14 := il_length (pol (il b) * pol (il b) : Po (El p m mod))
      have hl14b := len_mul_le (pol (il b)) (pol (il b) : Po (El p m mod))
      have e15 : Po.len (pol (il b) : Po (El p m mod)) = (il b).length := by rw [pol_il, il_length]
      refine eV (eCall2 rfl rfl rfl (poly_DivMod g hg B14 _ c14 (il (pol (il b) * pol (il b))) rfl (by omega) B1 _ c1 (il (pol ml : Po (El p m mod))) rfl (by omega) (by rw [pol_il]; exact hm0)) ⟨rfl, rfl, rfl, trivial⟩ ?_)
      rintro _ _ _ ⟨Q14a, q14a, B14a, c14a, rfl, rfl, rfl⟩
      iterate 5 refine pV ?_
      rw [pol_il, pol_il, pol_il]
      refine tR fun _ _ _ => ?_
      refine pV ?_
      refine sV (rQuo rfl rfl rfl (by omega) (by omega)) ?_
      refine pV ?_
      refine ⟨t / 2, Bx, cx, f, B14a, c14a, (Po.rem (b * b) (pol ml : Po (El p m mod))), ⟨rfl, rfl, rfl, rfl, rfl, rfl, rfl, trivial⟩, by first | exact cs _ _ | exact CSub.refl _, ?_⟩
      exact ⟨⟨⟨by omega, by omega⟩, hfl, Po.rem_len _ hm0, by rw [show (t / 2).toNat = t.toNat / 2 by omega]; exact (rem_pow_step hm0 hd).2 (by omega)⟩, by omega⟩
    ·try simp only [zbA] at h10
     refine tE ?_
     refine tS ?_
     refine tR fun _ _ _ => ?_
     iterate 3 refine pV ?_
     have htz : t.toNat = 0 := by omega
     rw [htz] at hd
     have hfe := rem_uniq hm0 hfl (show (pol ml : Po (El p m mod)) ∣ f - Rg.pow (pol a : Po (El p m mod)) k.toNat by
      have e : f * Rg.pow b 0 = f := by show f * 1 = f; grind
      rw [e] at hd; exact hd)
     subst hfe
     exact tr_ret ⟨trivial, _, _, rfl, ⟨_, rfl, Bx, cx, rfl, rfl⟩, cs _ _, trivial, trivial⟩
theorem fac_frobenius_ent : Enters Try.prog 53 := enters_of Try.func53 (by kernel_rfl) (by kernel_rfl)
theorem fac_frobenius (g : GfM) {p m : Int} {mod : List Int} [hF : IsF p m mod] (hg : GOk g p m mod) (A : Option Addr) (n c : Nat) (a : List Int) (hn : n = a.length) (ha9 : a.length ≤ 1000000) (C : Option Addr) (nc d2 : Nat) (ml : List Int) (hnc : nc = ml.length) (hm9 : ml.length ≤ 1000000) (he : facE (Po.len (pol ml : Po (El p m mod))) = 0) :
  Pure Try.prog 53 #[.pointer (some g.p), .slice A n c, .slice C nc d2] [gfR g, ro A (ints a), ro C (ints ml)] (one (fun v ch => ∃ B cap, v = .slice B (il (Po.rem (Rg.pow (pol a : Po (El p m mod)) (pw p m).toNat) (pol ml : Po (El p m mod)))).length cap ∧ ch = ow B 3 cap (ints (il (Po.rem (Rg.pow (pol a : Po (El p m mod)) (pw p m).toNat) (pol ml : Po (El p m mod))))))) := by
 have hgq := hg.eq
 have hq2 := hF.q2
 have hq256 := hF.out.1.1.q
 refine pure_of (args := [.pointer (some g.p), .slice A n c, .slice C nc d2]) 19 Try.func53 rfl rfl rfl fac_frobenius_ent ⟨id, id, id, trivial⟩ (fun w0 => ?_)
 refine tS ?_
 refine tR fun _ _ _ => ?_
 refine pV ?_
 refine tS ?_
 refine tR fun _ _ _ => ?_
 iterate 3 refine pV ?_
 refine eV (eCallV rfl rfl rfl (gf_Order g) ⟨rfl, trivial⟩ ?_)
 refine pV ?_
 rw [hgq]
 refine eV (eCall1 rfl rfl rfl (poly_PowMod g hg A n c a hn ha9 (pw p m) (by omega) (by omega) C nc d2 ml hnc hm9 he) ⟨rfl, rfl, rfl, rfl, trivial⟩ ?_)
 rintro _ _ ⟨B1, c1, rfl, rfl⟩
 iterate 5 refine pV ?_
 refine tS ?_
 refine tR fun _ _ _ => ?_
 iterate 2 refine pV ?_
 exact tr_ret ⟨trivial, _, _, rfl, ⟨_, rfl, B1, c1, rfl, rfl⟩, cs _ _, trivial, trivial⟩
end Go.Proofs.Ytbhoeaijpnjgdaa

set_option maxRecDepth 100000
namespace Go.Proofs.Ytbhoeaijpnjgdaa
open Go.RowKit
theorem pws_get1 (ps : List (Int × Int)) (j : Nat) (h : j < ps.length) : ((pws ps).getD j prD).1 = .int .i64 (ps.getD j (0, 0)).1 := by rw [pws_get ps j h]
theorem pws_get2 (ps : List (Int × Int)) (j : Nat) (h : j < ps.length) : ((pws ps).getD j prD).2 = .int .i64 (ps.getD j (0, 0)).2 := by rw [pws_get ps j h]
section
variable {p m : Int} {mod : List Int} [hF : IsF p m mod]
theorem pol_X01 : (pol [0, 1] : Po (El p m mod)) = Po.X := Po.ext fun j => by
 rw [cf_pol, show (Po.X : Po (El p m mod)) = Po.mn 1 1 from rfl, Po.cf_mn]
 match j with
 | 0 => rw [List.getD_cons_zero, if_neg (by omega), el_zero]
 | 1 => rw [List.getD_cons_succ, List.getD_cons_zero, if_pos rfl]; exact el_one
 | j + 2 => rw [List.getD_cons_succ, List.getD_cons_succ, List.getD_nil, if_neg (by omega), el_zero]
noncomputable def irB (P : Po (El p m mod)) : Bool := @decide (Po.Ir P) (Classical.propDecidable _)
theorem irB_iff {P : Po (El p m mod)} : irB P = true ↔ Po.Ir P := by unfold irB; exact @decide_eq_true_iff _ (Classical.propDecidable _)
theorem irB_no {P : Po (El p m mod)} (h : ¬ Po.Ir P) : irB P = false := Bool.eq_false_iff.2 fun e => h (irB_iff.1 e)
theorem xq_rem {P : Po (El p m mod)} (hP : P ≠ 0) (i : Nat) : P ∣ (Po.rem (Rg.pow Po.X ((pw p m).toNat ^ i)) P - Po.X) - xq p m mod i := by
 obtain ⟨a, ha⟩ := Po.rem_sub_dvd (Rg.pow (Po.X : Po (El p m mod)) ((pw p m).toNat ^ i)) hP
 unfold xq
 generalize Rg.pow (Po.X : Po (El p m mod)) ((pw p m).toNat ^ i) = W at *
 generalize Po.rem W P = r at *
 exact ⟨-a, by grind⟩
theorem rem_next {P : Po (El p m mod)} (hP : P ≠ 0) (i : Nat) : Po.rem (Rg.pow (Po.rem (Rg.pow Po.X ((pw p m).toNat ^ i)) P) (pw p m).toNat) P = Po.rem (Rg.pow Po.X ((pw p m).toNat ^ (i + 1))) P := (Po.rem_eq_iff hP).2 (by
 have h := fpow_congr (Po.rem_sub_dvd (Rg.pow (Po.X : Po (El p m mod)) ((pw p m).toNat ^ i)) hP) (pw p m).toNat
 rw [← Rg.pow_mul, ← Nat.pow_succ] at h
 obtain ⟨a, ha⟩ := h
 generalize Rg.pow (Po.rem (Rg.pow Po.X ((pw p m).toNat ^ i)) P) (pw p m).toNat = x at *
 generalize Rg.pow (Po.X : Po (El p m mod)) ((pw p m).toNat ^ (i + 1)) = y at *
 exact ⟨-a, by grind⟩)
theorem prL_at {N : Nat} {ps : List (Int × Int)} (h : PrL N ps) {j : Nat} (hj : j < ps.length) : 2 ≤ (ps.getD j (0, 0)).1 ∧ (∀ u, 2 ≤ u → u ∣ (ps.getD j (0, 0)).1.toNat → u = (ps.getD j (0, 0)).1.toNat) ∧ (ps.getD j (0, 0)).1.toNat ∣ N := by
 have h1 := h.1 _ (getD_mem hj (0, 0))
 have h2 := (h.2 (ps.getD j (0, 0)).1.toNat).1 ⟨_, getD_mem hj (0, 0), by omega⟩
 exact ⟨h1, h2.2⟩
theorem irr_no {P : Po (El p m mod)} {N : Nat} (hN : Po.len P = N + 1) (h1 : 1 ≤ N) {ps : List (Int × Int)} (hps : PrL N ps) {j : Nat} (hj : j < ps.length) (hg : ¬ Po.gcd P (xq p m mod ((N : Int) / (ps.getD j (0, 0)).1).toNat) = 1) : irB P = false := irB_no fun hi => hg (by
 have h2 := prL_at hps hj
 have h3 := ((rabin hN h1).1 hi).2 _ (by omega) h2.2.1 h2.2.2
 rw [show ((N : Int) / (ps.getD j (0, 0)).1).toNat = N / (ps.getD j (0, 0)).1.toNat by
  obtain ⟨r, hr⟩ : ∃ r : Nat, (ps.getD j (0, 0)).1 = (r : Int) := ⟨(ps.getD j (0, 0)).1.toNat, by omega⟩
  rw [hr, ← Int.natCast_ediv]; rfl]
 exact h3)
theorem irr_yes {P : Po (El p m mod)} {N : Nat} (hN : Po.len P = N + 1) (h1 : 1 ≤ N) {ps : List (Int × Int)} (hps : PrL N ps) (hall : ∀ z : Nat, z < ps.length → Po.gcd P (xq p m mod ((N : Int) / (ps.getD z (0, 0)).1).toNat) = 1) :
  decide (il (Po.rem (Rg.pow Po.X ((pw p m).toNat ^ N)) P) = il (Po.rem Po.X P)) = irB P := by
 have hP : P ≠ 0 := Po.len_pos_iff.1 (by omega)
 have h2 : (il (Po.rem (Rg.pow Po.X ((pw p m).toNat ^ N)) P) = il (Po.rem Po.X P)) ↔ P ∣ xq p m mod N := by
  constructor
  ·intro h
   have := congrArg (pol (p := p) (m := m) (mod := mod)) h
   rw [pol_il, pol_il] at this
   exact (Po.rem_eq_iff hP).1 this
  ·intro h; rw [(Po.rem_eq_iff hP).2 h]
 have h3 : Po.Ir P ↔ P ∣ xq p m mod N := by
  rw [rabin hN h1]
  refine ⟨fun h => h.1, fun h => ⟨h, fun r r2 rp rd => ?_⟩⟩
  obtain ⟨q, hq, hqr⟩ := (hps.2 r).2 ⟨r2, rp, rd⟩
  obtain ⟨z, hz, rfl⟩ := List.getElem_of_mem hq
  have h4 := hall z hz
  rw [List.getD_eq_getElem?_getD, List.getElem?_eq_getElem hz] at h4
  simp only [Option.getD_some] at h4
  rw [hqr, ← Int.natCast_ediv] at h4
  exact h4
 rw [Bool.eq_iff_iff, decide_eq_true_iff, irB_iff, h2, h3]
theorem gcd_sub_xq {P : Po (El p m mod)} (hP : P ≠ 0) (i : Nat) : Po.gcd P (Po.rem (Rg.pow Po.X ((pw p m).toNat ^ i)) P - Po.X) = Po.gcd P (xq p m mod i) := gcd_congr hP (xq_rem hP i)
theorem gcd_len {P f : Po (El p m mod)} (hP : P ≠ 0) : Po.len (Po.gcd P f) ≤ Po.len P := Po.dvd_len (Po.gcd_is P f).left hP
end
theorem nq_pos {N : Nat} {ps : List (Int × Int)} (h : PrL N ps) (h1 : 1 ≤ N) {z : Nat} (hz : z < ps.length) : 1 ≤ (N : Int) / (ps.getD z (0, 0)).1 := by
 have h2 := h.1 _ (getD_mem hz (0, 0))
 have h3 := (h.2 (ps.getD z (0, 0)).1.toNat).1 ⟨_, getD_mem hz (0, 0), by omega⟩
 have h4 := Nat.le_of_dvd (by omega) h3.2.2
 exact Int.le_ediv_of_mul_le (by omega) (by omega)
theorem nq_le {N : Nat} {ps : List (Int × Int)} (h : PrL N ps) (h1 : 1 ≤ N) {z : Nat} (hz : z < ps.length) : (N : Int) / (ps.getD z (0, 0)).1 ≤ N := Int.ediv_le_self _ (by omega)
theorem fac_Irr_ent : Enters Try.prog 44 := enters_of Try.func44 (by kernel_rfl) (by kernel_rfl)
theorem fac_Irr (g : GfM) {p m : Int} {mod : List Int} [hF : IsF p m mod] (hg : GOk g p m mod) (A : Option Addr) (n c : Nat) (a : List Int) (hn : n = a.length) (ha9 : a.length ≤ 17592186044415) (he : facE (Po.len (pol a : Po (El p m mod))) = 0) (N : Nat) (hN : Po.len (pol a : Po (El p m mod)) = N + 1) (h1 : 1 ≤ N) (ps : List (Int × Int)) (hpl : ps.length ≤ 1000) (hps : PrL N ps) (hfac : Pure Try.prog 101 #[.int .i64 N] [] (one (fun v ch => ∃ B c, v = .tuple #[.slice B ps.length c, .int .i64 0] ∧ ch = ow2 B 124 c (pws ps)))) :
  Pure Try.prog 44 #[.pointer (some g.p), .slice A n c] [gfR g, ro A (ints a)] (isV (.tuple #[.bool (irB (pol a : Po (El p m mod))), .int .i64 0])) := by
 have h1N := h1
 have hil := il_length (pol a : Po (El p m mod))
 have hle := facE_ok he
 have hm0 := ne_of_len hle.1
 have hil0 := il_length (Po.rem Po.X (pol a : Po (El p m mod)))
 have hlr0 := Po.rem_len (Po.X : Po (El p m mod)) hm0
 refine pure_of (args := [.pointer (some g.p), .slice A n c]) 85 Try.func44 rfl rfl rfl fac_Irr_ent ⟨id, id, trivial⟩ (fun w0 => ?_)
 refine tS ?_
 refine tR fun _ _ _ => ?_
 iterate 2 refine pV ?_
 refine tS ?_
 refine tR fun _ _ _ => ?_
 iterate 2 refine pV ?_
 refine eV (eCall1 rfl rfl rfl (fac_enter g hg A n c a hn ha9 he) ⟨rfl, rfl, trivial⟩ ?_)
 rintro _ _ ⟨B1, c1, rfl, hc1, rfl⟩
 iterate 5 refine pV ?_
 refine tS ?_
 refine tS ?_
 refine tR fun _ _ _ => ?_
 iterate 2 refine pV ?_
 refine tC rfl (fun h2 => ?_) (fun h2 => ?_)
 ·try simp only [zbA] at h2
  first | exact absurd trivial h2 | exact absurd rfl h2 | omega | (exact absurd h2 (by simp)) --done
 ·try simp only [zbA] at h2
  refine tK ?_
  refine tS ?_
  refine tR fun _ _ _ => ?_
  refine pV ?_
  refine sV (rLen rfl rfl) ?_
  refine sV (rSub rfl rfl rfl (by omega) (by omega)) ?_
  refine pV ?_
  rw [show ((il (pol a : Po (El p m mod))).length : Int) - 1 = (N : Int) by omega]
  refine tS ?_
  refine tS ?_
  refine tR fun _ _ _ => ?_
  iterate 2 refine pV ?_
  refine tC rfl (fun h5 => ?_) (fun h5 => ?_)
  ·try simp only [zbA] at h5
   omega --done
  ·try simp only [zbA] at h5
   refine tK ?_
   refine tS ?_
   refine tR fun _ _ _ => ?_
   refine pV ?_
   refine eV (eCall1 rfl rfl rfl (hfac) ⟨rfl, trivial⟩ ?_)
   rintro _ _ ⟨B7, c7, rfl, rfl⟩
   iterate 5 refine pV ?_
   refine tS ?_
   refine tR fun _ _ _ => ?_
   refine eV (eLit2I rfl rfl rfl rfl rfl (fun A8 => ?_))
   refine pV ?_
   refine tS ?_
   refine tR fun _ _ _ => ?_
   iterate 3 refine pV ?_
   refine eV (eCall2 rfl rfl rfl (poly_DivMod g hg A8 _ 2 [0, 1] rfl (by simp) B1 _ c1 (il (pol a : Po (El p m mod))) rfl (by omega) (by rw [pol_il]; exact hm0)) ⟨rfl, rfl, rfl, trivial⟩ ?_)
   rintro _ _ _ ⟨Q9, q9, B9, c9, rfl, rfl, rfl⟩
   iterate 7 refine pV ?_
   rw [pol_il, pol_X01]
   refine tS ?_
   refine tR fun _ _ _ => ?_
   iterate 2 refine pV ?_
   refine tS ?_
   refine tS ?_
   refine tr_chunks [ro B9 (ints (il (Po.rem Po.X (pol a : Po (El p m mod))))), ro B9 (ints (il (Po.rem Po.X (pol a : Po (El p m mod))))), ow A8 3 2 (ints [0, 1]), ow2 B7 124 c7 (pws ps), ow B1 3 c1 (ints (il (pol a : Po (El p m mod)))), gfR g] ((cs _ [ow B9 3 c9 (ints (il (Po.rem Po.X (pol a : Po (El p m mod))))), ow A8 3 2 (ints [0, 1]), ow2 B7 124 c7 (pws ps), ow B1 3 c1 (ints (il (pol a : Po (El p m mod)))), gfR g]).trans ((ow_ro _).trans (ro_dup _))) ?_
   refine tR fun _ _ _ => ?_
   refine pV ?_
   refine tB ?_
   refine tr_loop4 (fun (i : Int) (Bh : Option Addr) (ch : Nat) (f : Po (El p m mod)) => [(13, .slice Bh (il f).length ch), (15, .slice B9 (il (Po.rem Po.X (pol a : Po (El p m mod)))).length c9), (16, .int .i64 i), (8, .int .i64 N), (11, .slice A8 2 2), (0, .pointer (some g.p)), (6, .slice B1 (il (pol a : Po (El p m mod))).length c1), (9, .slice B7 ps.length c7)]) (fun (i : Int) (Bh : Option Addr) (ch : Nat) (f : Po (El p m mod)) => [ro Bh (ints (il f)), ro B9 (ints (il (Po.rem Po.X (pol a : Po (El p m mod))))), ow A8 3 2 (ints [0, 1]), ow2 B7 124 c7 (pws ps), ow B1 3 c1 (ints (il (pol a : Po (El p m mod)))), gfR g]) (fun (i : Int) (Bh : Option Addr) (ch : Nat) (f : Po (El p m mod)) => (1 ≤ i ∧ i ≤ N + 1) ∧ f = (Po.rem (Rg.pow Po.X ((pw p m).toNat ^ (i - 1).toNat)) (pol a : Po (El p m mod))) ∧ ∀ z : Nat, z < ps.length → ((N : Int) / (ps.getD z (0, 0)).1) < i → Po.gcd (pol a : Po (El p m mod)) (xq p m mod ((N : Int) / (ps.getD z (0, 0)).1).toNat) = 1) (fun (i : Int) (Bh : Option Addr) (ch : Nat) (f : Po (El p m mod)) => (N + 1 - i).toNat) (1) (B9) (c9) ((Po.rem Po.X (pol a : Po (El p m mod)))) ⟨rfl, rfl, rfl, rfl, rfl, rfl, rfl, rfl, trivial⟩ (by first | exact cs _ _ | exact CSub.refl _) (⟨⟨by omega, by omega⟩, by rw [show ((1 : Int) - 1).toNat = 0 from rfl, Nat.pow_zero, show Rg.pow (Po.X : Po (El p m mod)) 1 = Po.X from Rg.one_mul _], fun z hz hlt => absurd hlt (by have := nq_pos hps h1N hz; omega)⟩) (fun i Bh ch f hI => ?_)
   obtain ⟨⟨hi0, hi1⟩, rfl, hall⟩ := hI
   refine tS ?_
   refine tS ?_
   refine tR fun _ _ _ => ?_
   iterate 3 refine pV ?_
   refine tC rfl (fun h12 => ?_) (fun h12 => ?_)
   ·try simp only [zbA] at h12
    refine tK ?_
    refine tS ?_
    refine tB ?_
    refine tS ?_
    have hilh := il_length (Po.rem (Rg.pow Po.X ((pw p m).toNat ^ (i - 1).toNat)) (pol a : Po (El p m mod)))
    have hlrh := Po.rem_len (Rg.pow Po.X ((pw p m).toNat ^ (i - 1).toNat)) hm0
    have hiln := il_length (Po.rem (Rg.pow Po.X ((pw p m).toNat ^ i.toNat)) (pol a : Po (El p m mod)))
    have hlrn := Po.rem_len (Rg.pow Po.X ((pw p m).toNat ^ i.toNat)) hm0
    refine tR fun _ _ _ => ?_
    iterate 3 refine pV ?_
    refine eV (eCall1 rfl rfl rfl (fac_frobenius g hg Bh _ ch (il (Po.rem (Rg.pow Po.X ((pw p m).toNat ^ (i - 1).toNat)) (pol a : Po (El p m mod)))) rfl (by omega) B1 _ c1 (il (pol a : Po (El p m mod))) rfl (by omega) (by rw [pol_il]; exact he)) ⟨rfl, rfl, rfl, trivial⟩ ?_)
    rintro _ _ ⟨B14, c14, rfl, rfl⟩
    refine pV ?_
    rw [pol_il, pol_il, rem_next hm0, show (i - 1).toNat + 1 = i.toNat by omega]
    refine tS ?_
    refine tR fun _ _ _ => ?_
    refine pV ?_
    refine sV (rLenS rfl rfl) ?_
    refine pV ?_
    refine tB ?_
    refine tr_loop1 (fun (j : Int) => [(59, .int .i64 j), (57, .slice B7 ps.length c7), (58, .int .i64 ps.length), (0, .pointer (some g.p)), (6, .slice B1 (il (pol a : Po (El p m mod))).length c1), (8, .int .i64 N), (9, .slice B7 ps.length c7), (11, .slice A8 2 2), (13, .slice B14 (il (Po.rem (Rg.pow Po.X ((pw p m).toNat ^ i.toNat)) (pol a : Po (El p m mod)))).length c14), (15, .slice B9 (il (Po.rem Po.X (pol a : Po (El p m mod)))).length c9), (16, .int .i64 i), (48, .int .i64 i), (49, .int .i64 N), (56, .slice B14 (il (Po.rem (Rg.pow Po.X ((pw p m).toNat ^ i.toNat)) (pol a : Po (El p m mod)))).length c14)]) (fun (j : Int) => [ow B14 3 c14 (ints (il (Po.rem (Rg.pow Po.X ((pw p m).toNat ^ i.toNat)) (pol a : Po (El p m mod))))), ro B9 (ints (il (Po.rem Po.X (pol a : Po (El p m mod))))), ow A8 3 2 (ints [0, 1]), ow2 B7 124 c7 (pws ps), ow B1 3 c1 (ints (il (pol a : Po (El p m mod)))), gfR g]) (fun (j : Int) => (0 ≤ j ∧ j ≤ ps.length) ∧ ∀ z : Nat, (z : Int) < j → ((N : Int) / (ps.getD z (0, 0)).1) = i → Po.gcd (pol a : Po (El p m mod)) (xq p m mod i.toNat) = 1) (fun (j : Int) => (ps.length - j).toNat) (0) ⟨rfl, rfl, rfl, rfl, rfl, rfl, rfl, rfl, rfl, rfl, rfl, rfl, rfl, rfl, trivial⟩ (by first | exact cs _ _ | exact CSub.refl _) (⟨⟨by omega, by omega⟩, fun z hz => by omega⟩) (fun j hI => ?_)
    obtain ⟨⟨hj0, hj1⟩, hj⟩ := hI
    refine tS ?_
    refine tR fun _ _ _ => ?_
    refine pV ?_
    refine tS ?_
    refine tC rfl (fun h16 => ?_) (fun h16 => ?_)
    ·try simp only [zbA] at h16
     refine tK ?_
     refine tS ?_
     refine tB ?_
     refine tS ?_
     have hjl : j.toNat < ps.length := by omega
     have hat := prL_at hps hjl
     refine tR fun _ _ _ => ?_
     refine sV (rIdxT rfl rfl rfl (by omega) (by omega) (by simp; omega)) ?_
     refine sV (rLdT rfl rfl (by simp; omega)) ?_
     refine eV (eAlloc rfl rfl rfl (fun p17 => ?_))
     rw [pws_get1 ps j.toNat hjl, pws_get2 ps j.toNat hjl]
     refine eV (eStS rfl rfl rfl rfl rfl rfl ?_)
     refine tS ?_
     by_cases hs : ((N : Int) / (ps.getD j.toNat (0, 0)).1) = i
     ·refine tR fun _ _ _ => ?_
      refine pV ?_
      refine sV (rFld rfl rfl) ?_
      refine sV (rLdF rfl rfl rfl) ?_
      refine sV (rQuo rfl rfl rfl (by omega) (by omega)) ?_
      iterate 3 refine pV ?_
      refine stT rfl rfl rfl (by first | exact decide_eq_true hs | (rw [decide_eq_true hs]; rfl)) rfl rfl (rMove rfl rfl) ?_
      refine stT rfl rfl rfl (by first | exact decide_eq_true hs | (rw [decide_eq_true hs]; rfl)) rfl rfl (rMove rfl rfl) ?_
      refine stT rfl rfl rfl (by first | exact decide_eq_true hs | (rw [decide_eq_true hs]; rfl)) rfl rfl (rMove rfl rfl) ?_
      refine stT rfl rfl rfl (by first | exact decide_eq_true hs | (rw [decide_eq_true hs]; rfl)) rfl rfl (rMove rfl rfl) ?_
      refine stT rfl rfl rfl (by first | exact decide_eq_true hs | (rw [decide_eq_true hs]; rfl)) rfl rfl (rMove rfl rfl) ?_
      refine stT rfl rfl rfl (by first | exact decide_eq_true hs | (rw [decide_eq_true hs]; rfl)) rfl rfl (rMove rfl rfl) ?_
      refine efT rfl rfl rfl (by first | exact decide_eq_true hs | (rw [decide_eq_true hs]; rfl)) (eCall1 rfl rfl rfl (poly_Sub g hg B14 _ c14 (il (Po.rem (Rg.pow Po.X ((pw p m).toNat ^ i.toNat)) (pol a : Po (El p m mod)))) rfl (by omega) A8 _ 2 [0, 1] rfl (by simp)) ⟨rfl, rfl, rfl, trivial⟩ ?_)
      rintro _ _ ⟨B18, c18, rfl, rfl⟩
      have hs1 := il_length (pol (il (Po.rem (Rg.pow Po.X ((pw p m).toNat ^ i.toNat)) (pol a : Po (El p m mod)))) - pol [0, 1] : Po (El p m mod))
      have hs2 := Po.len_sub (pol (il (Po.rem (Rg.pow Po.X ((pw p m).toNat ^ i.toNat)) (pol a : Po (El p m mod))))) (pol [0, 1] : Po (El p m mod))
      have hs3 : Po.len (pol (il (Po.rem (Rg.pow Po.X ((pw p m).toNat ^ i.toNat)) (pol a : Po (El p m mod)))) : Po (El p m mod)) = Po.len (Po.rem (Rg.pow Po.X ((pw p m).toNat ^ i.toNat)) (pol a : Po (El p m mod))) := by rw [pol_il]
      have hs4 : Po.len (pol [0, 1] : Po (El p m mod)) ≤ 2 := Po.len_le (pol_sh [0, 1])
      refine efT rfl rfl rfl (by first | exact decide_eq_true hs | (rw [decide_eq_true hs]; rfl)) (eCall1 rfl rfl rfl (poly_Gcd g hg B1 _ c1 (il (pol a : Po (El p m mod))) rfl (by omega) B18 _ c18 (il (pol (il (Po.rem (Rg.pow Po.X ((pw p m).toNat ^ i.toNat)) (pol a : Po (El p m mod)))) - pol [0, 1])) rfl (by omega) (.inl (by rw [pol_il]; exact hm0))) ⟨rfl, rfl, rfl, trivial⟩ ?_)
      rintro _ _ ⟨B18a, c18a, rfl, rfl⟩
      have hs5 := il_length (Po.gcd (pol (il (pol a : Po (El p m mod)))) (pol (il (pol (il (Po.rem (Rg.pow Po.X ((pw p m).toNat ^ i.toNat)) (pol a : Po (El p m mod)))) - pol [0, 1] : Po (El p m mod)))) : Po (El p m mod))
      have hs6 := gcd_len (p := p) (m := m) (mod := mod) (f := pol (il (pol (il (Po.rem (Rg.pow Po.X ((pw p m).toNat ^ i.toNat)) (pol a : Po (El p m mod)))) - pol [0, 1] : Po (El p m mod)))) (show (pol (il (pol a : Po (El p m mod))) : Po (El p m mod)) ≠ 0 by rw [pol_il]; exact hm0)
      have hs7 : Po.len (pol (il (pol a : Po (El p m mod))) : Po (El p m mod)) = Po.len (pol a : Po (El p m mod)) := by rw [pol_il]
      refine efT rfl rfl rfl (by first | exact decide_eq_true hs | (rw [decide_eq_true hs]; rfl)) (eCallV rfl rfl rfl (poly_Degree g hg B18a _ c18a (il (Po.gcd (pol (il (pol a : Po (El p m mod)))) (pol (il (pol (il (Po.rem (Rg.pow Po.X ((pw p m).toNat ^ i.toNat)) (pol a : Po (El p m mod)))) - pol [0, 1] : Po (El p m mod)))) : Po (El p m mod))) rfl (by omega)) ⟨rfl, rfl, trivial⟩ ?_)
      refine stT rfl rfl rfl (by first | exact decide_eq_true hs | (rw [decide_eq_true hs]; rfl)) rfl rfl (rGtr rfl rfl rfl) ?_
      refine sV (rPick1 rfl rfl (by first | exact decide_eq_true hs | (rw [decide_eq_true hs]; rfl)) rfl) ?_
      refine tC rfl (fun h18 => ?_) (fun h18 => ?_)
      ·try simp only [zbA] at h18
       refine tS ?_
       refine tR fun _ _ _ => ?_
       iterate 2 refine pV ?_
       rcases Classical.em (((N : Int) / (ps.getD j.toNat (0, 0)).1) = i) with hs3 | hs3
       ·first
         | exact absurd hs3 hs
         | (have hno : irB (pol a : Po (El p m mod)) = false := irr_no hN h1N hps hjl (by rw [hs3]; intro h1; rw [pol_il, pol_il, pol_il, pol_il, pol_X01, gcd_sub_xq hm0, h1, Po.len_one] at h18; omega); exact tr_ret ⟨trivial, _, _, rfl, ⟨by rw [hno], rfl⟩, CSub.nil _, trivial⟩)
       ·exfalso; first | exact hs3 hs | (simp at h18; done) | exact absurd h18 (by simp)
      ·try simp only [zbA] at h18
       refine tK ?_
       refine tR fun _ _ _ => ?_
       refine sV (rAdd rfl rfl rfl (by omega) (by omega)) ?_
       refine pV ?_
       refine ⟨j + 1, ⟨rfl, rfl, rfl, rfl, rfl, rfl, rfl, rfl, rfl, rfl, rfl, rfl, rfl, rfl, trivial⟩, by first | exact cs _ _ | exact CSub.refl _, ?_⟩
       refine ⟨⟨⟨by omega, by omega⟩, fun z hz hq => ?_⟩, by omega⟩
       by_cases hzj : (z : Int) < j
       ·exact hj z hzj hq
       ·have hg1 : Po.len (Po.gcd (pol a : Po (El p m mod)) (xq p m mod i.toNat)) ≤ 1 := by
         rw [pol_il, pol_il, pol_il, pol_il, pol_X01, gcd_sub_xq hm0] at h18
         omega
        exact Po.gcd_one_of hm0 hg1
     ·refine tR fun _ _ _ => ?_
      refine pV ?_
      refine sV (rFld rfl rfl) ?_
      refine sV (rLdF rfl rfl rfl) ?_
      refine sV (rQuo rfl rfl rfl (by omega) (by omega)) ?_
      iterate 3 refine pV ?_
      refine skF rfl rfl (by first | exact decide_eq_false hs | (rw [decide_eq_false hs]; rfl)) rfl rfl ?_
      refine skF rfl rfl (by first | exact decide_eq_false hs | (rw [decide_eq_false hs]; rfl)) rfl rfl ?_
      refine skF rfl rfl (by first | exact decide_eq_false hs | (rw [decide_eq_false hs]; rfl)) rfl rfl ?_
      refine skF rfl rfl (by first | exact decide_eq_false hs | (rw [decide_eq_false hs]; rfl)) rfl rfl ?_
      refine skF rfl rfl (by first | exact decide_eq_false hs | (rw [decide_eq_false hs]; rfl)) rfl rfl ?_
      refine skF rfl rfl (by first | exact decide_eq_false hs | (rw [decide_eq_false hs]; rfl)) rfl rfl ?_
      refine skF rfl rfl (by first | exact decide_eq_false hs | (rw [decide_eq_false hs]; rfl)) rfl rfl ?_
      have hs1 := il_length (pol (il (Po.rem (Rg.pow Po.X ((pw p m).toNat ^ i.toNat)) (pol a : Po (El p m mod)))) - pol [0, 1] : Po (El p m mod))
      have hs2 := Po.len_sub (pol (il (Po.rem (Rg.pow Po.X ((pw p m).toNat ^ i.toNat)) (pol a : Po (El p m mod))))) (pol [0, 1] : Po (El p m mod))
      have hs3 : Po.len (pol (il (Po.rem (Rg.pow Po.X ((pw p m).toNat ^ i.toNat)) (pol a : Po (El p m mod)))) : Po (El p m mod)) = Po.len (Po.rem (Rg.pow Po.X ((pw p m).toNat ^ i.toNat)) (pol a : Po (El p m mod))) := by rw [pol_il]
      have hs4 : Po.len (pol [0, 1] : Po (El p m mod)) ≤ 2 := Po.len_le (pol_sh [0, 1])
      refine skF rfl rfl (by first | exact decide_eq_false hs | (rw [decide_eq_false hs]; rfl)) rfl rfl ?_
      have hs5 := il_length (Po.gcd (pol (il (pol a : Po (El p m mod)))) (pol (il (pol (il (Po.rem (Rg.pow Po.X ((pw p m).toNat ^ i.toNat)) (pol a : Po (El p m mod)))) - pol [0, 1] : Po (El p m mod)))) : Po (El p m mod))
      have hs6 := gcd_len (p := p) (m := m) (mod := mod) (f := pol (il (pol (il (Po.rem (Rg.pow Po.X ((pw p m).toNat ^ i.toNat)) (pol a : Po (El p m mod)))) - pol [0, 1] : Po (El p m mod)))) (show (pol (il (pol a : Po (El p m mod))) : Po (El p m mod)) ≠ 0 by rw [pol_il]; exact hm0)
      have hs7 : Po.len (pol (il (pol a : Po (El p m mod))) : Po (El p m mod)) = Po.len (pol a : Po (El p m mod)) := by rw [pol_il]
      refine skF rfl rfl (by first | exact decide_eq_false hs | (rw [decide_eq_false hs]; rfl)) rfl rfl ?_
      refine skF rfl rfl (by first | exact decide_eq_false hs | (rw [decide_eq_false hs]; rfl)) rfl rfl ?_
      refine sV (rPick0 rfl rfl (by first | exact decide_eq_false hs | (rw [decide_eq_false hs]; rfl)) rfl) ?_
      refine tC rfl (fun h18 => ?_) (fun h18 => ?_)
      ·try simp only [zbA] at h18
       refine tS ?_
       refine tR fun _ _ _ => ?_
       iterate 2 refine pV ?_
       rcases Classical.em (((N : Int) / (ps.getD j.toNat (0, 0)).1) = i) with hs3 | hs3
       ·first
         | exact absurd hs3 hs
         | (have hno : irB (pol a : Po (El p m mod)) = false := irr_no hN h1N hps hjl (by rw [hs3]; intro h1; rw [pol_il, pol_il, pol_il, pol_il, pol_X01, gcd_sub_xq hm0, h1, Po.len_one] at h18; omega); exact tr_ret ⟨trivial, _, _, rfl, ⟨by rw [hno], rfl⟩, CSub.nil _, trivial⟩)
       ·exfalso; first | exact hs3 hs | (simp at h18; done) | exact absurd h18 (by simp)
      ·try simp only [zbA] at h18
       refine tK ?_
       refine tR fun _ _ _ => ?_
       refine sV (rAdd rfl rfl rfl (by omega) (by omega)) ?_
       refine pV ?_
       refine ⟨j + 1, ⟨rfl, rfl, rfl, rfl, rfl, rfl, rfl, rfl, rfl, rfl, rfl, rfl, rfl, rfl, trivial⟩, by first | exact cs _ _ | exact CSub.refl _, ?_⟩
       refine ⟨⟨⟨by omega, by omega⟩, fun z hz hq => ?_⟩, by omega⟩
       by_cases hzj : (z : Int) < j
       ·exact hj z hzj hq
       ·rw [show z = j.toNat by omega] at hq; exact absurd hq hs
    ·try simp only [zbA] at h16
     refine tE ?_
     refine tR fun _ _ _ => ?_
     refine pV ?_
     refine sV (rAdd rfl rfl rfl (by omega) (by omega)) ?_
     refine pV ?_
     refine ⟨i + 1, B14, c14, (Po.rem (Rg.pow Po.X ((pw p m).toNat ^ i.toNat)) (pol a : Po (El p m mod))), ⟨rfl, rfl, rfl, rfl, rfl, rfl, rfl, rfl, trivial⟩, by exact (cs _ [ow B14 3 c14 (ints (il (Po.rem (Rg.pow Po.X ((pw p m).toNat ^ i.toNat)) (pol a : Po (El p m mod))))), ro B9 (ints (il (Po.rem Po.X (pol a : Po (El p m mod))))), ow A8 3 2 (ints [0, 1]), ow2 B7 124 c7 (pws ps), ow B1 3 c1 (ints (il (pol a : Po (El p m mod)))), gfR g]).trans (ow_ro _), ?_⟩
     refine ⟨⟨⟨by omega, by omega⟩, by rw [show (i + 1 - 1).toNat = i.toNat by omega], fun z hz hlt => ?_⟩, by omega⟩
     by_cases hq : ((N : Int) / (ps.getD z (0, 0)).1) = i
     ·rw [hq]; exact hj z (by omega) hq
     ·exact hall z hz (by omega)
   ·try simp only [zbA] at h12
    refine tE ?_
    refine tS ?_
    have hiN : i = N + 1 := by omega
    have hilh := il_length (Po.rem (Rg.pow Po.X ((pw p m).toNat ^ (i - 1).toNat)) (pol a : Po (El p m mod)))
    have hlrh := Po.rem_len (Rg.pow Po.X ((pw p m).toNat ^ (i - 1).toNat)) hm0
    refine tR fun _ _ _ => ?_
    iterate 2 refine pV ?_
    refine eV (eCallV rfl rfl rfl (slc_Equal Bh _ ch (il (Po.rem (Rg.pow Po.X ((pw p m).toNat ^ (i - 1).toNat)) (pol a : Po (El p m mod)))) rfl B9 _ c9 (il (Po.rem Po.X (pol a : Po (El p m mod)))) rfl (by omega)) ⟨rfl, rfl, trivial⟩ ?_)
    iterate 2 refine pV ?_
    have hyes := irr_yes hN h1N hps (fun z hz => hall z hz (by have := nq_le hps h1N hz; omega))
    rw [show (i - 1).toNat = N by omega, hyes]
    exact tr_ret ⟨trivial, _, _, rfl, ⟨rfl, rfl⟩, CSub.nil _, trivial⟩
end Go.Proofs.Ytbhoeaijpnjgdaa

/-
  CLOSURES. One sentence: the union of the cosets of a list, by the program and by the reference.
  Conditions: each theorem's own, written out in it.
-/
import Derived.Test.YtjmojhflnjbgaaaCosW
import Derived.Test.YtjmojhflnjbgaaaPart
set_option linter.unusedSimpArgs false
set_option linter.unusedVariables false
set_option maxRecDepth 100000
namespace Go.Proofs.Ytjmojhflnjbgaaa
open Go.RowKit

theorem slc_IndexFunc_ent : Enters Try.prog 150 := enters_of Try.func150 (by kernel_rfl) (by kernel_rfl)
theorem slc_IndexFunc (A : Option Addr) (n c : Nat) (xs : List Int) (hn : n = xs.length) (h9 : xs.length ≤ 1000000000000) (f : FuncId) (lb : List Value) (Gc : List Chunk) (φ : Int → Bool) (hf : ∀ x ∈ xs, Pure Try.prog f ([Value.int .i64 x] ++ lb).toArray Gc (isV (.bool (φ x)))) :
    Pure Try.prog 150 #[.slice A n c, .func (.func f) #[] lb.toArray] [ro A (ints xs), bun Gc] (val (fun v => ∃ r : Int, v = .int .i64 r ∧ (r ≥ 0 ↔ xs.any φ = true))) := by
  refine pure_of (args := [.slice A n c, .func (.func f) #[] lb.toArray]) 19 Try.func150 rfl rfl rfl slc_IndexFunc_ent ⟨id, id, trivial⟩ (fun w0 => ?_)
  refine tr_seq ?_
  refine tr_region fun _ _ _ => ?_
  refine pu rfl rfl rfl rfl rfl ?_
  refine tr_seq ?_
  refine tr_seq ?_
  refine tr_region fun _ _ _ => ?_
  refine pu rfl rfl rfl rfl rfl ?_
  refine st rfl rfl rfl rfl (rLen rfl rfl) ?_
  refine pu rfl rfl rfl rfl rfl ?_
  refine tr_block ?_
  refine tr_loop1 (fun (i : Nat) => [(0, .slice A n c), (1, .func (.func f) #[] lb.toArray), (7, .int .i64 n), (8, .int .i64 i)]) (fun (i : Nat) => [ro A (ints xs), bun Gc]) (fun (i : Nat) => i ≤ xs.length ∧ ∀ x ∈ xs.take i, φ x = false) (fun (i : Nat) => xs.length - i) (0) ⟨rfl, rfl, rfl, rfl, trivial⟩ (by first | exact cs _ _ | exact CSub.refl _) (⟨by omega, fun x hx => by simp at hx⟩) (fun i hI => ?_)
  obtain ⟨hi, hno⟩ := hI
  refine tr_seq ?_
  refine tr_region fun _ _ _ => ?_
  refine pu rfl rfl rfl rfl rfl ?_
  refine tr_seq ?_
  refine tr_cond_bool rfl (fun h2 => ?_) (fun h2 => ?_)
  · try simp only [zb1, zb2, zb3, zb4, zb5, zb6, zb7, zb8, zb9, zb10] at h2
    refine tr_skip ?_
    refine tr_seq ?_
    refine tr_block ?_
    refine tr_seq ?_
    refine tr_region fun _ _ _ => ?_
    iterate 2 refine pu rfl rfl rfl rfl rfl ?_
    refine tr_seq ?_
    have hmem : xs.getD (i : Int).toNat 0 ∈ xs := getD_mem (show (i : Int).toNat < xs.length by omega) 0
    refine tr_region fun _ _ _ => ?_
    iterate 3 refine pu rfl rfl rfl rfl rfl ?_
    refine st rfl rfl rfl rfl (rIdxI rfl rfl rfl (by omega) (by omega) (by omega)) ?_
    refine st rfl rfl rfl rfl (rLdI rfl rfl (by omega)) ?_
    refine ef rfl rfl (eCallFV rfl rfl rfl rfl (hf _ hmem) ⟨rfl, trivial⟩ ent_bun ?_) 
    refine tr_cond_bool rfl (fun h4 => ?_) (fun h4 => ?_)
    · try simp only [zb1, zb2, zb3, zb4, zb5, zb6, zb7, zb8, zb9, zb10] at h4
      refine tr_seq ?_
      refine tr_region fun _ _ _ => ?_
      iterate 2 refine pu rfl rfl rfl rfl rfl ?_
      exact tr_ret ⟨trivial, _, _, rfl, ⟨rfl, _, rfl, ⟨fun _ => List.any_eq_true.2 ⟨_, hmem, h4⟩, fun _ => by omega⟩⟩, CSub.nil _, trivial⟩
    · try simp only [zb1, zb2, zb3, zb4, zb5, zb6, zb7, zb8, zb9, zb10] at h4
      refine tr_skip ?_
      refine tr_region fun _ _ _ => ?_
      refine st rfl rfl rfl rfl (rAdd rfl rfl rfl (by omega) (by omega)) ?_
      refine pu rfl rfl rfl rfl rfl ?_
      refine ⟨i + 1, ⟨rfl, rfl, rfl, rfl, trivial⟩, by first | exact cs _ _ | exact CSub.refl _, ?_⟩
      refine ⟨⟨by omega, fun x hx => ?_⟩, by omega⟩
      rw [List.take_add_one, List.mem_append] at hx
      rcases hx with hx | hx
      · exact hno x hx
      · rw [List.getElem?_eq_getElem (by omega)] at hx
        simp only [Option.toList_some, List.mem_singleton] at hx
        rw [hx]
        have : xs.getD (i : Int).toNat 0 = xs[i] := by simp [List.getD_eq_getElem?_getD, show i < xs.length by omega]
        rw [this] at h4
        exact h4
  · try simp only [zb1, zb2, zb3, zb4, zb5, zb6, zb7, zb8, zb9, zb10] at h2
    refine tr_exit ?_
    refine tr_seq ?_
    refine tr_region fun _ _ _ => ?_
    refine pu rfl rfl rfl rfl rfl ?_
    have hin : i = xs.length := by omega
    rw [hin, List.take_length] at hno
    exact tr_ret ⟨trivial, _, _, rfl, ⟨rfl, _, rfl, ⟨fun h => absurd h (by decide), fun h => by
      obtain ⟨x, hx, hp⟩ := List.any_eq_true.1 h
      rw [hno x hx] at hp; cases hp⟩⟩, CSub.nil _, trivial⟩

theorem slc_ContainsFunc_ent : Enters Try.prog 102 := enters_of Try.func102 (by kernel_rfl) (by kernel_rfl)
theorem slc_ContainsFunc (A : Option Addr) (n c : Nat) (xs : List Int) (hn : n = xs.length) (h9 : xs.length ≤ 1000000000000) (f : FuncId) (lb : List Value) (Gc : List Chunk) (φ : Int → Bool) (hf : ∀ x ∈ xs, Pure Try.prog f ([Value.int .i64 x] ++ lb).toArray Gc (isV (.bool (φ x)))) :
    Pure Try.prog 102 #[.slice A n c, .func (.func f) #[] lb.toArray] [ro A (ints xs), bun Gc] (isV (.bool (xs.any φ))) := by
  refine pure_of (args := [.slice A n c, .func (.func f) #[] lb.toArray]) 9 Try.func102 rfl rfl rfl slc_ContainsFunc_ent ⟨id, id, trivial⟩ (fun w0 => ?_)
  refine tr_seq ?_
  refine tr_region fun _ _ _ => ?_
  refine pu rfl rfl rfl rfl rfl ?_
  refine tr_seq ?_
  refine tr_region fun _ _ _ => ?_
  iterate 2 refine pu rfl rfl rfl rfl rfl ?_
  refine ef rfl rfl (eCall0 rfl rfl rfl (slc_IndexFunc A n c xs hn h9 f lb Gc φ hf) ⟨rfl, rfl, trivial⟩ ?_) 
  rintro _ ⟨r, rfl, hr⟩
  iterate 2 refine pu rfl rfl rfl rfl rfl ?_
  exact tr_ret ⟨trivial, _, _, rfl, ⟨by cases hx : xs.any φ <;> simp [hx] at hr ⊢ <;> omega, rfl⟩, CSub.nil _, trivial⟩

theorem Ent.bunV (F : List Chunk) (G : List Chunk) [h : HasBun F G] [k : Ent F []] : True := trivial

theorem bch_Closure1_ent : Enters Try.prog 103 := enters_of Try.func103 (by kernel_rfl) (by kernel_rfl)
theorem bch_Closure1 (x : Int) (p : Addr) (A : Option Addr) (n c : Nat) (bs : List Bool) (hn : n = bs.length) (hx : 0 ≤ x) (hx2 : x < bs.length) :
    Pure Try.prog 103 #[.int .i64 x, .pointer (some p)] [ro (some p) [.slice A n c], ro A (bools bs)] (isV (.bool (bs.getD x.toNat false))) := by
  refine pure_of (args := [.int .i64 x, .pointer (some p)]) 8 Try.func103 rfl rfl rfl bch_Closure1_ent ⟨id, id, trivial⟩ (fun w0 => ?_)
  refine tr_seq ?_
  refine tr_region fun _ _ _ => ?_
  refine pu rfl rfl rfl rfl rfl ?_
  refine tr_seq ?_
  refine tr_region fun _ _ _ => ?_
  refine st rfl rfl rfl rfl (rLd0 rfl rfl) ?_
  refine pu rfl rfl rfl rfl rfl ?_
  refine st rfl rfl rfl rfl (rIdxB rfl rfl rfl (by omega) (by omega) (by omega)) ?_
  refine st rfl rfl rfl rfl (rLdB rfl rfl (by omega)) ?_
  refine pu rfl rfl rfl rfl rfl ?_
  exact tr_ret ⟨trivial, _, _, rfl, ⟨rfl, rfl⟩, CSub.nil _, trivial⟩

def closureArgs (q n : Int) : Int := if q < 2 ∨ q > 256 then 6 else if n < 1 ∨ n > 64 then 4 else if (Int.gcd q n : Int) ≠ 1 then 10 else 0
noncomputable def bCls (q n : Int) (zs : List Int) (j : Int) : Bool := @decide (∃ z ∈ zs, Orb q n (z % n) j) (Classical.propDecidable _)
theorem bCls_iff {q n : Int} {zs : List Int} {j : Int} : bCls q n zs j = true ↔ ∃ z ∈ zs, Orb q n (z % n) j := by unfold bCls; exact @decide_eq_true_iff _ (Classical.propDecidable _)
/-- The union of the orbits of numbers, in ascending order. -/
noncomputable def clsL (q n : Int) (zs : List Int) : List Int := (upI n.toNat).filter (bCls q n zs)
theorem mem_clsL {q n : Int} {zs : List Int} {j : Int} (hn : 1 ≤ n) : j ∈ clsL q n zs ↔ (0 ≤ j ∧ j < n) ∧ ∃ z ∈ zs, Orb q n (z % n) j := by
  unfold clsL
  rw [List.mem_filter, mem_upI, bCls_iff, show ((n.toNat : Nat) : Int) = n by omega]
theorem clsL_lt (q n : Int) (zs : List Int) : (clsL q n zs).Pairwise (· < ·) := (upI_lt _).filter _
theorem clsL_length (q n : Int) (zs : List Int) : (clsL q n zs).length ≤ n.toNat := by
  unfold clsL
  have := List.length_filter_le (bCls q n zs) (upI n.toNat)
  rwa [upI_length] at this
theorem row_orb {q n : Int} (hn : 1 ≤ n) {k : Nat} (h : k < (cosAll q n n.toNat).length) {x : Int} (hx : x ∈ rowK q n k) : ∀ m, stp q n m x ∈ rowK q n k
  | 0 => hx
  | m + 1 => row_mul hn h (row_orb hn h hx m)
theorem in_range_len {n : Int} {xs : List Int} (hn : 1 ≤ n) (hd : xs.Nodup) (h : ∀ x ∈ xs, 0 ≤ x ∧ x < n) : (xs.length : Int) ≤ n := by
  have := nodup_len n.toNat (xs.map (· + 1)) (List.pairwise_map.2 (hd.imp fun h e => h (by omega))) (fun y hy => by
    obtain ⟨z, hz, rfl⟩ := List.mem_map.1 hy
    have := h z hz
    omega)
  simp at this; omega

theorem ref_ClosureArgs_ent : Enters Try.prog 45 := enters_of Try.func45 (by kernel_rfl) (by kernel_rfl)
theorem ref_ClosureArgs (q n : Int) :
    Pure Try.prog 45 #[.int .i64 q, .int .i64 n] [] (isV (.int .i64 (closureArgs q n))) := by
  refine pure_of (args := [.int .i64 q, .int .i64 n]) 21 Try.func45 rfl rfl rfl ref_ClosureArgs_ent trivial (fun w0 => ?_)
  refine tr_seq ?_
  refine tr_region fun _ _ _ => ?_
  refine pu rfl rfl rfl rfl rfl ?_
  refine tr_seq ?_
  refine tr_seq ?_
  refine tr_region fun _ _ _ => ?_
  iterate 3 refine pu rfl rfl rfl rfl rfl ?_
  refine stg rfl rfl rfl rfl rfl (fun hb => by (have hq := hb; try simp only [zb1, zb2, zb3, zb4, zb5, zb6, zb7, zb8, zb9, zb10] at hq); exact rMove rfl rfl) ?_
  refine stg rfl rfl rfl rfl rfl (fun hb => by (have hq := hb; try simp only [zb1, zb2, zb3, zb4, zb5, zb6, zb7, zb8, zb9, zb10] at hq); exact rGtr rfl (evg rfl hb) rfl) ?_
  refine st rfl rfl rfl rfl (rOrB rfl rfl rfl rfl) ?_
  refine tr_cond_bool rfl (fun h1 => ?_) (fun h1 => ?_)
  · try simp only [zb1, zb2, zb3, zb4, zb5, zb6, zb7, zb8, zb9, zb10] at h1
    refine tr_seq ?_
    refine tr_region fun _ _ _ => ?_
    refine pu rfl rfl rfl rfl rfl ?_
    exact tr_ret ⟨trivial, _, _, rfl, ⟨by rw [closureArgs, if_pos (by omega)], rfl⟩, CSub.nil _, trivial⟩
  · try simp only [zb1, zb2, zb3, zb4, zb5, zb6, zb7, zb8, zb9, zb10] at h1
    refine tr_skip ?_
    refine tr_seq ?_
    refine tr_seq ?_
    refine tr_region fun _ _ _ => ?_
    iterate 3 refine pu rfl rfl rfl rfl rfl ?_
    refine stg rfl rfl rfl rfl rfl (fun hb => by (have hq := hb; try simp only [zb1, zb2, zb3, zb4, zb5, zb6, zb7, zb8, zb9, zb10] at hq); exact rMove rfl rfl) ?_
    refine stg rfl rfl rfl rfl rfl (fun hb => by (have hq := hb; try simp only [zb1, zb2, zb3, zb4, zb5, zb6, zb7, zb8, zb9, zb10] at hq); exact rGtr rfl (evg rfl hb) rfl) ?_
    refine st rfl rfl rfl rfl (rOrB rfl rfl rfl rfl) ?_
    refine tr_cond_bool rfl (fun h3 => ?_) (fun h3 => ?_)
    · try simp only [zb1, zb2, zb3, zb4, zb5, zb6, zb7, zb8, zb9, zb10] at h3
      refine tr_seq ?_
      refine tr_region fun _ _ _ => ?_
      refine pu rfl rfl rfl rfl rfl ?_
      exact tr_ret ⟨trivial, _, _, rfl, ⟨by rw [closureArgs, if_neg (by omega), if_pos (by omega)], rfl⟩, CSub.nil _, trivial⟩
    · try simp only [zb1, zb2, zb3, zb4, zb5, zb6, zb7, zb8, zb9, zb10] at h3
      refine tr_skip ?_
      refine tr_seq ?_
      refine tr_seq ?_
      refine tr_region fun _ _ _ => ?_
      iterate 2 refine pu rfl rfl rfl rfl rfl ?_
      refine ef rfl rfl (eCallV rfl rfl rfl (ref_common _ _ (by omega) (by omega)) ⟨rfl, rfl, trivial⟩ ?_) 
      refine pu rfl rfl rfl rfl rfl ?_
      refine tr_cond_bool rfl (fun h5 => ?_) (fun h5 => ?_)
      · try simp only [zb1, zb2, zb3, zb4, zb5, zb6, zb7, zb8, zb9, zb10] at h5
        refine tr_seq ?_
        refine tr_region fun _ _ _ => ?_
        refine pu rfl rfl rfl rfl rfl ?_
        exact tr_ret ⟨trivial, _, _, rfl, ⟨by rw [closureArgs, if_neg (by omega), if_neg (by omega), if_pos (by omega)], rfl⟩, CSub.nil _, trivial⟩
      · try simp only [zb1, zb2, zb3, zb4, zb5, zb6, zb7, zb8, zb9, zb10] at h5
        refine tr_skip ?_
        refine tr_seq ?_
        refine tr_region fun _ _ _ => ?_
        refine pu rfl rfl rfl rfl rfl ?_
        exact tr_ret ⟨trivial, _, _, rfl, ⟨by rw [closureArgs, if_neg (by omega), if_neg (by omega), if_neg (by omega)], rfl⟩, CSub.nil _, trivial⟩

theorem ref_Closure_ent : Enters Try.prog 48 := enters_of Try.func48 (by kernel_rfl) (by kernel_rfl)
theorem ref_Closure (q n : Int) (Z : Option Addr) (cz : Nat) (zs : List Int) (hz : zs.length ≤ 1000000) (hq : 2 ≤ q) (hq2 : q ≤ 256) (hn : 1 ≤ n) (hn2 : n ≤ 64) (hg : Int.gcd q n = 1) :
    Pure Try.prog 48 #[.int .i64 q, .int .i64 n, .slice Z zs.length cz] [ro Z (ints zs)] (one (fun v ch => ∃ B cap, v = .slice B (clsL q n zs).length cap ∧ ch = ow B 3 cap (ints (clsL q n zs)))) := by
  refine pure_of (args := [.int .i64 q, .int .i64 n, .slice Z zs.length cz]) 56 Try.func48 rfl rfl rfl ref_Closure_ent ⟨id, trivial⟩ (fun w0 => ?_)
  refine tr_seq ?_
  refine tr_region fun _ _ _ => ?_
  refine pu rfl rfl rfl rfl rfl ?_
  refine tr_seq ?_
  refine tr_region fun _ _ _ => ?_
  refine pu rfl rfl rfl rfl rfl ?_
  refine ef rfl rfl (eMakeB rfl rfl rfl rfl rfl (by omega) (by omega) (by omega) (fun A1 => ?_)) 
  refine pu rfl rfl rfl rfl rfl ?_
  refine tr_seq ?_
  refine tr_seq ?_
  refine tr_region fun _ _ _ => ?_
  refine pu rfl rfl rfl rfl rfl ?_
  refine tr_block ?_
  refine tr_loop2 (fun (k : Nat) (bs : List Bool) => [(0, .int .i64 q), (1, .int .i64 n), (2, .slice Z zs.length cz), (7, .slice A1 n.toNat n.toNat), (8, .int .i64 k)]) (fun (k : Nat) (bs : List Bool) => [ow A1 4 n.toNat (bools bs), ro Z (ints zs)]) (fun (k : Nat) (bs : List Bool) => k ≤ zs.length ∧ (bs.length : Int) = n ∧ ∀ x : Int, 0 ≤ x → x < n → (bs.getD x.toNat false = true ↔ ∃ z ∈ zs.take k, Orb q n (z % n) x)) (fun (k : Nat) (bs : List Bool) => zs.length - k) (0) (List.replicate n.toNat false) ⟨rfl, rfl, rfl, rfl, rfl, trivial⟩ (by first | exact cs _ _ | exact CSub.refl _) (⟨by omega, by simp; omega, fun x _ _ => ⟨fun h => by (rw [rep_false] at h; cases h), fun ⟨z, hz, _⟩ => by simp at hz⟩⟩) (fun k bs hI => ?_)
  obtain ⟨hk, hbl, hb⟩ := hI
  refine tr_seq ?_
  refine tr_seq ?_
  refine tr_region fun _ _ _ => ?_
  iterate 2 refine pu rfl rfl rfl rfl rfl ?_
  refine st rfl rfl rfl rfl (rLen rfl rfl) ?_
  refine pu rfl rfl rfl rfl rfl ?_
  refine tr_cond_bool rfl (fun h3 => ?_) (fun h3 => ?_)
  · try simp only [zb1, zb2, zb3, zb4, zb5, zb6, zb7, zb8, zb9, zb10] at h3
    refine tr_skip ?_
    refine tr_seq ?_
    refine tr_block ?_
    refine tr_seq ?_
    have hzb : 0 ≤ zs.getD (k : Int).toNat 0 % n ∧ zs.getD (k : Int).toNat 0 % n < n := ⟨Int.emod_nonneg _ (by omega), Int.emod_lt_of_pos _ (by omega)⟩
    refine tr_region fun _ _ _ => ?_
    iterate 4 refine pu rfl rfl rfl rfl rfl ?_
    refine st rfl rfl rfl rfl (rIdxI rfl rfl rfl (by omega) (by omega) (by omega)) ?_
    refine st rfl rfl rfl rfl (rLdI rfl rfl (by omega)) ?_
    refine pu rfl rfl rfl rfl rfl ?_
    refine ef rfl rfl (eCallV rfl rfl rfl (ref_mod _ _ (by omega) (by omega)) ⟨rfl, rfl, trivial⟩ ?_) 
    refine ef rfl rfl (eCall1 rfl rfl rfl (ref_Coset q n _ (by omega) (by omega) (by omega) (by omega) (by omega) (by omega)) ⟨rfl, rfl, rfl, trivial⟩ ?_) 
    rintro _ _ ⟨B5a, c5a, rfl, rfl⟩
    refine pu rfl rfl rfl rfl rfl ?_
    generalize hw : zs.getD (k : Int).toNat 0 % n = z at hzb
    have hcl := cosL_length q n z
    refine tr_seq ?_
    refine tr_region fun _ _ _ => ?_
    refine pu rfl rfl rfl rfl rfl ?_
    refine tr_block ?_
    refine tr_loop2 (fun (j : Nat) (bs2 : List Bool) => [(0, .int .i64 q), (1, .int .i64 n), (2, .slice Z zs.length cz), (7, .slice A1 n.toNat n.toNat), (8, .int .i64 k), (9, .slice B5a (cosL q n z).length c5a), (10, .int .i64 j)]) (fun (j : Nat) (bs2 : List Bool) => [ow B5a 3 c5a (ints (cosL q n z)), ow A1 4 n.toNat (bools bs2), ro Z (ints zs)]) (fun (j : Nat) (bs2 : List Bool) => j ≤ (cosL q n z).length ∧ (bs2.length : Int) = n ∧ ∀ x : Int, 0 ≤ x → x < n → (bs2.getD x.toNat false = true ↔ bs.getD x.toNat false = true ∨ x ∈ (cosL q n z).take j)) (fun (j : Nat) (bs2 : List Bool) => (cosL q n z).length - j) (0) (bs) ⟨rfl, rfl, rfl, rfl, rfl, rfl, rfl, trivial⟩ (by first | exact cs _ _ | exact CSub.refl _) (⟨by omega, hbl, fun x _ _ => by simp⟩) (fun j bs2 hI => ?_)
    obtain ⟨hj, hbl2, hb2⟩ := hI
    refine tr_seq ?_
    refine tr_seq ?_
    refine tr_region fun _ _ _ => ?_
    iterate 2 refine pu rfl rfl rfl rfl rfl ?_
    refine st rfl rfl rfl rfl (rLen rfl rfl) ?_
    refine pu rfl rfl rfl rfl rfl ?_
    refine tr_cond_bool rfl (fun h7 => ?_) (fun h7 => ?_)
    · try simp only [zb1, zb2, zb3, zb4, zb5, zb6, zb7, zb8, zb9, zb10] at h7
      refine tr_skip ?_
      refine tr_seq ?_
      refine tr_block ?_
      have hx := (mem_cosL (by omega)).1 (getD_mem (show j < (cosL q n z).length by omega) (0 : Int))
      have hjt : (cosL q n z).getD (j : Int).toNat 0 = (cosL q n z).getD j 0 := by simp
      refine tr_region fun _ _ _ => ?_
      iterate 3 refine pu rfl rfl rfl rfl rfl ?_
      refine st rfl rfl rfl rfl (rIdxI rfl rfl rfl (by omega) (by omega) (by omega)) ?_
      refine st rfl rfl rfl rfl (rLdI rfl rfl (by omega)) ?_
      refine st rfl rfl rfl rfl (rIdxB rfl rfl rfl (by omega) (by omega) (by omega)) ?_
      refine ef rfl rfl (eStB rfl rfl rfl rfl (by omega) ?_) 
      refine tr_region fun _ _ _ => ?_
      refine pu rfl rfl rfl rfl rfl ?_
      refine st rfl rfl rfl rfl (rAdd rfl rfl rfl (by omega) (by omega)) ?_
      refine pu rfl rfl rfl rfl rfl ?_
      refine ⟨j + 1, bs2.set ((cosL q n z).getD (j : Int).toNat 0).toNat true, ⟨rfl, rfl, rfl, rfl, rfl, rfl, rfl, trivial⟩, by first | exact cs _ _ | exact CSub.refl _, ?_⟩
      refine ⟨⟨by omega, by simpa using hbl2, fun x h1 h2 => ?_⟩, by omega⟩
      rw [getDb_set, hjt, List.take_add_one, List.mem_append, List.getElem?_eq_getElem (by omega)]
      have hxe : (cosL q n z).getD j 0 = (cosL q n z)[j]'(by omega) := by simp [List.getD_eq_getElem?_getD, show j < (cosL q n z).length by omega]
      simp only [Option.toList_some, List.mem_singleton]
      rw [← hxe]
      by_cases he : ((cosL q n z).getD j 0).toNat = x.toNat
      · rw [if_pos ⟨he, by omega⟩]
        exact ⟨fun _ => .inr (.inr (by omega)), fun _ => rfl⟩
      · rw [if_neg (by omega), hb2 x h1 h2]
        have hne : x ≠ (cosL q n z).getD j 0 := fun e => he (by rw [e])
        exact ⟨fun h => h.elim .inl (fun h => .inr (.inl h)), fun h => h.elim .inl (fun h => h.elim .inr (fun h => absurd h hne))⟩
    · try simp only [zb1, zb2, zb3, zb4, zb5, zb6, zb7, zb8, zb9, zb10] at h7
      refine tr_exit ?_
      refine tr_region fun _ _ _ => ?_
      refine pu rfl rfl rfl rfl rfl ?_
      refine st rfl rfl rfl rfl (rAdd rfl rfl rfl (by omega) (by omega)) ?_
      refine pu rfl rfl rfl rfl rfl ?_
      refine ⟨k + 1, bs2, ⟨rfl, rfl, rfl, rfl, rfl, trivial⟩, by first | exact cs _ _ | exact CSub.refl _, ?_⟩
      have hjl : j = (cosL q n z).length := by omega
      rw [hjl, List.take_length] at hb2
      refine ⟨⟨by omega, hbl2, fun x h1 h2 => ?_⟩, by omega⟩
      rw [hb2 x h1 h2, hb x h1 h2, mem_cosL (by omega)]
      have hzk : zs.take (k + 1) = zs.take k ++ [zs.getD (k : Int).toNat 0] := by
        rw [List.take_add_one, List.getElem?_eq_getElem (by omega)]
        simp [List.getD_eq_getElem?_getD, show k < zs.length by omega]
      rw [hzk]
      constructor
      · rintro (⟨y, h3, h4⟩ | ⟨_, h4⟩)
        · exact ⟨y, List.mem_append_left _ h3, h4⟩
        · exact ⟨_, List.mem_append_right _ (List.mem_singleton.2 rfl), by rw [hw]; exact h4⟩
      · rintro ⟨y, h3, h4⟩
        rcases List.mem_append.1 h3 with h3 | h3
        · exact .inl ⟨y, h3, h4⟩
        · rw [List.mem_singleton.1 h3, hw] at h4
          exact .inr ⟨⟨h1, h2⟩, h4⟩
  · try simp only [zb1, zb2, zb3, zb4, zb5, zb6, zb7, zb8, zb9, zb10] at h3
    refine tr_exit ?_
    refine tr_seq ?_
    have hkz : k = zs.length := by omega
    refine tr_region fun _ _ _ => ?_
    refine pu rfl rfl rfl rfl rfl ?_
    refine tr_seq ?_
    refine tr_seq ?_
    refine tr_region fun _ _ _ => ?_
    refine pu rfl rfl rfl rfl rfl ?_
    refine tr_block ?_
    refine tr_nilI 3 ?_
    refine tr_loop4 (fun (j : Nat) (A9 : Option Addr) (c9 : Nat) (o : List Int) => [(1, .int .i64 n), (7, .slice A1 n.toNat n.toNat), (11, .slice A9 o.length c9), (12, .int .i64 j)]) (fun (j : Nat) (A9 : Option Addr) (c9 : Nat) (o : List Int) => [ow A9 3 c9 (ints o), ow A1 4 n.toNat (bools bs)]) (fun (j : Nat) (A9 : Option Addr) (c9 : Nat) (o : List Int) => (j : Int) ≤ n ∧ o = (upI j).filter (bCls q n zs)) (fun (j : Nat) (A9 : Option Addr) (c9 : Nat) (o : List Int) => n.toNat - j) (0) (none) (0) ([]) ⟨rfl, rfl, rfl, rfl, trivial⟩ (by first | exact cs _ _ | exact CSub.refl _) (⟨by omega, rfl⟩) (fun j A9 c9 o hI => ?_)
    obtain ⟨hj, ho⟩ := hI
    rw [hkz, List.take_length] at hb
    have hjb : j < n.toNat → (bs.getD (j : Int).toNat false = true ↔ ∃ z ∈ zs, Orb q n (z % n) j) := fun h => hb j (by omega) (by omega)
    have hol : o.length ≤ j := by rw [ho]; have := List.length_filter_le (bCls q n zs) (upI j); rwa [upI_length] at this
    refine tr_seq ?_
    refine tr_seq ?_
    refine tr_region fun _ _ _ => ?_
    iterate 3 refine pu rfl rfl rfl rfl rfl ?_
    refine tr_cond_bool rfl (fun h12 => ?_) (fun h12 => ?_)
    · try simp only [zb1, zb2, zb3, zb4, zb5, zb6, zb7, zb8, zb9, zb10] at h12
      refine tr_skip ?_
      refine tr_seq ?_
      refine tr_block ?_
      refine tr_seq ?_
      refine tr_region fun _ _ _ => ?_
      iterate 2 refine pu rfl rfl rfl rfl rfl ?_
      refine st rfl rfl rfl rfl (rIdxB rfl rfl rfl (by omega) (by omega) (by omega)) ?_
      refine st rfl rfl rfl rfl (rLdB rfl rfl (by omega)) ?_
      refine tr_cond_bool rfl (fun h14 => ?_) (fun h14 => ?_)
      · try simp only [zb1, zb2, zb3, zb4, zb5, zb6, zb7, zb8, zb9, zb10] at h14
        refine tr_region fun _ _ _ => ?_
        iterate 2 refine pu rfl rfl rfl rfl rfl ?_
        refine ef rfl rfl (eLit1I rfl rfl rfl rfl (fun A15 => ?_)) 
        refine ef rfl rfl (eAppI rfl rfl rfl rfl rfl (by first | rfl | simp) (by first | rfl | simp) (by first | omega | (simp; omega)) (fun A15a c15a => ?_)) 
        refine pu rfl rfl rfl rfl rfl ?_
        refine tr_region fun _ _ _ => ?_
        refine pu rfl rfl rfl rfl rfl ?_
        refine st rfl rfl rfl rfl (rAdd rfl rfl rfl (by omega) (by omega)) ?_
        refine pu rfl rfl rfl rfl rfl ?_
        refine ⟨j + 1, A15a, c15a, o ++ [(j : Int)], ⟨rfl, rfl, rfl, rfl, trivial⟩, by first | exact cs _ _ | exact CSub.refl _, ?_⟩
        refine ⟨⟨by omega, ?_⟩, by omega⟩
        rw [upI_succ, List.filter_append, ← ho]
        simp [bCls_iff.2 ((hjb (by omega)).1 h14)]
      · try simp only [zb1, zb2, zb3, zb4, zb5, zb6, zb7, zb8, zb9, zb10] at h14
        refine tr_skip ?_
        refine tr_region fun _ _ _ => ?_
        refine pu rfl rfl rfl rfl rfl ?_
        refine st rfl rfl rfl rfl (rAdd rfl rfl rfl (by omega) (by omega)) ?_
        refine pu rfl rfl rfl rfl rfl ?_
        refine ⟨j + 1, A9, c9, o, ⟨rfl, rfl, rfl, rfl, trivial⟩, by first | exact cs _ _ | exact CSub.refl _, ?_⟩
        refine ⟨⟨by omega, ?_⟩, by omega⟩
        rw [upI_succ, List.filter_append, ← ho]
        have : bCls q n zs j = false := Bool.eq_false_iff.2 (fun h => by rw [(hjb (by omega)).2 (bCls_iff.1 h)] at h14; cases h14)
        simp [this]
    · try simp only [zb1, zb2, zb3, zb4, zb5, zb6, zb7, zb8, zb9, zb10] at h12
      refine tr_exit ?_
      refine tr_seq ?_
      refine tr_region fun _ _ _ => ?_
      iterate 2 refine pu rfl rfl rfl rfl rfl ?_
      have hjn : j = n.toNat := by omega
      have hoc : o = clsL q n zs := by rw [ho, hjn]; rfl
      rw [← hoc]
      exact tr_ret ⟨trivial, _, _, rfl, ⟨_, rfl, A9, c9, rfl, rfl⟩, cs _ _, trivial, trivial⟩

theorem any_row {q n : Int} (hg : Int.gcd q n = 1) (hn : 1 ≤ n) {zs : List Int} {k : Nat} (h : k < (cosAll q n n.toNat).length) : (rowK q n k).any (fun i => (memL n zs).getD i.toNat false) = true ↔ ∃ z ∈ zs, z % n ∈ rowK q n k := by
  rw [List.any_eq_true]
  constructor
  · rintro ⟨x, hx, hp⟩
    have hb := row_in hn h hx
    have h1 := memL_get n hn zs x
    rw [Int.emod_eq_of_lt hb.1 hb.2] at h1
    obtain ⟨z, hz, he⟩ := h1.1 hp
    exact ⟨z, hz, by rw [he, Int.emod_eq_of_lt hb.1 hb.2]; exact hx⟩
  · rintro ⟨z, hz, hm⟩
    exact ⟨_, hm, (memL_get n hn zs z).2 ⟨z, hz, rfl⟩⟩
theorem cls_of {q n : Int} (hg : Int.gcd q n = 1) (hn : 1 ≤ n) {zs o : List Int} (hd : o.Nodup) (hm : ∀ x, x ∈ o ↔ ∃ k, k < (cosAll q n n.toNat).length ∧ x ∈ rowK q n k ∧ ∃ z ∈ zs, z % n ∈ rowK q n k) : sortI o = clsL q n zs :=
  asc_eq _ _ (sortI_lt hd) (clsL_lt q n zs) fun x => by
    rw [(sortI_perm o).mem_iff, hm, mem_clsL hn]
    constructor
    · rintro ⟨k, hk, hx, z, hz, hzk⟩
      refine ⟨row_in hn hk hx, z, hz, ?_⟩
      rw [(row_rep hk).2] at hx hzk
      have hb := rep_bd hn (row_rep hk).1
      exact (((mem_cosL (by omega)).1 hzk).2.symm hg hn hb.1).trans ((mem_cosL (by omega)).1 hx).2
    · rintro ⟨hb, z, hz, ho⟩
      obtain ⟨k, hk, hx⟩ := row_all (q := q) hn hb
      obtain ⟨m, hmm⟩ := ho.symm hg hn ⟨Int.emod_nonneg _ (by omega), Int.emod_lt_of_pos _ (by omega)⟩
      exact ⟨k, hk, hx, z, hz, by rw [hmm]; exact row_orb hn hk hx m⟩

theorem bch_Closure_no_ent : Enters Try.prog 46 := enters_of Try.func46 (by kernel_rfl) (by kernel_rfl)
theorem bch_Closure_no (q n : Int) (Z : Option Addr) (cz : Nat) (zs : List Int) (hz : zs.length ≤ 1000000) (h : closureArgs q n ≠ 0) :
    Pure Try.prog 46 #[.int .i64 q, .int .i64 n, .slice Z zs.length cz] [ro Z (ints zs)] (isV (.tuple #[.slice none 0 0, .int .i64 (closureArgs q n)])) := by
  refine pure_of (args := [.int .i64 q, .int .i64 n, .slice Z zs.length cz]) 56 Try.func46 rfl rfl rfl bch_Closure_no_ent ⟨id, trivial⟩ (fun w0 => ?_)
  refine tr_seq ?_
  refine tr_region fun _ _ _ => ?_
  iterate 2 refine pu rfl rfl rfl rfl rfl ?_
  refine tr_seq ?_
  refine tr_block ?_
  refine tr_seq ?_
  refine tr_region fun _ _ _ => ?_
  iterate 3 refine pu rfl rfl rfl rfl rfl ?_
  refine stg rfl rfl rfl rfl rfl (fun hb => by (have hq := hb; try simp only [zb1, zb2, zb3, zb4, zb5, zb6, zb7, zb8, zb9, zb10] at hq); exact rMove rfl rfl) ?_
  refine stg rfl rfl rfl rfl rfl (fun hb => by (have hq := hb; try simp only [zb1, zb2, zb3, zb4, zb5, zb6, zb7, zb8, zb9, zb10] at hq); exact rGtr rfl (evg rfl hb) rfl) ?_
  refine st rfl rfl rfl rfl (rOrB rfl rfl rfl rfl) ?_
  refine pu rfl rfl rfl rfl rfl ?_
  refine tr_cond_bool rfl (fun h1 => ?_) (fun h1 => ?_)
  · try simp only [zb1, zb2, zb3, zb4, zb5, zb6, zb7, zb8, zb9, zb10] at h1
    refine tr_seq ?_
    refine tr_region fun _ _ _ => ?_
    iterate 2 refine pu rfl rfl rfl rfl rfl ?_
    exact tr_ret ⟨trivial, _, _, rfl, ⟨by rw [closureArgs, if_pos (by omega)], rfl⟩, CSub.nil _, trivial⟩
  · try simp only [zb1, zb2, zb3, zb4, zb5, zb6, zb7, zb8, zb9, zb10] at h1
    refine tr_seq ?_
    refine tr_region fun _ _ _ => ?_
    iterate 3 refine pu rfl rfl rfl rfl rfl ?_
    refine stg rfl rfl rfl rfl rfl (fun hb => by (have hq := hb; try simp only [zb1, zb2, zb3, zb4, zb5, zb6, zb7, zb8, zb9, zb10] at hq); exact rMove rfl rfl) ?_
    refine stg rfl rfl rfl rfl rfl (fun hb => by (have hq := hb; try simp only [zb1, zb2, zb3, zb4, zb5, zb6, zb7, zb8, zb9, zb10] at hq); exact rGtr rfl (evg rfl hb) rfl) ?_
    refine st rfl rfl rfl rfl (rOrB rfl rfl rfl rfl) ?_
    refine pu rfl rfl rfl rfl rfl ?_
    refine tr_cond_bool rfl (fun h3 => ?_) (fun h3 => ?_)
    · try simp only [zb1, zb2, zb3, zb4, zb5, zb6, zb7, zb8, zb9, zb10] at h3
      refine tr_seq ?_
      refine tr_region fun _ _ _ => ?_
      iterate 2 refine pu rfl rfl rfl rfl rfl ?_
      exact tr_ret ⟨trivial, _, _, rfl, ⟨by rw [closureArgs, if_neg (by omega), if_pos (by omega)], rfl⟩, CSub.nil _, trivial⟩
    · try simp only [zb1, zb2, zb3, zb4, zb5, zb6, zb7, zb8, zb9, zb10] at h3
      refine tr_skip ?_
      refine tr_seq ?_
      have hcg : (Int.gcd q n : Int) ≠ 1 := fun e => h (by rw [closureArgs, if_neg (by omega), if_neg (by omega), if_neg (by omega)])
      have hca : cosetArgs q n = 10 := by rw [cosetArgs, if_neg (by omega), if_pos hcg]
      have hcl : closureArgs q n = 10 := by rw [closureArgs, if_neg (by omega), if_neg (by omega), if_pos hcg]
      refine tr_region fun _ _ _ => ?_
      iterate 2 refine pu rfl rfl rfl rfl rfl ?_
      refine ef rfl rfl (eCallV rfl rfl rfl (cyc_Cosets_no _ _ (by omega)) ⟨rfl, rfl, trivial⟩ ?_) 
      iterate 5 refine pu rfl rfl rfl rfl rfl ?_
      refine tr_seq ?_
      refine tr_seq ?_
      refine tr_region fun _ _ _ => ?_
      iterate 2 refine pu rfl rfl rfl rfl rfl ?_
      refine tr_cond_bool rfl (fun h6 => ?_) (fun h6 => ?_)
      · try simp only [zb1, zb2, zb3, zb4, zb5, zb6, zb7, zb8, zb9, zb10] at h6
        refine tr_seq ?_
        refine tr_region fun _ _ _ => ?_
        iterate 3 refine pu rfl rfl rfl rfl rfl ?_
        exact tr_ret ⟨trivial, _, _, rfl, ⟨by rw [hcl, hca], rfl⟩, CSub.nil _, trivial⟩
      · try simp only [zb1, zb2, zb3, zb4, zb5, zb6, zb7, zb8, zb9, zb10] at h6
        rw [hca] at h6
        omega --done

theorem bch_Closure_ent : Enters Try.prog 46 := enters_of Try.func46 (by kernel_rfl) (by kernel_rfl)
theorem bch_Closure (q n : Int) (Z : Option Addr) (cz : Nat) (zs : List Int) (hz : zs.length ≤ 1000000) (hq : 2 ≤ q) (hq2 : q ≤ 256) (hn : 1 ≤ n) (hn2 : n ≤ 64) (hg : Int.gcd q n = 1) :
    Pure Try.prog 46 #[.int .i64 q, .int .i64 n, .slice Z zs.length cz] [ro Z (ints zs)] (one (fun v ch => ∃ B cap, v = .tuple #[.slice B (clsL q n zs).length cap, .int .i64 0] ∧ ch = ow B 3 cap (ints (clsL q n zs)))) := by
  refine pure_of (args := [.int .i64 q, .int .i64 n, .slice Z zs.length cz]) 56 Try.func46 rfl rfl rfl bch_Closure_ent ⟨id, trivial⟩ (fun w0 => ?_)
  refine tr_seq ?_
  refine tr_region fun _ _ _ => ?_
  iterate 2 refine pu rfl rfl rfl rfl rfl ?_
  refine tr_seq ?_
  refine tr_block ?_
  refine tr_seq ?_
  refine tr_region fun _ _ _ => ?_
  iterate 3 refine pu rfl rfl rfl rfl rfl ?_
  refine stg rfl rfl rfl rfl rfl (fun hb => by (have hq := hb; try simp only [zb1, zb2, zb3, zb4, zb5, zb6, zb7, zb8, zb9, zb10] at hq); exact rMove rfl rfl) ?_
  refine stg rfl rfl rfl rfl rfl (fun hb => by (have hq := hb; try simp only [zb1, zb2, zb3, zb4, zb5, zb6, zb7, zb8, zb9, zb10] at hq); exact rGtr rfl (evg rfl hb) rfl) ?_
  refine st rfl rfl rfl rfl (rOrB rfl rfl rfl rfl) ?_
  refine pu rfl rfl rfl rfl rfl ?_
  refine tr_cond_bool rfl (fun h1 => ?_) (fun h1 => ?_)
  · try simp only [zb1, zb2, zb3, zb4, zb5, zb6, zb7, zb8, zb9, zb10] at h1
    omega --done
  · try simp only [zb1, zb2, zb3, zb4, zb5, zb6, zb7, zb8, zb9, zb10] at h1
    refine tr_seq ?_
    refine tr_region fun _ _ _ => ?_
    iterate 3 refine pu rfl rfl rfl rfl rfl ?_
    refine stg rfl rfl rfl rfl rfl (fun hb => by (have hq := hb; try simp only [zb1, zb2, zb3, zb4, zb5, zb6, zb7, zb8, zb9, zb10] at hq); exact rMove rfl rfl) ?_
    refine stg rfl rfl rfl rfl rfl (fun hb => by (have hq := hb; try simp only [zb1, zb2, zb3, zb4, zb5, zb6, zb7, zb8, zb9, zb10] at hq); exact rGtr rfl (evg rfl hb) rfl) ?_
    refine st rfl rfl rfl rfl (rOrB rfl rfl rfl rfl) ?_
    refine pu rfl rfl rfl rfl rfl ?_
    refine tr_cond_bool rfl (fun h3 => ?_) (fun h3 => ?_)
    · try simp only [zb1, zb2, zb3, zb4, zb5, zb6, zb7, zb8, zb9, zb10] at h3
      omega --done
    · try simp only [zb1, zb2, zb3, zb4, zb5, zb6, zb7, zb8, zb9, zb10] at h3
      refine tr_skip ?_
      refine tr_seq ?_
      refine tr_region fun _ _ _ => ?_
      iterate 2 refine pu rfl rfl rfl rfl rfl ?_
      refine ef rfl rfl (eCall2 rfl rfl rfl (cyc_Cosets q n hq hq2 hn (by omega) hg) ⟨rfl, rfl, trivial⟩ ?_) 
      rintro _ _ _ ⟨A5, c5, rs, rfl, rfl, rfl, hrs⟩
      iterate 5 refine pu rfl rfl rfl rfl rfl ?_
      refine tr_seq ?_
      refine tr_seq ?_
      have hrl : rs.length = (cosAll q n n.toNat).length := by have := congrArg List.length hrs; rwa [List.length_map] at this
      have hrk : ∀ k : Nat, (rs.getD k rowD).xs = rowK q n k := fun k => by rw [← xs_getD, hrs]; rfl
      have hml := memL_length n zs
      have hrn : rs.length ≤ n.toNat := by rw [hrl]; exact cosAll_length q n n.toNat
      refine tr_region fun _ _ _ => ?_
      iterate 2 refine pu rfl rfl rfl rfl rfl ?_
      refine tr_cond_bool rfl (fun h6 => ?_) (fun h6 => ?_)
      · try simp only [zb1, zb2, zb3, zb4, zb5, zb6, zb7, zb8, zb9, zb10] at h6
        exact absurd trivial h6 --done
      · try simp only [zb1, zb2, zb3, zb4, zb5, zb6, zb7, zb8, zb9, zb10] at h6
        refine tr_skip ?_
        refine tr_seq ?_
        refine tr_region fun _ _ _ => ?_
        iterate 2 refine pu rfl rfl rfl rfl rfl ?_
        refine ef rfl rfl (eCall1 rfl rfl rfl (bch_members _ (by omega) (by omega) _ _ _ (by omega)) ⟨rfl, rfl, trivial⟩ ?_) 
        rintro _ _ ⟨B8, rfl, rfl⟩
        refine ef rfl rfl (eAlloc rfl rfl rfl (fun p8a => ?_)) 
        refine ef rfl rfl (eSt0 rfl rfl rfl rfl rfl rfl ?_) 
        refine tr_seq ?_
        refine tr_region fun _ _ _ => ?_
        refine pu rfl rfl rfl rfl rfl ?_
        refine tr_seq ?_
        refine tr_seq ?_
        refine tr_region fun _ _ _ => ?_
        refine pu rfl rfl rfl rfl rfl ?_
        refine st rfl rfl rfl rfl (rLen rfl rfl) ?_
        refine pu rfl rfl rfl rfl rfl ?_
        refine tr_block ?_
        refine tr_nilI 3 ?_
        refine tr_loop4 (fun (k : Nat) (A11 : Option Addr) (c11 : Nat) (o : List Int) => [(10, .pointer (some p8a)), (11, .slice A11 o.length c11), (40, .slice A5 rs.length c5), (41, .int .i64 rs.length), (42, .int .i64 k)]) (fun (k : Nat) (A11 : Option Addr) (c11 : Nat) (o : List Int) => [ow A11 3 c11 (ints o), ow A5 22 c5 (hdrs rs), rowsCh 3 rs, blk p8a 86 [.slice B8 n.toNat n.toNat], ow B8 4 n.toNat (bools (memL n zs))]) (fun (k : Nat) (A11 : Option Addr) (c11 : Nat) (o : List Int) => k ≤ rs.length ∧ o.Nodup ∧ (o.length : Int) ≤ n ∧ ∀ x, x ∈ o ↔ ∃ k2, k2 < k ∧ x ∈ rowK q n k2 ∧ ∃ z ∈ zs, z % n ∈ rowK q n k2) (fun (k : Nat) (A11 : Option Addr) (c11 : Nat) (o : List Int) => rs.length - k) (0) (none) (0) ([]) ⟨rfl, rfl, rfl, rfl, rfl, trivial⟩ (by first | exact cs _ _ | exact CSub.refl _) (⟨by omega, List.nodup_nil, by simp; omega, fun x => by simp⟩) (fun k A11 c11 o hI => ?_)
        obtain ⟨hk, hnd, hol, hmem⟩ := hI
        refine tr_seq ?_
        refine tr_region fun _ _ _ => ?_
        refine pu rfl rfl rfl rfl rfl ?_
        refine tr_seq ?_
        refine tr_cond_bool rfl (fun h11 => ?_) (fun h11 => ?_)
        · try simp only [zb1, zb2, zb3, zb4, zb5, zb6, zb7, zb8, zb9, zb10] at h11
          refine tr_skip ?_
          refine tr_seq ?_
          refine tr_block ?_
          refine tr_seq ?_
          haveI : InB (k : Int).toNat rs.length := ⟨by omega⟩
          refine tr_region fun _ _ _ => ?_
          refine st rfl rfl rfl rfl (rIdxR rfl rfl rfl (by omega) (by omega) (by omega)) ?_
          refine st rfl rfl rfl rfl (rLdR rfl rfl (by omega)) ?_
          refine pu rfl rfl rfl rfl rfl ?_
          refine tr_seq ?_
          have hxb : ∀ x ∈ (rs.getD (k : Int).toNat rowD).xs, 0 ≤ x ∧ x < (memL n zs).length := fun x hx => by
            rw [hrk] at hx
            have := row_in hn (show (k : Int).toNat < (cosAll q n n.toNat).length by omega) hx
            omega
          have hsl : ((rs.getD (k : Int).toNat rowD).xs.length : Int) ≤ n := in_range_len hn (by rw [hrk]; exact row_nodup (by omega)) (fun x hx => by rw [hrk] at hx; exact row_in hn (show (k : Int).toNat < (cosAll q n n.toNat).length by omega) hx)
          have hsh : (rs.getD (k : Int).toNat rowD).xs.length ≤ 1000000000000 := by omega
          refine tr_region fun _ _ _ => ?_
          refine pu rfl rfl rfl rfl rfl ?_
          refine st rfl rfl rfl rfl (rFun rfl rfl rfl) ?_
          refine ef rfl rfl (eCallV rfl rfl rfl (slc_ContainsFunc _ _ _ (rs.getD (k : Int).toNat rowD).xs rfl hsh _ [.pointer (some p8a)] [ro (some p8a) [.slice B8 n.toNat n.toNat], ro B8 (bools (memL n zs))] (fun i => (memL n zs).getD i.toNat false) (fun x hx => bch_Closure1 x p8a B8 _ _ (memL n zs) hml.symm (hxb x hx).1 (hxb x hx).2)) ⟨rfl, rfl, trivial⟩ ?_) 
          refine tr_cond_bool rfl (fun h13 => ?_) (fun h13 => ?_)
          · try simp only [zb1, zb2, zb3, zb4, zb5, zb6, zb7, zb8, zb9, zb10] at h13
            rw [hrk, any_row hg hn (by omega)] at h13
            refine tr_region fun _ _ _ => ?_
            iterate 2 refine pu rfl rfl rfl rfl rfl ?_
            refine ef rfl rfl (eAppI rfl rfl rfl rfl rfl (by first | rfl | simp) (by first | rfl | simp) (by first | omega | (simp; omega)) (fun A14 c14 => ?_)) 
            refine pu rfl rfl rfl rfl rfl ?_
            refine tr_region fun _ _ _ => ?_
            refine st rfl rfl rfl rfl (rAdd rfl rfl rfl (by omega) (by omega)) ?_
            refine pu rfl rfl rfl rfl rfl ?_
            refine ⟨k + 1, A14, c14, o ++ (rs.getD (k : Int).toNat rowD).xs, ⟨rfl, rfl, rfl, rfl, rfl, trivial⟩, by first | exact cs _ _ | exact CSub.refl _, ?_⟩
            have hkk : (k : Int).toNat < (cosAll q n n.toNat).length := by omega
            have hnew : (o ++ rowK q n (k : Int).toNat).Nodup := by
              rw [List.nodup_append]
              refine ⟨hnd, row_nodup hkk, fun a ha b hb e => ?_⟩
              subst e
              obtain ⟨k2, h1, h2, _⟩ := (hmem a).1 ha
              have := row_one hg hn (show k2 < (cosAll q n n.toNat).length by omega) hkk h2 hb
              omega
            rw [hrk]
            refine ⟨⟨by omega, hnew, in_range_len hn hnew (fun x hx => ?_), fun x => ?_⟩, by omega⟩
            · rcases List.mem_append.1 hx with hx | hx
              · obtain ⟨k2, h1, h2, _⟩ := (hmem x).1 hx
                exact row_in hn (show k2 < (cosAll q n n.toNat).length by omega) h2
              · exact row_in hn hkk hx
            · rw [List.mem_append, hmem]
              constructor
              · rintro (⟨k2, h1, h2⟩ | h)
                · exact ⟨k2, by omega, h2⟩
                · exact ⟨(k : Int).toNat, by omega, h, h13⟩
              · rintro ⟨k2, h1, h2⟩
                by_cases he : k2 = (k : Int).toNat
                · right; rw [← he]; exact h2.1
                · left; exact ⟨k2, by omega, h2⟩
          · try simp only [zb1, zb2, zb3, zb4, zb5, zb6, zb7, zb8, zb9, zb10] at h13
            refine tr_skip ?_
            refine tr_region fun _ _ _ => ?_
            refine st rfl rfl rfl rfl (rAdd rfl rfl rfl (by omega) (by omega)) ?_
            refine pu rfl rfl rfl rfl rfl ?_
            refine ⟨k + 1, A11, c11, o, ⟨rfl, rfl, rfl, rfl, rfl, trivial⟩, by first | exact cs _ _ | exact CSub.refl _, ?_⟩
            have hkk : (k : Int).toNat < (cosAll q n n.toNat).length := by omega
            rw [hrk] at h13
            have hno : ¬ ∃ z ∈ zs, z % n ∈ rowK q n (k : Int).toNat := fun h => by rw [(any_row hg hn hkk).2 h] at h13; cases h13
            refine ⟨⟨by omega, hnd, hol, fun x => ?_⟩, by omega⟩
            rw [hmem]
            constructor
            · rintro ⟨k2, h1, h2⟩; exact ⟨k2, by omega, h2⟩
            · rintro ⟨k2, h1, h2⟩
              by_cases he : k2 = (k : Int).toNat
              · exact absurd (he ▸ h2.2) hno
              · exact ⟨k2, by omega, h2⟩
        · try simp only [zb1, zb2, zb3, zb4, zb5, zb6, zb7, zb8, zb9, zb10] at h11
          refine tr_exit ?_
          refine tr_seq ?_
          refine tr_region fun _ _ _ => ?_
          refine pu rfl rfl rfl rfl rfl ?_
          refine ef rfl rfl (eCallM1 rfl rfl rfl (slc_Sort A11 _ c11 o rfl (by omega)) ⟨rfl, trivial⟩ ?_) 
          rintro _ _ ⟨rfl, rfl⟩
          have hkr : k = (cosAll q n n.toNat).length := by omega
          have hso := cls_of (zs := zs) hg hn hnd (fun x => by rw [hmem x, hkr])
          have hsl := sortI_length o
          rw [← hsl, hso]
          refine tr_seq ?_
          refine tr_region fun _ _ _ => ?_
          iterate 3 refine pu rfl rfl rfl rfl rfl ?_
          exact tr_ret ⟨trivial, _, _, rfl, ⟨_, rfl, A11, c11, rfl, rfl⟩, cs _ _, trivial, trivial⟩

end Go.Proofs.Ytjmojhflnjbgaaa

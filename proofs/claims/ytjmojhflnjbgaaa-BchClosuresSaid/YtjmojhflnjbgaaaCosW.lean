/-
  COSETS. One sentence: what the cosets of the program and of the reference are.
  Conditions: each theorem's own, written out in it.
-/
import Derived.Test.YtjmojhflnjbgaaaCos
import Derived.Test.YtjmojhflnjbgaaaBch1
import Derived.Test.YtjmojhflnjbgaaaSort
set_option linter.unusedSimpArgs false
set_option linter.unusedVariables false
set_option maxRecDepth 100000
namespace Go.Proofs.Ytjmojhflnjbgaaa
open Go.RowKit

def cosetArgs (q n : Int) : Int := if q < 2 ∨ q > 256 ∨ n < 1 ∨ n > 65536 then 6 else if (Int.gcd q n : Int) ≠ 1 then 10 else 0

theorem ref_CosetArgs_ent : Enters Try.prog 40 := enters_of Try.func40 (by kernel_rfl) (by kernel_rfl)
theorem ref_CosetArgs (q n : Int) :
    Pure Try.prog 40 #[.int .i64 q, .int .i64 n] [] (isV (.int .i64 (cosetArgs q n))) := by
  refine pure_of (args := [.int .i64 q, .int .i64 n]) 23 Try.func40 rfl rfl rfl ref_CosetArgs_ent trivial (fun w0 => ?_)
  refine tr_seq ?_
  refine tr_region fun _ _ _ => ?_
  refine pu rfl rfl rfl rfl rfl ?_
  refine tr_seq ?_
  refine tr_seq ?_
  refine tr_region fun _ _ _ => ?_
  iterate 3 refine pu rfl rfl rfl rfl rfl ?_
  refine stg rfl rfl rfl rfl rfl (fun hb => by (have hq := hb; try simp only [zb1, zb2, zb3, zb4, zb5, zb6, zb7, zb8, zb9, zb10] at hq); exact rMove rfl rfl) ?_
  refine stg rfl rfl rfl rfl rfl (fun hb => by (have hq := hb; try simp only [zb1, zb2, zb3, zb4, zb5, zb6, zb7, zb8, zb9, zb10] at hq); exact rGtr rfl (evg rfl hb) rfl) ?_
  refine st rfl rfl rfl rfl (rOrB rfl rfl rfl rfl) ?_
  refine pu rfl rfl rfl rfl rfl ?_
  refine stg rfl rfl rfl rfl rfl (fun hb => by (have hq := hb; try simp only [zb1, zb2, zb3, zb4, zb5, zb6, zb7, zb8, zb9, zb10] at hq); exact rMove rfl rfl) ?_
  refine stg rfl rfl rfl rfl rfl (fun hb => by (have hq := hb; try simp only [zb1, zb2, zb3, zb4, zb5, zb6, zb7, zb8, zb9, zb10] at hq); exact rLss rfl (evg rfl hb) rfl) ?_
  refine st rfl rfl rfl rfl (rOrB rfl rfl rfl rfl) ?_
  refine pu rfl rfl rfl rfl rfl ?_
  refine stg rfl rfl rfl rfl rfl (fun hb => by (have hq := hb; try simp only [zb1, zb2, zb3, zb4, zb5, zb6, zb7, zb8, zb9, zb10] at hq); exact rMove rfl rfl) ?_
  refine stg rfl rfl rfl rfl rfl (fun hb => by (have hq := hb; try simp only [zb1, zb2, zb3, zb4, zb5, zb6, zb7, zb8, zb9, zb10] at hq); exact rGtr rfl (evg rfl hb) rfl) ?_
  refine st rfl rfl rfl rfl (rOrB rfl rfl rfl rfl) ?_
  refine tr_cond_bool rfl (fun h1 => ?_) (fun h1 => ?_)
  · try simp only [zb1, zb2, zb3, zb4, zb5, zb6, zb7, zb8, zb9, zb10] at h1
    refine tr_seq ?_
    refine tr_region fun _ _ _ => ?_
    refine pu rfl rfl rfl rfl rfl ?_
    exact tr_ret ⟨trivial, _, _, rfl, ⟨by rw [cosetArgs, if_pos (by omega)], rfl⟩, CSub.nil _, trivial⟩
  · try simp only [zb1, zb2, zb3, zb4, zb5, zb6, zb7, zb8, zb9, zb10] at h1
    refine tr_skip ?_
    refine tr_seq ?_
    refine tr_seq ?_
    refine tr_region fun _ _ _ => ?_
    iterate 2 refine pu rfl rfl rfl rfl rfl ?_
    refine ef rfl rfl (eCallV rfl rfl rfl (ref_common _ _ (by omega) (by omega)) ⟨rfl, rfl, trivial⟩ ?_) 
    refine pu rfl rfl rfl rfl rfl ?_
    refine tr_cond_bool rfl (fun h3 => ?_) (fun h3 => ?_)
    · try simp only [zb1, zb2, zb3, zb4, zb5, zb6, zb7, zb8, zb9, zb10] at h3
      refine tr_seq ?_
      refine tr_region fun _ _ _ => ?_
      refine pu rfl rfl rfl rfl rfl ?_
      exact tr_ret ⟨trivial, _, _, rfl, ⟨by rw [cosetArgs, if_neg (by omega), if_pos h3], rfl⟩, CSub.nil _, trivial⟩
    · try simp only [zb1, zb2, zb3, zb4, zb5, zb6, zb7, zb8, zb9, zb10] at h3
      refine tr_skip ?_
      refine tr_seq ?_
      refine tr_region fun _ _ _ => ?_
      refine pu rfl rfl rfl rfl rfl ?_
      exact tr_ret ⟨trivial, _, _, rfl, ⟨by rw [cosetArgs, if_neg (by omega), if_neg (by omega)], rfl⟩, CSub.nil _, trivial⟩

theorem ref_Coset_ent : Enters Try.prog 101 := enters_of Try.func101 (by kernel_rfl) (by kernel_rfl)
theorem ref_Coset (q n i : Int) (hq : 2 ≤ q) (hq2 : q ≤ 256) (hn : 1 ≤ n) (hn2 : n ≤ 65536) (hi : 0 ≤ i) (hi2 : i < n) :
    Pure Try.prog 101 #[.int .i64 q, .int .i64 n, .int .i64 i] [] (one (fun v ch => ∃ B cap, v = .slice B (cosL q n i).length cap ∧ ch = ow B 3 cap (ints (cosL q n i)))) := by
  have him : i % n = i := Int.emod_eq_of_lt hi hi2
  refine pure_of (args := [.int .i64 q, .int .i64 n, .int .i64 i]) 43 Try.func101 rfl rfl rfl ref_Coset_ent trivial (fun w0 => ?_)
  refine tr_seq ?_
  refine tr_region fun _ _ _ => ?_
  refine pu rfl rfl rfl rfl rfl ?_
  refine tr_seq ?_
  refine tr_region fun _ _ _ => ?_
  refine pu rfl rfl rfl rfl rfl ?_
  refine ef rfl rfl (eMakeB rfl rfl rfl rfl rfl (by omega) (by omega) (by omega) (fun A1 => ?_)) 
  refine pu rfl rfl rfl rfl rfl ?_
  refine tr_seq ?_
  refine tr_seq ?_
  refine tr_region fun _ _ _ => ?_
  iterate 2 refine pu rfl rfl rfl rfl rfl ?_
  refine st rfl rfl rfl rfl (rRem rfl rfl rfl (by omega) (by omega)) ?_
  refine pu rfl rfl rfl rfl rfl ?_
  rw [him]
  refine tr_block ?_
  refine tr_loop2 (fun (k : Nat) (bs : List Bool) => [(0, .int .i64 q), (1, .int .i64 n), (7, .slice A1 n.toNat n.toNat), (8, .int .i64 (stp q n k i))]) (fun (k : Nat) (bs : List Bool) => [ow A1 4 n.toNat (bools bs)]) (fun (k : Nat) (bs : List Bool) => (bs.length : Int) = n ∧ ∀ x : Int, 0 ≤ x → (bs.getD x.toNat false = true ↔ ∃ t, t < k ∧ x = stp q n t i)) (fun (k : Nat) (bs : List Bool) => cntF bs) (0) (List.replicate n.toNat false) ⟨rfl, rfl, rfl, rfl, trivial⟩ (by first | exact cs _ _ | exact CSub.refl _) (⟨by simp; omega, fun x hx => by simp [List.getD_eq_getElem?_getD, List.getElem?_replicate]; split <;> simp⟩) (fun k bs hI => ?_)
  obtain ⟨hbl, hm1⟩ := hI
  have hb := stp_bd (q := q) hn ⟨hi, hi2⟩ k
  have hmul := mul_bd0 (stp q n k i) q 65536 256 (by omega) (by omega) (by omega) (by omega)
  refine tr_seq ?_
  refine tr_seq ?_
  refine tr_region fun _ _ _ => ?_
  iterate 2 refine pu rfl rfl rfl rfl rfl ?_
  refine st rfl rfl rfl rfl (rIdxB rfl rfl rfl (by omega) (by omega) (by omega)) ?_
  refine st rfl rfl rfl rfl (rLdB rfl rfl (by omega)) ?_
  refine st rfl rfl rfl rfl (rNotB rfl rfl) ?_
  refine tr_cond_bool rfl (fun h3 => ?_) (fun h3 => ?_)
  · try simp only [zb1, zb2, zb3, zb4, zb5, zb6, zb7, zb8, zb9, zb10] at h3
    refine tr_skip ?_
    refine tr_seq ?_
    refine tr_block ?_
    refine tr_region fun _ _ _ => ?_
    iterate 2 refine pu rfl rfl rfl rfl rfl ?_
    refine st rfl rfl rfl rfl (rIdxB rfl rfl rfl (by omega) (by omega) (by omega)) ?_
    refine ef rfl rfl (eStB rfl rfl rfl rfl (by omega) ?_) 
    refine tr_region fun _ _ _ => ?_
    iterate 2 refine pu rfl rfl rfl rfl rfl ?_
    refine st rfl rfl rfl rfl (rMul rfl rfl rfl (by omega) (by omega)) ?_
    refine pu rfl rfl rfl rfl rfl ?_
    refine st rfl rfl rfl rfl (rRem rfl rfl rfl (by omega) (by omega)) ?_
    refine pu rfl rfl rfl rfl rfl ?_
    refine ⟨k + 1, bs.set (stp q n k i).toNat true, ⟨rfl, rfl, rfl, rfl, trivial⟩, by first | exact cs _ _ | exact CSub.refl _, ?_⟩
    refine ⟨⟨by simpa using hbl, fun x hx => ?_⟩, cntF_set _ _ (by omega) ?_⟩
    · rw [getDb_set]
      by_cases hx2 : (stp q n k i).toNat = x.toNat
      · rw [if_pos ⟨hx2, by omega⟩]
        exact ⟨fun _ => ⟨k, by omega, by omega⟩, fun _ => rfl⟩
      · rw [if_neg (by omega), hm1 x hx]
        constructor
        · rintro ⟨t, ht, he⟩; exact ⟨t, by omega, he⟩
        · rintro ⟨t, ht, he⟩
          refine ⟨t, ?_, he⟩
          rcases Nat.lt_or_ge t k with h | h
          · exact h
          · exfalso; apply hx2; rw [he, show t = k by omega]
    · have : bs.getD (stp q n k i).toNat false = false := by simpa using h3
      rw [List.getD_eq_getElem?_getD, List.getElem?_eq_getElem (by omega)] at this ⊢
      exact this
  · try simp only [zb1, zb2, zb3, zb4, zb5, zb6, zb7, zb8, zb9, zb10] at h3
    refine tr_exit ?_
    refine tr_seq ?_
    have hbs : ∀ x : Int, 0 ≤ x → (bs.getD x.toNat false = true ↔ Orb q n i x) := fun x hx => by
      rw [hm1 x hx]
      constructor
      · rintro ⟨t, _, rfl⟩; exact ⟨t, rfl⟩
      · rintro ⟨m, rfl⟩
        have h4 := h3
        simp at h4
        obtain ⟨t, ht, he⟩ := (hm1 _ hb.1).1 h4
        obtain ⟨s, hs, he2⟩ := stp_closed ht he m
        exact ⟨s, hs, he2⟩
    refine tr_region fun _ _ _ => ?_
    refine pu rfl rfl rfl rfl rfl ?_
    refine tr_seq ?_
    refine tr_seq ?_
    refine tr_region fun _ _ _ => ?_
    refine pu rfl rfl rfl rfl rfl ?_
    refine tr_block ?_
    refine tr_nil 3 ?_
    refine tr_loop4 (fun (j : Nat) (A9 : Option Addr) (c9 : Nat) (o : List Int) => [(1, .int .i64 n), (7, .slice A1 n.toNat n.toNat), (9, .slice A9 o.length c9), (10, .int .i64 j)]) (fun (j : Nat) (A9 : Option Addr) (c9 : Nat) (o : List Int) => [ow A9 3 c9 (ints o), ow A1 4 n.toNat (bools bs)]) (fun (j : Nat) (A9 : Option Addr) (c9 : Nat) (o : List Int) => (j : Int) ≤ n ∧ o = (upI j).filter (bOrb q n i)) (fun (j : Nat) (A9 : Option Addr) (c9 : Nat) (o : List Int) => n.toNat - j) (0) (none) (0) ([]) ⟨rfl, rfl, rfl, rfl, trivial⟩ (by first | exact cs _ _ | exact CSub.refl _) (⟨by omega, rfl⟩) (fun j A9 c9 o hI => ?_)
    obtain ⟨hj, ho⟩ := hI
    have hjb : bs.getD (j : Int).toNat false = true ↔ Orb q n i j := hbs j (by omega)
    have hol : o.length ≤ j := by rw [ho]; have := List.length_filter_le (bOrb q n i) (upI j); rwa [upI_length] at this
    refine tr_seq ?_
    refine tr_seq ?_
    refine tr_region fun _ _ _ => ?_
    iterate 3 refine pu rfl rfl rfl rfl rfl ?_
    refine tr_cond_bool rfl (fun h8 => ?_) (fun h8 => ?_)
    · try simp only [zb1, zb2, zb3, zb4, zb5, zb6, zb7, zb8, zb9, zb10] at h8
      refine tr_skip ?_
      refine tr_seq ?_
      refine tr_block ?_
      refine tr_seq ?_
      refine tr_region fun _ _ _ => ?_
      iterate 2 refine pu rfl rfl rfl rfl rfl ?_
      refine st rfl rfl rfl rfl (rIdxB rfl rfl rfl (by omega) (by omega) (by omega)) ?_
      refine st rfl rfl rfl rfl (rLdB rfl rfl (by omega)) ?_
      refine tr_cond_bool rfl (fun h10 => ?_) (fun h10 => ?_)
      · try simp only [zb1, zb2, zb3, zb4, zb5, zb6, zb7, zb8, zb9, zb10] at h10
        refine tr_region fun _ _ _ => ?_
        iterate 2 refine pu rfl rfl rfl rfl rfl ?_
        refine ef rfl rfl (eLit1I rfl rfl rfl rfl (fun A11 => ?_)) 
        refine ef rfl rfl (eAppI rfl rfl rfl rfl rfl (by first | rfl | simp) (by first | rfl | simp) (by first | omega | (simp; omega)) (fun A11a c11a => ?_)) 
        refine pu rfl rfl rfl rfl rfl ?_
        refine tr_region fun _ _ _ => ?_
        refine pu rfl rfl rfl rfl rfl ?_
        refine st rfl rfl rfl rfl (rAdd rfl rfl rfl (by omega) (by omega)) ?_
        refine pu rfl rfl rfl rfl rfl ?_
        refine ⟨j + 1, A11a, c11a, o ++ [(j : Int)], ⟨rfl, rfl, rfl, rfl, trivial⟩, by first | exact cs _ _ | exact CSub.refl _, ?_⟩
        refine ⟨⟨by omega, ?_⟩, by omega⟩
        rw [upI_succ, List.filter_append, ← ho]
        simp [bOrb_iff.2 (hjb.1 h10)]
      · try simp only [zb1, zb2, zb3, zb4, zb5, zb6, zb7, zb8, zb9, zb10] at h10
        refine tr_skip ?_
        refine tr_region fun _ _ _ => ?_
        refine pu rfl rfl rfl rfl rfl ?_
        refine st rfl rfl rfl rfl (rAdd rfl rfl rfl (by omega) (by omega)) ?_
        refine pu rfl rfl rfl rfl rfl ?_
        refine ⟨j + 1, A9, c9, o, ⟨rfl, rfl, rfl, rfl, trivial⟩, by first | exact cs _ _ | exact CSub.refl _, ?_⟩
        refine ⟨⟨by omega, ?_⟩, by omega⟩
        rw [upI_succ, List.filter_append, ← ho]
        have : bOrb q n i j = false := Bool.eq_false_iff.2 (fun h => by rw [hjb.2 (bOrb_iff.1 h)] at h10; cases h10)
        simp [this]
    · try simp only [zb1, zb2, zb3, zb4, zb5, zb6, zb7, zb8, zb9, zb10] at h8
      refine tr_exit ?_
      refine tr_seq ?_
      refine tr_region fun _ _ _ => ?_
      iterate 2 refine pu rfl rfl rfl rfl rfl ?_
      have hjn : j = n.toNat := by omega
      have hoc : o = cosL q n i := by rw [ho, hjn]; rfl
      rw [← hoc]
      exact tr_ret ⟨trivial, _, _, rfl, ⟨_, rfl, A9, c9, rfl, rfl⟩, cs _ _, trivial, trivial⟩

theorem cosL_mem {q n i : Int} (hn : 1 ≤ n) (hi : 0 ≤ i ∧ i < n) : i ∈ cosL q n i := (mem_cosL (by omega)).2 ⟨hi, Orb.refl _ _ _⟩
theorem cosL_head {q n i : Int} (hg : Int.gcd q n = 1) (hn : 1 ≤ n) (hi : 0 ≤ i ∧ i < n) : (cosL q n i).getD 0 0 = i ↔ bMin q n i = true := by
  have hm := cosL_mem (q := q) hn hi
  cases hc : cosL q n i with
  | nil => rw [hc] at hm; simp at hm
  | cons h t =>
    have hlt := cosL_lt q n i
    rw [hc] at hlt hm
    have h1 := (List.pairwise_cons.1 hlt).1
    have hh : h ∈ cosL q n i := by rw [hc]; exact List.mem_cons_self ..
    obtain ⟨hb, ho⟩ := (mem_cosL (by omega)).1 hh
    have hle : h ≤ i := by
      rcases List.mem_cons.1 hm with e | e
      · omega
      · have := h1 i e; omega
    show h = i ↔ _
    rw [bMin_iff]
    constructor
    · intro he x hx hxi hox
      have h2 : x ∈ cosL q n i := (mem_cosL (by omega)).2 ⟨⟨hx, by omega⟩, hox.symm hg hn ⟨hx, by omega⟩⟩
      rw [hc] at h2
      rcases List.mem_cons.1 h2 with e | e
      · omega
      · have := h1 x e; omega
    · intro hno
      rcases Int.lt_or_eq_of_le hle with h2 | h2
      · exact absurd (ho.symm hg hn hi) (hno h hb.1 h2)
      · exact h2
theorem cosAll_length (q n : Int) (k : Nat) : (cosAll q n k).length ≤ k := by
  unfold cosAll
  rw [List.length_map]
  have := List.length_filter_le (bMin q n) (upI k)
  rwa [upI_length] at this
theorem cosL_length (q n i : Int) : (cosL q n i).length ≤ n.toNat := by
  unfold cosL
  have := List.length_filter_le (bOrb q n i) (upI n.toNat)
  rwa [upI_length] at this

theorem ref_Cosets_ent : Enters Try.prog 43 := enters_of Try.func43 (by kernel_rfl) (by kernel_rfl)
theorem ref_Cosets (q n : Int) (hq : 2 ≤ q) (hq2 : q ≤ 256) (hn : 1 ≤ n) (hn2 : n ≤ 65536) (hg : Int.gcd q n = 1) :
    Pure Try.prog 43 #[.int .i64 q, .int .i64 n] [] (two (isRows 22 3 (cosAll q n n.toNat))) := by
  refine pure_of (args := [.int .i64 q, .int .i64 n]) 27 Try.func43 rfl rfl rfl ref_Cosets_ent trivial (fun w0 => ?_)
  refine tr_seq ?_
  refine tr_region fun _ _ _ => ?_
  refine pu rfl rfl rfl rfl rfl ?_
  refine tr_seq ?_
  refine tr_region fun _ _ _ => ?_
  refine pu rfl rfl rfl rfl rfl ?_
  refine tr_seq ?_
  refine tr_seq ?_
  refine tr_region fun _ _ _ => ?_
  refine pu rfl rfl rfl rfl rfl ?_
  refine tr_block ?_
  refine tr_nilR 22 3 ?_
  refine tr_loop4 (fun (i : Nat) (A5 : Option Addr) (c5 : Nat) (rs : List RowM) => [(0, .int .i64 q), (1, .int .i64 n), (5, .slice A5 rs.length c5), (6, .int .i64 i)]) (fun (i : Nat) (A5 : Option Addr) (c5 : Nat) (rs : List RowM) => [ow A5 22 c5 (hdrs rs), rowsCh 3 rs]) (fun (i : Nat) (A5 : Option Addr) (c5 : Nat) (rs : List RowM) => (i : Int) ≤ n ∧ rs.map (·.xs) = cosAll q n i) (fun (i : Nat) (A5 : Option Addr) (c5 : Nat) (rs : List RowM) => n.toNat - i) (0) (none) (0) ([]) ⟨rfl, rfl, rfl, rfl, trivial⟩ (by first | exact cs _ _ | exact CSub.refl _) (⟨by omega, rfl⟩) (fun i A5 c5 rs hI => ?_)
  obtain ⟨hi1, hrs⟩ := hI
  have hrl : rs.length ≤ i := by have := congrArg List.length hrs; rw [List.length_map] at this; have := cosAll_length q n i; omega
  refine tr_seq ?_
  refine tr_seq ?_
  refine tr_region fun _ _ _ => ?_
  iterate 3 refine pu rfl rfl rfl rfl rfl ?_
  refine tr_cond_bool rfl (fun h3 => ?_) (fun h3 => ?_)
  · try simp only [zb1, zb2, zb3, zb4, zb5, zb6, zb7, zb8, zb9, zb10] at h3
    refine tr_skip ?_
    refine tr_seq ?_
    refine tr_block ?_
    refine tr_seq ?_
    refine tr_region fun _ _ _ => ?_
    iterate 3 refine pu rfl rfl rfl rfl rfl ?_
    refine ef rfl rfl (eCall1 rfl rfl rfl (ref_Coset q n _ (by omega) (by omega) (by omega) (by omega) (by omega) (by omega)) ⟨rfl, rfl, rfl, trivial⟩ ?_) 
    rintro _ _ ⟨B5, c5a, rfl, rfl⟩
    refine pu rfl rfl rfl rfl rfl ?_
    refine tr_seq ?_
    have hcl := cosL_length q n i
    have hcp : 0 < (cosL q n i).length := List.length_pos_of_mem (cosL_mem hn ⟨by omega, by omega⟩)
    refine tr_region fun _ _ _ => ?_
    refine pu rfl rfl rfl rfl rfl ?_
    refine st rfl rfl rfl rfl (rIdxI rfl rfl rfl (by omega) (by omega) (by omega)) ?_
    refine st rfl rfl rfl rfl (rLdI rfl rfl (by omega)) ?_
    iterate 2 refine pu rfl rfl rfl rfl rfl ?_
    refine tr_cond_bool rfl (fun h6 => ?_) (fun h6 => ?_)
    · try simp only [zb1, zb2, zb3, zb4, zb5, zb6, zb7, zb8, zb9, zb10] at h6
      refine tr_region fun _ _ _ => ?_
      iterate 2 refine pu rfl rfl rfl rfl rfl ?_
      refine ef rfl rfl (eLit1 rfl rfl rfl rfl rfl (fun A7 => ?_)) 
      refine ef rfl rfl (eAppR rfl rfl rfl rfl rfl (by first | rfl | simp) (by omega) (fun A7a c7a => ?_)) 
      refine pu rfl rfl rfl rfl rfl ?_
      refine tr_region fun _ _ _ => ?_
      refine pu rfl rfl rfl rfl rfl ?_
      refine st rfl rfl rfl rfl (rAdd rfl rfl rfl (by omega) (by omega)) ?_
      refine pu rfl rfl rfl rfl rfl ?_
      refine ⟨i + 1, A7a, c7a, rs ++ [⟨B5, c5a, cosL q n i⟩], ⟨rfl, rfl, rfl, rfl, trivial⟩, by exact rows_app, ?_⟩
      refine ⟨⟨by omega, ?_⟩, by omega⟩
      rw [cosAll_yes ((cosL_head hg hn ⟨by omega, by omega⟩).1 h6), List.map_append, hrs]; rfl
    · try simp only [zb1, zb2, zb3, zb4, zb5, zb6, zb7, zb8, zb9, zb10] at h6
      refine tr_skip ?_
      refine tr_region fun _ _ _ => ?_
      refine pu rfl rfl rfl rfl rfl ?_
      refine st rfl rfl rfl rfl (rAdd rfl rfl rfl (by omega) (by omega)) ?_
      refine pu rfl rfl rfl rfl rfl ?_
      refine ⟨i + 1, A5, c5, rs, ⟨rfl, rfl, rfl, rfl, trivial⟩, by first | exact cs _ _ | exact CSub.refl _, ?_⟩
      refine ⟨⟨by omega, ?_⟩, by omega⟩
      rw [cosAll_no (Bool.eq_false_iff.2 fun h => h6 ((cosL_head hg hn ⟨by omega, by omega⟩).2 h)), hrs]
  · try simp only [zb1, zb2, zb3, zb4, zb5, zb6, zb7, zb8, zb9, zb10] at h3
    refine tr_exit ?_
    refine tr_seq ?_
    refine tr_region fun _ _ _ => ?_
    iterate 2 refine pu rfl rfl rfl rfl rfl ?_
    have hin : i = n.toNat := by omega
    exact tr_ret ⟨trivial, _, _, rfl, ⟨_, _, rfl, A5, c5, rs, rfl, rfl, rfl, by rw [hrs, hin]⟩, cs _ _, trivial, trivial, trivial⟩

theorem rep_false (m k : Nat) : (List.replicate m false).getD k false = false := by
  rw [List.getD_eq_getElem?_getD, List.getElem?_replicate]; split <;> rfl
theorem unseen_min {q n : Int} {k : Nat} {bs : List Bool} (hk : (k : Int) < n) (hm : ∀ x : Int, 0 ≤ x → x < n → (bs.getD x.toNat false = true ↔ ∃ y : Int, 0 ≤ y ∧ y < k ∧ Orb q n y x)) : bs.getD k false = false ↔ bMin q n k = true := by
  rw [bMin_iff]
  have h1 := hm k (by omega) hk
  simp only [Int.toNat_natCast] at h1
  constructor
  · intro h x hx hxk ho
    rw [h1.2 ⟨x, hx, hxk, ho⟩] at h; cases h
  · intro h
    refine Bool.eq_false_iff.2 fun h2 => ?_
    obtain ⟨y, a, b, c⟩ := h1.1 h2
    exact h y a b c

theorem cyc_Cosets_ent : Enters Try.prog 41 := enters_of Try.func41 (by kernel_rfl) (by kernel_rfl)
theorem cyc_Cosets (q n : Int) (hq : 2 ≤ q) (hq2 : q ≤ 256) (hn : 1 ≤ n) (hn2 : n ≤ 65536) (hg : Int.gcd q n = 1) :
    Pure Try.prog 41 #[.int .i64 q, .int .i64 n] [] (two (isRowsE 22 3 (cosAll q n n.toNat))) := by
  have hgg : (Int.gcd q n : Int) = 1 := by omega
  refine pure_of (args := [.int .i64 q, .int .i64 n]) 71 Try.func41 rfl rfl rfl cyc_Cosets_ent trivial (fun w0 => ?_)
  refine tr_seq ?_
  refine tr_region fun _ _ _ => ?_
  iterate 2 refine pu rfl rfl rfl rfl rfl ?_
  refine tr_seq ?_
  refine tr_seq ?_
  refine tr_region fun _ _ _ => ?_
  iterate 3 refine pu rfl rfl rfl rfl rfl ?_
  refine stg rfl rfl rfl rfl rfl (fun hb => by (have hq := hb; try simp only [zb1, zb2, zb3, zb4, zb5, zb6, zb7, zb8, zb9, zb10] at hq); exact rMove rfl rfl) ?_
  refine stg rfl rfl rfl rfl rfl (fun hb => by (have hq := hb; try simp only [zb1, zb2, zb3, zb4, zb5, zb6, zb7, zb8, zb9, zb10] at hq); exact rGtr rfl (evg rfl hb) rfl) ?_
  refine st rfl rfl rfl rfl (rOrB rfl rfl rfl rfl) ?_
  refine pu rfl rfl rfl rfl rfl ?_
  refine stg rfl rfl rfl rfl rfl (fun hb => by (have hq := hb; try simp only [zb1, zb2, zb3, zb4, zb5, zb6, zb7, zb8, zb9, zb10] at hq); exact rMove rfl rfl) ?_
  refine stg rfl rfl rfl rfl rfl (fun hb => by (have hq := hb; try simp only [zb1, zb2, zb3, zb4, zb5, zb6, zb7, zb8, zb9, zb10] at hq); exact rLss rfl (evg rfl hb) rfl) ?_
  refine st rfl rfl rfl rfl (rOrB rfl rfl rfl rfl) ?_
  refine pu rfl rfl rfl rfl rfl ?_
  refine stg rfl rfl rfl rfl rfl (fun hb => by (have hq := hb; try simp only [zb1, zb2, zb3, zb4, zb5, zb6, zb7, zb8, zb9, zb10] at hq); exact rMove rfl rfl) ?_
  refine stg rfl rfl rfl rfl rfl (fun hb => by (have hq := hb; try simp only [zb1, zb2, zb3, zb4, zb5, zb6, zb7, zb8, zb9, zb10] at hq); exact rGtr rfl (evg rfl hb) rfl) ?_
  refine st rfl rfl rfl rfl (rOrB rfl rfl rfl rfl) ?_
  refine tr_cond_bool rfl (fun h1 => ?_) (fun h1 => ?_)
  · try simp only [zb1, zb2, zb3, zb4, zb5, zb6, zb7, zb8, zb9, zb10] at h1
    omega --done
  · try simp only [zb1, zb2, zb3, zb4, zb5, zb6, zb7, zb8, zb9, zb10] at h1
    refine tr_skip ?_
    refine tr_seq ?_
    refine tr_seq ?_
    refine tr_region fun _ _ _ => ?_
    iterate 2 refine pu rfl rfl rfl rfl rfl ?_
    refine ef rfl rfl (eCallV rfl rfl rfl (num_Gcd q n (by omega) (by omega) (by omega) (by omega)) ⟨rfl, rfl, trivial⟩ ?_) 
    iterate 5 refine pu rfl rfl rfl rfl rfl ?_
    refine tr_seq ?_
    refine tr_region fun _ _ _ => ?_
    iterate 2 refine pu rfl rfl rfl rfl rfl ?_
    refine tr_cond_bool rfl (fun h4 => ?_) (fun h4 => ?_)
    · try simp only [zb1, zb2, zb3, zb4, zb5, zb6, zb7, zb8, zb9, zb10] at h4
      omega --done
    · try simp only [zb1, zb2, zb3, zb4, zb5, zb6, zb7, zb8, zb9, zb10] at h4
      refine tr_skip ?_
      refine tr_seq ?_
      refine tr_region fun _ _ _ => ?_
      refine pu rfl rfl rfl rfl rfl ?_
      refine tr_seq ?_
      refine tr_region fun _ _ _ => ?_
      refine pu rfl rfl rfl rfl rfl ?_
      refine ef rfl rfl (eMakeB rfl rfl rfl rfl rfl (by omega) (by omega) (by omega) (fun A7 => ?_)) 
      refine pu rfl rfl rfl rfl rfl ?_
      refine tr_seq ?_
      refine tr_seq ?_
      refine tr_region fun _ _ _ => ?_
      iterate 2 refine pu rfl rfl rfl rfl rfl ?_
      refine tr_block ?_
      refine tr_nilR 22 3 ?_
      refine tr_loop5 (fun (i : Nat) (A8 : Option Addr) (c8 : Nat) (rs : List RowM) (bs : List Bool) => [(0, .int .i64 q), (1, .int .i64 n), (8, .slice A8 rs.length c8), (9, .slice A7 n.toNat n.toNat), (37, .int .i64 n), (38, .int .i64 i)]) (fun (i : Nat) (A8 : Option Addr) (c8 : Nat) (rs : List RowM) (bs : List Bool) => [ow A8 22 c8 (hdrs rs), rowsCh 3 rs, ow A7 4 n.toNat (bools bs)]) (fun (i : Nat) (A8 : Option Addr) (c8 : Nat) (rs : List RowM) (bs : List Bool) => (i : Int) ≤ n ∧ rs.map (·.xs) = cosAll q n i ∧ (bs.length : Int) = n ∧ ∀ x : Int, 0 ≤ x → x < n → (bs.getD x.toNat false = true ↔ ∃ y : Int, 0 ≤ y ∧ y < (i : Int) ∧ Orb q n y x)) (fun (i : Nat) (A8 : Option Addr) (c8 : Nat) (rs : List RowM) (bs : List Bool) => n.toNat - i) (0) (none) (0) ([]) (List.replicate n.toNat false) ⟨rfl, rfl, rfl, rfl, rfl, rfl, trivial⟩ (by first | exact cs _ _ | exact CSub.refl _) (⟨by omega, rfl, by simp; omega, fun x hx _ => ⟨fun h => by (rw [rep_false] at h; cases h), fun ⟨y, a, b, _⟩ => by (simp at b; omega)⟩⟩) (fun i A8 c8 rs bs hI => ?_)
      obtain ⟨hi1, hrs, hbl, hseen⟩ := hI
      have hrl : rs.length ≤ i := by have := congrArg List.length hrs; rw [List.length_map] at this; have := cosAll_length q n i; omega
      refine tr_seq ?_
      refine tr_region fun _ _ _ => ?_
      refine pu rfl rfl rfl rfl rfl ?_
      refine tr_seq ?_
      refine tr_cond_bool rfl (fun h9 => ?_) (fun h9 => ?_)
      · try simp only [zb1, zb2, zb3, zb4, zb5, zb6, zb7, zb8, zb9, zb10] at h9
        refine tr_skip ?_
        refine tr_seq ?_
        refine tr_block ?_
        refine tr_seq ?_
        refine tr_region fun _ _ _ => ?_
        iterate 2 refine pu rfl rfl rfl rfl rfl ?_
        refine tr_seq ?_
        refine tr_seq ?_
        refine tr_region fun _ _ _ => ?_
        iterate 2 refine pu rfl rfl rfl rfl rfl ?_
        refine st rfl rfl rfl rfl (rIdxB rfl rfl rfl (by omega) (by omega) (by omega)) ?_
        refine st rfl rfl rfl rfl (rLdB rfl rfl (by omega)) ?_
        refine tr_cond_bool rfl (fun h11 => ?_) (fun h11 => ?_)
        · try simp only [zb1, zb2, zb3, zb4, zb5, zb6, zb7, zb8, zb9, zb10] at h11
          refine tr_exit ?_
          refine tr_region fun _ _ _ => ?_
          refine st rfl rfl rfl rfl (rAdd rfl rfl rfl (by omega) (by omega)) ?_
          refine pu rfl rfl rfl rfl rfl ?_
          refine ⟨i + 1, A8, c8, rs, bs, ⟨rfl, rfl, rfl, rfl, rfl, rfl, trivial⟩, by first | exact cs _ _ | exact CSub.refl _, ?_⟩
          have hmin : bMin q n i = false := Bool.eq_false_iff.2 fun h => by
            have := (unseen_min (by omega) hseen).2 h
            have h12 : bs.getD i false = true := by simpa using h11
            rw [h12] at this; cases this
          refine ⟨⟨by omega, by rw [cosAll_no hmin, hrs], hbl, fun x hx hxn => ?_⟩, by omega⟩
          rw [hseen x hx hxn]
          constructor
          · rintro ⟨y, a, b, c⟩; exact ⟨y, a, by omega, c⟩
          · rintro ⟨y, a, b, c⟩
            by_cases hyi : y = i
            · have h12 : bs.getD (i : Int).toNat false = true := h11
              obtain ⟨z, d, e, f⟩ := (hseen i (by omega) (by omega)).1 h12
              exact ⟨z, d, e, f.trans (hyi ▸ c)⟩
            · exact ⟨y, a, by omega, c⟩
        · try simp only [zb1, zb2, zb3, zb4, zb5, zb6, zb7, zb8, zb9, zb10] at h11
          refine tr_skip ?_
          refine tr_seq ?_
          refine tr_region fun _ _ _ => ?_
          refine pu rfl rfl rfl rfl rfl ?_
          refine tr_seq ?_
          refine tr_seq ?_
          refine tr_region fun _ _ _ => ?_
          iterate 2 refine pu rfl rfl rfl rfl rfl ?_
          refine tr_block ?_
          refine tr_nil 3 ?_
          refine tr_loop5 (fun (k : Nat) (A11 : Option Addr) (c11 : Nat) (xs : List Int) (bs2 : List Bool) => [(0, .int .i64 q), (1, .int .i64 n), (8, .slice A8 rs.length c8), (9, .slice A7 n.toNat n.toNat), (37, .int .i64 n), (38, .int .i64 i), (10, .int .i64 i), (11, .slice A11 xs.length c11), (12, .int .i64 (stp q n k i))]) (fun (k : Nat) (A11 : Option Addr) (c11 : Nat) (xs : List Int) (bs2 : List Bool) => [ow A11 3 c11 (ints xs), ow A8 22 c8 (hdrs rs), rowsCh 3 rs, ow A7 4 n.toNat (bools bs2)]) (fun (k : Nat) (A11 : Option Addr) (c11 : Nat) (xs : List Int) (bs2 : List Bool) => (bs2.length : Int) = n ∧ xs.length = k ∧ k ≤ n.toNat ∧ xs.Nodup ∧ (∀ x, x ∈ xs ↔ ∃ t, t < k ∧ x = stp q n t i) ∧ ∀ x : Int, 0 ≤ x → x < n → (bs2.getD x.toNat false = true ↔ bs.getD x.toNat false = true ∨ x ∈ xs)) (fun (k : Nat) (A11 : Option Addr) (c11 : Nat) (xs : List Int) (bs2 : List Bool) => cntF bs2) (0) (none) (0) ([]) (bs) ⟨rfl, rfl, rfl, rfl, rfl, rfl, rfl, rfl, rfl, trivial⟩ (by first | exact cs _ _ | exact CSub.refl _) (⟨hbl, rfl, by omega, List.nodup_nil, fun x => by simp, fun x _ _ => by simp⟩) (fun k A11 c11 xs bs2 hI => ?_)
          obtain ⟨hbl2, hxl, hkn, hnd, hx2, hb2⟩ := hI
          have hb := stp_bd (q := q) hn ⟨show (0 : Int) ≤ i by omega, by omega⟩ k
          have hmul := mul_bd0 (stp q n k i) q 65536 256 (by omega) (by omega) (by omega) (by omega)
          refine tr_seq ?_
          refine tr_seq ?_
          refine tr_region fun _ _ _ => ?_
          iterate 2 refine pu rfl rfl rfl rfl rfl ?_
          refine st rfl rfl rfl rfl (rIdxB rfl rfl rfl (by omega) (by omega) (by omega)) ?_
          refine st rfl rfl rfl rfl (rLdB rfl rfl (by omega)) ?_
          refine st rfl rfl rfl rfl (rNotB rfl rfl) ?_
          refine tr_cond_bool rfl (fun h14 => ?_) (fun h14 => ?_)
          · try simp only [zb1, zb2, zb3, zb4, zb5, zb6, zb7, zb8, zb9, zb10] at h14
            refine tr_skip ?_
            refine tr_seq ?_
            refine tr_block ?_
            refine tr_seq ?_
            refine tr_region fun _ _ _ => ?_
            iterate 2 refine pu rfl rfl rfl rfl rfl ?_
            refine st rfl rfl rfl rfl (rIdxB rfl rfl rfl (by omega) (by omega) (by omega)) ?_
            refine ef rfl rfl (eStB rfl rfl rfl rfl (by omega) ?_) 
            refine tr_region fun _ _ _ => ?_
            iterate 2 refine pu rfl rfl rfl rfl rfl ?_
            refine ef rfl rfl (eLit1I rfl rfl rfl rfl (fun A17 => ?_)) 
            refine ef rfl rfl (eAppI rfl rfl rfl rfl rfl (by first | rfl | simp) (by first | rfl | simp) (by first | omega | (simp; omega)) (fun A17a c17a => ?_)) 
            refine pu rfl rfl rfl rfl rfl ?_
            refine tr_region fun _ _ _ => ?_
            iterate 2 refine pu rfl rfl rfl rfl rfl ?_
            refine st rfl rfl rfl rfl (rMul rfl rfl rfl (by omega) (by omega)) ?_
            refine pu rfl rfl rfl rfl rfl ?_
            refine st rfl rfl rfl rfl (rRem rfl rfl rfl (by omega) (by omega)) ?_
            refine pu rfl rfl rfl rfl rfl ?_
            refine ⟨k + 1, A17a, c17a, xs ++ [stp q n k i], bs2.set (stp q n k i).toNat true, ⟨rfl, rfl, rfl, rfl, rfl, rfl, rfl, rfl, rfl, trivial⟩, by first | exact cs _ _ | exact CSub.refl _, ?_⟩
            have hfree : bs2.getD (stp q n k i).toNat false = false := by simpa using h14
            have hnx : stp q n k i ∉ xs := fun h => by rw [(hb2 _ hb.1 hb.2).2 (.inr h)] at hfree; cases hfree
            have hnd2 : (xs ++ [stp q n k i]).Nodup := by
              rw [List.nodup_append]
              exact ⟨hnd, by simp, fun a ha b hb => by simp only [List.mem_singleton] at hb; subst hb; exact fun e => hnx (e ▸ ha)⟩
            refine ⟨⟨by simpa using hbl2, by simp [hxl], ?_, hnd2, fun x => ?_, fun x hx hxn => ?_⟩, cntF_set _ _ (by omega) ?_⟩
            · have := nodup_len n.toNat ((xs ++ [stp q n k i]).map (· + 1)) (List.pairwise_map.2 (hnd2.imp fun h e => h (by omega))) (fun y hy => by
                obtain ⟨z, hz, rfl⟩ := List.mem_map.1 hy
                have hzb : 0 ≤ z ∧ z < n := by
                  rcases List.mem_append.1 hz with h | h
                  · obtain ⟨t, _, rfl⟩ := (hx2 z).1 h
                    exact stp_bd hn ⟨by omega, by omega⟩ t
                  · simp only [List.mem_singleton] at h; subst h; exact hb
                omega)
              simp at this; omega
            · rw [List.mem_append, hx2 x, List.mem_singleton]
              constructor
              · rintro (⟨t, ht, he⟩ | h)
                · exact ⟨t, by omega, he⟩
                · exact ⟨k, by omega, h⟩
              · rintro ⟨t, ht, he⟩
                rcases Nat.lt_or_ge t k with h | h
                · exact .inl ⟨t, h, he⟩
                · right; rw [he, show t = k by omega]
            · rw [getDb_set]
              by_cases hxe : (stp q n k i).toNat = x.toNat
              · rw [if_pos ⟨hxe, by omega⟩]
                have : x = stp q n k i := by omega
                simp [this]
              · rw [if_neg (by omega), hb2 x hx hxn]
                have : x ≠ stp q n k i := fun e => hxe (by rw [e])
                simp [this]
            · rw [List.getD_eq_getElem?_getD, List.getElem?_eq_getElem (by omega)] at hfree ⊢
              exact hfree
          · try simp only [zb1, zb2, zb3, zb4, zb5, zb6, zb7, zb8, zb9, zb10] at h14
            refine tr_exit ?_
            refine tr_seq ?_
            have hjx : stp q n k i ∈ xs := by
              have h15 : bs2.getD (stp q n k i).toNat false = true := by simpa using h14
              rcases (hb2 _ hb.1 hb.2).1 h15 with h | h
              · exfalso
                obtain ⟨y, a, b, c⟩ := (hseen _ hb.1 hb.2).1 h
                have ho : Orb q n i (stp q n k i) := ⟨k, rfl⟩
                have h16 := (hseen i (by omega) (by omega)).2 ⟨y, a, b, c.trans (ho.symm hg hn ⟨by omega, by omega⟩)⟩
                rw [h16] at h11; cases h11
              · exact h
            have hsl := sortI_length xs
            refine tr_region fun _ _ _ => ?_
            refine pu rfl rfl rfl rfl rfl ?_
            refine ef rfl rfl (eCallM1 rfl rfl rfl (slc_Sort A11 _ c11 xs rfl (by omega)) ⟨rfl, trivial⟩ ?_) 
            rintro _ _ ⟨rfl, rfl⟩
            rw [← hsl]
            refine tr_region fun _ _ _ => ?_
            iterate 2 refine pu rfl rfl rfl rfl rfl ?_
            refine ef rfl rfl (eLit1 rfl rfl rfl rfl rfl (fun A19 => ?_)) 
            refine ef rfl rfl (eAppR rfl rfl rfl rfl rfl (by first | rfl | simp) (by omega) (fun A19a c19a => ?_)) 
            refine pu rfl rfl rfl rfl rfl ?_
            refine tr_region fun _ _ _ => ?_
            refine st rfl rfl rfl rfl (rAdd rfl rfl rfl (by omega) (by omega)) ?_
            refine pu rfl rfl rfl rfl rfl ?_
            refine ⟨i + 1, A19a, c19a, rs ++ [⟨A11, c11, sortI xs⟩], bs2, ⟨rfl, rfl, rfl, rfl, rfl, rfl, trivial⟩, by exact rows_app, ?_⟩
            have hmin : bMin q n i = true := (unseen_min (by omega) hseen).1 (by simpa using h11)
            have hxo : ∀ x, x ∈ xs ↔ Orb q n i x := fun x => by
              rw [hx2 x]
              constructor
              · rintro ⟨t, _, rfl⟩; exact ⟨t, rfl⟩
              · rintro ⟨m, rfl⟩
                obtain ⟨t, ht, he⟩ := (hx2 _).1 hjx
                obtain ⟨s, hs, he2⟩ := stp_closed ht he m
                exact ⟨s, hs, he2⟩
            have hso := sort_orb (q := q) hn ⟨by omega, by omega⟩ hnd hxo
            refine ⟨⟨by omega, ?_, hbl2, fun x hx hxn => ?_⟩, by omega⟩
            · rw [cosAll_yes hmin, List.map_append, hrs, List.map_cons, List.map_nil, hso]
            · rw [hb2 x hx hxn, hxo, hseen x hx hxn]
              constructor
              · rintro (⟨y, a, b, c⟩ | h)
                · exact ⟨y, a, by omega, c⟩
                · exact ⟨i, by omega, by omega, h⟩
              · rintro ⟨y, a, b, c⟩
                by_cases hyi : y = i
                · right; rw [← hyi]; exact c
                · left; exact ⟨y, a, by omega, c⟩
      · try simp only [zb1, zb2, zb3, zb4, zb5, zb6, zb7, zb8, zb9, zb10] at h9
        refine tr_exit ?_
        refine tr_seq ?_
        refine tr_region fun _ _ _ => ?_
        iterate 3 refine pu rfl rfl rfl rfl rfl ?_
        have hin : i = n.toNat := by omega
        exact tr_ret ⟨trivial, _, _, rfl, ⟨_, _, rfl, A8, c8, rs, rfl, rfl, rfl, by rw [hrs, hin]⟩, cs _ _, trivial, trivial, trivial⟩

theorem cyc_Cosets_no_ent : Enters Try.prog 41 := enters_of Try.func41 (by kernel_rfl) (by kernel_rfl)
theorem cyc_Cosets_no (q n : Int) (h : cosetArgs q n ≠ 0) :
    Pure Try.prog 41 #[.int .i64 q, .int .i64 n] [] (isV (.tuple #[.slice none 0 0, .int .i64 (cosetArgs q n)])) := by
  refine pure_of (args := [.int .i64 q, .int .i64 n]) 71 Try.func41 rfl rfl rfl cyc_Cosets_no_ent trivial (fun w0 => ?_)
  refine tr_seq ?_
  refine tr_region fun _ _ _ => ?_
  iterate 2 refine pu rfl rfl rfl rfl rfl ?_
  refine tr_seq ?_
  refine tr_seq ?_
  refine tr_region fun _ _ _ => ?_
  iterate 3 refine pu rfl rfl rfl rfl rfl ?_
  refine stg rfl rfl rfl rfl rfl (fun hb => by (have hq := hb; try simp only [zb1, zb2, zb3, zb4, zb5, zb6, zb7, zb8, zb9, zb10] at hq); exact rMove rfl rfl) ?_
  refine stg rfl rfl rfl rfl rfl (fun hb => by (have hq := hb; try simp only [zb1, zb2, zb3, zb4, zb5, zb6, zb7, zb8, zb9, zb10] at hq); exact rGtr rfl (evg rfl hb) rfl) ?_
  refine st rfl rfl rfl rfl (rOrB rfl rfl rfl rfl) ?_
  refine pu rfl rfl rfl rfl rfl ?_
  refine stg rfl rfl rfl rfl rfl (fun hb => by (have hq := hb; try simp only [zb1, zb2, zb3, zb4, zb5, zb6, zb7, zb8, zb9, zb10] at hq); exact rMove rfl rfl) ?_
  refine stg rfl rfl rfl rfl rfl (fun hb => by (have hq := hb; try simp only [zb1, zb2, zb3, zb4, zb5, zb6, zb7, zb8, zb9, zb10] at hq); exact rLss rfl (evg rfl hb) rfl) ?_
  refine st rfl rfl rfl rfl (rOrB rfl rfl rfl rfl) ?_
  refine pu rfl rfl rfl rfl rfl ?_
  refine stg rfl rfl rfl rfl rfl (fun hb => by (have hq := hb; try simp only [zb1, zb2, zb3, zb4, zb5, zb6, zb7, zb8, zb9, zb10] at hq); exact rMove rfl rfl) ?_
  refine stg rfl rfl rfl rfl rfl (fun hb => by (have hq := hb; try simp only [zb1, zb2, zb3, zb4, zb5, zb6, zb7, zb8, zb9, zb10] at hq); exact rGtr rfl (evg rfl hb) rfl) ?_
  refine st rfl rfl rfl rfl (rOrB rfl rfl rfl rfl) ?_
  refine tr_cond_bool rfl (fun h1 => ?_) (fun h1 => ?_)
  · try simp only [zb1, zb2, zb3, zb4, zb5, zb6, zb7, zb8, zb9, zb10] at h1
    refine tr_seq ?_
    refine tr_region fun _ _ _ => ?_
    iterate 2 refine pu rfl rfl rfl rfl rfl ?_
    exact tr_ret ⟨trivial, _, _, rfl, ⟨by rw [cosetArgs, if_pos (by omega)], rfl⟩, CSub.nil _, trivial⟩
  · try simp only [zb1, zb2, zb3, zb4, zb5, zb6, zb7, zb8, zb9, zb10] at h1
    refine tr_skip ?_
    refine tr_seq ?_
    refine tr_seq ?_
    refine tr_region fun _ _ _ => ?_
    iterate 2 refine pu rfl rfl rfl rfl rfl ?_
    refine ef rfl rfl (eCallV rfl rfl rfl (num_Gcd q n (by omega) (by omega) (by omega) (by omega)) ⟨rfl, rfl, trivial⟩ ?_) 
    iterate 5 refine pu rfl rfl rfl rfl rfl ?_
    refine tr_seq ?_
    refine tr_region fun _ _ _ => ?_
    iterate 2 refine pu rfl rfl rfl rfl rfl ?_
    refine tr_cond_bool rfl (fun h4 => ?_) (fun h4 => ?_)
    · try simp only [zb1, zb2, zb3, zb4, zb5, zb6, zb7, zb8, zb9, zb10] at h4
      refine tr_seq ?_
      refine tr_region fun _ _ _ => ?_
      iterate 2 refine pu rfl rfl rfl rfl rfl ?_
      exact tr_ret ⟨trivial, _, _, rfl, ⟨by rw [cosetArgs, if_neg (by omega), if_pos (by omega)], rfl⟩, CSub.nil _, trivial⟩
    · try simp only [zb1, zb2, zb3, zb4, zb5, zb6, zb7, zb8, zb9, zb10] at h4
      exact absurd (show cosetArgs q n = 0 by rw [cosetArgs, if_neg (by omega), if_neg (by omega)]) h --done

theorem take_eq_next {α : Type} (d : α) (a b : List α) {k : Nat} (hl : a.length = b.length) (hk : k < a.length) (h : a.take k = b.take k) (he : a.getD k d = b.getD k d) : a.take (k + 1) = b.take (k + 1) := by
  rw [List.take_add_one, List.take_add_one, h, List.getElem?_eq_getElem hk, List.getElem?_eq_getElem (show k < b.length by omega)]
  rw [List.getD_eq_getElem?_getD, List.getElem?_eq_getElem hk, List.getD_eq_getElem?_getD, List.getElem?_eq_getElem (show k < b.length by omega)] at he
  simp only [Option.getD_some] at he
  rw [he]
theorem xs_getD (rs : List RowM) (k : Nat) : (rs.map (·.xs)).getD k [] = (rs.getD k rowD).xs := by
  simp only [List.getD_eq_getElem?_getD, List.getElem?_map]
  cases rs[k]? <;> rfl

theorem ref_SameInts_ent : Enters Try.prog 47 := enters_of Try.func47 (by kernel_rfl) (by kernel_rfl)
theorem ref_SameInts (A : Option Addr) (n c : Nat) (a : List Int) (hn : n = a.length) (B : Option Addr) (m d : Nat) (b : List Int) (hm : m = b.length) (h9 : a.length ≤ 1000000000000) :
    Pure Try.prog 47 #[.slice A n c, .slice B m d] [ro A (ints a), ro B (ints b)] (isV (.bool (decide (a = b)))) := by
  refine pure_of (args := [.slice A n c, .slice B m d]) 26 Try.func47 rfl rfl rfl ref_SameInts_ent ⟨id, id, trivial⟩ (fun w0 => ?_)
  refine tr_seq ?_
  refine tr_region fun _ _ _ => ?_
  refine pu rfl rfl rfl rfl rfl ?_
  refine tr_seq ?_
  refine tr_seq ?_
  refine tr_region fun _ _ _ => ?_
  refine pu rfl rfl rfl rfl rfl ?_
  refine st rfl rfl rfl rfl (rLen rfl rfl) ?_
  refine pu rfl rfl rfl rfl rfl ?_
  refine st rfl rfl rfl rfl (rLen rfl rfl) ?_
  refine pu rfl rfl rfl rfl rfl ?_
  refine tr_cond_bool rfl (fun h1 => ?_) (fun h1 => ?_)
  · try simp only [zb1, zb2, zb3, zb4, zb5, zb6, zb7, zb8, zb9, zb10] at h1
    refine tr_seq ?_
    refine tr_region fun _ _ _ => ?_
    refine pu rfl rfl rfl rfl rfl ?_
    exact tr_ret ⟨trivial, _, _, rfl, ⟨by rw [decide_eq_false (fun h => by rw [h] at hn; omega)], rfl⟩, CSub.nil _, trivial⟩
  · try simp only [zb1, zb2, zb3, zb4, zb5, zb6, zb7, zb8, zb9, zb10] at h1
    refine tr_skip ?_
    refine tr_seq ?_
    refine tr_seq ?_
    refine tr_region fun _ _ _ => ?_
    refine pu rfl rfl rfl rfl rfl ?_
    refine tr_block ?_
    refine tr_loop1 (fun (i : Nat) => [(0, .slice A n c), (1, .slice B m d), (5, .int .i64 i)]) (fun (i : Nat) => [ro A (ints a), ro B (ints b)]) (fun (i : Nat) => i ≤ a.length ∧ a.take i = b.take i) (fun (i : Nat) => a.length - i) (0) ⟨rfl, rfl, rfl, trivial⟩ (by first | exact cs _ _ | exact CSub.refl _) (⟨by omega, rfl⟩) (fun i hI => ?_)
    obtain ⟨hi, ht⟩ := hI
    have hll : a.length = b.length := by omega
    refine tr_seq ?_
    refine tr_seq ?_
    refine tr_region fun _ _ _ => ?_
    iterate 2 refine pu rfl rfl rfl rfl rfl ?_
    refine st rfl rfl rfl rfl (rLen rfl rfl) ?_
    refine pu rfl rfl rfl rfl rfl ?_
    refine tr_cond_bool rfl (fun h4 => ?_) (fun h4 => ?_)
    · try simp only [zb1, zb2, zb3, zb4, zb5, zb6, zb7, zb8, zb9, zb10] at h4
      refine tr_skip ?_
      refine tr_seq ?_
      refine tr_block ?_
      refine tr_seq ?_
      refine tr_draw [0, 1, 2, 3, 4, 5, 6, 7, 8] [] mixed (by kernel_rfl) fun _ _ _ => ?_
      iterate 2 refine pu rfl rfl rfl rfl rfl ?_
      refine st rfl rfl rfl rfl (rIdxI rfl rfl rfl (by omega) (by omega) (by omega)) ?_
      refine st rfl rfl rfl rfl (rLdI rfl rfl (by omega)) ?_
      iterate 2 refine pu rfl rfl rfl rfl rfl ?_
      refine st rfl rfl rfl rfl (rIdxI rfl rfl rfl (by omega) (by omega) (by omega)) ?_
      refine st rfl rfl rfl rfl (rLdI rfl rfl (by omega)) ?_
      refine pu rfl rfl rfl rfl rfl ?_
      refine tr_cond_bool rfl (fun h6 => ?_) (fun h6 => ?_)
      · try simp only [zb1, zb2, zb3, zb4, zb5, zb6, zb7, zb8, zb9, zb10] at h6
        refine tr_seq ?_
        refine tr_region fun _ _ _ => ?_
        refine pu rfl rfl rfl rfl rfl ?_
        exact tr_ret ⟨trivial, _, _, rfl, ⟨by rw [decide_eq_false (fun h => h6 (by rw [h]))], rfl⟩, CSub.nil _, trivial⟩
      · try simp only [zb1, zb2, zb3, zb4, zb5, zb6, zb7, zb8, zb9, zb10] at h6
        refine tr_skip ?_
        refine tr_region fun _ _ _ => ?_
        refine pu rfl rfl rfl rfl rfl ?_
        refine st rfl rfl rfl rfl (rAdd rfl rfl rfl (by omega) (by omega)) ?_
        refine pu rfl rfl rfl rfl rfl ?_
        refine ⟨i + 1, ⟨rfl, rfl, rfl, trivial⟩, by first | exact cs _ _ | exact CSub.refl _, ?_⟩
        exact ⟨⟨by omega, take_eq_next 0 a b hll (by omega) ht (by simpa using h6)⟩, by omega⟩
    · try simp only [zb1, zb2, zb3, zb4, zb5, zb6, zb7, zb8, zb9, zb10] at h4
      refine tr_exit ?_
      refine tr_seq ?_
      refine tr_region fun _ _ _ => ?_
      refine pu rfl rfl rfl rfl rfl ?_
      have hia : i = a.length := by omega
      rw [hia, List.take_length, hll, List.take_length] at ht
      exact tr_ret ⟨trivial, _, _, rfl, ⟨by rw [decide_eq_true ht], rfl⟩, CSub.nil _, trivial⟩

theorem ref_SameRows_ent : Enters Try.prog 42 := enters_of Try.func42 (by kernel_rfl) (by kernel_rfl)
theorem ref_SameRows (A : Option Addr) (n c : Nat) (rs : List RowM) (hn : n = rs.length) (B : Option Addr) (m d : Nat) (qs : List RowM) (hm : m = qs.length) (h9 : rs.length ≤ 1000000000000) (h8 : ∀ r ∈ rs, r.xs.length ≤ 1000000000000) :
    Pure Try.prog 42 #[.slice A n c, .slice B m d] [ro A (hdrs rs), rowsR rs, ro B (hdrs qs), rowsR qs] (isV (.bool (decide (rs.map (·.xs) = qs.map (·.xs))))) := by
  refine pure_of (args := [.slice A n c, .slice B m d]) 27 Try.func42 rfl rfl rfl ref_SameRows_ent ⟨id, id, id, id, trivial⟩ (fun w0 => ?_)
  refine tr_seq ?_
  refine tr_region fun _ _ _ => ?_
  refine pu rfl rfl rfl rfl rfl ?_
  refine tr_seq ?_
  refine tr_seq ?_
  refine tr_region fun _ _ _ => ?_
  refine pu rfl rfl rfl rfl rfl ?_
  refine st rfl rfl rfl rfl (rLen rfl rfl) ?_
  refine pu rfl rfl rfl rfl rfl ?_
  refine st rfl rfl rfl rfl (rLen rfl rfl) ?_
  refine pu rfl rfl rfl rfl rfl ?_
  refine tr_cond_bool rfl (fun h1 => ?_) (fun h1 => ?_)
  · try simp only [zb1, zb2, zb3, zb4, zb5, zb6, zb7, zb8, zb9, zb10] at h1
    refine tr_seq ?_
    refine tr_region fun _ _ _ => ?_
    refine pu rfl rfl rfl rfl rfl ?_
    exact tr_ret ⟨trivial, _, _, rfl, ⟨by rw [decide_eq_false (fun h => by have := congrArg List.length h; simp at this; omega)], rfl⟩, CSub.nil _, trivial⟩
  · try simp only [zb1, zb2, zb3, zb4, zb5, zb6, zb7, zb8, zb9, zb10] at h1
    refine tr_skip ?_
    refine tr_seq ?_
    refine tr_seq ?_
    refine tr_region fun _ _ _ => ?_
    refine pu rfl rfl rfl rfl rfl ?_
    refine tr_block ?_
    refine tr_loop1 (fun (i : Nat) => [(0, .slice A n c), (1, .slice B m d), (5, .int .i64 i)]) (fun (i : Nat) => [ro A (hdrs rs), rowsR rs, ro B (hdrs qs), rowsR qs]) (fun (i : Nat) => i ≤ rs.length ∧ (rs.map (·.xs)).take i = (qs.map (·.xs)).take i) (fun (i : Nat) => rs.length - i) (0) ⟨rfl, rfl, rfl, trivial⟩ (by first | exact cs _ _ | exact CSub.refl _) (⟨by omega, rfl⟩) (fun i hI => ?_)
    obtain ⟨hi, ht⟩ := hI
    have hll : rs.length = qs.length := by omega
    refine tr_seq ?_
    refine tr_seq ?_
    refine tr_region fun _ _ _ => ?_
    iterate 2 refine pu rfl rfl rfl rfl rfl ?_
    refine st rfl rfl rfl rfl (rLen rfl rfl) ?_
    refine pu rfl rfl rfl rfl rfl ?_
    refine tr_cond_bool rfl (fun h4 => ?_) (fun h4 => ?_)
    · try simp only [zb1, zb2, zb3, zb4, zb5, zb6, zb7, zb8, zb9, zb10] at h4
      refine tr_skip ?_
      refine tr_seq ?_
      refine tr_block ?_
      refine tr_seq ?_
      haveI : InB (i : Int).toNat rs.length := ⟨by omega⟩
      haveI : InB (i : Int).toNat qs.length := ⟨by omega⟩
      have hr8 := h8 _ (getD_mem (show (i : Int).toNat < rs.length by omega) rowD)
      refine tr_draw [0, 1, 2, 3, 4, 5, 6, 7, 8, 9] [] mixed (by kernel_rfl) fun _ _ _ => ?_
      iterate 2 refine pu rfl rfl rfl rfl rfl ?_
      refine st rfl rfl rfl rfl (rIdxR rfl rfl rfl (by omega) (by omega) (by omega)) ?_
      refine st rfl rfl rfl rfl (rLdR rfl rfl (by omega)) ?_
      iterate 2 refine pu rfl rfl rfl rfl rfl ?_
      refine st rfl rfl rfl rfl (rIdxR rfl rfl rfl (by omega) (by omega) (by omega)) ?_
      refine st rfl rfl rfl rfl (rLdR rfl rfl (by omega)) ?_
      refine ef rfl rfl (eCallV rfl rfl rfl (ref_SameInts _ _ _ _ (by first | rfl | simp | omega) _ _ _ _ (by first | rfl | simp | omega) (by omega)) ⟨rfl, rfl, trivial⟩ ?_) 
      refine st rfl rfl rfl rfl (rNotB rfl rfl) ?_
      refine tr_cond_bool rfl (fun h6 => ?_) (fun h6 => ?_)
      · try simp only [zb1, zb2, zb3, zb4, zb5, zb6, zb7, zb8, zb9, zb10] at h6
        refine tr_seq ?_
        refine tr_region fun _ _ _ => ?_
        refine pu rfl rfl rfl rfl rfl ?_
        exact tr_ret ⟨trivial, _, _, rfl, ⟨by rw [decide_eq_false (fun h => by have := congrArg (fun l => l.getD i []) h; simp only [xs_getD] at this; simp only [Int.toNat_natCast] at h6; exact h6 this)], rfl⟩, CSub.nil _, trivial⟩
      · try simp only [zb1, zb2, zb3, zb4, zb5, zb6, zb7, zb8, zb9, zb10] at h6
        refine tr_skip ?_
        refine tr_region fun _ _ _ => ?_
        refine pu rfl rfl rfl rfl rfl ?_
        refine st rfl rfl rfl rfl (rAdd rfl rfl rfl (by omega) (by omega)) ?_
        refine pu rfl rfl rfl rfl rfl ?_
        refine ⟨i + 1, ⟨rfl, rfl, rfl, trivial⟩, by first | exact cs _ _ | exact CSub.refl _, ?_⟩
        exact ⟨⟨by omega, take_eq_next [] _ _ (by simpa using hll) (by rw [List.length_map]; omega) ht (by rw [xs_getD, xs_getD]; simpa using h6)⟩, by omega⟩
    · try simp only [zb1, zb2, zb3, zb4, zb5, zb6, zb7, zb8, zb9, zb10] at h4
      refine tr_exit ?_
      refine tr_seq ?_
      refine tr_region fun _ _ _ => ?_
      refine pu rfl rfl rfl rfl rfl ?_
      have hia : i = rs.length := by omega
      have h5 : (rs.map (fun r : RowM => r.xs)).length = i := by rw [List.length_map]; omega
      have h7 : (qs.map (fun r : RowM => r.xs)).length = i := by rw [List.length_map]; omega
      rw [List.take_of_length_le (by omega), List.take_of_length_le (by omega)] at ht
      exact tr_ret ⟨trivial, _, _, rfl, ⟨by rw [decide_eq_true ht], rfl⟩, CSub.nil _, trivial⟩

end Go.Proofs.Ytjmojhflnjbgaaa

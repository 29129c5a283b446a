/-
  DIGITS, ORDERS, PRIMES. One sentence: what the small functions of the fields return.
  Conditions: each theorem's own, written out in it.
-/
import Derived.Test.YtancpcmiimcdhaaTypes
import Derived.Test.YtancpcmiimcdhaaUtil
import Derived.Test.YtancpcmiimcdhaaSymI
import Derived.Test.YtancpcmiimcdhaaDig
set_option linter.unusedSimpArgs false
set_option linter.unusedVariables false
namespace Go.Proofs.Ytancpcmiimcdhaa
open Go.RowKit

theorem fld_digits_ent : Enters Try.prog 65 := enters_of Try.func65 (by kernel_rfl) (by kernel_rfl)
theorem fld_digits (x : Int) (hx : 0 ≤ x) (hx9 : x ≤ 9223372036854775807) (p : Int) (hp : 2 ≤ p) (hp2 : p ≤ 256) (m : Int) (hm : 0 ≤ m) (hm2 : m ≤ 64) :
    Pure Try.prog 65 #[.int .i64 x, .int .i64 p, .int .i64 m] [] (one (fun v ch => ∃ B, v = .slice B m.toNat m.toNat ∧ ch = ow B 3 m.toNat (ints (digs p m.toNat x)))) := by
  have hnn : ((m.toNat : Nat) : Int) = m := by omega
  refine pure_of (args := [.int .i64 x, .int .i64 p, .int .i64 m]) 27 Try.func65 rfl rfl rfl fld_digits_ent trivial (fun w0 => ?_)
  refine tr_seq ?_
  refine tr_region fun _ _ _ => ?_
  refine pu rfl rfl rfl rfl rfl ?_
  refine tr_seq ?_
  refine tr_region fun _ _ _ => ?_
  refine pu rfl rfl rfl rfl rfl ?_
  refine ef rfl rfl (eMakeI rfl rfl rfl rfl rfl (by omega) (by omega) (by omega) (fun A1 => ?_)) 
  refine pu rfl rfl rfl rfl rfl ?_
  refine tr_seq ?_
  refine tr_seq ?_
  refine tr_region fun _ _ _ => ?_
  refine pu rfl rfl rfl rfl rfl ?_
  refine st rfl rfl rfl rfl (rLen rfl rfl) ?_
  rw [hnn]
  refine pu rfl rfl rfl rfl rfl ?_
  refine tr_block ?_
  refine tr_loop3 (fun (k : Int) (x2 : Int) (l : List Int) => [(0, .int .i64 x2), (1, .int .i64 p), (2, .int .i64 m), (7, .slice A1 m.toNat m.toNat), (12, .int .i64 m), (13, .int .i64 k)]) (fun (k : Int) (x2 : Int) (l : List Int) => [ow A1 3 m.toNat (ints l)]) (fun (k : Int) (x2 : Int) (l : List Int) => 0 ≤ k ∧ k ≤ m ∧ (0 ≤ x2 ∧ x2 ≤ 9223372036854775807) ∧ l.length = m.toNat ∧ l.take k.toNat = digs p k.toNat x ∧ x2 = x / p ^ k.toNat) (fun (k : Int) (x2 : Int) (l : List Int) => (m - k).toNat) (0) (x) (List.replicate m.toNat 0) ⟨rfl, rfl, rfl, rfl, rfl, rfl, trivial⟩ (by first | exact cs _ _ | exact CSub.refl _) (⟨by omega, by omega, ⟨by omega, by omega⟩, by simp, by simp [digs], by simp⟩) (fun k x2 l hI => ?_)
  obtain ⟨hk0, hk1, ⟨hx2, hx3⟩, hl, htk, hxe⟩ := hI
  have hq0 := Int.ediv_nonneg hx2 (show 0 ≤ p by omega)
  have hq1 := Int.ediv_le_self p hx2
  refine tr_seq ?_
  refine tr_region fun _ _ _ => ?_
  refine pu rfl rfl rfl rfl rfl ?_
  refine tr_seq ?_
  refine tr_cond_bool rfl (fun h3 => ?_) (fun h3 => ?_)
  · try simp only [zb1, zb2, zb3, zb4, zb5, zb6, zb7, zb8, zb9, zb10] at h3
    refine tr_skip ?_
    refine tr_seq ?_
    refine tr_block ?_
    refine tr_seq ?_
    refine tr_region fun _ _ _ => ?_
    iterate 2 refine pu rfl rfl rfl rfl rfl ?_
    refine tr_seq ?_
    refine tr_region fun _ _ _ => ?_
    iterate 4 refine pu rfl rfl rfl rfl rfl ?_
    refine st rfl rfl rfl rfl (rRem rfl rfl rfl (by omega) (by omega)) ?_
    refine st rfl rfl rfl rfl (rIdxI rfl rfl rfl (by omega) (by omega) (by omega)) ?_
    refine ef rfl rfl (eStI rfl rfl rfl rfl (by omega) ?_) 
    refine tr_region fun _ _ _ => ?_
    iterate 2 refine pu rfl rfl rfl rfl rfl ?_
    refine st rfl rfl rfl rfl (rQuo rfl rfl rfl (by omega) (by omega)) ?_
    refine pu rfl rfl rfl rfl rfl ?_
    refine tr_region fun _ _ _ => ?_
    refine st rfl rfl rfl rfl (rAdd rfl rfl rfl (by omega) (by omega)) ?_
    refine pu rfl rfl rfl rfl rfl ?_
    refine ⟨k + 1, x2 / p, l.set k.toNat (x2 % p), ⟨rfl, rfl, rfl, rfl, rfl, rfl, trivial⟩, by first | exact cs _ _ | exact CSub.refl _, ?_⟩
    have hkk : (k + 1).toNat = k.toNat + 1 := by omega
    refine ⟨⟨by omega, by omega, ⟨hq0, by omega⟩, by simpa using hl, ?_, ?_⟩, by omega⟩
    · rw [hkk, digs_snoc (by omega), ← htk, ← hxe, List.take_add_one, List.take_set_of_le (Nat.le_refl _), List.getElem?_set_self (by omega)]
      rfl
    · rw [hkk, Int.pow_succ, hxe, Int.ediv_ediv_of_nonneg (Int.pow_nonneg (by omega))]
  · try simp only [zb1, zb2, zb3, zb4, zb5, zb6, zb7, zb8, zb9, zb10] at h3
    refine tr_exit ?_
    refine tr_seq ?_
    refine tr_region fun _ _ _ => ?_
    iterate 2 refine pu rfl rfl rfl rfl rfl ?_
    have hkm : k = m := by omega
    subst hkm
    rw [List.take_of_length_le (by omega)] at htk
    rw [htk]
    exact tr_ret ⟨trivial, _, _, rfl, ⟨_, rfl, _, rfl, rfl⟩, cs _ _, trivial, trivial⟩

theorem ref_digits_ent : Enters Try.prog 60 := enters_of Try.func60 (by kernel_rfl) (by kernel_rfl)
theorem ref_digits (x : Int) (hx : 0 ≤ x) (hx9 : x ≤ 9223372036854775807) (p : Int) (hp : 2 ≤ p) (hp2 : p ≤ 256) (m : Int) (hm : 0 ≤ m) (hm2 : m ≤ 64) :
    Pure Try.prog 60 #[.int .i64 x, .int .i64 p, .int .i64 m] [] (one (fun v ch => ∃ B, v = .slice B m.toNat m.toNat ∧ ch = ow B 3 m.toNat (ints (digs p m.toNat x)))) := by
  have hnn : ((m.toNat : Nat) : Int) = m := by omega
  refine pure_of (args := [.int .i64 x, .int .i64 p, .int .i64 m]) 26 Try.func60 rfl rfl rfl ref_digits_ent trivial (fun w0 => ?_)
  refine tr_seq ?_
  refine tr_region fun _ _ _ => ?_
  refine pu rfl rfl rfl rfl rfl ?_
  refine tr_seq ?_
  refine tr_region fun _ _ _ => ?_
  refine pu rfl rfl rfl rfl rfl ?_
  refine ef rfl rfl (eMakeI rfl rfl rfl rfl rfl (by omega) (by omega) (by omega) (fun A1 => ?_)) 
  refine pu rfl rfl rfl rfl rfl ?_
  refine tr_seq ?_
  refine tr_seq ?_
  refine tr_region fun _ _ _ => ?_
  refine pu rfl rfl rfl rfl rfl ?_
  refine tr_block ?_
  refine tr_loop3 (fun (k : Int) (x2 : Int) (l : List Int) => [(0, .int .i64 x2), (1, .int .i64 p), (2, .int .i64 m), (7, .slice A1 m.toNat m.toNat), (8, .int .i64 k)]) (fun (k : Int) (x2 : Int) (l : List Int) => [ow A1 3 m.toNat (ints l)]) (fun (k : Int) (x2 : Int) (l : List Int) => 0 ≤ k ∧ k ≤ m ∧ (0 ≤ x2 ∧ x2 ≤ 9223372036854775807) ∧ l.length = m.toNat ∧ l.take k.toNat = digs p k.toNat x ∧ x2 = x / p ^ k.toNat) (fun (k : Int) (x2 : Int) (l : List Int) => (m - k).toNat) (0) (x) (List.replicate m.toNat 0) ⟨rfl, rfl, rfl, rfl, rfl, trivial⟩ (by first | exact cs _ _ | exact CSub.refl _) (⟨by omega, by omega, ⟨by omega, by omega⟩, by simp, by simp [digs], by simp⟩) (fun k x2 l hI => ?_)
  obtain ⟨hk0, hk1, ⟨hx2, hx3⟩, hl, htk, hxe⟩ := hI
  have hq0 := Int.ediv_nonneg hx2 (show 0 ≤ p by omega)
  have hq1 := Int.ediv_le_self p hx2
  refine tr_seq ?_
  refine tr_seq ?_
  refine tr_region fun _ _ _ => ?_
  iterate 3 refine pu rfl rfl rfl rfl rfl ?_
  refine tr_cond_bool rfl (fun h3 => ?_) (fun h3 => ?_)
  · try simp only [zb1, zb2, zb3, zb4, zb5, zb6, zb7, zb8, zb9, zb10] at h3
    refine tr_skip ?_
    refine tr_seq ?_
    refine tr_block ?_
    refine tr_seq ?_
    refine tr_region fun _ _ _ => ?_
    iterate 4 refine pu rfl rfl rfl rfl rfl ?_
    refine st rfl rfl rfl rfl (rRem rfl rfl rfl (by omega) (by omega)) ?_
    refine st rfl rfl rfl rfl (rIdxI rfl rfl rfl (by omega) (by omega) (by omega)) ?_
    refine ef rfl rfl (eStI rfl rfl rfl rfl (by omega) ?_) 
    refine tr_region fun _ _ _ => ?_
    iterate 2 refine pu rfl rfl rfl rfl rfl ?_
    refine st rfl rfl rfl rfl (rQuo rfl rfl rfl (by omega) (by omega)) ?_
    refine pu rfl rfl rfl rfl rfl ?_
    refine tr_region fun _ _ _ => ?_
    refine pu rfl rfl rfl rfl rfl ?_
    refine st rfl rfl rfl rfl (rAdd rfl rfl rfl (by omega) (by omega)) ?_
    refine pu rfl rfl rfl rfl rfl ?_
    refine ⟨k + 1, x2 / p, l.set k.toNat (x2 % p), ⟨rfl, rfl, rfl, rfl, rfl, trivial⟩, by first | exact cs _ _ | exact CSub.refl _, ?_⟩
    have hkk : (k + 1).toNat = k.toNat + 1 := by omega
    refine ⟨⟨by omega, by omega, ⟨hq0, by omega⟩, by simpa using hl, ?_, ?_⟩, by omega⟩
    · rw [hkk, digs_snoc (by omega), ← htk, ← hxe, List.take_add_one, List.take_set_of_le (Nat.le_refl _), List.getElem?_set_self (by omega)]
      rfl
    · rw [hkk, Int.pow_succ, hxe, Int.ediv_ediv_of_nonneg (Int.pow_nonneg (by omega))]
  · try simp only [zb1, zb2, zb3, zb4, zb5, zb6, zb7, zb8, zb9, zb10] at h3
    refine tr_exit ?_
    refine tr_seq ?_
    refine tr_region fun _ _ _ => ?_
    iterate 2 refine pu rfl rfl rfl rfl rfl ?_
    have hkm : k = m := by omega
    subst hkm
    rw [List.take_of_length_le (by omega)] at htk
    rw [htk]
    exact tr_ret ⟨trivial, _, _, rfl, ⟨_, rfl, _, rfl, rfl⟩, cs _ _, trivial, trivial⟩

theorem fld_value_ent : Enters Try.prog 66 := enters_of Try.func66 (by kernel_rfl) (by kernel_rfl)
theorem fld_value (A : Option Addr) (n c : Nat) (d : List Int) (p : Int) (hp : 2 ≤ p) (hp2 : p ≤ 256) (hn : n = d.length) (hn2 : n ≤ 64) (hd : AllIn p d) (hq : p ^ d.length ≤ 256) :
    Pure Try.prog 66 #[.slice A n c, .int .i64 p] [ro A (ints d)] (isV (.int .i64 (vl p d))) := by
  refine pure_of (args := [.slice A n c, .int .i64 p]) 23 Try.func66 rfl rfl rfl fld_value_ent ⟨id, trivial⟩ (fun w0 => ?_)
  refine tr_seq ?_
  refine tr_region fun _ _ _ => ?_
  refine pu rfl rfl rfl rfl rfl ?_
  refine tr_seq ?_
  refine tr_region fun _ _ _ => ?_
  refine pu rfl rfl rfl rfl rfl ?_
  refine tr_seq ?_
  refine tr_seq ?_
  refine tr_region fun _ _ _ => ?_
  refine pu rfl rfl rfl rfl rfl ?_
  refine st rfl rfl rfl rfl (rLen rfl rfl) ?_
  refine st rfl rfl rfl rfl (rSub rfl rfl rfl (by omega) (by omega)) ?_
  refine pu rfl rfl rfl rfl rfl ?_
  refine tr_block ?_
  refine tr_loop2 (fun (i : Int) (s : Int) => [(0, .slice A n c), (1, .int .i64 p), (5, .int .i64 s), (6, .int .i64 i)]) (fun (i : Int) (s : Int) => [ro A (ints d)]) (fun (i : Int) (s : Int) => -1 ≤ i ∧ i < d.length ∧ s = vl p (d.drop (i + 1).toNat)) (fun (i : Int) (s : Int) => (i + 1).toNat) ((n : Int) - 1) (0) ⟨rfl, rfl, rfl, rfl, trivial⟩ (by first | exact cs _ _ | exact CSub.refl _) (⟨by omega, by omega, by rw [List.drop_of_length_le (by omega)]; rfl⟩) (fun i s hI => ?_)
  obtain ⟨hi0, hi1, hs⟩ := hI
  have hv := vl_in (p := p) (by omega) (d.drop (i + 1).toNat) (fun c hc => hd c (List.mem_of_mem_drop hc))
  have hpb := pw_bd (p := p) (by omega) (k := (d.drop (i + 1).toNat).length) (m := d.length) (by simp)
  have hmb := mul_bd0 s p 256 256 (by omega) (by omega) (by omega) (by omega)
  have hgd := hd.get (by omega) i.toNat
  refine tr_seq ?_
  refine tr_seq ?_
  refine tr_region fun _ _ _ => ?_
  iterate 2 refine pu rfl rfl rfl rfl rfl ?_
  refine tr_cond_bool rfl (fun h3 => ?_) (fun h3 => ?_)
  · try simp only [zb1, zb2, zb3, zb4, zb5, zb6, zb7, zb8, zb9, zb10] at h3
    refine tr_skip ?_
    refine tr_seq ?_
    refine tr_block ?_
    refine tr_region fun _ _ _ => ?_
    iterate 2 refine pu rfl rfl rfl rfl rfl ?_
    refine st rfl rfl rfl rfl (rMul rfl rfl rfl (by omega) (by omega)) ?_
    iterate 2 refine pu rfl rfl rfl rfl rfl ?_
    refine st rfl rfl rfl rfl (rIdxI rfl rfl rfl (by omega) (by omega) (by omega)) ?_
    refine st rfl rfl rfl rfl (rLdI rfl rfl (by omega)) ?_
    refine st rfl rfl rfl rfl (rAdd rfl rfl rfl (by omega) (by omega)) ?_
    refine pu rfl rfl rfl rfl rfl ?_
    refine tr_region fun _ _ _ => ?_
    refine pu rfl rfl rfl rfl rfl ?_
    refine st rfl rfl rfl rfl (rSub rfl rfl rfl (by omega) (by omega)) ?_
    refine pu rfl rfl rfl rfl rfl ?_
    refine ⟨i - 1, s * p + d.getD i.toNat 0, ⟨rfl, rfl, rfl, rfl, trivial⟩, by first | exact cs _ _ | exact CSub.refl _, ?_⟩
    refine ⟨⟨by omega, by omega, ?_⟩, by omega⟩
    rw [show (i - 1 + 1).toNat = i.toNat by omega, drop_getD (show i.toNat < d.length by omega), vl, hs, show (i + 1).toNat = i.toNat + 1 by omega, Int.mul_comm, Int.add_comm]
  · try simp only [zb1, zb2, zb3, zb4, zb5, zb6, zb7, zb8, zb9, zb10] at h3
    refine tr_exit ?_
    refine tr_seq ?_
    refine tr_region fun _ _ _ => ?_
    iterate 2 refine pu rfl rfl rfl rfl rfl ?_
    have him : i = -1 := by omega
    subst him
    exact tr_ret ⟨trivial, _, _, rfl, ⟨by rw [hs]; simp, rfl⟩, CSub.nil _, trivial⟩

theorem fld_order_ent : Enters Try.prog 43 := enters_of Try.func43 (by kernel_rfl) (by kernel_rfl)
theorem fld_order (p m : Int) :
    Pure Try.prog 43 #[.int .i64 p, .int .i64 m] [] (isV (.int .i64 (ordI p m))) := by
  refine pure_of (args := [.int .i64 p, .int .i64 m]) 30 Try.func43 rfl rfl rfl fld_order_ent trivial (fun w0 => ?_)
  refine tr_seq ?_
  refine tr_region fun _ _ _ => ?_
  refine pu rfl rfl rfl rfl rfl ?_
  refine tr_seq ?_
  refine tr_seq ?_
  refine tr_region fun _ _ _ => ?_
  iterate 3 refine pu rfl rfl rfl rfl rfl ?_
  refine stg rfl rfl rfl rfl rfl (fun hb => by (have hq := hb; try simp only [zb1, zb2, zb3, zb4, zb5, zb6, zb7, zb8, zb9, zb10] at hq); exact rMove rfl rfl) ?_
  refine stg rfl rfl rfl rfl rfl (fun hb => by (have hq := hb; try simp only [zb1, zb2, zb3, zb4, zb5, zb6, zb7, zb8, zb9, zb10] at hq); exact rGtr rfl (evg rfl hb) rfl) ?_
  refine st rfl rfl rfl rfl (rOrB rfl rfl rfl rfl) ?_
  refine pu rfl rfl rfl rfl rfl ?_
  refine stg rfl rfl rfl rfl rfl (fun hb => by (have hq := hb; try simp only [zb1, zb2, zb3, zb4, zb5, zb6, zb7, zb8, zb9, zb10] at hq); exact rMove rfl rfl) ?_
  refine stg rfl rfl rfl rfl rfl (fun hb => by (have hq := hb; try simp only [zb1, zb2, zb3, zb4, zb5, zb6, zb7, zb8, zb9, zb10] at hq); exact rLss rfl (evg rfl hb) rfl) ?_
  refine st rfl rfl rfl rfl (rOrB rfl rfl rfl rfl) ?_
  refine pu rfl rfl rfl rfl rfl ?_
  refine stg rfl rfl rfl rfl rfl (fun hb => by (have hq := hb; try simp only [zb1, zb2, zb3, zb4, zb5, zb6, zb7, zb8, zb9, zb10] at hq); exact rMove rfl rfl) ?_
  refine stg rfl rfl rfl rfl rfl (fun hb => by (have hq := hb; try simp only [zb1, zb2, zb3, zb4, zb5, zb6, zb7, zb8, zb9, zb10] at hq); exact rGtr rfl (evg rfl hb) rfl) ?_
  refine st rfl rfl rfl rfl (rOrB rfl rfl rfl rfl) ?_
  refine tr_cond_bool rfl (fun h1 => ?_) (fun h1 => ?_)
  · try simp only [zb1, zb2, zb3, zb4, zb5, zb6, zb7, zb8, zb9, zb10] at h1
    refine tr_seq ?_
    refine tr_region fun _ _ _ => ?_
    refine pu rfl rfl rfl rfl rfl ?_
    exact tr_ret ⟨trivial, _, _, rfl, ⟨by rw [ordI, if_pos (by omega)], rfl⟩, CSub.nil _, trivial⟩
  · try simp only [zb1, zb2, zb3, zb4, zb5, zb6, zb7, zb8, zb9, zb10] at h1
    refine tr_skip ?_
    refine tr_seq ?_
    refine tr_region fun _ _ _ => ?_
    refine pu rfl rfl rfl rfl rfl ?_
    refine tr_seq ?_
    refine tr_seq ?_
    refine tr_region fun _ _ _ => ?_
    iterate 2 refine pu rfl rfl rfl rfl rfl ?_
    refine tr_block ?_
    refine tr_loop2 (fun (k : Int) (q : Int) => [(0, .int .i64 p), (1, .int .i64 m), (5, .int .i64 q), (20, .int .i64 m), (21, .int .i64 k)]) (fun (k : Int) (q : Int) => []) (fun (k : Int) (q : Int) => 0 ≤ k ∧ k ≤ m ∧ q ≤ 256 ∧ q = pw p k) (fun (k : Int) (q : Int) => (m - k).toNat) (0) (1) ⟨rfl, rfl, rfl, rfl, rfl, trivial⟩ (by first | exact cs _ _ | exact CSub.refl _) (⟨by omega, by omega, by omega, (pw_zero p).symm⟩) (fun k q hI => ?_)
    obtain ⟨hk0, hk1, hk2, hqe⟩ := hI
    have hp1 := pw_pos (p := p) (by omega) k
    have hmb := mul_bd0 q p 256 256 (by omega) (by omega) (by omega) (by omega)
    have hps := pw_succ p hk0
    refine tr_seq ?_
    refine tr_region fun _ _ _ => ?_
    refine pu rfl rfl rfl rfl rfl ?_
    refine tr_seq ?_
    refine tr_cond_bool rfl (fun h5 => ?_) (fun h5 => ?_)
    · try simp only [zb1, zb2, zb3, zb4, zb5, zb6, zb7, zb8, zb9, zb10] at h5
      refine tr_skip ?_
      refine tr_seq ?_
      refine tr_block ?_
      refine tr_seq ?_
      refine tr_region fun _ _ _ => ?_
      iterate 2 refine pu rfl rfl rfl rfl rfl ?_
      refine st rfl rfl rfl rfl (rMul rfl rfl rfl (by omega) (by omega)) ?_
      refine pu rfl rfl rfl rfl rfl ?_
      refine tr_seq ?_
      refine tr_region fun _ _ _ => ?_
      iterate 2 refine pu rfl rfl rfl rfl rfl ?_
      refine tr_cond_bool rfl (fun h7 => ?_) (fun h7 => ?_)
      · try simp only [zb1, zb2, zb3, zb4, zb5, zb6, zb7, zb8, zb9, zb10] at h7
        refine tr_seq ?_
        refine tr_region fun _ _ _ => ?_
        refine pu rfl rfl rfl rfl rfl ?_
        exact tr_ret ⟨trivial, _, _, rfl, ⟨by rw [ord_bad (k := k + 1) (by omega) (by omega) (by omega) (by rw [hps, ← hqe]; omega)], rfl⟩, CSub.nil _, trivial⟩
      · try simp only [zb1, zb2, zb3, zb4, zb5, zb6, zb7, zb8, zb9, zb10] at h7
        refine tr_skip ?_
        refine tr_region fun _ _ _ => ?_
        refine st rfl rfl rfl rfl (rAdd rfl rfl rfl (by omega) (by omega)) ?_
        refine pu rfl rfl rfl rfl rfl ?_
        refine ⟨k + 1, q * p, ⟨rfl, rfl, rfl, rfl, rfl, trivial⟩, by first | exact cs _ _ | exact CSub.refl _, ?_⟩
        exact ⟨⟨by omega, by omega, by omega, by rw [hqe, hps]⟩, by omega⟩
    · try simp only [zb1, zb2, zb3, zb4, zb5, zb6, zb7, zb8, zb9, zb10] at h5
      refine tr_exit ?_
      refine tr_seq ?_
      refine tr_region fun _ _ _ => ?_
      iterate 2 refine pu rfl rfl rfl rfl rfl ?_
      have hkm : k = m := by omega
      subst hkm
      exact tr_ret ⟨trivial, _, _, rfl, ⟨by rw [ord_ok (by omega) (by omega) (by omega) (by omega) (by omega), hqe], rfl⟩, CSub.nil _, trivial⟩

theorem fld_isPrime_ent : Enters Try.prog 56 := enters_of Try.func56 (by kernel_rfl) (by kernel_rfl)
theorem fld_isPrime (n : Int) (hn : n ≤ 1000000) :
    Pure Try.prog 56 #[.int .i64 n] [] (isV (.bool (bIsP n))) := by
  refine pure_of (args := [.int .i64 n]) 17 Try.func56 rfl rfl rfl fld_isPrime_ent trivial (fun w0 => ?_)
  refine tr_seq ?_
  refine tr_region fun _ _ _ => ?_
  refine pu rfl rfl rfl rfl rfl ?_
  refine tr_seq ?_
  refine tr_seq ?_
  refine tr_region fun _ _ _ => ?_
  refine pu rfl rfl rfl rfl rfl ?_
  refine tr_block ?_
  refine tr_loop1 (fun (d : Int) => [(0, .int .i64 n), (3, .int .i64 d)]) (fun (d : Int) => []) (fun (d : Int) => 2 ≤ d ∧ d ≤ 1000001 ∧ ∀ e, 2 ≤ e → e < d → n % e ≠ 0) (fun (d : Int) => (n + 1 - d).toNat) (2) ⟨rfl, rfl, trivial⟩ (by first | exact cs _ _ | exact CSub.refl _) (⟨by omega, by omega, fun e _ _ => by omega⟩) (fun d hI => ?_)
  obtain ⟨hd0, hd1, hd2⟩ := hI
  have hmb := mul_bd0 d d 1000001 1000001 (by omega) (by omega) (by omega) (by omega)
  have hdl : d * 2 ≤ d * d := Int.mul_le_mul_of_nonneg_left hd0 (by omega)
  refine tr_seq ?_
  refine tr_seq ?_
  refine tr_region fun _ _ _ => ?_
  iterate 2 refine pu rfl rfl rfl rfl rfl ?_
  refine st rfl rfl rfl rfl (rMul rfl rfl rfl (by omega) (by omega)) ?_
  iterate 2 refine pu rfl rfl rfl rfl rfl ?_
  refine tr_cond_bool rfl (fun h2 => ?_) (fun h2 => ?_)
  · try simp only [zb1, zb2, zb3, zb4, zb5, zb6, zb7, zb8, zb9, zb10] at h2
    refine tr_skip ?_
    refine tr_seq ?_
    refine tr_block ?_
    refine tr_seq ?_
    refine tr_region fun _ _ _ => ?_
    iterate 2 refine pu rfl rfl rfl rfl rfl ?_
    refine st rfl rfl rfl rfl (rRem rfl rfl rfl (by omega) (by omega)) ?_
    refine pu rfl rfl rfl rfl rfl ?_
    refine tr_cond_bool rfl (fun h4 => ?_) (fun h4 => ?_)
    · try simp only [zb1, zb2, zb3, zb4, zb5, zb6, zb7, zb8, zb9, zb10] at h4
      refine tr_seq ?_
      refine tr_region fun _ _ _ => ?_
      refine pu rfl rfl rfl rfl rfl ?_
      exact tr_ret ⟨trivial, _, _, rfl, ⟨by rw [bIsP_false (not_isP hd0 (by omega) h4)], rfl⟩, CSub.nil _, trivial⟩
    · try simp only [zb1, zb2, zb3, zb4, zb5, zb6, zb7, zb8, zb9, zb10] at h4
      refine tr_skip ?_
      refine tr_region fun _ _ _ => ?_
      refine pu rfl rfl rfl rfl rfl ?_
      refine st rfl rfl rfl rfl (rAdd rfl rfl rfl (by omega) (by omega)) ?_
      refine pu rfl rfl rfl rfl rfl ?_
      refine ⟨d + 1, ⟨rfl, rfl, trivial⟩, by first | exact cs _ _ | exact CSub.refl _, ?_⟩
      exact ⟨⟨by omega, by omega, fun e e0 e1 => by
        by_cases he : e = d
        · subst he; exact h4
        · exact hd2 e e0 (by omega)⟩, by omega⟩
  · try simp only [zb1, zb2, zb3, zb4, zb5, zb6, zb7, zb8, zb9, zb10] at h2
    refine tr_exit ?_
    refine tr_seq ?_
    refine tr_region fun _ _ _ => ?_
    iterate 3 refine pu rfl rfl rfl rfl rfl ?_
    have hb : decide (n ≥ 2) = bIsP n := by
      by_cases h : n ≥ 2
      · rw [bIsP_true (isP_of hd0 h hd2 (by omega)), decide_eq_true h]
      · rw [bIsP_false (fun h2 => h h2.1), decide_eq_false h]
    exact tr_ret ⟨trivial, _, _, rfl, ⟨by rw [hb], rfl⟩, CSub.nil _, trivial⟩

theorem ref_prime_ent : Enters Try.prog 45 := enters_of Try.func45 (by kernel_rfl) (by kernel_rfl)
theorem ref_prime (n : Int) (hn0 : 2 ≤ n) (hn : n ≤ 1000000) :
    Pure Try.prog 45 #[.int .i64 n] [] (isV (.bool (bIsP n))) := by
  refine pure_of (args := [.int .i64 n]) 13 Try.func45 rfl rfl rfl ref_prime_ent trivial (fun w0 => ?_)
  refine tr_seq ?_
  refine tr_region fun _ _ _ => ?_
  refine pu rfl rfl rfl rfl rfl ?_
  refine tr_seq ?_
  refine tr_seq ?_
  refine tr_region fun _ _ _ => ?_
  refine pu rfl rfl rfl rfl rfl ?_
  refine tr_block ?_
  refine tr_loop1 (fun (d : Int) => [(0, .int .i64 n), (3, .int .i64 d)]) (fun (d : Int) => []) (fun (d : Int) => 2 ≤ d ∧ d ≤ n ∧ ∀ e, 2 ≤ e → e < d → n % e ≠ 0) (fun (d : Int) => (n + 1 - d).toNat) (2) ⟨rfl, rfl, trivial⟩ (by first | exact cs _ _ | exact CSub.refl _) (⟨by omega, by omega, fun e _ _ => by omega⟩) (fun d hI => ?_)
  obtain ⟨hd0, hd1, hd2⟩ := hI
  refine tr_seq ?_
  refine tr_seq ?_
  refine tr_region fun _ _ _ => ?_
  iterate 3 refine pu rfl rfl rfl rfl rfl ?_
  refine tr_cond_bool rfl (fun h2 => ?_) (fun h2 => ?_)
  · try simp only [zb1, zb2, zb3, zb4, zb5, zb6, zb7, zb8, zb9, zb10] at h2
    refine tr_skip ?_
    refine tr_seq ?_
    refine tr_block ?_
    refine tr_seq ?_
    refine tr_region fun _ _ _ => ?_
    iterate 2 refine pu rfl rfl rfl rfl rfl ?_
    refine st rfl rfl rfl rfl (rRem rfl rfl rfl (by omega) (by omega)) ?_
    refine pu rfl rfl rfl rfl rfl ?_
    refine tr_cond_bool rfl (fun h4 => ?_) (fun h4 => ?_)
    · try simp only [zb1, zb2, zb3, zb4, zb5, zb6, zb7, zb8, zb9, zb10] at h4
      refine tr_seq ?_
      refine tr_region fun _ _ _ => ?_
      refine pu rfl rfl rfl rfl rfl ?_
      exact tr_ret ⟨trivial, _, _, rfl, ⟨by rw [bIsP_false (not_isP hd0 (by omega) h4)], rfl⟩, CSub.nil _, trivial⟩
    · try simp only [zb1, zb2, zb3, zb4, zb5, zb6, zb7, zb8, zb9, zb10] at h4
      refine tr_skip ?_
      refine tr_region fun _ _ _ => ?_
      refine pu rfl rfl rfl rfl rfl ?_
      refine st rfl rfl rfl rfl (rAdd rfl rfl rfl (by omega) (by omega)) ?_
      refine pu rfl rfl rfl rfl rfl ?_
      refine ⟨d + 1, ⟨rfl, rfl, trivial⟩, by first | exact cs _ _ | exact CSub.refl _, ?_⟩
      exact ⟨⟨by omega, by omega, fun e e0 e1 => by
        by_cases he : e = d
        · subst he; exact h4
        · exact hd2 e e0 (by omega)⟩, by omega⟩
  · try simp only [zb1, zb2, zb3, zb4, zb5, zb6, zb7, zb8, zb9, zb10] at h2
    refine tr_exit ?_
    refine tr_seq ?_
    refine tr_region fun _ _ _ => ?_
    refine pu rfl rfl rfl rfl rfl ?_
    exact tr_ret ⟨trivial, _, _, rfl, ⟨by rw [bIsP_true ⟨hn0, fun e e0 e1 => hd2 e e0 (by omega)⟩], rfl⟩, CSub.nil _, trivial⟩

theorem ref_order_ent : Enters Try.prog 37 := enters_of Try.func37 (by kernel_rfl) (by kernel_rfl)
theorem ref_order (p m : Int) (A : Option Addr) (c : Nat) (mod : List Int) :
    Pure Try.prog 37 #[.agg #[.int .i64 p, .int .i64 m, .slice A mod.length c]] [ro A (ints mod)] (isV (.int .i64 (ordI p m))) := by
  refine pure_of (args := [.agg #[.int .i64 p, .int .i64 m, .slice A mod.length c]]) 34 Try.func37 rfl rfl rfl ref_order_ent ⟨id, trivial⟩ (fun w0 => ?_)
  refine tr_seq ?_
  refine tr_region fun _ _ _ => ?_
  refine ef rfl rfl (eBox rfl rfl rfl rfl rfl (fun p0 => ?_)) 
  refine pu rfl rfl rfl rfl rfl ?_
  refine tr_seq ?_
  refine tr_seq ?_
  refine tr_region fun _ _ _ => ?_
  refine st rfl rfl rfl rfl (rFld rfl rfl) ?_
  refine st rfl rfl rfl rfl (rLdF rfl rfl rfl) ?_
  iterate 2 refine pu rfl rfl rfl rfl rfl ?_
  refine stg rfl rfl rfl rfl rfl (fun hb => by (have hq := hb; try simp only [zb1, zb2, zb3, zb4, zb5, zb6, zb7, zb8, zb9, zb10] at hq); exact rFld rfl rfl) ?_
  refine stg rfl rfl rfl rfl rfl (fun hb => by (have hq := hb; try simp only [zb1, zb2, zb3, zb4, zb5, zb6, zb7, zb8, zb9, zb10] at hq); exact rLdF rfl (evg rfl hb) rfl) ?_
  refine stg rfl rfl rfl rfl rfl (fun hb => by (have hq := hb; try simp only [zb1, zb2, zb3, zb4, zb5, zb6, zb7, zb8, zb9, zb10] at hq); exact rLss rfl (evg rfl hb) rfl) ?_
  refine st rfl rfl rfl rfl (rOrB rfl rfl rfl rfl) ?_
  refine pu rfl rfl rfl rfl rfl ?_
  refine stg rfl rfl rfl rfl rfl (fun hb => by (have hq := hb; try simp only [zb1, zb2, zb3, zb4, zb5, zb6, zb7, zb8, zb9, zb10] at hq); exact rFld rfl rfl) ?_
  refine stg rfl rfl rfl rfl rfl (fun hb => by (have hq := hb; try simp only [zb1, zb2, zb3, zb4, zb5, zb6, zb7, zb8, zb9, zb10] at hq); exact rLdF rfl (evg rfl hb) rfl) ?_
  refine stg rfl rfl rfl rfl rfl (fun hb => by (have hq := hb; try simp only [zb1, zb2, zb3, zb4, zb5, zb6, zb7, zb8, zb9, zb10] at hq); exact rGtr rfl (evg rfl hb) rfl) ?_
  refine st rfl rfl rfl rfl (rOrB rfl rfl rfl rfl) ?_
  refine tr_cond_bool rfl (fun h1 => ?_) (fun h1 => ?_)
  · try simp only [zb1, zb2, zb3, zb4, zb5, zb6, zb7, zb8, zb9, zb10] at h1
    refine tr_seq ?_
    refine tr_region fun _ _ _ => ?_
    refine pu rfl rfl rfl rfl rfl ?_
    exact tr_ret ⟨trivial, _, _, rfl, ⟨by rw [ordI, if_pos (by omega)], rfl⟩, CSub.nil _, trivial⟩
  · try simp only [zb1, zb2, zb3, zb4, zb5, zb6, zb7, zb8, zb9, zb10] at h1
    refine tr_skip ?_
    refine tr_seq ?_
    refine tr_region fun _ _ _ => ?_
    refine pu rfl rfl rfl rfl rfl ?_
    refine tr_seq ?_
    refine tr_seq ?_
    refine tr_region fun _ _ _ => ?_
    refine pu rfl rfl rfl rfl rfl ?_
    refine tr_block ?_
    refine tr_loop2 (fun (k : Int) (q : Int) => [(1, .pointer (some p0)), (3, .int .i64 q), (4, .int .i64 k)]) (fun (k : Int) (q : Int) => [blk p0 36 [.int .i64 p, .int .i64 m, .slice A mod.length c]]) (fun (k : Int) (q : Int) => (0 ≤ k ∧ k ≤ m) ∧ q ≤ 256 ∧ q = pw p k ∧ (p > 256 → k = 0)) (fun (k : Int) (q : Int) => (m - k).toNat) (0) (1) ⟨rfl, rfl, rfl, trivial⟩ (by first | exact cs _ _ | exact CSub.refl _) (⟨⟨by omega, by omega⟩, by omega, (pw_zero p).symm, fun _ => rfl⟩) (fun k q hI => ?_)
    obtain ⟨⟨hk0, hk1⟩, hk2, hqe, hpk⟩ := hI
    have hp1 := pw_pos (p := p) (by omega) k
    have hps := pw_succ p hk0
    have hdiv := Int.ediv_lt_iff_lt_mul (a := 256) (b := q) (c := p) (by omega)
    have hqp : q * p = pw p (k + 1) := by rw [hqe, hps]
    rw [hqp] at hdiv
    refine tr_seq ?_
    refine tr_seq ?_
    refine tr_region fun _ _ _ => ?_
    refine pu rfl rfl rfl rfl rfl ?_
    refine st rfl rfl rfl rfl (rFld rfl rfl) ?_
    refine st rfl rfl rfl rfl (rLdF rfl rfl rfl) ?_
    refine pu rfl rfl rfl rfl rfl ?_
    refine tr_cond_bool rfl (fun h5 => ?_) (fun h5 => ?_)
    · try simp only [zb1, zb2, zb3, zb4, zb5, zb6, zb7, zb8, zb9, zb10] at h5
      refine tr_skip ?_
      refine tr_seq ?_
      refine tr_block ?_
      refine tr_seq ?_
      refine tr_seq ?_
      refine tr_region fun _ _ _ => ?_
      refine pu rfl rfl rfl rfl rfl ?_
      refine st rfl rfl rfl rfl (rFld rfl rfl) ?_
      refine st rfl rfl rfl rfl (rLdF rfl rfl rfl) ?_
      refine st rfl rfl rfl rfl (rQuo rfl rfl rfl (by omega) (by omega)) ?_
      refine pu rfl rfl rfl rfl rfl ?_
      refine tr_cond_bool rfl (fun h7 => ?_) (fun h7 => ?_)
      · try simp only [zb1, zb2, zb3, zb4, zb5, zb6, zb7, zb8, zb9, zb10] at h7
        refine tr_seq ?_
        refine tr_region fun _ _ _ => ?_
        refine pu rfl rfl rfl rfl rfl ?_
        exact tr_ret ⟨trivial, _, _, rfl, ⟨by rw [ord_bad (k := k + 1) (by omega) (by omega) (by omega) (by omega)], rfl⟩, CSub.nil _, trivial⟩
      · try simp only [zb1, zb2, zb3, zb4, zb5, zb6, zb7, zb8, zb9, zb10] at h7
        refine tr_skip ?_
        have hqpn : 0 ≤ q * p := Int.mul_nonneg (by omega) (by omega)
        refine tr_region fun _ _ _ => ?_
        refine pu rfl rfl rfl rfl rfl ?_
        refine st rfl rfl rfl rfl (rFld rfl rfl) ?_
        refine st rfl rfl rfl rfl (rLdF rfl rfl rfl) ?_
        refine st rfl rfl rfl rfl (rMul rfl rfl rfl (by omega) (by omega)) ?_
        refine pu rfl rfl rfl rfl rfl ?_
        refine tr_region fun _ _ _ => ?_
        refine pu rfl rfl rfl rfl rfl ?_
        refine st rfl rfl rfl rfl (rAdd rfl rfl rfl (by omega) (by omega)) ?_
        refine pu rfl rfl rfl rfl rfl ?_
        refine ⟨k + 1, q * p, ⟨rfl, rfl, rfl, trivial⟩, by first | exact cs _ _ | exact CSub.refl _, ?_⟩
        exact ⟨⟨⟨by omega, by omega⟩, by rw [hqe, ← hps]; omega, by rw [hqe, hps], fun h => by
          have h1 := pw_mono (p := p) (by omega) (a := 1) (b := k + 1) (by omega) (by omega)
          have h2 := pw_succ p (k := 0) (by omega)
          rw [pw_zero, Int.zero_add, Int.one_mul] at h2
          omega⟩, by omega⟩
    · try simp only [zb1, zb2, zb3, zb4, zb5, zb6, zb7, zb8, zb9, zb10] at h5
      refine tr_exit ?_
      refine tr_seq ?_
      refine tr_region fun _ _ _ => ?_
      iterate 2 refine pu rfl rfl rfl rfl rfl ?_
      have hkm : k = m := by omega
      subst hkm
      exact tr_ret ⟨trivial, _, _, rfl, ⟨by rw [ord_ok (by omega) (by omega) (by omega) (by omega) (by omega), hqe], rfl⟩, CSub.nil _, trivial⟩

end Go.Proofs.Ytancpcmiimcdhaa

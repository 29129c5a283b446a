/-
  CANONICAL FORMS. One sentence: what Canon and Compare return, and the reference ones.
  Conditions: each theorem's own, written out in it.
-/
import Derived.Test.YtancpcmiimcdhaaFld3
import Derived.Test.YtancpcmiimcdhaaCanon
import Derived.Test.YtancpcmiimcdhaaSymK
import Derived.Test.YtancpcmiimcdhaaAlg3
set_option linter.unusedSimpArgs false
set_option linter.unusedVariables false
namespace Go.Proofs.Ytancpcmiimcdhaa
open Go.RowKit

theorem gf_Is_ent : Enters Try.prog 47 := enters_of Try.func47 (by kernel_rfl) (by kernel_rfl)
theorem gf_Is (g : GfM) (x : Int) :
    Pure Try.prog 47 #[.pointer (some g.p), .int .i64 x] [gfR g] (isV (.bool (decide (x ≥ 0) && decide (x < g.q)))) := by
  refine pure_of (args := [.pointer (some g.p), .int .i64 x]) 15 Try.func47 rfl rfl rfl gf_Is_ent ⟨id, trivial⟩ (fun w0 => ?_)
  refine tr_seq ?_
  refine tr_region fun _ _ _ => ?_
  refine pu rfl rfl rfl rfl rfl ?_
  refine tr_seq ?_
  refine tr_region fun _ _ _ => ?_
  iterate 3 refine pu rfl rfl rfl rfl rfl ?_
  refine stg rfl rfl rfl rfl rfl (fun hb => by (have hq := hb; try simp only [zb1, zb2, zb3, zb4, zb5, zb6, zb7, zb8, zb9, zb10] at hq); exact rMove rfl rfl) ?_
  refine stg rfl rfl rfl rfl rfl (fun hb => by (have hq := hb; try simp only [zb1, zb2, zb3, zb4, zb5, zb6, zb7, zb8, zb9, zb10] at hq); exact rMove rfl rfl) ?_
  refine stg rfl rfl rfl rfl rfl (fun hb => by (have hq := hb; try simp only [zb1, zb2, zb3, zb4, zb5, zb6, zb7, zb8, zb9, zb10] at hq); exact rNil rfl (evg rfl hb)) ?_
  refine stg rfl rfl rfl rfl rfl (fun hb => by (have hq := hb; try simp only [zb1, zb2, zb3, zb4, zb5, zb6, zb7, zb8, zb9, zb10] at hq); exact rFld rfl (evg rfl hb)) ?_
  refine stg rfl rfl rfl rfl rfl (fun hb => by (have hq := hb; try simp only [zb1, zb2, zb3, zb4, zb5, zb6, zb7, zb8, zb9, zb10] at hq); exact rLdF rfl (evg rfl hb) rfl) ?_
  refine stg rfl rfl rfl rfl rfl (fun hb => by (have hq := hb; try simp only [zb1, zb2, zb3, zb4, zb5, zb6, zb7, zb8, zb9, zb10] at hq); exact rLss rfl (evg rfl hb) (evg rfl hb)) ?_
  refine st rfl rfl rfl rfl (rAndB rfl rfl rfl rfl) ?_
  refine pu rfl rfl rfl rfl rfl ?_
  exact tr_ret ⟨trivial, _, _, rfl, ⟨rfl, rfl⟩, CSub.nil _, trivial⟩

theorem poly_trim_ent : Enters Try.prog 48 := enters_of Try.func48 (by kernel_rfl) (by kernel_rfl)
theorem poly_trim (A : Option Addr) (n c : Nat) (l : List Int) (hn : n = l.length) (hc : n ≤ c) (hl9 : l.length ≤ 17592186044415) :
    Pure Try.prog 48 #[.slice A n c] [ro A (ints l)] (isV (.slice A (trimL l).length c)) := by
  refine pure_of (args := [.slice A n c]) 21 Try.func48 rfl rfl rfl poly_trim_ent ⟨id, trivial⟩ (fun w0 => ?_)
  refine tr_seq ?_
  refine tr_region fun _ _ _ => ?_
  refine pu rfl rfl rfl rfl rfl ?_
  refine tr_seq ?_
  refine tr_block ?_
  refine tr_loop1 (fun (k : Nat) => [(0, .slice A k c)]) (fun (k : Nat) => [ro A (ints l)]) (fun (k : Nat) => k ≤ l.length ∧ trimL (l.take k) = trimL l) (fun (k : Nat) => k) (n) ⟨rfl, trivial⟩ (by first | exact cs _ _ | exact CSub.refl _) (⟨by omega, by rw [List.take_of_length_le (by omega)]⟩) (fun k hI => ?_)
  obtain ⟨hk0, hk1⟩ := hI
  refine tr_seq ?_
  refine tr_seq ?_
  refine tr_region fun _ _ _ => ?_
  refine pu rfl rfl rfl rfl rfl ?_
  refine st rfl rfl rfl rfl (rLen rfl rfl) ?_
  iterate 2 refine pu rfl rfl rfl rfl rfl ?_
  refine stg rfl rfl rfl rfl rfl (fun hb => by (have hq := hb; try simp only [zb1, zb2, zb3, zb4, zb5, zb6, zb7, zb8, zb9, zb10] at hq); exact rMove rfl rfl) ?_
  refine stg rfl rfl rfl rfl rfl (fun hb => by (have hq := hb; try simp only [zb1, zb2, zb3, zb4, zb5, zb6, zb7, zb8, zb9, zb10] at hq); exact rMove rfl rfl) ?_
  refine stg rfl rfl rfl rfl rfl (fun hb => by (have hq := hb; try simp only [zb1, zb2, zb3, zb4, zb5, zb6, zb7, zb8, zb9, zb10] at hq); exact rLen rfl (evg rfl hb)) ?_
  refine stg rfl rfl rfl rfl rfl (fun hb => by (have hq := hb; try simp only [zb1, zb2, zb3, zb4, zb5, zb6, zb7, zb8, zb9, zb10] at hq); exact rSub rfl (evg rfl hb) rfl (by omega) (by omega)) ?_
  refine stg rfl rfl rfl rfl rfl (fun hb => by (have hq := hb; try simp only [zb1, zb2, zb3, zb4, zb5, zb6, zb7, zb8, zb9, zb10] at hq); exact rIdxI rfl (evg rfl hb) (evg rfl hb) (by omega) (by omega) (by omega)) ?_
  refine stg rfl rfl rfl rfl rfl (fun hb => by (have hq := hb; try simp only [zb1, zb2, zb3, zb4, zb5, zb6, zb7, zb8, zb9, zb10] at hq); exact rLdI rfl (evg rfl hb) (by omega)) ?_
  refine stg rfl rfl rfl rfl rfl (fun hb => by (have hq := hb; try simp only [zb1, zb2, zb3, zb4, zb5, zb6, zb7, zb8, zb9, zb10] at hq); exact rEql rfl (evg rfl hb) rfl) ?_
  refine st rfl rfl rfl rfl (rAndB rfl rfl rfl rfl) ?_
  refine tr_cond_bool rfl (fun h1 => ?_) (fun h1 => ?_)
  · try simp only [zb1, zb2, zb3, zb4, zb5, zb6, zb7, zb8, zb9, zb10] at h1
    refine tr_skip ?_
    refine tr_block ?_
    refine tr_region fun _ _ _ => ?_
    iterate 2 refine pu rfl rfl rfl rfl rfl ?_
    refine st rfl rfl rfl rfl (rLen rfl rfl) ?_
    refine st rfl rfl rfl rfl (rSub rfl rfl rfl (by omega) (by omega)) ?_
    refine st rfl rfl rfl rfl (rCutHi rfl rfl rfl (by omega) (by omega)) ?_
    refine pu rfl rfl rfl rfl rfl ?_
    refine ⟨((k : Int) - 1).toNat, ⟨rfl, trivial⟩, by first | exact cs _ _ | exact CSub.refl _, ?_⟩
    have hkk : ((k : Int) - 1).toNat = k - 1 := by omega
    rw [hkk] at h1 ⊢
    exact ⟨⟨by omega, trim_step (by omega) hk0 hk1 h1.2⟩, by omega⟩
  · try simp only [zb1, zb2, zb3, zb4, zb5, zb6, zb7, zb8, zb9, zb10] at h1
    refine tr_exit ?_
    refine tr_seq ?_
    refine tr_region fun _ _ _ => ?_
    iterate 2 refine pu rfl rfl rfl rfl rfl ?_
    have hd := trim_done hk0 hk1 (by
      rcases h1 with h1 | h1
      · exact .inl (by omega)
      · rw [show ((k : Int) - 1).toNat = k - 1 by omega] at h1
        exact .inr h1)
    exact tr_ret ⟨trivial, _, _, rfl, ⟨by rw [hd], rfl⟩, CSub.nil _, trivial⟩

theorem poly_Canon_ent : Enters Try.prog 33 := enters_of Try.func33 (by kernel_rfl) (by kernel_rfl)
theorem poly_Canon (g : GfM) (A : Option Addr) (n c : Nat) (l : List Int) (hn : n = l.length) (hl9 : l.length ≤ 17592186044415) :
    Pure Try.prog 33 #[.pointer (some g.p), .slice A n c] [gfR g, ro A (ints l)] (one (fun v ch => ∃ B cap, v = .slice B (canL g.q l).length cap ∧ ch = ow B 3 cap (ints (canL g.q l)))) := by
  have hnn : ((n : Int)).toNat = n := by omega
  refine pure_of (args := [.pointer (some g.p), .slice A n c]) 28 Try.func33 rfl rfl rfl poly_Canon_ent ⟨id, id, trivial⟩ (fun w0 => ?_)
  refine tr_seq ?_
  refine tr_region fun _ _ _ => ?_
  refine pu rfl rfl rfl rfl rfl ?_
  refine tr_seq ?_
  refine tr_region fun _ _ _ => ?_
  refine pu rfl rfl rfl rfl rfl ?_
  refine st rfl rfl rfl rfl (rLen rfl rfl) ?_
  refine ef rfl rfl (eMakeI rfl rfl rfl rfl rfl (by omega) (by omega) (by omega) (fun A1 => ?_)) 
  refine pu rfl rfl rfl rfl rfl ?_
  refine tr_seq ?_
  refine tr_seq ?_
  refine tr_region fun _ _ _ => ?_
  rw [hnn]
  refine pu rfl rfl rfl rfl rfl ?_
  refine st rfl rfl rfl rfl (rLen rfl rfl) ?_
  refine pu rfl rfl rfl rfl rfl ?_
  refine tr_block ?_
  refine tr_loop2 (fun (k : Int) (o : List Int) => [(0, .pointer (some g.p)), (5, .slice A1 n n), (11, .slice A n c), (12, .int .i64 n), (13, .int .i64 k)]) (fun (k : Int) (o : List Int) => [ow A1 3 n (ints o), gfR g, ro A (ints l)]) (fun (k : Int) (o : List Int) => 0 ≤ k ∧ k ≤ n ∧ o.length = n ∧ (∀ j : Nat, (j : Int) < k → o.getD j 0 = inI g.q (l.getD j 0)) ∧ ∀ j : Nat, k ≤ j → o.getD j 0 = 0) (fun (k : Int) (o : List Int) => (n - k).toNat) (0) (List.replicate n 0) ⟨rfl, rfl, rfl, rfl, rfl, trivial⟩ (by first | exact cs _ _ | exact CSub.refl _) (⟨by omega, by omega, by simp, fun j hj => by omega, fun j _ => by rw [List.getD_eq_getElem?_getD, List.getElem?_replicate]; split <;> rfl⟩) (fun k o hI => ?_)
  obtain ⟨hk0, hk1, hol, hdone, htodo⟩ := hI
  refine tr_seq ?_
  refine tr_region fun _ _ _ => ?_
  refine pu rfl rfl rfl rfl rfl ?_
  refine tr_seq ?_
  refine tr_cond_bool rfl (fun h3 => ?_) (fun h3 => ?_)
  · try simp only [zb1, zb2, zb3, zb4, zb5, zb6, zb7, zb8, zb9, zb10] at h3
    refine tr_skip ?_
    refine tr_seq ?_
    refine tr_block ?_
    refine tr_seq ?_
    refine tr_region fun _ _ _ => ?_
    refine pu rfl rfl rfl rfl rfl ?_
    refine st rfl rfl rfl rfl (rIdxI rfl rfl rfl (by omega) (by omega) (by omega)) ?_
    refine st rfl rfl rfl rfl (rLdI rfl rfl (by omega)) ?_
    iterate 2 refine pu rfl rfl rfl rfl rfl ?_
    refine tr_seq ?_
    refine tr_region fun _ _ _ => ?_
    iterate 2 refine pu rfl rfl rfl rfl rfl ?_
    refine ef rfl rfl (eCallV rfl rfl rfl (gf_Is _ _) ⟨rfl, rfl, trivial⟩ ?_) 
    refine tr_cond_bool rfl (fun h5 => ?_) (fun h5 => ?_)
    · try simp only [zb1, zb2, zb3, zb4, zb5, zb6, zb7, zb8, zb9, zb10] at h5
      refine tr_region fun _ _ _ => ?_
      iterate 3 refine pu rfl rfl rfl rfl rfl ?_
      refine st rfl rfl rfl rfl (rIdxI rfl rfl rfl (by omega) (by omega) (by omega)) ?_
      refine ef rfl rfl (eStI rfl rfl rfl rfl (by omega) ?_) 
      refine tr_region fun _ _ _ => ?_
      refine st rfl rfl rfl rfl (rAdd rfl rfl rfl (by omega) (by omega)) ?_
      refine pu rfl rfl rfl rfl rfl ?_
      refine ⟨k + 1, o.set k.toNat (l.getD k.toNat 0), ⟨rfl, rfl, rfl, rfl, rfl, trivial⟩, by first | exact cs _ _ | exact CSub.refl _, ?_⟩
      refine ⟨⟨by omega, by omega, by simpa using hol, fun j hj => ?_, fun j hj => by rw [getD_set, if_neg (by omega)]; exact htodo j (by omega)⟩, by omega⟩
      rw [getD_set]
      by_cases hjk : k.toNat = j
      · subst hjk; rw [if_pos ⟨rfl, by omega⟩, inI_in (by omega) (by omega)]
      · rw [if_neg (by omega)]; exact hdone j (by omega)
    · try simp only [zb1, zb2, zb3, zb4, zb5, zb6, zb7, zb8, zb9, zb10] at h5
      refine tr_skip ?_
      refine tr_region fun _ _ _ => ?_
      refine st rfl rfl rfl rfl (rAdd rfl rfl rfl (by omega) (by omega)) ?_
      refine pu rfl rfl rfl rfl rfl ?_
      refine ⟨k + 1, o, ⟨rfl, rfl, rfl, rfl, rfl, trivial⟩, by first | exact cs _ _ | exact CSub.refl _, ?_⟩
      refine ⟨⟨by omega, by omega, hol, fun j hj => ?_, fun j hj => htodo j (by omega)⟩, by omega⟩
      by_cases hjk : (j : Int) = k
      · have hj2 : j = k.toNat := by omega
        rw [htodo j (by omega), hj2, inI, if_neg (by omega)]
      · exact hdone j (by omega)
  · try simp only [zb1, zb2, zb3, zb4, zb5, zb6, zb7, zb8, zb9, zb10] at h3
    refine tr_exit ?_
    refine tr_seq ?_
    have hkn : k = n := by omega
    have ho : o = l.map (inI g.q) := by
      apply List.ext_getElem (by simp; omega)
      intro i h1 h2
      have h3 := hdone i (by omega)
      rw [List.getD_eq_getElem?_getD, List.getElem?_eq_getElem h1, List.getD_eq_getElem?_getD, List.getElem?_eq_getElem (show i < l.length by omega)] at h3
      simpa using h3
    refine tr_region fun _ _ _ => ?_
    refine pu rfl rfl rfl rfl rfl ?_
    refine ef rfl rfl (eCallV rfl rfl rfl (poly_trim _ _ _ o (by omega) (by omega) (by omega)) ⟨rfl, trivial⟩ ?_) 
    refine pu rfl rfl rfl rfl rfl ?_
    have hsp := trimL_split o
    have hco : canL g.q l = trimL o := by rw [ho]; rfl
    refine tr_ret ⟨trivial, _, _, rfl, ⟨_, rfl, A1, n, by rw [hco], rfl⟩, ?_, trivial, trivial⟩
    rw [hco]
    have hsh := ow_shrink (e := 3) (A := A1) (cap := n) (vs := ints (trimL o)) (ws := ints (o.drop (trimL o).length)) [gfR g, ro A (ints l)]
    rw [← ints_append, ← hsp] at hsh
    exact hsh.trans (cs _ _)

theorem ref_Is_ent : Enters Try.prog 61 := enters_of Try.func61 (by kernel_rfl) (by kernel_rfl)
theorem ref_Is (p m : Int) (A : Option Addr) (c : Nat) (mod : List Int) (x : Int) :
    Pure Try.prog 61 #[.agg #[.int .i64 p, .int .i64 m, .slice A mod.length c], .int .i64 x] [ro A (ints mod)] (isV (.bool (decide (x ≥ 0) && decide (x < ordI p m)))) := by
  refine pure_of (args := [.agg #[.int .i64 p, .int .i64 m, .slice A mod.length c], .int .i64 x]) 13 Try.func61 rfl rfl rfl ref_Is_ent ⟨id, trivial⟩ (fun w0 => ?_)
  refine tr_seq ?_
  refine tr_region fun _ _ _ => ?_
  refine ef rfl rfl (eBox rfl rfl rfl rfl rfl (fun p0 => ?_)) 
  refine pu rfl rfl rfl rfl rfl ?_
  refine tr_seq ?_
  refine tr_region fun _ _ _ => ?_
  iterate 3 refine pu rfl rfl rfl rfl rfl ?_
  refine stg rfl rfl rfl rfl rfl (fun hb => by (have hq := hb; try simp only [zb1, zb2, zb3, zb4, zb5, zb6, zb7, zb8, zb9, zb10] at hq); exact rMove rfl rfl) ?_
  refine stg rfl rfl rfl rfl rfl (fun hb => by (have hq := hb; try simp only [zb1, zb2, zb3, zb4, zb5, zb6, zb7, zb8, zb9, zb10] at hq); exact rLdS rfl rfl rfl) ?_
  refine efg rfl rfl rfl rfl rfl (fun hb => by (have hq := hb; try simp only [zb1, zb2, zb3, zb4, zb5, zb6, zb7, zb8, zb9, zb10] at hq); exact eCallV rfl rfl rfl (ref_order _ _ _ _ _) ⟨(evg rfl hb), trivial⟩ ⟨rfl, rfl⟩) ?_
  refine stg rfl rfl rfl rfl rfl (fun hb => by (have hq := hb; try simp only [zb1, zb2, zb3, zb4, zb5, zb6, zb7, zb8, zb9, zb10] at hq); exact rLss rfl (evg rfl hb) (evg rfl hb)) ?_
  refine st rfl rfl rfl rfl (rAndB rfl rfl rfl rfl) ?_
  refine pu rfl rfl rfl rfl rfl ?_
  exact tr_ret ⟨trivial, _, _, rfl, ⟨rfl, rfl⟩, CSub.nil _, trivial⟩

theorem ref_In_ent : Enters Try.prog 49 := enters_of Try.func49 (by kernel_rfl) (by kernel_rfl)
theorem ref_In (p m : Int) (A : Option Addr) (c : Nat) (mod : List Int) (x : Int) :
    Pure Try.prog 49 #[.agg #[.int .i64 p, .int .i64 m, .slice A mod.length c], .int .i64 x] [ro A (ints mod)] (isV (.int .i64 (inI (ordI p m) x))) := by
  refine pure_of (args := [.agg #[.int .i64 p, .int .i64 m, .slice A mod.length c], .int .i64 x]) 9 Try.func49 rfl rfl rfl ref_In_ent ⟨id, trivial⟩ (fun w0 => ?_)
  refine tr_seq ?_
  refine tr_region fun _ _ _ => ?_
  refine ef rfl rfl (eBox rfl rfl rfl rfl rfl (fun p0 => ?_)) 
  refine pu rfl rfl rfl rfl rfl ?_
  refine tr_seq ?_
  refine tr_seq ?_
  refine tr_region fun _ _ _ => ?_
  refine st rfl rfl rfl rfl (rLdS rfl rfl rfl) ?_
  refine pu rfl rfl rfl rfl rfl ?_
  refine ef rfl rfl (eCallV rfl rfl rfl (ref_Is _ _ _ _ _ _) ⟨rfl, rfl, trivial⟩ ?_) 
  refine tr_cond_bool rfl (fun h1 => ?_) (fun h1 => ?_)
  · try simp only [zb1, zb2, zb3, zb4, zb5, zb6, zb7, zb8, zb9, zb10] at h1
    refine tr_seq ?_
    refine tr_region fun _ _ _ => ?_
    iterate 2 refine pu rfl rfl rfl rfl rfl ?_
    exact tr_ret ⟨trivial, _, _, rfl, ⟨by rw [inI, if_pos ⟨by omega, by omega⟩], rfl⟩, CSub.nil _, trivial⟩
  · try simp only [zb1, zb2, zb3, zb4, zb5, zb6, zb7, zb8, zb9, zb10] at h1
    refine tr_skip ?_
    refine tr_seq ?_
    refine tr_region fun _ _ _ => ?_
    refine pu rfl rfl rfl rfl rfl ?_
    exact tr_ret ⟨trivial, _, _, rfl, ⟨by rw [inI, if_neg (by omega)], rfl⟩, CSub.nil _, trivial⟩

theorem ref_Canon_ent : Enters Try.prog 34 := enters_of Try.func34 (by kernel_rfl) (by kernel_rfl)
theorem ref_Canon (p m : Int) (A : Option Addr) (c : Nat) (mod : List Int) (B : Option Addr) (n cB : Nat) (l : List Int) (hn : n = l.length) (hl9 : l.length ≤ 17592186044415) :
    Pure Try.prog 34 #[.agg #[.int .i64 p, .int .i64 m, .slice A mod.length c], .slice B n cB] [ro A (ints mod), ro B (ints l)] (one (fun v ch => ∃ B cap, v = .slice B (canL (ordI p m) l).length cap ∧ ch = ow B 3 cap (ints (canL (ordI p m) l)))) := by
  have hlm : (l.map (inI (ordI p m))).length = l.length := by simp
  have hget : ∀ k : Nat, k < l.length → (l.map (inI (ordI p m))).getD k 0 = inI (ordI p m) (l.getD k 0) := fun k hk => by
    simp [List.getD_eq_getElem?_getD, List.getElem?_eq_getElem hk]
  generalize hlmd : l.map (inI (ordI p m)) = lm at hlm hget
  refine pure_of (args := [.agg #[.int .i64 p, .int .i64 m, .slice A mod.length c], .slice B n cB]) 41 Try.func34 rfl rfl rfl ref_Canon_ent ⟨id, id, trivial⟩ (fun w0 => ?_)
  refine tr_seq ?_
  refine tr_region fun _ _ _ => ?_
  refine ef rfl rfl (eBox rfl rfl rfl rfl rfl (fun p0 => ?_)) 
  refine pu rfl rfl rfl rfl rfl ?_
  refine tr_seq ?_
  refine tr_region fun _ _ _ => ?_
  refine pu rfl rfl rfl rfl rfl ?_
  refine tr_seq ?_
  refine tr_seq ?_
  refine tr_region fun _ _ _ => ?_
  refine pu rfl rfl rfl rfl rfl ?_
  refine tr_block ?_
  refine tr_loop2 (fun (k : Int) (e : Int) => [(1, .slice B n cB), (2, .pointer (some p0)), (5, .int .i64 e), (6, .int .i64 k)]) (fun (k : Int) (e : Int) => [blk p0 36 [.int .i64 p, .int .i64 m, .slice A mod.length c], ro A (ints mod), ro B (ints l)]) (fun (k : Int) (e : Int) => (0 ≤ k ∧ k ≤ n) ∧ (0 ≤ e ∧ e ≤ k) ∧ trimL (lm.take k.toNat) = lm.take e.toNat) (fun (k : Int) (e : Int) => (n - k).toNat) (0) (0) ⟨rfl, rfl, rfl, rfl, trivial⟩ (by first | exact cs _ _ | exact CSub.refl _) (⟨⟨by omega, by omega⟩, ⟨by omega, by omega⟩, by simp [trimL]⟩) (fun k e hI => ?_)
  obtain ⟨⟨hk0, hk1⟩, ⟨he0, he1⟩, htr⟩ := hI
  refine tr_seq ?_
  refine tr_seq ?_
  refine tr_region fun _ _ _ => ?_
  iterate 2 refine pu rfl rfl rfl rfl rfl ?_
  refine st rfl rfl rfl rfl (rLen rfl rfl) ?_
  refine pu rfl rfl rfl rfl rfl ?_
  refine tr_cond_bool rfl (fun h3 => ?_) (fun h3 => ?_)
  · try simp only [zb1, zb2, zb3, zb4, zb5, zb6, zb7, zb8, zb9, zb10] at h3
    refine tr_skip ?_
    refine tr_seq ?_
    refine tr_block ?_
    refine tr_seq ?_
    refine tr_draw [0, 1, 2, 3, 4, 5, 6] [] mixed (by kernel_rfl) fun _ _ _ => ?_
    refine st rfl rfl rfl rfl (rLdS rfl rfl rfl) ?_
    iterate 2 refine pu rfl rfl rfl rfl rfl ?_
    refine st rfl rfl rfl rfl (rIdxI rfl rfl rfl (by omega) (by omega) (by omega)) ?_
    refine st rfl rfl rfl rfl (rLdI rfl rfl (by omega)) ?_
    refine ef rfl rfl (eCallV rfl rfl rfl (ref_In _ _ _ _ _ _) ⟨rfl, rfl, trivial⟩ ?_) 
    refine pu rfl rfl rfl rfl rfl ?_
    refine tr_cond_bool rfl (fun h5 => ?_) (fun h5 => ?_)
    · try simp only [zb1, zb2, zb3, zb4, zb5, zb6, zb7, zb8, zb9, zb10] at h5
      refine tr_region fun _ _ _ => ?_
      refine pu rfl rfl rfl rfl rfl ?_
      refine st rfl rfl rfl rfl (rAdd rfl rfl rfl (by omega) (by omega)) ?_
      refine pu rfl rfl rfl rfl rfl ?_
      refine tr_region fun _ _ _ => ?_
      refine pu rfl rfl rfl rfl rfl ?_
      refine st rfl rfl rfl rfl (rAdd rfl rfl rfl (by omega) (by omega)) ?_
      refine pu rfl rfl rfl rfl rfl ?_
      refine ⟨k + 1, k + 1, ⟨rfl, rfl, rfl, rfl, trivial⟩, by first | exact cs _ _ | exact CSub.refl _, ?_⟩
      refine ⟨⟨⟨by omega, by omega⟩, ⟨by omega, by omega⟩, ?_⟩, by omega⟩
      rw [take_next 0 lm k hk0 (by omega), hget _ (by omega), trimL_snoc h5]
    · try simp only [zb1, zb2, zb3, zb4, zb5, zb6, zb7, zb8, zb9, zb10] at h5
      refine tr_skip ?_
      refine tr_region fun _ _ _ => ?_
      refine pu rfl rfl rfl rfl rfl ?_
      refine st rfl rfl rfl rfl (rAdd rfl rfl rfl (by omega) (by omega)) ?_
      refine pu rfl rfl rfl rfl rfl ?_
      refine ⟨k + 1, e, ⟨rfl, rfl, rfl, rfl, trivial⟩, by first | exact cs _ _ | exact CSub.refl _, ?_⟩
      refine ⟨⟨⟨by omega, by omega⟩, ⟨by omega, by omega⟩, ?_⟩, by omega⟩
      rw [take_next 0 lm k hk0 (by omega), hget _ (by omega), h5, trimL_snoc0, htr]
  · try simp only [zb1, zb2, zb3, zb4, zb5, zb6, zb7, zb8, zb9, zb10] at h3
    refine tr_exit ?_
    refine tr_seq ?_
    have hkn : k.toNat = lm.length := by omega
    rw [hkn, List.take_length] at htr
    have htl : (trimL lm).length = e.toNat := by rw [htr, List.length_take]; omega
    refine tr_region fun _ _ _ => ?_
    refine pu rfl rfl rfl rfl rfl ?_
    refine ef rfl rfl (eMakeI rfl rfl rfl rfl rfl (by omega) (by omega) (by omega) (fun A7 => ?_)) 
    refine pu rfl rfl rfl rfl rfl ?_
    refine tr_seq ?_
    refine tr_seq ?_
    refine tr_region fun _ _ _ => ?_
    refine pu rfl rfl rfl rfl rfl ?_
    refine tr_block ?_
    refine tr_loop2 (fun (j : Int) (o : List Int) => [(1, .slice B n cB), (2, .pointer (some p0)), (5, .int .i64 e), (7, .slice A7 e.toNat e.toNat), (8, .int .i64 j)]) (fun (j : Int) (o : List Int) => [ow A7 3 e.toNat (ints o), blk p0 36 [.int .i64 p, .int .i64 m, .slice A mod.length c], ro A (ints mod), ro B (ints l)]) (fun (j : Int) (o : List Int) => (0 ≤ j ∧ j ≤ e) ∧ o.length = e.toNat ∧ ∀ i : Nat, (i : Int) < j → o.getD i 0 = lm.getD i 0) (fun (j : Int) (o : List Int) => (e - j).toNat) (0) (List.replicate e.toNat 0) ⟨rfl, rfl, rfl, rfl, rfl, trivial⟩ (by first | exact cs _ _ | exact CSub.refl _) (⟨⟨by omega, by omega⟩, by simp, fun i hi => by omega⟩) (fun j o hI => ?_)
    obtain ⟨⟨hj0, hj1⟩, hol, ho⟩ := hI
    refine tr_seq ?_
    refine tr_seq ?_
    refine tr_region fun _ _ _ => ?_
    iterate 3 refine pu rfl rfl rfl rfl rfl ?_
    refine tr_cond_bool rfl (fun h9 => ?_) (fun h9 => ?_)
    · try simp only [zb1, zb2, zb3, zb4, zb5, zb6, zb7, zb8, zb9, zb10] at h9
      refine tr_skip ?_
      refine tr_seq ?_
      refine tr_block ?_
      refine tr_draw [0, 1, 2, 3, 4, 5, 6, 7, 8] [9] mixed (by kernel_rfl) fun _ _ _ => ?_
      iterate 2 refine pu rfl rfl rfl rfl rfl ?_
      refine st rfl rfl rfl rfl (rLdS rfl rfl rfl) ?_
      iterate 2 refine pu rfl rfl rfl rfl rfl ?_
      refine st rfl rfl rfl rfl (rIdxI rfl rfl rfl (by omega) (by omega) (by omega)) ?_
      refine st rfl rfl rfl rfl (rLdI rfl rfl (by omega)) ?_
      refine ef rfl rfl (eCallV rfl rfl rfl (ref_In _ _ _ _ _ _) ⟨rfl, rfl, trivial⟩ ?_) 
      refine st rfl rfl rfl rfl (rIdxI rfl rfl rfl (by omega) (by omega) (by omega)) ?_
      refine ef rfl rfl (eStI rfl rfl rfl rfl (by omega) ?_) 
      refine tr_region fun _ _ _ => ?_
      refine pu rfl rfl rfl rfl rfl ?_
      refine st rfl rfl rfl rfl (rAdd rfl rfl rfl (by omega) (by omega)) ?_
      refine pu rfl rfl rfl rfl rfl ?_
      refine ⟨j + 1, o.set j.toNat (inI (ordI p m) (l.getD j.toNat 0)), ⟨rfl, rfl, rfl, rfl, rfl, trivial⟩, by first | exact cs _ _ | exact CSub.refl _, ?_⟩
      refine ⟨⟨⟨by omega, by omega⟩, by simpa using hol, fun i hi => ?_⟩, by omega⟩
      rw [getD_set]
      by_cases hij : j.toNat = i
      · subst hij; rw [if_pos ⟨rfl, by omega⟩, hget _ (by omega)]
      · rw [if_neg (by omega)]; exact ho i (by omega)
    · try simp only [zb1, zb2, zb3, zb4, zb5, zb6, zb7, zb8, zb9, zb10] at h9
      refine tr_exit ?_
      refine tr_seq ?_
      refine tr_region fun _ _ _ => ?_
      iterate 2 refine pu rfl rfl rfl rfl rfl ?_
      have hje : j = e := by omega
      have hoe : o = canL (ordI p m) l := by
        unfold canL
        rw [hlmd, htr]
        apply List.ext_getElem (by rw [List.length_take]; omega)
        intro i h1 h2
        have h3 := ho i (by omega)
        rw [List.getD_eq_getElem?_getD, List.getElem?_eq_getElem h1, List.getD_eq_getElem?_getD, List.getElem?_eq_getElem (by omega)] at h3
        simpa using h3
      rw [← hol, hoe]
      exact tr_ret ⟨trivial, _, _, rfl, ⟨_, rfl, A7, _, rfl, rfl⟩, cs _ _, trivial, trivial⟩

theorem fac_Compare_ent : Enters Try.prog 16 := enters_of Try.func16 (by kernel_rfl) (by kernel_rfl)
theorem fac_Compare (g : GfM) (Aa : Option Addr) (na ca : Nat) (a : List Int) (ha : na = a.length) (ha9 : a.length ≤ 17592186044415) (Ab : Option Addr) (nb cb : Nat) (b : List Int) (hb : nb = b.length) (hb9 : b.length ≤ 17592186044415) :
    Pure Try.prog 16 #[.pointer (some g.p), .slice Aa na ca, .slice Ab nb cb] [gfR g, ro Aa (ints a), ro Ab (ints b)] (isV (.int .i64 (cmpL (canL g.q a) (canL g.q b)))) := by
  have hla := canL_length g.q a
  have hlb := canL_length g.q b
  refine pure_of (args := [.pointer (some g.p), .slice Aa na ca, .slice Ab nb cb]) 53 Try.func16 rfl rfl rfl fac_Compare_ent ⟨id, id, id, trivial⟩ (fun w0 => ?_)
  refine tr_seq ?_
  refine tr_region fun _ _ _ => ?_
  refine pu rfl rfl rfl rfl rfl ?_
  refine tr_seq ?_
  refine tr_region fun _ _ _ => ?_
  iterate 2 refine pu rfl rfl rfl rfl rfl ?_
  refine ef rfl rfl (eCall1 rfl rfl rfl (poly_Canon g _ _ _ a (by omega) (by omega)) ⟨rfl, rfl, trivial⟩ ?_) 
  rintro _ _ ⟨B1, c1, rfl, rfl⟩
  iterate 2 refine pu rfl rfl rfl rfl rfl ?_
  refine ef rfl rfl (eCall1 rfl rfl rfl (poly_Canon g _ _ _ b (by omega) (by omega)) ⟨rfl, rfl, trivial⟩ ?_) 
  rintro _ _ ⟨B1a, c1a, rfl, rfl⟩
  iterate 2 refine pu rfl rfl rfl rfl rfl ?_
  refine tr_seq ?_
  refine tr_seq ?_
  refine tr_region fun _ _ _ => ?_
  refine pu rfl rfl rfl rfl rfl ?_
  refine st rfl rfl rfl rfl (rLen rfl rfl) ?_
  refine pu rfl rfl rfl rfl rfl ?_
  refine st rfl rfl rfl rfl (rLen rfl rfl) ?_
  refine pu rfl rfl rfl rfl rfl ?_
  refine tr_cond_bool rfl (fun h2 => ?_) (fun h2 => ?_)
  · try simp only [zb1, zb2, zb3, zb4, zb5, zb6, zb7, zb8, zb9, zb10] at h2
    refine tr_seq ?_
    refine tr_seq ?_
    refine tr_region fun _ _ _ => ?_
    refine pu rfl rfl rfl rfl rfl ?_
    refine st rfl rfl rfl rfl (rLen rfl rfl) ?_
    refine pu rfl rfl rfl rfl rfl ?_
    refine st rfl rfl rfl rfl (rLen rfl rfl) ?_
    refine pu rfl rfl rfl rfl rfl ?_
    refine tr_cond_bool rfl (fun h3 => ?_) (fun h3 => ?_)
    · try simp only [zb1, zb2, zb3, zb4, zb5, zb6, zb7, zb8, zb9, zb10] at h3
      refine tr_seq ?_
      refine tr_region fun _ _ _ => ?_
      refine pu rfl rfl rfl rfl rfl ?_
      exact tr_ret ⟨trivial, _, _, rfl, ⟨by rw [cmpL, if_pos (by omega)], rfl⟩, CSub.nil _, trivial⟩
    · try simp only [zb1, zb2, zb3, zb4, zb5, zb6, zb7, zb8, zb9, zb10] at h3
      refine tr_skip ?_
      refine tr_seq ?_
      refine tr_region fun _ _ _ => ?_
      refine pu rfl rfl rfl rfl rfl ?_
      exact tr_ret ⟨trivial, _, _, rfl, ⟨by rw [cmpL, if_neg (by omega), if_pos (by omega)], rfl⟩, CSub.nil _, trivial⟩
  · try simp only [zb1, zb2, zb3, zb4, zb5, zb6, zb7, zb8, zb9, zb10] at h2
    refine tr_skip ?_
    refine tr_seq ?_
    refine tr_seq ?_
    refine tr_region fun _ _ _ => ?_
    refine pu rfl rfl rfl rfl rfl ?_
    refine st rfl rfl rfl rfl (rLen rfl rfl) ?_
    refine st rfl rfl rfl rfl (rSub rfl rfl rfl (by omega) (by omega)) ?_
    refine pu rfl rfl rfl rfl rfl ?_
    refine tr_block ?_
    refine tr_loop1 (fun (i : Int) => [(7, .slice B1 (canL g.q a).length c1), (8, .slice B1a (canL g.q b).length c1a), (9, .int .i64 i)]) (fun (i : Int) => [ow B1a 3 c1a (ints (canL g.q b)), ow B1 3 c1 (ints (canL g.q a))]) (fun (i : Int) => (-1 ≤ i ∧ i < (canL g.q a).length) ∧ cmpN (canL g.q a) (canL g.q b) (i + 1).toNat = cmpL (canL g.q a) (canL g.q b)) (fun (i : Int) => (i + 1).toNat) (((canL g.q a).length : Int) - 1) ⟨rfl, rfl, rfl, trivial⟩ (by first | exact cs _ _ | exact CSub.refl _) (⟨⟨by omega, by omega⟩, by rw [cmpL, if_neg (by omega), if_neg (by omega)]; congr 1; omega⟩) (fun i hI => ?_)
    obtain ⟨⟨hi0, hi1⟩, hi2⟩ := hI
    have hst : 0 ≤ i → (i + 1).toNat = i.toNat + 1 := fun h => by omega
    refine tr_seq ?_
    refine tr_seq ?_
    refine tr_region fun _ _ _ => ?_
    iterate 2 refine pu rfl rfl rfl rfl rfl ?_
    refine tr_cond_bool rfl (fun h7 => ?_) (fun h7 => ?_)
    · try simp only [zb1, zb2, zb3, zb4, zb5, zb6, zb7, zb8, zb9, zb10] at h7
      refine tr_skip ?_
      refine tr_seq ?_
      refine tr_block ?_
      refine tr_block ?_
      refine tr_seq ?_
      refine tr_draw [0, 1, 2, 3, 4, 5, 6, 7, 8, 9] [] mixed (by kernel_rfl) fun _ _ _ => ?_
      iterate 2 refine pu rfl rfl rfl rfl rfl ?_
      refine st rfl rfl rfl rfl (rIdxI rfl rfl rfl (by omega) (by omega) (by omega)) ?_
      refine st rfl rfl rfl rfl (rLdI rfl rfl (by omega)) ?_
      iterate 2 refine pu rfl rfl rfl rfl rfl ?_
      refine st rfl rfl rfl rfl (rIdxI rfl rfl rfl (by omega) (by omega) (by omega)) ?_
      refine st rfl rfl rfl rfl (rLdI rfl rfl (by omega)) ?_
      iterate 2 refine pu rfl rfl rfl rfl rfl ?_
      refine tr_cond_bool rfl (fun h9 => ?_) (fun h9 => ?_)
      · try simp only [zb1, zb2, zb3, zb4, zb5, zb6, zb7, zb8, zb9, zb10] at h9
        refine tr_seq ?_
        refine tr_region fun _ _ _ => ?_
        refine pu rfl rfl rfl rfl rfl ?_
        rw [hst (by omega), cmpN, if_pos (by omega)] at hi2
        exact tr_ret ⟨trivial, _, _, rfl, ⟨by rw [← hi2], rfl⟩, CSub.nil _, trivial⟩
      · try simp only [zb1, zb2, zb3, zb4, zb5, zb6, zb7, zb8, zb9, zb10] at h9
        refine tr_seq ?_
        refine tr_draw [0, 1, 2, 3, 4, 5, 6, 7, 8, 9] [] mixed (by kernel_rfl) fun _ _ _ => ?_
        iterate 2 refine pu rfl rfl rfl rfl rfl ?_
        refine st rfl rfl rfl rfl (rIdxI rfl rfl rfl (by omega) (by omega) (by omega)) ?_
        refine st rfl rfl rfl rfl (rLdI rfl rfl (by omega)) ?_
        iterate 2 refine pu rfl rfl rfl rfl rfl ?_
        refine st rfl rfl rfl rfl (rIdxI rfl rfl rfl (by omega) (by omega) (by omega)) ?_
        refine st rfl rfl rfl rfl (rLdI rfl rfl (by omega)) ?_
        iterate 2 refine pu rfl rfl rfl rfl rfl ?_
        refine tr_cond_bool rfl (fun h11 => ?_) (fun h11 => ?_)
        · try simp only [zb1, zb2, zb3, zb4, zb5, zb6, zb7, zb8, zb9, zb10] at h11
          refine tr_seq ?_
          refine tr_region fun _ _ _ => ?_
          refine pu rfl rfl rfl rfl rfl ?_
          rw [hst (by omega), cmpN, if_neg (by omega), if_pos (by omega)] at hi2
          exact tr_ret ⟨trivial, _, _, rfl, ⟨by rw [← hi2], rfl⟩, CSub.nil _, trivial⟩
        · try simp only [zb1, zb2, zb3, zb4, zb5, zb6, zb7, zb8, zb9, zb10] at h11
          refine tr_skip ?_
          refine tr_region fun _ _ _ => ?_
          refine pu rfl rfl rfl rfl rfl ?_
          refine st rfl rfl rfl rfl (rSub rfl rfl rfl (by omega) (by omega)) ?_
          refine pu rfl rfl rfl rfl rfl ?_
          refine ⟨i - 1, ⟨rfl, rfl, rfl, trivial⟩, by first | exact cs _ _ | exact CSub.refl _, ?_⟩
          refine ⟨⟨⟨by omega, by omega⟩, ?_⟩, by omega⟩
          rw [hst (by omega), cmpN, if_neg (by omega), if_neg (by omega)] at hi2
          rw [show (i - 1 + 1).toNat = i.toNat by omega]
          exact hi2
    · try simp only [zb1, zb2, zb3, zb4, zb5, zb6, zb7, zb8, zb9, zb10] at h7
      refine tr_exit ?_
      refine tr_seq ?_
      refine tr_region fun _ _ _ => ?_
      refine pu rfl rfl rfl rfl rfl ?_
      have him : i = -1 := by omega
      subst him
      exact tr_ret ⟨trivial, _, _, rfl, ⟨by rw [← hi2]; rfl, rfl⟩, CSub.nil _, trivial⟩

theorem ref_Compare_ent : Enters Try.prog 17 := enters_of Try.func17 (by kernel_rfl) (by kernel_rfl)
theorem ref_Compare (p m : Int) (A : Option Addr) (c : Nat) (mod : List Int) (Aa : Option Addr) (na ca : Nat) (a : List Int) (ha : na = a.length) (ha9 : a.length ≤ 17592186044415) (Ab : Option Addr) (nb cb : Nat) (b : List Int) (hb : nb = b.length) (hb9 : b.length ≤ 17592186044415) :
    Pure Try.prog 17 #[.agg #[.int .i64 p, .int .i64 m, .slice A mod.length c], .slice Aa na ca, .slice Ab nb cb] [ro A (ints mod), ro Aa (ints a), ro Ab (ints b)] (isV (.int .i64 (cmpL (canL (ordI p m) a) (canL (ordI p m) b)))) := by
  have hla := canL_length (ordI p m) a
  have hlb := canL_length (ordI p m) b
  refine pure_of (args := [.agg #[.int .i64 p, .int .i64 m, .slice A mod.length c], .slice Aa na ca, .slice Ab nb cb]) 49 Try.func17 rfl rfl rfl ref_Compare_ent ⟨id, id, id, trivial⟩ (fun w0 => ?_)
  refine tr_seq ?_
  refine tr_region fun _ _ _ => ?_
  refine ef rfl rfl (eBox rfl rfl rfl rfl rfl (fun p0 => ?_)) 
  refine pu rfl rfl rfl rfl rfl ?_
  refine tr_seq ?_
  refine tr_region fun _ _ _ => ?_
  refine st rfl rfl rfl rfl (rLdS rfl rfl rfl) ?_
  refine pu rfl rfl rfl rfl rfl ?_
  refine ef rfl rfl (eCall1 rfl rfl rfl (ref_Canon _ _ _ _ _ _ _ _ a (by omega) (by omega)) ⟨rfl, rfl, trivial⟩ ?_) 
  rintro _ _ ⟨B1, c1, rfl, rfl⟩
  refine pu rfl rfl rfl rfl rfl ?_
  refine tr_seq ?_
  refine tr_region fun _ _ _ => ?_
  refine st rfl rfl rfl rfl (rLdS rfl rfl rfl) ?_
  refine pu rfl rfl rfl rfl rfl ?_
  refine ef rfl rfl (eCall1 rfl rfl rfl (ref_Canon _ _ _ _ _ _ _ _ b (by omega) (by omega)) ⟨rfl, rfl, trivial⟩ ?_) 
  rintro _ _ ⟨B2, c2, rfl, rfl⟩
  refine pu rfl rfl rfl rfl rfl ?_
  refine tr_seq ?_
  refine tr_seq ?_
  refine tr_region fun _ _ _ => ?_
  refine pu rfl rfl rfl rfl rfl ?_
  refine st rfl rfl rfl rfl (rLen rfl rfl) ?_
  refine pu rfl rfl rfl rfl rfl ?_
  refine st rfl rfl rfl rfl (rLen rfl rfl) ?_
  refine pu rfl rfl rfl rfl rfl ?_
  refine tr_cond_bool rfl (fun h3 => ?_) (fun h3 => ?_)
  · try simp only [zb1, zb2, zb3, zb4, zb5, zb6, zb7, zb8, zb9, zb10] at h3
    refine tr_seq ?_
    refine tr_region fun _ _ _ => ?_
    refine pu rfl rfl rfl rfl rfl ?_
    exact tr_ret ⟨trivial, _, _, rfl, ⟨by rw [cmpL, if_pos (by omega)], rfl⟩, CSub.nil _, trivial⟩
  · try simp only [zb1, zb2, zb3, zb4, zb5, zb6, zb7, zb8, zb9, zb10] at h3
    refine tr_skip ?_
    refine tr_seq ?_
    refine tr_seq ?_
    refine tr_region fun _ _ _ => ?_
    refine pu rfl rfl rfl rfl rfl ?_
    refine st rfl rfl rfl rfl (rLen rfl rfl) ?_
    refine pu rfl rfl rfl rfl rfl ?_
    refine st rfl rfl rfl rfl (rLen rfl rfl) ?_
    refine pu rfl rfl rfl rfl rfl ?_
    refine tr_cond_bool rfl (fun h5 => ?_) (fun h5 => ?_)
    · try simp only [zb1, zb2, zb3, zb4, zb5, zb6, zb7, zb8, zb9, zb10] at h5
      refine tr_seq ?_
      refine tr_region fun _ _ _ => ?_
      refine pu rfl rfl rfl rfl rfl ?_
      exact tr_ret ⟨trivial, _, _, rfl, ⟨by rw [cmpL, if_neg (by omega), if_pos (by omega)], rfl⟩, CSub.nil _, trivial⟩
    · try simp only [zb1, zb2, zb3, zb4, zb5, zb6, zb7, zb8, zb9, zb10] at h5
      refine tr_skip ?_
      refine tr_seq ?_
      refine tr_seq ?_
      refine tr_region fun _ _ _ => ?_
      refine pu rfl rfl rfl rfl rfl ?_
      refine st rfl rfl rfl rfl (rLen rfl rfl) ?_
      refine st rfl rfl rfl rfl (rSub rfl rfl rfl (by omega) (by omega)) ?_
      refine pu rfl rfl rfl rfl rfl ?_
      refine tr_block ?_
      refine tr_loop1 (fun (i : Int) => [(1, .slice B1 (canL (ordI p m) a).length c1), (2, .slice B2 (canL (ordI p m) b).length c2), (7, .int .i64 i)]) (fun (i : Int) => [ow B2 3 c2 (ints (canL (ordI p m) b)), ow B1 3 c1 (ints (canL (ordI p m) a))]) (fun (i : Int) => (-1 ≤ i ∧ i < (canL (ordI p m) a).length) ∧ cmpN (canL (ordI p m) a) (canL (ordI p m) b) (i + 1).toNat = cmpL (canL (ordI p m) a) (canL (ordI p m) b)) (fun (i : Int) => (i + 1).toNat) (((canL (ordI p m) a).length : Int) - 1) ⟨rfl, rfl, rfl, trivial⟩ (by first | exact cs _ _ | exact CSub.refl _) (⟨⟨by omega, by omega⟩, by rw [cmpL, if_neg (by omega), if_neg (by omega)]; congr 1; omega⟩) (fun i hI => ?_)
      obtain ⟨⟨hi0, hi1⟩, hi2⟩ := hI
      have hst : 0 ≤ i → (i + 1).toNat = i.toNat + 1 := fun h => by omega
      refine tr_seq ?_
      refine tr_seq ?_
      refine tr_region fun _ _ _ => ?_
      iterate 2 refine pu rfl rfl rfl rfl rfl ?_
      refine tr_cond_bool rfl (fun h8 => ?_) (fun h8 => ?_)
      · try simp only [zb1, zb2, zb3, zb4, zb5, zb6, zb7, zb8, zb9, zb10] at h8
        refine tr_skip ?_
        refine tr_seq ?_
        refine tr_block ?_
        refine tr_seq ?_
        refine tr_seq ?_
        refine tr_draw [0, 1, 2, 3, 4, 5, 6, 7, 8] [] mixed (by kernel_rfl) fun _ _ _ => ?_
        iterate 2 refine pu rfl rfl rfl rfl rfl ?_
        refine st rfl rfl rfl rfl (rIdxI rfl rfl rfl (by omega) (by omega) (by omega)) ?_
        refine st rfl rfl rfl rfl (rLdI rfl rfl (by omega)) ?_
        iterate 2 refine pu rfl rfl rfl rfl rfl ?_
        refine st rfl rfl rfl rfl (rIdxI rfl rfl rfl (by omega) (by omega) (by omega)) ?_
        refine st rfl rfl rfl rfl (rLdI rfl rfl (by omega)) ?_
        refine pu rfl rfl rfl rfl rfl ?_
        refine tr_cond_bool rfl (fun h10 => ?_) (fun h10 => ?_)
        · try simp only [zb1, zb2, zb3, zb4, zb5, zb6, zb7, zb8, zb9, zb10] at h10
          refine tr_seq ?_
          refine tr_region fun _ _ _ => ?_
          refine pu rfl rfl rfl rfl rfl ?_
          rw [hst (by omega), cmpN, if_pos (by omega)] at hi2
          exact tr_ret ⟨trivial, _, _, rfl, ⟨by rw [← hi2], rfl⟩, CSub.nil _, trivial⟩
        · try simp only [zb1, zb2, zb3, zb4, zb5, zb6, zb7, zb8, zb9, zb10] at h10
          refine tr_skip ?_
          refine tr_seq ?_
          refine tr_draw [0, 1, 2, 3, 4, 5, 6, 7, 8] [] mixed (by kernel_rfl) fun _ _ _ => ?_
          iterate 2 refine pu rfl rfl rfl rfl rfl ?_
          refine st rfl rfl rfl rfl (rIdxI rfl rfl rfl (by omega) (by omega) (by omega)) ?_
          refine st rfl rfl rfl rfl (rLdI rfl rfl (by omega)) ?_
          iterate 2 refine pu rfl rfl rfl rfl rfl ?_
          refine st rfl rfl rfl rfl (rIdxI rfl rfl rfl (by omega) (by omega) (by omega)) ?_
          refine st rfl rfl rfl rfl (rLdI rfl rfl (by omega)) ?_
          refine pu rfl rfl rfl rfl rfl ?_
          refine tr_cond_bool rfl (fun h12 => ?_) (fun h12 => ?_)
          · try simp only [zb1, zb2, zb3, zb4, zb5, zb6, zb7, zb8, zb9, zb10] at h12
            refine tr_seq ?_
            refine tr_region fun _ _ _ => ?_
            refine pu rfl rfl rfl rfl rfl ?_
            rw [hst (by omega), cmpN, if_neg (by omega), if_pos (by omega)] at hi2
            exact tr_ret ⟨trivial, _, _, rfl, ⟨by rw [← hi2], rfl⟩, CSub.nil _, trivial⟩
          · try simp only [zb1, zb2, zb3, zb4, zb5, zb6, zb7, zb8, zb9, zb10] at h12
            refine tr_skip ?_
            refine tr_region fun _ _ _ => ?_
            refine pu rfl rfl rfl rfl rfl ?_
            refine st rfl rfl rfl rfl (rSub rfl rfl rfl (by omega) (by omega)) ?_
            refine pu rfl rfl rfl rfl rfl ?_
            refine ⟨i - 1, ⟨rfl, rfl, rfl, trivial⟩, by first | exact cs _ _ | exact CSub.refl _, ?_⟩
            refine ⟨⟨⟨by omega, by omega⟩, ?_⟩, by omega⟩
            rw [hst (by omega), cmpN, if_neg (by omega), if_neg (by omega)] at hi2
            rw [show (i - 1 + 1).toNat = i.toNat by omega]
            exact hi2
      · try simp only [zb1, zb2, zb3, zb4, zb5, zb6, zb7, zb8, zb9, zb10] at h8
        refine tr_exit ?_
        refine tr_seq ?_
        refine tr_region fun _ _ _ => ?_
        refine pu rfl rfl rfl rfl rfl ?_
        have him : i = -1 := by omega
        subst him
        exact tr_ret ⟨trivial, _, _, rfl, ⟨by rw [← hi2]; rfl, rfl⟩, CSub.nil _, trivial⟩

theorem fld_New_no (p m : Int) (A : Option Addr) (c : Nat) (mod : List Int) (hl9 : mod.length ≤ 17592186044415) (h : ¬ FldR p m mod) : Pure Try.prog 31 #[.agg #[.int .i64 p, .int .i64 m, .slice A mod.length c]] [ro A (ints mod)] (isV (.tuple #[.pointer none, .int .i64 1])) :=
  (fld_New p m A c mod hl9).mono fun v Fo hr => by
    rcases hr with ⟨h1, h2, _⟩ | ⟨g, _, _, hg⟩
    · exact ⟨h1, h2⟩
    · obtain ⟨x, hx⟩ := hg.gen
      exact absurd (fldN_iff.1 ⟨hg.shp, x, _, hx⟩) h
theorem fld_New_ok (p m : Int) (A : Option Addr) (c : Nat) (mod : List Int) (hl9 : mod.length ≤ 17592186044415) (h : FldR p m mod) : Pure Try.prog 31 #[.agg #[.int .i64 p, .int .i64 m, .slice A mod.length c]] [ro A (ints mod)] (one (fun v ch => ∃ g : GfM, v = .tuple #[.pointer (some g.p), .int .i64 0] ∧ ch = gfN g ∧ GOk g p m mod)) :=
  (fld_New p m A c mod hl9).mono fun v Fo hr => by
    rcases hr with ⟨_, _, h3⟩ | ⟨g, h1, h2, hg⟩
    · exact absurd (fldN_iff.2 h) h3
    · exact ⟨_, h2, g, h1, rfl, hg⟩

theorem law_open_no_ent : Enters Try.prog 15 := enters_of Try.func15 (by kernel_rfl) (by kernel_rfl)
theorem law_open_no (p m : Int) (A : Option Addr) (c : Nat) (mod : List Int) (hl9 : mod.length ≤ 17592186044415) (hF : ¬ FldR p m mod) :
    Pure Try.prog 15 #[.agg #[.int .i64 p, .int .i64 m, .slice A mod.length c]] [ro A (ints mod)] (isV (.tuple #[.pointer none, .bool true, .bool true])) := by
  refine pure_of (args := [.agg #[.int .i64 p, .int .i64 m, .slice A mod.length c]]) 23 Try.func15 rfl rfl rfl law_open_no_ent ⟨id, trivial⟩ (fun w0 => ?_)
  refine tr_seq ?_
  refine tr_region fun _ _ _ => ?_
  refine ef rfl rfl (eBox rfl rfl rfl rfl rfl (fun p0 => ?_)) 
  iterate 3 refine pu rfl rfl rfl rfl rfl ?_
  refine tr_seq ?_
  refine tr_region fun _ _ _ => ?_
  refine st rfl rfl rfl rfl (rLdS rfl rfl rfl) ?_
  refine ef rfl rfl (eCallV rfl rfl rfl (fld_New_no _ _ _ _ _ (by omega) hF) ⟨rfl, trivial⟩ ?_) 
  iterate 5 refine pu rfl rfl rfl rfl rfl ?_
  refine tr_seq ?_
  refine tr_seq ?_
  refine tr_region fun _ _ _ => ?_
  refine st rfl rfl rfl rfl (rLdS rfl rfl rfl) ?_
  refine ef rfl rfl (eCallV rfl rfl rfl (ref_fldCheck _ _ _ _ _ (by omega)) ⟨rfl, trivial⟩ ?_) 
  refine pu rfl rfl rfl rfl rfl ?_
  refine tr_cond_bool rfl (fun h2 => ?_) (fun h2 => ?_)
  · try simp only [zb1, zb2, zb3, zb4, zb5, zb6, zb7, zb8, zb9, zb10] at h2
    refine tr_seq ?_
    refine tr_region fun _ _ _ => ?_
    iterate 5 refine pu rfl rfl rfl rfl rfl ?_
    exact tr_ret ⟨trivial, _, _, rfl, ⟨by simp, rfl⟩, CSub.nil _, trivial⟩
  · try simp only [zb1, zb2, zb3, zb4, zb5, zb6, zb7, zb8, zb9, zb10] at h2
    rw [chkF_no hF] at h2
    omega --done

theorem law_open_ok_ent : Enters Try.prog 15 := enters_of Try.func15 (by kernel_rfl) (by kernel_rfl)
theorem law_open_ok (p m : Int) (A : Option Addr) (c : Nat) (mod : List Int) (hl9 : mod.length ≤ 17592186044415) (hF : FldR p m mod) :
    Pure Try.prog 15 #[.agg #[.int .i64 p, .int .i64 m, .slice A mod.length c]] [ro A (ints mod)] (one (fun v ch => ∃ g : GfM, v = .tuple #[.pointer (some g.p), .bool false, .bool true] ∧ ch = gfN g ∧ GOk g p m mod)) := by
  refine pure_of (args := [.agg #[.int .i64 p, .int .i64 m, .slice A mod.length c]]) 23 Try.func15 rfl rfl rfl law_open_ok_ent ⟨id, trivial⟩ (fun w0 => ?_)
  refine tr_seq ?_
  refine tr_region fun _ _ _ => ?_
  refine ef rfl rfl (eBox rfl rfl rfl rfl rfl (fun p0 => ?_)) 
  iterate 3 refine pu rfl rfl rfl rfl rfl ?_
  refine tr_seq ?_
  refine tr_region fun _ _ _ => ?_
  refine st rfl rfl rfl rfl (rLdS rfl rfl rfl) ?_
  refine ef rfl rfl (eCall1 rfl rfl rfl (fld_New_ok _ _ _ _ _ (by omega) hF) ⟨rfl, trivial⟩ ?_) 
  rintro _ _ ⟨g, rfl, rfl, hg⟩
  iterate 5 refine pu rfl rfl rfl rfl rfl ?_
  refine tr_seq ?_
  refine tr_seq ?_
  refine tr_region fun _ _ _ => ?_
  refine st rfl rfl rfl rfl (rLdS rfl rfl rfl) ?_
  refine ef rfl rfl (eCallV rfl rfl rfl (ref_fldCheck _ _ _ _ _ (by omega)) ⟨rfl, trivial⟩ ?_) 
  refine pu rfl rfl rfl rfl rfl ?_
  refine tr_cond_bool rfl (fun h2 => ?_) (fun h2 => ?_)
  · try simp only [zb1, zb2, zb3, zb4, zb5, zb6, zb7, zb8, zb9, zb10] at h2
    rw [chkF_ok hF] at h2
    exact absurd rfl h2 --done
  · try simp only [zb1, zb2, zb3, zb4, zb5, zb6, zb7, zb8, zb9, zb10] at h2
    refine tr_skip ?_
    refine tr_seq ?_
    refine tr_seq ?_
    refine tr_region fun _ _ _ => ?_
    iterate 3 refine pu rfl rfl rfl rfl rfl ?_
    refine stg rfl rfl rfl rfl rfl (fun hb => by (have hq := hb; try simp only [zb1, zb2, zb3, zb4, zb5, zb6, zb7, zb8, zb9, zb10] at hq); exact rMove rfl rfl) ?_
    refine stg rfl rfl rfl rfl rfl (fun hb => by (have hq := hb; try simp only [zb1, zb2, zb3, zb4, zb5, zb6, zb7, zb8, zb9, zb10] at hq); exact rNilP rfl (evg rfl hb) rfl) ?_
    refine st rfl rfl rfl rfl (rOrB rfl rfl rfl rfl) ?_
    refine tr_cond_bool rfl (fun h4 => ?_) (fun h4 => ?_)
    · try simp only [zb1, zb2, zb3, zb4, zb5, zb6, zb7, zb8, zb9, zb10] at h4
      simp at h4 --done
    · try simp only [zb1, zb2, zb3, zb4, zb5, zb6, zb7, zb8, zb9, zb10] at h4
      refine tr_skip ?_
      refine tr_seq ?_
      refine tr_region fun _ _ _ => ?_
      iterate 4 refine pu rfl rfl rfl rfl rfl ?_
      exact tr_ret ⟨trivial, _, _, rfl, ⟨_, rfl, g, rfl, rfl, hg⟩, cs _ _, gfO_excl _ _ _, trivial⟩

end Go.Proofs.Ytancpcmiimcdhaa
